/- Laid together by a program of this session (wip/bundle.py) out of its own texts and of the words that the kit's print.sh laid for this seat, cut to what is used. -/
import Derived.Test.YthpjpkcfepmhkaaMClosureChains4
import Derived.Deep.CutBlock
import Derived.Deep.RegionWith
import Derived.Sort.KeysCollected
import Derived.Outline
namespace Go.Proofs.Ythpjpkcfepmhkaa.PAll
open Go.RowKit Go.Proofs.YthpjpkcfepmhkaaW.PrintWords Go.Proofs.YthpjpkcfepmhkaaW.PrintLast Go.Proofs.YthpjpkcfepmhkaaW.PrintMore
set_option linter.unusedVariables false
set_option linter.unusedSimpArgs false
def keysB (bf : List (Int × Int)) : List Int := bf.map fun p => p.1
theorem lookB_some {i : Int} : ∀ {bf : List (Int × Int)}, (lookB bf i).isSome = true ↔ i ∈ keysB bf
  | [] => by simp [lookB, keysB]
  | (a, b) :: r => by
    have ih := lookB_some (i := i) (bf := r)
    unfold keysB at ih ⊢
    unfold lookB
    rw [List.map_cons, List.mem_cons]
    by_cases e : a = i
    · rw [if_pos e]; simp [e]
    · rw [if_neg e, ih]
      exact ⟨.inr, fun h => h.resolve_left (fun h => e h.symm)⟩
theorem lookB_app {i : Int} : ∀ (a b : List (Int × Int)), lookB (a ++ b) i = (lookB a i).or (lookB b i)
  | [], b => by simp [lookB]
  | (x, y) :: r, b => by
    show (if x = i then some y else lookB (r ++ b) i) = (if x = i then some y else lookB r i).or (lookB b i)
    by_cases e : x = i
    · rw [if_pos e, if_pos e]; rfl
    · rw [if_neg e, if_neg e, lookB_app r b]
theorem lookB_new {i x y : Int} : ∀ {n : List Int}, lookB (n.map fun j => (j, x)) i = some y → y = x ∧ i ∈ n
  | [], h => by simp [lookB] at h
  | j :: n, h => by
    rw [List.map_cons] at h
    unfold lookB at h
    by_cases e : j = i
    · rw [if_pos e] at h
      exact ⟨(Option.some.inj h).symm, by simp [e]⟩
    · rw [if_neg e] at h
      obtain ⟨h1, h2⟩ := lookB_new h
      exact ⟨h1, List.mem_cons_of_mem _ h2⟩
theorem keysB_app (bf : List (Int × Int)) (n : List Int) (x : Int) : keysB (bf ++ n.map fun j => (j, x)) = keysB bf ++ n := by
  unfold keysB
  rw [List.map_append, List.map_map]
  congr 1
  exact (List.map_congr_left (fun _ _ => rfl)).trans (List.map_id _)
theorem visit_spec {N : Nat} (hN : N ≤ 1000000) (x : Int) : ∀ (js : List Int) (bf : List (Int × Int)) (q : List Int), (∀ i, i ∈ js → 0 ≤ i ∧ i < N) → (keysB bf).Nodup → (∀ i, i ∈ keysB bf → 0 ≤ i ∧ i < N) → q.length ≤ bf.length →
    ∃ n : List Int, visitW js x bf q = some (bf ++ n.map (fun j => (j, x)), q ++ n) ∧ n.Nodup ∧ (∀ i, i ∈ n → i ∈ js ∧ i ∉ keysB bf) ∧ ∀ i, i ∈ js → i ∈ keysB bf ∨ i ∈ n
  | [], bf, q, _, _, _, _ => ⟨[], by simp [visitW], by simp, fun i hi => by simp at hi, fun i hi => by simp at hi⟩
  | i :: r, bf, q, hj, hn, hk, hq => by
    unfold visitW
    by_cases c : (lookB bf i).isSome = true
    · rw [if_pos c]
      obtain ⟨n, h1, h2, h3, h4⟩ := visit_spec hN x r bf q (fun j hj' => hj j (List.mem_cons_of_mem _ hj')) hn hk hq
      refine ⟨n, h1, h2, fun j hj' => ⟨List.mem_cons_of_mem _ (h3 j hj').1, (h3 j hj').2⟩, fun j hj' => ?_⟩
      rcases List.mem_cons.1 hj' with rfl | hj'
      · exact .inl (lookB_some.1 c)
      · exact h4 j hj'
    · rw [if_neg c]
      have hi : i ∉ keysB bf := fun h => c (lookB_some.2 h)
      have hlen := pigeonI N (keysB bf) hn hk
      have hkl : (keysB bf).length = bf.length := by unfold keysB; rw [List.length_map]
      rw [if_pos ⟨by omega, by omega⟩]
      have hk1 : keysB (bf ++ [(i, x)]) = keysB bf ++ [i] := keysB_app bf [i] x
      obtain ⟨n, h1, h2, h3, h4⟩ := visit_spec hN x r (bf ++ [(i, x)]) (q ++ [i]) (fun j hj' => hj j (List.mem_cons_of_mem _ hj')) (by
        rw [hk1, List.nodup_append]
        exact ⟨hn, by simp, fun a ha b hb => by rw [List.mem_singleton] at hb; rintro rfl; exact hi (hb ▸ ha)⟩) (fun j hj' => by
        rw [hk1] at hj'
        rcases List.mem_append.1 hj' with h | h
        · exact hk j h
        · rw [List.mem_singleton] at h
          rw [h]; exact hj i (List.mem_cons_self ..)) (by simp only [List.length_append, List.length_singleton]; omega)
      refine ⟨i :: n, ?_, List.nodup_cons.2 ⟨fun h => (h3 i h).2 (by rw [hk1]; simp), h2⟩, fun j hj' => ?_, fun j hj' => ?_⟩
      · rw [h1, List.append_assoc, List.append_assoc]; rfl
      · rcases List.mem_cons.1 hj' with rfl | hj'
        · exact ⟨List.mem_cons_self .., hi⟩
        · obtain ⟨a1, a2⟩ := h3 j hj'
          exact ⟨List.mem_cons_of_mem _ a1, fun h => a2 (by rw [hk1]; exact List.mem_append_left _ h)⟩
      · rcases List.mem_cons.1 hj' with rfl | hj'
        · exact .inr (List.mem_cons_self ..)
        · rcases h4 j hj' with h | h
          · rw [hk1] at h
            rcases List.mem_append.1 h with h | h
            · exact .inl h
            · rw [List.mem_singleton] at h
              exact .inr (by rw [h]; exact List.mem_cons_self ..)
          · exact .inr (List.mem_cons_of_mem _ h)
theorem nextOf_mem {os ms : List S50} {o : S50} {i : Int} : i ∈ nextOf (provOf os) (prsOf ms 0) (namesOf refB o.f0) ↔ ∃ p : Nat, i = (p : Int) ∧ p < ms.length ∧ LeadsP os o (rd_T50 ms (p : Int)) := by
  unfold nextOf
  rw [List.mem_flatMap]
  constructor
  · rintro ⟨s, h1, h2⟩
    by_cases c : s ∈ provOf os
    · rw [if_pos c] at h2; simp at h2
    · rw [if_neg c] at h2
      obtain ⟨p, hp, e, hd⟩ := zs_mem.1 h2
      exact ⟨p, e, hp, s, hd, h1, c⟩
  · rintro ⟨p, e, hp, s, hd, hr, hn⟩
    refine ⟨s, hr, ?_⟩
    rw [if_neg hn]
    exact zs_mem.2 ⟨p, hp, e, hd⟩
structure SI (os ms : List S50) (bf : List (Int × Int)) (q : List Int) : Prop where
  keys : keysB bf = q
  nd : q.Nodup
  rg : ∀ i, i ∈ q → ∃ p : Nat, i = (p : Int) ∧ p < ms.length
  par : ∀ i x, lookB bf i = some x → x = -1 ∧ ∃ o, o ∈ os ∧ LeadsP os o (rd_T50 ms i)
section
variable {os ms : List S50}
theorem seed_spec (hN : ms.length ≤ 1000000) : ∀ (l : List S50) (bf : List (Int × Int)) (q : List Int), (∀ o, o ∈ l → o ∈ os) → SI os ms bf q →
    ∃ bf' q', seedW (provOf os) (prsOf ms 0) l bf q = some (bf', q') ∧ SI os ms bf' q' ∧ (∀ o, o ∈ l → ∀ p : Nat, p < ms.length → LeadsP os o (rd_T50 ms (p : Int)) → (p : Int) ∈ q') ∧ ∀ i, i ∈ q → i ∈ q'
  | [], bf, q, _, h => ⟨bf, q, rfl, h, fun o ho => by simp at ho, fun i hi => hi⟩
  | o :: l, bf, q, hl, h => by
    have hkr : ∀ i, i ∈ keysB bf → 0 ≤ i ∧ i < (ms.length : Int) := fun i hi => by
      rw [h.keys] at hi
      obtain ⟨p, rfl, hp⟩ := h.rg i hi
      omega
    obtain ⟨n, h1, h2, h3, h4⟩ := visit_spec (N := ms.length) hN (-1) (nextOf (provOf os) (prsOf ms 0) (namesOf refB o.f0)) bf q (fun i hi => by
      obtain ⟨p, rfl, hp, _⟩ := nextOf_mem.1 hi
      omega) (by rw [h.keys]; exact h.nd) hkr (by
      have : (keysB bf).length = bf.length := by unfold keysB; rw [List.length_map]
      rw [h.keys] at this
      omega)
    have hS : SI os ms (bf ++ n.map fun j => (j, -1)) (q ++ n) := by
      refine ⟨by rw [keysB_app, h.keys], ?_, fun i hi => ?_, fun i x hx => ?_⟩
      · rw [List.nodup_append]
        exact ⟨h.nd, h2, fun a ha b hb => by rintro rfl; exact (h3 a hb).2 (by rw [h.keys]; exact ha)⟩
      · rcases List.mem_append.1 hi with hi | hi
        · exact h.rg i hi
        · obtain ⟨p, e, hp, _⟩ := nextOf_mem.1 (h3 i hi).1
          exact ⟨p, e, hp⟩
      · rw [lookB_app] at hx
        cases hb : lookB bf i with
        | some y =>
          rw [hb] at hx
          have : y = x := Option.some.inj hx
          subst this
          exact h.par i y hb
        | none =>
          rw [hb] at hx
          obtain ⟨e, hm⟩ := lookB_new hx
          obtain ⟨p, rfl, hp, hlead⟩ := nextOf_mem.1 (h3 i hm).1
          exact ⟨e, o, hl o (List.mem_cons_self ..), hlead⟩
    obtain ⟨bf', q', a1, a2, a3, a4⟩ := seed_spec hN l _ _ (fun x hx => hl x (List.mem_cons_of_mem _ hx)) hS
    refine ⟨bf', q', by simp only [seedW]; rw [h1, Option.bind_some]; exact a1, a2, fun x hx p hp hlead => ?_, fun i hi => a4 i (List.mem_append_left _ hi)⟩
    rcases List.mem_cons.1 hx with rfl | hx
    · refine a4 _ ?_
      rcases h4 _ (nextOf_mem.2 ⟨p, rfl, hp, hlead⟩) with h | h'
      · rw [SI.keys ‹SI os ms bf q›] at h; exact List.mem_append_left _ h
      · exact List.mem_append_right _ h'
    · exact a3 x hx p hp hlead
structure BI (os ms : List S50) (dn q : List Int) (bf : List (Int × Int)) (dp : Int → Nat) : Prop where
  keys : keysB bf = dn ++ q
  nd : (dn ++ q).Nodup
  rg : ∀ i, i ∈ dn ++ q → ∃ p : Nat, i = (p : Int) ∧ p < ms.length
  par : ∀ i x, lookB bf i = some x → (x = -1 ∧ dp i = 1 ∧ ∃ o, o ∈ os ∧ LeadsP os o (rd_T50 ms i)) ∨ (x ∈ dn ∧ dp i = dp x + 1 ∧ LeadsP os (rd_T50 ms x) (rd_T50 ms i))
  mono : (dn ++ q).Pairwise fun a b => dp a ≤ dp b
  span : ∀ h t, q = h :: t → ∀ b, b ∈ q → dp b ≤ dp h + 1
  clo : ∀ k, k ∈ dn → ∀ p : Nat, p < ms.length → LeadsP os (rd_T50 ms k) (rd_T50 ms (p : Int)) → (p : Int) ∈ dn ++ q ∧ dp (p : Int) ≤ dp k + 1
  base : ∀ p : Nat, p < ms.length → (∃ o, o ∈ os ∧ LeadsP os o (rd_T50 ms (p : Int))) → (p : Int) ∈ dn ++ q ∧ dp (p : Int) ≤ 1
theorem loop_spec (hN : ms.length ≤ 1000000) : ∀ (k : Nat) (dn q : List Int) (bf : List (Int × Int)) (dp : Int → Nat), BI os ms dn q bf dp → ms.length - dn.length < k →
    ∃ bf' dn' dp', loopW (provOf os) (prsOf ms 0) ms k bf q = some bf' ∧ BI os ms dn' [] bf' dp'
  | 0, dn, q, bf, dp, h, hk => by omega
  | k + 1, dn, [], bf, dp, h, hk => ⟨bf, dn, dp, rfl, h⟩
  | k + 1, dn, x :: t, bf, dp, h, hk => by
    have hlen := pigeonI ms.length (dn ++ x :: t) h.nd (fun i hi => by obtain ⟨p, rfl, hp⟩ := h.rg i hi; omega)
    simp only [List.length_append, List.length_cons] at hlen
    obtain ⟨p, hxp, hp⟩ := h.rg x (by simp)
    have hkl : (keysB bf).length = bf.length := by unfold keysB; rw [List.length_map]
    have hkk := h.keys
    have hbl : bf.length = dn.length + (t.length + 1) := by rw [← hkl, hkk]; simp
    obtain ⟨n, h1, h2, h3, h4⟩ := visit_spec (N := ms.length) hN x (nextOf (provOf os) (prsOf ms 0) (namesOf refB (rd_T50 ms x).f0)) bf t (fun i hi => by
      obtain ⟨p, rfl, hp, _⟩ := nextOf_mem.1 hi
      omega) (by rw [hkk]; exact h.nd) (fun i hi => by
      rw [hkk] at hi
      obtain ⟨p, rfl, hp⟩ := h.rg i hi
      omega) (by omega)
    have hnk : ∀ i, i ∈ dn ++ x :: t → i ∉ n := fun i hi hn => (h3 i hn).2 (by rw [hkk]; exact hi)
    have hassoc : (dn ++ [x]) ++ (t ++ n) = (dn ++ x :: t) ++ n := by simp
    obtain ⟨dp', hdp'⟩ : ∃ dp' : Int → Nat, dp' = fun i => if i ∈ n then dp x + 1 else dp i := ⟨_, rfl⟩
    have dpn : ∀ i, i ∈ n → dp' i = dp x + 1 := fun i hi => by rw [hdp']; exact if_pos hi
    have dpo : ∀ i, i ∈ dn ++ x :: t → dp' i = dp i := fun i hi => by rw [hdp']; exact if_neg (hnk i hi)
    have hle : ∀ i, i ∈ dn ++ x :: t → dp i ≤ dp x + 1 := fun i hi => by
      rcases List.mem_append.1 hi with hi | hi
      · have := (List.pairwise_append.1 h.mono).2.2 i hi x (List.mem_cons_self ..)
        omega
      · exact h.span x t rfl i hi
    have hge : ∀ i, i ∈ t → dp x ≤ dp i := fun i hi => by
      have := (List.pairwise_append.1 h.mono).2.1
      exact (List.pairwise_cons.1 this).1 i hi
    have hxm : x ∈ dn ++ x :: t := by simp
    have hB : BI os ms (dn ++ [x]) (t ++ n) (bf ++ n.map fun j => (j, x)) dp' := by
      refine ⟨by rw [keysB_app, hkk, hassoc], ?_, fun i hi => ?_, fun i y hy => ?_, ?_, fun h' t' e b hb => ?_, fun y hy p' hp' hl => ?_, fun p' hp' ho => ?_⟩
      · rw [hassoc, List.nodup_append]
        exact ⟨h.nd, h2, fun a ha b hb => by rintro rfl; exact hnk a ha hb⟩
      · rw [hassoc] at hi
        rcases List.mem_append.1 hi with hi | hi
        · exact h.rg i hi
        · obtain ⟨p, e, hp, _⟩ := nextOf_mem.1 (h3 i hi).1
          exact ⟨p, e, hp⟩
      · rw [lookB_app] at hy
        cases hb : lookB bf i with
        | some z =>
          rw [hb] at hy
          have : z = y := Option.some.inj hy
          subst this
          have hik : i ∈ dn ++ x :: t := by rw [← hkk]; exact lookB_some.1 (by rw [hb]; rfl)
          rw [dpo i hik]
          rcases h.par i z hb with h' | ⟨a1, a2, a3⟩
          · exact .inl h'
          · refine .inr ⟨List.mem_append_left _ a1, ?_, a3⟩
            rw [dpo z (List.mem_append_left _ a1)]
            exact a2
        | none =>
          rw [hb] at hy
          obtain ⟨rfl, hm⟩ := lookB_new hy
          obtain ⟨p', rfl, hp', hlead⟩ := nextOf_mem.1 (h3 i hm).1
          exact .inr ⟨by simp, by rw [dpn _ hm, dpo y hxm], hlead⟩
      · rw [hassoc, List.pairwise_append]
        refine ⟨h.mono.imp_of_mem (fun {a b} ha hb hab => by rw [dpo a ha, dpo b hb]; exact hab), ?_, fun a ha b hb => by rw [dpo a ha, dpn b hb]; exact hle a ha⟩
        exact List.pairwise_of_forall_mem_list (fun a ha b hb => by rw [dpn a ha, dpn b hb]; exact Nat.le_refl _)
      · have hub : ∀ i, i ∈ t ++ n → dp' i ≤ dp x + 1 := fun i hi => by
          rcases List.mem_append.1 hi with hi | hi
          · have hi' : i ∈ dn ++ x :: t := List.mem_append_right _ (List.mem_cons_of_mem _ hi)
            rw [dpo i hi']; exact hle i hi'
          · rw [dpn i hi]; exact Nat.le_refl _
        have hlb : dp x ≤ dp' h' := by
          have : h' ∈ t ++ n := by rw [e]; exact List.mem_cons_self ..
          rcases List.mem_append.1 this with hi | hi
          · rw [dpo h' (List.mem_append_right _ (List.mem_cons_of_mem _ hi))]; exact hge h' hi
          · rw [dpn h' hi]; omega
        have := hub b hb
        omega
      · rw [hassoc]
        rcases List.mem_append.1 hy with hy | hy
        · obtain ⟨b1, b2⟩ := h.clo y hy p' hp' hl
          exact ⟨List.mem_append_left _ b1, by rw [dpo _ b1, dpo y (List.mem_append_left _ hy)]; exact b2⟩
        · rw [List.mem_singleton] at hy
          subst hy
          rw [dpo y hxm]
          rcases h4 _ (nextOf_mem.2 ⟨p', rfl, hp', hl⟩) with h' | h'
          · rw [hkk] at h'
            exact ⟨List.mem_append_left _ h', by rw [dpo _ h']; exact hle _ h'⟩
          · exact ⟨List.mem_append_right _ h', by rw [dpn _ h']; exact Nat.le_refl _⟩
      · rw [hassoc]
        obtain ⟨b1, b2⟩ := h.base p' hp' ho
        exact ⟨List.mem_append_left _ b1, by rw [dpo _ b1]; exact b2⟩
    obtain ⟨bf', dn', dp2, r1, r2⟩ := loop_spec hN k (dn ++ [x]) (t ++ n) _ dp' hB (by simp only [List.length_append, List.length_singleton]; omega)
    refine ⟨bf', dn', dp2, ?_, r2⟩
    simp only [loopW]
    rw [if_neg (by simp), if_pos ⟨by rw [hxp]; simp, by rw [List.getD_cons_zero, hxp]; omega, by simp only [List.length_cons]; omega⟩, List.getD_cons_zero, List.drop_one, List.tail_cons, h1, Option.bind_some]
    exact r1
theorem BI.all {dn : List Int} {bf : List (Int × Int)} {dp : Int → Nat} (h : BI os ms dn [] bf dp) {n q : Nat} (hc : Ch os ms n q) : (q : Int) ∈ dn ∧ dp (q : Int) ≤ n := by
  induction hc with
  | base q o hq ho hl =>
    have := h.base q hq ⟨o, ho, hl⟩
    rw [List.append_nil] at this
    exact this
  | step n k q _ hq hl ih =>
    have := h.clo _ ih.1 q hq hl
    rw [List.append_nil] at this
    exact ⟨this.1, by omega⟩
theorem BI.real {dn : List Int} {bf : List (Int × Int)} {dp : Int → Nat} (h : BI os ms dn [] bf dp) : ∀ (d : Nat) (q : Nat), dp (q : Int) = d → (q : Int) ∈ dn → Ch os ms d q := by
  intro d
  induction d using Nat.strongRecOn with
  | ind d ih =>
    intro q hd hq
    have hk : (q : Int) ∈ keysB bf := by rw [h.keys, List.append_nil]; exact hq
    obtain ⟨x, hx⟩ := Option.isSome_iff_exists.1 (lookB_some.2 hk)
    obtain ⟨q', e, hq'⟩ := h.rg (q : Int) (by rw [List.append_nil]; exact hq)
    have : q = q' := by omega
    subst this
    rcases h.par _ x hx with ⟨_, h1, o, ho, hl⟩ | ⟨h0, h1, hl⟩
    · rw [← hd, h1]; exact .base q o hq' ho hl
    · obtain ⟨k, rfl, hk'⟩ := h.rg x (by rw [List.append_nil]; exact h0)
      have := ih (dp (k : Int)) (by omega) k rfl h0
      rw [← hd, h1]
      exact .step _ k q this hq' hl
theorem BI.min {dn : List Int} {bf : List (Int × Int)} {dp : Int → Nat} (h : BI os ms dn [] bf dp) {q : Nat} (hq : (q : Int) ∈ dn) : MinCh os ms (dp (q : Int)) q :=
  ⟨h.real _ q rfl hq, fun m hm hc => by have := (h.all hc).2; omega⟩
structure Fwd (os ms : List S50) (i : Int) (c : List Int) : Prop where
  ne : 0 < c.length
  rg : ∀ j, j < c.length → ∃ p : Nat, rd c (j : Int) = (p : Int) ∧ p < ms.length
  fst : ∃ o, o ∈ os ∧ LeadsP os o (rd_T50 ms (rd c 0))
  nxt : ∀ j, j + 1 < c.length → LeadsP os (rd_T50 ms (rd c (j : Int))) (rd_T50 ms (rd c ((j + 1 : Nat) : Int)))
  lst : rd c ((c.length - 1 : Nat) : Int) = i
theorem rd_snoc_lt {c : List Int} {i : Int} {j : Nat} (h : j < c.length) : rd (c ++ [i]) (j : Int) = rd c (j : Int) := by
  unfold rd
  rw [Int.toNat_natCast, List.getD_eq_getElem?_getD, List.getD_eq_getElem?_getD, List.getElem?_append_left h]
theorem rd_snoc_eq (c : List Int) (i : Int) : rd (c ++ [i]) (c.length : Int) = i := by
  unfold rd
  rw [Int.toNat_natCast, List.getD_eq_getElem?_getD, List.getElem?_append_right (Nat.le_refl _)]
  simp
theorem chain_spec (hN : ms.length ≤ 1000000) {dn : List Int} {bf : List (Int × Int)} {dp : Int → Nat} (h : BI os ms dn [] bf dp) : ∀ (d k : Nat) (i : Int) (out : List Int), i ∈ dn → dp i = d → d < k → out.length + d ≤ 1048576 →
    ∃ c, chainW bf k i out = some (out ++ c.reverse) ∧ c.length = d ∧ Fwd os ms i c := by
  intro d
  induction d using Nat.strongRecOn with
  | ind d ih =>
    intro k i out hi hd hk ho
    obtain ⟨p, rfl, hp⟩ := h.rg i (by rw [List.append_nil]; exact hi)
    obtain ⟨k, rfl⟩ : ∃ k', k = k' + 1 := ⟨k - 1, by omega⟩
    have hki : (p : Int) ∈ keysB bf := by rw [h.keys, List.append_nil]; exact hi
    obtain ⟨x, hx⟩ := Option.isSome_iff_exists.1 (lookB_some.2 hki)
    simp only [chainW]
    rw [if_neg (by omega), if_pos ⟨by omega, by omega⟩, hx, Option.getD_some]
    rcases h.par _ x hx with ⟨rfl, h1, hob⟩ | ⟨h0, h1, hl⟩
    · obtain ⟨k, rfl⟩ : ∃ k', k = k' + 1 := ⟨k - 1, by omega⟩
      refine ⟨[(p : Int)], by simp only [chainW]; rw [if_pos (by omega)]; rfl, by simp; omega, ⟨by simp, fun j hj => ?_, hob, fun j hj => ?_, rfl⟩⟩
      · have : j = 0 := by simp at hj; omega
        subst this
        exact ⟨p, rfl, hp⟩
      · simp at hj
    · obtain ⟨c, e1, e2, e3⟩ := ih (dp x) (by omega) k x (out ++ [(p : Int)]) h0 rfl (by omega) (by simp only [List.length_append, List.length_singleton]; omega)
      refine ⟨c ++ [(p : Int)], by rw [e1, List.reverse_append, List.append_assoc]; rfl, by rw [List.length_append, List.length_singleton]; omega, ⟨by simp, fun j hj => ?_, ?_, fun j hj => ?_, ?_⟩⟩
      · rw [List.length_append, List.length_singleton] at hj
        by_cases e : j < c.length
        · rw [rd_snoc_lt e]; exact e3.rg j e
        · have : j = c.length := by omega
          subst this
          exact ⟨p, rd_snoc_eq _ _, hp⟩
      · have := rd_snoc_lt (c := c) (i := (p : Int)) (j := 0) e3.ne
        rw [show ((0 : Nat) : Int) = 0 from rfl] at this
        rw [this]; exact e3.fst
      · rw [List.length_append, List.length_singleton] at hj
        rw [rd_snoc_lt (by omega : j < c.length)]
        by_cases e : j + 1 < c.length
        · rw [rd_snoc_lt e]; exact e3.nxt j e
        · have hj1 : j + 1 = c.length := by omega
          rw [hj1, rd_snoc_eq]
          have := e3.lst
          rw [← hj1, Nat.add_sub_cancel] at this
          rw [this]; exact hl
      · rw [List.length_append, List.length_singleton, Nat.add_sub_cancel, rd_snoc_eq]
end
/-- What Why hands back. -/
theorem why_ok {os ms : List S50} (ho : RightP os) (hm : RightP ms) {a : Int} (h0 : -9223372036854775808 ≤ a) (h1 : a ≤ 9223372036854775807) :
    ∃ r, closure_Why.f os ms a = some r ∧ ((∃ p n : Nat, a = (p : Int) ∧ MinCh os ms n p ∧ r.2 = true ∧ r.1.length = n ∧ Fwd os ms a r.1) ∨ (r = ([], false) ∧ ∀ p : Nat, a = (p : Int) → ¬ Rch os ms p)) := by
  have hN : ms.length ≤ 1000000 := hm.slim.1
  obtain ⟨bf1, q1, s1, s2, s3, _⟩ := seed_spec (os := os) (ms := ms) hN os [] [] (fun o h => h) ⟨rfl, by simp, fun i hi => by simp at hi, fun i x hx => by simp [lookB] at hx⟩
  have hB : BI os ms [] q1 bf1 (fun _ => 1) := ⟨by rw [s2.keys]; rfl, s2.nd, s2.rg, fun i x hx => .inl ⟨(s2.par i x hx).1, rfl, (s2.par i x hx).2⟩, List.pairwise_of_forall_mem_list (fun a _ b _ => Nat.le_refl _), fun _ _ _ _ _ => by omega, fun k hk => by simp at hk,
    fun p hp ⟨o, h1, h2⟩ => ⟨s3 o h1 p hp h2, Nat.le_refl _⟩⟩
  obtain ⟨bf, dn, dp, l1, l2⟩ := loop_spec hN 1048576 [] q1 bf1 _ hB (by simp; omega)
  have hf : closure_Why.f os ms a = whyEnd bf a := by
    unfold closure_Why.f
    rw [if_pos ⟨ho.small, hm.small, by unfold i64B; simp [h0, h1]⟩, s1, Option.bind_some, l1, Option.bind_some]
  rw [hf]
  have hkeys : keysB bf = dn := by rw [l2.keys, List.append_nil]
  unfold whyEnd
  cases hl : lookB bf a with
  | none =>
    refine ⟨_, rfl, .inr ⟨rfl, fun p e hr => ?_⟩⟩
    obtain ⟨n, hn⟩ := hr.ch
    have hk := (l2.all hn).1
    rw [← hkeys, ← e] at hk
    have := lookB_some.2 hk
    rw [hl] at this
    cases this
  | some x =>
    have hk : a ∈ dn := by rw [← hkeys]; exact lookB_some.1 (by rw [hl]; rfl)
    obtain ⟨p, rfl, hp⟩ := l2.rg a (by rw [List.append_nil]; exact hk)
    have hmin := l2.min hk
    have hle := hmin.le
    obtain ⟨c, c1, c2, c3⟩ := chain_spec hN l2 (dp (p : Int)) 1048576 (p : Int) [] hk rfl (by omega) (by simp; omega)
    refine ⟨(c, true), ?_, .inl ⟨p, dp (p : Int), rfl, hmin, rfl, c2, c3⟩⟩
    show ((chainW bf 1048576 (p : Int) []).bind fun out => some (out.reverse, true)) = some (c, true)
    rw [c1, Option.bind_some, List.nil_append, List.reverse_reverse]
end Go.Proofs.Ythpjpkcfepmhkaa.PAll
namespace Go.Proofs.Ythpjpkcfepmhkaa.PAll
open Go.RowKit Go.Proofs.YthpjpkcfepmhkaaW.PrintWords Go.Proofs.YthpjpkcfepmhkaaW.PrintLast Go.Proofs.YthpjpkcfepmhkaaW.PrintMore
set_option linter.unusedVariables false
set_option linter.unusedSimpArgs false
/-- What is left to do, a name having been taken (or not). -/
def TakenN (pv : List ByteArray) (ps : List (ByteArray × Int)) (ms : List S50) (nd1 : List Int) (k : Nat) (ok : Bool) (s : ByteArray) (xs sn : List ByteArray) (nd : List Int) : Prop :=
  if ok = true then s.size ≤ 1048576 ∧ xs.length ≤ 1048576 ∧ ((s ∈ pv ∧ runN pv ps ms k xs sn nd = some nd1) ∨ (s ∉ pv ∧ ∃ xs2 sn2 nd2, visitN ms (zsOf ps s) xs sn nd = some (xs2, sn2, nd2) ∧ runN pv ps ms k xs2 sn2 nd2 = some nd1)) else nd = nd1
theorem runN_cases {pv : List ByteArray} {ps : List (ByteArray × Int)} {ms : List S50} {nd1 : List Int} {k : Nat} {xs sn : List ByteArray} {nd : List Int} (h : runN pv ps ms (k + 1) xs sn nd = some nd1) :
    (xs.length = 0 ∧ nd = nd1) ∨ (0 < xs.length ∧ xs.length ≤ 1048576 ∧ TakenN pv ps ms nd1 k true (Hp.at_ ByteArray.empty xs 0) (Hp.pop ByteArray.empty W.less xs) sn nd) := by
  simp only [runN] at h
  by_cases h0 : xs.length = 0
  · rw [if_pos h0] at h
    exact .inl ⟨h0, Option.some.inj h⟩
  · rw [if_neg h0] at h
    by_cases h1 : 1048576 < xs.length ∨ 1048576 < (Hp.at_ ByteArray.empty xs 0).size
    · rw [if_pos h1] at h
      cases h
    · rw [if_neg h1] at h
      have hpl : (Hp.pop ByteArray.empty W.less xs).length ≤ xs.length := by
        unfold Hp.pop
        rw [List.length_take]
        have := Hp.popped_length (d := ByteArray.empty) (less := W.less) xs (fun e => h0 (by rw [e]; rfl))
        omega
      refine .inr ⟨by omega, by omega, ?_⟩
      unfold TakenN
      rw [if_pos rfl]
      refine ⟨by omega, by omega, ?_⟩
      by_cases h2 : Hp.at_ ByteArray.empty xs 0 ∈ pv
      · rw [if_pos h2] at h
        exact .inl ⟨h2, h⟩
      · rw [if_neg h2, Option.bind_eq_some_iff] at h
        obtain ⟨⟨xs2, sn2, nd2⟩, h3, h4⟩ := h
        exact .inr ⟨h2, xs2, sn2, nd2, h3, h4⟩
theorem needed_open {os ms : List S50} {r : List Int} (h : closure_Needed.f os ms = some r) : smallL os = true ∧ smallL ms = true ∧ ∃ xs1 sn1 nd1, seedN os [] [] = some (xs1, sn1) ∧ runN (provOf os) (prsOf ms 0) ms 1048576 xs1 sn1 [] = some nd1 ∧ r = pickN nd1 ms.length := by
  unfold closure_Needed.f at h
  by_cases c : smallL os = true ∧ smallL ms = true
  · rw [if_pos c, Option.bind_eq_some_iff] at h
    obtain ⟨⟨xs1, sn1⟩, h1, h2⟩ := h
    rw [Option.bind_eq_some_iff] at h2
    obtain ⟨nd, h3, h4⟩ := h2
    exact ⟨c.1, c.2, xs1, sn1, nd, h1, h3, (Option.some.inj h4).symm⟩
  · rw [if_neg c] at h
    cases h
def NeededEnd (w : World) (r : List Int) (e : Ending) (w' : World) : Prop := ∃ v0_ : Value, e = .returned v0_ ∧ Kd.R (Kd.int .i64) 3 w' w.heap.size (fun _ => True) v0_ r ∧ Below w.heap.size w w'
theorem seedN_step {o : S50} {os : List S50} {xs sn : List ByteArray} {a : List ByteArray × List ByteArray} (h : seedN (o :: os) xs sn = some a) : xs.length ≤ 1048576 ∧ sn.length ≤ 1048576 ∧ seedN os (addL (namesOf refB o.f0) xs sn).1 (addL (namesOf refB o.f0) xs sn).2 = some a := by
  simp only [seedN] at h
  by_cases c : fewN xs sn = true
  · rw [if_pos c] at h
    exact ⟨(fewN_iff.1 c).1, (fewN_iff.1 c).2, h⟩
  · rw [if_neg c] at h
    cases h
theorem visitN_step {ms : List S50} {i : Int} {r : List Int} {xs sn : List ByteArray} {nd : List Int} {a : List ByteArray × List ByteArray × List Int} (h : visitN ms (i :: r) xs sn nd = some a) :
    (i ∈ nd ∧ visitN ms r xs sn nd = some a) ∨ (i ∉ nd ∧ xs.length ≤ 1048576 ∧ sn.length ≤ 1048576 ∧ nd.length ≤ 1048576 ∧ visitN ms r (addL (namesOf refB (rd_T50 ms i).f0) xs sn).1 (addL (namesOf refB (rd_T50 ms i).f0) xs sn).2 (nd ++ [i]) = some a) := by
  simp only [visitN] at h
  by_cases c : i ∈ nd
  · rw [if_pos c] at h
    exact .inl ⟨c, h⟩
  · rw [if_neg c] at h
    by_cases d : fewN xs sn = true ∧ nd.length ≤ 1048576
    · rw [if_pos d] at h
      exact .inr ⟨c, (fewN_iff.1 d.1).1, (fewN_iff.1 d.1).2, d.2, h⟩
    · rw [if_neg d] at h
      cases h
set_option maxRecDepth 10000 in
set_option maxHeartbeats 16000000 in
theorem needed_calls (A0 : Option Addr) (c0 : Nat) (l0 : List S50) (A1 : Option Addr) (c1 : Nat) (l1 : List S50) (r : List Int) (w : World) (hr0 : Kd.C k50 w A0 l0.length l0) (hr1 : Kd.C k50 w A1 l1.length l1) (h : closure_Needed.f l0 l1 = some r) :
    Calls Try.prog 25 #[.slice A0 l0.length c0, .slice A1 l1.length c1] w fun e w' => NeededEnd w r e w' := by
  obtain ⟨s0, s1, xs1, sn1, nd1, hseed, hrun, hres⟩ := needed_open h
  have hu50 := Try.underlying50
  have hu83 := Try.underlying83
  have hu89 := Try.underlying89
  have hmm := @run_makeMap Try.prog
  have HR0 := Lib.hid hr0
  have HR1 := Lib.hid hr1
  have hl0 := (smallL_iff.1 s0).1
  have hl1 := (smallL_iff.1 s1).1
  have S0 := Lib.hid s0
  have S1 := Lib.hid s1
  have HSEED := Lib.hid hseed
  have HRUN := Lib.hid hrun
  have HRES := Lib.hid hres
  clear hr0 hr1 s0 s1 h hseed hrun hres
  go_enter Try.func25, Try.ntmps25
  go_wp2_with fail
  refine (build_calls A0 c0 l0 A1 c1 l1 w HR0.out HR1.out S0.out S1.out).mono ?_
  rintro e w1 ⟨bd, bp, f, g, rfl, hB1, hG1, hV1, hbd, hbp⟩
  have HB1 := Lib.hid hB1
  have HG1 := Lib.hid hG1
  have HV1 := Lib.hid hV1
  have hs1 := below_size hB1
  clear hB1 hG1 hV1 hbd hbp
  go_wp2
  have HW0 := Lib.hid (NW.start w1 (.slice A1 l1.length c1) bd bp)
  generalize ((w1.alloc (.cells #[.slice A1 l1.length c1, .map (some bd), .map (some bp)] 83)).alloc (.map #[] 0)).alloc (.cells #[.slice none 0 0, .map none] 89) = wa at *
  clear hmm
  go_loopg [22] l0.length (fun kq v22 w' => ∃ (k : Nat) (v : Value) (r : Option Nat) (xs sn : List ByteArray), v22 = .int .i64 k ∧ Aside0 (kq + k = l0.length ∧ seedN (l0.drop k) xs sn = some (xs1, sn1)) ∧ Aside0 (NW w1 w' (.slice A1 l1.length c1) bd bp w1.heap.size (w1.heap.size + 1) (w1.heap.size + 1 + 1) [] v r xs sn))
  case atStart => exact ⟨0, _, _, [], [], rfl, ⟨by omega, HSEED.out⟩, ⟨HW0.out⟩⟩
  case round =>
    clear HW0 HSEED
    obtain ⟨k, v, r', xs, sn, rfl, HA, HS⟩ := hrel
    cases gk with
    | zero =>
      have hk : l0.length ≤ k := by have := HA.out.1; omega
      have hkf : decide (k < l0.length) = false := decide_eq_false (by omega)
      have hsd := HA.out.2
      rw [List.drop_eq_nil_of_le hk] at hsd
      simp only [seedN, Option.some.injEq, Prod.mk.injEq] at hsd
      obtain ⟨rfl, rfl⟩ := hsd
      clear HA hk
      generalize hpv : provOf l0 = pv at *
      generalize hps : prsOf l1 0 = ps at *
      have HPV := Lib.hid (And.intro hpv hps)
      clear hpv hps HR0 S0 hl0
      go_upto_region 9 with (fail)
      go_cut [10, 11] (fun v10 v11 wx => ∃ (ok : Bool) (s : ByteArray) (v : Value) (r : Option Nat) (xs sn : List ByteArray), v10 = .string s ∧ v11 = .bool ok ∧ Aside0 (TakenN pv ps l1 nd1 1048575 ok s xs sn []) ∧ Aside0 (NW w1 wx (.slice A1 l1.length c1) bd bp w1.heap.size (w1.heap.size + 1) (w1.heap.size + 1 + 1) [] v r xs sn))
      case first =>
        rcases runN_cases HRUN.out with ⟨h0, h1⟩ | ⟨h0, h1, h2⟩
        · have HE := Lib.hid h1
          clear h1 HRUN
          go_wp2_with (go_at_call 53; refine (take0_calls (w1.heap.size + 1 + 1) v r' xs sn wr HS.out.wl h0).mono ?_; rintro e w4 ⟨rfl, rfl⟩)
          go_meet
          exact ⟨false, _, v, r', xs, sn, rfl, rfl, ⟨HE.out⟩, ⟨HS.out⟩⟩
        · have HE := Lib.hid h2
          clear h2 HRUN
          go_wp2_with (go_at_call 53; refine (take1_calls (w1.heap.size + 1 + 1) v r' xs sn wr HS.out.wl h0 (by omega)).mono ?_; rintro e w4 ⟨v', rfl, hwl, hbl⟩; have HW4 := Lib.hid (HS.out.list hwl hbl); clear hwl hbl)
          go_meet
          exact ⟨true, _, v', r', _, sn, rfl, rfl, ⟨HE.out⟩, ⟨HW4.out⟩⟩
      case rest =>
        obtain ⟨ok, s, v, r', xs, sn, rfl, rfl, HT, HW⟩ := hcut
        clear HRUN HS
        go_wp2
        go_loopg [10, 11] 1048575 (fun kq v10 v11 w' => ∃ (ok : Bool) (s : ByteArray) (v : Value) (r : Option Nat) (xs sn : List ByteArray) (nd : List Int), v10 = .string s ∧ v11 = .bool ok ∧ Aside0 (TakenN pv ps l1 nd1 kq ok s xs sn nd) ∧ Aside0 (NW w1 w' (.slice A1 l1.length c1) bd bp w1.heap.size (w1.heap.size + 1) (w1.heap.size + 1 + 1) nd v r xs sn))
        case atStart => exact ⟨ok, s, v, r', xs, sn, [], rfl, rfl, HT, HW⟩
        case round =>
          clear HT HW
          obtain ⟨ok, s, v, r', xs, sn, nd, rfl, rfl, HT, HW⟩ := hrel
          cases ok with
          | false =>
            have hnd : nd = nd1 := HT.out
            subst hnd
            clear HT
            have hbw := below_then HB1.out hs1 HW.out.B
            have HB := Lib.hid hbw
            have hbs := below_size hbw
            clear hbw
            go_wp2
            go_loopg [14, 67] l1.length (fun kq v14 v67 w' => ∃ (i : Nat), v67 = .int .i64 i ∧ Aside0 (kq + i = l1.length) ∧ Aside0 (MapV lkI w' 3 (w1.heap.size + 1) nd.length (inN nd) ∧ KI.R 3 w' w.heap.size (fun _ => True) v14 (pickN nd i) ∧ Below w.heap.size w w'))
            case atStart => exact ⟨0, rfl, ⟨by omega⟩, ⟨HW.out.nd, Kd.R_nil _ _ _ _ _, HB.out⟩⟩
            case round =>
              clear HW HB hbs
              obtain ⟨i, rfl, HA, HW⟩ := hrel
              have hbs := below_size HW.out.2.2
              cases gk with
              | zero =>
                have hi : i = l1.length := by have := HA.out; omega
                subst hi
                go_wp2
                go_ret
                rw [HRES.out]
                exact ⟨_, rfl, HW.out.2.1, HW.out.2.2⟩
              | succ iq =>
                have hi : i < l1.length := by have := HA.out; omega
                have hln := inN_look HW.out.1 (s := (i : Int)) (by omega) (by omega)
                have HPS := Lib.hid (pickN_succ nd i)
                have hpl := pickN_len nd i
                by_cases hin : (i : Int) ∈ nd
                · rw [decide_eq_true hin] at hln
                  have hps := HPS.out
                  rw [if_pos hin] at hps
                  have HPS2 := Lib.hid hps
                  clear hin hps HPS
                  go_wp2_with (first | (at_builtin; go_must (refine Kd.R_append KI (w0 := w) w.heap.size rfl (.tmp 73) (.tmp 75) 24 3 (.int .i64 0) 8 rfl Try.underlying24 info3 rfl (by decide) (by decide) u14 (pickN nd i) (i : Int) [.int .i64 (i : Int)] (fun _ => True) (fun _ => False) rfl ?aX ?aP (fun _ hk => hk.elim) ?aF ?aO ?aB ?aS ?aL ?_; (case aX => go_simp); (case aP => rfl); (case aF => exact fun _ _ => trivial); (case aO => exact HW.out.2.1); (case aB => exact HW.out.2.2); (case aS => exact hbs); (case aL => omega); intro v1 w7 ho hb hg hat; have hm7 := HW.out.1.grown hg (HW.out.1.ne_row HW.out.2.1); have HE := Lib.hid (And.intro hm7 (And.intro ho hb)); clear ho hb hg hat hm7)))
                  go_roundg iq
                  case measure => omega
                  case rel => exact ⟨i + 1, by go_num, ⟨by have := HA.out; omega⟩, ⟨by rw [HPS2.out]; exact HE.out⟩⟩
                · rw [decide_eq_false hin] at hln
                  have hps := HPS.out
                  rw [if_neg hin] at hps
                  have HPS2 := Lib.hid hps
                  clear hin hps HPS
                  go_wp2
                  go_roundg iq
                  case measure => omega
                  case rel => exact ⟨i + 1, by go_num, ⟨by have := HA.out; omega⟩, ⟨by rw [HPS2.out]; exact HW.out⟩⟩
          | true =>
            obtain ⟨hss, hxl, hT⟩ : s.size ≤ 1048576 ∧ xs.length ≤ 1048576 ∧ ((s ∈ pv ∧ runN pv ps l1 gk xs sn nd = some nd1) ∨ (s ∉ pv ∧ ∃ xs2 sn2 nd2, visitN l1 (zsOf ps s) xs sn nd = some (xs2, sn2, nd2) ∧ runN pv ps l1 gk xs2 sn2 nd2 = some nd1)) := by
              have := HT.out
              unfold TakenN at this
              rwa [if_pos rfl] at this
            cases gk with
            | zero =>
              exfalso
              rcases hT with ⟨_, h⟩ | ⟨_, _, _, _, _, h⟩
              · cases h
              · cases h
            | succ kq =>
              have HTT := Lib.hid hT
              clear hT HT
              go_upto_block 3 with (fail)
              go_cut [] (fun wx => ∃ (v : Value) (r : Option Nat) (xs sn : List ByteArray) (nd : List Int), Aside0 (runN pv ps l1 (kq + 1) xs sn nd = some nd1) ∧ Aside0 (NW w1 wx (.slice A1 l1.length c1) bd bp w1.heap.size (w1.heap.size + 1) (w1.heap.size + 1 + 1) nd v r xs sn))
              case first =>
                have hVr := HV1.out.below HW.out.B HV1.out.lt
                have hlp := inG_look hVr (s := s) (by omega)
                have p1 := blk_cell HW.out.p 1
                have p2 := blk_cell HW.out.p 2
                simp only [List.getElem?_toArray, List.getElem?_cons_succ, List.getElem?_cons_zero] at p1 p2
                have pl := blk_lt HW.out.p
                clear hVr
                rcases HTT.out with ⟨hin, hrn⟩ | ⟨hin, xs2, sn2, nd2, hvis, hrn⟩
                · rw [decide_eq_true hin] at hlp
                  have HE := Lib.hid hrn
                  clear hin hrn HTT
                  go_wp2
                  go_meet
                  exact ⟨v, r', xs, sn, nd, ⟨HE.out⟩, ⟨HW.out⟩⟩
                · rw [decide_eq_false hin] at hlp
                  have hlg := (HG1.out.below HW.out.B (Nat.le_refl _)).look (s := s) (by omega)
                  have hrow := (HG1.out.rows s).1
                  have HZI := Lib.hid (show ∀ i, i ∈ zsOf ps s → ∃ q : Nat, q < l1.length ∧ i = (q : Int) from fun i hi => by rw [← HPV.out.2] at hi; exact zs_in hi)
                  have HRN := Lib.hid hrn
                  have HVIS := Lib.hid hvis
                  generalize zsOf ps s = zs at *
                  generalize (g s).getD (.slice none 0 0) = u at *
                  obtain ⟨Au, cu, rfl⟩ := Kd.R_slice hrow
                  have hzl : zs.length ≤ 9223372036854775807 := (Kd.R_reads' hrow).2.2.2.1
                  have HROW := Lib.hid hrow
                  clear hin hrn hvis hrow HTT
                  go_wp2
                  go_loopg [48] zs.length (fun kq v48 w' => ∃ (j : Nat) (v : Value) (r : Option Nat) (xs sn : List ByteArray) (nd : List Int), v48 = .int .i64 j ∧ Aside0 (kq + j = zs.length ∧ visitN l1 (zs.drop j) xs sn nd = some (xs2, sn2, nd2)) ∧ Aside0 (NW w1 w' (.slice A1 l1.length c1) bd bp w1.heap.size (w1.heap.size + 1) (w1.heap.size + 1 + 1) nd v r xs sn))
                  case atStart => exact ⟨0, v, r', xs, sn, nd, rfl, ⟨by omega, HVIS.out⟩, ⟨HW.out⟩⟩
                  case round =>
                    clear HW HVIS
                    obtain ⟨j, v, r', xs, sn, nd, rfl, HJ, HW⟩ := hrel
                    cases gk with
                    | zero =>
                      have hj : zs.length ≤ j := by have := HJ.out.1; omega
                      have hkf : decide (j < zs.length) = false := decide_eq_false (by omega)
                      have hv := HJ.out.2
                      rw [List.drop_eq_nil_of_le hj] at hv
                      simp only [visitN, Option.some.injEq, Prod.mk.injEq] at hv
                      obtain ⟨rfl, rfl, rfl⟩ := hv
                      clear HJ hj
                      go_wp2
                      go_meet
                      exact ⟨v, r', xs, sn, nd, ⟨HRN.out⟩, ⟨HW.out⟩⟩
                    | succ jq =>
                      have hj : j < zs.length := by have := HJ.out.1; omega
                      have hRr := Kd.R_below HROW.out HW.out.B
                      obtain ⟨b, c', he, _, hbl, _⟩ := Kd.R_form hRr (by omega)
                      injection he with he1 he2 he3
                      subst he1
                      obtain ⟨hyc, _⟩ := R.row_cell hRr j hj
                      obtain ⟨q, hq, hqe⟩ := HZI.out zs[j] (List.getElem_mem hj)
                      have hyd : Hp.at_ (0 : Int) zs j = (q : Int) := by
                        unfold Hp.at_
                        rw [List.getD_eq_getElem?_getD, List.getElem?_eq_getElem hj]
                        exact hqe
                      rw [hyd] at hyc
                      have hv := HJ.out.2
                      rw [List.drop_eq_getElem_cons hj, hqe] at hv
                      have hln := inN_look HW.out.nd (s := (q : Int)) (by omega) (by omega)
                      clear hRr he2 he3 hyd hqe
                      rcases visitN_step hv with ⟨hin, hv2⟩ | ⟨hin, hf1, hf2, hf3, hv2⟩
                      · rw [decide_eq_true hin] at hln
                        have HV2 := Lib.hid hv2
                        clear hv hin hv2
                        go_wp2
                        go_roundg jq
                        case measure => omega
                        case rel => exact ⟨j + 1, v, r', xs, sn, nd, by go_num, ⟨by have := HJ.out.1; omega, HV2.out⟩, ⟨HW.out⟩⟩
                      · rw [decide_eq_false hin] at hln
                        obtain ⟨w5, hrun5, hw5⟩ := HW.out.need (i := q) (by omega) hf3
                        obtain ⟨ad, B0, d0, B1, d1, hA1e, hx0, hx1, hle0, hC0, hle1, hC1⟩ := at_T50 HR1.out (q : Int) (Int.natCast_nonneg _) (by omega)
                        subst hA1e
                        have hB := below_then HB1.out hs1 hw5.B
                        replace hx0 := (hB.cell (World.block_lt_of_cell? w _ hx0)).trans hx0
                        replace hx1 := (hB.cell (World.block_lt_of_cell? w _ hx1)).trans hx1
                        simp only [Int.toNat_natCast] at hx0 hx1
                        have HN := Lib.hid (names_small S1.out refB hq)
                        have HX := Lib.hid (Kd.C_below hC0 hB)
                        have HW5 := Lib.hid hw5
                        have HF := Lib.hid (And.intro hf1 (And.intro hf2 hv2))
                        clear hv hin hB hC0 hC1 hle0 hle1 hw5 hf1 hf2 hf3 hv2 HW
                        generalize rd_T50 l1 q = x at *
                        obtain ⟨x0, x1⟩ := x
                        dsimp only at hx0 hx1 HX HN HF
                        go_wp2_with fail
                        refine (names_calls52 refB holds_refers B0 d0 x0 B1 x1.length d1 w5 HX.out (by have := HN.out.1; omega)).mono ?_
                        rintro e w6 ⟨y, rfl, hR, hb6⟩
                        have hW6 := HW5.out.below hb6
                        have hne : ∀ k, y.ownBlock = some k → some k ≠ v.ownBlock := fun k hk e => by
                          have := Kd.R_base hR k hk
                          have := Kd.R_lt HW5.out.wl.hs.2 k e.symm
                          omega
                        have HR6 := Lib.hid hR
                        have HW6 := Lib.hid hW6
                        have HNE := Lib.hid hne
                        clear hR hb6 HW5 hW6 hne hx0 hx1 HX
                        generalize namesOf refB x0 = ns at *
                        go_wp2_with fail
                        refine (add_calls (w1.heap.size + 1 + 1) v r' xs sn w6 HW6.out.wl y ns w5.heap.size HR6.out HNE.out HN.out.2.2 (by have := HN.out.2.1; omega) HF.out.1 HF.out.2.1).mono ?_
                        rintro e w7 ⟨n, v', b', rfl, hwl, hbl7⟩
                        have HW7 := Lib.hid (HW6.out.list hwl.wl hbl7)
                        clear hwl hbl7 HW6 HR6 HNE
                        go_wp2
                        go_roundg jq
                        case measure => omega
                        case rel => exact ⟨j + 1, v', _, _, _, _, by go_num, ⟨by have := HJ.out.1; omega, HF.out.2.2⟩, ⟨HW7.out⟩⟩
              case rest =>
                obtain ⟨v2, r2, ys, tn, nd2, HT2, HW2⟩ := hcut
                clear HW HTT
                rcases runN_cases HT2.out with ⟨h0, h1⟩ | ⟨h0, h1, h2⟩
                · have HE := Lib.hid h1
                  clear h1 HT2
                  go_wp2_with (go_at_call 53; refine (take0_calls (w1.heap.size + 1 + 1) v2 r2 ys tn wc HW2.out.wl h0).mono ?_; rintro e w4 ⟨rfl, rfl⟩)
                  go_roundg kq
                  case measure => omega
                  case rel => exact ⟨false, _, v2, r2, ys, tn, nd2, rfl, rfl, ⟨HE.out⟩, ⟨HW2.out⟩⟩
                · have HE := Lib.hid h2
                  clear h2 HT2
                  go_wp2_with (go_at_call 53; refine (take1_calls (w1.heap.size + 1 + 1) v2 r2 ys tn wc HW2.out.wl h0 (by omega)).mono ?_; rintro e w4 ⟨v', rfl, hwl, hbl⟩; have HW4 := Lib.hid (HW2.out.list hwl hbl); clear hwl hbl)
                  go_roundg kq
                  case measure => omega
                  case rel => exact ⟨true, _, v', r2, _, tn, nd2, rfl, rfl, ⟨HE.out⟩, ⟨HW4.out⟩⟩
    | succ kq =>
      have hk : k < l0.length := by have := HA.out.1; omega
      obtain ⟨ad, B0, d0, B1, d1, rfl, hx0, hx1, hle0, hC0, hle1, hC1⟩ := at_T50 HR0.out (k : Int) (Int.natCast_nonneg _) (by omega)
      have hB := below_then HB1.out hs1 HS.out.B
      replace hx0 := (hB.cell (World.block_lt_of_cell? w _ hx0)).trans hx0
      replace hx1 := (hB.cell (World.block_lt_of_cell? w _ hx1)).trans hx1
      simp only [Int.toNat_natCast] at hx0 hx1
      have HN := Lib.hid (names_small S0.out refB hk)
      have hsd := HA.out.2
      rw [List.drop_eq_getElem_cons hk, ← rd50 hk] at hsd
      obtain ⟨hf1, hf2, hf3⟩ := seedN_step hsd
      have HX := Lib.hid (Kd.C_below hC0 hB)
      have HF := Lib.hid (And.intro hf1 (And.intro hf2 hf3))
      clear hB hC1 hle0 hle1 hsd hC0 hf1 hf2 hf3
      generalize rd_T50 l0 k = x at *
      obtain ⟨x0, x1⟩ := x
      dsimp only at hx0 hx1 HX HN HF
      go_wp2_with fail
      have hBW2 := HS.out.below (below_alloc (Below.refl _ _) (.cells #[.slice B0 x0.length d0, .slice B1 x1.length d1] 50))
      have hC2 := Kd.C_below HX.out (below_alloc (Below.refl _ _) (.cells #[.slice B0 x0.length d0, .slice B1 x1.length d1] 50))
      clear hx0 hx1 HS HX
      generalize wr.alloc (.cells #[.slice B0 x0.length d0, .slice B1 x1.length d1] 50) = w2 at *
      have HW2 := Lib.hid hBW2
      clear hBW2
      refine (names_calls52 refB holds_refers B0 d0 x0 B1 x1.length d1 w2 hC2 (by have := HN.out.1; omega)).mono ?_
      rintro e w3 ⟨u, rfl, hR, hb3⟩
      have hW3 := HW2.out.below hb3
      have hne : ∀ k, u.ownBlock = some k → some k ≠ v.ownBlock := fun k hk e => by
        have := Kd.R_base hR k hk
        have := Kd.R_lt HW2.out.wl.hs.2 k e.symm
        omega
      have HR3 := Lib.hid hR
      have HW3 := Lib.hid hW3
      have HNE := Lib.hid hne
      clear hR hb3 hC2 HW2 hW3 hne
      generalize namesOf refB x0 = ns at *
      go_wp2_with fail
      refine (add_calls (w1.heap.size + 1 + 1) v r' xs sn w3 HW3.out.wl u ns w2.heap.size HR3.out HNE.out HN.out.2.2 (by have := HN.out.2.1; omega) HF.out.1 HF.out.2.1).mono ?_
      rintro e w4 ⟨n, v', b, rfl, hwl, hbl⟩
      have HW4 := Lib.hid (HW3.out.list hwl.wl hbl)
      clear hwl hbl HW3 HR3 HNE
      go_wp2
      go_roundg kq
      case measure => omega
      case rel => exact ⟨k + 1, v', _, _, _, by go_num, ⟨by have := HA.out.1; omega, HF.out.2.2⟩, ⟨HW4.out⟩⟩
theorem closure_Needed.calls (A0 : Option Addr) (c0 : Nat) (l0 : List S50) (A1 : Option Addr) (c1 : Nat) (l1 : List S50) (r : List Int) (w : World) (hr0 : Kd.C k50 w A0 l0.length l0) (hc0 : l0.length ≤ c0) (hr1 : Kd.C k50 w A1 l1.length l1) (hc1 : l1.length ≤ c1) (h : closure_Needed.f l0 l1 = some r) :
    Calls Try.prog 25 #[.slice A0 l0.length c0, .slice A1 l1.length c1] w fun e w' => ∃ v0_ : Value, e = .returned v0_ ∧ Kd.R (Kd.int .i64) 3 w' w.heap.size (fun _ => True) v0_ r ∧ Below w.heap.size w w' :=
  (needed_calls A0 c0 l0 A1 c1 l1 r w hr0 hr1 h).mono fun e w' h => h
end Go.Proofs.Ythpjpkcfepmhkaa.PAll
namespace Go.Proofs.Ythpjpkcfepmhkaa.PAll
open Go.RowKit Go.Proofs.YthpjpkcfepmhkaaW.PrintWords Go.Proofs.YthpjpkcfepmhkaaW.PrintLast Go.Proofs.YthpjpkcfepmhkaaW.PrintMore
set_option linter.unusedVariables false
set_option linter.unusedSimpArgs false
def WhyEnd (w : World) (r1 : List Int) (r2 : Bool) (e : Ending) (w' : World) : Prop := ∃ v0_ : Value, e = .returned (.tuple #[v0_, .bool r2]) ∧ Kd.R (Kd.int .i64) 3 w' w.heap.size (fun _ => True) v0_ r1 ∧ Below w.heap.size w w'
theorem YW.pop {w1 wr : World} {vm : Value} {bd bp g8 g9 g10 bb : Nat} {A : Option Addr} {i : Int} {q : List Int} {bf : List (Int × Int)} {n c : Nat} (h : YW w1 wr vm bd bp g8 g9 g10 bb (.slice A n c) (i :: q) bf) :
    YW w1 (wr.setCell ⟨g10, 0, none⟩ (.slice (if c = 1 then A else A.map (·.add (1 * 1))) (n - 1) (c - 1))) vm bd bp g8 g9 g10 bb (.slice (if c = 1 then A else A.map (·.add (1 * 1))) (n - 1) (c - 1)) q bf := by
  have hQ := Kd.Q_drop (k := 1) h.q (by simp)
  exact (h.push (World.grownBy.refl wr _) hQ h.B).1
theorem chainW_cases {bf : List (Int × Int)} {k : Nat} {i : Int} {out r : List Int} (h : chainW bf (k + 1) i out = some r) : (i < 0 ∧ out = r) ∨ (0 ≤ i ∧ i ≤ 1048576 ∧ out.length ≤ 1048576 ∧ chainW bf k ((lookB bf i).getD 0) (out ++ [i]) = some r) := by
  simp only [chainW] at h
  by_cases c : i < 0
  · rw [if_pos c] at h
    exact .inl ⟨c, Option.some.inj h⟩
  · rw [if_neg c] at h
    by_cases d : out.length ≤ 1048576 ∧ i ≤ 1048576
    · rw [if_pos d] at h
      exact .inr ⟨by omega, d.2, d.1, h⟩
    · rw [if_neg d] at h
      cases h
theorem chainW_len {bf : List (Int × Int)} {r : List Int} : ∀ {k : Nat} {i : Int} {out : List Int}, chainW bf k i out = some r → out.length ≤ 1048577 → r.length ≤ 1048577
  | 0, i, out, h, _ => by cases h
  | k + 1, i, out, h, hl => by
    rcases chainW_cases h with ⟨_, h2⟩ | ⟨_, _, h3, h4⟩
    · rw [← h2]; exact hl
    · exact chainW_len h4 (by rw [List.length_append, List.length_singleton]; omega)
set_option maxRecDepth 10000 in
set_option maxHeartbeats 16000000 in
theorem why_calls (A0 : Option Addr) (c0 : Nat) (l0 : List S50) (A1 : Option Addr) (c1 : Nat) (l1 : List S50) (a : Int) (r1 : List Int) (r2 : Bool) (w : World) (hr0 : Kd.C k50 w A0 l0.length l0) (hr1 : Kd.C k50 w A1 l1.length l1) (h : closure_Why.f l0 l1 a = some (r1, r2)) :
    Calls Try.prog 29 #[.slice A0 l0.length c0, .slice A1 l1.length c1, .int .i64 a] w fun e w' => WhyEnd w r1 r2 e w' := by
  obtain ⟨s0, s1, ha, bf1, q1, bf2, hseed, hrun, hres⟩ := why_open h
  have hu50 := Try.underlying50
  have hu83 := Try.underlying83
  have hmm := @run_makeMap Try.prog
  have HR0 := Lib.hid hr0
  have HR1 := Lib.hid hr1
  have hl0 := (smallL_iff.1 s0).1
  have hl1 := (smallL_iff.1 s1).1
  have HPL := Lib.hid (show (prsOf l1 0).length ≤ 1048576 from by have := prs_len s1 l1.length; rwa [List.take_length] at this)
  have HPI := Lib.hid (fun ns i (h : i ∈ nextOf (provOf l0) (prsOf l1 0) ns) => next_in h)
  have S0 := Lib.hid s0
  have S1 := Lib.hid s1
  have HSEED := Lib.hid hseed
  have HRUN := Lib.hid hrun
  have HRES := Lib.hid hres
  have HKA := Lib.hid (show keyOf Try.prog 3 (.int .i64 a) = some (lkI a) from by
    unfold i64B at ha
    simp only [Bool.and_eq_true, decide_eq_true_eq] at ha
    exact keyI ha.1 ha.2)
  clear hr0 hr1 s0 s1 h hseed hrun hres ha
  go_enter Try.func29, Try.ntmps29
  go_wp2_with fail
  refine (build_calls A0 c0 l0 A1 c1 l1 w HR0.out HR1.out S0.out S1.out).mono ?_
  rintro e w1 ⟨bd, bp, f, g, rfl, hB1, hG1, hV1, hbd, hbp⟩
  have HB1 := Lib.hid hB1
  have HG1 := Lib.hid hG1
  have HV1 := Lib.hid hV1
  have hs1 := below_size hB1
  clear hB1 hG1 hV1 hbd hbp
  generalize provOf l0 = pv at *
  generalize prsOf l1 0 = ps at *
  go_wp2
  have HW0 := Lib.hid (YW.start w1 (.slice A1 l1.length c1) bd bp)
  generalize (((w1.alloc (.cells #[.slice A1 l1.length c1, .map (some bd), .map (some bp)] 83)).alloc (.map #[] 0)).alloc (.cells #[.map (some (w1.heap.size + 1))] 97)).alloc (.cells #[.slice none 0 0] 24) = wa at *
  clear hmm
  go_loopg [26] l0.length (fun kq v26 w' => ∃ (k : Nat) (qv : Value) (q : List Int) (bf : List (Int × Int)), v26 = .int .i64 k ∧ Aside0 (kq + k = l0.length ∧ seedW pv ps (l0.drop k) bf q = some (bf1, q1)) ∧ Aside0 (YW w1 w' (.slice A1 l1.length c1) bd bp w1.heap.size (w1.heap.size + 1 + 1) (w1.heap.size + 1 + 1 + 1) (w1.heap.size + 1) qv q bf))
  case atStart => exact ⟨0, _, _, _, rfl, ⟨by omega, HSEED.out⟩, ⟨HW0.out⟩⟩
  case round =>
    clear HW0 HSEED
    obtain ⟨k, qv, q, bf, rfl, HA, HS⟩ := hrel
    cases gk with
    | zero =>
      have hk : l0.length ≤ k := by have := HA.out.1; omega
      have hkf : decide (k < l0.length) = false := decide_eq_false (by omega)
      have hsd := HA.out.2
      rw [List.drop_eq_nil_of_le hk] at hsd
      simp only [seedW, Option.some.injEq, Prod.mk.injEq] at hsd
      obtain ⟨rfl, rfl⟩ := hsd
      clear HA hk HR0 S0 hl0
      go_wp2
      go_loopg [] 1048576 (fun kq w' => ∃ (qv : Value) (q : List Int) (bf : List (Int × Int)), Aside0 (loopW pv ps l1 kq bf q = some bf2) ∧ Aside0 (YW w1 w' (.slice A1 l1.length c1) bd bp w1.heap.size (w1.heap.size + 1 + 1) (w1.heap.size + 1 + 1 + 1) (w1.heap.size + 1) qv q bf))
      case atStart => exact ⟨qv, q, bf, ⟨HRUN.out⟩, ⟨HS.out⟩⟩
      case round =>
        clear HS HRUN
        obtain ⟨qv, q, bf, HL, HS⟩ := hrel
        cases gk with
        | zero =>
          exfalso
          have := HL.out
          simp [loopW] at this
        | succ kq =>
          have hcq := blk_cell HS.out.cq 0
          simp only [List.getElem?_toArray, List.getElem?_cons_succ, List.getElem?_cons_zero] at hcq
          rcases loopW_cases HL.out with ⟨rfl, rfl⟩ | ⟨i, q', bf3, q3, rfl, hi, hql, hvis, hloop⟩
          · obtain ⟨Aq, cq, rfl, _⟩ := Kd.Q_slice HS.out.q
            have hcb := blk_cell HS.out.cb 0
            simp only [List.getElem?_toArray, List.getElem?_cons_succ, List.getElem?_cons_zero] at hcb
            have hlk := HS.out.bf.look_ok lawI Try.underlying97 (zeroI _) HKA.out
            have hso : (bgW bf a).isSome = (lookB bf a).isSome := by unfold bgW; cases lookB bf a <;> rfl
            rw [hso] at hlk
            generalize (bgW bf a).getD (.int .i64 0) = z at hlk
            have hbw := below_then HB1.out hs1 HS.out.B
            have HB := Lib.hid (And.intro HS.out.cb (And.intro HS.out.bf hbw))
            have hgl9 := blk_lt HS.out.cb
            have hbs := below_size hbw
            clear hso HL hbw HS
            rcases whyEnd_cases HRES.out with ⟨hn, hr⟩ | ⟨x, out1, hn, hch, hr⟩
            · rw [hn] at hlk
              have hlk2 : (Instr.lookup 97 (.map (some (w1.heap.size + 1))) (.int .i64 a) true).run Try.prog wr = .ok (.tuple #[z, .bool false]) wr := hlk
              injection hr with hra hrb
              subst hra
              subst hrb
              clear hn hlk
              go_wp2
              go_ret2
              exact ⟨_, rfl, Kd.R_nil _ _ _ _ _, HB.out.2.2⟩
            · rw [hn] at hlk
              have hlk2 : (Instr.lookup 97 (.map (some (w1.heap.size + 1))) (.int .i64 a) true).run Try.prog wr = .ok (.tuple #[z, .bool true]) wr := hlk
              injection hr with hra hrb
              subst hra
              subst hrb
              have HCH := Lib.hid hch
              have HCL := Lib.hid (show out1.length ≤ 1099511627776 from Nat.le_trans (chainW_len hch (by simp)) (by omega))
              clear hn hlk hch
              go_wp2
              go_loopg [17, 18] 1048576 (fun kq v17 v18 w' => ∃ (i : Int) (out : List Int), v18 = .int .i64 i ∧ Aside0 (chainW bf kq i out = some out1) ∧ Aside0 (w'.heap[w1.heap.size + 1 + 1]? = some (.cells #[.map (some (w1.heap.size + 1))] 97 (0, 0)) ∧ MapV lkI w' 3 (w1.heap.size + 1) bf.length (bgW bf) ∧ Below w.heap.size w w' ∧ KI.R 3 w' w.heap.size (fun _ => True) v17 out))
              case atStart => exact ⟨a, [], rfl, ⟨HCH.out⟩, ⟨HB.out.1, HB.out.2.1, HB.out.2.2, Kd.R_nil _ _ _ _ _⟩⟩
              case round =>
                clear HCH HB hcb hgl9 hbs hlk2 hcq
                obtain ⟨i, out, rfl, HCH, HB⟩ := hrel
                cases gk with
                | zero =>
                  exfalso
                  have := HCH.out
                  simp [chainW] at this
                | succ iq =>
                  have hbs := below_size HB.out.2.2.1
                  rcases chainW_cases HCH.out with ⟨hi, rfl⟩ | ⟨hi0, hi1, hol, hch⟩
                  · have hge : ¬ (0 ≤ i) := by omega
                    obtain ⟨kr, hkr⟩ := reverse_f out HCL.out
                    have HKR := Lib.hid hkr
                    clear hkr HCH
                    go_wp2_with fail
                    refine (slices_Reverse_int_int.calls kr (fun _ => True) u17 out out.reverse w wr HB.out.2.2.1 HB.out.2.2.2 HKR.out).mono ?_
                    rintro e w9 ⟨rfl, hR9, hB9, _⟩
                    have HE := Lib.hid (And.intro (Kd.R_mono (ok' := fun _ => True) hR9 (fun _ _ => trivial)) hB9)
                    clear hR9 hB9
                    go_wp2
                    go_ret2
                    exact ⟨u17, rfl, HE.out⟩
                  · have HCH2 := Lib.hid hch
                    have hcb := blk_cell HB.out.1 0
                    simp only [List.getElem?_toArray, List.getElem?_cons_succ, List.getElem?_cons_zero] at hcb
                    have hgl9 := blk_lt HB.out.1
                    clear hch HCH
                    go_wp2_with (first | (at_builtin; go_must (refine Kd.R_append KI (w0 := w) w.heap.size rfl (.tmp 67) (.tmp 69) 24 3 (.int .i64 0) 8 rfl Try.underlying24 info3 rfl (by decide) (by decide) u17 out i [.int .i64 i] (fun _ => True) (fun _ => False) rfl ?aX ?aP (fun _ hk => hk.elim) ?aF ?aO ?aB ?aS ?aL ?_; (case aX => go_simp); (case aP => rfl); (case aF => exact fun _ _ => trivial); (case aO => exact HB.out.2.2.2); (case aB => exact HB.out.2.2.1); (case aS => exact hbs); (case aL => omega); intro v1 w7 ho hb hg hat; have hcb7 := blk_grown HB.out.1 hg (Kd.R_ne HB.out.2.2.2 HB.out.1 (by decide)); have hm7 := HB.out.2.1.grown hg (HB.out.2.1.ne_row HB.out.2.2.2); have hlk7 := hm7.look lawI Try.underlying97 (zeroI _) (keyI (i := i) (by omega) (by omega)); have hgv : (bgW bf i).getD (.int .i64 0) = .int .i64 ((lookB bf i).getD 0) := (by unfold bgW; cases lookB bf i <;> rfl); rw [hgv] at hlk7; have hc7 := blk_cell hcb7 0; simp only [List.getElem?_toArray, List.getElem?_cons_succ, List.getElem?_cons_zero] at hc7; have hl7 := blk_lt hcb7; have HE := Lib.hid (And.intro hcb7 (And.intro hm7 (And.intro hb ho))); clear ho hb hg hat hcb7 hm7 hgv)))
                    go_roundg iq
                    case measure => omega
                    case rel => exact ⟨_, out ++ [i], rfl, ⟨HCH2.out⟩, ⟨HE.out⟩⟩
          · obtain ⟨gq, oq, cq, hqv, hgq, _, _⟩ := Kd.Q_form HS.out.q (by simp)
            subst hqv
            have hq0 := (Kd.Q_cell (0 : Int) HS.out.q (0 : Int) (by omega) (by simp only [List.length_cons]; omega)).1
            have hq0 : wr.cell? ⟨gq, oq, none⟩ = some (.int .i64 (i : Int)) := hq0
            obtain ⟨i0, hi0, _, hsz0, _⟩ := info_parts info3
            have hcut := cut_from (P := Try.prog) 24 3 .i64 Try.underlying24 hi0 1 hsz0 (some ⟨gq, oq, none⟩) (((i : Int) :: q').length) cq 1 (by omega) (by simp only [List.length_cons]; omega)
            have hcut : ∀ W : World, (Instr.slice 24 (.slice (some ⟨gq, oq, none⟩) (((i : Int) :: q').length) cq) (some (.int .i64 1)) none none).run Try.prog W = .ok (.slice (if cq = 1 then (some ⟨gq, oq, none⟩ : Option Addr) else (some ⟨gq, oq, none⟩ : Option Addr).map (·.add (1 * 1))) (((i : Int) :: q').length - 1) (cq - 1)) W := hcut
            have hpop := HS.out.pop
            generalize (if cq = 1 then (some ⟨gq, oq, none⟩ : Option Addr) else (some ⟨gq, oq, none⟩ : Option Addr).map (·.add (1 * 1))) = Aq' at hcut hpop
            generalize cq - 1 = cq' at hcut hpop
            simp only [List.length_cons, Nat.add_sub_cancel] at hcut hpop hcq
            have HP := Lib.hid hpop
            have HV := Lib.hid (And.intro hvis hloop)
            have hgl10 := blk_lt HS.out.cq
            have hzf := blk_frozen HS.out.cq 0
            clear hpop hvis hloop HL hi0 hsz0 HS
            obtain ⟨ad, B0, d0, B1, d1, hA1e, hx0, hx1, hle0, hC0, hle1, hC1⟩ := at_T50 HR1.out (i : Int) (Int.natCast_nonneg _) (by omega)
            subst hA1e
            have HN := Lib.hid (names_small S1.out refB hi)
            go_wp2
            generalize wr.setCell ⟨w1.heap.size + 1 + 1 + 1, 0, none⟩ (.slice Aq' q'.length cq') = w5 at *
            have H5 := Lib.hid (HP.out.below (below_drew (Below.refl _ _)))
            have hB := below_then HB1.out hs1 H5.out.B
            have hB5 := below_then HB1.out hs1 HP.out.B
            have hx0' := (hB5.cell (World.block_lt_of_cell? w _ hx0)).trans hx0
            have hx1' := (hB5.cell (World.block_lt_of_cell? w _ hx1)).trans hx1
            replace hx0 := (hB.cell (World.block_lt_of_cell? w _ hx0)).trans hx0
            replace hx1 := (hB.cell (World.block_lt_of_cell? w _ hx1)).trans hx1
            simp only [Int.toNat_natCast] at hx0 hx1 hx0' hx1'
            have HX := Lib.hid (Kd.C_below hC0 hB)
            have p0 := blk_cell HP.out.p 0
            have p1 := blk_cell HP.out.p 1
            have p2 := blk_cell HP.out.p 2
            have p0' := blk_cell H5.out.p 0
            have p1' := blk_cell H5.out.p 1
            have p2' := blk_cell H5.out.p 2
            simp only [List.getElem?_toArray, List.getElem?_cons_succ, List.getElem?_cons_zero] at p0 p1 p2 p0' p1' p2'
            have pl := blk_lt H5.out.p
            clear hB hB5 hC0 hC1 hle0 hle1 hcq hq0 hgl10 hzf hcut HP
            generalize rd_T50 l1 i = x at *
            obtain ⟨x0, x1⟩ := x
            dsimp only at hx0 hx1 hx0' hx1' HX HN HV
            go_region_with (first | (go_at_call 57; refine (next_calls (.slice (some ad) l1.length c1) bd bp w.heap.size ps.length pv.length f g ps pv B0 d0 x0 B1 x1.length d1 w5.drew (HG1.out.below H5.out.B (Nat.le_refl _)) (HV1.out.below H5.out.B HV1.out.lt) HX.out HN.out.1 HN.out.2.2 HPL.out).mono ?_; rintro e w6 ⟨u, rfl, hR, hb6⟩; have HR6 := Lib.hid hR; have HNE := Lib.hid (show ∀ k, u.ownBlock = some k → some k ≠ (Value.slice Aq' q'.length cq').ownBlock from fun k hk e => (by have := Kd.R_base hR k hk; have := Kd.Q_lt H5.out.q k e.symm; omega)); have HW6 := Lib.hid (H5.out.below hb6); clear hR hb6) | (go_at_call 56; refine (visitW_calls w1 (.slice (some ad) l1.length c1) bd bp w1.heap.size (w1.heap.size + 1 + 1) (w1.heap.size + 1 + 1 + 1) (w1.heap.size + 1) l1.length (.slice Aq' q'.length cq') q' q3 bf bf3 (i : Int) w6 u (nextOf pv ps (namesOf refB x0)) w5.drew.heap.size hl1 HW6.out HR6.out HNE.out (HPI.out _) HV.out.1).mono ?_; rintro e w7 ⟨rfl, qv', hy⟩; have HW7 := Lib.hid hy; clear hy))
            all_goals go_wp2
            all_goals (go_roundg kq; (case measure => omega); (case rel => exact ⟨qv', q3, bf3, ⟨HV.out.2⟩, ⟨HW7.out⟩⟩))
    | succ kq =>
      have hk : k < l0.length := by have := HA.out.1; omega
      obtain ⟨ad, B0, d0, B1, d1, rfl, hx0, hx1, hle0, hC0, hle1, hC1⟩ := at_T50 HR0.out (k : Int) (Int.natCast_nonneg _) (by omega)
      have hB := below_then HB1.out hs1 HS.out.B
      replace hx0 := (hB.cell (World.block_lt_of_cell? w _ hx0)).trans hx0
      replace hx1 := (hB.cell (World.block_lt_of_cell? w _ hx1)).trans hx1
      simp only [Int.toNat_natCast] at hx0 hx1
      have HN := Lib.hid (names_small S0.out refB hk)
      have hsd := HA.out.2
      rw [List.drop_eq_getElem_cons hk, ← rd50 hk] at hsd
      simp only [seedW, Option.bind_eq_some_iff] at hsd
      obtain ⟨⟨bf3, q3⟩, hv1, hv2⟩ := hsd
      have HX := Lib.hid (Kd.C_below hC0 hB)
      have HF := Lib.hid (And.intro hv1 hv2)
      clear hB hC1 hle0 hle1 hC0 hv1 hv2
      generalize rd_T50 l0 k = x at *
      obtain ⟨x0, x1⟩ := x
      dsimp only at hx0 hx1 HX HN HF
      have p0 := blk_cell HS.out.p 0
      have p1 := blk_cell HS.out.p 1
      have p2 := blk_cell HS.out.p 2
      simp only [List.getElem?_toArray, List.getElem?_cons_succ, List.getElem?_cons_zero] at p0 p1 p2
      have pl := blk_lt HS.out.p
      go_wp2_with fail
      have hBW2 := HS.out.below (below_alloc (Below.refl _ _) (.cells #[.slice B0 x0.length d0, .slice B1 x1.length d1] 50))
      have hC2 := Kd.C_below HX.out (below_alloc (Below.refl _ _) (.cells #[.slice B0 x0.length d0, .slice B1 x1.length d1] 50))
      clear hx0 hx1 HS HX p0 p1 p2 pl
      generalize wr.alloc (.cells #[.slice B0 x0.length d0, .slice B1 x1.length d1] 50) = w2 at *
      have HW2 := Lib.hid hBW2
      clear hBW2
      refine (next_calls (.slice A1 l1.length c1) bd bp w.heap.size ps.length pv.length f g ps pv B0 d0 x0 B1 x1.length d1 w2 (HG1.out.below HW2.out.B (Nat.le_refl _)) (HV1.out.below HW2.out.B HV1.out.lt) hC2 HN.out.1 HN.out.2.2 HPL.out).mono ?_
      rintro e w3 ⟨u, rfl, hR, hb3⟩
      have hW3 := HW2.out.below hb3
      have hne : ∀ k, u.ownBlock = some k → some k ≠ qv.ownBlock := fun k hk e => by
        have := Kd.R_base hR k hk
        have := Kd.Q_lt HW2.out.q k e.symm
        omega
      have HR3 := Lib.hid hR
      have HW3 := Lib.hid hW3
      have HNE := Lib.hid hne
      clear hR hb3 hC2 HW2 hW3 hne
      go_wp2_with fail
      refine (visitW_calls w1 (.slice A1 l1.length c1) bd bp w1.heap.size (w1.heap.size + 1 + 1) (w1.heap.size + 1 + 1 + 1) (w1.heap.size + 1) l1.length qv q q3 bf bf3 (-1) w3 u (nextOf pv ps (namesOf refB x0)) w2.heap.size hl1 HW3.out HR3.out HNE.out (HPI.out _) HF.out.1).mono ?_
      rintro e w4 ⟨rfl, qv', hy⟩
      have HW4 := Lib.hid hy
      clear hy HW3 HR3 HNE
      go_wp2
      go_roundg kq
      case measure => omega
      case rel => exact ⟨k + 1, qv', q3, bf3, by go_num, ⟨by have := HA.out.1; omega, HF.out.2⟩, ⟨HW4.out⟩⟩
theorem closure_Why.calls (A0 : Option Addr) (c0 : Nat) (l0 : List S50) (A1 : Option Addr) (c1 : Nat) (l1 : List S50) (a2 : Int) (r1 : List Int) (r2 : Bool) (w : World) (hr0 : Kd.C k50 w A0 l0.length l0) (hc0 : l0.length ≤ c0) (hr1 : Kd.C k50 w A1 l1.length l1) (hc1 : l1.length ≤ c1) (h : closure_Why.f l0 l1 a2 = some (r1, r2)) :
    Calls Try.prog 29 #[.slice A0 l0.length c0, .slice A1 l1.length c1, .int .i64 a2] w fun e w' => ∃ v0_ : Value, e = .returned (.tuple #[v0_, .bool r2]) ∧ Kd.R (Kd.int .i64) 3 w' w.heap.size (fun _ => True) v0_ r1 ∧ Below w.heap.size w w' :=
  (why_calls A0 c0 l0 A1 c1 l1 a2 r1 r2 w hr0 hr1 h).mono fun e w' h => h
end Go.Proofs.Ythpjpkcfepmhkaa.PAll
namespace Go.Proofs.Ythpjpkcfepmhkaa.PAll
open Go.RowKit Go.Proofs.YthpjpkcfepmhkaaW.PrintWords Go.Proofs.YthpjpkcfepmhkaaW.PrintLast Go.Proofs.YthpjpkcfepmhkaaW.PrintMore
set_option linter.unusedVariables false
set_option linter.unusedSimpArgs false
def uniqB (ps : List (ByteArray × Int)) : Bool := ps.all fun p => decide ((zsOf ps p.1).length ≤ 1)
def closure_Unique.f (ms : List S50) : Option Bool := if smallL ms = true then some (uniqB (prsOf ms 0)) else none
theorem uniqB_false {ps : List (ByteArray × Int)} {s : ByteArray} (h : 1 < (zsOf ps s).length) : uniqB ps = false := by
  unfold uniqB
  rw [List.all_eq_false]
  obtain ⟨i, hi⟩ := List.exists_mem_of_length_pos (show 0 < (zsOf ps s).length by omega)
  unfold zsOf at hi
  obtain ⟨p, hp, _⟩ := List.mem_map.1 hi
  obtain ⟨h1, h2⟩ := List.mem_filter.1 hp
  refine ⟨p, h1, ?_⟩
  rw [of_decide_eq_true h2]
  simp only [decide_eq_true_eq]
  omega
theorem zs_pos {ps : List (ByteArray × Int)} {p : ByteArray × Int} (h : p ∈ ps) : zsOf ps p.1 ≠ [] := by
  unfold zsOf
  intro e
  have : p.2 ∈ (ps.filter fun q => decide (q.1 = p.1)).map (fun q => q.2) := List.mem_map.2 ⟨p, List.mem_filter.2 ⟨h, by simp⟩, rfl⟩
  rw [e] at this
  cases this
theorem uniqB_true {ps : List (ByteArray × Int)} {g : ByteArray → Option Value} (hn : ∀ s, g s = none → zsOf ps s = []) (h : ∀ s v, g s = some v → (zsOf ps s).length ≤ 1) : uniqB ps = true := by
  unfold uniqB
  rw [List.all_eq_true]
  intro p hp
  rw [decide_eq_true_eq]
  cases hg : g p.1 with
  | none => exact absurd (hn _ hg) (zs_pos hp)
  | some v => exact h _ v hg
theorem atOf_inj {g : Option Value} {c : Value} (h : ∀ z, atOf g z = .held c) : g = some c := by
  cases g with
  | none => have := h .nil; cases this
  | some v =>
    have := h .nil
    injection this with this
    rw [this]
theorem none_C (w : World) : Kd.C k50 w none ([] : List S50).length [] := ⟨rfl, by simp, fun h => absurd h (by simp)⟩
def UniqueEnd (w : World) (r : Bool) (e : Ending) (w' : World) : Prop := e = .returned (.bool r) ∧ Below w.heap.size w w'
set_option maxRecDepth 10000 in
set_option maxHeartbeats 8000000 in
theorem unique_calls (A0 : Option Addr) (c0 : Nat) (l0 : List S50) (r : Bool) (w : World) (hr0 : Kd.C k50 w A0 l0.length l0) (h : closure_Unique.f l0 = some r) :
    Calls Try.prog 26 #[.slice A0 l0.length c0] w fun e w' => UniqueEnd w r e w' := by
  have hsm : smallL l0 = true := by
    unfold closure_Unique.f at h
    by_cases c : smallL l0 = true
    · exact c
    · rw [if_neg c] at h; cases h
  have hres : r = uniqB (prsOf l0 0) := by
    unfold closure_Unique.f at h
    rw [if_pos hsm] at h
    exact (Option.some.inj h).symm
  have hfl : ∀ (x a b : Value) (W : World), (Instr.field 83 (.agg #[x, a, b]) 1).run Try.prog W = .ok a W := fun x a b W => by kernel_rfl
  have HR0 := Lib.hid hr0
  have S0 := Lib.hid hsm
  have HRES := Lib.hid hres
  clear hr0 h hsm hres
  go_enter Try.func26, Try.ntmps26
  go_wp2_with fail
  refine (build_calls none 0 [] A0 c0 l0 w (none_C w) HR0.out rfl S0.out).mono ?_
  rintro e w1 ⟨bd, bp, f, g, rfl, hB1, hG1, hV1, hbd, hbp⟩
  generalize prsOf l0 0 = ps at *
  obtain ⟨D, hD1, hD2⟩ := hG1.map
  have HB1 := Lib.hid hB1
  have HG1 := Lib.hid hG1
  have HD := Lib.hid hD2
  have hs1 := below_size hB1
  clear hB1 hG1 hV1 hbd hbp hD2
  go_wp2_with (at_range; refine wpList_range_own _ rfl _ 80 rfl 9 24 lawS Try.underlying80 rawR bd ps.length D rfl hD1 ?_; intro w2 hrg hg2 hs2; have HRG := Lib.hid hrg; have HB2 := Lib.hid (show Below w1.heap.size w1 w2 from ⟨hg2.os, hg2.tape, hg2.output, hg2.size, fun i hi => hg2.block i hi (by simp)⟩); clear hrg hg2 hs2)
  (try go_frame)
  clear hD1
  go_loopg [] ((Maps.size D) + 1) (fun kq w' => ∃ (left : Lit → Bool) (cnt : Nat), Aside0 (cnt < kq) ∧ Aside0 (w'.ranges Try.prog 9 rawR bd w1.heap.size ps.length D left cnt ∧ Below w1.heap.size w1 w') ∧ Aside0 (∀ s v, g s = some v → left (lkS s) = false → (zsOf ps s).length ≤ 1))
  case atStart => exact ⟨_, _, ⟨Nat.lt_succ_self _⟩, ⟨HRG.out, HB2.out⟩, ⟨fun s v hs hl => by rw [has_at HD.out, hs] at hl; cases hl⟩⟩
  case round =>
    clear HRG HB2
    obtain ⟨left, cnt, HC, HS, HL⟩ := hrel
    cases gk with
    | zero => exact absurd HC.out (by omega)
    | succ kq =>
      have hrg := HS.out.1
      go_wp2_with (at_next; refine wpList_next_ranges _ rfl _ rfl 9 lawS rawR Value.string id (fun key kl hkey => by obtain ⟨x, hx, _⟩ := Maps.keyOf_str Try.underlying9 hkey; exact ⟨⟨x.toArray⟩, hx⟩) (fun v y hv => ⟨v, rfl⟩) bd w1.heap.size ps.length D left cnt rfl hrg ?_ ?_)
      · intro hc0 hl0
        have hu : uniqB ps = true := uniqB_true HG1.out.has (fun s v hs => HL.out s v hs (hl0 _))
        have HU := Lib.hid hu
        clear hc0 hl0 hrg hu
        go_wp2
        go_ret
        refine ⟨?_, below_then HB1.out hs1 HS.out.2⟩
        rw [HRES.out, HU.out]; rfl
      · intro x c kl d pl w2 cnt2 hkey hlk hv hat hrg2 hlt hg2 hs2 hen
        have hkl : kl = lkS x := by
          obtain ⟨y, hy, rfl, _⟩ := Maps.keyOf_str Try.underlying9 hkey
          unfold encStr at hy
          injection hy with hy
          rw [hy]
          rfl
        have hd : d = .held c := by
          unfold rawR at hv
          injection hv with hv
          injection hv with hv _
          exact hv.symm
        have hgx : g x = some c := atOf_inj (fun z => by rw [← HD.out x z, ← hkl, hat z, hd])
        have hrow := (HG1.out.rows x).1
        rw [hgx, Option.getD_some] at hrow
        obtain ⟨Ac, cc, rfl⟩ := Kd.R_slice hrow
        have hzl : (zsOf ps x).length ≤ 9223372036854775807 := (Kd.R_reads' hrow).2.2.2.1
        have HK := Lib.hid (And.intro hkl hgx)
        have HR2 := Lib.hid (And.intro hrg2 (And.intro hlt (HS.out.2.grown hg2 HS.out.2.size (fun k hk => by cases hk; exact Nat.le_refl _))))
        clear hkey hlk hv hat hrg2 hlt hg2 hs2 hkl hd hgx hrow hrg
        by_cases h1 : 1 < (zsOf ps x).length
        · have HU := Lib.hid (uniqB_false h1)
          have h1' : (1 : Int) < ((zsOf ps x).length : Int) := by omega
          go_wp2
          go_ret
          refine ⟨?_, below_then HB1.out hs1 HR2.out.2.2⟩
          rw [HRES.out, HU.out]; rfl
        · have h1' : ¬ (1 : Int) < ((zsOf ps x).length : Int) := by omega
          have HN := Lib.hid h1
          go_wp2
          go_roundg kq
          case measure => omega
          case rel =>
            refine ⟨_, cnt2, ⟨?_⟩, ⟨HR2.out.1, HR2.out.2.2⟩, ⟨fun s v hs hl => ?_⟩⟩
            · have := HC.out; have := HR2.out.2.1; omega
            · by_cases e : left (lkS s) = false
              · exact HL.out s v hs e
              · have e : left (lkS s) = true := by simpa using e
                rw [e, Bool.true_and, HK.out.1] at hl
                have hsk : (lkS s).sameKey (lkS x) = true := by simpa using hl
                have := lkS_inj _ _ (WideAt.sameKey_eq hsk)
                rw [this]
                have := HN.out
                omega
theorem closure_Unique.calls (A0 : Option Addr) (c0 : Nat) (l0 : List S50) (r : Bool) (w : World) (hr0 : Kd.C k50 w A0 l0.length l0) (hc0 : l0.length ≤ c0) (h : closure_Unique.f l0 = some r) :
    Calls Try.prog 26 #[.slice A0 l0.length c0] w fun e w' => e = .returned (.bool r) ∧ Below w.heap.size w w' :=
  (unique_calls A0 c0 l0 r w hr0 h).mono fun e w' h => h
end Go.Proofs.Ythpjpkcfepmhkaa.PAll
namespace Go.Proofs.Ythpjpkcfepmhkaa.PAll
open Go.RowKit Go.Proofs.YthpjpkcfepmhkaaW.PrintWords Go.Proofs.YthpjpkcfepmhkaaW.PrintLast Go.Proofs.YthpjpkcfepmhkaaW.PrintMore
attribute [local go_sem] max2_int min2_int max_two min_two max_three min_three max_four min_four   -- for this text's walks alone
set_option linter.unusedVariables false
set_option linter.unusedSimpArgs false
def arlinkref04_Numbers.l0 : Nat → List Int → List Int → Int → Option (Bool)
 | 0, _, _, _ => none
 | k + 1, x0, x1, x5 => if x5 < (x0.length : Int) then (if 0 ≤ x5 then (if x5 < (x1.length : Int) then (if (rd x0 x5) = (rd x1 x5) then (arlinkref04_Numbers.l0 k x0 x1 (wrap64 (x5 + 1))) else (some false)) else (none)) else (none)) else (some true)
def arlinkref04_Numbers.f (k : Nat) (l0 : List Int) (l1 : List Int) : Option (Bool) := if (l0.length : Int) = (l1.length : Int) then (arlinkref04_Numbers.l0 k l0 l1 0) else (some false)
set_option maxHeartbeats 8000000 in
set_option maxRecDepth 100000 in
theorem arlinkref04_Numbers.calls (k : Nat) (A0 : Option Addr) (c0 : Nat) (l0 : List Int) (A1 : Option Addr) (c1 : Nat) (l1 : List Int) (r : Bool) (w : World) (hr0 : Kd.C (Kd.int .i64) w A0 l0.length l0) (hc0 : l0.length ≤ c0) (hr1 : Kd.C (Kd.int .i64) w A1 l1.length l1) (hc1 : l1.length ≤ c1) (h : arlinkref04_Numbers.f k l0 l1 = some r) :
  Calls Try.prog 17 #[.slice A0 l0.length c0, .slice A1 l1.length c1] w fun e w' => e = .returned (.bool r) ∧ Drawn0 w w' := by
 have HR0 := Aside0.mk hr0
 have HC0 := Aside0.mk hc0
 clear hr0 hc0
 have HR1 := Aside0.mk hr1
 have HC1 := Aside0.mk hc1
 clear hr1 hc1
 have H : (if (l0.length : Int) = (l1.length : Int) then (arlinkref04_Numbers.l0 k l0 l1 0) else (some false)) = some r := h
 clear h
 by_cases c3 : (l0.length : Int) = (l1.length : Int)
 ·rw [if_pos c3] at H
  have c3b0 : ((l0.length : Int) == (l1.length : Int)) = true := beq_iff_eq.mpr c3
  have c3b1 : ((l0.length : Int) != (l1.length : Int)) = false := bne_eq_false_iff_eq.mpr c3
  have c3b2 : (l0.length == l1.length) = true := by first | simpa using c3 | (simp at c3 ⊢; omega)
  clear c3
  have H' := Aside0.mk H
  clear H
  go_enter Try.func17, Try.ntmps17
  go_wp2
  repeat (go_quiet (fail); try go_wp2)
  go_loopg [5] k (fun kq v5 w' => ∃ (x5_1 : Int), v5 = .int .i64 x5_1 ∧ Aside0 (arlinkref04_Numbers.l0 kq l0 l1 x5_1 = some r) ∧ Aside0 (kq ≤ k) ∧ Drawn0 w w')
  case atStart => exact ⟨(0), (by first | rfl | (simp; done) | (simp [*]; done)), H', ⟨Nat.le_refl _⟩, by repeat (first | exact Drawn0.refl _ | apply Drawn0.step)⟩
  case round =>
   clear H'
   try clear c1
   try clear p2
   try clear c3
   try clear c3b0
   try clear c3b1
   try clear c3b2
   obtain ⟨x5_1, rfl, HA, HK1, ⟨m1, rfl⟩⟩ := hrel
   cases gk with
   | zero => exact absurd HA.out (by simp [arlinkref04_Numbers.l0])
   | succ k1 =>
    have H := HA.out
    clear HA
    simp only [arlinkref04_Numbers.l0] at H
    by_cases c4 : x5_1 < (l0.length : Int)
    ·rw [if_pos c4] at H
     have c4b0 : decide (x5_1 < (l0.length : Int)) = true := decide_eq_true c4
     clear c4
     by_cases c5 : 0 ≤ x5_1
     ·rw [if_pos c5] at H
      have c5b0 : decide (0 ≤ x5_1) = true := decide_eq_true c5
      clear c5
      by_cases c6 : x5_1 < (l1.length : Int)
      ·rw [if_pos c6] at H
       have c6b0 : decide (x5_1 < (l1.length : Int)) = true := decide_eq_true c6
       clear c6
       by_cases c7 : (rd l0 x5_1) = (rd l1 x5_1)
       ·rw [if_pos c7] at H
        have c7b0 : ((rd l0 x5_1) == (rd l1 x5_1)) = true := beq_iff_eq.mpr c7
        have c7b1 : ((rd l0 x5_1) != (rd l1 x5_1)) = false := bne_eq_false_iff_eq.mpr c7
        clear c7
        have H' := Aside0.mk H
        clear H
        have p103 : 0 ≤ (x5_1 : Int) := of_decide_eq_true (by first | (with_reducible assumption) | assumption)
        have q103 : x5_1 < (l0.length : Int) := of_decide_eq_true (by first | (with_reducible assumption) | assumption)
        obtain ⟨ad103, e103, hx103_0⟩ := Kd.at_int HR0.out x5_1 p103 q103
        cases e103
        replace p103 := eq_true p103
        replace q103 := eq_true q103
        have p104 : 0 ≤ (x5_1 : Int) := of_decide_eq_true (by first | (with_reducible assumption) | assumption)
        have q104 : x5_1 < (l1.length : Int) := of_decide_eq_true (by first | (with_reducible assumption) | assumption)
        obtain ⟨ad104, e104, hx104_0⟩ := Kd.at_int HR1.out x5_1 p104 q104
        cases e104
        replace p104 := eq_true p104
        replace q104 := eq_true q104
        go_wp2
        repeat (go_quiet (fail); try go_wp2)
        go_roundg k1
        case measure => have := HK1.out; omega
        case rel => exact ⟨(wrap64 (x5_1 + 1)), (by first | rfl | (simp; done) | (simp [*]; done)), H', ⟨by have := HK1.out; omega⟩, by repeat (first | exact Drawn0.refl _ | apply Drawn0.step)⟩
       ·rw [if_neg c7] at H
        have c7b0 : ((rd l0 x5_1) == (rd l1 x5_1)) = false := beq_eq_false_iff_ne.mpr c7
        have c7b1 : ((rd l0 x5_1) != (rd l1 x5_1)) = true := bne_iff_ne.mpr c7
        obtain rfl := Option.some.inj H
        have p103 : 0 ≤ (x5_1 : Int) := of_decide_eq_true (by first | (with_reducible assumption) | assumption)
        have q103 : x5_1 < (l0.length : Int) := of_decide_eq_true (by first | (with_reducible assumption) | assumption)
        obtain ⟨ad103, e103, hx103_0⟩ := Kd.at_int HR0.out x5_1 p103 q103
        cases e103
        replace p103 := eq_true p103
        replace q103 := eq_true q103
        have p104 : 0 ≤ (x5_1 : Int) := of_decide_eq_true (by first | (with_reducible assumption) | assumption)
        have q104 : x5_1 < (l1.length : Int) := of_decide_eq_true (by first | (with_reducible assumption) | assumption)
        obtain ⟨ad104, e104, hx104_0⟩ := Kd.at_int HR1.out x5_1 p104 q104
        cases e104
        replace p104 := eq_true p104
        replace q104 := eq_true q104
        go_wp2
        repeat (go_quiet (fail); try go_wp2)
        go_ret
        exact ⟨by first | rfl | (simp; done) | (simp [*]; done), by repeat (first | exact Drawn0.refl _ | apply Drawn0.step)⟩
      ·rw [if_neg c6] at H
       exact absurd H (by simp)
     ·rw [if_neg c5] at H
      exact absurd H (by simp)
    ·rw [if_neg c4] at H
     have c4b0 : decide (x5_1 < (l0.length : Int)) = false := decide_eq_false c4
     clear c4
     obtain rfl := Option.some.inj H
     go_wp2
     repeat (go_quiet (fail); try go_wp2)
     go_ret
     exact ⟨by first | rfl | (simp; done) | (simp [*]; done), by repeat (first | exact Drawn0.refl _ | apply Drawn0.step)⟩
 ·rw [if_neg c3] at H
  have c3b0 : ((l0.length : Int) == (l1.length : Int)) = false := beq_eq_false_iff_ne.mpr c3
  have c3b1 : ((l0.length : Int) != (l1.length : Int)) = true := bne_iff_ne.mpr c3
  have c3b2 : (l0.length == l1.length) = false := by first | simpa using c3 | (simp at c3 ⊢; omega)
  obtain rfl := Option.some.inj H
  go_enter Try.func17, Try.ntmps17
  go_wp2
  repeat (go_quiet (fail); try go_wp2)
  go_ret
  exact ⟨by first | rfl | (simp; done) | (simp [*]; done), by repeat (first | exact Drawn0.refl _ | apply Drawn0.step)⟩
-- NOT PRINTED: function 46 (order_reach)
-- PROVED BY HAND: function 18 (order_Cycle)
end Go.Proofs.Ythpjpkcfepmhkaa.PAll
namespace Go.Proofs.Ythpjpkcfepmhkaa.PAll
open Go.RowKit Go.Proofs.YthpjpkcfepmhkaaW.PrintWords Go.Proofs.YthpjpkcfepmhkaaW.PrintLast Go.Proofs.YthpjpkcfepmhkaaW.PrintMore
set_option linter.unusedVariables false
set_option linter.unusedSimpArgs false
def nF : ByteArray := ⟨#[102]⟩
def nG : ByteArray := ⟨#[103]⟩
def oA : List S50 := [⟨[⟨nF, 4, 0, 0⟩], []⟩]
def m1A : S50 := ⟨[⟨nG, 2, 0, 0⟩], []⟩
def mA : List S50 := [⟨[⟨nF, 1, 0, 0⟩, ⟨nG, 4, 0, 0⟩], []⟩, m1A, ⟨[], []⟩]
theorem awake_why1 : closure_Why.f oA mA 1 = some ([0, 1], true) := by kernel_rfl
theorem awake_why2 : closure_Why.f oA mA 2 = some ([], false) := by kernel_rfl
theorem awake_why3 : closure_Why.f oA mA 3 = some ([], false) := by kernel_rfl
theorem awake_needed : closure_Needed.f oA mA = some [0, 1] := by kernel_rfl
theorem awake_uniq1 : closure_Unique.f mA = some true := by kernel_rfl
theorem awake_uniq2 : closure_Unique.f [m1A, m1A] = some false := by kernel_rfl
theorem awake_numbers : arlinkref04_Numbers.f 5 [0, 1] [0, 1] = some true := by kernel_rfl
def arlinklaw22_awake.f : Option Bool := some true
theorem C_blk {α : Type} (d : Kd α) {w : World} {g t : Nat} {xs : List α} {inner : List Value} (hb : w.heap[g]? = some (.cells inner.toArray t (0, 0))) (hr : Reps (d.K w) d.sz xs inner) (hm : xs.length ≤ 9223372036854775807) : d.C w (some ⟨g, 0, none⟩) xs.length xs := by
  refine ⟨rfl, hm, fun h0 => ⟨_, rfl, fun j p hj => ⟨(inner.drop (j * d.sz)).take d.sz, d.K_len (hr.2 j p hj), hr.2 j p hj, fun i u hu => ?_⟩⟩⟩
  rw [add_plain, blk_cell hb]
  rw [List.getElem?_take] at hu
  split at hu
  · rw [List.getElem?_drop] at hu
    rw [List.getElem?_toArray]
    exact hu
  · cases hu
theorem nil_C {α : Type} (d : Kd α) (w : World) : d.C w none ([] : List α).length [] := ⟨rfl, by simp, fun h => absurd h (by simp)⟩
structure AWk (w W : World) (b0 b1 b2 b3 b4 : Nat) : Prop where
  B : Below w.heap.size w W
  h0 : W.heap[b0]? = some (.cells #[.string ⟨#[102]⟩, .int .i64 4, .int .i64 0, .int .i64 0] 55 (0, 0))
  h1 : W.heap[b1]? = some (.cells #[.slice (some ⟨b0, 0, none⟩) 1 1, .slice none 0 0] 50 (0, 0))
  h2 : W.heap[b2]? = some (.cells #[.string ⟨#[102]⟩, .int .i64 1, .int .i64 0, .int .i64 0, .string ⟨#[103]⟩, .int .i64 4, .int .i64 0, .int .i64 0] 55 (0, 0))
  h3 : W.heap[b3]? = some (.cells #[.string ⟨#[103]⟩, .int .i64 2, .int .i64 0, .int .i64 0] 55 (0, 0))
  h4 : W.heap[b4]? = some (.cells #[.slice (some ⟨b2, 0, none⟩) 2 2, .slice none 0 0, .slice (some ⟨b3, 0, none⟩) 1 1, .slice none 0 0, .slice none 0 0, .slice none 0 0] 50 (0, 0))
section
variable {w W W' : World} {b0 b1 b2 b3 b4 : Nat}
theorem AWk.below (h : AWk w W b0 b1 b2 b3 b4) (hb : Below W.heap.size W W') : AWk w W' b0 b1 b2 b3 b4 :=
  ⟨below_then h.B h.B.size hb, blk_below h.h0 hb, blk_below h.h1 hb, blk_below h.h2 hb, blk_below h.h3 hb, blk_below h.h4 hb⟩
theorem AWk.o (h : AWk w W b0 b1 b2 b3 b4) : Kd.C k50 W (some ⟨b1, 0, none⟩) oA.length oA := by
  have s0 : Kd.C k55 W (some ⟨b0, 0, none⟩) _ [⟨nF, 4, 0, 0⟩] := C_blk k55 (inner := [.string nF, .int .i64 4, .int .i64 0, .int .i64 0]) h.h0 ((Reps.none (k55.K W) 4).snoc (k55_mk W ⟨nF, 4, 0, 0⟩) rfl) (by simp)
  exact C_blk k50 (xs := oA) (inner := [.slice (some ⟨b0, 0, none⟩) 1 1, .slice none 0 0]) h.h1 ((Reps.none (k50.K W) 2).snoc (k50_mk W ⟨[⟨nF, 4, 0, 0⟩], []⟩ (c0 := 1) (c1 := 0) (Nat.le_refl _) s0 (Nat.le_refl _) (nil_C _ W)) rfl) (by simp [oA])
theorem AWk.s3 (h : AWk w W b0 b1 b2 b3 b4) : k50.K W m1A [.slice (some ⟨b3, 0, none⟩) 1 1, .slice none 0 0] := by
  have s0 : Kd.C k55 W (some ⟨b3, 0, none⟩) _ [⟨nG, 2, 0, 0⟩] := C_blk k55 (inner := [.string nG, .int .i64 2, .int .i64 0, .int .i64 0]) h.h3 ((Reps.none (k55.K W) 4).snoc (k55_mk W ⟨nG, 2, 0, 0⟩) rfl) (by simp)
  exact k50_mk W m1A (c0 := 1) (c1 := 0) (Nat.le_refl _) s0 (Nat.le_refl _) (nil_C _ W)
theorem AWk.m (h : AWk w W b0 b1 b2 b3 b4) : Kd.C k50 W (some ⟨b4, 0, none⟩) mA.length mA := by
  have r2 := ((Reps.none (k55.K W) 4).snoc (k55_mk W ⟨nF, 1, 0, 0⟩) rfl).snoc (k55_mk W ⟨nG, 4, 0, 0⟩) rfl
  have s0 : Kd.C k55 W (some ⟨b2, 0, none⟩) ([⟨nF, 1, 0, 0⟩, ⟨nG, 4, 0, 0⟩] : List S55).length [⟨nF, 1, 0, 0⟩, ⟨nG, 4, 0, 0⟩] := by
    refine C_blk (t := 55) k55 ?_ r2 (by simp)
    exact h.h2
  have r4 := (((Reps.none (k50.K W) 2).snoc (k50_mk W ⟨[⟨nF, 1, 0, 0⟩, ⟨nG, 4, 0, 0⟩], []⟩ (c0 := 2) (c1 := 0) (Nat.le_refl _) s0 (Nat.le_refl _) (nil_C _ W)) rfl).snoc h.s3 rfl).snoc (k50_mk W ⟨[], []⟩ (c0 := 0) (c1 := 0) (Nat.le_refl _) (nil_C k55 W) (Nat.le_refl _) (nil_C _ W)) rfl
  refine C_blk (t := 50) k50 (xs := mA) ?_ r4 (by simp [mA])
  exact h.h4
theorem AWk.two (h : AWk w W b0 b1 b2 b3 b4) {g : Nat} (hg : W.heap[g]? = some (.cells #[.slice (some ⟨b3, 0, none⟩) 1 1, .slice none 0 0, .slice (some ⟨b3, 0, none⟩) 1 1, .slice none 0 0] 50 (0, 0))) : Kd.C k50 W (some ⟨g, 0, none⟩) [m1A, m1A].length [m1A, m1A] := by
  have r := ((Reps.none (k50.K W) 2).snoc h.s3 rfl).snoc h.s3 rfl
  refine C_blk (t := 50) k50 (xs := [m1A, m1A]) ?_ r (by simp)
  exact hg
end
theorem two_C {W : World} {g : Nat} (hg : W.heap[g]? = some (.cells #[.int .i64 0, .int .i64 1] 3 (0, 0))) : KI.C W (some ⟨g, 0, none⟩) ([0, 1] : List Int).length [0, 1] := by
  have r := ((Reps.none (KI.K W) 1).snoc (p := (0 : Int)) (c := [.int .i64 0]) rfl rfl).snoc (p := (1 : Int)) (c := [.int .i64 1]) rfl rfl
  refine C_blk (t := 3) KI (xs := [0, 1]) ?_ r (by simp)
  exact hg
theorem AWk.start (w : World) : AWk w (((((w.alloc (.cells #[.string ⟨#[102]⟩, .int .i64 4, .int .i64 0, .int .i64 0] 55)).alloc (.cells #[.slice (some ⟨w.heap.size, 0, none⟩) 1 1, .slice none 0 0] 50)).alloc
      (.cells #[.string ⟨#[102]⟩, .int .i64 1, .int .i64 0, .int .i64 0, .string ⟨#[103]⟩, .int .i64 4, .int .i64 0, .int .i64 0] 55)).alloc (.cells #[.string ⟨#[103]⟩, .int .i64 2, .int .i64 0, .int .i64 0] 55)).alloc
      (.cells #[.slice (some ⟨w.heap.size + 1 + 1, 0, none⟩) 2 2, .slice none 0 0, .slice (some ⟨w.heap.size + 1 + 1 + 1, 0, none⟩) 1 1, .slice none 0 0, .slice none 0 0, .slice none 0 0] 50)) w.heap.size (w.heap.size + 1) (w.heap.size + 1 + 1) (w.heap.size + 1 + 1 + 1) (w.heap.size + 1 + 1 + 1 + 1) := by
  have key : ∀ (W : World) (n : Nat) (o : Obj), W.heap.size = n → (W.alloc o).heap.size = n + 1 ∧ (W.alloc o).heap[n]? = some o := by
    rintro W n o rfl
    exact ⟨by go_simp, heap_alloc_new W o⟩
  obtain ⟨z1, r1⟩ := key w _ (.cells #[.string ⟨#[102]⟩, .int .i64 4, .int .i64 0, .int .i64 0] 55) rfl
  have B1 := below_alloc (Below.refl w.heap.size w) (.cells #[.string ⟨#[102]⟩, .int .i64 4, .int .i64 0, .int .i64 0] 55)
  generalize w.alloc (.cells #[.string ⟨#[102]⟩, .int .i64 4, .int .i64 0, .int .i64 0] 55) = w1 at *
  obtain ⟨z2, r2⟩ := key w1 _ (.cells #[.slice (some ⟨w.heap.size, 0, none⟩) 1 1, .slice none 0 0] 50) z1
  have B2 := below_alloc (Below.refl w1.heap.size w1) (.cells #[.slice (some ⟨w.heap.size, 0, none⟩) 1 1, .slice none 0 0] 50)
  generalize w1.alloc (.cells #[.slice (some ⟨w.heap.size, 0, none⟩) 1 1, .slice none 0 0] 50) = w2 at *
  obtain ⟨z3, r3⟩ := key w2 _ (.cells #[.string ⟨#[102]⟩, .int .i64 1, .int .i64 0, .int .i64 0, .string ⟨#[103]⟩, .int .i64 4, .int .i64 0, .int .i64 0] 55) z2
  have B3 := below_alloc (Below.refl w2.heap.size w2) (.cells #[.string ⟨#[102]⟩, .int .i64 1, .int .i64 0, .int .i64 0, .string ⟨#[103]⟩, .int .i64 4, .int .i64 0, .int .i64 0] 55)
  generalize w2.alloc (.cells #[.string ⟨#[102]⟩, .int .i64 1, .int .i64 0, .int .i64 0, .string ⟨#[103]⟩, .int .i64 4, .int .i64 0, .int .i64 0] 55) = w3 at *
  obtain ⟨z4, r4⟩ := key w3 _ (.cells #[.string ⟨#[103]⟩, .int .i64 2, .int .i64 0, .int .i64 0] 55) z3
  have B4 := below_alloc (Below.refl w3.heap.size w3) (.cells #[.string ⟨#[103]⟩, .int .i64 2, .int .i64 0, .int .i64 0] 55)
  generalize w3.alloc (.cells #[.string ⟨#[103]⟩, .int .i64 2, .int .i64 0, .int .i64 0] 55) = w4 at *
  obtain ⟨z5, r5⟩ := key w4 _ (.cells #[.slice (some ⟨w.heap.size + 1 + 1, 0, none⟩) 2 2, .slice none 0 0, .slice (some ⟨w.heap.size + 1 + 1 + 1, 0, none⟩) 1 1, .slice none 0 0, .slice none 0 0, .slice none 0 0] 50) z4
  have B5 := below_alloc (Below.refl w4.heap.size w4) (.cells #[.slice (some ⟨w.heap.size + 1 + 1, 0, none⟩) 2 2, .slice none 0 0, .slice (some ⟨w.heap.size + 1 + 1 + 1, 0, none⟩) 1 1, .slice none 0 0, .slice none 0 0, .slice none 0 0] 50)
  generalize w4.alloc (.cells #[.slice (some ⟨w.heap.size + 1 + 1, 0, none⟩) 2 2, .slice none 0 0, .slice (some ⟨w.heap.size + 1 + 1 + 1, 0, none⟩) 1 1, .slice none 0 0, .slice none 0 0, .slice none 0 0] 50) = w5 at *
  exact ⟨below_then (below_then (below_then (below_then B1 (by omega) B2) (by omega) B3) (by omega) B4) (by omega) B5, blk_below (blk_below (blk_below (blk_below r1 B2) B3) B4) B5, blk_below (blk_below (blk_below r2 B3) B4) B5, blk_below (blk_below r3 B4) B5, blk_below r4 B5, r5⟩
theorem need22 (b1 b4 : Nat) (W : World) (ho : Kd.C k50 W (some ⟨b1, 0, none⟩) oA.length oA) (hm : Kd.C k50 W (some ⟨b4, 0, none⟩) mA.length mA) :
    Calls Try.prog 25 #[.slice (some ⟨b1, 0, none⟩) 1 1, .slice (some ⟨b4, 0, none⟩) 3 3] W fun e w' => ∃ (A : Option Addr) (c : Nat), e = .returned (.slice A 2 c) ∧ KI.R 3 w' W.heap.size (fun _ => True) (.slice A 2 c) [0, 1] ∧ Below W.heap.size W w' :=
  (closure_Needed.calls (some ⟨b1, 0, none⟩) 1 oA (some ⟨b4, 0, none⟩) 3 mA [0, 1] W ho (Nat.le_refl _) hm (Nat.le_refl _) awake_needed).mono fun e w' ⟨v, h1, h2, h3⟩ => by
    obtain ⟨A, c, rfl⟩ := Kd.R_slice h2
    exact ⟨A, c, h1, h2, h3⟩
theorem num22 (A : Option Addr) (c g : Nat) (base : Nat) (W : World) (hR : KI.R 3 W base (fun _ => True) (.slice A 2 c) [0, 1]) (hg : W.heap[g]? = some (.cells #[.int .i64 0, .int .i64 1] 3 (0, 0))) :
    Calls Try.prog 17 #[.slice A 2 c, .slice (some ⟨g, 0, none⟩) 2 2] W fun e w' => e = .returned (.bool true) ∧ Below W.heap.size W w' :=
  (arlinkref04_Numbers.calls 5 A c [0, 1] (some ⟨g, 0, none⟩) 2 [0, 1] true W (Kd.R_reads' hR).2.2 (Kd.R_reads' hR).2.1 (two_C hg) (Nat.le_refl _) awake_numbers).mono fun e w' ⟨h1, h2⟩ => ⟨h1, h2.below⟩
theorem uniq22 (b4 : Nat) (W : World) (hm : Kd.C k50 W (some ⟨b4, 0, none⟩) mA.length mA) : Calls Try.prog 26 #[.slice (some ⟨b4, 0, none⟩) 3 3] W fun e w' => e = .returned (.bool true) ∧ Below W.heap.size W w' :=
  closure_Unique.calls (some ⟨b4, 0, none⟩) 3 mA true W hm (Nat.le_refl _) awake_uniq1
theorem uniq22' (g : Nat) (W : World) (hm : Kd.C k50 W (some ⟨g, 0, none⟩) [m1A, m1A].length [m1A, m1A]) : Calls Try.prog 26 #[.slice (some ⟨g, 0, none⟩) 2 2] W fun e w' => e = .returned (.bool false) ∧ Below W.heap.size W w' :=
  closure_Unique.calls (some ⟨g, 0, none⟩) 2 [m1A, m1A] false W hm (Nat.le_refl _) awake_uniq2
theorem AWk.cells {w W : World} {b0 b1 b2 b3 b4 : Nat} (h : AWk w W b0 b1 b2 b3 b4) : W.cell? ⟨b4, 2, none⟩ = some (.slice (some ⟨b3, 0, none⟩) 1 1) ∧ W.cell? ⟨b4, 3, none⟩ = some (.slice none 0 0) :=
  ⟨(blk_cell h.h4 2).trans rfl, (blk_cell h.h4 3).trans rfl⟩
def awake22_T : Bool × List (List Nat × List Nat) := (true, [([], []), ([], []), ([0, 1], [0, 1]), ([], []), ([2, 3, 2], [2, 3]), ([4, 4], [4]), ([5], [5]), ([5], [5]), ([6, 7, 5, 5], [5, 6, 7]), ([5, 8], [5, 8]), ([9, 8], [9]), ([10], [10]), ([10, 11], [10, 11]), ([12, 10], [12]), ([13], [13]), ([14, 13], [13, 14]), ([13, 15], [13, 15]), ([16, 13], [16]), ([17], [17]), ([18, 17], [17, 18]), ([17, 19], [17, 19]), ([20, 17], [20]), ([21], [21]), ([22, 21, 21], [21, 22]), ([21, 23], [21, 23]), ([24, 23], [24]), ([25], [25]), ([26, 25], [25, 26]), ([27, 25], [25, 27]), ([25], [25]), ([29, 25], [25, 29]), ([30, 25], [25, 30]), ([28, 31, 25], [25, 28, 31]), ([32, 25, 25], [25, 32]), ([33, 25], [25, 33]), ([25, 34], [25, 34]), ([35, 33, 0, 1, 2, 3, 4, 5, 6, 7, 8, 9, 10, 11, 12, 13, 14, 15, 16, 17, 18, 19, 20, 21, 22, 23, 24, 25, 26, 27, 28, 29, 30, 31, 32, 33, 34, 35], [35])])
theorem awake22_tab : rtab .any (opsOf Try.f22 6) = awake22_T := by kernel_rfl
set_option maxRecDepth 10000 in
set_option maxHeartbeats 400000000 in
theorem awake22_calls (w : World) : Calls Try.prog 22 #[] w fun e w' => e = .returned (.bool true) ∧ Below w.heap.size w w' := by
  go_enter Try.func22, Try.ntmps22
  go_wp2_with fail
  have HA := Lib.hid (AWk.start w)
  generalize w.heap.size + 1 + 1 + 1 + 1 = b4 at *
  generalize w.heap.size + 1 + 1 + 1 = b3 at *
  generalize w.heap.size + 1 + 1 = b2 at *
  generalize w.heap.size + 1 = b1 at *
  generalize ((((w.alloc (.cells #[.string ⟨#[102]⟩, .int .i64 4, .int .i64 0, .int .i64 0] 55)).alloc (.cells #[.slice (some ⟨w.heap.size, 0, none⟩) 1 1, .slice none 0 0] 50)).alloc
      (.cells #[.string ⟨#[102]⟩, .int .i64 1, .int .i64 0, .int .i64 0, .string ⟨#[103]⟩, .int .i64 4, .int .i64 0, .int .i64 0] 55)).alloc (.cells #[.string ⟨#[103]⟩, .int .i64 2, .int .i64 0, .int .i64 0] 55)).alloc
      (.cells #[.slice (some ⟨b2, 0, none⟩) 2 2, .slice none 0 0, .slice (some ⟨b3, 0, none⟩) 1 1, .slice none 0 0, .slice none 0 0, .slice none 0 0] 50) = w1 at *
  refine (closure_Why.calls (some ⟨b1, 0, none⟩) 1 oA (some ⟨b4, 0, none⟩) 3 mA 1 [0, 1] true w1 HA.out.o (Nat.le_refl _) HA.out.m (Nat.le_refl _) awake_why1).mono ?_
  rintro e w2 ⟨v1, rfl, hR1, hb1⟩
  obtain ⟨Aa, ca, rfl⟩ := Kd.R_slice hR1
  have HA2 := Lib.hid (HA.out.below hb1)
  have HR2 := Lib.hid (Kd.R_lower hR1 (below_size HA.out.B))
  clear HA hR1 hb1
  go_wp2_with fail
  refine (closure_Why.calls (some ⟨b1, 0, none⟩) 1 oA (some ⟨b4, 0, none⟩) 3 mA 2 [] false w2 HA2.out.o (Nat.le_refl _) HA2.out.m (Nat.le_refl _) awake_why2).mono ?_
  rintro e w3 ⟨v2, rfl, _, hb2⟩
  have HA3 := Lib.hid (HA2.out.below hb2)
  have HR3 := Lib.hid (Kd.R_below HR2.out hb2)
  clear HA2 HR2 hb2
  go_wp2_with fail
  refine (closure_Why.calls (some ⟨b1, 0, none⟩) 1 oA (some ⟨b4, 0, none⟩) 3 mA 3 [] false w3 HA3.out.o (Nat.le_refl _) HA3.out.m (Nat.le_refl _) awake_why3).mono ?_
  rintro e w4 ⟨v3, rfl, _, hb3⟩
  have HA4 := Lib.hid (HA3.out.below hb3)
  have HR4 := Lib.hid (Kd.R_below HR3.out hb3)
  clear HA3 HR3 hb3
  go_wp2
  have HA0 := Lib.hid (HA4.out.below (below_drew (Below.refl _ _)))
  have HR0 := Lib.hid (Kd.R_below HR4.out (below_drew (Below.refl _ _)))
  clear HA4 HR4
  refine start_ (n := 37) (S := fun w' => w'.cell? ⟨b4, 2, none⟩ = some (.slice (some ⟨b3, 0, none⟩) 1 1) ∧ w'.cell? ⟨b4, 3, none⟩ = some (.slice none 0 0)) (ds := []) #[false, false, false, false, false, false, false, false, false, false, false, false, false, false, false, false, false, false, false, false, false, false, false, false, false, false, false, false, false, false, false, false, false, false, false, false, false] (by kernel_rfl) rfl rfl HA0.out.cells (fun hHeld => ?_); refine with_tab awake22_tab (fun HT_ => ?_)
  generalize w4.drew = w5 at HA0 HR0 hHeld ⊢
  refine pure_ (i := 0) (N := some 40) (v := ?_) (a' := ?_) #[true, false, false, false, false, false, false, false, false, false, false, false, false, false, false, false, false, false, false, false, false, false, false, false, false, false, false, false, false, false, false, false, false, false, false, false, false] rfl rfl (any_of HT_.out (by kernel_rfl)) (fun _ _ _ h => h) (Or.inl ⟨by rfl, ?_⟩) ?_ ?_
  rotate_left
  · intro w'
    go_simp
    with_reducible rfl
  rotate_left
  · simp only [Act.put, List.setIfInBounds_toArray, List.set_cons_zero, List.set_cons_succ, i64_w, i32_w]
    rfl
  refine pure_ (i := 1) (N := some 41) (v := ?_) (a' := ?_) #[true, true, false, false, false, false, false, false, false, false, false, false, false, false, false, false, false, false, false, false, false, false, false, false, false, false, false, false, false, false, false, false, false, false, false, false, false] rfl rfl (any_of HT_.out (by kernel_rfl)) (fun _ _ _ h => h) (Or.inl ⟨by rfl, ?_⟩) ?_ ?_
  rotate_left
  · intro w'
    go_simp
    with_reducible rfl
  rotate_left
  · simp only [Act.put, List.setIfInBounds_toArray, List.set_cons_zero, List.set_cons_succ, i64_w, i32_w]
    rfl
  refine join_ (σ := Option Addr × Nat × Nat) 33 #[true, true, true, true, false, false, false, false, false, false, false, false, false, false, false, false, false, false, false, false, false, false, false, false, false, false, false, false, false, false, false, false, false, false, false, false, false] (fun s_ => [(42, .slice s_.1 2 s_.2.1), (43, .slice (some ⟨s_.2.2, 0, none⟩) 2 2)]) (fun s_ w' => AWk w w' w.heap.size b1 b2 b3 b4 ∧ KI.R 3 w' w.heap.size (fun _ => True) (.slice Aa 2 ca) [0, 1] ∧ (∃ base, KI.R 3 w' base (fun _ => True) (.slice s_.1 2 s_.2.1) [0, 1]) ∧ w'.heap[s_.2.2]? = some (.cells #[.int .i64 0, .int .i64 1] 3)) ?_ ?_
  rotate_left
  · intro hCont
    refine two_ (i := 2) (j := 3) (Ni := some 42) (Nj := some 43) #[true, true, true, false, false, false, false, false, false, false, false, false, false, false, false, false, false, false, false, false, false, false, false, false, false, false, false, false, false, false, false, false, false, false, false, false, false] #[true, true, false, true, false, false, false, false, false, false, false, false, false, false, false, false, false, false, false, false, false, false, false, false, false, false, false, false, false, false, false, false, false, false, false, false, false] rfl rfl rfl rfl (two_of HT_.out (by kernel_rfl)) (by decide) (by decide) (fun K hK => ?_) (fun K hK => ?_)
    · skip
      refine goes_ Try.func25 (by kernel_rfl) rfl #[.slice (some ⟨b1, 0, none⟩) 1 1, .slice (some ⟨b4, 0, none⟩) 3 3] (by rfl) rfl rfl (by (try simp only [List.map_toArray, List.map_cons, List.map_nil]); first | done | rfl) ?_
      refine (need22 b1 b4 _ HA0.out.o HA0.out.m).mono ?_
      rintro e w6 ⟨Av, cv, rfl, hR, hb⟩
      refine ⟨_, rfl, ?_⟩
      have HA6 := Lib.hid (HA0.out.below hb)
      have HR6 := Lib.hid (Kd.R_below HR0.out hb)
      have HV6 := Lib.hid hR
      clear hR hb HA0 HR0
      refine hK.out _ _ HA6.out.cells (fun hHeld => ?_)
      clear hK K
      refine norm_ (a' := ?_) ?_ ?_
      rotate_left
      · show Act.put _ (some 42) _ = _
        simp only [Act.put, List.setIfInBounds_toArray, List.set_cons_zero, List.set_cons_succ, i64_w, i32_w]
        rfl
      refine one_ (i := 3) (N := some 43) #[true, true, true, true, false, false, false, false, false, false, false, false, false, false, false, false, false, false, false, false, false, false, false, false, false, false, false, false, false, false, false, false, false, false, false, false, false] rfl rfl (one_of HT_.out (by kernel_rfl)) (by decide) (fun K hK => ?_)
      refine value_ (w1 := ?_) (v := ?_) (by rfl) rfl ?_ ?_
      rotate_left 2
      · go_simp
        constructor
        · rfl
        · rfl
      have HA7 := Lib.hid (HA6.out.below (below_alloc (Below.refl _ _) (.cells #[.int .i64 0, .int .i64 1] 3)))
      refine hK.out _ _ HA7.out.cells (fun hHeld => ?_)
      clear hK K
      refine norm_ (a' := ?_) ?_ ?_
      rotate_left
      · show Act.put _ (some 43) _ = _
        simp only [Act.put, List.setIfInBounds_toArray, List.set_cons_zero, List.set_cons_succ, i64_w, i32_w]
        rfl
      exact norm_ (by simp only [putAll, Act.put, List.setIfInBounds_toArray, List.set_cons_zero, List.set_cons_succ]) (hCont (Av, cv, w6.heap.size) _ ⟨HA7.out, Kd.R_alloc HR6.out _, ⟨_, Kd.R_alloc HV6.out _⟩, heap_alloc_new w6 _⟩)
    · skip
      refine value_ (w1 := ?_) (v := ?_) (by rfl) rfl ?_ ?_
      rotate_left 2
      · go_simp
        constructor
        · rfl
        · rfl
      have HL0 := Lib.hid (heap_alloc_new w5 (.cells #[.int .i64 0, .int .i64 1] 3))
      have HA6 := Lib.hid (HA0.out.below (below_alloc (Below.refl _ _) (.cells #[.int .i64 0, .int .i64 1] 3)))
      have HR6 := Lib.hid (Kd.R_alloc HR0.out (.cells #[.int .i64 0, .int .i64 1] 3))
      refine hK.out _ _ HA6.out.cells (fun hHeld => ?_)
      clear hK K
      refine norm_ (a' := ?_) ?_ ?_
      rotate_left
      · show Act.put _ (some 43) _ = _
        simp only [Act.put, List.setIfInBounds_toArray, List.set_cons_zero, List.set_cons_succ, i64_w, i32_w]
        rfl
      refine one_ (i := 2) (N := some 42) #[true, true, true, true, false, false, false, false, false, false, false, false, false, false, false, false, false, false, false, false, false, false, false, false, false, false, false, false, false, false, false, false, false, false, false, false, false] rfl rfl (one_of HT_.out (by kernel_rfl)) (by decide) (fun K hK => ?_)
      refine goes_ Try.func25 (by kernel_rfl) rfl #[.slice (some ⟨b1, 0, none⟩) 1 1, .slice (some ⟨b4, 0, none⟩) 3 3] (by rfl) rfl rfl (by (try simp only [List.map_toArray, List.map_cons, List.map_nil]); first | done | rfl) ?_
      refine (need22 b1 b4 _ HA6.out.o HA6.out.m).mono ?_
      rintro e w7 ⟨Av, cv, rfl, hR, hb⟩
      refine ⟨_, rfl, ?_⟩
      have HA7 := Lib.hid (HA6.out.below hb)
      have HR7 := Lib.hid (Kd.R_below HR6.out hb)
      have HV7 := Lib.hid hR
      have HL7 := Lib.hid (blk_below HL0.out hb)
      clear hR hb HA0 HR0 HL0
      refine hK.out _ _ HA7.out.cells (fun hHeld => ?_)
      clear hK K
      refine norm_ (a' := ?_) ?_ ?_
      rotate_left
      · show Act.put _ (some 42) _ = _
        simp only [Act.put, List.setIfInBounds_toArray, List.set_cons_zero, List.set_cons_succ, i64_w, i32_w]
        rfl
      exact norm_ (by simp only [putAll, Act.put, List.setIfInBounds_toArray, List.set_cons_zero, List.set_cons_succ]) (hCont (Av, cv, w5.heap.size) _ ⟨HA7.out, HR7.out, ⟨_, HV7.out⟩, HL7.out⟩)
  rintro ⟨Av, cv, gl⟩ w8 ⟨hA, hR, ⟨base, hV⟩, hL⟩
  have HA8 := Lib.hid hA; have HR8 := Lib.hid hR; have HV8 := Lib.hid hV; have HL8 := Lib.hid hL; have hHeld := hA.cells
  clear hA hR hV hL HA0 HR0
  refine norm_ (a' := ?_) ?_ ?_
  rotate_left
  · simp only [putAll, Act.put, List.setIfInBounds_toArray, List.set_cons_zero, List.set_cons_succ]
    rfl
  refine one_ (i := 4) (N := some 44) #[true, true, true, true, true, false, false, false, false, false, false, false, false, false, false, false, false, false, false, false, false, false, false, false, false, false, false, false, false, false, false, false, false, false, false, false, false] rfl rfl (one_of HT_.out (by kernel_rfl)) (by decide) (fun K hK => ?_)
  refine goes_ Try.func17 (by kernel_rfl) rfl #[.slice Av 2 cv, .slice (some ⟨gl, 0, none⟩) 2 2] (by rfl) rfl rfl (by (try simp only [List.map_toArray, List.map_cons, List.map_nil]); first | done | rfl) ?_
  refine (num22 Av cv gl base w8 HV8.out HL8.out).mono ?_
  rintro e w9 ⟨rfl, hb⟩
  refine ⟨_, rfl, ?_⟩
  have HA9 := Lib.hid (HA8.out.below hb)
  have HR9 := Lib.hid (Kd.R_below HR8.out hb)
  clear hb HA8 HR8 HV8 HL8
  refine hK.out _ _ HA9.out.cells (fun hHeld => ?_)
  clear hK K
  refine norm_ (a' := ?_) ?_ ?_
  rotate_left
  · show Act.put _ (some 44) _ = _
    simp only [Act.put, List.setIfInBounds_toArray, List.set_cons_zero, List.set_cons_succ, i64_w, i32_w]
    rfl
  refine pure_ (i := 5) (N := some 45) (v := ?_) (a' := ?_) #[true, true, true, true, true, true, false, false, false, false, false, false, false, false, false, false, false, false, false, false, false, false, false, false, false, false, false, false, false, false, false, false, false, false, false, false, false] rfl rfl (any_of HT_.out (by kernel_rfl)) (fun _ _ _ h => h) (Or.inl ⟨by rfl, ?_⟩) ?_ ?_
  rotate_left
  · intro w'
    go_simp
    with_reducible rfl
  rotate_left
  · simp only [Act.put, List.setIfInBounds_toArray, List.set_cons_zero, List.set_cons_succ, i64_w, i32_w]
    rfl
  refine pure_ (i := 6) (N := some 46) (v := ?_) (a' := ?_) #[true, true, true, true, true, true, true, false, false, false, false, false, false, false, false, false, false, false, false, false, false, false, false, false, false, false, false, false, false, false, false, false, false, false, false, false, false] rfl rfl (any_of HT_.out (by kernel_rfl)) (fun _ _ _ h => h) (Or.inl ⟨by rfl, ?_⟩) ?_ ?_
  rotate_left
  · intro w'
    go_simp
    with_reducible rfl
  rotate_left
  · simp only [Act.put, List.setIfInBounds_toArray, List.set_cons_zero, List.set_cons_succ, i64_w, i32_w]
    rfl
  refine one_ (i := 7) (N := some 47) #[true, true, true, true, true, true, true, true, false, false, false, false, false, false, false, false, false, false, false, false, false, false, false, false, false, false, false, false, false, false, false, false, false, false, false, false, false] rfl rfl (one_of HT_.out (by kernel_rfl)) (by decide) (fun K hK => ?_)
  refine value_ (w1 := ?_) (v := ?_) (by rfl) rfl ?_ ?_
  rotate_left 2
  · go_simp
    constructor
    · rfl
    · rfl
  have HL9 := Lib.hid (heap_alloc_new w9 (.cells #[.int .i64 0, .int .i64 1] 3))
  have HA10 := Lib.hid (HA9.out.below (below_alloc (Below.refl _ _) (.cells #[.int .i64 0, .int .i64 1] 3)))
  have HR10 := Lib.hid (Kd.R_alloc HR9.out (.cells #[.int .i64 0, .int .i64 1] 3))
  refine hK.out _ _ HA10.out.cells (fun hHeld => ?_)
  clear hK K
  refine norm_ (a' := ?_) ?_ ?_
  rotate_left
  · show Act.put _ (some 47) _ = _
    simp only [Act.put, List.setIfInBounds_toArray, List.set_cons_zero, List.set_cons_succ, i64_w, i32_w]
    rfl
  refine one_ (i := 8) (N := some 48) #[true, true, true, true, true, true, true, true, true, false, false, false, false, false, false, false, false, false, false, false, false, false, false, false, false, false, false, false, false, false, false, false, false, false, false, false, false] rfl rfl (one_of HT_.out (by kernel_rfl)) (by decide) (fun K hK => ?_)
  refine goes_ Try.func17 (by kernel_rfl) rfl #[.slice Aa 2 ca, .slice (some ⟨w9.heap.size, 0, none⟩) 2 2] (by rfl) rfl rfl (by (try simp only [List.map_toArray, List.map_cons, List.map_nil]); first | done | rfl) ?_
  refine (num22 Aa ca w9.heap.size _ _ HR10.out HL9.out).mono ?_
  rintro e w11 ⟨rfl, hb⟩
  refine ⟨_, rfl, ?_⟩
  have HA11 := Lib.hid (HA10.out.below hb)
  clear hb HA9 HR9 HA10 HR10 HL9
  refine hK.out _ _ HA11.out.cells (fun hHeld => ?_)
  clear hK K
  refine norm_ (a' := ?_) ?_ ?_
  rotate_left
  · show Act.put _ (some 48) _ = _
    simp only [Act.put, List.setIfInBounds_toArray, List.set_cons_zero, List.set_cons_succ, i64_w, i32_w]
    rfl
  refine pure_ (i := 9) (N := some 49) (v := ?_) (a' := ?_) #[true, true, true, true, true, true, true, true, true, true, false, false, false, false, false, false, false, false, false, false, false, false, false, false, false, false, false, false, false, false, false, false, false, false, false, false, false] rfl rfl (any_of HT_.out (by kernel_rfl)) (fun _ _ _ h => h) (Or.inl ⟨by rfl, ?_⟩) ?_ ?_
  rotate_left
  · intro w'
    go_simp
    with_reducible rfl
  rotate_left
  · simp only [Act.put, List.setIfInBounds_toArray, List.set_cons_zero, List.set_cons_succ, i64_w, i32_w]
    rfl
  refine pure_ (i := 10) (N := some 50) (v := ?_) (a' := ?_) #[true, true, true, true, true, true, true, true, true, true, true, false, false, false, false, false, false, false, false, false, false, false, false, false, false, false, false, false, false, false, false, false, false, false, false, false, false] rfl rfl (any_of HT_.out (by kernel_rfl)) (fun _ _ _ h => h) (Or.inl ⟨by rfl, ?_⟩) ?_ ?_
  rotate_left
  · intro w'
    go_simp
    with_reducible rfl
  rotate_left
  · simp only [Act.put, List.setIfInBounds_toArray, List.set_cons_zero, List.set_cons_succ, i64_w, i32_w]
    rfl
  refine pure_ (i := 11) (N := some 51) (v := ?_) (a' := ?_) #[true, true, true, true, true, true, true, true, true, true, true, true, false, false, false, false, false, false, false, false, false, false, false, false, false, false, false, false, false, false, false, false, false, false, false, false, false] rfl rfl (any_of HT_.out (by kernel_rfl)) (fun _ _ _ h => h) (Or.inl ⟨by rfl, ?_⟩) ?_ ?_
  rotate_left
  · intro w'
    go_simp
    with_reducible rfl
  rotate_left
  · simp only [Act.put, List.setIfInBounds_toArray, List.set_cons_zero, List.set_cons_succ, i64_w, i32_w]
    rfl
  refine pure_ (i := 12) (N := some 52) (v := ?_) (a' := ?_) #[true, true, true, true, true, true, true, true, true, true, true, true, true, false, false, false, false, false, false, false, false, false, false, false, false, false, false, false, false, false, false, false, false, false, false, false, false] rfl rfl (any_of HT_.out (by kernel_rfl)) (fun _ _ _ h => h) (Or.inl ⟨by rfl, ?_⟩) ?_ ?_
  rotate_left
  · intro w'
    go_simp
    with_reducible rfl
  rotate_left
  · simp only [Act.put, List.setIfInBounds_toArray, List.set_cons_zero, List.set_cons_succ, i64_w, i32_w]
    rfl
  refine pure_ (i := 13) (N := some 53) (v := ?_) (a' := ?_) #[true, true, true, true, true, true, true, true, true, true, true, true, true, true, false, false, false, false, false, false, false, false, false, false, false, false, false, false, false, false, false, false, false, false, false, false, false] rfl rfl (any_of HT_.out (by kernel_rfl)) (fun _ _ _ h => h) (Or.inl ⟨by rfl, ?_⟩) ?_ ?_
  rotate_left
  · intro w'
    go_simp
    with_reducible rfl
  rotate_left
  · simp only [Act.put, List.setIfInBounds_toArray, List.set_cons_zero, List.set_cons_succ, i64_w, i32_w]
    rfl
  refine pure_ (i := 14) (N := some 54) (v := ?_) (a' := ?_) #[true, true, true, true, true, true, true, true, true, true, true, true, true, true, true, false, false, false, false, false, false, false, false, false, false, false, false, false, false, false, false, false, false, false, false, false, false] rfl rfl (any_of HT_.out (by kernel_rfl)) (fun _ _ _ h => h) (Or.inl ⟨by rfl, ?_⟩) ?_ ?_
  rotate_left
  · intro w'
    go_simp
    with_reducible rfl
  rotate_left
  · simp only [Act.put, List.setIfInBounds_toArray, List.set_cons_zero, List.set_cons_succ, i64_w, i32_w]
    rfl
  refine pure_ (i := 15) (N := some 55) (v := ?_) (a' := ?_) #[true, true, true, true, true, true, true, true, true, true, true, true, true, true, true, true, false, false, false, false, false, false, false, false, false, false, false, false, false, false, false, false, false, false, false, false, false] rfl rfl (any_of HT_.out (by kernel_rfl)) (fun _ _ _ h => h) (Or.inl ⟨by rfl, ?_⟩) ?_ ?_
  rotate_left
  · intro w'
    go_simp
    with_reducible rfl
  rotate_left
  · simp only [Act.put, List.setIfInBounds_toArray, List.set_cons_zero, List.set_cons_succ, i64_w, i32_w]
    rfl
  refine pure_ (i := 16) (N := some 56) (v := ?_) (a' := ?_) #[true, true, true, true, true, true, true, true, true, true, true, true, true, true, true, true, true, false, false, false, false, false, false, false, false, false, false, false, false, false, false, false, false, false, false, false, false] rfl rfl (any_of HT_.out (by kernel_rfl)) (fun _ _ _ h => h) (Or.inl ⟨by rfl, ?_⟩) ?_ ?_
  rotate_left
  · intro w'
    go_simp
    with_reducible rfl
  rotate_left
  · simp only [Act.put, List.setIfInBounds_toArray, List.set_cons_zero, List.set_cons_succ, i64_w, i32_w]
    rfl
  refine pure_ (i := 17) (N := some 57) (v := ?_) (a' := ?_) #[true, true, true, true, true, true, true, true, true, true, true, true, true, true, true, true, true, true, false, false, false, false, false, false, false, false, false, false, false, false, false, false, false, false, false, false, false] rfl rfl (any_of HT_.out (by kernel_rfl)) (fun _ _ _ h => h) (Or.inl ⟨by rfl, ?_⟩) ?_ ?_
  rotate_left
  · intro w'
    go_simp
    with_reducible rfl
  rotate_left
  · simp only [Act.put, List.setIfInBounds_toArray, List.set_cons_zero, List.set_cons_succ, i64_w, i32_w]
    rfl
  refine pure_ (i := 18) (N := some 58) (v := ?_) (a' := ?_) #[true, true, true, true, true, true, true, true, true, true, true, true, true, true, true, true, true, true, true, false, false, false, false, false, false, false, false, false, false, false, false, false, false, false, false, false, false] rfl rfl (any_of HT_.out (by kernel_rfl)) (fun _ _ _ h => h) (Or.inl ⟨by rfl, ?_⟩) ?_ ?_
  rotate_left
  · intro w'
    go_simp
    with_reducible rfl
  rotate_left
  · simp only [Act.put, List.setIfInBounds_toArray, List.set_cons_zero, List.set_cons_succ, i64_w, i32_w]
    rfl
  refine pure_ (i := 19) (N := some 59) (v := ?_) (a' := ?_) #[true, true, true, true, true, true, true, true, true, true, true, true, true, true, true, true, true, true, true, true, false, false, false, false, false, false, false, false, false, false, false, false, false, false, false, false, false] rfl rfl (any_of HT_.out (by kernel_rfl)) (fun _ _ _ h => h) (Or.inl ⟨by rfl, ?_⟩) ?_ ?_
  rotate_left
  · intro w'
    go_simp
    with_reducible rfl
  rotate_left
  · simp only [Act.put, List.setIfInBounds_toArray, List.set_cons_zero, List.set_cons_succ, i64_w, i32_w]
    rfl
  refine pure_ (i := 20) (N := some 60) (v := ?_) (a' := ?_) #[true, true, true, true, true, true, true, true, true, true, true, true, true, true, true, true, true, true, true, true, true, false, false, false, false, false, false, false, false, false, false, false, false, false, false, false, false] rfl rfl (any_of HT_.out (by kernel_rfl)) (fun _ _ _ h => h) (Or.inl ⟨by rfl, ?_⟩) ?_ ?_
  rotate_left
  · intro w'
    go_simp
    with_reducible rfl
  rotate_left
  · simp only [Act.put, List.setIfInBounds_toArray, List.set_cons_zero, List.set_cons_succ, i64_w, i32_w]
    rfl
  refine pure_ (i := 21) (N := some 61) (v := ?_) (a' := ?_) #[true, true, true, true, true, true, true, true, true, true, true, true, true, true, true, true, true, true, true, true, true, true, false, false, false, false, false, false, false, false, false, false, false, false, false, false, false] rfl rfl (any_of HT_.out (by kernel_rfl)) (fun _ _ _ h => h) (Or.inl ⟨by rfl, ?_⟩) ?_ ?_
  rotate_left
  · intro w'
    go_simp
    with_reducible rfl
  rotate_left
  · simp only [Act.put, List.setIfInBounds_toArray, List.set_cons_zero, List.set_cons_succ, i64_w, i32_w]
    rfl
  refine pure_ (i := 22) (N := some 62) (v := ?_) (a' := ?_) #[true, true, true, true, true, true, true, true, true, true, true, true, true, true, true, true, true, true, true, true, true, true, true, false, false, false, false, false, false, false, false, false, false, false, false, false, false] rfl rfl (any_of HT_.out (by kernel_rfl)) (fun _ _ _ h => h) (Or.inl ⟨by rfl, ?_⟩) ?_ ?_
  rotate_left
  · intro w'
    go_simp
    with_reducible rfl
  rotate_left
  · simp only [Act.put, List.setIfInBounds_toArray, List.set_cons_zero, List.set_cons_succ, i64_w, i32_w]
    rfl
  refine one_ (i := 23) (N := some 63) #[true, true, true, true, true, true, true, true, true, true, true, true, true, true, true, true, true, true, true, true, true, true, true, true, false, false, false, false, false, false, false, false, false, false, false, false, false] rfl rfl (one_of HT_.out (by kernel_rfl)) (by decide) (fun K hK => ?_)
  refine goes_ Try.func26 (by kernel_rfl) rfl #[.slice (some ⟨b4, 0, none⟩) 3 3] (by rfl) rfl rfl (by (try simp only [List.map_toArray, List.map_cons, List.map_nil]); first | done | rfl) ?_
  refine (uniq22 b4 _ HA11.out.m).mono ?_
  rintro e w12 ⟨rfl, hb⟩
  refine ⟨_, rfl, ?_⟩
  have HA12 := Lib.hid (HA11.out.below hb)
  clear hb HA11
  refine hK.out _ _ HA12.out.cells (fun hHeld => ?_)
  clear hK K
  refine norm_ (a' := ?_) ?_ ?_
  rotate_left
  · show Act.put _ (some 63) _ = _
    simp only [Act.put, List.setIfInBounds_toArray, List.set_cons_zero, List.set_cons_succ, i64_w, i32_w]
    rfl
  refine pure_ (i := 24) (N := some 64) (v := ?_) (a' := ?_) #[true, true, true, true, true, true, true, true, true, true, true, true, true, true, true, true, true, true, true, true, true, true, true, true, true, false, false, false, false, false, false, false, false, false, false, false, false] rfl rfl (any_of HT_.out (by kernel_rfl)) (fun _ _ _ h => h) (Or.inl ⟨by rfl, ?_⟩) ?_ ?_
  rotate_left
  · intro w'
    go_simp
    with_reducible rfl
  rotate_left
  · simp only [Act.put, List.setIfInBounds_toArray, List.set_cons_zero, List.set_cons_succ, i64_w, i32_w]
    rfl
  refine pure_ (i := 25) (N := some 65) (v := ?_) (a' := ?_) #[true, true, true, true, true, true, true, true, true, true, true, true, true, true, true, true, true, true, true, true, true, true, true, true, true, true, false, false, false, false, false, false, false, false, false, false, false] rfl rfl (any_of HT_.out (by kernel_rfl)) (fun _ _ _ h => h) (Or.inl ⟨by rfl, ?_⟩) ?_ ?_
  rotate_left
  · intro w'
    go_simp
    with_reducible rfl
  rotate_left
  · simp only [Act.put, List.setIfInBounds_toArray, List.set_cons_zero, List.set_cons_succ, i64_w, i32_w]
    rfl
  refine pure_ (i := 26) (N := some 66) (v := ?_) (a' := ?_) #[true, true, true, true, true, true, true, true, true, true, true, true, true, true, true, true, true, true, true, true, true, true, true, true, true, true, true, false, false, false, false, false, false, false, false, false, false] rfl rfl (any_of HT_.out (by kernel_rfl)) (fun _ _ _ h => h) (Or.inl ⟨by rfl, ?_⟩) ?_ ?_
  rotate_left
  · intro w'
    go_simp
    with_reducible rfl
  rotate_left
  · simp only [Act.put, List.setIfInBounds_toArray, List.set_cons_zero, List.set_cons_succ, i64_w, i32_w]
    rfl
  refine pure_ (i := 29) (N := some 69) (v := ?_) (a' := ?_) #[true, true, true, true, true, true, true, true, true, true, true, true, true, true, true, true, true, true, true, true, true, true, true, true, true, true, true, false, false, true, false, false, false, false, false, false, false] rfl rfl (any_of HT_.out (by kernel_rfl)) (fun _ _ _ h => h) (Or.inl ⟨by rfl, ?_⟩) ?_ ?_
  rotate_left
  · intro w'
    go_simp
    with_reducible rfl
  rotate_left
  · simp only [Act.put, List.setIfInBounds_toArray, List.set_cons_zero, List.set_cons_succ, i64_w, i32_w]
    rfl
  refine pure_ (i := 27) (N := some 67) (v := ?_) (a' := ?_) #[true, true, true, true, true, true, true, true, true, true, true, true, true, true, true, true, true, true, true, true, true, true, true, true, true, true, true, true, false, true, false, false, false, false, false, false, false] rfl rfl (any_of HT_.out (by kernel_rfl)) (fun _ _ _ h => h) (Or.inl ⟨by rfl, ?_⟩) ?_ ?_
  rotate_left
  · intro w'
    go_simp
    with_reducible rfl
  rotate_left
  · simp only [Act.put, List.setIfInBounds_toArray, List.set_cons_zero, List.set_cons_succ, i64_w, i32_w]
    rfl
  refine pure_ (i := 30) (N := some 70) (v := ?_) (a' := ?_) #[true, true, true, true, true, true, true, true, true, true, true, true, true, true, true, true, true, true, true, true, true, true, true, true, true, true, true, true, false, true, true, false, false, false, false, false, false] rfl rfl (any_of HT_.out (by kernel_rfl)) (fun _ _ _ h => h) (Or.inl ⟨by rfl, ?_⟩) ?_ ?_
  rotate_left
  · intro w'
    go_simp
    with_reducible rfl
  rotate_left
  · simp only [Act.put, List.setIfInBounds_toArray, List.set_cons_zero, List.set_cons_succ, i64_w, i32_w]
    rfl
  refine take_ (i := 28) (N := some 68) (v := ?_) (a' := ?_) #[true, true, true, true, true, true, true, true, true, true, true, true, true, true, true, true, true, true, true, true, true, true, true, true, true, true, true, true, true, true, true, false, false, false, false, false, false] rfl rfl (take_of HT_.out (by kernel_rfl)) (fun _ _ _ h => h) (Or.inl ⟨by rfl, ?_⟩) hHeld ?_ ?_
  rotate_left
  · rintro w' ⟨s0, s1⟩
    go_simp
    with_reducible rfl
  rotate_left
  · simp only [Act.put, List.setIfInBounds_toArray, List.set_cons_zero, List.set_cons_succ, i64_w, i32_w]
    rfl
  refine take_ (i := 31) (N := some 71) (v := ?_) (a' := ?_) #[true, true, true, true, true, true, true, true, true, true, true, true, true, true, true, true, true, true, true, true, true, true, true, true, true, true, true, true, true, true, true, true, false, false, false, false, false] rfl rfl (take_of HT_.out (by kernel_rfl)) (fun _ _ _ h => h) (Or.inl ⟨by rfl, ?_⟩) hHeld ?_ ?_
  rotate_left
  · rintro w' ⟨s0, s1⟩
    go_simp
    with_reducible rfl
  rotate_left
  · simp only [Act.put, List.setIfInBounds_toArray, List.set_cons_zero, List.set_cons_succ, i64_w, i32_w]
    rfl
  refine one_ (i := 32) (N := some 72) #[true, true, true, true, true, true, true, true, true, true, true, true, true, true, true, true, true, true, true, true, true, true, true, true, true, true, true, true, true, true, true, true, true, false, false, false, false] rfl rfl (one_of HT_.out (by kernel_rfl)) (by decide) (fun K hK => ?_)
  refine value_ (w1 := ?_) (v := ?_) (by rfl) rfl ?_ ?_
  rotate_left 2
  · go_simp
    constructor
    · rfl
    · rfl
  have HL12 := Lib.hid (heap_alloc_new w12 (.cells #[.slice (some ⟨b3, 0, none⟩) 1 1, .slice none 0 0, .slice (some ⟨b3, 0, none⟩) 1 1, .slice none 0 0] 50))
  have HA13 := Lib.hid (HA12.out.below (below_alloc (Below.refl _ _) (.cells #[.slice (some ⟨b3, 0, none⟩) 1 1, .slice none 0 0, .slice (some ⟨b3, 0, none⟩) 1 1, .slice none 0 0] 50)))
  refine hK.out _ _ HA13.out.cells (fun hHeld => ?_)
  clear hK K
  refine norm_ (a' := ?_) ?_ ?_
  rotate_left
  · show Act.put _ (some 72) _ = _
    simp only [Act.put, List.setIfInBounds_toArray, List.set_cons_zero, List.set_cons_succ, i64_w, i32_w]
    rfl
  refine one_ (i := 33) (N := some 73) #[true, true, true, true, true, true, true, true, true, true, true, true, true, true, true, true, true, true, true, true, true, true, true, true, true, true, true, true, true, true, true, true, true, true, false, false, false] rfl rfl (one_of HT_.out (by kernel_rfl)) (by decide) (fun K hK => ?_)
  refine goes_ Try.func26 (by kernel_rfl) rfl #[.slice (some ⟨w12.heap.size, 0, none⟩) 2 2] (by rfl) rfl rfl (by (try simp only [List.map_toArray, List.map_cons, List.map_nil]); first | done | rfl) ?_
  refine (uniq22' w12.heap.size _ (HA13.out.two HL12.out)).mono ?_
  rintro e w14 ⟨rfl, hb⟩
  refine ⟨_, rfl, ?_⟩
  have HA14 := Lib.hid (HA13.out.below hb)
  clear hb HA12 HA13 HL12
  refine hK.out _ _ HA14.out.cells (fun hHeld => ?_)
  clear hK K
  refine norm_ (a' := ?_) ?_ ?_
  rotate_left
  · show Act.put _ (some 73) _ = _
    simp only [Act.put, List.setIfInBounds_toArray, List.set_cons_zero, List.set_cons_succ, i64_w, i32_w]
    rfl
  refine pure_ (i := 34) (N := some 74) (v := ?_) (a' := ?_) #[true, true, true, true, true, true, true, true, true, true, true, true, true, true, true, true, true, true, true, true, true, true, true, true, true, true, true, true, true, true, true, true, true, true, true, false, false] rfl rfl (any_of HT_.out (by kernel_rfl)) (fun _ _ _ h => h) (Or.inl ⟨by rfl, ?_⟩) ?_ ?_
  rotate_left
  · intro w'
    go_simp
    with_reducible rfl
  rotate_left
  · simp only [Act.put, List.setIfInBounds_toArray, List.set_cons_zero, List.set_cons_succ, i64_w, i32_w]
    rfl
  refine pure_ (i := 35) (N := some 75) (v := ?_) (a' := ?_) #[true, true, true, true, true, true, true, true, true, true, true, true, true, true, true, true, true, true, true, true, true, true, true, true, true, true, true, true, true, true, true, true, true, true, true, true, false] rfl rfl (any_of HT_.out (by kernel_rfl)) (fun _ _ _ h => h) (Or.inl ⟨by rfl, ?_⟩) ?_ ?_
  rotate_left
  · intro w'
    go_simp
    with_reducible rfl
  rotate_left
  · simp only [Act.put, List.setIfInBounds_toArray, List.set_cons_zero, List.set_cons_succ, i64_w, i32_w]
    rfl
  refine pure_ (i := 36) (N := some 0) (v := ?_) (a' := ?_) #[true, true, true, true, true, true, true, true, true, true, true, true, true, true, true, true, true, true, true, true, true, true, true, true, true, true, true, true, true, true, true, true, true, true, true, true, true] rfl rfl (any_of HT_.out (by kernel_rfl)) (fun _ _ _ h => h) (Or.inl ⟨by rfl, ?_⟩) ?_ ?_
  rotate_left
  · intro w'
    go_simp
    with_reducible rfl
  rotate_left
  · simp only [Act.put, List.setIfInBounds_toArray, List.set_cons_zero, List.set_cons_succ, i64_w, i32_w]
    rfl
  refine done_ (done_of HT_.out (by kernel_rfl)) ?_
  try go_wp2
  go_ret
  exact ⟨rfl, HA14.out.B⟩
theorem arlinklaw22_awake.calls (r : Bool) (w : World) (h : arlinklaw22_awake.f = some r) : Calls Try.prog 22 #[] w fun e w' => e = .returned (.bool r) ∧ Below w.heap.size w w' := by
  obtain rfl := Option.some.inj h
  exact awake22_calls w
end Go.Proofs.Ythpjpkcfepmhkaa.PAll
