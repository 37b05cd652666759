import Derived.Test.YthpjpkcfepmhkaaPureCycle2
import Derived.Test.YthpjpkcfepmhkaaPureRef
namespace Go.Proofs.Ythpjpkcfepmhkaa.PAll
open Go.RowKit Go.Proofs.YthpjpkcfepmhkaaW.PrintWords Go.Proofs.YthpjpkcfepmhkaaW.PrintLast Go.Proofs.YthpjpkcfepmhkaaW.PrintMore
set_option linter.unusedVariables false
set_option linter.unusedSimpArgs false

theorem Greedy.pre {E : List S68} {N : Nat} {o r : List Int} (h : Greedy E N o r) : ∃ s, r = o ++ s := by
  induction h with
  | stop o _ => exact ⟨[], by simp⟩
  | step o x r _ _ _ ih =>
    obtain ⟨s, hs⟩ := ih
    exact ⟨x :: s, by rw [hs]; simp⟩
theorem snoc_ok {N : Nat} {o : List Int} {x : Int} (hn : o.Nodup) (hb : ∀ v, v ∈ o → 0 ≤ v ∧ v < N) (hx : x ∉ o) (h0 : 0 ≤ x) (h1 : x < N) : (o ++ [x]).Nodup ∧ ∀ v, v ∈ o ++ [x] → 0 ≤ v ∧ v < N := by
  constructor
  · rw [List.nodup_append]
    exact ⟨hn, by simp, fun a ha b hb => by rw [List.mem_singleton] at hb; rintro rfl; exact hx (hb ▸ ha)⟩
  · intro v hv
    rcases List.mem_append.1 hv with hv | hv
    · exact hb v hv
    · rw [List.mem_singleton] at hv; subst hv; exact ⟨h0, h1⟩
theorem Greedy.ok {E : List S68} {N : Nat} {o r : List Int} (h : Greedy E N o r) : o.Nodup → (∀ v, v ∈ o → 0 ≤ v ∧ v < N) → r.Nodup ∧ (∀ v, v ∈ r → 0 ≤ v ∧ v < N) ∧ ∀ i, ¬ Cand E N r i := by
  induction h with
  | stop o hno => exact fun hn hb => ⟨hn, hb, hno⟩
  | step o x r hx _ _ ih =>
    intro hn hb
    obtain ⟨c0, c1, c2, c3⟩ := hx
    obtain ⟨h1, h2⟩ := snoc_ok hn hb c2 c0 c1
    exact ih h1 h2
/-- Each element's predecessors come before it. -/
theorem Greedy.topo {E : List S68} {N : Nat} {o r : List Int} (h : Greedy E N o r) : (∀ p x s, o = p ++ x :: s → freeE E p x) → ∀ p x s, r = p ++ x :: s → freeE E p x := by
  induction h with
  | stop o _ => exact fun h => h
  | step o x r hx _ _ ih =>
    intro ho
    refine ih (fun p y s he => ?_)
    rcases List.append_eq_append_iff.1 he with ⟨a, h1, h2⟩ | ⟨a, h1, h2⟩
    · cases a with
      | nil =>
        simp only [List.nil_append, List.append_nil] at h1 h2
        have hy : x = y := by have := congrArg (fun l => l.head?) h2; simpa using this
        rw [h1, ← hy]
        exact hx.2.2.2
      | cons b a =>
        exfalso
        have := congrArg List.length h2
        simp at this
    · cases a with
      | nil =>
        simp only [List.nil_append, List.append_nil] at h1 h2
        have hy : x = y := by have := congrArg (fun l => l.head?) h2; simpa using this.symm
        rw [← h1, ← hy]
        exact hx.2.2.2
      | cons b a =>
        have hb : b = y := by have := congrArg (fun l => l.head?) h2; simpa using this.symm
        subst hb
        exact ho p b a h1
theorem full : ∀ (N : Nat) (l : List Int), (∀ i : Nat, i < N → (i : Int) ∈ l) → N ≤ l.length
  | 0, l, _ => Nat.zero_le _
  | N + 1, l, h => by
    have h1 := full N (l.erase (N : Int)) (fun i hi => by
      rw [List.mem_erase_of_ne (by omega)]
      exact h i (by omega))
    rw [List.length_erase_of_mem (h N (by omega))] at h1
    have : 0 < l.length := List.length_pos_of_mem (h N (by omega))
    omega
theorem all_in {N : Nat} {l : List Int} (hn : l.Nodup) (hb : ∀ v, v ∈ l → 0 ≤ v ∧ v < N) (hl : l.length = N) (i : Nat) (hi : i < N) : (i : Int) ∈ l := by
  apply Classical.byContradiction
  intro hm
  have := pigeon N ((i : Int) :: l) (List.nodup_cons.2 ⟨hm, hn⟩) (fun v hv => by
    rcases List.mem_cons.1 hv with rfl | hv
    · omega
    · exact hb v hv)
  rw [List.length_cons] at this
  omega

/-- With fewer edges the order is whole if it was. -/
theorem less_whole {E E' : List S68} {N : Nat} (hsub : ∀ e, e ∈ E' → e ∈ E) {r r' : List Int} (h : Greedy E N [] r) (h' : Greedy E' N [] r') (hl : r.length = N) : r'.length = N := by
  obtain ⟨n1, b1, _⟩ := h.ok List.nodup_nil (fun v hv => by simp at hv)
  obtain ⟨n2, b2, no2⟩ := h'.ok List.nodup_nil (fun v hv => by simp at hv)
  have ht := h.topo (fun p x s he => by simp at he)
  have key : ∀ (s p : List Int), r = p ++ s → (∀ v, v ∈ p → v ∈ r') → ∀ v, v ∈ s → v ∈ r' := by
    intro s
    induction s with
    | nil => intro p _ _ v hv; simp at hv
    | cons x s ih =>
      intro p he hp
      have hf := ht p x s he
      have hx : x ∈ r' := by
        apply Classical.byContradiction
        intro hm
        have hxr : x ∈ r := by rw [he]; simp
        exact no2 x ⟨(b1 x hxr).1, (b1 x hxr).2, hm, fun e he' h1 => hp _ (hf e (hsub e he') h1)⟩
      intro v hv
      rcases List.mem_cons.1 hv with rfl | hv
      · exact hx
      · refine ih (p ++ [x]) (by rw [he]; simp) (fun w hw => ?_) v hv
        rcases List.mem_append.1 hw with hw | hw
        · exact hp w hw
        · rw [List.mem_singleton] at hw; rw [hw]; exact hx
  have hall : ∀ i : Nat, i < N → (i : Int) ∈ r' := fun i hi => key r [] rfl (fun v hv => by simp at hv) _ (all_in n1 b1 hl i hi)
  have := full N r' hall
  have := pigeon N r' n2 b2
  omega
/-- .. and it is no greater. -/
theorem less_lex {E E' : List S68} {N : Nat} (hsub : ∀ e, e ∈ E' → e ∈ E) {o r : List Int} (h : Greedy E N o r) : ∀ r', Greedy E' N o r' → o.Nodup → (∀ v, v ∈ o → 0 ≤ v ∧ v < N) → r.length = N → r' = r ∨ ∃ p x y s t, r' = p ++ x :: s ∧ r = p ++ y :: t ∧ x < y := by
  induction h with
  | stop o _ =>
    intro r' h' hn hb hl
    cases h' with
    | stop _ _ => exact .inl rfl
    | step _ x _ hx _ _ =>
      exfalso
      obtain ⟨c0, c1, c2, _⟩ := hx
      obtain ⟨q, rfl⟩ := Int.eq_ofNat_of_zero_le c0
      exact c2 (all_in hn hb hl q (by omega))
  | step o x r hx hle hg ih =>
    intro r' h' hn hb hl
    have hx' : Cand E' N o x := ⟨hx.1, hx.2.1, hx.2.2.1, fun e he h1 => hx.2.2.2 e (hsub e he) h1⟩
    cases h' with
    | stop _ hno => exact absurd hx' (hno x)
    | step _ y _ hy hle' hg' =>
      have hyx := hle' x hx'
      by_cases e : y = x
      · subst e
        obtain ⟨h1, h2⟩ := snoc_ok hn hb hx.2.2.1 hx.1 hx.2.1
        exact ih r' hg' h1 h2 hl
      · obtain ⟨s, hs⟩ := hg'.pre
        obtain ⟨t, ht⟩ := hg.pre
        exact .inr ⟨o, y, x, s, t, by rw [hs]; simp, by rw [ht]; simp, by omega⟩

theorem tmod20 {a : Int} (h0 : 0 ≤ a) (h1 : a ≤ 255) : ∃ N : Nat, Int.tmod (wrap64 a) 20 = (N : Int) ∧ N < 20 := by
  rw [wrap_small (by omega) (by omega), Int.tmod_eq_emod_of_nonneg h0]
  exact ⟨(a % 20).toNat, by omega, by omega⟩

/-! ### An order is whole iff there is no cycle -/
theorem whole_acyclic {E : List S68} {N : Nat} {r : List Int} (hw : Within N E) (h : Greedy E N [] r) (hl : r.length = N) : ∀ i, ¬ Walk E i i := by
  obtain ⟨n1, b1, _⟩ := h.ok List.nodup_nil (fun v hv => by simp at hv)
  have ht := h.topo (fun p x s he => by simp at he)
  -- of an edge both ends lie in r, the first one before the other
  have hed : ∀ i j, Ed E i j → ∀ p s, r = p ++ (j : Int) :: s → (i : Int) ∈ p := by
    rintro i j ⟨e, he, h1, h2⟩ p s hr
    have := ht p (j : Int) s hr e he h2
    rwa [h1] at this
  have hwalk : ∀ i j, Walk E i j → ∀ p s, r = p ++ (j : Int) :: s → (i : Int) ∈ p := by
    intro i j hwk
    induction hwk with
    | one i j h => exact hed i j h
    | cons i c j h _ ih =>
      intro p s hr
      have hc := ih p s hr
      obtain ⟨p1, s1, rfl⟩ := List.append_of_mem hc
      have := hed i c h p1 (s1 ++ (j : Int) :: s) (by rw [hr]; simp)
      exact List.mem_append_left _ this
  intro i hi
  have hiN : i < N := by
    have : ∀ a b, Walk E a b → b < N := by
      intro a b hwk
      induction hwk with
      | one i j h => obtain ⟨e, he, h1, h2⟩ := h; have := (hw e he).2.2.2; omega
      | cons _ _ _ _ _ ih => exact ih
    exact this i i hi
  obtain ⟨p, s, hr⟩ := List.append_of_mem (all_in n1 b1 hl i hiN)
  have := hwalk i i hi p s hr
  rw [hr, List.nodup_append] at n1
  exact n1.2.2 _ this _ (List.mem_cons_self ..) rfl
theorem acyclic_whole {E : List S68} {N : Nat} {r : List Int} (hw : Within N E) (h : Greedy E N [] r) (hno : ∀ i, i < N → ¬ Walk E i i) : r.length = N := by
  obtain ⟨n1, b1, hc⟩ := h.ok List.nodup_nil (fun v hv => by simp at hv)
  have hle := pigeon N r n1 b1
  apply Classical.byContradiction
  intro hne
  obtain ⟨z, hz1, hz2⟩ : ∃ z : Nat, z < N ∧ (z : Int) ∉ r := by
    apply Classical.byContradiction
    intro hn
    have : ∀ i : Nat, i < N → (i : Int) ∈ r := fun i hi => Classical.byContradiction fun hm => hn ⟨i, hi, hm⟩
    have := full N r this
    omega
  have pred : ∀ i : Nat, i < N → (i : Int) ∉ r → ∃ p : Nat, p < N ∧ (p : Int) ∉ r ∧ Ed E p i := by
    intro i hi hm
    have h1 := hc (i : Int)
    unfold Cand at h1
    have h2 : ¬ freeE E r (i : Int) := fun hf => h1 ⟨by omega, by omega, hm, hf⟩
    unfold freeE at h2
    simp only [Classical.not_forall] at h2
    obtain ⟨e, he, h3, h4⟩ := h2
    have hb := hw e he
    exact ⟨e.f0.toNat, by omega, by rw [Int.toNat_of_nonneg hb.1]; exact h4, e, he, by rw [Int.toNat_of_nonneg hb.1], h3⟩
  have chain : ∀ n : Nat, ∃ (x : Nat) (c : List Nat), c.length = n ∧ (x :: c).Nodup ∧ (∀ y, y ∈ x :: c → y < N ∧ (y : Int) ∉ r) ∧ ∀ y, y ∈ c → Walk E x y := by
    intro n
    induction n with
    | zero => exact ⟨z, [], rfl, by simp, fun y hy => by rw [List.mem_singleton] at hy; subst hy; exact ⟨hz1, hz2⟩, fun y hy => by simp at hy⟩
    | succ n ih =>
      obtain ⟨x, c, h1, h2, h3, h4⟩ := ih
      obtain ⟨p, p1, p2, p3⟩ := pred x (h3 x (List.mem_cons_self ..)).1 (h3 x (List.mem_cons_self ..)).2
      have hwk : ∀ y, y ∈ x :: c → Walk E p y := by
        intro y hy
        rcases List.mem_cons.1 hy with rfl | hy
        · exact .one _ _ p3
        · exact .cons _ _ _ p3 (h4 y hy)
      refine ⟨p, x :: c, by simp [h1], List.nodup_cons.2 ⟨fun hm => hno p p1 (hwk p hm), h2⟩, fun y hy => ?_, hwk⟩
      rcases List.mem_cons.1 hy with rfl | hy
      · exact ⟨p1, p2⟩
      · exact h3 y hy
  obtain ⟨x, c, h1, h2, h3, _⟩ := chain N
  have := pigeon N ((x :: c).map (fun n : Nat => (n : Int))) (by
    rw [List.nodup_iff_pairwise_ne, List.pairwise_map]
    exact (List.nodup_iff_pairwise_ne.1 h2).imp (fun h e => h (by omega))) (fun v hv => by
    obtain ⟨y, hy, rfl⟩ := List.mem_map.1 hv
    have := (h3 y hy).1
    omega)
  rw [List.length_map, List.length_cons, h1] at this
  omega
end Go.Proofs.Ythpjpkcfepmhkaa.PAll
