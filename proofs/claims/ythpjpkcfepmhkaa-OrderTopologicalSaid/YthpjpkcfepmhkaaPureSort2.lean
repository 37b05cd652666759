import Derived.Test.YthpjpkcfepmhkaaPureSort
namespace Go.Proofs.Ythpjpkcfepmhkaa.PAll
open Go.RowKit Go.Proofs.YthpjpkcfepmhkaaW.PrintWords Go.Proofs.YthpjpkcfepmhkaaW.PrintLast Go.Proofs.YthpjpkcfepmhkaaW.PrintMore
set_option linter.unusedVariables false
set_option linter.unusedSimpArgs false

/-- All edges lie within N elements. -/
def Within (N : Nat) (E : List S68) : Prop := ∀ e, e ∈ E → 0 ≤ e.f0 ∧ e.f0 < N ∧ 0 ≤ e.f1 ∧ e.f1 < N

theorem fold_addEdge {N : Nat} : ∀ (E : List S68) (z : List (List Int)) (i : Nat), z.length = N → Within N E → (E.foldl addEdge z).getD i [] = z.getD i [] ++ succs E (i : Int)
  | [], z, i, _, _ => by simp [succs]
  | e :: E, z, i, hz, hw => by
    obtain ⟨h0, h1, _, _⟩ := hw e (List.mem_cons_self ..)
    rw [List.foldl_cons, fold_addEdge E _ i (by unfold addEdge; rw [List.length_set]; exact hz) (fun x hx => hw x (List.mem_cons_of_mem _ hx))]
    unfold addEdge succs
    rw [List.filter_cons]
    by_cases c : e.f0 = (i : Int)
    · rw [if_pos (decide_eq_true c), show e.f0.toNat = i by omega, List.getD_eq_getElem?_getD, List.getElem?_set_self (by omega)]
      simp
    · rw [if_neg (by simpa using c), List.getD_eq_getElem?_getD, List.getElem?_set_ne (by omega), ← List.getD_eq_getElem?_getD]
theorem afterOf_get {N : Nat} {E : List S68} (hw : Within N E) (i : Nat) : (afterOf N E).getD i [] = succs E (i : Int) := by
  unfold afterOf
  rw [fold_addEdge E _ i (by simp) hw]
  have : (List.replicate N ([] : List Int)).getD i [] = [] := by
    rw [List.getD_eq_getElem?_getD, List.getElem?_replicate]
    split <;> rfl
  rw [this]; rfl
theorem fold_incW {N : Nat} : ∀ (E : List S68) (z : List Int) (i : Nat), z.length = N → Within N E → i < N → (∀ k : Nat, k < N → 0 ≤ z.getD k 0 ∧ z.getD k 0 + E.length ≤ 1099511627776) → (E.foldl incW z).length = N ∧ (E.foldl incW z).getD i 0 = z.getD i 0 + cntW E [] (i : Int)
  | [], z, i, hz, _, _, _ => ⟨hz, by simp [cntW]⟩
  | e :: E, z, i, hz, hw, hi, hb => by
    obtain ⟨_, _, h0, h1⟩ := hw e (List.mem_cons_self ..)
    obtain ⟨q, hq⟩ := Int.eq_ofNat_of_zero_le h0
    have hqN : q < N := by omega
    have hqq : e.f1.toNat = q := by omega
    have hbq := hb q hqN
    rw [List.length_cons] at hbq
    have hg : ∀ k : Nat, (incW z e).getD k 0 = if k = q then z.getD q 0 + 1 else z.getD k 0 := by
      intro k
      unfold incW
      rw [hqq, set_get (by omega), wrap_small (by omega) (by omega)]
    obtain ⟨r1, r2⟩ := fold_incW E (incW z e) i (by unfold incW; rw [List.length_set]; exact hz) (fun x hx => hw x (List.mem_cons_of_mem _ hx)) hi (fun k hk => by
      rw [hg]
      have h2 := hb k hk
      rw [List.length_cons] at h2
      split <;> omega)
    rw [List.foldl_cons]
    refine ⟨r1, ?_⟩
    rw [r2, hg]
    unfold cntW
    rw [List.countP_cons]
    by_cases c : i = q
    · subst c
      rw [if_pos rfl, if_pos (by simp [hq])]
      omega
    · rw [if_neg c, if_neg (by simp; omega)]
      rfl
theorem waitsOf_get {N : Nat} {E : List S68} (hw : Within N E) (hE : E.length ≤ 1099511627776) (i : Nat) (hi : i < N) : (waitsOf N E).length = N ∧ (waitsOf N E).getD i 0 = cntW E [] (i : Int) := by
  have hz : ∀ k : Nat, k < N → (List.replicate N (0 : Int)).getD k 0 = 0 := by
    intro k hk
    rw [List.getD_eq_getElem?_getD, List.getElem?_replicate, if_pos hk]; rfl
  have h := fold_incW E (List.replicate N 0) i (by simp) hw hi (fun k hk => by rw [hz k hk]; omega)
  rw [hz i hi] at h
  exact ⟨h.1, by unfold waitsOf; rw [h.2]; omega⟩
theorem waitsOf_length : ∀ (E : List S68) (z : List Int), (E.foldl incW z).length = z.length
  | [], z => rfl
  | e :: E, z => by rw [List.foldl_cons, waitsOf_length E]; unfold incW; rw [List.length_set]

structure SI (E : List S68) (N : Nat) (o ws h : List Int) : Prop where
  lw : ws.length = N
  w : ∀ i : Nat, i < N → ws.getD i 0 = (cntW E o (i : Int) : Int)
  heap : Hp.Heap (0 : Int) R.less h h.length 0
  nd : h.Nodup
  mem : ∀ v, v ∈ h ↔ Cand E N o v
  ond : o.Nodup
  ob : ∀ v, v ∈ o → 0 ≤ v ∧ v < N
  clo : ∀ e, e ∈ E → e.f1 ∈ o → e.f0 ∈ o

theorem seed_spec (N : Nat) (ws : List Int) : ∀ k, Hp.Heap (0 : Int) R.less (seed ws k) (seed ws k).length 0 ∧ (seed ws k).Nodup ∧ ∀ v, v ∈ seed ws k ↔ 0 ≤ v ∧ v < k ∧ ws.getD v.toNat 0 = 0
  | 0 => ⟨fun i j _ _ hj => by simp [seed] at hj, by simp [seed], fun v => by simp [seed]; omega⟩
  | k + 1 => by
    obtain ⟨h1, h2, h3⟩ := seed_spec N ws k
    rw [seed_succ]
    by_cases c : ws.getD k 0 = 0
    · rw [if_pos c]
      obtain ⟨p1, p2⟩ := Hp.push_spec (d := (0 : Int)) less_ord (seed ws k) (k : Int) h1
      have hl : (Hp.push (0 : Int) R.less (seed ws k) (k : Int)).length = (seed ws k).length + 1 := Hp.push_length _ _
      refine ⟨by rw [hl]; exact p1, p2.symm.nodup_iff.1 (List.nodup_cons.2 ⟨fun hm => by have := (h3 _).1 hm; omega, h2⟩), fun v => ?_⟩
      rw [p2.mem_iff, List.mem_cons, h3]
      constructor
      · rintro (rfl | ⟨a, b, d⟩)
        · exact ⟨by omega, by omega, by rw [Int.toNat_natCast]; exact c⟩
        · exact ⟨a, by omega, d⟩
      · rintro ⟨a, b, d⟩
        by_cases e : v = (k : Int)
        · exact .inl e
        · exact .inr ⟨a, by omega, d⟩
    · rw [if_neg c]
      refine ⟨h1, h2, fun v => ?_⟩
      rw [h3]
      constructor
      · rintro ⟨a, b, d⟩; exact ⟨a, by omega, d⟩
      · rintro ⟨a, b, d⟩
        refine ⟨a, ?_, d⟩
        by_cases e : v = (k : Int)
        · rw [e, Int.toNat_natCast] at d; exact absurd d c
        · omega
theorem SI.start {E : List S68} {N : Nat} (hw : Within N E) (hE : E.length ≤ 1099511627776) : SI E N [] (waitsOf N E) (seed (waitsOf N E) N) := by
  obtain ⟨h1, h2, h3⟩ := seed_spec N (waitsOf N E) N
  refine ⟨by unfold waitsOf; rw [waitsOf_length]; simp, fun i hi => (waitsOf_get hw hE i hi).2, h1, h2, fun v => ?_, List.nodup_nil, fun v hv => by simp at hv, fun e _ h => by simp at h⟩
  rw [h3]
  unfold Cand
  constructor
  · rintro ⟨a, b, d⟩
    obtain ⟨q, rfl⟩ := Int.eq_ofNat_of_zero_le a
    rw [Int.toNat_natCast, (waitsOf_get hw hE q (by omega)).2] at d
    exact ⟨a, b, by simp, cntW_zero.1 (by omega)⟩
  · rintro ⟨a, b, _, d⟩
    obtain ⟨q, rfl⟩ := Int.eq_ofNat_of_zero_le a
    refine ⟨a, b, ?_⟩
    rw [Int.toNat_natCast, (waitsOf_get hw hE q (by omega)).2, cntW_zero.2 d]
    rfl

theorem run_spec {E : List S68} {N : Nat} (hw : Within N E) (hE : E.length ≤ 1099511627776) (hN : N ≤ 65536) : ∀ (k : Nat) (ws h o : List Int), SI E N o ws h → N + 1 ≤ k + o.length → ∃ r, runS (afterOf N E) N k ws h o = some r ∧ Greedy E N o r
  | 0, ws, h, o, hS, hk => by
    have := pigeon N o hS.ond hS.ob
    omega
  | k + 1, ws, h, o, hS, hk => by
    have hol := pigeon N o hS.ond hS.ob
    by_cases h0 : h.length = 0
    · have hh : h = [] := List.length_eq_zero_iff.1 h0
      refine ⟨o, by simp only [runS]; rw [if_pos h0], .stop o (fun i hi => ?_)⟩
      have := (hS.mem i).2 hi
      rw [hh] at this
      simp at this
    · have hne : h ≠ [] := fun e => h0 (by rw [e]; rfl)
      obtain ⟨p1, p2, p3, p4⟩ := Hp.pop_spec (d := (0 : Int)) less_ord h hne hS.heap
      obtain ⟨x, hx⟩ : ∃ x, Hp.at_ (0 : Int) h 0 = x := ⟨_, rfl⟩
      rw [hx] at p1 p4
      have hxm : x ∈ h := p1.mem_iff.2 (List.mem_cons_self ..)
      have hxc := (hS.mem x).1 hxm
      obtain ⟨c0, c1, c2, c3⟩ := hxc
      have hnd := (p1.nodup_iff.1 hS.nd)
      rw [List.nodup_cons] at hnd
      have hpm : ∀ v, v ∈ Hp.pop (0 : Int) R.less h ↔ v ∈ h ∧ v ≠ x := by
        intro v
        rw [p1.mem_iff, List.mem_cons]
        constructor
        · intro hv
          exact ⟨.inr hv, fun e => hnd.1 (e ▸ hv)⟩
        · rintro ⟨h1 | h1, h2⟩
          · exact absurd h1 h2
          · exact h1
      have hhl : h.length ≤ N := pigeon N h hS.nd (fun v hv => by have := (hS.mem v).1 hv; exact ⟨this.1, this.2.1⟩)
      have hcz : ∀ v, Cand E N o v → ws.getD v.toNat 0 = 0 := by
        rintro v ⟨a, b, _, d⟩
        obtain ⟨q, rfl⟩ := Int.eq_ofNat_of_zero_le a
        rw [Int.toNat_natCast, hS.w q (by omega), cntW_zero.2 d]
        rfl
      have hsj : ∀ j, j ∈ succs E x → 0 ≤ j ∧ j < N := by
        intro j hj
        obtain ⟨e, he, _, rfl⟩ := succs_mem.1 hj
        exact ⟨(hw e he).2.2.1, (hw e he).2.2.2⟩
      have hcb : ∀ i : Int, cntW E o i ≤ 1099511627776 := fun i => Nat.le_trans (List.countP_le_length ..) hE
      obtain ⟨ws', h', e1, e2, e3, e4, e5, e6⟩ := relax_spec N hN (succs E x) ws (Hp.pop (0 : Int) R.less h) hS.lw hsj (fun i hi => by
          rw [hS.w i hi, cntW_step c2]; omega) (fun i hi => by rw [hS.w i hi]; have := hcb (i : Int); omega) (by rw [p2]; exact p3) hnd.2 (fun v hv => by
          have hv' := (hS.mem v).1 ((hpm v).1 hv).1
          exact ⟨hv'.1, hv'.2.1, hcz v hv'⟩)
      have hw' : ∀ i : Nat, i < N → ws'.getD i 0 = (cntW E (o ++ [x]) (i : Int) : Int) := by
        intro i hi
        rw [e3 i hi, hS.w i hi, cntW_step c2]
        omega
      have hS' : SI E N (o ++ [x]) ws' h' := by
        refine ⟨e2, hw', e4, e5, fun v => ?_, ?_, ?_, ?_⟩
        · rw [e6, hpm, hS.mem]
          constructor
          · rintro (⟨⟨a, b, c, d⟩, hvx⟩ | ⟨hv, hz⟩)
            · exact ⟨a, b, by simp [c, hvx], fun e he h1 => List.mem_append_left _ (d e he h1)⟩
            · obtain ⟨a, b⟩ := hsj v hv
              obtain ⟨e, he, h1, h2⟩ := succs_mem.1 hv
              obtain ⟨q, rfl⟩ := Int.eq_ofNat_of_zero_le a
              rw [Int.toNat_natCast, hw' q (by omega)] at hz
              refine ⟨a, b, ?_, cntW_zero.1 (by omega)⟩
              rw [List.mem_append, List.mem_singleton, not_or]
              refine ⟨fun hm => c2 (h1 ▸ hS.clo e he (by rw [h2]; exact hm)), fun hm => ?_⟩
              exact c2 (h1 ▸ c3 e he (by rw [h2]; exact hm))
          · rintro ⟨a, b, c, d⟩
            rw [List.mem_append, List.mem_singleton, not_or] at c
            by_cases hf : freeE E o v
            · exact .inl ⟨⟨a, b, c.1, hf⟩, c.2⟩
            · refine .inr ⟨?_, ?_⟩
              · unfold freeE at hf
                simp only [Classical.not_forall] at hf
                obtain ⟨e, he, h1, h2⟩ := hf
                have h3 := d e he h1
                rw [List.mem_append, List.mem_singleton] at h3
                exact succs_mem.2 ⟨e, he, h3.resolve_left h2, h1⟩
              · obtain ⟨q, rfl⟩ := Int.eq_ofNat_of_zero_le a
                rw [Int.toNat_natCast, hw' q (by omega), cntW_zero.2 d]
                rfl
        · rw [List.nodup_append]
          exact ⟨hS.ond, by simp, fun a ha b hb => by rw [List.mem_singleton] at hb; rintro rfl; exact c2 (hb ▸ ha)⟩
        · intro v hv
          rcases List.mem_append.1 hv with hv | hv
          · exact hS.ob v hv
          · rw [List.mem_singleton] at hv; subst hv; exact ⟨c0, c1⟩
        · intro e he h1
          rcases List.mem_append.1 h1 with h1 | h1
          · exact List.mem_append_left _ (hS.clo e he h1)
          · rw [List.mem_singleton] at h1
            exact List.mem_append_left _ (c3 e he h1)
      obtain ⟨r, hr, hg⟩ := run_spec hw hE hN k ws' h' (o ++ [x]) hS' (by rw [List.length_append, List.length_singleton]; omega)
      refine ⟨r, ?_, .step o x r ⟨c0, c1, c2, c3⟩ (fun y hy => ?_) hg⟩
      · simp only [runS]
        rw [if_neg h0, hx, if_pos ⟨c0, c1, by omega, by omega⟩]
        have hxx : ((x.toNat : Nat) : Int) = x := Int.toNat_of_nonneg c0
        rw [afterOf_get hw, hxx, e1, Option.bind_some]
        exact hr
      · by_cases hyx : y = x
        · omega
        · have h1 := p4 y ((hpm y).2 ⟨(hS.mem y).2 hy, hyx⟩)
          unfold R.less at h1
          simp only [decide_eq_false_iff_not] at h1
          omega
/-- What Sort hands back, its edges being valid. -/
theorem sort_ok {E : List S68} {N : Nat} (hv : validS (N : Int) E = true) (hE : E.length ≤ 1099511627776) : ∃ r, Greedy E N [] r ∧ order_Sort.f (N : Int) E = some (if (r.length : Int) < (N : Int) then ([], 18) else (r, 0)) := by
  have hv' := hv
  unfold validS at hv'
  simp only [Bool.and_eq_true, decide_eq_true_eq, List.all_eq_true] at hv'
  have hw : Within N E := fun e he => edgeIn_iff.1 (hv'.1.1 e he)
  obtain ⟨r, hr, hg⟩ := run_spec hw hE (by omega) (N + 1) _ _ [] (SI.start hw hE) (by simp)
  refine ⟨r, hg, ?_⟩
  unfold order_Sort.f
  rw [if_pos hE, if_pos hv, Int.toNat_natCast, hr]
  rfl
theorem sort_bad {E : List S68} {n : Int} (hv : validS n E = false) (hE : E.length ≤ 1099511627776) : order_Sort.f n E = some ([], 13) := by
  unfold order_Sort.f
  rw [if_pos hE, hv]
  rfl
end Go.Proofs.Ythpjpkcfepmhkaa.PAll
