import Derived.Test.YthpjpkcfepmhkaaPureSort2
import Derived.Test.YthpjpkcfepmhkaaHCycle3
namespace Go.Proofs.Ythpjpkcfepmhkaa.PAll
open Go.RowKit Go.Proofs.YthpjpkcfepmhkaaW.PrintWords Go.Proofs.YthpjpkcfepmhkaaW.PrintLast Go.Proofs.YthpjpkcfepmhkaaW.PrintMore
set_option linter.unusedVariables false
set_option linter.unusedSimpArgs false

inductive PathX (xss : List (List Int)) : Nat → Nat → Prop where
  | one (i j : Nat) : (j : Int) ∈ xss.getD i [] → PathX xss i j
  | cons (i c j : Nat) : (c : Int) ∈ xss.getD i [] → PathX xss c j → PathX xss i j
def cf (s : List Bool) : Nat := s.count false
theorem setB {s : List Bool} {k i : Nat} {x : Bool} (hk : k < s.length) : (s.set k x).getD i false = if i = k then x else s.getD i false := by
  by_cases e : i = k
  · subst e
    rw [List.getD_eq_getElem?_getD, List.getElem?_set_self hk, if_pos rfl]; rfl
  · rw [List.getD_eq_getElem?_getD, List.getElem?_set_ne (Ne.symm e), if_neg e, ← List.getD_eq_getElem?_getD]
theorem cf_set : ∀ (s : List Bool) (k : Nat), k < s.length → s.getD k false = false → cf (s.set k true) + 1 = cf s
  | [], k, h, _ => by simp at h
  | b :: s, 0, h, h0 => by
    have : b = false := h0
    subst this
    simp [cf]
  | b :: s, k + 1, h, h0 => by
    have ih := cf_set s k (by simpa using h) h0
    unfold cf at ih ⊢
    rw [List.set_cons_succ, List.count_cons, List.count_cons]
    omega
structure VR (xss : List (List Int)) (js : List Int) (s t : List Bool) : Prop where
  len : t.length = s.length
  mono : ∀ j, s.getD j false = true → t.getD j false = true
  all : ∀ v, v ∈ js → t.getD v.toNat false = true
  clo : ∀ j, t.getD j false = true → s.getD j false = false → (∀ v, v ∈ xss.getD j [] → t.getD v.toNat false = true) ∧ ∃ c : Nat, (c : Int) ∈ js ∧ (c = j ∨ PathX xss c j)
  cf : cf t ≤ cf s
theorem visitL_spec {xss : List (List Int)} {N k : Nat} (hx : ∀ i v, v ∈ xss.getD i [] → 0 ≤ v ∧ v < N) {rec : Nat → List Bool → Option (List Bool)}
    (hrec : ∀ i s, s.length = N → cf s < k → ∃ t, rec i s = some t ∧ VR xss (xss.getD i []) s t) : ∀ (js : List Int) (s : List Bool), s.length = N → (∀ v, v ∈ js → 0 ≤ v ∧ v < N) → cf s ≤ k → ∃ t, visitL rec js s = some t ∧ VR xss js s t
  | [], s, hs, hj, hc => ⟨s, rfl, rfl, fun _ h => h, fun v hv => by simp at hv, fun j h1 h2 => (by rw [h1] at h2; cases h2), Nat.le_refl _⟩
  | v :: js, s, hs, hj, hc => by
    obtain ⟨hv0, hv1⟩ := hj v (List.mem_cons_self ..)
    obtain ⟨q, rfl⟩ := Int.eq_ofNat_of_zero_le hv0
    have hj' : ∀ v, v ∈ js → 0 ≤ v ∧ v < N := fun x hx => hj x (List.mem_cons_of_mem _ hx)
    simp only [visitL, Int.toNat_natCast]
    rw [if_pos ⟨by omega, by omega⟩]
    by_cases c : s.getD q false = true
    · rw [if_pos c]
      obtain ⟨t, h1, h2⟩ := visitL_spec hx hrec js s hs hj' hc
      refine ⟨t, h1, h2.len, h2.mono, fun v hv => ?_, fun j h3 h4 => ?_, h2.cf⟩
      · rcases List.mem_cons.1 hv with rfl | hv
        · rw [Int.toNat_natCast]; exact h2.mono q c
        · exact h2.all v hv
      · obtain ⟨h5, x, h6, h7⟩ := h2.clo j h3 h4
        exact ⟨h5, x, List.mem_cons_of_mem _ h6, h7⟩
    · rw [if_neg c]
      have cfalse : s.getD q false = false := by simpa using c
      have hcf := cf_set s q (by omega) cfalse
      have hsq : ∀ i, (s.set q true).getD i false = if i = q then true else s.getD i false := fun i => setB (by omega)
      obtain ⟨t1, a1, a2⟩ := hrec q (s.set q true) (by rw [List.length_set]; exact hs) (by omega)
      have hl1 : t1.length = N := by rw [a2.len, List.length_set]; exact hs
      have hcf1 : cf t1 ≤ k := by have := a2.cf; omega
      obtain ⟨t, b1, b2⟩ := visitL_spec hx hrec js t1 hl1 hj' hcf1
      refine ⟨t, by rw [a1, Option.bind_some]; exact b1, by rw [b2.len, hl1, hs], fun j h => ?_, fun v hv => ?_, fun j h3 h4 => ?_, by have := a2.cf; have := b2.cf; omega⟩
      · refine b2.mono j (a2.mono j ?_)
        rw [hsq]
        split
        · rfl
        · exact h
      · rcases List.mem_cons.1 hv with rfl | hv
        · rw [Int.toNat_natCast]
          refine b2.mono q (a2.mono q ?_)
          rw [hsq, if_pos rfl]
        · exact b2.all v hv
      · by_cases ht : t1.getD j false = true
        · by_cases e : j = q
          · subst e
            exact ⟨fun v hv => b2.mono _ (a2.all v hv), j, List.mem_cons_self .., .inl rfl⟩
          · obtain ⟨h5, x, h6, h7⟩ := a2.clo j ht (by rw [hsq, if_neg e]; exact h4)
            refine ⟨fun v hv => b2.mono _ (h5 v hv), q, List.mem_cons_self .., .inr ?_⟩
            rcases h7 with rfl | h7
            · exact .one _ _ h6
            · exact .cons _ _ _ h6 h7
        · obtain ⟨h5, x, h6, h7⟩ := b2.clo j h3 (by simpa using ht)
          exact ⟨h5, x, List.mem_cons_of_mem _ h6, h7⟩
theorem visit_spec {xss : List (List Int)} {N : Nat} (hx : ∀ i v, v ∈ xss.getD i [] → 0 ≤ v ∧ v < N) : ∀ (k i : Nat) (s : List Bool), s.length = N → cf s < k → ∃ t, visit xss k i s = some t ∧ VR xss (xss.getD i []) s t
  | 0, i, s, _, h => by omega
  | k + 1, i, s, hs, h => by
    simp only [visit]
    exact visitL_spec hx (fun i s hs h => visit_spec hx k i s hs h) (xss.getD i []) s hs (fun v hv => hx i v hv) (by omega)
theorem reach_spec {xss : List (List Int)} {N : Nat} (hx : ∀ i v, v ∈ xss.getD i [] → 0 ≤ v ∧ v < N) (i : Nat) : ∃ t, reach xss N i = some t ∧ t.length = N ∧ ∀ j, t.getD j false = true ↔ PathX xss i j := by
  have hz : ∀ j, (List.replicate N false).getD j false = false := by
    intro j
    rw [List.getD_eq_getElem?_getD, List.getElem?_replicate]
    split <;> rfl
  obtain ⟨t, h1, h2⟩ := visit_spec hx (N + 1) i (List.replicate N false) (by simp) (by unfold cf; rw [List.count_replicate_self]; omega)
  refine ⟨t, h1, by rw [h2.len]; simp, fun j => ⟨fun h => ?_, fun h => ?_⟩⟩
  · obtain ⟨_, c, h3, h4⟩ := h2.clo j h (hz j)
    rcases h4 with rfl | h4
    · exact .one _ _ h3
    · exact .cons _ _ _ h3 h4
  · have key : ∀ a b, PathX xss a b → (∀ v, v ∈ xss.getD a [] → t.getD v.toNat false = true) → t.getD b false = true := by
      intro a b hp
      induction hp with
      | one a b hm => intro ha; have := ha _ hm; rwa [Int.toNat_natCast] at this
      | cons a c b hm hp ih =>
        intro ha
        have hc := ha _ hm
        rw [Int.toNat_natCast] at hc
        exact ih (h2.clo c hc (hz c)).1
    exact key i j h h2.all

theorem orTo_get (b : List Bool) : ∀ (k : Nat) (a : List Bool) (j : Nat), k ≤ a.length → (orTo b k a).getD j false = (a.getD j false || (decide (j < k) && b.getD j false))
  | 0, a, j, _ => by simp [orTo]
  | k + 1, a, j, h => by
    have ih := orTo_get b k a
    rw [orTo_succ, setB (by rw [orTo_length]; omega)]
    by_cases e : j = k
    · subst e
      rw [if_pos rfl, ih j (by omega)]
      simp
    · rw [if_neg e, ih j (by omega)]
      have : decide (j < k + 1) = decide (j < k) := decide_eq_decide.2 (by omega)
      rw [this]
theorem marks_spec {nx bf : List (List Int)} {N : Nat} (hx : ∀ i v, v ∈ nx.getD i [] → 0 ≤ v ∧ v < N) (hb : ∀ i v, v ∈ bf.getD i [] → 0 ≤ v ∧ v < N) : ∀ k, ∃ d u, marks nx bf N k = some (d, u) ∧ d.length = N ∧ u.length = N ∧
    (∀ j, j < N → (d.getD j false = true ↔ ∃ i, i < k ∧ PathX nx i i ∧ PathX nx i j)) ∧ (∀ j, j < N → (u.getD j false = true ↔ ∃ i, i < k ∧ PathX nx i i ∧ PathX bf i j))
  | 0 => by
    have hz : ∀ j, (List.replicate N false).getD j false = false := by
      intro j
      rw [List.getD_eq_getElem?_getD, List.getElem?_replicate]
      split <;> rfl
    refine ⟨_, _, rfl, by simp, by simp, fun j hj => ?_, fun j hj => ?_⟩
    all_goals
      rw [hz]
      constructor
      · intro h; cases h
      · rintro ⟨i, hi, _⟩; omega
  | k + 1 => by
    obtain ⟨d, u, h1, h2, h3, h4, h5⟩ := marks_spec hx hb k
    obtain ⟨r, r1, r2, r3⟩ := reach_spec hx k
    obtain ⟨s, s1, s2, s3⟩ := reach_spec hb k
    by_cases c : r.getD k false = true
    · refine ⟨orTo r N d, orTo s N u, ?_, by rw [orTo_length]; exact h2, by rw [orTo_length]; exact h3, fun j hj => ?_, fun j hj => ?_⟩
      · simp only [marks]
        rw [h1, Option.bind_some, r1, Option.bind_some, if_pos c, s1, Option.bind_some]
      · rw [orTo_get r N d j (by omega), Bool.or_eq_true, decide_eq_true hj, Bool.true_and, h4 j hj, r3]
        constructor
        · rintro (⟨i, a1, a2, a3⟩ | h)
          · exact ⟨i, by omega, a2, a3⟩
          · exact ⟨k, by omega, (r3 k).1 c, h⟩
        · rintro ⟨i, a1, a2, a3⟩
          by_cases e : i = k
          · subst e; exact .inr a3
          · exact .inl ⟨i, by omega, a2, a3⟩
      · rw [orTo_get s N u j (by omega), Bool.or_eq_true, decide_eq_true hj, Bool.true_and, h5 j hj, s3]
        constructor
        · rintro (⟨i, a1, a2, a3⟩ | h)
          · exact ⟨i, by omega, a2, a3⟩
          · exact ⟨k, by omega, (r3 k).1 c, h⟩
        · rintro ⟨i, a1, a2, a3⟩
          by_cases e : i = k
          · subst e; exact .inr a3
          · exact .inl ⟨i, by omega, a2, a3⟩
    · refine ⟨d, u, ?_, h2, h3, fun j hj => ?_, fun j hj => ?_⟩
      · simp only [marks]
        rw [h1, Option.bind_some, r1, Option.bind_some, if_neg c]
      · rw [h4 j hj]
        constructor
        · rintro ⟨i, a1, a2, a3⟩; exact ⟨i, by omega, a2, a3⟩
        · rintro ⟨i, a1, a2, a3⟩
          refine ⟨i, ?_, a2, a3⟩
          by_cases e : i = k
          · subst e; exact absurd ((r3 i).2 a2) c
          · omega
      · rw [h5 j hj]
        constructor
        · rintro ⟨i, a1, a2, a3⟩; exact ⟨i, by omega, a2, a3⟩
        · rintro ⟨i, a1, a2, a3⟩
          refine ⟨i, ?_, a2, a3⟩
          by_cases e : i = k
          · subst e; exact absurd ((r3 i).2 a2) c
          · omega
end Go.Proofs.Ythpjpkcfepmhkaa.PAll
