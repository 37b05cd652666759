import Derived.Test.YtmiahabiabcohaaPureA
import Derived.Test.YtmiahabiabcohaaPAllx3
import Derived.Test.YtmiahabiabcohaaPAllx4
import Derived.Test.YtmiahabiabcohaaPAllx5
import Derived.KernelRfl
namespace Go.Proofs.Ytmiahabiabcohaa.PAll
open Go.RowKit Go.Proofs.YtmiahabiabcohaaW.PrintWords Go.Proofs.YtmiahabiabcohaaW.PrintLast Go.Proofs.YtmiahabiabcohaaW.PrintMore
set_option linter.unusedVariables false
set_option linter.unusedSimpArgs false

theorem wrap_small {x : Int} (h0 : -4611686018427387904 ≤ x) (h1 : x ≤ 4611686018427387904) : wrap64 x = x := by unfold wrap64; omega
theorem wrap_nat (i : Nat) (h : i ≤ 1099511627776) : wrap64 ((i : Int) + 1) = ((i + 1 : Nat) : Int) := by rw [wrap_small (by omega) (by omega)]; omega

/-! ### Power -/
theorem power_loop (n : Int) : ∀ (d : Nat) (x : Int), 1 ≤ x → x ≤ 131072 → 65537 ≤ x + d → ∃ b, Ev (fun k => arlinkref06_Power.l0 k n x) b ∧ (b = true → 1 ≤ n ∧ n ≤ 65536) := by
  intro d
  induction d with
  | zero =>
    intro x h1 h2 h3
    exact ⟨false, Ev.step (f := fun _ => some false) (fun k => by simp only [arlinkref06_Power.l0]; rw [if_neg (by omega)]) (Ev.now _), fun h => by cases h⟩
  | succ d ih =>
    intro x h1 h2 h3
    by_cases c1 : x ≤ 65536
    · by_cases c2 : x = n
      · exact ⟨true, Ev.step (f := fun _ => some true) (fun k => by simp only [arlinkref06_Power.l0]; rw [if_pos c1, if_pos c2]) (Ev.now _), fun _ => by omega⟩
      · obtain ⟨b, hb, hp⟩ := ih (2 * x) (by omega) (by omega) (by omega)
        exact ⟨b, Ev.step (f := fun k => arlinkref06_Power.l0 k n (2 * x)) (fun k => by simp only [arlinkref06_Power.l0]; rw [if_pos c1, if_neg c2, wrap_small (by omega) (by omega)]) hb, hp⟩
    · exact ⟨false, Ev.step (f := fun _ => some false) (fun k => by simp only [arlinkref06_Power.l0]; rw [if_neg c1]) (Ev.now _), fun h => by cases h⟩
theorem power_ev (n : Int) : ∃ b, Ev (fun k => arlinkref06_Power.f k n) b ∧ (b = true → 1 ≤ n ∧ n ≤ 65536) := power_loop n 65536 1 (by omega) (by omega) (by omega)

/-! ### Right -/
theorem rd40 (l : List S40) (i : Nat) : rd_T40 l (i : Int) = Hp.at_ z40 l i := rfl
def Tail (l : List S40) (i : Nat) : Prop := ∀ j, i ≤ j → j < l.length → (Hp.at_ z40 l j).f1 = 3 → fits (Hp.at_ z40 l j) ∧ ∀ k, k < j → (Hp.at_ z40 l k).f1 = 3 → (Hp.at_ z40 l k).f0.toList ≠ (Hp.at_ z40 l j).f0.toList
theorem right_l1 (l : List S40) (hl : l.length ≤ 100) (i : Nat) (hi : i < l.length) {b0 : Bool} (h0 : Ev (fun k => arlinkref16_Right.l0 k l ((i + 1 : Nat) : Int)) b0) :
    ∀ (d q : Nat), q + d = i → ∃ b, Ev (fun k => arlinkref16_Right.l1 k l (i : Int) (q : Int)) b ∧ (b = true → b0 = true ∧ ∀ k, q ≤ k → k < i → (Hp.at_ z40 l k).f1 = 3 → (Hp.at_ z40 l k).f0.toList ≠ (Hp.at_ z40 l i).f0.toList) := by
  intro d
  induction d with
  | zero =>
    intro q hq
    refine ⟨b0, Ev.step (f := fun k => arlinkref16_Right.l0 k l ((i + 1 : Nat) : Int)) (fun k => ?_) h0, fun h => ⟨h, fun k _ _ => by omega⟩⟩
    simp only [arlinkref16_Right.l1]
    rw [if_neg (by omega), wrap_nat i (by omega)]
  | succ d ih =>
    intro q hq
    obtain ⟨b, hb, hp⟩ := ih (q + 1) (by omega)
    by_cases c1 : (Hp.at_ z40 l q).f1 = 3
    · by_cases c2 : (Hp.at_ z40 l q).f0.toList = (Hp.at_ z40 l i).f0.toList
      · refine ⟨false, Ev.step (f := fun _ => some false) (fun k => ?_) (Ev.now _), fun h => by cases h⟩
        simp only [arlinkref16_Right.l1]
        rw [if_pos (by omega), if_pos (by omega), if_pos (by omega), rd40, if_pos c1, if_pos (by omega), if_pos (by omega), rd40, if_pos c2]
      · refine ⟨b, Ev.step (f := fun k => arlinkref16_Right.l1 k l (i : Int) ((q + 1 : Nat) : Int)) (fun k => ?_) hb, fun h => ⟨(hp h).1, fun k h1 h2 h3 => ?_⟩⟩
        · simp only [arlinkref16_Right.l1]
          rw [if_pos (by omega), if_pos (by omega), if_pos (by omega), rd40, if_pos c1, if_pos (by omega), if_pos (by omega), rd40, if_neg c2, wrap_nat q (by omega)]
        · by_cases e : k = q
          · rw [e]; exact c2
          · exact (hp h).2 k (by omega) h2 h3
    · refine ⟨b, Ev.step (f := fun k => arlinkref16_Right.l1 k l (i : Int) ((q + 1 : Nat) : Int)) (fun k => ?_) hb, fun h => ⟨(hp h).1, fun k h1 h2 h3 => ?_⟩⟩
      · simp only [arlinkref16_Right.l1]
        rw [if_pos (by omega), if_pos (by omega), if_pos (by omega), rd40, if_neg c1, wrap_nat q (by omega)]
      · by_cases e : k = q
        · rw [e] at h3; exact absurd h3 c1
        · exact (hp h).2 k (by omega) h2 h3
theorem right_l0 (l : List S40) (hl : l.length ≤ 100) : ∀ (d i : Nat), i + d = l.length → ∃ b, Ev (fun k => arlinkref16_Right.l0 k l (i : Int)) b ∧ (b = true → Tail l i) := by
  intro d
  induction d with
  | zero =>
    intro i hi
    refine ⟨true, Ev.step (f := fun _ => some true) (fun k => ?_) (Ev.now _), fun _ j h1 h2 => by omega⟩
    simp only [arlinkref16_Right.l0]
    rw [if_neg (by omega)]
  | succ d ih =>
    intro i hi
    obtain ⟨b, hb, hp⟩ := ih (i + 1) (by omega)
    by_cases c1 : (Hp.at_ z40 l i).f1 = 3
    · obtain ⟨b1, hb1, hp1⟩ := right_l1 l hl i (by omega) hb i 0 (by omega)
      have hj : ∀ q, Ev (fun k => arlinkref16_Right.j1 k l (i : Int) q) (if q = true then false else b1) := by
        intro q
        cases q with
        | true => exact Ev.step (f := fun _ => some false) (fun k => by simp [arlinkref16_Right.j1]) (Ev.now _)
        | false => exact Ev.step (f := fun k => arlinkref16_Right.l1 k l (i : Int) ((0 : Nat) : Int)) (fun k => by simp [arlinkref16_Right.j1]) hb1
      obtain ⟨bp, hbp, hpp⟩ := power_ev (Hp.at_ z40 l i).f3
      by_cases c2 : (Hp.at_ z40 l i).f2 < 0
      · refine ⟨false, Ev.step (f := fun k => arlinkref16_Right.j1 k l (i : Int) true) (fun k => ?_) (hj true), fun h => by cases h⟩
        simp only [arlinkref16_Right.l0]
        rw [if_pos (by omega), if_pos (by omega), rd40, if_pos c1, if_pos c2]
      · by_cases c3 : (Hp.at_ z40 l i).f2 > 4294967295
        · refine ⟨false, Ev.step (f := fun k => arlinkref16_Right.j1 k l (i : Int) true) (fun k => ?_) (hj true), fun h => by cases h⟩
          simp only [arlinkref16_Right.l0]
          rw [if_pos (by omega), if_pos (by omega), rd40, if_pos c1, if_neg c2, if_pos c3]
        · refine ⟨if (!bp) = true then false else b1, Ev.step (f := fun k => (arlinkref06_Power.f k (Hp.at_ z40 l i).f3).bind fun t => arlinkref16_Right.j1 k l (i : Int) (!t)) (fun k => ?_) (Ev.bind hbp (hj (!bp))), ?_⟩
          · simp only [arlinkref16_Right.l0]
            rw [if_pos (by omega), if_pos (by omega), rd40, if_pos c1, if_neg c2, if_neg c3]
          · cases bp with
            | false => intro h; cases h
            | true =>
              intro h
              have h' : b1 = true := h
              obtain ⟨h2, h3⟩ := hp1 h'
              have hq := hpp rfl
              intro j hj1 hj2 hj3
              by_cases e : j = i
              · subst e
                exact ⟨⟨by omega, by omega, hq.1, hq.2⟩, fun k hk hk3 => h3 k (Nat.zero_le _) hk hk3⟩
              · exact hp h2 j (by omega) hj2 hj3
    · refine ⟨b, Ev.step (f := fun k => arlinkref16_Right.l0 k l ((i + 1 : Nat) : Int)) (fun k => ?_) hb, fun h j hj1 hj2 hj3 => ?_⟩
      · simp only [arlinkref16_Right.l0]
        rw [if_pos (by omega), if_pos (by omega), rd40, if_neg c1, wrap_nat i (by omega)]
      · by_cases e : j = i
        · rw [e] at hj3; exact absurd hj3 c1
        · exact hp h j (by omega) hj2 hj3
theorem at_getElem (l : List S40) (i : Nat) (h : i < l.length) : Hp.at_ z40 l i = l[i] := by simp [Hp.at_, List.getD_eq_getElem?_getD, List.getElem?_eq_getElem h]
theorem rightly_of_tail {l : List S40} (hl : l.length ≤ 100) (h : Tail l 0) : Rightly l := by
  refine ⟨hl, fun x hx => ?_, ?_⟩
  · obtain ⟨hx1, hx2⟩ := List.mem_filter.1 hx
    obtain ⟨i, hi, rfl⟩ := List.getElem_of_mem hx1
    have := h i (Nat.zero_le _) hi (by rw [at_getElem l i hi]; exact beq_iff_eq.1 hx2)
    rw [at_getElem l i hi] at this
    exact this.1
  · unfold Apart commons
    rw [List.pairwise_filter, List.pairwise_iff_getElem]
    intro i j hi hj hij h1 h2
    have := (h j (Nat.zero_le _) hj (by rw [at_getElem l j hj]; exact beq_iff_eq.1 h2)).2 i hij (by rw [at_getElem l i hi]; exact beq_iff_eq.1 h1)
    rwa [at_getElem l i hi, at_getElem l j hj] at this
theorem right_ev (l : List S40) : ∃ b, Ev (fun k => arlinkref16_Right.f k l) b ∧ (b = true → Rightly l) := by
  by_cases c : l.length ≤ 100
  · obtain ⟨b, hb, hp⟩ := right_l0 l c l.length 0 (by omega)
    refine ⟨b, Ev.congr (f := fun k => arlinkref16_Right.l0 k l ((0 : Nat) : Int)) (fun k => ?_) hb, fun h => rightly_of_tail c (hp h)⟩
    simp only [arlinkref16_Right.f]
    rw [if_neg (by omega)]
    rfl
  · refine ⟨false, Ev.congr (f := fun _ => some false) (fun k => ?_) (Ev.now _), fun h => by cases h⟩
    simp only [arlinkref16_Right.f]
    rw [if_pos (by omega)]

/-! ### slots, Same -/
def to35 (x : S32) : S35 := ⟨x.f0, x.f1, x.f2⟩
theorem rd32 (l : List S32) (i : Nat) (h : i < l.length) : rd_T32 l (i : Int) = l[i] := by simp [rd_T32, List.getD_eq_getElem?_getD, List.getElem?_eq_getElem h]
theorem rd35 (l : List S35) (i : Nat) (h : i < l.length) : rd_T35 l (i : Int) = l[i] := by simp [rd_T35, List.getD_eq_getElem?_getD, List.getElem?_eq_getElem h]
theorem slots_loop (s : List S32) (hl : s.length ≤ 1099511627776) : ∀ (d i : Nat), i + d = s.length → Ev (fun k => arlinklaw16_slots.l0 k s ((s.take i).map to35) (i : Int)) (s.map to35) := by
  intro d
  induction d with
  | zero =>
    intro i hi
    refine Ev.step (f := fun _ => some (s.map to35)) (fun k => ?_) (Ev.now _)
    simp only [arlinklaw16_slots.l0]
    rw [if_neg (by omega), List.take_of_length_le (by omega)]
  | succ d ih =>
    intro i hi
    refine Ev.step (f := fun k => arlinklaw16_slots.l0 k s ((s.take (i + 1)).map to35) ((i + 1 : Nat) : Int)) (fun k => ?_) (ih (i + 1) (by omega))
    simp only [arlinklaw16_slots.l0]
    rw [if_pos (by omega), if_pos (by omega), if_pos (by rw [List.length_map, List.length_take]; omega), wrap_nat i (by omega), rd32 s i (by omega), List.take_succ_eq_append_getElem (by omega), List.map_append]
    rfl
theorem slots_ev (s : List S32) (hl : s.length ≤ 1099511627776) : Ev (fun k => arlinklaw16_slots.f k s) (s.map to35) := slots_loop s hl s.length 0 (by omega)
theorem same_loop (a : List S35) (hl : a.length ≤ 1099511627776) : ∀ (d i : Nat), i + d = a.length → Ev (fun k => arlinkref16_Same.l0 k a a (i : Int)) true := by
  intro d
  induction d with
  | zero =>
    intro i hi
    refine Ev.step (f := fun _ => some true) (fun k => ?_) (Ev.now _)
    simp only [arlinkref16_Same.l0]
    rw [if_neg (by omega)]
  | succ d ih =>
    intro i hi
    refine Ev.step (f := fun k => arlinkref16_Same.l0 k a a ((i + 1 : Nat) : Int)) (fun k => ?_) (ih (i + 1) (by omega))
    simp only [arlinkref16_Same.l0]
    rw [if_pos (by omega), if_pos (by omega), if_pos (by omega), if_neg (by simp), wrap_nat i (by omega)]
theorem same_ev (a : List S35) (hl : a.length ≤ 1099511627776) : Ev (fun k => arlinkref16_Same.f k a a) true := by
  refine Ev.congr (f := fun k => arlinkref16_Same.l0 k a a ((0 : Nat) : Int)) (fun k => ?_) (same_loop a hl a.length 0 (by omega))
  simp only [arlinkref16_Same.f]
  rw [if_pos trivial]
  rfl
theorem commons_drop (l : List S40) (i : Nat) (h : i < l.length) : commons (l.drop i) = if (Hp.at_ z40 l i).f1 = 3 then Hp.at_ z40 l i :: commons (l.drop (i + 1)) else commons (l.drop (i + 1)) := by
  rw [List.drop_eq_getElem_cons h, at_getElem l i h]
  unfold commons
  rw [List.filter_cons]
  by_cases c : l[i].f1 = 3
  · simp [c]
  · simp [c]
/-! ### awake -/
theorem awake_ev : Ev (fun k => arlinklaw16_awake.f k) true :=
  Ev.of (arlinklaw16_awake.mono) (k := 20) (by kernel_rfl)
theorem slots_le {l : List S40} (h : Rightly l) (e : Int) : (slotsOf (ranked l) e).length ≤ 100 := by rw [slotsOf_length]; exact h.rank_few

end Go.Proofs.Ytmiahabiabcohaa.PAll
