import Derived.Test.YtmiahabiabcohaaPureC
import Derived.Test.YtmiahabiabcohaaPAllx7
namespace Go.Proofs.Ytmiahabiabcohaa.PAll
open Go.RowKit Go.Proofs.YtmiahabiabcohaaW.PrintWords Go.Proofs.YtmiahabiabcohaaW.PrintLast Go.Proofs.YtmiahabiabcohaaW.PrintMore
set_option linter.unusedVariables false
set_option linter.unusedSimpArgs false

/-! ### CommonMatchesReference -/
theorem matches_end (nm : ByteArray) (s : List S32) (hs : s.length ≤ 100) (n a i : Int) (ok : Bool) (x0 : ByteArray) (x1 x2 : Int) (hx : ok = false → x0.toList = [] ∧ x1 = 0 ∧ x2 = 0) :
    Ev (fun k => arlinklaw16_CommonMatchesReference.j2 k nm s n a (s.map to35) n a ok ok i false x0 x1 x2) true := by
  refine Ev.step (f := fun k => (arlinklaw16_slots.f k s).bind fun t205 => (arlinkref16_Same.f k t205 (s.map to35)).bind fun t208 => if t208 = true then (if n = n then (if a = a then (if (ok == ok) = true then (if ok = true then (some true) else (some (x0.toList == ([] : List UInt8) && (x1 == 0 && (x2 == 0))))) else (some false)) else (some false)) else (some false)) else (some false)) (fun k => ?_) ?_
  · simp only [arlinklaw16_CommonMatchesReference.j2]
    rw [if_neg (by decide)]
  · refine Ev.bind (slots_ev s (by omega)) (Ev.bind (same_ev _ (by rw [List.length_map]; omega)) ?_)
    cases ok with
    | true => exact Ev.congr (fun k => by simp) (Ev.now true)
    | false =>
      obtain ⟨h1, h2, h3⟩ := hx rfl
      exact Ev.congr (fun k => by simp [h1, h2, h3]) (Ev.now true)
theorem matches_loop (nm : ByteArray) (s : List S32) (hs : s.length ≤ 100) (n a : Int) (p : Int) : ∀ (d i : Nat), i + d = s.length → place nm (s.drop i) i = p →
    ∀ (ok : Bool) (x0 : ByteArray) (x1 x2 : Int), (p < 0 ∧ ok = false ∧ x0.toList = [] ∧ x1 = 0 ∧ x2 = 0 ∨ 0 ≤ p ∧ ok = true ∧ x0 = (rd_T32 s p).f0 ∧ x1 = (rd_T32 s p).f1 ∧ x2 = (rd_T32 s p).f2) →
    Ev (fun k => arlinklaw16_CommonMatchesReference.l0 k nm s n a (s.map to35) n a ok false (i : Int) x0 x1 x2) true := by
  intro d
  induction d with
  | zero =>
    intro i hi hp ok x0 x1 x2 hc
    rw [place_end nm s i (by omega)] at hp
    rcases hc with ⟨_, rfl, h1, h2, h3⟩ | ⟨h, _⟩
    · refine Ev.step (fun k => ?_) (matches_end nm s hs n a (i : Int) false x0 x1 x2 (fun _ => ⟨h1, h2, h3⟩))
      simp only [arlinklaw16_CommonMatchesReference.l0]
      rw [if_neg (by rw [List.length_map]; omega)]
    · omega
  | succ d ih =>
    intro i hi hp ok x0 x1 x2 hc
    have hil : i < s.length := by omega
    have hst := place_step nm s i hil
    rw [hp] at hst
    refine Ev.step (f := fun k => arlinklaw16_CommonMatchesReference.j2 k nm s n a (s.map to35) n a ok false (i : Int) true x0 x1 x2) (fun k => ?_) ?_
    · simp only [arlinklaw16_CommonMatchesReference.l0]
      rw [if_pos (by rw [List.length_map]; omega)]
      rfl
    have hrd : rd_T35 (s.map to35) (i : Int) = to35 (rd_T32 s i) := by
      rw [rd35 _ i (by rw [List.length_map]; exact hil), rd32 s i hil, List.getElem_map]
    by_cases hb : (rd_T32 s i).f0.toList = nm.toList
    · rw [if_pos (by simp [hb])] at hst
      subst hst
      rcases hc with ⟨h, _⟩ | ⟨_, rfl, rfl, rfl, rfl⟩
      · omega
      · refine Ev.step (f := fun k => arlinklaw16_CommonMatchesReference.l0 k nm s n a (s.map to35) n a true true ((i + 1 : Nat) : Int) (rd_T32 s i).f0 (rd_T32 s i).f1 (rd_T32 s i).f2) (fun k => ?_) ?_
        · simp only [arlinklaw16_CommonMatchesReference.j2]
          rw [if_pos trivial, if_pos (by omega), if_pos (by rw [List.length_map]; omega), hrd]
          rw [if_pos (show (to35 (rd_T32 s i)).f0.toList = nm.toList from hb), if_neg (by simp [to35, hb]), wrap_nat i (by omega)]
        · have hend := fun q => matches_end nm s hs n a q true (rd_T32 s i).f0 (rd_T32 s i).f1 (rd_T32 s i).f2 (fun h => by cases h)
          by_cases c : ((i + 1 : Nat) : Int) < ((s.map to35).length : Int)
          · refine Ev.step (fun k => ?_) (hend ((i + 1 : Nat) : Int))
            simp only [arlinklaw16_CommonMatchesReference.l0]
            rw [if_pos c]
            rfl
          · refine Ev.step (fun k => ?_) (hend ((i + 1 : Nat) : Int))
            simp only [arlinklaw16_CommonMatchesReference.l0]
            rw [if_neg c]
    · rw [if_neg (by simp [hb])] at hst
      refine Ev.step (f := fun k => arlinklaw16_CommonMatchesReference.l0 k nm s n a (s.map to35) n a ok false ((i + 1 : Nat) : Int) x0 x1 x2) (fun k => ?_) (ih (i + 1) (by omega) hst.symm ok x0 x1 x2 hc)
      simp only [arlinklaw16_CommonMatchesReference.j2]
      rw [if_pos trivial, if_pos (by omega), if_pos (by rw [List.length_map]; omega), hrd]
      rw [if_neg (show ¬ (to35 (rd_T32 s i)).f0.toList = nm.toList from hb), wrap_nat i (by omega)]
theorem CommonMatchesReference_ev (l : List S40) (nm : ByteArray) : Ev (fun k => arlinklaw16_CommonMatchesReference.f k l nm) true := by
  obtain ⟨b, hb, hr⟩ := right_ev l
  have hj1 : Ev (fun k => arlinklaw16_CommonMatchesReference.j0 k l nm true) true :=
    Ev.step (f := fun k => (arlinklaw16_awake.f k).bind fun t => some t) (fun k => by simp only [arlinklaw16_CommonMatchesReference.j0]; rw [if_pos trivial]) (Ev.bind awake_ev (Ev.now true))
  refine Ev.congr (f := fun k => (arlinklaw16_awake.f k).bind fun t187 => (if t187 = true then ((arlinkref16_Right.f k l).bind fun t188 => (arlinklaw16_CommonMatchesReference.j0 k l nm (!t188))) else (arlinklaw16_CommonMatchesReference.j0 k l nm true))) (fun k => rfl) ?_
  refine Ev.bind awake_ev (Ev.bind hb ?_)
  cases b with
  | false => exact hj1
  | true =>
    have h := hr rfl
    refine Ev.step (f := fun k => (arlinkref16_Layout.f k l).bind fun bt195 => ((common_Find.f (slotsOf (ranked l) 0) nm).bind fun bt200 => (arlinklaw16_CommonMatchesReference.l0 k nm (slotsOf (ranked l) 0) (endOf (ranked l) 0) (alOf (ranked l) 1) bt195.1 bt195.2.1 bt195.2.2 bt200.2.2.2 false 0 bt200.1 bt200.2.1 bt200.2.2.1))) (fun k => ?_) (Ev.bind (ref_ev h) ?_)
    · simp only [arlinklaw16_CommonMatchesReference.j0, Bool.not_true]
      rw [if_neg (by decide), layout_eq h.fitting]
      rfl
    · have hs := slots_le h 0
      unfold common_Find.f
      generalize slotsOf (ranked l) 0 = s at *
      have hp := matches_loop nm s hs (endOf (ranked l) 0) (alOf (ranked l) 1) (place nm s 0) s.length 0 (by omega) (by rw [List.drop_zero])
      by_cases c : place nm s 0 < 0
      · have := hp false ⟨#[]⟩ 0 0 (.inl ⟨c, rfl, by first | rfl | (simp; done) | (decide +kernel), rfl, rfl⟩)
        simp only [if_pos c, Option.bind_some]
        exact this
      · have := hp true _ _ _ (.inr ⟨by omega, rfl, rfl, rfl, rfl⟩)
        simp only [if_neg c, Option.bind_some]
        exact this

end Go.Proofs.Ytmiahabiabcohaa.PAll
