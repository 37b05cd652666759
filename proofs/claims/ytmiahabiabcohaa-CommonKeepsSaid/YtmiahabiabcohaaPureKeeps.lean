import Derived.Test.YtmiahabiabcohaaPureB
import Derived.Test.YtmiahabiabcohaaPAllx10
namespace Go.Proofs.Ytmiahabiabcohaa.PAll
open Go.RowKit Go.Proofs.YtmiahabiabcohaaW.PrintWords Go.Proofs.YtmiahabiabcohaaW.PrintLast Go.Proofs.YtmiahabiabcohaaW.PrintMore
set_option linter.unusedVariables false
set_option linter.unusedSimpArgs false

/-! ### CommonKeeps -/
theorem keeps_l1 (l : List S40) (hl : l.length ≤ 100) : ∀ (d i : Nat), i + d = l.length → Ev (fun k => arlinklaw16_CommonKeeps.l1 k l l (i : Int)) true := by
  intro d
  induction d with
  | zero =>
    intro i hi
    refine Ev.step (f := fun _ => some true) (fun k => ?_) (Ev.now _)
    simp only [arlinklaw16_CommonKeeps.l1]
    rw [if_neg (by omega)]
  | succ d ih =>
    intro i hi
    refine Ev.step (f := fun k => arlinklaw16_CommonKeeps.l1 k l l ((i + 1 : Nat) : Int)) (fun k => ?_) (ih (i + 1) (by omega))
    simp only [arlinklaw16_CommonKeeps.l1]
    rw [if_pos (by omega), if_pos (by omega), if_pos (by omega), if_neg (by simp), wrap_nat i (by omega)]
theorem keeps_l0 (l : List S40) (hl : l.length ≤ 100) : ∀ (d i : Nat) (s : List S32), s.length ≤ 100 → i + d = s.length → Ev (fun k => arlinklaw16_CommonKeeps.l0 k l l s (i : Int)) true := by
  intro d
  induction d with
  | zero =>
    intro i s hs hi
    refine Ev.step (f := fun k => arlinklaw16_CommonKeeps.l1 k l l ((0 : Nat) : Int)) (fun k => ?_) (keeps_l1 l hl l.length 0 (by omega))
    simp only [arlinklaw16_CommonKeeps.l0]
    rw [if_neg (by omega)]
    rfl
  | succ d ih =>
    intro i s hs hi
    refine Ev.step (f := fun k => arlinklaw16_CommonKeeps.l0 k l l (s.set (i : Int).toNat (⟨(⟨#[]⟩ : ByteArray), (rd_T32 s i).f1, (rd_T32 s i).f2⟩ : S32)) ((i + 1 : Nat) : Int)) (fun k => ?_) (ih (i + 1) _ (by rw [List.length_set]; exact hs) (by rw [List.length_set]; omega))
    simp only [arlinklaw16_CommonKeeps.l0]
    rw [if_pos (by omega), if_pos (by omega), wrap_nat i (by omega)]
theorem CommonKeeps_ev (l : List S40) : Ev (fun k => arlinklaw16_CommonKeeps.f k l) true := by
  obtain ⟨b, hb, hr⟩ := right_ev l
  have hj1 : Ev (fun k => arlinklaw16_CommonKeeps.j0 k l true) true :=
    Ev.step (f := fun k => (arlinklaw16_awake.f k).bind fun t => some t) (fun k => by simp only [arlinklaw16_CommonKeeps.j0]; rw [if_pos trivial]) (Ev.bind awake_ev (Ev.now true))
  refine Ev.congr (f := fun k => (arlinklaw16_awake.f k).bind fun t => (if t = true then ((arlinkref16_Right.f k l).bind fun u => (arlinklaw16_CommonKeeps.j0 k l (!u))) else (arlinklaw16_CommonKeeps.j0 k l true))) (fun k => rfl) ?_
  refine Ev.bind awake_ev (Ev.bind hb ?_)
  cases b with
  | false => exact hj1
  | true =>
    have h := hr rfl
    have hfew := h.few
    have hs := slots_le h 0
    refine Ev.step (f := fun k => arlinklaw16_CommonKeeps.l0 k l l (slotsOf (ranked l) 0) ((0 : Nat) : Int)) (fun k => ?_) (keeps_l0 l h.few _ 0 _ hs (Nat.zero_add _))
    simp only [arlinklaw16_CommonKeeps.j0, Bool.not_true]
    rw [if_neg (by decide)]
    simp only [Option.bind_some, List.nil_append, List.length_nil]
    rw [if_pos (by omega), layout_eq h.fitting]
    rfl
end Go.Proofs.Ytmiahabiabcohaa.PAll
