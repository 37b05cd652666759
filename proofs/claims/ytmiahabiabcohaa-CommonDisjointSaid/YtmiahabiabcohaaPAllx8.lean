/- Written by a program of this session (wip/xprint.py) over the kit's print: contracts of the program's functions. -/
import Derived.Test.YtmiahabiabcohaaHLayout
import Derived.Test.YtmiahabiabcohaaPAllx0
import Derived.Test.YtmiahabiabcohaaPAllx4
import Derived.Test.YtmiahabiabcohaaPAllx5
namespace Go.Proofs.Ytmiahabiabcohaa.PAll
open Go.RowKit Go.Proofs.YtmiahabiabcohaaW.PrintWords Go.Proofs.YtmiahabiabcohaaW.PrintLast Go.Proofs.YtmiahabiabcohaaW.PrintMore
attribute [local go_sem] max2_int min2_int max_two min_two max_three min_three max_four min_four   -- for this text's walks alone
set_option linter.unusedVariables false
set_option linter.unusedSimpArgs false

/-! ### arlinklaw16_CommonDisjoint: function 4 -/
mutual
def arlinklaw16_CommonDisjoint.j0 : Nat → List (S40) → Bool → Option (Bool)
  | 0, _, _ => none
  | k + 1, x0, x18 => if x18 = true then ((arlinklaw16_awake.f k).bind fun t214 => (some t214)) else ((common_Layout.f x0).bind fun bt215 => (arlinklaw16_CommonDisjoint.l0 k x0 bt215.1 bt215.2.1 bt215.2.2 0 0))
def arlinklaw16_CommonDisjoint.l0 : Nat → List (S40) → List (S32) → Int → Int → Int → Int → Option (Bool)
  | 0, _, _, _, _, _, _ => none
  | k + 1, x0, x3, x4, x5, x6, x7 => if x7 < (x3.length : Int) then (arlinklaw16_CommonDisjoint.l1 k x0 x3 x4 x5 x6 x7 false 0) else (arlinklaw16_CommonDisjoint.l2 k x0 x3 x4 x5 x6 0 0)
def arlinklaw16_CommonDisjoint.l1 : Nat → List (S40) → List (S32) → Int → Int → Int → Int → Bool → Int → Option (Bool)
  | 0, _, _, _, _, _, _, _, _ => none
  | k + 1, x0, x3, x4, x5, x6, x7, x8, x9 => if x9 < (x0.length : Int) then (if 0 ≤ x9 then (if ((rd_T40 x0 x9).f1) = 3 then (if 0 ≤ x7 then (if x7 < (x3.length : Int) then (arlinklaw16_CommonDisjoint.j3 k x0 x3 x4 x5 x6 x7 x8 x9 (((rd_T40 x0 x9).f0).toList == ((rd_T32 x3 x7).f0).toList)) else (none)) else (none)) else (arlinklaw16_CommonDisjoint.j3 k x0 x3 x4 x5 x6 x7 x8 x9 false)) else (none)) else (if x8 = true then (if 0 ≤ x7 then (if x7 < (x3.length : Int) then (if ((rd_T32 x3 x7).f1) < x6 then (some false) else (arlinklaw16_CommonDisjoint.l0 k x0 x3 x4 x5 (wrap64 (((rd_T32 x3 x7).f1) + ((rd_T32 x3 x7).f2))) (wrap64 (x7 + 1)))) else (none)) else (none)) else (some false))
def arlinklaw16_CommonDisjoint.j3 : Nat → List (S40) → List (S32) → Int → Int → Int → Int → Bool → Int → Bool → Option (Bool)
  | 0, _, _, _, _, _, _, _, _, _ => none
  | k + 1, x0, x3, x4, x5, x6, x7, x8, x9, x56 => if x56 = true then (if 0 ≤ x7 then (if x7 < (x3.length : Int) then (if 0 ≤ x9 then (if x9 < (x0.length : Int) then (if ((rd_T32 x3 x7).f2) = ((rd_T40 x0 x9).f2) then (if ((rd_T40 x0 x9).f3) = 0 then (none) else (if (Int.tmod ((rd_T32 x3 x7).f1) ((rd_T40 x0 x9).f3)) = 0 then (if (wrap64 (((rd_T32 x3 x7).f1) - x6)) ≥ ((rd_T40 x0 x9).f3) then (some false) else (if ((rd_T40 x0 x9).f3) > x5 then (some false) else (arlinklaw16_CommonDisjoint.l1 k x0 x3 x4 x5 x6 x7 true (wrap64 (x9 + 1))))) else (some false))) else (some false)) else (none)) else (none)) else (none)) else (none)) else (arlinklaw16_CommonDisjoint.l1 k x0 x3 x4 x5 x6 x7 x8 (wrap64 (x9 + 1)))
def arlinklaw16_CommonDisjoint.l2 : Nat → List (S40) → List (S32) → Int → Int → Int → Int → Int → Option (Bool)
  | 0, _, _, _, _, _, _, _ => none
  | k + 1, x0, x3, x4, x5, x6, x10, x11 => if x11 < (x0.length : Int) then (if 0 ≤ x11 then (if ((rd_T40 x0 x11).f1) = 3 then (arlinklaw16_CommonDisjoint.l2 k x0 x3 x4 x5 x6 (wrap64 (x10 + 1)) (wrap64 (x11 + 1))) else (arlinklaw16_CommonDisjoint.l2 k x0 x3 x4 x5 x6 x10 (wrap64 (x11 + 1)))) else (none)) else (if (x3.length : Int) = x10 then (if x4 = x6 then (if x10 > 0 then (some true) else (some (x5 == 1))) else (some false)) else (some false))
end
def arlinklaw16_CommonDisjoint.f (k : Nat) (l0 : List (S40)) : Option (Bool) := (arlinklaw16_awake.f k).bind fun t212 => (if t212 = true then ((arlinkref16_Right.f k l0).bind fun t213 => (arlinklaw16_CommonDisjoint.j0 k l0 (!t213))) else (arlinklaw16_CommonDisjoint.j0 k l0 true))
theorem arlinklaw16_CommonDisjoint.mono_l : ∀ k, (∀ y0 y1, LeO (arlinklaw16_CommonDisjoint.j0 k y0 y1) (arlinklaw16_CommonDisjoint.j0 (k + 1) y0 y1)) ∧ (∀ y0 y1 y2 y3 y4 y5, LeO (arlinklaw16_CommonDisjoint.l0 k y0 y1 y2 y3 y4 y5) (arlinklaw16_CommonDisjoint.l0 (k + 1) y0 y1 y2 y3 y4 y5)) ∧ (∀ y0 y1 y2 y3 y4 y5 y6 y7, LeO (arlinklaw16_CommonDisjoint.l1 k y0 y1 y2 y3 y4 y5 y6 y7) (arlinklaw16_CommonDisjoint.l1 (k + 1) y0 y1 y2 y3 y4 y5 y6 y7)) ∧ (∀ y0 y1 y2 y3 y4 y5 y6 y7 y8, LeO (arlinklaw16_CommonDisjoint.j3 k y0 y1 y2 y3 y4 y5 y6 y7 y8) (arlinklaw16_CommonDisjoint.j3 (k + 1) y0 y1 y2 y3 y4 y5 y6 y7 y8)) ∧ (∀ y0 y1 y2 y3 y4 y5 y6, LeO (arlinklaw16_CommonDisjoint.l2 k y0 y1 y2 y3 y4 y5 y6) (arlinklaw16_CommonDisjoint.l2 (k + 1) y0 y1 y2 y3 y4 y5 y6))
  | 0 => ⟨fun _ _ r h => by simp [arlinklaw16_CommonDisjoint.j0] at h, fun _ _ _ _ _ _ r h => by simp [arlinklaw16_CommonDisjoint.l0] at h, fun _ _ _ _ _ _ _ _ r h => by simp [arlinklaw16_CommonDisjoint.l1] at h, fun _ _ _ _ _ _ _ _ _ r h => by simp [arlinklaw16_CommonDisjoint.j3] at h, fun _ _ _ _ _ _ _ r h => by simp [arlinklaw16_CommonDisjoint.l2] at h⟩
  | k + 1 => by
    obtain ⟨ih0, ih1, ih2, ih3, ih4⟩ := arlinklaw16_CommonDisjoint.mono_l k
    refine ⟨?_, ?_, ?_, ?_, ?_⟩
    · intro y0 y1
      unfold arlinklaw16_CommonDisjoint.j0
      repeat' first
      | (with_reducible exact ih0 _ _)
      | (with_reducible exact ih1 _ _ _ _ _ _)
      | (with_reducible exact ih2 _ _ _ _ _ _ _ _)
      | (with_reducible exact ih3 _ _ _ _ _ _ _ _ _)
      | (with_reducible exact ih4 _ _ _ _ _ _ _)
      | (with_reducible exact arlinklaw16_awake.mono _)
      | (with_reducible exact arlinkref16_Right.mono _ _)
      | (with_reducible exact LeO.refl _)
      | (with_reducible exact LeO.none _)
      | (with_reducible refine LeO.ite ?_ ?_)
      | (with_reducible refine LeO.bind ?_ (fun _ => ?_))
      | exact ih0 _ _
      | exact ih1 _ _ _ _ _ _
      | exact ih2 _ _ _ _ _ _ _ _
      | exact ih3 _ _ _ _ _ _ _ _ _
      | exact ih4 _ _ _ _ _ _ _
      | exact arlinklaw16_awake.mono _
      | exact arlinkref16_Right.mono _ _
      | exact LeO.none _
      | refine LeO.ite ?_ ?_
      | refine LeO.bind ?_ (fun _ => ?_)
    · intro y0 y1 y2 y3 y4 y5
      unfold arlinklaw16_CommonDisjoint.l0
      repeat' first
      | (with_reducible exact ih0 _ _)
      | (with_reducible exact ih1 _ _ _ _ _ _)
      | (with_reducible exact ih2 _ _ _ _ _ _ _ _)
      | (with_reducible exact ih3 _ _ _ _ _ _ _ _ _)
      | (with_reducible exact ih4 _ _ _ _ _ _ _)
      | (with_reducible exact arlinklaw16_awake.mono _)
      | (with_reducible exact arlinkref16_Right.mono _ _)
      | (with_reducible exact LeO.refl _)
      | (with_reducible exact LeO.none _)
      | (with_reducible refine LeO.ite ?_ ?_)
      | (with_reducible refine LeO.bind ?_ (fun _ => ?_))
      | exact ih0 _ _
      | exact ih1 _ _ _ _ _ _
      | exact ih2 _ _ _ _ _ _ _ _
      | exact ih3 _ _ _ _ _ _ _ _ _
      | exact ih4 _ _ _ _ _ _ _
      | exact arlinklaw16_awake.mono _
      | exact arlinkref16_Right.mono _ _
      | exact LeO.none _
      | refine LeO.ite ?_ ?_
      | refine LeO.bind ?_ (fun _ => ?_)
    · intro y0 y1 y2 y3 y4 y5 y6 y7
      unfold arlinklaw16_CommonDisjoint.l1
      repeat' first
      | (with_reducible exact ih0 _ _)
      | (with_reducible exact ih1 _ _ _ _ _ _)
      | (with_reducible exact ih2 _ _ _ _ _ _ _ _)
      | (with_reducible exact ih3 _ _ _ _ _ _ _ _ _)
      | (with_reducible exact ih4 _ _ _ _ _ _ _)
      | (with_reducible exact arlinklaw16_awake.mono _)
      | (with_reducible exact arlinkref16_Right.mono _ _)
      | (with_reducible exact LeO.refl _)
      | (with_reducible exact LeO.none _)
      | (with_reducible refine LeO.ite ?_ ?_)
      | (with_reducible refine LeO.bind ?_ (fun _ => ?_))
      | exact ih0 _ _
      | exact ih1 _ _ _ _ _ _
      | exact ih2 _ _ _ _ _ _ _ _
      | exact ih3 _ _ _ _ _ _ _ _ _
      | exact ih4 _ _ _ _ _ _ _
      | exact arlinklaw16_awake.mono _
      | exact arlinkref16_Right.mono _ _
      | exact LeO.none _
      | refine LeO.ite ?_ ?_
      | refine LeO.bind ?_ (fun _ => ?_)
    · intro y0 y1 y2 y3 y4 y5 y6 y7 y8
      unfold arlinklaw16_CommonDisjoint.j3
      repeat' first
      | (with_reducible exact ih0 _ _)
      | (with_reducible exact ih1 _ _ _ _ _ _)
      | (with_reducible exact ih2 _ _ _ _ _ _ _ _)
      | (with_reducible exact ih3 _ _ _ _ _ _ _ _ _)
      | (with_reducible exact ih4 _ _ _ _ _ _ _)
      | (with_reducible exact arlinklaw16_awake.mono _)
      | (with_reducible exact arlinkref16_Right.mono _ _)
      | (with_reducible exact LeO.refl _)
      | (with_reducible exact LeO.none _)
      | (with_reducible refine LeO.ite ?_ ?_)
      | (with_reducible refine LeO.bind ?_ (fun _ => ?_))
      | exact ih0 _ _
      | exact ih1 _ _ _ _ _ _
      | exact ih2 _ _ _ _ _ _ _ _
      | exact ih3 _ _ _ _ _ _ _ _ _
      | exact ih4 _ _ _ _ _ _ _
      | exact arlinklaw16_awake.mono _
      | exact arlinkref16_Right.mono _ _
      | exact LeO.none _
      | refine LeO.ite ?_ ?_
      | refine LeO.bind ?_ (fun _ => ?_)
    · intro y0 y1 y2 y3 y4 y5 y6
      unfold arlinklaw16_CommonDisjoint.l2
      repeat' first
      | (with_reducible exact ih0 _ _)
      | (with_reducible exact ih1 _ _ _ _ _ _)
      | (with_reducible exact ih2 _ _ _ _ _ _ _ _)
      | (with_reducible exact ih3 _ _ _ _ _ _ _ _ _)
      | (with_reducible exact ih4 _ _ _ _ _ _ _)
      | (with_reducible exact arlinklaw16_awake.mono _)
      | (with_reducible exact arlinkref16_Right.mono _ _)
      | (with_reducible exact LeO.refl _)
      | (with_reducible exact LeO.none _)
      | (with_reducible refine LeO.ite ?_ ?_)
      | (with_reducible refine LeO.bind ?_ (fun _ => ?_))
      | exact ih0 _ _
      | exact ih1 _ _ _ _ _ _
      | exact ih2 _ _ _ _ _ _ _ _
      | exact ih3 _ _ _ _ _ _ _ _ _
      | exact ih4 _ _ _ _ _ _ _
      | exact arlinklaw16_awake.mono _
      | exact arlinkref16_Right.mono _ _
      | exact LeO.none _
      | refine LeO.ite ?_ ?_
      | refine LeO.bind ?_ (fun _ => ?_)
theorem arlinklaw16_CommonDisjoint.mono : ∀ a0 k, LeO (arlinklaw16_CommonDisjoint.f k a0) (arlinklaw16_CommonDisjoint.f (k + 1) a0) := by
  intro a0 k
  obtain ⟨ih0, ih1, ih2, ih3, ih4⟩ := arlinklaw16_CommonDisjoint.mono_l k
  unfold arlinklaw16_CommonDisjoint.f
  repeat' first
      | (with_reducible exact ih0 _ _)
      | (with_reducible exact ih1 _ _ _ _ _ _)
      | (with_reducible exact ih2 _ _ _ _ _ _ _ _)
      | (with_reducible exact ih3 _ _ _ _ _ _ _ _ _)
      | (with_reducible exact ih4 _ _ _ _ _ _ _)
      | (with_reducible exact arlinklaw16_awake.mono _)
      | (with_reducible exact arlinkref16_Right.mono _ _)
      | (with_reducible exact LeO.refl _)
      | (with_reducible exact LeO.none _)
      | (with_reducible refine LeO.ite ?_ ?_)
      | (with_reducible refine LeO.bind ?_ (fun _ => ?_))
      | exact ih0 _ _
      | exact ih1 _ _ _ _ _ _
      | exact ih2 _ _ _ _ _ _ _ _
      | exact ih3 _ _ _ _ _ _ _ _ _
      | exact ih4 _ _ _ _ _ _ _
      | exact arlinklaw16_awake.mono _
      | exact arlinkref16_Right.mono _ _
      | exact LeO.none _
      | refine LeO.ite ?_ ?_
      | refine LeO.bind ?_ (fun _ => ?_)
set_option maxHeartbeats 8000000 in
set_option maxRecDepth 100000 in
theorem arlinklaw16_CommonDisjoint.calls (k : Nat) (A0 : Option Addr) (c0 : Nat) (l0 : List (S40)) (r : Bool) (w : World) (hr0 : Kd.C k40 w A0 l0.length l0) (hc0 : l0.length ≤ c0) (h : arlinklaw16_CommonDisjoint.f k l0 = some r) :
    Calls Try.prog 4 #[.slice A0 l0.length c0] w fun e w' => e = .returned (.bool r) ∧ Below w.heap.size w w' := by
  have HR0 := Aside0.mk hr0
  have HC0 := Aside0.mk hc0
  clear hr0 hc0
  have HB := Aside0.mk (Below.refl w.heap.size w)
  have H : ((arlinklaw16_awake.f k).bind fun t212 => (if t212 = true then ((arlinkref16_Right.f k l0).bind fun t213 => (arlinklaw16_CommonDisjoint.j0 k l0 (!t213))) else (arlinklaw16_CommonDisjoint.j0 k l0 true))) = some r := h
  clear h
  have HC2 := Aside0.mk H
  clear H
  go_enter Try.func4, Try.ntmps4
  go_upto_region 1 with (fail)
  repeat (go_quiet (fail); go_upto_region 1 with (fail))
  go_cut [18] (fun v18 wc => ∃ (kq : Nat) (x18_1 : Bool), v18 = .bool x18_1 ∧ Aside0 (arlinklaw16_CommonDisjoint.j0 kq l0 x18_1 = some r) ∧ Aside0 (kq ≤ k) ∧ Aside0 (Below w.heap.size w wc))
  case first =>
    have H := HC2.out
    clear HC2
    replace H := Option.bind_eq_some_iff.mp H
    obtain ⟨t212, A30, H⟩ := H
    replace H : (if t212 = true then ((arlinkref16_Right.f k l0).bind fun t213 => (arlinklaw16_CommonDisjoint.j0 k l0 (!t213))) else (arlinklaw16_CommonDisjoint.j0 k l0 true)) = some r := H
    have A3 := Aside0.mk A30
    clear A30
    by_cases c4 : t212 = true
    · subst c4
      have H1 : ((arlinkref16_Right.f k l0).bind fun t213 => (arlinklaw16_CommonDisjoint.j0 k l0 (!t213))) = some r := by rw [if_pos rfl] at H; exact H
      clear H
      have H := H1
      clear H1
      replace H := Option.bind_eq_some_iff.mp H
      obtain ⟨t213, A50, H⟩ := H
      replace H : (arlinklaw16_CommonDisjoint.j0 k l0 (!t213)) = some r := H
      have A5 := Aside0.mk A50
      clear A50
      have H' := Aside0.mk H
      clear H
      go_wp2_with (first | (go_at_call 8; (with_reducible refine (arlinklaw16_awake.calls k  true _ A3.out).mono ?_); rintro e w6 ⟨rfl, hb⟩; have n0_ := Aside0.mk (below_step (by repeat (first | (with_reducible first | exact HB.out | apply below_alloc | apply pw_below_drewN | apply below_drew1) | exact HB.out)) hb); clear HB; have HB := n0_; clear n0_; (try clear hb); (try clear hb2); (try clear hk); (try clear hi)) | (go_at_call 9; (with_reducible refine (arlinkref16_Right.calls k _ _ l0 t213 _ ?side1 ?side2 A5.out).mono ?_); (case side1 => repeat (first | exact (Kd.C_below HR0.out HB.out) | (with_reducible refine Kd.C_alloc ?_ _) | (with_reducible refine Kd.C_drewN ?_ _) | (with_reducible refine Kd.C_drew ?_))); (case side2 => exact HC0.out); rintro e w' ⟨rfl, ⟨nd, rfl⟩⟩; (try first | exact ⟨rfl, _, World.drewN_drewN _ _ _⟩ | exact ⟨rfl, _, Eq.trans (World.drewN_drewN _ _ _) (congrArg (World.drewN _) (Nat.add_assoc _ _ _))⟩)))
      repeat (go_quiet (first | (go_at_call 8; (with_reducible refine (arlinklaw16_awake.calls k  true _ A3.out).mono ?_); rintro e w6 ⟨rfl, hb⟩; have n0_ := Aside0.mk (below_step (by repeat (first | (with_reducible first | exact HB.out | apply below_alloc | apply pw_below_drewN | apply below_drew1) | exact HB.out)) hb); clear HB; have HB := n0_; clear n0_; (try clear hb); (try clear hb2); (try clear hk); (try clear hi)) | (go_at_call 9; (with_reducible refine (arlinkref16_Right.calls k _ _ l0 t213 _ ?side1 ?side2 A5.out).mono ?_); (case side1 => repeat (first | exact (Kd.C_below HR0.out HB.out) | (with_reducible refine Kd.C_alloc ?_ _) | (with_reducible refine Kd.C_drewN ?_ _) | (with_reducible refine Kd.C_drew ?_))); (case side2 => exact HC0.out); rintro e w' ⟨rfl, ⟨nd, rfl⟩⟩; (try first | exact ⟨rfl, _, World.drewN_drewN _ _ _⟩ | exact ⟨rfl, _, Eq.trans (World.drewN_drewN _ _ _) (congrArg (World.drewN _) (Nat.add_assoc _ _ _))⟩))); try go_wp2_with (first | (go_at_call 8; (with_reducible refine (arlinklaw16_awake.calls k  true _ A3.out).mono ?_); rintro e w6 ⟨rfl, hb⟩; have n0_ := Aside0.mk (below_step (by repeat (first | (with_reducible first | exact HB.out | apply below_alloc | apply pw_below_drewN | apply below_drew1) | exact HB.out)) hb); clear HB; have HB := n0_; clear n0_; (try clear hb); (try clear hb2); (try clear hk); (try clear hi)) | (go_at_call 9; (with_reducible refine (arlinkref16_Right.calls k _ _ l0 t213 _ ?side1 ?side2 A5.out).mono ?_); (case side1 => repeat (first | exact (Kd.C_below HR0.out HB.out) | (with_reducible refine Kd.C_alloc ?_ _) | (with_reducible refine Kd.C_drewN ?_ _) | (with_reducible refine Kd.C_drew ?_))); (case side2 => exact HC0.out); rintro e w' ⟨rfl, ⟨nd, rfl⟩⟩; (try first | exact ⟨rfl, _, World.drewN_drewN _ _ _⟩ | exact ⟨rfl, _, Eq.trans (World.drewN_drewN _ _ _) (congrArg (World.drewN _) (Nat.add_assoc _ _ _))⟩))))
      go_meet
      case rel => exact ⟨_, (!t213), (by first | rfl | (simp; done) | (simp [*]; done)), H', ⟨by first | omega | exact Nat.le_refl _⟩, ⟨by repeat (first | (with_reducible first | exact HB.out | apply below_alloc | apply pw_below_drewN | apply below_drew1) | exact HB.out)⟩⟩
    · replace c4 := Bool.eq_false_iff.mpr c4
      subst c4
      have H1 : (arlinklaw16_CommonDisjoint.j0 k l0 true) = some r := by rw [if_neg (show ¬ (false = true) by decide)] at H; exact H
      clear H
      have H := H1
      clear H1
      have H' := Aside0.mk H
      clear H
      go_wp2_with (first | (go_at_call 8; (with_reducible refine (arlinklaw16_awake.calls k  false _ A3.out).mono ?_); rintro e w7 ⟨rfl, hb⟩; have n0_ := Aside0.mk (below_step (by repeat (first | (with_reducible first | exact HB.out | apply below_alloc | apply pw_below_drewN | apply below_drew1) | exact HB.out)) hb); clear HB; have HB := n0_; clear n0_; (try clear hb); (try clear hb2); (try clear hk); (try clear hi)))
      repeat (go_quiet (first | (go_at_call 8; (with_reducible refine (arlinklaw16_awake.calls k  false _ A3.out).mono ?_); rintro e w7 ⟨rfl, hb⟩; have n0_ := Aside0.mk (below_step (by repeat (first | (with_reducible first | exact HB.out | apply below_alloc | apply pw_below_drewN | apply below_drew1) | exact HB.out)) hb); clear HB; have HB := n0_; clear n0_; (try clear hb); (try clear hb2); (try clear hk); (try clear hi))); try go_wp2_with (first | (go_at_call 8; (with_reducible refine (arlinklaw16_awake.calls k  false _ A3.out).mono ?_); rintro e w7 ⟨rfl, hb⟩; have n0_ := Aside0.mk (below_step (by repeat (first | (with_reducible first | exact HB.out | apply below_alloc | apply pw_below_drewN | apply below_drew1) | exact HB.out)) hb); clear HB; have HB := n0_; clear n0_; (try clear hb); (try clear hb2); (try clear hk); (try clear hi))))
      go_meet
      case rel => exact ⟨_, (true), (by first | rfl | (simp; done) | (simp [*]; done)), H', ⟨by first | omega | exact Nat.le_refl _⟩, ⟨by repeat (first | (with_reducible first | exact HB.out | apply below_alloc | apply pw_below_drewN | apply below_drew1) | exact HB.out)⟩⟩
  case rest =>
    clear HC2
    try clear p2
    try clear c4
    obtain ⟨kq, x18_1, rfl, HA, HJ1, HB⟩ := hcut
    cases kq with
    | zero => exact absurd HA.out (by simp [arlinklaw16_CommonDisjoint.j0])
    | succ kj1 =>
      have H := HA.out
      clear HA
      simp only [arlinklaw16_CommonDisjoint.j0] at H
      by_cases c8 : x18_1 = true
      · subst c8
        have H1 : ((arlinklaw16_awake.f kj1).bind fun t214 => (some t214)) = some r := by rw [if_pos rfl] at H; exact H
        clear H
        have H := H1
        clear H1
        replace H := Option.bind_eq_some_iff.mp H
        obtain ⟨t214, A90, H⟩ := H
        replace H : (some t214) = some r := H
        have A9 := Aside0.mk A90
        clear A90
        obtain rfl := Option.some.inj H
        go_wp2_with (first | (go_at_call 8; (with_reducible refine (arlinklaw16_awake.calls kj1  t214 _ A9.out).mono ?_); rintro e w10 ⟨rfl, hb⟩; have n0_ := Aside0.mk (below_step (by repeat (first | (with_reducible first | exact HB.out | apply below_alloc | apply pw_below_drewN | apply below_drew1) | exact HB.out)) hb); clear HB; have HB := n0_; clear n0_; (try clear hb); (try clear hb2); (try clear hk); (try clear hi)))
        repeat (go_quiet (first | (go_at_call 8; (with_reducible refine (arlinklaw16_awake.calls kj1  t214 _ A9.out).mono ?_); rintro e w10 ⟨rfl, hb⟩; have n0_ := Aside0.mk (below_step (by repeat (first | (with_reducible first | exact HB.out | apply below_alloc | apply pw_below_drewN | apply below_drew1) | exact HB.out)) hb); clear HB; have HB := n0_; clear n0_; (try clear hb); (try clear hb2); (try clear hk); (try clear hi))); try go_wp2_with (first | (go_at_call 8; (with_reducible refine (arlinklaw16_awake.calls kj1  t214 _ A9.out).mono ?_); rintro e w10 ⟨rfl, hb⟩; have n0_ := Aside0.mk (below_step (by repeat (first | (with_reducible first | exact HB.out | apply below_alloc | apply pw_below_drewN | apply below_drew1) | exact HB.out)) hb); clear HB; have HB := n0_; clear n0_; (try clear hb); (try clear hb2); (try clear hk); (try clear hi))))
        go_ret
        exact ⟨by first | rfl | (simp [errW_none, errW_some] <;> rfl) | (simp [*, errW_none, errW_some] <;> rfl), by repeat (first | (with_reducible first | exact HB.out | apply below_alloc | apply pw_below_drewN | apply below_drew1) | exact HB.out)⟩
      · replace c8 := Bool.eq_false_iff.mpr c8
        subst c8
        have H1 : ((common_Layout.f l0).bind fun bt215 => (arlinklaw16_CommonDisjoint.l0 kj1 l0 bt215.1 bt215.2.1 bt215.2.2 0 0)) = some r := by rw [if_neg (show ¬ (false = true) by decide)] at H; exact H
        clear H
        have H := H1
        clear H1
        replace H := Option.bind_eq_some_iff.mp H
        obtain ⟨⟨t215, t216, t217⟩, A110, H⟩ := H
        replace H : (arlinklaw16_CommonDisjoint.l0 kj1 l0 t215 t216 t217 0 0) = some r := H
        have A11 := Aside0.mk A110
        clear A110
        have H' := Aside0.mk H
        clear H
        go_wp2_with (first | (go_at_call 10; (with_reducible refine (common_Layout.calls _ _ l0 t215 t216 t217 _ ?side1 ?side2 A11.out).mono ?_); (case side1 => repeat (first | exact (Kd.C_below HR0.out HB.out) | (with_reducible refine Kd.C_alloc ?_ _) | (with_reducible refine Kd.C_drewN ?_ _) | (with_reducible refine Kd.C_drew ?_))); (case side2 => exact HC0.out); rintro e w12 ⟨v218, rfl, ho0, hb⟩; have n0_ := Aside0.mk (Kd.R_lower ho0 (below_size (by repeat (first | (with_reducible first | exact HB.out | apply below_alloc | apply pw_below_drewN | apply below_drew1) | exact HB.out)))); have n1_ := Aside0.mk (below_step (by repeat (first | (with_reducible first | exact HB.out | apply below_alloc | apply pw_below_drewN | apply below_drew1) | exact HB.out)) hb); clear HB; have HO219 := n0_; have HB := n1_; clear n0_ n1_; (try clear hb); (try clear hb2); (try clear hk); (try clear hi); (try clear ho0)))
        repeat (go_quiet (first | (go_at_call 10; (with_reducible refine (common_Layout.calls _ _ l0 t215 t216 t217 _ ?side1 ?side2 A11.out).mono ?_); (case side1 => repeat (first | exact (Kd.C_below HR0.out HB.out) | (with_reducible refine Kd.C_alloc ?_ _) | (with_reducible refine Kd.C_drewN ?_ _) | (with_reducible refine Kd.C_drew ?_))); (case side2 => exact HC0.out); rintro e w12 ⟨v218, rfl, ho0, hb⟩; have n0_ := Aside0.mk (Kd.R_lower ho0 (below_size (by repeat (first | (with_reducible first | exact HB.out | apply below_alloc | apply pw_below_drewN | apply below_drew1) | exact HB.out)))); have n1_ := Aside0.mk (below_step (by repeat (first | (with_reducible first | exact HB.out | apply below_alloc | apply pw_below_drewN | apply below_drew1) | exact HB.out)) hb); clear HB; have HO219 := n0_; have HB := n1_; clear n0_ n1_; (try clear hb); (try clear hb2); (try clear hk); (try clear hi); (try clear ho0))); try go_wp2_with (first | (go_at_call 10; (with_reducible refine (common_Layout.calls _ _ l0 t215 t216 t217 _ ?side1 ?side2 A11.out).mono ?_); (case side1 => repeat (first | exact (Kd.C_below HR0.out HB.out) | (with_reducible refine Kd.C_alloc ?_ _) | (with_reducible refine Kd.C_drewN ?_ _) | (with_reducible refine Kd.C_drew ?_))); (case side2 => exact HC0.out); rintro e w12 ⟨v218, rfl, ho0, hb⟩; have n0_ := Aside0.mk (Kd.R_lower ho0 (below_size (by repeat (first | (with_reducible first | exact HB.out | apply below_alloc | apply pw_below_drewN | apply below_drew1) | exact HB.out)))); have n1_ := Aside0.mk (below_step (by repeat (first | (with_reducible first | exact HB.out | apply below_alloc | apply pw_below_drewN | apply below_drew1) | exact HB.out)) hb); clear HB; have HO219 := n0_; have HB := n1_; clear n0_ n1_; (try clear hb); (try clear hb2); (try clear hk); (try clear hi); (try clear ho0))))
        go_loopg [6, 7] kj1 (fun kq v6 v7 w' => ∃ (x6_2 : Int) (x7_2 : Int), v6 = .int .i64 x6_2 ∧ v7 = .int .i64 x7_2 ∧ Aside0 (arlinklaw16_CommonDisjoint.l0 kq l0 t215 t216 t217 x6_2 x7_2 = some r) ∧ Aside0 (kq ≤ kj1) ∧ Aside0 (Kd.R k32 32 w' w.heap.size (fun _ => True) v218 t215) ∧ Aside0 (Below w.heap.size w w'))
        case atStart => exact ⟨(0), (0), (by first | rfl | (simp; done) | (simp [*]; done)), (by first | rfl | (simp; done) | (simp [*]; done)), H', ⟨Nat.le_refl _⟩, ⟨by (with_reducible repeat (first | apply Kd.R_alloc | apply Kd.R_drewN | apply Kd.R_drew)); exact HO219.out⟩, ⟨by repeat (first | (with_reducible first | exact HB.out | apply below_alloc | apply pw_below_drewN | apply below_drew1) | exact HB.out)⟩⟩
        case round =>
          clear H'
          try clear p2
          try clear c4
          try clear c8
          try clear p2
          obtain ⟨x6_2, x7_2, rfl, rfl, HA, HK2, HO_3, HB⟩ := hrel
          cases gk with
          | zero => exact absurd HA.out (by simp [arlinklaw16_CommonDisjoint.l0])
          | succ k2 =>
            have H := HA.out
            clear HA
            simp only [arlinklaw16_CommonDisjoint.l0] at H
            by_cases c13 : x7_2 < (t215.length : Int)
            · rw [if_pos c13] at H
              have c13b0 : decide (x7_2 < (t215.length : Int)) = true := decide_eq_true c13
              clear c13
              have H' := Aside0.mk H
              clear H
              obtain ⟨Ao14, co14, eo14⟩ := Kd.R_slice HO_3.out
              subst eo14
              go_wp2
              repeat (go_quiet (fail); try go_wp2)
              go_loopg [8, 9] k2 (fun kq v8 v9 w' => ∃ (x8_3 : Bool) (x9_3 : Int), v8 = .bool x8_3 ∧ v9 = .int .i64 x9_3 ∧ Aside0 (arlinklaw16_CommonDisjoint.l1 kq l0 t215 t216 t217 x6_2 x7_2 x8_3 x9_3 = some r) ∧ Aside0 (kq ≤ k2) ∧ Aside0 (Kd.R k32 32 w' w.heap.size (fun _ => True) (.slice Ao14 t215.length co14) t215) ∧ Aside0 (Below w.heap.size w w'))
              case atStart => exact ⟨(false), (0), (by first | rfl | (simp; done) | (simp [*]; done)), (by first | rfl | (simp; done) | (simp [*]; done)), H', ⟨Nat.le_refl _⟩, ⟨by (with_reducible repeat (first | apply Kd.R_alloc | apply Kd.R_drewN | apply Kd.R_drew)); exact HO_3.out⟩, ⟨by repeat (first | (with_reducible first | exact HB.out | apply below_alloc | apply pw_below_drewN | apply below_drew1) | exact HB.out)⟩⟩
              case round =>
                clear H'
                try clear c1
                try clear p2
                try clear c4
                try clear c8
                try clear c13
                try clear c13b0
                try clear p2
                obtain ⟨x8_3, x9_3, rfl, rfl, HA, HK3, HO_3, HB⟩ := hrel
                cases gk with
                | zero => exact absurd HA.out (by simp [arlinklaw16_CommonDisjoint.l1])
                | succ k3 =>
                  have H := HA.out
                  clear HA
                  simp only [arlinklaw16_CommonDisjoint.l1] at H
                  by_cases c15 : x9_3 < (l0.length : Int)
                  · rw [if_pos c15] at H
                    have c15b0 : decide (x9_3 < (l0.length : Int)) = true := decide_eq_true c15
                    clear c15
                    have HC16 := Aside0.mk H
                    clear H
                    go_upto_region 12 with (fail)
                    repeat (go_quiet (fail); go_upto_region 12 with (fail))
                    go_cut [56] (fun v56 wc => ∃ (kq : Nat) (x56_15 : Bool), v56 = .bool x56_15 ∧ Aside0 (arlinklaw16_CommonDisjoint.j3 kq l0 t215 t216 t217 x6_2 x7_2 x8_3 x9_3 x56_15 = some r) ∧ Aside0 (kq ≤ k3) ∧ Aside0 (Kd.R k32 32 wc w.heap.size (fun _ => True) (.slice Ao14 t215.length co14) t215) ∧ Aside0 (Below w.heap.size w wc))
                    case first =>
                      have H := HC16.out
                      clear HC16
                      by_cases c17 : 0 ≤ x9_3
                      · rw [if_pos c17] at H
                        have c17b0 : decide (0 ≤ x9_3) = true := decide_eq_true c17
                        clear c17
                        (first | rw [c17b0] | (simp only [i64_w, i32_w]; rw [c17b0]) | skip)
                        by_cases c18 : ((rd_T40 l0 x9_3).f1) = 3
                        · rw [if_pos c18] at H
                          have c18b0 : (((rd_T40 l0 x9_3).f1) == 3) = true := beq_iff_eq.mpr c18
                          have c18b1 : (((rd_T40 l0 x9_3).f1) != 3) = false := bne_eq_false_iff_eq.mpr c18
                          clear c18
                          by_cases c19 : 0 ≤ x7_2
                          · rw [if_pos c19] at H
                            have c19b0 : decide (0 ≤ x7_2) = true := decide_eq_true c19
                            clear c19
                            by_cases c20 : x7_2 < (t215.length : Int)
                            · rw [if_pos c20] at H
                              have c20b0 : decide (x7_2 < (t215.length : Int)) = true := decide_eq_true c20
                              clear c20
                              have H' := Aside0.mk H
                              clear H
                              have p223 : 0 ≤ (x9_3 : Int) := of_decide_eq_true (by first | (with_reducible assumption) | assumption)
                              have q223 : x9_3 < (l0.length : Int) := of_decide_eq_true (by first | (with_reducible assumption) | assumption)
                              obtain ⟨ad223, e223, hx223_0, hx223_1, hx223_2, hx223_3, hx223_4⟩ := at_T40 HR0.out x9_3 p223 q223
                              cases e223
                              replace hx223_0 := (HB.out.cell (World.block_lt_of_cell? w _ hx223_0)).trans hx223_0
                              replace hx223_1 := (HB.out.cell (World.block_lt_of_cell? w _ hx223_1)).trans hx223_1
                              replace hx223_2 := (HB.out.cell (World.block_lt_of_cell? w _ hx223_2)).trans hx223_2
                              replace hx223_3 := (HB.out.cell (World.block_lt_of_cell? w _ hx223_3)).trans hx223_3
                              replace hx223_4 := (HB.out.cell (World.block_lt_of_cell? w _ hx223_4)).trans hx223_4
                              replace p223 := eq_true p223
                              replace q223 := eq_true q223
                              have p224 : 0 ≤ (x9_3 : Int) := of_decide_eq_true (by first | (with_reducible assumption) | assumption)
                              have q224 : x9_3 < (l0.length : Int) := of_decide_eq_true (by first | (with_reducible assumption) | assumption)
                              obtain ⟨ad224, e224, hx224_0, hx224_1, hx224_2, hx224_3, hx224_4⟩ := at_T40 HR0.out x9_3 p224 q224
                              obtain rfl : ad223 = ad224 := (by injection e224)
                              replace hx224_0 := (HB.out.cell (World.block_lt_of_cell? w _ hx224_0)).trans hx224_0
                              replace hx224_1 := (HB.out.cell (World.block_lt_of_cell? w _ hx224_1)).trans hx224_1
                              replace hx224_2 := (HB.out.cell (World.block_lt_of_cell? w _ hx224_2)).trans hx224_2
                              replace hx224_3 := (HB.out.cell (World.block_lt_of_cell? w _ hx224_3)).trans hx224_3
                              replace hx224_4 := (HB.out.cell (World.block_lt_of_cell? w _ hx224_4)).trans hx224_4
                              replace p224 := eq_true p224
                              replace q224 := eq_true q224
                              have p225 : 0 ≤ (x7_2 : Int) := of_decide_eq_true (by first | (with_reducible assumption) | assumption)
                              have q225 : x7_2 < (t215.length : Int) := of_decide_eq_true (by first | (with_reducible assumption) | assumption)
                              obtain ⟨ad225, e225, hx225_0, hx225_1, hx225_2⟩ := at_T32 (Kd.R_reads' HO_3.out).2.2 x7_2 p225 q225
                              cases e225
                              replace p225 := eq_true p225
                              replace q225 := eq_true q225
                              go_wp2
                              repeat (go_quiet (fail); try go_wp2)
                              go_meet
                              case rel => exact ⟨_, ((((rd_T40 l0 x9_3).f0).toList == ((rd_T32 t215 x7_2).f0).toList)), (by first | rfl | (simp; done) | (simp [*]; done)), H', ⟨by have := HJ1.out; have := HK2.out; have := HK3.out; first | omega | exact Nat.le_refl _⟩, ⟨by (with_reducible repeat (first | apply Kd.R_alloc | apply Kd.R_drewN | apply Kd.R_drew)); exact HO_3.out⟩, ⟨by repeat (first | (with_reducible first | exact HB.out | apply below_alloc | apply pw_below_drewN | apply below_drew1) | exact HB.out)⟩⟩
                            · rw [if_neg c20] at H
                              exact absurd H (by simp)
                          · rw [if_neg c19] at H
                            exact absurd H (by simp)
                        · rw [if_neg c18] at H
                          have c18b0 : (((rd_T40 l0 x9_3).f1) == 3) = false := beq_eq_false_iff_ne.mpr c18
                          have c18b1 : (((rd_T40 l0 x9_3).f1) != 3) = true := bne_iff_ne.mpr c18
                          have H' := Aside0.mk H
                          clear H
                          have p223 : 0 ≤ (x9_3 : Int) := of_decide_eq_true (by first | (with_reducible assumption) | assumption)
                          have q223 : x9_3 < (l0.length : Int) := of_decide_eq_true (by first | (with_reducible assumption) | assumption)
                          obtain ⟨ad223, e223, hx223_0, hx223_1, hx223_2, hx223_3, hx223_4⟩ := at_T40 HR0.out x9_3 p223 q223
                          cases e223
                          replace hx223_0 := (HB.out.cell (World.block_lt_of_cell? w _ hx223_0)).trans hx223_0
                          replace hx223_1 := (HB.out.cell (World.block_lt_of_cell? w _ hx223_1)).trans hx223_1
                          replace hx223_2 := (HB.out.cell (World.block_lt_of_cell? w _ hx223_2)).trans hx223_2
                          replace hx223_3 := (HB.out.cell (World.block_lt_of_cell? w _ hx223_3)).trans hx223_3
                          replace hx223_4 := (HB.out.cell (World.block_lt_of_cell? w _ hx223_4)).trans hx223_4
                          replace p223 := eq_true p223
                          replace q223 := eq_true q223
                          go_wp2
                          repeat (go_quiet (fail); try go_wp2)
                          go_meet
                          case rel => exact ⟨_, (false), (by first | rfl | (simp; done) | (simp [*]; done)), H', ⟨by have := HJ1.out; have := HK2.out; have := HK3.out; first | omega | exact Nat.le_refl _⟩, ⟨by (with_reducible repeat (first | apply Kd.R_alloc | apply Kd.R_drewN | apply Kd.R_drew)); exact HO_3.out⟩, ⟨by repeat (first | (with_reducible first | exact HB.out | apply below_alloc | apply pw_below_drewN | apply below_drew1) | exact HB.out)⟩⟩
                      · rw [if_neg c17] at H
                        exact absurd H (by simp)
                    case rest =>
                      clear HC16
                      try clear c1
                      try clear c2
                      try clear p2
                      try clear q2
                      try clear hx2
                      try clear c4
                      try clear c8
                      try clear c13
                      try clear c13b0
                      try clear c15
                      try clear c15b0
                      try clear c17
                      try clear c17b0
                      try clear c18
                      try clear c18b0
                      try clear c18b1
                      try clear c19
                      try clear c19b0
                      try clear c20
                      try clear c20b0
                      try clear hx223_0
                      try clear hx223_1
                      try clear hx223_2
                      try clear hx223_3
                      try clear hx223_4
                      try clear hx224_0
                      try clear hx224_1
                      try clear hx224_2
                      try clear hx224_3
                      try clear hx224_4
                      try clear hx225_0
                      try clear hx225_1
                      try clear hx225_2
                      try clear p2
                      try clear p223
                      try clear p224
                      try clear p225
                      try clear q223
                      try clear q224
                      try clear q225
                      obtain ⟨kq, x56_15, rfl, HA, HJ15, HO_3, HB⟩ := hcut
                      cases kq with
                      | zero => exact absurd HA.out (by simp [arlinklaw16_CommonDisjoint.j3])
                      | succ kj15 =>
                        have H := HA.out
                        clear HA
                        simp only [arlinklaw16_CommonDisjoint.j3] at H
                        by_cases c21 : x56_15 = true
                        · subst c21
                          have H1 : (if 0 ≤ x7_2 then (if x7_2 < (t215.length : Int) then (if 0 ≤ x9_3 then (if x9_3 < (l0.length : Int) then (if ((rd_T32 t215 x7_2).f2) = ((rd_T40 l0 x9_3).f2) then (if ((rd_T40 l0 x9_3).f3) = 0 then (none) else (if (Int.tmod ((rd_T32 t215 x7_2).f1) ((rd_T40 l0 x9_3).f3)) = 0 then (if (wrap64 (((rd_T32 t215 x7_2).f1) - x6_2)) ≥ ((rd_T40 l0 x9_3).f3) then (some false) else (if ((rd_T40 l0 x9_3).f3) > t217 then (some false) else (arlinklaw16_CommonDisjoint.l1 kj15 l0 t215 t216 t217 x6_2 x7_2 true (wrap64 (x9_3 + 1))))) else (some false))) else (some false)) else (none)) else (none)) else (none)) else (none)) = some r := by rw [if_pos rfl] at H; exact H
                          clear H
                          have H := H1
                          clear H1
                          by_cases c22 : 0 ≤ x7_2
                          · rw [if_pos c22] at H
                            have c22b0 : decide (0 ≤ x7_2) = true := decide_eq_true c22
                            clear c22
                            by_cases c23 : x7_2 < (t215.length : Int)
                            · rw [if_pos c23] at H
                              have c23b0 : decide (x7_2 < (t215.length : Int)) = true := decide_eq_true c23
                              clear c23
                              by_cases c24 : 0 ≤ x9_3
                              · rw [if_pos c24] at H
                                have c24b0 : decide (0 ≤ x9_3) = true := decide_eq_true c24
                                clear c24
                                by_cases c25 : x9_3 < (l0.length : Int)
                                · rw [if_pos c25] at H
                                  have c25b0 : decide (x9_3 < (l0.length : Int)) = true := decide_eq_true c25
                                  clear c25
                                  by_cases c26 : ((rd_T32 t215 x7_2).f2) = ((rd_T40 l0 x9_3).f2)
                                  · rw [if_pos c26] at H
                                    have c26b0 : (((rd_T32 t215 x7_2).f2) == ((rd_T40 l0 x9_3).f2)) = true := beq_iff_eq.mpr c26
                                    have c26b1 : (((rd_T32 t215 x7_2).f2) != ((rd_T40 l0 x9_3).f2)) = false := bne_eq_false_iff_eq.mpr c26
                                    clear c26
                                    by_cases c27 : ((rd_T40 l0 x9_3).f3) = 0
                                    · rw [if_pos c27] at H
                                      exact absurd H (by simp)
                                    · rw [if_neg c27] at H
                                      have c27b0 : (((rd_T40 l0 x9_3).f3) == 0) = false := beq_eq_false_iff_ne.mpr c27
                                      have c27b1 : (((rd_T40 l0 x9_3).f3) != 0) = true := bne_iff_ne.mpr c27
                                      by_cases c28 : (Int.tmod ((rd_T32 t215 x7_2).f1) ((rd_T40 l0 x9_3).f3)) = 0
                                      · rw [if_pos c28] at H
                                        have c28b0 : ((Int.tmod ((rd_T32 t215 x7_2).f1) ((rd_T40 l0 x9_3).f3)) == 0) = true := beq_iff_eq.mpr c28
                                        have c28b1 : ((Int.tmod ((rd_T32 t215 x7_2).f1) ((rd_T40 l0 x9_3).f3)) != 0) = false := bne_eq_false_iff_eq.mpr c28
                                        clear c28
                                        by_cases c29 : (wrap64 (((rd_T32 t215 x7_2).f1) - x6_2)) ≥ ((rd_T40 l0 x9_3).f3)
                                        · rw [if_pos c29] at H
                                          have c29b0 : decide (((rd_T40 l0 x9_3).f3) ≤ (wrap64 (((rd_T32 t215 x7_2).f1) - x6_2))) = true := decide_eq_true c29
                                          clear c29
                                          obtain rfl := Option.some.inj H
                                          have p226 : 0 ≤ (x7_2 : Int) := of_decide_eq_true (by first | (with_reducible assumption) | assumption)
                                          have q226 : x7_2 < (t215.length : Int) := of_decide_eq_true (by first | (with_reducible assumption) | assumption)
                                          obtain ⟨ad226, e226, hx226_0, hx226_1, hx226_2⟩ := at_T32 (Kd.R_reads' HO_3.out).2.2 x7_2 p226 q226
                                          cases e226
                                          replace p226 := eq_true p226
                                          replace q226 := eq_true q226
                                          have p227 : 0 ≤ (x9_3 : Int) := of_decide_eq_true (by first | (with_reducible assumption) | assumption)
                                          have q227 : x9_3 < (l0.length : Int) := of_decide_eq_true (by first | (with_reducible assumption) | assumption)
                                          obtain ⟨ad227, e227, hx227_0, hx227_1, hx227_2, hx227_3, hx227_4⟩ := at_T40 HR0.out x9_3 p227 q227
                                          cases e227
                                          replace hx227_0 := (HB.out.cell (World.block_lt_of_cell? w _ hx227_0)).trans hx227_0
                                          replace hx227_1 := (HB.out.cell (World.block_lt_of_cell? w _ hx227_1)).trans hx227_1
                                          replace hx227_2 := (HB.out.cell (World.block_lt_of_cell? w _ hx227_2)).trans hx227_2
                                          replace hx227_3 := (HB.out.cell (World.block_lt_of_cell? w _ hx227_3)).trans hx227_3
                                          replace hx227_4 := (HB.out.cell (World.block_lt_of_cell? w _ hx227_4)).trans hx227_4
                                          replace p227 := eq_true p227
                                          replace q227 := eq_true q227
                                          have p228 : 0 ≤ (x7_2 : Int) := of_decide_eq_true (by first | (with_reducible assumption) | assumption)
                                          have q228 : x7_2 < (t215.length : Int) := of_decide_eq_true (by first | (with_reducible assumption) | assumption)
                                          obtain ⟨ad228, e228, hx228_0, hx228_1, hx228_2⟩ := at_T32 (Kd.R_reads' HO_3.out).2.2 x7_2 p228 q228
                                          obtain rfl : ad226 = ad228 := (by injection e228)
                                          replace p228 := eq_true p228
                                          replace q228 := eq_true q228
                                          have p229 : 0 ≤ (x9_3 : Int) := of_decide_eq_true (by first | (with_reducible assumption) | assumption)
                                          have q229 : x9_3 < (l0.length : Int) := of_decide_eq_true (by first | (with_reducible assumption) | assumption)
                                          obtain ⟨ad229, e229, hx229_0, hx229_1, hx229_2, hx229_3, hx229_4⟩ := at_T40 HR0.out x9_3 p229 q229
                                          obtain rfl : ad227 = ad229 := (by injection e229)
                                          replace hx229_0 := (HB.out.cell (World.block_lt_of_cell? w _ hx229_0)).trans hx229_0
                                          replace hx229_1 := (HB.out.cell (World.block_lt_of_cell? w _ hx229_1)).trans hx229_1
                                          replace hx229_2 := (HB.out.cell (World.block_lt_of_cell? w _ hx229_2)).trans hx229_2
                                          replace hx229_3 := (HB.out.cell (World.block_lt_of_cell? w _ hx229_3)).trans hx229_3
                                          replace hx229_4 := (HB.out.cell (World.block_lt_of_cell? w _ hx229_4)).trans hx229_4
                                          replace p229 := eq_true p229
                                          replace q229 := eq_true q229
                                          have p230 : 0 ≤ (x7_2 : Int) := of_decide_eq_true (by first | (with_reducible assumption) | assumption)
                                          have q230 : x7_2 < (t215.length : Int) := of_decide_eq_true (by first | (with_reducible assumption) | assumption)
                                          obtain ⟨ad230, e230, hx230_0, hx230_1, hx230_2⟩ := at_T32 (Kd.R_reads' HO_3.out).2.2 x7_2 p230 q230
                                          obtain rfl : ad226 = ad230 := (by injection e230)
                                          replace p230 := eq_true p230
                                          replace q230 := eq_true q230
                                          have p231 : 0 ≤ (x9_3 : Int) := of_decide_eq_true (by first | (with_reducible assumption) | assumption)
                                          have q231 : x9_3 < (l0.length : Int) := of_decide_eq_true (by first | (with_reducible assumption) | assumption)
                                          obtain ⟨ad231, e231, hx231_0, hx231_1, hx231_2, hx231_3, hx231_4⟩ := at_T40 HR0.out x9_3 p231 q231
                                          obtain rfl : ad227 = ad231 := (by injection e231)
                                          replace hx231_0 := (HB.out.cell (World.block_lt_of_cell? w _ hx231_0)).trans hx231_0
                                          replace hx231_1 := (HB.out.cell (World.block_lt_of_cell? w _ hx231_1)).trans hx231_1
                                          replace hx231_2 := (HB.out.cell (World.block_lt_of_cell? w _ hx231_2)).trans hx231_2
                                          replace hx231_3 := (HB.out.cell (World.block_lt_of_cell? w _ hx231_3)).trans hx231_3
                                          replace hx231_4 := (HB.out.cell (World.block_lt_of_cell? w _ hx231_4)).trans hx231_4
                                          replace p231 := eq_true p231
                                          replace q231 := eq_true q231
                                          go_wp2
                                          repeat (go_quiet (fail); try go_wp2)
                                          go_ret
                                          exact ⟨by first | rfl | (simp [errW_none, errW_some] <;> rfl) | (simp [*, errW_none, errW_some] <;> rfl), by repeat (first | (with_reducible first | exact HB.out | apply below_alloc | apply pw_below_drewN | apply below_drew1) | exact HB.out)⟩
                                        · rw [if_neg c29] at H
                                          have c29b0 : decide (((rd_T40 l0 x9_3).f3) ≤ (wrap64 (((rd_T32 t215 x7_2).f1) - x6_2))) = false := decide_eq_false c29
                                          clear c29
                                          by_cases c30 : ((rd_T40 l0 x9_3).f3) > t217
                                          · rw [if_pos c30] at H
                                            have c30b0 : decide (t217 < ((rd_T40 l0 x9_3).f3)) = true := decide_eq_true c30
                                            clear c30
                                            obtain rfl := Option.some.inj H
                                            have p226 : 0 ≤ (x7_2 : Int) := of_decide_eq_true (by first | (with_reducible assumption) | assumption)
                                            have q226 : x7_2 < (t215.length : Int) := of_decide_eq_true (by first | (with_reducible assumption) | assumption)
                                            obtain ⟨ad226, e226, hx226_0, hx226_1, hx226_2⟩ := at_T32 (Kd.R_reads' HO_3.out).2.2 x7_2 p226 q226
                                            cases e226
                                            replace p226 := eq_true p226
                                            replace q226 := eq_true q226
                                            have p227 : 0 ≤ (x9_3 : Int) := of_decide_eq_true (by first | (with_reducible assumption) | assumption)
                                            have q227 : x9_3 < (l0.length : Int) := of_decide_eq_true (by first | (with_reducible assumption) | assumption)
                                            obtain ⟨ad227, e227, hx227_0, hx227_1, hx227_2, hx227_3, hx227_4⟩ := at_T40 HR0.out x9_3 p227 q227
                                            cases e227
                                            replace hx227_0 := (HB.out.cell (World.block_lt_of_cell? w _ hx227_0)).trans hx227_0
                                            replace hx227_1 := (HB.out.cell (World.block_lt_of_cell? w _ hx227_1)).trans hx227_1
                                            replace hx227_2 := (HB.out.cell (World.block_lt_of_cell? w _ hx227_2)).trans hx227_2
                                            replace hx227_3 := (HB.out.cell (World.block_lt_of_cell? w _ hx227_3)).trans hx227_3
                                            replace hx227_4 := (HB.out.cell (World.block_lt_of_cell? w _ hx227_4)).trans hx227_4
                                            replace p227 := eq_true p227
                                            replace q227 := eq_true q227
                                            have p228 : 0 ≤ (x7_2 : Int) := of_decide_eq_true (by first | (with_reducible assumption) | assumption)
                                            have q228 : x7_2 < (t215.length : Int) := of_decide_eq_true (by first | (with_reducible assumption) | assumption)
                                            obtain ⟨ad228, e228, hx228_0, hx228_1, hx228_2⟩ := at_T32 (Kd.R_reads' HO_3.out).2.2 x7_2 p228 q228
                                            obtain rfl : ad226 = ad228 := (by injection e228)
                                            replace p228 := eq_true p228
                                            replace q228 := eq_true q228
                                            have p229 : 0 ≤ (x9_3 : Int) := of_decide_eq_true (by first | (with_reducible assumption) | assumption)
                                            have q229 : x9_3 < (l0.length : Int) := of_decide_eq_true (by first | (with_reducible assumption) | assumption)
                                            obtain ⟨ad229, e229, hx229_0, hx229_1, hx229_2, hx229_3, hx229_4⟩ := at_T40 HR0.out x9_3 p229 q229
                                            obtain rfl : ad227 = ad229 := (by injection e229)
                                            replace hx229_0 := (HB.out.cell (World.block_lt_of_cell? w _ hx229_0)).trans hx229_0
                                            replace hx229_1 := (HB.out.cell (World.block_lt_of_cell? w _ hx229_1)).trans hx229_1
                                            replace hx229_2 := (HB.out.cell (World.block_lt_of_cell? w _ hx229_2)).trans hx229_2
                                            replace hx229_3 := (HB.out.cell (World.block_lt_of_cell? w _ hx229_3)).trans hx229_3
                                            replace hx229_4 := (HB.out.cell (World.block_lt_of_cell? w _ hx229_4)).trans hx229_4
                                            replace p229 := eq_true p229
                                            replace q229 := eq_true q229
                                            have p230 : 0 ≤ (x7_2 : Int) := of_decide_eq_true (by first | (with_reducible assumption) | assumption)
                                            have q230 : x7_2 < (t215.length : Int) := of_decide_eq_true (by first | (with_reducible assumption) | assumption)
                                            obtain ⟨ad230, e230, hx230_0, hx230_1, hx230_2⟩ := at_T32 (Kd.R_reads' HO_3.out).2.2 x7_2 p230 q230
                                            obtain rfl : ad226 = ad230 := (by injection e230)
                                            replace p230 := eq_true p230
                                            replace q230 := eq_true q230
                                            have p231 : 0 ≤ (x9_3 : Int) := of_decide_eq_true (by first | (with_reducible assumption) | assumption)
                                            have q231 : x9_3 < (l0.length : Int) := of_decide_eq_true (by first | (with_reducible assumption) | assumption)
                                            obtain ⟨ad231, e231, hx231_0, hx231_1, hx231_2, hx231_3, hx231_4⟩ := at_T40 HR0.out x9_3 p231 q231
                                            obtain rfl : ad227 = ad231 := (by injection e231)
                                            replace hx231_0 := (HB.out.cell (World.block_lt_of_cell? w _ hx231_0)).trans hx231_0
                                            replace hx231_1 := (HB.out.cell (World.block_lt_of_cell? w _ hx231_1)).trans hx231_1
                                            replace hx231_2 := (HB.out.cell (World.block_lt_of_cell? w _ hx231_2)).trans hx231_2
                                            replace hx231_3 := (HB.out.cell (World.block_lt_of_cell? w _ hx231_3)).trans hx231_3
                                            replace hx231_4 := (HB.out.cell (World.block_lt_of_cell? w _ hx231_4)).trans hx231_4
                                            replace p231 := eq_true p231
                                            replace q231 := eq_true q231
                                            have p232 : 0 ≤ (x9_3 : Int) := of_decide_eq_true (by first | (with_reducible assumption) | assumption)
                                            have q232 : x9_3 < (l0.length : Int) := of_decide_eq_true (by first | (with_reducible assumption) | assumption)
                                            obtain ⟨ad232, e232, hx232_0, hx232_1, hx232_2, hx232_3, hx232_4⟩ := at_T40 HR0.out x9_3 p232 q232
                                            obtain rfl : ad227 = ad232 := (by injection e232)
                                            replace hx232_0 := (HB.out.cell (World.block_lt_of_cell? w _ hx232_0)).trans hx232_0
                                            replace hx232_1 := (HB.out.cell (World.block_lt_of_cell? w _ hx232_1)).trans hx232_1
                                            replace hx232_2 := (HB.out.cell (World.block_lt_of_cell? w _ hx232_2)).trans hx232_2
                                            replace hx232_3 := (HB.out.cell (World.block_lt_of_cell? w _ hx232_3)).trans hx232_3
                                            replace hx232_4 := (HB.out.cell (World.block_lt_of_cell? w _ hx232_4)).trans hx232_4
                                            replace p232 := eq_true p232
                                            replace q232 := eq_true q232
                                            go_wp2
                                            repeat (go_quiet (fail); try go_wp2)
                                            go_ret
                                            exact ⟨by first | rfl | (simp [errW_none, errW_some] <;> rfl) | (simp [*, errW_none, errW_some] <;> rfl), by repeat (first | (with_reducible first | exact HB.out | apply below_alloc | apply pw_below_drewN | apply below_drew1) | exact HB.out)⟩
                                          · rw [if_neg c30] at H
                                            have c30b0 : decide (t217 < ((rd_T40 l0 x9_3).f3)) = false := decide_eq_false c30
                                            clear c30
                                            have H' := Aside0.mk H
                                            clear H
                                            have p226 : 0 ≤ (x7_2 : Int) := of_decide_eq_true (by first | (with_reducible assumption) | assumption)
                                            have q226 : x7_2 < (t215.length : Int) := of_decide_eq_true (by first | (with_reducible assumption) | assumption)
                                            obtain ⟨ad226, e226, hx226_0, hx226_1, hx226_2⟩ := at_T32 (Kd.R_reads' HO_3.out).2.2 x7_2 p226 q226
                                            cases e226
                                            replace p226 := eq_true p226
                                            replace q226 := eq_true q226
                                            have p227 : 0 ≤ (x9_3 : Int) := of_decide_eq_true (by first | (with_reducible assumption) | assumption)
                                            have q227 : x9_3 < (l0.length : Int) := of_decide_eq_true (by first | (with_reducible assumption) | assumption)
                                            obtain ⟨ad227, e227, hx227_0, hx227_1, hx227_2, hx227_3, hx227_4⟩ := at_T40 HR0.out x9_3 p227 q227
                                            cases e227
                                            replace hx227_0 := (HB.out.cell (World.block_lt_of_cell? w _ hx227_0)).trans hx227_0
                                            replace hx227_1 := (HB.out.cell (World.block_lt_of_cell? w _ hx227_1)).trans hx227_1
                                            replace hx227_2 := (HB.out.cell (World.block_lt_of_cell? w _ hx227_2)).trans hx227_2
                                            replace hx227_3 := (HB.out.cell (World.block_lt_of_cell? w _ hx227_3)).trans hx227_3
                                            replace hx227_4 := (HB.out.cell (World.block_lt_of_cell? w _ hx227_4)).trans hx227_4
                                            replace p227 := eq_true p227
                                            replace q227 := eq_true q227
                                            have p228 : 0 ≤ (x7_2 : Int) := of_decide_eq_true (by first | (with_reducible assumption) | assumption)
                                            have q228 : x7_2 < (t215.length : Int) := of_decide_eq_true (by first | (with_reducible assumption) | assumption)
                                            obtain ⟨ad228, e228, hx228_0, hx228_1, hx228_2⟩ := at_T32 (Kd.R_reads' HO_3.out).2.2 x7_2 p228 q228
                                            obtain rfl : ad226 = ad228 := (by injection e228)
                                            replace p228 := eq_true p228
                                            replace q228 := eq_true q228
                                            have p229 : 0 ≤ (x9_3 : Int) := of_decide_eq_true (by first | (with_reducible assumption) | assumption)
                                            have q229 : x9_3 < (l0.length : Int) := of_decide_eq_true (by first | (with_reducible assumption) | assumption)
                                            obtain ⟨ad229, e229, hx229_0, hx229_1, hx229_2, hx229_3, hx229_4⟩ := at_T40 HR0.out x9_3 p229 q229
                                            obtain rfl : ad227 = ad229 := (by injection e229)
                                            replace hx229_0 := (HB.out.cell (World.block_lt_of_cell? w _ hx229_0)).trans hx229_0
                                            replace hx229_1 := (HB.out.cell (World.block_lt_of_cell? w _ hx229_1)).trans hx229_1
                                            replace hx229_2 := (HB.out.cell (World.block_lt_of_cell? w _ hx229_2)).trans hx229_2
                                            replace hx229_3 := (HB.out.cell (World.block_lt_of_cell? w _ hx229_3)).trans hx229_3
                                            replace hx229_4 := (HB.out.cell (World.block_lt_of_cell? w _ hx229_4)).trans hx229_4
                                            replace p229 := eq_true p229
                                            replace q229 := eq_true q229
                                            have p230 : 0 ≤ (x7_2 : Int) := of_decide_eq_true (by first | (with_reducible assumption) | assumption)
                                            have q230 : x7_2 < (t215.length : Int) := of_decide_eq_true (by first | (with_reducible assumption) | assumption)
                                            obtain ⟨ad230, e230, hx230_0, hx230_1, hx230_2⟩ := at_T32 (Kd.R_reads' HO_3.out).2.2 x7_2 p230 q230
                                            obtain rfl : ad226 = ad230 := (by injection e230)
                                            replace p230 := eq_true p230
                                            replace q230 := eq_true q230
                                            have p231 : 0 ≤ (x9_3 : Int) := of_decide_eq_true (by first | (with_reducible assumption) | assumption)
                                            have q231 : x9_3 < (l0.length : Int) := of_decide_eq_true (by first | (with_reducible assumption) | assumption)
                                            obtain ⟨ad231, e231, hx231_0, hx231_1, hx231_2, hx231_3, hx231_4⟩ := at_T40 HR0.out x9_3 p231 q231
                                            obtain rfl : ad227 = ad231 := (by injection e231)
                                            replace hx231_0 := (HB.out.cell (World.block_lt_of_cell? w _ hx231_0)).trans hx231_0
                                            replace hx231_1 := (HB.out.cell (World.block_lt_of_cell? w _ hx231_1)).trans hx231_1
                                            replace hx231_2 := (HB.out.cell (World.block_lt_of_cell? w _ hx231_2)).trans hx231_2
                                            replace hx231_3 := (HB.out.cell (World.block_lt_of_cell? w _ hx231_3)).trans hx231_3
                                            replace hx231_4 := (HB.out.cell (World.block_lt_of_cell? w _ hx231_4)).trans hx231_4
                                            replace p231 := eq_true p231
                                            replace q231 := eq_true q231
                                            have p232 : 0 ≤ (x9_3 : Int) := of_decide_eq_true (by first | (with_reducible assumption) | assumption)
                                            have q232 : x9_3 < (l0.length : Int) := of_decide_eq_true (by first | (with_reducible assumption) | assumption)
                                            obtain ⟨ad232, e232, hx232_0, hx232_1, hx232_2, hx232_3, hx232_4⟩ := at_T40 HR0.out x9_3 p232 q232
                                            obtain rfl : ad227 = ad232 := (by injection e232)
                                            replace hx232_0 := (HB.out.cell (World.block_lt_of_cell? w _ hx232_0)).trans hx232_0
                                            replace hx232_1 := (HB.out.cell (World.block_lt_of_cell? w _ hx232_1)).trans hx232_1
                                            replace hx232_2 := (HB.out.cell (World.block_lt_of_cell? w _ hx232_2)).trans hx232_2
                                            replace hx232_3 := (HB.out.cell (World.block_lt_of_cell? w _ hx232_3)).trans hx232_3
                                            replace hx232_4 := (HB.out.cell (World.block_lt_of_cell? w _ hx232_4)).trans hx232_4
                                            replace p232 := eq_true p232
                                            replace q232 := eq_true q232
                                            go_wp2
                                            repeat (go_quiet (fail); try go_wp2)
                                            go_roundg kj15
                                            case measure => have := HJ1.out; have := HK2.out; have := HK3.out; have := HJ15.out; omega
                                            case rel => exact ⟨(true), (wrap64 (x9_3 + 1)), (by first | rfl | (simp; done) | (simp [*]; done)), (by first | rfl | (simp; done) | (simp [*]; done)), H', ⟨by have := HJ1.out; have := HK2.out; have := HK3.out; have := HJ15.out; omega⟩, ⟨by (with_reducible repeat (first | apply Kd.R_alloc | apply Kd.R_drewN | apply Kd.R_drew)); exact HO_3.out⟩, ⟨by repeat (first | (with_reducible first | exact HB.out | apply below_alloc | apply pw_below_drewN | apply below_drew1) | exact HB.out)⟩⟩
                                      · rw [if_neg c28] at H
                                        have c28b0 : ((Int.tmod ((rd_T32 t215 x7_2).f1) ((rd_T40 l0 x9_3).f3)) == 0) = false := beq_eq_false_iff_ne.mpr c28
                                        have c28b1 : ((Int.tmod ((rd_T32 t215 x7_2).f1) ((rd_T40 l0 x9_3).f3)) != 0) = true := bne_iff_ne.mpr c28
                                        obtain rfl := Option.some.inj H
                                        have p226 : 0 ≤ (x7_2 : Int) := of_decide_eq_true (by first | (with_reducible assumption) | assumption)
                                        have q226 : x7_2 < (t215.length : Int) := of_decide_eq_true (by first | (with_reducible assumption) | assumption)
                                        obtain ⟨ad226, e226, hx226_0, hx226_1, hx226_2⟩ := at_T32 (Kd.R_reads' HO_3.out).2.2 x7_2 p226 q226
                                        cases e226
                                        replace p226 := eq_true p226
                                        replace q226 := eq_true q226
                                        have p227 : 0 ≤ (x9_3 : Int) := of_decide_eq_true (by first | (with_reducible assumption) | assumption)
                                        have q227 : x9_3 < (l0.length : Int) := of_decide_eq_true (by first | (with_reducible assumption) | assumption)
                                        obtain ⟨ad227, e227, hx227_0, hx227_1, hx227_2, hx227_3, hx227_4⟩ := at_T40 HR0.out x9_3 p227 q227
                                        cases e227
                                        replace hx227_0 := (HB.out.cell (World.block_lt_of_cell? w _ hx227_0)).trans hx227_0
                                        replace hx227_1 := (HB.out.cell (World.block_lt_of_cell? w _ hx227_1)).trans hx227_1
                                        replace hx227_2 := (HB.out.cell (World.block_lt_of_cell? w _ hx227_2)).trans hx227_2
                                        replace hx227_3 := (HB.out.cell (World.block_lt_of_cell? w _ hx227_3)).trans hx227_3
                                        replace hx227_4 := (HB.out.cell (World.block_lt_of_cell? w _ hx227_4)).trans hx227_4
                                        replace p227 := eq_true p227
                                        replace q227 := eq_true q227
                                        have p228 : 0 ≤ (x7_2 : Int) := of_decide_eq_true (by first | (with_reducible assumption) | assumption)
                                        have q228 : x7_2 < (t215.length : Int) := of_decide_eq_true (by first | (with_reducible assumption) | assumption)
                                        obtain ⟨ad228, e228, hx228_0, hx228_1, hx228_2⟩ := at_T32 (Kd.R_reads' HO_3.out).2.2 x7_2 p228 q228
                                        obtain rfl : ad226 = ad228 := (by injection e228)
                                        replace p228 := eq_true p228
                                        replace q228 := eq_true q228
                                        have p229 : 0 ≤ (x9_3 : Int) := of_decide_eq_true (by first | (with_reducible assumption) | assumption)
                                        have q229 : x9_3 < (l0.length : Int) := of_decide_eq_true (by first | (with_reducible assumption) | assumption)
                                        obtain ⟨ad229, e229, hx229_0, hx229_1, hx229_2, hx229_3, hx229_4⟩ := at_T40 HR0.out x9_3 p229 q229
                                        obtain rfl : ad227 = ad229 := (by injection e229)
                                        replace hx229_0 := (HB.out.cell (World.block_lt_of_cell? w _ hx229_0)).trans hx229_0
                                        replace hx229_1 := (HB.out.cell (World.block_lt_of_cell? w _ hx229_1)).trans hx229_1
                                        replace hx229_2 := (HB.out.cell (World.block_lt_of_cell? w _ hx229_2)).trans hx229_2
                                        replace hx229_3 := (HB.out.cell (World.block_lt_of_cell? w _ hx229_3)).trans hx229_3
                                        replace hx229_4 := (HB.out.cell (World.block_lt_of_cell? w _ hx229_4)).trans hx229_4
                                        replace p229 := eq_true p229
                                        replace q229 := eq_true q229
                                        go_wp2
                                        repeat (go_quiet (fail); try go_wp2)
                                        go_ret
                                        exact ⟨by first | rfl | (simp [errW_none, errW_some] <;> rfl) | (simp [*, errW_none, errW_some] <;> rfl), by repeat (first | (with_reducible first | exact HB.out | apply below_alloc | apply pw_below_drewN | apply below_drew1) | exact HB.out)⟩
                                  · rw [if_neg c26] at H
                                    have c26b0 : (((rd_T32 t215 x7_2).f2) == ((rd_T40 l0 x9_3).f2)) = false := beq_eq_false_iff_ne.mpr c26
                                    have c26b1 : (((rd_T32 t215 x7_2).f2) != ((rd_T40 l0 x9_3).f2)) = true := bne_iff_ne.mpr c26
                                    obtain rfl := Option.some.inj H
                                    have p226 : 0 ≤ (x7_2 : Int) := of_decide_eq_true (by first | (with_reducible assumption) | assumption)
                                    have q226 : x7_2 < (t215.length : Int) := of_decide_eq_true (by first | (with_reducible assumption) | assumption)
                                    obtain ⟨ad226, e226, hx226_0, hx226_1, hx226_2⟩ := at_T32 (Kd.R_reads' HO_3.out).2.2 x7_2 p226 q226
                                    cases e226
                                    replace p226 := eq_true p226
                                    replace q226 := eq_true q226
                                    have p227 : 0 ≤ (x9_3 : Int) := of_decide_eq_true (by first | (with_reducible assumption) | assumption)
                                    have q227 : x9_3 < (l0.length : Int) := of_decide_eq_true (by first | (with_reducible assumption) | assumption)
                                    obtain ⟨ad227, e227, hx227_0, hx227_1, hx227_2, hx227_3, hx227_4⟩ := at_T40 HR0.out x9_3 p227 q227
                                    cases e227
                                    replace hx227_0 := (HB.out.cell (World.block_lt_of_cell? w _ hx227_0)).trans hx227_0
                                    replace hx227_1 := (HB.out.cell (World.block_lt_of_cell? w _ hx227_1)).trans hx227_1
                                    replace hx227_2 := (HB.out.cell (World.block_lt_of_cell? w _ hx227_2)).trans hx227_2
                                    replace hx227_3 := (HB.out.cell (World.block_lt_of_cell? w _ hx227_3)).trans hx227_3
                                    replace hx227_4 := (HB.out.cell (World.block_lt_of_cell? w _ hx227_4)).trans hx227_4
                                    replace p227 := eq_true p227
                                    replace q227 := eq_true q227
                                    go_wp2
                                    repeat (go_quiet (fail); try go_wp2)
                                    go_ret
                                    exact ⟨by first | rfl | (simp [errW_none, errW_some] <;> rfl) | (simp [*, errW_none, errW_some] <;> rfl), by repeat (first | (with_reducible first | exact HB.out | apply below_alloc | apply pw_below_drewN | apply below_drew1) | exact HB.out)⟩
                                · rw [if_neg c25] at H
                                  exact absurd H (by simp)
                              · rw [if_neg c24] at H
                                exact absurd H (by simp)
                            · rw [if_neg c23] at H
                              exact absurd H (by simp)
                          · rw [if_neg c22] at H
                            exact absurd H (by simp)
                        · replace c21 := Bool.eq_false_iff.mpr c21
                          subst c21
                          have H1 : (arlinklaw16_CommonDisjoint.l1 kj15 l0 t215 t216 t217 x6_2 x7_2 x8_3 (wrap64 (x9_3 + 1))) = some r := by rw [if_neg (show ¬ (false = true) by decide)] at H; exact H
                          clear H
                          have H := H1
                          clear H1
                          have H' := Aside0.mk H
                          clear H
                          go_wp2
                          repeat (go_quiet (fail); try go_wp2)
                          go_roundg kj15
                          case measure => have := HJ1.out; have := HK2.out; have := HK3.out; have := HJ15.out; omega
                          case rel => exact ⟨(x8_3), (wrap64 (x9_3 + 1)), (by first | rfl | (simp; done) | (simp [*]; done)), (by first | rfl | (simp; done) | (simp [*]; done)), H', ⟨by have := HJ1.out; have := HK2.out; have := HK3.out; have := HJ15.out; omega⟩, ⟨by (with_reducible repeat (first | apply Kd.R_alloc | apply Kd.R_drewN | apply Kd.R_drew)); exact HO_3.out⟩, ⟨by repeat (first | (with_reducible first | exact HB.out | apply below_alloc | apply pw_below_drewN | apply below_drew1) | exact HB.out)⟩⟩
                  · rw [if_neg c15] at H
                    have c15b0 : decide (x9_3 < (l0.length : Int)) = false := decide_eq_false c15
                    clear c15
                    by_cases c31 : x8_3 = true
                    · subst c31
                      have H1 : (if 0 ≤ x7_2 then (if x7_2 < (t215.length : Int) then (if ((rd_T32 t215 x7_2).f1) < x6_2 then (some false) else (arlinklaw16_CommonDisjoint.l0 k3 l0 t215 t216 t217 (wrap64 (((rd_T32 t215 x7_2).f1) + ((rd_T32 t215 x7_2).f2))) (wrap64 (x7_2 + 1)))) else (none)) else (none)) = some r := by rw [if_pos rfl] at H; exact H
                      clear H
                      have H := H1
                      clear H1
                      by_cases c32 : 0 ≤ x7_2
                      · rw [if_pos c32] at H
                        have c32b0 : decide (0 ≤ x7_2) = true := decide_eq_true c32
                        clear c32
                        by_cases c33 : x7_2 < (t215.length : Int)
                        · rw [if_pos c33] at H
                          have c33b0 : decide (x7_2 < (t215.length : Int)) = true := decide_eq_true c33
                          clear c33
                          by_cases c34 : ((rd_T32 t215 x7_2).f1) < x6_2
                          · rw [if_pos c34] at H
                            have c34b0 : decide (((rd_T32 t215 x7_2).f1) < x6_2) = true := decide_eq_true c34
                            clear c34
                            obtain rfl := Option.some.inj H
                            have p220 : 0 ≤ (x7_2 : Int) := of_decide_eq_true (by first | (with_reducible assumption) | assumption)
                            have q220 : x7_2 < (t215.length : Int) := of_decide_eq_true (by first | (with_reducible assumption) | assumption)
                            obtain ⟨ad220, e220, hx220_0, hx220_1, hx220_2⟩ := at_T32 (Kd.R_reads' HO_3.out).2.2 x7_2 p220 q220
                            cases e220
                            replace p220 := eq_true p220
                            replace q220 := eq_true q220
                            go_wp2
                            repeat (go_quiet (fail); try go_wp2)
                            go_ret
                            exact ⟨by first | rfl | (simp [errW_none, errW_some] <;> rfl) | (simp [*, errW_none, errW_some] <;> rfl), by repeat (first | (with_reducible first | exact HB.out | apply below_alloc | apply pw_below_drewN | apply below_drew1) | exact HB.out)⟩
                          · rw [if_neg c34] at H
                            have c34b0 : decide (((rd_T32 t215 x7_2).f1) < x6_2) = false := decide_eq_false c34
                            clear c34
                            have H' := Aside0.mk H
                            clear H
                            have p220 : 0 ≤ (x7_2 : Int) := of_decide_eq_true (by first | (with_reducible assumption) | assumption)
                            have q220 : x7_2 < (t215.length : Int) := of_decide_eq_true (by first | (with_reducible assumption) | assumption)
                            obtain ⟨ad220, e220, hx220_0, hx220_1, hx220_2⟩ := at_T32 (Kd.R_reads' HO_3.out).2.2 x7_2 p220 q220
                            cases e220
                            replace p220 := eq_true p220
                            replace q220 := eq_true q220
                            have p221 : 0 ≤ (x7_2 : Int) := of_decide_eq_true (by first | (with_reducible assumption) | assumption)
                            have q221 : x7_2 < (t215.length : Int) := of_decide_eq_true (by first | (with_reducible assumption) | assumption)
                            obtain ⟨ad221, e221, hx221_0, hx221_1, hx221_2⟩ := at_T32 (Kd.R_reads' HO_3.out).2.2 x7_2 p221 q221
                            obtain rfl : ad220 = ad221 := (by injection e221)
                            replace p221 := eq_true p221
                            replace q221 := eq_true q221
                            have p222 : 0 ≤ (x7_2 : Int) := of_decide_eq_true (by first | (with_reducible assumption) | assumption)
                            have q222 : x7_2 < (t215.length : Int) := of_decide_eq_true (by first | (with_reducible assumption) | assumption)
                            obtain ⟨ad222, e222, hx222_0, hx222_1, hx222_2⟩ := at_T32 (Kd.R_reads' HO_3.out).2.2 x7_2 p222 q222
                            obtain rfl : ad220 = ad222 := (by injection e222)
                            replace p222 := eq_true p222
                            replace q222 := eq_true q222
                            go_wp2
                            repeat (go_quiet (fail); try go_wp2)
                            go_roundg k3
                            case measure => have := HJ1.out; have := HK2.out; have := HK3.out; omega
                            case rel => exact ⟨(wrap64 (((rd_T32 t215 x7_2).f1) + ((rd_T32 t215 x7_2).f2))), (wrap64 (x7_2 + 1)), (by first | rfl | (simp; done) | (simp [*]; done)), (by first | rfl | (simp; done) | (simp [*]; done)), H', ⟨by have := HJ1.out; have := HK2.out; have := HK3.out; omega⟩, ⟨by (with_reducible repeat (first | apply Kd.R_alloc | apply Kd.R_drewN | apply Kd.R_drew)); exact HO_3.out⟩, ⟨by repeat (first | (with_reducible first | exact HB.out | apply below_alloc | apply pw_below_drewN | apply below_drew1) | exact HB.out)⟩⟩
                        · rw [if_neg c33] at H
                          exact absurd H (by simp)
                      · rw [if_neg c32] at H
                        exact absurd H (by simp)
                    · replace c31 := Bool.eq_false_iff.mpr c31
                      subst c31
                      have H1 : (some false) = some r := by rw [if_neg (show ¬ (false = true) by decide)] at H; exact H
                      clear H
                      have H := H1
                      clear H1
                      obtain rfl := Option.some.inj H
                      go_wp2
                      repeat (go_quiet (fail); try go_wp2)
                      go_ret
                      exact ⟨by first | rfl | (simp [errW_none, errW_some] <;> rfl) | (simp [*, errW_none, errW_some] <;> rfl), by repeat (first | (with_reducible first | exact HB.out | apply below_alloc | apply pw_below_drewN | apply below_drew1) | exact HB.out)⟩
            · rw [if_neg c13] at H
              have c13b0 : decide (x7_2 < (t215.length : Int)) = false := decide_eq_false c13
              clear c13
              have H' := Aside0.mk H
              clear H
              obtain ⟨Ao35, co35, eo35⟩ := Kd.R_slice HO_3.out
              subst eo35
              go_wp2
              repeat (go_quiet (fail); try go_wp2)
              go_loopg [10, 11] k2 (fun kq v10 v11 w' => ∃ (x10_3 : Int) (x11_3 : Int), v10 = .int .i64 x10_3 ∧ v11 = .int .i64 x11_3 ∧ Aside0 (arlinklaw16_CommonDisjoint.l2 kq l0 t215 t216 t217 x6_2 x10_3 x11_3 = some r) ∧ Aside0 (kq ≤ k2) ∧ Aside0 (Kd.R k32 32 w' w.heap.size (fun _ => True) (.slice Ao35 t215.length co35) t215) ∧ Aside0 (Below w.heap.size w w'))
              case atStart => exact ⟨(0), (0), (by first | rfl | (simp; done) | (simp [*]; done)), (by first | rfl | (simp; done) | (simp [*]; done)), H', ⟨Nat.le_refl _⟩, ⟨by (with_reducible repeat (first | apply Kd.R_alloc | apply Kd.R_drewN | apply Kd.R_drew)); exact HO_3.out⟩, ⟨by repeat (first | (with_reducible first | exact HB.out | apply below_alloc | apply pw_below_drewN | apply below_drew1) | exact HB.out)⟩⟩
              case round =>
                clear H'
                try clear c1
                try clear c2
                try clear p2
                try clear q2
                try clear hx2
                try clear c3
                try clear c4
                try clear p6
                try clear c8
                try clear c13
                try clear c13b0
                try clear c15
                try clear c15b0
                try clear c17
                try clear c17b0
                try clear c18
                try clear c18b0
                try clear c18b1
                try clear c19
                try clear c19b0
                try clear c20
                try clear c20b0
                try clear c21
                try clear c22
                try clear c22b0
                try clear p22
                try clear q22
                try clear hx22
                try clear c23
                try clear c23b0
                try clear p23
                try clear q23
                try clear hx23
                try clear c24
                try clear c24b0
                try clear c25
                try clear c25b0
                try clear c26
                try clear c26b0
                try clear c26b1
                try clear c27
                try clear c27b0
                try clear c27b1
                try clear c28
                try clear c28b0
                try clear c28b1
                try clear c29
                try clear c29b0
                try clear c30
                try clear c30b0
                try clear c31
                try clear c32
                try clear c32b0
                try clear c33
                try clear c33b0
                try clear c34
                try clear c34b0
                try clear hx220_0
                try clear hx220_1
                try clear hx220_2
                try clear hx221_0
                try clear hx221_1
                try clear hx221_2
                try clear hx222_0
                try clear hx222_1
                try clear hx222_2
                try clear hx223_0
                try clear hx223_1
                try clear hx223_2
                try clear hx223_3
                try clear hx223_4
                try clear hx224_0
                try clear hx224_1
                try clear hx224_2
                try clear hx224_3
                try clear hx224_4
                try clear hx225_0
                try clear hx225_1
                try clear hx225_2
                try clear hx226_0
                try clear hx226_1
                try clear hx226_2
                try clear hx227_0
                try clear hx227_1
                try clear hx227_2
                try clear hx227_3
                try clear hx227_4
                try clear hx228_0
                try clear hx228_1
                try clear hx228_2
                try clear hx229_0
                try clear hx229_1
                try clear hx229_2
                try clear hx229_3
                try clear hx229_4
                try clear hx230_0
                try clear hx230_1
                try clear hx230_2
                try clear hx231_0
                try clear hx231_1
                try clear hx231_2
                try clear hx231_3
                try clear hx231_4
                try clear hx232_0
                try clear hx232_1
                try clear hx232_2
                try clear hx232_3
                try clear hx232_4
                try clear p2
                try clear p220
                try clear p221
                try clear p222
                try clear p223
                try clear p224
                try clear p225
                try clear p226
                try clear p227
                try clear p228
                try clear p229
                try clear p230
                try clear p231
                try clear p232
                try clear q2
                try clear q220
                try clear q221
                try clear q222
                try clear q223
                try clear q224
                try clear q225
                try clear q226
                try clear q227
                try clear q228
                try clear q229
                try clear q230
                try clear q231
                try clear q232
                obtain ⟨x10_3, x11_3, rfl, rfl, HA, HK3, HO_3, HB⟩ := hrel
                cases gk with
                | zero => exact absurd HA.out (by simp [arlinklaw16_CommonDisjoint.l2])
                | succ k3 =>
                  have H := HA.out
                  clear HA
                  simp only [arlinklaw16_CommonDisjoint.l2] at H
                  by_cases c36 : x11_3 < (l0.length : Int)
                  · rw [if_pos c36] at H
                    have c36b0 : decide (x11_3 < (l0.length : Int)) = true := decide_eq_true c36
                    clear c36
                    by_cases c37 : 0 ≤ x11_3
                    · rw [if_pos c37] at H
                      have c37b0 : decide (0 ≤ x11_3) = true := decide_eq_true c37
                      clear c37
                      by_cases c38 : ((rd_T40 l0 x11_3).f1) = 3
                      · rw [if_pos c38] at H
                        have c38b0 : (((rd_T40 l0 x11_3).f1) == 3) = true := beq_iff_eq.mpr c38
                        have c38b1 : (((rd_T40 l0 x11_3).f1) != 3) = false := bne_eq_false_iff_eq.mpr c38
                        clear c38
                        have H' := Aside0.mk H
                        clear H
                        have p233 : 0 ≤ (x11_3 : Int) := of_decide_eq_true (by first | (with_reducible assumption) | assumption)
                        have q233 : x11_3 < (l0.length : Int) := of_decide_eq_true (by first | (with_reducible assumption) | assumption)
                        obtain ⟨ad233, e233, hx233_0, hx233_1, hx233_2, hx233_3, hx233_4⟩ := at_T40 HR0.out x11_3 p233 q233
                        cases e233
                        replace hx233_0 := (HB.out.cell (World.block_lt_of_cell? w _ hx233_0)).trans hx233_0
                        replace hx233_1 := (HB.out.cell (World.block_lt_of_cell? w _ hx233_1)).trans hx233_1
                        replace hx233_2 := (HB.out.cell (World.block_lt_of_cell? w _ hx233_2)).trans hx233_2
                        replace hx233_3 := (HB.out.cell (World.block_lt_of_cell? w _ hx233_3)).trans hx233_3
                        replace hx233_4 := (HB.out.cell (World.block_lt_of_cell? w _ hx233_4)).trans hx233_4
                        replace p233 := eq_true p233
                        replace q233 := eq_true q233
                        go_wp2
                        repeat (go_quiet (fail); try go_wp2)
                        go_roundg k3
                        case measure => have := HJ1.out; have := HK2.out; have := HK3.out; omega
                        case rel => exact ⟨(wrap64 (x10_3 + 1)), (wrap64 (x11_3 + 1)), (by first | rfl | (simp; done) | (simp [*]; done)), (by first | rfl | (simp; done) | (simp [*]; done)), H', ⟨by have := HJ1.out; have := HK2.out; have := HK3.out; omega⟩, ⟨by (with_reducible repeat (first | apply Kd.R_alloc | apply Kd.R_drewN | apply Kd.R_drew)); exact HO_3.out⟩, ⟨by repeat (first | (with_reducible first | exact HB.out | apply below_alloc | apply pw_below_drewN | apply below_drew1) | exact HB.out)⟩⟩
                      · rw [if_neg c38] at H
                        have c38b0 : (((rd_T40 l0 x11_3).f1) == 3) = false := beq_eq_false_iff_ne.mpr c38
                        have c38b1 : (((rd_T40 l0 x11_3).f1) != 3) = true := bne_iff_ne.mpr c38
                        have H' := Aside0.mk H
                        clear H
                        have p233 : 0 ≤ (x11_3 : Int) := of_decide_eq_true (by first | (with_reducible assumption) | assumption)
                        have q233 : x11_3 < (l0.length : Int) := of_decide_eq_true (by first | (with_reducible assumption) | assumption)
                        obtain ⟨ad233, e233, hx233_0, hx233_1, hx233_2, hx233_3, hx233_4⟩ := at_T40 HR0.out x11_3 p233 q233
                        cases e233
                        replace hx233_0 := (HB.out.cell (World.block_lt_of_cell? w _ hx233_0)).trans hx233_0
                        replace hx233_1 := (HB.out.cell (World.block_lt_of_cell? w _ hx233_1)).trans hx233_1
                        replace hx233_2 := (HB.out.cell (World.block_lt_of_cell? w _ hx233_2)).trans hx233_2
                        replace hx233_3 := (HB.out.cell (World.block_lt_of_cell? w _ hx233_3)).trans hx233_3
                        replace hx233_4 := (HB.out.cell (World.block_lt_of_cell? w _ hx233_4)).trans hx233_4
                        replace p233 := eq_true p233
                        replace q233 := eq_true q233
                        go_wp2
                        repeat (go_quiet (fail); try go_wp2)
                        go_roundg k3
                        case measure => have := HJ1.out; have := HK2.out; have := HK3.out; omega
                        case rel => exact ⟨(x10_3), (wrap64 (x11_3 + 1)), (by first | rfl | (simp; done) | (simp [*]; done)), (by first | rfl | (simp; done) | (simp [*]; done)), H', ⟨by have := HJ1.out; have := HK2.out; have := HK3.out; omega⟩, ⟨by (with_reducible repeat (first | apply Kd.R_alloc | apply Kd.R_drewN | apply Kd.R_drew)); exact HO_3.out⟩, ⟨by repeat (first | (with_reducible first | exact HB.out | apply below_alloc | apply pw_below_drewN | apply below_drew1) | exact HB.out)⟩⟩
                    · rw [if_neg c37] at H
                      exact absurd H (by simp)
                  · rw [if_neg c36] at H
                    have c36b0 : decide (x11_3 < (l0.length : Int)) = false := decide_eq_false c36
                    clear c36
                    by_cases c39 : (t215.length : Int) = x10_3
                    · rw [if_pos c39] at H
                      have c39b0 : ((t215.length : Int) == x10_3) = true := beq_iff_eq.mpr c39
                      have c39b1 : ((t215.length : Int) != x10_3) = false := bne_eq_false_iff_eq.mpr c39
                      clear c39
                      by_cases c40 : t216 = x6_2
                      · rw [if_pos c40] at H
                        have c40b0 : (t216 == x6_2) = true := beq_iff_eq.mpr c40
                        have c40b1 : (t216 != x6_2) = false := bne_eq_false_iff_eq.mpr c40
                        clear c40
                        by_cases c41 : x10_3 > 0
                        · rw [if_pos c41] at H
                          have c41b0 : decide (0 < x10_3) = true := decide_eq_true c41
                          clear c41
                          obtain rfl := Option.some.inj H
                          go_wp2
                          repeat (go_quiet (fail); try go_wp2)
                          go_ret
                          exact ⟨by first | rfl | (simp [errW_none, errW_some] <;> rfl) | (simp [*, errW_none, errW_some] <;> rfl), by repeat (first | (with_reducible first | exact HB.out | apply below_alloc | apply pw_below_drewN | apply below_drew1) | exact HB.out)⟩
                        · rw [if_neg c41] at H
                          have c41b0 : decide (0 < x10_3) = false := decide_eq_false c41
                          clear c41
                          obtain rfl := Option.some.inj H
                          go_wp2
                          repeat (go_quiet (fail); try go_wp2)
                          go_ret
                          exact ⟨by first | rfl | (simp [errW_none, errW_some] <;> rfl) | (simp [*, errW_none, errW_some] <;> rfl), by repeat (first | (with_reducible first | exact HB.out | apply below_alloc | apply pw_below_drewN | apply below_drew1) | exact HB.out)⟩
                      · rw [if_neg c40] at H
                        have c40b0 : (t216 == x6_2) = false := beq_eq_false_iff_ne.mpr c40
                        have c40b1 : (t216 != x6_2) = true := bne_iff_ne.mpr c40
                        obtain rfl := Option.some.inj H
                        go_wp2
                        repeat (go_quiet (fail); try go_wp2)
                        go_ret
                        exact ⟨by first | rfl | (simp [errW_none, errW_some] <;> rfl) | (simp [*, errW_none, errW_some] <;> rfl), by repeat (first | (with_reducible first | exact HB.out | apply below_alloc | apply pw_below_drewN | apply below_drew1) | exact HB.out)⟩
                    · rw [if_neg c39] at H
                      have c39b0 : ((t215.length : Int) == x10_3) = false := beq_eq_false_iff_ne.mpr c39
                      have c39b1 : ((t215.length : Int) != x10_3) = true := bne_iff_ne.mpr c39
                      obtain rfl := Option.some.inj H
                      go_wp2
                      repeat (go_quiet (fail); try go_wp2)
                      go_ret
                      exact ⟨by first | rfl | (simp [errW_none, errW_some] <;> rfl) | (simp [*, errW_none, errW_some] <;> rfl), by repeat (first | (with_reducible first | exact HB.out | apply below_alloc | apply pw_below_drewN | apply below_drew1) | exact HB.out)⟩

end Go.Proofs.Ytmiahabiabcohaa.PAll
