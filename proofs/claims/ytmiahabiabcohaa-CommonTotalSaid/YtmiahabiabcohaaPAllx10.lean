/- Written by a program of this session (wip/xprint.py) over the kit's print: contracts of the program's functions. -/
import Derived.Test.YtmiahabiabcohaaHLayout
import Derived.Test.YtmiahabiabcohaaPAllx0
import Derived.Test.YtmiahabiabcohaaPAllx3
import Derived.Test.YtmiahabiabcohaaPAllx4
import Derived.Test.YtmiahabiabcohaaPAllx5
namespace Go.Proofs.Ytmiahabiabcohaa.PAll
open Go.RowKit Go.Proofs.YtmiahabiabcohaaW.PrintWords Go.Proofs.YtmiahabiabcohaaW.PrintLast Go.Proofs.YtmiahabiabcohaaW.PrintMore
attribute [local go_sem] max2_int min2_int max_two min_two max_three min_three max_four min_four   -- for this text's walks alone
set_option linter.unusedVariables false
set_option linter.unusedSimpArgs false

attribute [local go_sem high] eqA40
/-! ### arlinklaw16_CommonKeeps: function 6 -/
mutual
def arlinklaw16_CommonKeeps.j0 : Nat → List (S40) → Bool → Option (Bool)
  | 0, _, _ => none
  | k + 1, x0, x15 => if x15 = true then ((arlinklaw16_awake.f k).bind fun t273 => (some t273)) else ((some (([] : List (S40)) : List (S40))).bind fun y274 => (if y274.length + x0.length < 2932031007402 then ((some (y274 ++ x0 : List (S40))).bind fun y277 => ((common_Layout.f y277).bind fun bt280 => (arlinklaw16_CommonKeeps.l0 k x0 y277 bt280.1 0))) else (none)))
def arlinklaw16_CommonKeeps.l0 : Nat → List (S40) → List (S40) → List (S32) → Int → Option (Bool)
  | 0, _, _, _, _ => none
  | k + 1, x0, x3, x4, x7 => if x7 < (x4.length : Int) then (if 0 ≤ x7 then (arlinklaw16_CommonKeeps.l0 k x0 x3 (x4.set (x7 : Int).toNat (⟨(⟨#[]⟩ : ByteArray), (rd_T32 x4 x7).f1, (rd_T32 x4 x7).f2⟩ : S32)) (wrap64 (x7 + 1))) else (none)) else (arlinklaw16_CommonKeeps.l1 k x0 x3 0)
def arlinklaw16_CommonKeeps.l1 : Nat → List (S40) → List (S40) → Int → Option (Bool)
  | 0, _, _, _ => none
  | k + 1, x0, x3, x8 => if x8 < (x0.length : Int) then (if 0 ≤ x8 then (if x8 < (x3.length : Int) then (if (!((((rd_T40 x3 x8).f0).toList) == (((rd_T40 x0 x8).f0).toList)) || (!(((rd_T40 x3 x8).f1) == ((rd_T40 x0 x8).f1)) || (!(((rd_T40 x3 x8).f2) == ((rd_T40 x0 x8).f2)) || (!(((rd_T40 x3 x8).f3) == ((rd_T40 x0 x8).f3)) || (!(((rd_T40 x3 x8).f4) == ((rd_T40 x0 x8).f4))))))) = true then (some false) else (arlinklaw16_CommonKeeps.l1 k x0 x3 (wrap64 (x8 + 1)))) else (none)) else (none)) else (some true)
end
def arlinklaw16_CommonKeeps.f (k : Nat) (l0 : List (S40)) : Option (Bool) := (arlinklaw16_awake.f k).bind fun t271 => (if t271 = true then ((arlinkref16_Right.f k l0).bind fun t272 => (arlinklaw16_CommonKeeps.j0 k l0 (!t272))) else (arlinklaw16_CommonKeeps.j0 k l0 true))
theorem arlinklaw16_CommonKeeps.mono_l : ∀ k, (∀ y0 y1, LeO (arlinklaw16_CommonKeeps.j0 k y0 y1) (arlinklaw16_CommonKeeps.j0 (k + 1) y0 y1)) ∧ (∀ y0 y1 y2 y3, LeO (arlinklaw16_CommonKeeps.l0 k y0 y1 y2 y3) (arlinklaw16_CommonKeeps.l0 (k + 1) y0 y1 y2 y3)) ∧ (∀ y0 y1 y2, LeO (arlinklaw16_CommonKeeps.l1 k y0 y1 y2) (arlinklaw16_CommonKeeps.l1 (k + 1) y0 y1 y2))
  | 0 => ⟨fun _ _ r h => by simp [arlinklaw16_CommonKeeps.j0] at h, fun _ _ _ _ r h => by simp [arlinklaw16_CommonKeeps.l0] at h, fun _ _ _ r h => by simp [arlinklaw16_CommonKeeps.l1] at h⟩
  | k + 1 => by
    obtain ⟨ih0, ih1, ih2⟩ := arlinklaw16_CommonKeeps.mono_l k
    refine ⟨?_, ?_, ?_⟩
    · intro y0 y1
      unfold arlinklaw16_CommonKeeps.j0
      repeat' first
      | (with_reducible exact ih0 _ _)
      | (with_reducible exact ih1 _ _ _ _)
      | (with_reducible exact ih2 _ _ _)
      | (with_reducible exact arlinklaw16_awake.mono _)
      | (with_reducible exact arlinkref16_Right.mono _ _)
      | (with_reducible exact LeO.refl _)
      | (with_reducible exact LeO.none _)
      | (with_reducible refine LeO.ite ?_ ?_)
      | (with_reducible refine LeO.bind ?_ (fun _ => ?_))
      | exact ih0 _ _
      | exact ih1 _ _ _ _
      | exact ih2 _ _ _
      | exact arlinklaw16_awake.mono _
      | exact arlinkref16_Right.mono _ _
      | exact LeO.none _
      | refine LeO.ite ?_ ?_
      | refine LeO.bind ?_ (fun _ => ?_)
    · intro y0 y1 y2 y3
      unfold arlinklaw16_CommonKeeps.l0
      repeat' first
      | (with_reducible exact ih0 _ _)
      | (with_reducible exact ih1 _ _ _ _)
      | (with_reducible exact ih2 _ _ _)
      | (with_reducible exact arlinklaw16_awake.mono _)
      | (with_reducible exact arlinkref16_Right.mono _ _)
      | (with_reducible exact LeO.refl _)
      | (with_reducible exact LeO.none _)
      | (with_reducible refine LeO.ite ?_ ?_)
      | (with_reducible refine LeO.bind ?_ (fun _ => ?_))
      | exact ih0 _ _
      | exact ih1 _ _ _ _
      | exact ih2 _ _ _
      | exact arlinklaw16_awake.mono _
      | exact arlinkref16_Right.mono _ _
      | exact LeO.none _
      | refine LeO.ite ?_ ?_
      | refine LeO.bind ?_ (fun _ => ?_)
    · intro y0 y1 y2
      unfold arlinklaw16_CommonKeeps.l1
      repeat' first
      | (with_reducible exact ih0 _ _)
      | (with_reducible exact ih1 _ _ _ _)
      | (with_reducible exact ih2 _ _ _)
      | (with_reducible exact arlinklaw16_awake.mono _)
      | (with_reducible exact arlinkref16_Right.mono _ _)
      | (with_reducible exact LeO.refl _)
      | (with_reducible exact LeO.none _)
      | (with_reducible refine LeO.ite ?_ ?_)
      | (with_reducible refine LeO.bind ?_ (fun _ => ?_))
      | exact ih0 _ _
      | exact ih1 _ _ _ _
      | exact ih2 _ _ _
      | exact arlinklaw16_awake.mono _
      | exact arlinkref16_Right.mono _ _
      | exact LeO.none _
      | refine LeO.ite ?_ ?_
      | refine LeO.bind ?_ (fun _ => ?_)
theorem arlinklaw16_CommonKeeps.mono : ∀ a0 k, LeO (arlinklaw16_CommonKeeps.f k a0) (arlinklaw16_CommonKeeps.f (k + 1) a0) := by
  intro a0 k
  obtain ⟨ih0, ih1, ih2⟩ := arlinklaw16_CommonKeeps.mono_l k
  unfold arlinklaw16_CommonKeeps.f
  repeat' first
      | (with_reducible exact ih0 _ _)
      | (with_reducible exact ih1 _ _ _ _)
      | (with_reducible exact ih2 _ _ _)
      | (with_reducible exact arlinklaw16_awake.mono _)
      | (with_reducible exact arlinkref16_Right.mono _ _)
      | (with_reducible exact LeO.refl _)
      | (with_reducible exact LeO.none _)
      | (with_reducible refine LeO.ite ?_ ?_)
      | (with_reducible refine LeO.bind ?_ (fun _ => ?_))
      | exact ih0 _ _
      | exact ih1 _ _ _ _
      | exact ih2 _ _ _
      | exact arlinklaw16_awake.mono _
      | exact arlinkref16_Right.mono _ _
      | exact LeO.none _
      | refine LeO.ite ?_ ?_
      | refine LeO.bind ?_ (fun _ => ?_)
set_option maxHeartbeats 8000000 in
set_option maxRecDepth 100000 in
theorem arlinklaw16_CommonKeeps.calls (k : Nat) (A0 : Option Addr) (c0 : Nat) (l0 : List (S40)) (r : Bool) (w : World) (hr0 : Kd.C k40 w A0 l0.length l0) (hc0 : l0.length ≤ c0) (h : arlinklaw16_CommonKeeps.f k l0 = some r) :
    Calls Try.prog 6 #[.slice A0 l0.length c0] w fun e w' => e = .returned (.bool r) ∧ Below w.heap.size w w' := by
  have hu40 := Try.underlying40
  have HR0 := Aside0.mk hr0
  have HC0 := Aside0.mk hc0
  clear hr0 hc0
  have HB := Aside0.mk (Below.refl w.heap.size w)
  have H : ((arlinklaw16_awake.f k).bind fun t271 => (if t271 = true then ((arlinkref16_Right.f k l0).bind fun t272 => (arlinklaw16_CommonKeeps.j0 k l0 (!t272))) else (arlinklaw16_CommonKeeps.j0 k l0 true))) = some r := h
  clear h
  have HC2 := Aside0.mk H
  clear H
  go_enter Try.func6, Try.ntmps6
  go_upto_region 1 with (fail)
  repeat (go_quiet (fail); go_upto_region 1 with (fail))
  go_cut [15] (fun v15 wc => ∃ (kq : Nat) (x15_1 : Bool), v15 = .bool x15_1 ∧ Aside0 (arlinklaw16_CommonKeeps.j0 kq l0 x15_1 = some r) ∧ Aside0 (kq ≤ k) ∧ Aside0 (Below w.heap.size w wc))
  case first =>
    have H := HC2.out
    clear HC2
    replace H := Option.bind_eq_some_iff.mp H
    obtain ⟨t271, A30, H⟩ := H
    replace H : (if t271 = true then ((arlinkref16_Right.f k l0).bind fun t272 => (arlinklaw16_CommonKeeps.j0 k l0 (!t272))) else (arlinklaw16_CommonKeeps.j0 k l0 true)) = some r := H
    have A3 := Aside0.mk A30
    clear A30
    by_cases c4 : t271 = true
    · subst c4
      have H1 : ((arlinkref16_Right.f k l0).bind fun t272 => (arlinklaw16_CommonKeeps.j0 k l0 (!t272))) = some r := by rw [if_pos rfl] at H; exact H
      clear H
      have H := H1
      clear H1
      replace H := Option.bind_eq_some_iff.mp H
      obtain ⟨t272, A50, H⟩ := H
      replace H : (arlinklaw16_CommonKeeps.j0 k l0 (!t272)) = some r := H
      have A5 := Aside0.mk A50
      clear A50
      have H' := Aside0.mk H
      clear H
      go_wp2_with (first | (go_at_call 8; (with_reducible refine (arlinklaw16_awake.calls k  true _ A3.out).mono ?_); rintro e w6 ⟨rfl, hb⟩; have n0_ := Aside0.mk (below_step (by repeat (first | (with_reducible first | exact HB.out | apply below_alloc | apply pw_below_drewN | apply below_drew1) | exact HB.out)) hb); clear HB; have HB := n0_; clear n0_; (try clear hb); (try clear hb2); (try clear hk); (try clear hi)) | (go_at_call 9; (with_reducible refine (arlinkref16_Right.calls k _ _ l0 t272 _ ?side1 ?side2 A5.out).mono ?_); (case side1 => repeat (first | exact (Kd.C_below HR0.out HB.out) | (with_reducible refine Kd.C_alloc ?_ _) | (with_reducible refine Kd.C_drewN ?_ _) | (with_reducible refine Kd.C_drew ?_))); (case side2 => exact HC0.out); rintro e w' ⟨rfl, ⟨nd, rfl⟩⟩; (try first | exact ⟨rfl, _, World.drewN_drewN _ _ _⟩ | exact ⟨rfl, _, Eq.trans (World.drewN_drewN _ _ _) (congrArg (World.drewN _) (Nat.add_assoc _ _ _))⟩)))
      repeat (go_quiet (first | (go_at_call 8; (with_reducible refine (arlinklaw16_awake.calls k  true _ A3.out).mono ?_); rintro e w6 ⟨rfl, hb⟩; have n0_ := Aside0.mk (below_step (by repeat (first | (with_reducible first | exact HB.out | apply below_alloc | apply pw_below_drewN | apply below_drew1) | exact HB.out)) hb); clear HB; have HB := n0_; clear n0_; (try clear hb); (try clear hb2); (try clear hk); (try clear hi)) | (go_at_call 9; (with_reducible refine (arlinkref16_Right.calls k _ _ l0 t272 _ ?side1 ?side2 A5.out).mono ?_); (case side1 => repeat (first | exact (Kd.C_below HR0.out HB.out) | (with_reducible refine Kd.C_alloc ?_ _) | (with_reducible refine Kd.C_drewN ?_ _) | (with_reducible refine Kd.C_drew ?_))); (case side2 => exact HC0.out); rintro e w' ⟨rfl, ⟨nd, rfl⟩⟩; (try first | exact ⟨rfl, _, World.drewN_drewN _ _ _⟩ | exact ⟨rfl, _, Eq.trans (World.drewN_drewN _ _ _) (congrArg (World.drewN _) (Nat.add_assoc _ _ _))⟩))); try go_wp2_with (first | (go_at_call 8; (with_reducible refine (arlinklaw16_awake.calls k  true _ A3.out).mono ?_); rintro e w6 ⟨rfl, hb⟩; have n0_ := Aside0.mk (below_step (by repeat (first | (with_reducible first | exact HB.out | apply below_alloc | apply pw_below_drewN | apply below_drew1) | exact HB.out)) hb); clear HB; have HB := n0_; clear n0_; (try clear hb); (try clear hb2); (try clear hk); (try clear hi)) | (go_at_call 9; (with_reducible refine (arlinkref16_Right.calls k _ _ l0 t272 _ ?side1 ?side2 A5.out).mono ?_); (case side1 => repeat (first | exact (Kd.C_below HR0.out HB.out) | (with_reducible refine Kd.C_alloc ?_ _) | (with_reducible refine Kd.C_drewN ?_ _) | (with_reducible refine Kd.C_drew ?_))); (case side2 => exact HC0.out); rintro e w' ⟨rfl, ⟨nd, rfl⟩⟩; (try first | exact ⟨rfl, _, World.drewN_drewN _ _ _⟩ | exact ⟨rfl, _, Eq.trans (World.drewN_drewN _ _ _) (congrArg (World.drewN _) (Nat.add_assoc _ _ _))⟩))))
      go_meet
      case rel => exact ⟨_, (!t272), (by first | rfl | (simp; done) | (simp [*]; done)), H', ⟨by first | omega | exact Nat.le_refl _⟩, ⟨by repeat (first | (with_reducible first | exact HB.out | apply below_alloc | apply pw_below_drewN | apply below_drew1) | exact HB.out)⟩⟩
    · replace c4 := Bool.eq_false_iff.mpr c4
      subst c4
      have H1 : (arlinklaw16_CommonKeeps.j0 k l0 true) = some r := by rw [if_neg (show ¬ (false = true) by decide)] at H; exact H
      clear H
      have H := H1
      clear H1
      have H' := Aside0.mk H
      clear H
      go_wp2_with (first | (go_at_call 8; (with_reducible refine (arlinklaw16_awake.calls k  false _ A3.out).mono ?_); rintro e w7 ⟨rfl, hb⟩; have n0_ := Aside0.mk (below_step (by repeat (first | (with_reducible first | exact HB.out | apply below_alloc | apply pw_below_drewN | apply below_drew1) | exact HB.out)) hb); clear HB; have HB := n0_; clear n0_; (try clear hb); (try clear hb2); (try clear hk); (try clear hi)))
      repeat (go_quiet (first | (go_at_call 8; (with_reducible refine (arlinklaw16_awake.calls k  false _ A3.out).mono ?_); rintro e w7 ⟨rfl, hb⟩; have n0_ := Aside0.mk (below_step (by repeat (first | (with_reducible first | exact HB.out | apply below_alloc | apply pw_below_drewN | apply below_drew1) | exact HB.out)) hb); clear HB; have HB := n0_; clear n0_; (try clear hb); (try clear hb2); (try clear hk); (try clear hi))); try go_wp2_with (first | (go_at_call 8; (with_reducible refine (arlinklaw16_awake.calls k  false _ A3.out).mono ?_); rintro e w7 ⟨rfl, hb⟩; have n0_ := Aside0.mk (below_step (by repeat (first | (with_reducible first | exact HB.out | apply below_alloc | apply pw_below_drewN | apply below_drew1) | exact HB.out)) hb); clear HB; have HB := n0_; clear n0_; (try clear hb); (try clear hb2); (try clear hk); (try clear hi))))
      go_meet
      case rel => exact ⟨_, (true), (by first | rfl | (simp; done) | (simp [*]; done)), H', ⟨by first | omega | exact Nat.le_refl _⟩, ⟨by repeat (first | (with_reducible first | exact HB.out | apply below_alloc | apply pw_below_drewN | apply below_drew1) | exact HB.out)⟩⟩
  case rest =>
    clear HC2
    try clear p2
    try clear c4
    try clear c6
    obtain ⟨kq, x15_1, rfl, HA, HJ1, HB⟩ := hcut
    cases kq with
    | zero => exact absurd HA.out (by simp [arlinklaw16_CommonKeeps.j0])
    | succ kj1 =>
      have H := HA.out
      clear HA
      simp only [arlinklaw16_CommonKeeps.j0] at H
      by_cases c8 : x15_1 = true
      · subst c8
        have H1 : ((arlinklaw16_awake.f kj1).bind fun t273 => (some t273)) = some r := by rw [if_pos rfl] at H; exact H
        clear H
        have H := H1
        clear H1
        replace H := Option.bind_eq_some_iff.mp H
        obtain ⟨t273, A90, H⟩ := H
        replace H : (some t273) = some r := H
        have A9 := Aside0.mk A90
        clear A90
        obtain rfl := Option.some.inj H
        go_wp2_with (first | (go_at_call 8; (with_reducible refine (arlinklaw16_awake.calls kj1  t273 _ A9.out).mono ?_); rintro e w10 ⟨rfl, hb⟩; have n0_ := Aside0.mk (below_step (by repeat (first | (with_reducible first | exact HB.out | apply below_alloc | apply pw_below_drewN | apply below_drew1) | exact HB.out)) hb); clear HB; have HB := n0_; clear n0_; (try clear hb); (try clear hb2); (try clear hk); (try clear hi)))
        repeat (go_quiet (first | (go_at_call 8; (with_reducible refine (arlinklaw16_awake.calls kj1  t273 _ A9.out).mono ?_); rintro e w10 ⟨rfl, hb⟩; have n0_ := Aside0.mk (below_step (by repeat (first | (with_reducible first | exact HB.out | apply below_alloc | apply pw_below_drewN | apply below_drew1) | exact HB.out)) hb); clear HB; have HB := n0_; clear n0_; (try clear hb); (try clear hb2); (try clear hk); (try clear hi))); try go_wp2_with (first | (go_at_call 8; (with_reducible refine (arlinklaw16_awake.calls kj1  t273 _ A9.out).mono ?_); rintro e w10 ⟨rfl, hb⟩; have n0_ := Aside0.mk (below_step (by repeat (first | (with_reducible first | exact HB.out | apply below_alloc | apply pw_below_drewN | apply below_drew1) | exact HB.out)) hb); clear HB; have HB := n0_; clear n0_; (try clear hb); (try clear hb2); (try clear hk); (try clear hi))))
        go_ret
        exact ⟨by first | rfl | (simp [errW_none, errW_some] <;> rfl) | (simp [*, errW_none, errW_some] <;> rfl), by repeat (first | (with_reducible first | exact HB.out | apply below_alloc | apply pw_below_drewN | apply below_drew1) | exact HB.out)⟩
      · replace c8 := Bool.eq_false_iff.mpr c8
        subst c8
        have H1 : ((some (([] : List (S40)) : List (S40))).bind fun y274 => (if y274.length + l0.length < 2932031007402 then ((some (y274 ++ l0 : List (S40))).bind fun y277 => ((common_Layout.f y277).bind fun bt280 => (arlinklaw16_CommonKeeps.l0 kj1 l0 y277 bt280.1 0))) else (none))) = some r := by rw [if_neg (show ¬ (false = true) by decide)] at H; exact H
        clear H
        have H := H1
        clear H1
        obtain ⟨y274, hy274⟩ : ∃ y_ : List (S40), y_ = (([] : List (S40))) := ⟨_, rfl⟩
        replace H : (if y274.length + l0.length < 2932031007402 then ((some (y274 ++ l0 : List (S40))).bind fun y277 => ((common_Layout.f y277).bind fun bt280 => (arlinklaw16_CommonKeeps.l0 kj1 l0 y277 bt280.1 0))) else (none)) = some r := by first | (rw [hy274]; with_reducible exact H) | (have H2_ := (Option.bind_some _ _).symm.trans H; rw [hy274]; with_reducible exact H2_) | (have H2_ := (Option.bind_some _ _).symm.trans H; with_reducible exact H2_) | with_reducible exact H | (rw [hy274]; exact H) | exact H
        have Ny274 := Aside0.mk hy274
        clear hy274
        by_cases c11 : y274.length + l0.length < 2932031007402
        · rw [if_pos c11] at H
          have LMc11 := Aside0.mk c11
          clear c11
          obtain ⟨y277, hy277⟩ : ∃ y_ : List (S40), y_ = (y274 ++ l0) := ⟨_, rfl⟩
          replace H : ((common_Layout.f y277).bind fun bt280 => (arlinklaw16_CommonKeeps.l0 kj1 l0 y277 bt280.1 0)) = some r := by first | (rw [hy277]; with_reducible exact H) | (have H2_ := (Option.bind_some _ _).symm.trans H; rw [hy277]; with_reducible exact H2_) | (have H2_ := (Option.bind_some _ _).symm.trans H; with_reducible exact H2_) | with_reducible exact H | (rw [hy277]; exact H) | exact H
          have Ny277 := Aside0.mk hy277
          clear hy277
          replace H := Option.bind_eq_some_iff.mp H
          obtain ⟨⟨t280, t281, t282⟩, A120, H⟩ := H
          replace H : (arlinklaw16_CommonKeeps.l0 kj1 l0 y277 t280 0) = some r := H
          have A12 := Aside0.mk A120
          clear A120
          have H' := Aside0.mk H
          clear H
          go_wp2_with (first | ((with_reducible refine gate_dst (N := 17) rfl ?_); refine Kd.R_lit k40 _ 40 ?hg (N := 17) ?hd (xs := ([] : List (S40))) (inner := []) (ok := fun _ => True) (okp := fun _ => True) ?hr ?hp (fun _ hk => hk) trivial (Below.refl _ _) (Nat.le_refl _) (by simp) ?_; (case hd => rfl); (case hg => rfl); (case hr => first | (go_simp; done) | (go_simp; rfl)); (case hp => exact (Reps.none _ _)); intro v275 w13 ho14 hb hg_ hnew_; clear hg_ hnew_; (first | rw [← Ny274.out] at ho14 | (simp only [Int.reduceToNat] at ho14; rw [← Ny274.out] at ho14)); have n0_ := Aside0.mk (Kd.R_lower ho14 (below_size (by repeat (first | (with_reducible first | exact HB.out | apply below_alloc | apply pw_below_drewN | apply below_drew1) | exact HB.out)))); have n1_ := Aside0.mk (below_step (by repeat (first | (with_reducible first | exact HB.out | apply below_alloc | apply pw_below_drewN | apply below_drew1) | exact HB.out)) hb); clear HB; have HO276 := n0_; have HB := n1_; clear n0_ n1_; clear hb ho14) | ((with_reducible refine gate_builtin (b := .append) (xs := #[.tmp 17, .tmp 18]) rfl ?_); at_builtin; refine Kd.R_append_rows k40 (w0 := w) w.heap.size rfl (.tmp 17) (.tmp 18) 22 40 (.agg #[(.string ⟨#[]⟩), (.int .i64 0), (.int .i64 0), (.int .i64 0), (.int .i64 0)]) 48 rfl Try.underlying22 info40 rfl (by decide) (by omega) v275 y274 l0 _ _ _ (fun _ => True) (fun _ => False) rfl rfl ?aO ?aR (fun _ _ h => h) (fun _ h => h.elim) ?aF ?aB ?aS ?aL ?_; (case aR => repeat (first | exact (Kd.C_below HR0.out HB.out) | (with_reducible refine Kd.C_alloc ?_ _) | (with_reducible refine Kd.C_drewN ?_ _) | (with_reducible refine Kd.C_drew ?_))); (case aB => exact (by repeat (first | (with_reducible first | exact HB.out | apply below_alloc | apply pw_below_drewN | apply below_drew1) | exact HB.out))); (case aF => exact (fun _ _ => trivial)); (case aO => exact (by (with_reducible repeat (first | apply Kd.R_alloc | apply Kd.R_drewN | apply Kd.R_drew)); exact HO276.out)); (case aS => exact (below_size (by repeat (first | (with_reducible first | exact HB.out | apply below_alloc | apply pw_below_drewN | apply below_drew1) | exact HB.out)))); (case aL => have := LMc11.out; omega); intro v278 w15 ho hb hg hat; rw [← Ny277.out] at ho; have n0_ := Aside0.mk (hb); have n1_ := Aside0.mk (ho); clear HB; clear HO276; have HB := n0_; have HO279 := n1_; clear n0_ n1_; clear ho hb hg hat; obtain ⟨Ao16, co16, eo16⟩ := Kd.R_slice HO279.out; subst eo16) | (go_at_call 10; (with_reducible refine (common_Layout.calls _ _ y277 t280 t281 t282 _ ?side1 ?side2 A12.out).mono ?_); (case side1 => repeat (first | exact (Kd.R_reads' HO279.out).2.2 | (with_reducible refine Kd.C_alloc ?_ _) | (with_reducible refine Kd.C_drewN ?_ _) | (with_reducible refine Kd.C_drew ?_))); (case side2 => exact (Kd.R_reads' HO279.out).2.1); rintro e w17 ⟨v283, rfl, ho0, hb⟩; have n0_ := Aside0.mk (Kd.R_below (by (with_reducible repeat (first | apply Kd.R_alloc | apply Kd.R_drewN | apply Kd.R_drew)); exact HO279.out) hb); have n1_ := Aside0.mk (Kd.R_lower ho0 (below_size (by repeat (first | (with_reducible first | exact HB.out | apply below_alloc | apply pw_below_drewN | apply below_drew1) | exact HB.out)))); have n2_ := Aside0.mk (below_step (by repeat (first | (with_reducible first | exact HB.out | apply below_alloc | apply pw_below_drewN | apply below_drew1) | exact HB.out)) hb); clear HO279; clear HB; have HO279 := n0_; have HO284 := n1_; have HB := n2_; clear n0_ n1_ n2_; (try clear hb); (try clear hb2); (try clear hk); (try clear hi); (try clear ho0)))
          repeat (go_quiet (first | ((with_reducible refine gate_dst (N := 17) rfl ?_); refine Kd.R_lit k40 _ 40 ?hg (N := 17) ?hd (xs := ([] : List (S40))) (inner := []) (ok := fun _ => True) (okp := fun _ => True) ?hr ?hp (fun _ hk => hk) trivial (Below.refl _ _) (Nat.le_refl _) (by simp) ?_; (case hd => rfl); (case hg => rfl); (case hr => first | (go_simp; done) | (go_simp; rfl)); (case hp => exact (Reps.none _ _)); intro v275 w13 ho14 hb hg_ hnew_; clear hg_ hnew_; (first | rw [← Ny274.out] at ho14 | (simp only [Int.reduceToNat] at ho14; rw [← Ny274.out] at ho14)); have n0_ := Aside0.mk (Kd.R_lower ho14 (below_size (by repeat (first | (with_reducible first | exact HB.out | apply below_alloc | apply pw_below_drewN | apply below_drew1) | exact HB.out)))); have n1_ := Aside0.mk (below_step (by repeat (first | (with_reducible first | exact HB.out | apply below_alloc | apply pw_below_drewN | apply below_drew1) | exact HB.out)) hb); clear HB; have HO276 := n0_; have HB := n1_; clear n0_ n1_; clear hb ho14) | ((with_reducible refine gate_builtin (b := .append) (xs := #[.tmp 17, .tmp 18]) rfl ?_); at_builtin; refine Kd.R_append_rows k40 (w0 := w) w.heap.size rfl (.tmp 17) (.tmp 18) 22 40 (.agg #[(.string ⟨#[]⟩), (.int .i64 0), (.int .i64 0), (.int .i64 0), (.int .i64 0)]) 48 rfl Try.underlying22 info40 rfl (by decide) (by omega) v275 y274 l0 _ _ _ (fun _ => True) (fun _ => False) rfl rfl ?aO ?aR (fun _ _ h => h) (fun _ h => h.elim) ?aF ?aB ?aS ?aL ?_; (case aR => repeat (first | exact (Kd.C_below HR0.out HB.out) | (with_reducible refine Kd.C_alloc ?_ _) | (with_reducible refine Kd.C_drewN ?_ _) | (with_reducible refine Kd.C_drew ?_))); (case aB => exact (by repeat (first | (with_reducible first | exact HB.out | apply below_alloc | apply pw_below_drewN | apply below_drew1) | exact HB.out))); (case aF => exact (fun _ _ => trivial)); (case aO => exact (by (with_reducible repeat (first | apply Kd.R_alloc | apply Kd.R_drewN | apply Kd.R_drew)); exact HO276.out)); (case aS => exact (below_size (by repeat (first | (with_reducible first | exact HB.out | apply below_alloc | apply pw_below_drewN | apply below_drew1) | exact HB.out)))); (case aL => have := LMc11.out; omega); intro v278 w15 ho hb hg hat; rw [← Ny277.out] at ho; have n0_ := Aside0.mk (hb); have n1_ := Aside0.mk (ho); clear HB; clear HO276; have HB := n0_; have HO279 := n1_; clear n0_ n1_; clear ho hb hg hat; obtain ⟨Ao16, co16, eo16⟩ := Kd.R_slice HO279.out; subst eo16) | (go_at_call 10; (with_reducible refine (common_Layout.calls _ _ y277 t280 t281 t282 _ ?side1 ?side2 A12.out).mono ?_); (case side1 => repeat (first | exact (Kd.R_reads' HO279.out).2.2 | (with_reducible refine Kd.C_alloc ?_ _) | (with_reducible refine Kd.C_drewN ?_ _) | (with_reducible refine Kd.C_drew ?_))); (case side2 => exact (Kd.R_reads' HO279.out).2.1); rintro e w17 ⟨v283, rfl, ho0, hb⟩; have n0_ := Aside0.mk (Kd.R_below (by (with_reducible repeat (first | apply Kd.R_alloc | apply Kd.R_drewN | apply Kd.R_drew)); exact HO279.out) hb); have n1_ := Aside0.mk (Kd.R_lower ho0 (below_size (by repeat (first | (with_reducible first | exact HB.out | apply below_alloc | apply pw_below_drewN | apply below_drew1) | exact HB.out)))); have n2_ := Aside0.mk (below_step (by repeat (first | (with_reducible first | exact HB.out | apply below_alloc | apply pw_below_drewN | apply below_drew1) | exact HB.out)) hb); clear HO279; clear HB; have HO279 := n0_; have HO284 := n1_; have HB := n2_; clear n0_ n1_ n2_; (try clear hb); (try clear hb2); (try clear hk); (try clear hi); (try clear ho0))); try go_wp2_with (first | ((with_reducible refine gate_dst (N := 17) rfl ?_); refine Kd.R_lit k40 _ 40 ?hg (N := 17) ?hd (xs := ([] : List (S40))) (inner := []) (ok := fun _ => True) (okp := fun _ => True) ?hr ?hp (fun _ hk => hk) trivial (Below.refl _ _) (Nat.le_refl _) (by simp) ?_; (case hd => rfl); (case hg => rfl); (case hr => first | (go_simp; done) | (go_simp; rfl)); (case hp => exact (Reps.none _ _)); intro v275 w13 ho14 hb hg_ hnew_; clear hg_ hnew_; (first | rw [← Ny274.out] at ho14 | (simp only [Int.reduceToNat] at ho14; rw [← Ny274.out] at ho14)); have n0_ := Aside0.mk (Kd.R_lower ho14 (below_size (by repeat (first | (with_reducible first | exact HB.out | apply below_alloc | apply pw_below_drewN | apply below_drew1) | exact HB.out)))); have n1_ := Aside0.mk (below_step (by repeat (first | (with_reducible first | exact HB.out | apply below_alloc | apply pw_below_drewN | apply below_drew1) | exact HB.out)) hb); clear HB; have HO276 := n0_; have HB := n1_; clear n0_ n1_; clear hb ho14) | ((with_reducible refine gate_builtin (b := .append) (xs := #[.tmp 17, .tmp 18]) rfl ?_); at_builtin; refine Kd.R_append_rows k40 (w0 := w) w.heap.size rfl (.tmp 17) (.tmp 18) 22 40 (.agg #[(.string ⟨#[]⟩), (.int .i64 0), (.int .i64 0), (.int .i64 0), (.int .i64 0)]) 48 rfl Try.underlying22 info40 rfl (by decide) (by omega) v275 y274 l0 _ _ _ (fun _ => True) (fun _ => False) rfl rfl ?aO ?aR (fun _ _ h => h) (fun _ h => h.elim) ?aF ?aB ?aS ?aL ?_; (case aR => repeat (first | exact (Kd.C_below HR0.out HB.out) | (with_reducible refine Kd.C_alloc ?_ _) | (with_reducible refine Kd.C_drewN ?_ _) | (with_reducible refine Kd.C_drew ?_))); (case aB => exact (by repeat (first | (with_reducible first | exact HB.out | apply below_alloc | apply pw_below_drewN | apply below_drew1) | exact HB.out))); (case aF => exact (fun _ _ => trivial)); (case aO => exact (by (with_reducible repeat (first | apply Kd.R_alloc | apply Kd.R_drewN | apply Kd.R_drew)); exact HO276.out)); (case aS => exact (below_size (by repeat (first | (with_reducible first | exact HB.out | apply below_alloc | apply pw_below_drewN | apply below_drew1) | exact HB.out)))); (case aL => have := LMc11.out; omega); intro v278 w15 ho hb hg hat; rw [← Ny277.out] at ho; have n0_ := Aside0.mk (hb); have n1_ := Aside0.mk (ho); clear HB; clear HO276; have HB := n0_; have HO279 := n1_; clear n0_ n1_; clear ho hb hg hat; obtain ⟨Ao16, co16, eo16⟩ := Kd.R_slice HO279.out; subst eo16) | (go_at_call 10; (with_reducible refine (common_Layout.calls _ _ y277 t280 t281 t282 _ ?side1 ?side2 A12.out).mono ?_); (case side1 => repeat (first | exact (Kd.R_reads' HO279.out).2.2 | (with_reducible refine Kd.C_alloc ?_ _) | (with_reducible refine Kd.C_drewN ?_ _) | (with_reducible refine Kd.C_drew ?_))); (case side2 => exact (Kd.R_reads' HO279.out).2.1); rintro e w17 ⟨v283, rfl, ho0, hb⟩; have n0_ := Aside0.mk (Kd.R_below (by (with_reducible repeat (first | apply Kd.R_alloc | apply Kd.R_drewN | apply Kd.R_drew)); exact HO279.out) hb); have n1_ := Aside0.mk (Kd.R_lower ho0 (below_size (by repeat (first | (with_reducible first | exact HB.out | apply below_alloc | apply pw_below_drewN | apply below_drew1) | exact HB.out)))); have n2_ := Aside0.mk (below_step (by repeat (first | (with_reducible first | exact HB.out | apply below_alloc | apply pw_below_drewN | apply below_drew1) | exact HB.out)) hb); clear HO279; clear HB; have HO279 := n0_; have HO284 := n1_; have HB := n2_; clear n0_ n1_ n2_; (try clear hb); (try clear hb2); (try clear hk); (try clear hi); (try clear ho0))))
          go_loopg [7] kj1 (fun kq v7 w' => ∃ (x4_2 : List (S32)) (x7_2 : Int), v7 = .int .i64 x7_2 ∧ Aside0 (arlinklaw16_CommonKeeps.l0 kq l0 y277 x4_2 x7_2 = some r) ∧ Aside0 (kq ≤ kj1) ∧ Aside0 (Kd.R k40 40 w' w.heap.size (fun _ => True) (.slice Ao16 y277.length co16) y277) ∧ Aside0 (Kd.R k32 32 w' w.heap.size (fun _ => True) v283 x4_2) ∧ Aside0 (Below w.heap.size w w'))
          case atStart => exact ⟨(t280), (0), (by first | rfl | (simp; done) | (simp [*]; done)), H', ⟨Nat.le_refl _⟩, ⟨by (with_reducible repeat (first | apply Kd.R_alloc | apply Kd.R_drewN | apply Kd.R_drew)); exact HO279.out⟩, ⟨by (with_reducible repeat (first | apply Kd.R_alloc | apply Kd.R_drewN | apply Kd.R_drew)); exact HO284.out⟩, ⟨by repeat (first | (with_reducible first | exact HB.out | apply below_alloc | apply pw_below_drewN | apply below_drew1) | exact HB.out)⟩⟩
          case round =>
            clear H'
            try clear c1
            try clear p2
            try clear c4
            try clear c6
            try clear c8
            try clear c11
            try clear p2
            obtain ⟨x4_2, x7_2, rfl, HA, HK2, HO_3, HO_4, HB⟩ := hrel
            cases gk with
            | zero => exact absurd HA.out (by simp [arlinklaw16_CommonKeeps.l0])
            | succ k2 =>
              have H := HA.out
              clear HA
              simp only [arlinklaw16_CommonKeeps.l0] at H
              by_cases c18 : x7_2 < (x4_2.length : Int)
              · rw [if_pos c18] at H
                have c18b0 : decide (x7_2 < (x4_2.length : Int)) = true := decide_eq_true c18
                clear c18
                by_cases c19 : 0 ≤ x7_2
                · rw [if_pos c19] at H
                  have c19b0 : decide (0 ≤ x7_2) = true := decide_eq_true c19
                  clear c19
                  obtain ⟨y285, hy285⟩ : ∃ y_ : List (S32), y_ = (x4_2.set (x7_2 : Int).toNat (⟨(⟨#[]⟩ : ByteArray), (rd_T32 x4_2 x7_2).f1, (rd_T32 x4_2 x7_2).f2⟩ : S32)) := ⟨_, rfl⟩
                  replace H : (arlinklaw16_CommonKeeps.l0 k2 l0 y277 y285 (wrap64 (x7_2 + 1))) = some r := by first | (rw [hy285]; with_reducible exact H) | (have H2_ := (Option.bind_some _ _).symm.trans H; rw [hy285]; with_reducible exact H2_) | (have H2_ := (Option.bind_some _ _).symm.trans H; with_reducible exact H2_) | with_reducible exact H | (rw [hy285]; exact H) | exact H
                  have Ny285 := Aside0.mk hy285
                  clear hy285
                  have H' := Aside0.mk H
                  clear H
                  obtain ⟨Ao21, co21, eo21⟩ := Kd.R_slice HO_4.out
                  subst eo21
                  have p20 : 0 ≤ (x7_2 : Int) := of_decide_eq_true (by first | (with_reducible assumption) | assumption)
                  have q20 : (x7_2 : Int) < ((x4_2.length : Int) : Int) := of_decide_eq_true (by first | (with_reducible assumption) | assumption)
                  obtain ⟨go20, co20, eo20, gb20, gl20, cl20, HG20⟩ := Kd.R_form HO_4.out (by omega)
                  (first | cases eo20 | (injection eo20 with ea_ en_ ec_; (first | subst ea_ | (injection ea_ with ea_; subst ea_)); subst ec_; clear en_))
                  have GB20 := Aside0.mk gb20
                  have GG20 := Aside0.mk HG20
                  clear gb20 gl20 HG20
                  obtain ⟨ce20, hcl20, hM20, hcc20, hfr20⟩ := Kd.R_elem HO_4.out z32 (x7_2 : Int) p20 q20
                  obtain rfl := k32_openM hM20
                  have hx20_0 : wr.cell? ⟨go20, (x7_2 : Int).toNat * 3, none⟩ = some (.string ((rd_T32 x4_2 x7_2).f0)) := hcc20 0 _ rfl
                  have hx20_1 : wr.cell? ⟨go20, (x7_2 : Int).toNat * 3 + 1, none⟩ = some (.int .i64 ((rd_T32 x4_2 x7_2).f1)) := hcc20 1 _ rfl
                  have hx20_2 : wr.cell? ⟨go20, (x7_2 : Int).toNat * 3 + 2, none⟩ = some (.int .i64 ((rd_T32 x4_2 x7_2).f2)) := hcc20 2 _ rfl
                  have hf20_0 : wr.frozen? ⟨go20, (x7_2 : Int).toNat * 3, none⟩ = false := hfr20 0
                  have hf20_1 : wr.frozen? ⟨go20, (x7_2 : Int).toNat * 3 + 1, none⟩ = false := hfr20 1
                  have hf20_2 : wr.frozen? ⟨go20, (x7_2 : Int).toNat * 3 + 2, none⟩ = false := hfr20 2
                  clear hcl20 hcc20 hfr20 hM20
                  replace p20 := eq_true p20
                  replace q20 := eq_true q20
                  have HX22 := Aside0.mk (show Kd.R k32 32 wr w.heap.size (fun _ => True) (.slice (some ⟨go20, 0, none⟩) x4_2.length co21) x4_2 from (by (with_reducible repeat (first | apply Kd.R_alloc | apply Kd.R_drewN | apply Kd.R_drew)); exact HO_4.out))
                  obtain ⟨ce22, hcl22, hM22, hcc22, hfr22⟩ := Kd.R_elem HX22.out z32 (x7_2 : Int) (of_decide_eq_true (by first | (with_reducible assumption) | assumption)) (by have h_ : (x7_2 : Int) < ((x4_2.length : Int) : Int) := of_decide_eq_true (by first | (with_reducible assumption) | assumption); first | exact h_ | (have e_ := (Kd.R_reads' HO_4.out).1; omega) | simpa using h_)
                  obtain rfl := k32_openM hM22
                  have HP22 := Kd.R_seg HX22.out (x7_2 : Int) (of_decide_eq_true (by first | (with_reducible assumption) | assumption)) (by have h_ : (x7_2 : Int) < ((x4_2.length : Int) : Int) := of_decide_eq_true (by first | (with_reducible assumption) | assumption); first | exact h_ | (have e_ := (Kd.R_reads' HO_4.out).1; omega) | simpa using h_) (seg := [.string (⟨#[]⟩ : ByteArray)]) (j := 0) hcl22 hcc22 (show 1 ≤ 3 from by decide) (x' := (⟨(⟨#[]⟩ : ByteArray), (rd_T32 x4_2 x7_2).f1, (rd_T32 x4_2 x7_2).f2⟩ : S32)) (k32_mkM _ _ _ (⟨(⟨#[]⟩ : ByteArray), (rd_T32 x4_2 x7_2).f1, (rd_T32 x4_2 x7_2).f2⟩ : S32) ) (fun _ hk => hk)
                  have hx22_0 := hcc22 0 _ rfl
                  (try simp only [show (k32).sz = 3 from rfl, Nat.mul_one, Nat.add_zero] at hx22_0)
                  have hf22_0 := hfr22 0
                  (try simp only [show (k32).sz = 3 from rfl, Nat.mul_one, Nat.add_zero] at hf22_0)
                  clear hcl22 hcc22 hfr22 hM22
                  go_wp2_with (first | ((with_reducible refine gate_store (t := 9) (p := 35) rfl ?_); (try (rw [drewN_self wr]; generalize hq_ : World.drewN wr _ = wr; have n0_ := Aside0.mk (Kd.R_at hq_ HO_3.out); have n1_ := Aside0.mk (Kd.R_at hq_ HO_4.out); have n2_ := Aside0.mk (below_at hq_ HB.out); clear hq_ HO_3 HO_4 HB; have HO_3 := n0_; have HO_4 := n1_; have HB := n2_; clear n0_ n1_ n2_; (try (have HX22 := Aside0.mk (show Kd.R k32 32 wr w.heap.size (fun _ => True) (.slice (some ⟨go20, 0, none⟩) x4_2.length co21) x4_2 from (by (with_reducible repeat (first | apply Kd.R_alloc | apply Kd.R_drewN | apply Kd.R_drew)); exact HO_4.out)))); (try (obtain ⟨ce22, hcl22, hM22, hcc22, hfr22⟩ := Kd.R_elem HX22.out z32 (x7_2 : Int) (of_decide_eq_true (by first | (with_reducible assumption) | assumption)) (by have h_ : (x7_2 : Int) < ((x4_2.length : Int) : Int) := of_decide_eq_true (by first | (with_reducible assumption) | assumption); first | exact h_ | (have e_ := (Kd.R_reads' HO_4.out).1; omega) | simpa using h_))); (try (obtain rfl := k32_openM hM22)); (try (have HP22 := Kd.R_seg HX22.out (x7_2 : Int) (of_decide_eq_true (by first | (with_reducible assumption) | assumption)) (by have h_ : (x7_2 : Int) < ((x4_2.length : Int) : Int) := of_decide_eq_true (by first | (with_reducible assumption) | assumption); first | exact h_ | (have e_ := (Kd.R_reads' HO_4.out).1; omega) | simpa using h_) (seg := [.string (⟨#[]⟩ : ByteArray)]) (j := 0) hcl22 hcc22 (show 1 ≤ 3 from by decide) (x' := (⟨(⟨#[]⟩ : ByteArray), (rd_T32 x4_2 x7_2).f1, (rd_T32 x4_2 x7_2).f2⟩ : S32)) (k32_mkM _ _ _ (⟨(⟨#[]⟩ : ByteArray), (rd_T32 x4_2 x7_2).f1, (rd_T32 x4_2 x7_2).f2⟩ : S32) ) (fun _ hk => hk))); (try (have hx22_0 := hcc22 0 _ rfl)); (try (try simp only [show (k32).sz = 3 from rfl, Nat.mul_one, Nat.add_zero] at hx22_0)); (try (have hf22_0 := hfr22 0)); (try (try simp only [show (k32).sz = 3 from rfl, Nat.mul_one, Nat.add_zero] at hf22_0)); (try (clear hcl22 hcc22 hfr22 hM22)))); refine store_event (t := 9) (p := 35) (v := ?vo_w23) (w1 := (wr.setCell ⟨go20, (x7_2 : Int).toNat * 3, none⟩ (.string (⟨#[]⟩ : ByteArray)))) ?hg ?ho ?hn ?hr ?_; (case ho => rfl); (case hg => rfl); (case hn => rfl); (case hr => first | (go_simp; done) | (go_simp; rfl)); intro w23 hw; have hg : wr.grownBy w23 (some go20) := (by rw [hw]; exact HP22.2); have hp_ : Kd.R k32 32 w23 w.heap.size (fun _ => True) (.slice (some ⟨go20, 0, none⟩) x4_2.length co21) y285 := (by rw [hw, Ny285.out]; exact HP22.1); clear HP22; have n0_ := Aside0.mk (Kd.R_over' (v := (.slice (some ⟨go20, 0, none⟩) x4_2.length co21)) (by (with_reducible repeat (first | apply Kd.R_alloc | apply Kd.R_drewN | apply Kd.R_drew)); exact HO_3.out) (Kd.R_typed HO_4.out) (by decide) hg); have n1_ := Aside0.mk (hp_); have n2_ := Aside0.mk ((by rw [hw]; exact below_set (HB.out) GB20.out : Below w.heap.size w w23)); clear HO_3; clear HO_4; clear HB; have HO_3 := n0_; have HO_4 := n1_; have HB := n2_; clear n0_ n1_ n2_; clear hg hw hp_))
                  repeat (go_quiet (first | ((with_reducible refine gate_store (t := 9) (p := 35) rfl ?_); (try (rw [drewN_self wr]; generalize hq_ : World.drewN wr _ = wr; have n0_ := Aside0.mk (Kd.R_at hq_ HO_3.out); have n1_ := Aside0.mk (Kd.R_at hq_ HO_4.out); have n2_ := Aside0.mk (below_at hq_ HB.out); clear hq_ HO_3 HO_4 HB; have HO_3 := n0_; have HO_4 := n1_; have HB := n2_; clear n0_ n1_ n2_; (try (have HX22 := Aside0.mk (show Kd.R k32 32 wr w.heap.size (fun _ => True) (.slice (some ⟨go20, 0, none⟩) x4_2.length co21) x4_2 from (by (with_reducible repeat (first | apply Kd.R_alloc | apply Kd.R_drewN | apply Kd.R_drew)); exact HO_4.out)))); (try (obtain ⟨ce22, hcl22, hM22, hcc22, hfr22⟩ := Kd.R_elem HX22.out z32 (x7_2 : Int) (of_decide_eq_true (by first | (with_reducible assumption) | assumption)) (by have h_ : (x7_2 : Int) < ((x4_2.length : Int) : Int) := of_decide_eq_true (by first | (with_reducible assumption) | assumption); first | exact h_ | (have e_ := (Kd.R_reads' HO_4.out).1; omega) | simpa using h_))); (try (obtain rfl := k32_openM hM22)); (try (have HP22 := Kd.R_seg HX22.out (x7_2 : Int) (of_decide_eq_true (by first | (with_reducible assumption) | assumption)) (by have h_ : (x7_2 : Int) < ((x4_2.length : Int) : Int) := of_decide_eq_true (by first | (with_reducible assumption) | assumption); first | exact h_ | (have e_ := (Kd.R_reads' HO_4.out).1; omega) | simpa using h_) (seg := [.string (⟨#[]⟩ : ByteArray)]) (j := 0) hcl22 hcc22 (show 1 ≤ 3 from by decide) (x' := (⟨(⟨#[]⟩ : ByteArray), (rd_T32 x4_2 x7_2).f1, (rd_T32 x4_2 x7_2).f2⟩ : S32)) (k32_mkM _ _ _ (⟨(⟨#[]⟩ : ByteArray), (rd_T32 x4_2 x7_2).f1, (rd_T32 x4_2 x7_2).f2⟩ : S32) ) (fun _ hk => hk))); (try (have hx22_0 := hcc22 0 _ rfl)); (try (try simp only [show (k32).sz = 3 from rfl, Nat.mul_one, Nat.add_zero] at hx22_0)); (try (have hf22_0 := hfr22 0)); (try (try simp only [show (k32).sz = 3 from rfl, Nat.mul_one, Nat.add_zero] at hf22_0)); (try (clear hcl22 hcc22 hfr22 hM22)))); refine store_event (t := 9) (p := 35) (v := ?vo_w23) (w1 := (wr.setCell ⟨go20, (x7_2 : Int).toNat * 3, none⟩ (.string (⟨#[]⟩ : ByteArray)))) ?hg ?ho ?hn ?hr ?_; (case ho => rfl); (case hg => rfl); (case hn => rfl); (case hr => first | (go_simp; done) | (go_simp; rfl)); intro w23 hw; have hg : wr.grownBy w23 (some go20) := (by rw [hw]; exact HP22.2); have hp_ : Kd.R k32 32 w23 w.heap.size (fun _ => True) (.slice (some ⟨go20, 0, none⟩) x4_2.length co21) y285 := (by rw [hw, Ny285.out]; exact HP22.1); clear HP22; have n0_ := Aside0.mk (Kd.R_over' (v := (.slice (some ⟨go20, 0, none⟩) x4_2.length co21)) (by (with_reducible repeat (first | apply Kd.R_alloc | apply Kd.R_drewN | apply Kd.R_drew)); exact HO_3.out) (Kd.R_typed HO_4.out) (by decide) hg); have n1_ := Aside0.mk (hp_); have n2_ := Aside0.mk ((by rw [hw]; exact below_set (HB.out) GB20.out : Below w.heap.size w w23)); clear HO_3; clear HO_4; clear HB; have HO_3 := n0_; have HO_4 := n1_; have HB := n2_; clear n0_ n1_ n2_; clear hg hw hp_)); try go_wp2_with (first | ((with_reducible refine gate_store (t := 9) (p := 35) rfl ?_); (try (rw [drewN_self wr]; generalize hq_ : World.drewN wr _ = wr; have n0_ := Aside0.mk (Kd.R_at hq_ HO_3.out); have n1_ := Aside0.mk (Kd.R_at hq_ HO_4.out); have n2_ := Aside0.mk (below_at hq_ HB.out); clear hq_ HO_3 HO_4 HB; have HO_3 := n0_; have HO_4 := n1_; have HB := n2_; clear n0_ n1_ n2_; (try (have HX22 := Aside0.mk (show Kd.R k32 32 wr w.heap.size (fun _ => True) (.slice (some ⟨go20, 0, none⟩) x4_2.length co21) x4_2 from (by (with_reducible repeat (first | apply Kd.R_alloc | apply Kd.R_drewN | apply Kd.R_drew)); exact HO_4.out)))); (try (obtain ⟨ce22, hcl22, hM22, hcc22, hfr22⟩ := Kd.R_elem HX22.out z32 (x7_2 : Int) (of_decide_eq_true (by first | (with_reducible assumption) | assumption)) (by have h_ : (x7_2 : Int) < ((x4_2.length : Int) : Int) := of_decide_eq_true (by first | (with_reducible assumption) | assumption); first | exact h_ | (have e_ := (Kd.R_reads' HO_4.out).1; omega) | simpa using h_))); (try (obtain rfl := k32_openM hM22)); (try (have HP22 := Kd.R_seg HX22.out (x7_2 : Int) (of_decide_eq_true (by first | (with_reducible assumption) | assumption)) (by have h_ : (x7_2 : Int) < ((x4_2.length : Int) : Int) := of_decide_eq_true (by first | (with_reducible assumption) | assumption); first | exact h_ | (have e_ := (Kd.R_reads' HO_4.out).1; omega) | simpa using h_) (seg := [.string (⟨#[]⟩ : ByteArray)]) (j := 0) hcl22 hcc22 (show 1 ≤ 3 from by decide) (x' := (⟨(⟨#[]⟩ : ByteArray), (rd_T32 x4_2 x7_2).f1, (rd_T32 x4_2 x7_2).f2⟩ : S32)) (k32_mkM _ _ _ (⟨(⟨#[]⟩ : ByteArray), (rd_T32 x4_2 x7_2).f1, (rd_T32 x4_2 x7_2).f2⟩ : S32) ) (fun _ hk => hk))); (try (have hx22_0 := hcc22 0 _ rfl)); (try (try simp only [show (k32).sz = 3 from rfl, Nat.mul_one, Nat.add_zero] at hx22_0)); (try (have hf22_0 := hfr22 0)); (try (try simp only [show (k32).sz = 3 from rfl, Nat.mul_one, Nat.add_zero] at hf22_0)); (try (clear hcl22 hcc22 hfr22 hM22)))); refine store_event (t := 9) (p := 35) (v := ?vo_w23) (w1 := (wr.setCell ⟨go20, (x7_2 : Int).toNat * 3, none⟩ (.string (⟨#[]⟩ : ByteArray)))) ?hg ?ho ?hn ?hr ?_; (case ho => rfl); (case hg => rfl); (case hn => rfl); (case hr => first | (go_simp; done) | (go_simp; rfl)); intro w23 hw; have hg : wr.grownBy w23 (some go20) := (by rw [hw]; exact HP22.2); have hp_ : Kd.R k32 32 w23 w.heap.size (fun _ => True) (.slice (some ⟨go20, 0, none⟩) x4_2.length co21) y285 := (by rw [hw, Ny285.out]; exact HP22.1); clear HP22; have n0_ := Aside0.mk (Kd.R_over' (v := (.slice (some ⟨go20, 0, none⟩) x4_2.length co21)) (by (with_reducible repeat (first | apply Kd.R_alloc | apply Kd.R_drewN | apply Kd.R_drew)); exact HO_3.out) (Kd.R_typed HO_4.out) (by decide) hg); have n1_ := Aside0.mk (hp_); have n2_ := Aside0.mk ((by rw [hw]; exact below_set (HB.out) GB20.out : Below w.heap.size w w23)); clear HO_3; clear HO_4; clear HB; have HO_3 := n0_; have HO_4 := n1_; have HB := n2_; clear n0_ n1_ n2_; clear hg hw hp_)))
                  go_roundg k2
                  case measure => have := HJ1.out; have := HK2.out; omega
                  case rel => exact ⟨(y285), (wrap64 (x7_2 + 1)), (by first | rfl | (simp; done) | (simp [*]; done)), H', ⟨by have := HJ1.out; have := HK2.out; omega⟩, ⟨by (with_reducible repeat (first | apply Kd.R_alloc | apply Kd.R_drewN | apply Kd.R_drew)); exact HO_3.out⟩, ⟨by (with_reducible repeat (first | apply Kd.R_alloc | apply Kd.R_drewN | apply Kd.R_drew)); exact HO_4.out⟩, ⟨by repeat (first | (with_reducible first | exact HB.out | apply below_alloc | apply pw_below_drewN | apply below_drew1) | exact HB.out)⟩⟩
                · rw [if_neg c19] at H
                  exact absurd H (by simp)
              · rw [if_neg c18] at H
                have c18b0 : decide (x7_2 < (x4_2.length : Int)) = false := decide_eq_false c18
                clear c18
                have H' := Aside0.mk H
                clear H
                obtain ⟨Ao24, co24, eo24⟩ := Kd.R_slice HO_4.out
                subst eo24
                go_wp2
                repeat (go_quiet (fail); try go_wp2)
                go_loopg [8] k2 (fun kq v8 w' => ∃ (x8_3 : Int), v8 = .int .i64 x8_3 ∧ Aside0 (arlinklaw16_CommonKeeps.l1 kq l0 y277 x8_3 = some r) ∧ Aside0 (kq ≤ k2) ∧ Aside0 (Kd.R k40 40 w' w.heap.size (fun _ => True) (.slice Ao16 y277.length co16) y277) ∧ Aside0 (Below w.heap.size w w'))
                case atStart => exact ⟨(0), (by first | rfl | (simp; done) | (simp [*]; done)), H', ⟨Nat.le_refl _⟩, ⟨by (with_reducible repeat (first | apply Kd.R_alloc | apply Kd.R_drewN | apply Kd.R_drew)); exact HO_3.out⟩, ⟨by repeat (first | (with_reducible first | exact HB.out | apply below_alloc | apply pw_below_drewN | apply below_drew1) | exact HB.out)⟩⟩
                case round =>
                  clear H'
                  try clear c1
                  try clear c2
                  try clear p2
                  try clear q2
                  try clear hx2
                  try clear hf2
                  try clear c4
                  try clear c6
                  try clear p6
                  try clear c8
                  try clear c11
                  try clear c18
                  try clear c18b0
                  try clear c19
                  try clear c19b0
                  try clear c20
                  try clear p20
                  try clear q20
                  try clear hx20
                  try clear hf20
                  try clear c22
                  try clear hx22
                  try clear hf22
                  try clear hx20_0
                  try clear hx20_1
                  try clear hx20_2
                  try clear hx22_0
                  try clear p2
                  try clear p20
                  try clear q20
                  obtain ⟨x8_3, rfl, HA, HK3, HO_3, HB⟩ := hrel
                  cases gk with
                  | zero => exact absurd HA.out (by simp [arlinklaw16_CommonKeeps.l1])
                  | succ k3 =>
                    have H := HA.out
                    clear HA
                    simp only [arlinklaw16_CommonKeeps.l1] at H
                    by_cases c25 : x8_3 < (l0.length : Int)
                    · rw [if_pos c25] at H
                      have c25b0 : decide (x8_3 < (l0.length : Int)) = true := decide_eq_true c25
                      clear c25
                      by_cases c26 : 0 ≤ x8_3
                      · rw [if_pos c26] at H
                        have c26b0 : decide (0 ≤ x8_3) = true := decide_eq_true c26
                        clear c26
                        by_cases c27 : x8_3 < (y277.length : Int)
                        · rw [if_pos c27] at H
                          have c27b0 : decide (x8_3 < (y277.length : Int)) = true := decide_eq_true c27
                          clear c27
                          by_cases c28 : (!((((rd_T40 y277 x8_3).f0).toList) == (((rd_T40 l0 x8_3).f0).toList)) || (!(((rd_T40 y277 x8_3).f1) == ((rd_T40 l0 x8_3).f1)) || (!(((rd_T40 y277 x8_3).f2) == ((rd_T40 l0 x8_3).f2)) || (!(((rd_T40 y277 x8_3).f3) == ((rd_T40 l0 x8_3).f3)) || (!(((rd_T40 y277 x8_3).f4) == ((rd_T40 l0 x8_3).f4))))))) = true
                          · rw [if_pos c28] at H
                            have c28b0 : (!((((rd_T40 y277 x8_3).f0).toList) == (((rd_T40 l0 x8_3).f0).toList)) || (!(((rd_T40 y277 x8_3).f1) == ((rd_T40 l0 x8_3).f1)) || (!(((rd_T40 y277 x8_3).f2) == ((rd_T40 l0 x8_3).f2)) || (!(((rd_T40 y277 x8_3).f3) == ((rd_T40 l0 x8_3).f3)) || (!(((rd_T40 y277 x8_3).f4) == ((rd_T40 l0 x8_3).f4))))))) = true := c28
                            clear c28
                            obtain rfl := Option.some.inj H
                            have p286 : 0 ≤ (x8_3 : Int) := of_decide_eq_true (by first | (with_reducible assumption) | assumption)
                            have q286 : x8_3 < (y277.length : Int) := of_decide_eq_true (by first | (with_reducible assumption) | assumption)
                            obtain ⟨ad286, e286, hx286_0, hx286_1, hx286_2, hx286_3, hx286_4⟩ := at_T40 (Kd.R_reads' HO_3.out).2.2 x8_3 p286 q286
                            cases e286
                            replace p286 := eq_true p286
                            replace q286 := eq_true q286
                            have p287 : 0 ≤ (x8_3 : Int) := of_decide_eq_true (by first | (with_reducible assumption) | assumption)
                            have q287 : x8_3 < (l0.length : Int) := of_decide_eq_true (by first | (with_reducible assumption) | assumption)
                            obtain ⟨ad287, e287, hx287_0, hx287_1, hx287_2, hx287_3, hx287_4⟩ := at_T40 HR0.out x8_3 p287 q287
                            cases e287
                            replace hx287_0 := (HB.out.cell (World.block_lt_of_cell? w _ hx287_0)).trans hx287_0
                            replace hx287_1 := (HB.out.cell (World.block_lt_of_cell? w _ hx287_1)).trans hx287_1
                            replace hx287_2 := (HB.out.cell (World.block_lt_of_cell? w _ hx287_2)).trans hx287_2
                            replace hx287_3 := (HB.out.cell (World.block_lt_of_cell? w _ hx287_3)).trans hx287_3
                            replace hx287_4 := (HB.out.cell (World.block_lt_of_cell? w _ hx287_4)).trans hx287_4
                            replace p287 := eq_true p287
                            replace q287 := eq_true q287
                            go_wp2
                            repeat (go_quiet (fail); try go_wp2)
                            go_ret
                            exact ⟨by first | rfl | (simp [errW_none, errW_some] <;> rfl) | (simp [*, errW_none, errW_some] <;> rfl), by repeat (first | (with_reducible first | exact HB.out | apply below_alloc | apply pw_below_drewN | apply below_drew1) | exact HB.out)⟩
                          · rw [if_neg c28] at H
                            have c28b0 : (!((((rd_T40 y277 x8_3).f0).toList) == (((rd_T40 l0 x8_3).f0).toList)) || (!(((rd_T40 y277 x8_3).f1) == ((rd_T40 l0 x8_3).f1)) || (!(((rd_T40 y277 x8_3).f2) == ((rd_T40 l0 x8_3).f2)) || (!(((rd_T40 y277 x8_3).f3) == ((rd_T40 l0 x8_3).f3)) || (!(((rd_T40 y277 x8_3).f4) == ((rd_T40 l0 x8_3).f4))))))) = false := by simpa using c28
                            clear c28
                            have H' := Aside0.mk H
                            clear H
                            have p286 : 0 ≤ (x8_3 : Int) := of_decide_eq_true (by first | (with_reducible assumption) | assumption)
                            have q286 : x8_3 < (y277.length : Int) := of_decide_eq_true (by first | (with_reducible assumption) | assumption)
                            obtain ⟨ad286, e286, hx286_0, hx286_1, hx286_2, hx286_3, hx286_4⟩ := at_T40 (Kd.R_reads' HO_3.out).2.2 x8_3 p286 q286
                            cases e286
                            replace p286 := eq_true p286
                            replace q286 := eq_true q286
                            have p287 : 0 ≤ (x8_3 : Int) := of_decide_eq_true (by first | (with_reducible assumption) | assumption)
                            have q287 : x8_3 < (l0.length : Int) := of_decide_eq_true (by first | (with_reducible assumption) | assumption)
                            obtain ⟨ad287, e287, hx287_0, hx287_1, hx287_2, hx287_3, hx287_4⟩ := at_T40 HR0.out x8_3 p287 q287
                            cases e287
                            replace hx287_0 := (HB.out.cell (World.block_lt_of_cell? w _ hx287_0)).trans hx287_0
                            replace hx287_1 := (HB.out.cell (World.block_lt_of_cell? w _ hx287_1)).trans hx287_1
                            replace hx287_2 := (HB.out.cell (World.block_lt_of_cell? w _ hx287_2)).trans hx287_2
                            replace hx287_3 := (HB.out.cell (World.block_lt_of_cell? w _ hx287_3)).trans hx287_3
                            replace hx287_4 := (HB.out.cell (World.block_lt_of_cell? w _ hx287_4)).trans hx287_4
                            replace p287 := eq_true p287
                            replace q287 := eq_true q287
                            go_wp2
                            repeat (go_quiet (fail); try go_wp2)
                            go_roundg k3
                            case measure => have := HJ1.out; have := HK2.out; have := HK3.out; omega
                            case rel => exact ⟨(wrap64 (x8_3 + 1)), (by first | rfl | (simp; done) | (simp [*]; done)), H', ⟨by have := HJ1.out; have := HK2.out; have := HK3.out; omega⟩, ⟨by (with_reducible repeat (first | apply Kd.R_alloc | apply Kd.R_drewN | apply Kd.R_drew)); exact HO_3.out⟩, ⟨by repeat (first | (with_reducible first | exact HB.out | apply below_alloc | apply pw_below_drewN | apply below_drew1) | exact HB.out)⟩⟩
                        · rw [if_neg c27] at H
                          exact absurd H (by simp)
                      · rw [if_neg c26] at H
                        exact absurd H (by simp)
                    · rw [if_neg c25] at H
                      have c25b0 : decide (x8_3 < (l0.length : Int)) = false := decide_eq_false c25
                      clear c25
                      obtain rfl := Option.some.inj H
                      go_wp2
                      repeat (go_quiet (fail); try go_wp2)
                      go_ret
                      exact ⟨by first | rfl | (simp [errW_none, errW_some] <;> rfl) | (simp [*, errW_none, errW_some] <;> rfl), by repeat (first | (with_reducible first | exact HB.out | apply below_alloc | apply pw_below_drewN | apply below_drew1) | exact HB.out)⟩
        · rw [if_neg c11] at H
          exact absurd H (by simp)

/-! ### arlinklaw16_CommonTotal: function 7 -/
mutual
def arlinklaw16_CommonTotal.j0 : Nat → List (S40) → Bool → Option (Bool)
  | 0, _, _ => none
  | k + 1, x0, x15 => if x15 = true then ((arlinklaw16_awake.f k).bind fun t290 => (some t290)) else ((common_Layout.f x0).bind fun bt291 => (arlinklaw16_CommonTotal.l0 k x0 bt291.2.1 0 0 0))
def arlinklaw16_CommonTotal.l0 : Nat → List (S40) → Int → Int → Int → Int → Option (Bool)
  | 0, _, _, _, _, _ => none
  | k + 1, x0, x4, x6, x7, x8 => if x8 < (x0.length : Int) then (if 0 ≤ x8 then (if ((rd_T40 x0 x8).f1) = 3 then (arlinklaw16_CommonTotal.l0 k x0 x4 (wrap64 (x6 + ((rd_T40 x0 x8).f2))) (wrap64 ((wrap64 (x7 + ((rd_T40 x0 x8).f2))) + ((rd_T40 x0 x8).f3))) (wrap64 (x8 + 1))) else (arlinklaw16_CommonTotal.l0 k x0 x4 x6 x7 (wrap64 (x8 + 1)))) else (none)) else (if x4 ≥ x6 then (if x4 < x7 then (some true) else (if x7 = 0 then (some (x4 == 0)) else (some false))) else (some false))
end
def arlinklaw16_CommonTotal.f (k : Nat) (l0 : List (S40)) : Option (Bool) := (arlinklaw16_awake.f k).bind fun t288 => (if t288 = true then ((arlinkref16_Right.f k l0).bind fun t289 => (arlinklaw16_CommonTotal.j0 k l0 (!t289))) else (arlinklaw16_CommonTotal.j0 k l0 true))
theorem arlinklaw16_CommonTotal.mono_l : ∀ k, (∀ y0 y1, LeO (arlinklaw16_CommonTotal.j0 k y0 y1) (arlinklaw16_CommonTotal.j0 (k + 1) y0 y1)) ∧ (∀ y0 y1 y2 y3 y4, LeO (arlinklaw16_CommonTotal.l0 k y0 y1 y2 y3 y4) (arlinklaw16_CommonTotal.l0 (k + 1) y0 y1 y2 y3 y4))
  | 0 => ⟨fun _ _ r h => by simp [arlinklaw16_CommonTotal.j0] at h, fun _ _ _ _ _ r h => by simp [arlinklaw16_CommonTotal.l0] at h⟩
  | k + 1 => by
    obtain ⟨ih0, ih1⟩ := arlinklaw16_CommonTotal.mono_l k
    refine ⟨?_, ?_⟩
    · intro y0 y1
      unfold arlinklaw16_CommonTotal.j0
      repeat' first
      | (with_reducible exact ih0 _ _)
      | (with_reducible exact ih1 _ _ _ _ _)
      | (with_reducible exact arlinklaw16_awake.mono _)
      | (with_reducible exact arlinkref16_Right.mono _ _)
      | (with_reducible exact LeO.refl _)
      | (with_reducible exact LeO.none _)
      | (with_reducible refine LeO.ite ?_ ?_)
      | (with_reducible refine LeO.bind ?_ (fun _ => ?_))
      | exact ih0 _ _
      | exact ih1 _ _ _ _ _
      | exact arlinklaw16_awake.mono _
      | exact arlinkref16_Right.mono _ _
      | exact LeO.none _
      | refine LeO.ite ?_ ?_
      | refine LeO.bind ?_ (fun _ => ?_)
    · intro y0 y1 y2 y3 y4
      unfold arlinklaw16_CommonTotal.l0
      repeat' first
      | (with_reducible exact ih0 _ _)
      | (with_reducible exact ih1 _ _ _ _ _)
      | (with_reducible exact arlinklaw16_awake.mono _)
      | (with_reducible exact arlinkref16_Right.mono _ _)
      | (with_reducible exact LeO.refl _)
      | (with_reducible exact LeO.none _)
      | (with_reducible refine LeO.ite ?_ ?_)
      | (with_reducible refine LeO.bind ?_ (fun _ => ?_))
      | exact ih0 _ _
      | exact ih1 _ _ _ _ _
      | exact arlinklaw16_awake.mono _
      | exact arlinkref16_Right.mono _ _
      | exact LeO.none _
      | refine LeO.ite ?_ ?_
      | refine LeO.bind ?_ (fun _ => ?_)
theorem arlinklaw16_CommonTotal.mono : ∀ a0 k, LeO (arlinklaw16_CommonTotal.f k a0) (arlinklaw16_CommonTotal.f (k + 1) a0) := by
  intro a0 k
  obtain ⟨ih0, ih1⟩ := arlinklaw16_CommonTotal.mono_l k
  unfold arlinklaw16_CommonTotal.f
  repeat' first
      | (with_reducible exact ih0 _ _)
      | (with_reducible exact ih1 _ _ _ _ _)
      | (with_reducible exact arlinklaw16_awake.mono _)
      | (with_reducible exact arlinkref16_Right.mono _ _)
      | (with_reducible exact LeO.refl _)
      | (with_reducible exact LeO.none _)
      | (with_reducible refine LeO.ite ?_ ?_)
      | (with_reducible refine LeO.bind ?_ (fun _ => ?_))
      | exact ih0 _ _
      | exact ih1 _ _ _ _ _
      | exact arlinklaw16_awake.mono _
      | exact arlinkref16_Right.mono _ _
      | exact LeO.none _
      | refine LeO.ite ?_ ?_
      | refine LeO.bind ?_ (fun _ => ?_)
set_option maxHeartbeats 8000000 in
set_option maxRecDepth 100000 in
theorem arlinklaw16_CommonTotal.calls (k : Nat) (A0 : Option Addr) (c0 : Nat) (l0 : List (S40)) (r : Bool) (w : World) (hr0 : Kd.C k40 w A0 l0.length l0) (hc0 : l0.length ≤ c0) (h : arlinklaw16_CommonTotal.f k l0 = some r) :
    Calls Try.prog 7 #[.slice A0 l0.length c0] w fun e w' => e = .returned (.bool r) ∧ Below w.heap.size w w' := by
  have HR0 := Aside0.mk hr0
  have HC0 := Aside0.mk hc0
  clear hr0 hc0
  have HB := Aside0.mk (Below.refl w.heap.size w)
  have H : ((arlinklaw16_awake.f k).bind fun t288 => (if t288 = true then ((arlinkref16_Right.f k l0).bind fun t289 => (arlinklaw16_CommonTotal.j0 k l0 (!t289))) else (arlinklaw16_CommonTotal.j0 k l0 true))) = some r := h
  clear h
  have HC2 := Aside0.mk H
  clear H
  go_enter Try.func7, Try.ntmps7
  go_upto_region 1 with (fail)
  repeat (go_quiet (fail); go_upto_region 1 with (fail))
  go_cut [15] (fun v15 wc => ∃ (kq : Nat) (x15_1 : Bool), v15 = .bool x15_1 ∧ Aside0 (arlinklaw16_CommonTotal.j0 kq l0 x15_1 = some r) ∧ Aside0 (kq ≤ k) ∧ Aside0 (Below w.heap.size w wc))
  case first =>
    have H := HC2.out
    clear HC2
    replace H := Option.bind_eq_some_iff.mp H
    obtain ⟨t288, A30, H⟩ := H
    replace H : (if t288 = true then ((arlinkref16_Right.f k l0).bind fun t289 => (arlinklaw16_CommonTotal.j0 k l0 (!t289))) else (arlinklaw16_CommonTotal.j0 k l0 true)) = some r := H
    have A3 := Aside0.mk A30
    clear A30
    by_cases c4 : t288 = true
    · subst c4
      have H1 : ((arlinkref16_Right.f k l0).bind fun t289 => (arlinklaw16_CommonTotal.j0 k l0 (!t289))) = some r := by rw [if_pos rfl] at H; exact H
      clear H
      have H := H1
      clear H1
      replace H := Option.bind_eq_some_iff.mp H
      obtain ⟨t289, A50, H⟩ := H
      replace H : (arlinklaw16_CommonTotal.j0 k l0 (!t289)) = some r := H
      have A5 := Aside0.mk A50
      clear A50
      have H' := Aside0.mk H
      clear H
      go_wp2_with (first | (go_at_call 8; (with_reducible refine (arlinklaw16_awake.calls k  true _ A3.out).mono ?_); rintro e w6 ⟨rfl, hb⟩; have n0_ := Aside0.mk (below_step (by repeat (first | (with_reducible first | exact HB.out | apply below_alloc | apply pw_below_drewN | apply below_drew1) | exact HB.out)) hb); clear HB; have HB := n0_; clear n0_; (try clear hb); (try clear hb2); (try clear hk); (try clear hi)) | (go_at_call 9; (with_reducible refine (arlinkref16_Right.calls k _ _ l0 t289 _ ?side1 ?side2 A5.out).mono ?_); (case side1 => repeat (first | exact (Kd.C_below HR0.out HB.out) | (with_reducible refine Kd.C_alloc ?_ _) | (with_reducible refine Kd.C_drewN ?_ _) | (with_reducible refine Kd.C_drew ?_))); (case side2 => exact HC0.out); rintro e w' ⟨rfl, ⟨nd, rfl⟩⟩; (try first | exact ⟨rfl, _, World.drewN_drewN _ _ _⟩ | exact ⟨rfl, _, Eq.trans (World.drewN_drewN _ _ _) (congrArg (World.drewN _) (Nat.add_assoc _ _ _))⟩)))
      repeat (go_quiet (first | (go_at_call 8; (with_reducible refine (arlinklaw16_awake.calls k  true _ A3.out).mono ?_); rintro e w6 ⟨rfl, hb⟩; have n0_ := Aside0.mk (below_step (by repeat (first | (with_reducible first | exact HB.out | apply below_alloc | apply pw_below_drewN | apply below_drew1) | exact HB.out)) hb); clear HB; have HB := n0_; clear n0_; (try clear hb); (try clear hb2); (try clear hk); (try clear hi)) | (go_at_call 9; (with_reducible refine (arlinkref16_Right.calls k _ _ l0 t289 _ ?side1 ?side2 A5.out).mono ?_); (case side1 => repeat (first | exact (Kd.C_below HR0.out HB.out) | (with_reducible refine Kd.C_alloc ?_ _) | (with_reducible refine Kd.C_drewN ?_ _) | (with_reducible refine Kd.C_drew ?_))); (case side2 => exact HC0.out); rintro e w' ⟨rfl, ⟨nd, rfl⟩⟩; (try first | exact ⟨rfl, _, World.drewN_drewN _ _ _⟩ | exact ⟨rfl, _, Eq.trans (World.drewN_drewN _ _ _) (congrArg (World.drewN _) (Nat.add_assoc _ _ _))⟩))); try go_wp2_with (first | (go_at_call 8; (with_reducible refine (arlinklaw16_awake.calls k  true _ A3.out).mono ?_); rintro e w6 ⟨rfl, hb⟩; have n0_ := Aside0.mk (below_step (by repeat (first | (with_reducible first | exact HB.out | apply below_alloc | apply pw_below_drewN | apply below_drew1) | exact HB.out)) hb); clear HB; have HB := n0_; clear n0_; (try clear hb); (try clear hb2); (try clear hk); (try clear hi)) | (go_at_call 9; (with_reducible refine (arlinkref16_Right.calls k _ _ l0 t289 _ ?side1 ?side2 A5.out).mono ?_); (case side1 => repeat (first | exact (Kd.C_below HR0.out HB.out) | (with_reducible refine Kd.C_alloc ?_ _) | (with_reducible refine Kd.C_drewN ?_ _) | (with_reducible refine Kd.C_drew ?_))); (case side2 => exact HC0.out); rintro e w' ⟨rfl, ⟨nd, rfl⟩⟩; (try first | exact ⟨rfl, _, World.drewN_drewN _ _ _⟩ | exact ⟨rfl, _, Eq.trans (World.drewN_drewN _ _ _) (congrArg (World.drewN _) (Nat.add_assoc _ _ _))⟩))))
      go_meet
      case rel => exact ⟨_, (!t289), (by first | rfl | (simp; done) | (simp [*]; done)), H', ⟨by first | omega | exact Nat.le_refl _⟩, ⟨by repeat (first | (with_reducible first | exact HB.out | apply below_alloc | apply pw_below_drewN | apply below_drew1) | exact HB.out)⟩⟩
    · replace c4 := Bool.eq_false_iff.mpr c4
      subst c4
      have H1 : (arlinklaw16_CommonTotal.j0 k l0 true) = some r := by rw [if_neg (show ¬ (false = true) by decide)] at H; exact H
      clear H
      have H := H1
      clear H1
      have H' := Aside0.mk H
      clear H
      go_wp2_with (first | (go_at_call 8; (with_reducible refine (arlinklaw16_awake.calls k  false _ A3.out).mono ?_); rintro e w7 ⟨rfl, hb⟩; have n0_ := Aside0.mk (below_step (by repeat (first | (with_reducible first | exact HB.out | apply below_alloc | apply pw_below_drewN | apply below_drew1) | exact HB.out)) hb); clear HB; have HB := n0_; clear n0_; (try clear hb); (try clear hb2); (try clear hk); (try clear hi)))
      repeat (go_quiet (first | (go_at_call 8; (with_reducible refine (arlinklaw16_awake.calls k  false _ A3.out).mono ?_); rintro e w7 ⟨rfl, hb⟩; have n0_ := Aside0.mk (below_step (by repeat (first | (with_reducible first | exact HB.out | apply below_alloc | apply pw_below_drewN | apply below_drew1) | exact HB.out)) hb); clear HB; have HB := n0_; clear n0_; (try clear hb); (try clear hb2); (try clear hk); (try clear hi))); try go_wp2_with (first | (go_at_call 8; (with_reducible refine (arlinklaw16_awake.calls k  false _ A3.out).mono ?_); rintro e w7 ⟨rfl, hb⟩; have n0_ := Aside0.mk (below_step (by repeat (first | (with_reducible first | exact HB.out | apply below_alloc | apply pw_below_drewN | apply below_drew1) | exact HB.out)) hb); clear HB; have HB := n0_; clear n0_; (try clear hb); (try clear hb2); (try clear hk); (try clear hi))))
      go_meet
      case rel => exact ⟨_, (true), (by first | rfl | (simp; done) | (simp [*]; done)), H', ⟨by first | omega | exact Nat.le_refl _⟩, ⟨by repeat (first | (with_reducible first | exact HB.out | apply below_alloc | apply pw_below_drewN | apply below_drew1) | exact HB.out)⟩⟩
  case rest =>
    clear HC2
    try clear p2
    try clear c4
    try clear c7
    obtain ⟨kq, x15_1, rfl, HA, HJ1, HB⟩ := hcut
    cases kq with
    | zero => exact absurd HA.out (by simp [arlinklaw16_CommonTotal.j0])
    | succ kj1 =>
      have H := HA.out
      clear HA
      simp only [arlinklaw16_CommonTotal.j0] at H
      by_cases c8 : x15_1 = true
      · subst c8
        have H1 : ((arlinklaw16_awake.f kj1).bind fun t290 => (some t290)) = some r := by rw [if_pos rfl] at H; exact H
        clear H
        have H := H1
        clear H1
        replace H := Option.bind_eq_some_iff.mp H
        obtain ⟨t290, A90, H⟩ := H
        replace H : (some t290) = some r := H
        have A9 := Aside0.mk A90
        clear A90
        obtain rfl := Option.some.inj H
        go_wp2_with (first | (go_at_call 8; (with_reducible refine (arlinklaw16_awake.calls kj1  t290 _ A9.out).mono ?_); rintro e w10 ⟨rfl, hb⟩; have n0_ := Aside0.mk (below_step (by repeat (first | (with_reducible first | exact HB.out | apply below_alloc | apply pw_below_drewN | apply below_drew1) | exact HB.out)) hb); clear HB; have HB := n0_; clear n0_; (try clear hb); (try clear hb2); (try clear hk); (try clear hi)))
        repeat (go_quiet (first | (go_at_call 8; (with_reducible refine (arlinklaw16_awake.calls kj1  t290 _ A9.out).mono ?_); rintro e w10 ⟨rfl, hb⟩; have n0_ := Aside0.mk (below_step (by repeat (first | (with_reducible first | exact HB.out | apply below_alloc | apply pw_below_drewN | apply below_drew1) | exact HB.out)) hb); clear HB; have HB := n0_; clear n0_; (try clear hb); (try clear hb2); (try clear hk); (try clear hi))); try go_wp2_with (first | (go_at_call 8; (with_reducible refine (arlinklaw16_awake.calls kj1  t290 _ A9.out).mono ?_); rintro e w10 ⟨rfl, hb⟩; have n0_ := Aside0.mk (below_step (by repeat (first | (with_reducible first | exact HB.out | apply below_alloc | apply pw_below_drewN | apply below_drew1) | exact HB.out)) hb); clear HB; have HB := n0_; clear n0_; (try clear hb); (try clear hb2); (try clear hk); (try clear hi))))
        go_ret
        exact ⟨by first | rfl | (simp [errW_none, errW_some] <;> rfl) | (simp [*, errW_none, errW_some] <;> rfl), by repeat (first | (with_reducible first | exact HB.out | apply below_alloc | apply pw_below_drewN | apply below_drew1) | exact HB.out)⟩
      · replace c8 := Bool.eq_false_iff.mpr c8
        subst c8
        have H1 : ((common_Layout.f l0).bind fun bt291 => (arlinklaw16_CommonTotal.l0 kj1 l0 bt291.2.1 0 0 0)) = some r := by rw [if_neg (show ¬ (false = true) by decide)] at H; exact H
        clear H
        have H := H1
        clear H1
        replace H := Option.bind_eq_some_iff.mp H
        obtain ⟨⟨t291, t292, t293⟩, A110, H⟩ := H
        replace H : (arlinklaw16_CommonTotal.l0 kj1 l0 t292 0 0 0) = some r := H
        have A11 := Aside0.mk A110
        clear A110
        have H' := Aside0.mk H
        clear H
        go_wp2_with (first | (go_at_call 10; (with_reducible refine (common_Layout.calls _ _ l0 t291 t292 t293 _ ?side1 ?side2 A11.out).mono ?_); (case side1 => repeat (first | exact (Kd.C_below HR0.out HB.out) | (with_reducible refine Kd.C_alloc ?_ _) | (with_reducible refine Kd.C_drewN ?_ _) | (with_reducible refine Kd.C_drew ?_))); (case side2 => exact HC0.out); rintro e w12 ⟨v294, rfl, ho0, hb⟩; have n0_ := Aside0.mk (Kd.R_lower ho0 (below_size (by repeat (first | (with_reducible first | exact HB.out | apply below_alloc | apply pw_below_drewN | apply below_drew1) | exact HB.out)))); have n1_ := Aside0.mk (below_step (by repeat (first | (with_reducible first | exact HB.out | apply below_alloc | apply pw_below_drewN | apply below_drew1) | exact HB.out)) hb); clear HB; have HO295 := n0_; have HB := n1_; clear n0_ n1_; (try clear hb); (try clear hb2); (try clear hk); (try clear hi); (try clear ho0)))
        repeat (go_quiet (first | (go_at_call 10; (with_reducible refine (common_Layout.calls _ _ l0 t291 t292 t293 _ ?side1 ?side2 A11.out).mono ?_); (case side1 => repeat (first | exact (Kd.C_below HR0.out HB.out) | (with_reducible refine Kd.C_alloc ?_ _) | (with_reducible refine Kd.C_drewN ?_ _) | (with_reducible refine Kd.C_drew ?_))); (case side2 => exact HC0.out); rintro e w12 ⟨v294, rfl, ho0, hb⟩; have n0_ := Aside0.mk (Kd.R_lower ho0 (below_size (by repeat (first | (with_reducible first | exact HB.out | apply below_alloc | apply pw_below_drewN | apply below_drew1) | exact HB.out)))); have n1_ := Aside0.mk (below_step (by repeat (first | (with_reducible first | exact HB.out | apply below_alloc | apply pw_below_drewN | apply below_drew1) | exact HB.out)) hb); clear HB; have HO295 := n0_; have HB := n1_; clear n0_ n1_; (try clear hb); (try clear hb2); (try clear hk); (try clear hi); (try clear ho0))); try go_wp2_with (first | (go_at_call 10; (with_reducible refine (common_Layout.calls _ _ l0 t291 t292 t293 _ ?side1 ?side2 A11.out).mono ?_); (case side1 => repeat (first | exact (Kd.C_below HR0.out HB.out) | (with_reducible refine Kd.C_alloc ?_ _) | (with_reducible refine Kd.C_drewN ?_ _) | (with_reducible refine Kd.C_drew ?_))); (case side2 => exact HC0.out); rintro e w12 ⟨v294, rfl, ho0, hb⟩; have n0_ := Aside0.mk (Kd.R_lower ho0 (below_size (by repeat (first | (with_reducible first | exact HB.out | apply below_alloc | apply pw_below_drewN | apply below_drew1) | exact HB.out)))); have n1_ := Aside0.mk (below_step (by repeat (first | (with_reducible first | exact HB.out | apply below_alloc | apply pw_below_drewN | apply below_drew1) | exact HB.out)) hb); clear HB; have HO295 := n0_; have HB := n1_; clear n0_ n1_; (try clear hb); (try clear hb2); (try clear hk); (try clear hi); (try clear ho0))))
        go_loopg [6, 7, 8] kj1 (fun kq v6 v7 v8 w' => ∃ (x6_2 : Int) (x7_2 : Int) (x8_2 : Int), v6 = .int .i64 x6_2 ∧ v7 = .int .i64 x7_2 ∧ v8 = .int .i64 x8_2 ∧ Aside0 (arlinklaw16_CommonTotal.l0 kq l0 t292 x6_2 x7_2 x8_2 = some r) ∧ Aside0 (kq ≤ kj1) ∧ Aside0 (Below w.heap.size w w'))
        case atStart => exact ⟨(0), (0), (0), (by first | rfl | (simp; done) | (simp [*]; done)), (by first | rfl | (simp; done) | (simp [*]; done)), (by first | rfl | (simp; done) | (simp [*]; done)), H', ⟨Nat.le_refl _⟩, ⟨by repeat (first | (with_reducible first | exact HB.out | apply below_alloc | apply pw_below_drewN | apply below_drew1) | exact HB.out)⟩⟩
        case round =>
          clear H'
          try clear p2
          try clear c4
          try clear c7
          try clear c8
          try clear p2
          obtain ⟨x6_2, x7_2, x8_2, rfl, rfl, rfl, HA, HK2, HB⟩ := hrel
          cases gk with
          | zero => exact absurd HA.out (by simp [arlinklaw16_CommonTotal.l0])
          | succ k2 =>
            have H := HA.out
            clear HA
            simp only [arlinklaw16_CommonTotal.l0] at H
            by_cases c13 : x8_2 < (l0.length : Int)
            · rw [if_pos c13] at H
              have c13b0 : decide (x8_2 < (l0.length : Int)) = true := decide_eq_true c13
              clear c13
              by_cases c14 : 0 ≤ x8_2
              · rw [if_pos c14] at H
                have c14b0 : decide (0 ≤ x8_2) = true := decide_eq_true c14
                clear c14
                by_cases c15 : ((rd_T40 l0 x8_2).f1) = 3
                · rw [if_pos c15] at H
                  have c15b0 : (((rd_T40 l0 x8_2).f1) == 3) = true := beq_iff_eq.mpr c15
                  have c15b1 : (((rd_T40 l0 x8_2).f1) != 3) = false := bne_eq_false_iff_eq.mpr c15
                  clear c15
                  have H' := Aside0.mk H
                  clear H
                  have p296 : 0 ≤ (x8_2 : Int) := of_decide_eq_true (by first | (with_reducible assumption) | assumption)
                  have q296 : x8_2 < (l0.length : Int) := of_decide_eq_true (by first | (with_reducible assumption) | assumption)
                  obtain ⟨ad296, e296, hx296_0, hx296_1, hx296_2, hx296_3, hx296_4⟩ := at_T40 HR0.out x8_2 p296 q296
                  cases e296
                  replace hx296_0 := (HB.out.cell (World.block_lt_of_cell? w _ hx296_0)).trans hx296_0
                  replace hx296_1 := (HB.out.cell (World.block_lt_of_cell? w _ hx296_1)).trans hx296_1
                  replace hx296_2 := (HB.out.cell (World.block_lt_of_cell? w _ hx296_2)).trans hx296_2
                  replace hx296_3 := (HB.out.cell (World.block_lt_of_cell? w _ hx296_3)).trans hx296_3
                  replace hx296_4 := (HB.out.cell (World.block_lt_of_cell? w _ hx296_4)).trans hx296_4
                  replace p296 := eq_true p296
                  replace q296 := eq_true q296
                  have p297 : 0 ≤ (x8_2 : Int) := of_decide_eq_true (by first | (with_reducible assumption) | assumption)
                  have q297 : x8_2 < (l0.length : Int) := of_decide_eq_true (by first | (with_reducible assumption) | assumption)
                  obtain ⟨ad297, e297, hx297_0, hx297_1, hx297_2, hx297_3, hx297_4⟩ := at_T40 HR0.out x8_2 p297 q297
                  obtain rfl : ad296 = ad297 := (by injection e297)
                  replace hx297_0 := (HB.out.cell (World.block_lt_of_cell? w _ hx297_0)).trans hx297_0
                  replace hx297_1 := (HB.out.cell (World.block_lt_of_cell? w _ hx297_1)).trans hx297_1
                  replace hx297_2 := (HB.out.cell (World.block_lt_of_cell? w _ hx297_2)).trans hx297_2
                  replace hx297_3 := (HB.out.cell (World.block_lt_of_cell? w _ hx297_3)).trans hx297_3
                  replace hx297_4 := (HB.out.cell (World.block_lt_of_cell? w _ hx297_4)).trans hx297_4
                  replace p297 := eq_true p297
                  replace q297 := eq_true q297
                  have p298 : 0 ≤ (x8_2 : Int) := of_decide_eq_true (by first | (with_reducible assumption) | assumption)
                  have q298 : x8_2 < (l0.length : Int) := of_decide_eq_true (by first | (with_reducible assumption) | assumption)
                  obtain ⟨ad298, e298, hx298_0, hx298_1, hx298_2, hx298_3, hx298_4⟩ := at_T40 HR0.out x8_2 p298 q298
                  obtain rfl : ad296 = ad298 := (by injection e298)
                  replace hx298_0 := (HB.out.cell (World.block_lt_of_cell? w _ hx298_0)).trans hx298_0
                  replace hx298_1 := (HB.out.cell (World.block_lt_of_cell? w _ hx298_1)).trans hx298_1
                  replace hx298_2 := (HB.out.cell (World.block_lt_of_cell? w _ hx298_2)).trans hx298_2
                  replace hx298_3 := (HB.out.cell (World.block_lt_of_cell? w _ hx298_3)).trans hx298_3
                  replace hx298_4 := (HB.out.cell (World.block_lt_of_cell? w _ hx298_4)).trans hx298_4
                  replace p298 := eq_true p298
                  replace q298 := eq_true q298
                  have p299 : 0 ≤ (x8_2 : Int) := of_decide_eq_true (by first | (with_reducible assumption) | assumption)
                  have q299 : x8_2 < (l0.length : Int) := of_decide_eq_true (by first | (with_reducible assumption) | assumption)
                  obtain ⟨ad299, e299, hx299_0, hx299_1, hx299_2, hx299_3, hx299_4⟩ := at_T40 HR0.out x8_2 p299 q299
                  obtain rfl : ad296 = ad299 := (by injection e299)
                  replace hx299_0 := (HB.out.cell (World.block_lt_of_cell? w _ hx299_0)).trans hx299_0
                  replace hx299_1 := (HB.out.cell (World.block_lt_of_cell? w _ hx299_1)).trans hx299_1
                  replace hx299_2 := (HB.out.cell (World.block_lt_of_cell? w _ hx299_2)).trans hx299_2
                  replace hx299_3 := (HB.out.cell (World.block_lt_of_cell? w _ hx299_3)).trans hx299_3
                  replace hx299_4 := (HB.out.cell (World.block_lt_of_cell? w _ hx299_4)).trans hx299_4
                  replace p299 := eq_true p299
                  replace q299 := eq_true q299
                  go_wp2
                  repeat (go_quiet (fail); try go_wp2)
                  go_roundg k2
                  case measure => have := HJ1.out; have := HK2.out; omega
                  case rel => exact ⟨(wrap64 (x6_2 + ((rd_T40 l0 x8_2).f2))), (wrap64 ((wrap64 (x7_2 + ((rd_T40 l0 x8_2).f2))) + ((rd_T40 l0 x8_2).f3))), (wrap64 (x8_2 + 1)), (by first | rfl | (simp; done) | (simp [*]; done)), (by first | rfl | (simp; done) | (simp [*]; done)), (by first | rfl | (simp; done) | (simp [*]; done)), H', ⟨by have := HJ1.out; have := HK2.out; omega⟩, ⟨by repeat (first | (with_reducible first | exact HB.out | apply below_alloc | apply pw_below_drewN | apply below_drew1) | exact HB.out)⟩⟩
                · rw [if_neg c15] at H
                  have c15b0 : (((rd_T40 l0 x8_2).f1) == 3) = false := beq_eq_false_iff_ne.mpr c15
                  have c15b1 : (((rd_T40 l0 x8_2).f1) != 3) = true := bne_iff_ne.mpr c15
                  have H' := Aside0.mk H
                  clear H
                  have p296 : 0 ≤ (x8_2 : Int) := of_decide_eq_true (by first | (with_reducible assumption) | assumption)
                  have q296 : x8_2 < (l0.length : Int) := of_decide_eq_true (by first | (with_reducible assumption) | assumption)
                  obtain ⟨ad296, e296, hx296_0, hx296_1, hx296_2, hx296_3, hx296_4⟩ := at_T40 HR0.out x8_2 p296 q296
                  cases e296
                  replace hx296_0 := (HB.out.cell (World.block_lt_of_cell? w _ hx296_0)).trans hx296_0
                  replace hx296_1 := (HB.out.cell (World.block_lt_of_cell? w _ hx296_1)).trans hx296_1
                  replace hx296_2 := (HB.out.cell (World.block_lt_of_cell? w _ hx296_2)).trans hx296_2
                  replace hx296_3 := (HB.out.cell (World.block_lt_of_cell? w _ hx296_3)).trans hx296_3
                  replace hx296_4 := (HB.out.cell (World.block_lt_of_cell? w _ hx296_4)).trans hx296_4
                  replace p296 := eq_true p296
                  replace q296 := eq_true q296
                  go_wp2
                  repeat (go_quiet (fail); try go_wp2)
                  go_roundg k2
                  case measure => have := HJ1.out; have := HK2.out; omega
                  case rel => exact ⟨(x6_2), (x7_2), (wrap64 (x8_2 + 1)), (by first | rfl | (simp; done) | (simp [*]; done)), (by first | rfl | (simp; done) | (simp [*]; done)), (by first | rfl | (simp; done) | (simp [*]; done)), H', ⟨by have := HJ1.out; have := HK2.out; omega⟩, ⟨by repeat (first | (with_reducible first | exact HB.out | apply below_alloc | apply pw_below_drewN | apply below_drew1) | exact HB.out)⟩⟩
              · rw [if_neg c14] at H
                exact absurd H (by simp)
            · rw [if_neg c13] at H
              have c13b0 : decide (x8_2 < (l0.length : Int)) = false := decide_eq_false c13
              clear c13
              by_cases c16 : t292 ≥ x6_2
              · rw [if_pos c16] at H
                have c16b0 : decide (x6_2 ≤ t292) = true := decide_eq_true c16
                clear c16
                by_cases c17 : t292 < x7_2
                · rw [if_pos c17] at H
                  have c17b0 : decide (t292 < x7_2) = true := decide_eq_true c17
                  clear c17
                  obtain rfl := Option.some.inj H
                  go_wp2
                  repeat (go_quiet (fail); try go_wp2)
                  go_ret
                  exact ⟨by first | rfl | (simp [errW_none, errW_some] <;> rfl) | (simp [*, errW_none, errW_some] <;> rfl), by repeat (first | (with_reducible first | exact HB.out | apply below_alloc | apply pw_below_drewN | apply below_drew1) | exact HB.out)⟩
                · rw [if_neg c17] at H
                  have c17b0 : decide (t292 < x7_2) = false := decide_eq_false c17
                  clear c17
                  by_cases c18 : x7_2 = 0
                  · rw [if_pos c18] at H
                    have c18b0 : (x7_2 == 0) = true := beq_iff_eq.mpr c18
                    have c18b1 : (x7_2 != 0) = false := bne_eq_false_iff_eq.mpr c18
                    clear c18
                    obtain rfl := Option.some.inj H
                    go_wp2
                    repeat (go_quiet (fail); try go_wp2)
                    go_ret
                    exact ⟨by first | rfl | (simp [errW_none, errW_some] <;> rfl) | (simp [*, errW_none, errW_some] <;> rfl), by repeat (first | (with_reducible first | exact HB.out | apply below_alloc | apply pw_below_drewN | apply below_drew1) | exact HB.out)⟩
                  · rw [if_neg c18] at H
                    have c18b0 : (x7_2 == 0) = false := beq_eq_false_iff_ne.mpr c18
                    have c18b1 : (x7_2 != 0) = true := bne_iff_ne.mpr c18
                    obtain rfl := Option.some.inj H
                    go_wp2
                    repeat (go_quiet (fail); try go_wp2)
                    go_ret
                    exact ⟨by first | rfl | (simp [errW_none, errW_some] <;> rfl) | (simp [*, errW_none, errW_some] <;> rfl), by repeat (first | (with_reducible first | exact HB.out | apply below_alloc | apply pw_below_drewN | apply below_drew1) | exact HB.out)⟩
              · rw [if_neg c16] at H
                have c16b0 : decide (x6_2 ≤ t292) = false := decide_eq_false c16
                clear c16
                obtain rfl := Option.some.inj H
                go_wp2
                repeat (go_quiet (fail); try go_wp2)
                go_ret
                exact ⟨by first | rfl | (simp [errW_none, errW_some] <;> rfl) | (simp [*, errW_none, errW_some] <;> rfl), by repeat (first | (with_reducible first | exact HB.out | apply below_alloc | apply pw_below_drewN | apply below_drew1) | exact HB.out)⟩

end Go.Proofs.Ytmiahabiabcohaa.PAll
