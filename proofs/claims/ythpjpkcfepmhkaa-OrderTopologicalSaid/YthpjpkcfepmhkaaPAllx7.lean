/- Written by a program of this session (wip/xprint.py) over the kit's print: contracts of the program's functions. -/
import Derived.Test.YthpjpkcfepmhkaaHCycle
import Derived.Test.YthpjpkcfepmhkaaHSort
import Derived.Test.YthpjpkcfepmhkaaPAllx0
import Derived.Test.YthpjpkcfepmhkaaPAllx3
import Derived.Test.YthpjpkcfepmhkaaPAllx4
import Derived.Test.YthpjpkcfepmhkaaPAllx5
namespace Go.Proofs.Ythpjpkcfepmhkaa.PAll
open Go.RowKit Go.Proofs.YthpjpkcfepmhkaaW.PrintWords Go.Proofs.YthpjpkcfepmhkaaW.PrintLast Go.Proofs.YthpjpkcfepmhkaaW.PrintMore
attribute [local go_sem] max2_int min2_int max_two min_two max_three min_three max_four min_four   -- for this text's walks alone
set_option linter.unusedVariables false
set_option linter.unusedSimpArgs false

/-! ### arlinklaw23_OrderTopological: function 4 -/
mutual
def arlinklaw23_OrderTopological.j0 : Nat → List (S39) → Int → Bool → Option (Bool)
  | 0, _, _, _ => none
  | k + 1, x1, x5, x30 => if x30 = true then ((arlinklaw23_awake.f k).bind fun t209 => (some t209)) else ((arlinklaw23_forward.f k x1).bind fun t210 => ((order_Sort.f x5 t210).bind fun bt213 => ((arlinkref23_Reaches.f k x5 x1).bind fun t217 => (arlinklaw23_OrderTopological.l0 k x1 x5 bt213.1 bt213.2 t217 false 0))))
def arlinklaw23_OrderTopological.l0 : Nat → List (S39) → Int → List Int → Int → List Bool → Bool → Int → Option (Bool)
  | 0, _, _, _, _, _, _, _ => none
  | k + 1, x1, x5, x6, x7, x8, x9, x10 => if x10 < x5 then (if x9 = true then (arlinklaw23_OrderTopological.l0 k x1 x5 x6 x7 x8 true (wrap64 (x10 + 1))) else (if 0 ≤ (wrap64 ((wrap64 (x10 * x5)) + x10)) then (if (wrap64 ((wrap64 (x10 * x5)) + x10)) < (x8.length : Int) then (arlinklaw23_OrderTopological.l0 k x1 x5 x6 x7 x8 (rdOf false x8 (wrap64 ((wrap64 (x10 * x5)) + x10))) (wrap64 (x10 + 1))) else (none)) else (none))) else (if x9 = true then (if x7 = 18 then (if (x6.length : Int) = 0 then ((arlinklaw23_forward.f k x1).bind fun t221 => ((order_Cycle.f x5 t221).bind fun t224 => (some (decide ((t224.length : Int) > 0))))) else (some false)) else (some false)) else (if x7 = 0 then (if (x6.length : Int) = x5 then ((arlinklaw23_forward.f k x1).bind fun t227 => ((order_Cycle.f x5 t227).bind fun t230 => (arlinklaw23_OrderTopological.j2 k x1 x5 x6 ((t230.length : Int) != 0)))) else (arlinklaw23_OrderTopological.j2 k x1 x5 x6 true)) else (arlinklaw23_OrderTopological.j2 k x1 x5 x6 true)))
def arlinklaw23_OrderTopological.j2 : Nat → List (S39) → Int → List Int → Bool → Option (Bool)
  | 0, _, _, _, _ => none
  | k + 1, x1, x5, x6, x89 => if x89 = true then (some false) else (if 0 ≤ x5 then (if (x5 : Int).toNat ≤ 35184372088832 then (arlinklaw23_OrderTopological.l1 k x1 x5 x6 (List.replicate (x5 : Int).toNat 0) 0) else (none)) else (none))
def arlinklaw23_OrderTopological.l1 : Nat → List (S39) → Int → List Int → List Int → Int → Option (Bool)
  | 0, _, _, _, _, _ => none
  | k + 1, x1, x5, x6, x11, x12 => if x12 < x5 then (if 0 ≤ x12 then (if x12 < (x11.length : Int) then (arlinklaw23_OrderTopological.l1 k x1 x5 x6 (x11.set (x12 : Int).toNat (-1)) (wrap64 (x12 + 1))) else (none)) else (none)) else (arlinklaw23_OrderTopological.l2 k x1 x5 x6 x11 0)
def arlinklaw23_OrderTopological.l2 : Nat → List (S39) → Int → List Int → List Int → Int → Option (Bool)
  | 0, _, _, _, _, _ => none
  | k + 1, x1, x5, x6, x11, x13 => if x13 < x5 then (if 0 ≤ x13 then (if x13 < (x6.length : Int) then (if (rd x6 x13) < 0 then (some false) else (if (rd x6 x13) ≥ x5 then (some false) else (if 0 ≤ (rd x6 x13) then (if (rd x6 x13) < (x11.length : Int) then (if (rd x11 (rd x6 x13)) ≥ 0 then (some false) else (arlinklaw23_OrderTopological.l2 k x1 x5 x6 (x11.set ((rd x6 x13) : Int).toNat x13) (wrap64 (x13 + 1)))) else (none)) else (none)))) else (none)) else (none)) else (arlinklaw23_OrderTopological.l3 k x1 x11 0)
def arlinklaw23_OrderTopological.l3 : Nat → List (S39) → List Int → Int → Option (Bool)
  | 0, _, _, _ => none
  | k + 1, x1, x11, x14 => if x14 < (x1.length : Int) then (if 0 ≤ x14 then (if 0 ≤ ((rd_T39 x1 x14).f0) then (if ((rd_T39 x1 x14).f0) < (x11.length : Int) then (if 0 ≤ ((rd_T39 x1 x14).f1) then (if ((rd_T39 x1 x14).f1) < (x11.length : Int) then (if (rd x11 ((rd_T39 x1 x14).f0)) ≥ (rd x11 ((rd_T39 x1 x14).f1)) then (some false) else (arlinklaw23_OrderTopological.l3 k x1 x11 (wrap64 (x14 + 1)))) else (none)) else (none)) else (none)) else (none)) else (none)) else (some true)
end
def arlinklaw23_OrderTopological.f (k : Nat) (a0 : Int) (l1 : List (S39)) : Option (Bool) := (arlinklaw23_awake.f k).bind fun t207 => (if t207 = true then (if (l1.length : Int) > 100 then (arlinklaw23_OrderTopological.j0 k l1 (Int.tmod (wrap64 (a0)) 20) true) else ((arlinkref23_Valid.f k (Int.tmod (wrap64 (a0)) 20) l1).bind fun t208 => (arlinklaw23_OrderTopological.j0 k l1 (Int.tmod (wrap64 (a0)) 20) (!t208)))) else (arlinklaw23_OrderTopological.j0 k l1 (Int.tmod (wrap64 (a0)) 20) true))
theorem arlinklaw23_OrderTopological.mono_l : ∀ k, (∀ y0 y1 y2, LeO (arlinklaw23_OrderTopological.j0 k y0 y1 y2) (arlinklaw23_OrderTopological.j0 (k + 1) y0 y1 y2)) ∧ (∀ y0 y1 y2 y3 y4 y5 y6, LeO (arlinklaw23_OrderTopological.l0 k y0 y1 y2 y3 y4 y5 y6) (arlinklaw23_OrderTopological.l0 (k + 1) y0 y1 y2 y3 y4 y5 y6)) ∧ (∀ y0 y1 y2 y3, LeO (arlinklaw23_OrderTopological.j2 k y0 y1 y2 y3) (arlinklaw23_OrderTopological.j2 (k + 1) y0 y1 y2 y3)) ∧ (∀ y0 y1 y2 y3 y4, LeO (arlinklaw23_OrderTopological.l1 k y0 y1 y2 y3 y4) (arlinklaw23_OrderTopological.l1 (k + 1) y0 y1 y2 y3 y4)) ∧ (∀ y0 y1 y2 y3 y4, LeO (arlinklaw23_OrderTopological.l2 k y0 y1 y2 y3 y4) (arlinklaw23_OrderTopological.l2 (k + 1) y0 y1 y2 y3 y4)) ∧ (∀ y0 y1 y2, LeO (arlinklaw23_OrderTopological.l3 k y0 y1 y2) (arlinklaw23_OrderTopological.l3 (k + 1) y0 y1 y2))
  | 0 => ⟨fun _ _ _ r h => by simp [arlinklaw23_OrderTopological.j0] at h, fun _ _ _ _ _ _ _ r h => by simp [arlinklaw23_OrderTopological.l0] at h, fun _ _ _ _ r h => by simp [arlinklaw23_OrderTopological.j2] at h, fun _ _ _ _ _ r h => by simp [arlinklaw23_OrderTopological.l1] at h, fun _ _ _ _ _ r h => by simp [arlinklaw23_OrderTopological.l2] at h, fun _ _ _ r h => by simp [arlinklaw23_OrderTopological.l3] at h⟩
  | k + 1 => by
    obtain ⟨ih0, ih1, ih2, ih3, ih4, ih5⟩ := arlinklaw23_OrderTopological.mono_l k
    refine ⟨?_, ?_, ?_, ?_, ?_, ?_⟩
    · intro y0 y1 y2
      unfold arlinklaw23_OrderTopological.j0
      repeat' first
      | (with_reducible exact ih0 _ _ _)
      | (with_reducible exact ih1 _ _ _ _ _ _ _)
      | (with_reducible exact ih2 _ _ _ _)
      | (with_reducible exact ih3 _ _ _ _ _)
      | (with_reducible exact ih4 _ _ _ _ _)
      | (with_reducible exact ih5 _ _ _)
      | (with_reducible exact arlinklaw23_awake.mono _)
      | (with_reducible exact arlinklaw23_forward.mono _ _)
      | (with_reducible exact arlinkref23_Reaches.mono _ _ _)
      | (with_reducible exact arlinkref23_Valid.mono _ _ _)
      | (with_reducible exact LeO.refl _)
      | (with_reducible exact LeO.none _)
      | (with_reducible refine LeO.ite ?_ ?_)
      | (with_reducible refine LeO.bind ?_ (fun _ => ?_))
      | exact ih0 _ _ _
      | exact ih1 _ _ _ _ _ _ _
      | exact ih2 _ _ _ _
      | exact ih3 _ _ _ _ _
      | exact ih4 _ _ _ _ _
      | exact ih5 _ _ _
      | exact arlinklaw23_awake.mono _
      | exact arlinklaw23_forward.mono _ _
      | exact arlinkref23_Reaches.mono _ _ _
      | exact arlinkref23_Valid.mono _ _ _
      | exact LeO.none _
      | refine LeO.ite ?_ ?_
      | refine LeO.bind ?_ (fun _ => ?_)
    · intro y0 y1 y2 y3 y4 y5 y6
      unfold arlinklaw23_OrderTopological.l0
      repeat' first
      | (with_reducible exact ih0 _ _ _)
      | (with_reducible exact ih1 _ _ _ _ _ _ _)
      | (with_reducible exact ih2 _ _ _ _)
      | (with_reducible exact ih3 _ _ _ _ _)
      | (with_reducible exact ih4 _ _ _ _ _)
      | (with_reducible exact ih5 _ _ _)
      | (with_reducible exact arlinklaw23_awake.mono _)
      | (with_reducible exact arlinklaw23_forward.mono _ _)
      | (with_reducible exact arlinkref23_Reaches.mono _ _ _)
      | (with_reducible exact arlinkref23_Valid.mono _ _ _)
      | (with_reducible exact LeO.refl _)
      | (with_reducible exact LeO.none _)
      | (with_reducible refine LeO.ite ?_ ?_)
      | (with_reducible refine LeO.bind ?_ (fun _ => ?_))
      | exact ih0 _ _ _
      | exact ih1 _ _ _ _ _ _ _
      | exact ih2 _ _ _ _
      | exact ih3 _ _ _ _ _
      | exact ih4 _ _ _ _ _
      | exact ih5 _ _ _
      | exact arlinklaw23_awake.mono _
      | exact arlinklaw23_forward.mono _ _
      | exact arlinkref23_Reaches.mono _ _ _
      | exact arlinkref23_Valid.mono _ _ _
      | exact LeO.none _
      | refine LeO.ite ?_ ?_
      | refine LeO.bind ?_ (fun _ => ?_)
    · intro y0 y1 y2 y3
      unfold arlinklaw23_OrderTopological.j2
      repeat' first
      | (with_reducible exact ih0 _ _ _)
      | (with_reducible exact ih1 _ _ _ _ _ _ _)
      | (with_reducible exact ih2 _ _ _ _)
      | (with_reducible exact ih3 _ _ _ _ _)
      | (with_reducible exact ih4 _ _ _ _ _)
      | (with_reducible exact ih5 _ _ _)
      | (with_reducible exact arlinklaw23_awake.mono _)
      | (with_reducible exact arlinklaw23_forward.mono _ _)
      | (with_reducible exact arlinkref23_Reaches.mono _ _ _)
      | (with_reducible exact arlinkref23_Valid.mono _ _ _)
      | (with_reducible exact LeO.refl _)
      | (with_reducible exact LeO.none _)
      | (with_reducible refine LeO.ite ?_ ?_)
      | (with_reducible refine LeO.bind ?_ (fun _ => ?_))
      | exact ih0 _ _ _
      | exact ih1 _ _ _ _ _ _ _
      | exact ih2 _ _ _ _
      | exact ih3 _ _ _ _ _
      | exact ih4 _ _ _ _ _
      | exact ih5 _ _ _
      | exact arlinklaw23_awake.mono _
      | exact arlinklaw23_forward.mono _ _
      | exact arlinkref23_Reaches.mono _ _ _
      | exact arlinkref23_Valid.mono _ _ _
      | exact LeO.none _
      | refine LeO.ite ?_ ?_
      | refine LeO.bind ?_ (fun _ => ?_)
    · intro y0 y1 y2 y3 y4
      unfold arlinklaw23_OrderTopological.l1
      repeat' first
      | (with_reducible exact ih0 _ _ _)
      | (with_reducible exact ih1 _ _ _ _ _ _ _)
      | (with_reducible exact ih2 _ _ _ _)
      | (with_reducible exact ih3 _ _ _ _ _)
      | (with_reducible exact ih4 _ _ _ _ _)
      | (with_reducible exact ih5 _ _ _)
      | (with_reducible exact arlinklaw23_awake.mono _)
      | (with_reducible exact arlinklaw23_forward.mono _ _)
      | (with_reducible exact arlinkref23_Reaches.mono _ _ _)
      | (with_reducible exact arlinkref23_Valid.mono _ _ _)
      | (with_reducible exact LeO.refl _)
      | (with_reducible exact LeO.none _)
      | (with_reducible refine LeO.ite ?_ ?_)
      | (with_reducible refine LeO.bind ?_ (fun _ => ?_))
      | exact ih0 _ _ _
      | exact ih1 _ _ _ _ _ _ _
      | exact ih2 _ _ _ _
      | exact ih3 _ _ _ _ _
      | exact ih4 _ _ _ _ _
      | exact ih5 _ _ _
      | exact arlinklaw23_awake.mono _
      | exact arlinklaw23_forward.mono _ _
      | exact arlinkref23_Reaches.mono _ _ _
      | exact arlinkref23_Valid.mono _ _ _
      | exact LeO.none _
      | refine LeO.ite ?_ ?_
      | refine LeO.bind ?_ (fun _ => ?_)
    · intro y0 y1 y2 y3 y4
      unfold arlinklaw23_OrderTopological.l2
      repeat' first
      | (with_reducible exact ih0 _ _ _)
      | (with_reducible exact ih1 _ _ _ _ _ _ _)
      | (with_reducible exact ih2 _ _ _ _)
      | (with_reducible exact ih3 _ _ _ _ _)
      | (with_reducible exact ih4 _ _ _ _ _)
      | (with_reducible exact ih5 _ _ _)
      | (with_reducible exact arlinklaw23_awake.mono _)
      | (with_reducible exact arlinklaw23_forward.mono _ _)
      | (with_reducible exact arlinkref23_Reaches.mono _ _ _)
      | (with_reducible exact arlinkref23_Valid.mono _ _ _)
      | (with_reducible exact LeO.refl _)
      | (with_reducible exact LeO.none _)
      | (with_reducible refine LeO.ite ?_ ?_)
      | (with_reducible refine LeO.bind ?_ (fun _ => ?_))
      | exact ih0 _ _ _
      | exact ih1 _ _ _ _ _ _ _
      | exact ih2 _ _ _ _
      | exact ih3 _ _ _ _ _
      | exact ih4 _ _ _ _ _
      | exact ih5 _ _ _
      | exact arlinklaw23_awake.mono _
      | exact arlinklaw23_forward.mono _ _
      | exact arlinkref23_Reaches.mono _ _ _
      | exact arlinkref23_Valid.mono _ _ _
      | exact LeO.none _
      | refine LeO.ite ?_ ?_
      | refine LeO.bind ?_ (fun _ => ?_)
    · intro y0 y1 y2
      unfold arlinklaw23_OrderTopological.l3
      repeat' first
      | (with_reducible exact ih0 _ _ _)
      | (with_reducible exact ih1 _ _ _ _ _ _ _)
      | (with_reducible exact ih2 _ _ _ _)
      | (with_reducible exact ih3 _ _ _ _ _)
      | (with_reducible exact ih4 _ _ _ _ _)
      | (with_reducible exact ih5 _ _ _)
      | (with_reducible exact arlinklaw23_awake.mono _)
      | (with_reducible exact arlinklaw23_forward.mono _ _)
      | (with_reducible exact arlinkref23_Reaches.mono _ _ _)
      | (with_reducible exact arlinkref23_Valid.mono _ _ _)
      | (with_reducible exact LeO.refl _)
      | (with_reducible exact LeO.none _)
      | (with_reducible refine LeO.ite ?_ ?_)
      | (with_reducible refine LeO.bind ?_ (fun _ => ?_))
      | exact ih0 _ _ _
      | exact ih1 _ _ _ _ _ _ _
      | exact ih2 _ _ _ _
      | exact ih3 _ _ _ _ _
      | exact ih4 _ _ _ _ _
      | exact ih5 _ _ _
      | exact arlinklaw23_awake.mono _
      | exact arlinklaw23_forward.mono _ _
      | exact arlinkref23_Reaches.mono _ _ _
      | exact arlinkref23_Valid.mono _ _ _
      | exact LeO.none _
      | refine LeO.ite ?_ ?_
      | refine LeO.bind ?_ (fun _ => ?_)
theorem arlinklaw23_OrderTopological.mono : ∀ a0 a1 k, LeO (arlinklaw23_OrderTopological.f k a0 a1) (arlinklaw23_OrderTopological.f (k + 1) a0 a1) := by
  intro a0 a1 k
  obtain ⟨ih0, ih1, ih2, ih3, ih4, ih5⟩ := arlinklaw23_OrderTopological.mono_l k
  unfold arlinklaw23_OrderTopological.f
  repeat' first
      | (with_reducible exact ih0 _ _ _)
      | (with_reducible exact ih1 _ _ _ _ _ _ _)
      | (with_reducible exact ih2 _ _ _ _)
      | (with_reducible exact ih3 _ _ _ _ _)
      | (with_reducible exact ih4 _ _ _ _ _)
      | (with_reducible exact ih5 _ _ _)
      | (with_reducible exact arlinklaw23_awake.mono _)
      | (with_reducible exact arlinklaw23_forward.mono _ _)
      | (with_reducible exact arlinkref23_Reaches.mono _ _ _)
      | (with_reducible exact arlinkref23_Valid.mono _ _ _)
      | (with_reducible exact LeO.refl _)
      | (with_reducible exact LeO.none _)
      | (with_reducible refine LeO.ite ?_ ?_)
      | (with_reducible refine LeO.bind ?_ (fun _ => ?_))
      | exact ih0 _ _ _
      | exact ih1 _ _ _ _ _ _ _
      | exact ih2 _ _ _ _
      | exact ih3 _ _ _ _ _
      | exact ih4 _ _ _ _ _
      | exact ih5 _ _ _
      | exact arlinklaw23_awake.mono _
      | exact arlinklaw23_forward.mono _ _
      | exact arlinkref23_Reaches.mono _ _ _
      | exact arlinkref23_Valid.mono _ _ _
      | exact LeO.none _
      | refine LeO.ite ?_ ?_
      | refine LeO.bind ?_ (fun _ => ?_)
set_option maxHeartbeats 8000000 in
set_option maxRecDepth 100000 in
theorem arlinklaw23_OrderTopological.calls (k : Nat) (a0 : Int) (A1 : Option Addr) (c1 : Nat) (l1 : List (S39)) (r : Bool) (w : World) (hr1 : Kd.C k39 w A1 l1.length l1) (hc1 : l1.length ≤ c1) (h : arlinklaw23_OrderTopological.f k a0 l1 = some r) :
    Calls Try.prog 4 #[.int .u8 a0, .slice A1 l1.length c1] w fun e w' => e = .returned (.bool r) ∧ Below w.heap.size w w' := by
  have HR1 := Aside0.mk hr1
  have HC1 := Aside0.mk hc1
  clear hr1 hc1
  have HB := Aside0.mk (Below.refl w.heap.size w)
  have H : ((arlinklaw23_awake.f k).bind fun t207 => (if t207 = true then (if (l1.length : Int) > 100 then (arlinklaw23_OrderTopological.j0 k l1 (Int.tmod (wrap64 (a0)) 20) true) else ((arlinkref23_Valid.f k (Int.tmod (wrap64 (a0)) 20) l1).bind fun t208 => (arlinklaw23_OrderTopological.j0 k l1 (Int.tmod (wrap64 (a0)) 20) (!t208)))) else (arlinklaw23_OrderTopological.j0 k l1 (Int.tmod (wrap64 (a0)) 20) true))) = some r := h
  clear h
  have HC3 := Aside0.mk H
  clear H
  go_enter Try.func4, Try.ntmps4
  go_upto_region 2 with (fail)
  repeat (go_quiet (fail); go_upto_region 2 with (fail))
  go_cut [30] (fun v30 wc => ∃ (kq : Nat) (x30_2 : Bool), v30 = .bool x30_2 ∧ Aside0 (arlinklaw23_OrderTopological.j0 kq l1 (Int.tmod (wrap64 (a0)) 20) x30_2 = some r) ∧ Aside0 (kq ≤ k) ∧ Aside0 (Below w.heap.size w wc))
  case first =>
    have H := HC3.out
    clear HC3
    replace H := Option.bind_eq_some_iff.mp H
    obtain ⟨t207, A40, H⟩ := H
    replace H : (if t207 = true then (if (l1.length : Int) > 100 then (arlinklaw23_OrderTopological.j0 k l1 (Int.tmod (wrap64 (a0)) 20) true) else ((arlinkref23_Valid.f k (Int.tmod (wrap64 (a0)) 20) l1).bind fun t208 => (arlinklaw23_OrderTopological.j0 k l1 (Int.tmod (wrap64 (a0)) 20) (!t208)))) else (arlinklaw23_OrderTopological.j0 k l1 (Int.tmod (wrap64 (a0)) 20) true)) = some r := H
    have A4 := Aside0.mk A40
    clear A40
    by_cases c5 : t207 = true
    · subst c5
      have H1 : (if (l1.length : Int) > 100 then (arlinklaw23_OrderTopological.j0 k l1 (Int.tmod (wrap64 (a0)) 20) true) else ((arlinkref23_Valid.f k (Int.tmod (wrap64 (a0)) 20) l1).bind fun t208 => (arlinklaw23_OrderTopological.j0 k l1 (Int.tmod (wrap64 (a0)) 20) (!t208)))) = some r := by rw [if_pos rfl] at H; exact H
      clear H
      have H := H1
      clear H1
      by_cases c6 : (l1.length : Int) > 100
      · rw [if_pos c6] at H
        have c6b0 : decide (100 < (l1.length : Int)) = true := decide_eq_true c6
        have c6b1 : decide (100 < l1.length) = true := decide_eq_true (by omega)
        clear c6
        (first | rw [c6b0] | (simp only [i64_w, i32_w]; rw [c6b0]) | skip)
        have H' := Aside0.mk H
        clear H
        go_wp2_with (first | (go_at_call 13; (with_reducible refine (arlinklaw23_awake.calls k  true _ A4.out).mono ?_); rintro e w7 ⟨rfl, hb⟩; have n0_ := Aside0.mk (below_step (by repeat (first | (with_reducible first | exact HB.out | apply below_alloc | apply pw_below_drewN | apply below_drew1) | exact HB.out)) hb); clear HB; have HB := n0_; clear n0_; (try clear hb); (try clear hb2); (try clear hk); (try clear hi)))
        repeat (go_quiet (first | (go_at_call 13; (with_reducible refine (arlinklaw23_awake.calls k  true _ A4.out).mono ?_); rintro e w7 ⟨rfl, hb⟩; have n0_ := Aside0.mk (below_step (by repeat (first | (with_reducible first | exact HB.out | apply below_alloc | apply pw_below_drewN | apply below_drew1) | exact HB.out)) hb); clear HB; have HB := n0_; clear n0_; (try clear hb); (try clear hb2); (try clear hk); (try clear hi))); try go_wp2_with (first | (go_at_call 13; (with_reducible refine (arlinklaw23_awake.calls k  true _ A4.out).mono ?_); rintro e w7 ⟨rfl, hb⟩; have n0_ := Aside0.mk (below_step (by repeat (first | (with_reducible first | exact HB.out | apply below_alloc | apply pw_below_drewN | apply below_drew1) | exact HB.out)) hb); clear HB; have HB := n0_; clear n0_; (try clear hb); (try clear hb2); (try clear hk); (try clear hi))))
        go_meet
        case rel => exact ⟨_, (true), (by first | rfl | (simp; done) | (simp [*]; done)), H', ⟨by first | omega | exact Nat.le_refl _⟩, ⟨by repeat (first | (with_reducible first | exact HB.out | apply below_alloc | apply pw_below_drewN | apply below_drew1) | exact HB.out)⟩⟩
      · rw [if_neg c6] at H
        have c6b0 : decide (100 < (l1.length : Int)) = false := decide_eq_false c6
        have c6b1 : decide (100 < l1.length) = false := decide_eq_false (by omega)
        clear c6
        (first | rw [c6b0] | (simp only [i64_w, i32_w]; rw [c6b0]) | skip)
        replace H := Option.bind_eq_some_iff.mp H
        obtain ⟨t208, A80, H⟩ := H
        replace H : (arlinklaw23_OrderTopological.j0 k l1 (Int.tmod (wrap64 (a0)) 20) (!t208)) = some r := H
        have A8 := Aside0.mk A80
        clear A80
        have H' := Aside0.mk H
        clear H
        go_wp2_with (first | (go_at_call 13; (with_reducible refine (arlinklaw23_awake.calls k  true _ A4.out).mono ?_); rintro e w9 ⟨rfl, hb⟩; have n0_ := Aside0.mk (below_step (by repeat (first | (with_reducible first | exact HB.out | apply below_alloc | apply pw_below_drewN | apply below_drew1) | exact HB.out)) hb); clear HB; have HB := n0_; clear n0_; (try clear hb); (try clear hb2); (try clear hk); (try clear hi)) | (go_at_call 20; (with_reducible refine (arlinkref23_Valid.calls k (Int.tmod (wrap64 (a0)) 20) _ _ l1 t208 _ ?side1 ?side2 A8.out).mono ?_); (case side1 => repeat (first | exact (Kd.C_below HR1.out HB.out) | (with_reducible refine Kd.C_alloc ?_ _) | (with_reducible refine Kd.C_drewN ?_ _) | (with_reducible refine Kd.C_drew ?_))); (case side2 => exact HC1.out); rintro e w10 ⟨rfl, hb⟩; have n0_ := Aside0.mk (below_step (by repeat (first | (with_reducible first | exact HB.out | apply below_alloc | apply pw_below_drewN | apply below_drew1) | exact HB.out)) hb); clear HB; have HB := n0_; clear n0_; (try clear hb); (try clear hb2); (try clear hk); (try clear hi)))
        repeat (go_quiet (first | (go_at_call 13; (with_reducible refine (arlinklaw23_awake.calls k  true _ A4.out).mono ?_); rintro e w9 ⟨rfl, hb⟩; have n0_ := Aside0.mk (below_step (by repeat (first | (with_reducible first | exact HB.out | apply below_alloc | apply pw_below_drewN | apply below_drew1) | exact HB.out)) hb); clear HB; have HB := n0_; clear n0_; (try clear hb); (try clear hb2); (try clear hk); (try clear hi)) | (go_at_call 20; (with_reducible refine (arlinkref23_Valid.calls k (Int.tmod (wrap64 (a0)) 20) _ _ l1 t208 _ ?side1 ?side2 A8.out).mono ?_); (case side1 => repeat (first | exact (Kd.C_below HR1.out HB.out) | (with_reducible refine Kd.C_alloc ?_ _) | (with_reducible refine Kd.C_drewN ?_ _) | (with_reducible refine Kd.C_drew ?_))); (case side2 => exact HC1.out); rintro e w10 ⟨rfl, hb⟩; have n0_ := Aside0.mk (below_step (by repeat (first | (with_reducible first | exact HB.out | apply below_alloc | apply pw_below_drewN | apply below_drew1) | exact HB.out)) hb); clear HB; have HB := n0_; clear n0_; (try clear hb); (try clear hb2); (try clear hk); (try clear hi))); try go_wp2_with (first | (go_at_call 13; (with_reducible refine (arlinklaw23_awake.calls k  true _ A4.out).mono ?_); rintro e w9 ⟨rfl, hb⟩; have n0_ := Aside0.mk (below_step (by repeat (first | (with_reducible first | exact HB.out | apply below_alloc | apply pw_below_drewN | apply below_drew1) | exact HB.out)) hb); clear HB; have HB := n0_; clear n0_; (try clear hb); (try clear hb2); (try clear hk); (try clear hi)) | (go_at_call 20; (with_reducible refine (arlinkref23_Valid.calls k (Int.tmod (wrap64 (a0)) 20) _ _ l1 t208 _ ?side1 ?side2 A8.out).mono ?_); (case side1 => repeat (first | exact (Kd.C_below HR1.out HB.out) | (with_reducible refine Kd.C_alloc ?_ _) | (with_reducible refine Kd.C_drewN ?_ _) | (with_reducible refine Kd.C_drew ?_))); (case side2 => exact HC1.out); rintro e w10 ⟨rfl, hb⟩; have n0_ := Aside0.mk (below_step (by repeat (first | (with_reducible first | exact HB.out | apply below_alloc | apply pw_below_drewN | apply below_drew1) | exact HB.out)) hb); clear HB; have HB := n0_; clear n0_; (try clear hb); (try clear hb2); (try clear hk); (try clear hi))))
        go_meet
        case rel => exact ⟨_, (!t208), (by first | rfl | (simp; done) | (simp [*]; done)), H', ⟨by first | omega | exact Nat.le_refl _⟩, ⟨by repeat (first | (with_reducible first | exact HB.out | apply below_alloc | apply pw_below_drewN | apply below_drew1) | exact HB.out)⟩⟩
    · replace c5 := Bool.eq_false_iff.mpr c5
      subst c5
      have H1 : (arlinklaw23_OrderTopological.j0 k l1 (Int.tmod (wrap64 (a0)) 20) true) = some r := by rw [if_neg (show ¬ (false = true) by decide)] at H; exact H
      clear H
      have H := H1
      clear H1
      have H' := Aside0.mk H
      clear H
      go_wp2_with (first | (go_at_call 13; (with_reducible refine (arlinklaw23_awake.calls k  false _ A4.out).mono ?_); rintro e w11 ⟨rfl, hb⟩; have n0_ := Aside0.mk (below_step (by repeat (first | (with_reducible first | exact HB.out | apply below_alloc | apply pw_below_drewN | apply below_drew1) | exact HB.out)) hb); clear HB; have HB := n0_; clear n0_; (try clear hb); (try clear hb2); (try clear hk); (try clear hi)))
      repeat (go_quiet (first | (go_at_call 13; (with_reducible refine (arlinklaw23_awake.calls k  false _ A4.out).mono ?_); rintro e w11 ⟨rfl, hb⟩; have n0_ := Aside0.mk (below_step (by repeat (first | (with_reducible first | exact HB.out | apply below_alloc | apply pw_below_drewN | apply below_drew1) | exact HB.out)) hb); clear HB; have HB := n0_; clear n0_; (try clear hb); (try clear hb2); (try clear hk); (try clear hi))); try go_wp2_with (first | (go_at_call 13; (with_reducible refine (arlinklaw23_awake.calls k  false _ A4.out).mono ?_); rintro e w11 ⟨rfl, hb⟩; have n0_ := Aside0.mk (below_step (by repeat (first | (with_reducible first | exact HB.out | apply below_alloc | apply pw_below_drewN | apply below_drew1) | exact HB.out)) hb); clear HB; have HB := n0_; clear n0_; (try clear hb); (try clear hb2); (try clear hk); (try clear hi))))
      go_meet
      case rel => exact ⟨_, (true), (by first | rfl | (simp; done) | (simp [*]; done)), H', ⟨by first | omega | exact Nat.le_refl _⟩, ⟨by repeat (first | (with_reducible first | exact HB.out | apply below_alloc | apply pw_below_drewN | apply below_drew1) | exact HB.out)⟩⟩
  case rest =>
    clear HC3
    try clear c1
    try clear p2
    try clear c4
    try clear c5
    try clear c6
    try clear c6b0
    try clear c6b1
    try clear p6
    obtain ⟨kq, x30_2, rfl, HA, HJ2, HB⟩ := hcut
    cases kq with
    | zero => exact absurd HA.out (by simp [arlinklaw23_OrderTopological.j0])
    | succ kj2 =>
      have H := HA.out
      clear HA
      simp only [arlinklaw23_OrderTopological.j0] at H
      by_cases c12 : x30_2 = true
      · subst c12
        have H1 : ((arlinklaw23_awake.f kj2).bind fun t209 => (some t209)) = some r := by rw [if_pos rfl] at H; exact H
        clear H
        have H := H1
        clear H1
        replace H := Option.bind_eq_some_iff.mp H
        obtain ⟨t209, A130, H⟩ := H
        replace H : (some t209) = some r := H
        have A13 := Aside0.mk A130
        clear A130
        obtain rfl := Option.some.inj H
        go_wp2_with (first | (go_at_call 13; (with_reducible refine (arlinklaw23_awake.calls kj2  t209 _ A13.out).mono ?_); rintro e w14 ⟨rfl, hb⟩; have n0_ := Aside0.mk (below_step (by repeat (first | (with_reducible first | exact HB.out | apply below_alloc | apply pw_below_drewN | apply below_drew1) | exact HB.out)) hb); clear HB; have HB := n0_; clear n0_; (try clear hb); (try clear hb2); (try clear hk); (try clear hi)))
        repeat (go_quiet (first | (go_at_call 13; (with_reducible refine (arlinklaw23_awake.calls kj2  t209 _ A13.out).mono ?_); rintro e w14 ⟨rfl, hb⟩; have n0_ := Aside0.mk (below_step (by repeat (first | (with_reducible first | exact HB.out | apply below_alloc | apply pw_below_drewN | apply below_drew1) | exact HB.out)) hb); clear HB; have HB := n0_; clear n0_; (try clear hb); (try clear hb2); (try clear hk); (try clear hi))); try go_wp2_with (first | (go_at_call 13; (with_reducible refine (arlinklaw23_awake.calls kj2  t209 _ A13.out).mono ?_); rintro e w14 ⟨rfl, hb⟩; have n0_ := Aside0.mk (below_step (by repeat (first | (with_reducible first | exact HB.out | apply below_alloc | apply pw_below_drewN | apply below_drew1) | exact HB.out)) hb); clear HB; have HB := n0_; clear n0_; (try clear hb); (try clear hb2); (try clear hk); (try clear hi))))
        go_ret
        exact ⟨by first | rfl | (simp [errW_none, errW_some] <;> rfl) | (simp [*, errW_none, errW_some] <;> rfl), by repeat (first | (with_reducible first | exact HB.out | apply below_alloc | apply pw_below_drewN | apply below_drew1) | exact HB.out)⟩
      · replace c12 := Bool.eq_false_iff.mpr c12
        subst c12
        have H1 : ((arlinklaw23_forward.f kj2 l1).bind fun t210 => ((order_Sort.f (Int.tmod (wrap64 (a0)) 20) t210).bind fun bt213 => ((arlinkref23_Reaches.f kj2 (Int.tmod (wrap64 (a0)) 20) l1).bind fun t217 => (arlinklaw23_OrderTopological.l0 kj2 l1 (Int.tmod (wrap64 (a0)) 20) bt213.1 bt213.2 t217 false 0)))) = some r := by rw [if_neg (show ¬ (false = true) by decide)] at H; exact H
        clear H
        have H := H1
        clear H1
        replace H := Option.bind_eq_some_iff.mp H
        obtain ⟨t210, A150, H⟩ := H
        replace H : ((order_Sort.f (Int.tmod (wrap64 (a0)) 20) t210).bind fun bt213 => ((arlinkref23_Reaches.f kj2 (Int.tmod (wrap64 (a0)) 20) l1).bind fun t217 => (arlinklaw23_OrderTopological.l0 kj2 l1 (Int.tmod (wrap64 (a0)) 20) bt213.1 bt213.2 t217 false 0))) = some r := H
        have A15 := Aside0.mk A150
        clear A150
        replace H := Option.bind_eq_some_iff.mp H
        obtain ⟨⟨t213, t214⟩, A160, H⟩ := H
        replace H : ((arlinkref23_Reaches.f kj2 (Int.tmod (wrap64 (a0)) 20) l1).bind fun t217 => (arlinklaw23_OrderTopological.l0 kj2 l1 (Int.tmod (wrap64 (a0)) 20) t213 t214 t217 false 0)) = some r := H
        have A16 := Aside0.mk A160
        clear A160
        replace H := Option.bind_eq_some_iff.mp H
        obtain ⟨t217, A170, H⟩ := H
        replace H : (arlinklaw23_OrderTopological.l0 kj2 l1 (Int.tmod (wrap64 (a0)) 20) t213 t214 t217 false 0) = some r := H
        have A17 := Aside0.mk A170
        clear A170
        have H' := Aside0.mk H
        clear H
        go_wp2_with (first | (go_at_call 15; (with_reducible refine (arlinklaw23_forward.calls kj2 _ _ l1 t210 _ ?side1 ?side2 A15.out).mono ?_); (case side1 => repeat (first | exact (Kd.C_below HR1.out HB.out) | (with_reducible refine Kd.C_alloc ?_ _) | (with_reducible refine Kd.C_drewN ?_ _) | (with_reducible refine Kd.C_drew ?_))); (case side2 => exact HC1.out); rintro e w18 ⟨v211, rfl, ho0, hb⟩; have n0_ := Aside0.mk (Kd.R_lower ho0 (below_size (by repeat (first | (with_reducible first | exact HB.out | apply below_alloc | apply pw_below_drewN | apply below_drew1) | exact HB.out)))); have n1_ := Aside0.mk (below_step (by repeat (first | (with_reducible first | exact HB.out | apply below_alloc | apply pw_below_drewN | apply below_drew1) | exact HB.out)) hb); clear HB; have HO212 := n0_; have HB := n1_; clear n0_ n1_; (try clear hb); (try clear hb2); (try clear hk); (try clear hi); (try clear ho0); obtain ⟨Ao19, co19, eo19⟩ := Kd.R_slice HO212.out; subst eo19) | (go_at_call 14; (with_reducible refine (order_Sort.calls (Int.tmod (wrap64 (a0)) 20) _ _ t210 t213 t214 _ ?side1 ?side2 A16.out).mono ?_); (case side1 => repeat (first | exact (Kd.R_reads' HO212.out).2.2 | (with_reducible refine Kd.C_alloc ?_ _) | (with_reducible refine Kd.C_drewN ?_ _) | (with_reducible refine Kd.C_drew ?_))); (case side2 => exact (Kd.R_reads' HO212.out).2.1); rintro e w20 ⟨v215, rfl, ho0, hb⟩; have n0_ := Aside0.mk (Kd.R_below (by (with_reducible repeat (first | apply Kd.R_alloc | apply Kd.R_drewN | apply Kd.R_drew)); exact HO212.out) hb); have n1_ := Aside0.mk (Kd.R_lower ho0 (below_size (by repeat (first | (with_reducible first | exact HB.out | apply below_alloc | apply pw_below_drewN | apply below_drew1) | exact HB.out)))); have n2_ := Aside0.mk (below_step (by repeat (first | (with_reducible first | exact HB.out | apply below_alloc | apply pw_below_drewN | apply below_drew1) | exact HB.out)) hb); clear HO212; clear HB; have HO212 := n0_; have HO216 := n1_; have HB := n2_; clear n0_ n1_ n2_; (try clear hb); (try clear hb2); (try clear hk); (try clear hi); (try clear ho0)) | (go_at_call 21; (with_reducible refine (arlinkref23_Reaches.calls kj2 (Int.tmod (wrap64 (a0)) 20) _ _ l1 t217 _ ?side1 ?side2 A17.out).mono ?_); (case side1 => repeat (first | exact (Kd.C_below HR1.out HB.out) | (with_reducible refine Kd.C_alloc ?_ _) | (with_reducible refine Kd.C_drewN ?_ _) | (with_reducible refine Kd.C_drew ?_))); (case side2 => exact HC1.out); rintro e w21 ⟨v218, rfl, ho0, hb⟩; have n0_ := Aside0.mk (Kd.R_below (by (with_reducible repeat (first | apply Kd.R_alloc | apply Kd.R_drewN | apply Kd.R_drew)); exact HO212.out) hb); have n1_ := Aside0.mk (Kd.R_below (by (with_reducible repeat (first | apply Kd.R_alloc | apply Kd.R_drewN | apply Kd.R_drew)); exact HO216.out) hb); have n2_ := Aside0.mk (Kd.R_lower ho0 (below_size (by repeat (first | (with_reducible first | exact HB.out | apply below_alloc | apply pw_below_drewN | apply below_drew1) | exact HB.out)))); have n3_ := Aside0.mk (below_step (by repeat (first | (with_reducible first | exact HB.out | apply below_alloc | apply pw_below_drewN | apply below_drew1) | exact HB.out)) hb); clear HO212; clear HO216; clear HB; have HO212 := n0_; have HO216 := n1_; have HO219 := n2_; have HB := n3_; clear n0_ n1_ n2_ n3_; (try clear hb); (try clear hb2); (try clear hk); (try clear hi); (try clear ho0)))
        repeat (go_quiet (first | (go_at_call 15; (with_reducible refine (arlinklaw23_forward.calls kj2 _ _ l1 t210 _ ?side1 ?side2 A15.out).mono ?_); (case side1 => repeat (first | exact (Kd.C_below HR1.out HB.out) | (with_reducible refine Kd.C_alloc ?_ _) | (with_reducible refine Kd.C_drewN ?_ _) | (with_reducible refine Kd.C_drew ?_))); (case side2 => exact HC1.out); rintro e w18 ⟨v211, rfl, ho0, hb⟩; have n0_ := Aside0.mk (Kd.R_lower ho0 (below_size (by repeat (first | (with_reducible first | exact HB.out | apply below_alloc | apply pw_below_drewN | apply below_drew1) | exact HB.out)))); have n1_ := Aside0.mk (below_step (by repeat (first | (with_reducible first | exact HB.out | apply below_alloc | apply pw_below_drewN | apply below_drew1) | exact HB.out)) hb); clear HB; have HO212 := n0_; have HB := n1_; clear n0_ n1_; (try clear hb); (try clear hb2); (try clear hk); (try clear hi); (try clear ho0); obtain ⟨Ao19, co19, eo19⟩ := Kd.R_slice HO212.out; subst eo19) | (go_at_call 14; (with_reducible refine (order_Sort.calls (Int.tmod (wrap64 (a0)) 20) _ _ t210 t213 t214 _ ?side1 ?side2 A16.out).mono ?_); (case side1 => repeat (first | exact (Kd.R_reads' HO212.out).2.2 | (with_reducible refine Kd.C_alloc ?_ _) | (with_reducible refine Kd.C_drewN ?_ _) | (with_reducible refine Kd.C_drew ?_))); (case side2 => exact (Kd.R_reads' HO212.out).2.1); rintro e w20 ⟨v215, rfl, ho0, hb⟩; have n0_ := Aside0.mk (Kd.R_below (by (with_reducible repeat (first | apply Kd.R_alloc | apply Kd.R_drewN | apply Kd.R_drew)); exact HO212.out) hb); have n1_ := Aside0.mk (Kd.R_lower ho0 (below_size (by repeat (first | (with_reducible first | exact HB.out | apply below_alloc | apply pw_below_drewN | apply below_drew1) | exact HB.out)))); have n2_ := Aside0.mk (below_step (by repeat (first | (with_reducible first | exact HB.out | apply below_alloc | apply pw_below_drewN | apply below_drew1) | exact HB.out)) hb); clear HO212; clear HB; have HO212 := n0_; have HO216 := n1_; have HB := n2_; clear n0_ n1_ n2_; (try clear hb); (try clear hb2); (try clear hk); (try clear hi); (try clear ho0)) | (go_at_call 21; (with_reducible refine (arlinkref23_Reaches.calls kj2 (Int.tmod (wrap64 (a0)) 20) _ _ l1 t217 _ ?side1 ?side2 A17.out).mono ?_); (case side1 => repeat (first | exact (Kd.C_below HR1.out HB.out) | (with_reducible refine Kd.C_alloc ?_ _) | (with_reducible refine Kd.C_drewN ?_ _) | (with_reducible refine Kd.C_drew ?_))); (case side2 => exact HC1.out); rintro e w21 ⟨v218, rfl, ho0, hb⟩; have n0_ := Aside0.mk (Kd.R_below (by (with_reducible repeat (first | apply Kd.R_alloc | apply Kd.R_drewN | apply Kd.R_drew)); exact HO212.out) hb); have n1_ := Aside0.mk (Kd.R_below (by (with_reducible repeat (first | apply Kd.R_alloc | apply Kd.R_drewN | apply Kd.R_drew)); exact HO216.out) hb); have n2_ := Aside0.mk (Kd.R_lower ho0 (below_size (by repeat (first | (with_reducible first | exact HB.out | apply below_alloc | apply pw_below_drewN | apply below_drew1) | exact HB.out)))); have n3_ := Aside0.mk (below_step (by repeat (first | (with_reducible first | exact HB.out | apply below_alloc | apply pw_below_drewN | apply below_drew1) | exact HB.out)) hb); clear HO212; clear HO216; clear HB; have HO212 := n0_; have HO216 := n1_; have HO219 := n2_; have HB := n3_; clear n0_ n1_ n2_ n3_; (try clear hb); (try clear hb2); (try clear hk); (try clear hi); (try clear ho0))); try go_wp2_with (first | (go_at_call 15; (with_reducible refine (arlinklaw23_forward.calls kj2 _ _ l1 t210 _ ?side1 ?side2 A15.out).mono ?_); (case side1 => repeat (first | exact (Kd.C_below HR1.out HB.out) | (with_reducible refine Kd.C_alloc ?_ _) | (with_reducible refine Kd.C_drewN ?_ _) | (with_reducible refine Kd.C_drew ?_))); (case side2 => exact HC1.out); rintro e w18 ⟨v211, rfl, ho0, hb⟩; have n0_ := Aside0.mk (Kd.R_lower ho0 (below_size (by repeat (first | (with_reducible first | exact HB.out | apply below_alloc | apply pw_below_drewN | apply below_drew1) | exact HB.out)))); have n1_ := Aside0.mk (below_step (by repeat (first | (with_reducible first | exact HB.out | apply below_alloc | apply pw_below_drewN | apply below_drew1) | exact HB.out)) hb); clear HB; have HO212 := n0_; have HB := n1_; clear n0_ n1_; (try clear hb); (try clear hb2); (try clear hk); (try clear hi); (try clear ho0); obtain ⟨Ao19, co19, eo19⟩ := Kd.R_slice HO212.out; subst eo19) | (go_at_call 14; (with_reducible refine (order_Sort.calls (Int.tmod (wrap64 (a0)) 20) _ _ t210 t213 t214 _ ?side1 ?side2 A16.out).mono ?_); (case side1 => repeat (first | exact (Kd.R_reads' HO212.out).2.2 | (with_reducible refine Kd.C_alloc ?_ _) | (with_reducible refine Kd.C_drewN ?_ _) | (with_reducible refine Kd.C_drew ?_))); (case side2 => exact (Kd.R_reads' HO212.out).2.1); rintro e w20 ⟨v215, rfl, ho0, hb⟩; have n0_ := Aside0.mk (Kd.R_below (by (with_reducible repeat (first | apply Kd.R_alloc | apply Kd.R_drewN | apply Kd.R_drew)); exact HO212.out) hb); have n1_ := Aside0.mk (Kd.R_lower ho0 (below_size (by repeat (first | (with_reducible first | exact HB.out | apply below_alloc | apply pw_below_drewN | apply below_drew1) | exact HB.out)))); have n2_ := Aside0.mk (below_step (by repeat (first | (with_reducible first | exact HB.out | apply below_alloc | apply pw_below_drewN | apply below_drew1) | exact HB.out)) hb); clear HO212; clear HB; have HO212 := n0_; have HO216 := n1_; have HB := n2_; clear n0_ n1_ n2_; (try clear hb); (try clear hb2); (try clear hk); (try clear hi); (try clear ho0)) | (go_at_call 21; (with_reducible refine (arlinkref23_Reaches.calls kj2 (Int.tmod (wrap64 (a0)) 20) _ _ l1 t217 _ ?side1 ?side2 A17.out).mono ?_); (case side1 => repeat (first | exact (Kd.C_below HR1.out HB.out) | (with_reducible refine Kd.C_alloc ?_ _) | (with_reducible refine Kd.C_drewN ?_ _) | (with_reducible refine Kd.C_drew ?_))); (case side2 => exact HC1.out); rintro e w21 ⟨v218, rfl, ho0, hb⟩; have n0_ := Aside0.mk (Kd.R_below (by (with_reducible repeat (first | apply Kd.R_alloc | apply Kd.R_drewN | apply Kd.R_drew)); exact HO212.out) hb); have n1_ := Aside0.mk (Kd.R_below (by (with_reducible repeat (first | apply Kd.R_alloc | apply Kd.R_drewN | apply Kd.R_drew)); exact HO216.out) hb); have n2_ := Aside0.mk (Kd.R_lower ho0 (below_size (by repeat (first | (with_reducible first | exact HB.out | apply below_alloc | apply pw_below_drewN | apply below_drew1) | exact HB.out)))); have n3_ := Aside0.mk (below_step (by repeat (first | (with_reducible first | exact HB.out | apply below_alloc | apply pw_below_drewN | apply below_drew1) | exact HB.out)) hb); clear HO212; clear HO216; clear HB; have HO212 := n0_; have HO216 := n1_; have HO219 := n2_; have HB := n3_; clear n0_ n1_ n2_ n3_; (try clear hb); (try clear hb2); (try clear hk); (try clear hi); (try clear ho0))))
        go_loopg [9, 10] kj2 (fun kq v9 v10 w' => ∃ (x9_2 : Bool) (x10_2 : Int), v9 = .bool x9_2 ∧ v10 = .int .i64 x10_2 ∧ Aside0 (arlinklaw23_OrderTopological.l0 kq l1 (Int.tmod (wrap64 (a0)) 20) t213 t214 t217 x9_2 x10_2 = some r) ∧ Aside0 (kq ≤ kj2) ∧ Aside0 (Kd.R (Kd.int .i64) 3 w' w.heap.size (fun _ => True) v215 t213) ∧ Aside0 (Kd.R Kd.bool 4 w' w.heap.size (fun _ => True) v218 t217) ∧ Aside0 (Below w.heap.size w w'))
        case atStart => exact ⟨(false), (0), (by first | rfl | (simp; done) | (simp [*]; done)), (by first | rfl | (simp; done) | (simp [*]; done)), H', ⟨Nat.le_refl _⟩, ⟨by (with_reducible repeat (first | apply Kd.R_alloc | apply Kd.R_drewN | apply Kd.R_drew)); exact HO216.out⟩, ⟨by (with_reducible repeat (first | apply Kd.R_alloc | apply Kd.R_drewN | apply Kd.R_drew)); exact HO219.out⟩, ⟨by repeat (first | (with_reducible first | exact HB.out | apply below_alloc | apply pw_below_drewN | apply below_drew1) | exact HB.out)⟩⟩
        case round =>
          clear H'
          try clear c1
          try clear p2
          try clear c4
          try clear c5
          try clear c6
          try clear c6b0
          try clear c6b1
          try clear p6
          try clear c12
          try clear p2
          try clear p6
          obtain ⟨x9_2, x10_2, rfl, rfl, HA, HK2, HO_6, HO_8, HB⟩ := hrel
          cases gk with
          | zero => exact absurd HA.out (by simp [arlinklaw23_OrderTopological.l0])
          | succ k2 =>
            have H := HA.out
            clear HA
            simp only [arlinklaw23_OrderTopological.l0] at H
            by_cases c22 : x10_2 < (Int.tmod (wrap64 (a0)) 20)
            · rw [if_pos c22] at H
              have c22b0 : decide (x10_2 < (Int.tmod (wrap64 (a0)) 20)) = true := decide_eq_true c22
              clear c22
              by_cases c23 : x9_2 = true
              · subst c23
                have H1 : (arlinklaw23_OrderTopological.l0 k2 l1 (Int.tmod (wrap64 (a0)) 20) t213 t214 t217 true (wrap64 (x10_2 + 1))) = some r := by rw [if_pos rfl] at H; exact H
                clear H
                have H := H1
                clear H1
                have H' := Aside0.mk H
                clear H
                go_wp2
                repeat (go_quiet (fail); try go_wp2)
                go_roundg k2
                case measure => have := HJ2.out; have := HK2.out; omega
                case rel => exact ⟨(true), (wrap64 (x10_2 + 1)), (by first | rfl | (simp; done) | (simp [*]; done)), (by first | rfl | (simp; done) | (simp [*]; done)), H', ⟨by have := HJ2.out; have := HK2.out; omega⟩, ⟨by (with_reducible repeat (first | apply Kd.R_alloc | apply Kd.R_drewN | apply Kd.R_drew)); exact HO_6.out⟩, ⟨by (with_reducible repeat (first | apply Kd.R_alloc | apply Kd.R_drewN | apply Kd.R_drew)); exact HO_8.out⟩, ⟨by repeat (first | (with_reducible first | exact HB.out | apply below_alloc | apply pw_below_drewN | apply below_drew1) | exact HB.out)⟩⟩
              · replace c23 := Bool.eq_false_iff.mpr c23
                subst c23
                have H1 : (if 0 ≤ (wrap64 ((wrap64 (x10_2 * (Int.tmod (wrap64 (a0)) 20))) + x10_2)) then (if (wrap64 ((wrap64 (x10_2 * (Int.tmod (wrap64 (a0)) 20))) + x10_2)) < (t217.length : Int) then (arlinklaw23_OrderTopological.l0 k2 l1 (Int.tmod (wrap64 (a0)) 20) t213 t214 t217 (rdOf false t217 (wrap64 ((wrap64 (x10_2 * (Int.tmod (wrap64 (a0)) 20))) + x10_2))) (wrap64 (x10_2 + 1))) else (none)) else (none)) = some r := by rw [if_neg (show ¬ (false = true) by decide)] at H; exact H
                clear H
                have H := H1
                clear H1
                obtain ⟨ji24, hji24⟩ : ∃ j_ : Int, (wrap64 ((wrap64 (x10_2 * (Int.tmod (wrap64 (a0)) 20))) + x10_2)) = j_ := ⟨_, rfl⟩
                (try rw [hji24])
                replace H : (if 0 ≤ (ji24) then (if (ji24) < (t217.length : Int) then (arlinklaw23_OrderTopological.l0 k2 l1 (Int.tmod (wrap64 (a0)) 20) t213 t214 t217 (rdOf false t217 (ji24)) (wrap64 (x10_2 + 1))) else (none)) else (none)) = some r := by first | (rw [hji24] at H; exact H) | (simp only [hji24] at H ⊢; exact H)
                have hji24w : (IntKind.i64.wrap ((wrap64 (x10_2 * (Int.tmod (wrap64 (a0)) 20))) + x10_2)) = ji24 := (i64_w _).trans hji24
                by_cases c25 : 0 ≤ (ji24)
                · rw [if_pos c25] at H
                  have c25b0 : decide (0 ≤ (ji24)) = true := decide_eq_true c25
                  clear c25
                  by_cases c26 : (ji24) < (t217.length : Int)
                  · rw [if_pos c26] at H
                    have c26b0 : decide ((ji24) < (t217.length : Int)) = true := decide_eq_true c26
                    clear c26
                    have H' := Aside0.mk H
                    clear H
                    obtain ⟨Ao27, co27, eo27⟩ := Kd.R_slice HO_8.out
                    subst eo27
                    have p220 : 0 ≤ ((ji24) : Int) := of_decide_eq_true (by first | (with_reducible assumption) | assumption)
                    have q220 : (ji24) < (t217.length : Int) := of_decide_eq_true (by first | (with_reducible assumption) | assumption)
                    obtain ⟨ad220, e220, hx220_0⟩ := Kd.at_bool (Kd.R_reads' HO_8.out).2.2 (ji24) p220 q220
                    cases e220
                    replace p220 := eq_true p220
                    replace q220 := eq_true q220
                    go_wp2
                    repeat (go_quiet (fail); try go_wp2)
                    go_roundg k2
                    case measure => have := HJ2.out; have := HK2.out; omega
                    case rel => exact ⟨(rdOf false t217 (ji24)), (wrap64 (x10_2 + 1)), (by first | rfl | (simp; done) | (simp only [← hji24] <;> (first | rfl | simp)) | (simp [*]; done)), (by first | rfl | (simp; done) | (simp [*]; done)), H', ⟨by have := HJ2.out; have := HK2.out; omega⟩, ⟨by (with_reducible repeat (first | apply Kd.R_alloc | apply Kd.R_drewN | apply Kd.R_drew)); exact HO_6.out⟩, ⟨by (with_reducible repeat (first | apply Kd.R_alloc | apply Kd.R_drewN | apply Kd.R_drew)); exact HO_8.out⟩, ⟨by repeat (first | (with_reducible first | exact HB.out | apply below_alloc | apply pw_below_drewN | apply below_drew1) | exact HB.out)⟩⟩
                  · rw [if_neg c26] at H
                    exact absurd H (by simp)
                · rw [if_neg c25] at H
                  exact absurd H (by simp)
            · rw [if_neg c22] at H
              have c22b0 : decide (x10_2 < (Int.tmod (wrap64 (a0)) 20)) = false := decide_eq_false c22
              clear c22
              by_cases c28 : x9_2 = true
              · subst c28
                have H1 : (if t214 = 18 then (if (t213.length : Int) = 0 then ((arlinklaw23_forward.f k2 l1).bind fun t221 => ((order_Cycle.f (Int.tmod (wrap64 (a0)) 20) t221).bind fun t224 => (some (decide ((t224.length : Int) > 0))))) else (some false)) else (some false)) = some r := by rw [if_pos rfl] at H; exact H
                clear H
                have H := H1
                clear H1
                by_cases c29 : t214 = 18
                · rw [if_pos c29] at H
                  have c29b0 : (t214 == 18) = true := beq_iff_eq.mpr c29
                  have c29b1 : (t214 != 18) = false := bne_eq_false_iff_eq.mpr c29
                  clear c29
                  by_cases c30 : (t213.length : Int) = 0
                  · rw [if_pos c30] at H
                    have c30b0 : ((t213.length : Int) == 0) = true := beq_iff_eq.mpr c30
                    have c30b1 : ((t213.length : Int) != 0) = false := bne_eq_false_iff_eq.mpr c30
                    clear c30
                    replace H := Option.bind_eq_some_iff.mp H
                    obtain ⟨t221, A310, H⟩ := H
                    replace H : ((order_Cycle.f (Int.tmod (wrap64 (a0)) 20) t221).bind fun t224 => (some (decide ((t224.length : Int) > 0)))) = some r := H
                    have A31 := Aside0.mk A310
                    clear A310
                    replace H := Option.bind_eq_some_iff.mp H
                    obtain ⟨t224, A320, H⟩ := H
                    replace H : (some (decide ((t224.length : Int) > 0))) = some r := H
                    have A32 := Aside0.mk A320
                    clear A320
                    obtain rfl := Option.some.inj H
                    obtain ⟨Ao33, co33, eo33⟩ := Kd.R_slice HO_6.out
                    subst eo33
                    go_wp2_with (first | (go_at_call 15; (with_reducible refine (arlinklaw23_forward.calls k2 _ _ l1 t221 _ ?side1 ?side2 A31.out).mono ?_); (case side1 => repeat (first | exact (Kd.C_below HR1.out HB.out) | (with_reducible refine Kd.C_alloc ?_ _) | (with_reducible refine Kd.C_drewN ?_ _) | (with_reducible refine Kd.C_drew ?_))); (case side2 => exact HC1.out); rintro e w34 ⟨v222, rfl, ho0, hb⟩; have n0_ := Aside0.mk (Kd.R_below (by (with_reducible repeat (first | apply Kd.R_alloc | apply Kd.R_drewN | apply Kd.R_drew)); exact HO_6.out) hb); have n1_ := Aside0.mk (Kd.R_below (by (with_reducible repeat (first | apply Kd.R_alloc | apply Kd.R_drewN | apply Kd.R_drew)); exact HO_8.out) hb); have n2_ := Aside0.mk (Kd.R_lower ho0 (below_size (by repeat (first | (with_reducible first | exact HB.out | apply below_alloc | apply pw_below_drewN | apply below_drew1) | exact HB.out)))); have n3_ := Aside0.mk (below_step (by repeat (first | (with_reducible first | exact HB.out | apply below_alloc | apply pw_below_drewN | apply below_drew1) | exact HB.out)) hb); clear HO_6; clear HO_8; clear HB; have HO_6 := n0_; have HO_8 := n1_; have HO223 := n2_; have HB := n3_; clear n0_ n1_ n2_ n3_; (try clear hb); (try clear hb2); (try clear hk); (try clear hi); (try clear ho0); obtain ⟨Ao35, co35, eo35⟩ := Kd.R_slice HO223.out; subst eo35) | (go_at_call 18; (with_reducible refine (order_Cycle.calls (Int.tmod (wrap64 (a0)) 20) _ _ t221 t224 _ ?side1 ?side2 A32.out).mono ?_); (case side1 => repeat (first | exact (Kd.R_reads' HO223.out).2.2 | (with_reducible refine Kd.C_alloc ?_ _) | (with_reducible refine Kd.C_drewN ?_ _) | (with_reducible refine Kd.C_drew ?_))); (case side2 => exact (Kd.R_reads' HO223.out).2.1); rintro e w36 ⟨v225, rfl, ho0, hb⟩; have n0_ := Aside0.mk (Kd.R_elder' (by (with_reducible repeat (first | apply Kd.R_alloc | apply Kd.R_drewN | apply Kd.R_drew)); exact HO_6.out) (Kd.R_base ho0) hb); have n1_ := Aside0.mk (Kd.R_below (by (with_reducible repeat (first | apply Kd.R_alloc | apply Kd.R_drewN | apply Kd.R_drew)); exact HO_8.out) hb); have n2_ := Aside0.mk (Kd.R_below (by (with_reducible repeat (first | apply Kd.R_alloc | apply Kd.R_drewN | apply Kd.R_drew)); exact HO223.out) hb); have n3_ := Aside0.mk (Kd.R_lower (Kd.R_new' ho0 (Kd.R_lt (by (with_reducible repeat (first | apply Kd.R_alloc | apply Kd.R_drewN | apply Kd.R_drew)); exact HO_6.out))) (below_size (by repeat (first | (with_reducible first | exact HB.out | apply below_alloc | apply pw_below_drewN | apply below_drew1) | exact HB.out)))); have n4_ := Aside0.mk (below_step (by repeat (first | (with_reducible first | exact HB.out | apply below_alloc | apply pw_below_drewN | apply below_drew1) | exact HB.out)) hb); clear HO_6; clear HO_8; clear HO223; clear HB; have HO_6 := n0_; have HO_8 := n1_; have HO223 := n2_; have HO226 := n3_; have HB := n4_; clear n0_ n1_ n2_ n3_ n4_; (try clear hb); (try clear hb2); (try clear hk); (try clear hi); (try clear ho0); obtain ⟨Ao37, co37, eo37⟩ := Kd.R_slice HO226.out; subst eo37))
                    repeat (go_quiet (first | (go_at_call 15; (with_reducible refine (arlinklaw23_forward.calls k2 _ _ l1 t221 _ ?side1 ?side2 A31.out).mono ?_); (case side1 => repeat (first | exact (Kd.C_below HR1.out HB.out) | (with_reducible refine Kd.C_alloc ?_ _) | (with_reducible refine Kd.C_drewN ?_ _) | (with_reducible refine Kd.C_drew ?_))); (case side2 => exact HC1.out); rintro e w34 ⟨v222, rfl, ho0, hb⟩; have n0_ := Aside0.mk (Kd.R_below (by (with_reducible repeat (first | apply Kd.R_alloc | apply Kd.R_drewN | apply Kd.R_drew)); exact HO_6.out) hb); have n1_ := Aside0.mk (Kd.R_below (by (with_reducible repeat (first | apply Kd.R_alloc | apply Kd.R_drewN | apply Kd.R_drew)); exact HO_8.out) hb); have n2_ := Aside0.mk (Kd.R_lower ho0 (below_size (by repeat (first | (with_reducible first | exact HB.out | apply below_alloc | apply pw_below_drewN | apply below_drew1) | exact HB.out)))); have n3_ := Aside0.mk (below_step (by repeat (first | (with_reducible first | exact HB.out | apply below_alloc | apply pw_below_drewN | apply below_drew1) | exact HB.out)) hb); clear HO_6; clear HO_8; clear HB; have HO_6 := n0_; have HO_8 := n1_; have HO223 := n2_; have HB := n3_; clear n0_ n1_ n2_ n3_; (try clear hb); (try clear hb2); (try clear hk); (try clear hi); (try clear ho0); obtain ⟨Ao35, co35, eo35⟩ := Kd.R_slice HO223.out; subst eo35) | (go_at_call 18; (with_reducible refine (order_Cycle.calls (Int.tmod (wrap64 (a0)) 20) _ _ t221 t224 _ ?side1 ?side2 A32.out).mono ?_); (case side1 => repeat (first | exact (Kd.R_reads' HO223.out).2.2 | (with_reducible refine Kd.C_alloc ?_ _) | (with_reducible refine Kd.C_drewN ?_ _) | (with_reducible refine Kd.C_drew ?_))); (case side2 => exact (Kd.R_reads' HO223.out).2.1); rintro e w36 ⟨v225, rfl, ho0, hb⟩; have n0_ := Aside0.mk (Kd.R_elder' (by (with_reducible repeat (first | apply Kd.R_alloc | apply Kd.R_drewN | apply Kd.R_drew)); exact HO_6.out) (Kd.R_base ho0) hb); have n1_ := Aside0.mk (Kd.R_below (by (with_reducible repeat (first | apply Kd.R_alloc | apply Kd.R_drewN | apply Kd.R_drew)); exact HO_8.out) hb); have n2_ := Aside0.mk (Kd.R_below (by (with_reducible repeat (first | apply Kd.R_alloc | apply Kd.R_drewN | apply Kd.R_drew)); exact HO223.out) hb); have n3_ := Aside0.mk (Kd.R_lower (Kd.R_new' ho0 (Kd.R_lt (by (with_reducible repeat (first | apply Kd.R_alloc | apply Kd.R_drewN | apply Kd.R_drew)); exact HO_6.out))) (below_size (by repeat (first | (with_reducible first | exact HB.out | apply below_alloc | apply pw_below_drewN | apply below_drew1) | exact HB.out)))); have n4_ := Aside0.mk (below_step (by repeat (first | (with_reducible first | exact HB.out | apply below_alloc | apply pw_below_drewN | apply below_drew1) | exact HB.out)) hb); clear HO_6; clear HO_8; clear HO223; clear HB; have HO_6 := n0_; have HO_8 := n1_; have HO223 := n2_; have HO226 := n3_; have HB := n4_; clear n0_ n1_ n2_ n3_ n4_; (try clear hb); (try clear hb2); (try clear hk); (try clear hi); (try clear ho0); obtain ⟨Ao37, co37, eo37⟩ := Kd.R_slice HO226.out; subst eo37)); try go_wp2_with (first | (go_at_call 15; (with_reducible refine (arlinklaw23_forward.calls k2 _ _ l1 t221 _ ?side1 ?side2 A31.out).mono ?_); (case side1 => repeat (first | exact (Kd.C_below HR1.out HB.out) | (with_reducible refine Kd.C_alloc ?_ _) | (with_reducible refine Kd.C_drewN ?_ _) | (with_reducible refine Kd.C_drew ?_))); (case side2 => exact HC1.out); rintro e w34 ⟨v222, rfl, ho0, hb⟩; have n0_ := Aside0.mk (Kd.R_below (by (with_reducible repeat (first | apply Kd.R_alloc | apply Kd.R_drewN | apply Kd.R_drew)); exact HO_6.out) hb); have n1_ := Aside0.mk (Kd.R_below (by (with_reducible repeat (first | apply Kd.R_alloc | apply Kd.R_drewN | apply Kd.R_drew)); exact HO_8.out) hb); have n2_ := Aside0.mk (Kd.R_lower ho0 (below_size (by repeat (first | (with_reducible first | exact HB.out | apply below_alloc | apply pw_below_drewN | apply below_drew1) | exact HB.out)))); have n3_ := Aside0.mk (below_step (by repeat (first | (with_reducible first | exact HB.out | apply below_alloc | apply pw_below_drewN | apply below_drew1) | exact HB.out)) hb); clear HO_6; clear HO_8; clear HB; have HO_6 := n0_; have HO_8 := n1_; have HO223 := n2_; have HB := n3_; clear n0_ n1_ n2_ n3_; (try clear hb); (try clear hb2); (try clear hk); (try clear hi); (try clear ho0); obtain ⟨Ao35, co35, eo35⟩ := Kd.R_slice HO223.out; subst eo35) | (go_at_call 18; (with_reducible refine (order_Cycle.calls (Int.tmod (wrap64 (a0)) 20) _ _ t221 t224 _ ?side1 ?side2 A32.out).mono ?_); (case side1 => repeat (first | exact (Kd.R_reads' HO223.out).2.2 | (with_reducible refine Kd.C_alloc ?_ _) | (with_reducible refine Kd.C_drewN ?_ _) | (with_reducible refine Kd.C_drew ?_))); (case side2 => exact (Kd.R_reads' HO223.out).2.1); rintro e w36 ⟨v225, rfl, ho0, hb⟩; have n0_ := Aside0.mk (Kd.R_elder' (by (with_reducible repeat (first | apply Kd.R_alloc | apply Kd.R_drewN | apply Kd.R_drew)); exact HO_6.out) (Kd.R_base ho0) hb); have n1_ := Aside0.mk (Kd.R_below (by (with_reducible repeat (first | apply Kd.R_alloc | apply Kd.R_drewN | apply Kd.R_drew)); exact HO_8.out) hb); have n2_ := Aside0.mk (Kd.R_below (by (with_reducible repeat (first | apply Kd.R_alloc | apply Kd.R_drewN | apply Kd.R_drew)); exact HO223.out) hb); have n3_ := Aside0.mk (Kd.R_lower (Kd.R_new' ho0 (Kd.R_lt (by (with_reducible repeat (first | apply Kd.R_alloc | apply Kd.R_drewN | apply Kd.R_drew)); exact HO_6.out))) (below_size (by repeat (first | (with_reducible first | exact HB.out | apply below_alloc | apply pw_below_drewN | apply below_drew1) | exact HB.out)))); have n4_ := Aside0.mk (below_step (by repeat (first | (with_reducible first | exact HB.out | apply below_alloc | apply pw_below_drewN | apply below_drew1) | exact HB.out)) hb); clear HO_6; clear HO_8; clear HO223; clear HB; have HO_6 := n0_; have HO_8 := n1_; have HO223 := n2_; have HO226 := n3_; have HB := n4_; clear n0_ n1_ n2_ n3_ n4_; (try clear hb); (try clear hb2); (try clear hk); (try clear hi); (try clear ho0); obtain ⟨Ao37, co37, eo37⟩ := Kd.R_slice HO226.out; subst eo37)))
                    go_ret
                    exact ⟨by first | rfl | (simp [errW_none, errW_some] <;> rfl) | (simp [*, errW_none, errW_some] <;> rfl), by repeat (first | (with_reducible first | exact HB.out | apply below_alloc | apply pw_below_drewN | apply below_drew1) | exact HB.out)⟩
                  · rw [if_neg c30] at H
                    have c30b0 : ((t213.length : Int) == 0) = false := beq_eq_false_iff_ne.mpr c30
                    have c30b1 : ((t213.length : Int) != 0) = true := bne_iff_ne.mpr c30
                    have c30b2 : ¬ (t213 = []) := fun h_ => c30 (by rw [h_]; rfl)
                    obtain rfl := Option.some.inj H
                    obtain ⟨Ao38, co38, eo38⟩ := Kd.R_slice HO_6.out
                    subst eo38
                    go_wp2
                    repeat (go_quiet (fail); try go_wp2)
                    go_ret
                    exact ⟨by first | rfl | (simp [errW_none, errW_some] <;> rfl) | (simp [*, errW_none, errW_some] <;> rfl), by repeat (first | (with_reducible first | exact HB.out | apply below_alloc | apply pw_below_drewN | apply below_drew1) | exact HB.out)⟩
                · rw [if_neg c29] at H
                  have c29b0 : (t214 == 18) = false := beq_eq_false_iff_ne.mpr c29
                  have c29b1 : (t214 != 18) = true := bne_iff_ne.mpr c29
                  obtain rfl := Option.some.inj H
                  go_wp2
                  repeat (go_quiet (fail); try go_wp2)
                  go_ret
                  exact ⟨by first | rfl | (simp [errW_none, errW_some] <;> rfl) | (simp [*, errW_none, errW_some] <;> rfl), by repeat (first | (with_reducible first | exact HB.out | apply below_alloc | apply pw_below_drewN | apply below_drew1) | exact HB.out)⟩
              · replace c28 := Bool.eq_false_iff.mpr c28
                subst c28
                have H1 : (if t214 = 0 then (if (t213.length : Int) = (Int.tmod (wrap64 (a0)) 20) then ((arlinklaw23_forward.f k2 l1).bind fun t227 => ((order_Cycle.f (Int.tmod (wrap64 (a0)) 20) t227).bind fun t230 => (arlinklaw23_OrderTopological.j2 k2 l1 (Int.tmod (wrap64 (a0)) 20) t213 ((t230.length : Int) != 0)))) else (arlinklaw23_OrderTopological.j2 k2 l1 (Int.tmod (wrap64 (a0)) 20) t213 true)) else (arlinklaw23_OrderTopological.j2 k2 l1 (Int.tmod (wrap64 (a0)) 20) t213 true)) = some r := by rw [if_neg (show ¬ (false = true) by decide)] at H; exact H
                clear H
                have H := H1
                clear H1
                have HC39 := Aside0.mk H
                clear H
                go_upto_region 13 with (fail)
                repeat (go_quiet (fail); go_upto_region 13 with (fail))
                go_cut [89] (fun v89 wc => ∃ (kq : Nat) (x89_38 : Bool), v89 = .bool x89_38 ∧ Aside0 (arlinklaw23_OrderTopological.j2 kq l1 (Int.tmod (wrap64 (a0)) 20) t213 x89_38 = some r) ∧ Aside0 (kq ≤ k2) ∧ Aside0 (Kd.R (Kd.int .i64) 3 wc w.heap.size (fun _ => True) v215 t213) ∧ Aside0 (Below w.heap.size w wc))
                case first =>
                  have H := HC39.out
                  clear HC39
                  by_cases c40 : t214 = 0
                  · rw [if_pos c40] at H
                    have c40b0 : (t214 == 0) = true := beq_iff_eq.mpr c40
                    have c40b1 : (t214 != 0) = false := bne_eq_false_iff_eq.mpr c40
                    clear c40
                    (first | rw [c40b0] | (simp only [i64_w, i32_w]; rw [c40b0]) | skip)
                    by_cases c41 : (t213.length : Int) = (Int.tmod (wrap64 (a0)) 20)
                    · rw [if_pos c41] at H
                      have c41b0 : ((t213.length : Int) == (Int.tmod (wrap64 (a0)) 20)) = true := beq_iff_eq.mpr c41
                      have c41b1 : ((t213.length : Int) != (Int.tmod (wrap64 (a0)) 20)) = false := bne_eq_false_iff_eq.mpr c41
                      clear c41
                      replace H := Option.bind_eq_some_iff.mp H
                      obtain ⟨t227, A420, H⟩ := H
                      replace H : ((order_Cycle.f (Int.tmod (wrap64 (a0)) 20) t227).bind fun t230 => (arlinklaw23_OrderTopological.j2 k2 l1 (Int.tmod (wrap64 (a0)) 20) t213 ((t230.length : Int) != 0))) = some r := H
                      have A42 := Aside0.mk A420
                      clear A420
                      replace H := Option.bind_eq_some_iff.mp H
                      obtain ⟨t230, A430, H⟩ := H
                      replace H : (arlinklaw23_OrderTopological.j2 k2 l1 (Int.tmod (wrap64 (a0)) 20) t213 ((t230.length : Int) != 0)) = some r := H
                      have A43 := Aside0.mk A430
                      clear A430
                      have H' := Aside0.mk H
                      clear H
                      obtain ⟨Ao44, co44, eo44⟩ := Kd.R_slice HO_6.out
                      subst eo44
                      go_wp2_with (first | (go_at_call 15; (with_reducible refine (arlinklaw23_forward.calls k2 _ _ l1 t227 _ ?side1 ?side2 A42.out).mono ?_); (case side1 => repeat (first | exact (Kd.C_below HR1.out HB.out) | (with_reducible refine Kd.C_alloc ?_ _) | (with_reducible refine Kd.C_drewN ?_ _) | (with_reducible refine Kd.C_drew ?_))); (case side2 => exact HC1.out); rintro e w45 ⟨v228, rfl, ho0, hb⟩; have n0_ := Aside0.mk (Kd.R_below (by (with_reducible repeat (first | apply Kd.R_alloc | apply Kd.R_drewN | apply Kd.R_drew)); exact HO_6.out) hb); have n1_ := Aside0.mk (Kd.R_below (by (with_reducible repeat (first | apply Kd.R_alloc | apply Kd.R_drewN | apply Kd.R_drew)); exact HO_8.out) hb); have n2_ := Aside0.mk (Kd.R_lower ho0 (below_size (by repeat (first | (with_reducible first | exact HB.out | apply below_alloc | apply pw_below_drewN | apply below_drew1) | exact HB.out)))); have n3_ := Aside0.mk (below_step (by repeat (first | (with_reducible first | exact HB.out | apply below_alloc | apply pw_below_drewN | apply below_drew1) | exact HB.out)) hb); clear HO_6; clear HO_8; clear HB; have HO_6 := n0_; have HO_8 := n1_; have HO229 := n2_; have HB := n3_; clear n0_ n1_ n2_ n3_; (try clear hb); (try clear hb2); (try clear hk); (try clear hi); (try clear ho0); obtain ⟨Ao46, co46, eo46⟩ := Kd.R_slice HO229.out; subst eo46) | (go_at_call 18; (with_reducible refine (order_Cycle.calls (Int.tmod (wrap64 (a0)) 20) _ _ t227 t230 _ ?side1 ?side2 A43.out).mono ?_); (case side1 => repeat (first | exact (Kd.R_reads' HO229.out).2.2 | (with_reducible refine Kd.C_alloc ?_ _) | (with_reducible refine Kd.C_drewN ?_ _) | (with_reducible refine Kd.C_drew ?_))); (case side2 => exact (Kd.R_reads' HO229.out).2.1); rintro e w47 ⟨v231, rfl, ho0, hb⟩; have n0_ := Aside0.mk (Kd.R_elder' (by (with_reducible repeat (first | apply Kd.R_alloc | apply Kd.R_drewN | apply Kd.R_drew)); exact HO_6.out) (Kd.R_base ho0) hb); have n1_ := Aside0.mk (Kd.R_below (by (with_reducible repeat (first | apply Kd.R_alloc | apply Kd.R_drewN | apply Kd.R_drew)); exact HO_8.out) hb); have n2_ := Aside0.mk (Kd.R_below (by (with_reducible repeat (first | apply Kd.R_alloc | apply Kd.R_drewN | apply Kd.R_drew)); exact HO229.out) hb); have n3_ := Aside0.mk (Kd.R_lower (Kd.R_new' ho0 (Kd.R_lt (by (with_reducible repeat (first | apply Kd.R_alloc | apply Kd.R_drewN | apply Kd.R_drew)); exact HO_6.out))) (below_size (by repeat (first | (with_reducible first | exact HB.out | apply below_alloc | apply pw_below_drewN | apply below_drew1) | exact HB.out)))); have n4_ := Aside0.mk (below_step (by repeat (first | (with_reducible first | exact HB.out | apply below_alloc | apply pw_below_drewN | apply below_drew1) | exact HB.out)) hb); clear HO_6; clear HO_8; clear HO229; clear HB; have HO_6 := n0_; have HO_8 := n1_; have HO229 := n2_; have HO232 := n3_; have HB := n4_; clear n0_ n1_ n2_ n3_ n4_; (try clear hb); (try clear hb2); (try clear hk); (try clear hi); (try clear ho0); obtain ⟨Ao48, co48, eo48⟩ := Kd.R_slice HO232.out; subst eo48))
                      repeat (go_quiet (first | (go_at_call 15; (with_reducible refine (arlinklaw23_forward.calls k2 _ _ l1 t227 _ ?side1 ?side2 A42.out).mono ?_); (case side1 => repeat (first | exact (Kd.C_below HR1.out HB.out) | (with_reducible refine Kd.C_alloc ?_ _) | (with_reducible refine Kd.C_drewN ?_ _) | (with_reducible refine Kd.C_drew ?_))); (case side2 => exact HC1.out); rintro e w45 ⟨v228, rfl, ho0, hb⟩; have n0_ := Aside0.mk (Kd.R_below (by (with_reducible repeat (first | apply Kd.R_alloc | apply Kd.R_drewN | apply Kd.R_drew)); exact HO_6.out) hb); have n1_ := Aside0.mk (Kd.R_below (by (with_reducible repeat (first | apply Kd.R_alloc | apply Kd.R_drewN | apply Kd.R_drew)); exact HO_8.out) hb); have n2_ := Aside0.mk (Kd.R_lower ho0 (below_size (by repeat (first | (with_reducible first | exact HB.out | apply below_alloc | apply pw_below_drewN | apply below_drew1) | exact HB.out)))); have n3_ := Aside0.mk (below_step (by repeat (first | (with_reducible first | exact HB.out | apply below_alloc | apply pw_below_drewN | apply below_drew1) | exact HB.out)) hb); clear HO_6; clear HO_8; clear HB; have HO_6 := n0_; have HO_8 := n1_; have HO229 := n2_; have HB := n3_; clear n0_ n1_ n2_ n3_; (try clear hb); (try clear hb2); (try clear hk); (try clear hi); (try clear ho0); obtain ⟨Ao46, co46, eo46⟩ := Kd.R_slice HO229.out; subst eo46) | (go_at_call 18; (with_reducible refine (order_Cycle.calls (Int.tmod (wrap64 (a0)) 20) _ _ t227 t230 _ ?side1 ?side2 A43.out).mono ?_); (case side1 => repeat (first | exact (Kd.R_reads' HO229.out).2.2 | (with_reducible refine Kd.C_alloc ?_ _) | (with_reducible refine Kd.C_drewN ?_ _) | (with_reducible refine Kd.C_drew ?_))); (case side2 => exact (Kd.R_reads' HO229.out).2.1); rintro e w47 ⟨v231, rfl, ho0, hb⟩; have n0_ := Aside0.mk (Kd.R_elder' (by (with_reducible repeat (first | apply Kd.R_alloc | apply Kd.R_drewN | apply Kd.R_drew)); exact HO_6.out) (Kd.R_base ho0) hb); have n1_ := Aside0.mk (Kd.R_below (by (with_reducible repeat (first | apply Kd.R_alloc | apply Kd.R_drewN | apply Kd.R_drew)); exact HO_8.out) hb); have n2_ := Aside0.mk (Kd.R_below (by (with_reducible repeat (first | apply Kd.R_alloc | apply Kd.R_drewN | apply Kd.R_drew)); exact HO229.out) hb); have n3_ := Aside0.mk (Kd.R_lower (Kd.R_new' ho0 (Kd.R_lt (by (with_reducible repeat (first | apply Kd.R_alloc | apply Kd.R_drewN | apply Kd.R_drew)); exact HO_6.out))) (below_size (by repeat (first | (with_reducible first | exact HB.out | apply below_alloc | apply pw_below_drewN | apply below_drew1) | exact HB.out)))); have n4_ := Aside0.mk (below_step (by repeat (first | (with_reducible first | exact HB.out | apply below_alloc | apply pw_below_drewN | apply below_drew1) | exact HB.out)) hb); clear HO_6; clear HO_8; clear HO229; clear HB; have HO_6 := n0_; have HO_8 := n1_; have HO229 := n2_; have HO232 := n3_; have HB := n4_; clear n0_ n1_ n2_ n3_ n4_; (try clear hb); (try clear hb2); (try clear hk); (try clear hi); (try clear ho0); obtain ⟨Ao48, co48, eo48⟩ := Kd.R_slice HO232.out; subst eo48)); try go_wp2_with (first | (go_at_call 15; (with_reducible refine (arlinklaw23_forward.calls k2 _ _ l1 t227 _ ?side1 ?side2 A42.out).mono ?_); (case side1 => repeat (first | exact (Kd.C_below HR1.out HB.out) | (with_reducible refine Kd.C_alloc ?_ _) | (with_reducible refine Kd.C_drewN ?_ _) | (with_reducible refine Kd.C_drew ?_))); (case side2 => exact HC1.out); rintro e w45 ⟨v228, rfl, ho0, hb⟩; have n0_ := Aside0.mk (Kd.R_below (by (with_reducible repeat (first | apply Kd.R_alloc | apply Kd.R_drewN | apply Kd.R_drew)); exact HO_6.out) hb); have n1_ := Aside0.mk (Kd.R_below (by (with_reducible repeat (first | apply Kd.R_alloc | apply Kd.R_drewN | apply Kd.R_drew)); exact HO_8.out) hb); have n2_ := Aside0.mk (Kd.R_lower ho0 (below_size (by repeat (first | (with_reducible first | exact HB.out | apply below_alloc | apply pw_below_drewN | apply below_drew1) | exact HB.out)))); have n3_ := Aside0.mk (below_step (by repeat (first | (with_reducible first | exact HB.out | apply below_alloc | apply pw_below_drewN | apply below_drew1) | exact HB.out)) hb); clear HO_6; clear HO_8; clear HB; have HO_6 := n0_; have HO_8 := n1_; have HO229 := n2_; have HB := n3_; clear n0_ n1_ n2_ n3_; (try clear hb); (try clear hb2); (try clear hk); (try clear hi); (try clear ho0); obtain ⟨Ao46, co46, eo46⟩ := Kd.R_slice HO229.out; subst eo46) | (go_at_call 18; (with_reducible refine (order_Cycle.calls (Int.tmod (wrap64 (a0)) 20) _ _ t227 t230 _ ?side1 ?side2 A43.out).mono ?_); (case side1 => repeat (first | exact (Kd.R_reads' HO229.out).2.2 | (with_reducible refine Kd.C_alloc ?_ _) | (with_reducible refine Kd.C_drewN ?_ _) | (with_reducible refine Kd.C_drew ?_))); (case side2 => exact (Kd.R_reads' HO229.out).2.1); rintro e w47 ⟨v231, rfl, ho0, hb⟩; have n0_ := Aside0.mk (Kd.R_elder' (by (with_reducible repeat (first | apply Kd.R_alloc | apply Kd.R_drewN | apply Kd.R_drew)); exact HO_6.out) (Kd.R_base ho0) hb); have n1_ := Aside0.mk (Kd.R_below (by (with_reducible repeat (first | apply Kd.R_alloc | apply Kd.R_drewN | apply Kd.R_drew)); exact HO_8.out) hb); have n2_ := Aside0.mk (Kd.R_below (by (with_reducible repeat (first | apply Kd.R_alloc | apply Kd.R_drewN | apply Kd.R_drew)); exact HO229.out) hb); have n3_ := Aside0.mk (Kd.R_lower (Kd.R_new' ho0 (Kd.R_lt (by (with_reducible repeat (first | apply Kd.R_alloc | apply Kd.R_drewN | apply Kd.R_drew)); exact HO_6.out))) (below_size (by repeat (first | (with_reducible first | exact HB.out | apply below_alloc | apply pw_below_drewN | apply below_drew1) | exact HB.out)))); have n4_ := Aside0.mk (below_step (by repeat (first | (with_reducible first | exact HB.out | apply below_alloc | apply pw_below_drewN | apply below_drew1) | exact HB.out)) hb); clear HO_6; clear HO_8; clear HO229; clear HB; have HO_6 := n0_; have HO_8 := n1_; have HO229 := n2_; have HO232 := n3_; have HB := n4_; clear n0_ n1_ n2_ n3_ n4_; (try clear hb); (try clear hb2); (try clear hk); (try clear hi); (try clear ho0); obtain ⟨Ao48, co48, eo48⟩ := Kd.R_slice HO232.out; subst eo48)))
                      go_meet
                      case rel => exact ⟨_, (((t230.length : Int) != 0)), (by first | rfl | (simp; done) | (simp [*]; done)), H', ⟨by have := HJ2.out; have := HK2.out; first | omega | exact Nat.le_refl _⟩, ⟨by (with_reducible repeat (first | apply Kd.R_alloc | apply Kd.R_drewN | apply Kd.R_drew)); exact Kd.R_mono HO_6.out (fun _ hk => trivial)⟩, ⟨by repeat (first | (with_reducible first | exact HB.out | apply below_alloc | apply pw_below_drewN | apply below_drew1) | exact HB.out)⟩⟩
                    · rw [if_neg c41] at H
                      have c41b0 : ((t213.length : Int) == (Int.tmod (wrap64 (a0)) 20)) = false := beq_eq_false_iff_ne.mpr c41
                      have c41b1 : ((t213.length : Int) != (Int.tmod (wrap64 (a0)) 20)) = true := bne_iff_ne.mpr c41
                      have H' := Aside0.mk H
                      clear H
                      obtain ⟨Ao49, co49, eo49⟩ := Kd.R_slice HO_6.out
                      subst eo49
                      go_wp2
                      repeat (go_quiet (fail); try go_wp2)
                      go_meet
                      case rel => exact ⟨_, (true), (by first | rfl | (simp; done) | (simp [*]; done)), H', ⟨by have := HJ2.out; have := HK2.out; first | omega | exact Nat.le_refl _⟩, ⟨by (with_reducible repeat (first | apply Kd.R_alloc | apply Kd.R_drewN | apply Kd.R_drew)); exact HO_6.out⟩, ⟨by repeat (first | (with_reducible first | exact HB.out | apply below_alloc | apply pw_below_drewN | apply below_drew1) | exact HB.out)⟩⟩
                  · rw [if_neg c40] at H
                    have c40b0 : (t214 == 0) = false := beq_eq_false_iff_ne.mpr c40
                    have c40b1 : (t214 != 0) = true := bne_iff_ne.mpr c40
                    (first | rw [c40b0] | (simp only [i64_w, i32_w]; rw [c40b0]) | skip)
                    have H' := Aside0.mk H
                    clear H
                    go_wp2
                    repeat (go_quiet (fail); try go_wp2)
                    go_meet
                    case rel => exact ⟨_, (true), (by first | rfl | (simp; done) | (simp [*]; done)), H', ⟨by have := HJ2.out; have := HK2.out; first | omega | exact Nat.le_refl _⟩, ⟨by (with_reducible repeat (first | apply Kd.R_alloc | apply Kd.R_drewN | apply Kd.R_drew)); exact HO_6.out⟩, ⟨by repeat (first | (with_reducible first | exact HB.out | apply below_alloc | apply pw_below_drewN | apply below_drew1) | exact HB.out)⟩⟩
                case rest =>
                  clear HC39
                  try clear c1
                  try clear c2
                  try clear p2
                  try clear q2
                  try clear hx2
                  try clear c3
                  try clear c4
                  try clear c5
                  try clear c6
                  try clear c6b0
                  try clear c6b1
                  try clear p6
                  try clear c12
                  try clear c22
                  try clear c22b0
                  try clear p22
                  try clear q22
                  try clear hx22
                  try clear c23
                  try clear c25
                  try clear c25b0
                  try clear c26
                  try clear c26b0
                  try clear c28
                  try clear c29
                  try clear c29b0
                  try clear c29b1
                  try clear c30
                  try clear c30b0
                  try clear c30b1
                  try clear c30b2
                  try clear c40
                  try clear c40b0
                  try clear c40b1
                  try clear c41
                  try clear c41b0
                  try clear c41b1
                  try clear hx220_0
                  try clear p2
                  try clear p220
                  try clear p6
                  try clear q220
                  obtain ⟨kq, x89_38, rfl, HA, HJ38, HO_6, HB⟩ := hcut
                  cases kq with
                  | zero => exact absurd HA.out (by simp [arlinklaw23_OrderTopological.j2])
                  | succ kj38 =>
                    have H := HA.out
                    clear HA
                    simp only [arlinklaw23_OrderTopological.j2] at H
                    by_cases c50 : x89_38 = true
                    · subst c50
                      have H1 : (some false) = some r := by rw [if_pos rfl] at H; exact H
                      clear H
                      have H := H1
                      clear H1
                      obtain rfl := Option.some.inj H
                      go_wp2
                      repeat (go_quiet (fail); try go_wp2)
                      go_ret
                      exact ⟨by first | rfl | (simp [errW_none, errW_some] <;> rfl) | (simp [*, errW_none, errW_some] <;> rfl), by repeat (first | (with_reducible first | exact HB.out | apply below_alloc | apply pw_below_drewN | apply below_drew1) | exact HB.out)⟩
                    · replace c50 := Bool.eq_false_iff.mpr c50
                      subst c50
                      have H1 : (if 0 ≤ (Int.tmod (wrap64 (a0)) 20) then (if ((Int.tmod (wrap64 (a0)) 20) : Int).toNat ≤ 35184372088832 then (arlinklaw23_OrderTopological.l1 kj38 l1 (Int.tmod (wrap64 (a0)) 20) t213 (List.replicate ((Int.tmod (wrap64 (a0)) 20) : Int).toNat 0) 0) else (none)) else (none)) = some r := by rw [if_neg (show ¬ (false = true) by decide)] at H; exact H
                      clear H
                      have H := H1
                      clear H1
                      obtain ⟨ji51, hji51⟩ : ∃ j_ : Int, (Int.tmod (wrap64 (a0)) 20) = j_ := ⟨_, rfl⟩
                      (try rw [hji51])
                      replace H : (if 0 ≤ (ji51) then (if ((ji51) : Int).toNat ≤ 35184372088832 then (arlinklaw23_OrderTopological.l1 kj38 l1 (ji51) t213 (List.replicate ((ji51) : Int).toNat 0) 0) else (none)) else (none)) = some r := by first | (rw [hji51] at H; exact H) | (simp only [hji51] at H ⊢; exact H)
                      (try rw [hji51] at c22b0)
                      by_cases c52 : 0 ≤ (ji51)
                      · rw [if_pos c52] at H
                        have c52b0 := eq_true c52
                        have c52b1 : decide (0 ≤ (ji51)) = true := decide_eq_true c52
                        clear c52
                        by_cases c53 : ((ji51) : Int).toNat ≤ 35184372088832
                        · rw [if_pos c53] at H
                          have c53b0 := eq_true c53
                          have c53b1 : decide (((ji51) : Int).toNat ≤ 35184372088832) = true := decide_eq_true c53
                          clear c53
                          obtain ⟨y233, hy233⟩ : ∃ y_ : List Int, y_ = (List.replicate ((ji51) : Int).toNat 0) := ⟨_, rfl⟩
                          replace H : (arlinklaw23_OrderTopological.l1 kj38 l1 (ji51) t213 y233 0) = some r := by first | (rw [hy233]; with_reducible exact H) | (have H2_ := (Option.bind_some _ _).symm.trans H; rw [hy233]; with_reducible exact H2_) | (have H2_ := (Option.bind_some _ _).symm.trans H; with_reducible exact H2_) | with_reducible exact H | (rw [hy233]; exact H) | exact H
                          have Ny233 := Aside0.mk hy233
                          clear hy233
                          have H' := Aside0.mk H
                          clear H
                          go_wp2_with (first | ((with_reducible refine gate_dst (N := 91) rfl ?_); (try (refine gate_guard (by rfl) ?_; dsimp only)); refine Kd.R_make (Kd.int .i64) _ 3 rfl (N := 91) rfl 24 _ _ rfl (ji51) rfl rfl Try.underlying24 (.int .i64 0) 8 info3 rfl (by decide) (by omega) 0 (ok := fun _ => True) (okp := fun _ => True) rfl (fun _ hk => hk) trivial (of_decide_eq_true (by first | (with_reducible assumption) | assumption)) (Nat.le_trans (Nat.mul_le_mul_right _ (of_decide_eq_true (by first | (with_reducible assumption) | assumption) : (ji51).toNat ≤ 35184372088832)) (by omega)) (Below.refl _ _) (Nat.le_refl _) ?_; intro v234 w54 ho55 hb hg_ hnew_; clear hg_ hnew_; (first | rw [← Ny233.out] at ho55 | (simp only [Int.reduceToNat] at ho55; rw [← Ny233.out] at ho55)); have n0_ := Aside0.mk (Kd.R_elder' (by (with_reducible repeat (first | apply Kd.R_alloc | apply Kd.R_drewN | apply Kd.R_drew)); exact HO_6.out) (Kd.R_base ho55) hb); have n1_ := Aside0.mk (Kd.R_lower (Kd.R_new' ho55 (Kd.R_lt (by (with_reducible repeat (first | apply Kd.R_alloc | apply Kd.R_drewN | apply Kd.R_drew)); exact HO_6.out))) (below_size (by repeat (first | (with_reducible first | exact HB.out | apply below_alloc | apply pw_below_drewN | apply below_drew1) | exact HB.out)))); have n2_ := Aside0.mk (below_step (by repeat (first | (with_reducible first | exact HB.out | apply below_alloc | apply pw_below_drewN | apply below_drew1) | exact HB.out)) hb); clear HO_6; clear HB; have HO_6 := n0_; have HO235 := n1_; have HB := n2_; clear n0_ n1_ n2_; clear hb ho55))
                          repeat (go_quiet (first | ((with_reducible refine gate_dst (N := 91) rfl ?_); (try (refine gate_guard (by rfl) ?_; dsimp only)); refine Kd.R_make (Kd.int .i64) _ 3 rfl (N := 91) rfl 24 _ _ rfl (ji51) rfl rfl Try.underlying24 (.int .i64 0) 8 info3 rfl (by decide) (by omega) 0 (ok := fun _ => True) (okp := fun _ => True) rfl (fun _ hk => hk) trivial (of_decide_eq_true (by first | (with_reducible assumption) | assumption)) (Nat.le_trans (Nat.mul_le_mul_right _ (of_decide_eq_true (by first | (with_reducible assumption) | assumption) : (ji51).toNat ≤ 35184372088832)) (by omega)) (Below.refl _ _) (Nat.le_refl _) ?_; intro v234 w54 ho55 hb hg_ hnew_; clear hg_ hnew_; (first | rw [← Ny233.out] at ho55 | (simp only [Int.reduceToNat] at ho55; rw [← Ny233.out] at ho55)); have n0_ := Aside0.mk (Kd.R_elder' (by (with_reducible repeat (first | apply Kd.R_alloc | apply Kd.R_drewN | apply Kd.R_drew)); exact HO_6.out) (Kd.R_base ho55) hb); have n1_ := Aside0.mk (Kd.R_lower (Kd.R_new' ho55 (Kd.R_lt (by (with_reducible repeat (first | apply Kd.R_alloc | apply Kd.R_drewN | apply Kd.R_drew)); exact HO_6.out))) (below_size (by repeat (first | (with_reducible first | exact HB.out | apply below_alloc | apply pw_below_drewN | apply below_drew1) | exact HB.out)))); have n2_ := Aside0.mk (below_step (by repeat (first | (with_reducible first | exact HB.out | apply below_alloc | apply pw_below_drewN | apply below_drew1) | exact HB.out)) hb); clear HO_6; clear HB; have HO_6 := n0_; have HO235 := n1_; have HB := n2_; clear n0_ n1_ n2_; clear hb ho55)); try go_wp2_with (first | ((with_reducible refine gate_dst (N := 91) rfl ?_); (try (refine gate_guard (by rfl) ?_; dsimp only)); refine Kd.R_make (Kd.int .i64) _ 3 rfl (N := 91) rfl 24 _ _ rfl (ji51) rfl rfl Try.underlying24 (.int .i64 0) 8 info3 rfl (by decide) (by omega) 0 (ok := fun _ => True) (okp := fun _ => True) rfl (fun _ hk => hk) trivial (of_decide_eq_true (by first | (with_reducible assumption) | assumption)) (Nat.le_trans (Nat.mul_le_mul_right _ (of_decide_eq_true (by first | (with_reducible assumption) | assumption) : (ji51).toNat ≤ 35184372088832)) (by omega)) (Below.refl _ _) (Nat.le_refl _) ?_; intro v234 w54 ho55 hb hg_ hnew_; clear hg_ hnew_; (first | rw [← Ny233.out] at ho55 | (simp only [Int.reduceToNat] at ho55; rw [← Ny233.out] at ho55)); have n0_ := Aside0.mk (Kd.R_elder' (by (with_reducible repeat (first | apply Kd.R_alloc | apply Kd.R_drewN | apply Kd.R_drew)); exact HO_6.out) (Kd.R_base ho55) hb); have n1_ := Aside0.mk (Kd.R_lower (Kd.R_new' ho55 (Kd.R_lt (by (with_reducible repeat (first | apply Kd.R_alloc | apply Kd.R_drewN | apply Kd.R_drew)); exact HO_6.out))) (below_size (by repeat (first | (with_reducible first | exact HB.out | apply below_alloc | apply pw_below_drewN | apply below_drew1) | exact HB.out)))); have n2_ := Aside0.mk (below_step (by repeat (first | (with_reducible first | exact HB.out | apply below_alloc | apply pw_below_drewN | apply below_drew1) | exact HB.out)) hb); clear HO_6; clear HB; have HO_6 := n0_; have HO235 := n1_; have HB := n2_; clear n0_ n1_ n2_; clear hb ho55)))
                          go_loopg [12] kj38 (fun kq v12 w' => ∃ (x11_4 : List Int) (x12_4 : Int), v12 = .int .i64 x12_4 ∧ Aside0 (arlinklaw23_OrderTopological.l1 kq l1 (ji51) t213 x11_4 x12_4 = some r) ∧ Aside0 (kq ≤ kj38) ∧ Aside0 (Kd.R (Kd.int .i64) 3 w' w.heap.size (fun k_ => some k_ ≠ (v234 : Value).ownBlock) v215 t213) ∧ Aside0 (Kd.R (Kd.int .i64) 3 w' w.heap.size (fun k_ => some k_ ≠ (v215 : Value).ownBlock) v234 x11_4) ∧ Aside0 (Below w.heap.size w w'))
                          case atStart => exact ⟨(y233), (0), (by first | rfl | (simp; done) | (simp [*]; done)), H', ⟨Nat.le_refl _⟩, ⟨by (with_reducible repeat (first | apply Kd.R_alloc | apply Kd.R_drewN | apply Kd.R_drew)); exact Kd.R_mono HO_6.out (fun _ hk => hk.2)⟩, ⟨by (with_reducible repeat (first | apply Kd.R_alloc | apply Kd.R_drewN | apply Kd.R_drew)); exact Kd.R_mono HO235.out (fun _ hk => hk.2)⟩, ⟨by repeat (first | (with_reducible first | exact HB.out | apply below_alloc | apply pw_below_drewN | apply below_drew1) | exact HB.out)⟩⟩
                          case round =>
                            clear H'
                            try clear c1
                            try clear c2
                            try clear p2
                            try clear q2
                            try clear hx2
                            try clear c3
                            try clear c4
                            try clear c5
                            try clear c6
                            try clear c6b0
                            try clear c6b1
                            try clear p6
                            try clear c12
                            try clear c22
                            try clear c22b0
                            try clear p22
                            try clear q22
                            try clear hx22
                            try clear c23
                            try clear c25
                            try clear c25b0
                            try clear c26
                            try clear c26b0
                            try clear c28
                            try clear c29
                            try clear c29b0
                            try clear c29b1
                            try clear c30
                            try clear c30b0
                            try clear c30b1
                            try clear c30b2
                            try clear c40
                            try clear c40b0
                            try clear c40b1
                            try clear c41
                            try clear c41b0
                            try clear c41b1
                            try clear c50
                            try clear c52
                            try clear c52b0
                            try clear c52b1
                            try clear c53
                            try clear c53b0
                            try clear c53b1
                            try clear hx220_0
                            try clear p2
                            try clear p22
                            try clear p220
                            try clear p6
                            try clear q2
                            try clear q22
                            try clear q220
                            obtain ⟨x11_4, x12_4, rfl, HA, HK4, HO_6, HO_11, HB⟩ := hrel
                            cases gk with
                            | zero => exact absurd HA.out (by simp [arlinklaw23_OrderTopological.l1])
                            | succ k4 =>
                              have H := HA.out
                              clear HA
                              simp only [arlinklaw23_OrderTopological.l1] at H
                              by_cases c56 : x12_4 < (ji51)
                              · rw [if_pos c56] at H
                                have c56b0 : decide (x12_4 < (ji51)) = true := decide_eq_true c56
                                clear c56
                                by_cases c57 : 0 ≤ x12_4
                                · rw [if_pos c57] at H
                                  have c57b0 : decide (0 ≤ x12_4) = true := decide_eq_true c57
                                  clear c57
                                  by_cases c58 : x12_4 < (x11_4.length : Int)
                                  · rw [if_pos c58] at H
                                    have c58b0 : decide (x12_4 < (x11_4.length : Int)) = true := decide_eq_true c58
                                    clear c58
                                    obtain ⟨y236, hy236⟩ : ∃ y_ : List Int, y_ = (x11_4.set (x12_4 : Int).toNat (-1)) := ⟨_, rfl⟩
                                    replace H : (arlinklaw23_OrderTopological.l1 k4 l1 (ji51) t213 y236 (wrap64 (x12_4 + 1))) = some r := by first | (rw [hy236]; with_reducible exact H) | (have H2_ := (Option.bind_some _ _).symm.trans H; rw [hy236]; with_reducible exact H2_) | (have H2_ := (Option.bind_some _ _).symm.trans H; with_reducible exact H2_) | with_reducible exact H | (rw [hy236]; exact H) | exact H
                                    have Ny236 := Aside0.mk hy236
                                    clear hy236
                                    have H' := Aside0.mk H
                                    clear H
                                    have p59 : 0 ≤ (x12_4 : Int) := of_decide_eq_true (by first | (with_reducible assumption) | assumption)
                                    have q59 : (x12_4 : Int) < ((x11_4.length : Int) : Int) := of_decide_eq_true (by first | (with_reducible assumption) | assumption)
                                    obtain ⟨go59, co59, eo59, gb59, gl59, cl59, HG59⟩ := Kd.R_form HO_11.out (by omega)
                                    (first | cases eo59 | (injection eo59 with ea_ en_ ec_; (first | subst ea_ | (injection ea_ with ea_; subst ea_)); subst ec_; clear en_))
                                    have GB59 := Aside0.mk gb59
                                    have GG59 := Aside0.mk HG59
                                    clear gb59 gl59 HG59
                                    obtain ⟨hx59_0, hf59_0⟩ := Kd.R_celln 0 HO_11.out (x12_4 : Int) p59 q59
                                    replace p59 := eq_true p59
                                    replace q59 := eq_true q59
                                    have HP60 := Kd.R_putg HO_11.out (x12_4 : Int) (-1)
                                    go_wp2_with (first | ((with_reducible refine gate_store (t := 3) (p := 99) rfl ?_); (try (rw [drewN_self wr]; generalize hq_ : World.drewN wr _ = wr; have n0_ := Aside0.mk (Kd.R_at hq_ HO_6.out); have n1_ := Aside0.mk (Kd.R_at hq_ HO_11.out); have n2_ := Aside0.mk (below_at hq_ HB.out); clear hq_ HO_6 HO_11 HB; have HO_6 := n0_; have HO_11 := n1_; have HB := n2_; clear n0_ n1_ n2_; (try (have HP60 := Kd.R_putg HO_11.out (x12_4 : Int) (-1))))); refine store_event (t := 3) (p := 99) (v := ?vo_w61) (w1 := (wr.setCell ⟨go59, (x12_4 : Int).toNat, none⟩ (.int .i64 (-1)))) ?hg ?ho ?hn ?hr ?_; (case ho => rfl); (case hg => rfl); (case hn => rfl); (case hr => first | (go_simp; done) | (go_simp; rfl)); intro w61 hw; have hg : wr.grownBy w61 (some go59) := (by rw [hw]; exact HP60.2); have hp_ : Kd.R (Kd.int .i64) 3 w61 w.heap.size (fun k_ => some k_ ≠ (v215 : Value).ownBlock) (.slice (some ⟨go59, 0, none⟩) x11_4.length co59) y236 := (by rw [hw, Ny236.out]; exact HP60.1); clear HP60; have n0_ := Aside0.mk (Kd.R_after (v := (.slice (some ⟨go59, 0, none⟩) x11_4.length co59)) (v1 := (.slice (some ⟨go59, 0, none⟩) x11_4.length co59)) (ok := (fun _ => True)) (by (with_reducible repeat (first | apply Kd.R_alloc | apply Kd.R_drewN | apply Kd.R_drew)); exact Kd.R_mono HO_6.out (fun _ hk => ⟨trivial, hk⟩)) hg (.inl rfl)); have n1_ := Aside0.mk (hp_); have n2_ := Aside0.mk ((by rw [hw]; exact below_set (HB.out) GB59.out : Below w.heap.size w w61)); clear HO_6; clear HO_11; clear HB; have HO_6 := n0_; have HO_11 := n1_; have HB := n2_; clear n0_ n1_ n2_; clear hg hw hp_))
                                    repeat (go_quiet (first | ((with_reducible refine gate_store (t := 3) (p := 99) rfl ?_); (try (rw [drewN_self wr]; generalize hq_ : World.drewN wr _ = wr; have n0_ := Aside0.mk (Kd.R_at hq_ HO_6.out); have n1_ := Aside0.mk (Kd.R_at hq_ HO_11.out); have n2_ := Aside0.mk (below_at hq_ HB.out); clear hq_ HO_6 HO_11 HB; have HO_6 := n0_; have HO_11 := n1_; have HB := n2_; clear n0_ n1_ n2_; (try (have HP60 := Kd.R_putg HO_11.out (x12_4 : Int) (-1))))); refine store_event (t := 3) (p := 99) (v := ?vo_w61) (w1 := (wr.setCell ⟨go59, (x12_4 : Int).toNat, none⟩ (.int .i64 (-1)))) ?hg ?ho ?hn ?hr ?_; (case ho => rfl); (case hg => rfl); (case hn => rfl); (case hr => first | (go_simp; done) | (go_simp; rfl)); intro w61 hw; have hg : wr.grownBy w61 (some go59) := (by rw [hw]; exact HP60.2); have hp_ : Kd.R (Kd.int .i64) 3 w61 w.heap.size (fun k_ => some k_ ≠ (v215 : Value).ownBlock) (.slice (some ⟨go59, 0, none⟩) x11_4.length co59) y236 := (by rw [hw, Ny236.out]; exact HP60.1); clear HP60; have n0_ := Aside0.mk (Kd.R_after (v := (.slice (some ⟨go59, 0, none⟩) x11_4.length co59)) (v1 := (.slice (some ⟨go59, 0, none⟩) x11_4.length co59)) (ok := (fun _ => True)) (by (with_reducible repeat (first | apply Kd.R_alloc | apply Kd.R_drewN | apply Kd.R_drew)); exact Kd.R_mono HO_6.out (fun _ hk => ⟨trivial, hk⟩)) hg (.inl rfl)); have n1_ := Aside0.mk (hp_); have n2_ := Aside0.mk ((by rw [hw]; exact below_set (HB.out) GB59.out : Below w.heap.size w w61)); clear HO_6; clear HO_11; clear HB; have HO_6 := n0_; have HO_11 := n1_; have HB := n2_; clear n0_ n1_ n2_; clear hg hw hp_)); try go_wp2_with (first | ((with_reducible refine gate_store (t := 3) (p := 99) rfl ?_); (try (rw [drewN_self wr]; generalize hq_ : World.drewN wr _ = wr; have n0_ := Aside0.mk (Kd.R_at hq_ HO_6.out); have n1_ := Aside0.mk (Kd.R_at hq_ HO_11.out); have n2_ := Aside0.mk (below_at hq_ HB.out); clear hq_ HO_6 HO_11 HB; have HO_6 := n0_; have HO_11 := n1_; have HB := n2_; clear n0_ n1_ n2_; (try (have HP60 := Kd.R_putg HO_11.out (x12_4 : Int) (-1))))); refine store_event (t := 3) (p := 99) (v := ?vo_w61) (w1 := (wr.setCell ⟨go59, (x12_4 : Int).toNat, none⟩ (.int .i64 (-1)))) ?hg ?ho ?hn ?hr ?_; (case ho => rfl); (case hg => rfl); (case hn => rfl); (case hr => first | (go_simp; done) | (go_simp; rfl)); intro w61 hw; have hg : wr.grownBy w61 (some go59) := (by rw [hw]; exact HP60.2); have hp_ : Kd.R (Kd.int .i64) 3 w61 w.heap.size (fun k_ => some k_ ≠ (v215 : Value).ownBlock) (.slice (some ⟨go59, 0, none⟩) x11_4.length co59) y236 := (by rw [hw, Ny236.out]; exact HP60.1); clear HP60; have n0_ := Aside0.mk (Kd.R_after (v := (.slice (some ⟨go59, 0, none⟩) x11_4.length co59)) (v1 := (.slice (some ⟨go59, 0, none⟩) x11_4.length co59)) (ok := (fun _ => True)) (by (with_reducible repeat (first | apply Kd.R_alloc | apply Kd.R_drewN | apply Kd.R_drew)); exact Kd.R_mono HO_6.out (fun _ hk => ⟨trivial, hk⟩)) hg (.inl rfl)); have n1_ := Aside0.mk (hp_); have n2_ := Aside0.mk ((by rw [hw]; exact below_set (HB.out) GB59.out : Below w.heap.size w w61)); clear HO_6; clear HO_11; clear HB; have HO_6 := n0_; have HO_11 := n1_; have HB := n2_; clear n0_ n1_ n2_; clear hg hw hp_)))
                                    go_roundg k4
                                    case measure => have := HJ2.out; have := HK2.out; have := HJ38.out; have := HK4.out; omega
                                    case rel => exact ⟨(y236), (wrap64 (x12_4 + 1)), (by first | rfl | (simp; done) | (simp [*]; done)), H', ⟨by have := HJ2.out; have := HK2.out; have := HJ38.out; have := HK4.out; omega⟩, ⟨by (with_reducible repeat (first | apply Kd.R_alloc | apply Kd.R_drewN | apply Kd.R_drew)); exact Kd.R_mono HO_6.out (fun _ hk => hk.2)⟩, ⟨by (with_reducible repeat (first | apply Kd.R_alloc | apply Kd.R_drewN | apply Kd.R_drew)); exact HO_11.out⟩, ⟨by repeat (first | (with_reducible first | exact HB.out | apply below_alloc | apply pw_below_drewN | apply below_drew1) | exact HB.out)⟩⟩
                                  · rw [if_neg c58] at H
                                    exact absurd H (by simp)
                                · rw [if_neg c57] at H
                                  exact absurd H (by simp)
                              · rw [if_neg c56] at H
                                have c56b0 : decide (x12_4 < (ji51)) = false := decide_eq_false c56
                                clear c56
                                have H' := Aside0.mk H
                                clear H
                                go_wp2
                                repeat (go_quiet (fail); try go_wp2)
                                go_loopg [13] k4 (fun kq v13 w' => ∃ (x11_5 : List Int) (x13_5 : Int), v13 = .int .i64 x13_5 ∧ Aside0 (arlinklaw23_OrderTopological.l2 kq l1 (ji51) t213 x11_5 x13_5 = some r) ∧ Aside0 (kq ≤ k4) ∧ Aside0 (Kd.R (Kd.int .i64) 3 w' w.heap.size (fun k_ => some k_ ≠ (v234 : Value).ownBlock) v215 t213) ∧ Aside0 (Kd.R (Kd.int .i64) 3 w' w.heap.size (fun k_ => some k_ ≠ (v215 : Value).ownBlock) v234 x11_5) ∧ Aside0 (Below w.heap.size w w'))
                                case atStart => exact ⟨(x11_4), (0), (by first | rfl | (simp; done) | (simp [*]; done)), H', ⟨Nat.le_refl _⟩, ⟨by (with_reducible repeat (first | apply Kd.R_alloc | apply Kd.R_drewN | apply Kd.R_drew)); exact HO_6.out⟩, ⟨by (with_reducible repeat (first | apply Kd.R_alloc | apply Kd.R_drewN | apply Kd.R_drew)); exact HO_11.out⟩, ⟨by repeat (first | (with_reducible first | exact HB.out | apply below_alloc | apply pw_below_drewN | apply below_drew1) | exact HB.out)⟩⟩
                                case round =>
                                  clear H'
                                  try clear c1
                                  try clear c2
                                  try clear p2
                                  try clear q2
                                  try clear hx2
                                  try clear c3
                                  try clear c4
                                  try clear c5
                                  try clear p5
                                  try clear q5
                                  try clear hx5
                                  try clear hf5
                                  try clear c6
                                  try clear c6b0
                                  try clear c6b1
                                  try clear p6
                                  try clear c12
                                  try clear c22
                                  try clear c22b0
                                  try clear p22
                                  try clear q22
                                  try clear hx22
                                  try clear c23
                                  try clear c25
                                  try clear c25b0
                                  try clear c26
                                  try clear c26b0
                                  try clear c28
                                  try clear c29
                                  try clear c29b0
                                  try clear c29b1
                                  try clear c30
                                  try clear c30b0
                                  try clear c30b1
                                  try clear c30b2
                                  try clear c40
                                  try clear c40b0
                                  try clear c40b1
                                  try clear c41
                                  try clear c41b0
                                  try clear c41b1
                                  try clear c50
                                  try clear c52
                                  try clear c52b0
                                  try clear c52b1
                                  try clear c53
                                  try clear c53b0
                                  try clear c53b1
                                  try clear c56
                                  try clear c56b0
                                  try clear c57
                                  try clear c57b0
                                  try clear c58
                                  try clear c58b0
                                  try clear p59
                                  try clear q59
                                  try clear hx59
                                  try clear hf59
                                  try clear hx220_0
                                  try clear hx59_0
                                  try clear p2
                                  try clear p22
                                  try clear p220
                                  try clear p59
                                  try clear p6
                                  try clear q2
                                  try clear q22
                                  try clear q220
                                  try clear q59
                                  obtain ⟨x11_5, x13_5, rfl, HA, HK5, HO_6, HO_11, HB⟩ := hrel
                                  cases gk with
                                  | zero => exact absurd HA.out (by simp [arlinklaw23_OrderTopological.l2])
                                  | succ k5 =>
                                    have H := HA.out
                                    clear HA
                                    simp only [arlinklaw23_OrderTopological.l2] at H
                                    by_cases c62 : x13_5 < (ji51)
                                    · rw [if_pos c62] at H
                                      have c62b0 : decide (x13_5 < (ji51)) = true := decide_eq_true c62
                                      clear c62
                                      by_cases c63 : 0 ≤ x13_5
                                      · rw [if_pos c63] at H
                                        have c63b0 : decide (0 ≤ x13_5) = true := decide_eq_true c63
                                        clear c63
                                        by_cases c64 : x13_5 < (t213.length : Int)
                                        · rw [if_pos c64] at H
                                          have c64b0 : decide (x13_5 < (t213.length : Int)) = true := decide_eq_true c64
                                          clear c64
                                          by_cases c65 : (rd t213 x13_5) < 0
                                          · rw [if_pos c65] at H
                                            have c65b0 : decide ((rd t213 x13_5) < 0) = true := decide_eq_true c65
                                            clear c65
                                            obtain rfl := Option.some.inj H
                                            obtain ⟨Ao66, co66, eo66⟩ := Kd.R_slice HO_6.out
                                            subst eo66
                                            have p237 : 0 ≤ (x13_5 : Int) := of_decide_eq_true (by first | (with_reducible assumption) | assumption)
                                            have q237 : x13_5 < (t213.length : Int) := of_decide_eq_true (by first | (with_reducible assumption) | assumption)
                                            obtain ⟨ad237, e237, hx237_0⟩ := Kd.at_int (Kd.R_reads' HO_6.out).2.2 x13_5 p237 q237
                                            cases e237
                                            replace p237 := eq_true p237
                                            replace q237 := eq_true q237
                                            go_wp2
                                            repeat (go_quiet (fail); try go_wp2)
                                            go_ret
                                            exact ⟨by first | rfl | (simp [errW_none, errW_some] <;> rfl) | (simp only [← hji51]; first | rfl | (simp [errW_none, errW_some] <;> rfl)) | (simp [*, errW_none, errW_some] <;> rfl), by repeat (first | (with_reducible first | exact HB.out | apply below_alloc | apply pw_below_drewN | apply below_drew1) | exact HB.out)⟩
                                          · rw [if_neg c65] at H
                                            have c65b0 : decide ((rd t213 x13_5) < 0) = false := decide_eq_false c65
                                            clear c65
                                            by_cases c67 : (rd t213 x13_5) ≥ (ji51)
                                            · rw [if_pos c67] at H
                                              have c67b0 : decide ((ji51) ≤ (rd t213 x13_5)) = true := decide_eq_true c67
                                              clear c67
                                              obtain rfl := Option.some.inj H
                                              obtain ⟨Ao68, co68, eo68⟩ := Kd.R_slice HO_6.out
                                              subst eo68
                                              have p237 : 0 ≤ (x13_5 : Int) := of_decide_eq_true (by first | (with_reducible assumption) | assumption)
                                              have q237 : x13_5 < (t213.length : Int) := of_decide_eq_true (by first | (with_reducible assumption) | assumption)
                                              obtain ⟨ad237, e237, hx237_0⟩ := Kd.at_int (Kd.R_reads' HO_6.out).2.2 x13_5 p237 q237
                                              cases e237
                                              replace p237 := eq_true p237
                                              replace q237 := eq_true q237
                                              have p238 : 0 ≤ (x13_5 : Int) := of_decide_eq_true (by first | (with_reducible assumption) | assumption)
                                              have q238 : x13_5 < (t213.length : Int) := of_decide_eq_true (by first | (with_reducible assumption) | assumption)
                                              obtain ⟨ad238, e238, hx238_0⟩ := Kd.at_int (Kd.R_reads' HO_6.out).2.2 x13_5 p238 q238
                                              obtain rfl : ad237 = ad238 := (by injection e238)
                                              replace p238 := eq_true p238
                                              replace q238 := eq_true q238
                                              go_wp2
                                              repeat (go_quiet (fail); try go_wp2)
                                              go_ret
                                              exact ⟨by first | rfl | (simp [errW_none, errW_some] <;> rfl) | (simp only [← hji51]; first | rfl | (simp [errW_none, errW_some] <;> rfl)) | (simp [*, errW_none, errW_some] <;> rfl), by repeat (first | (with_reducible first | exact HB.out | apply below_alloc | apply pw_below_drewN | apply below_drew1) | exact HB.out)⟩
                                            · rw [if_neg c67] at H
                                              have c67b0 : decide ((ji51) ≤ (rd t213 x13_5)) = false := decide_eq_false c67
                                              clear c67
                                              by_cases c69 : 0 ≤ (rd t213 x13_5)
                                              · rw [if_pos c69] at H
                                                have c69b0 : decide (0 ≤ (rd t213 x13_5)) = true := decide_eq_true c69
                                                clear c69
                                                by_cases c70 : (rd t213 x13_5) < (x11_5.length : Int)
                                                · rw [if_pos c70] at H
                                                  have c70b0 : decide ((rd t213 x13_5) < (x11_5.length : Int)) = true := decide_eq_true c70
                                                  clear c70
                                                  by_cases c71 : (rd x11_5 (rd t213 x13_5)) ≥ 0
                                                  · rw [if_pos c71] at H
                                                    have c71b0 : decide (0 ≤ (rd x11_5 (rd t213 x13_5))) = true := decide_eq_true c71
                                                    clear c71
                                                    obtain rfl := Option.some.inj H
                                                    obtain ⟨Ao72, co72, eo72⟩ := Kd.R_slice HO_6.out
                                                    subst eo72
                                                    have p237 : 0 ≤ (x13_5 : Int) := of_decide_eq_true (by first | (with_reducible assumption) | assumption)
                                                    have q237 : x13_5 < (t213.length : Int) := of_decide_eq_true (by first | (with_reducible assumption) | assumption)
                                                    obtain ⟨ad237, e237, hx237_0⟩ := Kd.at_int (Kd.R_reads' HO_6.out).2.2 x13_5 p237 q237
                                                    cases e237
                                                    replace p237 := eq_true p237
                                                    replace q237 := eq_true q237
                                                    have p238 : 0 ≤ (x13_5 : Int) := of_decide_eq_true (by first | (with_reducible assumption) | assumption)
                                                    have q238 : x13_5 < (t213.length : Int) := of_decide_eq_true (by first | (with_reducible assumption) | assumption)
                                                    obtain ⟨ad238, e238, hx238_0⟩ := Kd.at_int (Kd.R_reads' HO_6.out).2.2 x13_5 p238 q238
                                                    obtain rfl : ad237 = ad238 := (by injection e238)
                                                    replace p238 := eq_true p238
                                                    replace q238 := eq_true q238
                                                    have p239 : 0 ≤ (x13_5 : Int) := of_decide_eq_true (by first | (with_reducible assumption) | assumption)
                                                    have q239 : x13_5 < (t213.length : Int) := of_decide_eq_true (by first | (with_reducible assumption) | assumption)
                                                    obtain ⟨ad239, e239, hx239_0⟩ := Kd.at_int (Kd.R_reads' HO_6.out).2.2 x13_5 p239 q239
                                                    obtain rfl : ad237 = ad239 := (by injection e239)
                                                    replace p239 := eq_true p239
                                                    replace q239 := eq_true q239
                                                    obtain ⟨Ao73, co73, eo73⟩ := Kd.R_slice HO_11.out
                                                    subst eo73
                                                    have p240 : 0 ≤ ((rd t213 x13_5) : Int) := of_decide_eq_true (by first | (with_reducible assumption) | assumption)
                                                    have q240 : (rd t213 x13_5) < (x11_5.length : Int) := of_decide_eq_true (by first | (with_reducible assumption) | assumption)
                                                    obtain ⟨ad240, e240, hx240_0⟩ := Kd.at_int (Kd.R_reads' HO_11.out).2.2 (rd t213 x13_5) p240 q240
                                                    cases e240
                                                    replace p240 := eq_true p240
                                                    replace q240 := eq_true q240
                                                    go_wp2
                                                    repeat (go_quiet (fail); try go_wp2)
                                                    go_ret
                                                    exact ⟨by first | rfl | (simp [errW_none, errW_some] <;> rfl) | (simp only [← hji51]; first | rfl | (simp [errW_none, errW_some] <;> rfl)) | (simp [*, errW_none, errW_some] <;> rfl), by repeat (first | (with_reducible first | exact HB.out | apply below_alloc | apply pw_below_drewN | apply below_drew1) | exact HB.out)⟩
                                                  · rw [if_neg c71] at H
                                                    have c71b0 : decide (0 ≤ (rd x11_5 (rd t213 x13_5))) = false := decide_eq_false c71
                                                    clear c71
                                                    obtain ⟨y242, hy242⟩ : ∃ y_ : List Int, y_ = (x11_5.set ((rd t213 x13_5) : Int).toNat x13_5) := ⟨_, rfl⟩
                                                    replace H : (arlinklaw23_OrderTopological.l2 k5 l1 (ji51) t213 y242 (wrap64 (x13_5 + 1))) = some r := by first | (rw [hy242]; with_reducible exact H) | (have H2_ := (Option.bind_some _ _).symm.trans H; rw [hy242]; with_reducible exact H2_) | (have H2_ := (Option.bind_some _ _).symm.trans H; with_reducible exact H2_) | with_reducible exact H | (rw [hy242]; exact H) | exact H
                                                    have Ny242 := Aside0.mk hy242
                                                    clear hy242
                                                    have H' := Aside0.mk H
                                                    clear H
                                                    obtain ⟨Ao75, co75, eo75⟩ := Kd.R_slice HO_6.out
                                                    subst eo75
                                                    have p237 : 0 ≤ (x13_5 : Int) := of_decide_eq_true (by first | (with_reducible assumption) | assumption)
                                                    have q237 : x13_5 < (t213.length : Int) := of_decide_eq_true (by first | (with_reducible assumption) | assumption)
                                                    obtain ⟨ad237, e237, hx237_0⟩ := Kd.at_int (Kd.R_reads' HO_6.out).2.2 x13_5 p237 q237
                                                    cases e237
                                                    replace p237 := eq_true p237
                                                    replace q237 := eq_true q237
                                                    have p238 : 0 ≤ (x13_5 : Int) := of_decide_eq_true (by first | (with_reducible assumption) | assumption)
                                                    have q238 : x13_5 < (t213.length : Int) := of_decide_eq_true (by first | (with_reducible assumption) | assumption)
                                                    obtain ⟨ad238, e238, hx238_0⟩ := Kd.at_int (Kd.R_reads' HO_6.out).2.2 x13_5 p238 q238
                                                    obtain rfl : ad237 = ad238 := (by injection e238)
                                                    replace p238 := eq_true p238
                                                    replace q238 := eq_true q238
                                                    have p239 : 0 ≤ (x13_5 : Int) := of_decide_eq_true (by first | (with_reducible assumption) | assumption)
                                                    have q239 : x13_5 < (t213.length : Int) := of_decide_eq_true (by first | (with_reducible assumption) | assumption)
                                                    obtain ⟨ad239, e239, hx239_0⟩ := Kd.at_int (Kd.R_reads' HO_6.out).2.2 x13_5 p239 q239
                                                    obtain rfl : ad237 = ad239 := (by injection e239)
                                                    replace p239 := eq_true p239
                                                    replace q239 := eq_true q239
                                                    obtain ⟨Ao76, co76, eo76⟩ := Kd.R_slice HO_11.out
                                                    subst eo76
                                                    have p240 : 0 ≤ ((rd t213 x13_5) : Int) := of_decide_eq_true (by first | (with_reducible assumption) | assumption)
                                                    have q240 : (rd t213 x13_5) < (x11_5.length : Int) := of_decide_eq_true (by first | (with_reducible assumption) | assumption)
                                                    obtain ⟨ad240, e240, hx240_0⟩ := Kd.at_int (Kd.R_reads' HO_11.out).2.2 (rd t213 x13_5) p240 q240
                                                    cases e240
                                                    replace p240 := eq_true p240
                                                    replace q240 := eq_true q240
                                                    have p241 : 0 ≤ (x13_5 : Int) := of_decide_eq_true (by first | (with_reducible assumption) | assumption)
                                                    have q241 : x13_5 < (t213.length : Int) := of_decide_eq_true (by first | (with_reducible assumption) | assumption)
                                                    obtain ⟨ad241, e241, hx241_0⟩ := Kd.at_int (Kd.R_reads' HO_6.out).2.2 x13_5 p241 q241
                                                    obtain rfl : ad237 = ad241 := (by injection e241)
                                                    replace p241 := eq_true p241
                                                    replace q241 := eq_true q241
                                                    have p74 : 0 ≤ ((rd t213 x13_5) : Int) := of_decide_eq_true (by first | (with_reducible assumption) | assumption)
                                                    have q74 : ((rd t213 x13_5) : Int) < ((x11_5.length : Int) : Int) := of_decide_eq_true (by first | (with_reducible assumption) | assumption)
                                                    obtain ⟨go74, co74, eo74, gb74, gl74, cl74, HG74⟩ := Kd.R_form HO_11.out (by omega)
                                                    (first | cases eo74 | (injection eo74 with ea_ en_ ec_; (first | subst ea_ | (injection ea_ with ea_; subst ea_)); subst ec_; clear en_))
                                                    have GB74 := Aside0.mk gb74
                                                    have GG74 := Aside0.mk HG74
                                                    clear gb74 gl74 HG74
                                                    (first | simp only [add_plain] at hx240_0 | skip)
                                                    obtain ⟨hx74_0, hf74_0⟩ := Kd.R_celln 0 HO_11.out ((rd t213 x13_5) : Int) p74 q74
                                                    replace p74 := eq_true p74
                                                    replace q74 := eq_true q74
                                                    have HP77 := Kd.R_putg HO_11.out ((rd t213 x13_5) : Int) x13_5
                                                    go_wp2_with (first | ((with_reducible refine gate_store (t := 3) (p := 134) rfl ?_); (try (rw [drewN_self wr]; generalize hq_ : World.drewN wr _ = wr; have n0_ := Aside0.mk (Kd.R_at hq_ HO_6.out); have n1_ := Aside0.mk (Kd.R_at hq_ HO_11.out); have n2_ := Aside0.mk (below_at hq_ HB.out); clear hq_ HO_6 HO_11 HB; have HO_6 := n0_; have HO_11 := n1_; have HB := n2_; clear n0_ n1_ n2_; (try (have HP77 := Kd.R_putg HO_11.out ((rd t213 x13_5) : Int) x13_5)))); refine store_event (t := 3) (p := 134) (v := ?vo_w78) (w1 := (wr.setCell ⟨go74, ((rd t213 x13_5) : Int).toNat, none⟩ (.int .i64 x13_5))) ?hg ?ho ?hn ?hr ?_; (case ho => rfl); (case hg => rfl); (case hn => rfl); (case hr => first | (go_simp; done) | (go_simp; rfl)); intro w78 hw; have hg : wr.grownBy w78 (some go74) := (by rw [hw]; exact HP77.2); have hp_ : Kd.R (Kd.int .i64) 3 w78 w.heap.size (fun k_ => some k_ ≠ (.slice (some ad237) t213.length co75 : Value).ownBlock) (.slice (some ⟨go74, 0, none⟩) x11_5.length co76) y242 := (by rw [hw, Ny242.out]; exact HP77.1); clear HP77; have n0_ := Aside0.mk (Kd.R_after (v := (.slice (some ⟨go74, 0, none⟩) x11_5.length co76)) (v1 := (.slice (some ⟨go74, 0, none⟩) x11_5.length co76)) (ok := (fun _ => True)) (by (with_reducible repeat (first | apply Kd.R_alloc | apply Kd.R_drewN | apply Kd.R_drew)); exact Kd.R_mono HO_6.out (fun _ hk => ⟨trivial, hk⟩)) hg (.inl rfl)); have n1_ := Aside0.mk (hp_); have n2_ := Aside0.mk ((by rw [hw]; exact below_set (HB.out) GB74.out : Below w.heap.size w w78)); clear HO_6; clear HO_11; clear HB; have HO_6 := n0_; have HO_11 := n1_; have HB := n2_; clear n0_ n1_ n2_; clear hg hw hp_))
                                                    repeat (go_quiet (first | ((with_reducible refine gate_store (t := 3) (p := 134) rfl ?_); (try (rw [drewN_self wr]; generalize hq_ : World.drewN wr _ = wr; have n0_ := Aside0.mk (Kd.R_at hq_ HO_6.out); have n1_ := Aside0.mk (Kd.R_at hq_ HO_11.out); have n2_ := Aside0.mk (below_at hq_ HB.out); clear hq_ HO_6 HO_11 HB; have HO_6 := n0_; have HO_11 := n1_; have HB := n2_; clear n0_ n1_ n2_; (try (have HP77 := Kd.R_putg HO_11.out ((rd t213 x13_5) : Int) x13_5)))); refine store_event (t := 3) (p := 134) (v := ?vo_w78) (w1 := (wr.setCell ⟨go74, ((rd t213 x13_5) : Int).toNat, none⟩ (.int .i64 x13_5))) ?hg ?ho ?hn ?hr ?_; (case ho => rfl); (case hg => rfl); (case hn => rfl); (case hr => first | (go_simp; done) | (go_simp; rfl)); intro w78 hw; have hg : wr.grownBy w78 (some go74) := (by rw [hw]; exact HP77.2); have hp_ : Kd.R (Kd.int .i64) 3 w78 w.heap.size (fun k_ => some k_ ≠ (.slice (some ad237) t213.length co75 : Value).ownBlock) (.slice (some ⟨go74, 0, none⟩) x11_5.length co76) y242 := (by rw [hw, Ny242.out]; exact HP77.1); clear HP77; have n0_ := Aside0.mk (Kd.R_after (v := (.slice (some ⟨go74, 0, none⟩) x11_5.length co76)) (v1 := (.slice (some ⟨go74, 0, none⟩) x11_5.length co76)) (ok := (fun _ => True)) (by (with_reducible repeat (first | apply Kd.R_alloc | apply Kd.R_drewN | apply Kd.R_drew)); exact Kd.R_mono HO_6.out (fun _ hk => ⟨trivial, hk⟩)) hg (.inl rfl)); have n1_ := Aside0.mk (hp_); have n2_ := Aside0.mk ((by rw [hw]; exact below_set (HB.out) GB74.out : Below w.heap.size w w78)); clear HO_6; clear HO_11; clear HB; have HO_6 := n0_; have HO_11 := n1_; have HB := n2_; clear n0_ n1_ n2_; clear hg hw hp_)); try go_wp2_with (first | ((with_reducible refine gate_store (t := 3) (p := 134) rfl ?_); (try (rw [drewN_self wr]; generalize hq_ : World.drewN wr _ = wr; have n0_ := Aside0.mk (Kd.R_at hq_ HO_6.out); have n1_ := Aside0.mk (Kd.R_at hq_ HO_11.out); have n2_ := Aside0.mk (below_at hq_ HB.out); clear hq_ HO_6 HO_11 HB; have HO_6 := n0_; have HO_11 := n1_; have HB := n2_; clear n0_ n1_ n2_; (try (have HP77 := Kd.R_putg HO_11.out ((rd t213 x13_5) : Int) x13_5)))); refine store_event (t := 3) (p := 134) (v := ?vo_w78) (w1 := (wr.setCell ⟨go74, ((rd t213 x13_5) : Int).toNat, none⟩ (.int .i64 x13_5))) ?hg ?ho ?hn ?hr ?_; (case ho => rfl); (case hg => rfl); (case hn => rfl); (case hr => first | (go_simp; done) | (go_simp; rfl)); intro w78 hw; have hg : wr.grownBy w78 (some go74) := (by rw [hw]; exact HP77.2); have hp_ : Kd.R (Kd.int .i64) 3 w78 w.heap.size (fun k_ => some k_ ≠ (.slice (some ad237) t213.length co75 : Value).ownBlock) (.slice (some ⟨go74, 0, none⟩) x11_5.length co76) y242 := (by rw [hw, Ny242.out]; exact HP77.1); clear HP77; have n0_ := Aside0.mk (Kd.R_after (v := (.slice (some ⟨go74, 0, none⟩) x11_5.length co76)) (v1 := (.slice (some ⟨go74, 0, none⟩) x11_5.length co76)) (ok := (fun _ => True)) (by (with_reducible repeat (first | apply Kd.R_alloc | apply Kd.R_drewN | apply Kd.R_drew)); exact Kd.R_mono HO_6.out (fun _ hk => ⟨trivial, hk⟩)) hg (.inl rfl)); have n1_ := Aside0.mk (hp_); have n2_ := Aside0.mk ((by rw [hw]; exact below_set (HB.out) GB74.out : Below w.heap.size w w78)); clear HO_6; clear HO_11; clear HB; have HO_6 := n0_; have HO_11 := n1_; have HB := n2_; clear n0_ n1_ n2_; clear hg hw hp_)))
                                                    go_roundg k5
                                                    case measure => have := HJ2.out; have := HK2.out; have := HJ38.out; have := HK4.out; have := HK5.out; omega
                                                    case rel => exact ⟨(y242), (wrap64 (x13_5 + 1)), (by first | rfl | (simp; done) | (simp [*]; done)), H', ⟨by have := HJ2.out; have := HK2.out; have := HJ38.out; have := HK4.out; have := HK5.out; omega⟩, ⟨by (with_reducible repeat (first | apply Kd.R_alloc | apply Kd.R_drewN | apply Kd.R_drew)); exact Kd.R_mono HO_6.out (fun _ hk => hk.2)⟩, ⟨by (with_reducible repeat (first | apply Kd.R_alloc | apply Kd.R_drewN | apply Kd.R_drew)); exact HO_11.out⟩, ⟨by repeat (first | (with_reducible first | exact HB.out | apply below_alloc | apply pw_below_drewN | apply below_drew1) | exact HB.out)⟩⟩
                                                · rw [if_neg c70] at H
                                                  exact absurd H (by simp)
                                              · rw [if_neg c69] at H
                                                exact absurd H (by simp)
                                        · rw [if_neg c64] at H
                                          exact absurd H (by simp)
                                      · rw [if_neg c63] at H
                                        exact absurd H (by simp)
                                    · rw [if_neg c62] at H
                                      have c62b0 : decide (x13_5 < (ji51)) = false := decide_eq_false c62
                                      clear c62
                                      have H' := Aside0.mk H
                                      clear H
                                      go_wp2
                                      repeat (go_quiet (fail); try go_wp2)
                                      go_loopg [14] k5 (fun kq v14 w' => ∃ (x14_6 : Int), v14 = .int .i64 x14_6 ∧ Aside0 (arlinklaw23_OrderTopological.l3 kq l1 x11_5 x14_6 = some r) ∧ Aside0 (kq ≤ k5) ∧ Aside0 (Kd.R (Kd.int .i64) 3 w' w.heap.size (fun _ => True) v234 x11_5) ∧ Aside0 (Below w.heap.size w w'))
                                      case atStart => exact ⟨(0), (by first | rfl | (simp; done) | (simp [*]; done)), H', ⟨Nat.le_refl _⟩, ⟨by (with_reducible repeat (first | apply Kd.R_alloc | apply Kd.R_drewN | apply Kd.R_drew)); exact Kd.R_mono HO_11.out (fun _ hk => trivial)⟩, ⟨by repeat (first | (with_reducible first | exact HB.out | apply below_alloc | apply pw_below_drewN | apply below_drew1) | exact HB.out)⟩⟩
                                      case round =>
                                        clear H'
                                        try clear c1
                                        try clear c2
                                        try clear p2
                                        try clear q2
                                        try clear hx2
                                        try clear c3
                                        try clear c4
                                        try clear c5
                                        try clear p5
                                        try clear q5
                                        try clear hx5
                                        try clear hf5
                                        try clear c6
                                        try clear c6b0
                                        try clear c6b1
                                        try clear p6
                                        try clear c7
                                        try clear p7
                                        try clear q7
                                        try clear hx7
                                        try clear hf7
                                        try clear c12
                                        try clear c22
                                        try clear c22b0
                                        try clear p22
                                        try clear q22
                                        try clear hx22
                                        try clear c23
                                        try clear p23
                                        try clear q23
                                        try clear hx23
                                        try clear p24
                                        try clear q24
                                        try clear hx24
                                        try clear c25
                                        try clear c25b0
                                        try clear c26
                                        try clear c26b0
                                        try clear c28
                                        try clear c29
                                        try clear c29b0
                                        try clear c29b1
                                        try clear c30
                                        try clear c30b0
                                        try clear c30b1
                                        try clear c30b2
                                        try clear c40
                                        try clear c40b0
                                        try clear c40b1
                                        try clear c41
                                        try clear c41b0
                                        try clear c41b1
                                        try clear c50
                                        try clear c52
                                        try clear c52b0
                                        try clear c52b1
                                        try clear c53
                                        try clear c53b0
                                        try clear c53b1
                                        try clear c56
                                        try clear c56b0
                                        try clear c57
                                        try clear c57b0
                                        try clear c58
                                        try clear c58b0
                                        try clear p59
                                        try clear q59
                                        try clear hx59
                                        try clear hf59
                                        try clear c62
                                        try clear c62b0
                                        try clear c63
                                        try clear c63b0
                                        try clear c64
                                        try clear c64b0
                                        try clear p64
                                        try clear c65
                                        try clear c65b0
                                        try clear c67
                                        try clear c67b0
                                        try clear c69
                                        try clear c69b0
                                        try clear c70
                                        try clear c70b0
                                        try clear c71
                                        try clear c71b0
                                        try clear p74
                                        try clear q74
                                        try clear hx74
                                        try clear hf74
                                        try clear hx220_0
                                        try clear hx237_0
                                        try clear hx238_0
                                        try clear hx239_0
                                        try clear hx240_0
                                        try clear hx241_0
                                        try clear hx59_0
                                        try clear hx74_0
                                        try clear p2
                                        try clear p22
                                        try clear p220
                                        try clear p237
                                        try clear p238
                                        try clear p239
                                        try clear p240
                                        try clear p241
                                        try clear p5
                                        try clear p59
                                        try clear p6
                                        try clear p74
                                        try clear q2
                                        try clear q22
                                        try clear q220
                                        try clear q237
                                        try clear q238
                                        try clear q239
                                        try clear q240
                                        try clear q241
                                        try clear q5
                                        try clear q59
                                        try clear q74
                                        obtain ⟨x14_6, rfl, HA, HK6, HO_11, HB⟩ := hrel
                                        cases gk with
                                        | zero => exact absurd HA.out (by simp [arlinklaw23_OrderTopological.l3])
                                        | succ k6 =>
                                          have H := HA.out
                                          clear HA
                                          simp only [arlinklaw23_OrderTopological.l3] at H
                                          by_cases c79 : x14_6 < (l1.length : Int)
                                          · rw [if_pos c79] at H
                                            have c79b0 : decide (x14_6 < (l1.length : Int)) = true := decide_eq_true c79
                                            clear c79
                                            by_cases c80 : 0 ≤ x14_6
                                            · rw [if_pos c80] at H
                                              have c80b0 : decide (0 ≤ x14_6) = true := decide_eq_true c80
                                              clear c80
                                              by_cases c81 : 0 ≤ ((rd_T39 l1 x14_6).f0)
                                              · rw [if_pos c81] at H
                                                have c81b0 : decide (0 ≤ ((rd_T39 l1 x14_6).f0)) = true := decide_eq_true c81
                                                clear c81
                                                by_cases c82 : ((rd_T39 l1 x14_6).f0) < (x11_5.length : Int)
                                                · rw [if_pos c82] at H
                                                  have c82b0 : decide (((rd_T39 l1 x14_6).f0) < (x11_5.length : Int)) = true := decide_eq_true c82
                                                  clear c82
                                                  by_cases c83 : 0 ≤ ((rd_T39 l1 x14_6).f1)
                                                  · rw [if_pos c83] at H
                                                    have c83b0 : decide (0 ≤ ((rd_T39 l1 x14_6).f1)) = true := decide_eq_true c83
                                                    clear c83
                                                    by_cases c84 : ((rd_T39 l1 x14_6).f1) < (x11_5.length : Int)
                                                    · rw [if_pos c84] at H
                                                      have c84b0 : decide (((rd_T39 l1 x14_6).f1) < (x11_5.length : Int)) = true := decide_eq_true c84
                                                      clear c84
                                                      by_cases c85 : (rd x11_5 ((rd_T39 l1 x14_6).f0)) ≥ (rd x11_5 ((rd_T39 l1 x14_6).f1))
                                                      · rw [if_pos c85] at H
                                                        have c85b0 : decide ((rd x11_5 ((rd_T39 l1 x14_6).f1)) ≤ (rd x11_5 ((rd_T39 l1 x14_6).f0))) = true := decide_eq_true c85
                                                        clear c85
                                                        obtain rfl := Option.some.inj H
                                                        have p243 : 0 ≤ (x14_6 : Int) := of_decide_eq_true (by first | (with_reducible assumption) | assumption)
                                                        have q243 : x14_6 < (l1.length : Int) := of_decide_eq_true (by first | (with_reducible assumption) | assumption)
                                                        obtain ⟨ad243, e243, hx243_0, hx243_1⟩ := at_T39 HR1.out x14_6 p243 q243
                                                        cases e243
                                                        replace hx243_0 := (HB.out.cell (World.block_lt_of_cell? w _ hx243_0)).trans hx243_0
                                                        replace hx243_1 := (HB.out.cell (World.block_lt_of_cell? w _ hx243_1)).trans hx243_1
                                                        replace p243 := eq_true p243
                                                        replace q243 := eq_true q243
                                                        obtain ⟨Ao86, co86, eo86⟩ := Kd.R_slice HO_11.out
                                                        subst eo86
                                                        have p244 : 0 ≤ (((rd_T39 l1 x14_6).f0) : Int) := of_decide_eq_true (by first | (with_reducible assumption) | assumption)
                                                        have q244 : ((rd_T39 l1 x14_6).f0) < (x11_5.length : Int) := of_decide_eq_true (by first | (with_reducible assumption) | assumption)
                                                        obtain ⟨ad244, e244, hx244_0⟩ := Kd.at_int (Kd.R_reads' HO_11.out).2.2 ((rd_T39 l1 x14_6).f0) p244 q244
                                                        cases e244
                                                        replace p244 := eq_true p244
                                                        replace q244 := eq_true q244
                                                        have p245 : 0 ≤ (x14_6 : Int) := of_decide_eq_true (by first | (with_reducible assumption) | assumption)
                                                        have q245 : x14_6 < (l1.length : Int) := of_decide_eq_true (by first | (with_reducible assumption) | assumption)
                                                        obtain ⟨ad245, e245, hx245_0, hx245_1⟩ := at_T39 HR1.out x14_6 p245 q245
                                                        obtain rfl : ad243 = ad245 := (by injection e245)
                                                        replace hx245_0 := (HB.out.cell (World.block_lt_of_cell? w _ hx245_0)).trans hx245_0
                                                        replace hx245_1 := (HB.out.cell (World.block_lt_of_cell? w _ hx245_1)).trans hx245_1
                                                        replace p245 := eq_true p245
                                                        replace q245 := eq_true q245
                                                        have p246 : 0 ≤ (((rd_T39 l1 x14_6).f1) : Int) := of_decide_eq_true (by first | (with_reducible assumption) | assumption)
                                                        have q246 : ((rd_T39 l1 x14_6).f1) < (x11_5.length : Int) := of_decide_eq_true (by first | (with_reducible assumption) | assumption)
                                                        obtain ⟨ad246, e246, hx246_0⟩ := Kd.at_int (Kd.R_reads' HO_11.out).2.2 ((rd_T39 l1 x14_6).f1) p246 q246
                                                        obtain rfl : ad244 = ad246 := (by injection e246)
                                                        replace p246 := eq_true p246
                                                        replace q246 := eq_true q246
                                                        go_wp2
                                                        repeat (go_quiet (fail); try go_wp2)
                                                        go_ret
                                                        exact ⟨by first | rfl | (simp [errW_none, errW_some] <;> rfl) | (simp only [← hji51]; first | rfl | (simp [errW_none, errW_some] <;> rfl)) | (simp [*, errW_none, errW_some] <;> rfl), by repeat (first | (with_reducible first | exact HB.out | apply below_alloc | apply pw_below_drewN | apply below_drew1) | exact HB.out)⟩
                                                      · rw [if_neg c85] at H
                                                        have c85b0 : decide ((rd x11_5 ((rd_T39 l1 x14_6).f1)) ≤ (rd x11_5 ((rd_T39 l1 x14_6).f0))) = false := decide_eq_false c85
                                                        clear c85
                                                        have H' := Aside0.mk H
                                                        clear H
                                                        have p243 : 0 ≤ (x14_6 : Int) := of_decide_eq_true (by first | (with_reducible assumption) | assumption)
                                                        have q243 : x14_6 < (l1.length : Int) := of_decide_eq_true (by first | (with_reducible assumption) | assumption)
                                                        obtain ⟨ad243, e243, hx243_0, hx243_1⟩ := at_T39 HR1.out x14_6 p243 q243
                                                        cases e243
                                                        replace hx243_0 := (HB.out.cell (World.block_lt_of_cell? w _ hx243_0)).trans hx243_0
                                                        replace hx243_1 := (HB.out.cell (World.block_lt_of_cell? w _ hx243_1)).trans hx243_1
                                                        replace p243 := eq_true p243
                                                        replace q243 := eq_true q243
                                                        obtain ⟨Ao87, co87, eo87⟩ := Kd.R_slice HO_11.out
                                                        subst eo87
                                                        have p244 : 0 ≤ (((rd_T39 l1 x14_6).f0) : Int) := of_decide_eq_true (by first | (with_reducible assumption) | assumption)
                                                        have q244 : ((rd_T39 l1 x14_6).f0) < (x11_5.length : Int) := of_decide_eq_true (by first | (with_reducible assumption) | assumption)
                                                        obtain ⟨ad244, e244, hx244_0⟩ := Kd.at_int (Kd.R_reads' HO_11.out).2.2 ((rd_T39 l1 x14_6).f0) p244 q244
                                                        cases e244
                                                        replace p244 := eq_true p244
                                                        replace q244 := eq_true q244
                                                        have p245 : 0 ≤ (x14_6 : Int) := of_decide_eq_true (by first | (with_reducible assumption) | assumption)
                                                        have q245 : x14_6 < (l1.length : Int) := of_decide_eq_true (by first | (with_reducible assumption) | assumption)
                                                        obtain ⟨ad245, e245, hx245_0, hx245_1⟩ := at_T39 HR1.out x14_6 p245 q245
                                                        obtain rfl : ad243 = ad245 := (by injection e245)
                                                        replace hx245_0 := (HB.out.cell (World.block_lt_of_cell? w _ hx245_0)).trans hx245_0
                                                        replace hx245_1 := (HB.out.cell (World.block_lt_of_cell? w _ hx245_1)).trans hx245_1
                                                        replace p245 := eq_true p245
                                                        replace q245 := eq_true q245
                                                        have p246 : 0 ≤ (((rd_T39 l1 x14_6).f1) : Int) := of_decide_eq_true (by first | (with_reducible assumption) | assumption)
                                                        have q246 : ((rd_T39 l1 x14_6).f1) < (x11_5.length : Int) := of_decide_eq_true (by first | (with_reducible assumption) | assumption)
                                                        obtain ⟨ad246, e246, hx246_0⟩ := Kd.at_int (Kd.R_reads' HO_11.out).2.2 ((rd_T39 l1 x14_6).f1) p246 q246
                                                        obtain rfl : ad244 = ad246 := (by injection e246)
                                                        replace p246 := eq_true p246
                                                        replace q246 := eq_true q246
                                                        go_wp2
                                                        repeat (go_quiet (fail); try go_wp2)
                                                        go_roundg k6
                                                        case measure => have := HJ2.out; have := HK2.out; have := HJ38.out; have := HK4.out; have := HK5.out; have := HK6.out; omega
                                                        case rel => exact ⟨(wrap64 (x14_6 + 1)), (by first | rfl | (simp; done) | (simp [*]; done)), H', ⟨by have := HJ2.out; have := HK2.out; have := HJ38.out; have := HK4.out; have := HK5.out; have := HK6.out; omega⟩, ⟨by (with_reducible repeat (first | apply Kd.R_alloc | apply Kd.R_drewN | apply Kd.R_drew)); exact HO_11.out⟩, ⟨by repeat (first | (with_reducible first | exact HB.out | apply below_alloc | apply pw_below_drewN | apply below_drew1) | exact HB.out)⟩⟩
                                                    · rw [if_neg c84] at H
                                                      exact absurd H (by simp)
                                                  · rw [if_neg c83] at H
                                                    exact absurd H (by simp)
                                                · rw [if_neg c82] at H
                                                  exact absurd H (by simp)
                                              · rw [if_neg c81] at H
                                                exact absurd H (by simp)
                                            · rw [if_neg c80] at H
                                              exact absurd H (by simp)
                                          · rw [if_neg c79] at H
                                            have c79b0 : decide (x14_6 < (l1.length : Int)) = false := decide_eq_false c79
                                            clear c79
                                            obtain rfl := Option.some.inj H
                                            go_wp2
                                            repeat (go_quiet (fail); try go_wp2)
                                            go_ret
                                            exact ⟨by first | rfl | (simp [errW_none, errW_some] <;> rfl) | (simp only [← hji51]; first | rfl | (simp [errW_none, errW_some] <;> rfl)) | (simp [*, errW_none, errW_some] <;> rfl), by repeat (first | (with_reducible first | exact HB.out | apply below_alloc | apply pw_below_drewN | apply below_drew1) | exact HB.out)⟩
                        · rw [if_neg c53] at H
                          exact absurd H (by simp)
                      · rw [if_neg c52] at H
                        exact absurd H (by simp)

end Go.Proofs.Ythpjpkcfepmhkaa.PAll
