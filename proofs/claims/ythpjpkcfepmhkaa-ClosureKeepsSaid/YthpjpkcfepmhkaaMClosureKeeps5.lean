/- Laid together by a program of this session (wip/bundle.py) out of its own texts and of the words that the kit's print.sh laid for this seat, cut to what is used. -/
import Derived.Test.YthpjpkcfepmhkaaMClosureKeeps4
namespace Go.Proofs.Ythpjpkcfepmhkaa.PAll
open Go.RowKit Go.Proofs.YthpjpkcfepmhkaaW.PrintWords Go.Proofs.YthpjpkcfepmhkaaW.PrintLast Go.Proofs.YthpjpkcfepmhkaaW.PrintMore
attribute [local go_sem] max2_int min2_int max_two min_two max_three min_three max_four min_four   -- for this text's walks alone
set_option linter.unusedVariables false
set_option linter.unusedSimpArgs false
mutual
def arlinklaw22_ClosureKeeps.j0 : Nat → List (S50) → List (S50) → Int → Bool → Option (Bool)
 | 0, _, _, _, _ => none
 | k + 1, x0, x1, x2, x22 => if x22 = true then ((arlinklaw22_awake.f).bind fun t445 => (some t445)) else ((arlinklaw22_copied.f k x0).bind fun t446 => ((arlinklaw22_copied.f k x1).bind fun t449 => ((closure_Needed.f t446 t449).bind fun t452 => ((closure_Why.f t446 t449 x2).bind fun bt455 => ((closure_Unique.f t449).bind fun t459 => (arlinklaw22_ClosureKeeps.l0 k x0 x1 t446 t449 0))))))
def arlinklaw22_ClosureKeeps.l0 : Nat → List (S50) → List (S50) → List (S50) → List (S50) → Int → Option (Bool)
 | 0, _, _, _, _, _ => none
 | k + 1, x0, x1, x7, x8, x9 => if x9 < (x0.length : Int) then (if 0 ≤ x9 then (if x9 < (x7.length : Int) then ((arlinkref06_Same.f k ((rd_T50 x7 x9).f0) ((rd_T50 x7 x9).f1) ((rd_T50 x0 x9).f0) ((rd_T50 x0 x9).f1)).bind fun t462 => (if t462 = true then (arlinklaw22_ClosureKeeps.l0 k x0 x1 x7 x8 (wrap64 (x9 + 1))) else (some false))) else (none)) else (none)) else (arlinklaw22_ClosureKeeps.l1 k x1 x8 0)
def arlinklaw22_ClosureKeeps.l1 : Nat → List (S50) → List (S50) → Int → Option (Bool)
 | 0, _, _, _ => none
 | k + 1, x1, x8, x10 => if x10 < (x1.length : Int) then (if 0 ≤ x10 then (if x10 < (x8.length : Int) then ((arlinkref06_Same.f k ((rd_T50 x8 x10).f0) ((rd_T50 x8 x10).f1) ((rd_T50 x1 x10).f0) ((rd_T50 x1 x10).f1)).bind fun t465 => (if t465 = true then (arlinklaw22_ClosureKeeps.l1 k x1 x8 (wrap64 (x10 + 1))) else (some false))) else (none)) else (none)) else (some true)
end
def arlinklaw22_ClosureKeeps.f (k : Nat) (l0 : List (S50)) (l1 : List (S50)) (a2 : Int) : Option (Bool) := (arlinklaw22_awake.f).bind fun t442 => (if t442 = true then ((arlinkref14_Right.f k l0).bind fun t443 => (if t443 = true then ((arlinkref14_Right.f k l1).bind fun t444 => (arlinklaw22_ClosureKeeps.j0 k l0 l1 a2 (!t444))) else (arlinklaw22_ClosureKeeps.j0 k l0 l1 a2 true))) else (arlinklaw22_ClosureKeeps.j0 k l0 l1 a2 true))
def arlinklaw22_ClosureKeeps.T11 : Bool × List (List Nat × List Nat) := (true, [([], []), ([], []), ([0, 1], [0, 1]), ([2], [2]), ([], []), ([], []), ([4, 5], [4, 5]), ([6], [6]), ([3, 7], [3, 7]), ([8], [8])])
def arlinklaw22_ClosureKeeps.B11 : List Nat := [0, 0, 3, 7, 0, 0, 48, 112, 255, 511]
theorem arlinklaw22_ClosureKeeps.tab11 : rtab .any (opsOf Try.f10 11) = arlinklaw22_ClosureKeeps.T11 := by kernel_rfl
theorem arlinklaw22_ClosureKeeps.bits11 : waitsOk arlinklaw22_ClosureKeeps.T11.2 arlinklaw22_ClosureKeeps.B11 = true := by kernel_rfl
def arlinklaw22_ClosureKeeps.T16 : Bool × List (List Nat × List Nat) := (true, [([], []), ([], []), ([0, 1], [0, 1]), ([2], [2]), ([], []), ([], []), ([4, 5], [4, 5]), ([6], [6]), ([3, 7], [3, 7]), ([8], [8])])
def arlinklaw22_ClosureKeeps.B16 : List Nat := [0, 0, 3, 7, 0, 0, 48, 112, 255, 511]
theorem arlinklaw22_ClosureKeeps.tab16 : rtab .any (opsOf Try.f10 16) = arlinklaw22_ClosureKeeps.T16 := by kernel_rfl
theorem arlinklaw22_ClosureKeeps.bits16 : waitsOk arlinklaw22_ClosureKeeps.T16.2 arlinklaw22_ClosureKeeps.B16 = true := by kernel_rfl
set_option maxHeartbeats 8000000 in
set_option maxRecDepth 100000 in
theorem arlinklaw22_ClosureKeeps.calls (k : Nat) (A0 : Option Addr) (c0 : Nat) (l0 : List (S50)) (A1 : Option Addr) (c1 : Nat) (l1 : List (S50)) (a2 : Int) (r : Bool) (w : World) (hr0 : Kd.C k50 w A0 l0.length l0) (hc0 : l0.length ≤ c0) (hr1 : Kd.C k50 w A1 l1.length l1) (hc1 : l1.length ≤ c1) (h : arlinklaw22_ClosureKeeps.f k l0 l1 a2 = some r) :
  Calls Try.prog 10 #[.slice A0 l0.length c0, .slice A1 l1.length c1, .int .i64 a2] w fun e w' => e = .returned (.bool r) ∧ Below w.heap.size w w' := by
 have hu50 := Try.underlying50
 have HR0 := Aside0.mk hr0
 have HC0 := Aside0.mk hc0
 clear hr0 hc0
 have HR1 := Aside0.mk hr1
 have HC1 := Aside0.mk hc1
 clear hr1 hc1
 have HB := Aside0.mk (Below.refl w.heap.size w)
 have H : ((arlinklaw22_awake.f).bind fun t442 => (if t442 = true then ((arlinkref14_Right.f k l0).bind fun t443 => (if t443 = true then ((arlinkref14_Right.f k l1).bind fun t444 => (arlinklaw22_ClosureKeeps.j0 k l0 l1 a2 (!t444))) else (arlinklaw22_ClosureKeeps.j0 k l0 l1 a2 true))) else (arlinklaw22_ClosureKeeps.j0 k l0 l1 a2 true))) = some r := h
 clear h
 have HC4 := Aside0.mk H
 clear H
 go_enter Try.func10, Try.ntmps10
 go_upto_region 1 with (fail)
 go_cut [22] (fun v22 wc => ∃ (kq : Nat) (x22_3 : Bool), v22 = .bool x22_3 ∧ Aside0 (arlinklaw22_ClosureKeeps.j0 kq l0 l1 a2 x22_3 = some r) ∧ Aside0 (kq ≤ k) ∧ Aside0 (Below w.heap.size w wc))
 case first =>
  have H := HC4.out
  clear HC4
  replace H := Option.bind_eq_some_iff.mp H
  obtain ⟨t442, A50, H⟩ := H
  replace H : (if t442 = true then ((arlinkref14_Right.f k l0).bind fun t443 => (if t443 = true then ((arlinkref14_Right.f k l1).bind fun t444 => (arlinklaw22_ClosureKeeps.j0 k l0 l1 a2 (!t444))) else (arlinklaw22_ClosureKeeps.j0 k l0 l1 a2 true))) else (arlinklaw22_ClosureKeeps.j0 k l0 l1 a2 true)) = some r := H
  have A5 := Aside0.mk A50
  clear A50
  by_cases c6 : t442 = true
  ·subst c6
   have H1 : ((arlinkref14_Right.f k l0).bind fun t443 => (if t443 = true then ((arlinkref14_Right.f k l1).bind fun t444 => (arlinklaw22_ClosureKeeps.j0 k l0 l1 a2 (!t444))) else (arlinklaw22_ClosureKeeps.j0 k l0 l1 a2 true))) = some r := by rw [if_pos rfl] at H; exact H
   clear H
   have H := H1
   clear H1
   replace H := Option.bind_eq_some_iff.mp H
   obtain ⟨t443, A70, H⟩ := H
   replace H : (if t443 = true then ((arlinkref14_Right.f k l1).bind fun t444 => (arlinklaw22_ClosureKeeps.j0 k l0 l1 a2 (!t444))) else (arlinklaw22_ClosureKeeps.j0 k l0 l1 a2 true)) = some r := H
   have A7 := Aside0.mk A70
   clear A70
   by_cases c8 : t443 = true
   ·subst c8
    have H1 : ((arlinkref14_Right.f k l1).bind fun t444 => (arlinklaw22_ClosureKeeps.j0 k l0 l1 a2 (!t444))) = some r := by rw [if_pos rfl] at H; exact H
    clear H
    have H := H1
    clear H1
    replace H := Option.bind_eq_some_iff.mp H
    obtain ⟨t444, A90, H⟩ := H
    replace H : (arlinklaw22_ClosureKeeps.j0 k l0 l1 a2 (!t444)) = some r := H
    have A9 := Aside0.mk A90
    clear A90
    have H' := Aside0.mk H
    clear H
    go_wp2_with (first | ((with_reducible refine gate_callee (f := 22) rfl ?_); refine goesL_ (some 11) rfl rfl Try.func22 (by kernel_rfl) rfl #[] rfl (by (try simp only [List.map_toArray, List.map_cons, List.map_nil]); first | done | rfl | (simp only [List.length_drop, List.length_take]; rfl)) ?_; (with_reducible refine (arlinklaw22_awake.calls  true _ A5.out).mono ?_); rintro e w10 ⟨rfl, hb⟩; refine ⟨_, rfl, ?_⟩; have n0_ := Aside0.mk (below_step (by repeat (first | (with_reducible first | exact HB.out | apply below_alloc | apply pw_below_drewN | apply below_drew1) | exact HB.out)) hb); clear HB; have HB := n0_; clear n0_; (try clear hb); (try clear hb2); (try clear hk); (try clear hi)) | (go_at_call 23; (with_reducible refine (arlinkref14_Right.calls k _ _ l0 true _ ?side1 ?side2 A7.out).mono ?_); (case side1 => repeat (first | exact (Kd.C_below HR0.out HB.out) | (with_reducible refine Kd.C_alloc ?_ _) | (with_reducible refine Kd.C_drewN ?_ _) | (with_reducible refine Kd.C_drew ?_))); (case side2 => exact HC0.out); rintro e w11 ⟨rfl, hb⟩; have n0_ := Aside0.mk (below_step (by repeat (first | (with_reducible first | exact HB.out | apply below_alloc | apply pw_below_drewN | apply below_drew1) | exact HB.out)) hb); clear HB; have HB := n0_; clear n0_; (try clear hb); (try clear hb2); (try clear hk); (try clear hi)) | (go_at_call 23; (with_reducible refine (arlinkref14_Right.calls k _ _ l1 t444 _ ?side1 ?side2 A9.out).mono ?_); (case side1 => repeat (first | exact (Kd.C_below HR1.out HB.out) | (with_reducible refine Kd.C_alloc ?_ _) | (with_reducible refine Kd.C_drewN ?_ _) | (with_reducible refine Kd.C_drew ?_))); (case side2 => exact HC1.out); rintro e w12 ⟨rfl, hb⟩; have n0_ := Aside0.mk (below_step (by repeat (first | (with_reducible first | exact HB.out | apply below_alloc | apply pw_below_drewN | apply below_drew1) | exact HB.out)) hb); clear HB; have HB := n0_; clear n0_; (try clear hb); (try clear hb2); (try clear hk); (try clear hi)))
    go_meet
    case rel => exact ⟨_, (!t444), (by first | rfl | (simp; done) | (simp [*]; done)), H', ⟨by first | omega | exact Nat.le_refl _⟩, ⟨by repeat (first | (with_reducible first | exact HB.out | apply below_alloc | apply pw_below_drewN | apply below_drew1) | exact HB.out)⟩⟩
   ·replace c8 := Bool.eq_false_iff.mpr c8
    subst c8
    have H1 : (arlinklaw22_ClosureKeeps.j0 k l0 l1 a2 true) = some r := by rw [if_neg (show ¬ (false = true) by decide)] at H; exact H
    clear H
    have H := H1
    clear H1
    have H' := Aside0.mk H
    clear H
    go_wp2_with (first | ((with_reducible refine gate_callee (f := 22) rfl ?_); refine goesL_ (some 11) rfl rfl Try.func22 (by kernel_rfl) rfl #[] rfl (by (try simp only [List.map_toArray, List.map_cons, List.map_nil]); first | done | rfl | (simp only [List.length_drop, List.length_take]; rfl)) ?_; (with_reducible refine (arlinklaw22_awake.calls  true _ A5.out).mono ?_); rintro e w13 ⟨rfl, hb⟩; refine ⟨_, rfl, ?_⟩; have n0_ := Aside0.mk (below_step (by repeat (first | (with_reducible first | exact HB.out | apply below_alloc | apply pw_below_drewN | apply below_drew1) | exact HB.out)) hb); clear HB; have HB := n0_; clear n0_; (try clear hb); (try clear hb2); (try clear hk); (try clear hi)) | (go_at_call 23; (with_reducible refine (arlinkref14_Right.calls k _ _ l0 false _ ?side1 ?side2 A7.out).mono ?_); (case side1 => repeat (first | exact (Kd.C_below HR0.out HB.out) | (with_reducible refine Kd.C_alloc ?_ _) | (with_reducible refine Kd.C_drewN ?_ _) | (with_reducible refine Kd.C_drew ?_))); (case side2 => exact HC0.out); rintro e w14 ⟨rfl, hb⟩; have n0_ := Aside0.mk (below_step (by repeat (first | (with_reducible first | exact HB.out | apply below_alloc | apply pw_below_drewN | apply below_drew1) | exact HB.out)) hb); clear HB; have HB := n0_; clear n0_; (try clear hb); (try clear hb2); (try clear hk); (try clear hi)))
    go_meet
    case rel => exact ⟨_, (true), (by first | rfl | (simp; done) | (simp [*]; done)), H', ⟨by first | omega | exact Nat.le_refl _⟩, ⟨by repeat (first | (with_reducible first | exact HB.out | apply below_alloc | apply pw_below_drewN | apply below_drew1) | exact HB.out)⟩⟩
  ·replace c6 := Bool.eq_false_iff.mpr c6
   subst c6
   have H1 : (arlinklaw22_ClosureKeeps.j0 k l0 l1 a2 true) = some r := by rw [if_neg (show ¬ (false = true) by decide)] at H; exact H
   clear H
   have H := H1
   clear H1
   have H' := Aside0.mk H
   clear H
   go_wp2_with (first | ((with_reducible refine gate_callee (f := 22) rfl ?_); refine goesL_ (some 11) rfl rfl Try.func22 (by kernel_rfl) rfl #[] rfl (by (try simp only [List.map_toArray, List.map_cons, List.map_nil]); first | done | rfl | (simp only [List.length_drop, List.length_take]; rfl)) ?_; (with_reducible refine (arlinklaw22_awake.calls  false _ A5.out).mono ?_); rintro e w15 ⟨rfl, hb⟩; refine ⟨_, rfl, ?_⟩; have n0_ := Aside0.mk (below_step (by repeat (first | (with_reducible first | exact HB.out | apply below_alloc | apply pw_below_drewN | apply below_drew1) | exact HB.out)) hb); clear HB; have HB := n0_; clear n0_; (try clear hb); (try clear hb2); (try clear hk); (try clear hi)))
   go_meet
   case rel => exact ⟨_, (true), (by first | rfl | (simp; done) | (simp [*]; done)), H', ⟨by first | omega | exact Nat.le_refl _⟩, ⟨by repeat (first | (with_reducible first | exact HB.out | apply below_alloc | apply pw_below_drewN | apply below_drew1) | exact HB.out)⟩⟩
 case rest =>
  clear HC4
  try clear c1
  try clear c2
  try clear p2
  try clear c6
  try clear c8
  try clear c10
  obtain ⟨kq, x22_3, rfl, HA, HJ3, HB⟩ := hcut
  cases kq with
  | zero => exact absurd HA.out (by simp [arlinklaw22_ClosureKeeps.j0])
  | succ kj3 =>
   have H := HA.out
   clear HA
   simp only [arlinklaw22_ClosureKeeps.j0] at H
   by_cases c16 : x22_3 = true
   ·subst c16
    have H1 : ((arlinklaw22_awake.f).bind fun t445 => (some t445)) = some r := by rw [if_pos rfl] at H; exact H
    clear H
    have H := H1
    clear H1
    replace H := Option.bind_eq_some_iff.mp H
    obtain ⟨t445, A170, H⟩ := H
    replace H : (some t445) = some r := H
    have A17 := Aside0.mk A170
    clear A170
    obtain rfl := Option.some.inj H
    go_wp2_with (first | ((with_reducible refine gate_callee (f := 22) rfl ?_); refine goesL_ (some 23) rfl rfl Try.func22 (by kernel_rfl) rfl #[] rfl (by (try simp only [List.map_toArray, List.map_cons, List.map_nil]); first | done | rfl | (simp only [List.length_drop, List.length_take]; rfl)) ?_; (with_reducible refine (arlinklaw22_awake.calls  t445 _ A17.out).mono ?_); rintro e w18 ⟨rfl, hb⟩; refine ⟨_, rfl, ?_⟩; have n0_ := Aside0.mk (below_step (by repeat (first | (with_reducible first | exact HB.out | apply below_alloc | apply pw_below_drewN | apply below_drew1) | exact HB.out)) hb); clear HB; have HB := n0_; clear n0_; (try clear hb); (try clear hb2); (try clear hk); (try clear hi)))
    go_ret
    exact ⟨by first | rfl | (simp [errW_none, errW_some] <;> rfl) | (simp [*, errW_none, errW_some] <;> rfl), by repeat (first | (with_reducible first | exact HB.out | apply below_alloc | apply pw_below_drewN | apply below_drew1) | exact HB.out)⟩
   ·replace c16 := Bool.eq_false_iff.mpr c16
    subst c16
    have H1 : ((arlinklaw22_copied.f kj3 l0).bind fun t446 => ((arlinklaw22_copied.f kj3 l1).bind fun t449 => ((closure_Needed.f t446 t449).bind fun t452 => ((closure_Why.f t446 t449 a2).bind fun bt455 => ((closure_Unique.f t449).bind fun t459 => (arlinklaw22_ClosureKeeps.l0 kj3 l0 l1 t446 t449 0)))))) = some r := by rw [if_neg (show ¬ (false = true) by decide)] at H; exact H
    clear H
    have H := H1
    clear H1
    replace H := Option.bind_eq_some_iff.mp H
    obtain ⟨t446, A190, H⟩ := H
    replace H : ((arlinklaw22_copied.f kj3 l1).bind fun t449 => ((closure_Needed.f t446 t449).bind fun t452 => ((closure_Why.f t446 t449 a2).bind fun bt455 => ((closure_Unique.f t449).bind fun t459 => (arlinklaw22_ClosureKeeps.l0 kj3 l0 l1 t446 t449 0))))) = some r := H
    have A19 := Aside0.mk A190
    clear A190
    replace H := Option.bind_eq_some_iff.mp H
    obtain ⟨t449, A200, H⟩ := H
    replace H : ((closure_Needed.f t446 t449).bind fun t452 => ((closure_Why.f t446 t449 a2).bind fun bt455 => ((closure_Unique.f t449).bind fun t459 => (arlinklaw22_ClosureKeeps.l0 kj3 l0 l1 t446 t449 0)))) = some r := H
    have A20 := Aside0.mk A200
    clear A200
    replace H := Option.bind_eq_some_iff.mp H
    obtain ⟨t452, A210, H⟩ := H
    replace H : ((closure_Why.f t446 t449 a2).bind fun bt455 => ((closure_Unique.f t449).bind fun t459 => (arlinklaw22_ClosureKeeps.l0 kj3 l0 l1 t446 t449 0))) = some r := H
    have A21 := Aside0.mk A210
    clear A210
    replace H := Option.bind_eq_some_iff.mp H
    obtain ⟨⟨t455, t456⟩, A220, H⟩ := H
    replace H : ((closure_Unique.f t449).bind fun t459 => (arlinklaw22_ClosureKeeps.l0 kj3 l0 l1 t446 t449 0)) = some r := H
    have A22 := Aside0.mk A220
    clear A220
    replace H := Option.bind_eq_some_iff.mp H
    obtain ⟨t459, A230, H⟩ := H
    replace H : (arlinklaw22_ClosureKeeps.l0 kj3 l0 l1 t446 t449 0) = some r := H
    have A23 := Aside0.mk A230
    clear A230
    have H' := Aside0.mk H
    clear H
    go_wp2_with (first | ((with_reducible refine gate_callee (f := 31) rfl ?_); refine goesL_ (some 25) rfl rfl Try.func31 (by kernel_rfl) rfl #[.slice A0 l0.length c0] rfl (by (try simp only [List.map_toArray, List.map_cons, List.map_nil]); first | done | rfl | (simp only [List.length_drop, List.length_take]; rfl)) ?_; (with_reducible refine (arlinklaw22_copied.calls kj3 _ _ l0 t446 _ ?side1 ?side2 A19.out).mono ?_); (case side1 => repeat (first | exact (Kd.C_below HR0.out HB.out) | (with_reducible refine Kd.C_alloc ?_ _) | (with_reducible refine Kd.C_drewN ?_ _) | (with_reducible refine Kd.C_drew ?_))); (case side2 => exact HC0.out); rintro e w24 ⟨v447, rfl, ho0, hb⟩; refine ⟨_, rfl, ?_⟩; have n0_ := Aside0.mk (Kd.S_lower ho0 (below_size (by repeat (first | (with_reducible first | exact HB.out | apply below_alloc | apply pw_below_drewN | apply below_drew1) | exact HB.out)))); have n1_ := Aside0.mk (below_step (by repeat (first | (with_reducible first | exact HB.out | apply below_alloc | apply pw_below_drewN | apply below_drew1) | exact HB.out)) hb); clear HB; have HO448 := n0_; have HB := n1_; clear n0_ n1_; (try clear hb); (try clear hb2); (try clear hk); (try clear hi); (try clear ho0)) | ((with_reducible refine gate_callee (f := 31) rfl ?_); refine goesL_ (some 27) rfl rfl Try.func31 (by kernel_rfl) rfl #[.slice A1 l1.length c1] rfl (by (try simp only [List.map_toArray, List.map_cons, List.map_nil]); first | done | rfl | (simp only [List.length_drop, List.length_take]; rfl)) ?_; (with_reducible refine (arlinklaw22_copied.calls kj3 _ _ l1 t449 _ ?side1 ?side2 A20.out).mono ?_); (case side1 => repeat (first | exact (Kd.C_below HR1.out HB.out) | (with_reducible refine Kd.C_alloc ?_ _) | (with_reducible refine Kd.C_drewN ?_ _) | (with_reducible refine Kd.C_drew ?_))); (case side2 => exact HC1.out); rintro e w25 ⟨v450, rfl, ho0, hb⟩; refine ⟨_, rfl, ?_⟩; have n0_ := Aside0.mk (Kd.S_elder' (by (with_reducible repeat (first | apply Kd.S_alloc | apply Kd.S_drewN | apply Kd.S_drew)); exact HO448.out) (Kd.S_base ho0) hb); have n1_ := Aside0.mk (Kd.S_lower (Kd.S_new' ho0 (Kd.S_lt (by (with_reducible repeat (first | apply Kd.S_alloc | apply Kd.S_drewN | apply Kd.S_drew)); exact HO448.out))) (below_size (by repeat (first | (with_reducible first | exact HB.out | apply below_alloc | apply pw_below_drewN | apply below_drew1) | exact HB.out)))); have n2_ := Aside0.mk (below_step (by repeat (first | (with_reducible first | exact HB.out | apply below_alloc | apply pw_below_drewN | apply below_drew1) | exact HB.out)) hb); clear HO448; clear HB; have HO448 := n0_; have HO451 := n1_; have HB := n2_; clear n0_ n1_ n2_; (try clear hb); (try clear hb2); (try clear hk); (try clear hi); (try clear ho0); obtain ⟨Ao26, co26, eo26⟩ := Kd.S_slice HO448.out; subst eo26; obtain ⟨Ao27, co27, eo27⟩ := Kd.S_slice HO451.out; subst eo27) | ((with_reducible refine gate_callee (f := 25) rfl ?_); refine goesL_ (some 30) rfl rfl Try.func25 (by kernel_rfl) rfl #[.slice Ao26 t446.length co26, .slice Ao27 t449.length co27] rfl (by (try simp only [List.map_toArray, List.map_cons, List.map_nil]); first | done | rfl | (simp only [List.length_drop, List.length_take]; rfl)) ?_; (with_reducible refine (closure_Needed.calls _ _ t446 _ _ t449 t452 _ ?side1 ?side2 ?side3 ?side4 A21.out).mono ?_); (case side1 => repeat (first | exact (Kd.S_reads' HO448.out).2.2 | (with_reducible refine Kd.C_alloc ?_ _) | (with_reducible refine Kd.C_drewN ?_ _) | (with_reducible refine Kd.C_drew ?_))); (case side2 => exact (Kd.S_reads' HO448.out).2.1); (case side3 => repeat (first | exact (Kd.S_reads' HO451.out).2.2 | (with_reducible refine Kd.C_alloc ?_ _) | (with_reducible refine Kd.C_drewN ?_ _) | (with_reducible refine Kd.C_drew ?_))); (case side4 => exact (Kd.S_reads' HO451.out).2.1); rintro e w28 ⟨v453, rfl, ho0, hb⟩; refine ⟨_, rfl, ?_⟩; have n0_ := Aside0.mk (Kd.S_below (by (with_reducible repeat (first | apply Kd.S_alloc | apply Kd.S_drewN | apply Kd.S_drew)); exact HO448.out) hb); have n1_ := Aside0.mk (Kd.S_below (by (with_reducible repeat (first | apply Kd.S_alloc | apply Kd.S_drewN | apply Kd.S_drew)); exact HO451.out) hb); have n2_ := Aside0.mk (Kd.R_lower ho0 (below_size (by repeat (first | (with_reducible first | exact HB.out | apply below_alloc | apply pw_below_drewN | apply below_drew1) | exact HB.out)))); have n3_ := Aside0.mk (below_step (by repeat (first | (with_reducible first | exact HB.out | apply below_alloc | apply pw_below_drewN | apply below_drew1) | exact HB.out)) hb); clear HO448; clear HO451; clear HB; have HO448 := n0_; have HO451 := n1_; have HO454 := n2_; have HB := n3_; clear n0_ n1_ n2_ n3_; (try clear hb); (try clear hb2); (try clear hk); (try clear hi); (try clear ho0)) | ((with_reducible refine gate_callee (f := 29) rfl ?_); refine goesL_ (some 34) rfl rfl Try.func29 (by kernel_rfl) rfl #[.slice Ao26 t446.length co26, .slice Ao27 t449.length co27, .int .i64 a2] rfl (by (try simp only [List.map_toArray, List.map_cons, List.map_nil]); first | done | rfl | (simp only [List.length_drop, List.length_take]; rfl)) ?_; (with_reducible refine (closure_Why.calls _ _ t446 _ _ t449 a2 t455 t456 _ ?side1 ?side2 ?side3 ?side4 A22.out).mono ?_); (case side1 => repeat (first | exact (Kd.S_reads' HO448.out).2.2 | (with_reducible refine Kd.C_alloc ?_ _) | (with_reducible refine Kd.C_drewN ?_ _) | (with_reducible refine Kd.C_drew ?_))); (case side2 => exact (Kd.S_reads' HO448.out).2.1); (case side3 => repeat (first | exact (Kd.S_reads' HO451.out).2.2 | (with_reducible refine Kd.C_alloc ?_ _) | (with_reducible refine Kd.C_drewN ?_ _) | (with_reducible refine Kd.C_drew ?_))); (case side4 => exact (Kd.S_reads' HO451.out).2.1); rintro e w29 ⟨v457, rfl, ho0, hb⟩; refine ⟨_, rfl, ?_⟩; have n0_ := Aside0.mk (Kd.S_below (by (with_reducible repeat (first | apply Kd.S_alloc | apply Kd.S_drewN | apply Kd.S_drew)); exact HO448.out) hb); have n1_ := Aside0.mk (Kd.S_below (by (with_reducible repeat (first | apply Kd.S_alloc | apply Kd.S_drewN | apply Kd.S_drew)); exact HO451.out) hb); have n2_ := Aside0.mk (Kd.R_elder' (by (with_reducible repeat (first | apply Kd.R_alloc | apply Kd.R_drewN | apply Kd.R_drew)); exact HO454.out) (Kd.R_base ho0) hb); have n3_ := Aside0.mk (Kd.R_lower (Kd.R_new' ho0 (Kd.R_lt (by (with_reducible repeat (first | apply Kd.R_alloc | apply Kd.R_drewN | apply Kd.R_drew)); exact HO454.out))) (below_size (by repeat (first | (with_reducible first | exact HB.out | apply below_alloc | apply pw_below_drewN | apply below_drew1) | exact HB.out)))); have n4_ := Aside0.mk (below_step (by repeat (first | (with_reducible first | exact HB.out | apply below_alloc | apply pw_below_drewN | apply below_drew1) | exact HB.out)) hb); clear HO448; clear HO451; clear HO454; clear HB; have HO448 := n0_; have HO451 := n1_; have HO454 := n2_; have HO458 := n3_; have HB := n4_; clear n0_ n1_ n2_ n3_ n4_; (try clear hb); (try clear hb2); (try clear hk); (try clear hi); (try clear ho0)) | ((with_reducible refine gate_callee (f := 26) rfl ?_); refine goesL_ (some 36) rfl rfl Try.func26 (by kernel_rfl) rfl #[.slice Ao27 t449.length co27] rfl (by (try simp only [List.map_toArray, List.map_cons, List.map_nil]); first | done | rfl | (simp only [List.length_drop, List.length_take]; rfl)) ?_; (with_reducible refine (closure_Unique.calls _ _ t449 t459 _ ?side1 ?side2 A23.out).mono ?_); (case side1 => repeat (first | exact (Kd.S_reads' HO451.out).2.2 | (with_reducible refine Kd.C_alloc ?_ _) | (with_reducible refine Kd.C_drewN ?_ _) | (with_reducible refine Kd.C_drew ?_))); (case side2 => exact (Kd.S_reads' HO451.out).2.1); rintro e w30 ⟨rfl, hb⟩; refine ⟨_, rfl, ?_⟩; have n0_ := Aside0.mk (Kd.S_below (by (with_reducible repeat (first | apply Kd.S_alloc | apply Kd.S_drewN | apply Kd.S_drew)); exact HO448.out) hb); have n1_ := Aside0.mk (Kd.S_below (by (with_reducible repeat (first | apply Kd.S_alloc | apply Kd.S_drewN | apply Kd.S_drew)); exact HO451.out) hb); have n2_ := Aside0.mk (Kd.R_below (by (with_reducible repeat (first | apply Kd.R_alloc | apply Kd.R_drewN | apply Kd.R_drew)); exact HO454.out) hb); have n3_ := Aside0.mk (Kd.R_below (by (with_reducible repeat (first | apply Kd.R_alloc | apply Kd.R_drewN | apply Kd.R_drew)); exact HO458.out) hb); have n4_ := Aside0.mk (below_step (by repeat (first | (with_reducible first | exact HB.out | apply below_alloc | apply pw_below_drewN | apply below_drew1) | exact HB.out)) hb); clear HO448; clear HO451; clear HO454; clear HO458; clear HB; have HO448 := n0_; have HO451 := n1_; have HO454 := n2_; have HO458 := n3_; have HB := n4_; clear n0_ n1_ n2_ n3_ n4_; (try clear hb); (try clear hb2); (try clear hk); (try clear hi)))
    go_loopg [9] kj3 (fun kq v9 w' => ∃ (x9_2 : Int), v9 = .int .i64 x9_2 ∧ Aside0 (arlinklaw22_ClosureKeeps.l0 kq l0 l1 t446 t449 x9_2 = some r) ∧ Aside0 (kq ≤ kj3) ∧ Aside0 (Kd.S k50 50 w' w.heap.size (fun k_ => some k_ ≠ ((.slice Ao27 t449.length co27) : Value).ownBlock) (.slice Ao26 t446.length co26) t446) ∧ Aside0 (Kd.S k50 50 w' w.heap.size (fun k_ => some k_ ≠ ((.slice Ao26 t446.length co26) : Value).ownBlock) (.slice Ao27 t449.length co27) t449) ∧ Aside0 (Below w.heap.size w w'))
    case atStart => exact ⟨(0), (by first | rfl | (simp; done) | (simp [*]; done)), H', ⟨Nat.le_refl _⟩, ⟨by (with_reducible repeat (first | apply Kd.S_alloc | apply Kd.S_drewN | apply Kd.S_drew)); exact Kd.S_mono HO448.out (fun _ hk => hk.2)⟩, ⟨by (with_reducible repeat (first | apply Kd.S_alloc | apply Kd.S_drewN | apply Kd.S_drew)); exact Kd.S_mono HO451.out (fun _ hk => hk.2)⟩, ⟨by repeat (first | (with_reducible first | exact HB.out | apply below_alloc | apply pw_below_drewN | apply below_drew1) | exact HB.out)⟩⟩
    case round =>
     clear H'
     try clear c1
     try clear c2
     try clear p2
     try clear c3
     try clear c6
     try clear c8
     try clear c10
     try clear c16
     try clear c22
     try clear c25
     try clear c26
     try clear c29
     try clear p2
     obtain ⟨x9_2, rfl, HA, HK2, HO_7, HO_8, HB⟩ := hrel
     cases gk with
     | zero => exact absurd HA.out (by simp [arlinklaw22_ClosureKeeps.l0])
     | succ k2 =>
      have H := HA.out
      clear HA
      simp only [arlinklaw22_ClosureKeeps.l0] at H
      by_cases c31 : x9_2 < (l0.length : Int)
      ·rw [if_pos c31] at H
       have c31b0 : decide (x9_2 < (l0.length : Int)) = true := decide_eq_true c31
       clear c31
       by_cases c32 : 0 ≤ x9_2
       ·rw [if_pos c32] at H
        have c32b0 : decide (0 ≤ x9_2) = true := decide_eq_true c32
        clear c32
        by_cases c33 : x9_2 < (t446.length : Int)
        ·rw [if_pos c33] at H
         have c33b0 : decide (x9_2 < (t446.length : Int)) = true := decide_eq_true c33
         clear c33
         replace H := Option.bind_eq_some_iff.mp H
         obtain ⟨t462, A340, H⟩ := H
         replace H : (if t462 = true then (arlinklaw22_ClosureKeeps.l0 k2 l0 l1 t446 t449 (wrap64 (x9_2 + 1))) else (some false)) = some r := H
         have A34 := Aside0.mk A340
         clear A340
         by_cases c35 : t462 = true
         ·subst c35
          have H1 : (arlinklaw22_ClosureKeeps.l0 k2 l0 l1 t446 t449 (wrap64 (x9_2 + 1))) = some r := by rw [if_pos rfl] at H; exact H
          clear H
          have H := H1
          clear H1
          have H' := Aside0.mk H
          clear H
          try go_wp2
          have n0_ := Aside0.mk (Kd.S_drew HO_7.out)
          have n1_ := Aside0.mk (Kd.S_drew HO_8.out)
          have n2_ := Aside0.mk (below_drew1 HB.out)
          clear HO_7
          clear HO_8
          clear HB
          have HO_7 := n0_
          have HO_8 := n1_
          have HB := n2_
          clear n0_ n1_ n2_
          have p460 : 0 ≤ (x9_2 : Int) := of_decide_eq_true (by first | (with_reducible assumption) | assumption)
          have q460 : x9_2 < (t446.length : Int) := of_decide_eq_true (by first | (with_reducible assumption) | assumption)
          obtain ⟨ad460, A460_0, c460_0, A460_1, c460_1, e460, hx460_0, hx460_1, hl460_0, hi460_0, hl460_1, hi460_1⟩ := at_T50 (Kd.S_reads' HO_7.out).2.2 x9_2 p460 q460
          cases e460
          obtain ⟨ce460, hce460, hMe460, hcc460⟩ := Kd.S_get HO_7.out z50 x9_2 p460 (by first | exact q460 | exact of_decide_eq_true (by first | (with_reducible assumption) | assumption) | (have e_ := (Kd.S_reads' HO_7.out).1; omega))
          obtain ⟨ve460_0, ve460_1, rfl, ge460_0, ge460_1⟩ := k50_openM hMe460
          have hv460_0 := hcc460 0 _ rfl
          rw [Nat.add_zero] at hv460_0
          replace hv460_0 := Option.some.inj (hv460_0.symm.trans hx460_0)
          rw [hv460_0] at ge460_0
          have HL460_0 := Aside0.mk (show Kd.R k55 55 _ _ _ _ ((rd_T50 t446 x9_2).f0) from ge460_0)
          clear hv460_0 ge460_0
          have hv460_1 := hcc460 1 _ rfl
          rw [add_field _ _ 1 (by omega)] at hv460_1
          replace hv460_1 := Option.some.inj (hv460_1.symm.trans hx460_1)
          rw [hv460_1] at ge460_1
          have HL460_1 := Aside0.mk (show Kd.R (Kd.int .u8) 5 _ _ _ _ ((rd_T50 t446 x9_2).f1) from ge460_1)
          clear hv460_1 ge460_1
          clear hcc460 hce460
          have HR460_0 := Aside0.mk hi460_0
          have HC460_0 := Aside0.mk hl460_0
          clear hi460_0 hl460_0
          have HR460_1 := Aside0.mk hi460_1
          have HC460_1 := Aside0.mk hl460_1
          clear hi460_1 hl460_1
          replace p460 := eq_true p460
          replace q460 := eq_true q460
          have p461 : 0 ≤ (x9_2 : Int) := of_decide_eq_true (by first | (with_reducible assumption) | assumption)
          have q461 : x9_2 < (l0.length : Int) := of_decide_eq_true (by first | (with_reducible assumption) | assumption)
          obtain ⟨ad461, A461_0, c461_0, A461_1, c461_1, e461, hx461_0, hx461_1, hl461_0, hi461_0, hl461_1, hi461_1⟩ := at_T50 HR0.out x9_2 p461 q461
          have hw461_1 := hx461_1
          have hw461_0 := hx461_0
          cases e461
          replace hx461_0 := (HB.out.cell (World.block_lt_of_cell? w _ hx461_0)).trans hx461_0
          replace hx461_1 := (HB.out.cell (World.block_lt_of_cell? w _ hx461_1)).trans hx461_1
          have HR461_0 := Aside0.mk hi461_0
          have HC461_0 := Aside0.mk hl461_0
          clear hi461_0 hl461_0
          have HR461_1 := Aside0.mk hi461_1
          have HC461_1 := Aside0.mk hl461_1
          clear hi461_1 hl461_1
          replace p461 := eq_true p461
          replace q461 := eq_true q461
          refine start_ (n := 10) (S := fun w' => w'.cell? (ad460.add ((x9_2).toNat * 2)) = some (.slice A460_0 ((rd_T50 t446 x9_2).f0).length c460_0) ∧ w'.cell? ⟨(ad460.add ((x9_2).toNat * 2)).block, (ad460.add ((x9_2).toNat * 2)).off + 1, none⟩ = some (.slice A460_1 ((rd_T50 t446 x9_2).f1).length c460_1) ∧ w'.cell? (ad461.add ((x9_2).toNat * 2)) = some (.slice A461_0 ((rd_T50 l0 x9_2).f0).length c461_0) ∧ w'.cell? ⟨(ad461.add ((x9_2).toNat * 2)).block, (ad461.add ((x9_2).toNat * 2)).off + 1, none⟩ = some (.slice A461_1 ((rd_T50 l0 x9_2).f1).length c461_1)) (ds := []) #[false, false, false, false, false, false, false, false, false, false] (by kernel_rfl) rfl rfl ⟨hx460_0, hx460_1, ((HB.out.cell (World.block_lt_of_cell? w _ hw461_0)).trans hw461_0), ((HB.out.cell (World.block_lt_of_cell? w _ hw461_1)).trans hw461_1)⟩ (fun hHeld => ?_); refine with_tabW arlinklaw22_ClosureKeeps.tab11 arlinklaw22_ClosureKeeps.bits11 (fun HT_ HW_ => ?_)
          generalize wr.drew = w36 at HO_7 HO_8 HB HL460_0 HL460_1 HR460_0 HR460_1 HR461_0 HR461_1 hx460_0 hx460_1 hx461_0 hx461_1 hHeld ⊢
          refine pure_ (i := 0) (N := some 43) (v := ?_) (a' := ?_) #[true, false, false, false, false, false, false, false, false, false] rfl rfl (any_of HT_.out (by kernel_rfl)) (fun _ _ _ h => h) (Or.inl ⟨by rfl, ?_⟩) ?_ ?_
          rotate_left
          ·intro w'
           go_simp
           with_reducible rfl
          rotate_left
          ·simp only [Act.put, List.setIfInBounds_toArray, List.set_cons_zero, List.set_cons_succ, i64_w, i32_w]
           rfl
          refine pure_ (i := 1) (N := some 44) (v := ?_) (a' := ?_) #[true, true, false, false, false, false, false, false, false, false] rfl rfl (any_of HT_.out (by kernel_rfl)) (fun _ _ _ h => h) (Or.inl ⟨by rfl, ?_⟩) ?_ ?_
          rotate_left
          ·intro w'
           go_simp
           with_reducible rfl
          rotate_left
          ·simp only [Act.put, List.setIfInBounds_toArray, List.set_cons_zero, List.set_cons_succ, i64_w, i32_w]
           rfl
          refine pure_ (i := 2) (N := some 45) (v := ?_) (a' := ?_) #[true, true, true, false, false, false, false, false, false, false] rfl rfl (any_of HT_.out (by kernel_rfl)) (fun _ _ _ h => h) (Or.inl ⟨by rfl, ?_⟩) ?_ ?_
          rotate_left
          ·intro w'
           go_simp
           with_reducible rfl
          rotate_left
          ·simp only [Act.put, List.setIfInBounds_toArray, List.set_cons_zero, List.set_cons_succ, i64_w, i32_w]
           rfl
          refine pure_ (i := 4) (N := some 47) (v := ?_) (a' := ?_) #[true, true, true, false, true, false, false, false, false, false] rfl rfl (any_of HT_.out (by kernel_rfl)) (fun _ _ _ h => h) (Or.inl ⟨by rfl, ?_⟩) ?_ ?_
          rotate_left
          ·intro w'
           go_simp
           with_reducible rfl
          rotate_left
          ·simp only [Act.put, List.setIfInBounds_toArray, List.set_cons_zero, List.set_cons_succ, i64_w, i32_w]
           rfl
          refine pure_ (i := 5) (N := some 48) (v := ?_) (a' := ?_) #[true, true, true, false, true, true, false, false, false, false] rfl rfl (any_of HT_.out (by kernel_rfl)) (fun _ _ _ h => h) (Or.inl ⟨by rfl, ?_⟩) ?_ ?_
          rotate_left
          ·intro w'
           go_simp
           with_reducible rfl
          rotate_left
          ·simp only [Act.put, List.setIfInBounds_toArray, List.set_cons_zero, List.set_cons_succ, i64_w, i32_w]
           rfl
          refine pure_ (i := 6) (N := some 49) (v := ?_) (a' := ?_) #[true, true, true, false, true, true, true, false, false, false] rfl rfl (any_of HT_.out (by kernel_rfl)) (fun _ _ _ h => h) (Or.inl ⟨by rfl, ?_⟩) ?_ ?_
          rotate_left
          ·intro w'
           go_simp
           with_reducible rfl
          rotate_left
          ·simp only [Act.put, List.setIfInBounds_toArray, List.set_cons_zero, List.set_cons_succ, i64_w, i32_w]
           rfl
          refine take_ (i := 3) (N := some 46) (v := ?_) (a' := ?_) #[true, true, true, true, true, true, true, false, false, false] rfl rfl (take_ofW HT_.out HW_.out (by kernel_rfl)) (fun _ _ _ h => h) (Or.inl ⟨by rfl, ?_⟩) hHeld ?_ ?_
          rotate_left
          ·rintro w' ⟨s0, s1, s2, s3⟩
           go_simp
           with_reducible rfl
          rotate_left
          ·simp only [Act.put, List.setIfInBounds_toArray, List.set_cons_zero, List.set_cons_succ, i64_w, i32_w]
           rfl
          refine take_ (i := 7) (N := some 50) (v := ?_) (a' := ?_) #[true, true, true, true, true, true, true, true, false, false] rfl rfl (take_ofW HT_.out HW_.out (by kernel_rfl)) (fun _ _ _ h => h) (Or.inl ⟨by rfl, ?_⟩) hHeld ?_ ?_
          rotate_left
          ·rintro w' ⟨s0, s1, s2, s3⟩
           go_simp
           with_reducible rfl
          rotate_left
          ·simp only [Act.put, List.setIfInBounds_toArray, List.set_cons_zero, List.set_cons_succ, i64_w, i32_w]
           rfl
          refine one_ (i := 8) (N := some 51) #[true, true, true, true, true, true, true, true, true, false] rfl rfl (one_of HT_.out (by kernel_rfl)) (by decide) (fun K hK => ?_)
          refine goes_ Try.func32 (by kernel_rfl) rfl #[.agg #[.slice A460_0 ((rd_T50 t446 x9_2).f0).length c460_0, .slice A460_1 ((rd_T50 t446 x9_2).f1).length c460_1], .agg #[.slice A461_0 ((rd_T50 l0 x9_2).f0).length c461_0, .slice A461_1 ((rd_T50 l0 x9_2).f1).length c461_1]] (by rfl) rfl rfl (by (try simp only [List.map_toArray, List.map_cons, List.map_nil]); first | done | rfl | (simp only [List.length_drop, List.length_take]; rfl)) ?_
          with_reducible refine (arlinkref06_Same.calls k2 _ _ ((rd_T50 t446 x9_2).f0) _ _ ((rd_T50 t446 x9_2).f1) _ _ ((rd_T50 l0 x9_2).f0) _ _ ((rd_T50 l0 x9_2).f1) true _ ?side1 ?side2 ?side3 ?side4 ?side5 ?side6 ?side7 ?side8 A34.out).mono ?_
          (case side1 => repeat (first | exact (by repeat (first | (with_reducible exact HR460_0.out) | (with_reducible refine Kd.C_alloc ?_ _) | (with_reducible refine Kd.C_drewN ?_ _) | (with_reducible refine Kd.C_drew ?_) | exact HR460_0.out)) | (with_reducible refine Kd.C_alloc ?_ _) | (with_reducible refine Kd.C_drewN ?_ _) | (with_reducible refine Kd.C_drew ?_)))
          (case side2 => exact HC460_0.out)
          (case side3 => repeat (first | exact (by repeat (first | (with_reducible exact HR460_1.out) | (with_reducible refine Kd.C_alloc ?_ _) | (with_reducible refine Kd.C_drewN ?_ _) | (with_reducible refine Kd.C_drew ?_) | exact HR460_1.out)) | (with_reducible refine Kd.C_alloc ?_ _) | (with_reducible refine Kd.C_drewN ?_ _) | (with_reducible refine Kd.C_drew ?_)))
          (case side4 => exact HC460_1.out)
          (case side5 => repeat (first | exact (Kd.C_below HR461_0.out HB.out) | (with_reducible refine Kd.C_alloc ?_ _) | (with_reducible refine Kd.C_drewN ?_ _) | (with_reducible refine Kd.C_drew ?_)))
          (case side6 => exact HC461_0.out)
          (case side7 => repeat (first | exact (Kd.C_below HR461_1.out HB.out) | (with_reducible refine Kd.C_alloc ?_ _) | (with_reducible refine Kd.C_drewN ?_ _) | (with_reducible refine Kd.C_drew ?_)))
          (case side8 => exact HC461_1.out)
          rintro e w37 ⟨rfl, hb⟩
          have HS0_ := (hb.cell (World.block_lt_of_cell? _ _ (hHeld.1))).trans (hHeld.1)
          have HS1_ := (hb.cell (World.block_lt_of_cell? _ _ (hHeld.2.1))).trans (hHeld.2.1)
          refine ⟨_, rfl, ?_⟩
          have n0_ := Aside0.mk (Kd.S_below (by (with_reducible repeat (first | apply Kd.S_alloc | apply Kd.S_drewN | apply Kd.S_drew)); exact HO_7.out) hb)
          have n1_ := Aside0.mk (Kd.S_below (by (with_reducible repeat (first | apply Kd.S_alloc | apply Kd.S_drewN | apply Kd.S_drew)); exact HO_8.out) hb)
          have n2_ := Aside0.mk (Kd.R_below (by (with_reducible repeat (first | apply Kd.R_alloc | apply Kd.R_drewN | apply Kd.R_drew)); exact HL460_0.out) hb)
          have n3_ := Aside0.mk (Kd.R_below (by (with_reducible repeat (first | apply Kd.R_alloc | apply Kd.R_drewN | apply Kd.R_drew)); exact HL460_1.out) hb)
          have n4_ := Aside0.mk (Kd.C_below (by repeat (first | (with_reducible exact HR460_0.out) | (with_reducible refine Kd.C_alloc ?_ _) | (with_reducible refine Kd.C_drewN ?_ _) | (with_reducible refine Kd.C_drew ?_) | exact HR460_0.out)) hb)
          have n5_ := Aside0.mk (Kd.C_below (by repeat (first | (with_reducible exact HR460_1.out) | (with_reducible refine Kd.C_alloc ?_ _) | (with_reducible refine Kd.C_drewN ?_ _) | (with_reducible refine Kd.C_drew ?_) | exact HR460_1.out)) hb)
          have n6_ := Aside0.mk (below_step (by repeat (first | (with_reducible first | exact HB.out | apply below_alloc | apply pw_below_drewN | apply below_drew1) | exact HB.out)) hb)
          clear HO_7
          clear HO_8
          clear HL460_0
          clear HL460_1
          clear HR460_0
          clear HR460_1
          clear HB
          have HO_7 := n0_
          have HO_8 := n1_
          have HL460_0 := n2_
          have HL460_1 := n3_
          have HR460_0 := n4_
          have HR460_1 := n5_
          have HB := n6_
          clear n0_ n1_ n2_ n3_ n4_ n5_ n6_
          (try clear hb)
          (try clear hb2)
          (try clear hk)
          (try clear hi)
          refine hK.out _ _ ⟨HS0_, HS1_, ((HB.out.cell (World.block_lt_of_cell? w _ hw461_0)).trans hw461_0), ((HB.out.cell (World.block_lt_of_cell? w _ hw461_1)).trans hw461_1)⟩ (fun hHeld => ?_)
          clear hK K
          refine norm_ (a' := ?_) ?_ ?_
          rotate_left
          ·show Act.put _ (some 51) _ = _
           simp only [Act.put, List.setIfInBounds_toArray, List.set_cons_zero, List.set_cons_succ, i64_w, i32_w]
           rfl
          refine pure_ (i := 9) (N := some 52) (v := ?_) (a' := ?_) #[true, true, true, true, true, true, true, true, true, true] rfl rfl (any_of HT_.out (by kernel_rfl)) (fun _ _ _ h => h) (Or.inl ⟨by rfl, ?_⟩) ?_ ?_
          rotate_left
          ·intro w'
           go_simp
           with_reducible rfl
          rotate_left
          ·simp only [Act.put, List.setIfInBounds_toArray, List.set_cons_zero, List.set_cons_succ, i64_w, i32_w]
           rfl
          refine done_ (done_of HT_.out (by kernel_rfl)) ?_
          try go_wp2
          go_roundg k2
          case measure => have := HJ3.out; have := HK2.out; omega
          case rel => exact ⟨(wrap64 (x9_2 + 1)), (by first | rfl | (simp; done) | (simp [*]; done)), H', ⟨by have := HJ3.out; have := HK2.out; omega⟩, ⟨by (with_reducible repeat (first | apply Kd.S_alloc | apply Kd.S_drewN | apply Kd.S_drew)); exact HO_7.out⟩, ⟨by (with_reducible repeat (first | apply Kd.S_alloc | apply Kd.S_drewN | apply Kd.S_drew)); exact HO_8.out⟩, ⟨by repeat (first | (with_reducible first | exact HB.out | apply below_alloc | apply pw_below_drewN | apply below_drew1) | exact HB.out)⟩⟩
         ·replace c35 := Bool.eq_false_iff.mpr c35
          subst c35
          have H1 : (some false) = some r := by rw [if_neg (show ¬ (false = true) by decide)] at H; exact H
          clear H
          have H := H1
          clear H1
          obtain rfl := Option.some.inj H
          try go_wp2
          have n0_ := Aside0.mk (Kd.S_drew HO_7.out)
          have n1_ := Aside0.mk (Kd.S_drew HO_8.out)
          have n2_ := Aside0.mk (below_drew1 HB.out)
          clear HO_7
          clear HO_8
          clear HB
          have HO_7 := n0_
          have HO_8 := n1_
          have HB := n2_
          clear n0_ n1_ n2_
          have p460 : 0 ≤ (x9_2 : Int) := of_decide_eq_true (by first | (with_reducible assumption) | assumption)
          have q460 : x9_2 < (t446.length : Int) := of_decide_eq_true (by first | (with_reducible assumption) | assumption)
          obtain ⟨ad460, A460_0, c460_0, A460_1, c460_1, e460, hx460_0, hx460_1, hl460_0, hi460_0, hl460_1, hi460_1⟩ := at_T50 (Kd.S_reads' HO_7.out).2.2 x9_2 p460 q460
          cases e460
          obtain ⟨ce460, hce460, hMe460, hcc460⟩ := Kd.S_get HO_7.out z50 x9_2 p460 (by first | exact q460 | exact of_decide_eq_true (by first | (with_reducible assumption) | assumption) | (have e_ := (Kd.S_reads' HO_7.out).1; omega))
          obtain ⟨ve460_0, ve460_1, rfl, ge460_0, ge460_1⟩ := k50_openM hMe460
          have hv460_0 := hcc460 0 _ rfl
          rw [Nat.add_zero] at hv460_0
          replace hv460_0 := Option.some.inj (hv460_0.symm.trans hx460_0)
          rw [hv460_0] at ge460_0
          have HL460_0 := Aside0.mk (show Kd.R k55 55 _ _ _ _ ((rd_T50 t446 x9_2).f0) from ge460_0)
          clear hv460_0 ge460_0
          have hv460_1 := hcc460 1 _ rfl
          rw [add_field _ _ 1 (by omega)] at hv460_1
          replace hv460_1 := Option.some.inj (hv460_1.symm.trans hx460_1)
          rw [hv460_1] at ge460_1
          have HL460_1 := Aside0.mk (show Kd.R (Kd.int .u8) 5 _ _ _ _ ((rd_T50 t446 x9_2).f1) from ge460_1)
          clear hv460_1 ge460_1
          clear hcc460 hce460
          have HR460_0 := Aside0.mk hi460_0
          have HC460_0 := Aside0.mk hl460_0
          clear hi460_0 hl460_0
          have HR460_1 := Aside0.mk hi460_1
          have HC460_1 := Aside0.mk hl460_1
          clear hi460_1 hl460_1
          replace p460 := eq_true p460
          replace q460 := eq_true q460
          have p461 : 0 ≤ (x9_2 : Int) := of_decide_eq_true (by first | (with_reducible assumption) | assumption)
          have q461 : x9_2 < (l0.length : Int) := of_decide_eq_true (by first | (with_reducible assumption) | assumption)
          obtain ⟨ad461, A461_0, c461_0, A461_1, c461_1, e461, hx461_0, hx461_1, hl461_0, hi461_0, hl461_1, hi461_1⟩ := at_T50 HR0.out x9_2 p461 q461
          have hw461_1 := hx461_1
          have hw461_0 := hx461_0
          cases e461
          replace hx461_0 := (HB.out.cell (World.block_lt_of_cell? w _ hx461_0)).trans hx461_0
          replace hx461_1 := (HB.out.cell (World.block_lt_of_cell? w _ hx461_1)).trans hx461_1
          have HR461_0 := Aside0.mk hi461_0
          have HC461_0 := Aside0.mk hl461_0
          clear hi461_0 hl461_0
          have HR461_1 := Aside0.mk hi461_1
          have HC461_1 := Aside0.mk hl461_1
          clear hi461_1 hl461_1
          replace p461 := eq_true p461
          replace q461 := eq_true q461
          refine start_ (n := 10) (S := fun w' => w'.cell? (ad460.add ((x9_2).toNat * 2)) = some (.slice A460_0 ((rd_T50 t446 x9_2).f0).length c460_0) ∧ w'.cell? ⟨(ad460.add ((x9_2).toNat * 2)).block, (ad460.add ((x9_2).toNat * 2)).off + 1, none⟩ = some (.slice A460_1 ((rd_T50 t446 x9_2).f1).length c460_1) ∧ w'.cell? (ad461.add ((x9_2).toNat * 2)) = some (.slice A461_0 ((rd_T50 l0 x9_2).f0).length c461_0) ∧ w'.cell? ⟨(ad461.add ((x9_2).toNat * 2)).block, (ad461.add ((x9_2).toNat * 2)).off + 1, none⟩ = some (.slice A461_1 ((rd_T50 l0 x9_2).f1).length c461_1)) (ds := []) #[false, false, false, false, false, false, false, false, false, false] (by kernel_rfl) rfl rfl ⟨hx460_0, hx460_1, ((HB.out.cell (World.block_lt_of_cell? w _ hw461_0)).trans hw461_0), ((HB.out.cell (World.block_lt_of_cell? w _ hw461_1)).trans hw461_1)⟩ (fun hHeld => ?_); refine with_tabW arlinklaw22_ClosureKeeps.tab11 arlinklaw22_ClosureKeeps.bits11 (fun HT_ HW_ => ?_)
          generalize wr.drew = w38 at HO_7 HO_8 HB HL460_0 HL460_1 HR460_0 HR460_1 HR461_0 HR461_1 hx460_0 hx460_1 hx461_0 hx461_1 hHeld ⊢
          refine pure_ (i := 0) (N := some 43) (v := ?_) (a' := ?_) #[true, false, false, false, false, false, false, false, false, false] rfl rfl (any_of HT_.out (by kernel_rfl)) (fun _ _ _ h => h) (Or.inl ⟨by rfl, ?_⟩) ?_ ?_
          rotate_left
          ·intro w'
           go_simp
           with_reducible rfl
          rotate_left
          ·simp only [Act.put, List.setIfInBounds_toArray, List.set_cons_zero, List.set_cons_succ, i64_w, i32_w]
           rfl
          refine pure_ (i := 1) (N := some 44) (v := ?_) (a' := ?_) #[true, true, false, false, false, false, false, false, false, false] rfl rfl (any_of HT_.out (by kernel_rfl)) (fun _ _ _ h => h) (Or.inl ⟨by rfl, ?_⟩) ?_ ?_
          rotate_left
          ·intro w'
           go_simp
           with_reducible rfl
          rotate_left
          ·simp only [Act.put, List.setIfInBounds_toArray, List.set_cons_zero, List.set_cons_succ, i64_w, i32_w]
           rfl
          refine pure_ (i := 2) (N := some 45) (v := ?_) (a' := ?_) #[true, true, true, false, false, false, false, false, false, false] rfl rfl (any_of HT_.out (by kernel_rfl)) (fun _ _ _ h => h) (Or.inl ⟨by rfl, ?_⟩) ?_ ?_
          rotate_left
          ·intro w'
           go_simp
           with_reducible rfl
          rotate_left
          ·simp only [Act.put, List.setIfInBounds_toArray, List.set_cons_zero, List.set_cons_succ, i64_w, i32_w]
           rfl
          refine pure_ (i := 4) (N := some 47) (v := ?_) (a' := ?_) #[true, true, true, false, true, false, false, false, false, false] rfl rfl (any_of HT_.out (by kernel_rfl)) (fun _ _ _ h => h) (Or.inl ⟨by rfl, ?_⟩) ?_ ?_
          rotate_left
          ·intro w'
           go_simp
           with_reducible rfl
          rotate_left
          ·simp only [Act.put, List.setIfInBounds_toArray, List.set_cons_zero, List.set_cons_succ, i64_w, i32_w]
           rfl
          refine pure_ (i := 5) (N := some 48) (v := ?_) (a' := ?_) #[true, true, true, false, true, true, false, false, false, false] rfl rfl (any_of HT_.out (by kernel_rfl)) (fun _ _ _ h => h) (Or.inl ⟨by rfl, ?_⟩) ?_ ?_
          rotate_left
          ·intro w'
           go_simp
           with_reducible rfl
          rotate_left
          ·simp only [Act.put, List.setIfInBounds_toArray, List.set_cons_zero, List.set_cons_succ, i64_w, i32_w]
           rfl
          refine pure_ (i := 6) (N := some 49) (v := ?_) (a' := ?_) #[true, true, true, false, true, true, true, false, false, false] rfl rfl (any_of HT_.out (by kernel_rfl)) (fun _ _ _ h => h) (Or.inl ⟨by rfl, ?_⟩) ?_ ?_
          rotate_left
          ·intro w'
           go_simp
           with_reducible rfl
          rotate_left
          ·simp only [Act.put, List.setIfInBounds_toArray, List.set_cons_zero, List.set_cons_succ, i64_w, i32_w]
           rfl
          refine take_ (i := 3) (N := some 46) (v := ?_) (a' := ?_) #[true, true, true, true, true, true, true, false, false, false] rfl rfl (take_ofW HT_.out HW_.out (by kernel_rfl)) (fun _ _ _ h => h) (Or.inl ⟨by rfl, ?_⟩) hHeld ?_ ?_
          rotate_left
          ·rintro w' ⟨s0, s1, s2, s3⟩
           go_simp
           with_reducible rfl
          rotate_left
          ·simp only [Act.put, List.setIfInBounds_toArray, List.set_cons_zero, List.set_cons_succ, i64_w, i32_w]
           rfl
          refine take_ (i := 7) (N := some 50) (v := ?_) (a' := ?_) #[true, true, true, true, true, true, true, true, false, false] rfl rfl (take_ofW HT_.out HW_.out (by kernel_rfl)) (fun _ _ _ h => h) (Or.inl ⟨by rfl, ?_⟩) hHeld ?_ ?_
          rotate_left
          ·rintro w' ⟨s0, s1, s2, s3⟩
           go_simp
           with_reducible rfl
          rotate_left
          ·simp only [Act.put, List.setIfInBounds_toArray, List.set_cons_zero, List.set_cons_succ, i64_w, i32_w]
           rfl
          refine one_ (i := 8) (N := some 51) #[true, true, true, true, true, true, true, true, true, false] rfl rfl (one_of HT_.out (by kernel_rfl)) (by decide) (fun K hK => ?_)
          refine goes_ Try.func32 (by kernel_rfl) rfl #[.agg #[.slice A460_0 ((rd_T50 t446 x9_2).f0).length c460_0, .slice A460_1 ((rd_T50 t446 x9_2).f1).length c460_1], .agg #[.slice A461_0 ((rd_T50 l0 x9_2).f0).length c461_0, .slice A461_1 ((rd_T50 l0 x9_2).f1).length c461_1]] (by rfl) rfl rfl (by (try simp only [List.map_toArray, List.map_cons, List.map_nil]); first | done | rfl | (simp only [List.length_drop, List.length_take]; rfl)) ?_
          with_reducible refine (arlinkref06_Same.calls k2 _ _ ((rd_T50 t446 x9_2).f0) _ _ ((rd_T50 t446 x9_2).f1) _ _ ((rd_T50 l0 x9_2).f0) _ _ ((rd_T50 l0 x9_2).f1) false _ ?side1 ?side2 ?side3 ?side4 ?side5 ?side6 ?side7 ?side8 A34.out).mono ?_
          (case side1 => repeat (first | exact (by repeat (first | (with_reducible exact HR460_0.out) | (with_reducible refine Kd.C_alloc ?_ _) | (with_reducible refine Kd.C_drewN ?_ _) | (with_reducible refine Kd.C_drew ?_) | exact HR460_0.out)) | (with_reducible refine Kd.C_alloc ?_ _) | (with_reducible refine Kd.C_drewN ?_ _) | (with_reducible refine Kd.C_drew ?_)))
          (case side2 => exact HC460_0.out)
          (case side3 => repeat (first | exact (by repeat (first | (with_reducible exact HR460_1.out) | (with_reducible refine Kd.C_alloc ?_ _) | (with_reducible refine Kd.C_drewN ?_ _) | (with_reducible refine Kd.C_drew ?_) | exact HR460_1.out)) | (with_reducible refine Kd.C_alloc ?_ _) | (with_reducible refine Kd.C_drewN ?_ _) | (with_reducible refine Kd.C_drew ?_)))
          (case side4 => exact HC460_1.out)
          (case side5 => repeat (first | exact (Kd.C_below HR461_0.out HB.out) | (with_reducible refine Kd.C_alloc ?_ _) | (with_reducible refine Kd.C_drewN ?_ _) | (with_reducible refine Kd.C_drew ?_)))
          (case side6 => exact HC461_0.out)
          (case side7 => repeat (first | exact (Kd.C_below HR461_1.out HB.out) | (with_reducible refine Kd.C_alloc ?_ _) | (with_reducible refine Kd.C_drewN ?_ _) | (with_reducible refine Kd.C_drew ?_)))
          (case side8 => exact HC461_1.out)
          rintro e w39 ⟨rfl, hb⟩
          have HS0_ := (hb.cell (World.block_lt_of_cell? _ _ (hHeld.1))).trans (hHeld.1)
          have HS1_ := (hb.cell (World.block_lt_of_cell? _ _ (hHeld.2.1))).trans (hHeld.2.1)
          refine ⟨_, rfl, ?_⟩
          have n0_ := Aside0.mk (Kd.S_below (by (with_reducible repeat (first | apply Kd.S_alloc | apply Kd.S_drewN | apply Kd.S_drew)); exact HO_7.out) hb)
          have n1_ := Aside0.mk (Kd.S_below (by (with_reducible repeat (first | apply Kd.S_alloc | apply Kd.S_drewN | apply Kd.S_drew)); exact HO_8.out) hb)
          have n2_ := Aside0.mk (Kd.R_below (by (with_reducible repeat (first | apply Kd.R_alloc | apply Kd.R_drewN | apply Kd.R_drew)); exact HL460_0.out) hb)
          have n3_ := Aside0.mk (Kd.R_below (by (with_reducible repeat (first | apply Kd.R_alloc | apply Kd.R_drewN | apply Kd.R_drew)); exact HL460_1.out) hb)
          have n4_ := Aside0.mk (Kd.C_below (by repeat (first | (with_reducible exact HR460_0.out) | (with_reducible refine Kd.C_alloc ?_ _) | (with_reducible refine Kd.C_drewN ?_ _) | (with_reducible refine Kd.C_drew ?_) | exact HR460_0.out)) hb)
          have n5_ := Aside0.mk (Kd.C_below (by repeat (first | (with_reducible exact HR460_1.out) | (with_reducible refine Kd.C_alloc ?_ _) | (with_reducible refine Kd.C_drewN ?_ _) | (with_reducible refine Kd.C_drew ?_) | exact HR460_1.out)) hb)
          have n6_ := Aside0.mk (below_step (by repeat (first | (with_reducible first | exact HB.out | apply below_alloc | apply pw_below_drewN | apply below_drew1) | exact HB.out)) hb)
          clear HO_7
          clear HO_8
          clear HL460_0
          clear HL460_1
          clear HR460_0
          clear HR460_1
          clear HB
          have HO_7 := n0_
          have HO_8 := n1_
          have HL460_0 := n2_
          have HL460_1 := n3_
          have HR460_0 := n4_
          have HR460_1 := n5_
          have HB := n6_
          clear n0_ n1_ n2_ n3_ n4_ n5_ n6_
          (try clear hb)
          (try clear hb2)
          (try clear hk)
          (try clear hi)
          refine hK.out _ _ ⟨HS0_, HS1_, ((HB.out.cell (World.block_lt_of_cell? w _ hw461_0)).trans hw461_0), ((HB.out.cell (World.block_lt_of_cell? w _ hw461_1)).trans hw461_1)⟩ (fun hHeld => ?_)
          clear hK K
          refine norm_ (a' := ?_) ?_ ?_
          rotate_left
          ·show Act.put _ (some 51) _ = _
           simp only [Act.put, List.setIfInBounds_toArray, List.set_cons_zero, List.set_cons_succ, i64_w, i32_w]
           rfl
          refine pure_ (i := 9) (N := some 52) (v := ?_) (a' := ?_) #[true, true, true, true, true, true, true, true, true, true] rfl rfl (any_of HT_.out (by kernel_rfl)) (fun _ _ _ h => h) (Or.inl ⟨by rfl, ?_⟩) ?_ ?_
          rotate_left
          ·intro w'
           go_simp
           with_reducible rfl
          rotate_left
          ·simp only [Act.put, List.setIfInBounds_toArray, List.set_cons_zero, List.set_cons_succ, i64_w, i32_w]
           rfl
          refine done_ (done_of HT_.out (by kernel_rfl)) ?_
          try go_wp2
          go_ret
          exact ⟨by first | rfl | (simp [errW_none, errW_some] <;> rfl) | (simp [*, errW_none, errW_some] <;> rfl), by repeat (first | (with_reducible first | exact HB.out | apply below_alloc | apply pw_below_drewN | apply below_drew1) | exact HB.out)⟩
        ·rw [if_neg c33] at H
         exact absurd H (by simp)
       ·rw [if_neg c32] at H
        exact absurd H (by simp)
      ·rw [if_neg c31] at H
       have c31b0 : decide (x9_2 < (l0.length : Int)) = false := decide_eq_false c31
       clear c31
       have H' := Aside0.mk H
       clear H
       go_wp2
       go_loopg [10] k2 (fun kq v10 w' => ∃ (x10_3 : Int), v10 = .int .i64 x10_3 ∧ Aside0 (arlinklaw22_ClosureKeeps.l1 kq l1 t449 x10_3 = some r) ∧ Aside0 (kq ≤ k2) ∧ Aside0 (Kd.S k50 50 w' w.heap.size (fun _ => True) (.slice Ao27 t449.length co27) t449) ∧ Aside0 (Below w.heap.size w w'))
       case atStart => exact ⟨(0), (by first | rfl | (simp; done) | (simp [*]; done)), H', ⟨Nat.le_refl _⟩, ⟨by (with_reducible repeat (first | apply Kd.S_alloc | apply Kd.S_drewN | apply Kd.S_drew)); exact Kd.S_mono HO_8.out (fun _ hk => trivial)⟩, ⟨by repeat (first | (with_reducible first | exact HB.out | apply below_alloc | apply pw_below_drewN | apply below_drew1) | exact HB.out)⟩⟩
       case round =>
        clear H'
        try clear c1
        try clear c2
        try clear p2
        try clear c3
        try clear c4
        try clear p4
        try clear q4
        try clear hx4
        try clear c6
        try clear p6
        try clear c8
        try clear c10
        try clear c16
        try clear c22
        try clear c25
        try clear c26
        try clear c29
        try clear c31
        try clear c31b0
        try clear c32
        try clear c32b0
        try clear c33
        try clear c33b0
        try clear c35
        try clear hx460_0
        try clear hx460_1
        try clear hx461_0
        try clear hx461_1
        try clear p2
        try clear p460
        try clear p461
        try clear q460
        try clear q461
        obtain ⟨x10_3, rfl, HA, HK3, HO_8, HB⟩ := hrel
        cases gk with
        | zero => exact absurd HA.out (by simp [arlinklaw22_ClosureKeeps.l1])
        | succ k3 =>
         have H := HA.out
         clear HA
         simp only [arlinklaw22_ClosureKeeps.l1] at H
         by_cases c40 : x10_3 < (l1.length : Int)
         ·rw [if_pos c40] at H
          have c40b0 : decide (x10_3 < (l1.length : Int)) = true := decide_eq_true c40
          clear c40
          by_cases c41 : 0 ≤ x10_3
          ·rw [if_pos c41] at H
           have c41b0 : decide (0 ≤ x10_3) = true := decide_eq_true c41
           clear c41
           by_cases c42 : x10_3 < (t449.length : Int)
           ·rw [if_pos c42] at H
            have c42b0 : decide (x10_3 < (t449.length : Int)) = true := decide_eq_true c42
            clear c42
            replace H := Option.bind_eq_some_iff.mp H
            obtain ⟨t465, A430, H⟩ := H
            replace H : (if t465 = true then (arlinklaw22_ClosureKeeps.l1 k3 l1 t449 (wrap64 (x10_3 + 1))) else (some false)) = some r := H
            have A43 := Aside0.mk A430
            clear A430
            by_cases c44 : t465 = true
            ·subst c44
             have H1 : (arlinklaw22_ClosureKeeps.l1 k3 l1 t449 (wrap64 (x10_3 + 1))) = some r := by rw [if_pos rfl] at H; exact H
             clear H
             have H := H1
             clear H1
             have H' := Aside0.mk H
             clear H
             try go_wp2
             have n0_ := Aside0.mk (Kd.S_drew HO_8.out)
             have n1_ := Aside0.mk (below_drew1 HB.out)
             clear HO_8
             clear HB
             have HO_8 := n0_
             have HB := n1_
             clear n0_ n1_
             have p463 : 0 ≤ (x10_3 : Int) := of_decide_eq_true (by first | (with_reducible assumption) | assumption)
             have q463 : x10_3 < (t449.length : Int) := of_decide_eq_true (by first | (with_reducible assumption) | assumption)
             obtain ⟨ad463, A463_0, c463_0, A463_1, c463_1, e463, hx463_0, hx463_1, hl463_0, hi463_0, hl463_1, hi463_1⟩ := at_T50 (Kd.S_reads' HO_8.out).2.2 x10_3 p463 q463
             cases e463
             obtain ⟨ce463, hce463, hMe463, hcc463⟩ := Kd.S_get HO_8.out z50 x10_3 p463 (by first | exact q463 | exact of_decide_eq_true (by first | (with_reducible assumption) | assumption) | (have e_ := (Kd.S_reads' HO_8.out).1; omega))
             obtain ⟨ve463_0, ve463_1, rfl, ge463_0, ge463_1⟩ := k50_openM hMe463
             have hv463_0 := hcc463 0 _ rfl
             rw [Nat.add_zero] at hv463_0
             replace hv463_0 := Option.some.inj (hv463_0.symm.trans hx463_0)
             rw [hv463_0] at ge463_0
             have HL463_0 := Aside0.mk (show Kd.R k55 55 _ _ _ _ ((rd_T50 t449 x10_3).f0) from ge463_0)
             clear hv463_0 ge463_0
             have hv463_1 := hcc463 1 _ rfl
             rw [add_field _ _ 1 (by omega)] at hv463_1
             replace hv463_1 := Option.some.inj (hv463_1.symm.trans hx463_1)
             rw [hv463_1] at ge463_1
             have HL463_1 := Aside0.mk (show Kd.R (Kd.int .u8) 5 _ _ _ _ ((rd_T50 t449 x10_3).f1) from ge463_1)
             clear hv463_1 ge463_1
             clear hcc463 hce463
             have HR463_0 := Aside0.mk hi463_0
             have HC463_0 := Aside0.mk hl463_0
             clear hi463_0 hl463_0
             have HR463_1 := Aside0.mk hi463_1
             have HC463_1 := Aside0.mk hl463_1
             clear hi463_1 hl463_1
             replace p463 := eq_true p463
             replace q463 := eq_true q463
             have p464 : 0 ≤ (x10_3 : Int) := of_decide_eq_true (by first | (with_reducible assumption) | assumption)
             have q464 : x10_3 < (l1.length : Int) := of_decide_eq_true (by first | (with_reducible assumption) | assumption)
             obtain ⟨ad464, A464_0, c464_0, A464_1, c464_1, e464, hx464_0, hx464_1, hl464_0, hi464_0, hl464_1, hi464_1⟩ := at_T50 HR1.out x10_3 p464 q464
             have hw464_1 := hx464_1
             have hw464_0 := hx464_0
             cases e464
             replace hx464_0 := (HB.out.cell (World.block_lt_of_cell? w _ hx464_0)).trans hx464_0
             replace hx464_1 := (HB.out.cell (World.block_lt_of_cell? w _ hx464_1)).trans hx464_1
             have HR464_0 := Aside0.mk hi464_0
             have HC464_0 := Aside0.mk hl464_0
             clear hi464_0 hl464_0
             have HR464_1 := Aside0.mk hi464_1
             have HC464_1 := Aside0.mk hl464_1
             clear hi464_1 hl464_1
             replace p464 := eq_true p464
             replace q464 := eq_true q464
             refine start_ (n := 10) (S := fun w' => w'.cell? (ad463.add ((x10_3).toNat * 2)) = some (.slice A463_0 ((rd_T50 t449 x10_3).f0).length c463_0) ∧ w'.cell? ⟨(ad463.add ((x10_3).toNat * 2)).block, (ad463.add ((x10_3).toNat * 2)).off + 1, none⟩ = some (.slice A463_1 ((rd_T50 t449 x10_3).f1).length c463_1) ∧ w'.cell? (ad464.add ((x10_3).toNat * 2)) = some (.slice A464_0 ((rd_T50 l1 x10_3).f0).length c464_0) ∧ w'.cell? ⟨(ad464.add ((x10_3).toNat * 2)).block, (ad464.add ((x10_3).toNat * 2)).off + 1, none⟩ = some (.slice A464_1 ((rd_T50 l1 x10_3).f1).length c464_1)) (ds := []) #[false, false, false, false, false, false, false, false, false, false] (by kernel_rfl) rfl rfl ⟨hx463_0, hx463_1, ((HB.out.cell (World.block_lt_of_cell? w _ hw464_0)).trans hw464_0), ((HB.out.cell (World.block_lt_of_cell? w _ hw464_1)).trans hw464_1)⟩ (fun hHeld => ?_); refine with_tabW arlinklaw22_ClosureKeeps.tab16 arlinklaw22_ClosureKeeps.bits16 (fun HT_ HW_ => ?_)
             generalize wr.drew = w45 at HO_8 HB HL463_0 HL463_1 HR463_0 HR463_1 HR464_0 HR464_1 hx463_0 hx463_1 hx464_0 hx464_1 hHeld ⊢
             refine pure_ (i := 0) (N := some 59) (v := ?_) (a' := ?_) #[true, false, false, false, false, false, false, false, false, false] rfl rfl (any_of HT_.out (by kernel_rfl)) (fun _ _ _ h => h) (Or.inl ⟨by rfl, ?_⟩) ?_ ?_
             rotate_left
             ·intro w'
              go_simp
              with_reducible rfl
             rotate_left
             ·simp only [Act.put, List.setIfInBounds_toArray, List.set_cons_zero, List.set_cons_succ, i64_w, i32_w]
              rfl
             refine pure_ (i := 1) (N := some 60) (v := ?_) (a' := ?_) #[true, true, false, false, false, false, false, false, false, false] rfl rfl (any_of HT_.out (by kernel_rfl)) (fun _ _ _ h => h) (Or.inl ⟨by rfl, ?_⟩) ?_ ?_
             rotate_left
             ·intro w'
              go_simp
              with_reducible rfl
             rotate_left
             ·simp only [Act.put, List.setIfInBounds_toArray, List.set_cons_zero, List.set_cons_succ, i64_w, i32_w]
              rfl
             refine pure_ (i := 2) (N := some 61) (v := ?_) (a' := ?_) #[true, true, true, false, false, false, false, false, false, false] rfl rfl (any_of HT_.out (by kernel_rfl)) (fun _ _ _ h => h) (Or.inl ⟨by rfl, ?_⟩) ?_ ?_
             rotate_left
             ·intro w'
              go_simp
              with_reducible rfl
             rotate_left
             ·simp only [Act.put, List.setIfInBounds_toArray, List.set_cons_zero, List.set_cons_succ, i64_w, i32_w]
              rfl
             refine pure_ (i := 4) (N := some 63) (v := ?_) (a' := ?_) #[true, true, true, false, true, false, false, false, false, false] rfl rfl (any_of HT_.out (by kernel_rfl)) (fun _ _ _ h => h) (Or.inl ⟨by rfl, ?_⟩) ?_ ?_
             rotate_left
             ·intro w'
              go_simp
              with_reducible rfl
             rotate_left
             ·simp only [Act.put, List.setIfInBounds_toArray, List.set_cons_zero, List.set_cons_succ, i64_w, i32_w]
              rfl
             refine pure_ (i := 5) (N := some 64) (v := ?_) (a' := ?_) #[true, true, true, false, true, true, false, false, false, false] rfl rfl (any_of HT_.out (by kernel_rfl)) (fun _ _ _ h => h) (Or.inl ⟨by rfl, ?_⟩) ?_ ?_
             rotate_left
             ·intro w'
              go_simp
              with_reducible rfl
             rotate_left
             ·simp only [Act.put, List.setIfInBounds_toArray, List.set_cons_zero, List.set_cons_succ, i64_w, i32_w]
              rfl
             refine pure_ (i := 6) (N := some 65) (v := ?_) (a' := ?_) #[true, true, true, false, true, true, true, false, false, false] rfl rfl (any_of HT_.out (by kernel_rfl)) (fun _ _ _ h => h) (Or.inl ⟨by rfl, ?_⟩) ?_ ?_
             rotate_left
             ·intro w'
              go_simp
              with_reducible rfl
             rotate_left
             ·simp only [Act.put, List.setIfInBounds_toArray, List.set_cons_zero, List.set_cons_succ, i64_w, i32_w]
              rfl
             refine take_ (i := 3) (N := some 62) (v := ?_) (a' := ?_) #[true, true, true, true, true, true, true, false, false, false] rfl rfl (take_ofW HT_.out HW_.out (by kernel_rfl)) (fun _ _ _ h => h) (Or.inl ⟨by rfl, ?_⟩) hHeld ?_ ?_
             rotate_left
             ·rintro w' ⟨s0, s1, s2, s3⟩
              go_simp
              with_reducible rfl
             rotate_left
             ·simp only [Act.put, List.setIfInBounds_toArray, List.set_cons_zero, List.set_cons_succ, i64_w, i32_w]
              rfl
             refine take_ (i := 7) (N := some 66) (v := ?_) (a' := ?_) #[true, true, true, true, true, true, true, true, false, false] rfl rfl (take_ofW HT_.out HW_.out (by kernel_rfl)) (fun _ _ _ h => h) (Or.inl ⟨by rfl, ?_⟩) hHeld ?_ ?_
             rotate_left
             ·rintro w' ⟨s0, s1, s2, s3⟩
              go_simp
              with_reducible rfl
             rotate_left
             ·simp only [Act.put, List.setIfInBounds_toArray, List.set_cons_zero, List.set_cons_succ, i64_w, i32_w]
              rfl
             refine one_ (i := 8) (N := some 67) #[true, true, true, true, true, true, true, true, true, false] rfl rfl (one_of HT_.out (by kernel_rfl)) (by decide) (fun K hK => ?_)
             refine goes_ Try.func32 (by kernel_rfl) rfl #[.agg #[.slice A463_0 ((rd_T50 t449 x10_3).f0).length c463_0, .slice A463_1 ((rd_T50 t449 x10_3).f1).length c463_1], .agg #[.slice A464_0 ((rd_T50 l1 x10_3).f0).length c464_0, .slice A464_1 ((rd_T50 l1 x10_3).f1).length c464_1]] (by rfl) rfl rfl (by (try simp only [List.map_toArray, List.map_cons, List.map_nil]); first | done | rfl | (simp only [List.length_drop, List.length_take]; rfl)) ?_
             with_reducible refine (arlinkref06_Same.calls k3 _ _ ((rd_T50 t449 x10_3).f0) _ _ ((rd_T50 t449 x10_3).f1) _ _ ((rd_T50 l1 x10_3).f0) _ _ ((rd_T50 l1 x10_3).f1) true _ ?side1 ?side2 ?side3 ?side4 ?side5 ?side6 ?side7 ?side8 A43.out).mono ?_
             (case side1 => repeat (first | exact (by repeat (first | (with_reducible exact HR463_0.out) | (with_reducible refine Kd.C_alloc ?_ _) | (with_reducible refine Kd.C_drewN ?_ _) | (with_reducible refine Kd.C_drew ?_) | exact HR463_0.out)) | (with_reducible refine Kd.C_alloc ?_ _) | (with_reducible refine Kd.C_drewN ?_ _) | (with_reducible refine Kd.C_drew ?_)))
             (case side2 => exact HC463_0.out)
             (case side3 => repeat (first | exact (by repeat (first | (with_reducible exact HR463_1.out) | (with_reducible refine Kd.C_alloc ?_ _) | (with_reducible refine Kd.C_drewN ?_ _) | (with_reducible refine Kd.C_drew ?_) | exact HR463_1.out)) | (with_reducible refine Kd.C_alloc ?_ _) | (with_reducible refine Kd.C_drewN ?_ _) | (with_reducible refine Kd.C_drew ?_)))
             (case side4 => exact HC463_1.out)
             (case side5 => repeat (first | exact (Kd.C_below HR464_0.out HB.out) | (with_reducible refine Kd.C_alloc ?_ _) | (with_reducible refine Kd.C_drewN ?_ _) | (with_reducible refine Kd.C_drew ?_)))
             (case side6 => exact HC464_0.out)
             (case side7 => repeat (first | exact (Kd.C_below HR464_1.out HB.out) | (with_reducible refine Kd.C_alloc ?_ _) | (with_reducible refine Kd.C_drewN ?_ _) | (with_reducible refine Kd.C_drew ?_)))
             (case side8 => exact HC464_1.out)
             rintro e w46 ⟨rfl, hb⟩
             have HS0_ := (hb.cell (World.block_lt_of_cell? _ _ (hHeld.1))).trans (hHeld.1)
             have HS1_ := (hb.cell (World.block_lt_of_cell? _ _ (hHeld.2.1))).trans (hHeld.2.1)
             refine ⟨_, rfl, ?_⟩
             have n0_ := Aside0.mk (Kd.S_below (by (with_reducible repeat (first | apply Kd.S_alloc | apply Kd.S_drewN | apply Kd.S_drew)); exact HO_8.out) hb)
             have n1_ := Aside0.mk (Kd.R_below (by (with_reducible repeat (first | apply Kd.R_alloc | apply Kd.R_drewN | apply Kd.R_drew)); exact HL463_0.out) hb)
             have n2_ := Aside0.mk (Kd.R_below (by (with_reducible repeat (first | apply Kd.R_alloc | apply Kd.R_drewN | apply Kd.R_drew)); exact HL463_1.out) hb)
             have n3_ := Aside0.mk (Kd.C_below (by repeat (first | (with_reducible exact HR463_0.out) | (with_reducible refine Kd.C_alloc ?_ _) | (with_reducible refine Kd.C_drewN ?_ _) | (with_reducible refine Kd.C_drew ?_) | exact HR463_0.out)) hb)
             have n4_ := Aside0.mk (Kd.C_below (by repeat (first | (with_reducible exact HR463_1.out) | (with_reducible refine Kd.C_alloc ?_ _) | (with_reducible refine Kd.C_drewN ?_ _) | (with_reducible refine Kd.C_drew ?_) | exact HR463_1.out)) hb)
             have n5_ := Aside0.mk (below_step (by repeat (first | (with_reducible first | exact HB.out | apply below_alloc | apply pw_below_drewN | apply below_drew1) | exact HB.out)) hb)
             clear HO_8
             clear HL463_0
             clear HL463_1
             clear HR463_0
             clear HR463_1
             clear HB
             have HO_8 := n0_
             have HL463_0 := n1_
             have HL463_1 := n2_
             have HR463_0 := n3_
             have HR463_1 := n4_
             have HB := n5_
             clear n0_ n1_ n2_ n3_ n4_ n5_
             (try clear hb)
             (try clear hb2)
             (try clear hk)
             (try clear hi)
             refine hK.out _ _ ⟨HS0_, HS1_, ((HB.out.cell (World.block_lt_of_cell? w _ hw464_0)).trans hw464_0), ((HB.out.cell (World.block_lt_of_cell? w _ hw464_1)).trans hw464_1)⟩ (fun hHeld => ?_)
             clear hK K
             refine norm_ (a' := ?_) ?_ ?_
             rotate_left
             ·show Act.put _ (some 67) _ = _
              simp only [Act.put, List.setIfInBounds_toArray, List.set_cons_zero, List.set_cons_succ, i64_w, i32_w]
              rfl
             refine pure_ (i := 9) (N := some 68) (v := ?_) (a' := ?_) #[true, true, true, true, true, true, true, true, true, true] rfl rfl (any_of HT_.out (by kernel_rfl)) (fun _ _ _ h => h) (Or.inl ⟨by rfl, ?_⟩) ?_ ?_
             rotate_left
             ·intro w'
              go_simp
              with_reducible rfl
             rotate_left
             ·simp only [Act.put, List.setIfInBounds_toArray, List.set_cons_zero, List.set_cons_succ, i64_w, i32_w]
              rfl
             refine done_ (done_of HT_.out (by kernel_rfl)) ?_
             try go_wp2
             go_roundg k3
             case measure => have := HJ3.out; have := HK2.out; have := HK3.out; omega
             case rel => exact ⟨(wrap64 (x10_3 + 1)), (by first | rfl | (simp; done) | (simp [*]; done)), H', ⟨by have := HJ3.out; have := HK2.out; have := HK3.out; omega⟩, ⟨by (with_reducible repeat (first | apply Kd.S_alloc | apply Kd.S_drewN | apply Kd.S_drew)); exact HO_8.out⟩, ⟨by repeat (first | (with_reducible first | exact HB.out | apply below_alloc | apply pw_below_drewN | apply below_drew1) | exact HB.out)⟩⟩
            ·replace c44 := Bool.eq_false_iff.mpr c44
             subst c44
             have H1 : (some false) = some r := by rw [if_neg (show ¬ (false = true) by decide)] at H; exact H
             clear H
             have H := H1
             clear H1
             obtain rfl := Option.some.inj H
             try go_wp2
             have n0_ := Aside0.mk (Kd.S_drew HO_8.out)
             have n1_ := Aside0.mk (below_drew1 HB.out)
             clear HO_8
             clear HB
             have HO_8 := n0_
             have HB := n1_
             clear n0_ n1_
             have p463 : 0 ≤ (x10_3 : Int) := of_decide_eq_true (by first | (with_reducible assumption) | assumption)
             have q463 : x10_3 < (t449.length : Int) := of_decide_eq_true (by first | (with_reducible assumption) | assumption)
             obtain ⟨ad463, A463_0, c463_0, A463_1, c463_1, e463, hx463_0, hx463_1, hl463_0, hi463_0, hl463_1, hi463_1⟩ := at_T50 (Kd.S_reads' HO_8.out).2.2 x10_3 p463 q463
             cases e463
             obtain ⟨ce463, hce463, hMe463, hcc463⟩ := Kd.S_get HO_8.out z50 x10_3 p463 (by first | exact q463 | exact of_decide_eq_true (by first | (with_reducible assumption) | assumption) | (have e_ := (Kd.S_reads' HO_8.out).1; omega))
             obtain ⟨ve463_0, ve463_1, rfl, ge463_0, ge463_1⟩ := k50_openM hMe463
             have hv463_0 := hcc463 0 _ rfl
             rw [Nat.add_zero] at hv463_0
             replace hv463_0 := Option.some.inj (hv463_0.symm.trans hx463_0)
             rw [hv463_0] at ge463_0
             have HL463_0 := Aside0.mk (show Kd.R k55 55 _ _ _ _ ((rd_T50 t449 x10_3).f0) from ge463_0)
             clear hv463_0 ge463_0
             have hv463_1 := hcc463 1 _ rfl
             rw [add_field _ _ 1 (by omega)] at hv463_1
             replace hv463_1 := Option.some.inj (hv463_1.symm.trans hx463_1)
             rw [hv463_1] at ge463_1
             have HL463_1 := Aside0.mk (show Kd.R (Kd.int .u8) 5 _ _ _ _ ((rd_T50 t449 x10_3).f1) from ge463_1)
             clear hv463_1 ge463_1
             clear hcc463 hce463
             have HR463_0 := Aside0.mk hi463_0
             have HC463_0 := Aside0.mk hl463_0
             clear hi463_0 hl463_0
             have HR463_1 := Aside0.mk hi463_1
             have HC463_1 := Aside0.mk hl463_1
             clear hi463_1 hl463_1
             replace p463 := eq_true p463
             replace q463 := eq_true q463
             have p464 : 0 ≤ (x10_3 : Int) := of_decide_eq_true (by first | (with_reducible assumption) | assumption)
             have q464 : x10_3 < (l1.length : Int) := of_decide_eq_true (by first | (with_reducible assumption) | assumption)
             obtain ⟨ad464, A464_0, c464_0, A464_1, c464_1, e464, hx464_0, hx464_1, hl464_0, hi464_0, hl464_1, hi464_1⟩ := at_T50 HR1.out x10_3 p464 q464
             have hw464_1 := hx464_1
             have hw464_0 := hx464_0
             cases e464
             replace hx464_0 := (HB.out.cell (World.block_lt_of_cell? w _ hx464_0)).trans hx464_0
             replace hx464_1 := (HB.out.cell (World.block_lt_of_cell? w _ hx464_1)).trans hx464_1
             have HR464_0 := Aside0.mk hi464_0
             have HC464_0 := Aside0.mk hl464_0
             clear hi464_0 hl464_0
             have HR464_1 := Aside0.mk hi464_1
             have HC464_1 := Aside0.mk hl464_1
             clear hi464_1 hl464_1
             replace p464 := eq_true p464
             replace q464 := eq_true q464
             refine start_ (n := 10) (S := fun w' => w'.cell? (ad463.add ((x10_3).toNat * 2)) = some (.slice A463_0 ((rd_T50 t449 x10_3).f0).length c463_0) ∧ w'.cell? ⟨(ad463.add ((x10_3).toNat * 2)).block, (ad463.add ((x10_3).toNat * 2)).off + 1, none⟩ = some (.slice A463_1 ((rd_T50 t449 x10_3).f1).length c463_1) ∧ w'.cell? (ad464.add ((x10_3).toNat * 2)) = some (.slice A464_0 ((rd_T50 l1 x10_3).f0).length c464_0) ∧ w'.cell? ⟨(ad464.add ((x10_3).toNat * 2)).block, (ad464.add ((x10_3).toNat * 2)).off + 1, none⟩ = some (.slice A464_1 ((rd_T50 l1 x10_3).f1).length c464_1)) (ds := []) #[false, false, false, false, false, false, false, false, false, false] (by kernel_rfl) rfl rfl ⟨hx463_0, hx463_1, ((HB.out.cell (World.block_lt_of_cell? w _ hw464_0)).trans hw464_0), ((HB.out.cell (World.block_lt_of_cell? w _ hw464_1)).trans hw464_1)⟩ (fun hHeld => ?_); refine with_tabW arlinklaw22_ClosureKeeps.tab16 arlinklaw22_ClosureKeeps.bits16 (fun HT_ HW_ => ?_)
             generalize wr.drew = w47 at HO_8 HB HL463_0 HL463_1 HR463_0 HR463_1 HR464_0 HR464_1 hx463_0 hx463_1 hx464_0 hx464_1 hHeld ⊢
             refine pure_ (i := 0) (N := some 59) (v := ?_) (a' := ?_) #[true, false, false, false, false, false, false, false, false, false] rfl rfl (any_of HT_.out (by kernel_rfl)) (fun _ _ _ h => h) (Or.inl ⟨by rfl, ?_⟩) ?_ ?_
             rotate_left
             ·intro w'
              go_simp
              with_reducible rfl
             rotate_left
             ·simp only [Act.put, List.setIfInBounds_toArray, List.set_cons_zero, List.set_cons_succ, i64_w, i32_w]
              rfl
             refine pure_ (i := 1) (N := some 60) (v := ?_) (a' := ?_) #[true, true, false, false, false, false, false, false, false, false] rfl rfl (any_of HT_.out (by kernel_rfl)) (fun _ _ _ h => h) (Or.inl ⟨by rfl, ?_⟩) ?_ ?_
             rotate_left
             ·intro w'
              go_simp
              with_reducible rfl
             rotate_left
             ·simp only [Act.put, List.setIfInBounds_toArray, List.set_cons_zero, List.set_cons_succ, i64_w, i32_w]
              rfl
             refine pure_ (i := 2) (N := some 61) (v := ?_) (a' := ?_) #[true, true, true, false, false, false, false, false, false, false] rfl rfl (any_of HT_.out (by kernel_rfl)) (fun _ _ _ h => h) (Or.inl ⟨by rfl, ?_⟩) ?_ ?_
             rotate_left
             ·intro w'
              go_simp
              with_reducible rfl
             rotate_left
             ·simp only [Act.put, List.setIfInBounds_toArray, List.set_cons_zero, List.set_cons_succ, i64_w, i32_w]
              rfl
             refine pure_ (i := 4) (N := some 63) (v := ?_) (a' := ?_) #[true, true, true, false, true, false, false, false, false, false] rfl rfl (any_of HT_.out (by kernel_rfl)) (fun _ _ _ h => h) (Or.inl ⟨by rfl, ?_⟩) ?_ ?_
             rotate_left
             ·intro w'
              go_simp
              with_reducible rfl
             rotate_left
             ·simp only [Act.put, List.setIfInBounds_toArray, List.set_cons_zero, List.set_cons_succ, i64_w, i32_w]
              rfl
             refine pure_ (i := 5) (N := some 64) (v := ?_) (a' := ?_) #[true, true, true, false, true, true, false, false, false, false] rfl rfl (any_of HT_.out (by kernel_rfl)) (fun _ _ _ h => h) (Or.inl ⟨by rfl, ?_⟩) ?_ ?_
             rotate_left
             ·intro w'
              go_simp
              with_reducible rfl
             rotate_left
             ·simp only [Act.put, List.setIfInBounds_toArray, List.set_cons_zero, List.set_cons_succ, i64_w, i32_w]
              rfl
             refine pure_ (i := 6) (N := some 65) (v := ?_) (a' := ?_) #[true, true, true, false, true, true, true, false, false, false] rfl rfl (any_of HT_.out (by kernel_rfl)) (fun _ _ _ h => h) (Or.inl ⟨by rfl, ?_⟩) ?_ ?_
             rotate_left
             ·intro w'
              go_simp
              with_reducible rfl
             rotate_left
             ·simp only [Act.put, List.setIfInBounds_toArray, List.set_cons_zero, List.set_cons_succ, i64_w, i32_w]
              rfl
             refine take_ (i := 3) (N := some 62) (v := ?_) (a' := ?_) #[true, true, true, true, true, true, true, false, false, false] rfl rfl (take_ofW HT_.out HW_.out (by kernel_rfl)) (fun _ _ _ h => h) (Or.inl ⟨by rfl, ?_⟩) hHeld ?_ ?_
             rotate_left
             ·rintro w' ⟨s0, s1, s2, s3⟩
              go_simp
              with_reducible rfl
             rotate_left
             ·simp only [Act.put, List.setIfInBounds_toArray, List.set_cons_zero, List.set_cons_succ, i64_w, i32_w]
              rfl
             refine take_ (i := 7) (N := some 66) (v := ?_) (a' := ?_) #[true, true, true, true, true, true, true, true, false, false] rfl rfl (take_ofW HT_.out HW_.out (by kernel_rfl)) (fun _ _ _ h => h) (Or.inl ⟨by rfl, ?_⟩) hHeld ?_ ?_
             rotate_left
             ·rintro w' ⟨s0, s1, s2, s3⟩
              go_simp
              with_reducible rfl
             rotate_left
             ·simp only [Act.put, List.setIfInBounds_toArray, List.set_cons_zero, List.set_cons_succ, i64_w, i32_w]
              rfl
             refine one_ (i := 8) (N := some 67) #[true, true, true, true, true, true, true, true, true, false] rfl rfl (one_of HT_.out (by kernel_rfl)) (by decide) (fun K hK => ?_)
             refine goes_ Try.func32 (by kernel_rfl) rfl #[.agg #[.slice A463_0 ((rd_T50 t449 x10_3).f0).length c463_0, .slice A463_1 ((rd_T50 t449 x10_3).f1).length c463_1], .agg #[.slice A464_0 ((rd_T50 l1 x10_3).f0).length c464_0, .slice A464_1 ((rd_T50 l1 x10_3).f1).length c464_1]] (by rfl) rfl rfl (by (try simp only [List.map_toArray, List.map_cons, List.map_nil]); first | done | rfl | (simp only [List.length_drop, List.length_take]; rfl)) ?_
             with_reducible refine (arlinkref06_Same.calls k3 _ _ ((rd_T50 t449 x10_3).f0) _ _ ((rd_T50 t449 x10_3).f1) _ _ ((rd_T50 l1 x10_3).f0) _ _ ((rd_T50 l1 x10_3).f1) false _ ?side1 ?side2 ?side3 ?side4 ?side5 ?side6 ?side7 ?side8 A43.out).mono ?_
             (case side1 => repeat (first | exact (by repeat (first | (with_reducible exact HR463_0.out) | (with_reducible refine Kd.C_alloc ?_ _) | (with_reducible refine Kd.C_drewN ?_ _) | (with_reducible refine Kd.C_drew ?_) | exact HR463_0.out)) | (with_reducible refine Kd.C_alloc ?_ _) | (with_reducible refine Kd.C_drewN ?_ _) | (with_reducible refine Kd.C_drew ?_)))
             (case side2 => exact HC463_0.out)
             (case side3 => repeat (first | exact (by repeat (first | (with_reducible exact HR463_1.out) | (with_reducible refine Kd.C_alloc ?_ _) | (with_reducible refine Kd.C_drewN ?_ _) | (with_reducible refine Kd.C_drew ?_) | exact HR463_1.out)) | (with_reducible refine Kd.C_alloc ?_ _) | (with_reducible refine Kd.C_drewN ?_ _) | (with_reducible refine Kd.C_drew ?_)))
             (case side4 => exact HC463_1.out)
             (case side5 => repeat (first | exact (Kd.C_below HR464_0.out HB.out) | (with_reducible refine Kd.C_alloc ?_ _) | (with_reducible refine Kd.C_drewN ?_ _) | (with_reducible refine Kd.C_drew ?_)))
             (case side6 => exact HC464_0.out)
             (case side7 => repeat (first | exact (Kd.C_below HR464_1.out HB.out) | (with_reducible refine Kd.C_alloc ?_ _) | (with_reducible refine Kd.C_drewN ?_ _) | (with_reducible refine Kd.C_drew ?_)))
             (case side8 => exact HC464_1.out)
             rintro e w48 ⟨rfl, hb⟩
             have HS0_ := (hb.cell (World.block_lt_of_cell? _ _ (hHeld.1))).trans (hHeld.1)
             have HS1_ := (hb.cell (World.block_lt_of_cell? _ _ (hHeld.2.1))).trans (hHeld.2.1)
             refine ⟨_, rfl, ?_⟩
             have n0_ := Aside0.mk (Kd.S_below (by (with_reducible repeat (first | apply Kd.S_alloc | apply Kd.S_drewN | apply Kd.S_drew)); exact HO_8.out) hb)
             have n1_ := Aside0.mk (Kd.R_below (by (with_reducible repeat (first | apply Kd.R_alloc | apply Kd.R_drewN | apply Kd.R_drew)); exact HL463_0.out) hb)
             have n2_ := Aside0.mk (Kd.R_below (by (with_reducible repeat (first | apply Kd.R_alloc | apply Kd.R_drewN | apply Kd.R_drew)); exact HL463_1.out) hb)
             have n3_ := Aside0.mk (Kd.C_below (by repeat (first | (with_reducible exact HR463_0.out) | (with_reducible refine Kd.C_alloc ?_ _) | (with_reducible refine Kd.C_drewN ?_ _) | (with_reducible refine Kd.C_drew ?_) | exact HR463_0.out)) hb)
             have n4_ := Aside0.mk (Kd.C_below (by repeat (first | (with_reducible exact HR463_1.out) | (with_reducible refine Kd.C_alloc ?_ _) | (with_reducible refine Kd.C_drewN ?_ _) | (with_reducible refine Kd.C_drew ?_) | exact HR463_1.out)) hb)
             have n5_ := Aside0.mk (below_step (by repeat (first | (with_reducible first | exact HB.out | apply below_alloc | apply pw_below_drewN | apply below_drew1) | exact HB.out)) hb)
             clear HO_8
             clear HL463_0
             clear HL463_1
             clear HR463_0
             clear HR463_1
             clear HB
             have HO_8 := n0_
             have HL463_0 := n1_
             have HL463_1 := n2_
             have HR463_0 := n3_
             have HR463_1 := n4_
             have HB := n5_
             clear n0_ n1_ n2_ n3_ n4_ n5_
             (try clear hb)
             (try clear hb2)
             (try clear hk)
             (try clear hi)
             refine hK.out _ _ ⟨HS0_, HS1_, ((HB.out.cell (World.block_lt_of_cell? w _ hw464_0)).trans hw464_0), ((HB.out.cell (World.block_lt_of_cell? w _ hw464_1)).trans hw464_1)⟩ (fun hHeld => ?_)
             clear hK K
             refine norm_ (a' := ?_) ?_ ?_
             rotate_left
             ·show Act.put _ (some 67) _ = _
              simp only [Act.put, List.setIfInBounds_toArray, List.set_cons_zero, List.set_cons_succ, i64_w, i32_w]
              rfl
             refine pure_ (i := 9) (N := some 68) (v := ?_) (a' := ?_) #[true, true, true, true, true, true, true, true, true, true] rfl rfl (any_of HT_.out (by kernel_rfl)) (fun _ _ _ h => h) (Or.inl ⟨by rfl, ?_⟩) ?_ ?_
             rotate_left
             ·intro w'
              go_simp
              with_reducible rfl
             rotate_left
             ·simp only [Act.put, List.setIfInBounds_toArray, List.set_cons_zero, List.set_cons_succ, i64_w, i32_w]
              rfl
             refine done_ (done_of HT_.out (by kernel_rfl)) ?_
             try go_wp2
             go_ret
             exact ⟨by first | rfl | (simp [errW_none, errW_some] <;> rfl) | (simp [*, errW_none, errW_some] <;> rfl), by repeat (first | (with_reducible first | exact HB.out | apply below_alloc | apply pw_below_drewN | apply below_drew1) | exact HB.out)⟩
           ·rw [if_neg c42] at H
            exact absurd H (by simp)
          ·rw [if_neg c41] at H
           exact absurd H (by simp)
         ·rw [if_neg c40] at H
          have c40b0 : decide (x10_3 < (l1.length : Int)) = false := decide_eq_false c40
          clear c40
          obtain rfl := Option.some.inj H
          go_wp2
          go_ret
          exact ⟨by first | rfl | (simp [errW_none, errW_some] <;> rfl) | (simp [*, errW_none, errW_some] <;> rfl), by repeat (first | (with_reducible first | exact HB.out | apply below_alloc | apply pw_below_drewN | apply below_drew1) | exact HB.out)⟩
end Go.Proofs.Ythpjpkcfepmhkaa.PAll
namespace Go.Proofs.Ythpjpkcfepmhkaa.PAll
open Go.RowKit Go.Proofs.YthpjpkcfepmhkaaW.PrintWords Go.Proofs.YthpjpkcfepmhkaaW.PrintLast Go.Proofs.YthpjpkcfepmhkaaW.PrintMore
set_option linter.unusedVariables false
set_option linter.unusedSimpArgs false
theorem copied_loop (l : List S50) (hl : l.length ≤ 1000000) (h0 : ∀ o, o ∈ l → o.f0.length ≤ 1000000 ∧ o.f1.length ≤ 1000000) : ∀ (d i : Nat), i + d = l.length → Ev (fun k => arlinklaw22_copied.l0 k l (l.take i) (i : Int)) l
  | 0, i, h => by
    have : l.take i = l := List.take_of_length_le (by omega)
    rw [this]
    exact Ev.step (f := fun _ => some l) (fun k => by simp only [arlinklaw22_copied.l0]; rw [if_neg (by omega)]) (Ev.now _)
  | d + 1, i, h => by
    have hi : i < l.length := by omega
    have ih := copied_loop l hl h0 d (i + 1) (by omega)
    rw [List.take_add_one, List.getElem?_eq_getElem hi] at ih
    obtain ⟨h1, h2⟩ := h0 _ (List.getElem_mem hi)
    have hr : rd_T50 l (i : Int) = l[i] := rd50 hi
    have ht : (l.take i).length = i := by rw [List.length_take]; omega
    exact Ev.step (fun k => by
      simp only [arlinklaw22_copied.l0, Option.bind_some, List.nil_append, List.length_nil]
      rw [if_pos (by omega), if_pos (by omega), hr, if_pos (by omega), if_pos (by omega), if_pos (by omega), wrN i (by omega)]; rfl) ih
theorem copied_ev (l : List S50) (hl : l.length ≤ 1000000) (h0 : ∀ o, o ∈ l → o.f0.length ≤ 1000000 ∧ o.f1.length ≤ 1000000) : Ev (fun k => arlinklaw22_copied.f k l) l := by
  have := copied_loop l hl h0 l.length 0 (by omega)
  rwa [List.take_zero] at this
theorem same01_loop (a : List Int) (hl : a.length ≤ 1000000) : ∀ (d i : Nat), i + d = a.length → Ev (fun k => arlinkref01_Same.l0 k a a (i : Int)) true
  | 0, i, h => Ev.step (f := fun _ => some true) (fun k => by simp only [arlinkref01_Same.l0]; rw [if_neg (by omega)]) (Ev.now _)
  | d + 1, i, h => Ev.step (f := fun k => arlinkref01_Same.l0 k a a ((i + 1 : Nat) : Int)) (fun k => by simp only [arlinkref01_Same.l0]; rw [if_pos (by omega), if_pos (by omega), if_pos (by omega), if_true, wrN i (by omega)]) (same01_loop a hl d (i + 1) (by omega))
theorem same01_ev (a : List Int) (hl : a.length ≤ 1000000) : Ev (fun k => arlinkref01_Same.f k a a) true := by
  unfold arlinkref01_Same.f
  exact Ev.congr (f := fun k => arlinkref01_Same.l0 k a a ((0 : Nat) : Int)) (fun k => by rw [if_pos rfl]; rfl) (same01_loop a hl a.length 0 (by omega))
theorem same06_loop (a : List S55) (b : List Int) (hl : a.length ≤ 1000000) (hb : b.length ≤ 1000000) : ∀ (d i : Nat), i + d = a.length → Ev (fun k => arlinkref06_Same.l0 k (i : Int) a b a b) true
  | 0, i, h => Ev.step (f := fun k => (arlinkref01_Same.f k b b).bind fun t => some t) (fun k => by simp only [arlinkref06_Same.l0]; rw [if_neg (by omega)]) (Ev.bind (same01_ev b hb) (Ev.now _))
  | d + 1, i, h => Ev.step (f := fun k => arlinkref06_Same.l0 k ((i + 1 : Nat) : Int) a b a b) (fun k => by
      simp only [arlinkref06_Same.l0, beq_self_eq_true, Bool.not_true, Bool.or_self]
      rw [if_pos (by omega), if_pos (by omega), if_pos (by omega), if_neg (by decide), wrN i (by omega)]) (same06_loop a b hl hb d (i + 1) (by omega))
theorem same06_ev (a : List S55) (b : List Int) (hl : a.length ≤ 1000000) (hb : b.length ≤ 1000000) : Ev (fun k => arlinkref06_Same.f k a b a b) true := by
  unfold arlinkref06_Same.f
  exact Ev.congr (f := fun k => arlinkref06_Same.l0 k ((0 : Nat) : Int) a b a b) (fun k => by rw [if_pos rfl]; rfl) (same06_loop a b hl hb a.length 0 (by omega))
section
variable {os ms : List S50} (ho : os.length ≤ 1000000) (ho2 : ∀ o, o ∈ os → o.f0.length ≤ 1000000 ∧ o.f1.length ≤ 1000000) (hm : ms.length ≤ 1000000) (hm2 : ∀ o, o ∈ ms → o.f0.length ≤ 1000000 ∧ o.f1.length ≤ 1000000)
include hm hm2
theorem keeps_l1 : ∀ (d i : Nat), i + d = ms.length → Ev (fun k => arlinklaw22_ClosureKeeps.l1 k ms ms (i : Int)) true
  | 0, i, h => Ev.step (f := fun _ => some true) (fun k => by simp only [arlinklaw22_ClosureKeeps.l1]; rw [if_neg (by omega)]) (Ev.now _)
  | d + 1, i, h => by
    have hi : i < ms.length := by omega
    have hr : rd_T50 ms (i : Int) = ms[i] := rd50 hi
    obtain ⟨h1, h2⟩ := hm2 _ (List.getElem_mem hi)
    exact Ev.step (f := fun k => (arlinkref06_Same.f k ms[i].f0 ms[i].f1 ms[i].f0 ms[i].f1).bind fun t => if t = true then arlinklaw22_ClosureKeeps.l1 k ms ms ((i + 1 : Nat) : Int) else some false) (fun k => by
      simp only [arlinklaw22_ClosureKeeps.l1]
      rw [if_pos (by omega), if_pos (by omega), if_pos (by omega), hr, wrN i (by omega)]) (Ev.bind (same06_ev _ _ h1 h2) (Ev.congr (fun k => by rw [if_pos rfl]) (keeps_l1 d (i + 1) (by omega))))
include ho ho2
theorem keeps_l0 : ∀ (d i : Nat), i + d = os.length → Ev (fun k => arlinklaw22_ClosureKeeps.l0 k os ms os ms (i : Int)) true
  | 0, i, h => Ev.step (fun k => by simp only [arlinklaw22_ClosureKeeps.l0]; rw [if_neg (by omega)]; rfl) (keeps_l1 hm hm2 ms.length 0 (by omega))
  | d + 1, i, h => by
    have hi : i < os.length := by omega
    have hr : rd_T50 os (i : Int) = os[i] := rd50 hi
    obtain ⟨h1, h2⟩ := ho2 _ (List.getElem_mem hi)
    exact Ev.step (f := fun k => (arlinkref06_Same.f k os[i].f0 os[i].f1 os[i].f0 os[i].f1).bind fun t => if t = true then arlinklaw22_ClosureKeeps.l0 k os ms os ms ((i + 1 : Nat) : Int) else some false) (fun k => by
      simp only [arlinklaw22_ClosureKeeps.l0]
      rw [if_pos (by omega), if_pos (by omega), if_pos (by omega), hr, wrN i (by omega)]) (Ev.bind (same06_ev _ _ h1 h2) (Ev.congr (fun k => by rw [if_pos rfl]) (keeps_l0 d (i + 1) (by omega))))
end
theorem awake22_ev4 : Ev (fun _ : Nat => arlinklaw22_awake.f) true := Ev.now _
theorem closureKeeps_ev (os ms : List S50) (a : Int) (h0 : -9223372036854775808 ≤ a) (h1 : a ≤ 9223372036854775807) : Ev (fun k => arlinklaw22_ClosureKeeps.f k os ms a) true := by
  have hj : Ev (fun k => arlinklaw22_ClosureKeeps.j0 k os ms a true) true := Ev.step (f := fun k => arlinklaw22_awake.f.bind fun t => some t) (fun k => by simp only [arlinklaw22_ClosureKeeps.j0]; rfl) (Ev.bind awake22_ev4 (Ev.now _))
  unfold arlinklaw22_ClosureKeeps.f
  refine Ev.bind awake22_ev4 (Ev.congr (fun k => by rw [if_pos rfl]) ?_)
  obtain ⟨b, hb, hbP⟩ := right_ev os
  refine Ev.bind hb ?_
  cases b with
  | false => exact Ev.congr (fun k => by rw [if_neg (by decide)]) hj
  | true =>
    refine Ev.congr (fun k => by rw [if_pos rfl]) ?_
    obtain ⟨c, hc, hcP⟩ := right_ev ms
    refine Ev.bind hc ?_
    cases c with
    | false => exact hj
    | true =>
      have ho := hbP rfl
      have hm := hcP rfl
      have ho2 : ∀ o, o ∈ os → o.f0.length ≤ 1000000 ∧ o.f1.length ≤ 1000000 := fun o h => ⟨ho.slim.2 o h, by have := right_body hb o h; omega⟩
      have hm2 : ∀ o, o ∈ ms → o.f0.length ≤ 1000000 ∧ o.f1.length ≤ 1000000 := fun o h => ⟨hm.slim.2 o h, by have := right_body hc o h; omega⟩
      obtain ⟨nd, hnd, _⟩ := ho.needed hm
      obtain ⟨r, hw, _⟩ := why_ok ho hm h0 h1
      have hu : closure_Unique.f ms = some (uniqB (prsOf ms 0)) := by unfold closure_Unique.f; rw [if_pos hm.small]
      refine Ev.step (f := fun k => (arlinklaw22_copied.f k os).bind fun t446 => (arlinklaw22_copied.f k ms).bind fun t449 => (closure_Needed.f t446 t449).bind fun t452 => (closure_Why.f t446 t449 a).bind fun bt455 => (closure_Unique.f t449).bind fun t459 => arlinklaw22_ClosureKeeps.l0 k os ms t446 t449 0) (fun k => by
        simp only [arlinklaw22_ClosureKeeps.j0, Bool.not_true]; rw [if_neg (by decide)]) ?_
      refine Ev.bind (copied_ev os ho.slim.1 ho2) (Ev.bind (copied_ev ms hm.slim.1 hm2) (Ev.congr (f := fun k => arlinklaw22_ClosureKeeps.l0 k os ms os ms ((0 : Nat) : Int)) (fun k => ?_) (keeps_l0 ho.slim.1 ho2 hm.slim.1 hm2 os.length 0 (by omega))))
      rw [hnd, Option.bind_some, hw, Option.bind_some, hu, Option.bind_some]; rfl
end Go.Proofs.Ythpjpkcfepmhkaa.PAll
