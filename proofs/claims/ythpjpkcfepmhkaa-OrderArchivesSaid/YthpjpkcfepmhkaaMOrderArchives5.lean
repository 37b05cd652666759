/- Laid together by a program of this session (wip/bundle.py) out of its own texts and of the words that the kit's print.sh laid for this seat, cut to what is used. -/
import Derived.Test.YthpjpkcfepmhkaaMOrderArchives4
import Derived.Deep.CutBlock
import Derived.BigRegion
namespace Go.Proofs.Ythpjpkcfepmhkaa.PAll
open Go.RowKit Go.Proofs.YthpjpkcfepmhkaaW.PrintWords Go.Proofs.YthpjpkcfepmhkaaW.PrintLast Go.Proofs.YthpjpkcfepmhkaaW.PrintMore
attribute [local go_sem] max2_int min2_int max_two min_two max_three min_three max_four min_four   -- for this text's walks alone
set_option linter.unusedVariables false
set_option linter.unusedSimpArgs false
attribute [local go_sem high] eqA39
mutual
def arlinkref23_Needs.l0 : Nat → List (List (S50)) → List (S39) → Int → Option ((List (S39)))
 | 0, _, _, _ => none
 | k + 1, x0, x3, x4 => if x4 < (x0.length : Int) then (arlinkref23_Needs.l1 k x0 x3 x4 0) else (some x3)
def arlinkref23_Needs.l1 : Nat → List (List (S50)) → List (S39) → Int → Int → Option ((List (S39)))
 | 0, _, _, _, _ => none
 | k + 1, x0, x3, x4, x5 => if x5 < (x0.length : Int) then (if x4 = x5 then (arlinkref23_Needs.l1 k x0 x3 x4 (wrap64 (x5 + 1))) else (if 0 ≤ x4 then (if x4 < (x0.length : Int) then (if 0 ≤ x5 then ((arlinkref23_Need.f k (rd_L10 x0 x4) (rd_L10 x0 x5)).bind fun t480 => (if t480 = true then (if x3.length < 8796093022208 then (arlinkref23_Needs.l1 k x0 (x3 ++ [(⟨x4, x5⟩ : S39)]) x4 (wrap64 (x5 + 1))) else (none)) else (arlinkref23_Needs.l1 k x0 x3 x4 (wrap64 (x5 + 1))))) else (none)) else (none)) else (none))) else (arlinkref23_Needs.l0 k x0 x3 (wrap64 (x4 + 1)))
end
def arlinkref23_Needs.f (k : Nat) (l0 : List (List (S50))) : Option ((List (S39))) := arlinkref23_Needs.l0 k l0 ([] : List (S39)) 0
def arlinkref23_Needs.T8 : Bool × List (List Nat × List Nat) := (true, [([], []), ([], []), ([0, 1], [0, 1]), ([2], [2]), ([3], [3]), ([3], [3]), ([4, 5, 3], [3, 4, 5]), ([6, 3], [3, 6]), ([3], [3]), ([3], [3]), ([8, 9, 3], [3, 8, 9]), ([10, 3], [3, 10]), ([7, 11, 3, 3], [3, 7, 11]), ([3, 12], [3, 12])])
def arlinkref23_Needs.B8 : List Nat := [0, 0, 3, 7, 15, 15, 63, 127, 15, 15, 783, 1807, 4095, 8191]
theorem arlinkref23_Needs.tab8 : rtab .any (opsOf Try.f34 8) = arlinkref23_Needs.T8 := by kernel_rfl
theorem arlinkref23_Needs.bits8 : waitsOk arlinkref23_Needs.T8.2 arlinkref23_Needs.B8 = true := by kernel_rfl
set_option maxHeartbeats 8000000 in
set_option maxRecDepth 100000 in
theorem arlinkref23_Needs.calls (k : Nat) (A0 : Option Addr) (c0 : Nat) (l0 : List (List (S50))) (r : List (S39)) (w : World) (hr0 : Kd.C (Kd.slice 50 k50) w A0 l0.length l0) (hc0 : l0.length ≤ c0) (h : arlinkref23_Needs.f k l0 = some r) :
  Calls Try.prog 34 #[.slice A0 l0.length c0] w fun e w' => ∃ v0_ : Value, e = .returned (v0_) ∧ Kd.R k39 39 w' w.heap.size (fun _ => True) v0_ r ∧ Below w.heap.size w w' := by
 have hu39 := Try.underlying39
 have HR0 := Aside0.mk hr0
 have HC0 := Aside0.mk hc0
 clear hr0 hc0
 have HB := Aside0.mk (Below.refl w.heap.size w)
 have H : (arlinkref23_Needs.l0 k l0 ([] : List (S39)) 0) = some r := h
 clear h
 have H' := Aside0.mk H
 clear H
 go_enter Try.func34, Try.ntmps34
 go_wp2
 go_loopg [3, 4] k (fun kq v3 v4 w' => ∃ (x3_1 : List (S39)) (x4_1 : Int), v4 = .int .i64 x4_1 ∧ Aside0 (arlinkref23_Needs.l0 kq l0 x3_1 x4_1 = some r) ∧ Aside0 (kq ≤ k) ∧ Aside0 (Kd.R k39 39 w' w.heap.size (fun _ => True) v3 x3_1) ∧ Aside0 (Below w.heap.size w w'))
 case atStart => exact ⟨(([] : List (S39))), (0), (by first | rfl | (simp; done) | (simp [*]; done)), H', ⟨Nat.le_refl _⟩, ⟨by first | exact Kd.R_nil _ _ _ _ _ | exact Kd.N_nil _ _ _ _ _ | exact Kd.V_nil _ _ _ _ _ | exact Kd.Q_nil _ _ _ _ _ | exact Kd.S_nil _ _ _ _ _⟩, ⟨by repeat (first | (with_reducible first | exact HB.out | apply below_alloc | apply pw_below_drewN | apply below_drew1) | exact HB.out)⟩⟩
 case round =>
  clear H'
  obtain ⟨x3_1, x4_1, rfl, HA, HK1, HO_3, HB⟩ := hrel
  cases gk with
  | zero => exact absurd HA.out (by simp [arlinkref23_Needs.l0])
  | succ k1 =>
   have H := HA.out
   clear HA
   simp only [arlinkref23_Needs.l0] at H
   by_cases c2 : x4_1 < (l0.length : Int)
   ·rw [if_pos c2] at H
    have c2b0 : decide (x4_1 < (l0.length : Int)) = true := decide_eq_true c2
    clear c2
    have H' := Aside0.mk H
    clear H
    go_wp2
    go_loopg [3, 5] k1 (fun kq v3 v5 w' => ∃ (x3_2 : List (S39)) (x5_2 : Int), v5 = .int .i64 x5_2 ∧ Aside0 (arlinkref23_Needs.l1 kq l0 x3_2 x4_1 x5_2 = some r) ∧ Aside0 (kq ≤ k1) ∧ Aside0 (Kd.R k39 39 w' w.heap.size (fun _ => True) v3 x3_2) ∧ Aside0 (Below w.heap.size w w'))
    case atStart => exact ⟨(x3_1), (0), (by first | rfl | (simp; done) | (simp [*]; done)), H', ⟨Nat.le_refl _⟩, ⟨by (with_reducible repeat (first | apply Kd.R_alloc | apply Kd.R_drewN | apply Kd.R_drew)); exact HO_3.out⟩, ⟨by repeat (first | (with_reducible first | exact HB.out | apply below_alloc | apply pw_below_drewN | apply below_drew1) | exact HB.out)⟩⟩
    case round =>
     clear H'
     try clear c2
     try clear c2b0
     try clear p2
     obtain ⟨x3_2, x5_2, rfl, HA, HK2, HO_3, HB⟩ := hrel
     cases gk with
     | zero => exact absurd HA.out (by simp [arlinkref23_Needs.l1])
     | succ k2 =>
      have H := HA.out
      clear HA
      simp only [arlinkref23_Needs.l1] at H
      by_cases c3 : x5_2 < (l0.length : Int)
      ·rw [if_pos c3] at H
       have c3b0 : decide (x5_2 < (l0.length : Int)) = true := decide_eq_true c3
       clear c3
       by_cases c4 : x4_1 = x5_2
       ·rw [if_pos c4] at H
        have c4b0 : (x4_1 == x5_2) = true := beq_iff_eq.mpr c4
        have c4b1 : (x4_1 != x5_2) = false := bne_eq_false_iff_eq.mpr c4
        clear c4
        have H' := Aside0.mk H
        clear H
        try go_wp2
        have n0_ := Aside0.mk (Kd.R_drew HO_3.out)
        have n1_ := Aside0.mk (below_drew1 HB.out)
        clear HO_3
        clear HB
        have HO_3 := n0_
        have HB := n1_
        clear n0_ n1_
        refine start_ (n := 14) (S := fun w' => True) (ds := []) #[false, false, false, false, false, false, false, false, false, false, false, false, false, false] (by kernel_rfl) rfl rfl trivial (fun hHeld => ?_); refine with_tabW arlinkref23_Needs.tab8 arlinkref23_Needs.bits8 (fun HT_ HW_ => ?_)
        generalize wr.drew = w5 at HO_3 HB hHeld ⊢
        refine pure_ (i := 0) (N := some 18) (v := ?_) (a' := ?_) #[true, false, false, false, false, false, false, false, false, false, false, false, false, false] rfl rfl (any_of HT_.out (by kernel_rfl)) (fun _ _ _ h => h) (Or.inl ⟨by rfl, ?_⟩) ?_ ?_
        rotate_left
        ·intro w'
         go_simp
         with_reducible rfl
        rotate_left
        ·simp only [Act.put, List.setIfInBounds_toArray, List.set_cons_zero, List.set_cons_succ, i64_w, i32_w]
         rfl
        refine pure_ (i := 1) (N := some 19) (v := ?_) (a' := ?_) #[true, true, false, false, false, false, false, false, false, false, false, false, false, false] rfl rfl (any_of HT_.out (by kernel_rfl)) (fun _ _ _ h => h) (Or.inl ⟨by rfl, ?_⟩) ?_ ?_
        rotate_left
        ·intro w'
         go_simp
         with_reducible rfl
        rotate_left
        ·simp only [Act.put, List.setIfInBounds_toArray, List.set_cons_zero, List.set_cons_succ, i64_w, i32_w]
         rfl
        refine pure_ (i := 2) (N := some 20) (v := ?_) (a' := ?_) #[true, true, true, false, false, false, false, false, false, false, false, false, false, false] rfl rfl (any_of HT_.out (by kernel_rfl)) (fun _ _ _ h => h) (Or.inl ⟨by rfl, ?_⟩) ?_ ?_
        rotate_left
        ·intro w'
         go_simp
         with_reducible rfl
        rotate_left
        ·simp only [Act.put, List.setIfInBounds_toArray, List.set_cons_zero, List.set_cons_succ, i64_w, i32_w]
         rfl
        refine pure_ (i := 3) (N := some 21) (v := ?_) (a' := ?_) #[true, true, true, true, false, false, false, false, false, false, false, false, false, false] rfl rfl (any_of HT_.out (by kernel_rfl)) (fun _ _ _ h => h) (Or.inl ⟨by rfl, ?_⟩) ?_ ?_
        rotate_left
        ·intro w'
         go_simp
         with_reducible rfl
        rotate_left
        ·simp only [Act.put, List.setIfInBounds_toArray, List.set_cons_zero, List.set_cons_succ, i64_w, i32_w]
         rfl
        refine pure_ (i := 4) (N := some 22) (v := undef) (a' := ?_) #[true, true, true, true, true, false, false, false, false, false, false, false, false, false] rfl rfl (any_of HT_.out (by kernel_rfl)) (fun _ _ _ h => h) (Or.inr ⟨by rfl, rfl⟩) ?_ ?_
        rotate_left
        ·simp only [Act.put, List.setIfInBounds_toArray, List.set_cons_zero, List.set_cons_succ, i64_w, i32_w]
         rfl
        refine pure_ (i := 5) (N := some 23) (v := undef) (a' := ?_) #[true, true, true, true, true, true, false, false, false, false, false, false, false, false] rfl rfl (any_of HT_.out (by kernel_rfl)) (fun _ _ _ h => h) (Or.inr ⟨by rfl, rfl⟩) ?_ ?_
        rotate_left
        ·simp only [Act.put, List.setIfInBounds_toArray, List.set_cons_zero, List.set_cons_succ, i64_w, i32_w]
         rfl
        refine pure_ (i := 6) (N := some 24) (v := undef) (a' := ?_) #[true, true, true, true, true, true, true, false, false, false, false, false, false, false] rfl rfl (any_of HT_.out (by kernel_rfl)) (fun _ _ _ h => h) (Or.inr ⟨by rfl, rfl⟩) ?_ ?_
        rotate_left
        ·simp only [Act.put, List.setIfInBounds_toArray, List.set_cons_zero, List.set_cons_succ, i64_w, i32_w]
         rfl
        refine pure_ (i := 7) (N := some 25) (v := undef) (a' := ?_) #[true, true, true, true, true, true, true, true, false, false, false, false, false, false] rfl rfl (any_of HT_.out (by kernel_rfl)) (fun _ _ _ h => h) (Or.inr ⟨by rfl, rfl⟩) ?_ ?_
        rotate_left
        ·simp only [Act.put, List.setIfInBounds_toArray, List.set_cons_zero, List.set_cons_succ, i64_w, i32_w]
         rfl
        refine pure_ (i := 8) (N := some 26) (v := undef) (a' := ?_) #[true, true, true, true, true, true, true, true, true, false, false, false, false, false] rfl rfl (any_of HT_.out (by kernel_rfl)) (fun _ _ _ h => h) (Or.inr ⟨by rfl, rfl⟩) ?_ ?_
        rotate_left
        ·simp only [Act.put, List.setIfInBounds_toArray, List.set_cons_zero, List.set_cons_succ, i64_w, i32_w]
         rfl
        refine pure_ (i := 9) (N := some 27) (v := undef) (a' := ?_) #[true, true, true, true, true, true, true, true, true, true, false, false, false, false] rfl rfl (any_of HT_.out (by kernel_rfl)) (fun _ _ _ h => h) (Or.inr ⟨by rfl, rfl⟩) ?_ ?_
        rotate_left
        ·simp only [Act.put, List.setIfInBounds_toArray, List.set_cons_zero, List.set_cons_succ, i64_w, i32_w]
         rfl
        refine pure_ (i := 10) (N := some 28) (v := undef) (a' := ?_) #[true, true, true, true, true, true, true, true, true, true, true, false, false, false] rfl rfl (any_of HT_.out (by kernel_rfl)) (fun _ _ _ h => h) (Or.inr ⟨by rfl, rfl⟩) ?_ ?_
        rotate_left
        ·simp only [Act.put, List.setIfInBounds_toArray, List.set_cons_zero, List.set_cons_succ, i64_w, i32_w]
         rfl
        refine pure_ (i := 11) (N := some 29) (v := undef) (a' := ?_) #[true, true, true, true, true, true, true, true, true, true, true, true, false, false] rfl rfl (any_of HT_.out (by kernel_rfl)) (fun _ _ _ h => h) (Or.inr ⟨by rfl, rfl⟩) ?_ ?_
        rotate_left
        ·simp only [Act.put, List.setIfInBounds_toArray, List.set_cons_zero, List.set_cons_succ, i64_w, i32_w]
         rfl
        refine pure_ (i := 12) (N := some 30) (v := undef) (a' := ?_) #[true, true, true, true, true, true, true, true, true, true, true, true, true, false] rfl rfl (any_of HT_.out (by kernel_rfl)) (fun _ _ _ h => h) (Or.inr ⟨by rfl, rfl⟩) ?_ ?_
        rotate_left
        ·simp only [Act.put, List.setIfInBounds_toArray, List.set_cons_zero, List.set_cons_succ, i64_w, i32_w]
         rfl
        refine pure_ (i := 13) (N := some 31) (v := ?_) (a' := ?_) #[true, true, true, true, true, true, true, true, true, true, true, true, true, true] rfl rfl (any_of HT_.out (by kernel_rfl)) (fun _ _ _ h => h) (Or.inl ⟨by rfl, ?_⟩) ?_ ?_
        rotate_left
        ·intro w'
         go_simp
         with_reducible rfl
        rotate_left
        ·simp only [Act.put, List.setIfInBounds_toArray, List.set_cons_zero, List.set_cons_succ, i64_w, i32_w]
         rfl
        refine done_ (done_of HT_.out (by kernel_rfl)) ?_
        try go_wp2
        go_roundg k2
        case measure => have := HK1.out; have := HK2.out; omega
        case rel => exact ⟨(x3_2), (wrap64 (x5_2 + 1)), (by first | rfl | (simp; done) | (simp [*]; done)), H', ⟨by have := HK1.out; have := HK2.out; omega⟩, ⟨by (with_reducible repeat (first | apply Kd.R_alloc | apply Kd.R_drewN | apply Kd.R_drew)); exact HO_3.out⟩, ⟨by repeat (first | (with_reducible first | exact HB.out | apply below_alloc | apply pw_below_drewN | apply below_drew1) | exact HB.out)⟩⟩
       ·rw [if_neg c4] at H
        have c4b0 : (x4_1 == x5_2) = false := beq_eq_false_iff_ne.mpr c4
        have c4b1 : (x4_1 != x5_2) = true := bne_iff_ne.mpr c4
        by_cases c6 : 0 ≤ x4_1
        ·rw [if_pos c6] at H
         have c6b0 : decide (0 ≤ x4_1) = true := decide_eq_true c6
         clear c6
         by_cases c7 : x4_1 < (l0.length : Int)
         ·rw [if_pos c7] at H
          have c7b0 : decide (x4_1 < (l0.length : Int)) = true := decide_eq_true c7
          clear c7
          by_cases c8 : 0 ≤ x5_2
          ·rw [if_pos c8] at H
           have c8b0 : decide (0 ≤ x5_2) = true := decide_eq_true c8
           clear c8
           replace H := Option.bind_eq_some_iff.mp H
           obtain ⟨t480, A90, H⟩ := H
           replace H : (if t480 = true then (if x3_2.length < 8796093022208 then (arlinkref23_Needs.l1 k2 l0 (x3_2 ++ [(⟨x4_1, x5_2⟩ : S39)]) x4_1 (wrap64 (x5_2 + 1))) else (none)) else (arlinkref23_Needs.l1 k2 l0 x3_2 x4_1 (wrap64 (x5_2 + 1)))) = some r := H
           have A9 := Aside0.mk A90
           clear A90
           by_cases c10 : t480 = true
           ·subst c10
            have H1 : (if x3_2.length < 8796093022208 then (arlinkref23_Needs.l1 k2 l0 (x3_2 ++ [(⟨x4_1, x5_2⟩ : S39)]) x4_1 (wrap64 (x5_2 + 1))) else (none)) = some r := by rw [if_pos rfl] at H; exact H
            clear H
            have H := H1
            clear H1
            by_cases c11 : x3_2.length < 8796093022208
            ·rw [if_pos c11] at H
             have LMc11 := Aside0.mk c11
             clear c11
             obtain ⟨y481, hy481⟩ : ∃ y_ : List (S39), y_ = (x3_2 ++ [(⟨x4_1, x5_2⟩ : S39)]) := ⟨_, rfl⟩
             replace H : (arlinkref23_Needs.l1 k2 l0 y481 x4_1 (wrap64 (x5_2 + 1))) = some r := by first | (rw [hy481]; with_reducible exact H) | (have H2_ := (Option.bind_some _ _).symm.trans H; rw [hy481]; with_reducible exact H2_) | (have H2_ := (Option.bind_some _ _).symm.trans H; with_reducible exact H2_) | with_reducible exact H | (rw [hy481]; exact H) | exact H
             have Ny481 := Aside0.mk hy481
             clear hy481
             have H' := Aside0.mk H
             clear H
             try go_wp2
             have n0_ := Aside0.mk (Kd.R_drew HO_3.out)
             have n1_ := Aside0.mk (below_drew1 HB.out)
             clear HO_3
             clear HB
             have HO_3 := n0_
             have HB := n1_
             clear n0_ n1_
             have p478 : 0 ≤ (x4_1 : Int) := of_decide_eq_true (by first | (with_reducible assumption) | assumption)
             have q478 : x4_1 < (l0.length : Int) := of_decide_eq_true (by first | (with_reducible assumption) | assumption)
             obtain ⟨ad478, A478_0, c478_0, e478, hx478_0, hl478_0, hi478_0⟩ := at_L10 HR0.out x4_1 p478 q478
             have hw478_0 := hx478_0
             cases e478
             replace hx478_0 := (HB.out.cell (World.block_lt_of_cell? w _ hx478_0)).trans hx478_0
             have HR478_0 := Aside0.mk hi478_0
             have HC478_0 := Aside0.mk hl478_0
             clear hi478_0 hl478_0
             replace p478 := eq_true p478
             replace q478 := eq_true q478
             have p479 : 0 ≤ (x5_2 : Int) := of_decide_eq_true (by first | (with_reducible assumption) | assumption)
             have q479 : x5_2 < (l0.length : Int) := of_decide_eq_true (by first | (with_reducible assumption) | assumption)
             obtain ⟨ad479, A479_0, c479_0, e479, hx479_0, hl479_0, hi479_0⟩ := at_L10 HR0.out x5_2 p479 q479
             have hw479_0 := hx479_0
             obtain rfl : ad478 = ad479 := (by injection e479)
             replace hx479_0 := (HB.out.cell (World.block_lt_of_cell? w _ hx479_0)).trans hx479_0
             have HR479_0 := Aside0.mk hi479_0
             have HC479_0 := Aside0.mk hl479_0
             clear hi479_0 hl479_0
             replace p479 := eq_true p479
             replace q479 := eq_true q479
             refine start_ (n := 14) (S := fun w' => w'.cell? (ad478.add (x4_1).toNat) = some (.slice A478_0 (rd_L10 l0 x4_1).length c478_0) ∧ w'.cell? (ad478.add (x5_2).toNat) = some (.slice A479_0 (rd_L10 l0 x5_2).length c479_0)) (ds := []) #[false, false, false, false, false, false, false, false, false, false, false, false, false, false] (by kernel_rfl) rfl rfl ⟨((HB.out.cell (World.block_lt_of_cell? w _ hw478_0)).trans hw478_0), ((HB.out.cell (World.block_lt_of_cell? w _ hw479_0)).trans hw479_0)⟩ (fun hHeld => ?_); refine with_tabW arlinkref23_Needs.tab8 arlinkref23_Needs.bits8 (fun HT_ HW_ => ?_)
             generalize wr.drew = w12 at HO_3 HB HR478_0 HR479_0 hx478_0 hx479_0 hHeld ⊢
             refine pure_ (i := 0) (N := some 18) (v := ?_) (a' := ?_) #[true, false, false, false, false, false, false, false, false, false, false, false, false, false] rfl rfl (any_of HT_.out (by kernel_rfl)) (fun _ _ _ h => h) (Or.inl ⟨by rfl, ?_⟩) ?_ ?_
             rotate_left
             ·intro w'
              go_simp
              with_reducible rfl
             rotate_left
             ·simp only [Act.put, List.setIfInBounds_toArray, List.set_cons_zero, List.set_cons_succ, i64_w, i32_w]
              rfl
             refine pure_ (i := 1) (N := some 19) (v := ?_) (a' := ?_) #[true, true, false, false, false, false, false, false, false, false, false, false, false, false] rfl rfl (any_of HT_.out (by kernel_rfl)) (fun _ _ _ h => h) (Or.inl ⟨by rfl, ?_⟩) ?_ ?_
             rotate_left
             ·intro w'
              go_simp
              with_reducible rfl
             rotate_left
             ·simp only [Act.put, List.setIfInBounds_toArray, List.set_cons_zero, List.set_cons_succ, i64_w, i32_w]
              rfl
             refine pure_ (i := 2) (N := some 20) (v := ?_) (a' := ?_) #[true, true, true, false, false, false, false, false, false, false, false, false, false, false] rfl rfl (any_of HT_.out (by kernel_rfl)) (fun _ _ _ h => h) (Or.inl ⟨by rfl, ?_⟩) ?_ ?_
             rotate_left
             ·intro w'
              go_simp
              with_reducible rfl
             rotate_left
             ·simp only [Act.put, List.setIfInBounds_toArray, List.set_cons_zero, List.set_cons_succ, i64_w, i32_w]
              rfl
             refine pure_ (i := 3) (N := some 21) (v := ?_) (a' := ?_) #[true, true, true, true, false, false, false, false, false, false, false, false, false, false] rfl rfl (any_of HT_.out (by kernel_rfl)) (fun _ _ _ h => h) (Or.inl ⟨by rfl, ?_⟩) ?_ ?_
             rotate_left
             ·intro w'
              go_simp
              with_reducible rfl
             rotate_left
             ·simp only [Act.put, List.setIfInBounds_toArray, List.set_cons_zero, List.set_cons_succ, i64_w, i32_w]
              rfl
             refine pure_ (i := 4) (N := some 22) (v := ?_) (a' := ?_) #[true, true, true, true, true, false, false, false, false, false, false, false, false, false] rfl rfl (any_of HT_.out (by kernel_rfl)) (fun _ _ _ h => h) (Or.inl ⟨by rfl, ?_⟩) ?_ ?_
             rotate_left
             ·intro w'
              go_simp
              with_reducible rfl
             rotate_left
             ·simp only [Act.put, List.setIfInBounds_toArray, List.set_cons_zero, List.set_cons_succ, i64_w, i32_w]
              rfl
             refine pure_ (i := 5) (N := some 23) (v := ?_) (a' := ?_) #[true, true, true, true, true, true, false, false, false, false, false, false, false, false] rfl rfl (any_of HT_.out (by kernel_rfl)) (fun _ _ _ h => h) (Or.inl ⟨by rfl, ?_⟩) ?_ ?_
             rotate_left
             ·intro w'
              go_simp
              with_reducible rfl
             rotate_left
             ·simp only [Act.put, List.setIfInBounds_toArray, List.set_cons_zero, List.set_cons_succ, i64_w, i32_w]
              rfl
             refine pure_ (i := 6) (N := some 24) (v := ?_) (a' := ?_) #[true, true, true, true, true, true, true, false, false, false, false, false, false, false] rfl rfl (any_of HT_.out (by kernel_rfl)) (fun _ _ _ h => h) (Or.inl ⟨by rfl, ?_⟩) ?_ ?_
             rotate_left
             ·intro w'
              go_simp
              with_reducible rfl
             rotate_left
             ·simp only [Act.put, List.setIfInBounds_toArray, List.set_cons_zero, List.set_cons_succ, i64_w, i32_w]
              rfl
             refine pure_ (i := 8) (N := some 26) (v := ?_) (a' := ?_) #[true, true, true, true, true, true, true, false, true, false, false, false, false, false] rfl rfl (any_of HT_.out (by kernel_rfl)) (fun _ _ _ h => h) (Or.inl ⟨by rfl, ?_⟩) ?_ ?_
             rotate_left
             ·intro w'
              go_simp
              with_reducible rfl
             rotate_left
             ·simp only [Act.put, List.setIfInBounds_toArray, List.set_cons_zero, List.set_cons_succ, i64_w, i32_w]
              rfl
             refine pure_ (i := 9) (N := some 27) (v := ?_) (a' := ?_) #[true, true, true, true, true, true, true, false, true, true, false, false, false, false] rfl rfl (any_of HT_.out (by kernel_rfl)) (fun _ _ _ h => h) (Or.inl ⟨by rfl, ?_⟩) ?_ ?_
             rotate_left
             ·intro w'
              go_simp
              with_reducible rfl
             rotate_left
             ·simp only [Act.put, List.setIfInBounds_toArray, List.set_cons_zero, List.set_cons_succ, i64_w, i32_w]
              rfl
             refine pure_ (i := 10) (N := some 28) (v := ?_) (a' := ?_) #[true, true, true, true, true, true, true, false, true, true, true, false, false, false] rfl rfl (any_of HT_.out (by kernel_rfl)) (fun _ _ _ h => h) (Or.inl ⟨by rfl, ?_⟩) ?_ ?_
             rotate_left
             ·intro w'
              go_simp
              with_reducible rfl
             rotate_left
             ·simp only [Act.put, List.setIfInBounds_toArray, List.set_cons_zero, List.set_cons_succ, i64_w, i32_w]
              rfl
             refine take_ (i := 7) (N := some 25) (v := ?_) (a' := ?_) #[true, true, true, true, true, true, true, true, true, true, true, false, false, false] rfl rfl (take_ofW HT_.out HW_.out (by kernel_rfl)) (fun _ _ _ h => h) (Or.inl ⟨by rfl, ?_⟩) hHeld ?_ ?_
             rotate_left
             ·rintro w' ⟨s0, s1⟩
              go_simp
              with_reducible rfl
             rotate_left
             ·simp only [Act.put, List.setIfInBounds_toArray, List.set_cons_zero, List.set_cons_succ, i64_w, i32_w]
              rfl
             refine take_ (i := 11) (N := some 29) (v := ?_) (a' := ?_) #[true, true, true, true, true, true, true, true, true, true, true, true, false, false] rfl rfl (take_ofW HT_.out HW_.out (by kernel_rfl)) (fun _ _ _ h => h) (Or.inl ⟨by rfl, ?_⟩) hHeld ?_ ?_
             rotate_left
             ·rintro w' ⟨s0, s1⟩
              go_simp
              with_reducible rfl
             rotate_left
             ·simp only [Act.put, List.setIfInBounds_toArray, List.set_cons_zero, List.set_cons_succ, i64_w, i32_w]
              rfl
             refine one_ (i := 12) (N := some 30) #[true, true, true, true, true, true, true, true, true, true, true, true, true, false] rfl rfl (one_of HT_.out (by kernel_rfl)) (by decide) (fun K hK => ?_)
             refine goes_ Try.func39 (by kernel_rfl) rfl #[.slice A478_0 (rd_L10 l0 x4_1).length c478_0, .slice A479_0 (rd_L10 l0 x5_2).length c479_0] (by rfl) rfl rfl (by (try simp only [List.map_toArray, List.map_cons, List.map_nil]); first | done | rfl | (simp only [List.length_drop, List.length_take]; rfl)) ?_
             with_reducible refine (arlinkref23_Need.calls k2 _ _ (rd_L10 l0 x4_1) _ _ (rd_L10 l0 x5_2) true _ ?side1 ?side2 ?side3 ?side4 A9.out).mono ?_
             (case side1 => repeat (first | exact (Kd.C_below HR478_0.out HB.out) | (with_reducible refine Kd.C_alloc ?_ _) | (with_reducible refine Kd.C_drewN ?_ _) | (with_reducible refine Kd.C_drew ?_)))
             (case side2 => exact HC478_0.out)
             (case side3 => repeat (first | exact (Kd.C_below HR479_0.out HB.out) | (with_reducible refine Kd.C_alloc ?_ _) | (with_reducible refine Kd.C_drewN ?_ _) | (with_reducible refine Kd.C_drew ?_)))
             (case side4 => exact HC479_0.out)
             rintro e w13 ⟨rfl, hb⟩
             refine ⟨_, rfl, ?_⟩
             have n0_ := Aside0.mk (Kd.R_below (by (with_reducible repeat (first | apply Kd.R_alloc | apply Kd.R_drewN | apply Kd.R_drew)); exact HO_3.out) hb)
             have n1_ := Aside0.mk (below_step (by repeat (first | (with_reducible first | exact HB.out | apply below_alloc | apply pw_below_drewN | apply below_drew1) | exact HB.out)) hb)
             clear HO_3
             clear HB
             have HO_3 := n0_
             have HB := n1_
             clear n0_ n1_
             (try clear hb)
             (try clear hb2)
             (try clear hk)
             (try clear hi)
             refine hK.out _ _ ⟨((HB.out.cell (World.block_lt_of_cell? w _ hw478_0)).trans hw478_0), ((HB.out.cell (World.block_lt_of_cell? w _ hw479_0)).trans hw479_0)⟩ (fun hHeld => ?_)
             clear hK K
             refine norm_ (a' := ?_) ?_ ?_
             rotate_left
             ·show Act.put _ (some 30) _ = _
              simp only [Act.put, List.setIfInBounds_toArray, List.set_cons_zero, List.set_cons_succ, i64_w, i32_w]
              rfl
             refine pure_ (i := 13) (N := some 31) (v := ?_) (a' := ?_) #[true, true, true, true, true, true, true, true, true, true, true, true, true, true] rfl rfl (any_of HT_.out (by kernel_rfl)) (fun _ _ _ h => h) (Or.inl ⟨by rfl, ?_⟩) ?_ ?_
             rotate_left
             ·intro w'
              go_simp
              with_reducible rfl
             rotate_left
             ·simp only [Act.put, List.setIfInBounds_toArray, List.set_cons_zero, List.set_cons_succ, i64_w, i32_w]
              rfl
             refine done_ (done_of HT_.out (by kernel_rfl)) ?_
             try go_wp2_with (first | ((with_reducible refine gate_builtin (b := .append) (xs := #[.tmp 32, .tmp 36]) rfl ?_); at_builtin; refine Kd.R_append k39 (w0 := w) w.heap.size rfl (.tmp 32) (.tmp 36) 22 39 (.agg #[(.int .i64 0), (.int .i64 0)]) 16 rfl Try.underlying22 info39 rfl (by decide) (by omega) u3 x3_2 (⟨x4_1, x5_2⟩ : S39) [.int .i64 x4_1, .int .i64 x5_2] (fun _ => True) (fun _ => False) rfl rfl ?aP (fun _ hk => hk.elim) ?aF ?aO ?aB ?aS ?aL ?_; (case aP => exact k39_mkM _ _ _ (⟨x4_1, x5_2⟩ : S39)); (case aB => exact (by repeat (first | (with_reducible first | exact HB.out | apply below_alloc | apply pw_below_drewN | apply below_drew1) | exact HB.out))); (case aF => exact (fun _ _ => trivial)); (case aO => exact (by (with_reducible repeat (first | apply Kd.R_alloc | apply Kd.R_drewN | apply Kd.R_drew)); exact HO_3.out)); (case aS => exact (below_size (by repeat (first | (with_reducible first | exact HB.out | apply below_alloc | apply pw_below_drewN | apply below_drew1) | exact HB.out)))); (case aL => have := LMc11.out; omega); intro v482 w14 ho hb hg hat; rw [← Ny481.out] at ho; have n0_ := Aside0.mk (hb); have n1_ := Aside0.mk (ho); clear HB; clear HO_3; have HB := n0_; have HO483 := n1_; clear n0_ n1_; clear ho hb hg hat))
             go_roundg k2
             case measure => have := HK1.out; have := HK2.out; omega
             case rel => exact ⟨(y481), (wrap64 (x5_2 + 1)), (by first | rfl | (simp; done) | (simp [*]; done)), H', ⟨by have := HK1.out; have := HK2.out; omega⟩, ⟨by (with_reducible repeat (first | apply Kd.R_alloc | apply Kd.R_drewN | apply Kd.R_drew)); exact HO483.out⟩, ⟨by repeat (first | (with_reducible first | exact HB.out | apply below_alloc | apply pw_below_drewN | apply below_drew1) | exact HB.out)⟩⟩
            ·rw [if_neg c11] at H
             exact absurd H (by simp)
           ·replace c10 := Bool.eq_false_iff.mpr c10
            subst c10
            have H1 : (arlinkref23_Needs.l1 k2 l0 x3_2 x4_1 (wrap64 (x5_2 + 1))) = some r := by rw [if_neg (show ¬ (false = true) by decide)] at H; exact H
            clear H
            have H := H1
            clear H1
            have H' := Aside0.mk H
            clear H
            try go_wp2
            have n0_ := Aside0.mk (Kd.R_drew HO_3.out)
            have n1_ := Aside0.mk (below_drew1 HB.out)
            clear HO_3
            clear HB
            have HO_3 := n0_
            have HB := n1_
            clear n0_ n1_
            have p478 : 0 ≤ (x4_1 : Int) := of_decide_eq_true (by first | (with_reducible assumption) | assumption)
            have q478 : x4_1 < (l0.length : Int) := of_decide_eq_true (by first | (with_reducible assumption) | assumption)
            obtain ⟨ad478, A478_0, c478_0, e478, hx478_0, hl478_0, hi478_0⟩ := at_L10 HR0.out x4_1 p478 q478
            have hw478_0 := hx478_0
            cases e478
            replace hx478_0 := (HB.out.cell (World.block_lt_of_cell? w _ hx478_0)).trans hx478_0
            have HR478_0 := Aside0.mk hi478_0
            have HC478_0 := Aside0.mk hl478_0
            clear hi478_0 hl478_0
            replace p478 := eq_true p478
            replace q478 := eq_true q478
            have p479 : 0 ≤ (x5_2 : Int) := of_decide_eq_true (by first | (with_reducible assumption) | assumption)
            have q479 : x5_2 < (l0.length : Int) := of_decide_eq_true (by first | (with_reducible assumption) | assumption)
            obtain ⟨ad479, A479_0, c479_0, e479, hx479_0, hl479_0, hi479_0⟩ := at_L10 HR0.out x5_2 p479 q479
            have hw479_0 := hx479_0
            obtain rfl : ad478 = ad479 := (by injection e479)
            replace hx479_0 := (HB.out.cell (World.block_lt_of_cell? w _ hx479_0)).trans hx479_0
            have HR479_0 := Aside0.mk hi479_0
            have HC479_0 := Aside0.mk hl479_0
            clear hi479_0 hl479_0
            replace p479 := eq_true p479
            replace q479 := eq_true q479
            refine start_ (n := 14) (S := fun w' => w'.cell? (ad478.add (x4_1).toNat) = some (.slice A478_0 (rd_L10 l0 x4_1).length c478_0) ∧ w'.cell? (ad478.add (x5_2).toNat) = some (.slice A479_0 (rd_L10 l0 x5_2).length c479_0)) (ds := []) #[false, false, false, false, false, false, false, false, false, false, false, false, false, false] (by kernel_rfl) rfl rfl ⟨((HB.out.cell (World.block_lt_of_cell? w _ hw478_0)).trans hw478_0), ((HB.out.cell (World.block_lt_of_cell? w _ hw479_0)).trans hw479_0)⟩ (fun hHeld => ?_); refine with_tabW arlinkref23_Needs.tab8 arlinkref23_Needs.bits8 (fun HT_ HW_ => ?_)
            generalize wr.drew = w15 at HO_3 HB HR478_0 HR479_0 hx478_0 hx479_0 hHeld ⊢
            refine pure_ (i := 0) (N := some 18) (v := ?_) (a' := ?_) #[true, false, false, false, false, false, false, false, false, false, false, false, false, false] rfl rfl (any_of HT_.out (by kernel_rfl)) (fun _ _ _ h => h) (Or.inl ⟨by rfl, ?_⟩) ?_ ?_
            rotate_left
            ·intro w'
             go_simp
             with_reducible rfl
            rotate_left
            ·simp only [Act.put, List.setIfInBounds_toArray, List.set_cons_zero, List.set_cons_succ, i64_w, i32_w]
             rfl
            refine pure_ (i := 1) (N := some 19) (v := ?_) (a' := ?_) #[true, true, false, false, false, false, false, false, false, false, false, false, false, false] rfl rfl (any_of HT_.out (by kernel_rfl)) (fun _ _ _ h => h) (Or.inl ⟨by rfl, ?_⟩) ?_ ?_
            rotate_left
            ·intro w'
             go_simp
             with_reducible rfl
            rotate_left
            ·simp only [Act.put, List.setIfInBounds_toArray, List.set_cons_zero, List.set_cons_succ, i64_w, i32_w]
             rfl
            refine pure_ (i := 2) (N := some 20) (v := ?_) (a' := ?_) #[true, true, true, false, false, false, false, false, false, false, false, false, false, false] rfl rfl (any_of HT_.out (by kernel_rfl)) (fun _ _ _ h => h) (Or.inl ⟨by rfl, ?_⟩) ?_ ?_
            rotate_left
            ·intro w'
             go_simp
             with_reducible rfl
            rotate_left
            ·simp only [Act.put, List.setIfInBounds_toArray, List.set_cons_zero, List.set_cons_succ, i64_w, i32_w]
             rfl
            refine pure_ (i := 3) (N := some 21) (v := ?_) (a' := ?_) #[true, true, true, true, false, false, false, false, false, false, false, false, false, false] rfl rfl (any_of HT_.out (by kernel_rfl)) (fun _ _ _ h => h) (Or.inl ⟨by rfl, ?_⟩) ?_ ?_
            rotate_left
            ·intro w'
             go_simp
             with_reducible rfl
            rotate_left
            ·simp only [Act.put, List.setIfInBounds_toArray, List.set_cons_zero, List.set_cons_succ, i64_w, i32_w]
             rfl
            refine pure_ (i := 4) (N := some 22) (v := ?_) (a' := ?_) #[true, true, true, true, true, false, false, false, false, false, false, false, false, false] rfl rfl (any_of HT_.out (by kernel_rfl)) (fun _ _ _ h => h) (Or.inl ⟨by rfl, ?_⟩) ?_ ?_
            rotate_left
            ·intro w'
             go_simp
             with_reducible rfl
            rotate_left
            ·simp only [Act.put, List.setIfInBounds_toArray, List.set_cons_zero, List.set_cons_succ, i64_w, i32_w]
             rfl
            refine pure_ (i := 5) (N := some 23) (v := ?_) (a' := ?_) #[true, true, true, true, true, true, false, false, false, false, false, false, false, false] rfl rfl (any_of HT_.out (by kernel_rfl)) (fun _ _ _ h => h) (Or.inl ⟨by rfl, ?_⟩) ?_ ?_
            rotate_left
            ·intro w'
             go_simp
             with_reducible rfl
            rotate_left
            ·simp only [Act.put, List.setIfInBounds_toArray, List.set_cons_zero, List.set_cons_succ, i64_w, i32_w]
             rfl
            refine pure_ (i := 6) (N := some 24) (v := ?_) (a' := ?_) #[true, true, true, true, true, true, true, false, false, false, false, false, false, false] rfl rfl (any_of HT_.out (by kernel_rfl)) (fun _ _ _ h => h) (Or.inl ⟨by rfl, ?_⟩) ?_ ?_
            rotate_left
            ·intro w'
             go_simp
             with_reducible rfl
            rotate_left
            ·simp only [Act.put, List.setIfInBounds_toArray, List.set_cons_zero, List.set_cons_succ, i64_w, i32_w]
             rfl
            refine pure_ (i := 8) (N := some 26) (v := ?_) (a' := ?_) #[true, true, true, true, true, true, true, false, true, false, false, false, false, false] rfl rfl (any_of HT_.out (by kernel_rfl)) (fun _ _ _ h => h) (Or.inl ⟨by rfl, ?_⟩) ?_ ?_
            rotate_left
            ·intro w'
             go_simp
             with_reducible rfl
            rotate_left
            ·simp only [Act.put, List.setIfInBounds_toArray, List.set_cons_zero, List.set_cons_succ, i64_w, i32_w]
             rfl
            refine pure_ (i := 9) (N := some 27) (v := ?_) (a' := ?_) #[true, true, true, true, true, true, true, false, true, true, false, false, false, false] rfl rfl (any_of HT_.out (by kernel_rfl)) (fun _ _ _ h => h) (Or.inl ⟨by rfl, ?_⟩) ?_ ?_
            rotate_left
            ·intro w'
             go_simp
             with_reducible rfl
            rotate_left
            ·simp only [Act.put, List.setIfInBounds_toArray, List.set_cons_zero, List.set_cons_succ, i64_w, i32_w]
             rfl
            refine pure_ (i := 10) (N := some 28) (v := ?_) (a' := ?_) #[true, true, true, true, true, true, true, false, true, true, true, false, false, false] rfl rfl (any_of HT_.out (by kernel_rfl)) (fun _ _ _ h => h) (Or.inl ⟨by rfl, ?_⟩) ?_ ?_
            rotate_left
            ·intro w'
             go_simp
             with_reducible rfl
            rotate_left
            ·simp only [Act.put, List.setIfInBounds_toArray, List.set_cons_zero, List.set_cons_succ, i64_w, i32_w]
             rfl
            refine take_ (i := 7) (N := some 25) (v := ?_) (a' := ?_) #[true, true, true, true, true, true, true, true, true, true, true, false, false, false] rfl rfl (take_ofW HT_.out HW_.out (by kernel_rfl)) (fun _ _ _ h => h) (Or.inl ⟨by rfl, ?_⟩) hHeld ?_ ?_
            rotate_left
            ·rintro w' ⟨s0, s1⟩
             go_simp
             with_reducible rfl
            rotate_left
            ·simp only [Act.put, List.setIfInBounds_toArray, List.set_cons_zero, List.set_cons_succ, i64_w, i32_w]
             rfl
            refine take_ (i := 11) (N := some 29) (v := ?_) (a' := ?_) #[true, true, true, true, true, true, true, true, true, true, true, true, false, false] rfl rfl (take_ofW HT_.out HW_.out (by kernel_rfl)) (fun _ _ _ h => h) (Or.inl ⟨by rfl, ?_⟩) hHeld ?_ ?_
            rotate_left
            ·rintro w' ⟨s0, s1⟩
             go_simp
             with_reducible rfl
            rotate_left
            ·simp only [Act.put, List.setIfInBounds_toArray, List.set_cons_zero, List.set_cons_succ, i64_w, i32_w]
             rfl
            refine one_ (i := 12) (N := some 30) #[true, true, true, true, true, true, true, true, true, true, true, true, true, false] rfl rfl (one_of HT_.out (by kernel_rfl)) (by decide) (fun K hK => ?_)
            refine goes_ Try.func39 (by kernel_rfl) rfl #[.slice A478_0 (rd_L10 l0 x4_1).length c478_0, .slice A479_0 (rd_L10 l0 x5_2).length c479_0] (by rfl) rfl rfl (by (try simp only [List.map_toArray, List.map_cons, List.map_nil]); first | done | rfl | (simp only [List.length_drop, List.length_take]; rfl)) ?_
            with_reducible refine (arlinkref23_Need.calls k2 _ _ (rd_L10 l0 x4_1) _ _ (rd_L10 l0 x5_2) false _ ?side1 ?side2 ?side3 ?side4 A9.out).mono ?_
            (case side1 => repeat (first | exact (Kd.C_below HR478_0.out HB.out) | (with_reducible refine Kd.C_alloc ?_ _) | (with_reducible refine Kd.C_drewN ?_ _) | (with_reducible refine Kd.C_drew ?_)))
            (case side2 => exact HC478_0.out)
            (case side3 => repeat (first | exact (Kd.C_below HR479_0.out HB.out) | (with_reducible refine Kd.C_alloc ?_ _) | (with_reducible refine Kd.C_drewN ?_ _) | (with_reducible refine Kd.C_drew ?_)))
            (case side4 => exact HC479_0.out)
            rintro e w16 ⟨rfl, hb⟩
            refine ⟨_, rfl, ?_⟩
            have n0_ := Aside0.mk (Kd.R_below (by (with_reducible repeat (first | apply Kd.R_alloc | apply Kd.R_drewN | apply Kd.R_drew)); exact HO_3.out) hb)
            have n1_ := Aside0.mk (below_step (by repeat (first | (with_reducible first | exact HB.out | apply below_alloc | apply pw_below_drewN | apply below_drew1) | exact HB.out)) hb)
            clear HO_3
            clear HB
            have HO_3 := n0_
            have HB := n1_
            clear n0_ n1_
            (try clear hb)
            (try clear hb2)
            (try clear hk)
            (try clear hi)
            refine hK.out _ _ ⟨((HB.out.cell (World.block_lt_of_cell? w _ hw478_0)).trans hw478_0), ((HB.out.cell (World.block_lt_of_cell? w _ hw479_0)).trans hw479_0)⟩ (fun hHeld => ?_)
            clear hK K
            refine norm_ (a' := ?_) ?_ ?_
            rotate_left
            ·show Act.put _ (some 30) _ = _
             simp only [Act.put, List.setIfInBounds_toArray, List.set_cons_zero, List.set_cons_succ, i64_w, i32_w]
             rfl
            refine pure_ (i := 13) (N := some 31) (v := ?_) (a' := ?_) #[true, true, true, true, true, true, true, true, true, true, true, true, true, true] rfl rfl (any_of HT_.out (by kernel_rfl)) (fun _ _ _ h => h) (Or.inl ⟨by rfl, ?_⟩) ?_ ?_
            rotate_left
            ·intro w'
             go_simp
             with_reducible rfl
            rotate_left
            ·simp only [Act.put, List.setIfInBounds_toArray, List.set_cons_zero, List.set_cons_succ, i64_w, i32_w]
             rfl
            refine done_ (done_of HT_.out (by kernel_rfl)) ?_
            try go_wp2
            go_roundg k2
            case measure => have := HK1.out; have := HK2.out; omega
            case rel => exact ⟨(x3_2), (wrap64 (x5_2 + 1)), (by first | rfl | (simp; done) | (simp [*]; done)), H', ⟨by have := HK1.out; have := HK2.out; omega⟩, ⟨by (with_reducible repeat (first | apply Kd.R_alloc | apply Kd.R_drewN | apply Kd.R_drew)); exact HO_3.out⟩, ⟨by repeat (first | (with_reducible first | exact HB.out | apply below_alloc | apply pw_below_drewN | apply below_drew1) | exact HB.out)⟩⟩
          ·rw [if_neg c8] at H
           exact absurd H (by simp)
         ·rw [if_neg c7] at H
          exact absurd H (by simp)
        ·rw [if_neg c6] at H
         exact absurd H (by simp)
      ·rw [if_neg c3] at H
       have c3b0 : decide (x5_2 < (l0.length : Int)) = false := decide_eq_false c3
       clear c3
       have H' := Aside0.mk H
       clear H
       go_wp2
       go_roundg k2
       case measure => have := HK1.out; have := HK2.out; omega
       case rel => exact ⟨(x3_2), (wrap64 (x4_1 + 1)), (by first | rfl | (simp; done) | (simp [*]; done)), H', ⟨by have := HK1.out; have := HK2.out; omega⟩, ⟨by (with_reducible repeat (first | apply Kd.R_alloc | apply Kd.R_drewN | apply Kd.R_drew)); exact HO_3.out⟩, ⟨by repeat (first | (with_reducible first | exact HB.out | apply below_alloc | apply pw_below_drewN | apply below_drew1) | exact HB.out)⟩⟩
   ·rw [if_neg c2] at H
    have c2b0 : decide (x4_1 < (l0.length : Int)) = false := decide_eq_false c2
    clear c2
    obtain rfl := Option.some.inj H
    go_wp2
    go_ret
    exact ⟨_, by first | rfl | (simp [errW_none, errW_some] <;> rfl) | (simp [*, errW_none, errW_some] <;> rfl), by (with_reducible repeat (first | apply Kd.R_alloc | apply Kd.R_drewN | apply Kd.R_drew)); exact HO_3.out, by repeat (first | (with_reducible first | exact HB.out | apply below_alloc | apply pw_below_drewN | apply below_drew1) | exact HB.out)⟩
def arlinkref23_Same.l0 : Nat → List (S39) → List (S39) → Int → Option (Bool)
 | 0, _, _, _ => none
 | k + 1, x0, x1, x5 => if x5 < (x0.length : Int) then (if 0 ≤ x5 then (if x5 < (x1.length : Int) then (if (!(((rd_T39 x0 x5).f0) == ((rd_T39 x1 x5).f0)) || (!(((rd_T39 x0 x5).f1) == ((rd_T39 x1 x5).f1)))) = true then (some false) else (arlinkref23_Same.l0 k x0 x1 (wrap64 (x5 + 1)))) else (none)) else (none)) else (some true)
def arlinkref23_Same.f (k : Nat) (l0 : List (S39)) (l1 : List (S39)) : Option (Bool) := if (l0.length : Int) = (l1.length : Int) then (arlinkref23_Same.l0 k l0 l1 0) else (some false)
set_option maxHeartbeats 8000000 in
set_option maxRecDepth 100000 in
theorem arlinkref23_Same.calls (k : Nat) (A0 : Option Addr) (c0 : Nat) (l0 : List (S39)) (A1 : Option Addr) (c1 : Nat) (l1 : List (S39)) (r : Bool) (w : World) (hr0 : Kd.C k39 w A0 l0.length l0) (hc0 : l0.length ≤ c0) (hr1 : Kd.C k39 w A1 l1.length l1) (hc1 : l1.length ≤ c1) (h : arlinkref23_Same.f k l0 l1 = some r) :
  Calls Try.prog 35 #[.slice A0 l0.length c0, .slice A1 l1.length c1] w fun e w' => e = .returned (.bool r) ∧ Drawn0 w w' := by
 have hu39 := Try.underlying39
 have HR0 := Aside0.mk hr0
 have HC0 := Aside0.mk hc0
 clear hr0 hc0
 have HR1 := Aside0.mk hr1
 have HC1 := Aside0.mk hc1
 clear hr1 hc1
 have H : (if (l0.length : Int) = (l1.length : Int) then (arlinkref23_Same.l0 k l0 l1 0) else (some false)) = some r := h
 clear h
 by_cases c3 : (l0.length : Int) = (l1.length : Int)
 ·rw [if_pos c3] at H
  have c3b0 : ((l0.length : Int) == (l1.length : Int)) = true := beq_iff_eq.mpr c3
  have c3b1 : ((l0.length : Int) != (l1.length : Int)) = false := bne_eq_false_iff_eq.mpr c3
  have c3b2 : (l0.length == l1.length) = true := by first | simpa using c3 | (simp at c3 ⊢; omega)
  clear c3
  have H' := Aside0.mk H
  clear H
  go_enter Try.func35, Try.ntmps35
  go_wp2
  repeat (go_quiet (fail); try go_wp2)
  go_loopg [5] k (fun kq v5 w' => ∃ (x5_1 : Int), v5 = .int .i64 x5_1 ∧ Aside0 (arlinkref23_Same.l0 kq l0 l1 x5_1 = some r) ∧ Aside0 (kq ≤ k) ∧ Drawn0 w w')
  case atStart => exact ⟨(0), (by first | rfl | (simp; done) | (simp [*]; done)), H', ⟨Nat.le_refl _⟩, by repeat (first | exact Drawn0.refl _ | apply Drawn0.step)⟩
  case round =>
   clear H'
   try clear c1
   try clear p2
   try clear c3
   try clear c3b0
   try clear c3b1
   try clear c3b2
   obtain ⟨x5_1, rfl, HA, HK1, ⟨m1, rfl⟩⟩ := hrel
   cases gk with
   | zero => exact absurd HA.out (by simp [arlinkref23_Same.l0])
   | succ k1 =>
    have H := HA.out
    clear HA
    simp only [arlinkref23_Same.l0] at H
    by_cases c4 : x5_1 < (l0.length : Int)
    ·rw [if_pos c4] at H
     have c4b0 : decide (x5_1 < (l0.length : Int)) = true := decide_eq_true c4
     clear c4
     by_cases c5 : 0 ≤ x5_1
     ·rw [if_pos c5] at H
      have c5b0 : decide (0 ≤ x5_1) = true := decide_eq_true c5
      clear c5
      by_cases c6 : x5_1 < (l1.length : Int)
      ·rw [if_pos c6] at H
       have c6b0 : decide (x5_1 < (l1.length : Int)) = true := decide_eq_true c6
       clear c6
       by_cases c7 : (!(((rd_T39 l0 x5_1).f0) == ((rd_T39 l1 x5_1).f0)) || (!(((rd_T39 l0 x5_1).f1) == ((rd_T39 l1 x5_1).f1)))) = true
       ·rw [if_pos c7] at H
        have c7b0 : (!(((rd_T39 l0 x5_1).f0) == ((rd_T39 l1 x5_1).f0)) || (!(((rd_T39 l0 x5_1).f1) == ((rd_T39 l1 x5_1).f1)))) = true := c7
        clear c7
        obtain rfl := Option.some.inj H
        have p484 : 0 ≤ (x5_1 : Int) := of_decide_eq_true (by first | (with_reducible assumption) | assumption)
        have q484 : x5_1 < (l0.length : Int) := of_decide_eq_true (by first | (with_reducible assumption) | assumption)
        obtain ⟨ad484, e484, hx484_0, hx484_1⟩ := at_T39 HR0.out x5_1 p484 q484
        cases e484
        replace p484 := eq_true p484
        replace q484 := eq_true q484
        have p485 : 0 ≤ (x5_1 : Int) := of_decide_eq_true (by first | (with_reducible assumption) | assumption)
        have q485 : x5_1 < (l1.length : Int) := of_decide_eq_true (by first | (with_reducible assumption) | assumption)
        obtain ⟨ad485, e485, hx485_0, hx485_1⟩ := at_T39 HR1.out x5_1 p485 q485
        cases e485
        replace p485 := eq_true p485
        replace q485 := eq_true q485
        go_wp2
        repeat (go_quiet (fail); try go_wp2)
        go_ret
        exact ⟨by first | rfl | (simp; done) | (simp [*]; done), by repeat (first | exact Drawn0.refl _ | apply Drawn0.step)⟩
       ·rw [if_neg c7] at H
        have c7b0 : (!(((rd_T39 l0 x5_1).f0) == ((rd_T39 l1 x5_1).f0)) || (!(((rd_T39 l0 x5_1).f1) == ((rd_T39 l1 x5_1).f1)))) = false := by simpa using c7
        clear c7
        have H' := Aside0.mk H
        clear H
        have p484 : 0 ≤ (x5_1 : Int) := of_decide_eq_true (by first | (with_reducible assumption) | assumption)
        have q484 : x5_1 < (l0.length : Int) := of_decide_eq_true (by first | (with_reducible assumption) | assumption)
        obtain ⟨ad484, e484, hx484_0, hx484_1⟩ := at_T39 HR0.out x5_1 p484 q484
        cases e484
        replace p484 := eq_true p484
        replace q484 := eq_true q484
        have p485 : 0 ≤ (x5_1 : Int) := of_decide_eq_true (by first | (with_reducible assumption) | assumption)
        have q485 : x5_1 < (l1.length : Int) := of_decide_eq_true (by first | (with_reducible assumption) | assumption)
        obtain ⟨ad485, e485, hx485_0, hx485_1⟩ := at_T39 HR1.out x5_1 p485 q485
        cases e485
        replace p485 := eq_true p485
        replace q485 := eq_true q485
        go_wp2
        repeat (go_quiet (fail); try go_wp2)
        go_roundg k1
        case measure => have := HK1.out; omega
        case rel => exact ⟨(wrap64 (x5_1 + 1)), (by first | rfl | (simp; done) | (simp [*]; done)), H', ⟨by have := HK1.out; omega⟩, by repeat (first | exact Drawn0.refl _ | apply Drawn0.step)⟩
      ·rw [if_neg c6] at H
       exact absurd H (by simp)
     ·rw [if_neg c5] at H
      exact absurd H (by simp)
    ·rw [if_neg c4] at H
     have c4b0 : decide (x5_1 < (l0.length : Int)) = false := decide_eq_false c4
     clear c4
     obtain rfl := Option.some.inj H
     go_wp2
     repeat (go_quiet (fail); try go_wp2)
     go_ret
     exact ⟨by first | rfl | (simp; done) | (simp [*]; done), by repeat (first | exact Drawn0.refl _ | apply Drawn0.step)⟩
 ·rw [if_neg c3] at H
  have c3b0 : ((l0.length : Int) == (l1.length : Int)) = false := beq_eq_false_iff_ne.mpr c3
  have c3b1 : ((l0.length : Int) != (l1.length : Int)) = true := bne_iff_ne.mpr c3
  have c3b2 : (l0.length == l1.length) = false := by first | simpa using c3 | (simp at c3 ⊢; omega)
  obtain rfl := Option.some.inj H
  go_enter Try.func35, Try.ntmps35
  go_wp2
  repeat (go_quiet (fail); try go_wp2)
  go_ret
  exact ⟨by first | rfl | (simp; done) | (simp [*]; done), by repeat (first | exact Drawn0.refl _ | apply Drawn0.step)⟩
end Go.Proofs.Ythpjpkcfepmhkaa.PAll
namespace Go.Proofs.Ythpjpkcfepmhkaa.PAll
open Go.RowKit Go.Proofs.YthpjpkcfepmhkaaW.PrintWords Go.Proofs.YthpjpkcfepmhkaaW.PrintLast Go.Proofs.YthpjpkcfepmhkaaW.PrintMore
set_option linter.unusedVariables false
set_option linter.unusedSimpArgs false
/-- What is left to do, a name having been taken (or not). -/
def TakenN (pv : List ByteArray) (ps : List (ByteArray × Int)) (ms : List S50) (nd1 : List Int) (k : Nat) (ok : Bool) (s : ByteArray) (xs sn : List ByteArray) (nd : List Int) : Prop :=
  if ok = true then s.size ≤ 1048576 ∧ xs.length ≤ 1048576 ∧ ((s ∈ pv ∧ runN pv ps ms k xs sn nd = some nd1) ∨ (s ∉ pv ∧ ∃ xs2 sn2 nd2, visitN ms (zsOf ps s) xs sn nd = some (xs2, sn2, nd2) ∧ runN pv ps ms k xs2 sn2 nd2 = some nd1)) else nd = nd1
theorem runN_cases {pv : List ByteArray} {ps : List (ByteArray × Int)} {ms : List S50} {nd1 : List Int} {k : Nat} {xs sn : List ByteArray} {nd : List Int} (h : runN pv ps ms (k + 1) xs sn nd = some nd1) :
    (xs.length = 0 ∧ nd = nd1) ∨ (0 < xs.length ∧ xs.length ≤ 1048576 ∧ TakenN pv ps ms nd1 k true (Hp.at_ ByteArray.empty xs 0) (Hp.pop ByteArray.empty W.less xs) sn nd) := by
  simp only [runN] at h
  by_cases h0 : xs.length = 0
  · rw [if_pos h0] at h
    exact .inl ⟨h0, Option.some.inj h⟩
  · rw [if_neg h0] at h
    by_cases h1 : 1048576 < xs.length ∨ 1048576 < (Hp.at_ ByteArray.empty xs 0).size
    · rw [if_pos h1] at h
      cases h
    · rw [if_neg h1] at h
      have hpl : (Hp.pop ByteArray.empty W.less xs).length ≤ xs.length := by
        unfold Hp.pop
        rw [List.length_take]
        have := Hp.popped_length (d := ByteArray.empty) (less := W.less) xs (fun e => h0 (by rw [e]; rfl))
        omega
      refine .inr ⟨by omega, by omega, ?_⟩
      unfold TakenN
      rw [if_pos rfl]
      refine ⟨by omega, by omega, ?_⟩
      by_cases h2 : Hp.at_ ByteArray.empty xs 0 ∈ pv
      · rw [if_pos h2] at h
        exact .inl ⟨h2, h⟩
      · rw [if_neg h2, Option.bind_eq_some_iff] at h
        obtain ⟨⟨xs2, sn2, nd2⟩, h3, h4⟩ := h
        exact .inr ⟨h2, xs2, sn2, nd2, h3, h4⟩
theorem needed_open {os ms : List S50} {r : List Int} (h : closure_Needed.f os ms = some r) : smallL os = true ∧ smallL ms = true ∧ ∃ xs1 sn1 nd1, seedN os [] [] = some (xs1, sn1) ∧ runN (provOf os) (prsOf ms 0) ms 1048576 xs1 sn1 [] = some nd1 ∧ r = pickN nd1 ms.length := by
  unfold closure_Needed.f at h
  by_cases c : smallL os = true ∧ smallL ms = true
  · rw [if_pos c, Option.bind_eq_some_iff] at h
    obtain ⟨⟨xs1, sn1⟩, h1, h2⟩ := h
    rw [Option.bind_eq_some_iff] at h2
    obtain ⟨nd, h3, h4⟩ := h2
    exact ⟨c.1, c.2, xs1, sn1, nd, h1, h3, (Option.some.inj h4).symm⟩
  · rw [if_neg c] at h
    cases h
def NeededEnd (w : World) (r : List Int) (e : Ending) (w' : World) : Prop := ∃ v0_ : Value, e = .returned v0_ ∧ Kd.R (Kd.int .i64) 3 w' w.heap.size (fun _ => True) v0_ r ∧ Below w.heap.size w w'
theorem seedN_step {o : S50} {os : List S50} {xs sn : List ByteArray} {a : List ByteArray × List ByteArray} (h : seedN (o :: os) xs sn = some a) : xs.length ≤ 1048576 ∧ sn.length ≤ 1048576 ∧ seedN os (addL (namesOf refB o.f0) xs sn).1 (addL (namesOf refB o.f0) xs sn).2 = some a := by
  simp only [seedN] at h
  by_cases c : fewN xs sn = true
  · rw [if_pos c] at h
    exact ⟨(fewN_iff.1 c).1, (fewN_iff.1 c).2, h⟩
  · rw [if_neg c] at h
    cases h
theorem visitN_step {ms : List S50} {i : Int} {r : List Int} {xs sn : List ByteArray} {nd : List Int} {a : List ByteArray × List ByteArray × List Int} (h : visitN ms (i :: r) xs sn nd = some a) :
    (i ∈ nd ∧ visitN ms r xs sn nd = some a) ∨ (i ∉ nd ∧ xs.length ≤ 1048576 ∧ sn.length ≤ 1048576 ∧ nd.length ≤ 1048576 ∧ visitN ms r (addL (namesOf refB (rd_T50 ms i).f0) xs sn).1 (addL (namesOf refB (rd_T50 ms i).f0) xs sn).2 (nd ++ [i]) = some a) := by
  simp only [visitN] at h
  by_cases c : i ∈ nd
  · rw [if_pos c] at h
    exact .inl ⟨c, h⟩
  · rw [if_neg c] at h
    by_cases d : fewN xs sn = true ∧ nd.length ≤ 1048576
    · rw [if_pos d] at h
      exact .inr ⟨c, (fewN_iff.1 d.1).1, (fewN_iff.1 d.1).2, d.2, h⟩
    · rw [if_neg d] at h
      cases h
set_option maxRecDepth 10000 in
set_option maxHeartbeats 16000000 in
theorem needed_calls (A0 : Option Addr) (c0 : Nat) (l0 : List S50) (A1 : Option Addr) (c1 : Nat) (l1 : List S50) (r : List Int) (w : World) (hr0 : Kd.C k50 w A0 l0.length l0) (hr1 : Kd.C k50 w A1 l1.length l1) (h : closure_Needed.f l0 l1 = some r) :
    Calls Try.prog 25 #[.slice A0 l0.length c0, .slice A1 l1.length c1] w fun e w' => NeededEnd w r e w' := by
  obtain ⟨s0, s1, xs1, sn1, nd1, hseed, hrun, hres⟩ := needed_open h
  have hu50 := Try.underlying50
  have hu83 := Try.underlying83
  have hu89 := Try.underlying89
  have hmm := @run_makeMap Try.prog
  have HR0 := Lib.hid hr0
  have HR1 := Lib.hid hr1
  have hl0 := (smallL_iff.1 s0).1
  have hl1 := (smallL_iff.1 s1).1
  have S0 := Lib.hid s0
  have S1 := Lib.hid s1
  have HSEED := Lib.hid hseed
  have HRUN := Lib.hid hrun
  have HRES := Lib.hid hres
  clear hr0 hr1 s0 s1 h hseed hrun hres
  go_enter Try.func25, Try.ntmps25
  go_wp2_with fail
  refine (build_calls A0 c0 l0 A1 c1 l1 w HR0.out HR1.out S0.out S1.out).mono ?_
  rintro e w1 ⟨bd, bp, f, g, rfl, hB1, hG1, hV1, hbd, hbp⟩
  have HB1 := Lib.hid hB1
  have HG1 := Lib.hid hG1
  have HV1 := Lib.hid hV1
  have hs1 := below_size hB1
  clear hB1 hG1 hV1 hbd hbp
  go_wp2
  have HW0 := Lib.hid (NW.start w1 (.slice A1 l1.length c1) bd bp)
  generalize ((w1.alloc (.cells #[.slice A1 l1.length c1, .map (some bd), .map (some bp)] 83)).alloc (.map #[] 0)).alloc (.cells #[.slice none 0 0, .map none] 89) = wa at *
  clear hmm
  go_loopg [22] l0.length (fun kq v22 w' => ∃ (k : Nat) (v : Value) (r : Option Nat) (xs sn : List ByteArray), v22 = .int .i64 k ∧ Aside0 (kq + k = l0.length ∧ seedN (l0.drop k) xs sn = some (xs1, sn1)) ∧ Aside0 (NW w1 w' (.slice A1 l1.length c1) bd bp w1.heap.size (w1.heap.size + 1) (w1.heap.size + 1 + 1) [] v r xs sn))
  case atStart => exact ⟨0, _, _, [], [], rfl, ⟨by omega, HSEED.out⟩, ⟨HW0.out⟩⟩
  case round =>
    clear HW0 HSEED
    obtain ⟨k, v, r', xs, sn, rfl, HA, HS⟩ := hrel
    cases gk with
    | zero =>
      have hk : l0.length ≤ k := by have := HA.out.1; omega
      have hkf : decide (k < l0.length) = false := decide_eq_false (by omega)
      have hsd := HA.out.2
      rw [List.drop_eq_nil_of_le hk] at hsd
      simp only [seedN, Option.some.injEq, Prod.mk.injEq] at hsd
      obtain ⟨rfl, rfl⟩ := hsd
      clear HA hk
      generalize hpv : provOf l0 = pv at *
      generalize hps : prsOf l1 0 = ps at *
      have HPV := Lib.hid (And.intro hpv hps)
      clear hpv hps HR0 S0 hl0
      go_upto_region 9 with (fail)
      go_cut [10, 11] (fun v10 v11 wx => ∃ (ok : Bool) (s : ByteArray) (v : Value) (r : Option Nat) (xs sn : List ByteArray), v10 = .string s ∧ v11 = .bool ok ∧ Aside0 (TakenN pv ps l1 nd1 1048575 ok s xs sn []) ∧ Aside0 (NW w1 wx (.slice A1 l1.length c1) bd bp w1.heap.size (w1.heap.size + 1) (w1.heap.size + 1 + 1) [] v r xs sn))
      case first =>
        rcases runN_cases HRUN.out with ⟨h0, h1⟩ | ⟨h0, h1, h2⟩
        · have HE := Lib.hid h1
          clear h1 HRUN
          go_wp2_with (go_at_call 53; refine (take0_calls (w1.heap.size + 1 + 1) v r' xs sn wr HS.out.wl h0).mono ?_; rintro e w4 ⟨rfl, rfl⟩)
          go_meet
          exact ⟨false, _, v, r', xs, sn, rfl, rfl, ⟨HE.out⟩, ⟨HS.out⟩⟩
        · have HE := Lib.hid h2
          clear h2 HRUN
          go_wp2_with (go_at_call 53; refine (take1_calls (w1.heap.size + 1 + 1) v r' xs sn wr HS.out.wl h0 (by omega)).mono ?_; rintro e w4 ⟨v', rfl, hwl, hbl⟩; have HW4 := Lib.hid (HS.out.list hwl hbl); clear hwl hbl)
          go_meet
          exact ⟨true, _, v', r', _, sn, rfl, rfl, ⟨HE.out⟩, ⟨HW4.out⟩⟩
      case rest =>
        obtain ⟨ok, s, v, r', xs, sn, rfl, rfl, HT, HW⟩ := hcut
        clear HRUN HS
        go_wp2
        go_loopg [10, 11] 1048575 (fun kq v10 v11 w' => ∃ (ok : Bool) (s : ByteArray) (v : Value) (r : Option Nat) (xs sn : List ByteArray) (nd : List Int), v10 = .string s ∧ v11 = .bool ok ∧ Aside0 (TakenN pv ps l1 nd1 kq ok s xs sn nd) ∧ Aside0 (NW w1 w' (.slice A1 l1.length c1) bd bp w1.heap.size (w1.heap.size + 1) (w1.heap.size + 1 + 1) nd v r xs sn))
        case atStart => exact ⟨ok, s, v, r', xs, sn, [], rfl, rfl, HT, HW⟩
        case round =>
          clear HT HW
          obtain ⟨ok, s, v, r', xs, sn, nd, rfl, rfl, HT, HW⟩ := hrel
          cases ok with
          | false =>
            have hnd : nd = nd1 := HT.out
            subst hnd
            clear HT
            have hbw := below_then HB1.out hs1 HW.out.B
            have HB := Lib.hid hbw
            have hbs := below_size hbw
            clear hbw
            go_wp2
            go_loopg [14, 67] l1.length (fun kq v14 v67 w' => ∃ (i : Nat), v67 = .int .i64 i ∧ Aside0 (kq + i = l1.length) ∧ Aside0 (MapV lkI w' 3 (w1.heap.size + 1) nd.length (inN nd) ∧ KI.R 3 w' w.heap.size (fun _ => True) v14 (pickN nd i) ∧ Below w.heap.size w w'))
            case atStart => exact ⟨0, rfl, ⟨by omega⟩, ⟨HW.out.nd, Kd.R_nil _ _ _ _ _, HB.out⟩⟩
            case round =>
              clear HW HB hbs
              obtain ⟨i, rfl, HA, HW⟩ := hrel
              have hbs := below_size HW.out.2.2
              cases gk with
              | zero =>
                have hi : i = l1.length := by have := HA.out; omega
                subst hi
                go_wp2
                go_ret
                rw [HRES.out]
                exact ⟨_, rfl, HW.out.2.1, HW.out.2.2⟩
              | succ iq =>
                have hi : i < l1.length := by have := HA.out; omega
                have hln := inN_look HW.out.1 (s := (i : Int)) (by omega) (by omega)
                have HPS := Lib.hid (pickN_succ nd i)
                have hpl := pickN_len nd i
                by_cases hin : (i : Int) ∈ nd
                · rw [decide_eq_true hin] at hln
                  have hps := HPS.out
                  rw [if_pos hin] at hps
                  have HPS2 := Lib.hid hps
                  clear hin hps HPS
                  go_wp2_with (first | (at_builtin; go_must (refine Kd.R_append KI (w0 := w) w.heap.size rfl (.tmp 73) (.tmp 75) 24 3 (.int .i64 0) 8 rfl Try.underlying24 info3 rfl (by decide) (by decide) u14 (pickN nd i) (i : Int) [.int .i64 (i : Int)] (fun _ => True) (fun _ => False) rfl ?aX ?aP (fun _ hk => hk.elim) ?aF ?aO ?aB ?aS ?aL ?_; (case aX => go_simp); (case aP => rfl); (case aF => exact fun _ _ => trivial); (case aO => exact HW.out.2.1); (case aB => exact HW.out.2.2); (case aS => exact hbs); (case aL => omega); intro v1 w7 ho hb hg hat; have hm7 := HW.out.1.grown hg (HW.out.1.ne_row HW.out.2.1); have HE := Lib.hid (And.intro hm7 (And.intro ho hb)); clear ho hb hg hat hm7)))
                  go_roundg iq
                  case measure => omega
                  case rel => exact ⟨i + 1, by go_num, ⟨by have := HA.out; omega⟩, ⟨by rw [HPS2.out]; exact HE.out⟩⟩
                · rw [decide_eq_false hin] at hln
                  have hps := HPS.out
                  rw [if_neg hin] at hps
                  have HPS2 := Lib.hid hps
                  clear hin hps HPS
                  go_wp2
                  go_roundg iq
                  case measure => omega
                  case rel => exact ⟨i + 1, by go_num, ⟨by have := HA.out; omega⟩, ⟨by rw [HPS2.out]; exact HW.out⟩⟩
          | true =>
            obtain ⟨hss, hxl, hT⟩ : s.size ≤ 1048576 ∧ xs.length ≤ 1048576 ∧ ((s ∈ pv ∧ runN pv ps l1 gk xs sn nd = some nd1) ∨ (s ∉ pv ∧ ∃ xs2 sn2 nd2, visitN l1 (zsOf ps s) xs sn nd = some (xs2, sn2, nd2) ∧ runN pv ps l1 gk xs2 sn2 nd2 = some nd1)) := by
              have := HT.out
              unfold TakenN at this
              rwa [if_pos rfl] at this
            cases gk with
            | zero =>
              exfalso
              rcases hT with ⟨_, h⟩ | ⟨_, _, _, _, _, h⟩
              · cases h
              · cases h
            | succ kq =>
              have HTT := Lib.hid hT
              clear hT HT
              go_upto_block 3 with (fail)
              go_cut [] (fun wx => ∃ (v : Value) (r : Option Nat) (xs sn : List ByteArray) (nd : List Int), Aside0 (runN pv ps l1 (kq + 1) xs sn nd = some nd1) ∧ Aside0 (NW w1 wx (.slice A1 l1.length c1) bd bp w1.heap.size (w1.heap.size + 1) (w1.heap.size + 1 + 1) nd v r xs sn))
              case first =>
                have hVr := HV1.out.below HW.out.B HV1.out.lt
                have hlp := inG_look hVr (s := s) (by omega)
                have p1 := blk_cell HW.out.p 1
                have p2 := blk_cell HW.out.p 2
                simp only [List.getElem?_toArray, List.getElem?_cons_succ, List.getElem?_cons_zero] at p1 p2
                have pl := blk_lt HW.out.p
                clear hVr
                rcases HTT.out with ⟨hin, hrn⟩ | ⟨hin, xs2, sn2, nd2, hvis, hrn⟩
                · rw [decide_eq_true hin] at hlp
                  have HE := Lib.hid hrn
                  clear hin hrn HTT
                  go_wp2
                  go_meet
                  exact ⟨v, r', xs, sn, nd, ⟨HE.out⟩, ⟨HW.out⟩⟩
                · rw [decide_eq_false hin] at hlp
                  have hlg := (HG1.out.below HW.out.B (Nat.le_refl _)).look (s := s) (by omega)
                  have hrow := (HG1.out.rows s).1
                  have HZI := Lib.hid (show ∀ i, i ∈ zsOf ps s → ∃ q : Nat, q < l1.length ∧ i = (q : Int) from fun i hi => by rw [← HPV.out.2] at hi; exact zs_in hi)
                  have HRN := Lib.hid hrn
                  have HVIS := Lib.hid hvis
                  generalize zsOf ps s = zs at *
                  generalize (g s).getD (.slice none 0 0) = u at *
                  obtain ⟨Au, cu, rfl⟩ := Kd.R_slice hrow
                  have hzl : zs.length ≤ 9223372036854775807 := (Kd.R_reads' hrow).2.2.2.1
                  have HROW := Lib.hid hrow
                  clear hin hrn hvis hrow HTT
                  go_wp2
                  go_loopg [48] zs.length (fun kq v48 w' => ∃ (j : Nat) (v : Value) (r : Option Nat) (xs sn : List ByteArray) (nd : List Int), v48 = .int .i64 j ∧ Aside0 (kq + j = zs.length ∧ visitN l1 (zs.drop j) xs sn nd = some (xs2, sn2, nd2)) ∧ Aside0 (NW w1 w' (.slice A1 l1.length c1) bd bp w1.heap.size (w1.heap.size + 1) (w1.heap.size + 1 + 1) nd v r xs sn))
                  case atStart => exact ⟨0, v, r', xs, sn, nd, rfl, ⟨by omega, HVIS.out⟩, ⟨HW.out⟩⟩
                  case round =>
                    clear HW HVIS
                    obtain ⟨j, v, r', xs, sn, nd, rfl, HJ, HW⟩ := hrel
                    cases gk with
                    | zero =>
                      have hj : zs.length ≤ j := by have := HJ.out.1; omega
                      have hkf : decide (j < zs.length) = false := decide_eq_false (by omega)
                      have hv := HJ.out.2
                      rw [List.drop_eq_nil_of_le hj] at hv
                      simp only [visitN, Option.some.injEq, Prod.mk.injEq] at hv
                      obtain ⟨rfl, rfl, rfl⟩ := hv
                      clear HJ hj
                      go_wp2
                      go_meet
                      exact ⟨v, r', xs, sn, nd, ⟨HRN.out⟩, ⟨HW.out⟩⟩
                    | succ jq =>
                      have hj : j < zs.length := by have := HJ.out.1; omega
                      have hRr := Kd.R_below HROW.out HW.out.B
                      obtain ⟨b, c', he, _, hbl, _⟩ := Kd.R_form hRr (by omega)
                      injection he with he1 he2 he3
                      subst he1
                      obtain ⟨hyc, _⟩ := R.row_cell hRr j hj
                      obtain ⟨q, hq, hqe⟩ := HZI.out zs[j] (List.getElem_mem hj)
                      have hyd : Hp.at_ (0 : Int) zs j = (q : Int) := by
                        unfold Hp.at_
                        rw [List.getD_eq_getElem?_getD, List.getElem?_eq_getElem hj]
                        exact hqe
                      rw [hyd] at hyc
                      have hv := HJ.out.2
                      rw [List.drop_eq_getElem_cons hj, hqe] at hv
                      have hln := inN_look HW.out.nd (s := (q : Int)) (by omega) (by omega)
                      clear hRr he2 he3 hyd hqe
                      rcases visitN_step hv with ⟨hin, hv2⟩ | ⟨hin, hf1, hf2, hf3, hv2⟩
                      · rw [decide_eq_true hin] at hln
                        have HV2 := Lib.hid hv2
                        clear hv hin hv2
                        go_wp2
                        go_roundg jq
                        case measure => omega
                        case rel => exact ⟨j + 1, v, r', xs, sn, nd, by go_num, ⟨by have := HJ.out.1; omega, HV2.out⟩, ⟨HW.out⟩⟩
                      · rw [decide_eq_false hin] at hln
                        obtain ⟨w5, hrun5, hw5⟩ := HW.out.need (i := q) (by omega) hf3
                        obtain ⟨ad, B0, d0, B1, d1, hA1e, hx0, hx1, hle0, hC0, hle1, hC1⟩ := at_T50 HR1.out (q : Int) (Int.natCast_nonneg _) (by omega)
                        subst hA1e
                        have hB := below_then HB1.out hs1 hw5.B
                        replace hx0 := (hB.cell (World.block_lt_of_cell? w _ hx0)).trans hx0
                        replace hx1 := (hB.cell (World.block_lt_of_cell? w _ hx1)).trans hx1
                        simp only [Int.toNat_natCast] at hx0 hx1
                        have HN := Lib.hid (names_small S1.out refB hq)
                        have HX := Lib.hid (Kd.C_below hC0 hB)
                        have HW5 := Lib.hid hw5
                        have HF := Lib.hid (And.intro hf1 (And.intro hf2 hv2))
                        clear hv hin hB hC0 hC1 hle0 hle1 hw5 hf1 hf2 hf3 hv2 HW
                        generalize rd_T50 l1 q = x at *
                        obtain ⟨x0, x1⟩ := x
                        dsimp only at hx0 hx1 HX HN HF
                        go_wp2_with fail
                        refine (names_calls52 refB holds_refers B0 d0 x0 B1 x1.length d1 w5 HX.out (by have := HN.out.1; omega)).mono ?_
                        rintro e w6 ⟨y, rfl, hR, hb6⟩
                        have hW6 := HW5.out.below hb6
                        have hne : ∀ k, y.ownBlock = some k → some k ≠ v.ownBlock := fun k hk e => by
                          have := Kd.R_base hR k hk
                          have := Kd.R_lt HW5.out.wl.hs.2 k e.symm
                          omega
                        have HR6 := Lib.hid hR
                        have HW6 := Lib.hid hW6
                        have HNE := Lib.hid hne
                        clear hR hb6 HW5 hW6 hne hx0 hx1 HX
                        generalize namesOf refB x0 = ns at *
                        go_wp2_with fail
                        refine (add_calls (w1.heap.size + 1 + 1) v r' xs sn w6 HW6.out.wl y ns w5.heap.size HR6.out HNE.out HN.out.2.2 (by have := HN.out.2.1; omega) HF.out.1 HF.out.2.1).mono ?_
                        rintro e w7 ⟨n, v', b', rfl, hwl, hbl7⟩
                        have HW7 := Lib.hid (HW6.out.list hwl.wl hbl7)
                        clear hwl hbl7 HW6 HR6 HNE
                        go_wp2
                        go_roundg jq
                        case measure => omega
                        case rel => exact ⟨j + 1, v', _, _, _, _, by go_num, ⟨by have := HJ.out.1; omega, HF.out.2.2⟩, ⟨HW7.out⟩⟩
              case rest =>
                obtain ⟨v2, r2, ys, tn, nd2, HT2, HW2⟩ := hcut
                clear HW HTT
                rcases runN_cases HT2.out with ⟨h0, h1⟩ | ⟨h0, h1, h2⟩
                · have HE := Lib.hid h1
                  clear h1 HT2
                  go_wp2_with (go_at_call 53; refine (take0_calls (w1.heap.size + 1 + 1) v2 r2 ys tn wc HW2.out.wl h0).mono ?_; rintro e w4 ⟨rfl, rfl⟩)
                  go_roundg kq
                  case measure => omega
                  case rel => exact ⟨false, _, v2, r2, ys, tn, nd2, rfl, rfl, ⟨HE.out⟩, ⟨HW2.out⟩⟩
                · have HE := Lib.hid h2
                  clear h2 HT2
                  go_wp2_with (go_at_call 53; refine (take1_calls (w1.heap.size + 1 + 1) v2 r2 ys tn wc HW2.out.wl h0 (by omega)).mono ?_; rintro e w4 ⟨v', rfl, hwl, hbl⟩; have HW4 := Lib.hid (HW2.out.list hwl hbl); clear hwl hbl)
                  go_roundg kq
                  case measure => omega
                  case rel => exact ⟨true, _, v', r2, _, tn, nd2, rfl, rfl, ⟨HE.out⟩, ⟨HW4.out⟩⟩
    | succ kq =>
      have hk : k < l0.length := by have := HA.out.1; omega
      obtain ⟨ad, B0, d0, B1, d1, rfl, hx0, hx1, hle0, hC0, hle1, hC1⟩ := at_T50 HR0.out (k : Int) (Int.natCast_nonneg _) (by omega)
      have hB := below_then HB1.out hs1 HS.out.B
      replace hx0 := (hB.cell (World.block_lt_of_cell? w _ hx0)).trans hx0
      replace hx1 := (hB.cell (World.block_lt_of_cell? w _ hx1)).trans hx1
      simp only [Int.toNat_natCast] at hx0 hx1
      have HN := Lib.hid (names_small S0.out refB hk)
      have hsd := HA.out.2
      rw [List.drop_eq_getElem_cons hk, ← rd50 hk] at hsd
      obtain ⟨hf1, hf2, hf3⟩ := seedN_step hsd
      have HX := Lib.hid (Kd.C_below hC0 hB)
      have HF := Lib.hid (And.intro hf1 (And.intro hf2 hf3))
      clear hB hC1 hle0 hle1 hsd hC0 hf1 hf2 hf3
      generalize rd_T50 l0 k = x at *
      obtain ⟨x0, x1⟩ := x
      dsimp only at hx0 hx1 HX HN HF
      go_wp2_with fail
      have hBW2 := HS.out.below (below_alloc (Below.refl _ _) (.cells #[.slice B0 x0.length d0, .slice B1 x1.length d1] 50))
      have hC2 := Kd.C_below HX.out (below_alloc (Below.refl _ _) (.cells #[.slice B0 x0.length d0, .slice B1 x1.length d1] 50))
      clear hx0 hx1 HS HX
      generalize wr.alloc (.cells #[.slice B0 x0.length d0, .slice B1 x1.length d1] 50) = w2 at *
      have HW2 := Lib.hid hBW2
      clear hBW2
      refine (names_calls52 refB holds_refers B0 d0 x0 B1 x1.length d1 w2 hC2 (by have := HN.out.1; omega)).mono ?_
      rintro e w3 ⟨u, rfl, hR, hb3⟩
      have hW3 := HW2.out.below hb3
      have hne : ∀ k, u.ownBlock = some k → some k ≠ v.ownBlock := fun k hk e => by
        have := Kd.R_base hR k hk
        have := Kd.R_lt HW2.out.wl.hs.2 k e.symm
        omega
      have HR3 := Lib.hid hR
      have HW3 := Lib.hid hW3
      have HNE := Lib.hid hne
      clear hR hb3 hC2 HW2 hW3 hne
      generalize namesOf refB x0 = ns at *
      go_wp2_with fail
      refine (add_calls (w1.heap.size + 1 + 1) v r' xs sn w3 HW3.out.wl u ns w2.heap.size HR3.out HNE.out HN.out.2.2 (by have := HN.out.2.1; omega) HF.out.1 HF.out.2.1).mono ?_
      rintro e w4 ⟨n, v', b, rfl, hwl, hbl⟩
      have HW4 := Lib.hid (HW3.out.list hwl.wl hbl)
      clear hwl hbl HW3 HR3 HNE
      go_wp2
      go_roundg kq
      case measure => omega
      case rel => exact ⟨k + 1, v', _, _, _, by go_num, ⟨by have := HA.out.1; omega, HF.out.2.2⟩, ⟨HW4.out⟩⟩
theorem closure_Needed.calls (A0 : Option Addr) (c0 : Nat) (l0 : List S50) (A1 : Option Addr) (c1 : Nat) (l1 : List S50) (r : List Int) (w : World) (hr0 : Kd.C k50 w A0 l0.length l0) (hc0 : l0.length ≤ c0) (hr1 : Kd.C k50 w A1 l1.length l1) (hc1 : l1.length ≤ c1) (h : closure_Needed.f l0 l1 = some r) :
    Calls Try.prog 25 #[.slice A0 l0.length c0, .slice A1 l1.length c1] w fun e w' => ∃ v0_ : Value, e = .returned v0_ ∧ Kd.R (Kd.int .i64) 3 w' w.heap.size (fun _ => True) v0_ r ∧ Below w.heap.size w w' :=
  (needed_calls A0 c0 l0 A1 c1 l1 r w hr0 hr1 h).mono fun e w' h => h
end Go.Proofs.Ythpjpkcfepmhkaa.PAll
namespace Go.Proofs.Ythpjpkcfepmhkaa.PAll
set_option linter.unusedVariables false
open Go.RowKit Go.Proofs.YthpjpkcfepmhkaaW.PrintWords Go.Proofs.YthpjpkcfepmhkaaW.PrintLast Go.Proofs.YthpjpkcfepmhkaaW.PrintMore
theorem order_Sort.calls (n : Int) (A1 : Option Addr) (c1 : Nat) (l1 : List S68) (r1 : List Int) (r2 : Int) (w : World) (hr1 : Kd.C k68 w A1 l1.length l1) (hc1 : l1.length ≤ c1) (h : order_Sort.f n l1 = some (r1, r2)) :
    Calls Try.prog 14 #[.int .i64 n, .slice A1 l1.length c1] w fun e w' => ∃ v0_ : Value, e = .returned (.tuple #[v0_, .int .i64 r2]) ∧ Kd.R (Kd.int .i64) 3 w' w.heap.size (fun _ => True) v0_ r1 ∧ Below w.heap.size w w' :=
  (order_Sort.calls0 n A1 c1 l1 r1 r2 w hr1 hc1 h).mono fun e w' h => h
end Go.Proofs.Ythpjpkcfepmhkaa.PAll
namespace Go.Proofs.Ythpjpkcfepmhkaa.PAll
open Go.RowKit Go.Proofs.YthpjpkcfepmhkaaW.PrintWords Go.Proofs.YthpjpkcfepmhkaaW.PrintLast Go.Proofs.YthpjpkcfepmhkaaW.PrintMore
attribute [local go_sem] max2_int min2_int max_two min_two max_three min_three max_four min_four   -- for this text's walks alone
set_option linter.unusedVariables false
set_option linter.unusedSimpArgs false
def arlinklaw23_back.l0 : Nat → List (S68) → List (S39) → Int → Option ((List (S39)))
 | 0, _, _, _ => none
 | k + 1, x0, x3, x4 => if x4 < (x0.length : Int) then (if 0 ≤ x4 then (if x3.length < 8796093022208 then (arlinklaw23_back.l0 k x0 (x3 ++ [(⟨(rd_T68 x0 x4).f0, (rd_T68 x0 x4).f1⟩ : S39)]) (wrap64 (x4 + 1))) else (none)) else (none)) else (some x3)
def arlinklaw23_back.f (k : Nat) (l0 : List (S68)) : Option ((List (S39))) := arlinklaw23_back.l0 k l0 ([] : List (S39)) 0
def arlinklaw23_back.T5 : Bool × List (List Nat × List Nat) := (true, [([], []), ([], []), ([], []), ([1, 2], [1, 2]), ([3], [3]), ([4], [4]), ([], []), ([], []), ([6, 7], [6, 7]), ([8], [8]), ([9], [9]), ([5, 10], [5, 10]), ([11], [11]), ([0, 12], [0, 12]), ([13, 13, 0, 1, 2, 3, 4, 5, 6, 7, 8, 9, 10, 11, 12, 13], [0, 13])])
def arlinklaw23_back.B5 : List Nat := [0, 0, 0, 6, 14, 30, 0, 0, 192, 448, 960, 2046, 4094, 8191, 16383]
theorem arlinklaw23_back.tab5 : rtab .any (opsOf Try.f36 5) = arlinklaw23_back.T5 := by kernel_rfl
theorem arlinklaw23_back.bits5 : waitsOk arlinklaw23_back.T5.2 arlinklaw23_back.B5 = true := by kernel_rfl
set_option maxHeartbeats 8000000 in
set_option maxRecDepth 100000 in
theorem arlinklaw23_back.calls (k : Nat) (A0 : Option Addr) (c0 : Nat) (l0 : List (S68)) (r : List (S39)) (w : World) (hr0 : Kd.C k68 w A0 l0.length l0) (hc0 : l0.length ≤ c0) (h : arlinklaw23_back.f k l0 = some r) :
  Calls Try.prog 36 #[.slice A0 l0.length c0] w fun e w' => ∃ v0_ : Value, e = .returned (v0_) ∧ Kd.R k39 39 w' w.heap.size (fun _ => True) v0_ r ∧ Below w.heap.size w w' := by
 have hu39 := Try.underlying39
 have HR0 := Aside0.mk hr0
 have HC0 := Aside0.mk hc0
 clear hr0 hc0
 have HB := Aside0.mk (Below.refl w.heap.size w)
 have H : (arlinklaw23_back.l0 k l0 ([] : List (S39)) 0) = some r := h
 clear h
 have H' := Aside0.mk H
 clear H
 go_enter Try.func36, Try.ntmps36
 go_wp2
 go_loopg [3, 4] k (fun kq v3 v4 w' => ∃ (x3_1 : List (S39)) (x4_1 : Int), v4 = .int .i64 x4_1 ∧ Aside0 (arlinklaw23_back.l0 kq l0 x3_1 x4_1 = some r) ∧ Aside0 (kq ≤ k) ∧ Aside0 (Kd.R k39 39 w' w.heap.size (fun _ => True) v3 x3_1) ∧ Aside0 (Below w.heap.size w w'))
 case atStart => exact ⟨(([] : List (S39))), (0), (by first | rfl | (simp; done) | (simp [*]; done)), H', ⟨Nat.le_refl _⟩, ⟨by first | exact Kd.R_nil _ _ _ _ _ | exact Kd.N_nil _ _ _ _ _ | exact Kd.V_nil _ _ _ _ _ | exact Kd.Q_nil _ _ _ _ _ | exact Kd.S_nil _ _ _ _ _⟩, ⟨by repeat (first | (with_reducible first | exact HB.out | apply below_alloc | apply pw_below_drewN | apply below_drew1) | exact HB.out)⟩⟩
 case round =>
  clear H'
  obtain ⟨x3_1, x4_1, rfl, HA, HK1, HO_3, HB⟩ := hrel
  cases gk with
  | zero => exact absurd HA.out (by simp [arlinklaw23_back.l0])
  | succ k1 =>
   have H := HA.out
   clear HA
   simp only [arlinklaw23_back.l0] at H
   by_cases c2 : x4_1 < (l0.length : Int)
   ·rw [if_pos c2] at H
    have c2b0 : decide (x4_1 < (l0.length : Int)) = true := decide_eq_true c2
    clear c2
    by_cases c3 : 0 ≤ x4_1
    ·rw [if_pos c3] at H
     have c3b0 : decide (0 ≤ x4_1) = true := decide_eq_true c3
     clear c3
     by_cases c4 : x3_1.length < 8796093022208
     ·rw [if_pos c4] at H
      have LMc4 := Aside0.mk c4
      clear c4
      obtain ⟨y488, hy488⟩ : ∃ y_ : List (S39), y_ = (x3_1 ++ [(⟨(rd_T68 l0 x4_1).f0, (rd_T68 l0 x4_1).f1⟩ : S39)]) := ⟨_, rfl⟩
      replace H : (arlinklaw23_back.l0 k1 l0 y488 (wrap64 (x4_1 + 1))) = some r := by first | (rw [hy488]; with_reducible exact H) | (have H2_ := (Option.bind_some _ _).symm.trans H; rw [hy488]; with_reducible exact H2_) | (have H2_ := (Option.bind_some _ _).symm.trans H; with_reducible exact H2_) | with_reducible exact H | (rw [hy488]; exact H) | exact H
      have Ny488 := Aside0.mk hy488
      clear hy488
      have H' := Aside0.mk H
      clear H
      try go_wp2
      have n0_ := Aside0.mk (Kd.R_drew HO_3.out)
      have n1_ := Aside0.mk (below_drew1 HB.out)
      clear HO_3
      clear HB
      have HO_3 := n0_
      have HB := n1_
      clear n0_ n1_
      have p486 : 0 ≤ (x4_1 : Int) := of_decide_eq_true (by first | (with_reducible assumption) | assumption)
      have q486 : x4_1 < (l0.length : Int) := of_decide_eq_true (by first | (with_reducible assumption) | assumption)
      obtain ⟨ad486, e486, hx486_0, hx486_1⟩ := at_T68 HR0.out x4_1 p486 q486
      have hw486_1 := hx486_1
      have hw486_0 := hx486_0
      cases e486
      replace hx486_0 := (HB.out.cell (World.block_lt_of_cell? w _ hx486_0)).trans hx486_0
      replace hx486_1 := (HB.out.cell (World.block_lt_of_cell? w _ hx486_1)).trans hx486_1
      replace p486 := eq_true p486
      replace q486 := eq_true q486
      have p487 : 0 ≤ (x4_1 : Int) := of_decide_eq_true (by first | (with_reducible assumption) | assumption)
      have q487 : x4_1 < (l0.length : Int) := of_decide_eq_true (by first | (with_reducible assumption) | assumption)
      obtain ⟨ad487, e487, hx487_0, hx487_1⟩ := at_T68 HR0.out x4_1 p487 q487
      have hw487_1 := hx487_1
      have hw487_0 := hx487_0
      obtain rfl : ad486 = ad487 := (by injection e487)
      replace hx487_0 := (HB.out.cell (World.block_lt_of_cell? w _ hx487_0)).trans hx487_0
      replace hx487_1 := (HB.out.cell (World.block_lt_of_cell? w _ hx487_1)).trans hx487_1
      replace p487 := eq_true p487
      replace q487 := eq_true q487
      refine start_ (n := 15) (S := fun w' => w'.cell? (ad486.add ((x4_1).toNat * 2)) = some (.int .i64 ((rd_T68 l0 x4_1).f0)) ∧ w'.cell? ⟨(ad486.add ((x4_1).toNat * 2)).block, (ad486.add ((x4_1).toNat * 2)).off + 1, none⟩ = some (.int .i64 ((rd_T68 l0 x4_1).f1)) ∧ w'.cell? (ad486.add ((x4_1).toNat * 2)) = some (.int .i64 ((rd_T68 l0 x4_1).f0)) ∧ w'.cell? ⟨(ad486.add ((x4_1).toNat * 2)).block, (ad486.add ((x4_1).toNat * 2)).off + 1, none⟩ = some (.int .i64 ((rd_T68 l0 x4_1).f1))) (ds := []) #[false, false, false, false, false, false, false, false, false, false, false, false, false, false, false] (by kernel_rfl) rfl rfl ⟨((HB.out.cell (World.block_lt_of_cell? w _ hw486_0)).trans hw486_0), ((HB.out.cell (World.block_lt_of_cell? w _ hw486_1)).trans hw486_1), ((HB.out.cell (World.block_lt_of_cell? w _ hw487_0)).trans hw487_0), ((HB.out.cell (World.block_lt_of_cell? w _ hw487_1)).trans hw487_1)⟩ (fun hHeld => ?_); refine with_tabW arlinklaw23_back.tab5 arlinklaw23_back.bits5 (fun HT_ HW_ => ?_)
      generalize wr.drew = w5 at HO_3 HB hx486_0 hx486_1 hx487_0 hx487_1 hHeld ⊢
      refine pure_ (i := 0) (N := some 11) (v := ?_) (a' := ?_) #[true, false, false, false, false, false, false, false, false, false, false, false, false, false, false] rfl rfl (any_of HT_.out (by kernel_rfl)) (fun _ _ _ h => h) (Or.inl ⟨by rfl, ?_⟩) ?_ ?_
      rotate_left
      ·intro w'
       go_simp
       with_reducible rfl
      rotate_left
      ·simp only [Act.put, List.setIfInBounds_toArray, List.set_cons_zero, List.set_cons_succ, i64_w, i32_w]
       rfl
      refine pure_ (i := 1) (N := some 12) (v := ?_) (a' := ?_) #[true, true, false, false, false, false, false, false, false, false, false, false, false, false, false] rfl rfl (any_of HT_.out (by kernel_rfl)) (fun _ _ _ h => h) (Or.inl ⟨by rfl, ?_⟩) ?_ ?_
      rotate_left
      ·intro w'
       go_simp
       with_reducible rfl
      rotate_left
      ·simp only [Act.put, List.setIfInBounds_toArray, List.set_cons_zero, List.set_cons_succ, i64_w, i32_w]
       rfl
      refine pure_ (i := 2) (N := some 13) (v := ?_) (a' := ?_) #[true, true, true, false, false, false, false, false, false, false, false, false, false, false, false] rfl rfl (any_of HT_.out (by kernel_rfl)) (fun _ _ _ h => h) (Or.inl ⟨by rfl, ?_⟩) ?_ ?_
      rotate_left
      ·intro w'
       go_simp
       with_reducible rfl
      rotate_left
      ·simp only [Act.put, List.setIfInBounds_toArray, List.set_cons_zero, List.set_cons_succ, i64_w, i32_w]
       rfl
      refine pure_ (i := 3) (N := some 14) (v := ?_) (a' := ?_) #[true, true, true, true, false, false, false, false, false, false, false, false, false, false, false] rfl rfl (any_of HT_.out (by kernel_rfl)) (fun _ _ _ h => h) (Or.inl ⟨by rfl, ?_⟩) ?_ ?_
      rotate_left
      ·intro w'
       go_simp
       with_reducible rfl
      rotate_left
      ·simp only [Act.put, List.setIfInBounds_toArray, List.set_cons_zero, List.set_cons_succ, i64_w, i32_w]
       rfl
      refine pure_ (i := 4) (N := some 15) (v := ?_) (a' := ?_) #[true, true, true, true, true, false, false, false, false, false, false, false, false, false, false] rfl rfl (any_of HT_.out (by kernel_rfl)) (fun _ _ _ h => h) (Or.inl ⟨by rfl, ?_⟩) ?_ ?_
      rotate_left
      ·intro w'
       go_simp
       with_reducible rfl
      rotate_left
      ·simp only [Act.put, List.setIfInBounds_toArray, List.set_cons_zero, List.set_cons_succ, i64_w, i32_w]
       rfl
      refine pure_ (i := 6) (N := some 17) (v := ?_) (a' := ?_) #[true, true, true, true, true, false, true, false, false, false, false, false, false, false, false] rfl rfl (any_of HT_.out (by kernel_rfl)) (fun _ _ _ h => h) (Or.inl ⟨by rfl, ?_⟩) ?_ ?_
      rotate_left
      ·intro w'
       go_simp
       with_reducible rfl
      rotate_left
      ·simp only [Act.put, List.setIfInBounds_toArray, List.set_cons_zero, List.set_cons_succ, i64_w, i32_w]
       rfl
      refine pure_ (i := 7) (N := some 18) (v := ?_) (a' := ?_) #[true, true, true, true, true, false, true, true, false, false, false, false, false, false, false] rfl rfl (any_of HT_.out (by kernel_rfl)) (fun _ _ _ h => h) (Or.inl ⟨by rfl, ?_⟩) ?_ ?_
      rotate_left
      ·intro w'
       go_simp
       with_reducible rfl
      rotate_left
      ·simp only [Act.put, List.setIfInBounds_toArray, List.set_cons_zero, List.set_cons_succ, i64_w, i32_w]
       rfl
      refine pure_ (i := 8) (N := some 19) (v := ?_) (a' := ?_) #[true, true, true, true, true, false, true, true, true, false, false, false, false, false, false] rfl rfl (any_of HT_.out (by kernel_rfl)) (fun _ _ _ h => h) (Or.inl ⟨by rfl, ?_⟩) ?_ ?_
      rotate_left
      ·intro w'
       go_simp
       with_reducible rfl
      rotate_left
      ·simp only [Act.put, List.setIfInBounds_toArray, List.set_cons_zero, List.set_cons_succ, i64_w, i32_w]
       rfl
      refine pure_ (i := 9) (N := some 20) (v := ?_) (a' := ?_) #[true, true, true, true, true, false, true, true, true, true, false, false, false, false, false] rfl rfl (any_of HT_.out (by kernel_rfl)) (fun _ _ _ h => h) (Or.inl ⟨by rfl, ?_⟩) ?_ ?_
      rotate_left
      ·intro w'
       go_simp
       with_reducible rfl
      rotate_left
      ·simp only [Act.put, List.setIfInBounds_toArray, List.set_cons_zero, List.set_cons_succ, i64_w, i32_w]
       rfl
      refine take_ (i := 5) (N := some 16) (v := ?_) (a' := ?_) #[true, true, true, true, true, true, true, true, true, true, false, false, false, false, false] rfl rfl (take_ofW HT_.out HW_.out (by kernel_rfl)) (fun _ _ _ h => h) (Or.inl ⟨by rfl, ?_⟩) hHeld ?_ ?_
      rotate_left
      ·rintro w' ⟨s0, s1, s2, s3⟩
       go_simp
       with_reducible rfl
      rotate_left
      ·simp only [Act.put, List.setIfInBounds_toArray, List.set_cons_zero, List.set_cons_succ, i64_w, i32_w]
       rfl
      refine take_ (i := 10) (N := some 21) (v := ?_) (a' := ?_) #[true, true, true, true, true, true, true, true, true, true, true, false, false, false, false] rfl rfl (take_ofW HT_.out HW_.out (by kernel_rfl)) (fun _ _ _ h => h) (Or.inl ⟨by rfl, ?_⟩) hHeld ?_ ?_
      rotate_left
      ·rintro w' ⟨s0, s1, s2, s3⟩
       go_simp
       with_reducible rfl
      rotate_left
      ·simp only [Act.put, List.setIfInBounds_toArray, List.set_cons_zero, List.set_cons_succ, i64_w, i32_w]
       rfl
      refine pure_ (i := 11) (N := some 22) (v := ?_) (a' := ?_) #[true, true, true, true, true, true, true, true, true, true, true, true, false, false, false] rfl rfl (any_of HT_.out (by kernel_rfl)) (fun _ _ _ h => h) (Or.inl ⟨by rfl, ?_⟩) ?_ ?_
      rotate_left
      ·intro w'
       go_simp
       with_reducible rfl
      rotate_left
      ·simp only [Act.put, List.setIfInBounds_toArray, List.set_cons_zero, List.set_cons_succ, i64_w, i32_w]
       rfl
      refine one_ (i := 12) (N := some 23) #[true, true, true, true, true, true, true, true, true, true, true, true, true, false, false] rfl rfl (one_of HT_.out (by kernel_rfl)) (by decide) (fun K hK => ?_)
      refine value_ (w1 := ?_) (v := ?_) (by rfl) rfl ?_ ?_
      rotate_left 2
      ·go_simp
       constructor
       ·rfl
       ·rfl
      refine hK.out _ _ ⟨(World.cell?_alloc_lt _ _ _ (World.block_lt_of_cell? _ _ (((HB.out.cell (World.block_lt_of_cell? w _ hw486_0)).trans hw486_0)))).trans (((HB.out.cell (World.block_lt_of_cell? w _ hw486_0)).trans hw486_0)), (World.cell?_alloc_lt _ _ _ (World.block_lt_of_cell? _ _ (((HB.out.cell (World.block_lt_of_cell? w _ hw486_1)).trans hw486_1)))).trans (((HB.out.cell (World.block_lt_of_cell? w _ hw486_1)).trans hw486_1)), (World.cell?_alloc_lt _ _ _ (World.block_lt_of_cell? _ _ (((HB.out.cell (World.block_lt_of_cell? w _ hw487_0)).trans hw487_0)))).trans (((HB.out.cell (World.block_lt_of_cell? w _ hw487_0)).trans hw487_0)), (World.cell?_alloc_lt _ _ _ (World.block_lt_of_cell? _ _ (((HB.out.cell (World.block_lt_of_cell? w _ hw487_1)).trans hw487_1)))).trans (((HB.out.cell (World.block_lt_of_cell? w _ hw487_1)).trans hw487_1))⟩ (fun hHeld => ?_)
      clear hK K
      refine norm_ (a' := ?_) ?_ ?_
      rotate_left
      ·show Act.put _ (some 23) _ = _
       simp only [Act.put, List.setIfInBounds_toArray, List.set_cons_zero, List.set_cons_succ, i64_w, i32_w]
       rfl
      refine one_ (i := 13) (N := some 24) #[true, true, true, true, true, true, true, true, true, true, true, true, true, true, false] rfl rfl (one_of HT_.out (by kernel_rfl)) (by decide) (fun K hK => ?_)
      refine Kd.R_append_step k39 (w0 := w) w.heap.size (by rfl) (.tmp 11) (.tmp 23) 22 39 (.agg #[(.int .i64 0), (.int .i64 0)]) 16 rfl Try.underlying22 info39 rfl (by decide) (by omega) u3 x3_1 (⟨(rd_T68 l0 x4_1).f0, (rd_T68 l0 x4_1).f1⟩ : S39) [.int .i64 ((rd_T68 l0 x4_1).f0), .int .i64 ((rd_T68 l0 x4_1).f1)] (fun _ => True) (fun _ => False) rfl rfl ?aP (fun _ hk => hk.elim) ?aF ?aO ?aB ?aS ?aL ?_
      (case aP => exact k39_mkM _ _ _ (⟨(rd_T68 l0 x4_1).f0, (rd_T68 l0 x4_1).f1⟩ : S39))
      (case aB => exact (by repeat (first | (with_reducible first | exact HB.out | apply below_alloc | apply pw_below_drewN | apply below_drew1) | exact HB.out)))
      (case aF => exact (fun _ _ => trivial))
      (case aO => exact (by (with_reducible repeat (first | apply Kd.R_alloc | apply Kd.R_drewN | apply Kd.R_drew)); exact HO_3.out))
      (case aS => exact (below_size (by repeat (first | (with_reducible first | exact HB.out | apply below_alloc | apply pw_below_drewN | apply below_drew1) | exact HB.out))))
      (case aL => have := LMc4.out; omega)
      intro v489 w6 ho hb hg hat
      rw [← Ny488.out] at ho
      have n0_ := Aside0.mk (hb)
      have n1_ := Aside0.mk (ho)
      clear HB
      clear HO_3
      have HB := n0_
      have HO490 := n1_
      clear n0_ n1_
      clear ho hb hg hat
      refine hK.out _ _ ⟨((HB.out.cell (World.block_lt_of_cell? w _ hw486_0)).trans hw486_0), ((HB.out.cell (World.block_lt_of_cell? w _ hw486_1)).trans hw486_1), ((HB.out.cell (World.block_lt_of_cell? w _ hw487_0)).trans hw487_0), ((HB.out.cell (World.block_lt_of_cell? w _ hw487_1)).trans hw487_1)⟩ (fun hHeld => ?_)
      clear hK K
      refine norm_ (a' := ?_) ?_ ?_
      rotate_left
      ·show Act.put _ (some 24) _ = _
       simp only [Act.put, List.setIfInBounds_toArray, List.set_cons_zero, List.set_cons_succ, i64_w, i32_w]
       rfl
      refine pure_ (i := 14) (N := some 3) (v := ?_) (a' := ?_) #[true, true, true, true, true, true, true, true, true, true, true, true, true, true, true] rfl rfl (any_of HT_.out (by kernel_rfl)) (fun _ _ _ h => h) (Or.inl ⟨by rfl, ?_⟩) ?_ ?_
      rotate_left
      ·intro w'
       go_simp
       with_reducible rfl
      rotate_left
      ·simp only [Act.put, List.setIfInBounds_toArray, List.set_cons_zero, List.set_cons_succ, i64_w, i32_w]
       rfl
      refine done_ (done_of HT_.out (by kernel_rfl)) ?_
      try go_wp2
      go_roundg k1
      case measure => have := HK1.out; omega
      case rel => exact ⟨(y488), (wrap64 (x4_1 + 1)), (by first | rfl | (simp; done) | (simp [*]; done)), H', ⟨by have := HK1.out; omega⟩, ⟨by (with_reducible repeat (first | apply Kd.R_alloc | apply Kd.R_drewN | apply Kd.R_drew)); exact HO490.out⟩, ⟨by repeat (first | (with_reducible first | exact HB.out | apply below_alloc | apply pw_below_drewN | apply below_drew1) | exact HB.out)⟩⟩
     ·rw [if_neg c4] at H
      exact absurd H (by simp)
    ·rw [if_neg c3] at H
     exact absurd H (by simp)
   ·rw [if_neg c2] at H
    have c2b0 : decide (x4_1 < (l0.length : Int)) = false := decide_eq_false c2
    clear c2
    obtain rfl := Option.some.inj H
    go_wp2
    go_ret
    exact ⟨_, by first | rfl | (simp [errW_none, errW_some] <;> rfl) | (simp [*, errW_none, errW_some] <;> rfl), by (with_reducible repeat (first | apply Kd.R_alloc | apply Kd.R_drewN | apply Kd.R_drew)); exact HO_3.out, by repeat (first | (with_reducible first | exact HB.out | apply below_alloc | apply pw_below_drewN | apply below_drew1) | exact HB.out)⟩
mutual
def order_Needs.l0 : Nat → List (List (S50)) → List (S68) → List (List (S50)) → Int → Int → Option ((List (S68)))
 | 0, _, _, _, _, _ => none
 | k + 1, x0, x3, x8, x9, x10 => if x10 < x9 then (if 0 ≤ x10 then (if x10 < (x8.length : Int) then (order_Needs.l1 k x0 x3 x10 (rd_L10 x8 x10) x8 x9 x10 x0 (x0.length : Int) 0) else (none)) else (none)) else (some x3)
def order_Needs.l1 : Nat → List (List (S50)) → List (S68) → Int → List (S50) → List (List (S50)) → Int → Int → List (List (S50)) → Int → Int → Option ((List (S68)))
 | 0, _, _, _, _, _, _, _, _, _, _ => none
 | k + 1, x0, x3, x4, x5, x8, x9, x10, x15, x16, x17 => if x17 < x16 then (if 0 ≤ x17 then (if x17 < (x15.length : Int) then (if x4 = x17 then (order_Needs.l1 k x0 x3 x4 x5 x8 x9 x10 x15 x16 (wrap64 (x17 + 1))) else ((closure_Needed.f x5 (rd_L10 x15 x17)).bind fun t493 => (if (t493.length : Int) > 0 then (if x3.length < 8796093022208 then (order_Needs.l1 k x0 (x3 ++ [(⟨x4, x17⟩ : S68)]) x4 x5 x8 x9 x10 x15 x16 (wrap64 (x17 + 1))) else (none)) else (order_Needs.l1 k x0 x3 x4 x5 x8 x9 x10 x15 x16 (wrap64 (x17 + 1)))))) else (none)) else (none)) else (order_Needs.l0 k x0 x3 x8 x9 (wrap64 (x10 + 1)))
end
def order_Needs.f (k : Nat) (l0 : List (List (S50))) : Option ((List (S68))) := order_Needs.l0 k l0 ([] : List (S68)) l0 (l0.length : Int) 0
set_option maxHeartbeats 8000000 in
set_option maxRecDepth 100000 in
theorem order_Needs.calls (k : Nat) (A0 : Option Addr) (c0 : Nat) (l0 : List (List (S50))) (r : List (S68)) (w : World) (hr0 : Kd.C (Kd.slice 50 k50) w A0 l0.length l0) (hc0 : l0.length ≤ c0) (h : order_Needs.f k l0 = some r) :
  Calls Try.prog 37 #[.slice A0 l0.length c0] w fun e w' => ∃ v0_ : Value, e = .returned (v0_) ∧ Kd.R k68 68 w' w.heap.size (fun _ => True) v0_ r ∧ Below w.heap.size w w' := by
 have hu68 := Try.underlying68
 have HR0 := Aside0.mk hr0
 have HC0 := Aside0.mk hc0
 clear hr0 hc0
 have HB := Aside0.mk (Below.refl w.heap.size w)
 have H : (order_Needs.l0 k l0 ([] : List (S68)) l0 (l0.length : Int) 0) = some r := h
 clear h
 have H' := Aside0.mk H
 clear H
 go_enter Try.func37, Try.ntmps37
 go_wp2
 go_loopg [3, 10] k (fun kq v3 v10 w' => ∃ (x3_1 : List (S68)) (x10_1 : Int), v10 = .int .i64 x10_1 ∧ Aside0 (order_Needs.l0 kq l0 x3_1 l0 (l0.length : Int) x10_1 = some r) ∧ Aside0 (kq ≤ k) ∧ Aside0 (Kd.R k68 68 w' w.heap.size (fun _ => True) v3 x3_1) ∧ Aside0 (Below w.heap.size w w'))
 case atStart => exact ⟨(([] : List (S68))), (0), (by first | rfl | (simp; done) | (simp [*]; done)), H', ⟨Nat.le_refl _⟩, ⟨by first | exact Kd.R_nil _ _ _ _ _ | exact Kd.N_nil _ _ _ _ _ | exact Kd.V_nil _ _ _ _ _ | exact Kd.Q_nil _ _ _ _ _ | exact Kd.S_nil _ _ _ _ _⟩, ⟨by repeat (first | (with_reducible first | exact HB.out | apply below_alloc | apply pw_below_drewN | apply below_drew1) | exact HB.out)⟩⟩
 case round =>
  clear H'
  obtain ⟨x3_1, x10_1, rfl, HA, HK1, HO_3, HB⟩ := hrel
  cases gk with
  | zero => exact absurd HA.out (by simp [order_Needs.l0])
  | succ k1 =>
   have H := HA.out
   clear HA
   simp only [order_Needs.l0] at H
   by_cases c2 : x10_1 < (l0.length : Int)
   ·rw [if_pos c2] at H
    have c2b0 : decide (x10_1 < (l0.length : Int)) = true := decide_eq_true c2
    clear c2
    by_cases c3 : 0 ≤ x10_1
    ·rw [if_pos c3] at H
     have c3b0 : decide (0 ≤ x10_1) = true := decide_eq_true c3
     clear c3
     by_cases c4 : x10_1 < (l0.length : Int)
     ·rw [if_pos c4] at H
      have c4b0 : decide (x10_1 < (l0.length : Int)) = true := decide_eq_true c4
      clear c4
      have H' := Aside0.mk H
      clear H
      have p491 : 0 ≤ (x10_1 : Int) := of_decide_eq_true (by first | (with_reducible assumption) | assumption)
      have q491 : x10_1 < (l0.length : Int) := of_decide_eq_true (by first | (with_reducible assumption) | assumption)
      obtain ⟨ad491, A491_0, c491_0, e491, hx491_0, hl491_0, hi491_0⟩ := at_L10 HR0.out x10_1 p491 q491
      cases e491
      replace hx491_0 := (HB.out.cell (World.block_lt_of_cell? w _ hx491_0)).trans hx491_0
      have HR491_0 := Aside0.mk hi491_0
      have HC491_0 := Aside0.mk hl491_0
      clear hi491_0 hl491_0
      replace p491 := eq_true p491
      replace q491 := eq_true q491
      go_wp2
      go_loopg [3, 17] k1 (fun kq v3 v17 w' => ∃ (x3_2 : List (S68)) (x17_2 : Int), v17 = .int .i64 x17_2 ∧ Aside0 (order_Needs.l1 kq l0 x3_2 x10_1 (rd_L10 l0 x10_1) l0 (l0.length : Int) x10_1 l0 (l0.length : Int) x17_2 = some r) ∧ Aside0 (kq ≤ k1) ∧ Aside0 (Kd.R k68 68 w' w.heap.size (fun _ => True) v3 x3_2) ∧ Aside0 (Below w.heap.size w w'))
      case atStart => exact ⟨(x3_1), (0), (by first | rfl | (simp; done) | (simp [*]; done)), H', ⟨Nat.le_refl _⟩, ⟨by (with_reducible repeat (first | apply Kd.R_alloc | apply Kd.R_drewN | apply Kd.R_drew)); exact HO_3.out⟩, ⟨by repeat (first | (with_reducible first | exact HB.out | apply below_alloc | apply pw_below_drewN | apply below_drew1) | exact HB.out)⟩⟩
      case round =>
       clear H'
       try clear c2
       try clear c2b0
       try clear p2
       try clear c3
       try clear c3b0
       try clear c4
       try clear c4b0
       try clear p4
       try clear q4
       try clear hx4
       try clear hx491_0
       try clear p491
       try clear q491
       obtain ⟨x3_2, x17_2, rfl, HA, HK2, HO_3, HB⟩ := hrel
       cases gk with
       | zero => exact absurd HA.out (by simp [order_Needs.l1])
       | succ k2 =>
        have H := HA.out
        clear HA
        simp only [order_Needs.l1] at H
        by_cases c5 : x17_2 < (l0.length : Int)
        ·rw [if_pos c5] at H
         have c5b0 : decide (x17_2 < (l0.length : Int)) = true := decide_eq_true c5
         clear c5
         by_cases c6 : 0 ≤ x17_2
         ·rw [if_pos c6] at H
          have c6b0 : decide (0 ≤ x17_2) = true := decide_eq_true c6
          clear c6
          by_cases c7 : x17_2 < (l0.length : Int)
          ·rw [if_pos c7] at H
           have c7b0 : decide (x17_2 < (l0.length : Int)) = true := decide_eq_true c7
           clear c7
           by_cases c8 : x10_1 = x17_2
           ·rw [if_pos c8] at H
            have c8b0 : (x10_1 == x17_2) = true := beq_iff_eq.mpr c8
            have c8b1 : (x10_1 != x17_2) = false := bne_eq_false_iff_eq.mpr c8
            clear c8
            have H' := Aside0.mk H
            clear H
            have p492 : 0 ≤ (x17_2 : Int) := of_decide_eq_true (by first | (with_reducible assumption) | assumption)
            have q492 : x17_2 < (l0.length : Int) := of_decide_eq_true (by first | (with_reducible assumption) | assumption)
            obtain ⟨ad492, A492_0, c492_0, e492, hx492_0, hl492_0, hi492_0⟩ := at_L10 HR0.out x17_2 p492 q492
            obtain rfl : ad491 = ad492 := (by injection e492)
            replace hx492_0 := (HB.out.cell (World.block_lt_of_cell? w _ hx492_0)).trans hx492_0
            have HR492_0 := Aside0.mk hi492_0
            have HC492_0 := Aside0.mk hl492_0
            clear hi492_0 hl492_0
            replace p492 := eq_true p492
            replace q492 := eq_true q492
            go_wp2
            go_roundg k2
            case measure => have := HK1.out; have := HK2.out; omega
            case rel => exact ⟨(x3_2), (wrap64 (x17_2 + 1)), (by first | rfl | (simp; done) | (simp [*]; done)), H', ⟨by have := HK1.out; have := HK2.out; omega⟩, ⟨by (with_reducible repeat (first | apply Kd.R_alloc | apply Kd.R_drewN | apply Kd.R_drew)); exact HO_3.out⟩, ⟨by repeat (first | (with_reducible first | exact HB.out | apply below_alloc | apply pw_below_drewN | apply below_drew1) | exact HB.out)⟩⟩
           ·rw [if_neg c8] at H
            have c8b0 : (x10_1 == x17_2) = false := beq_eq_false_iff_ne.mpr c8
            have c8b1 : (x10_1 != x17_2) = true := bne_iff_ne.mpr c8
            replace H := Option.bind_eq_some_iff.mp H
            obtain ⟨t493, A90, H⟩ := H
            replace H : (if (t493.length : Int) > 0 then (if x3_2.length < 8796093022208 then (order_Needs.l1 k2 l0 (x3_2 ++ [(⟨x10_1, x17_2⟩ : S68)]) x10_1 (rd_L10 l0 x10_1) l0 (l0.length : Int) x10_1 l0 (l0.length : Int) (wrap64 (x17_2 + 1))) else (none)) else (order_Needs.l1 k2 l0 x3_2 x10_1 (rd_L10 l0 x10_1) l0 (l0.length : Int) x10_1 l0 (l0.length : Int) (wrap64 (x17_2 + 1)))) = some r := H
            have A9 := Aside0.mk A90
            clear A90
            by_cases c10 : (t493.length : Int) > 0
            ·rw [if_pos c10] at H
             have c10b0 : decide (0 < (t493.length : Int)) = true := decide_eq_true c10
             have c10b1 : decide (0 < t493.length) = true := decide_eq_true (by omega)
             clear c10
             by_cases c11 : x3_2.length < 8796093022208
             ·rw [if_pos c11] at H
              have LMc11 := Aside0.mk c11
              clear c11
              obtain ⟨y496, hy496⟩ : ∃ y_ : List (S68), y_ = (x3_2 ++ [(⟨x10_1, x17_2⟩ : S68)]) := ⟨_, rfl⟩
              replace H : (order_Needs.l1 k2 l0 y496 x10_1 (rd_L10 l0 x10_1) l0 (l0.length : Int) x10_1 l0 (l0.length : Int) (wrap64 (x17_2 + 1))) = some r := by first | (rw [hy496]; with_reducible exact H) | (have H2_ := (Option.bind_some _ _).symm.trans H; rw [hy496]; with_reducible exact H2_) | (have H2_ := (Option.bind_some _ _).symm.trans H; with_reducible exact H2_) | with_reducible exact H | (rw [hy496]; exact H) | exact H
              have Ny496 := Aside0.mk hy496
              clear hy496
              have H' := Aside0.mk H
              clear H
              have p492 : 0 ≤ (x17_2 : Int) := of_decide_eq_true (by first | (with_reducible assumption) | assumption)
              have q492 : x17_2 < (l0.length : Int) := of_decide_eq_true (by first | (with_reducible assumption) | assumption)
              obtain ⟨ad492, A492_0, c492_0, e492, hx492_0, hl492_0, hi492_0⟩ := at_L10 HR0.out x17_2 p492 q492
              obtain rfl : ad491 = ad492 := (by injection e492)
              replace hx492_0 := (HB.out.cell (World.block_lt_of_cell? w _ hx492_0)).trans hx492_0
              have HR492_0 := Aside0.mk hi492_0
              have HC492_0 := Aside0.mk hl492_0
              clear hi492_0 hl492_0
              replace p492 := eq_true p492
              replace q492 := eq_true q492
              go_wp2_with (first | (go_at_call 25; (with_reducible refine (closure_Needed.calls _ _ (rd_L10 l0 x10_1) _ _ (rd_L10 l0 x17_2) t493 _ ?side1 ?side2 ?side3 ?side4 A9.out).mono ?_); (case side1 => repeat (first | exact (Kd.C_below HR491_0.out HB.out) | (with_reducible refine Kd.C_alloc ?_ _) | (with_reducible refine Kd.C_drewN ?_ _) | (with_reducible refine Kd.C_drew ?_))); (case side2 => exact HC491_0.out); (case side3 => repeat (first | exact (Kd.C_below HR492_0.out HB.out) | (with_reducible refine Kd.C_alloc ?_ _) | (with_reducible refine Kd.C_drewN ?_ _) | (with_reducible refine Kd.C_drew ?_))); (case side4 => exact HC492_0.out); rintro e w12 ⟨v494, rfl, ho0, hb⟩; have n0_ := Aside0.mk (Kd.R_below (by (with_reducible repeat (first | apply Kd.R_alloc | apply Kd.R_drewN | apply Kd.R_drew)); exact HO_3.out) hb); have n1_ := Aside0.mk (Kd.R_lower ho0 (below_size (by repeat (first | (with_reducible first | exact HB.out | apply below_alloc | apply pw_below_drewN | apply below_drew1) | exact HB.out)))); have n2_ := Aside0.mk (below_step (by repeat (first | (with_reducible first | exact HB.out | apply below_alloc | apply pw_below_drewN | apply below_drew1) | exact HB.out)) hb); clear HO_3; clear HB; have HO_3 := n0_; have HO495 := n1_; have HB := n2_; clear n0_ n1_ n2_; (try clear hb); (try clear hb2); (try clear hk); (try clear hi); (try clear ho0); obtain ⟨Ao13, co13, eo13⟩ := Kd.R_slice HO495.out; subst eo13) | ((with_reducible refine gate_builtin (b := .append) (xs := #[.tmp 32, .tmp 36]) rfl ?_); (try (refine gate_guard (by rfl) ?_; dsimp only)); at_builtin; refine Kd.R_append k68 (w0 := w) w.heap.size rfl (.tmp 32) (.tmp 36) 28 68 (.agg #[(.int .i64 0), (.int .i64 0)]) 16 rfl Try.underlying28 info68 rfl (by decide) (by omega) u3 x3_2 (⟨x10_1, x17_2⟩ : S68) [.int .i64 x10_1, .int .i64 x17_2] (fun _ => True) (fun _ => False) rfl rfl ?aP (fun _ hk => hk.elim) ?aF ?aO ?aB ?aS ?aL ?_; (case aP => exact k68_mkM _ _ _ (⟨x10_1, x17_2⟩ : S68)); (case aB => exact (by repeat (first | (with_reducible first | exact HB.out | apply below_alloc | apply pw_below_drewN | apply below_drew1) | exact HB.out))); (case aF => exact (fun _ _ => trivial)); (case aO => exact (by (with_reducible repeat (first | apply Kd.R_alloc | apply Kd.R_drewN | apply Kd.R_drew)); exact HO_3.out)); (case aS => exact (below_size (by repeat (first | (with_reducible first | exact HB.out | apply below_alloc | apply pw_below_drewN | apply below_drew1) | exact HB.out)))); (case aL => have := LMc11.out; omega); intro v497 w14 ho hb hg hat; rw [← Ny496.out] at ho; have n0_ := Aside0.mk (Kd.R_over' (by (with_reducible repeat (first | apply Kd.R_alloc | apply Kd.R_drewN | apply Kd.R_drew)); exact HO495.out) (Kd.R_typed (by (with_reducible repeat (first | apply Kd.R_alloc | apply Kd.R_drewN | apply Kd.R_drew)); exact HO_3.out)) (by decide) hg); have n1_ := Aside0.mk (hb); have n2_ := Aside0.mk (ho); clear HO495; clear HB; clear HO_3; have HO495 := n0_; have HB := n1_; have HO498 := n2_; clear n0_ n1_ n2_; clear ho hb hg hat))
              go_roundg k2
              case measure => have := HK1.out; have := HK2.out; omega
              case rel => exact ⟨(y496), (wrap64 (x17_2 + 1)), (by first | rfl | (simp; done) | (simp [*]; done)), H', ⟨by have := HK1.out; have := HK2.out; omega⟩, ⟨by (with_reducible repeat (first | apply Kd.R_alloc | apply Kd.R_drewN | apply Kd.R_drew)); exact HO498.out⟩, ⟨by repeat (first | (with_reducible first | exact HB.out | apply below_alloc | apply pw_below_drewN | apply below_drew1) | exact HB.out)⟩⟩
             ·rw [if_neg c11] at H
              exact absurd H (by simp)
            ·rw [if_neg c10] at H
             have c10b0 : decide (0 < (t493.length : Int)) = false := decide_eq_false c10
             have c10b1 : decide (0 < t493.length) = false := decide_eq_false (by omega)
             clear c10
             have H' := Aside0.mk H
             clear H
             have p492 : 0 ≤ (x17_2 : Int) := of_decide_eq_true (by first | (with_reducible assumption) | assumption)
             have q492 : x17_2 < (l0.length : Int) := of_decide_eq_true (by first | (with_reducible assumption) | assumption)
             obtain ⟨ad492, A492_0, c492_0, e492, hx492_0, hl492_0, hi492_0⟩ := at_L10 HR0.out x17_2 p492 q492
             obtain rfl : ad491 = ad492 := (by injection e492)
             replace hx492_0 := (HB.out.cell (World.block_lt_of_cell? w _ hx492_0)).trans hx492_0
             have HR492_0 := Aside0.mk hi492_0
             have HC492_0 := Aside0.mk hl492_0
             clear hi492_0 hl492_0
             replace p492 := eq_true p492
             replace q492 := eq_true q492
             go_wp2_with (first | (go_at_call 25; (with_reducible refine (closure_Needed.calls _ _ (rd_L10 l0 x10_1) _ _ (rd_L10 l0 x17_2) t493 _ ?side1 ?side2 ?side3 ?side4 A9.out).mono ?_); (case side1 => repeat (first | exact (Kd.C_below HR491_0.out HB.out) | (with_reducible refine Kd.C_alloc ?_ _) | (with_reducible refine Kd.C_drewN ?_ _) | (with_reducible refine Kd.C_drew ?_))); (case side2 => exact HC491_0.out); (case side3 => repeat (first | exact (Kd.C_below HR492_0.out HB.out) | (with_reducible refine Kd.C_alloc ?_ _) | (with_reducible refine Kd.C_drewN ?_ _) | (with_reducible refine Kd.C_drew ?_))); (case side4 => exact HC492_0.out); rintro e w15 ⟨v494, rfl, ho0, hb⟩; have n0_ := Aside0.mk (Kd.R_below (by (with_reducible repeat (first | apply Kd.R_alloc | apply Kd.R_drewN | apply Kd.R_drew)); exact HO_3.out) hb); have n1_ := Aside0.mk (Kd.R_lower ho0 (below_size (by repeat (first | (with_reducible first | exact HB.out | apply below_alloc | apply pw_below_drewN | apply below_drew1) | exact HB.out)))); have n2_ := Aside0.mk (below_step (by repeat (first | (with_reducible first | exact HB.out | apply below_alloc | apply pw_below_drewN | apply below_drew1) | exact HB.out)) hb); clear HO_3; clear HB; have HO_3 := n0_; have HO495 := n1_; have HB := n2_; clear n0_ n1_ n2_; (try clear hb); (try clear hb2); (try clear hk); (try clear hi); (try clear ho0); obtain ⟨Ao16, co16, eo16⟩ := Kd.R_slice HO495.out; subst eo16))
             go_roundg k2
             case measure => have := HK1.out; have := HK2.out; omega
             case rel => exact ⟨(x3_2), (wrap64 (x17_2 + 1)), (by first | rfl | (simp; done) | (simp [*]; done)), H', ⟨by have := HK1.out; have := HK2.out; omega⟩, ⟨by (with_reducible repeat (first | apply Kd.R_alloc | apply Kd.R_drewN | apply Kd.R_drew)); exact HO_3.out⟩, ⟨by repeat (first | (with_reducible first | exact HB.out | apply below_alloc | apply pw_below_drewN | apply below_drew1) | exact HB.out)⟩⟩
          ·rw [if_neg c7] at H
           exact absurd H (by simp)
         ·rw [if_neg c6] at H
          exact absurd H (by simp)
        ·rw [if_neg c5] at H
         have c5b0 : decide (x17_2 < (l0.length : Int)) = false := decide_eq_false c5
         clear c5
         have H' := Aside0.mk H
         clear H
         go_wp2
         go_roundg k2
         case measure => have := HK1.out; have := HK2.out; omega
         case rel => exact ⟨(x3_2), (wrap64 (x10_1 + 1)), (by first | rfl | (simp; done) | (simp [*]; done)), H', ⟨by have := HK1.out; have := HK2.out; omega⟩, ⟨by (with_reducible repeat (first | apply Kd.R_alloc | apply Kd.R_drewN | apply Kd.R_drew)); exact HO_3.out⟩, ⟨by repeat (first | (with_reducible first | exact HB.out | apply below_alloc | apply pw_below_drewN | apply below_drew1) | exact HB.out)⟩⟩
     ·rw [if_neg c4] at H
      exact absurd H (by simp)
    ·rw [if_neg c3] at H
     exact absurd H (by simp)
   ·rw [if_neg c2] at H
    have c2b0 : decide (x10_1 < (l0.length : Int)) = false := decide_eq_false c2
    clear c2
    obtain rfl := Option.some.inj H
    go_wp2
    go_ret
    exact ⟨_, by first | rfl | (simp [errW_none, errW_some] <;> rfl) | (simp [*, errW_none, errW_some] <;> rfl), by (with_reducible repeat (first | apply Kd.R_alloc | apply Kd.R_drewN | apply Kd.R_drew)); exact HO_3.out, by repeat (first | (with_reducible first | exact HB.out | apply below_alloc | apply pw_below_drewN | apply below_drew1) | exact HB.out)⟩
def order_Archives.f (k : Nat) (l0 : List (List (S50))) : Option (List Int × Int) := (order_Needs.f k l0).bind fun t499 => ((order_Sort.f (l0.length : Int) t499).bind fun bt502 => (some (bt502.1, bt502.2)))
set_option maxHeartbeats 8000000 in
set_option maxRecDepth 100000 in
theorem order_Archives.calls (k : Nat) (A0 : Option Addr) (c0 : Nat) (l0 : List (List (S50))) (r1 : List Int) (r2 : Int) (w : World) (hr0 : Kd.C (Kd.slice 50 k50) w A0 l0.length l0) (hc0 : l0.length ≤ c0) (h : order_Archives.f k l0 = some (r1, r2)) :
  Calls Try.prog 38 #[.slice A0 l0.length c0] w fun e w' => ∃ v0_ : Value, e = .returned (.tuple #[v0_, .int .i64 r2]) ∧ Kd.R (Kd.int .i64) 3 w' w.heap.size (fun _ => True) v0_ r1 ∧ Below w.heap.size w w' := by
 have HR0 := Aside0.mk hr0
 have HC0 := Aside0.mk hc0
 clear hr0 hc0
 have HB := Aside0.mk (Below.refl w.heap.size w)
 have H : ((order_Needs.f k l0).bind fun t499 => ((order_Sort.f (l0.length : Int) t499).bind fun bt502 => (some (bt502.1, bt502.2)))) = some (r1, r2) := h
 clear h
 replace H := Option.bind_eq_some_iff.mp H
 obtain ⟨t499, A20, H⟩ := H
 replace H : ((order_Sort.f (l0.length : Int) t499).bind fun bt502 => (some (bt502.1, bt502.2))) = some (r1, r2) := H
 have A2 := Aside0.mk A20
 clear A20
 replace H := Option.bind_eq_some_iff.mp H
 obtain ⟨⟨t502, t503⟩, A30, H⟩ := H
 replace H : (some (t502, t503)) = some (r1, r2) := H
 have A3 := Aside0.mk A30
 clear A30
 simp only [Option.some.injEq, Prod.mk.injEq] at H
 obtain ⟨rfl, rfl⟩ := H
 go_enter Try.func38, Try.ntmps38
 go_wp2_with (first | ((with_reducible refine gate_callee (f := 37) rfl ?_); refine goesL_ (some 7) rfl rfl Try.func37 (by kernel_rfl) rfl #[.slice A0 l0.length c0] rfl (by (try simp only [List.map_toArray, List.map_cons, List.map_nil]); first | done | rfl | (simp only [List.length_drop, List.length_take]; rfl)) ?_; (with_reducible refine (order_Needs.calls k _ _ l0 t499 _ ?side1 ?side2 A2.out).mono ?_); (case side1 => repeat (first | exact HR0.out | (with_reducible refine Kd.C_alloc ?_ _) | (with_reducible refine Kd.C_drewN ?_ _) | (with_reducible refine Kd.C_drew ?_))); (case side2 => exact HC0.out); rintro e w4 ⟨v500, rfl, ho0, hb⟩; refine ⟨_, rfl, ?_⟩; have n0_ := Aside0.mk (Kd.R_lower ho0 (below_size (by repeat (first | (with_reducible first | exact HB.out | apply below_alloc | apply pw_below_drewN | apply below_drew1) | exact HB.out)))); have n1_ := Aside0.mk (below_step (by repeat (first | (with_reducible first | exact HB.out | apply below_alloc | apply pw_below_drewN | apply below_drew1) | exact HB.out)) hb); clear HB; have HO501 := n0_; have HB := n1_; clear n0_ n1_; (try clear hb); (try clear hb2); (try clear hk); (try clear hi); (try clear ho0); obtain ⟨Ao5, co5, eo5⟩ := Kd.R_slice HO501.out; subst eo5) | ((with_reducible refine gate_callee (f := 14) rfl ?_); refine goesL_ (some 8) rfl rfl Try.func14 (by kernel_rfl) rfl #[.int .i64 (l0.length : Int), .slice Ao5 t499.length co5] rfl (by (try simp only [List.map_toArray, List.map_cons, List.map_nil]); first | done | rfl | (simp only [List.length_drop, List.length_take]; rfl)) ?_; (with_reducible refine (order_Sort.calls (l0.length : Int) _ _ t499 t502 t503 _ ?side1 ?side2 A3.out).mono ?_); (case side1 => repeat (first | exact (Kd.R_reads' HO501.out).2.2 | (with_reducible refine Kd.C_alloc ?_ _) | (with_reducible refine Kd.C_drewN ?_ _) | (with_reducible refine Kd.C_drew ?_))); (case side2 => exact (Kd.R_reads' HO501.out).2.1); rintro e w6 ⟨v504, rfl, ho0, hb⟩; refine ⟨_, rfl, ?_⟩; have n0_ := Aside0.mk (Kd.R_below (by (with_reducible repeat (first | apply Kd.R_alloc | apply Kd.R_drewN | apply Kd.R_drew)); exact HO501.out) hb); have n1_ := Aside0.mk (Kd.R_lower ho0 (below_size (by repeat (first | (with_reducible first | exact HB.out | apply below_alloc | apply pw_below_drewN | apply below_drew1) | exact HB.out)))); have n2_ := Aside0.mk (below_step (by repeat (first | (with_reducible first | exact HB.out | apply below_alloc | apply pw_below_drewN | apply below_drew1) | exact HB.out)) hb); clear HO501; clear HB; have HO501 := n0_; have HO505 := n1_; have HB := n2_; clear n0_ n1_ n2_; (try clear hb); (try clear hb2); (try clear hk); (try clear hi); (try clear ho0)))
 go_ret2
 exact ⟨_, by first | rfl | (simp [errW_none, errW_some] <;> rfl) | (simp [*, errW_none, errW_some] <;> rfl), by (with_reducible repeat (first | apply Kd.R_alloc | apply Kd.R_drewN | apply Kd.R_drew)); exact HO505.out, by repeat (first | (with_reducible first | exact HB.out | apply below_alloc | apply pw_below_drewN | apply below_drew1) | exact HB.out)⟩
end Go.Proofs.Ythpjpkcfepmhkaa.PAll
namespace Go.Proofs.Ythpjpkcfepmhkaa.PAll
open Go.RowKit Go.Proofs.YthpjpkcfepmhkaaW.PrintWords Go.Proofs.YthpjpkcfepmhkaaW.PrintLast Go.Proofs.YthpjpkcfepmhkaaW.PrintMore
set_option linter.unusedVariables false
set_option linter.unusedSimpArgs false
theorem aa_made {w0 w : World} (N : Nat) (hb : w0.heap.size ≤ w.heap.size) (hn : (N : Int) ≤ 65536) (hB : Below w0.heap.size w0 w) :
    ∃ f, AA ((w.alloc (.cells (madeCells #[.slice none 0 0] N) 24)).alloc (.cells (madeCells #[.slice none 0 0] N) 24)).drew w0.heap.size f N w.heap.size (w.heap.size + 1) (List.replicate N (.slice none 0 0)) (List.replicate N []) (List.replicate N (.slice none 0 0)) (List.replicate N []) := by
  have s1 : (w.alloc (.cells (madeCells #[.slice none 0 0] N) 24)).heap.size = w.heap.size + 1 := by go_simp
  have h2 := Adj.made (w.alloc (.cells (madeCells #[.slice none 0 0] N) 24)) w0.heap.size N (fun _ => 0) N (by omega) (by omega)
  rw [s1] at h2
  exact ⟨fun _ => 0, AA.below ⟨(Adj.made w w0.heap.size N (fun _ => 0) 0 hb (by omega)).below (below_alloc (Below.refl _ _) _), h2, by simp, by simp, by omega⟩ (below_drew (Below.refl _ _))⟩
theorem aa_made' {w0 w : World} (N : Nat) (hb : w0.heap.size ≤ w.heap.size) (hn : (N : Int) ≤ 65536) (hB : Below w0.heap.size w0 w) :
    ∃ f, AA ((w.alloc (.cells (madeCells #[.slice none 0 0] N) 24)).alloc (.cells (madeCells #[.slice none 0 0] N) 24)).drew w0.heap.size f N (w.heap.size + 1) w.heap.size (List.replicate N (.slice none 0 0)) (List.replicate N []) (List.replicate N (.slice none 0 0)) (List.replicate N []) := by
  have s1 : (w.alloc (.cells (madeCells #[.slice none 0 0] N) 24)).heap.size = w.heap.size + 1 := by go_simp
  have h2 := Adj.made (w.alloc (.cells (madeCells #[.slice none 0 0] N) 24)) w0.heap.size N (fun _ => 0) 0 (by omega) (by omega)
  rw [s1] at h2
  exact ⟨fun _ => 0, AA.below ⟨h2, (Adj.made w w0.heap.size N (fun _ => 0) N hb (by omega)).below (below_alloc (Below.refl _ _) _), by simp, by simp, by omega⟩ (below_drew (Below.refl _ _))⟩
theorem du_made {w0 w : World} (N : Nat) (hb : w0.heap.size ≤ w.heap.size) (hn : (N : Int) ≤ 65536) :
    DU ((w.alloc (.cells (madeCells #[.bool false] N) 4)).alloc (.cells (madeCells #[.bool false] N) 4)).drew w0.heap.size N w.heap.size (w.heap.size + 1) (List.replicate N false) (List.replicate N false) ∧ DU ((w.alloc (.cells (madeCells #[.bool false] N) 4)).alloc (.cells (madeCells #[.bool false] N) 4)).drew w0.heap.size N (w.heap.size + 1) w.heap.size (List.replicate N false) (List.replicate N false) := by
  have s1 : (w.alloc (.cells (madeCells #[.bool false] N) 4)).heap.size = w.heap.size + 1 := by go_simp
  have h2 := made4 (w.alloc (.cells (madeCells #[.bool false] N) 4)) w0.heap.size N (by omega) (by omega)
  rw [s1] at h2
  have h1 := Kd.R_alloc (made4 w w0.heap.size N hb (by omega)) (.cells (madeCells #[.bool false] N) 4)
  exact ⟨DU.below ⟨h1, h2, by simp, by simp, by omega⟩ (below_drew (Below.refl _ _)), DU.below ⟨h2, h1, by simp, by simp, by omega⟩ (below_drew (Below.refl _ _))⟩
theorem addBack_len (l : List S68) : ∀ (z : List (List Int)) (b : Nat), ((l.foldl addBack z).getD b []).length ≤ (z.getD b []).length + l.length := by
  induction l with
  | nil => intro z b; simp
  | cons e r ih =>
    intro z b
    rw [List.foldl_cons, List.length_cons]
    refine Nat.le_trans (ih _ b) ?_
    have : ((addBack z e).getD b []).length ≤ (z.getD b []).length + 1 := by
      unfold addBack
      by_cases hb : e.f1.toNat = b
      · subst hb
        by_cases hl : e.f1.toNat < z.length
        · rw [List.getD_eq_getElem?_getD, List.getElem?_set_self hl]
          simp
        · rw [List.getD_eq_getElem?_getD, List.getElem?_eq_none (by rw [List.length_set]; omega)]
          simp
      · rw [List.getD_eq_getElem?_getD, List.getElem?_set_ne hb, ← List.getD_eq_getElem?_getD]
        omega
    omega
theorem rep_len {N b : Nat} : ((List.replicate N ([] : List Int)).getD b []).length = 0 := by
  rw [List.getD_eq_getElem?_getD, List.getElem?_replicate]
  split <;> rfl
/-- The world in Cycle's second loop. -/
structure CW (w0 w : World) (f : Nat → Nat) (N gv gb gd gu : Nat) (vs : List Value) (xss : List (List Int)) (bs : List Value) (bss : List (List Int)) (d u : List Bool) : Prop where
  aa : AA w w0.heap.size f N gv gb vs xss bs bss
  du : DU w w0.heap.size N gd gu d u
  B : Below w0.heap.size w0 w
theorem CW.below {w0 w w1 : World} {f : Nat → Nat} {N gv gb gd gu : Nat} {vs bs : List Value} {xss bss : List (List Int)} {d u : List Bool} (h : CW w0 w f N gv gb gd gu vs xss bs bss d u) (hb : Below w.heap.size w w1) : CW w0 w1 f N gv gb gd gu vs xss bs bss d u :=
  ⟨h.aa.below hb, h.du.below hb, below_then h.B (below_size h.B) hb⟩
theorem CW.set {w0 w : World} {f : Nat → Nat} {N gv gb gd gu : Nat} {vs bs : List Value} {xss bss : List (List Int)} {d u r b : List Bool} {gr gc : Nat} (h : CW w0 w f N gv gb gd gu vs xss bs bss d u) (hgd : w0.heap.size ≤ gd) (hgu : w0.heap.size ≤ gu)
    (hr : KB.R 4 w w0.heap.size (fun _ => True) (.slice (some ⟨gr, 0, none⟩) N N) r) (hb : KB.R 4 w w0.heap.size (fun _ => True) (.slice (some ⟨gc, 0, none⟩) N N) b) (h1 : gr ≠ gd) (h2 : gr ≠ gu) (h3 : gc ≠ gd) (h4 : gc ≠ gu) (i : Nat) (x y : Bool) :
    (CW w0 ((w.setCell ⟨gd, i, none⟩ (.bool x)).setCell ⟨gu, i, none⟩ (.bool y)) f N gv gb gd gu vs xss bs bss (d.set i x) (u.set i y) ∧ KB.R 4 ((w.setCell ⟨gd, i, none⟩ (.bool x)).setCell ⟨gu, i, none⟩ (.bool y)) w0.heap.size (fun _ => True) (.slice (some ⟨gr, 0, none⟩) N N) r ∧ KB.R 4 ((w.setCell ⟨gd, i, none⟩ (.bool x)).setCell ⟨gu, i, none⟩ (.bool y)) w0.heap.size (fun _ => True) (.slice (some ⟨gc, 0, none⟩) N N) b) ∧
    (CW w0 ((w.setCell ⟨gu, i, none⟩ (.bool y)).setCell ⟨gd, i, none⟩ (.bool x)) f N gv gb gd gu vs xss bs bss (d.set i x) (u.set i y) ∧ KB.R 4 ((w.setCell ⟨gu, i, none⟩ (.bool y)).setCell ⟨gd, i, none⟩ (.bool x)) w0.heap.size (fun _ => True) (.slice (some ⟨gr, 0, none⟩) N N) r ∧ KB.R 4 ((w.setCell ⟨gu, i, none⟩ (.bool y)).setCell ⟨gd, i, none⟩ (.bool x)) w0.heap.size (fun _ => True) (.slice (some ⟨gc, 0, none⟩) N N) b) := by
  obtain ⟨cd, hcd⟩ := Kd.R_typed h.du.rd gd (by simp [Value.ownBlock])
  obtain ⟨cu, hcu⟩ := Kd.R_typed h.du.ru gu (by simp [Value.ownBlock])
  constructor
  · obtain ⟨a1, a2⟩ := h.du.setD i x
    obtain ⟨b1, b2⟩ := a1.setU i y
    obtain ⟨cu', hcu'⟩ := Kd.R_typed a1.ru gu (by simp [Value.ownBlock])
    exact ⟨⟨(h.aa.grown4 a2 hcd).grown4 b2 hcu', b1, (h.B.setCell hgd _).setCell hgu _⟩, bkeep (bkeep hr a2 h1) b2 h2, bkeep (bkeep hb a2 h3) b2 h4⟩
  · obtain ⟨a1, a2⟩ := h.du.setU i y
    obtain ⟨b1, b2⟩ := a1.setD i x
    obtain ⟨cd', hcd'⟩ := Kd.R_typed a1.rd gd (by simp [Value.ownBlock])
    exact ⟨⟨(h.aa.grown4 a2 hcu).grown4 b2 hcd', b1, (h.B.setCell hgu _).setCell hgd _⟩, bkeep (bkeep hr a2 h2) b2 h1, bkeep (bkeep hb a2 h4) b2 h3⟩
theorem DU.grown3 {w w1 : World} {base N gd gu : Nat} {d u : List Bool} {v : Value} {xs : List Int} (h : DU w base N gd gu d u) (hg : w.grownBy w1 v.ownBlock) (hR : KI.R 3 w base (fun _ => True) v xs) : DU w1 base N gd gu d u := by
  have key : ∀ {g : Nat} {r : List Bool}, KB.R 4 w base (fun _ => True) (.slice (some ⟨g, 0, none⟩) N N) r → KB.R 4 w1 base (fun _ => True) (.slice (some ⟨g, 0, none⟩) N N) r := by
    intro g r hr
    refine rs_grown rfl hr hg (fun k hk e => ?_)
    obtain ⟨c1, h1⟩ := Kd.R_typed hr k hk
    obtain ⟨c2, h2⟩ := Kd.R_typed hR k e.symm
    rw [h1] at h2
    injection h2 with h2
    injection h2 with _ h2
    exact absurd h2 (by decide)
  exact ⟨key h.rd, key h.ru, h.nd, h.nu, h.ne⟩
def CycleEnd (w : World) (r : List Int) (e : Ending) (w' : World) : Prop := ∃ v0_ : Value, e = .returned v0_ ∧ Kd.R (Kd.int .i64) 3 w' w.heap.size (fun _ => True) v0_ r ∧ Below w.heap.size w w'
set_option maxRecDepth 10000 in
set_option maxHeartbeats 8000000 in
theorem order_Cycle.calls0 (n : Int) (A1 : Option Addr) (c1 : Nat) (l1 : List S68) (r : List Int) (w : World) (hr1 : Kd.C k68 w A1 l1.length l1) (hc1 : l1.length ≤ c1) (h : order_Cycle.f n l1 = some r) :
    Calls Try.prog 18 #[.int .i64 n, .slice A1 l1.length c1] w fun e w' => CycleEnd w r e w' := by
  have hd : l1.length ≤ 1099511627776 ∧ validS n l1 = true := by
    unfold order_Cycle.f at h
    split at h
    · assumption
    · cases h
  obtain ⟨hl, hv⟩ := hd
  have hn : 0 ≤ n ∧ n ≤ 65536 := by
    have hv := hv
    unfold validS at hv
    simp only [Bool.and_eq_true, decide_eq_true_eq] at hv
    exact ⟨hv.1.2, hv.2⟩
  obtain ⟨hn0, hn1⟩ := hn
  obtain ⟨N, rfl⟩ := Int.eq_ofNat_of_zero_le hn0
  unfold order_Cycle.f at h
  rw [if_pos ⟨hl, hv⟩, Int.toNat_natCast, Option.bind_eq_some_iff] at h
  obtain ⟨⟨dN, uN⟩, hmk, hres⟩ := h
  have HMK := Lib.hid hmk
  have HRES := Lib.hid (Option.some.inj hres)
  have HV := Lib.hid hv
  have HR1 := Lib.hid hr1
  have hm1 := print_make_of (P := Try.prog) 70 24 (.slice none 0 0) 24 Try.underlying70 info24 rfl (by decide) N (by omega)
  have hm2 := print_make_of (P := Try.prog) 36 4 (.bool false) 1 Try.underlying36 info4 rfl (by decide) N (by omega)
  have HM2 := Lib.hid hm2
  clear hr1 hv hmk hres hm2
  go_enter Try.func18, Try.ntmps18
  go_wp2
  go_cut [5, 6] (fun v5 v6 wx => ∃ (gv gb : Nat) (f : Nat → Nat), v5 = .slice (some ⟨gv, 0, none⟩) N N ∧ v6 = .slice (some ⟨gb, 0, none⟩) N N ∧ w.heap.size ≤ gv ∧ w.heap.size ≤ gb ∧ Aside0 (AA wx w.heap.size f N gv gb (List.replicate N (.slice none 0 0)) (List.replicate N []) (List.replicate N (.slice none 0 0)) (List.replicate N [])) ∧ Aside0 (Below w.heap.size w wx))
  case first =>
    go_region
    all_goals (go_wp2; go_meet)
    · obtain ⟨f, hf⟩ := aa_made N (Nat.le_refl _) hn1 (Below.refl w.heap.size w)
      exact ⟨_, _, f, rfl, rfl, by omega, by omega, ⟨hf⟩, ⟨below_drew (below_alloc (below_alloc (Below.refl _ _) _) _)⟩⟩
    · obtain ⟨f, hf⟩ := aa_made' N (Nat.le_refl _) hn1 (Below.refl w.heap.size w)
      exact ⟨_, _, f, rfl, rfl, by omega, by omega, ⟨hf⟩, ⟨below_drew (below_alloc (below_alloc (Below.refl _ _) _) _)⟩⟩
  case rest =>
    obtain ⟨gv, gb, f0, rfl, rfl, hgv, hgb, HA, HB⟩ := hcut
    clear hm1
    go_wp2
    go_loopg [23] l1.length (fun kq v23 w' => ∃ (k : Nat) (f : Nat → Nat) (vs bs : List Value), v23 = .int .i64 k ∧ Aside0 (kq + k = l1.length) ∧ Aside0 (AA w' w.heap.size f N gv gb vs ((l1.take k).foldl addEdge (List.replicate N [])) bs ((l1.take k).foldl addBack (List.replicate N [])) ∧ Below w.heap.size w w'))
    case atStart => exact ⟨0, f0, _, _, rfl, ⟨by omega⟩, ⟨HA.out, HB.out⟩⟩
    case round =>
      clear HA HB
      obtain ⟨k, f, vs, bs, rfl, HA, HW⟩ := hrel
      cases gk with
      | zero =>
        have hk : l1.length ≤ k := by have := HA.out; omega
        have hxs : (l1.take k).foldl addEdge (List.replicate N []) = afterOf N l1 ∧ (l1.take k).foldl addBack (List.replicate N []) = beforeOf N l1 := by
          rw [List.take_of_length_le hk]; exact ⟨rfl, rfl⟩
        rw [hxs.1, hxs.2] at HW
        clear hxs HA
        generalize afterOf N l1 = xss at *
        generalize beforeOf N l1 = bss at *
        have hkf : decide (k < l1.length) = false := decide_eq_false (by omega)
        clear hk
        have hm2 := HM2.out
        have hbsz := below_size HW.out.2
        go_wp2
        go_cut [9, 10] (fun v9 v10 wx => ∃ (gd gu : Nat), v9 = .slice (some ⟨gd, 0, none⟩) N N ∧ v10 = .slice (some ⟨gu, 0, none⟩) N N ∧ w.heap.size ≤ gd ∧ w.heap.size ≤ gu ∧ Aside0 (CW w wx f N gv gb gd gu vs xss bs bss (List.replicate N false) (List.replicate N false)))
        case first =>
          go_region
          all_goals (go_wp2; go_meet)
          · exact ⟨_, _, rfl, rfl, by omega, by omega, ⟨HW.out.1.below (below_drew (below_alloc (below_alloc (Below.refl _ _) _) _)), (du_made N hbsz hn1).1, below_drew (below_alloc (below_alloc HW.out.2 _) _)⟩⟩
          · exact ⟨_, _, rfl, rfl, by omega, by omega, ⟨HW.out.1.below (below_drew (below_alloc (below_alloc (Below.refl _ _) _) _)), (du_made N hbsz hn1).2, below_drew (below_alloc (below_alloc HW.out.2 _) _)⟩⟩
        case rest =>
          obtain ⟨gd, gu, rfl, rfl, hgd, hgu, HC⟩ := hcut
          clear HW hm2 HM2 hbsz
          go_wp2
          go_loopg [59] N (fun kq v59 w' => ∃ (k : Nat) (d u : List Bool), v59 = .int .i64 k ∧ Aside0 (kq + k = N ∧ marks xss bss N k = some (d, u)) ∧ Aside0 (CW w w' f N gv gb gd gu vs xss bs bss d u))
          case atStart => exact ⟨0, _, _, rfl, ⟨by omega, rfl⟩, ⟨HC.out⟩⟩
          case round =>
            clear HC
            obtain ⟨k, d, u, rfl, HK, HW⟩ := hrel
            cases gk with
            | zero =>
              have hkN : k = N := by have := HK.out.1; omega
              subst hkN
              have hdu : d = dN ∧ u = uN := by
                have h := HK.out.2.symm.trans HMK.out
                simpa using h
              obtain ⟨rfl, rfl⟩ := hdu
              clear HK HMK
              have HDU := Lib.hid HW.out.du
              have HBW := Lib.hid HW.out.B
              clear HW
              go_wp2
              go_loopg [15, 107] k (fun kq v15 v107 w' => ∃ (i : Nat), v107 = .int .i64 i ∧ Aside0 (kq + i = k) ∧ Aside0 (DU w' w.heap.size k gd gu d u ∧ KI.R 3 w' w.heap.size (fun _ => True) v15 (between d u i) ∧ Below w.heap.size w w'))
              case atStart => exact ⟨0, rfl, ⟨by omega⟩, ⟨HDU.out, Kd.R_nil _ _ _ _ _, HBW.out⟩⟩
              case round =>
                clear HDU HBW
                obtain ⟨i, rfl, HI, HS⟩ := hrel
                cases gk with
                | zero =>
                  have hik : i = k := by have := HI.out; omega
                  subst hik
                  have hbt := HRES.out
                  clear HI
                  go_wp2
                  go_ret
                  exact ⟨_, rfl, by rw [← hbt]; exact HS.out.2.1, HS.out.2.2⟩
                | succ iq =>
                  have hik : i < k := by have := HI.out; omega
                  obtain ⟨hd1, hd2, hd3⟩ := bcell HS.out.1.rd HS.out.1.nd i hik
                  obtain ⟨hu1, hu2, hu3⟩ := bcell HS.out.1.ru HS.out.1.nu i hik
                  have HBS := Lib.hid (between_succ d u i)
                  have hbl := between_length d u i
                  clear hd2 hu2
                  generalize d.getD i false = x at *
                  generalize u.getD i false = y at *
                  generalize between d u i = out at *
                  cases x with
                  | false =>
                    go_wp2
                    go_roundg iq
                    case measure => omega
                    case rel => exact ⟨i + 1, by go_num, ⟨by have := HI.out; omega⟩, ⟨HS.out.1, by rw [HBS.out]; exact HS.out.2.1, HS.out.2.2⟩⟩
                  | true =>
                    cases y with
                    | false =>
                      go_wp2
                      go_roundg iq
                      case measure => omega
                      case rel => exact ⟨i + 1, by go_num, ⟨by have := HI.out; omega⟩, ⟨HS.out.1, by rw [HBS.out]; exact HS.out.2.1, HS.out.2.2⟩⟩
                    | true =>
                      go_wp2_with (first | (at_builtin; go_must (refine Kd.R_append KI (w0 := w) w.heap.size rfl (.tmp 120) (.tmp 122) 24 3 (.int .i64 0) 8 rfl Try.underlying24 R.infoE rfl (by decide) (by decide) u15 out (i : Int) [.int .i64 (i : Int)] (fun _ => True) (fun _ => False) rfl ?aX ?aP (fun _ hk => hk.elim) ?aF ?aO ?aB ?aS ?aL ?_; (case aX => go_simp); (case aP => rfl); (case aF => exact fun _ _ => trivial); (case aO => exact HS.out.2.1); (case aB => exact HS.out.2.2); (case aS => exact below_size HS.out.2.2); (case aL => omega); intro v1 w7 ho hb hg hat; have HS7 := Lib.hid (And.intro (DU.grown3 HS.out.1 hg HS.out.2.1) (And.intro ho hb)); clear ho hb hg hat)))
                      go_roundg iq
                      case measure => omega
                      case rel => exact ⟨i + 1, by go_num, ⟨by have := HI.out; omega⟩, ⟨HS7.out.1, by rw [HBS.out]; exact HS7.out.2.1, HS7.out.2.2⟩⟩
            | succ kq =>
              have hkN : k < N := by have := HK.out.1; omega
              have hsome : (marks xss bss N (k + 1)).isSome = true := marks_le (k + 1) N (by omega) (by rw [HMK.out]; rfl)
              obtain ⟨⟨d1, u1⟩, hmk1⟩ := Option.isSome_iff_exists.1 hsome
              have hm := hmk1
              simp only [marks] at hm
              rw [HK.out.2, Option.bind_some, Option.bind_eq_some_iff] at hm
              obtain ⟨rr, hrr, hm2⟩ := hm
              have HMK1 := Lib.hid hmk1
              have HM2 := Lib.hid hm2
              have HRR := Lib.hid hrr
              clear hsome hmk1 hm2 hrr
              go_wp2_with fail
              refine (reach_calls w.heap.size f 0 N gv vs xss hn1 k rr wr hkN HW.out.aa.a HW.out.aa.na HRR.out).mono ?_
              rintro e w2 ⟨gr, rfl, hgr, hRr, hBr⟩
              have hbs := below_size HW.out.B
              have hgdl := (bcell HW.out.du.rd HW.out.du.nd k hkN).2.2
              have hgul := (bcell HW.out.du.ru HW.out.du.nu k hkN).2.2
              have HW2 := Lib.hid (HW.out.below hBr)
              have HR2 := Lib.hid (Kd.R_lower hRr hbs)
              obtain ⟨hrc, hrz, hrl⟩ := bcell HR2.out (reach_length HRR.out) k hkN
              have hd1 : gr ≠ gd := by omega
              have hd2 : gr ≠ gu := by omega
              have hsz2 := hBr.size
              clear hRr hBr HW hrz
              cases hrk : rr.getD k false with
              | false =>
                rw [hrk] at hrc
                have hmm : marks xss bss N (k + 1) = some (d, u) := by
                  have h := HM2.out
                  rw [hrk] at h
                  rw [HMK1.out, ← h]
                  rfl
                have HMM := Lib.hid hmm
                clear hrk hmm
                go_wp2
                go_roundg kq
                case measure => omega
                case rel => exact ⟨k + 1, d, u, by go_num, ⟨by have := HK.out.1; omega, HMM.out⟩, ⟨HW2.out⟩⟩
              | true =>
                rw [hrk] at hrc
                have hmm : ∃ bb, reach bss N k = some bb ∧ marks xss bss N (k + 1) = some (orTo rr N d, orTo bb N u) := by
                  have h := HM2.out
                  rw [hrk, if_pos rfl, Option.bind_eq_some_iff] at h
                  obtain ⟨bb, h1, h2⟩ := h
                  exact ⟨bb, h1, by rw [HMK1.out, ← h2]⟩
                obtain ⟨bb, hbb, hmm⟩ := hmm
                have HMM := Lib.hid hmm
                have HBB := Lib.hid hbb
                clear hrk hmm hbb HM2
                go_wp2_with fail
                refine (reach_calls w.heap.size f N N gb bs bss hn1 k bb w2 hkN HW2.out.aa.b HW2.out.aa.nb HBB.out).mono ?_
                rintro e w3 ⟨gc, rfl, hgc, hRc, hBc⟩
                have HW3 := Lib.hid (And.intro (HW2.out.below hBc) (And.intro (Kd.R_below HR2.out hBc) (Kd.R_lower hRc (below_size HW2.out.B))))
                have hd3 : gc ≠ gd := by omega
                have hd4 : gc ≠ gu := by omega
                clear hRc hBc HW2 HR2 hrc
                go_wp2
                go_loopg [75] N (fun kq v75 w' => ∃ (j : Nat), v75 = .int .i64 j ∧ Aside0 (kq + j = N) ∧ Aside0 (CW w w' f N gv gb gd gu vs xss bs bss (orTo rr j d) (orTo bb j u) ∧ KB.R 4 w' w.heap.size (fun _ => True) (.slice (some ⟨gr, 0, none⟩) N N) rr ∧ KB.R 4 w' w.heap.size (fun _ => True) (.slice (some ⟨gc, 0, none⟩) N N) bb))
                case atStart => exact ⟨0, rfl, ⟨by omega⟩, ⟨HW3.out⟩⟩
                case round =>
                  clear HW3
                  obtain ⟨j, rfl, HJ, HS⟩ := hrel
                  cases gk with
                  | zero =>
                    have hjN : j = N := by have := HJ.out; omega
                    subst hjN
                    clear HJ
                    go_wp2
                    go_roundg kq
                    case measure => omega
                    case rel => exact ⟨k + 1, _, _, by go_num, ⟨by have := HK.out.1; omega, HMM.out⟩, ⟨HS.out.1⟩⟩
                  | succ jq =>
                    have hjN : j < N := by have := HJ.out; omega
                    go_wp2
                    obtain ⟨hc1, hz1, hl1⟩ := bcell HS.out.1.du.rd HS.out.1.du.nd j hjN
                    obtain ⟨hc2, hz2, hl2⟩ := bcell HS.out.1.du.ru HS.out.1.du.nu j hjN
                    obtain ⟨hc3, hz3, hl3⟩ := bcell HS.out.2.1 (reach_length HRR.out) j hjN
                    obtain ⟨hc4, hz4, hl4⟩ := bcell HS.out.2.2 (reach_length HBB.out) j hjN
                    have hdu := HS.out.1.du.ne
                    have HSET := Lib.hid (CW.set HS.out.1 hgd hgu HS.out.2.1 HS.out.2.2 hd1 hd2 hd3 hd4 j ((orTo rr j d).getD j false || rr.getD j false) ((orTo bb j u).getD j false || bb.getD j false))
                    have HOS := Lib.hid (And.intro (orTo_succ rr j d) (orTo_succ bb j u))
                    clear hz3 hz4 HS
                    obtain ⟨dn, hdn⟩ : ∃ dn, orTo rr (j + 1) d = dn := ⟨_, rfl⟩
                    obtain ⟨un, hun⟩ : ∃ un, orTo bb (j + 1) u = un := ⟨_, rfl⟩
                    have HDN := Lib.hid (And.intro hdn hun)
                    rw [hdn, hun] at HOS
                    clear hdn hun
                    generalize orTo rr j d = dj at *
                    generalize orTo bb j u = uj at *
                    rw [← HOS.out.1, ← HOS.out.2] at HSET
                    clear HOS
                    generalize dj.getD j false = x1 at *
                    generalize uj.getD j false = x2 at *
                    generalize rr.getD j false = x3 at *
                    generalize bb.getD j false = x4 at *
                    cases x1 <;> cases x2
                    all_goals
                      go_region
                      go_wp2
                      go_roundg jq
                      case measure => omega
                      case rel => exact ⟨j + 1, by go_num, ⟨by have := HJ.out; omega⟩, ⟨by rw [HDN.out.1, HDN.out.2]; exact ⟨HSET.out.1.1.below (below_drew (Below.refl _ _)), Kd.R_drew HSET.out.1.2.1, Kd.R_drew HSET.out.1.2.2⟩⟩⟩
      | succ kq =>
        have hk : k < l1.length := by have := HA.out; omega
        obtain ⟨ad, rfl, hx0, hx1⟩ := at_T68 HR1.out (k : Int) (Int.natCast_nonneg _) (by omega)
        have hB := HW.out.2
        replace hx0 := (hB.cell (World.block_lt_of_cell? w _ hx0)).trans hx0
        replace hx1 := (hB.cell (World.block_lt_of_cell? w _ hx1)).trans hx1
        simp only [Int.toNat_natCast] at hx0 hx1
        have hxin := edgeIn_iff.1 (valid_at HV.out k hk)
        have HL := Lib.hid (fun b => (show (((l1.take k).foldl addEdge (List.replicate N [])).getD b []).length ≤ k from by
          have h1 := addEdge_len (l1.take k) (List.replicate N []) b
          rw [rep_len, List.length_take] at h1
          omega))
        have HL2 := Lib.hid (fun b => (show (((l1.take k).foldl addBack (List.replicate N [])).getD b []).length ≤ k from by
          have h1 := addBack_len (l1.take k) (List.replicate N []) b
          rw [rep_len, List.length_take] at h1
          omega))
        have HC := Lib.hid (And.intro (take_foldl addEdge (List.replicate N []) l1 k hk) (take_foldl addBack (List.replicate N []) l1 k hk))
        clear hB
        generalize rd_T68 l1 k = x at *
        generalize (l1.take k).foldl addEdge (List.replicate N []) = xss at *
        generalize (l1.take k).foldl addBack (List.replicate N []) = bss at *
        obtain ⟨x0, x1⟩ := x
        obtain ⟨hxa, hxb, hxc, hxd⟩ := hxin
        obtain ⟨b, rfl⟩ := Int.eq_ofNat_of_zero_le hxa
        obtain ⟨d, rfl⟩ := Int.eq_ofNat_of_zero_le hxc
        dsimp only at hxb hxd
        have hbN : b < N := by omega
        have hdN : d < N := by omega
        dsimp only at hx0 hx1
        go_wp2
        have hed := heap_alloc_new wr (.cells #[.int .i64 (b : Int), .int .i64 (d : Int)] 68)
        have haw := HW.out.1.below (below_alloc (Below.refl _ _) (.cells #[.int .i64 (b : Int), .int .i64 (d : Int)] 68))
        have hB3 := below_alloc HW.out.2 (.cells #[.int .i64 (b : Int), .int .i64 (d : Int)] 68)
        clear HW hx0 hx1
        generalize wr.alloc (.cells #[.int .i64 (b : Int), .int .i64 (d : Int)] 68) = w3 at *
        generalize wr.heap.size = ge at *
        have he0 := blk_cell hed 0
        have he1 := blk_cell hed 1
        have hel := blk_lt hed
        simp only [List.getElem?_toArray, List.getElem?_cons_succ, List.getElem?_cons_zero] at he0 he1
        have hs3 := below_size hB3
        have HAW := Lib.hid haw
        have HB3 := Lib.hid hB3
        have HED := Lib.hid hed
        clear haw hB3 hed
        go_cut [] (fun wx => ∃ (f' : Nat → Nat) (vs' : List Value), Aside0 (AA wx w.heap.size f' N gv gb vs' (xss.set b (xss.getD b [] ++ [(d : Int)])) bs bss ∧ Below w.heap.size w wx ∧ wx.heap[ge]? = some (.cells #[.int .i64 (b : Int), .int .i64 (d : Int)] 68 (0, 0))))
        case first =>
          have haw := HAW.out
          obtain ⟨hgc, hgz, hgl⟩ := haw.a.cell_ haw.na b hbN
          have HU := Lib.hid (haw.a.at_ b (by rw [haw.na]; exact hbN))
          clear haw
          have hyl := HL.out b
          clear HL HL2
          generalize hu : vs.getD b undef = u at *
          have HUE := Lib.hid hu
          clear hu
          generalize xss.getD b [] = ys at *
          go_region_law (rw [show (w3.alloc (.cells #[.int .i64 (d : Int)] 3)).drew = (w3.drew).alloc (.cells [.int .i64 (d : Int)].toArray 3) from rfl]; refine Kd.R_append_step KI (w0 := w) w.heap.size rfl (.tmp 34) (.tmp 37) 24 3 (.int .i64 0) 8 rfl Try.underlying24 R.infoE rfl (by decide) (by decide) u ys (d : Int) [.int .i64 (d : Int)] (fun _ => True) (fun _ => False) (by go_simp) (by go_simp) rfl (fun _ hk => hk.elim) (fun _ _ => trivial) (by (repeat (first | exact HU.out.1 | apply Kd.R_alloc | apply Kd.R_drewN | apply Kd.R_drew))) (by (repeat (first | exact HB3.out | apply below_drew))) (by (first | exact hs3 | (simp; omega))) (by omega) ?_; intro v1 w4 ho hb hgr hat; obtain ⟨A1, c1, rfl⟩ := Kd.R_slice ho; simp only [List.length_append, List.length_singleton] at ho hat; obtain ⟨hst, hst3, hst4, hst5, hst6⟩ := HAW.out.edgeA hbN HUE.out hgr ho hb hat hgv HED.out; have hee0 := blk_cell hst6 0; have hee1 := blk_cell hst6 1; have heel := blk_lt hst6; simp only [List.getElem?_toArray, List.getElem?_cons_succ, List.getElem?_cons_zero] at hee0 hee1; have HST := Lib.hid hst; clear ho hb hgr hat hst hst6)
          all_goals (go_wp2; go_meet)
          all_goals
            obtain ⟨f1, vs1, h1, h2, h3⟩ := HST.out
            exact ⟨f1, vs1, ⟨h1, h2, h3⟩⟩
        case rest =>
          obtain ⟨f1, vs1, HX⟩ := hcut
          clear HAW HB3 HED hel hs3 he0 he1 HL
          have hed := HX.out.2.2
          have he0 := blk_cell hed 0
          have he1 := blk_cell hed 1
          have hel := blk_lt hed
          simp only [List.getElem?_toArray, List.getElem?_cons_succ, List.getElem?_cons_zero] at he0 he1
          have hs3 := below_size HX.out.2.1
          clear hed
          go_wp2
          have haw := HX.out.1
          obtain ⟨hgc, hgz, hgl⟩ := haw.b.cell_ haw.nb d hdN
          have HU := Lib.hid (haw.b.at_ d (by rw [haw.nb]; exact hdN))
          clear haw
          have hyl := HL2.out d
          clear HL2
          generalize hu : bs.getD d undef = u at *
          have HUE := Lib.hid hu
          clear hu
          generalize hys : bss.getD d [] = ys at *
          have HYS := Lib.hid hys
          clear hys
          go_region_law (rw [show (wc.alloc (.cells #[.int .i64 (b : Int)] 3)).drew = (wc.drew).alloc (.cells [.int .i64 (b : Int)].toArray 3) from rfl]; refine Kd.R_append_step KI (w0 := w) w.heap.size rfl (.tmp 47) (.tmp 50) 24 3 (.int .i64 0) 8 rfl Try.underlying24 R.infoE rfl (by decide) (by decide) u ys (b : Int) [.int .i64 (b : Int)] (fun _ => True) (fun _ => False) (by go_simp) (by go_simp) rfl (fun _ hk => hk.elim) (fun _ _ => trivial) (by (repeat (first | exact HU.out.1 | apply Kd.R_alloc | apply Kd.R_drewN | apply Kd.R_drew))) (by (repeat (first | exact HX.out.2.1 | apply below_drew))) (by (first | exact hs3 | (simp; omega))) (by omega) ?_; intro v1 w4 ho hb hgr hat; obtain ⟨A1, c1, rfl⟩ := Kd.R_slice ho; simp only [List.length_append, List.length_singleton] at ho hat; obtain ⟨hst, hst3, hst4, hst5, hst6⟩ := HX.out.1.edgeB hdN HUE.out hgr ho hb hat hgb HX.out.2.2; have hee0 := blk_cell hst6 0; have hee1 := blk_cell hst6 1; have heel := blk_lt hst6; simp only [List.getElem?_toArray, List.getElem?_cons_succ, List.getElem?_cons_zero] at hee0 hee1; have HST := Lib.hid hst; clear ho hb hgr hat hst hst6)
          all_goals
            go_wp2
            go_roundg kq
            case measure => omega
            case rel =>
              obtain ⟨f2, bs2, h1, h2, h3⟩ := HST.out
              refine ⟨k + 1, f2, vs1, bs2, by go_num, ⟨by have := HA.out; omega⟩, ⟨?_, h2⟩⟩
              rw [HC.out.1, HC.out.2]
              unfold addEdge addBack
              simp only [Int.toNat_natCast]
              rw [HYS.out]
              exact h1
end Go.Proofs.Ythpjpkcfepmhkaa.PAll
namespace Go.Proofs.Ythpjpkcfepmhkaa.PAll
set_option linter.unusedVariables false
open Go.RowKit Go.Proofs.YthpjpkcfepmhkaaW.PrintWords Go.Proofs.YthpjpkcfepmhkaaW.PrintLast Go.Proofs.YthpjpkcfepmhkaaW.PrintMore
theorem order_Cycle.calls (n : Int) (A1 : Option Addr) (c1 : Nat) (l1 : List S68) (r : List Int) (w : World) (hr1 : Kd.C k68 w A1 l1.length l1) (hc1 : l1.length ≤ c1) (h : order_Cycle.f n l1 = some r) :
    Calls Try.prog 18 #[.int .i64 n, .slice A1 l1.length c1] w fun e w' => ∃ v0_ : Value, e = .returned v0_ ∧ Kd.R (Kd.int .i64) 3 w' w.heap.size (fun _ => True) v0_ r ∧ Below w.heap.size w w' :=
  (order_Cycle.calls0 n A1 c1 l1 r w hr1 hc1 h).mono fun e w' h => h
end Go.Proofs.Ythpjpkcfepmhkaa.PAll
