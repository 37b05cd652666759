/- Written by a program of this session (wip/xprint.py) over the kit's print: contracts of the program's functions. -/
import Derived.Test.YtmiahabiabcohaaPAllx0
import Derived.Test.YtmiahabiabcohaaPAllx5
namespace Go.Proofs.Ytmiahabiabcohaa.PAll
open Go.RowKit Go.Proofs.YtmiahabiabcohaaW.PrintWords Go.Proofs.YtmiahabiabcohaaW.PrintLast Go.Proofs.YtmiahabiabcohaaW.PrintMore
attribute [local go_sem] max2_int min2_int max_two min_two max_three min_three max_four min_four   -- for this text's walks alone
set_option linter.unusedVariables false
set_option linter.unusedSimpArgs false

/-! ### arlinkref16_Layout: function 11 -/
mutual
def arlinkref16_Layout.l0 : Nat → List (S40) → List (S40) → Int → Option ((List (S35)) × Int × Int)
  | 0, _, _, _ => none
  | k + 1, x0, x5, x6 => if x6 < (x0.length : Int) then (if 0 ≤ x6 then (if ((rd_T40 x0 x6).f1) = 3 then (arlinkref16_Layout.l1 k x0 x5 x6 ([] : List (S40)) 0) else (arlinkref16_Layout.l0 k x0 x5 (wrap64 (x6 + 1)))) else (none)) else (arlinkref16_Layout.l2 k x5 ([] : List (S35)) 0 1 0)
def arlinkref16_Layout.l1 : Nat → List (S40) → List (S40) → Int → List (S40) → Int → Option ((List (S35)) × Int × Int)
  | 0, _, _, _, _, _ => none
  | k + 1, x0, x5, x6, x7, x8 => if x8 < (x5.length : Int) then (if 0 ≤ x8 then (if 0 ≤ x6 then (if x6 < (x0.length : Int) then ((arlinkref16_before.f ((rd_T40 x5 x8).f0) ((rd_T40 x5 x8).f1) ((rd_T40 x5 x8).f2) ((rd_T40 x5 x8).f3) ((rd_T40 x5 x8).f4) ((rd_T40 x0 x6).f0) ((rd_T40 x0 x6).f1) ((rd_T40 x0 x6).f2) ((rd_T40 x0 x6).f3) ((rd_T40 x0 x6).f4)).bind fun t152 => (if t152 = true then (if x7.length < 2932031007402 then (arlinkref16_Layout.l1 k x0 x5 x6 (x7 ++ [(⟨(rd_T40 x5 x8).f0, (rd_T40 x5 x8).f1, (rd_T40 x5 x8).f2, (rd_T40 x5 x8).f3, (rd_T40 x5 x8).f4⟩ : S40)]) (wrap64 (x8 + 1))) else (none)) else (if x7.length < 2932031007402 then ((some (x7 ++ [(⟨(rd_T40 x0 x6).f0, (rd_T40 x0 x6).f1, (rd_T40 x0 x6).f2, (rd_T40 x0 x6).f3, (rd_T40 x0 x6).f4⟩ : S40)] : List (S40))).bind fun y158 => (if x8 ≤ (x5.length : Int) then ((some (x5.drop (x8 : Int).toNat : List (S40))).bind fun y161 => (if y158.length + y161.length < 2932031007402 then (arlinkref16_Layout.l0 k x0 (y158 ++ y161) (wrap64 (x6 + 1))) else (none))) else (none))) else (none)))) else (none)) else (none)) else (none)) else (if 0 ≤ x6 then (if x6 < (x0.length : Int) then (if x7.length < 2932031007402 then ((some (x7 ++ [(⟨(rd_T40 x0 x6).f0, (rd_T40 x0 x6).f1, (rd_T40 x0 x6).f2, (rd_T40 x0 x6).f3, (rd_T40 x0 x6).f4⟩ : S40)] : List (S40))).bind fun y169 => (if 0 ≤ x8 then (if x8 ≤ (x5.length : Int) then ((some (x5.drop (x8 : Int).toNat : List (S40))).bind fun y172 => (if y169.length + y172.length < 2932031007402 then (arlinkref16_Layout.l0 k x0 (y169 ++ y172) (wrap64 (x6 + 1))) else (none))) else (none)) else (none))) else (none)) else (none)) else (none))
def arlinkref16_Layout.l2 : Nat → List (S40) → List (S35) → Int → Int → Int → Option ((List (S35)) × Int × Int)
  | 0, _, _, _, _, _ => none
  | k + 1, x5, x9, x10, x11, x12 => if x12 < (x5.length : Int) then (if 0 ≤ x12 then (if ((rd_T40 x5 x12).f3) = 0 then (none) else (if (Int.tmod x10 ((rd_T40 x5 x12).f3)) = 0 then (if x9.length < 4398046511104 then (arlinkref16_Layout.l2 k x5 (x9 ++ [(⟨(rd_T40 x5 x12).f0, x10, (rd_T40 x5 x12).f2⟩ : S35)]) (wrap64 (x10 + ((rd_T40 x5 x12).f2))) (mx x11 ((rd_T40 x5 x12).f3)) (wrap64 (x12 + 1))) else (none)) else (if x9.length < 4398046511104 then (arlinkref16_Layout.l2 k x5 (x9 ++ [(⟨(rd_T40 x5 x12).f0, wrap64 ((wrap64 (x10 + ((rd_T40 x5 x12).f3))) - (Int.tmod x10 ((rd_T40 x5 x12).f3))), (rd_T40 x5 x12).f2⟩ : S35)]) (wrap64 ((wrap64 ((wrap64 (x10 + ((rd_T40 x5 x12).f3))) - (Int.tmod x10 ((rd_T40 x5 x12).f3)))) + ((rd_T40 x5 x12).f2))) (mx x11 ((rd_T40 x5 x12).f3)) (wrap64 (x12 + 1))) else (none)))) else (none)) else (some (x9, x10, x11))
end
def arlinkref16_Layout.f (k : Nat) (l0 : List (S40)) : Option ((List (S35)) × Int × Int) := arlinkref16_Layout.l0 k l0 ([] : List (S40)) 0
theorem arlinkref16_Layout.mono_l : ∀ k, (∀ y0 y1 y2, LeO (arlinkref16_Layout.l0 k y0 y1 y2) (arlinkref16_Layout.l0 (k + 1) y0 y1 y2)) ∧ (∀ y0 y1 y2 y3 y4, LeO (arlinkref16_Layout.l1 k y0 y1 y2 y3 y4) (arlinkref16_Layout.l1 (k + 1) y0 y1 y2 y3 y4)) ∧ (∀ y0 y1 y2 y3 y4, LeO (arlinkref16_Layout.l2 k y0 y1 y2 y3 y4) (arlinkref16_Layout.l2 (k + 1) y0 y1 y2 y3 y4))
  | 0 => ⟨fun _ _ _ r h => by simp [arlinkref16_Layout.l0] at h, fun _ _ _ _ _ r h => by simp [arlinkref16_Layout.l1] at h, fun _ _ _ _ _ r h => by simp [arlinkref16_Layout.l2] at h⟩
  | k + 1 => by
    obtain ⟨ih0, ih1, ih2⟩ := arlinkref16_Layout.mono_l k
    refine ⟨?_, ?_, ?_⟩
    · intro y0 y1 y2
      unfold arlinkref16_Layout.l0
      repeat' first
      | (with_reducible exact ih0 _ _ _)
      | (with_reducible exact ih1 _ _ _ _ _)
      | (with_reducible exact ih2 _ _ _ _ _)
      | (with_reducible exact LeO.refl _)
      | (with_reducible exact LeO.none _)
      | (with_reducible refine LeO.ite ?_ ?_)
      | (with_reducible refine LeO.bind ?_ (fun _ => ?_))
      | exact ih0 _ _ _
      | exact ih1 _ _ _ _ _
      | exact ih2 _ _ _ _ _
      | exact LeO.none _
      | refine LeO.ite ?_ ?_
      | refine LeO.bind ?_ (fun _ => ?_)
    · intro y0 y1 y2 y3 y4
      unfold arlinkref16_Layout.l1
      repeat' first
      | (with_reducible exact ih0 _ _ _)
      | (with_reducible exact ih1 _ _ _ _ _)
      | (with_reducible exact ih2 _ _ _ _ _)
      | (with_reducible exact LeO.refl _)
      | (with_reducible exact LeO.none _)
      | (with_reducible refine LeO.ite ?_ ?_)
      | (with_reducible refine LeO.bind ?_ (fun _ => ?_))
      | exact ih0 _ _ _
      | exact ih1 _ _ _ _ _
      | exact ih2 _ _ _ _ _
      | exact LeO.none _
      | refine LeO.ite ?_ ?_
      | refine LeO.bind ?_ (fun _ => ?_)
    · intro y0 y1 y2 y3 y4
      unfold arlinkref16_Layout.l2
      repeat' first
      | (with_reducible exact ih0 _ _ _)
      | (with_reducible exact ih1 _ _ _ _ _)
      | (with_reducible exact ih2 _ _ _ _ _)
      | (with_reducible exact LeO.refl _)
      | (with_reducible exact LeO.none _)
      | (with_reducible refine LeO.ite ?_ ?_)
      | (with_reducible refine LeO.bind ?_ (fun _ => ?_))
      | exact ih0 _ _ _
      | exact ih1 _ _ _ _ _
      | exact ih2 _ _ _ _ _
      | exact LeO.none _
      | refine LeO.ite ?_ ?_
      | refine LeO.bind ?_ (fun _ => ?_)
theorem arlinkref16_Layout.mono : ∀ a0 k, LeO (arlinkref16_Layout.f k a0) (arlinkref16_Layout.f (k + 1) a0) := by
  intro a0 k
  obtain ⟨ih0, ih1, ih2⟩ := arlinkref16_Layout.mono_l k
  unfold arlinkref16_Layout.f
  repeat' first
      | (with_reducible exact ih0 _ _ _)
      | (with_reducible exact ih1 _ _ _ _ _)
      | (with_reducible exact ih2 _ _ _ _ _)
      | (with_reducible exact LeO.refl _)
      | (with_reducible exact LeO.none _)
      | (with_reducible refine LeO.ite ?_ ?_)
      | (with_reducible refine LeO.bind ?_ (fun _ => ?_))
      | exact ih0 _ _ _
      | exact ih1 _ _ _ _ _
      | exact ih2 _ _ _ _ _
      | exact LeO.none _
      | refine LeO.ite ?_ ?_
      | refine LeO.bind ?_ (fun _ => ?_)
def arlinkref16_Layout.T8 : Bool × List (List Nat × List Nat) := (true, [([], []), ([], []), ([1], [1]), ([0, 2], [0, 2]), ([3], [3]), ([4], [4]), ([4], [4]), ([5, 6, 4], [4, 5, 6]), ([7, 4], [4, 7]), ([4], [4]), ([4], [4]), ([9, 10, 4], [4, 9, 10]), ([11, 4], [4, 11]), ([8, 12, 4, 4], [4, 8, 12]), ([4, 13], [4, 13])])
def arlinkref16_Layout.B8 : List Nat := [0, 0, 2, 7, 15, 31, 31, 127, 255, 31, 31, 1567, 3615, 8191, 16383]
theorem arlinkref16_Layout.tab8 : rtab .any (opsOf Try.f11 8) = arlinkref16_Layout.T8 := by kernel_rfl
theorem arlinkref16_Layout.bits8 : waitsOk arlinkref16_Layout.T8.2 arlinkref16_Layout.B8 = true := by kernel_rfl
def arlinkref16_Layout.T21 : Bool × List (List Nat × List Nat) := (true, [([], []), ([], []), ([1], [1]), ([0, 2], [0, 2]), ([], []), ([], []), ([5], [5]), ([4, 6], [4, 6]), ([3, 7], [3, 7]), ([8, 0, 1, 2, 3, 4, 5, 6, 7, 8], [0, 4, 8])])
def arlinkref16_Layout.B21 : List Nat := [0, 0, 2, 7, 0, 0, 32, 112, 255, 511]
theorem arlinkref16_Layout.tab21 : rtab .any (opsOf Try.f11 21) = arlinkref16_Layout.T21 := by kernel_rfl
theorem arlinkref16_Layout.bits21 : waitsOk arlinkref16_Layout.T21.2 arlinkref16_Layout.B21 = true := by kernel_rfl
set_option maxHeartbeats 8000000 in
set_option maxRecDepth 100000 in
theorem arlinkref16_Layout.calls (k : Nat) (A0 : Option Addr) (c0 : Nat) (l0 : List (S40)) (r1 : List (S35)) (r2 : Int) (r3 : Int) (w : World) (hr0 : Kd.C k40 w A0 l0.length l0) (hc0 : l0.length ≤ c0) (h : arlinkref16_Layout.f k l0 = some (r1, r2, r3)) :
    Calls Try.prog 11 #[.slice A0 l0.length c0] w fun e w' => ∃ v0_ : Value, e = .returned (.tuple #[v0_, .int .i64 r2, .int .i64 r3]) ∧ Kd.R k35 35 w' w.heap.size (fun _ => True) v0_ r1 ∧ Below w.heap.size w w' := by
  have hu40 := Try.underlying40
  have hu35 := Try.underlying35
  have HR0 := Aside0.mk hr0
  have HC0 := Aside0.mk hc0
  clear hr0 hc0
  have HB := Aside0.mk (Below.refl w.heap.size w)
  have H : (arlinkref16_Layout.l0 k l0 ([] : List (S40)) 0) = some (r1, r2, r3) := h
  clear h
  have H' := Aside0.mk H
  clear H
  go_enter Try.func11, Try.ntmps11
  go_wp2
  go_loopg [5, 6] k (fun kq v5 v6 w' => ∃ (x5_1 : List (S40)) (x6_1 : Int), v6 = .int .i64 x6_1 ∧ Aside0 (arlinkref16_Layout.l0 kq l0 x5_1 x6_1 = some (r1, r2, r3)) ∧ Aside0 (kq ≤ k) ∧ Aside0 (Kd.R k40 40 w' w.heap.size (fun _ => True) v5 x5_1) ∧ Aside0 (Below w.heap.size w w'))
  case atStart => exact ⟨(([] : List (S40))), (0), (by first | rfl | (simp; done) | (simp [*]; done)), H', ⟨Nat.le_refl _⟩, ⟨by first | exact Kd.R_nil _ _ _ _ _ | exact Kd.N_nil _ _ _ _ _ | exact Kd.V_nil _ _ _ _ _ | exact Kd.Q_nil _ _ _ _ _ | exact Kd.S_nil _ _ _ _ _⟩, ⟨by repeat (first | (with_reducible first | exact HB.out | apply below_alloc | apply pw_below_drewN | apply below_drew1) | exact HB.out)⟩⟩
  case round =>
    clear H'
    try clear c1
    obtain ⟨x5_1, x6_1, rfl, HA, HK1, HO_5, HB⟩ := hrel
    cases gk with
    | zero => exact absurd HA.out (by simp [arlinkref16_Layout.l0])
    | succ k1 =>
      have H := HA.out
      clear HA
      simp only [arlinkref16_Layout.l0] at H
      by_cases c2 : x6_1 < (l0.length : Int)
      · rw [if_pos c2] at H
        have c2b0 : decide (x6_1 < (l0.length : Int)) = true := decide_eq_true c2
        clear c2
        by_cases c3 : 0 ≤ x6_1
        · rw [if_pos c3] at H
          have c3b0 : decide (0 ≤ x6_1) = true := decide_eq_true c3
          clear c3
          by_cases c4 : ((rd_T40 l0 x6_1).f1) = 3
          · rw [if_pos c4] at H
            have c4b0 : (((rd_T40 l0 x6_1).f1) == 3) = true := beq_iff_eq.mpr c4
            have c4b1 : (((rd_T40 l0 x6_1).f1) != 3) = false := bne_eq_false_iff_eq.mpr c4
            clear c4
            have H' := Aside0.mk H
            clear H
            have p149 : 0 ≤ (x6_1 : Int) := of_decide_eq_true (by first | (with_reducible assumption) | assumption)
            have q149 : x6_1 < (l0.length : Int) := of_decide_eq_true (by first | (with_reducible assumption) | assumption)
            obtain ⟨ad149, e149, hx149_0, hx149_1, hx149_2, hx149_3, hx149_4⟩ := at_T40 HR0.out x6_1 p149 q149
            cases e149
            replace hx149_0 := (HB.out.cell (World.block_lt_of_cell? w _ hx149_0)).trans hx149_0
            replace hx149_1 := (HB.out.cell (World.block_lt_of_cell? w _ hx149_1)).trans hx149_1
            replace hx149_2 := (HB.out.cell (World.block_lt_of_cell? w _ hx149_2)).trans hx149_2
            replace hx149_3 := (HB.out.cell (World.block_lt_of_cell? w _ hx149_3)).trans hx149_3
            replace hx149_4 := (HB.out.cell (World.block_lt_of_cell? w _ hx149_4)).trans hx149_4
            replace p149 := eq_true p149
            replace q149 := eq_true q149
            go_wp2
            go_loopg [7, 8] k1 (fun kq v7 v8 w' => ∃ (x7_2 : List (S40)) (x8_2 : Int), v8 = .int .i64 x8_2 ∧ Aside0 (arlinkref16_Layout.l1 kq l0 x5_1 x6_1 x7_2 x8_2 = some (r1, r2, r3)) ∧ Aside0 (kq ≤ k1) ∧ Aside0 (Kd.R k40 40 w' w.heap.size (fun k_ => some k_ ≠ (v7 : Value).ownBlock) u5 x5_1) ∧ Aside0 (Kd.R k40 40 w' w.heap.size (fun k_ => some k_ ≠ (u5 : Value).ownBlock) v7 x7_2) ∧ Aside0 (Below w.heap.size w w'))
            case atStart => exact ⟨(([] : List (S40))), (0), (by first | rfl | (simp; done) | (simp [*]; done)), H', ⟨Nat.le_refl _⟩, ⟨by (with_reducible repeat (first | apply Kd.R_alloc | apply Kd.R_drewN | apply Kd.R_drew)); exact Kd.R_mono HO_5.out (fun _ hk => (by simp [Value.ownBlock]))⟩, ⟨by first | exact Kd.R_nil _ _ _ _ _ | exact Kd.N_nil _ _ _ _ _ | exact Kd.V_nil _ _ _ _ _ | exact Kd.Q_nil _ _ _ _ _ | exact Kd.S_nil _ _ _ _ _⟩, ⟨by repeat (first | (with_reducible first | exact HB.out | apply below_alloc | apply pw_below_drewN | apply below_drew1) | exact HB.out)⟩⟩
            case round =>
              clear H'
              try clear c1
              try clear p1
              try clear q1
              try clear hx1
              try clear c2
              try clear c2b0
              try clear p2
              try clear c3
              try clear c3b0
              try clear c4
              try clear c4b0
              try clear c4b1
              try clear hx149_0
              try clear hx149_1
              try clear hx149_2
              try clear hx149_3
              try clear hx149_4
              try clear p149
              try clear q149
              obtain ⟨x7_2, x8_2, rfl, HA, HK2, HO_5, HO_7, HB⟩ := hrel
              cases gk with
              | zero => exact absurd HA.out (by simp [arlinkref16_Layout.l1])
              | succ k2 =>
                have H := HA.out
                clear HA
                simp only [arlinkref16_Layout.l1] at H
                by_cases c5 : x8_2 < (x5_1.length : Int)
                · rw [if_pos c5] at H
                  have c5b0 : decide (x8_2 < (x5_1.length : Int)) = true := decide_eq_true c5
                  clear c5
                  by_cases c6 : 0 ≤ x8_2
                  · rw [if_pos c6] at H
                    have c6b0 : decide (0 ≤ x8_2) = true := decide_eq_true c6
                    clear c6
                    by_cases c7 : 0 ≤ x6_1
                    · rw [if_pos c7] at H
                      have c7b0 : decide (0 ≤ x6_1) = true := decide_eq_true c7
                      clear c7
                      by_cases c8 : x6_1 < (l0.length : Int)
                      · rw [if_pos c8] at H
                        have c8b0 : decide (x6_1 < (l0.length : Int)) = true := decide_eq_true c8
                        clear c8
                        replace H := Option.bind_eq_some_iff.mp H
                        obtain ⟨t152, A90, H⟩ := H
                        replace H : (if t152 = true then (if x7_2.length < 2932031007402 then (arlinkref16_Layout.l1 k2 l0 x5_1 x6_1 (x7_2 ++ [(⟨(rd_T40 x5_1 x8_2).f0, (rd_T40 x5_1 x8_2).f1, (rd_T40 x5_1 x8_2).f2, (rd_T40 x5_1 x8_2).f3, (rd_T40 x5_1 x8_2).f4⟩ : S40)]) (wrap64 (x8_2 + 1))) else (none)) else (if x7_2.length < 2932031007402 then ((some (x7_2 ++ [(⟨(rd_T40 l0 x6_1).f0, (rd_T40 l0 x6_1).f1, (rd_T40 l0 x6_1).f2, (rd_T40 l0 x6_1).f3, (rd_T40 l0 x6_1).f4⟩ : S40)] : List (S40))).bind fun y158 => (if x8_2 ≤ (x5_1.length : Int) then ((some (x5_1.drop (x8_2 : Int).toNat : List (S40))).bind fun y161 => (if y158.length + y161.length < 2932031007402 then (arlinkref16_Layout.l0 k2 l0 (y158 ++ y161) (wrap64 (x6_1 + 1))) else (none))) else (none))) else (none))) = some (r1, r2, r3) := H
                        have A9 := Aside0.mk A90
                        clear A90
                        by_cases c10 : t152 = true
                        · subst c10
                          have H1 : (if x7_2.length < 2932031007402 then (arlinkref16_Layout.l1 k2 l0 x5_1 x6_1 (x7_2 ++ [(⟨(rd_T40 x5_1 x8_2).f0, (rd_T40 x5_1 x8_2).f1, (rd_T40 x5_1 x8_2).f2, (rd_T40 x5_1 x8_2).f3, (rd_T40 x5_1 x8_2).f4⟩ : S40)]) (wrap64 (x8_2 + 1))) else (none)) = some (r1, r2, r3) := by rw [if_pos rfl] at H; exact H
                          clear H
                          have H := H1
                          clear H1
                          by_cases c11 : x7_2.length < 2932031007402
                          · rw [if_pos c11] at H
                            have LMc11 := Aside0.mk c11
                            clear c11
                            obtain ⟨y154, hy154⟩ : ∃ y_ : List (S40), y_ = (x7_2 ++ [(⟨(rd_T40 x5_1 x8_2).f0, (rd_T40 x5_1 x8_2).f1, (rd_T40 x5_1 x8_2).f2, (rd_T40 x5_1 x8_2).f3, (rd_T40 x5_1 x8_2).f4⟩ : S40)]) := ⟨_, rfl⟩
                            replace H : (arlinkref16_Layout.l1 k2 l0 x5_1 x6_1 y154 (wrap64 (x8_2 + 1))) = some (r1, r2, r3) := by first | (rw [hy154]; with_reducible exact H) | (have H2_ := (Option.bind_some _ _).symm.trans H; rw [hy154]; with_reducible exact H2_) | (have H2_ := (Option.bind_some _ _).symm.trans H; with_reducible exact H2_) | with_reducible exact H | (rw [hy154]; exact H) | exact H
                            have Ny154 := Aside0.mk hy154
                            clear hy154
                            have H' := Aside0.mk H
                            clear H
                            try go_wp2
                            have n0_ := Aside0.mk (Kd.R_drew HO_5.out)
                            have n1_ := Aside0.mk (Kd.R_drew HO_7.out)
                            have n2_ := Aside0.mk (below_drew1 HB.out)
                            clear HO_5
                            clear HO_7
                            clear HB
                            have HO_5 := n0_
                            have HO_7 := n1_
                            have HB := n2_
                            clear n0_ n1_ n2_
                            obtain ⟨Ao13, co13, eo13⟩ := Kd.R_slice HO_5.out
                            (first | subst eo13 | (injection eo13 with f1_ f2_ f3_; have f4_ := f1_.symm; have f5_ := f3_.symm; clear f1_ f2_ f3_; subst f4_; subst f5_))
                            have p150 : 0 ≤ (x8_2 : Int) := of_decide_eq_true (by first | (with_reducible assumption) | assumption)
                            have q150 : x8_2 < (x5_1.length : Int) := of_decide_eq_true (by first | (with_reducible assumption) | assumption)
                            obtain ⟨ad150, e150, hx150_0, hx150_1, hx150_2, hx150_3, hx150_4⟩ := at_T40 (Kd.R_reads' HO_5.out).2.2 x8_2 p150 q150
                            cases e150
                            replace p150 := eq_true p150
                            replace q150 := eq_true q150
                            have p151 : 0 ≤ (x6_1 : Int) := of_decide_eq_true (by first | (with_reducible assumption) | assumption)
                            have q151 : x6_1 < (l0.length : Int) := of_decide_eq_true (by first | (with_reducible assumption) | assumption)
                            obtain ⟨ad151, e151, hx151_0, hx151_1, hx151_2, hx151_3, hx151_4⟩ := at_T40 HR0.out x6_1 p151 q151
                            have hw151_4 := hx151_4
                            have hw151_3 := hx151_3
                            have hw151_2 := hx151_2
                            have hw151_1 := hx151_1
                            have hw151_0 := hx151_0
                            obtain rfl : ad149 = ad151 := (by injection e151)
                            replace hx151_0 := (HB.out.cell (World.block_lt_of_cell? w _ hx151_0)).trans hx151_0
                            replace hx151_1 := (HB.out.cell (World.block_lt_of_cell? w _ hx151_1)).trans hx151_1
                            replace hx151_2 := (HB.out.cell (World.block_lt_of_cell? w _ hx151_2)).trans hx151_2
                            replace hx151_3 := (HB.out.cell (World.block_lt_of_cell? w _ hx151_3)).trans hx151_3
                            replace hx151_4 := (HB.out.cell (World.block_lt_of_cell? w _ hx151_4)).trans hx151_4
                            replace p151 := eq_true p151
                            replace q151 := eq_true q151
                            refine start_ (n := 15) (S := fun w' => w'.cell? (ad150.add ((x8_2).toNat * 5)) = some (.string ((rd_T40 x5_1 x8_2).f0)) ∧ w'.cell? ⟨(ad150.add ((x8_2).toNat * 5)).block, (ad150.add ((x8_2).toNat * 5)).off + 1, none⟩ = some (.int .i64 ((rd_T40 x5_1 x8_2).f1)) ∧ w'.cell? ⟨(ad150.add ((x8_2).toNat * 5)).block, (ad150.add ((x8_2).toNat * 5)).off + 2, none⟩ = some (.int .i64 ((rd_T40 x5_1 x8_2).f2)) ∧ w'.cell? ⟨(ad150.add ((x8_2).toNat * 5)).block, (ad150.add ((x8_2).toNat * 5)).off + 3, none⟩ = some (.int .i64 ((rd_T40 x5_1 x8_2).f3)) ∧ w'.cell? ⟨(ad150.add ((x8_2).toNat * 5)).block, (ad150.add ((x8_2).toNat * 5)).off + 4, none⟩ = some (.int .i64 ((rd_T40 x5_1 x8_2).f4)) ∧ w'.cell? (ad149.add ((x6_1).toNat * 5)) = some (.string ((rd_T40 l0 x6_1).f0)) ∧ w'.cell? ⟨(ad149.add ((x6_1).toNat * 5)).block, (ad149.add ((x6_1).toNat * 5)).off + 1, none⟩ = some (.int .i64 ((rd_T40 l0 x6_1).f1)) ∧ w'.cell? ⟨(ad149.add ((x6_1).toNat * 5)).block, (ad149.add ((x6_1).toNat * 5)).off + 2, none⟩ = some (.int .i64 ((rd_T40 l0 x6_1).f2)) ∧ w'.cell? ⟨(ad149.add ((x6_1).toNat * 5)).block, (ad149.add ((x6_1).toNat * 5)).off + 3, none⟩ = some (.int .i64 ((rd_T40 l0 x6_1).f3)) ∧ w'.cell? ⟨(ad149.add ((x6_1).toNat * 5)).block, (ad149.add ((x6_1).toNat * 5)).off + 4, none⟩ = some (.int .i64 ((rd_T40 l0 x6_1).f4))) (ds := []) #[false, false, false, false, false, false, false, false, false, false, false, false, false, false, false] (by kernel_rfl) rfl rfl ⟨hx150_0, hx150_1, hx150_2, hx150_3, hx150_4, ((HB.out.cell (World.block_lt_of_cell? w _ hw151_0)).trans hw151_0), ((HB.out.cell (World.block_lt_of_cell? w _ hw151_1)).trans hw151_1), ((HB.out.cell (World.block_lt_of_cell? w _ hw151_2)).trans hw151_2), ((HB.out.cell (World.block_lt_of_cell? w _ hw151_3)).trans hw151_3), ((HB.out.cell (World.block_lt_of_cell? w _ hw151_4)).trans hw151_4)⟩ (fun hHeld => ?_); refine with_tabW arlinkref16_Layout.tab8 arlinkref16_Layout.bits8 (fun HT_ HW_ => ?_)
                            generalize wr.drew = w12 at HO_5 HO_7 HB hx150_0 hx150_1 hx150_2 hx150_3 hx150_4 hx151_0 hx151_1 hx151_2 hx151_3 hx151_4 hHeld ⊢
                            refine pure_ (i := 0) (N := some 26) (v := ?_) (a' := ?_) #[true, false, false, false, false, false, false, false, false, false, false, false, false, false, false] rfl rfl (any_of HT_.out (by kernel_rfl)) (fun _ _ _ h => h) (Or.inl ⟨by rfl, ?_⟩) ?_ ?_
                            rotate_left
                            · intro w'
                              go_simp
                              with_reducible rfl
                            rotate_left
                            · simp only [Act.put, List.setIfInBounds_toArray, List.set_cons_zero, List.set_cons_succ, i64_w, i32_w]
                              rfl
                            refine pure_ (i := 1) (N := some 27) (v := ?_) (a' := ?_) #[true, true, false, false, false, false, false, false, false, false, false, false, false, false, false] rfl rfl (any_of HT_.out (by kernel_rfl)) (fun _ _ _ h => h) (Or.inl ⟨by rfl, ?_⟩) ?_ ?_
                            rotate_left
                            · intro w'
                              go_simp
                              with_reducible rfl
                            rotate_left
                            · simp only [Act.put, List.setIfInBounds_toArray, List.set_cons_zero, List.set_cons_succ, i64_w, i32_w]
                              rfl
                            refine pure_ (i := 2) (N := some 28) (v := ?_) (a' := ?_) #[true, true, true, false, false, false, false, false, false, false, false, false, false, false, false] rfl rfl (any_of HT_.out (by kernel_rfl)) (fun _ _ _ h => h) (Or.inl ⟨by rfl, ?_⟩) ?_ ?_
                            rotate_left
                            · intro w'
                              go_simp
                              with_reducible rfl
                            rotate_left
                            · simp only [Act.put, List.setIfInBounds_toArray, List.set_cons_zero, List.set_cons_succ, i64_w, i32_w]
                              rfl
                            refine pure_ (i := 3) (N := some 29) (v := ?_) (a' := ?_) #[true, true, true, true, false, false, false, false, false, false, false, false, false, false, false] rfl rfl (any_of HT_.out (by kernel_rfl)) (fun _ _ _ h => h) (Or.inl ⟨by rfl, ?_⟩) ?_ ?_
                            rotate_left
                            · intro w'
                              go_simp
                              with_reducible rfl
                            rotate_left
                            · simp only [Act.put, List.setIfInBounds_toArray, List.set_cons_zero, List.set_cons_succ, i64_w, i32_w]
                              rfl
                            refine pure_ (i := 4) (N := some 30) (v := ?_) (a' := ?_) #[true, true, true, true, true, false, false, false, false, false, false, false, false, false, false] rfl rfl (any_of HT_.out (by kernel_rfl)) (fun _ _ _ h => h) (Or.inl ⟨by rfl, ?_⟩) ?_ ?_
                            rotate_left
                            · intro w'
                              go_simp
                              with_reducible rfl
                            rotate_left
                            · simp only [Act.put, List.setIfInBounds_toArray, List.set_cons_zero, List.set_cons_succ, i64_w, i32_w]
                              rfl
                            refine pure_ (i := 5) (N := some 31) (v := ?_) (a' := ?_) #[true, true, true, true, true, true, false, false, false, false, false, false, false, false, false] rfl rfl (any_of HT_.out (by kernel_rfl)) (fun _ _ _ h => h) (Or.inl ⟨by rfl, ?_⟩) ?_ ?_
                            rotate_left
                            · intro w'
                              go_simp
                              with_reducible rfl
                            rotate_left
                            · simp only [Act.put, List.setIfInBounds_toArray, List.set_cons_zero, List.set_cons_succ, i64_w, i32_w]
                              rfl
                            refine pure_ (i := 6) (N := some 32) (v := ?_) (a' := ?_) #[true, true, true, true, true, true, true, false, false, false, false, false, false, false, false] rfl rfl (any_of HT_.out (by kernel_rfl)) (fun _ _ _ h => h) (Or.inl ⟨by rfl, ?_⟩) ?_ ?_
                            rotate_left
                            · intro w'
                              go_simp
                              with_reducible rfl
                            rotate_left
                            · simp only [Act.put, List.setIfInBounds_toArray, List.set_cons_zero, List.set_cons_succ, i64_w, i32_w]
                              rfl
                            refine pure_ (i := 7) (N := some 33) (v := ?_) (a' := ?_) #[true, true, true, true, true, true, true, true, false, false, false, false, false, false, false] rfl rfl (any_of HT_.out (by kernel_rfl)) (fun _ _ _ h => h) (Or.inl ⟨by rfl, ?_⟩) ?_ ?_
                            rotate_left
                            · intro w'
                              go_simp
                              with_reducible rfl
                            rotate_left
                            · simp only [Act.put, List.setIfInBounds_toArray, List.set_cons_zero, List.set_cons_succ, i64_w, i32_w]
                              rfl
                            refine pure_ (i := 9) (N := some 35) (v := ?_) (a' := ?_) #[true, true, true, true, true, true, true, true, false, true, false, false, false, false, false] rfl rfl (any_of HT_.out (by kernel_rfl)) (fun _ _ _ h => h) (Or.inl ⟨by rfl, ?_⟩) ?_ ?_
                            rotate_left
                            · intro w'
                              go_simp
                              with_reducible rfl
                            rotate_left
                            · simp only [Act.put, List.setIfInBounds_toArray, List.set_cons_zero, List.set_cons_succ, i64_w, i32_w]
                              rfl
                            refine pure_ (i := 10) (N := some 36) (v := ?_) (a' := ?_) #[true, true, true, true, true, true, true, true, false, true, true, false, false, false, false] rfl rfl (any_of HT_.out (by kernel_rfl)) (fun _ _ _ h => h) (Or.inl ⟨by rfl, ?_⟩) ?_ ?_
                            rotate_left
                            · intro w'
                              go_simp
                              with_reducible rfl
                            rotate_left
                            · simp only [Act.put, List.setIfInBounds_toArray, List.set_cons_zero, List.set_cons_succ, i64_w, i32_w]
                              rfl
                            refine pure_ (i := 11) (N := some 37) (v := ?_) (a' := ?_) #[true, true, true, true, true, true, true, true, false, true, true, true, false, false, false] rfl rfl (any_of HT_.out (by kernel_rfl)) (fun _ _ _ h => h) (Or.inl ⟨by rfl, ?_⟩) ?_ ?_
                            rotate_left
                            · intro w'
                              go_simp
                              with_reducible rfl
                            rotate_left
                            · simp only [Act.put, List.setIfInBounds_toArray, List.set_cons_zero, List.set_cons_succ, i64_w, i32_w]
                              rfl
                            refine take_ (i := 8) (N := some 34) (v := ?_) (a' := ?_) #[true, true, true, true, true, true, true, true, true, true, true, true, false, false, false] rfl rfl (take_ofW HT_.out HW_.out (by kernel_rfl)) (fun _ _ _ h => h) (Or.inl ⟨by rfl, ?_⟩) hHeld ?_ ?_
                            rotate_left
                            · rintro w' ⟨s0, s1, s2, s3, s4, s5, s6, s7, s8, s9⟩
                              go_simp
                              with_reducible rfl
                            rotate_left
                            · simp only [Act.put, List.setIfInBounds_toArray, List.set_cons_zero, List.set_cons_succ, i64_w, i32_w]
                              rfl
                            refine take_ (i := 12) (N := some 38) (v := ?_) (a' := ?_) #[true, true, true, true, true, true, true, true, true, true, true, true, true, false, false] rfl rfl (take_ofW HT_.out HW_.out (by kernel_rfl)) (fun _ _ _ h => h) (Or.inl ⟨by rfl, ?_⟩) hHeld ?_ ?_
                            rotate_left
                            · rintro w' ⟨s0, s1, s2, s3, s4, s5, s6, s7, s8, s9⟩
                              go_simp
                              with_reducible rfl
                            rotate_left
                            · simp only [Act.put, List.setIfInBounds_toArray, List.set_cons_zero, List.set_cons_succ, i64_w, i32_w]
                              rfl
                            refine one_ (i := 13) (N := some 39) #[true, true, true, true, true, true, true, true, true, true, true, true, true, true, false] rfl rfl (one_of HT_.out (by kernel_rfl)) (by decide) (fun K hK => ?_)
                            refine goes_ Try.func20 (by kernel_rfl) rfl #[.agg #[.string ((rd_T40 x5_1 x8_2).f0), .int .i64 ((rd_T40 x5_1 x8_2).f1), .int .i64 ((rd_T40 x5_1 x8_2).f2), .int .i64 ((rd_T40 x5_1 x8_2).f3), .int .i64 ((rd_T40 x5_1 x8_2).f4)], .agg #[.string ((rd_T40 l0 x6_1).f0), .int .i64 ((rd_T40 l0 x6_1).f1), .int .i64 ((rd_T40 l0 x6_1).f2), .int .i64 ((rd_T40 l0 x6_1).f3), .int .i64 ((rd_T40 l0 x6_1).f4)]] (by rfl) rfl rfl (by (try simp only [List.map_toArray, List.map_cons, List.map_nil]); first | done | rfl | (simp only [List.length_drop, List.length_take]; rfl)) ?_
                            with_reducible refine (arlinkref16_before.calls ((rd_T40 x5_1 x8_2).f0) ((rd_T40 x5_1 x8_2).f1) ((rd_T40 x5_1 x8_2).f2) ((rd_T40 x5_1 x8_2).f3) ((rd_T40 x5_1 x8_2).f4) ((rd_T40 l0 x6_1).f0) ((rd_T40 l0 x6_1).f1) ((rd_T40 l0 x6_1).f2) ((rd_T40 l0 x6_1).f3) ((rd_T40 l0 x6_1).f4) true _ A9.out).mono ?_
                            rintro e w14 ⟨rfl, hb⟩
                            have HS0_ := (hb.cell (World.block_lt_of_cell? _ _ (hHeld.1))).trans (hHeld.1)
                            have HS1_ := (hb.cell (World.block_lt_of_cell? _ _ (hHeld.2.1))).trans (hHeld.2.1)
                            have HS2_ := (hb.cell (World.block_lt_of_cell? _ _ (hHeld.2.2.1))).trans (hHeld.2.2.1)
                            have HS3_ := (hb.cell (World.block_lt_of_cell? _ _ (hHeld.2.2.2.1))).trans (hHeld.2.2.2.1)
                            have HS4_ := (hb.cell (World.block_lt_of_cell? _ _ (hHeld.2.2.2.2.1))).trans (hHeld.2.2.2.2.1)
                            refine ⟨_, rfl, ?_⟩
                            have n0_ := Aside0.mk (Kd.R_below (by (with_reducible repeat (first | apply Kd.R_alloc | apply Kd.R_drewN | apply Kd.R_drew)); exact HO_5.out) hb)
                            have n1_ := Aside0.mk (Kd.R_below (by (with_reducible repeat (first | apply Kd.R_alloc | apply Kd.R_drewN | apply Kd.R_drew)); exact HO_7.out) hb)
                            have n2_ := Aside0.mk (below_step (by repeat (first | (with_reducible first | exact HB.out | apply below_alloc | apply pw_below_drewN | apply below_drew1) | exact HB.out)) hb)
                            clear HO_5
                            clear HO_7
                            clear HB
                            have HO_5 := n0_
                            have HO_7 := n1_
                            have HB := n2_
                            clear n0_ n1_ n2_
                            (try clear hb)
                            (try clear hb2)
                            (try clear hk)
                            (try clear hi)
                            refine hK.out _ _ ⟨HS0_, HS1_, HS2_, HS3_, HS4_, ((HB.out.cell (World.block_lt_of_cell? w _ hw151_0)).trans hw151_0), ((HB.out.cell (World.block_lt_of_cell? w _ hw151_1)).trans hw151_1), ((HB.out.cell (World.block_lt_of_cell? w _ hw151_2)).trans hw151_2), ((HB.out.cell (World.block_lt_of_cell? w _ hw151_3)).trans hw151_3), ((HB.out.cell (World.block_lt_of_cell? w _ hw151_4)).trans hw151_4)⟩ (fun hHeld => ?_)
                            clear hK K
                            refine norm_ (a' := ?_) ?_ ?_
                            rotate_left
                            · show Act.put _ (some 39) _ = _
                              simp only [Act.put, List.setIfInBounds_toArray, List.set_cons_zero, List.set_cons_succ, i64_w, i32_w]
                              rfl
                            refine pure_ (i := 14) (N := some 40) (v := ?_) (a' := ?_) #[true, true, true, true, true, true, true, true, true, true, true, true, true, true, true] rfl rfl (any_of HT_.out (by kernel_rfl)) (fun _ _ _ h => h) (Or.inl ⟨by rfl, ?_⟩) ?_ ?_
                            rotate_left
                            · intro w'
                              go_simp
                              with_reducible rfl
                            rotate_left
                            · simp only [Act.put, List.setIfInBounds_toArray, List.set_cons_zero, List.set_cons_succ, i64_w, i32_w]
                              rfl
                            refine done_ (done_of HT_.out (by kernel_rfl)) ?_
                            have p153 : 0 ≤ (x8_2 : Int) := of_decide_eq_true (by first | (with_reducible assumption) | assumption)
                            have q153 : x8_2 < (x5_1.length : Int) := of_decide_eq_true (by first | (with_reducible assumption) | assumption)
                            obtain ⟨ad153, e153, hx153_0, hx153_1, hx153_2, hx153_3, hx153_4⟩ := at_T40 (Kd.R_reads' HO_5.out).2.2 x8_2 p153 q153
                            obtain rfl : ad150 = ad153 := (by injection e153)
                            replace p153 := eq_true p153
                            replace q153 := eq_true q153
                            try go_wp2_with (first | ((with_reducible refine gate_builtin (b := .append) (xs := #[.tmp 41, .tmp 46]) rfl ?_); at_builtin; refine Kd.R_append k40 (w0 := w) w.heap.size rfl (.tmp 41) (.tmp 46) 22 40 (.agg #[(.string ⟨#[]⟩), (.int .i64 0), (.int .i64 0), (.int .i64 0), (.int .i64 0)]) 48 rfl Try.underlying22 info40 rfl (by decide) (by omega) u7 x7_2 (⟨(rd_T40 x5_1 x8_2).f0, (rd_T40 x5_1 x8_2).f1, (rd_T40 x5_1 x8_2).f2, (rd_T40 x5_1 x8_2).f3, (rd_T40 x5_1 x8_2).f4⟩ : S40) [.string ((rd_T40 x5_1 x8_2).f0), .int .i64 ((rd_T40 x5_1 x8_2).f1), .int .i64 ((rd_T40 x5_1 x8_2).f2), .int .i64 ((rd_T40 x5_1 x8_2).f3), .int .i64 ((rd_T40 x5_1 x8_2).f4)] (fun k_ => some k_ ≠ (.slice (some ad150) x5_1.length co13 : Value).ownBlock) (fun _ => False) rfl rfl ?aP (fun _ hk => hk.elim) ?aF ?aO ?aB ?aS ?aL ?_; (case aP => exact k40_mkM _ _ _ (⟨(rd_T40 x5_1 x8_2).f0, (rd_T40 x5_1 x8_2).f1, (rd_T40 x5_1 x8_2).f2, (rd_T40 x5_1 x8_2).f3, (rd_T40 x5_1 x8_2).f4⟩ : S40)); (case aB => exact (by repeat (first | (with_reducible first | exact HB.out | apply below_alloc | apply pw_below_drewN | apply below_drew1) | exact HB.out))); (case aF => exact (fun k_ hk => Kd.fresh' (Kd.R_lt (by (with_reducible repeat (first | apply Kd.R_alloc | apply Kd.R_drewN | apply Kd.R_drew)); exact HO_5.out)) k_ hk)); (case aO => exact (by (with_reducible repeat (first | apply Kd.R_alloc | apply Kd.R_drewN | apply Kd.R_drew)); exact HO_7.out)); (case aS => exact (below_size (by repeat (first | (with_reducible first | exact HB.out | apply below_alloc | apply pw_below_drewN | apply below_drew1) | exact HB.out)))); (case aL => have := LMc11.out; omega); intro v155 w15 ho hb hg hat; rw [← Ny154.out] at ho; have n0_ := Aside0.mk (Kd.R_after (ok := (fun _ => True)) (by (with_reducible repeat (first | apply Kd.R_alloc | apply Kd.R_drewN | apply Kd.R_drew)); exact Kd.R_mono HO_5.out (fun _ hk => ⟨trivial, hk⟩)) hg hat); have n1_ := Aside0.mk (hb); have n2_ := Aside0.mk (ho); clear HO_5; clear HB; clear HO_7; have HO_5 := n0_; have HB := n1_; have HO156 := n2_; clear n0_ n1_ n2_; clear ho hb hg hat))
                            go_roundg k2
                            case measure => have := HK1.out; have := HK2.out; omega
                            case rel => exact ⟨(y154), (wrap64 (x8_2 + 1)), (by first | rfl | (simp; done) | (simp [*]; done)), H', ⟨by have := HK1.out; have := HK2.out; omega⟩, ⟨by (with_reducible repeat (first | apply Kd.R_alloc | apply Kd.R_drewN | apply Kd.R_drew)); exact Kd.R_mono HO_5.out (fun _ hk => hk.2)⟩, ⟨by (with_reducible repeat (first | apply Kd.R_alloc | apply Kd.R_drewN | apply Kd.R_drew)); exact HO156.out⟩, ⟨by repeat (first | (with_reducible first | exact HB.out | apply below_alloc | apply pw_below_drewN | apply below_drew1) | exact HB.out)⟩⟩
                          · rw [if_neg c11] at H
                            exact absurd H (by simp)
                        · replace c10 := Bool.eq_false_iff.mpr c10
                          subst c10
                          have H1 : (if x7_2.length < 2932031007402 then ((some (x7_2 ++ [(⟨(rd_T40 l0 x6_1).f0, (rd_T40 l0 x6_1).f1, (rd_T40 l0 x6_1).f2, (rd_T40 l0 x6_1).f3, (rd_T40 l0 x6_1).f4⟩ : S40)] : List (S40))).bind fun y158 => (if x8_2 ≤ (x5_1.length : Int) then ((some (x5_1.drop (x8_2 : Int).toNat : List (S40))).bind fun y161 => (if y158.length + y161.length < 2932031007402 then (arlinkref16_Layout.l0 k2 l0 (y158 ++ y161) (wrap64 (x6_1 + 1))) else (none))) else (none))) else (none)) = some (r1, r2, r3) := by rw [if_neg (show ¬ (false = true) by decide)] at H; exact H
                          clear H
                          have H := H1
                          clear H1
                          by_cases c16 : x7_2.length < 2932031007402
                          · rw [if_pos c16] at H
                            have LMc16 := Aside0.mk c16
                            clear c16
                            obtain ⟨y158, hy158⟩ : ∃ y_ : List (S40), y_ = (x7_2 ++ [(⟨(rd_T40 l0 x6_1).f0, (rd_T40 l0 x6_1).f1, (rd_T40 l0 x6_1).f2, (rd_T40 l0 x6_1).f3, (rd_T40 l0 x6_1).f4⟩ : S40)]) := ⟨_, rfl⟩
                            replace H : (if x8_2 ≤ (x5_1.length : Int) then ((some (x5_1.drop (x8_2 : Int).toNat : List (S40))).bind fun y161 => (if y158.length + y161.length < 2932031007402 then (arlinkref16_Layout.l0 k2 l0 (y158 ++ y161) (wrap64 (x6_1 + 1))) else (none))) else (none)) = some (r1, r2, r3) := by first | (rw [hy158]; with_reducible exact H) | (have H2_ := (Option.bind_some _ _).symm.trans H; rw [hy158]; with_reducible exact H2_) | (have H2_ := (Option.bind_some _ _).symm.trans H; with_reducible exact H2_) | with_reducible exact H | (rw [hy158]; exact H) | exact H
                            have Ny158 := Aside0.mk hy158
                            clear hy158
                            have c17b0 := eq_true (of_decide_eq_true (by first | (with_reducible assumption) | assumption) : 0 ≤ x8_2)
                            by_cases c18 : x8_2 ≤ (x5_1.length : Int)
                            · rw [if_pos c18] at H
                              have c18b0 := eq_true c18
                              have c18b1 : decide (x8_2 ≤ (x5_1.length : Int)) = true := decide_eq_true c18
                              clear c18
                              obtain ⟨y161, hy161⟩ : ∃ y_ : List (S40), y_ = (x5_1.drop (x8_2 : Int).toNat) := ⟨_, rfl⟩
                              replace H : (if y158.length + y161.length < 2932031007402 then (arlinkref16_Layout.l0 k2 l0 (y158 ++ y161) (wrap64 (x6_1 + 1))) else (none)) = some (r1, r2, r3) := by first | (rw [hy161]; with_reducible exact H) | (have H2_ := (Option.bind_some _ _).symm.trans H; rw [hy161]; with_reducible exact H2_) | (have H2_ := (Option.bind_some _ _).symm.trans H; with_reducible exact H2_) | with_reducible exact H | (rw [hy161]; exact H) | exact H
                              have Ny161 := Aside0.mk hy161
                              clear hy161
                              by_cases c19 : y158.length + y161.length < 2932031007402
                              · rw [if_pos c19] at H
                                have LMc19 := Aside0.mk c19
                                clear c19
                                obtain ⟨y165, hy165⟩ : ∃ y_ : List (S40), y_ = (y158 ++ y161) := ⟨_, rfl⟩
                                replace H : (arlinkref16_Layout.l0 k2 l0 y165 (wrap64 (x6_1 + 1))) = some (r1, r2, r3) := by first | (rw [hy165]; with_reducible exact H) | (have H2_ := (Option.bind_some _ _).symm.trans H; rw [hy165]; with_reducible exact H2_) | (have H2_ := (Option.bind_some _ _).symm.trans H; with_reducible exact H2_) | with_reducible exact H | (rw [hy165]; exact H) | exact H
                                have Ny165 := Aside0.mk hy165
                                clear hy165
                                have H' := Aside0.mk H
                                clear H
                                try go_wp2
                                have n0_ := Aside0.mk (Kd.R_drew HO_5.out)
                                have n1_ := Aside0.mk (Kd.R_drew HO_7.out)
                                have n2_ := Aside0.mk (below_drew1 HB.out)
                                clear HO_5
                                clear HO_7
                                clear HB
                                have HO_5 := n0_
                                have HO_7 := n1_
                                have HB := n2_
                                clear n0_ n1_ n2_
                                obtain ⟨Ao21, co21, eo21⟩ := Kd.R_slice HO_5.out
                                (first | subst eo21 | (injection eo21 with f1_ f2_ f3_; have f4_ := f1_.symm; have f5_ := f3_.symm; clear f1_ f2_ f3_; subst f4_; subst f5_))
                                have p150 : 0 ≤ (x8_2 : Int) := of_decide_eq_true (by first | (with_reducible assumption) | assumption)
                                have q150 : x8_2 < (x5_1.length : Int) := of_decide_eq_true (by first | (with_reducible assumption) | assumption)
                                obtain ⟨ad150, e150, hx150_0, hx150_1, hx150_2, hx150_3, hx150_4⟩ := at_T40 (Kd.R_reads' HO_5.out).2.2 x8_2 p150 q150
                                cases e150
                                replace p150 := eq_true p150
                                replace q150 := eq_true q150
                                have p151 : 0 ≤ (x6_1 : Int) := of_decide_eq_true (by first | (with_reducible assumption) | assumption)
                                have q151 : x6_1 < (l0.length : Int) := of_decide_eq_true (by first | (with_reducible assumption) | assumption)
                                obtain ⟨ad151, e151, hx151_0, hx151_1, hx151_2, hx151_3, hx151_4⟩ := at_T40 HR0.out x6_1 p151 q151
                                have hw151_4 := hx151_4
                                have hw151_3 := hx151_3
                                have hw151_2 := hx151_2
                                have hw151_1 := hx151_1
                                have hw151_0 := hx151_0
                                obtain rfl : ad149 = ad151 := (by injection e151)
                                replace hx151_0 := (HB.out.cell (World.block_lt_of_cell? w _ hx151_0)).trans hx151_0
                                replace hx151_1 := (HB.out.cell (World.block_lt_of_cell? w _ hx151_1)).trans hx151_1
                                replace hx151_2 := (HB.out.cell (World.block_lt_of_cell? w _ hx151_2)).trans hx151_2
                                replace hx151_3 := (HB.out.cell (World.block_lt_of_cell? w _ hx151_3)).trans hx151_3
                                replace hx151_4 := (HB.out.cell (World.block_lt_of_cell? w _ hx151_4)).trans hx151_4
                                replace p151 := eq_true p151
                                replace q151 := eq_true q151
                                refine start_ (n := 15) (S := fun w' => w'.cell? (ad150.add ((x8_2).toNat * 5)) = some (.string ((rd_T40 x5_1 x8_2).f0)) ∧ w'.cell? ⟨(ad150.add ((x8_2).toNat * 5)).block, (ad150.add ((x8_2).toNat * 5)).off + 1, none⟩ = some (.int .i64 ((rd_T40 x5_1 x8_2).f1)) ∧ w'.cell? ⟨(ad150.add ((x8_2).toNat * 5)).block, (ad150.add ((x8_2).toNat * 5)).off + 2, none⟩ = some (.int .i64 ((rd_T40 x5_1 x8_2).f2)) ∧ w'.cell? ⟨(ad150.add ((x8_2).toNat * 5)).block, (ad150.add ((x8_2).toNat * 5)).off + 3, none⟩ = some (.int .i64 ((rd_T40 x5_1 x8_2).f3)) ∧ w'.cell? ⟨(ad150.add ((x8_2).toNat * 5)).block, (ad150.add ((x8_2).toNat * 5)).off + 4, none⟩ = some (.int .i64 ((rd_T40 x5_1 x8_2).f4)) ∧ w'.cell? (ad149.add ((x6_1).toNat * 5)) = some (.string ((rd_T40 l0 x6_1).f0)) ∧ w'.cell? ⟨(ad149.add ((x6_1).toNat * 5)).block, (ad149.add ((x6_1).toNat * 5)).off + 1, none⟩ = some (.int .i64 ((rd_T40 l0 x6_1).f1)) ∧ w'.cell? ⟨(ad149.add ((x6_1).toNat * 5)).block, (ad149.add ((x6_1).toNat * 5)).off + 2, none⟩ = some (.int .i64 ((rd_T40 l0 x6_1).f2)) ∧ w'.cell? ⟨(ad149.add ((x6_1).toNat * 5)).block, (ad149.add ((x6_1).toNat * 5)).off + 3, none⟩ = some (.int .i64 ((rd_T40 l0 x6_1).f3)) ∧ w'.cell? ⟨(ad149.add ((x6_1).toNat * 5)).block, (ad149.add ((x6_1).toNat * 5)).off + 4, none⟩ = some (.int .i64 ((rd_T40 l0 x6_1).f4))) (ds := []) #[false, false, false, false, false, false, false, false, false, false, false, false, false, false, false] (by kernel_rfl) rfl rfl ⟨hx150_0, hx150_1, hx150_2, hx150_3, hx150_4, ((HB.out.cell (World.block_lt_of_cell? w _ hw151_0)).trans hw151_0), ((HB.out.cell (World.block_lt_of_cell? w _ hw151_1)).trans hw151_1), ((HB.out.cell (World.block_lt_of_cell? w _ hw151_2)).trans hw151_2), ((HB.out.cell (World.block_lt_of_cell? w _ hw151_3)).trans hw151_3), ((HB.out.cell (World.block_lt_of_cell? w _ hw151_4)).trans hw151_4)⟩ (fun hHeld => ?_); refine with_tabW arlinkref16_Layout.tab8 arlinkref16_Layout.bits8 (fun HT_ HW_ => ?_)
                                generalize wr.drew = w20 at HO_5 HO_7 HB hx150_0 hx150_1 hx150_2 hx150_3 hx150_4 hx151_0 hx151_1 hx151_2 hx151_3 hx151_4 hHeld ⊢
                                refine pure_ (i := 0) (N := some 26) (v := ?_) (a' := ?_) #[true, false, false, false, false, false, false, false, false, false, false, false, false, false, false] rfl rfl (any_of HT_.out (by kernel_rfl)) (fun _ _ _ h => h) (Or.inl ⟨by rfl, ?_⟩) ?_ ?_
                                rotate_left
                                · intro w'
                                  go_simp
                                  with_reducible rfl
                                rotate_left
                                · simp only [Act.put, List.setIfInBounds_toArray, List.set_cons_zero, List.set_cons_succ, i64_w, i32_w]
                                  rfl
                                refine pure_ (i := 1) (N := some 27) (v := ?_) (a' := ?_) #[true, true, false, false, false, false, false, false, false, false, false, false, false, false, false] rfl rfl (any_of HT_.out (by kernel_rfl)) (fun _ _ _ h => h) (Or.inl ⟨by rfl, ?_⟩) ?_ ?_
                                rotate_left
                                · intro w'
                                  go_simp
                                  with_reducible rfl
                                rotate_left
                                · simp only [Act.put, List.setIfInBounds_toArray, List.set_cons_zero, List.set_cons_succ, i64_w, i32_w]
                                  rfl
                                refine pure_ (i := 2) (N := some 28) (v := ?_) (a' := ?_) #[true, true, true, false, false, false, false, false, false, false, false, false, false, false, false] rfl rfl (any_of HT_.out (by kernel_rfl)) (fun _ _ _ h => h) (Or.inl ⟨by rfl, ?_⟩) ?_ ?_
                                rotate_left
                                · intro w'
                                  go_simp
                                  with_reducible rfl
                                rotate_left
                                · simp only [Act.put, List.setIfInBounds_toArray, List.set_cons_zero, List.set_cons_succ, i64_w, i32_w]
                                  rfl
                                refine pure_ (i := 3) (N := some 29) (v := ?_) (a' := ?_) #[true, true, true, true, false, false, false, false, false, false, false, false, false, false, false] rfl rfl (any_of HT_.out (by kernel_rfl)) (fun _ _ _ h => h) (Or.inl ⟨by rfl, ?_⟩) ?_ ?_
                                rotate_left
                                · intro w'
                                  go_simp
                                  with_reducible rfl
                                rotate_left
                                · simp only [Act.put, List.setIfInBounds_toArray, List.set_cons_zero, List.set_cons_succ, i64_w, i32_w]
                                  rfl
                                refine pure_ (i := 4) (N := some 30) (v := ?_) (a' := ?_) #[true, true, true, true, true, false, false, false, false, false, false, false, false, false, false] rfl rfl (any_of HT_.out (by kernel_rfl)) (fun _ _ _ h => h) (Or.inl ⟨by rfl, ?_⟩) ?_ ?_
                                rotate_left
                                · intro w'
                                  go_simp
                                  with_reducible rfl
                                rotate_left
                                · simp only [Act.put, List.setIfInBounds_toArray, List.set_cons_zero, List.set_cons_succ, i64_w, i32_w]
                                  rfl
                                refine pure_ (i := 5) (N := some 31) (v := ?_) (a' := ?_) #[true, true, true, true, true, true, false, false, false, false, false, false, false, false, false] rfl rfl (any_of HT_.out (by kernel_rfl)) (fun _ _ _ h => h) (Or.inl ⟨by rfl, ?_⟩) ?_ ?_
                                rotate_left
                                · intro w'
                                  go_simp
                                  with_reducible rfl
                                rotate_left
                                · simp only [Act.put, List.setIfInBounds_toArray, List.set_cons_zero, List.set_cons_succ, i64_w, i32_w]
                                  rfl
                                refine pure_ (i := 6) (N := some 32) (v := ?_) (a' := ?_) #[true, true, true, true, true, true, true, false, false, false, false, false, false, false, false] rfl rfl (any_of HT_.out (by kernel_rfl)) (fun _ _ _ h => h) (Or.inl ⟨by rfl, ?_⟩) ?_ ?_
                                rotate_left
                                · intro w'
                                  go_simp
                                  with_reducible rfl
                                rotate_left
                                · simp only [Act.put, List.setIfInBounds_toArray, List.set_cons_zero, List.set_cons_succ, i64_w, i32_w]
                                  rfl
                                refine pure_ (i := 7) (N := some 33) (v := ?_) (a' := ?_) #[true, true, true, true, true, true, true, true, false, false, false, false, false, false, false] rfl rfl (any_of HT_.out (by kernel_rfl)) (fun _ _ _ h => h) (Or.inl ⟨by rfl, ?_⟩) ?_ ?_
                                rotate_left
                                · intro w'
                                  go_simp
                                  with_reducible rfl
                                rotate_left
                                · simp only [Act.put, List.setIfInBounds_toArray, List.set_cons_zero, List.set_cons_succ, i64_w, i32_w]
                                  rfl
                                refine pure_ (i := 9) (N := some 35) (v := ?_) (a' := ?_) #[true, true, true, true, true, true, true, true, false, true, false, false, false, false, false] rfl rfl (any_of HT_.out (by kernel_rfl)) (fun _ _ _ h => h) (Or.inl ⟨by rfl, ?_⟩) ?_ ?_
                                rotate_left
                                · intro w'
                                  go_simp
                                  with_reducible rfl
                                rotate_left
                                · simp only [Act.put, List.setIfInBounds_toArray, List.set_cons_zero, List.set_cons_succ, i64_w, i32_w]
                                  rfl
                                refine pure_ (i := 10) (N := some 36) (v := ?_) (a' := ?_) #[true, true, true, true, true, true, true, true, false, true, true, false, false, false, false] rfl rfl (any_of HT_.out (by kernel_rfl)) (fun _ _ _ h => h) (Or.inl ⟨by rfl, ?_⟩) ?_ ?_
                                rotate_left
                                · intro w'
                                  go_simp
                                  with_reducible rfl
                                rotate_left
                                · simp only [Act.put, List.setIfInBounds_toArray, List.set_cons_zero, List.set_cons_succ, i64_w, i32_w]
                                  rfl
                                refine pure_ (i := 11) (N := some 37) (v := ?_) (a' := ?_) #[true, true, true, true, true, true, true, true, false, true, true, true, false, false, false] rfl rfl (any_of HT_.out (by kernel_rfl)) (fun _ _ _ h => h) (Or.inl ⟨by rfl, ?_⟩) ?_ ?_
                                rotate_left
                                · intro w'
                                  go_simp
                                  with_reducible rfl
                                rotate_left
                                · simp only [Act.put, List.setIfInBounds_toArray, List.set_cons_zero, List.set_cons_succ, i64_w, i32_w]
                                  rfl
                                refine take_ (i := 8) (N := some 34) (v := ?_) (a' := ?_) #[true, true, true, true, true, true, true, true, true, true, true, true, false, false, false] rfl rfl (take_ofW HT_.out HW_.out (by kernel_rfl)) (fun _ _ _ h => h) (Or.inl ⟨by rfl, ?_⟩) hHeld ?_ ?_
                                rotate_left
                                · rintro w' ⟨s0, s1, s2, s3, s4, s5, s6, s7, s8, s9⟩
                                  go_simp
                                  with_reducible rfl
                                rotate_left
                                · simp only [Act.put, List.setIfInBounds_toArray, List.set_cons_zero, List.set_cons_succ, i64_w, i32_w]
                                  rfl
                                refine take_ (i := 12) (N := some 38) (v := ?_) (a' := ?_) #[true, true, true, true, true, true, true, true, true, true, true, true, true, false, false] rfl rfl (take_ofW HT_.out HW_.out (by kernel_rfl)) (fun _ _ _ h => h) (Or.inl ⟨by rfl, ?_⟩) hHeld ?_ ?_
                                rotate_left
                                · rintro w' ⟨s0, s1, s2, s3, s4, s5, s6, s7, s8, s9⟩
                                  go_simp
                                  with_reducible rfl
                                rotate_left
                                · simp only [Act.put, List.setIfInBounds_toArray, List.set_cons_zero, List.set_cons_succ, i64_w, i32_w]
                                  rfl
                                refine one_ (i := 13) (N := some 39) #[true, true, true, true, true, true, true, true, true, true, true, true, true, true, false] rfl rfl (one_of HT_.out (by kernel_rfl)) (by decide) (fun K hK => ?_)
                                refine goes_ Try.func20 (by kernel_rfl) rfl #[.agg #[.string ((rd_T40 x5_1 x8_2).f0), .int .i64 ((rd_T40 x5_1 x8_2).f1), .int .i64 ((rd_T40 x5_1 x8_2).f2), .int .i64 ((rd_T40 x5_1 x8_2).f3), .int .i64 ((rd_T40 x5_1 x8_2).f4)], .agg #[.string ((rd_T40 l0 x6_1).f0), .int .i64 ((rd_T40 l0 x6_1).f1), .int .i64 ((rd_T40 l0 x6_1).f2), .int .i64 ((rd_T40 l0 x6_1).f3), .int .i64 ((rd_T40 l0 x6_1).f4)]] (by rfl) rfl rfl (by (try simp only [List.map_toArray, List.map_cons, List.map_nil]); first | done | rfl | (simp only [List.length_drop, List.length_take]; rfl)) ?_
                                with_reducible refine (arlinkref16_before.calls ((rd_T40 x5_1 x8_2).f0) ((rd_T40 x5_1 x8_2).f1) ((rd_T40 x5_1 x8_2).f2) ((rd_T40 x5_1 x8_2).f3) ((rd_T40 x5_1 x8_2).f4) ((rd_T40 l0 x6_1).f0) ((rd_T40 l0 x6_1).f1) ((rd_T40 l0 x6_1).f2) ((rd_T40 l0 x6_1).f3) ((rd_T40 l0 x6_1).f4) false _ A9.out).mono ?_
                                rintro e w22 ⟨rfl, hb⟩
                                have HS0_ := (hb.cell (World.block_lt_of_cell? _ _ (hHeld.1))).trans (hHeld.1)
                                have HS1_ := (hb.cell (World.block_lt_of_cell? _ _ (hHeld.2.1))).trans (hHeld.2.1)
                                have HS2_ := (hb.cell (World.block_lt_of_cell? _ _ (hHeld.2.2.1))).trans (hHeld.2.2.1)
                                have HS3_ := (hb.cell (World.block_lt_of_cell? _ _ (hHeld.2.2.2.1))).trans (hHeld.2.2.2.1)
                                have HS4_ := (hb.cell (World.block_lt_of_cell? _ _ (hHeld.2.2.2.2.1))).trans (hHeld.2.2.2.2.1)
                                refine ⟨_, rfl, ?_⟩
                                have n0_ := Aside0.mk (Kd.R_below (by (with_reducible repeat (first | apply Kd.R_alloc | apply Kd.R_drewN | apply Kd.R_drew)); exact HO_5.out) hb)
                                have n1_ := Aside0.mk (Kd.R_below (by (with_reducible repeat (first | apply Kd.R_alloc | apply Kd.R_drewN | apply Kd.R_drew)); exact HO_7.out) hb)
                                have n2_ := Aside0.mk (below_step (by repeat (first | (with_reducible first | exact HB.out | apply below_alloc | apply pw_below_drewN | apply below_drew1) | exact HB.out)) hb)
                                clear HO_5
                                clear HO_7
                                clear HB
                                have HO_5 := n0_
                                have HO_7 := n1_
                                have HB := n2_
                                clear n0_ n1_ n2_
                                (try clear hb)
                                (try clear hb2)
                                (try clear hk)
                                (try clear hi)
                                refine hK.out _ _ ⟨HS0_, HS1_, HS2_, HS3_, HS4_, ((HB.out.cell (World.block_lt_of_cell? w _ hw151_0)).trans hw151_0), ((HB.out.cell (World.block_lt_of_cell? w _ hw151_1)).trans hw151_1), ((HB.out.cell (World.block_lt_of_cell? w _ hw151_2)).trans hw151_2), ((HB.out.cell (World.block_lt_of_cell? w _ hw151_3)).trans hw151_3), ((HB.out.cell (World.block_lt_of_cell? w _ hw151_4)).trans hw151_4)⟩ (fun hHeld => ?_)
                                clear hK K
                                refine norm_ (a' := ?_) ?_ ?_
                                rotate_left
                                · show Act.put _ (some 39) _ = _
                                  simp only [Act.put, List.setIfInBounds_toArray, List.set_cons_zero, List.set_cons_succ, i64_w, i32_w]
                                  rfl
                                refine pure_ (i := 14) (N := some 40) (v := ?_) (a' := ?_) #[true, true, true, true, true, true, true, true, true, true, true, true, true, true, true] rfl rfl (any_of HT_.out (by kernel_rfl)) (fun _ _ _ h => h) (Or.inl ⟨by rfl, ?_⟩) ?_ ?_
                                rotate_left
                                · intro w'
                                  go_simp
                                  with_reducible rfl
                                rotate_left
                                · simp only [Act.put, List.setIfInBounds_toArray, List.set_cons_zero, List.set_cons_succ, i64_w, i32_w]
                                  rfl
                                refine done_ (done_of HT_.out (by kernel_rfl)) ?_
                                have p157 : 0 ≤ (x6_1 : Int) := of_decide_eq_true (by first | (with_reducible assumption) | assumption)
                                have q157 : x6_1 < (l0.length : Int) := of_decide_eq_true (by first | (with_reducible assumption) | assumption)
                                obtain ⟨ad157, e157, hx157_0, hx157_1, hx157_2, hx157_3, hx157_4⟩ := at_T40 HR0.out x6_1 p157 q157
                                obtain rfl : ad149 = ad157 := (by injection e157)
                                replace hx157_0 := (HB.out.cell (World.block_lt_of_cell? w _ hx157_0)).trans hx157_0
                                replace hx157_1 := (HB.out.cell (World.block_lt_of_cell? w _ hx157_1)).trans hx157_1
                                replace hx157_2 := (HB.out.cell (World.block_lt_of_cell? w _ hx157_2)).trans hx157_2
                                replace hx157_3 := (HB.out.cell (World.block_lt_of_cell? w _ hx157_3)).trans hx157_3
                                replace hx157_4 := (HB.out.cell (World.block_lt_of_cell? w _ hx157_4)).trans hx157_4
                                replace p157 := eq_true p157
                                replace q157 := eq_true q157
                                try go_wp2_with (first | ((with_reducible refine gate_builtin (b := .append) (xs := #[.tmp 50, .tmp 55]) rfl ?_); at_builtin; refine Kd.R_append k40 (w0 := w) w.heap.size rfl (.tmp 50) (.tmp 55) 22 40 (.agg #[(.string ⟨#[]⟩), (.int .i64 0), (.int .i64 0), (.int .i64 0), (.int .i64 0)]) 48 rfl Try.underlying22 info40 rfl (by decide) (by omega) u7 x7_2 (⟨(rd_T40 l0 x6_1).f0, (rd_T40 l0 x6_1).f1, (rd_T40 l0 x6_1).f2, (rd_T40 l0 x6_1).f3, (rd_T40 l0 x6_1).f4⟩ : S40) [.string ((rd_T40 l0 x6_1).f0), .int .i64 ((rd_T40 l0 x6_1).f1), .int .i64 ((rd_T40 l0 x6_1).f2), .int .i64 ((rd_T40 l0 x6_1).f3), .int .i64 ((rd_T40 l0 x6_1).f4)] (fun k_ => some k_ ≠ (.slice (some ad150) x5_1.length co21 : Value).ownBlock) (fun _ => False) rfl rfl ?aP (fun _ hk => hk.elim) ?aF ?aO ?aB ?aS ?aL ?_; (case aP => exact k40_mkM _ _ _ (⟨(rd_T40 l0 x6_1).f0, (rd_T40 l0 x6_1).f1, (rd_T40 l0 x6_1).f2, (rd_T40 l0 x6_1).f3, (rd_T40 l0 x6_1).f4⟩ : S40)); (case aB => exact (by repeat (first | (with_reducible first | exact HB.out | apply below_alloc | apply pw_below_drewN | apply below_drew1) | exact HB.out))); (case aF => exact (fun k_ hk => Kd.fresh' (Kd.R_lt (by (with_reducible repeat (first | apply Kd.R_alloc | apply Kd.R_drewN | apply Kd.R_drew)); exact HO_5.out)) k_ hk)); (case aO => exact (by (with_reducible repeat (first | apply Kd.R_alloc | apply Kd.R_drewN | apply Kd.R_drew)); exact HO_7.out)); (case aS => exact (below_size (by repeat (first | (with_reducible first | exact HB.out | apply below_alloc | apply pw_below_drewN | apply below_drew1) | exact HB.out)))); (case aL => have := LMc16.out; omega); intro v159 w23 ho hb hg hat; rw [← Ny158.out] at ho; have n0_ := Aside0.mk (Kd.R_after (ok := (fun _ => True)) (by (with_reducible repeat (first | apply Kd.R_alloc | apply Kd.R_drewN | apply Kd.R_drew)); exact Kd.R_mono HO_5.out (fun _ hk => ⟨trivial, hk⟩)) hg hat); have n1_ := Aside0.mk (hb); have n2_ := Aside0.mk (ho); clear HO_5; clear HB; clear HO_7; have HO_5 := n0_; have HB := n1_; have HO160 := n2_; clear n0_ n1_ n2_; clear ho hb hg hat; have q24 : (x8_2 : Int) ≤ ((x5_1.length : Int) : Int) := of_decide_eq_true (by first | (with_reducible assumption) | assumption); obtain ⟨i024, hi024, _, hsz24, _⟩ := info_parts info40; have hroom24 : x5_1.length ≤ co21 := (Kd.R_reads' HO_5.out).2.1; have hC24 : Kd.C k40 _ (some ad150) x5_1.length x5_1 := (Kd.R_reads' HO_5.out).2.2; have q024 : (0 : Int) ≤ (x8_2 : Int) := of_decide_eq_true (by first | (with_reducible assumption) | assumption); have hcut24 := cut_from (P := Try.prog) 22 40 .i64 Try.underlying22 hi024 5 hsz24 (some ad150) x5_1.length co21 x8_2 q024 q24; have hr24 := Kd.C_drop (m := (x8_2 : Int).toNat) (c := co21) hC24 (by omega) hroom24; obtain ⟨A24, hA24⟩ : ∃ A1, A1 = (if co21 = (x8_2 : Int).toNat then (some ad150) else ((some ad150) : Option Addr).map (·.add ((x8_2 : Int).toNat * 5))) := ⟨_, rfl⟩; obtain ⟨c24, hc24⟩ : ∃ c1, c1 = co21 - (x8_2 : Int).toNat := ⟨_, rfl⟩; have hy24 : y161.length = x5_1.length - (x8_2 : Int).toNat := (by rw [Ny161.out, List.length_drop] <;> omega); rw [show (x5_1).drop (x8_2 : Int).toNat = y161 from Ny161.out.symm] at hr24; replace hr24 : Kd.C k40 _ A24 y161.length y161 := (by rw [hA24]; exact hr24); rw [← hy24, ← hA24, ← hc24] at hcut24; have HR164 := Aside0.mk hr24; have HC164 := Aside0.mk (show y161.length ≤ c24 from by rw [hy24, hc24]; exact Nat.sub_le_sub_right hroom24 _); clear hr24 hC24 hroom24 hi024 hsz24 hc24; have KY24 := Aside0.mk hy24; have KA24 := Aside0.mk hA24; clear hy24 hA24; have KL24 := Aside0.mk (show (x8_2 : Int).toNat ≤ x5_1.length from by omega); replace q24 := eq_true q24) | ((with_reducible refine gate_builtin (b := .append) (xs := #[.tmp 57, .tmp 60]) rfl ?_); at_builtin; refine Kd.R_append_rows k40 (w0 := w) w.heap.size rfl (.tmp 57) (.tmp 60) 22 40 (.agg #[(.string ⟨#[]⟩), (.int .i64 0), (.int .i64 0), (.int .i64 0), (.int .i64 0)]) 48 rfl Try.underlying22 info40 rfl (by decide) (by omega) v159 y158 y161 _ _ _ (fun k_ => some k_ ≠ (.slice (some ad150) x5_1.length co21 : Value).ownBlock) (fun _ => False) rfl rfl ?aO ?aR (fun _ _ h => h) (fun _ h => h.elim) ?aF ?aB ?aS ?aL ?_; (case aR => repeat (first | exact (by repeat (first | (with_reducible exact HR164.out) | (with_reducible refine Kd.C_alloc ?_ _) | (with_reducible refine Kd.C_drewN ?_ _) | (with_reducible refine Kd.C_drew ?_) | exact HR164.out)) | (with_reducible refine Kd.C_alloc ?_ _) | (with_reducible refine Kd.C_drewN ?_ _) | (with_reducible refine Kd.C_drew ?_))); (case aB => exact (by repeat (first | (with_reducible first | exact HB.out | apply below_alloc | apply pw_below_drewN | apply below_drew1) | exact HB.out))); (case aF => exact (fun k_ hk => Kd.fresh' (Kd.R_lt (by (with_reducible repeat (first | apply Kd.R_alloc | apply Kd.R_drewN | apply Kd.R_drew)); exact HO_5.out)) k_ hk)); (case aO => exact (by (with_reducible repeat (first | apply Kd.R_alloc | apply Kd.R_drewN | apply Kd.R_drew)); exact HO160.out)); (case aS => exact (below_size (by repeat (first | (with_reducible first | exact HB.out | apply below_alloc | apply pw_below_drewN | apply below_drew1) | exact HB.out)))); (case aL => have := LMc19.out; omega); intro v166 w25 ho hb hg hat; rw [← Ny165.out] at ho; have n0_ := Aside0.mk (Kd.R_after (ok := (fun _ => True)) (by (with_reducible repeat (first | apply Kd.R_alloc | apply Kd.R_drewN | apply Kd.R_drew)); exact HO_5.out) hg hat); have n1_ := Aside0.mk (hb); have n2_ := Aside0.mk ((show Kd.C k40 w25 A24 y161.length y161 from by rw [Ny161.out, KA24.out]; exact Kd.C_drop (m := (x8_2 : Int).toNat) (c := co21) ((Kd.R_reads' (Kd.R_after (ok := (fun _ => True)) (by (with_reducible repeat (first | apply Kd.R_alloc | apply Kd.R_drewN | apply Kd.R_drew)); exact HO_5.out) hg hat)).2.2) KL24.out ((Kd.R_reads' (Kd.R_after (ok := (fun _ => True)) (by (with_reducible repeat (first | apply Kd.R_alloc | apply Kd.R_drewN | apply Kd.R_drew)); exact HO_5.out) hg hat)).2.1))); have n3_ := Aside0.mk (ho); clear HO_5; clear HB; clear HR164; clear HO160; have HO_5 := n0_; have HB := n1_; have HR164 := n2_; have HO167 := n3_; clear n0_ n1_ n2_ n3_; clear ho hb hg hat))
                                go_roundg k2
                                case measure => have := HK1.out; have := HK2.out; omega
                                case rel => exact ⟨(y165), (wrap64 (x6_1 + 1)), (by first | rfl | (simp; done) | (simp [*]; done)), H', ⟨by have := HK1.out; have := HK2.out; omega⟩, ⟨by (with_reducible repeat (first | apply Kd.R_alloc | apply Kd.R_drewN | apply Kd.R_drew)); exact Kd.R_mono HO167.out (fun _ hk => trivial)⟩, ⟨by repeat (first | (with_reducible first | exact HB.out | apply below_alloc | apply pw_below_drewN | apply below_drew1) | exact HB.out)⟩⟩
                              · rw [if_neg c19] at H
                                exact absurd H (by simp)
                            · rw [if_neg c18] at H
                              exact absurd H (by simp)
                          · rw [if_neg c16] at H
                            exact absurd H (by simp)
                      · rw [if_neg c8] at H
                        exact absurd H (by simp)
                    · rw [if_neg c7] at H
                      exact absurd H (by simp)
                  · rw [if_neg c6] at H
                    exact absurd H (by simp)
                · rw [if_neg c5] at H
                  have c5b0 : decide (x8_2 < (x5_1.length : Int)) = false := decide_eq_false c5
                  clear c5
                  by_cases c26 : 0 ≤ x6_1
                  · rw [if_pos c26] at H
                    have c26b0 : decide (0 ≤ x6_1) = true := decide_eq_true c26
                    clear c26
                    by_cases c27 : x6_1 < (l0.length : Int)
                    · rw [if_pos c27] at H
                      have c27b0 : decide (x6_1 < (l0.length : Int)) = true := decide_eq_true c27
                      clear c27
                      by_cases c28 : x7_2.length < 2932031007402
                      · rw [if_pos c28] at H
                        have LMc28 := Aside0.mk c28
                        clear c28
                        obtain ⟨y169, hy169⟩ : ∃ y_ : List (S40), y_ = (x7_2 ++ [(⟨(rd_T40 l0 x6_1).f0, (rd_T40 l0 x6_1).f1, (rd_T40 l0 x6_1).f2, (rd_T40 l0 x6_1).f3, (rd_T40 l0 x6_1).f4⟩ : S40)]) := ⟨_, rfl⟩
                        replace H : (if 0 ≤ x8_2 then (if x8_2 ≤ (x5_1.length : Int) then ((some (x5_1.drop (x8_2 : Int).toNat : List (S40))).bind fun y172 => (if y169.length + y172.length < 2932031007402 then (arlinkref16_Layout.l0 k2 l0 (y169 ++ y172) (wrap64 (x6_1 + 1))) else (none))) else (none)) else (none)) = some (r1, r2, r3) := by first | (rw [hy169]; with_reducible exact H) | (have H2_ := (Option.bind_some _ _).symm.trans H; rw [hy169]; with_reducible exact H2_) | (have H2_ := (Option.bind_some _ _).symm.trans H; with_reducible exact H2_) | with_reducible exact H | (rw [hy169]; exact H) | exact H
                        have Ny169 := Aside0.mk hy169
                        clear hy169
                        by_cases c29 : 0 ≤ x8_2
                        · rw [if_pos c29] at H
                          have c29b0 := eq_true c29
                          have c29b1 : decide (0 ≤ x8_2) = true := decide_eq_true c29
                          clear c29
                          by_cases c30 : x8_2 ≤ (x5_1.length : Int)
                          · rw [if_pos c30] at H
                            have c30b0 := eq_true c30
                            have c30b1 : decide (x8_2 ≤ (x5_1.length : Int)) = true := decide_eq_true c30
                            clear c30
                            obtain ⟨y172, hy172⟩ : ∃ y_ : List (S40), y_ = (x5_1.drop (x8_2 : Int).toNat) := ⟨_, rfl⟩
                            replace H : (if y169.length + y172.length < 2932031007402 then (arlinkref16_Layout.l0 k2 l0 (y169 ++ y172) (wrap64 (x6_1 + 1))) else (none)) = some (r1, r2, r3) := by first | (rw [hy172]; with_reducible exact H) | (have H2_ := (Option.bind_some _ _).symm.trans H; rw [hy172]; with_reducible exact H2_) | (have H2_ := (Option.bind_some _ _).symm.trans H; with_reducible exact H2_) | with_reducible exact H | (rw [hy172]; exact H) | exact H
                            have Ny172 := Aside0.mk hy172
                            clear hy172
                            by_cases c31 : y169.length + y172.length < 2932031007402
                            · rw [if_pos c31] at H
                              have LMc31 := Aside0.mk c31
                              clear c31
                              obtain ⟨y176, hy176⟩ : ∃ y_ : List (S40), y_ = (y169 ++ y172) := ⟨_, rfl⟩
                              replace H : (arlinkref16_Layout.l0 k2 l0 y176 (wrap64 (x6_1 + 1))) = some (r1, r2, r3) := by first | (rw [hy176]; with_reducible exact H) | (have H2_ := (Option.bind_some _ _).symm.trans H; rw [hy176]; with_reducible exact H2_) | (have H2_ := (Option.bind_some _ _).symm.trans H; with_reducible exact H2_) | with_reducible exact H | (rw [hy176]; exact H) | exact H
                              have Ny176 := Aside0.mk hy176
                              clear hy176
                              have H' := Aside0.mk H
                              clear H
                              try go_wp2
                              have n0_ := Aside0.mk (Kd.R_drew HO_5.out)
                              have n1_ := Aside0.mk (Kd.R_drew HO_7.out)
                              have n2_ := Aside0.mk (below_drew1 HB.out)
                              clear HO_5
                              clear HO_7
                              clear HB
                              have HO_5 := n0_
                              have HO_7 := n1_
                              have HB := n2_
                              clear n0_ n1_ n2_
                              obtain ⟨Ao33, co33, eo33⟩ := Kd.R_slice HO_5.out
                              (first | subst eo33 | (injection eo33 with f1_ f2_ f3_; have f4_ := f1_.symm; have f5_ := f3_.symm; clear f1_ f2_ f3_; subst f4_; subst f5_))
                              refine start_ (n := 15) (S := fun w' => True) (ds := []) #[false, false, false, false, false, false, false, false, false, false, false, false, false, false, false] (by kernel_rfl) rfl rfl trivial (fun hHeld => ?_); refine with_tabW arlinkref16_Layout.tab8 arlinkref16_Layout.bits8 (fun HT_ HW_ => ?_)
                              generalize wr.drew = w32 at HO_5 HO_7 HB hHeld ⊢
                              refine pure_ (i := 0) (N := some 26) (v := ?_) (a' := ?_) #[true, false, false, false, false, false, false, false, false, false, false, false, false, false, false] rfl rfl (any_of HT_.out (by kernel_rfl)) (fun _ _ _ h => h) (Or.inl ⟨by rfl, ?_⟩) ?_ ?_
                              rotate_left
                              · intro w'
                                go_simp
                                with_reducible rfl
                              rotate_left
                              · simp only [Act.put, List.setIfInBounds_toArray, List.set_cons_zero, List.set_cons_succ, i64_w, i32_w]
                                rfl
                              refine pure_ (i := 1) (N := some 27) (v := ?_) (a' := ?_) #[true, true, false, false, false, false, false, false, false, false, false, false, false, false, false] rfl rfl (any_of HT_.out (by kernel_rfl)) (fun _ _ _ h => h) (Or.inl ⟨by rfl, ?_⟩) ?_ ?_
                              rotate_left
                              · intro w'
                                go_simp
                                with_reducible rfl
                              rotate_left
                              · simp only [Act.put, List.setIfInBounds_toArray, List.set_cons_zero, List.set_cons_succ, i64_w, i32_w]
                                rfl
                              refine pure_ (i := 2) (N := some 28) (v := ?_) (a' := ?_) #[true, true, true, false, false, false, false, false, false, false, false, false, false, false, false] rfl rfl (any_of HT_.out (by kernel_rfl)) (fun _ _ _ h => h) (Or.inl ⟨by rfl, ?_⟩) ?_ ?_
                              rotate_left
                              · intro w'
                                go_simp
                                with_reducible rfl
                              rotate_left
                              · simp only [Act.put, List.setIfInBounds_toArray, List.set_cons_zero, List.set_cons_succ, i64_w, i32_w]
                                rfl
                              refine pure_ (i := 3) (N := some 29) (v := ?_) (a' := ?_) #[true, true, true, true, false, false, false, false, false, false, false, false, false, false, false] rfl rfl (any_of HT_.out (by kernel_rfl)) (fun _ _ _ h => h) (Or.inl ⟨by rfl, ?_⟩) ?_ ?_
                              rotate_left
                              · intro w'
                                go_simp
                                with_reducible rfl
                              rotate_left
                              · simp only [Act.put, List.setIfInBounds_toArray, List.set_cons_zero, List.set_cons_succ, i64_w, i32_w]
                                rfl
                              refine pure_ (i := 4) (N := some 30) (v := ?_) (a' := ?_) #[true, true, true, true, true, false, false, false, false, false, false, false, false, false, false] rfl rfl (any_of HT_.out (by kernel_rfl)) (fun _ _ _ h => h) (Or.inl ⟨by rfl, ?_⟩) ?_ ?_
                              rotate_left
                              · intro w'
                                go_simp
                                with_reducible rfl
                              rotate_left
                              · simp only [Act.put, List.setIfInBounds_toArray, List.set_cons_zero, List.set_cons_succ, i64_w, i32_w]
                                rfl
                              refine pure_ (i := 5) (N := some 31) (v := undef) (a' := ?_) #[true, true, true, true, true, true, false, false, false, false, false, false, false, false, false] rfl rfl (any_of HT_.out (by kernel_rfl)) (fun _ _ _ h => h) (Or.inr ⟨by rfl, rfl⟩) ?_ ?_
                              rotate_left
                              · simp only [Act.put, List.setIfInBounds_toArray, List.set_cons_zero, List.set_cons_succ, i64_w, i32_w]
                                rfl
                              refine pure_ (i := 6) (N := some 32) (v := undef) (a' := ?_) #[true, true, true, true, true, true, true, false, false, false, false, false, false, false, false] rfl rfl (any_of HT_.out (by kernel_rfl)) (fun _ _ _ h => h) (Or.inr ⟨by rfl, rfl⟩) ?_ ?_
                              rotate_left
                              · simp only [Act.put, List.setIfInBounds_toArray, List.set_cons_zero, List.set_cons_succ, i64_w, i32_w]
                                rfl
                              refine pure_ (i := 7) (N := some 33) (v := undef) (a' := ?_) #[true, true, true, true, true, true, true, true, false, false, false, false, false, false, false] rfl rfl (any_of HT_.out (by kernel_rfl)) (fun _ _ _ h => h) (Or.inr ⟨by rfl, rfl⟩) ?_ ?_
                              rotate_left
                              · simp only [Act.put, List.setIfInBounds_toArray, List.set_cons_zero, List.set_cons_succ, i64_w, i32_w]
                                rfl
                              refine pure_ (i := 8) (N := some 34) (v := undef) (a' := ?_) #[true, true, true, true, true, true, true, true, true, false, false, false, false, false, false] rfl rfl (any_of HT_.out (by kernel_rfl)) (fun _ _ _ h => h) (Or.inr ⟨by rfl, rfl⟩) ?_ ?_
                              rotate_left
                              · simp only [Act.put, List.setIfInBounds_toArray, List.set_cons_zero, List.set_cons_succ, i64_w, i32_w]
                                rfl
                              refine pure_ (i := 9) (N := some 35) (v := undef) (a' := ?_) #[true, true, true, true, true, true, true, true, true, true, false, false, false, false, false] rfl rfl (any_of HT_.out (by kernel_rfl)) (fun _ _ _ h => h) (Or.inr ⟨by rfl, rfl⟩) ?_ ?_
                              rotate_left
                              · simp only [Act.put, List.setIfInBounds_toArray, List.set_cons_zero, List.set_cons_succ, i64_w, i32_w]
                                rfl
                              refine pure_ (i := 10) (N := some 36) (v := undef) (a' := ?_) #[true, true, true, true, true, true, true, true, true, true, true, false, false, false, false] rfl rfl (any_of HT_.out (by kernel_rfl)) (fun _ _ _ h => h) (Or.inr ⟨by rfl, rfl⟩) ?_ ?_
                              rotate_left
                              · simp only [Act.put, List.setIfInBounds_toArray, List.set_cons_zero, List.set_cons_succ, i64_w, i32_w]
                                rfl
                              refine pure_ (i := 11) (N := some 37) (v := undef) (a' := ?_) #[true, true, true, true, true, true, true, true, true, true, true, true, false, false, false] rfl rfl (any_of HT_.out (by kernel_rfl)) (fun _ _ _ h => h) (Or.inr ⟨by rfl, rfl⟩) ?_ ?_
                              rotate_left
                              · simp only [Act.put, List.setIfInBounds_toArray, List.set_cons_zero, List.set_cons_succ, i64_w, i32_w]
                                rfl
                              refine pure_ (i := 12) (N := some 38) (v := undef) (a' := ?_) #[true, true, true, true, true, true, true, true, true, true, true, true, true, false, false] rfl rfl (any_of HT_.out (by kernel_rfl)) (fun _ _ _ h => h) (Or.inr ⟨by rfl, rfl⟩) ?_ ?_
                              rotate_left
                              · simp only [Act.put, List.setIfInBounds_toArray, List.set_cons_zero, List.set_cons_succ, i64_w, i32_w]
                                rfl
                              refine pure_ (i := 13) (N := some 39) (v := undef) (a' := ?_) #[true, true, true, true, true, true, true, true, true, true, true, true, true, true, false] rfl rfl (any_of HT_.out (by kernel_rfl)) (fun _ _ _ h => h) (Or.inr ⟨by rfl, rfl⟩) ?_ ?_
                              rotate_left
                              · simp only [Act.put, List.setIfInBounds_toArray, List.set_cons_zero, List.set_cons_succ, i64_w, i32_w]
                                rfl
                              refine pure_ (i := 14) (N := some 40) (v := ?_) (a' := ?_) #[true, true, true, true, true, true, true, true, true, true, true, true, true, true, true] rfl rfl (any_of HT_.out (by kernel_rfl)) (fun _ _ _ h => h) (Or.inl ⟨by rfl, ?_⟩) ?_ ?_
                              rotate_left
                              · intro w'
                                go_simp
                                with_reducible rfl
                              rotate_left
                              · simp only [Act.put, List.setIfInBounds_toArray, List.set_cons_zero, List.set_cons_succ, i64_w, i32_w]
                                rfl
                              refine done_ (done_of HT_.out (by kernel_rfl)) ?_
                              have p168 : 0 ≤ (x6_1 : Int) := of_decide_eq_true (by first | (with_reducible assumption) | assumption)
                              have q168 : x6_1 < (l0.length : Int) := of_decide_eq_true (by first | (with_reducible assumption) | assumption)
                              obtain ⟨ad168, e168, hx168_0, hx168_1, hx168_2, hx168_3, hx168_4⟩ := at_T40 HR0.out x6_1 p168 q168
                              obtain rfl : ad149 = ad168 := (by injection e168)
                              replace hx168_0 := (HB.out.cell (World.block_lt_of_cell? w _ hx168_0)).trans hx168_0
                              replace hx168_1 := (HB.out.cell (World.block_lt_of_cell? w _ hx168_1)).trans hx168_1
                              replace hx168_2 := (HB.out.cell (World.block_lt_of_cell? w _ hx168_2)).trans hx168_2
                              replace hx168_3 := (HB.out.cell (World.block_lt_of_cell? w _ hx168_3)).trans hx168_3
                              replace hx168_4 := (HB.out.cell (World.block_lt_of_cell? w _ hx168_4)).trans hx168_4
                              replace p168 := eq_true p168
                              replace q168 := eq_true q168
                              try go_wp2_with (first | ((with_reducible refine gate_builtin (b := .append) (xs := #[.tmp 50, .tmp 55]) rfl ?_); at_builtin; refine Kd.R_append k40 (w0 := w) w.heap.size rfl (.tmp 50) (.tmp 55) 22 40 (.agg #[(.string ⟨#[]⟩), (.int .i64 0), (.int .i64 0), (.int .i64 0), (.int .i64 0)]) 48 rfl Try.underlying22 info40 rfl (by decide) (by omega) u7 x7_2 (⟨(rd_T40 l0 x6_1).f0, (rd_T40 l0 x6_1).f1, (rd_T40 l0 x6_1).f2, (rd_T40 l0 x6_1).f3, (rd_T40 l0 x6_1).f4⟩ : S40) [.string ((rd_T40 l0 x6_1).f0), .int .i64 ((rd_T40 l0 x6_1).f1), .int .i64 ((rd_T40 l0 x6_1).f2), .int .i64 ((rd_T40 l0 x6_1).f3), .int .i64 ((rd_T40 l0 x6_1).f4)] (fun k_ => some k_ ≠ (.slice Ao33 x5_1.length co33 : Value).ownBlock) (fun _ => False) rfl rfl ?aP (fun _ hk => hk.elim) ?aF ?aO ?aB ?aS ?aL ?_; (case aP => exact k40_mkM _ _ _ (⟨(rd_T40 l0 x6_1).f0, (rd_T40 l0 x6_1).f1, (rd_T40 l0 x6_1).f2, (rd_T40 l0 x6_1).f3, (rd_T40 l0 x6_1).f4⟩ : S40)); (case aB => exact (by repeat (first | (with_reducible first | exact HB.out | apply below_alloc | apply pw_below_drewN | apply below_drew1) | exact HB.out))); (case aF => exact (fun k_ hk => Kd.fresh' (Kd.R_lt (by (with_reducible repeat (first | apply Kd.R_alloc | apply Kd.R_drewN | apply Kd.R_drew)); exact HO_5.out)) k_ hk)); (case aO => exact (by (with_reducible repeat (first | apply Kd.R_alloc | apply Kd.R_drewN | apply Kd.R_drew)); exact HO_7.out)); (case aS => exact (below_size (by repeat (first | (with_reducible first | exact HB.out | apply below_alloc | apply pw_below_drewN | apply below_drew1) | exact HB.out)))); (case aL => have := LMc28.out; omega); intro v170 w34 ho hb hg hat; rw [← Ny169.out] at ho; have n0_ := Aside0.mk (Kd.R_after (ok := (fun _ => True)) (by (with_reducible repeat (first | apply Kd.R_alloc | apply Kd.R_drewN | apply Kd.R_drew)); exact Kd.R_mono HO_5.out (fun _ hk => ⟨trivial, hk⟩)) hg hat); have n1_ := Aside0.mk (hb); have n2_ := Aside0.mk (ho); clear HO_5; clear HB; clear HO_7; have HO_5 := n0_; have HB := n1_; have HO171 := n2_; clear n0_ n1_ n2_; clear ho hb hg hat; have q35 : (x8_2 : Int) ≤ ((x5_1.length : Int) : Int) := of_decide_eq_true (by first | (with_reducible assumption) | assumption); obtain ⟨i035, hi035, _, hsz35, _⟩ := info_parts info40; have hroom35 : x5_1.length ≤ co33 := (Kd.R_reads' HO_5.out).2.1; have hC35 : Kd.C k40 _ Ao33 x5_1.length x5_1 := (Kd.R_reads' HO_5.out).2.2; have q035 : (0 : Int) ≤ (x8_2 : Int) := of_decide_eq_true (by first | (with_reducible assumption) | assumption); have hcut35 := cut_from (P := Try.prog) 22 40 .i64 Try.underlying22 hi035 5 hsz35 Ao33 x5_1.length co33 x8_2 q035 q35; have hr35 := Kd.C_drop (m := (x8_2 : Int).toNat) (c := co33) hC35 (by omega) hroom35; obtain ⟨A35, hA35⟩ : ∃ A1, A1 = (if co33 = (x8_2 : Int).toNat then Ao33 else (Ao33 : Option Addr).map (·.add ((x8_2 : Int).toNat * 5))) := ⟨_, rfl⟩; obtain ⟨c35, hc35⟩ : ∃ c1, c1 = co33 - (x8_2 : Int).toNat := ⟨_, rfl⟩; have hy35 : y172.length = x5_1.length - (x8_2 : Int).toNat := (by rw [Ny172.out, List.length_drop] <;> omega); rw [show (x5_1).drop (x8_2 : Int).toNat = y172 from Ny172.out.symm] at hr35; replace hr35 : Kd.C k40 _ A35 y172.length y172 := (by rw [hA35]; exact hr35); rw [← hy35, ← hA35, ← hc35] at hcut35; have HR175 := Aside0.mk hr35; have HC175 := Aside0.mk (show y172.length ≤ c35 from by rw [hy35, hc35]; exact Nat.sub_le_sub_right hroom35 _); clear hr35 hC35 hroom35 hi035 hsz35 hc35; have KY35 := Aside0.mk hy35; have KA35 := Aside0.mk hA35; clear hy35 hA35; have KL35 := Aside0.mk (show (x8_2 : Int).toNat ≤ x5_1.length from by omega); replace q35 := eq_true q35) | ((with_reducible refine gate_builtin (b := .append) (xs := #[.tmp 57, .tmp 60]) rfl ?_); at_builtin; refine Kd.R_append_rows k40 (w0 := w) w.heap.size rfl (.tmp 57) (.tmp 60) 22 40 (.agg #[(.string ⟨#[]⟩), (.int .i64 0), (.int .i64 0), (.int .i64 0), (.int .i64 0)]) 48 rfl Try.underlying22 info40 rfl (by decide) (by omega) v170 y169 y172 _ _ _ (fun k_ => some k_ ≠ (.slice Ao33 x5_1.length co33 : Value).ownBlock) (fun _ => False) rfl rfl ?aO ?aR (fun _ _ h => h) (fun _ h => h.elim) ?aF ?aB ?aS ?aL ?_; (case aR => repeat (first | exact (by repeat (first | (with_reducible exact HR175.out) | (with_reducible refine Kd.C_alloc ?_ _) | (with_reducible refine Kd.C_drewN ?_ _) | (with_reducible refine Kd.C_drew ?_) | exact HR175.out)) | (with_reducible refine Kd.C_alloc ?_ _) | (with_reducible refine Kd.C_drewN ?_ _) | (with_reducible refine Kd.C_drew ?_))); (case aB => exact (by repeat (first | (with_reducible first | exact HB.out | apply below_alloc | apply pw_below_drewN | apply below_drew1) | exact HB.out))); (case aF => exact (fun k_ hk => Kd.fresh' (Kd.R_lt (by (with_reducible repeat (first | apply Kd.R_alloc | apply Kd.R_drewN | apply Kd.R_drew)); exact HO_5.out)) k_ hk)); (case aO => exact (by (with_reducible repeat (first | apply Kd.R_alloc | apply Kd.R_drewN | apply Kd.R_drew)); exact HO171.out)); (case aS => exact (below_size (by repeat (first | (with_reducible first | exact HB.out | apply below_alloc | apply pw_below_drewN | apply below_drew1) | exact HB.out)))); (case aL => have := LMc31.out; omega); intro v177 w36 ho hb hg hat; rw [← Ny176.out] at ho; have n0_ := Aside0.mk (Kd.R_after (ok := (fun _ => True)) (by (with_reducible repeat (first | apply Kd.R_alloc | apply Kd.R_drewN | apply Kd.R_drew)); exact HO_5.out) hg hat); have n1_ := Aside0.mk (hb); have n2_ := Aside0.mk ((show Kd.C k40 w36 A35 y172.length y172 from by rw [Ny172.out, KA35.out]; exact Kd.C_drop (m := (x8_2 : Int).toNat) (c := co33) ((Kd.R_reads' (Kd.R_after (ok := (fun _ => True)) (by (with_reducible repeat (first | apply Kd.R_alloc | apply Kd.R_drewN | apply Kd.R_drew)); exact HO_5.out) hg hat)).2.2) KL35.out ((Kd.R_reads' (Kd.R_after (ok := (fun _ => True)) (by (with_reducible repeat (first | apply Kd.R_alloc | apply Kd.R_drewN | apply Kd.R_drew)); exact HO_5.out) hg hat)).2.1))); have n3_ := Aside0.mk (ho); clear HO_5; clear HB; clear HR175; clear HO171; have HO_5 := n0_; have HB := n1_; have HR175 := n2_; have HO178 := n3_; clear n0_ n1_ n2_ n3_; clear ho hb hg hat))
                              go_roundg k2
                              case measure => have := HK1.out; have := HK2.out; omega
                              case rel => exact ⟨(y176), (wrap64 (x6_1 + 1)), (by first | rfl | (simp; done) | (simp [*]; done)), H', ⟨by have := HK1.out; have := HK2.out; omega⟩, ⟨by (with_reducible repeat (first | apply Kd.R_alloc | apply Kd.R_drewN | apply Kd.R_drew)); exact Kd.R_mono HO178.out (fun _ hk => trivial)⟩, ⟨by repeat (first | (with_reducible first | exact HB.out | apply below_alloc | apply pw_below_drewN | apply below_drew1) | exact HB.out)⟩⟩
                            · rw [if_neg c31] at H
                              exact absurd H (by simp)
                          · rw [if_neg c30] at H
                            exact absurd H (by simp)
                        · rw [if_neg c29] at H
                          exact absurd H (by simp)
                      · rw [if_neg c28] at H
                        exact absurd H (by simp)
                    · rw [if_neg c27] at H
                      exact absurd H (by simp)
                  · rw [if_neg c26] at H
                    exact absurd H (by simp)
          · rw [if_neg c4] at H
            have c4b0 : (((rd_T40 l0 x6_1).f1) == 3) = false := beq_eq_false_iff_ne.mpr c4
            have c4b1 : (((rd_T40 l0 x6_1).f1) != 3) = true := bne_iff_ne.mpr c4
            have H' := Aside0.mk H
            clear H
            have p149 : 0 ≤ (x6_1 : Int) := of_decide_eq_true (by first | (with_reducible assumption) | assumption)
            have q149 : x6_1 < (l0.length : Int) := of_decide_eq_true (by first | (with_reducible assumption) | assumption)
            obtain ⟨ad149, e149, hx149_0, hx149_1, hx149_2, hx149_3, hx149_4⟩ := at_T40 HR0.out x6_1 p149 q149
            cases e149
            replace hx149_0 := (HB.out.cell (World.block_lt_of_cell? w _ hx149_0)).trans hx149_0
            replace hx149_1 := (HB.out.cell (World.block_lt_of_cell? w _ hx149_1)).trans hx149_1
            replace hx149_2 := (HB.out.cell (World.block_lt_of_cell? w _ hx149_2)).trans hx149_2
            replace hx149_3 := (HB.out.cell (World.block_lt_of_cell? w _ hx149_3)).trans hx149_3
            replace hx149_4 := (HB.out.cell (World.block_lt_of_cell? w _ hx149_4)).trans hx149_4
            replace p149 := eq_true p149
            replace q149 := eq_true q149
            go_wp2
            go_roundg k1
            case measure => have := HK1.out; omega
            case rel => exact ⟨(x5_1), (wrap64 (x6_1 + 1)), (by first | rfl | (simp; done) | (simp [*]; done)), H', ⟨by have := HK1.out; omega⟩, ⟨by (with_reducible repeat (first | apply Kd.R_alloc | apply Kd.R_drewN | apply Kd.R_drew)); exact HO_5.out⟩, ⟨by repeat (first | (with_reducible first | exact HB.out | apply below_alloc | apply pw_below_drewN | apply below_drew1) | exact HB.out)⟩⟩
        · rw [if_neg c3] at H
          exact absurd H (by simp)
      · rw [if_neg c2] at H
        have c2b0 : decide (x6_1 < (l0.length : Int)) = false := decide_eq_false c2
        clear c2
        have H' := Aside0.mk H
        clear H
        go_wp2
        go_loopg [9, 10, 11, 12] k1 (fun kq v9 v10 v11 v12 w' => ∃ (x9_2 : List (S35)) (x10_2 : Int) (x11_2 : Int) (x12_2 : Int), v10 = .int .i64 x10_2 ∧ v11 = .int .i64 x11_2 ∧ v12 = .int .i64 x12_2 ∧ Aside0 (arlinkref16_Layout.l2 kq x5_1 x9_2 x10_2 x11_2 x12_2 = some (r1, r2, r3)) ∧ Aside0 (kq ≤ k1) ∧ Aside0 (Kd.R k40 40 w' w.heap.size (fun _ => True) u5 x5_1) ∧ Aside0 (Kd.R k35 35 w' w.heap.size (fun _ => True) v9 x9_2) ∧ Aside0 (Below w.heap.size w w'))
        case atStart => exact ⟨(([] : List (S35))), (0), (1), (0), (by first | rfl | (simp; done) | (simp [*]; done)), (by first | rfl | (simp; done) | (simp [*]; done)), (by first | rfl | (simp; done) | (simp [*]; done)), H', ⟨Nat.le_refl _⟩, ⟨by (with_reducible repeat (first | apply Kd.R_alloc | apply Kd.R_drewN | apply Kd.R_drew)); exact HO_5.out⟩, ⟨by first | exact Kd.R_nil _ _ _ _ _ | exact Kd.N_nil _ _ _ _ _ | exact Kd.V_nil _ _ _ _ _ | exact Kd.Q_nil _ _ _ _ _ | exact Kd.S_nil _ _ _ _ _⟩, ⟨by repeat (first | (with_reducible first | exact HB.out | apply below_alloc | apply pw_below_drewN | apply below_drew1) | exact HB.out)⟩⟩
        case round =>
          clear H'
          try clear c1
          try clear p1
          try clear q1
          try clear hx1
          try clear c2
          try clear c2b0
          try clear p2
          try clear q2
          try clear c3
          try clear q3
          try clear c4
          try clear c4b0
          try clear c4b1
          try clear c5
          try clear c5b0
          try clear c6
          try clear p6
          try clear c7
          try clear c8
          try clear c10
          try clear c11
          try clear p14
          try clear q14
          try clear hx14
          try clear p15
          try clear q15
          try clear hx15
          try clear c16
          try clear p16
          try clear q16
          try clear hx16
          try clear c17
          try clear c17b0
          try clear c18
          try clear c18b0
          try clear c18b1
          try clear c19
          try clear c20
          try clear c24
          try clear q24
          try clear c26
          try clear c26b0
          try clear c27
          try clear c27b0
          try clear c28
          try clear c29
          try clear c29b0
          try clear c29b1
          try clear c30
          try clear c30b0
          try clear c30b1
          try clear c31
          try clear c35
          try clear q35
          try clear hx149_0
          try clear hx149_1
          try clear hx149_2
          try clear hx149_3
          try clear hx149_4
          try clear hx150_0
          try clear hx150_1
          try clear hx150_2
          try clear hx150_3
          try clear hx150_4
          try clear hx151_0
          try clear hx151_1
          try clear hx151_2
          try clear hx151_3
          try clear hx151_4
          try clear hx153_0
          try clear hx153_1
          try clear hx153_2
          try clear hx153_3
          try clear hx153_4
          try clear hx157_0
          try clear hx157_1
          try clear hx157_2
          try clear hx157_3
          try clear hx157_4
          try clear hx168_0
          try clear hx168_1
          try clear hx168_2
          try clear hx168_3
          try clear hx168_4
          try clear p149
          try clear p150
          try clear p151
          try clear p153
          try clear p157
          try clear p168
          try clear q024
          try clear q035
          try clear q149
          try clear q150
          try clear q151
          try clear q153
          try clear q157
          try clear q168
          try clear q24
          try clear q35
          obtain ⟨x9_2, x10_2, x11_2, x12_2, rfl, rfl, rfl, HA, HK2, HO_5, HO_9, HB⟩ := hrel
          cases gk with
          | zero => exact absurd HA.out (by simp [arlinkref16_Layout.l2])
          | succ k2 =>
            have H := HA.out
            clear HA
            simp only [arlinkref16_Layout.l2] at H
            by_cases c37 : x12_2 < (x5_1.length : Int)
            · rw [if_pos c37] at H
              have c37b0 : decide (x12_2 < (x5_1.length : Int)) = true := decide_eq_true c37
              clear c37
              by_cases c38 : 0 ≤ x12_2
              · rw [if_pos c38] at H
                have c38b0 : decide (0 ≤ x12_2) = true := decide_eq_true c38
                clear c38
                by_cases c39 : ((rd_T40 x5_1 x12_2).f3) = 0
                · rw [if_pos c39] at H
                  exact absurd H (by simp)
                · rw [if_neg c39] at H
                  have c39b0 : (((rd_T40 x5_1 x12_2).f3) == 0) = false := beq_eq_false_iff_ne.mpr c39
                  have c39b1 : (((rd_T40 x5_1 x12_2).f3) != 0) = true := bne_iff_ne.mpr c39
                  by_cases c40 : (Int.tmod x10_2 ((rd_T40 x5_1 x12_2).f3)) = 0
                  · rw [if_pos c40] at H
                    have c40b0 : ((Int.tmod x10_2 ((rd_T40 x5_1 x12_2).f3)) == 0) = true := beq_iff_eq.mpr c40
                    have c40b1 : ((Int.tmod x10_2 ((rd_T40 x5_1 x12_2).f3)) != 0) = false := bne_eq_false_iff_eq.mpr c40
                    clear c40
                    by_cases c41 : x9_2.length < 4398046511104
                    · rw [if_pos c41] at H
                      have LMc41 := Aside0.mk c41
                      clear c41
                      obtain ⟨y181, hy181⟩ : ∃ y_ : List (S35), y_ = (x9_2 ++ [(⟨(rd_T40 x5_1 x12_2).f0, x10_2, (rd_T40 x5_1 x12_2).f2⟩ : S35)]) := ⟨_, rfl⟩
                      replace H : (arlinkref16_Layout.l2 k2 x5_1 y181 (wrap64 (x10_2 + ((rd_T40 x5_1 x12_2).f2))) (mx x11_2 ((rd_T40 x5_1 x12_2).f3)) (wrap64 (x12_2 + 1))) = some (r1, r2, r3) := by first | (rw [hy181]; with_reducible exact H) | (have H2_ := (Option.bind_some _ _).symm.trans H; rw [hy181]; with_reducible exact H2_) | (have H2_ := (Option.bind_some _ _).symm.trans H; with_reducible exact H2_) | with_reducible exact H | (rw [hy181]; exact H) | exact H
                      have Ny181 := Aside0.mk hy181
                      clear hy181
                      obtain ⟨ji42, hji42⟩ : ∃ j_ : Int, (mx x11_2 ((rd_T40 x5_1 x12_2).f3)) = j_ := ⟨_, rfl⟩
                      replace H : (arlinkref16_Layout.l2 k2 x5_1 y181 (wrap64 (x10_2 + ((rd_T40 x5_1 x12_2).f2))) ji42 (wrap64 (x12_2 + 1))) = some (r1, r2, r3) := by first | (rw [hji42] at H; exact H) | (simp only [hji42] at H ⊢; exact H)
                      have hji42_ : (if x11_2 < ((rd_T40 x5_1 x12_2).f3) then ((rd_T40 x5_1 x12_2).f3) else x11_2) = ji42 := hji42
                      have H' := Aside0.mk H
                      clear H
                      obtain ⟨Ao43, co43, eo43⟩ := Kd.R_slice HO_5.out
                      subst eo43
                      have p179 : 0 ≤ (x12_2 : Int) := of_decide_eq_true (by first | (with_reducible assumption) | assumption)
                      have q179 : x12_2 < (x5_1.length : Int) := of_decide_eq_true (by first | (with_reducible assumption) | assumption)
                      obtain ⟨ad179, e179, hx179_0, hx179_1, hx179_2, hx179_3, hx179_4⟩ := at_T40 (Kd.R_reads' HO_5.out).2.2 x12_2 p179 q179
                      cases e179
                      replace p179 := eq_true p179
                      replace q179 := eq_true q179
                      go_wp2_with (first | ((with_reducible refine gate_dst (N := 13) rfl ?_); refine box_event ?hg (N := 13) ?hd (cs := #[.string (⟨#[]⟩ : ByteArray), .int .i64 0, .int .i64 0, .int .i64 0, .int .i64 0]) (t := 40) ?hr ?_; (case hd => rfl); (case hg => rfl); (case hr => first | (go_simp; done) | (go_simp; rfl)); intro gb180 hg w44 hbox hb; have n0_ := Aside0.mk (Kd.R_below (Kd.R_elderB (by (with_reducible repeat (first | apply Kd.R_alloc | apply Kd.R_drewN | apply Kd.R_drew)); exact HO_5.out) gb180 (Nat.le_of_eq hg.symm)) hb); have n1_ := Aside0.mk (Kd.R_below (by (with_reducible repeat (first | apply Kd.R_alloc | apply Kd.R_drewN | apply Kd.R_drew)); exact HO_9.out) hb); have n2_ := Aside0.mk (below_step (by repeat (first | (with_reducible first | exact HB.out | apply below_alloc | apply pw_below_drewN | apply below_drew1) | exact HB.out)) hb); have n3_ := Aside0.mk (hbox); have n4_ := Aside0.mk ((by rw [hg]; exact (below_size (by repeat (first | (with_reducible first | exact HB.out | apply below_alloc | apply pw_below_drewN | apply below_drew1) | exact HB.out))) : w.heap.size ≤ gb180)); have n5_ := Aside0.mk ((by rw [hg]; exact (below_size (by repeat (first | (with_reducible first | exact HB.out | apply below_alloc | apply pw_below_drewN | apply below_drew1) | exact HB.out))) : w.heap.size ≤ gb180)); clear HO_5; clear HO_9; clear HB; have HO_5 := n0_; have HO_9 := n1_; have HB := n2_; have BK180 := n3_; have GW180 := n4_; have GE180 := n5_; clear n0_ n1_ n2_ n3_ n4_ n5_; clear hb hbox hg; have hcz45_0 : w44.cell? ⟨gb180, 0, none⟩ = some (.string (⟨#[]⟩ : ByteArray)) := (blk_cell BK180.out 0).trans rfl; have hcz45_1 : w44.cell? ⟨gb180, 1, none⟩ = some (.int .i64 0) := (blk_cell BK180.out 1).trans rfl; have hcz45_2 : w44.cell? ⟨gb180, 2, none⟩ = some (.int .i64 0) := (blk_cell BK180.out 2).trans rfl; have hcz45_3 : w44.cell? ⟨gb180, 3, none⟩ = some (.int .i64 0) := (blk_cell BK180.out 3).trans rfl; have hcz45_4 : w44.cell? ⟨gb180, 4, none⟩ = some (.int .i64 0) := (blk_cell BK180.out 4).trans rfl; have hfz45_0 := blk_frozen BK180.out 0; have hfz45_1 := blk_frozen BK180.out 1; have hfz45_2 := blk_frozen BK180.out 2; have hfz45_3 := blk_frozen BK180.out 3; have hfz45_4 := blk_frozen BK180.out 4) | ((with_reducible refine gate_builtin (b := .append) (xs := #[.tmp 86, .tmp 93]) rfl ?_); at_builtin; refine Kd.R_append k35 (w0 := w) w.heap.size rfl (.tmp 86) (.tmp 93) 28 35 (.agg #[(.string ⟨#[]⟩), (.int .i64 0), (.int .i64 0)]) 32 rfl Try.underlying28 info35 rfl (by decide) (by omega) u9 x9_2 (⟨(rd_T40 x5_1 x12_2).f0, x10_2, (rd_T40 x5_1 x12_2).f2⟩ : S35) [.string ((rd_T40 x5_1 x12_2).f0), .int .i64 x10_2, .int .i64 ((rd_T40 x5_1 x12_2).f2)] (fun _ => True) (fun _ => False) rfl (by first | (go_simp; done) | (go_simp; rfl)) ?aP (fun _ hk => hk.elim) ?aF ?aO ?aB ?aS ?aL ?_; (case aP => exact k35_mkM _ _ _ (⟨(rd_T40 x5_1 x12_2).f0, x10_2, (rd_T40 x5_1 x12_2).f2⟩ : S35)); (case aB => exact (by repeat (first | (with_reducible first | exact HB.out | apply below_alloc | apply pw_below_drewN | apply below_drew1 | refine below_set ?_ GE180.out) | exact HB.out))); (case aF => exact (fun _ _ => trivial)); (case aO => exact (by (with_reducible repeat (first | apply Kd.R_alloc | apply Kd.R_drewN | apply Kd.R_drew)); exact Kd.R_mono (Kd.R_far (p := ⟨gb180, 4, none⟩) (Kd.R_far (p := ⟨gb180, 3, none⟩) (Kd.R_far (p := ⟨gb180, 2, none⟩) (Kd.R_far (p := ⟨gb180, 1, none⟩) (Kd.R_far (p := ⟨gb180, 0, none⟩) (Kd.R_types HO_9.out BK180.out (by decide)) (fun _ hk => hk.2) (.string ((rd_T40 x5_1 x12_2).f0))) (fun _ hk => hk.2) (.int .i64 ((rd_T40 x5_1 x12_2).f1))) (fun _ hk => hk.2) (.int .i64 ((rd_T40 x5_1 x12_2).f2))) (fun _ hk => hk.2) (.int .i64 ((rd_T40 x5_1 x12_2).f3))) (fun _ hk => hk.2) (.int .i64 ((rd_T40 x5_1 x12_2).f4))) (fun _ hk => trivial))); (case aS => exact (below_size (by repeat (first | (with_reducible first | exact HB.out | apply below_alloc | apply pw_below_drewN | apply below_drew1 | refine below_set ?_ GE180.out) | exact HB.out)))); (case aL => have := LMc41.out; omega); intro v182 w46 ho hb hg hat; rw [← Ny181.out] at ho; have n0_ := Aside0.mk (Kd.R_over' (by (with_reducible repeat (first | apply Kd.R_alloc | apply Kd.R_drewN | apply Kd.R_drew)); exact (Kd.R_mono (Kd.R_far (p := ⟨gb180, 4, none⟩) (Kd.R_far (p := ⟨gb180, 3, none⟩) (Kd.R_far (p := ⟨gb180, 2, none⟩) (Kd.R_far (p := ⟨gb180, 1, none⟩) (Kd.R_far (p := ⟨gb180, 0, none⟩) (Kd.R_mono HO_5.out (fun k_ hk => (⟨hk, hk.2⟩ : _ ∧ k_ ≠ gb180))) (fun _ hk => hk.2) (.string ((rd_T40 x5_1 x12_2).f0))) (fun _ hk => hk.2) (.int .i64 ((rd_T40 x5_1 x12_2).f1))) (fun _ hk => hk.2) (.int .i64 ((rd_T40 x5_1 x12_2).f2))) (fun _ hk => hk.2) (.int .i64 ((rd_T40 x5_1 x12_2).f3))) (fun _ hk => hk.2) (.int .i64 ((rd_T40 x5_1 x12_2).f4))) (fun _ h_ => h_.1))) (Kd.R_typed (by (with_reducible repeat (first | apply Kd.R_alloc | apply Kd.R_drewN | apply Kd.R_drew)); exact (Kd.R_mono (Kd.R_far (p := ⟨gb180, 4, none⟩) (Kd.R_far (p := ⟨gb180, 3, none⟩) (Kd.R_far (p := ⟨gb180, 2, none⟩) (Kd.R_far (p := ⟨gb180, 1, none⟩) (Kd.R_far (p := ⟨gb180, 0, none⟩) (Kd.R_types HO_9.out BK180.out (by decide)) (fun _ hk => hk.2) (.string ((rd_T40 x5_1 x12_2).f0))) (fun _ hk => hk.2) (.int .i64 ((rd_T40 x5_1 x12_2).f1))) (fun _ hk => hk.2) (.int .i64 ((rd_T40 x5_1 x12_2).f2))) (fun _ hk => hk.2) (.int .i64 ((rd_T40 x5_1 x12_2).f3))) (fun _ hk => hk.2) (.int .i64 ((rd_T40 x5_1 x12_2).f4))) (fun _ h_ => h_.1)))) (by decide) hg); have n1_ := Aside0.mk (blk_grown (g := gb180) (o := .cells #[.string ((rd_T40 x5_1 x12_2).f0), .int .i64 ((rd_T40 x5_1 x12_2).f1), .int .i64 ((rd_T40 x5_1 x12_2).f2), .int .i64 ((rd_T40 x5_1 x12_2).f3), .int .i64 ((rd_T40 x5_1 x12_2).f4)] 40 (0, 0)) (by (with_reducible repeat (first | refine blk_drewN ?_ _ | refine blk_drew ?_ | refine blk_alloc ?_ _)); refine blk_put (cs := #[.string ((rd_T40 x5_1 x12_2).f0), .int .i64 ((rd_T40 x5_1 x12_2).f1), .int .i64 ((rd_T40 x5_1 x12_2).f2), .int .i64 ((rd_T40 x5_1 x12_2).f3), .int .i64 0]) ?_ 4 _ rfl; (with_reducible repeat (first | refine blk_drewN ?_ _ | refine blk_drew ?_ | refine blk_alloc ?_ _)); refine blk_put (cs := #[.string ((rd_T40 x5_1 x12_2).f0), .int .i64 ((rd_T40 x5_1 x12_2).f1), .int .i64 ((rd_T40 x5_1 x12_2).f2), .int .i64 0, .int .i64 0]) ?_ 3 _ rfl; (with_reducible repeat (first | refine blk_drewN ?_ _ | refine blk_drew ?_ | refine blk_alloc ?_ _)); refine blk_put (cs := #[.string ((rd_T40 x5_1 x12_2).f0), .int .i64 ((rd_T40 x5_1 x12_2).f1), .int .i64 0, .int .i64 0, .int .i64 0]) ?_ 2 _ rfl; (with_reducible repeat (first | refine blk_drewN ?_ _ | refine blk_drew ?_ | refine blk_alloc ?_ _)); refine blk_put (cs := #[.string ((rd_T40 x5_1 x12_2).f0), .int .i64 0, .int .i64 0, .int .i64 0, .int .i64 0]) ?_ 1 _ rfl; (with_reducible repeat (first | refine blk_drewN ?_ _ | refine blk_drew ?_ | refine blk_alloc ?_ _)); refine blk_put (cs := #[.string (⟨#[]⟩ : ByteArray), .int .i64 0, .int .i64 0, .int .i64 0, .int .i64 0]) ?_ 0 _ rfl; (with_reducible repeat (first | refine blk_drewN ?_ _ | refine blk_drew ?_ | refine blk_alloc ?_ _)); exact BK180.out) hg (Kd.R_ne HO_9.out BK180.out (by decide))); have n2_ := Aside0.mk (hb); have n3_ := Aside0.mk (ho); clear HO_5; clear BK180; clear HB; clear HO_9; have HO_5 := n0_; have BK180 := n1_; have HB := n2_; have HO183 := n3_; clear n0_ n1_ n2_ n3_; clear ho hb hg hat; have hcz47_0 : w46.cell? ⟨gb180, 0, none⟩ = some (.string ((rd_T40 x5_1 x12_2).f0)) := (blk_cell BK180.out 0).trans rfl; have hcz47_1 : w46.cell? ⟨gb180, 1, none⟩ = some (.int .i64 ((rd_T40 x5_1 x12_2).f1)) := (blk_cell BK180.out 1).trans rfl; have hcz47_2 : w46.cell? ⟨gb180, 2, none⟩ = some (.int .i64 ((rd_T40 x5_1 x12_2).f2)) := (blk_cell BK180.out 2).trans rfl; have hcz47_3 : w46.cell? ⟨gb180, 3, none⟩ = some (.int .i64 ((rd_T40 x5_1 x12_2).f3)) := (blk_cell BK180.out 3).trans rfl; have hcz47_4 : w46.cell? ⟨gb180, 4, none⟩ = some (.int .i64 ((rd_T40 x5_1 x12_2).f4)) := (blk_cell BK180.out 4).trans rfl; have hfz47_0 := blk_frozen BK180.out 0; have hfz47_1 := blk_frozen BK180.out 1; have hfz47_2 := blk_frozen BK180.out 2; have hfz47_3 := blk_frozen BK180.out 3; have hfz47_4 := blk_frozen BK180.out 4))
                      go_roundg k2
                      case measure => have := HK1.out; have := HK2.out; omega
                      case rel => exact ⟨(y181), (wrap64 (x10_2 + ((rd_T40 x5_1 x12_2).f2))), (ji42), (wrap64 (x12_2 + 1)), (by first | rfl | (simp; done) | (simp [*]; done)), (by first | rfl | (simp; done) | (simp only [← hji42] <;> (first | rfl | simp)) | (simp [*]; done)), (by first | rfl | (simp; done) | (simp [*]; done)), H', ⟨by have := HK1.out; have := HK2.out; omega⟩, ⟨by (with_reducible repeat (first | apply Kd.R_alloc | apply Kd.R_drewN | apply Kd.R_drew)); exact Kd.R_mono HO_5.out (fun _ hk => trivial)⟩, ⟨by (with_reducible repeat (first | apply Kd.R_alloc | apply Kd.R_drewN | apply Kd.R_drew)); exact HO183.out⟩, ⟨by repeat (first | (with_reducible first | exact HB.out | apply below_alloc | apply pw_below_drewN | apply below_drew1 | refine below_set ?_ GE180.out) | exact HB.out)⟩⟩
                    · rw [if_neg c41] at H
                      exact absurd H (by simp)
                  · rw [if_neg c40] at H
                    have c40b0 : ((Int.tmod x10_2 ((rd_T40 x5_1 x12_2).f3)) == 0) = false := beq_eq_false_iff_ne.mpr c40
                    have c40b1 : ((Int.tmod x10_2 ((rd_T40 x5_1 x12_2).f3)) != 0) = true := bne_iff_ne.mpr c40
                    by_cases c48 : x9_2.length < 4398046511104
                    · rw [if_pos c48] at H
                      have LMc48 := Aside0.mk c48
                      clear c48
                      obtain ⟨y184, hy184⟩ : ∃ y_ : List (S35), y_ = (x9_2 ++ [(⟨(rd_T40 x5_1 x12_2).f0, wrap64 ((wrap64 (x10_2 + ((rd_T40 x5_1 x12_2).f3))) - (Int.tmod x10_2 ((rd_T40 x5_1 x12_2).f3))), (rd_T40 x5_1 x12_2).f2⟩ : S35)]) := ⟨_, rfl⟩
                      replace H : (arlinkref16_Layout.l2 k2 x5_1 y184 (wrap64 ((wrap64 ((wrap64 (x10_2 + ((rd_T40 x5_1 x12_2).f3))) - (Int.tmod x10_2 ((rd_T40 x5_1 x12_2).f3)))) + ((rd_T40 x5_1 x12_2).f2))) (mx x11_2 ((rd_T40 x5_1 x12_2).f3)) (wrap64 (x12_2 + 1))) = some (r1, r2, r3) := by first | (rw [hy184]; with_reducible exact H) | (have H2_ := (Option.bind_some _ _).symm.trans H; rw [hy184]; with_reducible exact H2_) | (have H2_ := (Option.bind_some _ _).symm.trans H; with_reducible exact H2_) | with_reducible exact H | (rw [hy184]; exact H) | exact H
                      have Ny184 := Aside0.mk hy184
                      clear hy184
                      obtain ⟨ji49, hji49⟩ : ∃ j_ : Int, (mx x11_2 ((rd_T40 x5_1 x12_2).f3)) = j_ := ⟨_, rfl⟩
                      replace H : (arlinkref16_Layout.l2 k2 x5_1 y184 (wrap64 ((wrap64 ((wrap64 (x10_2 + ((rd_T40 x5_1 x12_2).f3))) - (Int.tmod x10_2 ((rd_T40 x5_1 x12_2).f3)))) + ((rd_T40 x5_1 x12_2).f2))) ji49 (wrap64 (x12_2 + 1))) = some (r1, r2, r3) := by first | (rw [hji49] at H; exact H) | (simp only [hji49] at H ⊢; exact H)
                      have hji49_ : (if x11_2 < ((rd_T40 x5_1 x12_2).f3) then ((rd_T40 x5_1 x12_2).f3) else x11_2) = ji49 := hji49
                      have H' := Aside0.mk H
                      clear H
                      obtain ⟨Ao50, co50, eo50⟩ := Kd.R_slice HO_5.out
                      subst eo50
                      have p179 : 0 ≤ (x12_2 : Int) := of_decide_eq_true (by first | (with_reducible assumption) | assumption)
                      have q179 : x12_2 < (x5_1.length : Int) := of_decide_eq_true (by first | (with_reducible assumption) | assumption)
                      obtain ⟨ad179, e179, hx179_0, hx179_1, hx179_2, hx179_3, hx179_4⟩ := at_T40 (Kd.R_reads' HO_5.out).2.2 x12_2 p179 q179
                      cases e179
                      replace p179 := eq_true p179
                      replace q179 := eq_true q179
                      try go_wp2_with (first | ((with_reducible refine gate_dst (N := 13) rfl ?_); refine box_event ?hg (N := 13) ?hd (cs := #[.string (⟨#[]⟩ : ByteArray), .int .i64 0, .int .i64 0, .int .i64 0, .int .i64 0]) (t := 40) ?hr ?_; (case hd => rfl); (case hg => rfl); (case hr => first | (go_simp; done) | (go_simp; rfl)); intro gb180 hg w51 hbox hb; have n0_ := Aside0.mk (Kd.R_below (Kd.R_elderB (by (with_reducible repeat (first | apply Kd.R_alloc | apply Kd.R_drewN | apply Kd.R_drew)); exact HO_5.out) gb180 (Nat.le_of_eq hg.symm)) hb); have n1_ := Aside0.mk (Kd.R_below (by (with_reducible repeat (first | apply Kd.R_alloc | apply Kd.R_drewN | apply Kd.R_drew)); exact HO_9.out) hb); have n2_ := Aside0.mk (below_step (by repeat (first | (with_reducible first | exact HB.out | apply below_alloc | apply pw_below_drewN | apply below_drew1) | exact HB.out)) hb); have n3_ := Aside0.mk (hbox); have n4_ := Aside0.mk ((by rw [hg]; exact (below_size (by repeat (first | (with_reducible first | exact HB.out | apply below_alloc | apply pw_below_drewN | apply below_drew1) | exact HB.out))) : w.heap.size ≤ gb180)); have n5_ := Aside0.mk ((by rw [hg]; exact (below_size (by repeat (first | (with_reducible first | exact HB.out | apply below_alloc | apply pw_below_drewN | apply below_drew1) | exact HB.out))) : w.heap.size ≤ gb180)); clear HO_5; clear HO_9; clear HB; have HO_5 := n0_; have HO_9 := n1_; have HB := n2_; have BK180 := n3_; have GW180 := n4_; have GE180 := n5_; clear n0_ n1_ n2_ n3_ n4_ n5_; clear hb hbox hg; have hcz52_0 : w51.cell? ⟨gb180, 0, none⟩ = some (.string (⟨#[]⟩ : ByteArray)) := (blk_cell BK180.out 0).trans rfl; have hcz52_1 : w51.cell? ⟨gb180, 1, none⟩ = some (.int .i64 0) := (blk_cell BK180.out 1).trans rfl; have hcz52_2 : w51.cell? ⟨gb180, 2, none⟩ = some (.int .i64 0) := (blk_cell BK180.out 2).trans rfl; have hcz52_3 : w51.cell? ⟨gb180, 3, none⟩ = some (.int .i64 0) := (blk_cell BK180.out 3).trans rfl; have hcz52_4 : w51.cell? ⟨gb180, 4, none⟩ = some (.int .i64 0) := (blk_cell BK180.out 4).trans rfl; have hfz52_0 := blk_frozen BK180.out 0; have hfz52_1 := blk_frozen BK180.out 1; have hfz52_2 := blk_frozen BK180.out 2; have hfz52_3 := blk_frozen BK180.out 3; have hfz52_4 := blk_frozen BK180.out 4))
                      have n0_ : Aside0 (Kd.R k40 40 (((((w51.setCell ⟨gb180, 0, none⟩ (.string ((rd_T40 x5_1 x12_2).f0))).setCell ⟨gb180, 1, none⟩ (.int .i64 ((rd_T40 x5_1 x12_2).f1))).setCell ⟨gb180, 2, none⟩ (.int .i64 ((rd_T40 x5_1 x12_2).f2))).setCell ⟨gb180, 3, none⟩ (.int .i64 ((rd_T40 x5_1 x12_2).f3))).setCell ⟨gb180, 4, none⟩ (.int .i64 ((rd_T40 x5_1 x12_2).f4))) w.heap.size (fun k_ => k_ ≠ gb180) (.slice (some ad179) x5_1.length co50) x5_1) := ⟨by (with_reducible repeat (first | apply Kd.R_alloc | apply Kd.R_drewN | apply Kd.R_drew)); exact Kd.R_mono (Kd.R_far (p := ⟨gb180, 4, none⟩) (Kd.R_far (p := ⟨gb180, 3, none⟩) (Kd.R_far (p := ⟨gb180, 2, none⟩) (Kd.R_far (p := ⟨gb180, 1, none⟩) (Kd.R_far (p := ⟨gb180, 0, none⟩) (Kd.R_mono HO_5.out (fun k_ hk => (⟨hk, hk.2⟩ : _ ∧ k_ ≠ gb180))) (fun _ hk => hk.2) (.string ((rd_T40 x5_1 x12_2).f0))) (fun _ hk => hk.2) (.int .i64 ((rd_T40 x5_1 x12_2).f1))) (fun _ hk => hk.2) (.int .i64 ((rd_T40 x5_1 x12_2).f2))) (fun _ hk => hk.2) (.int .i64 ((rd_T40 x5_1 x12_2).f3))) (fun _ hk => hk.2) (.int .i64 ((rd_T40 x5_1 x12_2).f4))) (fun _ hk => hk.1.2)⟩
                      have n1_ : Aside0 (Kd.R k35 35 (((((w51.setCell ⟨gb180, 0, none⟩ (.string ((rd_T40 x5_1 x12_2).f0))).setCell ⟨gb180, 1, none⟩ (.int .i64 ((rd_T40 x5_1 x12_2).f1))).setCell ⟨gb180, 2, none⟩ (.int .i64 ((rd_T40 x5_1 x12_2).f2))).setCell ⟨gb180, 3, none⟩ (.int .i64 ((rd_T40 x5_1 x12_2).f3))).setCell ⟨gb180, 4, none⟩ (.int .i64 ((rd_T40 x5_1 x12_2).f4))) w.heap.size (fun _ => True) u9 x9_2) := ⟨by (with_reducible repeat (first | apply Kd.R_alloc | apply Kd.R_drewN | apply Kd.R_drew)); exact Kd.R_mono (Kd.R_far (p := ⟨gb180, 4, none⟩) (Kd.R_far (p := ⟨gb180, 3, none⟩) (Kd.R_far (p := ⟨gb180, 2, none⟩) (Kd.R_far (p := ⟨gb180, 1, none⟩) (Kd.R_far (p := ⟨gb180, 0, none⟩) (Kd.R_types HO_9.out BK180.out (by decide)) (fun _ hk => hk.2) (.string ((rd_T40 x5_1 x12_2).f0))) (fun _ hk => hk.2) (.int .i64 ((rd_T40 x5_1 x12_2).f1))) (fun _ hk => hk.2) (.int .i64 ((rd_T40 x5_1 x12_2).f2))) (fun _ hk => hk.2) (.int .i64 ((rd_T40 x5_1 x12_2).f3))) (fun _ hk => hk.2) (.int .i64 ((rd_T40 x5_1 x12_2).f4))) (fun _ hk => trivial)⟩
                      have n2_ : Aside0 ((((((w51.setCell ⟨gb180, 0, none⟩ (.string ((rd_T40 x5_1 x12_2).f0))).setCell ⟨gb180, 1, none⟩ (.int .i64 ((rd_T40 x5_1 x12_2).f1))).setCell ⟨gb180, 2, none⟩ (.int .i64 ((rd_T40 x5_1 x12_2).f2))).setCell ⟨gb180, 3, none⟩ (.int .i64 ((rd_T40 x5_1 x12_2).f3))).setCell ⟨gb180, 4, none⟩ (.int .i64 ((rd_T40 x5_1 x12_2).f4))).heap[gb180]? = some (.cells #[.string ((rd_T40 x5_1 x12_2).f0), .int .i64 ((rd_T40 x5_1 x12_2).f1), .int .i64 ((rd_T40 x5_1 x12_2).f2), .int .i64 ((rd_T40 x5_1 x12_2).f3), .int .i64 ((rd_T40 x5_1 x12_2).f4)] 40 (0, 0))) := ⟨by (with_reducible repeat (first | refine blk_drewN ?_ _ | refine blk_drew ?_ | refine blk_alloc ?_ _)); refine blk_put (cs := #[.string ((rd_T40 x5_1 x12_2).f0), .int .i64 ((rd_T40 x5_1 x12_2).f1), .int .i64 ((rd_T40 x5_1 x12_2).f2), .int .i64 ((rd_T40 x5_1 x12_2).f3), .int .i64 0]) ?_ 4 _ rfl; (with_reducible repeat (first | refine blk_drewN ?_ _ | refine blk_drew ?_ | refine blk_alloc ?_ _)); refine blk_put (cs := #[.string ((rd_T40 x5_1 x12_2).f0), .int .i64 ((rd_T40 x5_1 x12_2).f1), .int .i64 ((rd_T40 x5_1 x12_2).f2), .int .i64 0, .int .i64 0]) ?_ 3 _ rfl; (with_reducible repeat (first | refine blk_drewN ?_ _ | refine blk_drew ?_ | refine blk_alloc ?_ _)); refine blk_put (cs := #[.string ((rd_T40 x5_1 x12_2).f0), .int .i64 ((rd_T40 x5_1 x12_2).f1), .int .i64 0, .int .i64 0, .int .i64 0]) ?_ 2 _ rfl; (with_reducible repeat (first | refine blk_drewN ?_ _ | refine blk_drew ?_ | refine blk_alloc ?_ _)); refine blk_put (cs := #[.string ((rd_T40 x5_1 x12_2).f0), .int .i64 0, .int .i64 0, .int .i64 0, .int .i64 0]) ?_ 1 _ rfl; (with_reducible repeat (first | refine blk_drewN ?_ _ | refine blk_drew ?_ | refine blk_alloc ?_ _)); refine blk_put (cs := #[.string (⟨#[]⟩ : ByteArray), .int .i64 0, .int .i64 0, .int .i64 0, .int .i64 0]) ?_ 0 _ rfl; (with_reducible repeat (first | refine blk_drewN ?_ _ | refine blk_drew ?_ | refine blk_alloc ?_ _)); exact BK180.out⟩
                      have n3_ : Aside0 (Below w.heap.size w (((((w51.setCell ⟨gb180, 0, none⟩ (.string ((rd_T40 x5_1 x12_2).f0))).setCell ⟨gb180, 1, none⟩ (.int .i64 ((rd_T40 x5_1 x12_2).f1))).setCell ⟨gb180, 2, none⟩ (.int .i64 ((rd_T40 x5_1 x12_2).f2))).setCell ⟨gb180, 3, none⟩ (.int .i64 ((rd_T40 x5_1 x12_2).f3))).setCell ⟨gb180, 4, none⟩ (.int .i64 ((rd_T40 x5_1 x12_2).f4)))) := ⟨by repeat (first | (with_reducible first | exact HB.out | apply below_alloc | apply pw_below_drewN | apply below_drew1 | refine below_set ?_ GE180.out) | exact HB.out)⟩
                      (try clear HO_5)
                      (try clear HO_9)
                      (try clear BK180)
                      (try clear HB)
                      generalize (((((w51.setCell ⟨gb180, 0, none⟩ (.string ((rd_T40 x5_1 x12_2).f0))).setCell ⟨gb180, 1, none⟩ (.int .i64 ((rd_T40 x5_1 x12_2).f1))).setCell ⟨gb180, 2, none⟩ (.int .i64 ((rd_T40 x5_1 x12_2).f2))).setCell ⟨gb180, 3, none⟩ (.int .i64 ((rd_T40 x5_1 x12_2).f3))).setCell ⟨gb180, 4, none⟩ (.int .i64 ((rd_T40 x5_1 x12_2).f4))) = w53 at n0_ n1_ n2_ n3_ ⊢
                      have HO_5 := n0_
                      have HO_9 := n1_
                      have BK180 := n2_
                      have HB := n3_
                      clear n0_ n1_ n2_ n3_
                      have n0_ := Aside0.mk (Kd.R_drew HO_5.out)
                      have n1_ := Aside0.mk (Kd.R_drew HO_9.out)
                      have n2_ := Aside0.mk (blk_drew BK180.out)
                      have n3_ := Aside0.mk (below_drew1 HB.out)
                      clear HO_5
                      clear HO_9
                      clear BK180
                      clear HB
                      have HO_5 := n0_
                      have HO_9 := n1_
                      have BK180 := n2_
                      have HB := n3_
                      clear n0_ n1_ n2_ n3_
                      refine start_ (n := 10) (S := fun w' => w'.cell? ⟨gb180, 0, none⟩ = some (.string ((rd_T40 x5_1 x12_2).f0)) ∧ w'.cell? ⟨gb180, 1, none⟩ = some (.int .i64 ((rd_T40 x5_1 x12_2).f1)) ∧ w'.cell? ⟨gb180, 2, none⟩ = some (.int .i64 ((rd_T40 x5_1 x12_2).f2)) ∧ w'.cell? ⟨gb180, 3, none⟩ = some (.int .i64 ((rd_T40 x5_1 x12_2).f3)) ∧ w'.cell? ⟨gb180, 4, none⟩ = some (.int .i64 ((rd_T40 x5_1 x12_2).f4))) (ds := []) #[false, false, false, false, false, false, false, false, false, false] (by kernel_rfl) rfl rfl ⟨(blk_cell BK180.out 0).trans rfl, (blk_cell BK180.out 1).trans rfl, (blk_cell BK180.out 2).trans rfl, (blk_cell BK180.out 3).trans rfl, (blk_cell BK180.out 4).trans rfl⟩ (fun hHeld => ?_); refine with_tabW arlinkref16_Layout.tab21 arlinkref16_Layout.bits21 (fun HT_ HW_ => ?_)
                      generalize w53.drew = w54 at HO_5 HO_9 BK180 HB hHeld ⊢
                      refine pure_ (i := 0) (N := some 77) (v := ?_) (a' := ?_) #[true, false, false, false, false, false, false, false, false, false] rfl rfl (any_of HT_.out (by kernel_rfl)) (fun _ _ _ h => h) (Or.inl ⟨by rfl, ?_⟩) ?_ ?_
                      rotate_left
                      · intro w'
                        go_simp
                        with_reducible rfl
                      rotate_left
                      · simp only [Act.put, List.setIfInBounds_toArray, List.set_cons_zero, List.set_cons_succ, i64_w, i32_w]
                        rfl
                      refine pure_ (i := 1) (N := some 78) (v := ?_) (a' := ?_) #[true, true, false, false, false, false, false, false, false, false] rfl rfl (any_of HT_.out (by kernel_rfl)) (fun _ _ _ h => h) (Or.inl ⟨by rfl, ?_⟩) ?_ ?_
                      rotate_left
                      · intro w'
                        go_simp
                        with_reducible rfl
                      rotate_left
                      · simp only [Act.put, List.setIfInBounds_toArray, List.set_cons_zero, List.set_cons_succ, i64_w, i32_w]
                        rfl
                      refine pure_ (i := 4) (N := some 81) (v := ?_) (a' := ?_) #[true, true, false, false, true, false, false, false, false, false] rfl rfl (any_of HT_.out (by kernel_rfl)) (fun _ _ _ h => h) (Or.inl ⟨by rfl, ?_⟩) ?_ ?_
                      rotate_left
                      · intro w'
                        go_simp
                        with_reducible rfl
                      rotate_left
                      · simp only [Act.put, List.setIfInBounds_toArray, List.set_cons_zero, List.set_cons_succ, i64_w, i32_w]
                        rfl
                      refine pure_ (i := 5) (N := some 82) (v := ?_) (a' := ?_) #[true, true, false, false, true, true, false, false, false, false] rfl rfl (any_of HT_.out (by kernel_rfl)) (fun _ _ _ h => h) (Or.inl ⟨by rfl, ?_⟩) ?_ ?_
                      rotate_left
                      · intro w'
                        go_simp
                        with_reducible rfl
                      rotate_left
                      · simp only [Act.put, List.setIfInBounds_toArray, List.set_cons_zero, List.set_cons_succ, i64_w, i32_w]
                        rfl
                      refine take_ (i := 2) (N := some 79) (v := ?_) (a' := ?_) #[true, true, true, false, true, true, false, false, false, false] rfl rfl (take_ofW HT_.out HW_.out (by kernel_rfl)) (fun _ _ _ h => h) (Or.inl ⟨by rfl, ?_⟩) hHeld ?_ ?_
                      rotate_left
                      · rintro w' ⟨s0, s1, s2, s3, s4⟩
                        go_simp
                        with_reducible rfl
                      rotate_left
                      · simp only [Act.put, List.setIfInBounds_toArray, List.set_cons_zero, List.set_cons_succ, i64_w, i32_w]
                        rfl
                      refine pure_ (i := 3) (N := some 80) (v := ?_) (a' := ?_) #[true, true, true, true, true, true, false, false, false, false] rfl rfl (any_of HT_.out (by kernel_rfl)) (fun _ _ _ h => h) (Or.inl ⟨by rfl, ?_⟩) ?_ ?_
                      rotate_left
                      · intro w'
                        go_simp
                        with_reducible rfl
                      rotate_left
                      · simp only [Act.put, List.setIfInBounds_toArray, List.set_cons_zero, List.set_cons_succ, i64_w, i32_w]
                        rfl
                      refine take_ (i := 6) (N := some 83) (v := ?_) (a' := ?_) #[true, true, true, true, true, true, true, false, false, false] rfl rfl (take_ofW HT_.out HW_.out (by kernel_rfl)) (fun _ _ _ h => h) (Or.inl ⟨by rfl, ?_⟩) hHeld ?_ ?_
                      rotate_left
                      · rintro w' ⟨s0, s1, s2, s3, s4⟩
                        go_simp
                        with_reducible rfl
                      rotate_left
                      · simp only [Act.put, List.setIfInBounds_toArray, List.set_cons_zero, List.set_cons_succ, i64_w, i32_w]
                        rfl
                      refine pure_ (i := 7) (N := some 84) (v := ?_) (a' := ?_) #[true, true, true, true, true, true, true, true, false, false] rfl rfl (any_of HT_.out (by kernel_rfl)) (fun _ _ _ h => h) (Or.inl ⟨by rfl, ?_⟩) ?_ ?_
                      rotate_left
                      · intro w'
                        go_simp
                        with_reducible rfl
                      rotate_left
                      · simp only [Act.put, List.setIfInBounds_toArray, List.set_cons_zero, List.set_cons_succ, i64_w, i32_w]
                        rfl
                      refine pure_ (i := 8) (N := some 85) (v := ?_) (a' := ?_) #[true, true, true, true, true, true, true, true, true, false] rfl rfl (any_of HT_.out (by kernel_rfl)) (fun _ _ _ h => h) (Or.inl ⟨by rfl, ?_⟩) ?_ ?_
                      rotate_left
                      · intro w'
                        go_simp
                        with_reducible rfl
                      rotate_left
                      · simp only [Act.put, List.setIfInBounds_toArray, List.set_cons_zero, List.set_cons_succ, i64_w, i32_w]
                        rfl
                      refine pure_ (i := 9) (N := some 10) (v := ?_) (a' := ?_) #[true, true, true, true, true, true, true, true, true, true] rfl rfl (any_of HT_.out (by kernel_rfl)) (fun _ _ _ h => h) (Or.inl ⟨by rfl, ?_⟩) ?_ ?_
                      rotate_left
                      · intro w'
                        go_simp
                        with_reducible rfl
                      rotate_left
                      · simp only [Act.put, List.setIfInBounds_toArray, List.set_cons_zero, List.set_cons_succ, i64_w, i32_w]
                        rfl
                      refine done_ (done_of HT_.out (by kernel_rfl)) ?_
                      have hcz55_0 : w54.cell? ⟨gb180, 0, none⟩ = some (.string ((rd_T40 x5_1 x12_2).f0)) := (blk_cell BK180.out 0).trans rfl
                      have hcz55_1 : w54.cell? ⟨gb180, 1, none⟩ = some (.int .i64 ((rd_T40 x5_1 x12_2).f1)) := (blk_cell BK180.out 1).trans rfl
                      have hcz55_2 : w54.cell? ⟨gb180, 2, none⟩ = some (.int .i64 ((rd_T40 x5_1 x12_2).f2)) := (blk_cell BK180.out 2).trans rfl
                      have hcz55_3 : w54.cell? ⟨gb180, 3, none⟩ = some (.int .i64 ((rd_T40 x5_1 x12_2).f3)) := (blk_cell BK180.out 3).trans rfl
                      have hcz55_4 : w54.cell? ⟨gb180, 4, none⟩ = some (.int .i64 ((rd_T40 x5_1 x12_2).f4)) := (blk_cell BK180.out 4).trans rfl
                      have hfz55_0 := blk_frozen BK180.out 0
                      have hfz55_1 := blk_frozen BK180.out 1
                      have hfz55_2 := blk_frozen BK180.out 2
                      have hfz55_3 := blk_frozen BK180.out 3
                      have hfz55_4 := blk_frozen BK180.out 4
                      try go_wp2_with (first | ((with_reducible refine gate_builtin (b := .append) (xs := #[.tmp 86, .tmp 93]) rfl ?_); at_builtin; refine Kd.R_append k35 (w0 := w) w.heap.size rfl (.tmp 86) (.tmp 93) 28 35 (.agg #[(.string ⟨#[]⟩), (.int .i64 0), (.int .i64 0)]) 32 rfl Try.underlying28 info35 rfl (by decide) (by omega) u9 x9_2 (⟨(rd_T40 x5_1 x12_2).f0, wrap64 ((wrap64 (x10_2 + ((rd_T40 x5_1 x12_2).f3))) - (Int.tmod x10_2 ((rd_T40 x5_1 x12_2).f3))), (rd_T40 x5_1 x12_2).f2⟩ : S35) [.string ((rd_T40 x5_1 x12_2).f0), .int .i64 (wrap64 ((wrap64 (x10_2 + ((rd_T40 x5_1 x12_2).f3))) - (Int.tmod x10_2 ((rd_T40 x5_1 x12_2).f3)))), .int .i64 ((rd_T40 x5_1 x12_2).f2)] (fun _ => True) (fun _ => False) rfl rfl ?aP (fun _ hk => hk.elim) ?aF ?aO ?aB ?aS ?aL ?_; (case aP => exact k35_mkM _ _ _ (⟨(rd_T40 x5_1 x12_2).f0, wrap64 ((wrap64 (x10_2 + ((rd_T40 x5_1 x12_2).f3))) - (Int.tmod x10_2 ((rd_T40 x5_1 x12_2).f3))), (rd_T40 x5_1 x12_2).f2⟩ : S35)); (case aB => exact (by repeat (first | (with_reducible first | exact HB.out | apply below_alloc | apply pw_below_drewN | apply below_drew1 | refine below_set ?_ GE180.out) | exact HB.out))); (case aF => exact (fun _ _ => trivial)); (case aO => exact (by (with_reducible repeat (first | apply Kd.R_alloc | apply Kd.R_drewN | apply Kd.R_drew)); exact HO_9.out)); (case aS => exact (below_size (by repeat (first | (with_reducible first | exact HB.out | apply below_alloc | apply pw_below_drewN | apply below_drew1 | refine below_set ?_ GE180.out) | exact HB.out)))); (case aL => have := LMc48.out; omega); intro v185 w56 ho hb hg hat; rw [← Ny184.out] at ho; have n0_ := Aside0.mk (Kd.R_over' (by (with_reducible repeat (first | apply Kd.R_alloc | apply Kd.R_drewN | apply Kd.R_drew)); exact HO_5.out) (Kd.R_typed (by (with_reducible repeat (first | apply Kd.R_alloc | apply Kd.R_drewN | apply Kd.R_drew)); exact HO_9.out)) (by decide) hg); have n1_ := Aside0.mk (blk_grown (g := gb180) (o := .cells #[.string ((rd_T40 x5_1 x12_2).f0), .int .i64 ((rd_T40 x5_1 x12_2).f1), .int .i64 ((rd_T40 x5_1 x12_2).f2), .int .i64 ((rd_T40 x5_1 x12_2).f3), .int .i64 ((rd_T40 x5_1 x12_2).f4)] 40 (0, 0)) (by (with_reducible repeat (first | refine blk_drewN ?_ _ | refine blk_drew ?_ | refine blk_alloc ?_ _)); exact BK180.out) hg (Kd.R_ne HO_9.out BK180.out (by decide))); have n2_ := Aside0.mk (hb); have n3_ := Aside0.mk (ho); clear HO_5; clear BK180; clear HB; clear HO_9; have HO_5 := n0_; have BK180 := n1_; have HB := n2_; have HO186 := n3_; clear n0_ n1_ n2_ n3_; clear ho hb hg hat; have hcz57_0 : w56.cell? ⟨gb180, 0, none⟩ = some (.string ((rd_T40 x5_1 x12_2).f0)) := (blk_cell BK180.out 0).trans rfl; have hcz57_1 : w56.cell? ⟨gb180, 1, none⟩ = some (.int .i64 ((rd_T40 x5_1 x12_2).f1)) := (blk_cell BK180.out 1).trans rfl; have hcz57_2 : w56.cell? ⟨gb180, 2, none⟩ = some (.int .i64 ((rd_T40 x5_1 x12_2).f2)) := (blk_cell BK180.out 2).trans rfl; have hcz57_3 : w56.cell? ⟨gb180, 3, none⟩ = some (.int .i64 ((rd_T40 x5_1 x12_2).f3)) := (blk_cell BK180.out 3).trans rfl; have hcz57_4 : w56.cell? ⟨gb180, 4, none⟩ = some (.int .i64 ((rd_T40 x5_1 x12_2).f4)) := (blk_cell BK180.out 4).trans rfl; have hfz57_0 := blk_frozen BK180.out 0; have hfz57_1 := blk_frozen BK180.out 1; have hfz57_2 := blk_frozen BK180.out 2; have hfz57_3 := blk_frozen BK180.out 3; have hfz57_4 := blk_frozen BK180.out 4))
                      go_roundg k2
                      case measure => have := HK1.out; have := HK2.out; omega
                      case rel => exact ⟨(y184), (wrap64 ((wrap64 ((wrap64 (x10_2 + ((rd_T40 x5_1 x12_2).f3))) - (Int.tmod x10_2 ((rd_T40 x5_1 x12_2).f3)))) + ((rd_T40 x5_1 x12_2).f2))), (ji49), (wrap64 (x12_2 + 1)), (by first | rfl | (simp; done) | (simp [*]; done)), (by first | rfl | (simp; done) | (simp only [← hji49] <;> (first | rfl | simp)) | (simp [*]; done)), (by first | rfl | (simp; done) | (simp [*]; done)), H', ⟨by have := HK1.out; have := HK2.out; omega⟩, ⟨by (with_reducible repeat (first | apply Kd.R_alloc | apply Kd.R_drewN | apply Kd.R_drew)); exact Kd.R_mono HO_5.out (fun _ hk => trivial)⟩, ⟨by (with_reducible repeat (first | apply Kd.R_alloc | apply Kd.R_drewN | apply Kd.R_drew)); exact HO186.out⟩, ⟨by repeat (first | (with_reducible first | exact HB.out | apply below_alloc | apply pw_below_drewN | apply below_drew1 | refine below_set ?_ GE180.out) | exact HB.out)⟩⟩
                    · rw [if_neg c48] at H
                      exact absurd H (by simp)
              · rw [if_neg c38] at H
                exact absurd H (by simp)
            · rw [if_neg c37] at H
              have c37b0 : decide (x12_2 < (x5_1.length : Int)) = false := decide_eq_false c37
              clear c37
              simp only [Option.some.injEq, Prod.mk.injEq] at H
              obtain ⟨rfl, rfl, rfl⟩ := H
              obtain ⟨Ao58, co58, eo58⟩ := Kd.R_slice HO_5.out
              subst eo58
              go_wp2
              go_ret3
              exact ⟨_, by first | rfl | (simp [errW_none, errW_some] <;> rfl) | (simp [*, errW_none, errW_some] <;> rfl), by (with_reducible repeat (first | apply Kd.R_alloc | apply Kd.R_drewN | apply Kd.R_drew)); exact HO_9.out, by repeat (first | (with_reducible first | exact HB.out | apply below_alloc | apply pw_below_drewN | apply below_drew1) | exact HB.out)⟩

end Go.Proofs.Ytmiahabiabcohaa.PAll
