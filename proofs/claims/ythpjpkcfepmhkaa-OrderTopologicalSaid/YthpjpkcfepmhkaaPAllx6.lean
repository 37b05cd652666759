/- Written by a program of this session (wip/xprint.py) over the kit's print: contracts of the program's functions. -/
import Derived.Test.YthpjpkcfepmhkaaHCycle
import Derived.Test.YthpjpkcfepmhkaaHSort
import Derived.Test.YthpjpkcfepmhkaaPAllx0
import Derived.Test.YthpjpkcfepmhkaaPAllx3
import Derived.Test.YthpjpkcfepmhkaaPAllx4
import Derived.Test.YthpjpkcfepmhkaaPAllx5
namespace Go.Proofs.Ythpjpkcfepmhkaa.PAll
open Go.RowKit Go.Proofs.YthpjpkcfepmhkaaW.PrintWords Go.Proofs.YthpjpkcfepmhkaaW.PrintLast Go.Proofs.YthpjpkcfepmhkaaW.PrintMore
attribute [local go_sem] max2_int min2_int max_two min_two max_three min_three max_four min_four   -- for this text's walks alone
set_option linter.unusedVariables false
set_option linter.unusedSimpArgs false

/-! ### arlinkref23_Cycle: function 19 -/
mutual
def arlinkref23_Cycle.l0 : Nat → Int → List Bool → List Int → Int → Option (List Int)
  | 0, _, _, _, _ => none
  | k + 1, x0, x5, x6, x7 => if x7 < x0 then (arlinkref23_Cycle.l1 k x0 x5 x6 x7 false false 0) else (some x6)
def arlinkref23_Cycle.l1 : Nat → Int → List Bool → List Int → Int → Bool → Bool → Int → Option (List Int)
  | 0, _, _, _, _, _, _, _ => none
  | k + 1, x0, x5, x6, x7, x8, x9, x10 => if x10 < x0 then (if 0 ≤ (wrap64 ((wrap64 (x10 * x0)) + x10)) then (if (wrap64 ((wrap64 (x10 * x0)) + x10)) < (x5.length : Int) then (if rdOf false x5 (wrap64 ((wrap64 (x10 * x0)) + x10)) = true then (if x8 = true then (if x9 = true then (arlinkref23_Cycle.l1 k x0 x5 x6 x7 true true (wrap64 (x10 + 1))) else (if 0 ≤ (wrap64 ((wrap64 (x10 * x0)) + x7)) then (if (wrap64 ((wrap64 (x10 * x0)) + x7)) < (x5.length : Int) then (arlinkref23_Cycle.l1 k x0 x5 x6 x7 true (rdOf false x5 (wrap64 ((wrap64 (x10 * x0)) + x7))) (wrap64 (x10 + 1))) else (none)) else (none))) else (if 0 ≤ (wrap64 ((wrap64 (x7 * x0)) + x10)) then (if (wrap64 ((wrap64 (x7 * x0)) + x10)) < (x5.length : Int) then (if x9 = true then (arlinkref23_Cycle.l1 k x0 x5 x6 x7 (rdOf false x5 (wrap64 ((wrap64 (x7 * x0)) + x10))) true (wrap64 (x10 + 1))) else (if 0 ≤ (wrap64 ((wrap64 (x10 * x0)) + x7)) then (if (wrap64 ((wrap64 (x10 * x0)) + x7)) < (x5.length : Int) then (arlinkref23_Cycle.l1 k x0 x5 x6 x7 (rdOf false x5 (wrap64 ((wrap64 (x7 * x0)) + x10))) (rdOf false x5 (wrap64 ((wrap64 (x10 * x0)) + x7))) (wrap64 (x10 + 1))) else (none)) else (none))) else (none)) else (none))) else (arlinkref23_Cycle.l1 k x0 x5 x6 x7 x8 x9 (wrap64 (x10 + 1)))) else (none)) else (none)) else (if x8 = true then (if x9 = true then (if x6.length < 17592186044416 then (arlinkref23_Cycle.l0 k x0 x5 (x6 ++ [x7]) (wrap64 (x7 + 1))) else (none)) else (arlinkref23_Cycle.l0 k x0 x5 x6 (wrap64 (x7 + 1)))) else (arlinkref23_Cycle.l0 k x0 x5 x6 (wrap64 (x7 + 1))))
end
def arlinkref23_Cycle.f (k : Nat) (a0 : Int) (l1 : List (S39)) : Option (List Int) := (arlinkref23_Reaches.f k a0 l1).bind fun t173 => (arlinkref23_Cycle.l0 k a0 t173 ([] : List Int) 0)
theorem arlinkref23_Cycle.mono_l : ∀ k, (∀ y0 y1 y2 y3, LeO (arlinkref23_Cycle.l0 k y0 y1 y2 y3) (arlinkref23_Cycle.l0 (k + 1) y0 y1 y2 y3)) ∧ (∀ y0 y1 y2 y3 y4 y5 y6, LeO (arlinkref23_Cycle.l1 k y0 y1 y2 y3 y4 y5 y6) (arlinkref23_Cycle.l1 (k + 1) y0 y1 y2 y3 y4 y5 y6))
  | 0 => ⟨fun _ _ _ _ r h => by simp [arlinkref23_Cycle.l0] at h, fun _ _ _ _ _ _ _ r h => by simp [arlinkref23_Cycle.l1] at h⟩
  | k + 1 => by
    obtain ⟨ih0, ih1⟩ := arlinkref23_Cycle.mono_l k
    refine ⟨?_, ?_⟩
    · intro y0 y1 y2 y3
      unfold arlinkref23_Cycle.l0
      repeat' first
      | (with_reducible exact ih0 _ _ _ _)
      | (with_reducible exact ih1 _ _ _ _ _ _ _)
      | (with_reducible exact arlinkref23_Reaches.mono _ _ _)
      | (with_reducible exact LeO.refl _)
      | (with_reducible exact LeO.none _)
      | (with_reducible refine LeO.ite ?_ ?_)
      | (with_reducible refine LeO.bind ?_ (fun _ => ?_))
      | exact ih0 _ _ _ _
      | exact ih1 _ _ _ _ _ _ _
      | exact arlinkref23_Reaches.mono _ _ _
      | exact LeO.none _
      | refine LeO.ite ?_ ?_
      | refine LeO.bind ?_ (fun _ => ?_)
    · intro y0 y1 y2 y3 y4 y5 y6
      unfold arlinkref23_Cycle.l1
      repeat' first
      | (with_reducible exact ih0 _ _ _ _)
      | (with_reducible exact ih1 _ _ _ _ _ _ _)
      | (with_reducible exact arlinkref23_Reaches.mono _ _ _)
      | (with_reducible exact LeO.refl _)
      | (with_reducible exact LeO.none _)
      | (with_reducible refine LeO.ite ?_ ?_)
      | (with_reducible refine LeO.bind ?_ (fun _ => ?_))
      | exact ih0 _ _ _ _
      | exact ih1 _ _ _ _ _ _ _
      | exact arlinkref23_Reaches.mono _ _ _
      | exact LeO.none _
      | refine LeO.ite ?_ ?_
      | refine LeO.bind ?_ (fun _ => ?_)
theorem arlinkref23_Cycle.mono : ∀ a0 a1 k, LeO (arlinkref23_Cycle.f k a0 a1) (arlinkref23_Cycle.f (k + 1) a0 a1) := by
  intro a0 a1 k
  obtain ⟨ih0, ih1⟩ := arlinkref23_Cycle.mono_l k
  unfold arlinkref23_Cycle.f
  repeat' first
      | (with_reducible exact ih0 _ _ _ _)
      | (with_reducible exact ih1 _ _ _ _ _ _ _)
      | (with_reducible exact arlinkref23_Reaches.mono _ _ _)
      | (with_reducible exact LeO.refl _)
      | (with_reducible exact LeO.none _)
      | (with_reducible refine LeO.ite ?_ ?_)
      | (with_reducible refine LeO.bind ?_ (fun _ => ?_))
      | exact ih0 _ _ _ _
      | exact ih1 _ _ _ _ _ _ _
      | exact arlinkref23_Reaches.mono _ _ _
      | exact LeO.none _
      | refine LeO.ite ?_ ?_
      | refine LeO.bind ?_ (fun _ => ?_)
set_option maxHeartbeats 8000000 in
set_option maxRecDepth 100000 in
theorem arlinkref23_Cycle.calls (k : Nat) (a0 : Int) (A1 : Option Addr) (c1 : Nat) (l1 : List (S39)) (r : List Int) (w : World) (hr1 : Kd.C k39 w A1 l1.length l1) (hc1 : l1.length ≤ c1) (h : arlinkref23_Cycle.f k a0 l1 = some r) :
    Calls Try.prog 19 #[.int .i64 a0, .slice A1 l1.length c1] w fun e w' => ∃ v0_ : Value, e = .returned (v0_) ∧ Kd.R (Kd.int .i64) 3 w' w.heap.size (fun _ => True) v0_ r ∧ Below w.heap.size w w' := by
  have HR1 := Aside0.mk hr1
  have HC1 := Aside0.mk hc1
  clear hr1 hc1
  have HB := Aside0.mk (Below.refl w.heap.size w)
  have H : ((arlinkref23_Reaches.f k a0 l1).bind fun t173 => (arlinkref23_Cycle.l0 k a0 t173 ([] : List Int) 0)) = some r := h
  clear h
  replace H := Option.bind_eq_some_iff.mp H
  obtain ⟨t173, A30, H⟩ := H
  replace H : (arlinkref23_Cycle.l0 k a0 t173 ([] : List Int) 0) = some r := H
  have A3 := Aside0.mk A30
  clear A30
  have H' := Aside0.mk H
  clear H
  go_enter Try.func19, Try.ntmps19
  go_wp2_with (first | ((with_reducible refine gate_callee (f := 21) rfl ?_); refine goesL_ (some 13) rfl rfl Try.func21 (by kernel_rfl) rfl #[.int .i64 a0, .slice A1 l1.length c1] rfl (by (try simp only [List.map_toArray, List.map_cons, List.map_nil]); first | done | rfl | (simp only [List.length_drop, List.length_take]; rfl)) ?_; (with_reducible refine (arlinkref23_Reaches.calls k a0 _ _ l1 t173 _ ?side1 ?side2 A3.out).mono ?_); (case side1 => repeat (first | exact HR1.out | (with_reducible refine Kd.C_alloc ?_ _) | (with_reducible refine Kd.C_drewN ?_ _) | (with_reducible refine Kd.C_drew ?_))); (case side2 => exact HC1.out); rintro e w4 ⟨v174, rfl, ho0, hb⟩; refine ⟨_, rfl, ?_⟩; have n0_ := Aside0.mk (Kd.R_lower ho0 (below_size (by repeat (first | (with_reducible first | exact HB.out | apply below_alloc | apply pw_below_drewN | apply below_drew1) | exact HB.out)))); have n1_ := Aside0.mk (below_step (by repeat (first | (with_reducible first | exact HB.out | apply below_alloc | apply pw_below_drewN | apply below_drew1) | exact HB.out)) hb); clear HB; have HO175 := n0_; have HB := n1_; clear n0_ n1_; (try clear hb); (try clear hb2); (try clear hk); (try clear hi); (try clear ho0)))
  go_loopg [6, 7] k (fun kq v6 v7 w' => ∃ (x6_1 : List Int) (x7_1 : Int), v7 = .int .i64 x7_1 ∧ Aside0 (arlinkref23_Cycle.l0 kq a0 t173 x6_1 x7_1 = some r) ∧ Aside0 (kq ≤ k) ∧ Aside0 (Kd.R Kd.bool 4 w' w.heap.size (fun _ => True) v174 t173) ∧ Aside0 (Kd.R (Kd.int .i64) 3 w' w.heap.size (fun _ => True) v6 x6_1) ∧ Aside0 (Below w.heap.size w w'))
  case atStart => exact ⟨(([] : List Int)), (0), (by first | rfl | (simp; done) | (simp [*]; done)), H', ⟨Nat.le_refl _⟩, ⟨by (with_reducible repeat (first | apply Kd.R_alloc | apply Kd.R_drewN | apply Kd.R_drew)); exact HO175.out⟩, ⟨by first | exact Kd.R_nil _ _ _ _ _ | exact Kd.N_nil _ _ _ _ _ | exact Kd.V_nil _ _ _ _ _ | exact Kd.Q_nil _ _ _ _ _ | exact Kd.S_nil _ _ _ _ _⟩, ⟨by repeat (first | (with_reducible first | exact HB.out | apply below_alloc | apply pw_below_drewN | apply below_drew1) | exact HB.out)⟩⟩
  case round =>
    clear H'
    try clear c1
    try clear c2
    try clear p2
    obtain ⟨x6_1, x7_1, rfl, HA, HK1, HO_5, HO_6, HB⟩ := hrel
    cases gk with
    | zero => exact absurd HA.out (by simp [arlinkref23_Cycle.l0])
    | succ k1 =>
      have H := HA.out
      clear HA
      simp only [arlinkref23_Cycle.l0] at H
      by_cases c5 : x7_1 < a0
      · rw [if_pos c5] at H
        have c5b0 : decide (x7_1 < a0) = true := decide_eq_true c5
        clear c5
        have H' := Aside0.mk H
        clear H
        go_wp2
        go_loopg [8, 9, 10] k1 (fun kq v8 v9 v10 w' => ∃ (x8_2 : Bool) (x9_2 : Bool) (x10_2 : Int), v8 = .bool x8_2 ∧ v9 = .bool x9_2 ∧ v10 = .int .i64 x10_2 ∧ Aside0 (arlinkref23_Cycle.l1 kq a0 t173 x6_1 x7_1 x8_2 x9_2 x10_2 = some r) ∧ Aside0 (kq ≤ k1) ∧ Aside0 (Kd.R Kd.bool 4 w' w.heap.size (fun _ => True) v174 t173) ∧ Aside0 (Kd.R (Kd.int .i64) 3 w' w.heap.size (fun _ => True) u6 x6_1) ∧ Aside0 (Below w.heap.size w w'))
        case atStart => exact ⟨(false), (false), (0), (by first | rfl | (simp; done) | (simp [*]; done)), (by first | rfl | (simp; done) | (simp [*]; done)), (by first | rfl | (simp; done) | (simp [*]; done)), H', ⟨Nat.le_refl _⟩, ⟨by (with_reducible repeat (first | apply Kd.R_alloc | apply Kd.R_drewN | apply Kd.R_drew)); exact HO_5.out⟩, ⟨by (with_reducible repeat (first | apply Kd.R_alloc | apply Kd.R_drewN | apply Kd.R_drew)); exact HO_6.out⟩, ⟨by repeat (first | (with_reducible first | exact HB.out | apply below_alloc | apply pw_below_drewN | apply below_drew1) | exact HB.out)⟩⟩
        case round =>
          clear H'
          try clear c1
          try clear c2
          try clear p2
          try clear c5
          try clear c5b0
          try clear p2
          obtain ⟨x8_2, x9_2, x10_2, rfl, rfl, rfl, HA, HK2, HO_5, HO_6, HB⟩ := hrel
          cases gk with
          | zero => exact absurd HA.out (by simp [arlinkref23_Cycle.l1])
          | succ k2 =>
            have H := HA.out
            clear HA
            simp only [arlinkref23_Cycle.l1] at H
            by_cases c6 : x10_2 < a0
            · rw [if_pos c6] at H
              have c6b0 : decide (x10_2 < a0) = true := decide_eq_true c6
              clear c6
              obtain ⟨ji7, hji7⟩ : ∃ j_ : Int, (wrap64 ((wrap64 (x10_2 * a0)) + x10_2)) = j_ := ⟨_, rfl⟩
              replace H : (if 0 ≤ (ji7) then (if (ji7) < (t173.length : Int) then (if rdOf false t173 (ji7) = true then (if x8_2 = true then (if x9_2 = true then (arlinkref23_Cycle.l1 k2 a0 t173 x6_1 x7_1 true true (wrap64 (x10_2 + 1))) else (if 0 ≤ (wrap64 ((wrap64 (x10_2 * a0)) + x7_1)) then (if (wrap64 ((wrap64 (x10_2 * a0)) + x7_1)) < (t173.length : Int) then (arlinkref23_Cycle.l1 k2 a0 t173 x6_1 x7_1 true (rdOf false t173 (wrap64 ((wrap64 (x10_2 * a0)) + x7_1))) (wrap64 (x10_2 + 1))) else (none)) else (none))) else (if 0 ≤ (wrap64 ((wrap64 (x7_1 * a0)) + x10_2)) then (if (wrap64 ((wrap64 (x7_1 * a0)) + x10_2)) < (t173.length : Int) then (if x9_2 = true then (arlinkref23_Cycle.l1 k2 a0 t173 x6_1 x7_1 (rdOf false t173 (wrap64 ((wrap64 (x7_1 * a0)) + x10_2))) true (wrap64 (x10_2 + 1))) else (if 0 ≤ (wrap64 ((wrap64 (x10_2 * a0)) + x7_1)) then (if (wrap64 ((wrap64 (x10_2 * a0)) + x7_1)) < (t173.length : Int) then (arlinkref23_Cycle.l1 k2 a0 t173 x6_1 x7_1 (rdOf false t173 (wrap64 ((wrap64 (x7_1 * a0)) + x10_2))) (rdOf false t173 (wrap64 ((wrap64 (x10_2 * a0)) + x7_1))) (wrap64 (x10_2 + 1))) else (none)) else (none))) else (none)) else (none))) else (arlinkref23_Cycle.l1 k2 a0 t173 x6_1 x7_1 x8_2 x9_2 (wrap64 (x10_2 + 1)))) else (none)) else (none)) = some r := by first | (rw [hji7] at H; exact H) | (simp only [hji7] at H ⊢; exact H)
              have hji7w : (IntKind.i64.wrap ((wrap64 (x10_2 * a0)) + x10_2)) = ji7 := (i64_w _).trans hji7
              by_cases c8 : 0 ≤ (ji7)
              · rw [if_pos c8] at H
                have c8b0 : decide (0 ≤ (ji7)) = true := decide_eq_true c8
                clear c8
                by_cases c9 : (ji7) < (t173.length : Int)
                · rw [if_pos c9] at H
                  have c9b0 : decide ((ji7) < (t173.length : Int)) = true := decide_eq_true c9
                  clear c9
                  obtain ⟨bq10, hbq10⟩ : ∃ b_ : Bool, b_ = (rdOf false t173 (ji7)) := ⟨_, rfl⟩
                  replace H : (if bq10 = true then (if x8_2 = true then (if x9_2 = true then (arlinkref23_Cycle.l1 k2 a0 t173 x6_1 x7_1 true true (wrap64 (x10_2 + 1))) else (if 0 ≤ (wrap64 ((wrap64 (x10_2 * a0)) + x7_1)) then (if (wrap64 ((wrap64 (x10_2 * a0)) + x7_1)) < (t173.length : Int) then (arlinkref23_Cycle.l1 k2 a0 t173 x6_1 x7_1 true (rdOf false t173 (wrap64 ((wrap64 (x10_2 * a0)) + x7_1))) (wrap64 (x10_2 + 1))) else (none)) else (none))) else (if 0 ≤ (wrap64 ((wrap64 (x7_1 * a0)) + x10_2)) then (if (wrap64 ((wrap64 (x7_1 * a0)) + x10_2)) < (t173.length : Int) then (if x9_2 = true then (arlinkref23_Cycle.l1 k2 a0 t173 x6_1 x7_1 (rdOf false t173 (wrap64 ((wrap64 (x7_1 * a0)) + x10_2))) true (wrap64 (x10_2 + 1))) else (if 0 ≤ (wrap64 ((wrap64 (x10_2 * a0)) + x7_1)) then (if (wrap64 ((wrap64 (x10_2 * a0)) + x7_1)) < (t173.length : Int) then (arlinkref23_Cycle.l1 k2 a0 t173 x6_1 x7_1 (rdOf false t173 (wrap64 ((wrap64 (x7_1 * a0)) + x10_2))) (rdOf false t173 (wrap64 ((wrap64 (x10_2 * a0)) + x7_1))) (wrap64 (x10_2 + 1))) else (none)) else (none))) else (none)) else (none))) else (arlinkref23_Cycle.l1 k2 a0 t173 x6_1 x7_1 x8_2 x9_2 (wrap64 (x10_2 + 1)))) = some r := by rw [← hbq10] at H; exact H
                  have Nbq10 := Aside0.mk hbq10
                  clear hbq10
                  by_cases c11 : bq10 = true
                  · subst c11
                    have H1 : (if x8_2 = true then (if x9_2 = true then (arlinkref23_Cycle.l1 k2 a0 t173 x6_1 x7_1 true true (wrap64 (x10_2 + 1))) else (if 0 ≤ (wrap64 ((wrap64 (x10_2 * a0)) + x7_1)) then (if (wrap64 ((wrap64 (x10_2 * a0)) + x7_1)) < (t173.length : Int) then (arlinkref23_Cycle.l1 k2 a0 t173 x6_1 x7_1 true (rdOf false t173 (wrap64 ((wrap64 (x10_2 * a0)) + x7_1))) (wrap64 (x10_2 + 1))) else (none)) else (none))) else (if 0 ≤ (wrap64 ((wrap64 (x7_1 * a0)) + x10_2)) then (if (wrap64 ((wrap64 (x7_1 * a0)) + x10_2)) < (t173.length : Int) then (if x9_2 = true then (arlinkref23_Cycle.l1 k2 a0 t173 x6_1 x7_1 (rdOf false t173 (wrap64 ((wrap64 (x7_1 * a0)) + x10_2))) true (wrap64 (x10_2 + 1))) else (if 0 ≤ (wrap64 ((wrap64 (x10_2 * a0)) + x7_1)) then (if (wrap64 ((wrap64 (x10_2 * a0)) + x7_1)) < (t173.length : Int) then (arlinkref23_Cycle.l1 k2 a0 t173 x6_1 x7_1 (rdOf false t173 (wrap64 ((wrap64 (x7_1 * a0)) + x10_2))) (rdOf false t173 (wrap64 ((wrap64 (x10_2 * a0)) + x7_1))) (wrap64 (x10_2 + 1))) else (none)) else (none))) else (none)) else (none))) = some r := by rw [if_pos rfl] at H; exact H
                    clear H
                    have H := H1
                    clear H1
                    by_cases c12 : x8_2 = true
                    · subst c12
                      have H1 : (if x9_2 = true then (arlinkref23_Cycle.l1 k2 a0 t173 x6_1 x7_1 true true (wrap64 (x10_2 + 1))) else (if 0 ≤ (wrap64 ((wrap64 (x10_2 * a0)) + x7_1)) then (if (wrap64 ((wrap64 (x10_2 * a0)) + x7_1)) < (t173.length : Int) then (arlinkref23_Cycle.l1 k2 a0 t173 x6_1 x7_1 true (rdOf false t173 (wrap64 ((wrap64 (x10_2 * a0)) + x7_1))) (wrap64 (x10_2 + 1))) else (none)) else (none))) = some r := by rw [if_pos rfl] at H; exact H
                      clear H
                      have H := H1
                      clear H1
                      by_cases c13 : x9_2 = true
                      · subst c13
                        have H1 : (arlinkref23_Cycle.l1 k2 a0 t173 x6_1 x7_1 true true (wrap64 (x10_2 + 1))) = some r := by rw [if_pos rfl] at H; exact H
                        clear H
                        have H := H1
                        clear H1
                        have H' := Aside0.mk H
                        clear H
                        obtain ⟨Ao14, co14, eo14⟩ := Kd.R_slice HO_5.out
                        subst eo14
                        have p176 : 0 ≤ ((ji7) : Int) := of_decide_eq_true (by first | (with_reducible assumption) | assumption)
                        have q176 : (ji7) < (t173.length : Int) := of_decide_eq_true (by first | (with_reducible assumption) | assumption)
                        obtain ⟨ad176, e176, hx176_0⟩ := Kd.at_bool (Kd.R_reads' HO_5.out).2.2 (ji7) p176 q176
                        (try rw [← Nbq10.out] at hx176_0)
                        cases e176
                        replace p176 := eq_true p176
                        replace q176 := eq_true q176
                        go_wp2
                        go_roundg k2
                        case measure => have := HK1.out; have := HK2.out; omega
                        case rel => exact ⟨(true), (true), (wrap64 (x10_2 + 1)), (by first | rfl | (simp; done) | (simp [*]; done)), (by first | rfl | (simp; done) | (simp [*]; done)), (by first | rfl | (simp; done) | (simp [*]; done)), H', ⟨by have := HK1.out; have := HK2.out; omega⟩, ⟨by (with_reducible repeat (first | apply Kd.R_alloc | apply Kd.R_drewN | apply Kd.R_drew)); exact HO_5.out⟩, ⟨by (with_reducible repeat (first | apply Kd.R_alloc | apply Kd.R_drewN | apply Kd.R_drew)); exact HO_6.out⟩, ⟨by repeat (first | (with_reducible first | exact HB.out | apply below_alloc | apply pw_below_drewN | apply below_drew1) | exact HB.out)⟩⟩
                      · replace c13 := Bool.eq_false_iff.mpr c13
                        subst c13
                        have H1 : (if 0 ≤ (wrap64 ((wrap64 (x10_2 * a0)) + x7_1)) then (if (wrap64 ((wrap64 (x10_2 * a0)) + x7_1)) < (t173.length : Int) then (arlinkref23_Cycle.l1 k2 a0 t173 x6_1 x7_1 true (rdOf false t173 (wrap64 ((wrap64 (x10_2 * a0)) + x7_1))) (wrap64 (x10_2 + 1))) else (none)) else (none)) = some r := by rw [if_neg (show ¬ (false = true) by decide)] at H; exact H
                        clear H
                        have H := H1
                        clear H1
                        obtain ⟨ji15, hji15⟩ : ∃ j_ : Int, (wrap64 ((wrap64 (x10_2 * a0)) + x7_1)) = j_ := ⟨_, rfl⟩
                        replace H : (if 0 ≤ (ji15) then (if (ji15) < (t173.length : Int) then (arlinkref23_Cycle.l1 k2 a0 t173 x6_1 x7_1 true (rdOf false t173 (ji15)) (wrap64 (x10_2 + 1))) else (none)) else (none)) = some r := by first | (rw [hji15] at H; exact H) | (simp only [hji15] at H ⊢; exact H)
                        have hji15w : (IntKind.i64.wrap ((wrap64 (x10_2 * a0)) + x7_1)) = ji15 := (i64_w _).trans hji15
                        by_cases c16 : 0 ≤ (ji15)
                        · rw [if_pos c16] at H
                          have c16b0 : decide (0 ≤ (ji15)) = true := decide_eq_true c16
                          clear c16
                          by_cases c17 : (ji15) < (t173.length : Int)
                          · rw [if_pos c17] at H
                            have c17b0 : decide ((ji15) < (t173.length : Int)) = true := decide_eq_true c17
                            clear c17
                            have H' := Aside0.mk H
                            clear H
                            obtain ⟨Ao18, co18, eo18⟩ := Kd.R_slice HO_5.out
                            subst eo18
                            have p176 : 0 ≤ ((ji7) : Int) := of_decide_eq_true (by first | (with_reducible assumption) | assumption)
                            have q176 : (ji7) < (t173.length : Int) := of_decide_eq_true (by first | (with_reducible assumption) | assumption)
                            obtain ⟨ad176, e176, hx176_0⟩ := Kd.at_bool (Kd.R_reads' HO_5.out).2.2 (ji7) p176 q176
                            (try rw [← Nbq10.out] at hx176_0)
                            cases e176
                            replace p176 := eq_true p176
                            replace q176 := eq_true q176
                            have p177 : 0 ≤ ((ji15) : Int) := of_decide_eq_true (by first | (with_reducible assumption) | assumption)
                            have q177 : (ji15) < (t173.length : Int) := of_decide_eq_true (by first | (with_reducible assumption) | assumption)
                            obtain ⟨ad177, e177, hx177_0⟩ := Kd.at_bool (Kd.R_reads' HO_5.out).2.2 (ji15) p177 q177
                            (try rw [← Nbq10.out] at hx177_0)
                            obtain rfl : ad176 = ad177 := (by injection e177)
                            replace p177 := eq_true p177
                            replace q177 := eq_true q177
                            go_wp2
                            go_roundg k2
                            case measure => have := HK1.out; have := HK2.out; omega
                            case rel => exact ⟨(true), (rdOf false t173 (ji15)), (wrap64 (x10_2 + 1)), (by first | rfl | (simp; done) | (simp [*]; done)), (by first | rfl | (simp; done) | (simp only [← hji15] <;> (first | rfl | simp)) | (simp [*]; done)), (by first | rfl | (simp; done) | (simp [*]; done)), H', ⟨by have := HK1.out; have := HK2.out; omega⟩, ⟨by (with_reducible repeat (first | apply Kd.R_alloc | apply Kd.R_drewN | apply Kd.R_drew)); exact HO_5.out⟩, ⟨by (with_reducible repeat (first | apply Kd.R_alloc | apply Kd.R_drewN | apply Kd.R_drew)); exact HO_6.out⟩, ⟨by repeat (first | (with_reducible first | exact HB.out | apply below_alloc | apply pw_below_drewN | apply below_drew1) | exact HB.out)⟩⟩
                          · rw [if_neg c17] at H
                            exact absurd H (by simp)
                        · rw [if_neg c16] at H
                          exact absurd H (by simp)
                    · replace c12 := Bool.eq_false_iff.mpr c12
                      subst c12
                      have H1 : (if 0 ≤ (wrap64 ((wrap64 (x7_1 * a0)) + x10_2)) then (if (wrap64 ((wrap64 (x7_1 * a0)) + x10_2)) < (t173.length : Int) then (if x9_2 = true then (arlinkref23_Cycle.l1 k2 a0 t173 x6_1 x7_1 (rdOf false t173 (wrap64 ((wrap64 (x7_1 * a0)) + x10_2))) true (wrap64 (x10_2 + 1))) else (if 0 ≤ (wrap64 ((wrap64 (x10_2 * a0)) + x7_1)) then (if (wrap64 ((wrap64 (x10_2 * a0)) + x7_1)) < (t173.length : Int) then (arlinkref23_Cycle.l1 k2 a0 t173 x6_1 x7_1 (rdOf false t173 (wrap64 ((wrap64 (x7_1 * a0)) + x10_2))) (rdOf false t173 (wrap64 ((wrap64 (x10_2 * a0)) + x7_1))) (wrap64 (x10_2 + 1))) else (none)) else (none))) else (none)) else (none)) = some r := by rw [if_neg (show ¬ (false = true) by decide)] at H; exact H
                      clear H
                      have H := H1
                      clear H1
                      obtain ⟨ji19, hji19⟩ : ∃ j_ : Int, (wrap64 ((wrap64 (x7_1 * a0)) + x10_2)) = j_ := ⟨_, rfl⟩
                      replace H : (if 0 ≤ (ji19) then (if (ji19) < (t173.length : Int) then (if x9_2 = true then (arlinkref23_Cycle.l1 k2 a0 t173 x6_1 x7_1 (rdOf false t173 (ji19)) true (wrap64 (x10_2 + 1))) else (if 0 ≤ (wrap64 ((wrap64 (x10_2 * a0)) + x7_1)) then (if (wrap64 ((wrap64 (x10_2 * a0)) + x7_1)) < (t173.length : Int) then (arlinkref23_Cycle.l1 k2 a0 t173 x6_1 x7_1 (rdOf false t173 (ji19)) (rdOf false t173 (wrap64 ((wrap64 (x10_2 * a0)) + x7_1))) (wrap64 (x10_2 + 1))) else (none)) else (none))) else (none)) else (none)) = some r := by first | (rw [hji19] at H; exact H) | (simp only [hji19] at H ⊢; exact H)
                      have hji19w : (IntKind.i64.wrap ((wrap64 (x7_1 * a0)) + x10_2)) = ji19 := (i64_w _).trans hji19
                      by_cases c20 : 0 ≤ (ji19)
                      · rw [if_pos c20] at H
                        have c20b0 : decide (0 ≤ (ji19)) = true := decide_eq_true c20
                        clear c20
                        by_cases c21 : (ji19) < (t173.length : Int)
                        · rw [if_pos c21] at H
                          have c21b0 : decide ((ji19) < (t173.length : Int)) = true := decide_eq_true c21
                          clear c21
                          by_cases c22 : x9_2 = true
                          · subst c22
                            have H1 : (arlinkref23_Cycle.l1 k2 a0 t173 x6_1 x7_1 (rdOf false t173 (ji19)) true (wrap64 (x10_2 + 1))) = some r := by rw [if_pos rfl] at H; exact H
                            clear H
                            have H := H1
                            clear H1
                            have H' := Aside0.mk H
                            clear H
                            obtain ⟨Ao23, co23, eo23⟩ := Kd.R_slice HO_5.out
                            subst eo23
                            have p176 : 0 ≤ ((ji7) : Int) := of_decide_eq_true (by first | (with_reducible assumption) | assumption)
                            have q176 : (ji7) < (t173.length : Int) := of_decide_eq_true (by first | (with_reducible assumption) | assumption)
                            obtain ⟨ad176, e176, hx176_0⟩ := Kd.at_bool (Kd.R_reads' HO_5.out).2.2 (ji7) p176 q176
                            (try rw [← Nbq10.out] at hx176_0)
                            cases e176
                            replace p176 := eq_true p176
                            replace q176 := eq_true q176
                            have p178 : 0 ≤ ((ji19) : Int) := of_decide_eq_true (by first | (with_reducible assumption) | assumption)
                            have q178 : (ji19) < (t173.length : Int) := of_decide_eq_true (by first | (with_reducible assumption) | assumption)
                            obtain ⟨ad178, e178, hx178_0⟩ := Kd.at_bool (Kd.R_reads' HO_5.out).2.2 (ji19) p178 q178
                            (try rw [← Nbq10.out] at hx178_0)
                            obtain rfl : ad176 = ad178 := (by injection e178)
                            replace p178 := eq_true p178
                            replace q178 := eq_true q178
                            go_wp2
                            go_roundg k2
                            case measure => have := HK1.out; have := HK2.out; omega
                            case rel => exact ⟨(rdOf false t173 (ji19)), (true), (wrap64 (x10_2 + 1)), (by first | rfl | (simp; done) | (simp only [← hji19] <;> (first | rfl | simp)) | (simp [*]; done)), (by first | rfl | (simp; done) | (simp [*]; done)), (by first | rfl | (simp; done) | (simp [*]; done)), H', ⟨by have := HK1.out; have := HK2.out; omega⟩, ⟨by (with_reducible repeat (first | apply Kd.R_alloc | apply Kd.R_drewN | apply Kd.R_drew)); exact HO_5.out⟩, ⟨by (with_reducible repeat (first | apply Kd.R_alloc | apply Kd.R_drewN | apply Kd.R_drew)); exact HO_6.out⟩, ⟨by repeat (first | (with_reducible first | exact HB.out | apply below_alloc | apply pw_below_drewN | apply below_drew1) | exact HB.out)⟩⟩
                          · replace c22 := Bool.eq_false_iff.mpr c22
                            subst c22
                            have H1 : (if 0 ≤ (wrap64 ((wrap64 (x10_2 * a0)) + x7_1)) then (if (wrap64 ((wrap64 (x10_2 * a0)) + x7_1)) < (t173.length : Int) then (arlinkref23_Cycle.l1 k2 a0 t173 x6_1 x7_1 (rdOf false t173 (ji19)) (rdOf false t173 (wrap64 ((wrap64 (x10_2 * a0)) + x7_1))) (wrap64 (x10_2 + 1))) else (none)) else (none)) = some r := by rw [if_neg (show ¬ (false = true) by decide)] at H; exact H
                            clear H
                            have H := H1
                            clear H1
                            obtain ⟨ji24, hji24⟩ : ∃ j_ : Int, (wrap64 ((wrap64 (x10_2 * a0)) + x7_1)) = j_ := ⟨_, rfl⟩
                            replace H : (if 0 ≤ (ji24) then (if (ji24) < (t173.length : Int) then (arlinkref23_Cycle.l1 k2 a0 t173 x6_1 x7_1 (rdOf false t173 (ji19)) (rdOf false t173 (ji24)) (wrap64 (x10_2 + 1))) else (none)) else (none)) = some r := by first | (rw [hji24] at H; exact H) | (simp only [hji24] at H ⊢; exact H)
                            have hji24w : (IntKind.i64.wrap ((wrap64 (x10_2 * a0)) + x7_1)) = ji24 := (i64_w _).trans hji24
                            by_cases c25 : 0 ≤ (ji24)
                            · rw [if_pos c25] at H
                              have c25b0 : decide (0 ≤ (ji24)) = true := decide_eq_true c25
                              clear c25
                              by_cases c26 : (ji24) < (t173.length : Int)
                              · rw [if_pos c26] at H
                                have c26b0 : decide ((ji24) < (t173.length : Int)) = true := decide_eq_true c26
                                clear c26
                                have H' := Aside0.mk H
                                clear H
                                obtain ⟨Ao27, co27, eo27⟩ := Kd.R_slice HO_5.out
                                subst eo27
                                have p176 : 0 ≤ ((ji7) : Int) := of_decide_eq_true (by first | (with_reducible assumption) | assumption)
                                have q176 : (ji7) < (t173.length : Int) := of_decide_eq_true (by first | (with_reducible assumption) | assumption)
                                obtain ⟨ad176, e176, hx176_0⟩ := Kd.at_bool (Kd.R_reads' HO_5.out).2.2 (ji7) p176 q176
                                (try rw [← Nbq10.out] at hx176_0)
                                cases e176
                                replace p176 := eq_true p176
                                replace q176 := eq_true q176
                                have p178 : 0 ≤ ((ji19) : Int) := of_decide_eq_true (by first | (with_reducible assumption) | assumption)
                                have q178 : (ji19) < (t173.length : Int) := of_decide_eq_true (by first | (with_reducible assumption) | assumption)
                                obtain ⟨ad178, e178, hx178_0⟩ := Kd.at_bool (Kd.R_reads' HO_5.out).2.2 (ji19) p178 q178
                                (try rw [← Nbq10.out] at hx178_0)
                                obtain rfl : ad176 = ad178 := (by injection e178)
                                replace p178 := eq_true p178
                                replace q178 := eq_true q178
                                have p179 : 0 ≤ ((ji24) : Int) := of_decide_eq_true (by first | (with_reducible assumption) | assumption)
                                have q179 : (ji24) < (t173.length : Int) := of_decide_eq_true (by first | (with_reducible assumption) | assumption)
                                obtain ⟨ad179, e179, hx179_0⟩ := Kd.at_bool (Kd.R_reads' HO_5.out).2.2 (ji24) p179 q179
                                (try rw [← Nbq10.out] at hx179_0)
                                obtain rfl : ad176 = ad179 := (by injection e179)
                                replace p179 := eq_true p179
                                replace q179 := eq_true q179
                                go_wp2
                                go_roundg k2
                                case measure => have := HK1.out; have := HK2.out; omega
                                case rel => exact ⟨(rdOf false t173 (ji19)), (rdOf false t173 (ji24)), (wrap64 (x10_2 + 1)), (by first | rfl | (simp; done) | (simp only [← hji19] <;> (first | rfl | simp)) | (simp [*]; done)), (by first | rfl | (simp; done) | (simp only [← hji24] <;> (first | rfl | simp)) | (simp [*]; done)), (by first | rfl | (simp; done) | (simp [*]; done)), H', ⟨by have := HK1.out; have := HK2.out; omega⟩, ⟨by (with_reducible repeat (first | apply Kd.R_alloc | apply Kd.R_drewN | apply Kd.R_drew)); exact HO_5.out⟩, ⟨by (with_reducible repeat (first | apply Kd.R_alloc | apply Kd.R_drewN | apply Kd.R_drew)); exact HO_6.out⟩, ⟨by repeat (first | (with_reducible first | exact HB.out | apply below_alloc | apply pw_below_drewN | apply below_drew1) | exact HB.out)⟩⟩
                              · rw [if_neg c26] at H
                                exact absurd H (by simp)
                            · rw [if_neg c25] at H
                              exact absurd H (by simp)
                        · rw [if_neg c21] at H
                          exact absurd H (by simp)
                      · rw [if_neg c20] at H
                        exact absurd H (by simp)
                  · replace c11 := Bool.eq_false_iff.mpr c11
                    subst c11
                    have H1 : (arlinkref23_Cycle.l1 k2 a0 t173 x6_1 x7_1 x8_2 x9_2 (wrap64 (x10_2 + 1))) = some r := by rw [if_neg (show ¬ (false = true) by decide)] at H; exact H
                    clear H
                    have H := H1
                    clear H1
                    have H' := Aside0.mk H
                    clear H
                    obtain ⟨Ao28, co28, eo28⟩ := Kd.R_slice HO_5.out
                    subst eo28
                    have p176 : 0 ≤ ((ji7) : Int) := of_decide_eq_true (by first | (with_reducible assumption) | assumption)
                    have q176 : (ji7) < (t173.length : Int) := of_decide_eq_true (by first | (with_reducible assumption) | assumption)
                    obtain ⟨ad176, e176, hx176_0⟩ := Kd.at_bool (Kd.R_reads' HO_5.out).2.2 (ji7) p176 q176
                    (try rw [← Nbq10.out] at hx176_0)
                    cases e176
                    replace p176 := eq_true p176
                    replace q176 := eq_true q176
                    go_wp2
                    go_roundg k2
                    case measure => have := HK1.out; have := HK2.out; omega
                    case rel => exact ⟨(x8_2), (x9_2), (wrap64 (x10_2 + 1)), (by first | rfl | (simp; done) | (simp [*]; done)), (by first | rfl | (simp; done) | (simp [*]; done)), (by first | rfl | (simp; done) | (simp [*]; done)), H', ⟨by have := HK1.out; have := HK2.out; omega⟩, ⟨by (with_reducible repeat (first | apply Kd.R_alloc | apply Kd.R_drewN | apply Kd.R_drew)); exact HO_5.out⟩, ⟨by (with_reducible repeat (first | apply Kd.R_alloc | apply Kd.R_drewN | apply Kd.R_drew)); exact HO_6.out⟩, ⟨by repeat (first | (with_reducible first | exact HB.out | apply below_alloc | apply pw_below_drewN | apply below_drew1) | exact HB.out)⟩⟩
                · rw [if_neg c9] at H
                  exact absurd H (by simp)
              · rw [if_neg c8] at H
                exact absurd H (by simp)
            · rw [if_neg c6] at H
              have c6b0 : decide (x10_2 < a0) = false := decide_eq_false c6
              clear c6
              by_cases c29 : x8_2 = true
              · subst c29
                have H1 : (if x9_2 = true then (if x6_1.length < 17592186044416 then (arlinkref23_Cycle.l0 k2 a0 t173 (x6_1 ++ [x7_1]) (wrap64 (x7_1 + 1))) else (none)) else (arlinkref23_Cycle.l0 k2 a0 t173 x6_1 (wrap64 (x7_1 + 1)))) = some r := by rw [if_pos rfl] at H; exact H
                clear H
                have H := H1
                clear H1
                by_cases c30 : x9_2 = true
                · subst c30
                  have H1 : (if x6_1.length < 17592186044416 then (arlinkref23_Cycle.l0 k2 a0 t173 (x6_1 ++ [x7_1]) (wrap64 (x7_1 + 1))) else (none)) = some r := by rw [if_pos rfl] at H; exact H
                  clear H
                  have H := H1
                  clear H1
                  by_cases c31 : x6_1.length < 17592186044416
                  · rw [if_pos c31] at H
                    have LMc31 := Aside0.mk c31
                    clear c31
                    obtain ⟨y180, hy180⟩ : ∃ y_ : List Int, y_ = (x6_1 ++ [x7_1]) := ⟨_, rfl⟩
                    replace H : (arlinkref23_Cycle.l0 k2 a0 t173 y180 (wrap64 (x7_1 + 1))) = some r := by first | (rw [hy180]; with_reducible exact H) | (have H2_ := (Option.bind_some _ _).symm.trans H; rw [hy180]; with_reducible exact H2_) | (have H2_ := (Option.bind_some _ _).symm.trans H; with_reducible exact H2_) | with_reducible exact H | (rw [hy180]; exact H) | exact H
                    have Ny180 := Aside0.mk hy180
                    clear hy180
                    have H' := Aside0.mk H
                    clear H
                    go_wp2_with (first | ((with_reducible refine gate_builtin (b := .append) (xs := #[.tmp 58, .tmp 60]) rfl ?_); at_builtin; refine Kd.R_append (Kd.int .i64) (w0 := w) w.heap.size rfl (.tmp 58) (.tmp 60) 24 3 (.int .i64 0) 8 rfl Try.underlying24 info3 rfl (by decide) (by omega) u6 x6_1 x7_1 [.int .i64 x7_1] (fun _ => True) (fun _ => False) rfl rfl ?aP (fun _ hk => hk.elim) ?aF ?aO ?aB ?aS ?aL ?_; (case aP => exact rfl); (case aB => exact (by repeat (first | (with_reducible first | exact HB.out | apply below_alloc | apply pw_below_drewN | apply below_drew1) | exact HB.out))); (case aF => exact (fun _ _ => trivial)); (case aO => exact (by (with_reducible repeat (first | apply Kd.R_alloc | apply Kd.R_drewN | apply Kd.R_drew)); exact HO_6.out)); (case aS => exact (below_size (by repeat (first | (with_reducible first | exact HB.out | apply below_alloc | apply pw_below_drewN | apply below_drew1) | exact HB.out)))); (case aL => have := LMc31.out; omega); intro v181 w32 ho hb hg hat; rw [← Ny180.out] at ho; have n0_ := Aside0.mk (Kd.R_over' (by (with_reducible repeat (first | apply Kd.R_alloc | apply Kd.R_drewN | apply Kd.R_drew)); exact HO_5.out) (Kd.R_typed (by (with_reducible repeat (first | apply Kd.R_alloc | apply Kd.R_drewN | apply Kd.R_drew)); exact HO_6.out)) (by decide) hg); have n1_ := Aside0.mk (hb); have n2_ := Aside0.mk (ho); clear HO_5; clear HB; clear HO_6; have HO_5 := n0_; have HB := n1_; have HO182 := n2_; clear n0_ n1_ n2_; clear ho hb hg hat))
                    go_roundg k2
                    case measure => have := HK1.out; have := HK2.out; omega
                    case rel => exact ⟨(y180), (wrap64 (x7_1 + 1)), (by first | rfl | (simp; done) | (simp [*]; done)), H', ⟨by have := HK1.out; have := HK2.out; omega⟩, ⟨by (with_reducible repeat (first | apply Kd.R_alloc | apply Kd.R_drewN | apply Kd.R_drew)); exact HO_5.out⟩, ⟨by (with_reducible repeat (first | apply Kd.R_alloc | apply Kd.R_drewN | apply Kd.R_drew)); exact HO182.out⟩, ⟨by repeat (first | (with_reducible first | exact HB.out | apply below_alloc | apply pw_below_drewN | apply below_drew1) | exact HB.out)⟩⟩
                  · rw [if_neg c31] at H
                    exact absurd H (by simp)
                · replace c30 := Bool.eq_false_iff.mpr c30
                  subst c30
                  have H1 : (arlinkref23_Cycle.l0 k2 a0 t173 x6_1 (wrap64 (x7_1 + 1))) = some r := by rw [if_neg (show ¬ (false = true) by decide)] at H; exact H
                  clear H
                  have H := H1
                  clear H1
                  have H' := Aside0.mk H
                  clear H
                  go_wp2
                  go_roundg k2
                  case measure => have := HK1.out; have := HK2.out; omega
                  case rel => exact ⟨(x6_1), (wrap64 (x7_1 + 1)), (by first | rfl | (simp; done) | (simp [*]; done)), H', ⟨by have := HK1.out; have := HK2.out; omega⟩, ⟨by (with_reducible repeat (first | apply Kd.R_alloc | apply Kd.R_drewN | apply Kd.R_drew)); exact HO_5.out⟩, ⟨by (with_reducible repeat (first | apply Kd.R_alloc | apply Kd.R_drewN | apply Kd.R_drew)); exact HO_6.out⟩, ⟨by repeat (first | (with_reducible first | exact HB.out | apply below_alloc | apply pw_below_drewN | apply below_drew1) | exact HB.out)⟩⟩
              · replace c29 := Bool.eq_false_iff.mpr c29
                subst c29
                have H1 : (arlinkref23_Cycle.l0 k2 a0 t173 x6_1 (wrap64 (x7_1 + 1))) = some r := by rw [if_neg (show ¬ (false = true) by decide)] at H; exact H
                clear H
                have H := H1
                clear H1
                have H' := Aside0.mk H
                clear H
                go_wp2
                go_roundg k2
                case measure => have := HK1.out; have := HK2.out; omega
                case rel => exact ⟨(x6_1), (wrap64 (x7_1 + 1)), (by first | rfl | (simp; done) | (simp [*]; done)), H', ⟨by have := HK1.out; have := HK2.out; omega⟩, ⟨by (with_reducible repeat (first | apply Kd.R_alloc | apply Kd.R_drewN | apply Kd.R_drew)); exact HO_5.out⟩, ⟨by (with_reducible repeat (first | apply Kd.R_alloc | apply Kd.R_drewN | apply Kd.R_drew)); exact HO_6.out⟩, ⟨by repeat (first | (with_reducible first | exact HB.out | apply below_alloc | apply pw_below_drewN | apply below_drew1) | exact HB.out)⟩⟩
      · rw [if_neg c5] at H
        have c5b0 : decide (x7_1 < a0) = false := decide_eq_false c5
        clear c5
        obtain rfl := Option.some.inj H
        go_wp2
        go_ret
        exact ⟨_, by first | rfl | (simp [errW_none, errW_some] <;> rfl) | (simp [*, errW_none, errW_some] <;> rfl), by (with_reducible repeat (first | apply Kd.R_alloc | apply Kd.R_drewN | apply Kd.R_drew)); exact HO_6.out, by repeat (first | (with_reducible first | exact HB.out | apply below_alloc | apply pw_below_drewN | apply below_drew1) | exact HB.out)⟩

/-! ### arlinklaw23_OrderMatchesReference: function 3 -/
mutual
def arlinklaw23_OrderMatchesReference.j0 : Nat → Int → List (S39) → Bool → Option (Bool)
  | 0, _, _, _ => none
  | k + 1, x0, x1, x23 => if x23 = true then ((arlinklaw23_awake.f k).bind fun t184 => (some t184)) else ((arlinklaw23_forward.f k x1).bind fun t185 => ((order_Sort.f x0 t185).bind fun bt188 => ((arlinkref23_Sort.f k x0 x1).bind fun bt192 => ((arlinkref04_Numbers.f k bt188.1 bt192.1).bind fun t196 => (if t196 = true then (arlinklaw23_OrderMatchesReference.j1 k x0 x1 bt192.2 (bt188.2 != bt192.2)) else (arlinklaw23_OrderMatchesReference.j1 k x0 x1 bt192.2 true))))))
def arlinklaw23_OrderMatchesReference.j1 : Nat → Int → List (S39) → Int → Bool → Option (Bool)
  | 0, _, _, _, _ => none
  | k + 1, x0, x1, x8, x46 => if x46 = true then (some false) else (if x8 = 13 then (some true) else ((arlinklaw23_forward.f k x1).bind fun t197 => ((order_Cycle.f x0 t197).bind fun t200 => ((arlinkref23_Cycle.f k x0 x1).bind fun t203 => ((arlinkref04_Numbers.f k t200 t203).bind fun t206 => (some t206))))))
end
def arlinklaw23_OrderMatchesReference.f (k : Nat) (a0 : Int) (l1 : List (S39)) : Option (Bool) := (arlinklaw23_awake.f k).bind fun t183 => (if t183 = true then (if a0 > 30 then (if a0 ≤ 65536 then (arlinklaw23_OrderMatchesReference.j0 k a0 l1 true) else (arlinklaw23_OrderMatchesReference.j0 k a0 l1 (decide ((l1.length : Int) > 200)))) else (arlinklaw23_OrderMatchesReference.j0 k a0 l1 (decide ((l1.length : Int) > 200)))) else (arlinklaw23_OrderMatchesReference.j0 k a0 l1 true))
theorem arlinklaw23_OrderMatchesReference.mono_l : ∀ k, (∀ y0 y1 y2, LeO (arlinklaw23_OrderMatchesReference.j0 k y0 y1 y2) (arlinklaw23_OrderMatchesReference.j0 (k + 1) y0 y1 y2)) ∧ (∀ y0 y1 y2 y3, LeO (arlinklaw23_OrderMatchesReference.j1 k y0 y1 y2 y3) (arlinklaw23_OrderMatchesReference.j1 (k + 1) y0 y1 y2 y3))
  | 0 => ⟨fun _ _ _ r h => by simp [arlinklaw23_OrderMatchesReference.j0] at h, fun _ _ _ _ r h => by simp [arlinklaw23_OrderMatchesReference.j1] at h⟩
  | k + 1 => by
    obtain ⟨ih0, ih1⟩ := arlinklaw23_OrderMatchesReference.mono_l k
    refine ⟨?_, ?_⟩
    · intro y0 y1 y2
      unfold arlinklaw23_OrderMatchesReference.j0
      repeat' first
      | (with_reducible exact ih0 _ _ _)
      | (with_reducible exact ih1 _ _ _ _)
      | (with_reducible exact arlinklaw23_awake.mono _)
      | (with_reducible exact arlinklaw23_forward.mono _ _)
      | (with_reducible exact arlinkref04_Numbers.mono _ _ _)
      | (with_reducible exact arlinkref23_Cycle.mono _ _ _)
      | (with_reducible exact arlinkref23_Sort.mono _ _ _)
      | (with_reducible exact LeO.refl _)
      | (with_reducible exact LeO.none _)
      | (with_reducible refine LeO.ite ?_ ?_)
      | (with_reducible refine LeO.bind ?_ (fun _ => ?_))
      | exact ih0 _ _ _
      | exact ih1 _ _ _ _
      | exact arlinklaw23_awake.mono _
      | exact arlinklaw23_forward.mono _ _
      | exact arlinkref04_Numbers.mono _ _ _
      | exact arlinkref23_Cycle.mono _ _ _
      | exact arlinkref23_Sort.mono _ _ _
      | exact LeO.none _
      | refine LeO.ite ?_ ?_
      | refine LeO.bind ?_ (fun _ => ?_)
    · intro y0 y1 y2 y3
      unfold arlinklaw23_OrderMatchesReference.j1
      repeat' first
      | (with_reducible exact ih0 _ _ _)
      | (with_reducible exact ih1 _ _ _ _)
      | (with_reducible exact arlinklaw23_awake.mono _)
      | (with_reducible exact arlinklaw23_forward.mono _ _)
      | (with_reducible exact arlinkref04_Numbers.mono _ _ _)
      | (with_reducible exact arlinkref23_Cycle.mono _ _ _)
      | (with_reducible exact arlinkref23_Sort.mono _ _ _)
      | (with_reducible exact LeO.refl _)
      | (with_reducible exact LeO.none _)
      | (with_reducible refine LeO.ite ?_ ?_)
      | (with_reducible refine LeO.bind ?_ (fun _ => ?_))
      | exact ih0 _ _ _
      | exact ih1 _ _ _ _
      | exact arlinklaw23_awake.mono _
      | exact arlinklaw23_forward.mono _ _
      | exact arlinkref04_Numbers.mono _ _ _
      | exact arlinkref23_Cycle.mono _ _ _
      | exact arlinkref23_Sort.mono _ _ _
      | exact LeO.none _
      | refine LeO.ite ?_ ?_
      | refine LeO.bind ?_ (fun _ => ?_)
theorem arlinklaw23_OrderMatchesReference.mono : ∀ a0 a1 k, LeO (arlinklaw23_OrderMatchesReference.f k a0 a1) (arlinklaw23_OrderMatchesReference.f (k + 1) a0 a1) := by
  intro a0 a1 k
  obtain ⟨ih0, ih1⟩ := arlinklaw23_OrderMatchesReference.mono_l k
  unfold arlinklaw23_OrderMatchesReference.f
  repeat' first
      | (with_reducible exact ih0 _ _ _)
      | (with_reducible exact ih1 _ _ _ _)
      | (with_reducible exact arlinklaw23_awake.mono _)
      | (with_reducible exact arlinklaw23_forward.mono _ _)
      | (with_reducible exact arlinkref04_Numbers.mono _ _ _)
      | (with_reducible exact arlinkref23_Cycle.mono _ _ _)
      | (with_reducible exact arlinkref23_Sort.mono _ _ _)
      | (with_reducible exact LeO.refl _)
      | (with_reducible exact LeO.none _)
      | (with_reducible refine LeO.ite ?_ ?_)
      | (with_reducible refine LeO.bind ?_ (fun _ => ?_))
      | exact ih0 _ _ _
      | exact ih1 _ _ _ _
      | exact arlinklaw23_awake.mono _
      | exact arlinklaw23_forward.mono _ _
      | exact arlinkref04_Numbers.mono _ _ _
      | exact arlinkref23_Cycle.mono _ _ _
      | exact arlinkref23_Sort.mono _ _ _
      | exact LeO.none _
      | refine LeO.ite ?_ ?_
      | refine LeO.bind ?_ (fun _ => ?_)
set_option maxHeartbeats 8000000 in
set_option maxRecDepth 100000 in
theorem arlinklaw23_OrderMatchesReference.calls (k : Nat) (a0 : Int) (A1 : Option Addr) (c1 : Nat) (l1 : List (S39)) (r : Bool) (w : World) (hr1 : Kd.C k39 w A1 l1.length l1) (hc1 : l1.length ≤ c1) (h : arlinklaw23_OrderMatchesReference.f k a0 l1 = some r) :
    Calls Try.prog 3 #[.int .i64 a0, .slice A1 l1.length c1] w fun e w' => e = .returned (.bool r) ∧ Below w.heap.size w w' := by
  have HR1 := Aside0.mk hr1
  have HC1 := Aside0.mk hc1
  clear hr1 hc1
  have HB := Aside0.mk (Below.refl w.heap.size w)
  have H : ((arlinklaw23_awake.f k).bind fun t183 => (if t183 = true then (if a0 > 30 then (if a0 ≤ 65536 then (arlinklaw23_OrderMatchesReference.j0 k a0 l1 true) else (arlinklaw23_OrderMatchesReference.j0 k a0 l1 (decide ((l1.length : Int) > 200)))) else (arlinklaw23_OrderMatchesReference.j0 k a0 l1 (decide ((l1.length : Int) > 200)))) else (arlinklaw23_OrderMatchesReference.j0 k a0 l1 true))) = some r := h
  clear h
  have HC3 := Aside0.mk H
  clear H
  go_enter Try.func3, Try.ntmps3
  go_upto_region 1 with (fail)
  go_cut [23] (fun v23 wc => ∃ (kq : Nat) (x23_2 : Bool), v23 = .bool x23_2 ∧ Aside0 (arlinklaw23_OrderMatchesReference.j0 kq a0 l1 x23_2 = some r) ∧ Aside0 (kq ≤ k) ∧ Aside0 (Below w.heap.size w wc))
  case first =>
    have H := HC3.out
    clear HC3
    replace H := Option.bind_eq_some_iff.mp H
    obtain ⟨t183, A40, H⟩ := H
    replace H : (if t183 = true then (if a0 > 30 then (if a0 ≤ 65536 then (arlinklaw23_OrderMatchesReference.j0 k a0 l1 true) else (arlinklaw23_OrderMatchesReference.j0 k a0 l1 (decide ((l1.length : Int) > 200)))) else (arlinklaw23_OrderMatchesReference.j0 k a0 l1 (decide ((l1.length : Int) > 200)))) else (arlinklaw23_OrderMatchesReference.j0 k a0 l1 true)) = some r := H
    have A4 := Aside0.mk A40
    clear A40
    by_cases c5 : t183 = true
    · subst c5
      have H1 : (if a0 > 30 then (if a0 ≤ 65536 then (arlinklaw23_OrderMatchesReference.j0 k a0 l1 true) else (arlinklaw23_OrderMatchesReference.j0 k a0 l1 (decide ((l1.length : Int) > 200)))) else (arlinklaw23_OrderMatchesReference.j0 k a0 l1 (decide ((l1.length : Int) > 200)))) = some r := by rw [if_pos rfl] at H; exact H
      clear H
      have H := H1
      clear H1
      by_cases c6 : a0 > 30
      · rw [if_pos c6] at H
        have c6b0 : decide (30 < a0) = true := decide_eq_true c6
        clear c6
        (first | rw [c6b0] | (simp only [i64_w, i32_w]; rw [c6b0]) | skip)
        by_cases c7 : a0 ≤ 65536
        · rw [if_pos c7] at H
          have c7b0 : decide (a0 ≤ 65536) = true := decide_eq_true c7
          clear c7
          have H' := Aside0.mk H
          clear H
          go_wp2_with (first | ((with_reducible refine gate_callee (f := 13) rfl ?_); refine goesL_ (some 9) rfl rfl Try.func13 (by kernel_rfl) rfl #[] rfl (by (try simp only [List.map_toArray, List.map_cons, List.map_nil]); first | done | rfl | (simp only [List.length_drop, List.length_take]; rfl)) ?_; (with_reducible refine (arlinklaw23_awake.calls k  true _ A4.out).mono ?_); rintro e w8 ⟨rfl, hb⟩; refine ⟨_, rfl, ?_⟩; have n0_ := Aside0.mk (below_step (by repeat (first | (with_reducible first | exact HB.out | apply below_alloc | apply pw_below_drewN | apply below_drew1) | exact HB.out)) hb); clear HB; have HB := n0_; clear n0_; (try clear hb); (try clear hb2); (try clear hk); (try clear hi)))
          go_meet
          case rel => exact ⟨_, (true), (by first | rfl | (simp; done) | (simp [*]; done)), H', ⟨by first | omega | exact Nat.le_refl _⟩, ⟨by repeat (first | (with_reducible first | exact HB.out | apply below_alloc | apply pw_below_drewN | apply below_drew1) | exact HB.out)⟩⟩
        · rw [if_neg c7] at H
          have c7b0 : decide (a0 ≤ 65536) = false := decide_eq_false c7
          clear c7
          have H' := Aside0.mk H
          clear H
          go_wp2_with (first | ((with_reducible refine gate_callee (f := 13) rfl ?_); refine goesL_ (some 9) rfl rfl Try.func13 (by kernel_rfl) rfl #[] rfl (by (try simp only [List.map_toArray, List.map_cons, List.map_nil]); first | done | rfl | (simp only [List.length_drop, List.length_take]; rfl)) ?_; (with_reducible refine (arlinklaw23_awake.calls k  true _ A4.out).mono ?_); rintro e w9 ⟨rfl, hb⟩; refine ⟨_, rfl, ?_⟩; have n0_ := Aside0.mk (below_step (by repeat (first | (with_reducible first | exact HB.out | apply below_alloc | apply pw_below_drewN | apply below_drew1) | exact HB.out)) hb); clear HB; have HB := n0_; clear n0_; (try clear hb); (try clear hb2); (try clear hk); (try clear hi)))
          go_meet
          case rel => exact ⟨_, (decide ((l1.length : Int) > 200)), (by first | rfl | (simp; done) | (simp [*]; done)), H', ⟨by first | omega | exact Nat.le_refl _⟩, ⟨by repeat (first | (with_reducible first | exact HB.out | apply below_alloc | apply pw_below_drewN | apply below_drew1) | exact HB.out)⟩⟩
      · rw [if_neg c6] at H
        have c6b0 : decide (30 < a0) = false := decide_eq_false c6
        clear c6
        (first | rw [c6b0] | (simp only [i64_w, i32_w]; rw [c6b0]) | skip)
        have H' := Aside0.mk H
        clear H
        go_wp2_with (first | ((with_reducible refine gate_callee (f := 13) rfl ?_); refine goesL_ (some 9) rfl rfl Try.func13 (by kernel_rfl) rfl #[] rfl (by (try simp only [List.map_toArray, List.map_cons, List.map_nil]); first | done | rfl | (simp only [List.length_drop, List.length_take]; rfl)) ?_; (with_reducible refine (arlinklaw23_awake.calls k  true _ A4.out).mono ?_); rintro e w10 ⟨rfl, hb⟩; refine ⟨_, rfl, ?_⟩; have n0_ := Aside0.mk (below_step (by repeat (first | (with_reducible first | exact HB.out | apply below_alloc | apply pw_below_drewN | apply below_drew1) | exact HB.out)) hb); clear HB; have HB := n0_; clear n0_; (try clear hb); (try clear hb2); (try clear hk); (try clear hi)))
        go_meet
        case rel => exact ⟨_, (decide ((l1.length : Int) > 200)), (by first | rfl | (simp; done) | (simp [*]; done)), H', ⟨by first | omega | exact Nat.le_refl _⟩, ⟨by repeat (first | (with_reducible first | exact HB.out | apply below_alloc | apply pw_below_drewN | apply below_drew1) | exact HB.out)⟩⟩
    · replace c5 := Bool.eq_false_iff.mpr c5
      subst c5
      have H1 : (arlinklaw23_OrderMatchesReference.j0 k a0 l1 true) = some r := by rw [if_neg (show ¬ (false = true) by decide)] at H; exact H
      clear H
      have H := H1
      clear H1
      have H' := Aside0.mk H
      clear H
      go_wp2_with (first | ((with_reducible refine gate_callee (f := 13) rfl ?_); refine goesL_ (some 9) rfl rfl Try.func13 (by kernel_rfl) rfl #[] rfl (by (try simp only [List.map_toArray, List.map_cons, List.map_nil]); first | done | rfl | (simp only [List.length_drop, List.length_take]; rfl)) ?_; (with_reducible refine (arlinklaw23_awake.calls k  false _ A4.out).mono ?_); rintro e w11 ⟨rfl, hb⟩; refine ⟨_, rfl, ?_⟩; have n0_ := Aside0.mk (below_step (by repeat (first | (with_reducible first | exact HB.out | apply below_alloc | apply pw_below_drewN | apply below_drew1) | exact HB.out)) hb); clear HB; have HB := n0_; clear n0_; (try clear hb); (try clear hb2); (try clear hk); (try clear hi)))
      go_meet
      case rel => exact ⟨_, (true), (by first | rfl | (simp; done) | (simp [*]; done)), H', ⟨by first | omega | exact Nat.le_refl _⟩, ⟨by repeat (first | (with_reducible first | exact HB.out | apply below_alloc | apply pw_below_drewN | apply below_drew1) | exact HB.out)⟩⟩
  case rest =>
    clear HC3
    try clear c1
    try clear p2
    try clear c3
    try clear c5
    try clear c6
    try clear c6b0
    try clear c7
    try clear c7b0
    obtain ⟨kq, x23_2, rfl, HA, HJ2, HB⟩ := hcut
    cases kq with
    | zero => exact absurd HA.out (by simp [arlinklaw23_OrderMatchesReference.j0])
    | succ kj2 =>
      have H := HA.out
      clear HA
      simp only [arlinklaw23_OrderMatchesReference.j0] at H
      by_cases c12 : x23_2 = true
      · subst c12
        have H1 : ((arlinklaw23_awake.f kj2).bind fun t184 => (some t184)) = some r := by rw [if_pos rfl] at H; exact H
        clear H
        have H := H1
        clear H1
        replace H := Option.bind_eq_some_iff.mp H
        obtain ⟨t184, A130, H⟩ := H
        replace H : (some t184) = some r := H
        have A13 := Aside0.mk A130
        clear A130
        obtain rfl := Option.some.inj H
        go_wp2_with (first | ((with_reducible refine gate_callee (f := 13) rfl ?_); refine goesL_ (some 24) rfl rfl Try.func13 (by kernel_rfl) rfl #[] rfl (by (try simp only [List.map_toArray, List.map_cons, List.map_nil]); first | done | rfl | (simp only [List.length_drop, List.length_take]; rfl)) ?_; (with_reducible refine (arlinklaw23_awake.calls kj2  t184 _ A13.out).mono ?_); rintro e w14 ⟨rfl, hb⟩; refine ⟨_, rfl, ?_⟩; have n0_ := Aside0.mk (below_step (by repeat (first | (with_reducible first | exact HB.out | apply below_alloc | apply pw_below_drewN | apply below_drew1) | exact HB.out)) hb); clear HB; have HB := n0_; clear n0_; (try clear hb); (try clear hb2); (try clear hk); (try clear hi)))
        go_ret
        exact ⟨by first | rfl | (simp [errW_none, errW_some] <;> rfl) | (simp [*, errW_none, errW_some] <;> rfl), by repeat (first | (with_reducible first | exact HB.out | apply below_alloc | apply pw_below_drewN | apply below_drew1) | exact HB.out)⟩
      · replace c12 := Bool.eq_false_iff.mpr c12
        subst c12
        have H1 : ((arlinklaw23_forward.f kj2 l1).bind fun t185 => ((order_Sort.f a0 t185).bind fun bt188 => ((arlinkref23_Sort.f kj2 a0 l1).bind fun bt192 => ((arlinkref04_Numbers.f kj2 bt188.1 bt192.1).bind fun t196 => (if t196 = true then (arlinklaw23_OrderMatchesReference.j1 kj2 a0 l1 bt192.2 (bt188.2 != bt192.2)) else (arlinklaw23_OrderMatchesReference.j1 kj2 a0 l1 bt192.2 true)))))) = some r := by rw [if_neg (show ¬ (false = true) by decide)] at H; exact H
        clear H
        have H := H1
        clear H1
        replace H := Option.bind_eq_some_iff.mp H
        obtain ⟨t185, A150, H⟩ := H
        replace H : ((order_Sort.f a0 t185).bind fun bt188 => ((arlinkref23_Sort.f kj2 a0 l1).bind fun bt192 => ((arlinkref04_Numbers.f kj2 bt188.1 bt192.1).bind fun t196 => (if t196 = true then (arlinklaw23_OrderMatchesReference.j1 kj2 a0 l1 bt192.2 (bt188.2 != bt192.2)) else (arlinklaw23_OrderMatchesReference.j1 kj2 a0 l1 bt192.2 true))))) = some r := H
        have A15 := Aside0.mk A150
        clear A150
        replace H := Option.bind_eq_some_iff.mp H
        obtain ⟨⟨t188, t189⟩, A160, H⟩ := H
        replace H : ((arlinkref23_Sort.f kj2 a0 l1).bind fun bt192 => ((arlinkref04_Numbers.f kj2 t188 bt192.1).bind fun t196 => (if t196 = true then (arlinklaw23_OrderMatchesReference.j1 kj2 a0 l1 bt192.2 (t189 != bt192.2)) else (arlinklaw23_OrderMatchesReference.j1 kj2 a0 l1 bt192.2 true)))) = some r := H
        have A16 := Aside0.mk A160
        clear A160
        replace H := Option.bind_eq_some_iff.mp H
        obtain ⟨⟨t192, t193⟩, A170, H⟩ := H
        replace H : ((arlinkref04_Numbers.f kj2 t188 t192).bind fun t196 => (if t196 = true then (arlinklaw23_OrderMatchesReference.j1 kj2 a0 l1 t193 (t189 != t193)) else (arlinklaw23_OrderMatchesReference.j1 kj2 a0 l1 t193 true))) = some r := H
        have A17 := Aside0.mk A170
        clear A170
        have HC18 := Aside0.mk H
        clear H
        go_upto_region 5 with (first | ((with_reducible refine gate_callee (f := 15) rfl ?_); refine goesL_ (some 28) rfl rfl Try.func15 (by kernel_rfl) rfl #[.slice A1 l1.length c1] rfl (by (try simp only [List.map_toArray, List.map_cons, List.map_nil]); first | done | rfl | (simp only [List.length_drop, List.length_take]; rfl)) ?_; (with_reducible refine (arlinklaw23_forward.calls kj2 _ _ l1 t185 _ ?side1 ?side2 A15.out).mono ?_); (case side1 => repeat (first | exact (Kd.C_below HR1.out HB.out) | (with_reducible refine Kd.C_alloc ?_ _) | (with_reducible refine Kd.C_drewN ?_ _) | (with_reducible refine Kd.C_drew ?_))); (case side2 => exact HC1.out); rintro e w19 ⟨v186, rfl, ho0, hb⟩; refine ⟨_, rfl, ?_⟩; have n0_ := Aside0.mk (Kd.R_lower ho0 (below_size (by repeat (first | (with_reducible first | exact HB.out | apply below_alloc | apply pw_below_drewN | apply below_drew1) | exact HB.out)))); have n1_ := Aside0.mk (below_step (by repeat (first | (with_reducible first | exact HB.out | apply below_alloc | apply pw_below_drewN | apply below_drew1) | exact HB.out)) hb); clear HB; have HO187 := n0_; have HB := n1_; clear n0_ n1_; (try clear hb); (try clear hb2); (try clear hk); (try clear hi); (try clear ho0); obtain ⟨Ao20, co20, eo20⟩ := Kd.R_slice HO187.out; subst eo20) | ((with_reducible refine gate_callee (f := 14) rfl ?_); refine goesL_ (some 29) rfl rfl Try.func14 (by kernel_rfl) rfl #[.int .i64 a0, .slice Ao20 t185.length co20] rfl (by (try simp only [List.map_toArray, List.map_cons, List.map_nil]); first | done | rfl | (simp only [List.length_drop, List.length_take]; rfl)) ?_; (with_reducible refine (order_Sort.calls a0 _ _ t185 t188 t189 _ ?side1 ?side2 A16.out).mono ?_); (case side1 => repeat (first | exact (Kd.R_reads' HO187.out).2.2 | (with_reducible refine Kd.C_alloc ?_ _) | (with_reducible refine Kd.C_drewN ?_ _) | (with_reducible refine Kd.C_drew ?_))); (case side2 => exact (Kd.R_reads' HO187.out).2.1); rintro e w21 ⟨v190, rfl, ho0, hb⟩; refine ⟨_, rfl, ?_⟩; have n0_ := Aside0.mk (Kd.R_below (by (with_reducible repeat (first | apply Kd.R_alloc | apply Kd.R_drewN | apply Kd.R_drew)); exact HO187.out) hb); have n1_ := Aside0.mk (Kd.R_lower ho0 (below_size (by repeat (first | (with_reducible first | exact HB.out | apply below_alloc | apply pw_below_drewN | apply below_drew1) | exact HB.out)))); have n2_ := Aside0.mk (below_step (by repeat (first | (with_reducible first | exact HB.out | apply below_alloc | apply pw_below_drewN | apply below_drew1) | exact HB.out)) hb); clear HO187; clear HB; have HO187 := n0_; have HO191 := n1_; have HB := n2_; clear n0_ n1_ n2_; (try clear hb); (try clear hb2); (try clear hk); (try clear hi); (try clear ho0)) | ((with_reducible refine gate_callee (f := 16) rfl ?_); refine goesL_ (some 35) rfl rfl Try.func16 (by kernel_rfl) rfl #[.int .i64 a0, .slice A1 l1.length c1] rfl (by (try simp only [List.map_toArray, List.map_cons, List.map_nil]); first | done | rfl | (simp only [List.length_drop, List.length_take]; rfl)) ?_; (with_reducible refine (arlinkref23_Sort.calls kj2 a0 _ _ l1 t192 t193 _ ?side1 ?side2 A17.out).mono ?_); (case side1 => repeat (first | exact (Kd.C_below HR1.out HB.out) | (with_reducible refine Kd.C_alloc ?_ _) | (with_reducible refine Kd.C_drewN ?_ _) | (with_reducible refine Kd.C_drew ?_))); (case side2 => exact HC1.out); rintro e w22 ⟨v194, rfl, ho0, hb⟩; refine ⟨_, rfl, ?_⟩; have n0_ := Aside0.mk (Kd.R_below (by (with_reducible repeat (first | apply Kd.R_alloc | apply Kd.R_drewN | apply Kd.R_drew)); exact HO187.out) hb); have n1_ := Aside0.mk (Kd.R_elder' (by (with_reducible repeat (first | apply Kd.R_alloc | apply Kd.R_drewN | apply Kd.R_drew)); exact HO191.out) (Kd.R_base ho0) hb); have n2_ := Aside0.mk (Kd.R_lower (Kd.R_new' ho0 (Kd.R_lt (by (with_reducible repeat (first | apply Kd.R_alloc | apply Kd.R_drewN | apply Kd.R_drew)); exact HO191.out))) (below_size (by repeat (first | (with_reducible first | exact HB.out | apply below_alloc | apply pw_below_drewN | apply below_drew1) | exact HB.out)))); have n3_ := Aside0.mk (below_step (by repeat (first | (with_reducible first | exact HB.out | apply below_alloc | apply pw_below_drewN | apply below_drew1) | exact HB.out)) hb); clear HO187; clear HO191; clear HB; have HO187 := n0_; have HO191 := n1_; have HO195 := n2_; have HB := n3_; clear n0_ n1_ n2_ n3_; (try clear hb); (try clear hb2); (try clear hk); (try clear hi); (try clear ho0)))
        (try simp only [Act.put, List.setIfInBounds_toArray, List.set_cons_zero, List.set_cons_succ])
        go_cut [46] (fun v46 wc => ∃ (kq : Nat) (x46_17 : Bool), v46 = .bool x46_17 ∧ Aside0 (arlinklaw23_OrderMatchesReference.j1 kq a0 l1 t193 x46_17 = some r) ∧ Aside0 (kq ≤ kj2) ∧ Aside0 (Below w.heap.size w wc))
        case first =>
          have H := HC18.out
          clear HC18
          replace H := Option.bind_eq_some_iff.mp H
          obtain ⟨t196, A230, H⟩ := H
          replace H : (if t196 = true then (arlinklaw23_OrderMatchesReference.j1 kj2 a0 l1 t193 (t189 != t193)) else (arlinklaw23_OrderMatchesReference.j1 kj2 a0 l1 t193 true)) = some r := H
          have A23 := Aside0.mk A230
          clear A230
          by_cases c24 : t196 = true
          · subst c24
            have H1 : (arlinklaw23_OrderMatchesReference.j1 kj2 a0 l1 t193 (t189 != t193)) = some r := by rw [if_pos rfl] at H; exact H
            clear H
            have H := H1
            clear H1
            have H' := Aside0.mk H
            clear H
            obtain ⟨Ao25, co25, eo25⟩ := Kd.R_slice HO191.out
            subst eo25
            obtain ⟨Ao26, co26, eo26⟩ := Kd.R_slice HO195.out
            subst eo26
            go_wp2_with (first | ((with_reducible refine gate_callee (f := 17) rfl ?_); refine goesL_ (some 40) rfl rfl Try.func17 (by kernel_rfl) rfl #[.slice Ao25 t188.length co25, .slice Ao26 t192.length co26] rfl (by (try simp only [List.map_toArray, List.map_cons, List.map_nil]); first | done | rfl | (simp only [List.length_drop, List.length_take]; rfl)) ?_; (with_reducible refine (arlinkref04_Numbers.calls kj2 _ _ t188 _ _ t192 true _ ?side1 ?side2 ?side3 ?side4 A23.out).mono ?_); (case side1 => repeat (first | exact (Kd.R_reads' HO191.out).2.2 | (with_reducible refine Kd.C_alloc ?_ _) | (with_reducible refine Kd.C_drewN ?_ _) | (with_reducible refine Kd.C_drew ?_))); (case side2 => exact (Kd.R_reads' HO191.out).2.1); (case side3 => repeat (first | exact (Kd.R_reads' HO195.out).2.2 | (with_reducible refine Kd.C_alloc ?_ _) | (with_reducible refine Kd.C_drewN ?_ _) | (with_reducible refine Kd.C_drew ?_))); (case side4 => exact (Kd.R_reads' HO195.out).2.1); rintro e w' ⟨rfl, ⟨nd, rfl⟩⟩; refine ⟨_, rfl, ?_⟩))
            go_meet
            case rel => exact ⟨_, ((t189 != t193)), (by first | rfl | (simp; done) | (simp [*]; done)), H', ⟨by have := HJ2.out; first | omega | exact Nat.le_refl _⟩, ⟨by repeat (first | (with_reducible first | exact HB.out | apply below_alloc | apply pw_below_drewN | apply below_drew1) | exact HB.out)⟩⟩
          · replace c24 := Bool.eq_false_iff.mpr c24
            subst c24
            have H1 : (arlinklaw23_OrderMatchesReference.j1 kj2 a0 l1 t193 true) = some r := by rw [if_neg (show ¬ (false = true) by decide)] at H; exact H
            clear H
            have H := H1
            clear H1
            have H' := Aside0.mk H
            clear H
            obtain ⟨Ao27, co27, eo27⟩ := Kd.R_slice HO191.out
            subst eo27
            obtain ⟨Ao28, co28, eo28⟩ := Kd.R_slice HO195.out
            subst eo28
            go_wp2_with (first | ((with_reducible refine gate_callee (f := 17) rfl ?_); refine goesL_ (some 40) rfl rfl Try.func17 (by kernel_rfl) rfl #[.slice Ao27 t188.length co27, .slice Ao28 t192.length co28] rfl (by (try simp only [List.map_toArray, List.map_cons, List.map_nil]); first | done | rfl | (simp only [List.length_drop, List.length_take]; rfl)) ?_; (with_reducible refine (arlinkref04_Numbers.calls kj2 _ _ t188 _ _ t192 false _ ?side1 ?side2 ?side3 ?side4 A23.out).mono ?_); (case side1 => repeat (first | exact (Kd.R_reads' HO191.out).2.2 | (with_reducible refine Kd.C_alloc ?_ _) | (with_reducible refine Kd.C_drewN ?_ _) | (with_reducible refine Kd.C_drew ?_))); (case side2 => exact (Kd.R_reads' HO191.out).2.1); (case side3 => repeat (first | exact (Kd.R_reads' HO195.out).2.2 | (with_reducible refine Kd.C_alloc ?_ _) | (with_reducible refine Kd.C_drewN ?_ _) | (with_reducible refine Kd.C_drew ?_))); (case side4 => exact (Kd.R_reads' HO195.out).2.1); rintro e w' ⟨rfl, ⟨nd, rfl⟩⟩; refine ⟨_, rfl, ?_⟩))
            go_meet
            case rel => exact ⟨_, (true), (by first | rfl | (simp; done) | (simp [*]; done)), H', ⟨by have := HJ2.out; first | omega | exact Nat.le_refl _⟩, ⟨by repeat (first | (with_reducible first | exact HB.out | apply below_alloc | apply pw_below_drewN | apply below_drew1) | exact HB.out)⟩⟩
        case rest =>
          clear HC18
          try clear c1
          try clear c2
          try clear p2
          try clear c3
          try clear c5
          try clear c6
          try clear c6b0
          try clear c7
          try clear c7b0
          try clear c12
          try clear c13
          try clear c14
          try clear c15
          try clear c16
          try clear c17
          try clear c24
          try clear p2
          obtain ⟨kq, x46_17, rfl, HA, HJ17, HB⟩ := hcut
          cases kq with
          | zero => exact absurd HA.out (by simp [arlinklaw23_OrderMatchesReference.j1])
          | succ kj17 =>
            have H := HA.out
            clear HA
            simp only [arlinklaw23_OrderMatchesReference.j1] at H
            by_cases c29 : x46_17 = true
            · subst c29
              have H1 : (some false) = some r := by rw [if_pos rfl] at H; exact H
              clear H
              have H := H1
              clear H1
              obtain rfl := Option.some.inj H
              go_wp2
              go_ret
              exact ⟨by first | rfl | (simp [errW_none, errW_some] <;> rfl) | (simp [*, errW_none, errW_some] <;> rfl), by repeat (first | (with_reducible first | exact HB.out | apply below_alloc | apply pw_below_drewN | apply below_drew1) | exact HB.out)⟩
            · replace c29 := Bool.eq_false_iff.mpr c29
              subst c29
              have H1 : (if t193 = 13 then (some true) else ((arlinklaw23_forward.f kj17 l1).bind fun t197 => ((order_Cycle.f a0 t197).bind fun t200 => ((arlinkref23_Cycle.f kj17 a0 l1).bind fun t203 => ((arlinkref04_Numbers.f kj17 t200 t203).bind fun t206 => (some t206)))))) = some r := by rw [if_neg (show ¬ (false = true) by decide)] at H; exact H
              clear H
              have H := H1
              clear H1
              by_cases c30 : t193 = 13
              · rw [if_pos c30] at H
                have c30b0 : (t193 == 13) = true := beq_iff_eq.mpr c30
                have c30b1 : (t193 != 13) = false := bne_eq_false_iff_eq.mpr c30
                clear c30
                obtain rfl := Option.some.inj H
                go_wp2
                go_ret
                exact ⟨by first | rfl | (simp [errW_none, errW_some] <;> rfl) | (simp [*, errW_none, errW_some] <;> rfl), by repeat (first | (with_reducible first | exact HB.out | apply below_alloc | apply pw_below_drewN | apply below_drew1) | exact HB.out)⟩
              · rw [if_neg c30] at H
                have c30b0 : (t193 == 13) = false := beq_eq_false_iff_ne.mpr c30
                have c30b1 : (t193 != 13) = true := bne_iff_ne.mpr c30
                replace H := Option.bind_eq_some_iff.mp H
                obtain ⟨t197, A310, H⟩ := H
                replace H : ((order_Cycle.f a0 t197).bind fun t200 => ((arlinkref23_Cycle.f kj17 a0 l1).bind fun t203 => ((arlinkref04_Numbers.f kj17 t200 t203).bind fun t206 => (some t206)))) = some r := H
                have A31 := Aside0.mk A310
                clear A310
                replace H := Option.bind_eq_some_iff.mp H
                obtain ⟨t200, A320, H⟩ := H
                replace H : ((arlinkref23_Cycle.f kj17 a0 l1).bind fun t203 => ((arlinkref04_Numbers.f kj17 t200 t203).bind fun t206 => (some t206))) = some r := H
                have A32 := Aside0.mk A320
                clear A320
                replace H := Option.bind_eq_some_iff.mp H
                obtain ⟨t203, A330, H⟩ := H
                replace H : ((arlinkref04_Numbers.f kj17 t200 t203).bind fun t206 => (some t206)) = some r := H
                have A33 := Aside0.mk A330
                clear A330
                replace H := Option.bind_eq_some_iff.mp H
                obtain ⟨t206, A340, H⟩ := H
                replace H : (some t206) = some r := H
                have A34 := Aside0.mk A340
                clear A340
                obtain rfl := Option.some.inj H
                go_wp2_with (first | (go_at_call 15; (with_reducible refine (arlinklaw23_forward.calls kj17 _ _ l1 t197 _ ?side1 ?side2 A31.out).mono ?_); (case side1 => repeat (first | exact (Kd.C_below HR1.out HB.out) | (with_reducible refine Kd.C_alloc ?_ _) | (with_reducible refine Kd.C_drewN ?_ _) | (with_reducible refine Kd.C_drew ?_))); (case side2 => exact HC1.out); rintro e w35 ⟨v198, rfl, ho0, hb⟩; have n0_ := Aside0.mk (Kd.R_lower ho0 (below_size (by repeat (first | (with_reducible first | exact HB.out | apply below_alloc | apply pw_below_drewN | apply below_drew1) | exact HB.out)))); have n1_ := Aside0.mk (below_step (by repeat (first | (with_reducible first | exact HB.out | apply below_alloc | apply pw_below_drewN | apply below_drew1) | exact HB.out)) hb); clear HB; have HO199 := n0_; have HB := n1_; clear n0_ n1_; (try clear hb); (try clear hb2); (try clear hk); (try clear hi); (try clear ho0); obtain ⟨Ao36, co36, eo36⟩ := Kd.R_slice HO199.out; subst eo36) | (go_at_call 18; (with_reducible refine (order_Cycle.calls a0 _ _ t197 t200 _ ?side1 ?side2 A32.out).mono ?_); (case side1 => repeat (first | exact (Kd.R_reads' HO199.out).2.2 | (with_reducible refine Kd.C_alloc ?_ _) | (with_reducible refine Kd.C_drewN ?_ _) | (with_reducible refine Kd.C_drew ?_))); (case side2 => exact (Kd.R_reads' HO199.out).2.1); rintro e w37 ⟨v201, rfl, ho0, hb⟩; have n0_ := Aside0.mk (Kd.R_below (by (with_reducible repeat (first | apply Kd.R_alloc | apply Kd.R_drewN | apply Kd.R_drew)); exact HO199.out) hb); have n1_ := Aside0.mk (Kd.R_lower ho0 (below_size (by repeat (first | (with_reducible first | exact HB.out | apply below_alloc | apply pw_below_drewN | apply below_drew1) | exact HB.out)))); have n2_ := Aside0.mk (below_step (by repeat (first | (with_reducible first | exact HB.out | apply below_alloc | apply pw_below_drewN | apply below_drew1) | exact HB.out)) hb); clear HO199; clear HB; have HO199 := n0_; have HO202 := n1_; have HB := n2_; clear n0_ n1_ n2_; (try clear hb); (try clear hb2); (try clear hk); (try clear hi); (try clear ho0)) | (go_at_call 19; (with_reducible refine (arlinkref23_Cycle.calls kj17 a0 _ _ l1 t203 _ ?side1 ?side2 A33.out).mono ?_); (case side1 => repeat (first | exact (Kd.C_below HR1.out HB.out) | (with_reducible refine Kd.C_alloc ?_ _) | (with_reducible refine Kd.C_drewN ?_ _) | (with_reducible refine Kd.C_drew ?_))); (case side2 => exact HC1.out); rintro e w38 ⟨v204, rfl, ho0, hb⟩; have n0_ := Aside0.mk (Kd.R_below (by (with_reducible repeat (first | apply Kd.R_alloc | apply Kd.R_drewN | apply Kd.R_drew)); exact HO199.out) hb); have n1_ := Aside0.mk (Kd.R_elder' (by (with_reducible repeat (first | apply Kd.R_alloc | apply Kd.R_drewN | apply Kd.R_drew)); exact HO202.out) (Kd.R_base ho0) hb); have n2_ := Aside0.mk (Kd.R_lower (Kd.R_new' ho0 (Kd.R_lt (by (with_reducible repeat (first | apply Kd.R_alloc | apply Kd.R_drewN | apply Kd.R_drew)); exact HO202.out))) (below_size (by repeat (first | (with_reducible first | exact HB.out | apply below_alloc | apply pw_below_drewN | apply below_drew1) | exact HB.out)))); have n3_ := Aside0.mk (below_step (by repeat (first | (with_reducible first | exact HB.out | apply below_alloc | apply pw_below_drewN | apply below_drew1) | exact HB.out)) hb); clear HO199; clear HO202; clear HB; have HO199 := n0_; have HO202 := n1_; have HO205 := n2_; have HB := n3_; clear n0_ n1_ n2_ n3_; (try clear hb); (try clear hb2); (try clear hk); (try clear hi); (try clear ho0); obtain ⟨Ao39, co39, eo39⟩ := Kd.R_slice HO202.out; subst eo39; obtain ⟨Ao40, co40, eo40⟩ := Kd.R_slice HO205.out; subst eo40) | (go_at_call 17; (with_reducible refine (arlinkref04_Numbers.calls kj17 _ _ t200 _ _ t203 t206 _ ?side1 ?side2 ?side3 ?side4 A34.out).mono ?_); (case side1 => repeat (first | exact (Kd.R_reads' HO202.out).2.2 | (with_reducible refine Kd.C_alloc ?_ _) | (with_reducible refine Kd.C_drewN ?_ _) | (with_reducible refine Kd.C_drew ?_))); (case side2 => exact (Kd.R_reads' HO202.out).2.1); (case side3 => repeat (first | exact (Kd.R_reads' HO205.out).2.2 | (with_reducible refine Kd.C_alloc ?_ _) | (with_reducible refine Kd.C_drewN ?_ _) | (with_reducible refine Kd.C_drew ?_))); (case side4 => exact (Kd.R_reads' HO205.out).2.1); rintro e w' ⟨rfl, ⟨nd, rfl⟩⟩))
                go_ret
                exact ⟨by first | rfl | (simp [errW_none, errW_some] <;> rfl) | (simp [*, errW_none, errW_some] <;> rfl), by repeat (first | (with_reducible first | exact HB.out | apply below_alloc | apply pw_below_drewN | apply below_drew1) | exact HB.out)⟩

end Go.Proofs.Ythpjpkcfepmhkaa.PAll
