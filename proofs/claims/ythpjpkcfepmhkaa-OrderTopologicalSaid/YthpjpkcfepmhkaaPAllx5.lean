/- Written by a program of this session (wip/xprint.py) over the kit's print: contracts of the program's functions. -/
import Derived.Test.YthpjpkcfepmhkaaPAllx0
namespace Go.Proofs.Ythpjpkcfepmhkaa.PAll
open Go.RowKit Go.Proofs.YthpjpkcfepmhkaaW.PrintWords Go.Proofs.YthpjpkcfepmhkaaW.PrintLast Go.Proofs.YthpjpkcfepmhkaaW.PrintMore
attribute [local go_sem] max2_int min2_int max_two min_two max_three min_three max_four min_four   -- for this text's walks alone
set_option linter.unusedVariables false
set_option linter.unusedSimpArgs false

/-! ### arlinkref23_Reaches: function 21 -/
mutual
def arlinkref23_Reaches.l0 : Nat → Int → List (S39) → List Bool → Int → Option (List Bool)
  | 0, _, _, _, _ => none
  | k + 1, x0, x1, x5, x6 => if x6 < (x1.length : Int) then (if 0 ≤ x6 then (if 0 ≤ (wrap64 ((wrap64 (((rd_T39 x1 x6).f0) * x0)) + ((rd_T39 x1 x6).f1))) then (if (wrap64 ((wrap64 (((rd_T39 x1 x6).f0) * x0)) + ((rd_T39 x1 x6).f1))) < (x5.length : Int) then (arlinkref23_Reaches.l0 k x0 x1 (x5.set ((wrap64 ((wrap64 (((rd_T39 x1 x6).f0) * x0)) + ((rd_T39 x1 x6).f1))) : Int).toNat true) (wrap64 (x6 + 1))) else (none)) else (none)) else (none)) else (arlinkref23_Reaches.l1 k x0 x5 0)
def arlinkref23_Reaches.l1 : Nat → Int → List Bool → Int → Option (List Bool)
  | 0, _, _, _ => none
  | k + 1, x0, x5, x7 => if x7 < x0 then (arlinkref23_Reaches.l2 k x0 x5 x7 0) else (some x5)
def arlinkref23_Reaches.l2 : Nat → Int → List Bool → Int → Int → Option (List Bool)
  | 0, _, _, _, _ => none
  | k + 1, x0, x5, x7, x8 => if x8 < x0 then (arlinkref23_Reaches.l3 k x0 x5 x7 x8 0) else (arlinkref23_Reaches.l1 k x0 x5 (wrap64 (x7 + 1)))
def arlinkref23_Reaches.l3 : Nat → Int → List Bool → Int → Int → Int → Option (List Bool)
  | 0, _, _, _, _, _ => none
  | k + 1, x0, x5, x7, x8, x9 => if x9 < x0 then (if 0 ≤ (wrap64 ((wrap64 (x8 * x0)) + x7)) then (if (wrap64 ((wrap64 (x8 * x0)) + x7)) < (x5.length : Int) then (if rdOf false x5 (wrap64 ((wrap64 (x8 * x0)) + x7)) = true then (if 0 ≤ (wrap64 ((wrap64 (x7 * x0)) + x9)) then (if (wrap64 ((wrap64 (x7 * x0)) + x9)) < (x5.length : Int) then (if rdOf false x5 (wrap64 ((wrap64 (x7 * x0)) + x9)) = true then (if 0 ≤ (wrap64 ((wrap64 (x8 * x0)) + x9)) then (if (wrap64 ((wrap64 (x8 * x0)) + x9)) < (x5.length : Int) then (arlinkref23_Reaches.l3 k x0 (x5.set ((wrap64 ((wrap64 (x8 * x0)) + x9)) : Int).toNat true) x7 x8 (wrap64 (x9 + 1))) else (none)) else (none)) else (arlinkref23_Reaches.l3 k x0 x5 x7 x8 (wrap64 (x9 + 1)))) else (none)) else (none)) else (arlinkref23_Reaches.l3 k x0 x5 x7 x8 (wrap64 (x9 + 1)))) else (none)) else (none)) else (arlinkref23_Reaches.l2 k x0 x5 x7 (wrap64 (x8 + 1)))
end
def arlinkref23_Reaches.f (k : Nat) (a0 : Int) (l1 : List (S39)) : Option (List Bool) := if 0 ≤ (wrap64 (a0 * a0)) then (if (wrap64 (a0 * a0) : Int).toNat ≤ 281474976710656 then (arlinkref23_Reaches.l0 k a0 l1 (List.replicate (wrap64 (a0 * a0) : Int).toNat false) 0) else (none)) else (none)
theorem arlinkref23_Reaches.mono_l : ∀ k, (∀ y0 y1 y2 y3, LeO (arlinkref23_Reaches.l0 k y0 y1 y2 y3) (arlinkref23_Reaches.l0 (k + 1) y0 y1 y2 y3)) ∧ (∀ y0 y1 y2, LeO (arlinkref23_Reaches.l1 k y0 y1 y2) (arlinkref23_Reaches.l1 (k + 1) y0 y1 y2)) ∧ (∀ y0 y1 y2 y3, LeO (arlinkref23_Reaches.l2 k y0 y1 y2 y3) (arlinkref23_Reaches.l2 (k + 1) y0 y1 y2 y3)) ∧ (∀ y0 y1 y2 y3 y4, LeO (arlinkref23_Reaches.l3 k y0 y1 y2 y3 y4) (arlinkref23_Reaches.l3 (k + 1) y0 y1 y2 y3 y4))
  | 0 => ⟨fun _ _ _ _ r h => by simp [arlinkref23_Reaches.l0] at h, fun _ _ _ r h => by simp [arlinkref23_Reaches.l1] at h, fun _ _ _ _ r h => by simp [arlinkref23_Reaches.l2] at h, fun _ _ _ _ _ r h => by simp [arlinkref23_Reaches.l3] at h⟩
  | k + 1 => by
    obtain ⟨ih0, ih1, ih2, ih3⟩ := arlinkref23_Reaches.mono_l k
    refine ⟨?_, ?_, ?_, ?_⟩
    · intro y0 y1 y2 y3
      unfold arlinkref23_Reaches.l0
      repeat' first
      | (with_reducible exact ih0 _ _ _ _)
      | (with_reducible exact ih1 _ _ _)
      | (with_reducible exact ih2 _ _ _ _)
      | (with_reducible exact ih3 _ _ _ _ _)
      | (with_reducible exact LeO.refl _)
      | (with_reducible exact LeO.none _)
      | (with_reducible refine LeO.ite ?_ ?_)
      | (with_reducible refine LeO.bind ?_ (fun _ => ?_))
      | exact ih0 _ _ _ _
      | exact ih1 _ _ _
      | exact ih2 _ _ _ _
      | exact ih3 _ _ _ _ _
      | exact LeO.none _
      | refine LeO.ite ?_ ?_
      | refine LeO.bind ?_ (fun _ => ?_)
    · intro y0 y1 y2
      unfold arlinkref23_Reaches.l1
      repeat' first
      | (with_reducible exact ih0 _ _ _ _)
      | (with_reducible exact ih1 _ _ _)
      | (with_reducible exact ih2 _ _ _ _)
      | (with_reducible exact ih3 _ _ _ _ _)
      | (with_reducible exact LeO.refl _)
      | (with_reducible exact LeO.none _)
      | (with_reducible refine LeO.ite ?_ ?_)
      | (with_reducible refine LeO.bind ?_ (fun _ => ?_))
      | exact ih0 _ _ _ _
      | exact ih1 _ _ _
      | exact ih2 _ _ _ _
      | exact ih3 _ _ _ _ _
      | exact LeO.none _
      | refine LeO.ite ?_ ?_
      | refine LeO.bind ?_ (fun _ => ?_)
    · intro y0 y1 y2 y3
      unfold arlinkref23_Reaches.l2
      repeat' first
      | (with_reducible exact ih0 _ _ _ _)
      | (with_reducible exact ih1 _ _ _)
      | (with_reducible exact ih2 _ _ _ _)
      | (with_reducible exact ih3 _ _ _ _ _)
      | (with_reducible exact LeO.refl _)
      | (with_reducible exact LeO.none _)
      | (with_reducible refine LeO.ite ?_ ?_)
      | (with_reducible refine LeO.bind ?_ (fun _ => ?_))
      | exact ih0 _ _ _ _
      | exact ih1 _ _ _
      | exact ih2 _ _ _ _
      | exact ih3 _ _ _ _ _
      | exact LeO.none _
      | refine LeO.ite ?_ ?_
      | refine LeO.bind ?_ (fun _ => ?_)
    · intro y0 y1 y2 y3 y4
      unfold arlinkref23_Reaches.l3
      repeat' first
      | (with_reducible exact ih0 _ _ _ _)
      | (with_reducible exact ih1 _ _ _)
      | (with_reducible exact ih2 _ _ _ _)
      | (with_reducible exact ih3 _ _ _ _ _)
      | (with_reducible exact LeO.refl _)
      | (with_reducible exact LeO.none _)
      | (with_reducible refine LeO.ite ?_ ?_)
      | (with_reducible refine LeO.bind ?_ (fun _ => ?_))
      | exact ih0 _ _ _ _
      | exact ih1 _ _ _
      | exact ih2 _ _ _ _
      | exact ih3 _ _ _ _ _
      | exact LeO.none _
      | refine LeO.ite ?_ ?_
      | refine LeO.bind ?_ (fun _ => ?_)
theorem arlinkref23_Reaches.mono : ∀ a0 a1 k, LeO (arlinkref23_Reaches.f k a0 a1) (arlinkref23_Reaches.f (k + 1) a0 a1) := by
  intro a0 a1 k
  obtain ⟨ih0, ih1, ih2, ih3⟩ := arlinkref23_Reaches.mono_l k
  unfold arlinkref23_Reaches.f
  repeat' first
      | (with_reducible exact ih0 _ _ _ _)
      | (with_reducible exact ih1 _ _ _)
      | (with_reducible exact ih2 _ _ _ _)
      | (with_reducible exact ih3 _ _ _ _ _)
      | (with_reducible exact LeO.refl _)
      | (with_reducible exact LeO.none _)
      | (with_reducible refine LeO.ite ?_ ?_)
      | (with_reducible refine LeO.bind ?_ (fun _ => ?_))
      | exact ih0 _ _ _ _
      | exact ih1 _ _ _
      | exact ih2 _ _ _ _
      | exact ih3 _ _ _ _ _
      | exact LeO.none _
      | refine LeO.ite ?_ ?_
      | refine LeO.bind ?_ (fun _ => ?_)
def arlinkref23_Reaches.T5 : Bool × List (List Nat × List Nat) := (true, [([], []), ([], []), ([], []), ([1, 2], [1, 2]), ([3], [3]), ([4], [4]), ([], []), ([5, 6], [5, 6]), ([], []), ([], []), ([8, 9], [8, 9]), ([10], [10]), ([11], [11]), ([7, 12], [7, 12]), ([0, 13, 0, 1, 2, 3, 4, 5, 6, 7, 8, 9, 10, 11, 12, 13], [0, 13]), ([14, 0, 1, 2, 3, 4, 5, 6, 7, 8, 9, 10, 11, 12, 13], [14])])
def arlinkref23_Reaches.B5 : List Nat := [0, 0, 0, 6, 14, 30, 0, 126, 0, 0, 768, 1792, 3840, 8190, 16383, 32767]
theorem arlinkref23_Reaches.tab5 : rtab .any (opsOf Try.f21 5) = arlinkref23_Reaches.T5 := by kernel_rfl
theorem arlinkref23_Reaches.bits5 : waitsOk arlinkref23_Reaches.T5.2 arlinkref23_Reaches.B5 = true := by kernel_rfl
set_option maxHeartbeats 8000000 in
set_option maxRecDepth 100000 in
theorem arlinkref23_Reaches.calls (k : Nat) (a0 : Int) (A1 : Option Addr) (c1 : Nat) (l1 : List (S39)) (r : List Bool) (w : World) (hr1 : Kd.C k39 w A1 l1.length l1) (hc1 : l1.length ≤ c1) (h : arlinkref23_Reaches.f k a0 l1 = some r) :
    Calls Try.prog 21 #[.int .i64 a0, .slice A1 l1.length c1] w fun e w' => ∃ v0_ : Value, e = .returned (v0_) ∧ Kd.R Kd.bool 4 w' w.heap.size (fun _ => True) v0_ r ∧ Below w.heap.size w w' := by
  have HR1 := Aside0.mk hr1
  have HC1 := Aside0.mk hc1
  clear hr1 hc1
  have HB := Aside0.mk (Below.refl w.heap.size w)
  have H : (if 0 ≤ (wrap64 (a0 * a0)) then (if (wrap64 (a0 * a0) : Int).toNat ≤ 281474976710656 then (arlinkref23_Reaches.l0 k a0 l1 (List.replicate (wrap64 (a0 * a0) : Int).toNat false) 0) else (none)) else (none)) = some r := h
  clear h
  obtain ⟨ji3, hji3⟩ : ∃ j_ : Int, (wrap64 (a0 * a0)) = j_ := ⟨_, rfl⟩
  replace H : (if 0 ≤ (ji3) then (if (ji3 : Int).toNat ≤ 281474976710656 then (arlinkref23_Reaches.l0 k a0 l1 (List.replicate (ji3 : Int).toNat false) 0) else (none)) else (none)) = some r := by first | (rw [hji3] at H; exact H) | (simp only [hji3] at H ⊢; exact H)
  have hji3w : (IntKind.i64.wrap (a0 * a0)) = ji3 := (i64_w _).trans hji3
  by_cases c4 : 0 ≤ (ji3)
  · rw [if_pos c4] at H
    have c4b0 := eq_true c4
    have c4b1 : decide (0 ≤ (ji3)) = true := decide_eq_true c4
    clear c4
    by_cases c5 : (ji3 : Int).toNat ≤ 281474976710656
    · rw [if_pos c5] at H
      have c5b0 := eq_true c5
      have c5b1 : decide ((ji3 : Int).toNat ≤ 281474976710656) = true := decide_eq_true c5
      clear c5
      obtain ⟨y164, hy164⟩ : ∃ y_ : List Bool, y_ = (List.replicate (ji3 : Int).toNat false) := ⟨_, rfl⟩
      replace H : (arlinkref23_Reaches.l0 k a0 l1 y164 0) = some r := by first | (rw [hy164]; with_reducible exact H) | (have H2_ := (Option.bind_some _ _).symm.trans H; rw [hy164]; with_reducible exact H2_) | (have H2_ := (Option.bind_some _ _).symm.trans H; with_reducible exact H2_) | with_reducible exact H | (rw [hy164]; exact H) | exact H
      have Ny164 := Aside0.mk hy164
      clear hy164
      have H' := Aside0.mk H
      clear H
      go_enter Try.func21, Try.ntmps21
      go_wp2_with (first | ((with_reducible refine gate_dst (N := 13) rfl ?_); refine Kd.R_make Kd.bool _ 4 rfl (N := 13) rfl 36 _ _ rfl ji3 rfl rfl Try.underlying36 (.bool false) 1 info4 rfl (by decide) (by omega) false (ok := fun _ => True) (okp := fun _ => True) rfl (fun _ hk => hk) trivial (of_decide_eq_true (by first | (with_reducible assumption) | assumption)) (Nat.le_trans (Nat.mul_le_mul_right _ (of_decide_eq_true (by first | (with_reducible assumption) | assumption) : ji3.toNat ≤ 281474976710656)) (by omega)) (Below.refl _ _) (Nat.le_refl _) ?_; intro v165 w6 ho7 hb hg_ hnew_; clear hg_ hnew_; (first | rw [← Ny164.out] at ho7 | (simp only [Int.reduceToNat] at ho7; rw [← Ny164.out] at ho7)); have n0_ := Aside0.mk (Kd.R_lower ho7 (below_size (by repeat (first | (with_reducible first | exact HB.out | apply below_alloc | apply pw_below_drewN | apply below_drew1) | exact HB.out)))); have n1_ := Aside0.mk (below_step (by repeat (first | (with_reducible first | exact HB.out | apply below_alloc | apply pw_below_drewN | apply below_drew1) | exact HB.out)) hb); clear HB; have HO166 := n0_; have HB := n1_; clear n0_ n1_; clear hb ho7))
      go_loopg [6] k (fun kq v6 w' => ∃ (x5_1 : List Bool) (x6_1 : Int), v6 = .int .i64 x6_1 ∧ Aside0 (arlinkref23_Reaches.l0 kq a0 l1 x5_1 x6_1 = some r) ∧ Aside0 (kq ≤ k) ∧ Aside0 (Kd.R Kd.bool 4 w' w.heap.size (fun _ => True) v165 x5_1) ∧ Aside0 (Below w.heap.size w w'))
      case atStart => exact ⟨(y164), (0), (by first | rfl | (simp; done) | (simp [*]; done)), H', ⟨Nat.le_refl _⟩, ⟨by (with_reducible repeat (first | apply Kd.R_alloc | apply Kd.R_drewN | apply Kd.R_drew)); exact HO166.out⟩, ⟨by repeat (first | (with_reducible first | exact HB.out | apply below_alloc | apply pw_below_drewN | apply below_drew1) | exact HB.out)⟩⟩
      case round =>
        clear H'
        try clear c1
        try clear c2
        try clear p2
        try clear c4
        try clear c4b0
        try clear c4b1
        try clear c5
        try clear c5b0
        try clear c5b1
        try clear p6
        obtain ⟨x5_1, x6_1, rfl, HA, HK1, HO_5, HB⟩ := hrel
        cases gk with
        | zero => exact absurd HA.out (by simp [arlinkref23_Reaches.l0])
        | succ k1 =>
          have H := HA.out
          clear HA
          simp only [arlinkref23_Reaches.l0] at H
          by_cases c8 : x6_1 < (l1.length : Int)
          · rw [if_pos c8] at H
            have c8b0 : decide (x6_1 < (l1.length : Int)) = true := decide_eq_true c8
            clear c8
            by_cases c9 : 0 ≤ x6_1
            · rw [if_pos c9] at H
              have c9b0 : decide (0 ≤ x6_1) = true := decide_eq_true c9
              clear c9
              obtain ⟨ji10, hji10⟩ : ∃ j_ : Int, (wrap64 ((wrap64 (((rd_T39 l1 x6_1).f0) * a0)) + ((rd_T39 l1 x6_1).f1))) = j_ := ⟨_, rfl⟩
              replace H : (if 0 ≤ (ji10) then (if (ji10) < (x5_1.length : Int) then (arlinkref23_Reaches.l0 k1 a0 l1 (x5_1.set ((ji10) : Int).toNat true) (wrap64 (x6_1 + 1))) else (none)) else (none)) = some r := by first | (rw [hji10] at H; exact H) | (simp only [hji10] at H ⊢; exact H)
              have hji10w : (IntKind.i64.wrap ((wrap64 (((rd_T39 l1 x6_1).f0) * a0)) + ((rd_T39 l1 x6_1).f1))) = ji10 := (i64_w _).trans hji10
              by_cases c11 : 0 ≤ (ji10)
              · rw [if_pos c11] at H
                have c11b0 : decide (0 ≤ (ji10)) = true := decide_eq_true c11
                clear c11
                by_cases c12 : (ji10) < (x5_1.length : Int)
                · rw [if_pos c12] at H
                  have c12b0 : decide ((ji10) < (x5_1.length : Int)) = true := decide_eq_true c12
                  clear c12
                  obtain ⟨y169, hy169⟩ : ∃ y_ : List Bool, y_ = (x5_1.set ((ji10) : Int).toNat true) := ⟨_, rfl⟩
                  replace H : (arlinkref23_Reaches.l0 k1 a0 l1 y169 (wrap64 (x6_1 + 1))) = some r := by first | (rw [hy169]; with_reducible exact H) | (have H2_ := (Option.bind_some _ _).symm.trans H; rw [hy169]; with_reducible exact H2_) | (have H2_ := (Option.bind_some _ _).symm.trans H; with_reducible exact H2_) | with_reducible exact H | (rw [hy169]; exact H) | exact H
                  have Ny169 := Aside0.mk hy169
                  clear hy169
                  have H' := Aside0.mk H
                  clear H
                  try go_wp2
                  have n0_ := Aside0.mk (Kd.R_drew HO_5.out)
                  have n1_ := Aside0.mk (below_drew1 HB.out)
                  clear HO_5
                  clear HB
                  have HO_5 := n0_
                  have HB := n1_
                  clear n0_ n1_
                  have p167 : 0 ≤ (x6_1 : Int) := of_decide_eq_true (by first | (with_reducible assumption) | assumption)
                  have q167 : x6_1 < (l1.length : Int) := of_decide_eq_true (by first | (with_reducible assumption) | assumption)
                  obtain ⟨ad167, e167, hx167_0, hx167_1⟩ := at_T39 HR1.out x6_1 p167 q167
                  have hw167_1 := hx167_1
                  have hw167_0 := hx167_0
                  cases e167
                  replace hx167_0 := (HB.out.cell (World.block_lt_of_cell? w _ hx167_0)).trans hx167_0
                  replace hx167_1 := (HB.out.cell (World.block_lt_of_cell? w _ hx167_1)).trans hx167_1
                  replace p167 := eq_true p167
                  replace q167 := eq_true q167
                  have p168 : 0 ≤ (x6_1 : Int) := of_decide_eq_true (by first | (with_reducible assumption) | assumption)
                  have q168 : x6_1 < (l1.length : Int) := of_decide_eq_true (by first | (with_reducible assumption) | assumption)
                  obtain ⟨ad168, e168, hx168_0, hx168_1⟩ := at_T39 HR1.out x6_1 p168 q168
                  have hw168_1 := hx168_1
                  have hw168_0 := hx168_0
                  obtain rfl : ad167 = ad168 := (by injection e168)
                  replace hx168_0 := (HB.out.cell (World.block_lt_of_cell? w _ hx168_0)).trans hx168_0
                  replace hx168_1 := (HB.out.cell (World.block_lt_of_cell? w _ hx168_1)).trans hx168_1
                  replace p168 := eq_true p168
                  replace q168 := eq_true q168
                  have p13 : 0 ≤ ((ji10) : Int) := of_decide_eq_true (by first | (with_reducible assumption) | assumption)
                  have q13 : ((ji10) : Int) < ((x5_1.length : Int) : Int) := of_decide_eq_true (by first | (with_reducible assumption) | assumption)
                  obtain ⟨go13, co13, eo13, gb13, gl13, cl13, HG13⟩ := Kd.R_form HO_5.out (by omega)
                  (first | cases eo13 | (injection eo13 with ea_ en_ ec_; (first | subst ea_ | (injection ea_ with ea_; subst ea_)); subst ec_; clear en_))
                  have GB13 := Aside0.mk gb13
                  have GG13 := Aside0.mk HG13
                  clear gb13 gl13 HG13
                  obtain ⟨hx13_0, hf13_0⟩ := Kd.R_celln false HO_5.out ((ji10) : Int) p13 q13
                  replace p13 := eq_true p13
                  replace q13 := eq_true q13
                  have HP15 := Kd.R_putn HO_5.out ((ji10) : Int) true
                  rw [← Ny169.out] at HP15
                  have HQ15 := Aside0.mk HP15
                  clear HP15
                  refine start_ (n := 16) (S := fun w' => w'.cell? (ad167.add ((x6_1).toNat * 2)) = some (.int .i64 ((rd_T39 l1 x6_1).f0)) ∧ w'.cell? ⟨(ad167.add ((x6_1).toNat * 2)).block, (ad167.add ((x6_1).toNat * 2)).off + 1, none⟩ = some (.int .i64 ((rd_T39 l1 x6_1).f1)) ∧ w'.cell? (ad167.add ((x6_1).toNat * 2)) = some (.int .i64 ((rd_T39 l1 x6_1).f0)) ∧ w'.cell? ⟨(ad167.add ((x6_1).toNat * 2)).block, (ad167.add ((x6_1).toNat * 2)).off + 1, none⟩ = some (.int .i64 ((rd_T39 l1 x6_1).f1))) (ds := [15]) #[false, false, false, false, false, false, false, false, false, false, false, false, false, false, false, false] (by kernel_rfl) rfl rfl ⟨((HB.out.cell (World.block_lt_of_cell? w _ hw167_0)).trans hw167_0), ((HB.out.cell (World.block_lt_of_cell? w _ hw167_1)).trans hw167_1), ((HB.out.cell (World.block_lt_of_cell? w _ hw168_0)).trans hw168_0), ((HB.out.cell (World.block_lt_of_cell? w _ hw168_1)).trans hw168_1)⟩ (fun hHeld => ?_); refine with_tabW arlinkref23_Reaches.tab5 arlinkref23_Reaches.bits5 (fun HT_ HW_ => ?_)
                  generalize wr.drew = w14 at HO_5 HB GG13 HQ15 hf13_0 hx13_0 hx167_0 hx167_1 hx168_0 hx168_1 hHeld ⊢
                  refine pure_ (i := 0) (N := some 20) (v := ?_) (a' := ?_) #[true, false, false, false, false, false, false, false, false, false, false, false, false, false, false, false] rfl rfl (any_of HT_.out (by kernel_rfl)) (fun _ _ _ h => h) (Or.inl ⟨by rfl, ?_⟩) ?_ ?_
                  rotate_left
                  · intro w'
                    go_simp
                    with_reducible rfl
                  rotate_left
                  · simp only [Act.put, List.setIfInBounds_toArray, List.set_cons_zero, List.set_cons_succ, i64_w, i32_w]
                    rfl
                  refine pure_ (i := 1) (N := some 21) (v := ?_) (a' := ?_) #[true, true, false, false, false, false, false, false, false, false, false, false, false, false, false, false] rfl rfl (any_of HT_.out (by kernel_rfl)) (fun _ _ _ h => h) (Or.inl ⟨by rfl, ?_⟩) ?_ ?_
                  rotate_left
                  · intro w'
                    go_simp
                    with_reducible rfl
                  rotate_left
                  · simp only [Act.put, List.setIfInBounds_toArray, List.set_cons_zero, List.set_cons_succ, i64_w, i32_w]
                    rfl
                  refine pure_ (i := 2) (N := some 22) (v := ?_) (a' := ?_) #[true, true, true, false, false, false, false, false, false, false, false, false, false, false, false, false] rfl rfl (any_of HT_.out (by kernel_rfl)) (fun _ _ _ h => h) (Or.inl ⟨by rfl, ?_⟩) ?_ ?_
                  rotate_left
                  · intro w'
                    go_simp
                    with_reducible rfl
                  rotate_left
                  · simp only [Act.put, List.setIfInBounds_toArray, List.set_cons_zero, List.set_cons_succ, i64_w, i32_w]
                    rfl
                  refine pure_ (i := 3) (N := some 23) (v := ?_) (a' := ?_) #[true, true, true, true, false, false, false, false, false, false, false, false, false, false, false, false] rfl rfl (any_of HT_.out (by kernel_rfl)) (fun _ _ _ h => h) (Or.inl ⟨by rfl, ?_⟩) ?_ ?_
                  rotate_left
                  · intro w'
                    go_simp
                    with_reducible rfl
                  rotate_left
                  · simp only [Act.put, List.setIfInBounds_toArray, List.set_cons_zero, List.set_cons_succ, i64_w, i32_w]
                    rfl
                  refine pure_ (i := 4) (N := some 24) (v := ?_) (a' := ?_) #[true, true, true, true, true, false, false, false, false, false, false, false, false, false, false, false] rfl rfl (any_of HT_.out (by kernel_rfl)) (fun _ _ _ h => h) (Or.inl ⟨by rfl, ?_⟩) ?_ ?_
                  rotate_left
                  · intro w'
                    go_simp
                    with_reducible rfl
                  rotate_left
                  · simp only [Act.put, List.setIfInBounds_toArray, List.set_cons_zero, List.set_cons_succ, i64_w, i32_w]
                    rfl
                  refine pure_ (i := 6) (N := some 26) (v := ?_) (a' := ?_) #[true, true, true, true, true, false, true, false, false, false, false, false, false, false, false, false] rfl rfl (any_of HT_.out (by kernel_rfl)) (fun _ _ _ h => h) (Or.inl ⟨by rfl, ?_⟩) ?_ ?_
                  rotate_left
                  · intro w'
                    go_simp
                    with_reducible rfl
                  rotate_left
                  · simp only [Act.put, List.setIfInBounds_toArray, List.set_cons_zero, List.set_cons_succ, i64_w, i32_w]
                    rfl
                  refine pure_ (i := 8) (N := some 28) (v := ?_) (a' := ?_) #[true, true, true, true, true, false, true, false, true, false, false, false, false, false, false, false] rfl rfl (any_of HT_.out (by kernel_rfl)) (fun _ _ _ h => h) (Or.inl ⟨by rfl, ?_⟩) ?_ ?_
                  rotate_left
                  · intro w'
                    go_simp
                    with_reducible rfl
                  rotate_left
                  · simp only [Act.put, List.setIfInBounds_toArray, List.set_cons_zero, List.set_cons_succ, i64_w, i32_w]
                    rfl
                  refine pure_ (i := 9) (N := some 29) (v := ?_) (a' := ?_) #[true, true, true, true, true, false, true, false, true, true, false, false, false, false, false, false] rfl rfl (any_of HT_.out (by kernel_rfl)) (fun _ _ _ h => h) (Or.inl ⟨by rfl, ?_⟩) ?_ ?_
                  rotate_left
                  · intro w'
                    go_simp
                    with_reducible rfl
                  rotate_left
                  · simp only [Act.put, List.setIfInBounds_toArray, List.set_cons_zero, List.set_cons_succ, i64_w, i32_w]
                    rfl
                  refine pure_ (i := 10) (N := some 30) (v := ?_) (a' := ?_) #[true, true, true, true, true, false, true, false, true, true, true, false, false, false, false, false] rfl rfl (any_of HT_.out (by kernel_rfl)) (fun _ _ _ h => h) (Or.inl ⟨by rfl, ?_⟩) ?_ ?_
                  rotate_left
                  · intro w'
                    go_simp
                    with_reducible rfl
                  rotate_left
                  · simp only [Act.put, List.setIfInBounds_toArray, List.set_cons_zero, List.set_cons_succ, i64_w, i32_w]
                    rfl
                  refine pure_ (i := 11) (N := some 31) (v := ?_) (a' := ?_) #[true, true, true, true, true, false, true, false, true, true, true, true, false, false, false, false] rfl rfl (any_of HT_.out (by kernel_rfl)) (fun _ _ _ h => h) (Or.inl ⟨by rfl, ?_⟩) ?_ ?_
                  rotate_left
                  · intro w'
                    go_simp
                    with_reducible rfl
                  rotate_left
                  · simp only [Act.put, List.setIfInBounds_toArray, List.set_cons_zero, List.set_cons_succ, i64_w, i32_w]
                    rfl
                  refine take_ (i := 5) (N := some 25) (v := ?_) (a' := ?_) #[true, true, true, true, true, true, true, false, true, true, true, true, false, false, false, false] rfl rfl (take_ofW HT_.out HW_.out (by kernel_rfl)) (fun _ _ _ h => h) (Or.inl ⟨by rfl, ?_⟩) hHeld ?_ ?_
                  rotate_left
                  · rintro w' ⟨s0, s1, s2, s3⟩
                    go_simp
                    with_reducible rfl
                  rotate_left
                  · simp only [Act.put, List.setIfInBounds_toArray, List.set_cons_zero, List.set_cons_succ, i64_w, i32_w]
                    rfl
                  refine pure_ (i := 7) (N := some 27) (v := ?_) (a' := ?_) #[true, true, true, true, true, true, true, true, true, true, true, true, false, false, false, false] rfl rfl (any_of HT_.out (by kernel_rfl)) (fun _ _ _ h => h) (Or.inl ⟨by rfl, ?_⟩) ?_ ?_
                  rotate_left
                  · intro w'
                    go_simp
                    with_reducible rfl
                  rotate_left
                  · simp only [Act.put, List.setIfInBounds_toArray, List.set_cons_zero, List.set_cons_succ, i64_w, i32_w]
                    rfl
                  refine take_ (i := 12) (N := some 32) (v := ?_) (a' := ?_) #[true, true, true, true, true, true, true, true, true, true, true, true, true, false, false, false] rfl rfl (take_ofW HT_.out HW_.out (by kernel_rfl)) (fun _ _ _ h => h) (Or.inl ⟨by rfl, ?_⟩) hHeld ?_ ?_
                  rotate_left
                  · rintro w' ⟨s0, s1, s2, s3⟩
                    go_simp
                    with_reducible rfl
                  rotate_left
                  · simp only [Act.put, List.setIfInBounds_toArray, List.set_cons_zero, List.set_cons_succ, i64_w, i32_w]
                    rfl
                  refine pure_ (i := 13) (N := some 33) (v := ?_) (a' := ?_) #[true, true, true, true, true, true, true, true, true, true, true, true, true, true, false, false] rfl rfl (any_of HT_.out (by kernel_rfl)) (fun _ _ _ h => h) (Or.inl ⟨by rfl, ?_⟩) ?_ ?_
                  rotate_left
                  · intro w'
                    go_simp
                    with_reducible rfl
                  rotate_left
                  · simp only [Act.put, List.setIfInBounds_toArray, List.set_cons_zero, List.set_cons_succ, i64_w, i32_w]
                    rfl
                  refine pure_ (i := 14) (N := some 34) (v := ?_) (a' := ?_) #[true, true, true, true, true, true, true, true, true, true, true, true, true, true, true, false] rfl rfl (any_of HT_.out (by kernel_rfl)) (fun _ _ _ h => h) (Or.inl ⟨by rfl, ?_⟩) ?_ ?_
                  rotate_left
                  · intro w'
                    go_simp
                    with_reducible rfl
                  rotate_left
                  · simp only [Act.put, List.setIfInBounds_toArray, List.set_cons_zero, List.set_cons_succ, i64_w, i32_w]
                    rfl
                  refine last_ (i := 15) (N := none) #[true, true, true, true, true, true, true, true, true, true, true, true, true, true, true, true] rfl rfl (one_of HT_.out (by kernel_rfl)) (by decide) (fun K hK => ?_)
                  refine skip_ (w1 := ?_) (by rfl) rfl ?_ ?_
                  rotate_left
                  · go_simp
                    rfl
                  refine hK.out _ _ ?_
                  clear hK K
                  refine done_ (done_of HT_.out (by kernel_rfl)) ?_
                  try go_wp2
                  go_roundg k1
                  case measure => have := HK1.out; omega
                  case rel => exact ⟨(y169), (wrap64 (x6_1 + 1)), (by first | rfl | (simp; done) | (simp [*]; done)), H', ⟨by have := HK1.out; omega⟩, ⟨by (with_reducible repeat (first | apply Kd.R_alloc | apply Kd.R_drewN | apply Kd.R_drew)); exact HQ15.out⟩, ⟨by repeat (first | (with_reducible first | exact HB.out | apply below_alloc | apply pw_below_drewN | apply below_drew1 | refine below_set ?_ GB13.out) | exact HB.out)⟩⟩
                · rw [if_neg c12] at H
                  exact absurd H (by simp)
              · rw [if_neg c11] at H
                exact absurd H (by simp)
            · rw [if_neg c9] at H
              exact absurd H (by simp)
          · rw [if_neg c8] at H
            have c8b0 : decide (x6_1 < (l1.length : Int)) = false := decide_eq_false c8
            clear c8
            have H' := Aside0.mk H
            clear H
            go_wp2
            go_loopg [7] k1 (fun kq v7 w' => ∃ (x5_2 : List Bool) (x7_2 : Int), v7 = .int .i64 x7_2 ∧ Aside0 (arlinkref23_Reaches.l1 kq a0 x5_2 x7_2 = some r) ∧ Aside0 (kq ≤ k1) ∧ Aside0 (Kd.R Kd.bool 4 w' w.heap.size (fun _ => True) v165 x5_2) ∧ Aside0 (Below w.heap.size w w'))
            case atStart => exact ⟨(x5_1), (0), (by first | rfl | (simp; done) | (simp [*]; done)), H', ⟨Nat.le_refl _⟩, ⟨by (with_reducible repeat (first | apply Kd.R_alloc | apply Kd.R_drewN | apply Kd.R_drew)); exact HO_5.out⟩, ⟨by repeat (first | (with_reducible first | exact HB.out | apply below_alloc | apply pw_below_drewN | apply below_drew1) | exact HB.out)⟩⟩
            case round =>
              clear H'
              try clear c1
              try clear p1
              try clear q1
              try clear hx1
              try clear c2
              try clear p2
              try clear c4
              try clear c4b0
              try clear c4b1
              try clear c5
              try clear c5b0
              try clear c5b1
              try clear p6
              try clear c8
              try clear c8b0
              try clear c9
              try clear c9b0
              try clear c11
              try clear c11b0
              try clear c12
              try clear c12b0
              try clear p13
              try clear q13
              try clear hx13
              try clear hf13
              try clear hx13_0
              try clear hx167_0
              try clear hx167_1
              try clear hx168_0
              try clear hx168_1
              try clear p13
              try clear p167
              try clear p168
              try clear p2
              try clear p6
              try clear q13
              try clear q167
              try clear q168
              obtain ⟨x5_2, x7_2, rfl, HA, HK2, HO_5, HB⟩ := hrel
              cases gk with
              | zero => exact absurd HA.out (by simp [arlinkref23_Reaches.l1])
              | succ k2 =>
                have H := HA.out
                clear HA
                simp only [arlinkref23_Reaches.l1] at H
                by_cases c16 : x7_2 < a0
                · rw [if_pos c16] at H
                  have c16b0 : decide (x7_2 < a0) = true := decide_eq_true c16
                  clear c16
                  have H' := Aside0.mk H
                  clear H
                  go_wp2
                  go_loopg [8] k2 (fun kq v8 w' => ∃ (x5_3 : List Bool) (x8_3 : Int), v8 = .int .i64 x8_3 ∧ Aside0 (arlinkref23_Reaches.l2 kq a0 x5_3 x7_2 x8_3 = some r) ∧ Aside0 (kq ≤ k2) ∧ Aside0 (Kd.R Kd.bool 4 w' w.heap.size (fun _ => True) v165 x5_3) ∧ Aside0 (Below w.heap.size w w'))
                  case atStart => exact ⟨(x5_2), (0), (by first | rfl | (simp; done) | (simp [*]; done)), H', ⟨Nat.le_refl _⟩, ⟨by (with_reducible repeat (first | apply Kd.R_alloc | apply Kd.R_drewN | apply Kd.R_drew)); exact HO_5.out⟩, ⟨by repeat (first | (with_reducible first | exact HB.out | apply below_alloc | apply pw_below_drewN | apply below_drew1) | exact HB.out)⟩⟩
                  case round =>
                    clear H'
                    try clear c1
                    try clear p1
                    try clear q1
                    try clear hx1
                    try clear c2
                    try clear p2
                    try clear c4
                    try clear c4b0
                    try clear c4b1
                    try clear c5
                    try clear c5b0
                    try clear c5b1
                    try clear p6
                    try clear c8
                    try clear c8b0
                    try clear c9
                    try clear c9b0
                    try clear c11
                    try clear c11b0
                    try clear c12
                    try clear c12b0
                    try clear p13
                    try clear q13
                    try clear hx13
                    try clear hf13
                    try clear c16
                    try clear c16b0
                    try clear p16
                    try clear q16
                    try clear hx16
                    try clear hx13_0
                    try clear hx167_0
                    try clear hx167_1
                    try clear hx168_0
                    try clear hx168_1
                    try clear p1
                    try clear p13
                    try clear p167
                    try clear p168
                    try clear p2
                    try clear p6
                    try clear q1
                    try clear q13
                    try clear q167
                    try clear q168
                    obtain ⟨x5_3, x8_3, rfl, HA, HK3, HO_5, HB⟩ := hrel
                    cases gk with
                    | zero => exact absurd HA.out (by simp [arlinkref23_Reaches.l2])
                    | succ k3 =>
                      have H := HA.out
                      clear HA
                      simp only [arlinkref23_Reaches.l2] at H
                      by_cases c17 : x8_3 < a0
                      · rw [if_pos c17] at H
                        have c17b0 : decide (x8_3 < a0) = true := decide_eq_true c17
                        clear c17
                        have H' := Aside0.mk H
                        clear H
                        go_wp2
                        go_loopg [9] k3 (fun kq v9 w' => ∃ (x5_4 : List Bool) (x9_4 : Int), v9 = .int .i64 x9_4 ∧ Aside0 (arlinkref23_Reaches.l3 kq a0 x5_4 x7_2 x8_3 x9_4 = some r) ∧ Aside0 (kq ≤ k3) ∧ Aside0 (Kd.R Kd.bool 4 w' w.heap.size (fun _ => True) v165 x5_4) ∧ Aside0 (Below w.heap.size w w'))
                        case atStart => exact ⟨(x5_3), (0), (by first | rfl | (simp; done) | (simp [*]; done)), H', ⟨Nat.le_refl _⟩, ⟨by (with_reducible repeat (first | apply Kd.R_alloc | apply Kd.R_drewN | apply Kd.R_drew)); exact HO_5.out⟩, ⟨by repeat (first | (with_reducible first | exact HB.out | apply below_alloc | apply pw_below_drewN | apply below_drew1) | exact HB.out)⟩⟩
                        case round =>
                          clear H'
                          try clear c1
                          try clear p1
                          try clear q1
                          try clear hx1
                          try clear c2
                          try clear p2
                          try clear c4
                          try clear c4b0
                          try clear c4b1
                          try clear c5
                          try clear c5b0
                          try clear c5b1
                          try clear p6
                          try clear c8
                          try clear c8b0
                          try clear c9
                          try clear c9b0
                          try clear c11
                          try clear c11b0
                          try clear c12
                          try clear c12b0
                          try clear p13
                          try clear q13
                          try clear hx13
                          try clear hf13
                          try clear c16
                          try clear c16b0
                          try clear p16
                          try clear q16
                          try clear hx16
                          try clear c17
                          try clear c17b0
                          try clear hx13_0
                          try clear hx167_0
                          try clear hx167_1
                          try clear hx168_0
                          try clear hx168_1
                          try clear p1
                          try clear p13
                          try clear p16
                          try clear p167
                          try clear p168
                          try clear p2
                          try clear p6
                          try clear q1
                          try clear q13
                          try clear q16
                          try clear q167
                          try clear q168
                          obtain ⟨x5_4, x9_4, rfl, HA, HK4, HO_5, HB⟩ := hrel
                          cases gk with
                          | zero => exact absurd HA.out (by simp [arlinkref23_Reaches.l3])
                          | succ k4 =>
                            have H := HA.out
                            clear HA
                            simp only [arlinkref23_Reaches.l3] at H
                            by_cases c18 : x9_4 < a0
                            · rw [if_pos c18] at H
                              have c18b0 : decide (x9_4 < a0) = true := decide_eq_true c18
                              clear c18
                              obtain ⟨ji19, hji19⟩ : ∃ j_ : Int, (wrap64 ((wrap64 (x8_3 * a0)) + x7_2)) = j_ := ⟨_, rfl⟩
                              replace H : (if 0 ≤ (ji19) then (if (ji19) < (x5_4.length : Int) then (if rdOf false x5_4 (ji19) = true then (if 0 ≤ (wrap64 ((wrap64 (x7_2 * a0)) + x9_4)) then (if (wrap64 ((wrap64 (x7_2 * a0)) + x9_4)) < (x5_4.length : Int) then (if rdOf false x5_4 (wrap64 ((wrap64 (x7_2 * a0)) + x9_4)) = true then (if 0 ≤ (wrap64 ((wrap64 (x8_3 * a0)) + x9_4)) then (if (wrap64 ((wrap64 (x8_3 * a0)) + x9_4)) < (x5_4.length : Int) then (arlinkref23_Reaches.l3 k4 a0 (x5_4.set ((wrap64 ((wrap64 (x8_3 * a0)) + x9_4)) : Int).toNat true) x7_2 x8_3 (wrap64 (x9_4 + 1))) else (none)) else (none)) else (arlinkref23_Reaches.l3 k4 a0 x5_4 x7_2 x8_3 (wrap64 (x9_4 + 1)))) else (none)) else (none)) else (arlinkref23_Reaches.l3 k4 a0 x5_4 x7_2 x8_3 (wrap64 (x9_4 + 1)))) else (none)) else (none)) = some r := by first | (rw [hji19] at H; exact H) | (simp only [hji19] at H ⊢; exact H)
                              have hji19w : (IntKind.i64.wrap ((wrap64 (x8_3 * a0)) + x7_2)) = ji19 := (i64_w _).trans hji19
                              by_cases c20 : 0 ≤ (ji19)
                              · rw [if_pos c20] at H
                                have c20b0 : decide (0 ≤ (ji19)) = true := decide_eq_true c20
                                clear c20
                                by_cases c21 : (ji19) < (x5_4.length : Int)
                                · rw [if_pos c21] at H
                                  have c21b0 : decide ((ji19) < (x5_4.length : Int)) = true := decide_eq_true c21
                                  clear c21
                                  obtain ⟨bq22, hbq22⟩ : ∃ b_ : Bool, b_ = (rdOf false x5_4 (ji19)) := ⟨_, rfl⟩
                                  replace H : (if bq22 = true then (if 0 ≤ (wrap64 ((wrap64 (x7_2 * a0)) + x9_4)) then (if (wrap64 ((wrap64 (x7_2 * a0)) + x9_4)) < (x5_4.length : Int) then (if rdOf false x5_4 (wrap64 ((wrap64 (x7_2 * a0)) + x9_4)) = true then (if 0 ≤ (wrap64 ((wrap64 (x8_3 * a0)) + x9_4)) then (if (wrap64 ((wrap64 (x8_3 * a0)) + x9_4)) < (x5_4.length : Int) then (arlinkref23_Reaches.l3 k4 a0 (x5_4.set ((wrap64 ((wrap64 (x8_3 * a0)) + x9_4)) : Int).toNat true) x7_2 x8_3 (wrap64 (x9_4 + 1))) else (none)) else (none)) else (arlinkref23_Reaches.l3 k4 a0 x5_4 x7_2 x8_3 (wrap64 (x9_4 + 1)))) else (none)) else (none)) else (arlinkref23_Reaches.l3 k4 a0 x5_4 x7_2 x8_3 (wrap64 (x9_4 + 1)))) = some r := by rw [← hbq22] at H; exact H
                                  have Nbq22 := Aside0.mk hbq22
                                  clear hbq22
                                  by_cases c23 : bq22 = true
                                  · subst c23
                                    have H1 : (if 0 ≤ (wrap64 ((wrap64 (x7_2 * a0)) + x9_4)) then (if (wrap64 ((wrap64 (x7_2 * a0)) + x9_4)) < (x5_4.length : Int) then (if rdOf false x5_4 (wrap64 ((wrap64 (x7_2 * a0)) + x9_4)) = true then (if 0 ≤ (wrap64 ((wrap64 (x8_3 * a0)) + x9_4)) then (if (wrap64 ((wrap64 (x8_3 * a0)) + x9_4)) < (x5_4.length : Int) then (arlinkref23_Reaches.l3 k4 a0 (x5_4.set ((wrap64 ((wrap64 (x8_3 * a0)) + x9_4)) : Int).toNat true) x7_2 x8_3 (wrap64 (x9_4 + 1))) else (none)) else (none)) else (arlinkref23_Reaches.l3 k4 a0 x5_4 x7_2 x8_3 (wrap64 (x9_4 + 1)))) else (none)) else (none)) = some r := by rw [if_pos rfl] at H; exact H
                                    clear H
                                    have H := H1
                                    clear H1
                                    obtain ⟨ji24, hji24⟩ : ∃ j_ : Int, (wrap64 ((wrap64 (x7_2 * a0)) + x9_4)) = j_ := ⟨_, rfl⟩
                                    replace H : (if 0 ≤ (ji24) then (if (ji24) < (x5_4.length : Int) then (if rdOf false x5_4 (ji24) = true then (if 0 ≤ (wrap64 ((wrap64 (x8_3 * a0)) + x9_4)) then (if (wrap64 ((wrap64 (x8_3 * a0)) + x9_4)) < (x5_4.length : Int) then (arlinkref23_Reaches.l3 k4 a0 (x5_4.set ((wrap64 ((wrap64 (x8_3 * a0)) + x9_4)) : Int).toNat true) x7_2 x8_3 (wrap64 (x9_4 + 1))) else (none)) else (none)) else (arlinkref23_Reaches.l3 k4 a0 x5_4 x7_2 x8_3 (wrap64 (x9_4 + 1)))) else (none)) else (none)) = some r := by first | (rw [hji24] at H; exact H) | (simp only [hji24] at H ⊢; exact H)
                                    have hji24w : (IntKind.i64.wrap ((wrap64 (x7_2 * a0)) + x9_4)) = ji24 := (i64_w _).trans hji24
                                    by_cases c25 : 0 ≤ (ji24)
                                    · rw [if_pos c25] at H
                                      have c25b0 : decide (0 ≤ (ji24)) = true := decide_eq_true c25
                                      clear c25
                                      by_cases c26 : (ji24) < (x5_4.length : Int)
                                      · rw [if_pos c26] at H
                                        have c26b0 : decide ((ji24) < (x5_4.length : Int)) = true := decide_eq_true c26
                                        clear c26
                                        obtain ⟨bq27, hbq27⟩ : ∃ b_ : Bool, b_ = (rdOf false x5_4 (ji24)) := ⟨_, rfl⟩
                                        replace H : (if bq27 = true then (if 0 ≤ (wrap64 ((wrap64 (x8_3 * a0)) + x9_4)) then (if (wrap64 ((wrap64 (x8_3 * a0)) + x9_4)) < (x5_4.length : Int) then (arlinkref23_Reaches.l3 k4 a0 (x5_4.set ((wrap64 ((wrap64 (x8_3 * a0)) + x9_4)) : Int).toNat true) x7_2 x8_3 (wrap64 (x9_4 + 1))) else (none)) else (none)) else (arlinkref23_Reaches.l3 k4 a0 x5_4 x7_2 x8_3 (wrap64 (x9_4 + 1)))) = some r := by rw [← hbq27] at H; exact H
                                        have Nbq27 := Aside0.mk hbq27
                                        clear hbq27
                                        by_cases c28 : bq27 = true
                                        · subst c28
                                          have H1 : (if 0 ≤ (wrap64 ((wrap64 (x8_3 * a0)) + x9_4)) then (if (wrap64 ((wrap64 (x8_3 * a0)) + x9_4)) < (x5_4.length : Int) then (arlinkref23_Reaches.l3 k4 a0 (x5_4.set ((wrap64 ((wrap64 (x8_3 * a0)) + x9_4)) : Int).toNat true) x7_2 x8_3 (wrap64 (x9_4 + 1))) else (none)) else (none)) = some r := by rw [if_pos rfl] at H; exact H
                                          clear H
                                          have H := H1
                                          clear H1
                                          obtain ⟨ji29, hji29⟩ : ∃ j_ : Int, (wrap64 ((wrap64 (x8_3 * a0)) + x9_4)) = j_ := ⟨_, rfl⟩
                                          replace H : (if 0 ≤ (ji29) then (if (ji29) < (x5_4.length : Int) then (arlinkref23_Reaches.l3 k4 a0 (x5_4.set ((ji29) : Int).toNat true) x7_2 x8_3 (wrap64 (x9_4 + 1))) else (none)) else (none)) = some r := by first | (rw [hji29] at H; exact H) | (simp only [hji29] at H ⊢; exact H)
                                          have hji29w : (IntKind.i64.wrap ((wrap64 (x8_3 * a0)) + x9_4)) = ji29 := (i64_w _).trans hji29
                                          by_cases c30 : 0 ≤ (ji29)
                                          · rw [if_pos c30] at H
                                            have c30b0 : decide (0 ≤ (ji29)) = true := decide_eq_true c30
                                            clear c30
                                            by_cases c31 : (ji29) < (x5_4.length : Int)
                                            · rw [if_pos c31] at H
                                              have c31b0 : decide ((ji29) < (x5_4.length : Int)) = true := decide_eq_true c31
                                              clear c31
                                              obtain ⟨y172, hy172⟩ : ∃ y_ : List Bool, y_ = (x5_4.set ((ji29) : Int).toNat true) := ⟨_, rfl⟩
                                              replace H : (arlinkref23_Reaches.l3 k4 a0 y172 x7_2 x8_3 (wrap64 (x9_4 + 1))) = some r := by first | (rw [hy172]; with_reducible exact H) | (have H2_ := (Option.bind_some _ _).symm.trans H; rw [hy172]; with_reducible exact H2_) | (have H2_ := (Option.bind_some _ _).symm.trans H; with_reducible exact H2_) | with_reducible exact H | (rw [hy172]; exact H) | exact H
                                              have Ny172 := Aside0.mk hy172
                                              clear hy172
                                              have H' := Aside0.mk H
                                              clear H
                                              obtain ⟨Ao33, co33, eo33⟩ := Kd.R_slice HO_5.out
                                              subst eo33
                                              have p170 : 0 ≤ ((ji19) : Int) := of_decide_eq_true (by first | (with_reducible assumption) | assumption)
                                              have q170 : (ji19) < (x5_4.length : Int) := of_decide_eq_true (by first | (with_reducible assumption) | assumption)
                                              obtain ⟨ad170, e170, hx170_0⟩ := Kd.at_bool (Kd.R_reads' HO_5.out).2.2 (ji19) p170 q170
                                              (try rw [← Nbq22.out] at hx170_0)
                                              (try rw [← Nbq27.out] at hx170_0)
                                              cases e170
                                              replace p170 := eq_true p170
                                              replace q170 := eq_true q170
                                              have p171 : 0 ≤ ((ji24) : Int) := of_decide_eq_true (by first | (with_reducible assumption) | assumption)
                                              have q171 : (ji24) < (x5_4.length : Int) := of_decide_eq_true (by first | (with_reducible assumption) | assumption)
                                              obtain ⟨ad171, e171, hx171_0⟩ := Kd.at_bool (Kd.R_reads' HO_5.out).2.2 (ji24) p171 q171
                                              (try rw [← Nbq22.out] at hx171_0)
                                              (try rw [← Nbq27.out] at hx171_0)
                                              obtain rfl : ad170 = ad171 := (by injection e171)
                                              replace p171 := eq_true p171
                                              replace q171 := eq_true q171
                                              have p32 : 0 ≤ ((ji29) : Int) := of_decide_eq_true (by first | (with_reducible assumption) | assumption)
                                              have q32 : ((ji29) : Int) < ((x5_4.length : Int) : Int) := of_decide_eq_true (by first | (with_reducible assumption) | assumption)
                                              obtain ⟨go32, co32, eo32, gb32, gl32, cl32, HG32⟩ := Kd.R_form HO_5.out (by omega)
                                              (first | cases eo32 | (injection eo32 with ea_ en_ ec_; (first | subst ea_ | (injection ea_ with ea_; subst ea_)); subst ec_; clear en_))
                                              have GB32 := Aside0.mk gb32
                                              have GG32 := Aside0.mk HG32
                                              clear gb32 gl32 HG32
                                              (first | simp only [add_plain] at hx170_0 | skip)
                                              (first | simp only [add_plain] at hx171_0 | skip)
                                              obtain ⟨hx32_0, hf32_0⟩ := Kd.R_celln false HO_5.out ((ji29) : Int) p32 q32
                                              replace p32 := eq_true p32
                                              replace q32 := eq_true q32
                                              have HP34 := Kd.R_putg HO_5.out ((ji29) : Int) true
                                              go_wp2_with (first | ((with_reducible refine gate_store (t := 4) (p := 74) rfl ?_); refine store_event (t := 4) (p := 74) (v := ?vo_w35) (w1 := (wr.setCell ⟨go32, ((ji29) : Int).toNat, none⟩ (.bool true))) ?hg ?ho ?hn ?hr ?_; (case ho => rfl); (case hg => rfl); (case hn => rfl); (case hr => first | (go_simp; done) | (go_simp; rfl)); intro w35 hw; have hg : wr.grownBy w35 (some go32) := (by rw [hw]; exact HP34.2); have hp_ : Kd.R Kd.bool 4 w35 w.heap.size (fun _ => True) (.slice (some ⟨go32, 0, none⟩) x5_4.length co33) y172 := (by rw [hw, Ny172.out]; exact HP34.1); clear HP34; have n0_ := Aside0.mk (hp_); have n1_ := Aside0.mk ((by rw [hw]; exact below_set (HB.out) GB32.out : Below w.heap.size w w35)); clear HO_5; clear HB; have HO_5 := n0_; have HB := n1_; clear n0_ n1_; clear hg hw hp_))
                                              go_roundg k4
                                              case measure => have := HK1.out; have := HK2.out; have := HK3.out; have := HK4.out; omega
                                              case rel => exact ⟨(y172), (wrap64 (x9_4 + 1)), (by first | rfl | (simp; done) | (simp [*]; done)), H', ⟨by have := HK1.out; have := HK2.out; have := HK3.out; have := HK4.out; omega⟩, ⟨by (with_reducible repeat (first | apply Kd.R_alloc | apply Kd.R_drewN | apply Kd.R_drew)); exact HO_5.out⟩, ⟨by repeat (first | (with_reducible first | exact HB.out | apply below_alloc | apply pw_below_drewN | apply below_drew1) | exact HB.out)⟩⟩
                                            · rw [if_neg c31] at H
                                              exact absurd H (by simp)
                                          · rw [if_neg c30] at H
                                            exact absurd H (by simp)
                                        · replace c28 := Bool.eq_false_iff.mpr c28
                                          subst c28
                                          have H1 : (arlinkref23_Reaches.l3 k4 a0 x5_4 x7_2 x8_3 (wrap64 (x9_4 + 1))) = some r := by rw [if_neg (show ¬ (false = true) by decide)] at H; exact H
                                          clear H
                                          have H := H1
                                          clear H1
                                          have H' := Aside0.mk H
                                          clear H
                                          obtain ⟨Ao36, co36, eo36⟩ := Kd.R_slice HO_5.out
                                          subst eo36
                                          have p170 : 0 ≤ ((ji19) : Int) := of_decide_eq_true (by first | (with_reducible assumption) | assumption)
                                          have q170 : (ji19) < (x5_4.length : Int) := of_decide_eq_true (by first | (with_reducible assumption) | assumption)
                                          obtain ⟨ad170, e170, hx170_0⟩ := Kd.at_bool (Kd.R_reads' HO_5.out).2.2 (ji19) p170 q170
                                          (try rw [← Nbq22.out] at hx170_0)
                                          (try rw [← Nbq27.out] at hx170_0)
                                          cases e170
                                          replace p170 := eq_true p170
                                          replace q170 := eq_true q170
                                          have p171 : 0 ≤ ((ji24) : Int) := of_decide_eq_true (by first | (with_reducible assumption) | assumption)
                                          have q171 : (ji24) < (x5_4.length : Int) := of_decide_eq_true (by first | (with_reducible assumption) | assumption)
                                          obtain ⟨ad171, e171, hx171_0⟩ := Kd.at_bool (Kd.R_reads' HO_5.out).2.2 (ji24) p171 q171
                                          (try rw [← Nbq22.out] at hx171_0)
                                          (try rw [← Nbq27.out] at hx171_0)
                                          obtain rfl : ad170 = ad171 := (by injection e171)
                                          replace p171 := eq_true p171
                                          replace q171 := eq_true q171
                                          go_wp2
                                          go_roundg k4
                                          case measure => have := HK1.out; have := HK2.out; have := HK3.out; have := HK4.out; omega
                                          case rel => exact ⟨(x5_4), (wrap64 (x9_4 + 1)), (by first | rfl | (simp; done) | (simp [*]; done)), H', ⟨by have := HK1.out; have := HK2.out; have := HK3.out; have := HK4.out; omega⟩, ⟨by (with_reducible repeat (first | apply Kd.R_alloc | apply Kd.R_drewN | apply Kd.R_drew)); exact HO_5.out⟩, ⟨by repeat (first | (with_reducible first | exact HB.out | apply below_alloc | apply pw_below_drewN | apply below_drew1) | exact HB.out)⟩⟩
                                      · rw [if_neg c26] at H
                                        exact absurd H (by simp)
                                    · rw [if_neg c25] at H
                                      exact absurd H (by simp)
                                  · replace c23 := Bool.eq_false_iff.mpr c23
                                    subst c23
                                    have H1 : (arlinkref23_Reaches.l3 k4 a0 x5_4 x7_2 x8_3 (wrap64 (x9_4 + 1))) = some r := by rw [if_neg (show ¬ (false = true) by decide)] at H; exact H
                                    clear H
                                    have H := H1
                                    clear H1
                                    have H' := Aside0.mk H
                                    clear H
                                    obtain ⟨Ao37, co37, eo37⟩ := Kd.R_slice HO_5.out
                                    subst eo37
                                    have p170 : 0 ≤ ((ji19) : Int) := of_decide_eq_true (by first | (with_reducible assumption) | assumption)
                                    have q170 : (ji19) < (x5_4.length : Int) := of_decide_eq_true (by first | (with_reducible assumption) | assumption)
                                    obtain ⟨ad170, e170, hx170_0⟩ := Kd.at_bool (Kd.R_reads' HO_5.out).2.2 (ji19) p170 q170
                                    (try rw [← Nbq22.out] at hx170_0)
                                    cases e170
                                    replace p170 := eq_true p170
                                    replace q170 := eq_true q170
                                    go_wp2
                                    go_roundg k4
                                    case measure => have := HK1.out; have := HK2.out; have := HK3.out; have := HK4.out; omega
                                    case rel => exact ⟨(x5_4), (wrap64 (x9_4 + 1)), (by first | rfl | (simp; done) | (simp [*]; done)), H', ⟨by have := HK1.out; have := HK2.out; have := HK3.out; have := HK4.out; omega⟩, ⟨by (with_reducible repeat (first | apply Kd.R_alloc | apply Kd.R_drewN | apply Kd.R_drew)); exact HO_5.out⟩, ⟨by repeat (first | (with_reducible first | exact HB.out | apply below_alloc | apply pw_below_drewN | apply below_drew1) | exact HB.out)⟩⟩
                                · rw [if_neg c21] at H
                                  exact absurd H (by simp)
                              · rw [if_neg c20] at H
                                exact absurd H (by simp)
                            · rw [if_neg c18] at H
                              have c18b0 : decide (x9_4 < a0) = false := decide_eq_false c18
                              clear c18
                              have H' := Aside0.mk H
                              clear H
                              go_wp2
                              go_roundg k4
                              case measure => have := HK1.out; have := HK2.out; have := HK3.out; have := HK4.out; omega
                              case rel => exact ⟨(x5_4), (wrap64 (x8_3 + 1)), (by first | rfl | (simp; done) | (simp [*]; done)), H', ⟨by have := HK1.out; have := HK2.out; have := HK3.out; have := HK4.out; omega⟩, ⟨by (with_reducible repeat (first | apply Kd.R_alloc | apply Kd.R_drewN | apply Kd.R_drew)); exact HO_5.out⟩, ⟨by repeat (first | (with_reducible first | exact HB.out | apply below_alloc | apply pw_below_drewN | apply below_drew1) | exact HB.out)⟩⟩
                      · rw [if_neg c17] at H
                        have c17b0 : decide (x8_3 < a0) = false := decide_eq_false c17
                        clear c17
                        have H' := Aside0.mk H
                        clear H
                        go_wp2
                        go_roundg k3
                        case measure => have := HK1.out; have := HK2.out; have := HK3.out; omega
                        case rel => exact ⟨(x5_3), (wrap64 (x7_2 + 1)), (by first | rfl | (simp; done) | (simp [*]; done)), H', ⟨by have := HK1.out; have := HK2.out; have := HK3.out; omega⟩, ⟨by (with_reducible repeat (first | apply Kd.R_alloc | apply Kd.R_drewN | apply Kd.R_drew)); exact HO_5.out⟩, ⟨by repeat (first | (with_reducible first | exact HB.out | apply below_alloc | apply pw_below_drewN | apply below_drew1) | exact HB.out)⟩⟩
                · rw [if_neg c16] at H
                  have c16b0 : decide (x7_2 < a0) = false := decide_eq_false c16
                  clear c16
                  obtain rfl := Option.some.inj H
                  go_wp2
                  go_ret
                  exact ⟨_, by first | rfl | (simp [errW_none, errW_some] <;> rfl) | (simp only [← hji3]; first | rfl | (simp [errW_none, errW_some] <;> rfl)) | (simp [*, errW_none, errW_some] <;> rfl), by (with_reducible repeat (first | apply Kd.R_alloc | apply Kd.R_drewN | apply Kd.R_drew)); exact HO_5.out, by repeat (first | (with_reducible first | exact HB.out | apply below_alloc | apply pw_below_drewN | apply below_drew1) | exact HB.out)⟩
    · rw [if_neg c5] at H
      exact absurd H (by simp)
  · rw [if_neg c4] at H
    exact absurd H (by simp)

end Go.Proofs.Ythpjpkcfepmhkaa.PAll
