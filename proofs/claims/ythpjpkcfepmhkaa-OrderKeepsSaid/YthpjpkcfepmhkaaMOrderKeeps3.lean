/- Laid together by a program of this session (wip/bundle.py) out of its own texts and of the words that the kit's print.sh laid for this seat, cut to what is used. -/
import Derived.Test.YthpjpkcfepmhkaaMOrderKeeps2
import Derived.Deep.RegionLaw
import Derived.WalkSpells
import Derived.Deep.DeepCutAuto
import GoSem.Op.String
import Derived.WalkLawsBesides
import Derived.Lib.Hide
namespace Go.Proofs.Ythpjpkcfepmhkaa.PAll
open Go.RowKit Go.Proofs.YthpjpkcfepmhkaaW.PrintWords Go.Proofs.YthpjpkcfepmhkaaW.PrintLast Go.Proofs.YthpjpkcfepmhkaaW.PrintMore
attribute [local go_sem] max2_int min2_int max_two min_two max_three min_three max_four min_four   -- for this text's walks alone
set_option linter.unusedVariables false
set_option linter.unusedSimpArgs false
mutual
def arlinkref06_Sym.j0 : Nat → Bool → ByteArray → Int → Int → Int → Option (Bool)
 | 0, _, _, _, _, _ => none
 | k + 1, x23, x294000, x294001, x294002, x294003 => if x23 = true then (some false) else (arlinkref06_Sym.l0 k 0 x294000 x294001 x294002 x294003)
def arlinkref06_Sym.l0 : Nat → Int → ByteArray → Int → Int → Int → Option (Bool)
 | 0, _, _, _, _, _ => none
 | k + 1, x3, x294000, x294001, x294002, x294003 => if x3 < (x294000.size : Int) then (if 0 ≤ x3 then (if (bt x294000 x3) = 0 then (some false) else (arlinkref06_Sym.l0 k (wrap64 (x3 + 1)) x294000 x294001 x294002 x294003)) else (none)) else (if x294001 = 3 then ((arlinkref06_Power.f k x294003).bind fun t294 => (some t294)) else (if x294001 = 4 then (if x294002 = 0 then (some (x294003 == 0)) else (some false)) else (if x294001 = 5 then (if x294002 = 0 then (some (x294003 == 0)) else (some false)) else (if x294001 = 1 then (some (x294003 == 0)) else (if x294001 = 2 then (some (x294003 == 0)) else (some false))))))
end
def arlinkref06_Sym.f (k : Nat) (a0_0 : ByteArray) (a0_1 : Int) (a0_2 : Int) (a0_3 : Int) : Option (Bool) := if (a0_0.size : Int) = 0 then (arlinkref06_Sym.j0 k true a0_0 a0_1 a0_2 a0_3) else (if (a0_0.size : Int) > 255 then (arlinkref06_Sym.j0 k true a0_0 a0_1 a0_2 a0_3) else (if a0_2 < 0 then (arlinkref06_Sym.j0 k true a0_0 a0_1 a0_2 a0_3) else (arlinkref06_Sym.j0 k (decide (a0_2 > 4294967295)) a0_0 a0_1 a0_2 a0_3)))
theorem arlinkref06_Sym.mono_l : ∀ k, (∀ y0 y1 y2 y3 y4, LeO (arlinkref06_Sym.j0 k y0 y1 y2 y3 y4) (arlinkref06_Sym.j0 (k + 1) y0 y1 y2 y3 y4)) ∧ (∀ y0 y1 y2 y3 y4, LeO (arlinkref06_Sym.l0 k y0 y1 y2 y3 y4) (arlinkref06_Sym.l0 (k + 1) y0 y1 y2 y3 y4))
 | 0 => ⟨fun _ _ _ _ _ r h => by simp [arlinkref06_Sym.j0] at h, fun _ _ _ _ _ r h => by simp [arlinkref06_Sym.l0] at h⟩
 | k + 1 => by
  obtain ⟨ih0, ih1⟩ := arlinkref06_Sym.mono_l k
  refine ⟨?_, ?_⟩
  ·intro y0 y1 y2 y3 y4
   unfold arlinkref06_Sym.j0
   repeat' first
   | (with_reducible exact ih0 _ _ _ _ _)
   | (with_reducible exact ih1 _ _ _ _ _)
   | (with_reducible exact arlinkref06_Power.mono _ _)
   | (with_reducible exact LeO.refl _)
   | (with_reducible exact LeO.none _)
   | (with_reducible refine LeO.ite ?_ ?_)
   | (with_reducible refine LeO.bind ?_ (fun _ => ?_))
   | exact ih0 _ _ _ _ _
   | exact ih1 _ _ _ _ _
   | exact arlinkref06_Power.mono _ _
   | exact LeO.none _
   | refine LeO.ite ?_ ?_
   | refine LeO.bind ?_ (fun _ => ?_)
  ·intro y0 y1 y2 y3 y4
   unfold arlinkref06_Sym.l0
   repeat' first
   | (with_reducible exact ih0 _ _ _ _ _)
   | (with_reducible exact ih1 _ _ _ _ _)
   | (with_reducible exact arlinkref06_Power.mono _ _)
   | (with_reducible exact LeO.refl _)
   | (with_reducible exact LeO.none _)
   | (with_reducible refine LeO.ite ?_ ?_)
   | (with_reducible refine LeO.bind ?_ (fun _ => ?_))
   | exact ih0 _ _ _ _ _
   | exact ih1 _ _ _ _ _
   | exact arlinkref06_Power.mono _ _
   | exact LeO.none _
   | refine LeO.ite ?_ ?_
   | refine LeO.bind ?_ (fun _ => ?_)
theorem arlinkref06_Sym.mono : ∀ a0 a1 a2 a3 k, LeO (arlinkref06_Sym.f k a0 a1 a2 a3) (arlinkref06_Sym.f (k + 1) a0 a1 a2 a3) := by
 intro a0 a1 a2 a3 k
 obtain ⟨ih0, ih1⟩ := arlinkref06_Sym.mono_l k
 unfold arlinkref06_Sym.f
 repeat' first
   | (with_reducible exact ih0 _ _ _ _ _)
   | (with_reducible exact ih1 _ _ _ _ _)
   | (with_reducible exact arlinkref06_Power.mono _ _)
   | (with_reducible exact LeO.refl _)
   | (with_reducible exact LeO.none _)
   | (with_reducible refine LeO.ite ?_ ?_)
   | (with_reducible refine LeO.bind ?_ (fun _ => ?_))
   | exact ih0 _ _ _ _ _
   | exact ih1 _ _ _ _ _
   | exact arlinkref06_Power.mono _ _
   | exact LeO.none _
   | refine LeO.ite ?_ ?_
   | refine LeO.bind ?_ (fun _ => ?_)
set_option maxHeartbeats 8000000 in
set_option maxRecDepth 100000 in
theorem arlinkref06_Sym.calls (k : Nat) (a0_0 : ByteArray) (a0_1 : Int) (a0_2 : Int) (a0_3 : Int) (r : Bool) (w : World) (h : arlinkref06_Sym.f k a0_0 a0_1 a0_2 a0_3 = some r) :
  Calls Try.prog 64 #[.agg #[.string a0_0, .int .i64 a0_1, .int .i64 a0_2, .int .i64 a0_3]] w fun e w' => e = .returned (.bool r) ∧ Below w.heap.size w w' := by
 have hu55 := Try.underlying55
 have HB := Aside0.mk (Below.refl w.heap.size w)
 have H : (if (a0_0.size : Int) = 0 then (arlinkref06_Sym.j0 k true a0_0 a0_1 a0_2 a0_3) else (if (a0_0.size : Int) > 255 then (arlinkref06_Sym.j0 k true a0_0 a0_1 a0_2 a0_3) else (if a0_2 < 0 then (arlinkref06_Sym.j0 k true a0_0 a0_1 a0_2 a0_3) else (arlinkref06_Sym.j0 k (decide (a0_2 > 4294967295)) a0_0 a0_1 a0_2 a0_3)))) = some r := h
 clear h
 have HC2 := Aside0.mk H
 clear H
 go_enter Try.func64, Try.ntmps64
 go_upto_region 1 with (first | ((with_reducible refine gate_dst (N := 1) rfl ?_); (try (refine gate_guard (by rfl) ?_; dsimp only)); refine box_event ?hg (N := 1) ?hd (cs := #[.string a0_0, .int .i64 a0_1, .int .i64 a0_2, .int .i64 a0_3]) (t := 55) ?hr ?_; (case hd => rfl); (case hg => rfl); (case hr => first | (go_simp; done) | (go_simp; rfl)); intro gb293 hg w3 hbox hb; have n0_ := Aside0.mk (below_step (by repeat (first | (with_reducible first | exact HB.out | apply below_alloc | apply pw_below_drewN | apply below_drew1) | exact HB.out)) hb); have n1_ := Aside0.mk (hbox); have n2_ := Aside0.mk ((by rw [hg]; exact (below_size (by repeat (first | (with_reducible first | exact HB.out | apply below_alloc | apply pw_below_drewN | apply below_drew1) | exact HB.out))) : w.heap.size ≤ gb293)); have n3_ := Aside0.mk ((by rw [hg]; exact (below_size (by repeat (first | (with_reducible first | exact HB.out | apply below_alloc | apply pw_below_drewN | apply below_drew1) | exact HB.out))) : w.heap.size ≤ gb293)); clear HB; have HB := n0_; have BK293 := n1_; have GW293 := n2_; have GE293 := n3_; clear n0_ n1_ n2_ n3_; clear hb hbox hg))
 (try simp only [Act.put, List.setIfInBounds_toArray, List.set_cons_zero, List.set_cons_succ])
 go_cut [23] (fun v23 wc => ∃ (kq : Nat) (x23_1 : Bool), v23 = .bool x23_1 ∧ Aside0 (arlinkref06_Sym.j0 kq x23_1 a0_0 a0_1 a0_2 a0_3 = some r) ∧ Aside0 (kq ≤ k) ∧ Aside0 (wc.heap[gb293]? = some (.cells #[.string a0_0, .int .i64 a0_1, .int .i64 a0_2, .int .i64 a0_3] 55 (0, 0))) ∧ Aside0 (Below w.heap.size w wc))
 case first =>
  have H := HC2.out
  clear HC2
  by_cases c4 : (a0_0.size : Int) = 0
  ·rw [if_pos c4] at H
   have c4b0 : ((a0_0.size : Int) == 0) = true := beq_iff_eq.mpr c4
   have c4b1 : ((a0_0.size : Int) != 0) = false := bne_eq_false_iff_eq.mpr c4
   clear c4
   (first | rw [c4b0] | (simp only [i64_w, i32_w]; rw [c4b0]) | skip)
   have H' := Aside0.mk H
   clear H
   have hcz5_0 : w3.cell? ⟨gb293, 0, none⟩ = some (.string a0_0) := (blk_cell BK293.out 0).trans rfl
   have hcz5_1 : w3.cell? ⟨gb293, 1, none⟩ = some (.int .i64 a0_1) := (blk_cell BK293.out 1).trans rfl
   have hcz5_2 : w3.cell? ⟨gb293, 2, none⟩ = some (.int .i64 a0_2) := (blk_cell BK293.out 2).trans rfl
   have hcz5_3 : w3.cell? ⟨gb293, 3, none⟩ = some (.int .i64 a0_3) := (blk_cell BK293.out 3).trans rfl
   have hfz5_0 := blk_frozen BK293.out 0
   have hfz5_1 := blk_frozen BK293.out 1
   have hfz5_2 := blk_frozen BK293.out 2
   have hfz5_3 := blk_frozen BK293.out 3
   go_wp2
   go_meet
   case rel => exact ⟨_, (true), (by first | rfl | (simp; done) | (simp [*]; done)), H', ⟨by first | omega | exact Nat.le_refl _⟩, ⟨by (with_reducible repeat (first | refine blk_drewN ?_ _ | refine blk_drew ?_ | refine blk_alloc ?_ _)); exact BK293.out⟩, ⟨by repeat (first | (with_reducible first | exact HB.out | apply below_alloc | apply pw_below_drewN | apply below_drew1 | refine below_set ?_ GE293.out) | exact HB.out)⟩⟩
  ·rw [if_neg c4] at H
   have c4b0 : ((a0_0.size : Int) == 0) = false := beq_eq_false_iff_ne.mpr c4
   have c4b1 : ((a0_0.size : Int) != 0) = true := bne_iff_ne.mpr c4
   (first | rw [c4b0] | (simp only [i64_w, i32_w]; rw [c4b0]) | skip)
   by_cases c6 : (a0_0.size : Int) > 255
   ·rw [if_pos c6] at H
    have c6b0 : decide (255 < (a0_0.size : Int)) = true := decide_eq_true c6
    have c6b1 : decide (255 < a0_0.size) = true := decide_eq_true (by omega)
    clear c6
    have H' := Aside0.mk H
    clear H
    have hcz7_0 : w3.cell? ⟨gb293, 0, none⟩ = some (.string a0_0) := (blk_cell BK293.out 0).trans rfl
    have hcz7_1 : w3.cell? ⟨gb293, 1, none⟩ = some (.int .i64 a0_1) := (blk_cell BK293.out 1).trans rfl
    have hcz7_2 : w3.cell? ⟨gb293, 2, none⟩ = some (.int .i64 a0_2) := (blk_cell BK293.out 2).trans rfl
    have hcz7_3 : w3.cell? ⟨gb293, 3, none⟩ = some (.int .i64 a0_3) := (blk_cell BK293.out 3).trans rfl
    have hfz7_0 := blk_frozen BK293.out 0
    have hfz7_1 := blk_frozen BK293.out 1
    have hfz7_2 := blk_frozen BK293.out 2
    have hfz7_3 := blk_frozen BK293.out 3
    go_wp2
    go_meet
    case rel => exact ⟨_, (true), (by first | rfl | (simp; done) | (simp [*]; done)), H', ⟨by first | omega | exact Nat.le_refl _⟩, ⟨by (with_reducible repeat (first | refine blk_drewN ?_ _ | refine blk_drew ?_ | refine blk_alloc ?_ _)); exact BK293.out⟩, ⟨by repeat (first | (with_reducible first | exact HB.out | apply below_alloc | apply pw_below_drewN | apply below_drew1 | refine below_set ?_ GE293.out) | exact HB.out)⟩⟩
   ·rw [if_neg c6] at H
    have c6b0 : decide (255 < (a0_0.size : Int)) = false := decide_eq_false c6
    have c6b1 : decide (255 < a0_0.size) = false := decide_eq_false (by omega)
    clear c6
    by_cases c8 : a0_2 < 0
    ·rw [if_pos c8] at H
     have c8b0 : decide (a0_2 < 0) = true := decide_eq_true c8
     clear c8
     have H' := Aside0.mk H
     clear H
     have hcz9_0 : w3.cell? ⟨gb293, 0, none⟩ = some (.string a0_0) := (blk_cell BK293.out 0).trans rfl
     have hcz9_1 : w3.cell? ⟨gb293, 1, none⟩ = some (.int .i64 a0_1) := (blk_cell BK293.out 1).trans rfl
     have hcz9_2 : w3.cell? ⟨gb293, 2, none⟩ = some (.int .i64 a0_2) := (blk_cell BK293.out 2).trans rfl
     have hcz9_3 : w3.cell? ⟨gb293, 3, none⟩ = some (.int .i64 a0_3) := (blk_cell BK293.out 3).trans rfl
     have hfz9_0 := blk_frozen BK293.out 0
     have hfz9_1 := blk_frozen BK293.out 1
     have hfz9_2 := blk_frozen BK293.out 2
     have hfz9_3 := blk_frozen BK293.out 3
     go_wp2
     go_meet
     case rel => exact ⟨_, (true), (by first | rfl | (simp; done) | (simp [*]; done)), H', ⟨by first | omega | exact Nat.le_refl _⟩, ⟨by (with_reducible repeat (first | refine blk_drewN ?_ _ | refine blk_drew ?_ | refine blk_alloc ?_ _)); exact BK293.out⟩, ⟨by repeat (first | (with_reducible first | exact HB.out | apply below_alloc | apply pw_below_drewN | apply below_drew1 | refine below_set ?_ GE293.out) | exact HB.out)⟩⟩
    ·rw [if_neg c8] at H
     have c8b0 : decide (a0_2 < 0) = false := decide_eq_false c8
     clear c8
     have H' := Aside0.mk H
     clear H
     have hcz10_0 : w3.cell? ⟨gb293, 0, none⟩ = some (.string a0_0) := (blk_cell BK293.out 0).trans rfl
     have hcz10_1 : w3.cell? ⟨gb293, 1, none⟩ = some (.int .i64 a0_1) := (blk_cell BK293.out 1).trans rfl
     have hcz10_2 : w3.cell? ⟨gb293, 2, none⟩ = some (.int .i64 a0_2) := (blk_cell BK293.out 2).trans rfl
     have hcz10_3 : w3.cell? ⟨gb293, 3, none⟩ = some (.int .i64 a0_3) := (blk_cell BK293.out 3).trans rfl
     have hfz10_0 := blk_frozen BK293.out 0
     have hfz10_1 := blk_frozen BK293.out 1
     have hfz10_2 := blk_frozen BK293.out 2
     have hfz10_3 := blk_frozen BK293.out 3
     go_wp2
     go_meet
     case rel => exact ⟨_, (decide (a0_2 > 4294967295)), (by first | rfl | (simp; done) | (simp [*]; done)), H', ⟨by first | omega | exact Nat.le_refl _⟩, ⟨by (with_reducible repeat (first | refine blk_drewN ?_ _ | refine blk_drew ?_ | refine blk_alloc ?_ _)); exact BK293.out⟩, ⟨by repeat (first | (with_reducible first | exact HB.out | apply below_alloc | apply pw_below_drewN | apply below_drew1 | refine below_set ?_ GE293.out) | exact HB.out)⟩⟩
 case rest =>
  clear HC2
  try clear p2
  try clear c4
  try clear c4b0
  try clear c4b1
  try clear c6
  try clear c6b0
  try clear c6b1
  try clear c8
  try clear c8b0
  try clear hcz10_0
  try clear hcz10_1
  try clear hcz10_2
  try clear hcz10_3
  try clear hcz5_0
  try clear hcz5_1
  try clear hcz5_2
  try clear hcz5_3
  try clear hcz7_0
  try clear hcz7_1
  try clear hcz7_2
  try clear hcz7_3
  try clear hcz9_0
  try clear hcz9_1
  try clear hcz9_2
  try clear hcz9_3
  try clear hfz10_0
  try clear hfz10_1
  try clear hfz10_2
  try clear hfz10_3
  try clear hfz5_0
  try clear hfz5_1
  try clear hfz5_2
  try clear hfz5_3
  try clear hfz7_0
  try clear hfz7_1
  try clear hfz7_2
  try clear hfz7_3
  try clear hfz9_0
  try clear hfz9_1
  try clear hfz9_2
  try clear hfz9_3
  obtain ⟨kq, x23_1, rfl, HA, HJ1, BK293, HB⟩ := hcut
  cases kq with
  | zero => exact absurd HA.out (by simp [arlinkref06_Sym.j0])
  | succ kj1 =>
   have H := HA.out
   clear HA
   simp only [arlinkref06_Sym.j0] at H
   by_cases c11 : x23_1 = true
   ·subst c11
    have H1 : (some false) = some r := by rw [if_pos rfl] at H; exact H
    clear H
    have H := H1
    clear H1
    obtain rfl := Option.some.inj H
    go_wp2
    go_ret
    exact ⟨by first | rfl | (simp [errW_none, errW_some] <;> rfl) | (simp [*, errW_none, errW_some] <;> rfl), by repeat (first | (with_reducible first | exact HB.out | apply below_alloc | apply pw_below_drewN | apply below_drew1 | refine below_set ?_ GE293.out) | exact HB.out)⟩
   ·replace c11 := Bool.eq_false_iff.mpr c11
    subst c11
    have H1 : (arlinkref06_Sym.l0 kj1 0 a0_0 a0_1 a0_2 a0_3) = some r := by rw [if_neg (show ¬ (false = true) by decide)] at H; exact H
    clear H
    have H := H1
    clear H1
    have H' := Aside0.mk H
    clear H
    go_wp2
    go_loopg [3] kj1 (fun kq v3 w' => ∃ (x3_2 : Int), v3 = .int .i64 x3_2 ∧ Aside0 (arlinkref06_Sym.l0 kq x3_2 a0_0 a0_1 a0_2 a0_3 = some r) ∧ Aside0 (kq ≤ kj1) ∧ Aside0 (w'.heap[gb293]? = some (.cells #[.string a0_0, .int .i64 a0_1, .int .i64 a0_2, .int .i64 a0_3] 55 (0, 0))) ∧ Aside0 (Below w.heap.size w w'))
    case atStart => exact ⟨(0), (by first | rfl | (simp; done) | (simp [*]; done)), H', ⟨Nat.le_refl _⟩, ⟨by (with_reducible repeat (first | refine blk_drewN ?_ _ | refine blk_drew ?_ | refine blk_alloc ?_ _)); exact BK293.out⟩, ⟨by repeat (first | (with_reducible first | exact HB.out | apply below_alloc | apply pw_below_drewN | apply below_drew1 | refine below_set ?_ GE293.out) | exact HB.out)⟩⟩
    case round =>
     clear H'
     try clear c1
     try clear p2
     try clear c4
     try clear c4b0
     try clear c4b1
     try clear c6
     try clear c6b0
     try clear c6b1
     try clear c8
     try clear c8b0
     try clear c11
     try clear hcz10_0
     try clear hcz10_1
     try clear hcz10_2
     try clear hcz10_3
     try clear hcz5_0
     try clear hcz5_1
     try clear hcz5_2
     try clear hcz5_3
     try clear hcz7_0
     try clear hcz7_1
     try clear hcz7_2
     try clear hcz7_3
     try clear hcz9_0
     try clear hcz9_1
     try clear hcz9_2
     try clear hcz9_3
     try clear hfz10_0
     try clear hfz10_1
     try clear hfz10_2
     try clear hfz10_3
     try clear hfz5_0
     try clear hfz5_1
     try clear hfz5_2
     try clear hfz5_3
     try clear hfz7_0
     try clear hfz7_1
     try clear hfz7_2
     try clear hfz7_3
     try clear hfz9_0
     try clear hfz9_1
     try clear hfz9_2
     try clear hfz9_3
     try clear p2
     obtain ⟨x3_2, rfl, HA, HK2, BK293, HB⟩ := hrel
     cases gk with
     | zero => exact absurd HA.out (by simp [arlinkref06_Sym.l0])
     | succ k2 =>
      have H := HA.out
      clear HA
      simp only [arlinkref06_Sym.l0] at H
      by_cases c12 : x3_2 < (a0_0.size : Int)
      ·rw [if_pos c12] at H
       have c12b0 : decide (x3_2 < (a0_0.size : Int)) = true := decide_eq_true c12
       clear c12
       by_cases c13 : 0 ≤ x3_2
       ·rw [if_pos c13] at H
        have c13b0 : decide (0 ≤ x3_2) = true := decide_eq_true c13
        clear c13
        by_cases c15 : (bt a0_0 x3_2) = 0
        ·rw [if_pos c15] at H
         have c15b0 : ((bt a0_0 x3_2) == 0) = true := beq_iff_eq.mpr c15
         have c15b1 : ((bt a0_0 x3_2) != 0) = false := bne_eq_false_iff_eq.mpr c15
         clear c15
         obtain rfl := Option.some.inj H
         have hcz16_0 : wr.cell? ⟨gb293, 0, none⟩ = some (.string a0_0) := (blk_cell BK293.out 0).trans rfl
         have hcz16_1 : wr.cell? ⟨gb293, 1, none⟩ = some (.int .i64 a0_1) := (blk_cell BK293.out 1).trans rfl
         have hcz16_2 : wr.cell? ⟨gb293, 2, none⟩ = some (.int .i64 a0_2) := (blk_cell BK293.out 2).trans rfl
         have hcz16_3 : wr.cell? ⟨gb293, 3, none⟩ = some (.int .i64 a0_3) := (blk_cell BK293.out 3).trans rfl
         have hfz16_0 := blk_frozen BK293.out 0
         have hfz16_1 := blk_frozen BK293.out 1
         have hfz16_2 := blk_frozen BK293.out 2
         have hfz16_3 := blk_frozen BK293.out 3
         have p14 : 0 ≤ (x3_2 : Int) := of_decide_eq_true (by first | (with_reducible assumption) | assumption)
         have q14 : x3_2 < (a0_0.size : Int) := of_decide_eq_true (by first | (with_reducible assumption) | assumption)
         have hx14 := bt_at a0_0 x3_2
         replace p14 := eq_true p14
         replace q14 := eq_true q14
         go_wp2
         go_ret
         exact ⟨by first | rfl | (simp [errW_none, errW_some] <;> rfl) | (simp [*, errW_none, errW_some] <;> rfl), by repeat (first | (with_reducible first | exact HB.out | apply below_alloc | apply pw_below_drewN | apply below_drew1 | refine below_set ?_ GE293.out) | exact HB.out)⟩
        ·rw [if_neg c15] at H
         have c15b0 : ((bt a0_0 x3_2) == 0) = false := beq_eq_false_iff_ne.mpr c15
         have c15b1 : ((bt a0_0 x3_2) != 0) = true := bne_iff_ne.mpr c15
         have H' := Aside0.mk H
         clear H
         have hcz17_0 : wr.cell? ⟨gb293, 0, none⟩ = some (.string a0_0) := (blk_cell BK293.out 0).trans rfl
         have hcz17_1 : wr.cell? ⟨gb293, 1, none⟩ = some (.int .i64 a0_1) := (blk_cell BK293.out 1).trans rfl
         have hcz17_2 : wr.cell? ⟨gb293, 2, none⟩ = some (.int .i64 a0_2) := (blk_cell BK293.out 2).trans rfl
         have hcz17_3 : wr.cell? ⟨gb293, 3, none⟩ = some (.int .i64 a0_3) := (blk_cell BK293.out 3).trans rfl
         have hfz17_0 := blk_frozen BK293.out 0
         have hfz17_1 := blk_frozen BK293.out 1
         have hfz17_2 := blk_frozen BK293.out 2
         have hfz17_3 := blk_frozen BK293.out 3
         have p14 : 0 ≤ (x3_2 : Int) := of_decide_eq_true (by first | (with_reducible assumption) | assumption)
         have q14 : x3_2 < (a0_0.size : Int) := of_decide_eq_true (by first | (with_reducible assumption) | assumption)
         have hx14 := bt_at a0_0 x3_2
         replace p14 := eq_true p14
         replace q14 := eq_true q14
         go_wp2
         go_roundg k2
         case measure => have := HJ1.out; have := HK2.out; omega
         case rel => exact ⟨(wrap64 (x3_2 + 1)), (by first | rfl | (simp; done) | (simp [*]; done)), H', ⟨by have := HJ1.out; have := HK2.out; omega⟩, ⟨by (with_reducible repeat (first | refine blk_drewN ?_ _ | refine blk_drew ?_ | refine blk_alloc ?_ _)); exact BK293.out⟩, ⟨by repeat (first | (with_reducible first | exact HB.out | apply below_alloc | apply pw_below_drewN | apply below_drew1 | refine below_set ?_ GE293.out) | exact HB.out)⟩⟩
       ·rw [if_neg c13] at H
        exact absurd H (by simp)
      ·rw [if_neg c12] at H
       have c12b0 : decide (x3_2 < (a0_0.size : Int)) = false := decide_eq_false c12
       clear c12
       by_cases c18 : a0_1 = 3
       ·rw [if_pos c18] at H
        have c18b0 : (a0_1 == 3) = true := beq_iff_eq.mpr c18
        have c18b1 : (a0_1 != 3) = false := bne_eq_false_iff_eq.mpr c18
        clear c18
        replace H := Option.bind_eq_some_iff.mp H
        obtain ⟨t294, A190, H⟩ := H
        replace H : (some t294) = some r := H
        have A19 := Aside0.mk A190
        clear A190
        obtain rfl := Option.some.inj H
        have hcz20_0 : wr.cell? ⟨gb293, 0, none⟩ = some (.string a0_0) := (blk_cell BK293.out 0).trans rfl
        have hcz20_1 : wr.cell? ⟨gb293, 1, none⟩ = some (.int .i64 a0_1) := (blk_cell BK293.out 1).trans rfl
        have hcz20_2 : wr.cell? ⟨gb293, 2, none⟩ = some (.int .i64 a0_2) := (blk_cell BK293.out 2).trans rfl
        have hcz20_3 : wr.cell? ⟨gb293, 3, none⟩ = some (.int .i64 a0_3) := (blk_cell BK293.out 3).trans rfl
        have hfz20_0 := blk_frozen BK293.out 0
        have hfz20_1 := blk_frozen BK293.out 1
        have hfz20_2 := blk_frozen BK293.out 2
        have hfz20_3 := blk_frozen BK293.out 3
        go_wp2_with (first | ((with_reducible refine gate_callee (f := 69) rfl ?_); refine goesL_ (some 41) rfl rfl Try.func69 (by kernel_rfl) rfl #[.int .i64 a0_3] rfl (by (try simp only [List.map_toArray, List.map_cons, List.map_nil]); first | done | rfl | (simp only [List.length_drop, List.length_take]; rfl)) ?_; (with_reducible refine (arlinkref06_Power.calls k2 a0_3 t294 _ A19.out).mono ?_); rintro e w' ⟨rfl, ⟨nd, rfl⟩⟩; refine ⟨_, rfl, ?_⟩))
        go_ret
        exact ⟨by first | rfl | (simp [errW_none, errW_some] <;> rfl) | (simp [*, errW_none, errW_some] <;> rfl), by repeat (first | (with_reducible first | exact HB.out | apply below_alloc | apply pw_below_drewN | apply below_drew1 | refine below_set ?_ GE293.out) | exact HB.out)⟩
       ·rw [if_neg c18] at H
        have c18b0 : (a0_1 == 3) = false := beq_eq_false_iff_ne.mpr c18
        have c18b1 : (a0_1 != 3) = true := bne_iff_ne.mpr c18
        by_cases c21 : a0_1 = 4
        ·rw [if_pos c21] at H
         have c21b0 : (a0_1 == 4) = true := beq_iff_eq.mpr c21
         have c21b1 : (a0_1 != 4) = false := bne_eq_false_iff_eq.mpr c21
         clear c21
         by_cases c22 : a0_2 = 0
         ·rw [if_pos c22] at H
          have c22b0 : (a0_2 == 0) = true := beq_iff_eq.mpr c22
          have c22b1 : (a0_2 != 0) = false := bne_eq_false_iff_eq.mpr c22
          clear c22
          obtain rfl := Option.some.inj H
          have hcz23_0 : wr.cell? ⟨gb293, 0, none⟩ = some (.string a0_0) := (blk_cell BK293.out 0).trans rfl
          have hcz23_1 : wr.cell? ⟨gb293, 1, none⟩ = some (.int .i64 a0_1) := (blk_cell BK293.out 1).trans rfl
          have hcz23_2 : wr.cell? ⟨gb293, 2, none⟩ = some (.int .i64 a0_2) := (blk_cell BK293.out 2).trans rfl
          have hcz23_3 : wr.cell? ⟨gb293, 3, none⟩ = some (.int .i64 a0_3) := (blk_cell BK293.out 3).trans rfl
          have hfz23_0 := blk_frozen BK293.out 0
          have hfz23_1 := blk_frozen BK293.out 1
          have hfz23_2 := blk_frozen BK293.out 2
          have hfz23_3 := blk_frozen BK293.out 3
          go_wp2
          go_ret
          exact ⟨by first | rfl | (simp [errW_none, errW_some] <;> rfl) | (simp [*, errW_none, errW_some] <;> rfl), by repeat (first | (with_reducible first | exact HB.out | apply below_alloc | apply pw_below_drewN | apply below_drew1 | refine below_set ?_ GE293.out) | exact HB.out)⟩
         ·rw [if_neg c22] at H
          have c22b0 : (a0_2 == 0) = false := beq_eq_false_iff_ne.mpr c22
          have c22b1 : (a0_2 != 0) = true := bne_iff_ne.mpr c22
          obtain rfl := Option.some.inj H
          have hcz24_0 : wr.cell? ⟨gb293, 0, none⟩ = some (.string a0_0) := (blk_cell BK293.out 0).trans rfl
          have hcz24_1 : wr.cell? ⟨gb293, 1, none⟩ = some (.int .i64 a0_1) := (blk_cell BK293.out 1).trans rfl
          have hcz24_2 : wr.cell? ⟨gb293, 2, none⟩ = some (.int .i64 a0_2) := (blk_cell BK293.out 2).trans rfl
          have hcz24_3 : wr.cell? ⟨gb293, 3, none⟩ = some (.int .i64 a0_3) := (blk_cell BK293.out 3).trans rfl
          have hfz24_0 := blk_frozen BK293.out 0
          have hfz24_1 := blk_frozen BK293.out 1
          have hfz24_2 := blk_frozen BK293.out 2
          have hfz24_3 := blk_frozen BK293.out 3
          go_wp2
          go_ret
          exact ⟨by first | rfl | (simp [errW_none, errW_some] <;> rfl) | (simp [*, errW_none, errW_some] <;> rfl), by repeat (first | (with_reducible first | exact HB.out | apply below_alloc | apply pw_below_drewN | apply below_drew1 | refine below_set ?_ GE293.out) | exact HB.out)⟩
        ·rw [if_neg c21] at H
         have c21b0 : (a0_1 == 4) = false := beq_eq_false_iff_ne.mpr c21
         have c21b1 : (a0_1 != 4) = true := bne_iff_ne.mpr c21
         by_cases c25 : a0_1 = 5
         ·rw [if_pos c25] at H
          have c25b0 : (a0_1 == 5) = true := beq_iff_eq.mpr c25
          have c25b1 : (a0_1 != 5) = false := bne_eq_false_iff_eq.mpr c25
          clear c25
          by_cases c26 : a0_2 = 0
          ·rw [if_pos c26] at H
           have c26b0 : (a0_2 == 0) = true := beq_iff_eq.mpr c26
           have c26b1 : (a0_2 != 0) = false := bne_eq_false_iff_eq.mpr c26
           clear c26
           obtain rfl := Option.some.inj H
           have hcz27_0 : wr.cell? ⟨gb293, 0, none⟩ = some (.string a0_0) := (blk_cell BK293.out 0).trans rfl
           have hcz27_1 : wr.cell? ⟨gb293, 1, none⟩ = some (.int .i64 a0_1) := (blk_cell BK293.out 1).trans rfl
           have hcz27_2 : wr.cell? ⟨gb293, 2, none⟩ = some (.int .i64 a0_2) := (blk_cell BK293.out 2).trans rfl
           have hcz27_3 : wr.cell? ⟨gb293, 3, none⟩ = some (.int .i64 a0_3) := (blk_cell BK293.out 3).trans rfl
           have hfz27_0 := blk_frozen BK293.out 0
           have hfz27_1 := blk_frozen BK293.out 1
           have hfz27_2 := blk_frozen BK293.out 2
           have hfz27_3 := blk_frozen BK293.out 3
           go_wp2
           go_ret
           exact ⟨by first | rfl | (simp [errW_none, errW_some] <;> rfl) | (simp [*, errW_none, errW_some] <;> rfl), by repeat (first | (with_reducible first | exact HB.out | apply below_alloc | apply pw_below_drewN | apply below_drew1 | refine below_set ?_ GE293.out) | exact HB.out)⟩
          ·rw [if_neg c26] at H
           have c26b0 : (a0_2 == 0) = false := beq_eq_false_iff_ne.mpr c26
           have c26b1 : (a0_2 != 0) = true := bne_iff_ne.mpr c26
           obtain rfl := Option.some.inj H
           have hcz28_0 : wr.cell? ⟨gb293, 0, none⟩ = some (.string a0_0) := (blk_cell BK293.out 0).trans rfl
           have hcz28_1 : wr.cell? ⟨gb293, 1, none⟩ = some (.int .i64 a0_1) := (blk_cell BK293.out 1).trans rfl
           have hcz28_2 : wr.cell? ⟨gb293, 2, none⟩ = some (.int .i64 a0_2) := (blk_cell BK293.out 2).trans rfl
           have hcz28_3 : wr.cell? ⟨gb293, 3, none⟩ = some (.int .i64 a0_3) := (blk_cell BK293.out 3).trans rfl
           have hfz28_0 := blk_frozen BK293.out 0
           have hfz28_1 := blk_frozen BK293.out 1
           have hfz28_2 := blk_frozen BK293.out 2
           have hfz28_3 := blk_frozen BK293.out 3
           go_wp2
           go_ret
           exact ⟨by first | rfl | (simp [errW_none, errW_some] <;> rfl) | (simp [*, errW_none, errW_some] <;> rfl), by repeat (first | (with_reducible first | exact HB.out | apply below_alloc | apply pw_below_drewN | apply below_drew1 | refine below_set ?_ GE293.out) | exact HB.out)⟩
         ·rw [if_neg c25] at H
          have c25b0 : (a0_1 == 5) = false := beq_eq_false_iff_ne.mpr c25
          have c25b1 : (a0_1 != 5) = true := bne_iff_ne.mpr c25
          by_cases c29 : a0_1 = 1
          ·rw [if_pos c29] at H
           have c29b0 : (a0_1 == 1) = true := beq_iff_eq.mpr c29
           have c29b1 : (a0_1 != 1) = false := bne_eq_false_iff_eq.mpr c29
           clear c29
           obtain rfl := Option.some.inj H
           have hcz30_0 : wr.cell? ⟨gb293, 0, none⟩ = some (.string a0_0) := (blk_cell BK293.out 0).trans rfl
           have hcz30_1 : wr.cell? ⟨gb293, 1, none⟩ = some (.int .i64 a0_1) := (blk_cell BK293.out 1).trans rfl
           have hcz30_2 : wr.cell? ⟨gb293, 2, none⟩ = some (.int .i64 a0_2) := (blk_cell BK293.out 2).trans rfl
           have hcz30_3 : wr.cell? ⟨gb293, 3, none⟩ = some (.int .i64 a0_3) := (blk_cell BK293.out 3).trans rfl
           have hfz30_0 := blk_frozen BK293.out 0
           have hfz30_1 := blk_frozen BK293.out 1
           have hfz30_2 := blk_frozen BK293.out 2
           have hfz30_3 := blk_frozen BK293.out 3
           go_wp2
           go_ret
           exact ⟨by first | rfl | (simp [errW_none, errW_some] <;> rfl) | (simp [*, errW_none, errW_some] <;> rfl), by repeat (first | (with_reducible first | exact HB.out | apply below_alloc | apply pw_below_drewN | apply below_drew1 | refine below_set ?_ GE293.out) | exact HB.out)⟩
          ·rw [if_neg c29] at H
           have c29b0 : (a0_1 == 1) = false := beq_eq_false_iff_ne.mpr c29
           have c29b1 : (a0_1 != 1) = true := bne_iff_ne.mpr c29
           by_cases c31 : a0_1 = 2
           ·rw [if_pos c31] at H
            have c31b0 : (a0_1 == 2) = true := beq_iff_eq.mpr c31
            have c31b1 : (a0_1 != 2) = false := bne_eq_false_iff_eq.mpr c31
            clear c31
            obtain rfl := Option.some.inj H
            have hcz32_0 : wr.cell? ⟨gb293, 0, none⟩ = some (.string a0_0) := (blk_cell BK293.out 0).trans rfl
            have hcz32_1 : wr.cell? ⟨gb293, 1, none⟩ = some (.int .i64 a0_1) := (blk_cell BK293.out 1).trans rfl
            have hcz32_2 : wr.cell? ⟨gb293, 2, none⟩ = some (.int .i64 a0_2) := (blk_cell BK293.out 2).trans rfl
            have hcz32_3 : wr.cell? ⟨gb293, 3, none⟩ = some (.int .i64 a0_3) := (blk_cell BK293.out 3).trans rfl
            have hfz32_0 := blk_frozen BK293.out 0
            have hfz32_1 := blk_frozen BK293.out 1
            have hfz32_2 := blk_frozen BK293.out 2
            have hfz32_3 := blk_frozen BK293.out 3
            go_wp2
            go_ret
            exact ⟨by first | rfl | (simp [errW_none, errW_some] <;> rfl) | (simp [*, errW_none, errW_some] <;> rfl), by repeat (first | (with_reducible first | exact HB.out | apply below_alloc | apply pw_below_drewN | apply below_drew1 | refine below_set ?_ GE293.out) | exact HB.out)⟩
           ·rw [if_neg c31] at H
            have c31b0 : (a0_1 == 2) = false := beq_eq_false_iff_ne.mpr c31
            have c31b1 : (a0_1 != 2) = true := bne_iff_ne.mpr c31
            obtain rfl := Option.some.inj H
            have hcz33_0 : wr.cell? ⟨gb293, 0, none⟩ = some (.string a0_0) := (blk_cell BK293.out 0).trans rfl
            have hcz33_1 : wr.cell? ⟨gb293, 1, none⟩ = some (.int .i64 a0_1) := (blk_cell BK293.out 1).trans rfl
            have hcz33_2 : wr.cell? ⟨gb293, 2, none⟩ = some (.int .i64 a0_2) := (blk_cell BK293.out 2).trans rfl
            have hcz33_3 : wr.cell? ⟨gb293, 3, none⟩ = some (.int .i64 a0_3) := (blk_cell BK293.out 3).trans rfl
            have hfz33_0 := blk_frozen BK293.out 0
            have hfz33_1 := blk_frozen BK293.out 1
            have hfz33_2 := blk_frozen BK293.out 2
            have hfz33_3 := blk_frozen BK293.out 3
            go_wp2
            go_ret
            exact ⟨by first | rfl | (simp [errW_none, errW_some] <;> rfl) | (simp [*, errW_none, errW_some] <;> rfl), by repeat (first | (with_reducible first | exact HB.out | apply below_alloc | apply pw_below_drewN | apply below_drew1 | refine below_set ?_ GE293.out) | exact HB.out)⟩
def arlinkref06_has.l0 : Nat → List (S55) → ByteArray → Int → Option (Bool)
 | 0, _, _, _ => none
 | k + 1, x0, x1, x5 => if x5 < (x0.length : Int) then (if 0 ≤ x5 then (if ((rd_T55 x0 x5).f0).toList = x1.toList then (some true) else (arlinkref06_has.l0 k x0 x1 (wrap64 (x5 + 1)))) else (none)) else (some false)
def arlinkref06_has.f (k : Nat) (l0 : List (S55)) (a1 : ByteArray) : Option (Bool) := arlinkref06_has.l0 k l0 a1 0
theorem arlinkref06_has.mono_l : ∀ k, (∀ y0 y1 y2, LeO (arlinkref06_has.l0 k y0 y1 y2) (arlinkref06_has.l0 (k + 1) y0 y1 y2))
 | 0 => fun _ _ _ r h => by simp [arlinkref06_has.l0] at h
 | k + 1 => by
  have ih0 := arlinkref06_has.mono_l k
  ·intro y0 y1 y2
   unfold arlinkref06_has.l0
   repeat' first
   | (with_reducible exact ih0 _ _ _)
   | (with_reducible exact LeO.refl _)
   | (with_reducible exact LeO.none _)
   | (with_reducible refine LeO.ite ?_ ?_)
   | (with_reducible refine LeO.bind ?_ (fun _ => ?_))
   | exact ih0 _ _ _
   | exact LeO.none _
   | refine LeO.ite ?_ ?_
   | refine LeO.bind ?_ (fun _ => ?_)
theorem arlinkref06_has.mono : ∀ a0 a1 k, LeO (arlinkref06_has.f k a0 a1) (arlinkref06_has.f (k + 1) a0 a1) := by
 intro a0 a1 k
 have ih0 := arlinkref06_has.mono_l k
 unfold arlinkref06_has.f
 repeat' first
   | (with_reducible exact ih0 _ _ _)
   | (with_reducible exact LeO.refl _)
   | (with_reducible exact LeO.none _)
   | (with_reducible refine LeO.ite ?_ ?_)
   | (with_reducible refine LeO.bind ?_ (fun _ => ?_))
   | exact ih0 _ _ _
   | exact LeO.none _
   | refine LeO.ite ?_ ?_
   | refine LeO.bind ?_ (fun _ => ?_)
set_option maxHeartbeats 8000000 in
set_option maxRecDepth 100000 in
theorem arlinkref06_has.calls (k : Nat) (A0 : Option Addr) (c0 : Nat) (l0 : List (S55)) (a1 : ByteArray) (r : Bool) (w : World) (hr0 : Kd.C k55 w A0 l0.length l0) (hc0 : l0.length ≤ c0) (h : arlinkref06_has.f k l0 a1 = some r) :
  Calls Try.prog 65 #[.slice A0 l0.length c0, .string a1] w fun e w' => e = .returned (.bool r) ∧ Drawn0 w w' := by
 have HR0 := Aside0.mk hr0
 have HC0 := Aside0.mk hc0
 clear hr0 hc0
 have H : (arlinkref06_has.l0 k l0 a1 0) = some r := h
 clear h
 have H' := Aside0.mk H
 clear H
 go_enter Try.func65, Try.ntmps65
 go_wp2
 go_loopg [5] k (fun kq v5 w' => ∃ (x5_1 : Int), v5 = .int .i64 x5_1 ∧ Aside0 (arlinkref06_has.l0 kq l0 a1 x5_1 = some r) ∧ Aside0 (kq ≤ k) ∧ Drawn0 w w')
 case atStart => exact ⟨(0), (by first | rfl | (simp; done) | (simp [*]; done)), H', ⟨Nat.le_refl _⟩, by repeat (first | exact Drawn0.refl _ | apply Drawn0.step)⟩
 case round =>
  clear H'
  try clear p2
  obtain ⟨x5_1, rfl, HA, HK1, ⟨m1, rfl⟩⟩ := hrel
  cases gk with
  | zero => exact absurd HA.out (by simp [arlinkref06_has.l0])
  | succ k1 =>
   have H := HA.out
   clear HA
   simp only [arlinkref06_has.l0] at H
   by_cases c3 : x5_1 < (l0.length : Int)
   ·rw [if_pos c3] at H
    have c3b0 : decide (x5_1 < (l0.length : Int)) = true := decide_eq_true c3
    clear c3
    by_cases c4 : 0 ≤ x5_1
    ·rw [if_pos c4] at H
     have c4b0 : decide (0 ≤ x5_1) = true := decide_eq_true c4
     clear c4
     by_cases c5 : ((rd_T55 l0 x5_1).f0).toList = a1.toList
     ·rw [if_pos c5] at H
      have c5b0 : (((rd_T55 l0 x5_1).f0).toList == a1.toList) = true := beq_iff_eq.mpr c5
      have c5b1 : (((rd_T55 l0 x5_1).f0).toList != a1.toList) = false := bne_eq_false_iff_eq.mpr c5
      clear c5
      obtain rfl := Option.some.inj H
      have p295 : 0 ≤ (x5_1 : Int) := of_decide_eq_true (by first | (with_reducible assumption) | assumption)
      have q295 : x5_1 < (l0.length : Int) := of_decide_eq_true (by first | (with_reducible assumption) | assumption)
      obtain ⟨ad295, e295, hx295_0, hx295_1, hx295_2, hx295_3⟩ := at_T55 HR0.out x5_1 p295 q295
      cases e295
      replace p295 := eq_true p295
      replace q295 := eq_true q295
      go_wp2
      go_ret
      exact ⟨by first | rfl | (simp; done) | (simp [*]; done), by repeat (first | exact Drawn0.refl _ | apply Drawn0.step)⟩
     ·rw [if_neg c5] at H
      have c5b0 : (((rd_T55 l0 x5_1).f0).toList == a1.toList) = false := beq_eq_false_iff_ne.mpr c5
      have c5b1 : (((rd_T55 l0 x5_1).f0).toList != a1.toList) = true := bne_iff_ne.mpr c5
      have H' := Aside0.mk H
      clear H
      have p295 : 0 ≤ (x5_1 : Int) := of_decide_eq_true (by first | (with_reducible assumption) | assumption)
      have q295 : x5_1 < (l0.length : Int) := of_decide_eq_true (by first | (with_reducible assumption) | assumption)
      obtain ⟨ad295, e295, hx295_0, hx295_1, hx295_2, hx295_3⟩ := at_T55 HR0.out x5_1 p295 q295
      cases e295
      replace p295 := eq_true p295
      replace q295 := eq_true q295
      go_wp2
      go_roundg k1
      case measure => have := HK1.out; omega
      case rel => exact ⟨(wrap64 (x5_1 + 1)), (by first | rfl | (simp; done) | (simp [*]; done)), H', ⟨by have := HK1.out; omega⟩, by repeat (first | exact Drawn0.refl _ | apply Drawn0.step)⟩
    ·rw [if_neg c4] at H
     exact absurd H (by simp)
   ·rw [if_neg c3] at H
    have c3b0 : decide (x5_1 < (l0.length : Int)) = false := decide_eq_false c3
    clear c3
    obtain rfl := Option.some.inj H
    go_wp2
    go_ret
    exact ⟨by first | rfl | (simp; done) | (simp [*]; done), by repeat (first | exact Drawn0.refl _ | apply Drawn0.step)⟩
end Go.Proofs.Ythpjpkcfepmhkaa.PAll
namespace Go.Proofs.Ythpjpkcfepmhkaa.PAll
open Go.RowKit Go.Proofs.YthpjpkcfepmhkaaW.PrintWords Go.Proofs.YthpjpkcfepmhkaaW.PrintLast Go.Proofs.YthpjpkcfepmhkaaW.PrintMore
attribute [local go_sem] max2_int min2_int max_two min_two max_three min_three max_four min_four   -- for this text's walks alone
set_option linter.unusedVariables false
set_option linter.unusedSimpArgs false
def arlinkref06_Valid.l0 : Nat → Int → List (S55) → List Int → Option (Bool)
 | 0, _, _, _ => none
 | k + 1, x3, x297000, x297001 => if x3 < (x297000.length : Int) then (if 0 ≤ x3 then ((arlinkref06_Sym.f k ((rd_T55 x297000 x3).f0) ((rd_T55 x297000 x3).f1) ((rd_T55 x297000 x3).f2) ((rd_T55 x297000 x3).f3)).bind fun t298 => (if t298 = true then (if x3 ≤ (x297000.length : Int) then ((arlinkref06_has.f k (x297000.take (x3 : Int).toNat) ((rd_T55 x297000 x3).f0)).bind fun t304 => (if t304 = true then (some false) else (arlinkref06_Valid.l0 k (wrap64 (x3 + 1)) x297000 x297001))) else (none)) else (some false))) else (none)) else (some (decide ((x297000.length : Int) ≤ 65536)))
def arlinkref06_Valid.f (k : Nat) (l0_0 : List (S55)) (l0_1 : List Int) : Option (Bool) := arlinkref06_Valid.l0 k 0 l0_0 l0_1
theorem arlinkref06_Valid.mono_l : ∀ k, (∀ y0 y1 y2, LeO (arlinkref06_Valid.l0 k y0 y1 y2) (arlinkref06_Valid.l0 (k + 1) y0 y1 y2))
 | 0 => fun _ _ _ r h => by simp [arlinkref06_Valid.l0] at h
 | k + 1 => by
  have ih0 := arlinkref06_Valid.mono_l k
  ·intro y0 y1 y2
   unfold arlinkref06_Valid.l0
   repeat' first
   | (with_reducible exact ih0 _ _ _)
   | (with_reducible exact arlinkref06_Sym.mono _ _ _ _ _)
   | (with_reducible exact arlinkref06_has.mono _ _ _)
   | (with_reducible exact LeO.refl _)
   | (with_reducible exact LeO.none _)
   | (with_reducible refine LeO.ite ?_ ?_)
   | (with_reducible refine LeO.bind ?_ (fun _ => ?_))
   | exact ih0 _ _ _
   | exact arlinkref06_Sym.mono _ _ _ _ _
   | exact arlinkref06_has.mono _ _ _
   | exact LeO.none _
   | refine LeO.ite ?_ ?_
   | refine LeO.bind ?_ (fun _ => ?_)
theorem arlinkref06_Valid.mono : ∀ a0 a1 k, LeO (arlinkref06_Valid.f k a0 a1) (arlinkref06_Valid.f (k + 1) a0 a1) := by
 intro a0 a1 k
 have ih0 := arlinkref06_Valid.mono_l k
 unfold arlinkref06_Valid.f
 repeat' first
   | (with_reducible exact ih0 _ _ _)
   | (with_reducible exact arlinkref06_Sym.mono _ _ _ _ _)
   | (with_reducible exact arlinkref06_has.mono _ _ _)
   | (with_reducible exact LeO.refl _)
   | (with_reducible exact LeO.none _)
   | (with_reducible refine LeO.ite ?_ ?_)
   | (with_reducible refine LeO.bind ?_ (fun _ => ?_))
   | exact ih0 _ _ _
   | exact arlinkref06_Sym.mono _ _ _ _ _
   | exact arlinkref06_has.mono _ _ _
   | exact LeO.none _
   | refine LeO.ite ?_ ?_
   | refine LeO.bind ?_ (fun _ => ?_)
def arlinkref06_Valid.T4 : Bool × List (List Nat × List Nat) := (true, [([], []), ([0], [0]), ([], []), ([1, 2], [1, 2]), ([3], [3]), ([4], [4]), ([5], [5]), ([6, 5], [6]), ([7], [7]), ([8, 7], [7, 8]), ([7], [7]), ([9, 10, 7], [7, 9, 10]), ([7], [7]), ([12, 7], [7, 12]), ([7], [7]), ([13, 14, 7], [7, 13, 14]), ([15, 7], [7, 15]), ([16, 7], [7, 16]), ([11, 17, 7, 7], [7, 11, 17]), ([7, 18], [7, 18])])
def arlinkref06_Valid.B4 : List Nat := [0, 1, 0, 7, 15, 31, 63, 127, 255, 511, 255, 2047, 255, 4351, 255, 28927, 61695, 127231, 262143, 524287]
theorem arlinkref06_Valid.tab4 : rtab .any (opsOf Try.f48 4) = arlinkref06_Valid.T4 := by kernel_rfl
theorem arlinkref06_Valid.bits4 : waitsOk arlinkref06_Valid.T4.2 arlinkref06_Valid.B4 = true := by kernel_rfl
set_option maxHeartbeats 8000000 in
set_option maxRecDepth 100000 in
theorem arlinkref06_Valid.calls (k : Nat) (A0_0 : Option Addr) (c0_0 : Nat) (l0_0 : List (S55)) (A0_1 : Option Addr) (c0_1 : Nat) (l0_1 : List Int) (r : Bool) (w : World) (hr0_0 : Kd.C k55 w A0_0 l0_0.length l0_0) (hc0_0 : l0_0.length ≤ c0_0) (hr0_1 : Kd.C (Kd.int .u8) w A0_1 l0_1.length l0_1) (hc0_1 : l0_1.length ≤ c0_1) (h : arlinkref06_Valid.f k l0_0 l0_1 = some r) :
  Calls Try.prog 48 #[.agg #[.slice A0_0 l0_0.length c0_0, .slice A0_1 l0_1.length c0_1]] w fun e w' => e = .returned (.bool r) ∧ Below w.heap.size w w' := by
 have hu50 := Try.underlying50
 have hu55 := Try.underlying55
 have HR0_0 := Aside0.mk hr0_0
 have HC0_0 := Aside0.mk hc0_0
 clear hr0_0 hc0_0
 have HR0_1 := Aside0.mk hr0_1
 have HC0_1 := Aside0.mk hc0_1
 clear hr0_1 hc0_1
 have HB := Aside0.mk (Below.refl w.heap.size w)
 have H : (arlinkref06_Valid.l0 k 0 l0_0 l0_1) = some r := h
 clear h
 have H' := Aside0.mk H
 clear H
 go_enter Try.func48, Try.ntmps48
 go_wp2_with (first | ((with_reducible refine gate_dst (N := 1) rfl ?_); refine box_event ?hg (N := 1) ?hd (cs := #[.slice A0_0 l0_0.length c0_0, .slice A0_1 l0_1.length c0_1]) (t := 50) ?hr ?_; (case hd => rfl); (case hg => rfl); (case hr => first | (go_simp; done) | (go_simp; rfl)); intro gb296 hg w2 hbox hb; have n0_ := Aside0.mk (below_step (by repeat (first | (with_reducible first | exact HB.out | apply below_alloc | apply pw_below_drewN | apply below_drew1) | exact HB.out)) hb); have n1_ := Aside0.mk (hbox); have n2_ := Aside0.mk ((by rw [hg]; exact (below_size (by repeat (first | (with_reducible first | exact HB.out | apply below_alloc | apply pw_below_drewN | apply below_drew1) | exact HB.out))) : w.heap.size ≤ gb296)); have n3_ := Aside0.mk ((by rw [hg]; exact (below_size (by repeat (first | (with_reducible first | exact HB.out | apply below_alloc | apply pw_below_drewN | apply below_drew1) | exact HB.out))) : w.heap.size ≤ gb296)); clear HB; have HB := n0_; have BK296 := n1_; have GW296 := n2_; have GE296 := n3_; clear n0_ n1_ n2_ n3_; clear hb hbox hg))
 go_loopg [3] k (fun kq v3 w' => ∃ (x3_1 : Int), v3 = .int .i64 x3_1 ∧ Aside0 (arlinkref06_Valid.l0 kq x3_1 l0_0 l0_1 = some r) ∧ Aside0 (kq ≤ k) ∧ Aside0 (w'.heap[gb296]? = some (.cells #[(.slice A0_0 l0_0.length c0_0), (.slice A0_1 l0_1.length c0_1)] 50 (0, 0))) ∧ Aside0 (Below w.heap.size w w'))
 case atStart => exact ⟨(0), (by first | rfl | (simp; done) | (simp [*]; done)), H', ⟨Nat.le_refl _⟩, ⟨by (with_reducible repeat (first | refine blk_drewN ?_ _ | refine blk_drew ?_ | refine blk_alloc ?_ _)); exact BK296.out⟩, ⟨by repeat (first | (with_reducible first | exact HB.out | apply below_alloc | apply pw_below_drewN | apply below_drew1 | refine below_set ?_ GE296.out) | exact HB.out)⟩⟩
 case round =>
  clear H'
  try clear p2
  obtain ⟨x3_1, rfl, HA, HK1, BK296, HB⟩ := hrel
  cases gk with
  | zero => exact absurd HA.out (by simp [arlinkref06_Valid.l0])
  | succ k1 =>
   have H := HA.out
   clear HA
   simp only [arlinkref06_Valid.l0] at H
   by_cases c3 : x3_1 < (l0_0.length : Int)
   ·rw [if_pos c3] at H
    have c3b0 : decide (x3_1 < (l0_0.length : Int)) = true := decide_eq_true c3
    clear c3
    by_cases c4 : 0 ≤ x3_1
    ·rw [if_pos c4] at H
     have c4b0 : decide (0 ≤ x3_1) = true := decide_eq_true c4
     clear c4
     replace H := Option.bind_eq_some_iff.mp H
     obtain ⟨t298, A50, H⟩ := H
     replace H : (if t298 = true then (if x3_1 ≤ (l0_0.length : Int) then ((arlinkref06_has.f k1 (l0_0.take (x3_1 : Int).toNat) ((rd_T55 l0_0 x3_1).f0)).bind fun t304 => (if t304 = true then (some false) else (arlinkref06_Valid.l0 k1 (wrap64 (x3_1 + 1)) l0_0 l0_1))) else (none)) else (some false)) = some r := H
     have A5 := Aside0.mk A50
     clear A50
     by_cases c6 : t298 = true
     ·subst c6
      have H1 : (if x3_1 ≤ (l0_0.length : Int) then ((arlinkref06_has.f k1 (l0_0.take (x3_1 : Int).toNat) ((rd_T55 l0_0 x3_1).f0)).bind fun t304 => (if t304 = true then (some false) else (arlinkref06_Valid.l0 k1 (wrap64 (x3_1 + 1)) l0_0 l0_1))) else (none)) = some r := by rw [if_pos rfl] at H; exact H
      clear H
      have H := H1
      clear H1
      have c7b0 := eq_true (of_decide_eq_true (by first | (with_reducible assumption) | assumption) : 0 ≤ x3_1)
      by_cases c8 : x3_1 ≤ (l0_0.length : Int)
      ·rw [if_pos c8] at H
       have c8b0 := eq_true c8
       have c8b1 : decide (x3_1 ≤ (l0_0.length : Int)) = true := decide_eq_true c8
       clear c8
       obtain ⟨y299, hy299⟩ : ∃ y_ : List (S55), y_ = (l0_0.take (x3_1 : Int).toNat) := ⟨_, rfl⟩
       replace H : ((arlinkref06_has.f k1 y299 ((rd_T55 l0_0 x3_1).f0)).bind fun t304 => (if t304 = true then (some false) else (arlinkref06_Valid.l0 k1 (wrap64 (x3_1 + 1)) l0_0 l0_1))) = some r := by first | (rw [hy299]; with_reducible exact H) | (have H2_ := (Option.bind_some _ _).symm.trans H; rw [hy299]; with_reducible exact H2_) | (have H2_ := (Option.bind_some _ _).symm.trans H; with_reducible exact H2_) | with_reducible exact H | (rw [hy299]; exact H) | exact H
       have Ny299 := Aside0.mk hy299
       clear hy299
       replace H := Option.bind_eq_some_iff.mp H
       obtain ⟨t304, A90, H⟩ := H
       replace H : (if t304 = true then (some false) else (arlinkref06_Valid.l0 k1 (wrap64 (x3_1 + 1)) l0_0 l0_1)) = some r := H
       have A9 := Aside0.mk A90
       clear A90
       by_cases c10 : t304 = true
       ·subst c10
        have H1 : (some false) = some r := by rw [if_pos rfl] at H; exact H
        clear H
        have H := H1
        clear H1
        obtain rfl := Option.some.inj H
        have hcz11_0 : wr.cell? ⟨gb296, 0, none⟩ = some (.slice A0_0 l0_0.length c0_0) := (blk_cell BK296.out 0).trans rfl
        have hcz11_1 : wr.cell? ⟨gb296, 1, none⟩ = some (.slice A0_1 l0_1.length c0_1) := (blk_cell BK296.out 1).trans rfl
        have hfz11_0 := blk_frozen BK296.out 0
        have hfz11_1 := blk_frozen BK296.out 1
        try go_wp2
        have n0_ := Aside0.mk (blk_drew BK296.out)
        have n1_ := Aside0.mk (below_drew1 HB.out)
        clear BK296
        clear HB
        have BK296 := n0_
        have HB := n1_
        clear n0_ n1_
        have p297 : 0 ≤ (x3_1 : Int) := of_decide_eq_true (by first | (with_reducible assumption) | assumption)
        have q297 : x3_1 < (l0_0.length : Int) := of_decide_eq_true (by first | (with_reducible assumption) | assumption)
        obtain ⟨ad297, e297, hx297_0, hx297_1, hx297_2, hx297_3⟩ := at_T55 HR0_0.out x3_1 p297 q297
        have hw297_3 := hx297_3
        have hw297_2 := hx297_2
        have hw297_1 := hx297_1
        have hw297_0 := hx297_0
        cases e297
        replace hx297_0 := (HB.out.cell (World.block_lt_of_cell? w _ hx297_0)).trans hx297_0
        replace hx297_1 := (HB.out.cell (World.block_lt_of_cell? w _ hx297_1)).trans hx297_1
        replace hx297_2 := (HB.out.cell (World.block_lt_of_cell? w _ hx297_2)).trans hx297_2
        replace hx297_3 := (HB.out.cell (World.block_lt_of_cell? w _ hx297_3)).trans hx297_3
        replace p297 := eq_true p297
        replace q297 := eq_true q297
        have p303 : 0 ≤ (x3_1 : Int) := of_decide_eq_true (by first | (with_reducible assumption) | assumption)
        have q303 : x3_1 < (l0_0.length : Int) := of_decide_eq_true (by first | (with_reducible assumption) | assumption)
        obtain ⟨ad303, e303, hx303_0, hx303_1, hx303_2, hx303_3⟩ := at_T55 HR0_0.out x3_1 p303 q303
        have hw303_3 := hx303_3
        have hw303_2 := hx303_2
        have hw303_1 := hx303_1
        have hw303_0 := hx303_0
        obtain rfl : ad297 = ad303 := (by injection e303)
        replace hx303_0 := (HB.out.cell (World.block_lt_of_cell? w _ hx303_0)).trans hx303_0
        replace hx303_1 := (HB.out.cell (World.block_lt_of_cell? w _ hx303_1)).trans hx303_1
        replace hx303_2 := (HB.out.cell (World.block_lt_of_cell? w _ hx303_2)).trans hx303_2
        replace hx303_3 := (HB.out.cell (World.block_lt_of_cell? w _ hx303_3)).trans hx303_3
        replace p303 := eq_true p303
        replace q303 := eq_true q303
        refine start_ (n := 20) (S := fun w' => w'.cell? ⟨gb296, 0, none⟩ = some (.slice (some ad297) l0_0.length c0_0) ∧ w'.cell? ⟨gb296, 1, none⟩ = some (.slice A0_1 l0_1.length c0_1) ∧ w'.cell? (ad297.add ((x3_1).toNat * 4)) = some (.string ((rd_T55 l0_0 x3_1).f0)) ∧ w'.cell? ⟨(ad297.add ((x3_1).toNat * 4)).block, (ad297.add ((x3_1).toNat * 4)).off + 1, none⟩ = some (.int .i64 ((rd_T55 l0_0 x3_1).f1)) ∧ w'.cell? ⟨(ad297.add ((x3_1).toNat * 4)).block, (ad297.add ((x3_1).toNat * 4)).off + 2, none⟩ = some (.int .i64 ((rd_T55 l0_0 x3_1).f2)) ∧ w'.cell? ⟨(ad297.add ((x3_1).toNat * 4)).block, (ad297.add ((x3_1).toNat * 4)).off + 3, none⟩ = some (.int .i64 ((rd_T55 l0_0 x3_1).f3)) ∧ w'.cell? (ad297.add ((x3_1).toNat * 4)) = some (.string ((rd_T55 l0_0 x3_1).f0)) ∧ w'.cell? ⟨(ad297.add ((x3_1).toNat * 4)).block, (ad297.add ((x3_1).toNat * 4)).off + 1, none⟩ = some (.int .i64 ((rd_T55 l0_0 x3_1).f1)) ∧ w'.cell? ⟨(ad297.add ((x3_1).toNat * 4)).block, (ad297.add ((x3_1).toNat * 4)).off + 2, none⟩ = some (.int .i64 ((rd_T55 l0_0 x3_1).f2)) ∧ w'.cell? ⟨(ad297.add ((x3_1).toNat * 4)).block, (ad297.add ((x3_1).toNat * 4)).off + 3, none⟩ = some (.int .i64 ((rd_T55 l0_0 x3_1).f3))) (ds := []) #[false, false, false, false, false, false, false, false, false, false, false, false, false, false, false, false, false, false, false, false] (by kernel_rfl) rfl rfl ⟨(blk_cell BK296.out 0).trans rfl, (blk_cell BK296.out 1).trans rfl, ((HB.out.cell (World.block_lt_of_cell? w _ hw297_0)).trans hw297_0), ((HB.out.cell (World.block_lt_of_cell? w _ hw297_1)).trans hw297_1), ((HB.out.cell (World.block_lt_of_cell? w _ hw297_2)).trans hw297_2), ((HB.out.cell (World.block_lt_of_cell? w _ hw297_3)).trans hw297_3), ((HB.out.cell (World.block_lt_of_cell? w _ hw303_0)).trans hw303_0), ((HB.out.cell (World.block_lt_of_cell? w _ hw303_1)).trans hw303_1), ((HB.out.cell (World.block_lt_of_cell? w _ hw303_2)).trans hw303_2), ((HB.out.cell (World.block_lt_of_cell? w _ hw303_3)).trans hw303_3)⟩ (fun hHeld => ?_); refine with_tabW arlinkref06_Valid.tab4 arlinkref06_Valid.bits4 (fun HT_ HW_ => ?_)
        generalize wr.drew = w12 at BK296 HB hx297_0 hx297_1 hx297_2 hx297_3 hx303_0 hx303_1 hx303_2 hx303_3 hHeld ⊢
        refine pure_ (i := 0) (N := some 11) (v := ?_) (a' := ?_) #[true, false, false, false, false, false, false, false, false, false, false, false, false, false, false, false, false, false, false, false] rfl rfl (any_of HT_.out (by kernel_rfl)) (fun _ _ _ h => h) (Or.inl ⟨by rfl, ?_⟩) ?_ ?_
        rotate_left
        ·intro w'
         go_simp
         with_reducible rfl
        rotate_left
        ·simp only [Act.put, List.setIfInBounds_toArray, List.set_cons_zero, List.set_cons_succ, i64_w, i32_w]
         rfl
        refine pure_ (i := 2) (N := some 13) (v := ?_) (a' := ?_) #[true, false, true, false, false, false, false, false, false, false, false, false, false, false, false, false, false, false, false, false] rfl rfl (any_of HT_.out (by kernel_rfl)) (fun _ _ _ h => h) (Or.inl ⟨by rfl, ?_⟩) ?_ ?_
        rotate_left
        ·intro w'
         go_simp
         with_reducible rfl
        rotate_left
        ·simp only [Act.put, List.setIfInBounds_toArray, List.set_cons_zero, List.set_cons_succ, i64_w, i32_w]
         rfl
        refine take_ (i := 1) (N := some 12) (v := ?_) (a' := ?_) #[true, true, true, false, false, false, false, false, false, false, false, false, false, false, false, false, false, false, false, false] rfl rfl (take_ofW HT_.out HW_.out (by kernel_rfl)) (fun _ _ _ h => h) (Or.inl ⟨by rfl, ?_⟩) hHeld ?_ ?_
        rotate_left
        ·rintro w' ⟨s0, s1, s2, s3, s4, s5, s6, s7, s8, s9⟩
         go_simp
         with_reducible rfl
        rotate_left
        ·simp only [Act.put, List.setIfInBounds_toArray, List.set_cons_zero, List.set_cons_succ, i64_w, i32_w]
         rfl
        refine pure_ (i := 3) (N := some 14) (v := ?_) (a' := ?_) #[true, true, true, true, false, false, false, false, false, false, false, false, false, false, false, false, false, false, false, false] rfl rfl (any_of HT_.out (by kernel_rfl)) (fun _ _ _ h => h) (Or.inl ⟨by rfl, ?_⟩) ?_ ?_
        rotate_left
        ·intro w'
         go_simp
         with_reducible rfl
        rotate_left
        ·simp only [Act.put, List.setIfInBounds_toArray, List.set_cons_zero, List.set_cons_succ, i64_w, i32_w]
         rfl
        refine take_ (i := 4) (N := some 15) (v := ?_) (a' := ?_) #[true, true, true, true, true, false, false, false, false, false, false, false, false, false, false, false, false, false, false, false] rfl rfl (take_ofW HT_.out HW_.out (by kernel_rfl)) (fun _ _ _ h => h) (Or.inl ⟨by rfl, ?_⟩) hHeld ?_ ?_
        rotate_left
        ·rintro w' ⟨s0, s1, s2, s3, s4, s5, s6, s7, s8, s9⟩
         go_simp
         with_reducible rfl
        rotate_left
        ·simp only [Act.put, List.setIfInBounds_toArray, List.set_cons_zero, List.set_cons_succ, i64_w, i32_w]
         rfl
        refine one_ (i := 5) (N := some 16) #[true, true, true, true, true, true, false, false, false, false, false, false, false, false, false, false, false, false, false, false] rfl rfl (one_of HT_.out (by kernel_rfl)) (by decide) (fun K hK => ?_)
        refine goes_ Try.func64 (by kernel_rfl) rfl #[.agg #[.string ((rd_T55 l0_0 x3_1).f0), .int .i64 ((rd_T55 l0_0 x3_1).f1), .int .i64 ((rd_T55 l0_0 x3_1).f2), .int .i64 ((rd_T55 l0_0 x3_1).f3)]] (by rfl) rfl rfl (by (try simp only [List.map_toArray, List.map_cons, List.map_nil]); first | done | rfl | (simp only [List.length_drop, List.length_take]; rfl)) ?_
        with_reducible refine (arlinkref06_Sym.calls k1 ((rd_T55 l0_0 x3_1).f0) ((rd_T55 l0_0 x3_1).f1) ((rd_T55 l0_0 x3_1).f2) ((rd_T55 l0_0 x3_1).f3) true _ A5.out).mono ?_
        rintro e w13 ⟨rfl, hb⟩
        refine ⟨_, rfl, ?_⟩
        have n0_ := Aside0.mk (blk_below (g := gb296) (o := .cells #[.slice (some ad297) l0_0.length c0_0, .slice A0_1 l0_1.length c0_1] 50 (0, 0)) (by (with_reducible repeat (first | refine blk_drewN ?_ _ | refine blk_drew ?_ | refine blk_alloc ?_ _)); exact BK296.out) hb)
        have n1_ := Aside0.mk (below_step (by repeat (first | (with_reducible first | exact HB.out | apply below_alloc | apply pw_below_drewN | apply below_drew1 | refine below_set ?_ GE296.out) | exact HB.out)) hb)
        clear BK296
        clear HB
        have BK296 := n0_
        have HB := n1_
        clear n0_ n1_
        (try clear hb)
        (try clear hb2)
        (try clear hk)
        (try clear hi)
        have q14 : (x3_1 : Int) ≤ ((l0_0.length : Int) : Int) := of_decide_eq_true (by first | (with_reducible assumption) | assumption)
        obtain ⟨i014, hi014, _, hsz14, _⟩ := info_parts info55
        have hroom14 : l0_0.length ≤ c0_0 := HC0_0.out
        have hC14 : Kd.C k55 _ (some ad297) l0_0.length l0_0 := HR0_0.out
        have hcut14 := cut_to (P := Try.prog) 47 55 .i64 Try.underlying47 hi014 (some ad297) l0_0.length c0_0 x3_1 (of_decide_eq_true (by first | (with_reducible assumption) | assumption)) q14 hroom14
        have hr14 := Kd.C_take (m := (x3_1 : Int).toNat) hC14 (by omega)
        have hy14 : y299.length = (x3_1 : Int).toNat := (by rw [Ny299.out, List.length_take]; omega)
        rw [← Ny299.out] at hr14
        rw [← hy14] at hcut14
        have HR302 := Aside0.mk hr14
        have HC302 := Aside0.mk (show y299.length ≤ c0_0 from by omega)
        clear hr14 hC14 hroom14 hi014 hsz14
        have KY14 := Aside0.mk hy14
        clear hy14
        replace q14 := eq_true q14
        refine hK.out _ _ ⟨(blk_cell BK296.out 0).trans rfl, (blk_cell BK296.out 1).trans rfl, ((HB.out.cell (World.block_lt_of_cell? w _ hw297_0)).trans hw297_0), ((HB.out.cell (World.block_lt_of_cell? w _ hw297_1)).trans hw297_1), ((HB.out.cell (World.block_lt_of_cell? w _ hw297_2)).trans hw297_2), ((HB.out.cell (World.block_lt_of_cell? w _ hw297_3)).trans hw297_3), ((HB.out.cell (World.block_lt_of_cell? w _ hw303_0)).trans hw303_0), ((HB.out.cell (World.block_lt_of_cell? w _ hw303_1)).trans hw303_1), ((HB.out.cell (World.block_lt_of_cell? w _ hw303_2)).trans hw303_2), ((HB.out.cell (World.block_lt_of_cell? w _ hw303_3)).trans hw303_3)⟩ (fun hHeld => ?_)
        clear hK K
        refine norm_ (a' := ?_) ?_ ?_
        rotate_left
        ·show Act.put _ (some 16) _ = _
         simp only [Act.put, List.setIfInBounds_toArray, List.set_cons_zero, List.set_cons_succ, i64_w, i32_w]
         rfl
        refine pure_ (i := 6) (N := some 17) (v := ?_) (a' := ?_) #[true, true, true, true, true, true, true, false, false, false, false, false, false, false, false, false, false, false, false, false] rfl rfl (any_of HT_.out (by kernel_rfl)) (fun _ _ _ h => h) (Or.inl ⟨by rfl, ?_⟩) ?_ ?_
        rotate_left
        ·intro w'
         go_simp
         with_reducible rfl
        rotate_left
        ·simp only [Act.put, List.setIfInBounds_toArray, List.set_cons_zero, List.set_cons_succ, i64_w, i32_w]
         rfl
        refine pure_ (i := 7) (N := some 18) (v := ?_) (a' := ?_) #[true, true, true, true, true, true, true, true, false, false, false, false, false, false, false, false, false, false, false, false] rfl rfl (any_of HT_.out (by kernel_rfl)) (fun _ _ _ h => h) (Or.inl ⟨by rfl, ?_⟩) ?_ ?_
        rotate_left
        ·intro w'
         go_simp
         with_reducible rfl
        rotate_left
        ·simp only [Act.put, List.setIfInBounds_toArray, List.set_cons_zero, List.set_cons_succ, i64_w, i32_w]
         rfl
        refine pure_ (i := 8) (N := some 19) (v := ?_) (a' := ?_) #[true, true, true, true, true, true, true, true, true, false, false, false, false, false, false, false, false, false, false, false] rfl rfl (any_of HT_.out (by kernel_rfl)) (fun _ _ _ h => h) (Or.inl ⟨by rfl, ?_⟩) ?_ ?_
        rotate_left
        ·intro w'
         go_simp
         with_reducible rfl
        rotate_left
        ·simp only [Act.put, List.setIfInBounds_toArray, List.set_cons_zero, List.set_cons_succ, i64_w, i32_w]
         rfl
        refine pure_ (i := 10) (N := some 21) (v := ?_) (a' := ?_) #[true, true, true, true, true, true, true, true, true, false, true, false, false, false, false, false, false, false, false, false] rfl rfl (any_of HT_.out (by kernel_rfl)) (fun _ _ _ h => h) (Or.inl ⟨by rfl, ?_⟩) ?_ ?_
        rotate_left
        ·intro w'
         go_simp
         with_reducible rfl
        rotate_left
        ·simp only [Act.put, List.setIfInBounds_toArray, List.set_cons_zero, List.set_cons_succ, i64_w, i32_w]
         rfl
        refine pure_ (i := 12) (N := some 23) (v := ?_) (a' := ?_) #[true, true, true, true, true, true, true, true, true, false, true, false, true, false, false, false, false, false, false, false] rfl rfl (any_of HT_.out (by kernel_rfl)) (fun _ _ _ h => h) (Or.inl ⟨by rfl, ?_⟩) ?_ ?_
        rotate_left
        ·intro w'
         go_simp
         with_reducible rfl
        rotate_left
        ·simp only [Act.put, List.setIfInBounds_toArray, List.set_cons_zero, List.set_cons_succ, i64_w, i32_w]
         rfl
        refine pure_ (i := 14) (N := some 25) (v := ?_) (a' := ?_) #[true, true, true, true, true, true, true, true, true, false, true, false, true, false, true, false, false, false, false, false] rfl rfl (any_of HT_.out (by kernel_rfl)) (fun _ _ _ h => h) (Or.inl ⟨by rfl, ?_⟩) ?_ ?_
        rotate_left
        ·intro w'
         go_simp
         with_reducible rfl
        rotate_left
        ·simp only [Act.put, List.setIfInBounds_toArray, List.set_cons_zero, List.set_cons_succ, i64_w, i32_w]
         rfl
        refine take_ (i := 9) (N := some 20) (v := ?_) (a' := ?_) #[true, true, true, true, true, true, true, true, true, true, true, false, true, false, true, false, false, false, false, false] rfl rfl (take_ofW HT_.out HW_.out (by kernel_rfl)) (fun _ _ _ h => h) (Or.inl ⟨by rfl, ?_⟩) hHeld ?_ ?_
        rotate_left
        ·rintro w' ⟨s0, s1, s2, s3, s4, s5, s6, s7, s8, s9⟩
         go_simp
         with_reducible rfl
        rotate_left
        ·simp only [Act.put, List.setIfInBounds_toArray, List.set_cons_zero, List.set_cons_succ, i64_w, i32_w]
         rfl
        refine pure_ (i := 11) (N := some 22) (v := ?_) (a' := ?_) #[true, true, true, true, true, true, true, true, true, true, true, true, true, false, true, false, false, false, false, false] rfl rfl (any_of HT_.out (by kernel_rfl)) (fun _ _ _ h => h) (Or.inl ⟨by rfl, ?_⟩) ?_ ?_
        rotate_left
        ·intro w'
         go_simp
         with_reducible rfl
        rotate_left
        ·simp only [Act.put, List.setIfInBounds_toArray, List.set_cons_zero, List.set_cons_succ, i64_w, i32_w]
         rfl
        refine take_ (i := 13) (N := some 24) (v := ?_) (a' := ?_) #[true, true, true, true, true, true, true, true, true, true, true, true, true, true, true, false, false, false, false, false] rfl rfl (take_ofW HT_.out HW_.out (by kernel_rfl)) (fun _ _ _ h => h) (Or.inl ⟨by rfl, ?_⟩) hHeld ?_ ?_
        rotate_left
        ·rintro w' ⟨s0, s1, s2, s3, s4, s5, s6, s7, s8, s9⟩
         go_simp
         with_reducible rfl
        rotate_left
        ·simp only [Act.put, List.setIfInBounds_toArray, List.set_cons_zero, List.set_cons_succ, i64_w, i32_w]
         rfl
        refine pure_ (i := 15) (N := some 26) (v := ?_) (a' := ?_) #[true, true, true, true, true, true, true, true, true, true, true, true, true, true, true, true, false, false, false, false] rfl rfl (any_of HT_.out (by kernel_rfl)) (fun _ _ _ h => h) (Or.inl ⟨by rfl, ?_⟩) ?_ ?_
        rotate_left
        ·intro w'
         go_simp
         with_reducible rfl
        rotate_left
        ·simp only [Act.put, List.setIfInBounds_toArray, List.set_cons_zero, List.set_cons_succ, i64_w, i32_w]
         rfl
        refine pure_ (i := 16) (N := some 27) (v := ?_) (a' := ?_) #[true, true, true, true, true, true, true, true, true, true, true, true, true, true, true, true, true, false, false, false] rfl rfl (any_of HT_.out (by kernel_rfl)) (fun _ _ _ h => h) (Or.inl ⟨by rfl, ?_⟩) ?_ ?_
        rotate_left
        ·intro w'
         go_simp
         with_reducible rfl
        rotate_left
        ·simp only [Act.put, List.setIfInBounds_toArray, List.set_cons_zero, List.set_cons_succ, i64_w, i32_w]
         rfl
        refine take_ (i := 17) (N := some 28) (v := ?_) (a' := ?_) #[true, true, true, true, true, true, true, true, true, true, true, true, true, true, true, true, true, true, false, false] rfl rfl (take_ofW HT_.out HW_.out (by kernel_rfl)) (fun _ _ _ h => h) (Or.inl ⟨by rfl, ?_⟩) hHeld ?_ ?_
        rotate_left
        ·rintro w' ⟨s0, s1, s2, s3, s4, s5, s6, s7, s8, s9⟩
         go_simp
         with_reducible rfl
        rotate_left
        ·simp only [Act.put, List.setIfInBounds_toArray, List.set_cons_zero, List.set_cons_succ, i64_w, i32_w]
         rfl
        refine one_ (i := 18) (N := some 29) #[true, true, true, true, true, true, true, true, true, true, true, true, true, true, true, true, true, true, true, false] rfl rfl (one_of HT_.out (by kernel_rfl)) (by decide) (fun K hK => ?_)
        refine goes_ Try.func65 (by kernel_rfl) rfl #[.slice (some ad297) y299.length c0_0, .string ((rd_T55 l0_0 x3_1).f0)] (by rfl) rfl rfl (by (try simp only [List.map_toArray, List.map_cons, List.map_nil]); first | done | rfl | (simp only [List.length_drop, List.length_take]; rfl)) ?_
        with_reducible refine (arlinkref06_has.calls k1 _ _ y299 ((rd_T55 l0_0 x3_1).f0) true _ ?side1 ?side2 A9.out).mono ?_
        (case side1 => repeat (first | exact (Kd.C_below HR302.out HB.out) | (with_reducible refine Kd.C_alloc ?_ _) | (with_reducible refine Kd.C_drewN ?_ _) | (with_reducible refine Kd.C_drew ?_)))
        (case side2 => exact HC302.out)
        rintro e w' ⟨rfl, ⟨nd, rfl⟩⟩
        refine ⟨_, rfl, ?_⟩
        refine hK.out _ _ ⟨(blk_cell BK296.out 0).trans rfl, (blk_cell BK296.out 1).trans rfl, ((HB.out.cell (World.block_lt_of_cell? w _ hw297_0)).trans hw297_0), ((HB.out.cell (World.block_lt_of_cell? w _ hw297_1)).trans hw297_1), ((HB.out.cell (World.block_lt_of_cell? w _ hw297_2)).trans hw297_2), ((HB.out.cell (World.block_lt_of_cell? w _ hw297_3)).trans hw297_3), ((HB.out.cell (World.block_lt_of_cell? w _ hw303_0)).trans hw303_0), ((HB.out.cell (World.block_lt_of_cell? w _ hw303_1)).trans hw303_1), ((HB.out.cell (World.block_lt_of_cell? w _ hw303_2)).trans hw303_2), ((HB.out.cell (World.block_lt_of_cell? w _ hw303_3)).trans hw303_3)⟩ (fun hHeld => ?_)
        clear hK K
        refine norm_ (a' := ?_) ?_ ?_
        rotate_left
        ·show Act.put _ (some 29) _ = _
         simp only [Act.put, List.setIfInBounds_toArray, List.set_cons_zero, List.set_cons_succ, i64_w, i32_w]
         rfl
        refine pure_ (i := 19) (N := some 30) (v := ?_) (a' := ?_) #[true, true, true, true, true, true, true, true, true, true, true, true, true, true, true, true, true, true, true, true] rfl rfl (any_of HT_.out (by kernel_rfl)) (fun _ _ _ h => h) (Or.inl ⟨by rfl, ?_⟩) ?_ ?_
        rotate_left
        ·intro w'
         go_simp
         with_reducible rfl
        rotate_left
        ·simp only [Act.put, List.setIfInBounds_toArray, List.set_cons_zero, List.set_cons_succ, i64_w, i32_w]
         rfl
        refine done_ (done_of HT_.out (by kernel_rfl)) ?_
        try go_wp2
        go_ret
        exact ⟨by first | rfl | (simp [errW_none, errW_some] <;> rfl) | (simp [*, errW_none, errW_some] <;> rfl), by repeat (first | (with_reducible first | exact HB.out | apply below_alloc | apply pw_below_drewN | apply below_drew1 | refine below_set ?_ GE296.out) | exact HB.out)⟩
       ·replace c10 := Bool.eq_false_iff.mpr c10
        subst c10
        have H1 : (arlinkref06_Valid.l0 k1 (wrap64 (x3_1 + 1)) l0_0 l0_1) = some r := by rw [if_neg (show ¬ (false = true) by decide)] at H; exact H
        clear H
        have H := H1
        clear H1
        have H' := Aside0.mk H
        clear H
        have hcz15_0 : wr.cell? ⟨gb296, 0, none⟩ = some (.slice A0_0 l0_0.length c0_0) := (blk_cell BK296.out 0).trans rfl
        have hcz15_1 : wr.cell? ⟨gb296, 1, none⟩ = some (.slice A0_1 l0_1.length c0_1) := (blk_cell BK296.out 1).trans rfl
        have hfz15_0 := blk_frozen BK296.out 0
        have hfz15_1 := blk_frozen BK296.out 1
        try go_wp2
        have n0_ := Aside0.mk (blk_drew BK296.out)
        have n1_ := Aside0.mk (below_drew1 HB.out)
        clear BK296
        clear HB
        have BK296 := n0_
        have HB := n1_
        clear n0_ n1_
        have p297 : 0 ≤ (x3_1 : Int) := of_decide_eq_true (by first | (with_reducible assumption) | assumption)
        have q297 : x3_1 < (l0_0.length : Int) := of_decide_eq_true (by first | (with_reducible assumption) | assumption)
        obtain ⟨ad297, e297, hx297_0, hx297_1, hx297_2, hx297_3⟩ := at_T55 HR0_0.out x3_1 p297 q297
        have hw297_3 := hx297_3
        have hw297_2 := hx297_2
        have hw297_1 := hx297_1
        have hw297_0 := hx297_0
        cases e297
        replace hx297_0 := (HB.out.cell (World.block_lt_of_cell? w _ hx297_0)).trans hx297_0
        replace hx297_1 := (HB.out.cell (World.block_lt_of_cell? w _ hx297_1)).trans hx297_1
        replace hx297_2 := (HB.out.cell (World.block_lt_of_cell? w _ hx297_2)).trans hx297_2
        replace hx297_3 := (HB.out.cell (World.block_lt_of_cell? w _ hx297_3)).trans hx297_3
        replace p297 := eq_true p297
        replace q297 := eq_true q297
        have p303 : 0 ≤ (x3_1 : Int) := of_decide_eq_true (by first | (with_reducible assumption) | assumption)
        have q303 : x3_1 < (l0_0.length : Int) := of_decide_eq_true (by first | (with_reducible assumption) | assumption)
        obtain ⟨ad303, e303, hx303_0, hx303_1, hx303_2, hx303_3⟩ := at_T55 HR0_0.out x3_1 p303 q303
        have hw303_3 := hx303_3
        have hw303_2 := hx303_2
        have hw303_1 := hx303_1
        have hw303_0 := hx303_0
        obtain rfl : ad297 = ad303 := (by injection e303)
        replace hx303_0 := (HB.out.cell (World.block_lt_of_cell? w _ hx303_0)).trans hx303_0
        replace hx303_1 := (HB.out.cell (World.block_lt_of_cell? w _ hx303_1)).trans hx303_1
        replace hx303_2 := (HB.out.cell (World.block_lt_of_cell? w _ hx303_2)).trans hx303_2
        replace hx303_3 := (HB.out.cell (World.block_lt_of_cell? w _ hx303_3)).trans hx303_3
        replace p303 := eq_true p303
        replace q303 := eq_true q303
        refine start_ (n := 20) (S := fun w' => w'.cell? ⟨gb296, 0, none⟩ = some (.slice (some ad297) l0_0.length c0_0) ∧ w'.cell? ⟨gb296, 1, none⟩ = some (.slice A0_1 l0_1.length c0_1) ∧ w'.cell? (ad297.add ((x3_1).toNat * 4)) = some (.string ((rd_T55 l0_0 x3_1).f0)) ∧ w'.cell? ⟨(ad297.add ((x3_1).toNat * 4)).block, (ad297.add ((x3_1).toNat * 4)).off + 1, none⟩ = some (.int .i64 ((rd_T55 l0_0 x3_1).f1)) ∧ w'.cell? ⟨(ad297.add ((x3_1).toNat * 4)).block, (ad297.add ((x3_1).toNat * 4)).off + 2, none⟩ = some (.int .i64 ((rd_T55 l0_0 x3_1).f2)) ∧ w'.cell? ⟨(ad297.add ((x3_1).toNat * 4)).block, (ad297.add ((x3_1).toNat * 4)).off + 3, none⟩ = some (.int .i64 ((rd_T55 l0_0 x3_1).f3)) ∧ w'.cell? (ad297.add ((x3_1).toNat * 4)) = some (.string ((rd_T55 l0_0 x3_1).f0)) ∧ w'.cell? ⟨(ad297.add ((x3_1).toNat * 4)).block, (ad297.add ((x3_1).toNat * 4)).off + 1, none⟩ = some (.int .i64 ((rd_T55 l0_0 x3_1).f1)) ∧ w'.cell? ⟨(ad297.add ((x3_1).toNat * 4)).block, (ad297.add ((x3_1).toNat * 4)).off + 2, none⟩ = some (.int .i64 ((rd_T55 l0_0 x3_1).f2)) ∧ w'.cell? ⟨(ad297.add ((x3_1).toNat * 4)).block, (ad297.add ((x3_1).toNat * 4)).off + 3, none⟩ = some (.int .i64 ((rd_T55 l0_0 x3_1).f3))) (ds := []) #[false, false, false, false, false, false, false, false, false, false, false, false, false, false, false, false, false, false, false, false] (by kernel_rfl) rfl rfl ⟨(blk_cell BK296.out 0).trans rfl, (blk_cell BK296.out 1).trans rfl, ((HB.out.cell (World.block_lt_of_cell? w _ hw297_0)).trans hw297_0), ((HB.out.cell (World.block_lt_of_cell? w _ hw297_1)).trans hw297_1), ((HB.out.cell (World.block_lt_of_cell? w _ hw297_2)).trans hw297_2), ((HB.out.cell (World.block_lt_of_cell? w _ hw297_3)).trans hw297_3), ((HB.out.cell (World.block_lt_of_cell? w _ hw303_0)).trans hw303_0), ((HB.out.cell (World.block_lt_of_cell? w _ hw303_1)).trans hw303_1), ((HB.out.cell (World.block_lt_of_cell? w _ hw303_2)).trans hw303_2), ((HB.out.cell (World.block_lt_of_cell? w _ hw303_3)).trans hw303_3)⟩ (fun hHeld => ?_); refine with_tabW arlinkref06_Valid.tab4 arlinkref06_Valid.bits4 (fun HT_ HW_ => ?_)
        generalize wr.drew = w16 at BK296 HB hx297_0 hx297_1 hx297_2 hx297_3 hx303_0 hx303_1 hx303_2 hx303_3 hHeld ⊢
        refine pure_ (i := 0) (N := some 11) (v := ?_) (a' := ?_) #[true, false, false, false, false, false, false, false, false, false, false, false, false, false, false, false, false, false, false, false] rfl rfl (any_of HT_.out (by kernel_rfl)) (fun _ _ _ h => h) (Or.inl ⟨by rfl, ?_⟩) ?_ ?_
        rotate_left
        ·intro w'
         go_simp
         with_reducible rfl
        rotate_left
        ·simp only [Act.put, List.setIfInBounds_toArray, List.set_cons_zero, List.set_cons_succ, i64_w, i32_w]
         rfl
        refine pure_ (i := 2) (N := some 13) (v := ?_) (a' := ?_) #[true, false, true, false, false, false, false, false, false, false, false, false, false, false, false, false, false, false, false, false] rfl rfl (any_of HT_.out (by kernel_rfl)) (fun _ _ _ h => h) (Or.inl ⟨by rfl, ?_⟩) ?_ ?_
        rotate_left
        ·intro w'
         go_simp
         with_reducible rfl
        rotate_left
        ·simp only [Act.put, List.setIfInBounds_toArray, List.set_cons_zero, List.set_cons_succ, i64_w, i32_w]
         rfl
        refine take_ (i := 1) (N := some 12) (v := ?_) (a' := ?_) #[true, true, true, false, false, false, false, false, false, false, false, false, false, false, false, false, false, false, false, false] rfl rfl (take_ofW HT_.out HW_.out (by kernel_rfl)) (fun _ _ _ h => h) (Or.inl ⟨by rfl, ?_⟩) hHeld ?_ ?_
        rotate_left
        ·rintro w' ⟨s0, s1, s2, s3, s4, s5, s6, s7, s8, s9⟩
         go_simp
         with_reducible rfl
        rotate_left
        ·simp only [Act.put, List.setIfInBounds_toArray, List.set_cons_zero, List.set_cons_succ, i64_w, i32_w]
         rfl
        refine pure_ (i := 3) (N := some 14) (v := ?_) (a' := ?_) #[true, true, true, true, false, false, false, false, false, false, false, false, false, false, false, false, false, false, false, false] rfl rfl (any_of HT_.out (by kernel_rfl)) (fun _ _ _ h => h) (Or.inl ⟨by rfl, ?_⟩) ?_ ?_
        rotate_left
        ·intro w'
         go_simp
         with_reducible rfl
        rotate_left
        ·simp only [Act.put, List.setIfInBounds_toArray, List.set_cons_zero, List.set_cons_succ, i64_w, i32_w]
         rfl
        refine take_ (i := 4) (N := some 15) (v := ?_) (a' := ?_) #[true, true, true, true, true, false, false, false, false, false, false, false, false, false, false, false, false, false, false, false] rfl rfl (take_ofW HT_.out HW_.out (by kernel_rfl)) (fun _ _ _ h => h) (Or.inl ⟨by rfl, ?_⟩) hHeld ?_ ?_
        rotate_left
        ·rintro w' ⟨s0, s1, s2, s3, s4, s5, s6, s7, s8, s9⟩
         go_simp
         with_reducible rfl
        rotate_left
        ·simp only [Act.put, List.setIfInBounds_toArray, List.set_cons_zero, List.set_cons_succ, i64_w, i32_w]
         rfl
        refine one_ (i := 5) (N := some 16) #[true, true, true, true, true, true, false, false, false, false, false, false, false, false, false, false, false, false, false, false] rfl rfl (one_of HT_.out (by kernel_rfl)) (by decide) (fun K hK => ?_)
        refine goes_ Try.func64 (by kernel_rfl) rfl #[.agg #[.string ((rd_T55 l0_0 x3_1).f0), .int .i64 ((rd_T55 l0_0 x3_1).f1), .int .i64 ((rd_T55 l0_0 x3_1).f2), .int .i64 ((rd_T55 l0_0 x3_1).f3)]] (by rfl) rfl rfl (by (try simp only [List.map_toArray, List.map_cons, List.map_nil]); first | done | rfl | (simp only [List.length_drop, List.length_take]; rfl)) ?_
        with_reducible refine (arlinkref06_Sym.calls k1 ((rd_T55 l0_0 x3_1).f0) ((rd_T55 l0_0 x3_1).f1) ((rd_T55 l0_0 x3_1).f2) ((rd_T55 l0_0 x3_1).f3) true _ A5.out).mono ?_
        rintro e w17 ⟨rfl, hb⟩
        refine ⟨_, rfl, ?_⟩
        have n0_ := Aside0.mk (blk_below (g := gb296) (o := .cells #[.slice (some ad297) l0_0.length c0_0, .slice A0_1 l0_1.length c0_1] 50 (0, 0)) (by (with_reducible repeat (first | refine blk_drewN ?_ _ | refine blk_drew ?_ | refine blk_alloc ?_ _)); exact BK296.out) hb)
        have n1_ := Aside0.mk (below_step (by repeat (first | (with_reducible first | exact HB.out | apply below_alloc | apply pw_below_drewN | apply below_drew1 | refine below_set ?_ GE296.out) | exact HB.out)) hb)
        clear BK296
        clear HB
        have BK296 := n0_
        have HB := n1_
        clear n0_ n1_
        (try clear hb)
        (try clear hb2)
        (try clear hk)
        (try clear hi)
        have q18 : (x3_1 : Int) ≤ ((l0_0.length : Int) : Int) := of_decide_eq_true (by first | (with_reducible assumption) | assumption)
        obtain ⟨i018, hi018, _, hsz18, _⟩ := info_parts info55
        have hroom18 : l0_0.length ≤ c0_0 := HC0_0.out
        have hC18 : Kd.C k55 _ (some ad297) l0_0.length l0_0 := HR0_0.out
        have hcut18 := cut_to (P := Try.prog) 47 55 .i64 Try.underlying47 hi018 (some ad297) l0_0.length c0_0 x3_1 (of_decide_eq_true (by first | (with_reducible assumption) | assumption)) q18 hroom18
        have hr18 := Kd.C_take (m := (x3_1 : Int).toNat) hC18 (by omega)
        have hy18 : y299.length = (x3_1 : Int).toNat := (by rw [Ny299.out, List.length_take]; omega)
        rw [← Ny299.out] at hr18
        rw [← hy18] at hcut18
        have HR302 := Aside0.mk hr18
        have HC302 := Aside0.mk (show y299.length ≤ c0_0 from by omega)
        clear hr18 hC18 hroom18 hi018 hsz18
        have KY18 := Aside0.mk hy18
        clear hy18
        replace q18 := eq_true q18
        refine hK.out _ _ ⟨(blk_cell BK296.out 0).trans rfl, (blk_cell BK296.out 1).trans rfl, ((HB.out.cell (World.block_lt_of_cell? w _ hw297_0)).trans hw297_0), ((HB.out.cell (World.block_lt_of_cell? w _ hw297_1)).trans hw297_1), ((HB.out.cell (World.block_lt_of_cell? w _ hw297_2)).trans hw297_2), ((HB.out.cell (World.block_lt_of_cell? w _ hw297_3)).trans hw297_3), ((HB.out.cell (World.block_lt_of_cell? w _ hw303_0)).trans hw303_0), ((HB.out.cell (World.block_lt_of_cell? w _ hw303_1)).trans hw303_1), ((HB.out.cell (World.block_lt_of_cell? w _ hw303_2)).trans hw303_2), ((HB.out.cell (World.block_lt_of_cell? w _ hw303_3)).trans hw303_3)⟩ (fun hHeld => ?_)
        clear hK K
        refine norm_ (a' := ?_) ?_ ?_
        rotate_left
        ·show Act.put _ (some 16) _ = _
         simp only [Act.put, List.setIfInBounds_toArray, List.set_cons_zero, List.set_cons_succ, i64_w, i32_w]
         rfl
        refine pure_ (i := 6) (N := some 17) (v := ?_) (a' := ?_) #[true, true, true, true, true, true, true, false, false, false, false, false, false, false, false, false, false, false, false, false] rfl rfl (any_of HT_.out (by kernel_rfl)) (fun _ _ _ h => h) (Or.inl ⟨by rfl, ?_⟩) ?_ ?_
        rotate_left
        ·intro w'
         go_simp
         with_reducible rfl
        rotate_left
        ·simp only [Act.put, List.setIfInBounds_toArray, List.set_cons_zero, List.set_cons_succ, i64_w, i32_w]
         rfl
        refine pure_ (i := 7) (N := some 18) (v := ?_) (a' := ?_) #[true, true, true, true, true, true, true, true, false, false, false, false, false, false, false, false, false, false, false, false] rfl rfl (any_of HT_.out (by kernel_rfl)) (fun _ _ _ h => h) (Or.inl ⟨by rfl, ?_⟩) ?_ ?_
        rotate_left
        ·intro w'
         go_simp
         with_reducible rfl
        rotate_left
        ·simp only [Act.put, List.setIfInBounds_toArray, List.set_cons_zero, List.set_cons_succ, i64_w, i32_w]
         rfl
        refine pure_ (i := 8) (N := some 19) (v := ?_) (a' := ?_) #[true, true, true, true, true, true, true, true, true, false, false, false, false, false, false, false, false, false, false, false] rfl rfl (any_of HT_.out (by kernel_rfl)) (fun _ _ _ h => h) (Or.inl ⟨by rfl, ?_⟩) ?_ ?_
        rotate_left
        ·intro w'
         go_simp
         with_reducible rfl
        rotate_left
        ·simp only [Act.put, List.setIfInBounds_toArray, List.set_cons_zero, List.set_cons_succ, i64_w, i32_w]
         rfl
        refine pure_ (i := 10) (N := some 21) (v := ?_) (a' := ?_) #[true, true, true, true, true, true, true, true, true, false, true, false, false, false, false, false, false, false, false, false] rfl rfl (any_of HT_.out (by kernel_rfl)) (fun _ _ _ h => h) (Or.inl ⟨by rfl, ?_⟩) ?_ ?_
        rotate_left
        ·intro w'
         go_simp
         with_reducible rfl
        rotate_left
        ·simp only [Act.put, List.setIfInBounds_toArray, List.set_cons_zero, List.set_cons_succ, i64_w, i32_w]
         rfl
        refine pure_ (i := 12) (N := some 23) (v := ?_) (a' := ?_) #[true, true, true, true, true, true, true, true, true, false, true, false, true, false, false, false, false, false, false, false] rfl rfl (any_of HT_.out (by kernel_rfl)) (fun _ _ _ h => h) (Or.inl ⟨by rfl, ?_⟩) ?_ ?_
        rotate_left
        ·intro w'
         go_simp
         with_reducible rfl
        rotate_left
        ·simp only [Act.put, List.setIfInBounds_toArray, List.set_cons_zero, List.set_cons_succ, i64_w, i32_w]
         rfl
        refine pure_ (i := 14) (N := some 25) (v := ?_) (a' := ?_) #[true, true, true, true, true, true, true, true, true, false, true, false, true, false, true, false, false, false, false, false] rfl rfl (any_of HT_.out (by kernel_rfl)) (fun _ _ _ h => h) (Or.inl ⟨by rfl, ?_⟩) ?_ ?_
        rotate_left
        ·intro w'
         go_simp
         with_reducible rfl
        rotate_left
        ·simp only [Act.put, List.setIfInBounds_toArray, List.set_cons_zero, List.set_cons_succ, i64_w, i32_w]
         rfl
        refine take_ (i := 9) (N := some 20) (v := ?_) (a' := ?_) #[true, true, true, true, true, true, true, true, true, true, true, false, true, false, true, false, false, false, false, false] rfl rfl (take_ofW HT_.out HW_.out (by kernel_rfl)) (fun _ _ _ h => h) (Or.inl ⟨by rfl, ?_⟩) hHeld ?_ ?_
        rotate_left
        ·rintro w' ⟨s0, s1, s2, s3, s4, s5, s6, s7, s8, s9⟩
         go_simp
         with_reducible rfl
        rotate_left
        ·simp only [Act.put, List.setIfInBounds_toArray, List.set_cons_zero, List.set_cons_succ, i64_w, i32_w]
         rfl
        refine pure_ (i := 11) (N := some 22) (v := ?_) (a' := ?_) #[true, true, true, true, true, true, true, true, true, true, true, true, true, false, true, false, false, false, false, false] rfl rfl (any_of HT_.out (by kernel_rfl)) (fun _ _ _ h => h) (Or.inl ⟨by rfl, ?_⟩) ?_ ?_
        rotate_left
        ·intro w'
         go_simp
         with_reducible rfl
        rotate_left
        ·simp only [Act.put, List.setIfInBounds_toArray, List.set_cons_zero, List.set_cons_succ, i64_w, i32_w]
         rfl
        refine take_ (i := 13) (N := some 24) (v := ?_) (a' := ?_) #[true, true, true, true, true, true, true, true, true, true, true, true, true, true, true, false, false, false, false, false] rfl rfl (take_ofW HT_.out HW_.out (by kernel_rfl)) (fun _ _ _ h => h) (Or.inl ⟨by rfl, ?_⟩) hHeld ?_ ?_
        rotate_left
        ·rintro w' ⟨s0, s1, s2, s3, s4, s5, s6, s7, s8, s9⟩
         go_simp
         with_reducible rfl
        rotate_left
        ·simp only [Act.put, List.setIfInBounds_toArray, List.set_cons_zero, List.set_cons_succ, i64_w, i32_w]
         rfl
        refine pure_ (i := 15) (N := some 26) (v := ?_) (a' := ?_) #[true, true, true, true, true, true, true, true, true, true, true, true, true, true, true, true, false, false, false, false] rfl rfl (any_of HT_.out (by kernel_rfl)) (fun _ _ _ h => h) (Or.inl ⟨by rfl, ?_⟩) ?_ ?_
        rotate_left
        ·intro w'
         go_simp
         with_reducible rfl
        rotate_left
        ·simp only [Act.put, List.setIfInBounds_toArray, List.set_cons_zero, List.set_cons_succ, i64_w, i32_w]
         rfl
        refine pure_ (i := 16) (N := some 27) (v := ?_) (a' := ?_) #[true, true, true, true, true, true, true, true, true, true, true, true, true, true, true, true, true, false, false, false] rfl rfl (any_of HT_.out (by kernel_rfl)) (fun _ _ _ h => h) (Or.inl ⟨by rfl, ?_⟩) ?_ ?_
        rotate_left
        ·intro w'
         go_simp
         with_reducible rfl
        rotate_left
        ·simp only [Act.put, List.setIfInBounds_toArray, List.set_cons_zero, List.set_cons_succ, i64_w, i32_w]
         rfl
        refine take_ (i := 17) (N := some 28) (v := ?_) (a' := ?_) #[true, true, true, true, true, true, true, true, true, true, true, true, true, true, true, true, true, true, false, false] rfl rfl (take_ofW HT_.out HW_.out (by kernel_rfl)) (fun _ _ _ h => h) (Or.inl ⟨by rfl, ?_⟩) hHeld ?_ ?_
        rotate_left
        ·rintro w' ⟨s0, s1, s2, s3, s4, s5, s6, s7, s8, s9⟩
         go_simp
         with_reducible rfl
        rotate_left
        ·simp only [Act.put, List.setIfInBounds_toArray, List.set_cons_zero, List.set_cons_succ, i64_w, i32_w]
         rfl
        refine one_ (i := 18) (N := some 29) #[true, true, true, true, true, true, true, true, true, true, true, true, true, true, true, true, true, true, true, false] rfl rfl (one_of HT_.out (by kernel_rfl)) (by decide) (fun K hK => ?_)
        refine goes_ Try.func65 (by kernel_rfl) rfl #[.slice (some ad297) y299.length c0_0, .string ((rd_T55 l0_0 x3_1).f0)] (by rfl) rfl rfl (by (try simp only [List.map_toArray, List.map_cons, List.map_nil]); first | done | rfl | (simp only [List.length_drop, List.length_take]; rfl)) ?_
        with_reducible refine (arlinkref06_has.calls k1 _ _ y299 ((rd_T55 l0_0 x3_1).f0) false _ ?side1 ?side2 A9.out).mono ?_
        (case side1 => repeat (first | exact (Kd.C_below HR302.out HB.out) | (with_reducible refine Kd.C_alloc ?_ _) | (with_reducible refine Kd.C_drewN ?_ _) | (with_reducible refine Kd.C_drew ?_)))
        (case side2 => exact HC302.out)
        rintro e w' ⟨rfl, ⟨nd, rfl⟩⟩
        refine ⟨_, rfl, ?_⟩
        refine hK.out _ _ ⟨(blk_cell BK296.out 0).trans rfl, (blk_cell BK296.out 1).trans rfl, ((HB.out.cell (World.block_lt_of_cell? w _ hw297_0)).trans hw297_0), ((HB.out.cell (World.block_lt_of_cell? w _ hw297_1)).trans hw297_1), ((HB.out.cell (World.block_lt_of_cell? w _ hw297_2)).trans hw297_2), ((HB.out.cell (World.block_lt_of_cell? w _ hw297_3)).trans hw297_3), ((HB.out.cell (World.block_lt_of_cell? w _ hw303_0)).trans hw303_0), ((HB.out.cell (World.block_lt_of_cell? w _ hw303_1)).trans hw303_1), ((HB.out.cell (World.block_lt_of_cell? w _ hw303_2)).trans hw303_2), ((HB.out.cell (World.block_lt_of_cell? w _ hw303_3)).trans hw303_3)⟩ (fun hHeld => ?_)
        clear hK K
        refine norm_ (a' := ?_) ?_ ?_
        rotate_left
        ·show Act.put _ (some 29) _ = _
         simp only [Act.put, List.setIfInBounds_toArray, List.set_cons_zero, List.set_cons_succ, i64_w, i32_w]
         rfl
        refine pure_ (i := 19) (N := some 30) (v := ?_) (a' := ?_) #[true, true, true, true, true, true, true, true, true, true, true, true, true, true, true, true, true, true, true, true] rfl rfl (any_of HT_.out (by kernel_rfl)) (fun _ _ _ h => h) (Or.inl ⟨by rfl, ?_⟩) ?_ ?_
        rotate_left
        ·intro w'
         go_simp
         with_reducible rfl
        rotate_left
        ·simp only [Act.put, List.setIfInBounds_toArray, List.set_cons_zero, List.set_cons_succ, i64_w, i32_w]
         rfl
        refine done_ (done_of HT_.out (by kernel_rfl)) ?_
        try go_wp2
        go_roundg k1
        case measure => have := HK1.out; omega
        case rel => exact ⟨(wrap64 (x3_1 + 1)), (by first | rfl | (simp; done) | (simp [*]; done)), H', ⟨by have := HK1.out; omega⟩, ⟨by (with_reducible repeat (first | refine blk_drewN ?_ _ | refine blk_drew ?_ | refine blk_alloc ?_ _)); exact BK296.out⟩, ⟨by repeat (first | (with_reducible first | exact HB.out | apply below_alloc | apply pw_below_drewN | apply below_drew1 | refine below_set ?_ GE296.out) | exact HB.out)⟩⟩
      ·rw [if_neg c8] at H
       exact absurd H (by simp)
     ·replace c6 := Bool.eq_false_iff.mpr c6
      subst c6
      have H1 : (some false) = some r := by rw [if_neg (show ¬ (false = true) by decide)] at H; exact H
      clear H
      have H := H1
      clear H1
      obtain rfl := Option.some.inj H
      have hcz19_0 : wr.cell? ⟨gb296, 0, none⟩ = some (.slice A0_0 l0_0.length c0_0) := (blk_cell BK296.out 0).trans rfl
      have hcz19_1 : wr.cell? ⟨gb296, 1, none⟩ = some (.slice A0_1 l0_1.length c0_1) := (blk_cell BK296.out 1).trans rfl
      have hfz19_0 := blk_frozen BK296.out 0
      have hfz19_1 := blk_frozen BK296.out 1
      try go_wp2
      have n0_ := Aside0.mk (blk_drew BK296.out)
      have n1_ := Aside0.mk (below_drew1 HB.out)
      clear BK296
      clear HB
      have BK296 := n0_
      have HB := n1_
      clear n0_ n1_
      have p297 : 0 ≤ (x3_1 : Int) := of_decide_eq_true (by first | (with_reducible assumption) | assumption)
      have q297 : x3_1 < (l0_0.length : Int) := of_decide_eq_true (by first | (with_reducible assumption) | assumption)
      obtain ⟨ad297, e297, hx297_0, hx297_1, hx297_2, hx297_3⟩ := at_T55 HR0_0.out x3_1 p297 q297
      have hw297_3 := hx297_3
      have hw297_2 := hx297_2
      have hw297_1 := hx297_1
      have hw297_0 := hx297_0
      cases e297
      replace hx297_0 := (HB.out.cell (World.block_lt_of_cell? w _ hx297_0)).trans hx297_0
      replace hx297_1 := (HB.out.cell (World.block_lt_of_cell? w _ hx297_1)).trans hx297_1
      replace hx297_2 := (HB.out.cell (World.block_lt_of_cell? w _ hx297_2)).trans hx297_2
      replace hx297_3 := (HB.out.cell (World.block_lt_of_cell? w _ hx297_3)).trans hx297_3
      replace p297 := eq_true p297
      replace q297 := eq_true q297
      refine start_ (n := 20) (S := fun w' => w'.cell? ⟨gb296, 0, none⟩ = some (.slice (some ad297) l0_0.length c0_0) ∧ w'.cell? ⟨gb296, 1, none⟩ = some (.slice A0_1 l0_1.length c0_1) ∧ w'.cell? (ad297.add ((x3_1).toNat * 4)) = some (.string ((rd_T55 l0_0 x3_1).f0)) ∧ w'.cell? ⟨(ad297.add ((x3_1).toNat * 4)).block, (ad297.add ((x3_1).toNat * 4)).off + 1, none⟩ = some (.int .i64 ((rd_T55 l0_0 x3_1).f1)) ∧ w'.cell? ⟨(ad297.add ((x3_1).toNat * 4)).block, (ad297.add ((x3_1).toNat * 4)).off + 2, none⟩ = some (.int .i64 ((rd_T55 l0_0 x3_1).f2)) ∧ w'.cell? ⟨(ad297.add ((x3_1).toNat * 4)).block, (ad297.add ((x3_1).toNat * 4)).off + 3, none⟩ = some (.int .i64 ((rd_T55 l0_0 x3_1).f3))) (ds := []) #[false, false, false, false, false, false, false, false, false, false, false, false, false, false, false, false, false, false, false, false] (by kernel_rfl) rfl rfl ⟨(blk_cell BK296.out 0).trans rfl, (blk_cell BK296.out 1).trans rfl, ((HB.out.cell (World.block_lt_of_cell? w _ hw297_0)).trans hw297_0), ((HB.out.cell (World.block_lt_of_cell? w _ hw297_1)).trans hw297_1), ((HB.out.cell (World.block_lt_of_cell? w _ hw297_2)).trans hw297_2), ((HB.out.cell (World.block_lt_of_cell? w _ hw297_3)).trans hw297_3)⟩ (fun hHeld => ?_); refine with_tabW arlinkref06_Valid.tab4 arlinkref06_Valid.bits4 (fun HT_ HW_ => ?_)
      generalize wr.drew = w20 at BK296 HB hx297_0 hx297_1 hx297_2 hx297_3 hHeld ⊢
      refine pure_ (i := 0) (N := some 11) (v := ?_) (a' := ?_) #[true, false, false, false, false, false, false, false, false, false, false, false, false, false, false, false, false, false, false, false] rfl rfl (any_of HT_.out (by kernel_rfl)) (fun _ _ _ h => h) (Or.inl ⟨by rfl, ?_⟩) ?_ ?_
      rotate_left
      ·intro w'
       go_simp
       with_reducible rfl
      rotate_left
      ·simp only [Act.put, List.setIfInBounds_toArray, List.set_cons_zero, List.set_cons_succ, i64_w, i32_w]
       rfl
      refine pure_ (i := 2) (N := some 13) (v := ?_) (a' := ?_) #[true, false, true, false, false, false, false, false, false, false, false, false, false, false, false, false, false, false, false, false] rfl rfl (any_of HT_.out (by kernel_rfl)) (fun _ _ _ h => h) (Or.inl ⟨by rfl, ?_⟩) ?_ ?_
      rotate_left
      ·intro w'
       go_simp
       with_reducible rfl
      rotate_left
      ·simp only [Act.put, List.setIfInBounds_toArray, List.set_cons_zero, List.set_cons_succ, i64_w, i32_w]
       rfl
      refine take_ (i := 1) (N := some 12) (v := ?_) (a' := ?_) #[true, true, true, false, false, false, false, false, false, false, false, false, false, false, false, false, false, false, false, false] rfl rfl (take_ofW HT_.out HW_.out (by kernel_rfl)) (fun _ _ _ h => h) (Or.inl ⟨by rfl, ?_⟩) hHeld ?_ ?_
      rotate_left
      ·rintro w' ⟨s0, s1, s2, s3, s4, s5⟩
       go_simp
       with_reducible rfl
      rotate_left
      ·simp only [Act.put, List.setIfInBounds_toArray, List.set_cons_zero, List.set_cons_succ, i64_w, i32_w]
       rfl
      refine pure_ (i := 3) (N := some 14) (v := ?_) (a' := ?_) #[true, true, true, true, false, false, false, false, false, false, false, false, false, false, false, false, false, false, false, false] rfl rfl (any_of HT_.out (by kernel_rfl)) (fun _ _ _ h => h) (Or.inl ⟨by rfl, ?_⟩) ?_ ?_
      rotate_left
      ·intro w'
       go_simp
       with_reducible rfl
      rotate_left
      ·simp only [Act.put, List.setIfInBounds_toArray, List.set_cons_zero, List.set_cons_succ, i64_w, i32_w]
       rfl
      refine take_ (i := 4) (N := some 15) (v := ?_) (a' := ?_) #[true, true, true, true, true, false, false, false, false, false, false, false, false, false, false, false, false, false, false, false] rfl rfl (take_ofW HT_.out HW_.out (by kernel_rfl)) (fun _ _ _ h => h) (Or.inl ⟨by rfl, ?_⟩) hHeld ?_ ?_
      rotate_left
      ·rintro w' ⟨s0, s1, s2, s3, s4, s5⟩
       go_simp
       with_reducible rfl
      rotate_left
      ·simp only [Act.put, List.setIfInBounds_toArray, List.set_cons_zero, List.set_cons_succ, i64_w, i32_w]
       rfl
      refine one_ (i := 5) (N := some 16) #[true, true, true, true, true, true, false, false, false, false, false, false, false, false, false, false, false, false, false, false] rfl rfl (one_of HT_.out (by kernel_rfl)) (by decide) (fun K hK => ?_)
      refine goes_ Try.func64 (by kernel_rfl) rfl #[.agg #[.string ((rd_T55 l0_0 x3_1).f0), .int .i64 ((rd_T55 l0_0 x3_1).f1), .int .i64 ((rd_T55 l0_0 x3_1).f2), .int .i64 ((rd_T55 l0_0 x3_1).f3)]] (by rfl) rfl rfl (by (try simp only [List.map_toArray, List.map_cons, List.map_nil]); first | done | rfl | (simp only [List.length_drop, List.length_take]; rfl)) ?_
      with_reducible refine (arlinkref06_Sym.calls k1 ((rd_T55 l0_0 x3_1).f0) ((rd_T55 l0_0 x3_1).f1) ((rd_T55 l0_0 x3_1).f2) ((rd_T55 l0_0 x3_1).f3) false _ A5.out).mono ?_
      rintro e w21 ⟨rfl, hb⟩
      refine ⟨_, rfl, ?_⟩
      have n0_ := Aside0.mk (blk_below (g := gb296) (o := .cells #[.slice (some ad297) l0_0.length c0_0, .slice A0_1 l0_1.length c0_1] 50 (0, 0)) (by (with_reducible repeat (first | refine blk_drewN ?_ _ | refine blk_drew ?_ | refine blk_alloc ?_ _)); exact BK296.out) hb)
      have n1_ := Aside0.mk (below_step (by repeat (first | (with_reducible first | exact HB.out | apply below_alloc | apply pw_below_drewN | apply below_drew1 | refine below_set ?_ GE296.out) | exact HB.out)) hb)
      clear BK296
      clear HB
      have BK296 := n0_
      have HB := n1_
      clear n0_ n1_
      (try clear hb)
      (try clear hb2)
      (try clear hk)
      (try clear hi)
      refine hK.out _ _ ⟨(blk_cell BK296.out 0).trans rfl, (blk_cell BK296.out 1).trans rfl, ((HB.out.cell (World.block_lt_of_cell? w _ hw297_0)).trans hw297_0), ((HB.out.cell (World.block_lt_of_cell? w _ hw297_1)).trans hw297_1), ((HB.out.cell (World.block_lt_of_cell? w _ hw297_2)).trans hw297_2), ((HB.out.cell (World.block_lt_of_cell? w _ hw297_3)).trans hw297_3)⟩ (fun hHeld => ?_)
      clear hK K
      refine norm_ (a' := ?_) ?_ ?_
      rotate_left
      ·show Act.put _ (some 16) _ = _
       simp only [Act.put, List.setIfInBounds_toArray, List.set_cons_zero, List.set_cons_succ, i64_w, i32_w]
       rfl
      refine pure_ (i := 6) (N := some 17) (v := ?_) (a' := ?_) #[true, true, true, true, true, true, true, false, false, false, false, false, false, false, false, false, false, false, false, false] rfl rfl (any_of HT_.out (by kernel_rfl)) (fun _ _ _ h => h) (Or.inl ⟨by rfl, ?_⟩) ?_ ?_
      rotate_left
      ·intro w'
       go_simp
       with_reducible rfl
      rotate_left
      ·simp only [Act.put, List.setIfInBounds_toArray, List.set_cons_zero, List.set_cons_succ, i64_w, i32_w]
       rfl
      refine pure_ (i := 7) (N := some 18) (v := ?_) (a' := ?_) #[true, true, true, true, true, true, true, true, false, false, false, false, false, false, false, false, false, false, false, false] rfl rfl (any_of HT_.out (by kernel_rfl)) (fun _ _ _ h => h) (Or.inl ⟨by rfl, ?_⟩) ?_ ?_
      rotate_left
      ·intro w'
       go_simp
       with_reducible rfl
      rotate_left
      ·simp only [Act.put, List.setIfInBounds_toArray, List.set_cons_zero, List.set_cons_succ, i64_w, i32_w]
       rfl
      refine pure_ (i := 8) (N := some 19) (v := undef) (a' := ?_) #[true, true, true, true, true, true, true, true, true, false, false, false, false, false, false, false, false, false, false, false] rfl rfl (any_of HT_.out (by kernel_rfl)) (fun _ _ _ h => h) (Or.inr ⟨by rfl, rfl⟩) ?_ ?_
      rotate_left
      ·simp only [Act.put, List.setIfInBounds_toArray, List.set_cons_zero, List.set_cons_succ, i64_w, i32_w]
       rfl
      refine pure_ (i := 9) (N := some 20) (v := undef) (a' := ?_) #[true, true, true, true, true, true, true, true, true, true, false, false, false, false, false, false, false, false, false, false] rfl rfl (any_of HT_.out (by kernel_rfl)) (fun _ _ _ h => h) (Or.inr ⟨by rfl, rfl⟩) ?_ ?_
      rotate_left
      ·simp only [Act.put, List.setIfInBounds_toArray, List.set_cons_zero, List.set_cons_succ, i64_w, i32_w]
       rfl
      refine pure_ (i := 10) (N := some 21) (v := undef) (a' := ?_) #[true, true, true, true, true, true, true, true, true, true, true, false, false, false, false, false, false, false, false, false] rfl rfl (any_of HT_.out (by kernel_rfl)) (fun _ _ _ h => h) (Or.inr ⟨by rfl, rfl⟩) ?_ ?_
      rotate_left
      ·simp only [Act.put, List.setIfInBounds_toArray, List.set_cons_zero, List.set_cons_succ, i64_w, i32_w]
       rfl
      refine pure_ (i := 11) (N := some 22) (v := undef) (a' := ?_) #[true, true, true, true, true, true, true, true, true, true, true, true, false, false, false, false, false, false, false, false] rfl rfl (any_of HT_.out (by kernel_rfl)) (fun _ _ _ h => h) (Or.inr ⟨by rfl, rfl⟩) ?_ ?_
      rotate_left
      ·simp only [Act.put, List.setIfInBounds_toArray, List.set_cons_zero, List.set_cons_succ, i64_w, i32_w]
       rfl
      refine pure_ (i := 12) (N := some 23) (v := undef) (a' := ?_) #[true, true, true, true, true, true, true, true, true, true, true, true, true, false, false, false, false, false, false, false] rfl rfl (any_of HT_.out (by kernel_rfl)) (fun _ _ _ h => h) (Or.inr ⟨by rfl, rfl⟩) ?_ ?_
      rotate_left
      ·simp only [Act.put, List.setIfInBounds_toArray, List.set_cons_zero, List.set_cons_succ, i64_w, i32_w]
       rfl
      refine pure_ (i := 13) (N := some 24) (v := undef) (a' := ?_) #[true, true, true, true, true, true, true, true, true, true, true, true, true, true, false, false, false, false, false, false] rfl rfl (any_of HT_.out (by kernel_rfl)) (fun _ _ _ h => h) (Or.inr ⟨by rfl, rfl⟩) ?_ ?_
      rotate_left
      ·simp only [Act.put, List.setIfInBounds_toArray, List.set_cons_zero, List.set_cons_succ, i64_w, i32_w]
       rfl
      refine pure_ (i := 14) (N := some 25) (v := undef) (a' := ?_) #[true, true, true, true, true, true, true, true, true, true, true, true, true, true, true, false, false, false, false, false] rfl rfl (any_of HT_.out (by kernel_rfl)) (fun _ _ _ h => h) (Or.inr ⟨by rfl, rfl⟩) ?_ ?_
      rotate_left
      ·simp only [Act.put, List.setIfInBounds_toArray, List.set_cons_zero, List.set_cons_succ, i64_w, i32_w]
       rfl
      refine pure_ (i := 15) (N := some 26) (v := undef) (a' := ?_) #[true, true, true, true, true, true, true, true, true, true, true, true, true, true, true, true, false, false, false, false] rfl rfl (any_of HT_.out (by kernel_rfl)) (fun _ _ _ h => h) (Or.inr ⟨by rfl, rfl⟩) ?_ ?_
      rotate_left
      ·simp only [Act.put, List.setIfInBounds_toArray, List.set_cons_zero, List.set_cons_succ, i64_w, i32_w]
       rfl
      refine pure_ (i := 16) (N := some 27) (v := undef) (a' := ?_) #[true, true, true, true, true, true, true, true, true, true, true, true, true, true, true, true, true, false, false, false] rfl rfl (any_of HT_.out (by kernel_rfl)) (fun _ _ _ h => h) (Or.inr ⟨by rfl, rfl⟩) ?_ ?_
      rotate_left
      ·simp only [Act.put, List.setIfInBounds_toArray, List.set_cons_zero, List.set_cons_succ, i64_w, i32_w]
       rfl
      refine pure_ (i := 17) (N := some 28) (v := undef) (a' := ?_) #[true, true, true, true, true, true, true, true, true, true, true, true, true, true, true, true, true, true, false, false] rfl rfl (any_of HT_.out (by kernel_rfl)) (fun _ _ _ h => h) (Or.inr ⟨by rfl, rfl⟩) ?_ ?_
      rotate_left
      ·simp only [Act.put, List.setIfInBounds_toArray, List.set_cons_zero, List.set_cons_succ, i64_w, i32_w]
       rfl
      refine pure_ (i := 18) (N := some 29) (v := undef) (a' := ?_) #[true, true, true, true, true, true, true, true, true, true, true, true, true, true, true, true, true, true, true, false] rfl rfl (any_of HT_.out (by kernel_rfl)) (fun _ _ _ h => h) (Or.inr ⟨by rfl, rfl⟩) ?_ ?_
      rotate_left
      ·simp only [Act.put, List.setIfInBounds_toArray, List.set_cons_zero, List.set_cons_succ, i64_w, i32_w]
       rfl
      refine pure_ (i := 19) (N := some 30) (v := ?_) (a' := ?_) #[true, true, true, true, true, true, true, true, true, true, true, true, true, true, true, true, true, true, true, true] rfl rfl (any_of HT_.out (by kernel_rfl)) (fun _ _ _ h => h) (Or.inl ⟨by rfl, ?_⟩) ?_ ?_
      rotate_left
      ·intro w'
       go_simp
       with_reducible rfl
      rotate_left
      ·simp only [Act.put, List.setIfInBounds_toArray, List.set_cons_zero, List.set_cons_succ, i64_w, i32_w]
       rfl
      refine done_ (done_of HT_.out (by kernel_rfl)) ?_
      try go_wp2
      go_ret
      exact ⟨by first | rfl | (simp [errW_none, errW_some] <;> rfl) | (simp [*, errW_none, errW_some] <;> rfl), by repeat (first | (with_reducible first | exact HB.out | apply below_alloc | apply pw_below_drewN | apply below_drew1 | refine below_set ?_ GE296.out) | exact HB.out)⟩
    ·rw [if_neg c4] at H
     exact absurd H (by simp)
   ·rw [if_neg c3] at H
    have c3b0 : decide (x3_1 < (l0_0.length : Int)) = false := decide_eq_false c3
    clear c3
    obtain rfl := Option.some.inj H
    have hcz22_0 : wr.cell? ⟨gb296, 0, none⟩ = some (.slice A0_0 l0_0.length c0_0) := (blk_cell BK296.out 0).trans rfl
    have hcz22_1 : wr.cell? ⟨gb296, 1, none⟩ = some (.slice A0_1 l0_1.length c0_1) := (blk_cell BK296.out 1).trans rfl
    have hfz22_0 := blk_frozen BK296.out 0
    have hfz22_1 := blk_frozen BK296.out 1
    go_wp2
    go_ret
    exact ⟨by first | rfl | (simp [errW_none, errW_some] <;> rfl) | (simp [*, errW_none, errW_some] <;> rfl), by repeat (first | (with_reducible first | exact HB.out | apply below_alloc | apply pw_below_drewN | apply below_drew1 | refine below_set ?_ GE296.out) | exact HB.out)⟩
end Go.Proofs.Ythpjpkcfepmhkaa.PAll
namespace Go.Proofs.Ythpjpkcfepmhkaa.PAll
open Go.RowKit Go.Proofs.YthpjpkcfepmhkaaW.PrintWords Go.Proofs.YthpjpkcfepmhkaaW.PrintLast Go.Proofs.YthpjpkcfepmhkaaW.PrintMore
attribute [local go_sem] max2_int min2_int max_two min_two max_three min_three max_four min_four   -- for this text's walks alone
set_option linter.unusedVariables false
set_option linter.unusedSimpArgs false
def arlinkref14_Right.l0 : Nat → List (S50) → Int → Option (Bool)
 | 0, _, _ => none
 | k + 1, x0, x3 => if x3 < (x0.length : Int) then (if 0 ≤ x3 then (if (((rd_T50 x0 x3).f0).length : Int) > 20 then (some false) else ((arlinkref06_Few.f k ((rd_T50 x0 x3).f0) ((rd_T50 x0 x3).f1)).bind fun t307 => (if t307 = true then ((arlinkref06_Valid.f k ((rd_T50 x0 x3).f0) ((rd_T50 x0 x3).f1)).bind fun t309 => (if t309 = true then (arlinkref14_Right.l0 k x0 (wrap64 (x3 + 1))) else (some false))) else (some false)))) else (none)) else (some true)
def arlinkref14_Right.f (k : Nat) (l0 : List (S50)) : Option (Bool) := if (l0.length : Int) > 12 then (some false) else (arlinkref14_Right.l0 k l0 0)
theorem arlinkref14_Right.mono_l : ∀ k, (∀ y0 y1, LeO (arlinkref14_Right.l0 k y0 y1) (arlinkref14_Right.l0 (k + 1) y0 y1))
 | 0 => fun _ _ r h => by simp [arlinkref14_Right.l0] at h
 | k + 1 => by
  have ih0 := arlinkref14_Right.mono_l k
  ·intro y0 y1
   unfold arlinkref14_Right.l0
   repeat' first
   | (with_reducible exact ih0 _ _)
   | (with_reducible exact arlinkref06_Few.mono _ _ _)
   | (with_reducible exact arlinkref06_Valid.mono _ _ _)
   | (with_reducible exact LeO.refl _)
   | (with_reducible exact LeO.none _)
   | (with_reducible refine LeO.ite ?_ ?_)
   | (with_reducible refine LeO.bind ?_ (fun _ => ?_))
   | exact ih0 _ _
   | exact arlinkref06_Few.mono _ _ _
   | exact arlinkref06_Valid.mono _ _ _
   | exact LeO.none _
   | refine LeO.ite ?_ ?_
   | refine LeO.bind ?_ (fun _ => ?_)
theorem arlinkref14_Right.mono : ∀ a0 k, LeO (arlinkref14_Right.f k a0) (arlinkref14_Right.f (k + 1) a0) := by
 intro a0 k
 have ih0 := arlinkref14_Right.mono_l k
 unfold arlinkref14_Right.f
 repeat' first
   | (with_reducible exact ih0 _ _)
   | (with_reducible exact arlinkref06_Few.mono _ _ _)
   | (with_reducible exact arlinkref06_Valid.mono _ _ _)
   | (with_reducible exact LeO.refl _)
   | (with_reducible exact LeO.none _)
   | (with_reducible refine LeO.ite ?_ ?_)
   | (with_reducible refine LeO.bind ?_ (fun _ => ?_))
   | exact ih0 _ _
   | exact arlinkref06_Few.mono _ _ _
   | exact arlinkref06_Valid.mono _ _ _
   | exact LeO.none _
   | refine LeO.ite ?_ ?_
   | refine LeO.bind ?_ (fun _ => ?_)
set_option maxHeartbeats 8000000 in
set_option maxRecDepth 100000 in
theorem arlinkref14_Right.calls (k : Nat) (A0 : Option Addr) (c0 : Nat) (l0 : List (S50)) (r : Bool) (w : World) (hr0 : Kd.C k50 w A0 l0.length l0) (hc0 : l0.length ≤ c0) (h : arlinkref14_Right.f k l0 = some r) :
  Calls Try.prog 23 #[.slice A0 l0.length c0] w fun e w' => e = .returned (.bool r) ∧ Below w.heap.size w w' := by
 have hu50 := Try.underlying50
 have HR0 := Aside0.mk hr0
 have HC0 := Aside0.mk hc0
 clear hr0 hc0
 have HB := Aside0.mk (Below.refl w.heap.size w)
 have H : (if (l0.length : Int) > 12 then (some false) else (arlinkref14_Right.l0 k l0 0)) = some r := h
 clear h
 by_cases c2 : (l0.length : Int) > 12
 ·rw [if_pos c2] at H
  have c2b0 : decide (12 < (l0.length : Int)) = true := decide_eq_true c2
  have c2b1 : decide (12 < l0.length) = true := decide_eq_true (by omega)
  clear c2
  obtain rfl := Option.some.inj H
  go_enter Try.func23, Try.ntmps23
  go_wp2
  go_ret
  exact ⟨by first | rfl | (simp [errW_none, errW_some] <;> rfl) | (simp [*, errW_none, errW_some] <;> rfl), by repeat (first | (with_reducible first | exact HB.out | apply below_alloc | apply pw_below_drewN | apply below_drew1) | exact HB.out)⟩
 ·rw [if_neg c2] at H
  have c2b0 : decide (12 < (l0.length : Int)) = false := decide_eq_false c2
  have c2b1 : decide (12 < l0.length) = false := decide_eq_false (by omega)
  clear c2
  have H' := Aside0.mk H
  clear H
  go_enter Try.func23, Try.ntmps23
  go_wp2
  go_loopg [3] k (fun kq v3 w' => ∃ (x3_1 : Int), v3 = .int .i64 x3_1 ∧ Aside0 (arlinkref14_Right.l0 kq l0 x3_1 = some r) ∧ Aside0 (kq ≤ k) ∧ Aside0 (Below w.heap.size w w'))
  case atStart => exact ⟨(0), (by first | rfl | (simp; done) | (simp [*]; done)), H', ⟨Nat.le_refl _⟩, ⟨by repeat (first | (with_reducible first | exact HB.out | apply below_alloc | apply pw_below_drewN | apply below_drew1) | exact HB.out)⟩⟩
  case round =>
   clear H'
   try clear c2
   try clear c2b0
   try clear c2b1
   try clear p2
   obtain ⟨x3_1, rfl, HA, HK1, HB⟩ := hrel
   cases gk with
   | zero => exact absurd HA.out (by simp [arlinkref14_Right.l0])
   | succ k1 =>
    have H := HA.out
    clear HA
    simp only [arlinkref14_Right.l0] at H
    by_cases c3 : x3_1 < (l0.length : Int)
    ·rw [if_pos c3] at H
     have c3b0 : decide (x3_1 < (l0.length : Int)) = true := decide_eq_true c3
     clear c3
     by_cases c4 : 0 ≤ x3_1
     ·rw [if_pos c4] at H
      have c4b0 : decide (0 ≤ x3_1) = true := decide_eq_true c4
      clear c4
      by_cases c5 : (((rd_T50 l0 x3_1).f0).length : Int) > 20
      ·rw [if_pos c5] at H
       have c5b0 : decide (20 < (((rd_T50 l0 x3_1).f0).length : Int)) = true := decide_eq_true c5
       have c5b1 : decide (20 < ((rd_T50 l0 x3_1).f0).length) = true := decide_eq_true (by omega)
       clear c5
       obtain rfl := Option.some.inj H
       have p305 : 0 ≤ (x3_1 : Int) := of_decide_eq_true (by first | (with_reducible assumption) | assumption)
       have q305 : x3_1 < (l0.length : Int) := of_decide_eq_true (by first | (with_reducible assumption) | assumption)
       obtain ⟨ad305, A305_0, c305_0, A305_1, c305_1, e305, hx305_0, hx305_1, hl305_0, hi305_0, hl305_1, hi305_1⟩ := at_T50 HR0.out x3_1 p305 q305
       cases e305
       replace hx305_0 := (HB.out.cell (World.block_lt_of_cell? w _ hx305_0)).trans hx305_0
       replace hx305_1 := (HB.out.cell (World.block_lt_of_cell? w _ hx305_1)).trans hx305_1
       have HR305_0 := Aside0.mk hi305_0
       have HC305_0 := Aside0.mk hl305_0
       clear hi305_0 hl305_0
       have HR305_1 := Aside0.mk hi305_1
       have HC305_1 := Aside0.mk hl305_1
       clear hi305_1 hl305_1
       replace p305 := eq_true p305
       replace q305 := eq_true q305
       go_wp2
       go_ret
       exact ⟨by first | rfl | (simp [errW_none, errW_some] <;> rfl) | (simp [*, errW_none, errW_some] <;> rfl), by repeat (first | (with_reducible first | exact HB.out | apply below_alloc | apply pw_below_drewN | apply below_drew1) | exact HB.out)⟩
      ·rw [if_neg c5] at H
       have c5b0 : decide (20 < (((rd_T50 l0 x3_1).f0).length : Int)) = false := decide_eq_false c5
       have c5b1 : decide (20 < ((rd_T50 l0 x3_1).f0).length) = false := decide_eq_false (by omega)
       clear c5
       replace H := Option.bind_eq_some_iff.mp H
       obtain ⟨t307, A60, H⟩ := H
       replace H : (if t307 = true then ((arlinkref06_Valid.f k1 ((rd_T50 l0 x3_1).f0) ((rd_T50 l0 x3_1).f1)).bind fun t309 => (if t309 = true then (arlinkref14_Right.l0 k1 l0 (wrap64 (x3_1 + 1))) else (some false))) else (some false)) = some r := H
       have A6 := Aside0.mk A60
       clear A60
       by_cases c7 : t307 = true
       ·subst c7
        have H1 : ((arlinkref06_Valid.f k1 ((rd_T50 l0 x3_1).f0) ((rd_T50 l0 x3_1).f1)).bind fun t309 => (if t309 = true then (arlinkref14_Right.l0 k1 l0 (wrap64 (x3_1 + 1))) else (some false))) = some r := by rw [if_pos rfl] at H; exact H
        clear H
        have H := H1
        clear H1
        replace H := Option.bind_eq_some_iff.mp H
        obtain ⟨t309, A80, H⟩ := H
        replace H : (if t309 = true then (arlinkref14_Right.l0 k1 l0 (wrap64 (x3_1 + 1))) else (some false)) = some r := H
        have A8 := Aside0.mk A80
        clear A80
        by_cases c9 : t309 = true
        ·subst c9
         have H1 : (arlinkref14_Right.l0 k1 l0 (wrap64 (x3_1 + 1))) = some r := by rw [if_pos rfl] at H; exact H
         clear H
         have H := H1
         clear H1
         have H' := Aside0.mk H
         clear H
         have p305 : 0 ≤ (x3_1 : Int) := of_decide_eq_true (by first | (with_reducible assumption) | assumption)
         have q305 : x3_1 < (l0.length : Int) := of_decide_eq_true (by first | (with_reducible assumption) | assumption)
         obtain ⟨ad305, A305_0, c305_0, A305_1, c305_1, e305, hx305_0, hx305_1, hl305_0, hi305_0, hl305_1, hi305_1⟩ := at_T50 HR0.out x3_1 p305 q305
         cases e305
         replace hx305_0 := (HB.out.cell (World.block_lt_of_cell? w _ hx305_0)).trans hx305_0
         replace hx305_1 := (HB.out.cell (World.block_lt_of_cell? w _ hx305_1)).trans hx305_1
         have HR305_0 := Aside0.mk hi305_0
         have HC305_0 := Aside0.mk hl305_0
         clear hi305_0 hl305_0
         have HR305_1 := Aside0.mk hi305_1
         have HC305_1 := Aside0.mk hl305_1
         clear hi305_1 hl305_1
         replace p305 := eq_true p305
         replace q305 := eq_true q305
         have p306 : 0 ≤ (x3_1 : Int) := of_decide_eq_true (by first | (with_reducible assumption) | assumption)
         have q306 : x3_1 < (l0.length : Int) := of_decide_eq_true (by first | (with_reducible assumption) | assumption)
         obtain ⟨ad306, A306_0, c306_0, A306_1, c306_1, e306, hx306_0, hx306_1, hl306_0, hi306_0, hl306_1, hi306_1⟩ := at_T50 HR0.out x3_1 p306 q306
         obtain rfl : ad305 = ad306 := (by injection e306)
         replace hx306_0 := (HB.out.cell (World.block_lt_of_cell? w _ hx306_0)).trans hx306_0
         replace hx306_1 := (HB.out.cell (World.block_lt_of_cell? w _ hx306_1)).trans hx306_1
         have HR306_0 := Aside0.mk hi306_0
         have HC306_0 := Aside0.mk hl306_0
         clear hi306_0 hl306_0
         have HR306_1 := Aside0.mk hi306_1
         have HC306_1 := Aside0.mk hl306_1
         clear hi306_1 hl306_1
         replace p306 := eq_true p306
         replace q306 := eq_true q306
         have ea_ := Option.some.inj (hx305_0.symm.trans hx306_0)
         injection ea_ with ea_ en_ ec_
         subst ea_
         subst ec_
         clear en_
         have ea_ := Option.some.inj (hx305_1.symm.trans hx306_1)
         injection ea_ with ea_ en_ ec_
         subst ea_
         subst ec_
         clear en_
         go_wp2_with (first | (go_at_call 47; (with_reducible refine (arlinkref06_Few.calls k1 _ _ ((rd_T50 l0 x3_1).f0) _ _ ((rd_T50 l0 x3_1).f1) true _ ?side1 ?side2 ?side3 ?side4 A6.out).mono ?_); (case side1 => repeat (first | exact (Kd.C_below HR306_0.out HB.out) | (with_reducible refine Kd.C_alloc ?_ _) | (with_reducible refine Kd.C_drewN ?_ _) | (with_reducible refine Kd.C_drew ?_))); (case side2 => exact HC306_0.out); (case side3 => repeat (first | exact (Kd.C_below HR306_1.out HB.out) | (with_reducible refine Kd.C_alloc ?_ _) | (with_reducible refine Kd.C_drewN ?_ _) | (with_reducible refine Kd.C_drew ?_))); (case side4 => exact HC306_1.out); rintro e w10 ⟨rfl, hb⟩; have n0_ := Aside0.mk (below_step (by repeat (first | (with_reducible first | exact HB.out | apply below_alloc | apply pw_below_drewN | apply below_drew1) | exact HB.out)) hb); clear HB; have HB := n0_; clear n0_; (try clear hb); (try clear hb2); (try clear hk); (try clear hi); have p308 : 0 ≤ (x3_1 : Int) := of_decide_eq_true (by first | (with_reducible assumption) | assumption); have q308 : x3_1 < (l0.length : Int) := of_decide_eq_true (by first | (with_reducible assumption) | assumption); obtain ⟨ad308, A308_0, c308_0, A308_1, c308_1, e308, hx308_0, hx308_1, hl308_0, hi308_0, hl308_1, hi308_1⟩ := at_T50 HR0.out x3_1 p308 q308; obtain rfl : ad305 = ad308 := (by injection e308); replace hx308_0 := (HB.out.cell (World.block_lt_of_cell? w _ hx308_0)).trans hx308_0; replace hx308_1 := (HB.out.cell (World.block_lt_of_cell? w _ hx308_1)).trans hx308_1; have HR308_0 := Aside0.mk hi308_0; have HC308_0 := Aside0.mk hl308_0; clear hi308_0 hl308_0; have HR308_1 := Aside0.mk hi308_1; have HC308_1 := Aside0.mk hl308_1; clear hi308_1 hl308_1; replace p308 := eq_true p308; replace q308 := eq_true q308) | (go_at_call 48; (with_reducible refine (arlinkref06_Valid.calls k1 _ _ ((rd_T50 l0 x3_1).f0) _ _ ((rd_T50 l0 x3_1).f1) true _ ?side1 ?side2 ?side3 ?side4 A8.out).mono ?_); (case side1 => repeat (first | exact (Kd.C_below HR308_0.out HB.out) | (with_reducible refine Kd.C_alloc ?_ _) | (with_reducible refine Kd.C_drewN ?_ _) | (with_reducible refine Kd.C_drew ?_))); (case side2 => exact HC308_0.out); (case side3 => repeat (first | exact (Kd.C_below HR308_1.out HB.out) | (with_reducible refine Kd.C_alloc ?_ _) | (with_reducible refine Kd.C_drewN ?_ _) | (with_reducible refine Kd.C_drew ?_))); (case side4 => exact HC308_1.out); rintro e w11 ⟨rfl, hb⟩; have n0_ := Aside0.mk (below_step (by repeat (first | (with_reducible first | exact HB.out | apply below_alloc | apply pw_below_drewN | apply below_drew1) | exact HB.out)) hb); clear HB; have HB := n0_; clear n0_; (try clear hb); (try clear hb2); (try clear hk); (try clear hi)))
         go_roundg k1
         case measure => have := HK1.out; omega
         case rel => exact ⟨(wrap64 (x3_1 + 1)), (by first | rfl | (simp; done) | (simp [*]; done)), H', ⟨by have := HK1.out; omega⟩, ⟨by repeat (first | (with_reducible first | exact HB.out | apply below_alloc | apply pw_below_drewN | apply below_drew1) | exact HB.out)⟩⟩
        ·replace c9 := Bool.eq_false_iff.mpr c9
         subst c9
         have H1 : (some false) = some r := by rw [if_neg (show ¬ (false = true) by decide)] at H; exact H
         clear H
         have H := H1
         clear H1
         obtain rfl := Option.some.inj H
         have p305 : 0 ≤ (x3_1 : Int) := of_decide_eq_true (by first | (with_reducible assumption) | assumption)
         have q305 : x3_1 < (l0.length : Int) := of_decide_eq_true (by first | (with_reducible assumption) | assumption)
         obtain ⟨ad305, A305_0, c305_0, A305_1, c305_1, e305, hx305_0, hx305_1, hl305_0, hi305_0, hl305_1, hi305_1⟩ := at_T50 HR0.out x3_1 p305 q305
         cases e305
         replace hx305_0 := (HB.out.cell (World.block_lt_of_cell? w _ hx305_0)).trans hx305_0
         replace hx305_1 := (HB.out.cell (World.block_lt_of_cell? w _ hx305_1)).trans hx305_1
         have HR305_0 := Aside0.mk hi305_0
         have HC305_0 := Aside0.mk hl305_0
         clear hi305_0 hl305_0
         have HR305_1 := Aside0.mk hi305_1
         have HC305_1 := Aside0.mk hl305_1
         clear hi305_1 hl305_1
         replace p305 := eq_true p305
         replace q305 := eq_true q305
         have p306 : 0 ≤ (x3_1 : Int) := of_decide_eq_true (by first | (with_reducible assumption) | assumption)
         have q306 : x3_1 < (l0.length : Int) := of_decide_eq_true (by first | (with_reducible assumption) | assumption)
         obtain ⟨ad306, A306_0, c306_0, A306_1, c306_1, e306, hx306_0, hx306_1, hl306_0, hi306_0, hl306_1, hi306_1⟩ := at_T50 HR0.out x3_1 p306 q306
         obtain rfl : ad305 = ad306 := (by injection e306)
         replace hx306_0 := (HB.out.cell (World.block_lt_of_cell? w _ hx306_0)).trans hx306_0
         replace hx306_1 := (HB.out.cell (World.block_lt_of_cell? w _ hx306_1)).trans hx306_1
         have HR306_0 := Aside0.mk hi306_0
         have HC306_0 := Aside0.mk hl306_0
         clear hi306_0 hl306_0
         have HR306_1 := Aside0.mk hi306_1
         have HC306_1 := Aside0.mk hl306_1
         clear hi306_1 hl306_1
         replace p306 := eq_true p306
         replace q306 := eq_true q306
         have ea_ := Option.some.inj (hx305_0.symm.trans hx306_0)
         injection ea_ with ea_ en_ ec_
         subst ea_
         subst ec_
         clear en_
         have ea_ := Option.some.inj (hx305_1.symm.trans hx306_1)
         injection ea_ with ea_ en_ ec_
         subst ea_
         subst ec_
         clear en_
         go_wp2_with (first | (go_at_call 47; (with_reducible refine (arlinkref06_Few.calls k1 _ _ ((rd_T50 l0 x3_1).f0) _ _ ((rd_T50 l0 x3_1).f1) true _ ?side1 ?side2 ?side3 ?side4 A6.out).mono ?_); (case side1 => repeat (first | exact (Kd.C_below HR306_0.out HB.out) | (with_reducible refine Kd.C_alloc ?_ _) | (with_reducible refine Kd.C_drewN ?_ _) | (with_reducible refine Kd.C_drew ?_))); (case side2 => exact HC306_0.out); (case side3 => repeat (first | exact (Kd.C_below HR306_1.out HB.out) | (with_reducible refine Kd.C_alloc ?_ _) | (with_reducible refine Kd.C_drewN ?_ _) | (with_reducible refine Kd.C_drew ?_))); (case side4 => exact HC306_1.out); rintro e w12 ⟨rfl, hb⟩; have n0_ := Aside0.mk (below_step (by repeat (first | (with_reducible first | exact HB.out | apply below_alloc | apply pw_below_drewN | apply below_drew1) | exact HB.out)) hb); clear HB; have HB := n0_; clear n0_; (try clear hb); (try clear hb2); (try clear hk); (try clear hi); have p308 : 0 ≤ (x3_1 : Int) := of_decide_eq_true (by first | (with_reducible assumption) | assumption); have q308 : x3_1 < (l0.length : Int) := of_decide_eq_true (by first | (with_reducible assumption) | assumption); obtain ⟨ad308, A308_0, c308_0, A308_1, c308_1, e308, hx308_0, hx308_1, hl308_0, hi308_0, hl308_1, hi308_1⟩ := at_T50 HR0.out x3_1 p308 q308; obtain rfl : ad305 = ad308 := (by injection e308); replace hx308_0 := (HB.out.cell (World.block_lt_of_cell? w _ hx308_0)).trans hx308_0; replace hx308_1 := (HB.out.cell (World.block_lt_of_cell? w _ hx308_1)).trans hx308_1; have HR308_0 := Aside0.mk hi308_0; have HC308_0 := Aside0.mk hl308_0; clear hi308_0 hl308_0; have HR308_1 := Aside0.mk hi308_1; have HC308_1 := Aside0.mk hl308_1; clear hi308_1 hl308_1; replace p308 := eq_true p308; replace q308 := eq_true q308) | (go_at_call 48; (with_reducible refine (arlinkref06_Valid.calls k1 _ _ ((rd_T50 l0 x3_1).f0) _ _ ((rd_T50 l0 x3_1).f1) false _ ?side1 ?side2 ?side3 ?side4 A8.out).mono ?_); (case side1 => repeat (first | exact (Kd.C_below HR308_0.out HB.out) | (with_reducible refine Kd.C_alloc ?_ _) | (with_reducible refine Kd.C_drewN ?_ _) | (with_reducible refine Kd.C_drew ?_))); (case side2 => exact HC308_0.out); (case side3 => repeat (first | exact (Kd.C_below HR308_1.out HB.out) | (with_reducible refine Kd.C_alloc ?_ _) | (with_reducible refine Kd.C_drewN ?_ _) | (with_reducible refine Kd.C_drew ?_))); (case side4 => exact HC308_1.out); rintro e w13 ⟨rfl, hb⟩; have n0_ := Aside0.mk (below_step (by repeat (first | (with_reducible first | exact HB.out | apply below_alloc | apply pw_below_drewN | apply below_drew1) | exact HB.out)) hb); clear HB; have HB := n0_; clear n0_; (try clear hb); (try clear hb2); (try clear hk); (try clear hi)))
         go_ret
         exact ⟨by first | rfl | (simp [errW_none, errW_some] <;> rfl) | (simp [*, errW_none, errW_some] <;> rfl), by repeat (first | (with_reducible first | exact HB.out | apply below_alloc | apply pw_below_drewN | apply below_drew1) | exact HB.out)⟩
       ·replace c7 := Bool.eq_false_iff.mpr c7
        subst c7
        have H1 : (some false) = some r := by rw [if_neg (show ¬ (false = true) by decide)] at H; exact H
        clear H
        have H := H1
        clear H1
        obtain rfl := Option.some.inj H
        have p305 : 0 ≤ (x3_1 : Int) := of_decide_eq_true (by first | (with_reducible assumption) | assumption)
        have q305 : x3_1 < (l0.length : Int) := of_decide_eq_true (by first | (with_reducible assumption) | assumption)
        obtain ⟨ad305, A305_0, c305_0, A305_1, c305_1, e305, hx305_0, hx305_1, hl305_0, hi305_0, hl305_1, hi305_1⟩ := at_T50 HR0.out x3_1 p305 q305
        cases e305
        replace hx305_0 := (HB.out.cell (World.block_lt_of_cell? w _ hx305_0)).trans hx305_0
        replace hx305_1 := (HB.out.cell (World.block_lt_of_cell? w _ hx305_1)).trans hx305_1
        have HR305_0 := Aside0.mk hi305_0
        have HC305_0 := Aside0.mk hl305_0
        clear hi305_0 hl305_0
        have HR305_1 := Aside0.mk hi305_1
        have HC305_1 := Aside0.mk hl305_1
        clear hi305_1 hl305_1
        replace p305 := eq_true p305
        replace q305 := eq_true q305
        have p306 : 0 ≤ (x3_1 : Int) := of_decide_eq_true (by first | (with_reducible assumption) | assumption)
        have q306 : x3_1 < (l0.length : Int) := of_decide_eq_true (by first | (with_reducible assumption) | assumption)
        obtain ⟨ad306, A306_0, c306_0, A306_1, c306_1, e306, hx306_0, hx306_1, hl306_0, hi306_0, hl306_1, hi306_1⟩ := at_T50 HR0.out x3_1 p306 q306
        obtain rfl : ad305 = ad306 := (by injection e306)
        replace hx306_0 := (HB.out.cell (World.block_lt_of_cell? w _ hx306_0)).trans hx306_0
        replace hx306_1 := (HB.out.cell (World.block_lt_of_cell? w _ hx306_1)).trans hx306_1
        have HR306_0 := Aside0.mk hi306_0
        have HC306_0 := Aside0.mk hl306_0
        clear hi306_0 hl306_0
        have HR306_1 := Aside0.mk hi306_1
        have HC306_1 := Aside0.mk hl306_1
        clear hi306_1 hl306_1
        replace p306 := eq_true p306
        replace q306 := eq_true q306
        have ea_ := Option.some.inj (hx305_0.symm.trans hx306_0)
        injection ea_ with ea_ en_ ec_
        subst ea_
        subst ec_
        clear en_
        have ea_ := Option.some.inj (hx305_1.symm.trans hx306_1)
        injection ea_ with ea_ en_ ec_
        subst ea_
        subst ec_
        clear en_
        go_wp2_with (first | (go_at_call 47; (with_reducible refine (arlinkref06_Few.calls k1 _ _ ((rd_T50 l0 x3_1).f0) _ _ ((rd_T50 l0 x3_1).f1) false _ ?side1 ?side2 ?side3 ?side4 A6.out).mono ?_); (case side1 => repeat (first | exact (Kd.C_below HR306_0.out HB.out) | (with_reducible refine Kd.C_alloc ?_ _) | (with_reducible refine Kd.C_drewN ?_ _) | (with_reducible refine Kd.C_drew ?_))); (case side2 => exact HC306_0.out); (case side3 => repeat (first | exact (Kd.C_below HR306_1.out HB.out) | (with_reducible refine Kd.C_alloc ?_ _) | (with_reducible refine Kd.C_drewN ?_ _) | (with_reducible refine Kd.C_drew ?_))); (case side4 => exact HC306_1.out); rintro e w14 ⟨rfl, hb⟩; have n0_ := Aside0.mk (below_step (by repeat (first | (with_reducible first | exact HB.out | apply below_alloc | apply pw_below_drewN | apply below_drew1) | exact HB.out)) hb); clear HB; have HB := n0_; clear n0_; (try clear hb); (try clear hb2); (try clear hk); (try clear hi)))
        go_ret
        exact ⟨by first | rfl | (simp [errW_none, errW_some] <;> rfl) | (simp [*, errW_none, errW_some] <;> rfl), by repeat (first | (with_reducible first | exact HB.out | apply below_alloc | apply pw_below_drewN | apply below_drew1) | exact HB.out)⟩
     ·rw [if_neg c4] at H
      exact absurd H (by simp)
    ·rw [if_neg c3] at H
     have c3b0 : decide (x3_1 < (l0.length : Int)) = false := decide_eq_false c3
     clear c3
     obtain rfl := Option.some.inj H
     go_wp2
     go_ret
     exact ⟨by first | rfl | (simp [errW_none, errW_some] <;> rfl) | (simp [*, errW_none, errW_some] <;> rfl), by repeat (first | (with_reducible first | exact HB.out | apply below_alloc | apply pw_below_drewN | apply below_drew1) | exact HB.out)⟩
end Go.Proofs.Ythpjpkcfepmhkaa.PAll
namespace Go.Proofs.Ythpjpkcfepmhkaa.PAll
open Go.RowKit Go.Proofs.YthpjpkcfepmhkaaW.PrintWords Go.Proofs.YthpjpkcfepmhkaaW.PrintLast Go.Proofs.YthpjpkcfepmhkaaW.PrintMore
set_option linter.unusedVariables false
set_option linter.unusedSimpArgs false
theorem name_eq (a b : ByteArray) : a.toList = b.toList ↔ a = b := by
  rw [ByteArray.toList_eq, ByteArray.toList_eq]
  constructor
  · intro h
    obtain ⟨⟨a⟩⟩ := a
    obtain ⟨⟨b⟩⟩ := b
    have h : a = b := h
    rw [h]
  · rintro rfl; rfl
theorem wrS {x : Int} (h0 : -4611686018427387904 ≤ x) (h1 : x ≤ 4611686018427387904) : wrap64 x = x := by unfold wrap64; omega
theorem wrN (i : Nat) (h : i ≤ 1099511627776) : wrap64 ((i : Int) + 1) = ((i + 1 : Nat) : Int) := by rw [wrS (by omega) (by omega)]; omega
theorem rd55 {l : List S55} {i : Nat} (h : i < l.length) : rd_T55 l (i : Int) = l[i] := by
  unfold rd_T55
  rw [Int.toNat_natCast, List.getD_eq_getElem?_getD, List.getElem?_eq_getElem h]; rfl
theorem any_drop {α : Type} (p : α → Bool) (l : List α) (i : Nat) (h : i < l.length) : (l.drop i).any p = (p l[i] || (l.drop (i + 1)).any p) := by
  rw [List.drop_eq_getElem_cons h, List.any_cons]
structure RightP (l : List S50) : Prop where
  len : l.length ≤ 12
  syms : ∀ o, o ∈ l → o.f0.length ≤ 20
  names : ∀ o, o ∈ l → ∀ s, s ∈ o.f0 → s.f0.size ≤ 255
  apart : ∀ o, o ∈ l → ∀ (i j : Nat) (hi : i < j) (hj : j < o.f0.length), o.f0[i].f0 ≠ o.f0[j].f0
theorem few_loop (l : List S55) (l1 : List Int) (hl : l.length ≤ 1000000) : ∀ (d i : Nat), i + d = l.length → ∃ b, Ev (fun k => arlinkref06_Few.l0 k (i : Int) l l1) b
  | 0, i, h => by
    refine ⟨_, Ev.step (f := fun k => arlinkref06_Few.j1 k (i : Int) false l l1) (fun k => by rw [arlinkref06_Few.l0, if_neg (by omega)]) (Ev.step (f := fun _ => if (l.length : Int) ≤ 60 then some (decide ((l1.length : Int) ≤ 1000)) else some false) (fun k => by rw [arlinkref06_Few.j1, if_neg (by decide)]) (r := if (l.length : Int) ≤ 60 then decide ((l1.length : Int) ≤ 1000) else false) ?_)⟩
    split
    · exact Ev.now _
    · exact Ev.now _
  | d + 1, i, h => by
    obtain ⟨b, hb⟩ := few_loop l l1 hl d (i + 1) (by omega)
    by_cases c : (i : Int) ≤ 60
    · by_cases c2 : (((rd_T55 l (i : Int)).f0).size : Int) > 300
      · exact ⟨false, Ev.step (f := fun k => arlinkref06_Few.j1 k (i : Int) true l l1) (fun k => by rw [arlinkref06_Few.l0, if_pos (by omega), decide_eq_true c]) (Ev.step (f := fun _ => some false) (fun k => by rw [arlinkref06_Few.j1, if_pos rfl, if_pos (by omega), if_pos (by omega), if_pos c2]) (Ev.now _))⟩
      · exact ⟨b, Ev.step (f := fun k => arlinkref06_Few.j1 k (i : Int) true l l1) (fun k => by rw [arlinkref06_Few.l0, if_pos (by omega), decide_eq_true c]) (Ev.step (f := fun k => arlinkref06_Few.l0 k ((i + 1 : Nat) : Int) l l1) (fun k => by rw [arlinkref06_Few.j1, if_pos rfl, if_pos (by omega), if_pos (by omega), if_neg c2, wrN i (by omega)]) hb)⟩
    · refine ⟨_, Ev.step (f := fun k => arlinkref06_Few.j1 k (i : Int) false l l1) (fun k => by rw [arlinkref06_Few.l0, if_pos (by omega), decide_eq_false c]) (Ev.step (f := fun _ => if (l.length : Int) ≤ 60 then some (decide ((l1.length : Int) ≤ 1000)) else some false) (fun k => by rw [arlinkref06_Few.j1, if_neg (by decide)]) (r := if (l.length : Int) ≤ 60 then decide ((l1.length : Int) ≤ 1000) else false) ?_)⟩
      split
      · exact Ev.now _
      · exact Ev.now _
theorem power_loop (a : Int) : ∀ (d : Nat) (x : Int), 1 ≤ x → x ≤ 131072 → (131072 - x).toNat ≤ d → ∃ b, Ev (fun k => arlinkref06_Power.l0 k a x) b
  | 0, x, h1, h2, h3 => ⟨false, Ev.step (f := fun _ => some false) (fun k => by rw [arlinkref06_Power.l0, if_neg (by omega)]) (Ev.now _)⟩
  | d + 1, x, h1, h2, h3 => by
    by_cases c : x ≤ 65536
    · by_cases c2 : x = a
      · exact ⟨true, Ev.step (f := fun _ => some true) (fun k => by rw [arlinkref06_Power.l0, if_pos c, if_pos c2]) (Ev.now _)⟩
      · obtain ⟨b, hb⟩ := power_loop a d (2 * x) (by omega) (by omega) (by omega)
        exact ⟨b, Ev.step (f := fun k => arlinkref06_Power.l0 k a (2 * x)) (fun k => by rw [arlinkref06_Power.l0, if_pos c, if_neg c2, wrS (by omega) (by omega)]) hb⟩
    · exact ⟨false, Ev.step (f := fun _ => some false) (fun k => by rw [arlinkref06_Power.l0, if_neg c]) (Ev.now _)⟩
theorem sym_loop (a : ByteArray) (x y z : Int) (ha : a.size ≤ 1000000) : ∀ (d i : Nat), i + d = a.size → ∃ b, Ev (fun k => arlinkref06_Sym.l0 k (i : Int) a x y z) b
  | 0, i, h => by
    obtain ⟨b, hb⟩ := power_loop z 131072 1 (by omega) (by omega) (by omega)
    have hpf : Ev (fun k => arlinkref06_Power.f k z) b := hb
    have hst : ∀ {r : Bool} {f : Nat → Option Bool}, (∀ k, (if x = 3 then ((arlinkref06_Power.f k z).bind fun t294 => (some t294)) else (if x = 4 then (if y = 0 then (some (z == 0)) else (some false)) else (if x = 5 then (if y = 0 then (some (z == 0)) else (some false)) else (if x = 1 then (some (z == 0)) else (if x = 2 then (some (z == 0)) else (some false)))))) = f k) → Ev f r → Ev (fun k => arlinkref06_Sym.l0 k (i : Int) a x y z) r := fun hf hr => Ev.step (fun k => by rw [arlinkref06_Sym.l0, if_neg (by omega)]; exact hf k) hr
    by_cases c3 : x = 3
    · exact ⟨b, hst (fun k => by rw [if_pos c3]) (Ev.bind hpf (Ev.now _))⟩
    · by_cases c4 : x = 4
      · by_cases cy : y = 0
        · exact ⟨_, hst (fun k => by rw [if_neg c3, if_pos c4, if_pos cy]) (Ev.now _)⟩
        · exact ⟨_, hst (fun k => by rw [if_neg c3, if_pos c4, if_neg cy]) (Ev.now _)⟩
      · by_cases c5 : x = 5
        · by_cases cy : y = 0
          · exact ⟨_, hst (fun k => by rw [if_neg c3, if_neg c4, if_pos c5, if_pos cy]) (Ev.now _)⟩
          · exact ⟨_, hst (fun k => by rw [if_neg c3, if_neg c4, if_pos c5, if_neg cy]) (Ev.now _)⟩
        · by_cases c1 : x = 1
          · exact ⟨_, hst (fun k => by rw [if_neg c3, if_neg c4, if_neg c5, if_pos c1]) (Ev.now _)⟩
          · by_cases c2 : x = 2
            · exact ⟨_, hst (fun k => by rw [if_neg c3, if_neg c4, if_neg c5, if_neg c1, if_pos c2]) (Ev.now _)⟩
            · exact ⟨_, hst (fun k => by rw [if_neg c3, if_neg c4, if_neg c5, if_neg c1, if_neg c2]) (Ev.now _)⟩
  | d + 1, i, h => by
    obtain ⟨b, hb⟩ := sym_loop a x y z ha d (i + 1) (by omega)
    by_cases c : bt a (i : Int) = 0
    · exact ⟨false, Ev.step (f := fun _ => some false) (fun k => by rw [arlinkref06_Sym.l0, if_pos (by omega), if_pos (by omega), if_pos c]) (Ev.now _)⟩
    · exact ⟨b, Ev.step (f := fun k => arlinkref06_Sym.l0 k ((i + 1 : Nat) : Int) a x y z) (fun k => by rw [arlinkref06_Sym.l0, if_pos (by omega), if_pos (by omega), if_neg c, wrN i (by omega)]) hb⟩
theorem sym_ev (a : ByteArray) (x y z : Int) : ∃ b, Ev (fun k => arlinkref06_Sym.f k a x y z) b ∧ (b = true → a.size ≤ 255) := by
  have hj : Ev (fun k => arlinkref06_Sym.j0 k true a x y z) false := Ev.step (f := fun _ => some false) (fun k => by rw [arlinkref06_Sym.j0, if_pos rfl]) (Ev.now _)
  unfold arlinkref06_Sym.f
  by_cases c1 : (a.size : Int) = 0
  · exact ⟨false, Ev.congr (fun k => by rw [if_pos c1]) hj, fun h => by cases h⟩
  · by_cases c2 : (a.size : Int) > 255
    · exact ⟨false, Ev.congr (fun k => by rw [if_neg c1, if_pos c2]) hj, fun h => by cases h⟩
    · by_cases c3 : y < 0
      · exact ⟨false, Ev.congr (fun k => by rw [if_neg c1, if_neg c2, if_pos c3]) hj, fun h => by cases h⟩
      · by_cases c4 : y > 4294967295
        · exact ⟨false, Ev.congr (f := fun k => arlinkref06_Sym.j0 k true a x y z) (fun k => by rw [if_neg c1, if_neg c2, if_neg c3, decide_eq_true c4]) hj, fun h => by cases h⟩
        · obtain ⟨b, hb⟩ := sym_loop a x y z (by omega) a.size 0 (by omega)
          exact ⟨b, Ev.congr (f := fun k => arlinkref06_Sym.j0 k false a x y z) (fun k => by rw [if_neg c1, if_neg c2, if_neg c3, decide_eq_false c4]) (Ev.step (f := fun k => arlinkref06_Sym.l0 k 0 a x y z) (fun k => by rw [arlinkref06_Sym.j0, if_neg (by decide)]) hb), fun _ => by omega⟩
theorem has06_loop (l : List S55) (a : ByteArray) (hl : l.length ≤ 1000000) : ∀ (d i : Nat), i + d = l.length → Ev (fun k => arlinkref06_has.l0 k l a (i : Int)) ((l.drop i).any fun s => decide (s.f0 = a))
  | 0, i, h => by
    rw [List.drop_of_length_le (by omega)]
    exact Ev.step (f := fun _ => some false) (fun k => by simp only [arlinkref06_has.l0]; rw [if_neg (by omega)]) (Ev.now _)
  | d + 1, i, h => by
    have hi : i < l.length := by omega
    have ih := has06_loop l a hl d (i + 1) (by omega)
    rw [any_drop _ _ _ hi]
    have hr : rd_T55 l (i : Int) = l[i] := rd55 hi
    by_cases c1 : l[i].f0 = a
    · rw [decide_eq_true c1, Bool.true_or]
      exact Ev.step (f := fun _ => some true) (fun k => by simp only [arlinkref06_has.l0]; rw [if_pos (by omega), if_pos (by omega), hr, if_pos ((name_eq _ _).2 c1)]) (Ev.now _)
    · rw [decide_eq_false c1, Bool.false_or]
      exact Ev.step (f := fun k => arlinkref06_has.l0 k l a ((i + 1 : Nat) : Int)) (fun k => by simp only [arlinkref06_has.l0]; rw [if_pos (by omega), if_pos (by omega), hr, if_neg (fun h => c1 ((name_eq _ _).1 h)), wrN i (by omega)]) ih
theorem has06_ev (l : List S55) (a : ByteArray) (hl : l.length ≤ 1000000) : Ev (fun k => arlinkref06_has.f k l a) (l.any fun s => decide (s.f0 = a)) := by
  have := has06_loop l a hl l.length 0 (by omega)
  rwa [List.drop_zero] at this
theorem valid_loop (l : List S55) (l1 : List Int) (hl : l.length ≤ 1000000) : ∀ (d i : Nat), i + d = l.length → ∃ b, Ev (fun k => arlinkref06_Valid.l0 k (i : Int) l l1) b ∧
    (b = true → ∀ (j : Nat) (hj : j < l.length), i ≤ j → l[j].f0.size ≤ 255 ∧ ∀ (q : Nat) (hq : q < j), l[q].f0 ≠ l[j].f0)
  | 0, i, h => ⟨_, Ev.step (f := fun _ => some (decide ((l.length : Int) ≤ 65536))) (fun k => by rw [arlinkref06_Valid.l0, if_neg (by omega)]) (Ev.now _), fun _ j hj hij => by omega⟩
  | d + 1, i, h => by
    have hi : i < l.length := by omega
    obtain ⟨b, hb, hb2⟩ := valid_loop l l1 hl d (i + 1) (by omega)
    have hr : rd_T55 l (i : Int) = l[i] := rd55 hi
    obtain ⟨c, hc, hc2⟩ := sym_ev l[i].f0 l[i].f1 l[i].f2 l[i].f3
    have hst : ∀ {r : Bool}, Ev (fun k => (arlinkref06_Sym.f k l[i].f0 l[i].f1 l[i].f2 l[i].f3).bind fun t298 => if t298 = true then (arlinkref06_has.f k (l.take i) l[i].f0).bind fun t304 => if t304 = true then some false else arlinkref06_Valid.l0 k ((i + 1 : Nat) : Int) l l1 else some false) r → Ev (fun k => arlinkref06_Valid.l0 k (i : Int) l l1) r := fun hr' =>
      Ev.step (fun k => by rw [arlinkref06_Valid.l0, if_pos (by omega), if_pos (by omega), hr, if_pos (by omega), wrN i (by omega), Int.toNat_natCast]) hr'
    cases c with
    | false => exact ⟨false, hst (Ev.bind hc (Ev.now _)), fun h => by cases h⟩
    | true =>
      have hh := has06_ev (l.take i) l[i].f0 (by rw [List.length_take]; omega)
      cases hb' : (l.take i).any (fun s => decide (s.f0 = l[i].f0)) with
      | true =>
        rw [hb'] at hh
        exact ⟨false, hst (Ev.bind hc (Ev.congr (fun k => by rw [if_pos rfl]) (Ev.bind hh (Ev.now _)))), fun h => by cases h⟩
      | false =>
        rw [hb'] at hh
        refine ⟨b, hst (Ev.bind hc (Ev.congr (fun k => by rw [if_pos rfl]) (Ev.bind hh (Ev.congr (fun k => by rw [if_neg (by decide)]) hb)))), fun h j hj hij => ?_⟩
        by_cases e : i = j
        · subst e
          refine ⟨hc2 rfl, fun q hq e2 => ?_⟩
          rw [List.any_eq_false] at hb'
          have hm : l[q] ∈ l.take i := by
            rw [List.mem_iff_getElem]
            exact ⟨q, by rw [List.length_take]; omega, by rw [List.getElem_take]⟩
          exact hb' _ hm (decide_eq_true e2)
        · exact hb2 h j hj (by omega)
theorem right_loop (l : List S50) (hl : l.length ≤ 12) : ∀ (d i : Nat), i + d = l.length → ∃ b, Ev (fun k => arlinkref14_Right.l0 k l (i : Int)) b ∧
    (b = true → ∀ (j : Nat) (hj : j < l.length), i ≤ j → l[j].f0.length ≤ 20 ∧ (∀ s, s ∈ l[j].f0 → s.f0.size ≤ 255) ∧ ∀ (p q : Nat) (hpq : p < q) (hq : q < l[j].f0.length), l[j].f0[p].f0 ≠ l[j].f0[q].f0)
  | 0, i, h => ⟨true, Ev.step (f := fun _ => some true) (fun k => by rw [arlinkref14_Right.l0, if_neg (by omega)]) (Ev.now _), fun _ j hj hij => by omega⟩
  | d + 1, i, h => by
    have hi : i < l.length := by omega
    obtain ⟨b, hb, hb2⟩ := right_loop l hl d (i + 1) (by omega)
    have hr : rd_T50 l (i : Int) = l[i] := rd50 hi
    by_cases c : ((l[i].f0).length : Int) > 20
    · exact ⟨false, Ev.step (f := fun _ => some false) (fun k => by rw [arlinkref14_Right.l0, if_pos (by omega), if_pos (by omega), hr, if_pos c]) (Ev.now _), fun h => by cases h⟩
    · obtain ⟨f, hf⟩ := few_loop l[i].f0 l[i].f1 (by omega) l[i].f0.length 0 (by omega)
      obtain ⟨v, hv, hv2⟩ := valid_loop l[i].f0 l[i].f1 (by omega) l[i].f0.length 0 (by omega)
      have hff : Ev (fun k => arlinkref06_Few.f k l[i].f0 l[i].f1) f := hf
      have hvf : Ev (fun k => arlinkref06_Valid.f k l[i].f0 l[i].f1) v := hv
      have hst : ∀ {r : Bool}, Ev (fun k => (arlinkref06_Few.f k l[i].f0 l[i].f1).bind fun t307 => if t307 = true then (arlinkref06_Valid.f k l[i].f0 l[i].f1).bind fun t309 => if t309 = true then arlinkref14_Right.l0 k l ((i + 1 : Nat) : Int) else some false else some false) r → Ev (fun k => arlinkref14_Right.l0 k l (i : Int)) r := fun hr' =>
        Ev.step (fun k => by rw [arlinkref14_Right.l0, if_pos (by omega), if_pos (by omega), hr, if_neg c, wrN i (by omega)]) hr'
      cases f with
      | false => exact ⟨false, hst (Ev.bind hff (Ev.now _)), fun h => by cases h⟩
      | true =>
        cases v with
        | false => exact ⟨false, hst (Ev.bind hff (Ev.congr (f := fun k => (arlinkref06_Valid.f k l[i].f0 l[i].f1).bind fun t309 => if t309 = true then arlinkref14_Right.l0 k l ((i + 1 : Nat) : Int) else some false) (fun k => by rw [if_pos rfl]) (Ev.bind hvf (Ev.now _)))), fun h => by cases h⟩
        | true =>
          refine ⟨b, hst (Ev.bind hff (Ev.congr (fun k => by rw [if_pos rfl]) (Ev.bind hvf (Ev.congr (fun k => by rw [if_pos rfl]) hb)))), fun h j hj hij => ?_⟩
          by_cases e : i = j
          · subst e
            refine ⟨by omega, fun s hs => ?_, fun p q hpq hq => (hv2 rfl q hq (by omega)).2 p hpq⟩
            obtain ⟨q, hq, rfl⟩ := List.getElem_of_mem hs
            exact (hv2 rfl q hq (by omega)).1
          · exact hb2 h j hj (by omega)
theorem right_ev (l : List S50) : ∃ b, Ev (fun k => arlinkref14_Right.f k l) b ∧ (b = true → RightP l) := by
  unfold arlinkref14_Right.f
  by_cases c : (l.length : Int) > 12
  · exact ⟨false, Ev.congr (fun k => by rw [if_pos c]) (Ev.now _), fun h => by cases h⟩
  · obtain ⟨b, hb, hb2⟩ := right_loop l (by omega) l.length 0 (by omega)
    refine ⟨b, Ev.congr (f := fun k => arlinkref14_Right.l0 k l ((0 : Nat) : Int)) (fun k => by rw [if_neg c]; rfl) hb, fun h => ⟨by omega, fun o ho => ?_, fun o ho => ?_, fun o ho => ?_⟩⟩
    all_goals
      obtain ⟨j, hj, rfl⟩ := List.getElem_of_mem ho
      obtain ⟨h1, h2, h3⟩ := hb2 h j hj (by omega)
    · exact h1
    · exact h2
    · exact fun p q hpq hq => h3 p q hpq hq
theorem RightP.small {l : List S50} (h : RightP l) : smallL l = true := smallL_iff.2 ⟨by have := h.len; omega, fun o ho => ⟨by have := h.syms o ho; omega, fun s hs => by have := h.names o ho s hs; omega⟩⟩
end Go.Proofs.Ythpjpkcfepmhkaa.PAll
namespace Go.Proofs.Ythpjpkcfepmhkaa.PAll
open Go.RowKit Go.Proofs.YthpjpkcfepmhkaaW.PrintWords Go.Proofs.YthpjpkcfepmhkaaW.PrintLast Go.Proofs.YthpjpkcfepmhkaaW.PrintMore
set_option linter.unusedVariables false
set_option linter.unusedSimpArgs false
def BuildEnd (w : World) (vm : Value) (l0 l1 : List S50) (e : Ending) (w' : World) : Prop := ∃ (bd bp : Nat) (f : Nat → ByteArray) (g : ByteArray → Option Value), e = .returned (.agg #[vm, .map (some bd), .map (some bp)]) ∧ Below w.heap.size w w' ∧
  Grp w' w.heap.size bd (prsOf l1 0).length f g (zsOf (prsOf l1 0)) ∧ MapV lkS w' 9 bp (provOf l0).length (inG (provOf l0)) ∧ w.heap.size ≤ bd ∧ w.heap.size ≤ bp
theorem BW.start (w : World) (vm : Value) : BW w ((((w.alloc (.cells #[.slice none 0 0, .map none, .map none] 83)).alloc (.map #[] 0)).alloc (.map #[] 0)).alloc (.cells #[vm, .map (some (w.heap.size + 1)), .map (some (w.heap.size + 1 + 1))] 83)) vm w.heap.size (w.heap.size + 1) (w.heap.size + 1 + 1) (w.heap.size + 1 + 1 + 1) (fun _ => ByteArray.empty) (fun _ => none) [] [] := by
  have z1 : (w.alloc (.cells #[.slice none 0 0, .map none, .map none] 83)).heap.size = w.heap.size + 1 := by go_simp
  have b1 := below_alloc (Below.refl w.heap.size w) (.cells #[.slice none 0 0, .map none, .map none] 83)
  have r1 := heap_alloc_new w (.cells #[.slice none 0 0, .map none, .map none] 83)
  generalize w.alloc (.cells #[.slice none 0 0, .map none, .map none] 83) = w1 at *
  have z2 : (w1.alloc (.map #[] 0)).heap.size = w.heap.size + 1 + 1 := by rw [← z1]; go_simp
  have b2 := below_alloc (Below.refl w1.heap.size w1) (.map #[] 0)
  have m2 := Grp.made w1 w.heap.size (fun _ => ByteArray.empty)
  rw [z1] at m2
  generalize w1.alloc (.map #[] 0) = w2 at *
  have z3 : (w2.alloc (.map #[] 0)).heap.size = w.heap.size + 1 + 1 + 1 := by rw [← z2]; go_simp
  have b3 := below_alloc (Below.refl w2.heap.size w2) (.map #[] 0)
  have m3 := MapV.made lkS w2 9
  rw [z2] at m3
  generalize w2.alloc (.map #[] 0) = w3 at *
  have b4 := below_alloc (Below.refl w3.heap.size w3) (.cells #[vm, .map (some (w.heap.size + 1)), .map (some (w.heap.size + 1 + 1))] 83)
  have r4 := heap_alloc_new w3 (.cells #[vm, .map (some (w.heap.size + 1)), .map (some (w.heap.size + 1 + 1))] 83)
  rw [z3] at r4
  generalize w3.alloc (.cells #[vm, .map (some (w.heap.size + 1)), .map (some (w.heap.size + 1 + 1))] 83) = w4 at *
  have hz : zsOf [] = fun _ => [] := rfl
  refine ⟨below_then (below_then (below_then b1 (by omega) b2) (by omega) b3) (by omega) b4, blk_below (blk_below (blk_below r1 b2) b3) b4, r4, ?_, ?_, by omega, by omega, by omega, by omega, by omega, by omega⟩
  · rw [hz]
    exact (m2.below b3 (Nat.le_refl _)).below b4 (Nat.le_refl _)
  · rw [inG_nil]
    exact m3.below b4 m3.lt
theorem grown_set (w : World) (g i : Nat) (u : Value) : w.grownBy (w.setCell ⟨g, i, none⟩ u) (some g) :=
  ⟨rfl, rfl, rfl, by simp [World.setCell], fun k _ hk => Below.heap_setCell w ⟨g, i, none⟩ u k (fun e => hk (by rw [e]))⟩
theorem BW.fin {w wr : World} {vm : Value} {g4 bd bp gp : Nat} {f : Nat → ByteArray} {g : ByteArray → Option Value} {ps : List (ByteArray × Int)} {pv : List ByteArray} (h : BW w wr vm g4 bd bp gp f g ps pv) {a b c : Value} :
    Below w.heap.size w (((wr.setCell ⟨g4, 0, none⟩ a).setCell ⟨g4, 1, none⟩ b).setCell ⟨g4, 2, none⟩ c) ∧ Grp (((wr.setCell ⟨g4, 0, none⟩ a).setCell ⟨g4, 1, none⟩ b).setCell ⟨g4, 2, none⟩ c) w.heap.size bd ps.length f g (zsOf ps) ∧
      MapV lkS (((wr.setCell ⟨g4, 0, none⟩ a).setCell ⟨g4, 1, none⟩ b).setCell ⟨g4, 2, none⟩ c) 9 bp pv.length (inG pv) ∧ w.heap.size ≤ bd ∧ w.heap.size ≤ bp := by
  have hg := World.grownBy.trans (World.grownBy.trans (grown_set wr g4 0 a) (grown_set _ g4 1 b)) (grown_set _ g4 2 c)
  refine ⟨h.B.grown hg h.B.size (fun k hk => by cases hk; exact h.h4), ⟨h.grp.map.grown hg (fun e => h.grp.map.ne_cells h.r (Option.some.inj e)), fun y => ?_, h.grp.has⟩, h.prov.grown hg (fun e => h.prov.ne_cells h.r (Option.some.inj e)), h.hd, h.hq⟩
  obtain ⟨r1, r2⟩ := h.grp.rows y
  exact ⟨rs_grown rfl r1 hg (fun k hk e => Kd.R_ne r1 h.r (by decide) (by rw [hk, e])), r2⟩
set_option maxRecDepth 10000 in
set_option maxHeartbeats 8000000 in
theorem build_calls (A0 : Option Addr) (c0 : Nat) (l0 : List S50) (A1 : Option Addr) (c1 : Nat) (l1 : List S50) (w : World) (hr0 : Kd.C k50 w A0 l0.length l0) (hr1 : Kd.C k50 w A1 l1.length l1) (s0 : smallL l0 = true) (s1 : smallL l1 = true) :
    Calls Try.prog 49 #[.slice A0 l0.length c0, .slice A1 l1.length c1] w fun e w' => BuildEnd w (.slice A1 l1.length c1) l0 l1 e w' := by
  have hu50 := Try.underlying50
  have hu83 := Try.underlying83
  have hmm := @run_makeMap Try.prog
  have HR0 := Lib.hid hr0
  have HR1 := Lib.hid hr1
  have hl0 := (smallL_iff.1 s0).1
  have hl1 := (smallL_iff.1 s1).1
  have S0 := Lib.hid s0
  have S1 := Lib.hid s1
  have HPV0 := Lib.hid (show (provOf l0).length ≤ 1048576 from by have := prov_len s0 l0.length; rwa [List.take_length] at this)
  clear hr0 hr1 s0 s1
  go_enter Try.func49, Try.ntmps49
  go_wp2
  have HBW := Lib.hid (BW.start w (.slice A1 l1.length c1))
  generalize (((w.alloc (.cells #[.slice none 0 0, .map none, .map none] 83)).alloc (.map #[] 0)).alloc (.map #[] 0)).alloc (.cells #[.slice A1 l1.length c1, .map (some (w.heap.size + 1)), .map (some (w.heap.size + 1 + 1))] 83) = w0 at *
  clear hmm
  go_loopg [20] l0.length (fun kq v20 w' => ∃ (k : Nat), v20 = .int .i64 k ∧ Aside0 (kq + k = l0.length) ∧ Aside0 (BW w w' (.slice A1 l1.length c1) w.heap.size (w.heap.size + 1) (w.heap.size + 1 + 1) (w.heap.size + 1 + 1 + 1) (fun _ => ByteArray.empty) (fun _ => none) [] (provOf (l0.take k))))
  case atStart => exact ⟨0, rfl, ⟨by omega⟩, ⟨HBW.out⟩⟩
  case round =>
    clear HBW
    obtain ⟨k, rfl, HA, HS⟩ := hrel
    cases gk with
    | zero =>
      have hk : l0.length ≤ k := by have := HA.out; omega
      have hkf : decide (k < l0.length) = false := decide_eq_false (by omega)
      have HE := HS.out
      rw [List.take_of_length_le hk] at HE
      have HE := Lib.hid HE
      clear HS HA hk
      clear HR0 S0 hl0
      generalize hpv1 : provOf l0 = pv at *
      have HPV1 := Lib.hid hpv1
      clear hpv1
      have hpv : pv.length ≤ 2097152 := by have := HPV0.out; omega
      go_wp2
      go_loopg [38] l1.length (fun kq v38 w' => ∃ (k : Nat) (f : Nat → ByteArray) (g : ByteArray → Option Value), v38 = .int .i64 k ∧ Aside0 (kq + k = l1.length) ∧ Aside0 (BW w w' (.slice A1 l1.length c1) w.heap.size (w.heap.size + 1) (w.heap.size + 1 + 1) (w.heap.size + 1 + 1 + 1) f g (prsOf (l1.take k) 0) pv))
      case atStart => exact ⟨0, _, _, rfl, ⟨by omega⟩, ⟨HE.out⟩⟩
      case round =>
        clear HE
        obtain ⟨k, f, g, rfl, HA, HS⟩ := hrel
        cases gk with
        | zero =>
          have hk : l1.length ≤ k := by have := HA.out; omega
          have hkf : decide (k < l1.length) = false := decide_eq_false (by omega)
          have HE := HS.out
          rw [List.take_of_length_le hk] at HE
          have HE := Lib.hid HE
          clear HS HA hk
          have p0 := blk_cell HE.out.p 0
          have p1 := blk_cell HE.out.p 1
          have p2 := blk_cell HE.out.p 2
          have r0 := blk_cell HE.out.r 0
          have r1 := blk_cell HE.out.r 1
          have r2 := blk_cell HE.out.r 2
          simp only [List.getElem?_toArray, List.getElem?_cons_succ, List.getElem?_cons_zero] at p0 p1 p2 r0 r1 r2
          have z0 := blk_frozen HE.out.r 0
          have z1 := blk_frozen HE.out.r 1
          have z2 := blk_frozen HE.out.r 2
          have pl := blk_lt HE.out.p
          have rl := blk_lt HE.out.r
          go_wp2
          have hrf := blk_set (blk_set (blk_set HE.out.r 0 (.slice A1 l1.length c1)) 1 (.map (some (w.heap.size + 1)))) 2 (.map (some (w.heap.size + 1 + 1)))
          have q0 := blk_cell hrf 0
          have q1 := blk_cell hrf 1
          have q2 := blk_cell hrf 2
          simp [World.setCell_drew] at q0 q1 q2
          have hfin : BuildEnd w (.slice A1 l1.length c1) l0 l1 (.returned (.agg #[.slice A1 l1.length c1, .map (some (w.heap.size + 1)), .map (some (w.heap.size + 1 + 1))])) (((wr.setCell ⟨w.heap.size, 0, none⟩ (.slice A1 l1.length c1)).setCell ⟨w.heap.size, 1, none⟩ (.map (some (w.heap.size + 1)))).setCell ⟨w.heap.size, 2, none⟩ (.map (some (w.heap.size + 1 + 1)))) := by
            have := HE.out.fin (a := .slice A1 l1.length c1) (b := .map (some (w.heap.size + 1))) (c := .map (some (w.heap.size + 1 + 1)))
            rw [← HPV1.out] at this
            exact ⟨_, _, f, g, rfl, this⟩
          clear hrf p0 p1 p2 r0 r1 r2 z0 z1 z2
          generalize ((wr.setCell ⟨w.heap.size, 0, none⟩ (.slice A1 l1.length c1)).setCell ⟨w.heap.size, 1, none⟩ (.map (some (w.heap.size + 1)))).setCell ⟨w.heap.size, 2, none⟩ (.map (some (w.heap.size + 1 + 1))) = wf at *
          exact bodyPost_ret (v := .agg #[.slice A1 l1.length c1, .map (some (w.heap.size + 1)), .map (some (w.heap.size + 1 + 1))]) (by simp [results, Try.results49, go_sem, q0, q1, q2]) rfl hfin
        | succ kq =>
          have hk : k < l1.length := by have := HA.out; omega
          obtain ⟨ad, B0, d0, B1, d1, rfl, hx0, hx1, hle0, hC0, hle1, hC1⟩ := at_T50 HR1.out (k : Int) (Int.natCast_nonneg _) (by omega)
          have hB := HS.out.B
          replace hx0 := (hB.cell (World.block_lt_of_cell? w _ hx0)).trans hx0
          replace hx1 := (hB.cell (World.block_lt_of_cell? w _ hx1)).trans hx1
          simp only [Int.toNat_natCast] at hx0 hx1
          have HN := Lib.hid (names_small S1.out defB hk)
          have HC := Lib.hid (prsOf_snoc hk)
          have HPL := Lib.hid (prs_len S1.out k)
          have hbs := below_size hB
          clear hB hC1 hle0 hle1
          generalize rd_T50 l1 k = x at *
          obtain ⟨x0, x1⟩ := x
          dsimp only at hx0 hx1 hC0 HN HC
          have HX := Lib.hid hC0
          clear hC0
          go_wp2_with fail
          have hBW2 := HS.out.below (below_alloc (Below.refl _ _) (.cells #[.slice B0 x0.length d0, .slice B1 x1.length d1] 50))
          clear hx0 hx1 HS
          generalize wr.alloc (.cells #[.slice B0 x0.length d0, .slice B1 x1.length d1] 50) = w2 at *
          have hC2 := Kd.C_below HX.out hBW2.B
          have hb2 := below_size hBW2.B
          have HB2 := Lib.hid hBW2
          clear hBW2
          refine (names_calls66 defB holds_defines B0 d0 x0 B1 x1.length d1 w2 hC2 (by have := HN.out.1; omega)).mono ?_
          rintro e w3 ⟨v, rfl, hR, hb3⟩
          have HB3 := Lib.hid (And.intro (HB2.out.below hb3) (Kd.R_lower hR hb2))
          have HN2 := Lib.hid HN.out.2
          clear hR hb3 hC2 HB2 HN HX hb2
          generalize namesOf defB x0 = ns at *
          obtain ⟨Av, cv, rfl⟩ := Kd.R_slice HB3.out.2
          have hnl : ns.length ≤ 1024 := HN2.out.1
          generalize prsOf (l1.take k) 0 = ps at *
          go_wp2
          go_loopg [46] ns.length (fun kq v46 w' => ∃ (j : Nat) (f : Nat → ByteArray) (g : ByteArray → Option Value), v46 = .int .i64 j ∧ Aside0 (kq + j = ns.length) ∧ Aside0 (BW w w' (.slice (some ad) l1.length c1) w.heap.size (w.heap.size + 1) (w.heap.size + 1 + 1) (w.heap.size + 1 + 1 + 1) f g (ps ++ (ns.take j).map (fun s => (s, (k : Int)))) pv ∧ Kd.string.R 9 w' w.heap.size (fun _ => True) (.slice Av ns.length cv) ns))
          case atStart => exact ⟨0, f, g, rfl, ⟨by omega⟩, ⟨by rw [List.take_zero, List.map_nil, List.append_nil]; exact HB3.out.1, HB3.out.2⟩⟩
          case round =>
            clear HB3
            obtain ⟨j, f, g, rfl, HJ, HS⟩ := hrel
            cases gk with
            | zero =>
              have hj : ns.length ≤ j := by have := HJ.out; omega
              have hkf : decide (j < ns.length) = false := decide_eq_false (by omega)
              have HE := HS.out.1
              rw [List.take_of_length_le hj, ← HC.out] at HE
              have HE := Lib.hid HE
              clear HS HJ hj
              go_wp2
              go_roundg kq
              case measure => omega
              case rel => exact ⟨k + 1, f, g, by go_num, ⟨by have := HA.out; omega⟩, ⟨HE.out⟩⟩
            | succ jq =>
              have hj : j < ns.length := by have := HJ.out; omega
              obtain ⟨b, c', he, _, hbl, _⟩ := Kd.R_form HS.out.2 (by omega)
              injection he with he1 he2 he3
              subst he1
              obtain ⟨hyc, _⟩ := W.row_cell HS.out.2 j hj
              have hsm : (Hp.at_ ByteArray.empty ns j).size ≤ 1048576 := by
                refine HN2.out.2 _ ?_
                unfold Hp.at_
                rw [List.getD_eq_getElem?_getD, List.getElem?_eq_getElem hj]
                exact List.getElem_mem hj
              have HT := Lib.hid (show (ns.take (j + 1)).map (fun s => (s, (k : Int))) = (ns.take j).map (fun s => (s, (k : Int))) ++ [(Hp.at_ ByteArray.empty ns j, (k : Int))] from by
                unfold Hp.at_
                rw [List.take_succ_eq_append_getElem hj, List.getD_eq_getElem?_getD, List.getElem?_eq_getElem hj, List.map_append]; rfl)
              have HPS := Lib.hid (show (ps ++ (ns.take j).map (fun s => (s, (k : Int)))).length ≤ 2097152 from by rw [List.length_append, List.length_map, List.length_take]; have := HPL.out; omega)
              generalize Hp.at_ ByteArray.empty ns j = s at *
              generalize hpq : ps ++ (ns.take j).map (fun s => (s, (k : Int))) = pq at *
              have HPQ := Lib.hid hpq
              clear he2 he3 hpq
              go_wp2
              have hbs := below_size HS.out.1.B
              have HD := Lib.hid (HS.out.1.below (below_drew (Below.refl _ _)))
              have HV := Lib.hid (Kd.R_below HS.out.2 (below_drew (Below.refl _ _)))
              have hlk1 := HD.out.grp.look (s := s) (by omega)
              have hlk2 := ((HS.out.1.grp.alloc (.cells #[.int .i64 (k : Int)] 3)).drew).look (s := s) (by omega)
              have hrw := (HD.out.grp.rows s).1
              obtain ⟨u, hu⟩ : ∃ u, (g s).getD (.slice none 0 0) = u := ⟨_, rfl⟩
              rw [hu] at hlk1 hlk2 hrw
              have HRW := Lib.hid hrw
              have HU := Lib.hid hu
              clear hu hrw
              have p1 := blk_cell HD.out.p 1
              have p1' := blk_cell HS.out.1.p 1
              have p1'' := blk_cell (blk_alloc HS.out.1.p (.cells #[.int .i64 (k : Int)] 3)) 1
              simp only [List.getElem?_toArray, List.getElem?_cons_succ, List.getElem?_cons_zero] at p1 p1' p1''
              have pl := blk_lt HS.out.1.p
              have HZ := Lib.hid (zs_len pq s)
              clear HS
              go_region_law (rw [show (wr.alloc (.cells #[.int .i64 (k : Int)] 3)).drew = (wr.drew).alloc (.cells [.int .i64 (k : Int)].toArray 3) from rfl]; refine Kd.R_append_step KI (w0 := w) w.heap.size rfl (.tmp 56) (.tmp 58) 24 3 (.int .i64 0) 8 rfl Try.underlying24 info3 rfl (by decide) (by decide) u (zsOf pq s) (k : Int) [.int .i64 (k : Int)] (fun _ => True) (fun _ => False) (by go_simp) (by go_simp) rfl (fun _ hk => hk.elim) (fun _ _ => trivial) (by (repeat (first | exact HRW.out | apply Kd.R_alloc | apply Kd.R_drewN | apply Kd.R_drew))) HD.out.B (by (first | exact hbs | (simp; omega))) (by have := HZ.out; have := HPS.out; omega) ?_; intro v1 w4 ho hb hgr hat; rw [← HU.out] at hgr hat; obtain ⟨w5, f5, g5, hrun5, hbw5, hr5⟩ := HD.out.group hsm HPS.out hgr hb ho hat HV.out; have hp4 := blk_cell (blk_grown HD.out.p hgr (Kd.R_ne (HD.out.grp.rows s).1 HD.out.p (by decide))) 1; simp only [List.getElem?_toArray, List.getElem?_cons_succ, List.getElem?_cons_zero] at hp4; have hpl4 := blk_lt (blk_grown HD.out.p hgr (Kd.R_ne (HD.out.grp.rows s).1 HD.out.p (by decide))); have H5 := Lib.hid (And.intro hbw5 hr5); clear ho hb hgr hat hbw5 hr5)
              all_goals go_wp2
              all_goals (go_roundg jq; (case measure => omega); (case rel => exact ⟨j + 1, f5, g5, by go_num, ⟨by have := HJ.out; omega⟩, ⟨by rw [HT.out, ← List.append_assoc, HPQ.out]; exact H5.out.1, H5.out.2⟩⟩))
    | succ kq =>
      have hk : k < l0.length := by have := HA.out; omega
      obtain ⟨ad, B0, d0, B1, d1, rfl, hx0, hx1, hle0, hC0, hle1, hC1⟩ := at_T50 HR0.out (k : Int) (Int.natCast_nonneg _) (by omega)
      have hB := HS.out.B
      replace hx0 := (hB.cell (World.block_lt_of_cell? w _ hx0)).trans hx0
      replace hx1 := (hB.cell (World.block_lt_of_cell? w _ hx1)).trans hx1
      simp only [Int.toNat_natCast] at hx0 hx1
      have HN := Lib.hid (names_small S0.out defB hk)
      have HC := Lib.hid (provOf_snoc hk)
      have HPL := Lib.hid (prov_len S0.out k)
      have hbs := below_size hB
      clear hB hC1 hle0 hle1
      generalize rd_T50 l0 k = x at *
      obtain ⟨x0, x1⟩ := x
      dsimp only at hx0 hx1 hC0 HN HC
      have HX := Lib.hid hC0
      clear hC0
      go_wp2_with fail
      have hBW2 := HS.out.below (below_alloc (Below.refl _ _) (.cells #[.slice B0 x0.length d0, .slice B1 x1.length d1] 50))
      clear hx0 hx1 HS
      generalize wr.alloc (.cells #[.slice B0 x0.length d0, .slice B1 x1.length d1] 50) = w2 at *
      have hC2 := Kd.C_below HX.out hBW2.B
      have hb2 := below_size hBW2.B
      have HB2 := Lib.hid hBW2
      clear hBW2
      refine (names_calls66 defB holds_defines B0 d0 x0 B1 x1.length d1 w2 hC2 (by have := HN.out.1; omega)).mono ?_
      rintro e w3 ⟨v, rfl, hR, hb3⟩
      have HB3 := Lib.hid (And.intro (HB2.out.below hb3) (Kd.R_lower hR hb2))
      have HN2 := Lib.hid HN.out.2
      clear hR hb3 hC2 HB2 HN HX hb2
      generalize namesOf defB x0 = ns at *
      obtain ⟨Av, cv, rfl⟩ := Kd.R_slice HB3.out.2
      have hnl : ns.length ≤ 1024 := HN2.out.1
      generalize hpv : provOf (l0.take k) = pv at *
      have HPV := Lib.hid hpv
      clear hpv
      go_wp2
      go_loopg [27] ns.length (fun kq v27 w' => ∃ (j : Nat), v27 = .int .i64 j ∧ Aside0 (kq + j = ns.length) ∧ Aside0 (BW w w' (.slice A1 l1.length c1) w.heap.size (w.heap.size + 1) (w.heap.size + 1 + 1) (w.heap.size + 1 + 1 + 1) (fun _ => ByteArray.empty) (fun _ => none) [] (pv ++ ns.take j) ∧ Kd.string.R 9 w' w.heap.size (fun _ => True) (.slice Av ns.length cv) ns))
      case atStart => exact ⟨0, rfl, ⟨by omega⟩, ⟨by rw [List.take_zero, List.append_nil]; exact HB3.out.1, HB3.out.2⟩⟩
      case round =>
        clear HB3
        obtain ⟨j, rfl, HJ, HS⟩ := hrel
        cases gk with
        | zero =>
          have hj : ns.length ≤ j := by have := HJ.out; omega
          have hkf : decide (j < ns.length) = false := decide_eq_false (by omega)
          have HE := HS.out.1
          rw [List.take_of_length_le hj, ← HC.out] at HE
          have HE := Lib.hid HE
          clear HS HJ hj
          go_wp2
          go_roundg kq
          case measure => omega
          case rel => exact ⟨k + 1, by go_num, ⟨by have := HA.out; omega⟩, ⟨HE.out⟩⟩
        | succ jq =>
          have hj : j < ns.length := by have := HJ.out; omega
          obtain ⟨b, c', he, _, hbl, _⟩ := Kd.R_form HS.out.2 (by omega)
          injection he with he1 he2 he3
          subst he1
          obtain ⟨hyc, _⟩ := W.row_cell HS.out.2 j hj
          have hsm : (Hp.at_ ByteArray.empty ns j).size ≤ 1048576 := by
            refine HN2.out.2 _ ?_
            unfold Hp.at_
            rw [List.getD_eq_getElem?_getD, List.getElem?_eq_getElem hj]
            exact List.getElem_mem hj
          have HT := Lib.hid (show ns.take (j + 1) = ns.take j ++ [Hp.at_ ByteArray.empty ns j] from by
            unfold Hp.at_
            rw [List.take_succ_eq_append_getElem hj, List.getD_eq_getElem?_getD, List.getElem?_eq_getElem hj]; rfl)
          have hpl : (pv ++ ns.take j).length ≤ 2097152 := by rw [List.length_append, List.length_take]; have := HPL.out; omega
          obtain ⟨w5, hrun, hbw, hr5⟩ := HS.out.1.put hsm hpl HS.out.2
          have hp2 := blk_cell HS.out.1.p 2
          simp only [List.getElem?_toArray, List.getElem?_cons_succ, List.getElem?_cons_zero] at hp2
          have hpl2 := blk_lt HS.out.1.p
          have H5 := Lib.hid (And.intro hbw hr5)
          clear he2 he3 hbw hr5 HS hpl hsm
          generalize Hp.at_ ByteArray.empty ns j = s at *
          go_wp2
          go_roundg jq
          case measure => omega
          case rel => exact ⟨j + 1, by go_num, ⟨by have := HJ.out; omega⟩, ⟨by rw [HT.out, ← List.append_assoc]; exact H5.out.1, H5.out.2⟩⟩
end Go.Proofs.Ythpjpkcfepmhkaa.PAll
namespace Go.Proofs.Ythpjpkcfepmhkaa.PAll
open Go.RowKit Go.Proofs.YthpjpkcfepmhkaaW.PrintWords Go.Proofs.YthpjpkcfepmhkaaW.PrintLast Go.Proofs.YthpjpkcfepmhkaaW.PrintMore
set_option linter.unusedVariables false
set_option linter.unusedSimpArgs false
def addL : List ByteArray → List ByteArray → List ByteArray → List ByteArray × List ByteArray
  | [], xs, sn => (xs, sn)
  | s :: ns, xs, sn => if s ∈ sn then addL ns xs sn else addL ns (Hp.push ByteArray.empty W.less xs s) (sn ++ [s])
structure WLb (w : World) (g : Nat) (v : Value) (b : Nat) (xs sn : List ByteArray) : Prop where
  hs : W.HS w g g [.map (some b)] v xs
  mp : MapV lkS w 9 b sn.length (inG sn)
  hb : g ≤ b
structure WL (w : World) (g : Nat) (v : Value) (r : Option Nat) (xs sn : List ByteArray) : Prop where
  hs : W.HS w g g [.map r] v xs
  mp : (r = none ∧ sn = []) ∨ ∃ b, r = some b ∧ MapV lkS w 9 b sn.length (inG sn) ∧ g ≤ b
section
variable {w w1 : World} {g b : Nat} {v : Value} {r : Option Nat} {xs sn : List ByteArray}
theorem WLb.wl (h : WLb w g v b xs sn) : WL w g v (some b) xs sn := ⟨h.hs, .inr ⟨b, rfl, h.mp, h.hb⟩⟩
theorem WLb.below (h : WLb w g v b xs sn) (hb : Below w.heap.size w w1) : WLb w1 g v b xs sn := ⟨W.HS_below h.hs hb, h.mp.below hb h.mp.lt, h.hb⟩
theorem WL.below (h : WL w g v r xs sn) (hb : Below w.heap.size w w1) : WL w1 g v r xs sn := by
  refine ⟨W.HS_below h.hs hb, ?_⟩
  rcases h.mp with h1 | ⟨b, h1, h2, h3⟩
  · exact .inl h1
  · exact .inr ⟨b, h1, h2.below hb h2.lt, h3⟩
theorem WL.lt (h : WL w g v r xs sn) : g < w.heap.size := blk_lt h.hs.1
/-- The names' map is made and put in its place. -/
theorem WL.made (h : WL w g v none xs sn) : WLb ((w.setCell ⟨g, 1, none⟩ (.map (some w.heap.size))).alloc (.map #[] 0)) g v w.heap.size xs sn ∧ Below g w ((w.setCell ⟨g, 1, none⟩ (.map (some w.heap.size))).alloc (.map #[] 0)) := by
  have hsn : sn = [] := by
    rcases h.mp with h1 | ⟨b, h1, _⟩
    · exact h1.2
    · cases h1
  subst hsn
  have hgl := h.lt
  have hsz : (w.setCell ⟨g, 1, none⟩ (.map (some w.heap.size))).heap.size = w.heap.size := by simp [World.setCell]
  have hs1 : W.HS (w.setCell ⟨g, 1, none⟩ (.map (some w.heap.size))) g g [.map (some w.heap.size)] v xs := ⟨blk_set h.hs.1 1 (.map (some w.heap.size)), Kd.R_set h.hs.2 h.hs.1 (by decide) _ _⟩
  have hb : Below g w (w.setCell ⟨g, 1, none⟩ (.map (some w.heap.size))) := (Below.refl g w).setCell (Nat.le_refl _) _
  refine ⟨⟨W.HS_below hs1 (below_alloc (Below.refl _ _) _), ?_, Nat.le_of_lt hgl⟩, hb.alloc (by rw [hsz]; exact Nat.le_of_lt hgl) _⟩
  rw [inG_nil]
  have hm := MapV.made lkS (w.setCell ⟨g, 1, none⟩ (.map (some w.heap.size))) 9
  rwa [hsz] at hm
/-- A name is put among those that were added. -/
theorem WLb.note (h : WLb w g v b xs sn) {s : ByteArray} (hs : s.size ≤ 1048576) (hn : sn.length ≤ 2097152) {u : Value} {ns : List ByteArray} {nb : Nat} (hR : Kd.string.R 9 w nb (fun _ => True) u ns) :
    ∃ w', (Instr.mapUpdate 81 (.map (some b)) (.string s) (.bool true)).run Try.prog w = .ok () w' ∧ WLb w' g v b xs (sn ++ [s]) ∧ Below g w w' ∧ Kd.string.R 9 w' nb (fun _ => True) u ns := by
  obtain ⟨w', h1, h2, h3⟩ := inG_store h.mp (s := s) (by omega) (by omega)
  have hgl := blk_lt h.hs.1
  refine ⟨w', h1, ⟨⟨blk_grown h.hs.1 h3 (fun e => h.mp.ne_cells h.hs.1 (Option.some.inj e).symm), rs_grown rfl h.hs.2 h3 (fun k hk e => h.mp.ne_row h.hs.2 (by rw [hk, ← e]))⟩, by rw [List.length_append]; exact h2, h.hb⟩, (Below.refl g w).grown h3 (Nat.le_of_lt hgl) (fun k hk => by cases hk; exact h.hb), rs_grown rfl hR h3 (fun k hk e => h.mp.ne_row hR (by rw [hk, ← e]))⟩
/-- A name has been pushed. -/
theorem WLb.pushed (h : WLb w g v b xs sn) {ys : List ByteArray} (hp : W.PushPost w w g g [.map (some b)] v ys w1) {u : Value} {ns : List ByteArray} {nb : Nat} (hR : Kd.string.R 9 w nb (fun _ => True) u ns) (hne : ∀ k, u.ownBlock = some k → some k ≠ v.ownBlock) :
    ∃ v1, WLb w1 g v1 b ys sn ∧ Below g w w1 ∧ Kd.string.R 9 w1 nb (fun _ => True) u ns ∧ ∀ k, u.ownBlock = some k → some k ≠ v1.ownBlock := by
  obtain ⟨A, c, h1, h2, h3, h4⟩ := hp
  refine ⟨_, ⟨h1, h.mp.same (h3.2 b h.mp.lt (fun e => h.mp.ne_cells h.hs.1 e) (h.mp.ne_row h.hs.2)), h.hb⟩, h2, rs_keep rfl hR h3 (fun k hk e => by subst e; exact Kd.R_ne hR h.hs.1 (by decide) hk.symm) hne, fun k hk e => ?_⟩
  rcases h4 with h4 | ⟨j, h4, h5⟩
  · exact hne k hk (e.trans h4)
  · rw [h4] at e
    have e := Option.some.inj e
    have := Kd.R_lt hR k hk
    omega
end
theorem addL_cons (s : ByteArray) (ns xs sn : List ByteArray) : addL (s :: ns) xs sn = if s ∈ sn then addL ns xs sn else addL ns (Hp.push ByteArray.empty W.less xs s) (sn ++ [s]) := rfl
def AddEnd (w : World) (g : Nat) (xs sn : List ByteArray) (e : Ending) (w' : World) : Prop := ∃ (n : Int) (v : Value) (b : Nat), e = .returned (.int .i64 n) ∧ WLb w' g v b xs sn ∧ Below g w w'
theorem queue_calls (g : Nat) (w : World) : Calls Try.prog 67 #[.pointer (some ⟨g, 0, none⟩)] w fun e w' => e = .returned (.iface 117 (.pointer (some ⟨g, 0, none⟩))) ∧ w = w' := by
  go_enter Try.func67, Try.ntmps67
  go_wp2
  go_ret
  exact ⟨rfl, rfl⟩
theorem wlen_calls (g : Nat) (A : Option Addr) (n c : Nat) (w : World) (h : w.cell? ⟨g, 0, none⟩ = some (.slice A n c)) (hn : (n : Int) ≤ 9223372036854775807) : Calls Try.prog 68 #[.pointer (some ⟨g, 0, none⟩)] w fun e w' => e = .returned (.int .i64 n) ∧ w = w' := by
  go_enter Try.func68, Try.ntmps68
  go_wp2
  go_ret
  exact ⟨rfl, rfl⟩
set_option maxRecDepth 10000 in
set_option maxHeartbeats 8000000 in
theorem add_calls (g : Nat) (v : Value) (r : Option Nat) (xs sn : List ByteArray) (w : World) (hw : WL w g v r xs sn) (u : Value) (ns : List ByteArray) (nb : Nat) (hR : Kd.string.R 9 w nb (fun _ => True) u ns) (hne : ∀ k, u.ownBlock = some k → some k ≠ v.ownBlock)
    (hns : ∀ s, s ∈ ns → s.size ≤ 1048576) (hnl : ns.length ≤ 1048576) (hxl : xs.length ≤ 1048576) (hsl : sn.length ≤ 1048576) :
    Calls Try.prog 50 #[.pointer (some ⟨g, 0, none⟩), u] w fun e w' => AddEnd w g (addL ns xs sn).1 (addL ns xs sn).2 e w' := by
  have hu89 := Try.underlying89
  have hmm := @run_makeMap Try.prog
  have hqm : ∀ (w : World) (r : Option Nat), (binOp .eql 81 (.map r) (.map none)).run Try.prog w = .ok (.bool r.isNone) w := fun w r => run_eql_map_nil w _ _ _ r Try.underlying81
  obtain ⟨Au, cu, rfl⟩ := Kd.R_slice hR
  have hm1 := blk_cell hw.hs.1 1
  simp only [List.getElem?_toArray, List.getElem?_cons_succ, List.getElem?_cons_zero] at hm1
  have hgl := hw.lt
  have HW := Lib.hid hw
  have HR := Lib.hid hR
  have HNE := Lib.hid hne
  have HNS := Lib.hid hns
  clear hw hR hne hns
  go_enter Try.func50, Try.ntmps50
  go_upto_if 14 with (fail)
  go_cut [] (fun wx => ∃ (b : Nat), Aside0 (WLb wx g v b xs sn ∧ Below g w wx ∧ Kd.string.R 9 wx nb (fun _ => True) (.slice Au ns.length cu) ns))
  case first =>
    have hz1 := blk_frozen HW.out.hs.1 1
    cases r with
    | some b =>
      go_wp2
      go_meet
      refine ⟨b, ⟨⟨HW.out.hs, ?_, ?_⟩, Below.refl _ _, HR.out⟩⟩
      · rcases HW.out.mp with h1 | ⟨b', h1, h2, h3⟩
        · cases h1.1
        · cases h1; exact h2
      · rcases HW.out.mp with h1 | ⟨b', h1, h2, h3⟩
        · cases h1.1
        · cases h1; exact h3
    | none =>
      have HM := Lib.hid HW.out.made
      have hz2 := blk_frozen (blk_alloc HW.out.hs.1 (.map #[] 0)) 1
      have hm2 := blk_cell (blk_alloc HW.out.hs.1 (.map #[] 0)) 1
      simp only [List.getElem?_toArray, List.getElem?_cons_succ, List.getElem?_cons_zero] at hm2
      have hR2 := Kd.R_below (Kd.R_set HR.out HW.out.hs.1 (by decide) 1 (.map (some w.heap.size))) (below_alloc (Below.refl _ _) (.map #[] 0))
      have HR2 := Lib.hid hR2
      clear hR2
      go_wp2
      go_meet
      exact ⟨_, ⟨HM.out.1, HM.out.2, HR2.out⟩⟩
  case rest =>
    obtain ⟨b, HX⟩ := hcut
    clear hm1 hmm hqm HW HR
    go_wp2
    go_loopg [5, 21] ns.length (fun kq v5 v21 w' => ∃ (j n : Nat) (v : Value) (ys tn : List ByteArray), v5 = .int .i64 n ∧ v21 = .int .i64 j ∧ Aside0 (kq + j = ns.length ∧ n ≤ j ∧ addL (ns.drop j) ys tn = addL ns xs sn ∧ ys.length ≤ xs.length + j ∧ tn.length ≤ sn.length + j) ∧ Aside0 (WLb w' g v b ys tn ∧ Below g w w' ∧ Kd.string.R 9 w' nb (fun _ => True) (.slice Au ns.length cu) ns ∧ ∀ k, (Value.slice Au ns.length cu).ownBlock = some k → some k ≠ v.ownBlock))
    case atStart => exact ⟨0, 0, v, xs, sn, rfl, rfl, ⟨by omega, by omega, by rw [List.drop_zero], by omega, by omega⟩, ⟨HX.out.1, HX.out.2.1, HX.out.2.2, HNE.out⟩⟩
    case round =>
      clear HX HNE
      obtain ⟨j, n, v, ys, tn, rfl, rfl, HA, HS⟩ := hrel
      obtain ⟨hA1, hA2, hA3, hA4, hA5⟩ := HA.out
      cases gk with
      | zero =>
        have hj : ns.length ≤ j := by omega
        have hkf : decide (j < ns.length) = false := decide_eq_false (by omega)
        rw [List.drop_eq_nil_of_le hj] at hA3
        have HE := Lib.hid hA3
        clear hA1 hA3 HA hj
        go_wp2
        go_ret
        refine ⟨n, v, b, rfl, ?_, HS.out.2.1⟩
        rw [← HE.out]
        exact HS.out.1
      | succ jq =>
        have hj : j < ns.length := by omega
        obtain ⟨c, c', he, _, hbl, _⟩ := Kd.R_form HS.out.2.2.1 (by omega)
        injection he with he1 he2 he3
        subst he1
        obtain ⟨hyc, _⟩ := W.row_cell HS.out.2.2.1 j hj
        have hse : Hp.at_ ByteArray.empty ns j = ns[j] := by
          unfold Hp.at_
          rw [List.getD_eq_getElem?_getD, List.getElem?_eq_getElem hj]; rfl
        have hsm : (Hp.at_ ByteArray.empty ns j).size ≤ 1048576 := by rw [hse]; exact HNS.out _ (List.getElem_mem hj)
        rw [List.drop_eq_getElem_cons hj, ← hse, addL_cons] at hA3
        have HT := Lib.hid hA3
        clear he2 he3 hse hA3
        generalize Hp.at_ ByteArray.empty ns j = s at *
        have hlk := inG_look HS.out.1.mp (s := s) (by omega)
        have hm2 := blk_cell HS.out.1.hs.1 1
        simp only [List.getElem?_toArray, List.getElem?_cons_succ, List.getElem?_cons_zero] at hm2
        have hgl2 := blk_lt HS.out.1.hs.1
        by_cases hin : s ∈ tn
        · have ht := HT.out
          rw [if_pos hin] at ht
          have HT2 := Lib.hid ht
          rw [decide_eq_true hin] at hlk
          have HIN := Lib.hid hin
          clear ht hin HT
          go_wp2
          go_roundg jq
          case measure => omega
          case rel => exact ⟨j + 1, n, v, ys, tn, rfl, by go_num, ⟨by omega, by omega, HT2.out, by omega, by omega⟩, ⟨HS.out⟩⟩
        · have ht := HT.out
          rw [if_neg hin] at ht
          have HT2 := Lib.hid ht
          rw [decide_eq_false hin] at hlk
          obtain ⟨w3, hrun, hb3, hbel3, hR3⟩ := HS.out.1.note hsm (by omega) HS.out.2.2.1
          have H3 := Lib.hid (And.intro hb3 (And.intro (HS.out.2.1.trans hbel3) hR3))
          have HNE3 := Lib.hid HS.out.2.2.2
          clear ht hin HT hb3 hbel3 hR3 HS
          have hgl3 := blk_lt H3.out.1.hs.1
          go_wp2_with (go_at_call 67; refine (queue_calls g w3).mono ?_; rintro e w4 ⟨rfl, rfl⟩)
          refine (W.push_calls w3 w3 g g [.map (some b)] v ys s H3.out.1.hs (Below.refl _ _) (Nat.le_of_lt hgl3) (Nat.le_refl _) (by omega)).mono ?_
          rintro e w5 ⟨rfl, hp⟩
          obtain ⟨v1, hb5, hbel5, hR5, hne5⟩ := H3.out.1.pushed hp H3.out.2.2 HNE3.out
          have H5 := Lib.hid (And.intro hb5 (And.intro (H3.out.2.1.trans hbel5) (And.intro hR5 hne5)))
          have HPL := Lib.hid (Hp.push_length (d := ByteArray.empty) (less := W.less) ys s)
          clear hp hb5 hbel5 hR5 hne5 H3 HNE3
          go_wp2
          go_roundg jq
          case measure => omega
          case rel => exact ⟨j + 1, n + 1, v1, _, tn ++ [s], by go_num, by go_num, ⟨by omega, by omega, HT2.out, by rw [HPL.out]; omega, by rw [List.length_append, List.length_singleton]; omega⟩, ⟨H5.out⟩⟩
def TakeEnd0 (w : World) (e : Ending) (w' : World) : Prop := e = .returned (.tuple #[.string ⟨#[]⟩, .bool false]) ∧ w = w'
def TakeEnd1 (w : World) (g : Nat) (r : Option Nat) (xs sn : List ByteArray) (e : Ending) (w' : World) : Prop := ∃ v : Value, e = .returned (.tuple #[.string (Hp.at_ ByteArray.empty xs 0), .bool true]) ∧ WL w' g v r (Hp.pop ByteArray.empty W.less xs) sn ∧ Below g w w'
theorem take0_calls (g : Nat) (v : Value) (r : Option Nat) (xs sn : List ByteArray) (w : World) (hw : WL w g v r xs sn) (h0 : xs.length = 0) :
    Calls Try.prog 53 #[.pointer (some ⟨g, 0, none⟩)] w fun e w' => TakeEnd0 w e w' := by
  have hc := W.HS_cell hw.hs
  obtain ⟨A, c, rfl⟩ := Kd.R_slice hw.hs.2
  rw [h0] at hc
  clear hw h0
  go_enter Try.func53, Try.ntmps53
  go_wp2_with (go_at_call 68; refine (wlen_calls g A 0 c w hc (by omega)).mono ?_; rintro e w4 ⟨rfl, rfl⟩)
  go_ret2
  exact ⟨rfl, rfl⟩
theorem WL.popped {w w1 : World} {g : Nat} {A : Option Addr} {c : Nat} {r : Option Nat} {xs sn : List ByteArray} (h : WL w g (.slice A xs.length c) r xs sn) (hp : W.PopPost w w g g [.map r] A c xs w1) : ∃ v1, WL w1 g v1 r (Hp.pop ByteArray.empty W.less xs) sn ∧ Below g w w1 := by
  obtain ⟨h1, h2, h3⟩ := hp
  refine ⟨_, ⟨h1, ?_⟩, h2⟩
  rcases h.mp with h4 | ⟨b, h4, h5, h6⟩
  · exact .inl h4
  · exact .inr ⟨b, h4, h5.same (h3.2 b h5.lt (fun e => h5.ne_cells h.hs.1 e) (h5.ne_row h.hs.2)), h6⟩
set_option maxRecDepth 10000 in
set_option maxHeartbeats 1000000 in
theorem take1_calls (g : Nat) (v : Value) (r : Option Nat) (xs sn : List ByteArray) (w : World) (hw : WL w g v r xs sn) (hp : 0 < xs.length) (hl : xs.length ≤ 1099511627776) :
    Calls Try.prog 53 #[.pointer (some ⟨g, 0, none⟩)] w fun e w' => TakeEnd1 w g r xs sn e w' := by
  have hta : ∀ (s : ByteArray) (W : World), (Instr.typeAssert (.iface 9 (.string s)) 20 9 true).run Try.prog W = .ok (.tuple #[.string s, .bool true]) W := fun v W => by rfl
  have hc := W.HS_cell hw.hs
  obtain ⟨A, c, rfl⟩ := Kd.R_slice hw.hs.2
  have hgl := hw.lt
  have HW := Lib.hid hw
  have hz : ((xs.length : Int) == 0) = false := beq_eq_false_iff_ne.mpr (by omega)
  clear hw
  go_enter Try.func53, Try.ntmps53
  go_wp2_with (first | (go_at_call 68; refine (wlen_calls g A xs.length c w hc (by omega)).mono ?_; rintro e w4 ⟨rfl, rfl⟩) | (go_at_call 67; refine (queue_calls g w).mono ?_; rintro e w4 ⟨rfl, rfl⟩))
  refine (W.pop_calls w w g g [.map r] A c xs HW.out.hs (Below.refl _ _) (Nat.le_of_lt hgl) (Nat.le_refl _) hp (by omega)).mono ?_
  rintro e w5 ⟨rfl, hpp⟩
  obtain ⟨v1, h1, h2⟩ := HW.out.popped hpp
  have H5 := Lib.hid (And.intro h1 h2)
  clear hpp h1 h2 HW hc
  go_wp2
  go_ret2
  exact ⟨v1, rfl, H5.out⟩
end Go.Proofs.Ythpjpkcfepmhkaa.PAll
namespace Go.Proofs.Ythpjpkcfepmhkaa.PAll
open Go.RowKit Go.Proofs.YthpjpkcfepmhkaaW.PrintWords Go.Proofs.YthpjpkcfepmhkaaW.PrintLast Go.Proofs.YthpjpkcfepmhkaaW.PrintMore
set_option linter.unusedVariables false
set_option linter.unusedSimpArgs false
def fewN (xs sn : List ByteArray) : Bool := decide (xs.length ≤ 1048576) && decide (sn.length ≤ 1048576)
theorem fewN_iff {xs sn : List ByteArray} : fewN xs sn = true ↔ xs.length ≤ 1048576 ∧ sn.length ≤ 1048576 := by unfold fewN; simp
/-- The names that the objects refer to. -/
def seedN : List S50 → List ByteArray → List ByteArray → Option (List ByteArray × List ByteArray)
  | [], xs, sn => some (xs, sn)
  | o :: r, xs, sn => if fewN xs sn = true then seedN r (addL (namesOf refB o.f0) xs sn).1 (addL (namesOf refB o.f0) xs sn).2 else none
/-- A name's definers. -/
def visitN (ms : List S50) : List Int → List ByteArray → List ByteArray → List Int → Option (List ByteArray × List ByteArray × List Int)
  | [], xs, sn, nd => some (xs, sn, nd)
  | i :: r, xs, sn, nd => if i ∈ nd then visitN ms r xs sn nd else
      if fewN xs sn = true ∧ nd.length ≤ 1048576 then visitN ms r (addL (namesOf refB (rd_T50 ms i).f0) xs sn).1 (addL (namesOf refB (rd_T50 ms i).f0) xs sn).2 (nd ++ [i]) else none
def runN (pv : List ByteArray) (ps : List (ByteArray × Int)) (ms : List S50) : Nat → List ByteArray → List ByteArray → List Int → Option (List Int)
  | 0, _, _, _ => none
  | k + 1, xs, sn, nd => if xs.length = 0 then some nd else if 1048576 < xs.length ∨ 1048576 < (Hp.at_ ByteArray.empty xs 0).size then none else
      if Hp.at_ ByteArray.empty xs 0 ∈ pv then runN pv ps ms k (Hp.pop ByteArray.empty W.less xs) sn nd else
        (visitN ms (zsOf ps (Hp.at_ ByteArray.empty xs 0)) (Hp.pop ByteArray.empty W.less xs) sn nd).bind fun r => runN pv ps ms k r.1 r.2.1 r.2.2
def pickN (nd : List Int) (k : Nat) : List Int := ((List.range k).map fun i : Nat => (i : Int)).filter fun i => decide (i ∈ nd)
theorem pickN_succ (nd : List Int) (k : Nat) : pickN nd (k + 1) = if (k : Int) ∈ nd then pickN nd k ++ [(k : Int)] else pickN nd k := by
  unfold pickN
  rw [List.range_succ, List.map_append, List.filter_append]
  by_cases e : (k : Int) ∈ nd
  · rw [if_pos e]; simp [e]
  · rw [if_neg e]; simp [e]
theorem pickN_len (nd : List Int) : ∀ k, (pickN nd k).length ≤ k
  | 0 => by simp [pickN]
  | k + 1 => by
    have := pickN_len nd k
    rw [pickN_succ]
    split
    · rw [List.length_append, List.length_singleton]; omega
    · omega
def closure_Needed.f (os ms : List S50) : Option (List Int) :=
  if smallL os = true ∧ smallL ms = true then
    (seedN os [] []).bind fun a => (runN (provOf os) (prsOf ms 0) ms 1048576 a.1 a.2 []).bind fun nd => some (pickN nd ms.length)
  else none
/-- The definers are numbers of members. -/
theorem prs_in : ∀ (l : List S50) (i : Nat) (p : ByteArray × Int), p ∈ prsOf l i → ∃ q, q < l.length ∧ p.2 = ((i + q : Nat) : Int)
  | [], i, p, h => by simp [prsOf] at h
  | o :: r, i, p, h => by
    unfold prsOf at h
    rcases List.mem_append.1 h with h | h
    · obtain ⟨s, _, rfl⟩ := List.mem_map.1 h
      exact ⟨0, by simp, rfl⟩
    · obtain ⟨q, h1, h2⟩ := prs_in r (i + 1) p h
      exact ⟨q + 1, by simp only [List.length_cons]; omega, by rw [h2]; omega⟩
theorem zs_in {l : List S50} {s : ByteArray} {i : Int} (h : i ∈ zsOf (prsOf l 0) s) : ∃ q : Nat, q < l.length ∧ i = (q : Int) := by
  unfold zsOf at h
  obtain ⟨p, hp, rfl⟩ := List.mem_map.1 h
  obtain ⟨q, h1, h2⟩ := prs_in l 0 p (List.mem_filter.1 hp).1
  exact ⟨q, h1, by rw [h2]; omega⟩
structure NW (w1 wr : World) (vm : Value) (bd bp g5 nb gw : Nat) (nd : List Int) (v : Value) (r : Option Nat) (xs sn : List ByteArray) : Prop where
  B : Below w1.heap.size w1 wr
  p : wr.heap[g5]? = some (.cells #[vm, .map (some bd), .map (some bp)] 83 (0, 0))
  nd : MapV lkI wr 3 nb nd.length (inN nd)
  wl : WL wr gw v r xs sn
  h5 : w1.heap.size ≤ g5
  hn : w1.heap.size ≤ nb
  hg5 : g5 < gw
  hnb : nb < gw
section
variable {w1 wr w2 : World} {vm : Value} {bd bp g5 nb gw : Nat} {nd : List Int} {v : Value} {r : Option Nat} {xs sn : List ByteArray}
theorem NW.below (h : NW w1 wr vm bd bp g5 nb gw nd v r xs sn) (hb : Below wr.heap.size wr w2) : NW w1 w2 vm bd bp g5 nb gw nd v r xs sn :=
  ⟨below_then h.B h.B.size hb, blk_below h.p hb, h.nd.below hb h.nd.lt, h.wl.below hb, h.h5, h.hn, h.hg5, h.hnb⟩
/-- The worklist has turned. -/
theorem NW.list (h : NW w1 wr vm bd bp g5 nb gw nd v r xs sn) {v' : Value} {r' : Option Nat} {ys tn : List ByteArray} (hw : WL w2 gw v' r' ys tn) (hb : Below gw wr w2) : NW w1 w2 vm bd bp g5 nb gw nd v' r' ys tn :=
  ⟨h.B.trans (hb.mono (by have := h.h5; have := h.hg5; omega)), (hb.block g5 h.hg5).trans h.p, h.nd.below hb h.hnb, hw, h.h5, h.hn, h.hg5, h.hnb⟩
/-- A number is put among the needed ones. -/
theorem NW.need (h : NW w1 wr vm bd bp g5 nb gw nd v r xs sn) {i : Nat} (hi : i < 1048576) (hn : nd.length ≤ 1048576) :
    ∃ w', (Instr.mapUpdate 85 (.map (some nb)) (.int .i64 (i : Int)) (.bool true)).run Try.prog wr = .ok () w' ∧ NW w1 w' vm bd bp g5 nb gw (nd ++ [(i : Int)]) v r xs sn := by
  obtain ⟨w', h1, h2, h3⟩ := inN_store h.nd (s := (i : Int)) (by omega) (by omega) (by omega)
  refine ⟨w', h1, ⟨h.B.grown h3 h.B.size (fun k hk => by cases hk; exact h.hn), blk_grown h.p h3 (fun e => h.nd.ne_cells h.p (Option.some.inj e).symm), by rw [List.length_append]; exact h2, ?_, h.h5, h.hn, h.hg5, h.hnb⟩⟩
  refine ⟨⟨blk_grown h.wl.hs.1 h3 (fun e => h.nd.ne_cells h.wl.hs.1 (Option.some.inj e).symm), rs_grown rfl h.wl.hs.2 h3 (fun k hk e => h.nd.ne_row h.wl.hs.2 (by rw [hk, ← e]))⟩, ?_⟩
  rcases h.wl.mp with h4 | ⟨b, h4, h5, h6⟩
  · exact .inl h4
  · exact .inr ⟨b, h4, h5.grown h3 (fun e => by have := Option.some.inj e; have := h.hnb; omega), h6⟩
theorem NW.start (w1 : World) (vm : Value) (bd bp : Nat) : NW w1 (((w1.alloc (.cells #[vm, .map (some bd), .map (some bp)] 83)).alloc (.map #[] 0)).alloc (.cells #[.slice none 0 0, .map none] 89)) vm bd bp w1.heap.size (w1.heap.size + 1) (w1.heap.size + 1 + 1) [] (.slice none 0 0) none [] [] := by
  have z1 : (w1.alloc (.cells #[vm, .map (some bd), .map (some bp)] 83)).heap.size = w1.heap.size + 1 := by go_simp
  have b1 := below_alloc (Below.refl w1.heap.size w1) (.cells #[vm, .map (some bd), .map (some bp)] 83)
  have r1 := heap_alloc_new w1 (.cells #[vm, .map (some bd), .map (some bp)] 83)
  generalize w1.alloc (.cells #[vm, .map (some bd), .map (some bp)] 83) = w2 at *
  have z2 : (w2.alloc (.map #[] 0)).heap.size = w1.heap.size + 1 + 1 := by rw [← z1]; go_simp
  have b2 := below_alloc (Below.refl w2.heap.size w2) (.map #[] 0)
  have m2 := MapV.made lkI w2 3
  rw [z1] at m2
  generalize w2.alloc (.map #[] 0) = w3 at *
  have b3 := below_alloc (Below.refl w3.heap.size w3) (.cells #[.slice none 0 0, .map none] 89)
  have r3 := heap_alloc_new w3 (.cells #[.slice none 0 0, .map none] 89)
  rw [z2] at r3
  generalize w3.alloc (.cells #[.slice none 0 0, .map none] 89) = w4 at *
  refine ⟨below_then (below_then b1 (by omega) b2) (by omega) b3, blk_below (blk_below r1 b2) b3, by rw [inN_nil]; exact m2.below b3 m2.lt, ⟨⟨r3, Kd.R_nil _ _ _ _ _⟩, .inl ⟨rfl, rfl⟩⟩, by omega, by omega, by omega, by omega⟩
end
end Go.Proofs.Ythpjpkcfepmhkaa.PAll
namespace Go.Proofs.Ythpjpkcfepmhkaa.Bytes
theorem less_cons (a b : UInt8) (x y : List UInt8) : Op.bytesLess (a :: x) (b :: y) = (decide (a < b) || (a == b && Op.bytesLess x y)) := rfl
theorem less_nil (x : List UInt8) : Op.bytesLess x [] = false := by cases x <;> rfl
theorem less_iff (a b : UInt8) (x y : List UInt8) : Op.bytesLess (a :: x) (b :: y) = true ↔ a.toNat < b.toNat ∨ a.toNat = b.toNat ∧ Op.bytesLess x y = true := by
  rw [less_cons]
  simp only [Bool.or_eq_true, decide_eq_true_eq, Bool.and_eq_true, beq_iff_eq, UInt8.lt_iff_toNat_lt, ← UInt8.toNat_inj]
theorem less_false (a b : UInt8) (x y : List UInt8) : Op.bytesLess (a :: x) (b :: y) = false ↔ b.toNat < a.toNat ∨ a.toNat = b.toNat ∧ Op.bytesLess x y = false := by
  have h := less_iff a b x y
  cases h1 : Op.bytesLess (a :: x) (b :: y)
  · have h' : ¬ (a.toNat < b.toNat ∨ a.toNat = b.toNat ∧ Op.bytesLess x y = true) := fun z => by have := h.2 z; rw [h1] at this; cases this
    simp only [true_iff]
    cases h2 : Op.bytesLess x y
    · by_cases e : a.toNat = b.toNat
      · exact .inr ⟨e, rfl⟩
      · exact .inl (by omega)
    · rw [h2] at h'
      left
      have : ¬ (a.toNat = b.toNat) := fun e => h' (.inr ⟨e, rfl⟩)
      omega
  · have h' := h.1 h1
    simp only [Bool.true_eq_false, false_iff]
    rintro (h3 | ⟨h3, h4⟩)
    · omega
    · rcases h' with h' | ⟨_, h'⟩
      · omega
      · rw [h4] at h'; cases h'
theorem asym : ∀ x y : List UInt8, Op.bytesLess x y = true → Op.bytesLess y x = false
  | _, [], h => by rw [less_nil] at h; cases h
  | [], b :: y, _ => less_nil _
  | a :: x, b :: y, h => by
    rw [less_iff] at h
    rw [less_false]
    rcases h with h | ⟨h, h2⟩
    · exact .inl h
    · exact .inr ⟨h.symm, asym x y h2⟩
/-- Not less is a total order's other side: it chains. -/
theorem neg_trans : ∀ x y z : List UInt8, Op.bytesLess y x = false → Op.bytesLess z y = false → Op.bytesLess z x = false
  | [], y, z, _, _ => less_nil _
  | a :: x, [], z, h, _ => by cases h
  | a :: x, b :: y, [], _, h => by cases h
  | a :: x, b :: y, c :: z, h1, h2 => by
    rw [less_false] at h1 h2 ⊢
    rcases h1 with h1 | ⟨h1, h1'⟩ <;> rcases h2 with h2 | ⟨h2, h2'⟩
    · exact .inl (by omega)
    · exact .inl (by omega)
    · exact .inl (by omega)
    · exact .inr ⟨by omega, neg_trans x y z h1' h2'⟩
end Go.Proofs.Ythpjpkcfepmhkaa.Bytes
namespace Go.Proofs.Ythpjpkcfepmhkaa.PAll
open Go.RowKit Go.Proofs.YthpjpkcfepmhkaaW.PrintWords Go.Proofs.YthpjpkcfepmhkaaW.PrintLast Go.Proofs.YthpjpkcfepmhkaaW.PrintMore
set_option linter.unusedVariables false
set_option linter.unusedSimpArgs false
def LeadsP (os : List S50) (o m : S50) : Prop := ∃ s, s ∈ namesOf defB m.f0 ∧ s ∈ namesOf refB o.f0 ∧ s ∉ provOf os
inductive Rch (os ms : List S50) : Nat → Prop where
  | base (q : Nat) (o : S50) : q < ms.length → o ∈ os → LeadsP os o (rd_T50 ms q) → Rch os ms q
  | step (k q : Nat) : Rch os ms k → q < ms.length → LeadsP os (rd_T50 ms k) (rd_T50 ms q) → Rch os ms q
theorem Rch.lt {os ms : List S50} {q : Nat} (h : Rch os ms q) : q < ms.length := by
  cases h with
  | base _ _ h _ _ => exact h
  | step _ _ _ h _ => exact h
theorem prs_mem : ∀ (l : List S50) (i : Nat) (s : ByteArray) (x : Int), (s, x) ∈ prsOf l i ↔ ∃ (q : Nat) (hq : q < l.length), x = ((i + q : Nat) : Int) ∧ s ∈ namesOf defB l[q].f0
  | [], i, s, x => by simp [prsOf]
  | o :: r, i, s, x => by
    unfold prsOf
    rw [List.mem_append, prs_mem r (i + 1), List.mem_map]
    constructor
    · rintro (⟨t, h1, h2⟩ | ⟨q, hq, h1, h2⟩)
      · cases h2
        exact ⟨0, by simp, rfl, h1⟩
      · exact ⟨q + 1, by simp only [List.length_cons]; omega, by rw [h1]; omega, h2⟩
    · rintro ⟨q, hq, h1, h2⟩
      cases q with
      | zero => exact .inl ⟨s, h2, by rw [h1]; rfl⟩
      | succ q => exact .inr ⟨q, by simp only [List.length_cons] at hq; omega, by rw [h1]; omega, h2⟩
theorem zs_mem {ms : List S50} {s : ByteArray} {x : Int} : x ∈ zsOf (prsOf ms 0) s ↔ ∃ q : Nat, q < ms.length ∧ x = (q : Int) ∧ s ∈ namesOf defB (rd_T50 ms q).f0 := by
  unfold zsOf
  rw [List.mem_map]
  constructor
  · rintro ⟨⟨t, y⟩, h1, rfl⟩
    obtain ⟨h2, h3⟩ := List.mem_filter.1 h1
    have h3 : t = s := of_decide_eq_true h3
    subst h3
    obtain ⟨q, hq, h4, h5⟩ := (prs_mem ms 0 t y).1 h2
    exact ⟨q, hq, by rw [h4]; omega, by rw [rd50 hq]; exact h5⟩
  · rintro ⟨q, hq, rfl, h⟩
    rw [rd50 hq] at h
    exact ⟨(s, (q : Int)), List.mem_filter.2 ⟨(prs_mem ms 0 s (q : Int)).2 ⟨q, hq, by omega, h⟩, by simp⟩, rfl⟩
theorem less_ordW : Hp.Ord W.less := ⟨fun a b h => Bytes.asym _ _ h, fun a b c h1 h2 => Bytes.neg_trans _ _ _ h1 h2⟩
structure LI (xs sn : List ByteArray) : Prop where
  heap : Hp.Heap ByteArray.empty W.less xs xs.length 0
  xn : xs.Nodup
  xin : ∀ s, s ∈ xs → s ∈ sn
  sn : sn.Nodup
theorem addL_spec : ∀ (ns xs sn : List ByteArray), LI xs sn → LI (addL ns xs sn).1 (addL ns xs sn).2 ∧ (∀ s, s ∈ (addL ns xs sn).2 ↔ s ∈ sn ∨ s ∈ ns) ∧ (∀ s, s ∈ (addL ns xs sn).1 ↔ s ∈ xs ∨ (s ∈ ns ∧ s ∉ sn)) ∧ (addL ns xs sn).1.length + sn.length = (addL ns xs sn).2.length + xs.length
  | [], xs, sn, h => by
    exact ⟨h, fun s => by simp [addL], fun s => by simp [addL], Nat.add_comm _ _⟩
  | n :: ns, xs, sn, h => by
    rw [addL_cons]
    by_cases c : n ∈ sn
    · rw [if_pos c]
      obtain ⟨h1, h2, h3, h4⟩ := addL_spec ns xs sn h
      refine ⟨h1, fun s => ?_, fun s => ?_, h4⟩
      · rw [h2, List.mem_cons]
        constructor
        · rintro (h | h)
          · exact .inl h
          · exact .inr (.inr h)
        · rintro (h | rfl | h)
          · exact .inl h
          · exact .inl c
          · exact .inr h
      · rw [h3, List.mem_cons]
        constructor
        · rintro (h | ⟨h, h'⟩)
          · exact .inl h
          · exact .inr ⟨.inr h, h'⟩
        · rintro (h | ⟨rfl | h, h'⟩)
          · exact .inl h
          · exact absurd c h'
          · exact .inr ⟨h, h'⟩
    · rw [if_neg c]
      obtain ⟨p1, p2⟩ := Hp.push_spec (d := ByteArray.empty) less_ordW xs n h.heap
      have hpl : (Hp.push ByteArray.empty W.less xs n).length = xs.length + 1 := Hp.push_length _ _
      have hnx : n ∉ xs := fun hm => c (h.xin n hm)
      obtain ⟨h1, h2, h3, h4⟩ := addL_spec ns (Hp.push ByteArray.empty W.less xs n) (sn ++ [n]) ⟨by rw [hpl]; exact p1, p2.symm.nodup_iff.1 (List.nodup_cons.2 ⟨hnx, h.xn⟩), fun s hs => by
        rcases List.mem_cons.1 (p2.mem_iff.1 hs) with rfl | hs
        · simp
        · exact List.mem_append_left _ (h.xin s hs), by
        rw [List.nodup_append]
        exact ⟨h.sn, by simp, fun a ha b hb => by rw [List.mem_singleton] at hb; rintro rfl; exact c (hb ▸ ha)⟩⟩
      refine ⟨h1, fun s => ?_, fun s => ?_, ?_⟩
      · rw [h2, List.mem_append, List.mem_singleton, List.mem_cons]
        constructor
        · rintro ((h | h) | h)
          · exact .inl h
          · exact .inr (.inl h)
          · exact .inr (.inr h)
        · rintro (h | h | h)
          · exact .inl (.inl h)
          · exact .inl (.inr h)
          · exact .inr h
      · rw [h3, p2.mem_iff, List.mem_cons, List.mem_cons, List.mem_append, List.mem_singleton]
        constructor
        · rintro ((rfl | h) | ⟨h, h'⟩)
          · exact .inr ⟨.inl rfl, c⟩
          · exact .inl h
          · exact .inr ⟨.inr h, fun h2 => h' (.inl h2)⟩
        · rintro (h | ⟨h, h'⟩)
          · exact .inl (.inr h)
          · by_cases e : s = n
            · exact .inl (.inl e)
            · exact .inr ⟨h.resolve_left e, fun h2 => h2.elim h' e⟩
      · rw [hpl, List.length_append, List.length_singleton] at h4
        omega
def allRefs (os ms : List S50) : List ByteArray := (os ++ ms).flatMap fun o => namesOf refB o.f0
theorem sub_len : ∀ (a b : List ByteArray), a.Nodup → (∀ s, s ∈ a → s ∈ b) → a.length ≤ b.length
  | [], b, _, _ => by simp
  | x :: a, b, hn, h => by
    rw [List.nodup_cons] at hn
    have hx := h x (List.mem_cons_self ..)
    have h1 := sub_len a (b.filter fun y => !decide (y = x)) hn.2 (fun s hs => List.mem_filter.2 ⟨h s (List.mem_cons_of_mem _ hs), by
      have : s ≠ x := fun e => hn.1 (by rw [← e]; exact hs)
      simp [this]⟩)
    have h2 : (b.filter fun y => !decide (y = x)).length < b.length := List.length_filter_lt_length_iff_exists.2 ⟨x, hx, by simp⟩
    rw [List.length_cons]
    omega
theorem pigeonI : ∀ (N : Nat) (l : List Int), l.Nodup → (∀ x, x ∈ l → 0 ≤ x ∧ x < N) → l.length ≤ N
  | 0, [], _, _ => by simp
  | 0, x :: l, _, h => by have := h x (List.mem_cons_self ..); omega
  | N + 1, l, hn, h => by
    have h1 := pigeonI N (l.erase (N : Int)) (hn.erase _) (fun x hx => by
      have h2 := h x (List.mem_of_mem_erase hx)
      have h3 : x ≠ (N : Int) := fun e => by
        rw [e, hn.mem_erase_iff] at hx
        exact hx.1 rfl
      omega)
    by_cases hm : (N : Int) ∈ l
    · rw [List.length_erase_of_mem hm] at h1; omega
    · rw [List.erase_of_not_mem hm] at h1; omega
end Go.Proofs.Ythpjpkcfepmhkaa.PAll
namespace Go.Proofs.Ythpjpkcfepmhkaa.PAll
open Go.RowKit Go.Proofs.YthpjpkcfepmhkaaW.PrintWords Go.Proofs.YthpjpkcfepmhkaaW.PrintLast Go.Proofs.YthpjpkcfepmhkaaW.PrintMore
set_option linter.unusedVariables false
set_option linter.unusedSimpArgs false
/-- What holds of Needed's state: the names that were added come from what refers; all that refers has been added. -/
structure NI (os ms : List S50) (xs sn : List ByteArray) (nd : List Int) : Prop where
  li : LI xs sn
  src : ∀ s, s ∈ sn → (∃ o, o ∈ os ∧ s ∈ namesOf refB o.f0) ∨ ∃ q : Nat, q < ms.length ∧ (q : Int) ∈ nd ∧ s ∈ namesOf refB (rd_T50 ms q).f0
  nn : nd.Nodup
  ndr : ∀ i, i ∈ nd → ∃ q : Nat, q < ms.length ∧ i = (q : Int) ∧ Rch os ms q ∧ ∀ s, s ∈ namesOf refB (rd_T50 ms q).f0 → s ∈ sn
  osr : ∀ o, o ∈ os → ∀ s, s ∈ namesOf refB o.f0 → s ∈ sn
/-- .. and what was taken has been seen to. -/
def Seen (os ms : List S50) (xs sn : List ByteArray) (nd : List Int) (cur : ByteArray → Prop) : Prop := ∀ s, s ∈ sn → s ∉ xs → ¬ cur s → s ∈ provOf os ∨ ∀ i, i ∈ zsOf (prsOf ms 0) s → i ∈ nd
theorem rd50_mem {ms : List S50} {q : Nat} (h : q < ms.length) : rd_T50 ms (q : Int) ∈ ms := by rw [rd50 h]; exact List.getElem_mem h
section
variable {os ms : List S50} {xs sn : List ByteArray} {nd : List Int}
theorem NI.sub (h : NI os ms xs sn nd) : ∀ s, s ∈ sn → s ∈ allRefs os ms := by
  intro s hs
  unfold allRefs
  rw [List.mem_flatMap]
  rcases h.src s hs with ⟨o, ho, h1⟩ | ⟨q, hq, _, h1⟩
  · exact ⟨o, List.mem_append_left _ ho, h1⟩
  · exact ⟨_, List.mem_append_right _ (rd50_mem hq), h1⟩
theorem NI.lens (h : NI os ms xs sn nd) : xs.length ≤ sn.length ∧ sn.length ≤ (allRefs os ms).length ∧ nd.length ≤ ms.length :=
  ⟨sub_len xs sn h.li.xn h.li.xin, sub_len sn _ h.li.sn h.sub, pigeonI ms.length nd h.nn (fun i hi => by obtain ⟨q, hq, rfl, _⟩ := h.ndr i hi; omega)⟩
/-- A name's definers are gone through. -/
theorem visitN_spec (hT : (allRefs os ms).length ≤ 1000000) (hN : ms.length ≤ 1000000) {c : ByteArray} (hcp : c ∉ provOf os) : ∀ (js : List Int) (xs sn : List ByteArray) (nd : List Int), c ∈ sn → (∀ i, i ∈ js → i ∈ zsOf (prsOf ms 0) c) → NI os ms xs sn nd → Seen os ms xs sn nd (· = c) →
    ∃ xs' sn' nd', visitN ms js xs sn nd = some (xs', sn', nd') ∧ NI os ms xs' sn' nd' ∧ Seen os ms xs' sn' nd' (· = c) ∧ (∀ i, i ∈ js → i ∈ nd') ∧ (∀ i, i ∈ nd → i ∈ nd') ∧ (∀ s, s ∈ sn → s ∈ sn') ∧ xs'.length + sn.length = sn'.length + xs.length ∧ (∀ s, s ∈ xs' → s ∈ xs ∨ s ∉ sn)
  | [], xs, sn, nd, hc, hj, h, hs => ⟨xs, sn, nd, rfl, h, hs, fun i hi => by simp at hi, fun i hi => hi, fun s hs => hs, by omega, fun s hs => .inl hs⟩
  | j :: js, xs, sn, nd, hc, hj, h, hs => by
    simp only [visitN]
    by_cases c1 : j ∈ nd
    · rw [if_pos c1]
      obtain ⟨xs', sn', nd', h1, h2, h3, h4, h5, h6, h7, h8⟩ := visitN_spec hT hN hcp js xs sn nd hc (fun i hi => hj i (List.mem_cons_of_mem _ hi)) h hs
      refine ⟨xs', sn', nd', h1, h2, h3, fun i hi => ?_, h5, h6, h7, h8⟩
      rcases List.mem_cons.1 hi with rfl | hi
      · exact h5 _ c1
      · exact h4 i hi
    · rw [if_neg c1]
      obtain ⟨l1, l2, l3⟩ := h.lens
      rw [if_pos ⟨fewN_iff.2 ⟨by omega, by omega⟩, by omega⟩]
      obtain ⟨q, hq, rfl, hqd⟩ := zs_mem.1 (hj j (List.mem_cons_self ..))
      obtain ⟨a1, a2, a3, a4⟩ := addL_spec (namesOf refB (rd_T50 ms (q : Int)).f0) xs sn h.li
      obtain ⟨z, hz⟩ : ∃ z, addL (namesOf refB (rd_T50 ms (q : Int)).f0) xs sn = z := ⟨_, rfl⟩
      rw [hz] at a1 a2 a3 a4 ⊢
      have hr : Rch os ms q := by
        rcases h.src c hc with ⟨o, ho, h1⟩ | ⟨k, hk, h0, h1⟩
        · exact .base q o hq ho ⟨c, hqd, h1, hcp⟩
        · obtain ⟨k', _, hke, hkr, _⟩ := h.ndr _ h0
          have : k = k' := by omega
          subst this
          exact .step k q hkr hq ⟨c, hqd, h1, hcp⟩
      have hNI : NI os ms z.1 z.2 (nd ++ [(q : Int)]) := by
        refine ⟨a1, fun s hs => ?_, ?_, fun i hi => ?_, fun o ho s hs => (a2 s).2 (.inl (h.osr o ho s hs))⟩
        · rcases (a2 s).1 hs with hs | hs
          · rcases h.src s hs with h1 | ⟨k, hk, h0, h1⟩
            · exact .inl h1
            · exact .inr ⟨k, hk, List.mem_append_left _ h0, h1⟩
          · exact .inr ⟨q, hq, by simp, hs⟩
        · rw [List.nodup_append]
          exact ⟨h.nn, by simp, fun a ha b hb => by rw [List.mem_singleton] at hb; rintro rfl; exact c1 (hb ▸ ha)⟩
        · rcases List.mem_append.1 hi with hi | hi
          · obtain ⟨k, hk, rfl, hkr, hks⟩ := h.ndr i hi
            exact ⟨k, hk, rfl, hkr, fun s hs => (a2 s).2 (.inl (hks s hs))⟩
          · rw [List.mem_singleton] at hi
            exact ⟨q, hq, hi, hr, fun s hs => (a2 s).2 (.inr hs)⟩
      have hSeen : Seen os ms z.1 z.2 (nd ++ [(q : Int)]) (· = c) := by
        intro s h1 h2 h3
        rw [a2] at h1
        rw [a3] at h2
        have h4 : s ∈ sn := by
          rcases h1 with h1 | h1
          · exact h1
          · apply Classical.byContradiction
            intro h5
            exact h2 (.inr ⟨h1, h5⟩)
        rcases hs s h4 (fun h5 => h2 (.inl h5)) h3 with h5 | h5
        · exact .inl h5
        · exact .inr (fun i hi => List.mem_append_left _ (h5 i hi))
      obtain ⟨xs', sn', nd', h1, h2, h3, h4, h5, h6, h7, h8⟩ := visitN_spec hT hN hcp js z.1 z.2 (nd ++ [(q : Int)]) ((a2 c).2 (.inl hc)) (fun i hi => hj i (List.mem_cons_of_mem _ hi)) hNI hSeen
      refine ⟨xs', sn', nd', h1, h2, h3, fun i hi => ?_, fun i hi => h5 i (List.mem_append_left _ hi), fun s hs => h6 s ((a2 s).2 (.inl hs)), by omega, fun s hs => ?_⟩
      · rcases List.mem_cons.1 hi with rfl | hi
        · exact h5 _ (by simp)
        · exact h4 i hi
      · rcases h8 s hs with h9 | h9
        · rcases (a3 s).1 h9 with h9 | ⟨_, h9⟩
          · exact .inl h9
          · exact .inr h9
        · exact .inr (fun h10 => h9 ((a2 s).2 (.inl h10)))
theorem runN_spec (hT : (allRefs os ms).length ≤ 1000000) (hN : ms.length ≤ 1000000) (hnm : ∀ s, s ∈ allRefs os ms → s.size ≤ 1048576) : ∀ (k : Nat) (xs sn : List ByteArray) (nd : List Int), NI os ms xs sn nd → Seen os ms xs sn nd (fun _ => False) → xs.length + ((allRefs os ms).length - sn.length) < k →
    ∃ nd', runN (provOf os) (prsOf ms 0) ms k xs sn nd = some nd' ∧ ∃ sn', NI os ms [] sn' nd' ∧ Seen os ms [] sn' nd' (fun _ => False)
  | 0, xs, sn, nd, h, hs, hk => by omega
  | k + 1, xs, sn, nd, h, hs, hk => by
    simp only [runN]
    obtain ⟨l1, l2, l3⟩ := h.lens
    by_cases c0 : xs.length = 0
    · rw [if_pos c0]
      have : xs = [] := List.length_eq_zero_iff.1 c0
      subst this
      exact ⟨nd, rfl, sn, h, hs⟩
    · rw [if_neg c0]
      have hne : xs ≠ [] := fun e => c0 (by rw [e]; rfl)
      obtain ⟨p1, p2, p3, _⟩ := Hp.pop_spec (d := ByteArray.empty) less_ordW xs hne h.li.heap
      obtain ⟨c, hc⟩ : ∃ c, Hp.at_ ByteArray.empty xs 0 = c := ⟨_, rfl⟩
      rw [hc] at p1 ⊢
      obtain ⟨ys, hy⟩ : ∃ ys, Hp.pop ByteArray.empty W.less xs = ys := ⟨_, rfl⟩
      rw [hy] at p1 p2 p3 ⊢
      have hcx : c ∈ xs := p1.mem_iff.2 (List.mem_cons_self ..)
      have hcs := h.li.xin c hcx
      have hnd := p1.nodup_iff.1 h.li.xn
      rw [List.nodup_cons] at hnd
      have hmem : ∀ s, s ∈ ys ↔ s ∈ xs ∧ s ≠ c := by
        intro s
        rw [p1.mem_iff, List.mem_cons]
        constructor
        · intro h1
          exact ⟨.inr h1, fun e => hnd.1 (by rw [← e]; exact h1)⟩
        · rintro ⟨h1 | h1, h2⟩
          · exact absurd h1 h2
          · exact h1
      have hLI : LI ys sn := ⟨by rw [p2]; exact p3, hnd.2, fun s hs => h.li.xin s ((hmem s).1 hs).1, h.li.sn⟩
      have hNI : NI os ms ys sn nd := ⟨hLI, h.src, h.nn, h.ndr, h.osr⟩
      have hSc : Seen os ms ys sn nd (· = c) := fun s h1 h2 h3 => hs s h1 (fun h4 => h2 ((hmem s).2 ⟨h4, h3⟩)) (fun h => h)
      rw [if_neg (by have := hnm c (h.sub c hcs); omega)]
      by_cases cp : c ∈ provOf os
      · rw [if_pos cp]
        refine runN_spec hT hN hnm k ys sn nd hNI (fun s h1 h2 _ => ?_) (by omega)
        by_cases e : s = c
        · exact .inl (by rw [e]; exact cp)
        · exact hSc s h1 h2 e
      · rw [if_neg cp]
        obtain ⟨xs', sn', nd', h1, h2, h3, h4, h5, h6, h7, h8⟩ := visitN_spec hT hN cp (zsOf (prsOf ms 0) c) ys sn nd hcs (fun i hi => hi) hNI hSc
        rw [h1, Option.bind_some]
        obtain ⟨m1, m2, m3⟩ := h2.lens
        refine runN_spec hT hN hnm k xs' sn' nd' h2 (fun s g1 g2 _ => ?_) (by omega)
        by_cases e : s = c
        · subst e
          exact .inr h4
        · exact h3 s g1 g2 e
theorem seedN_spec (hT : (allRefs os ms).length ≤ 1000000) : ∀ (l : List S50) (xs sn : List ByteArray), (∀ o, o ∈ l → o ∈ os) → LI xs sn → (∀ s, s ∈ sn → ∃ o, o ∈ os ∧ s ∈ namesOf refB o.f0) → (∀ s, s ∈ sn → s ∈ xs) →
    ∃ xs' sn', seedN l xs sn = some (xs', sn') ∧ LI xs' sn' ∧ (∀ s, s ∈ sn' → ∃ o, o ∈ os ∧ s ∈ namesOf refB o.f0) ∧ (∀ s, s ∈ sn' → s ∈ xs') ∧ (∀ o, o ∈ l → ∀ s, s ∈ namesOf refB o.f0 → s ∈ sn') ∧ ∀ s, s ∈ sn → s ∈ sn'
  | [], xs, sn, hl, h, h1, h2 => ⟨xs, sn, rfl, h, h1, h2, fun o ho => by simp at ho, fun s hs => hs⟩
  | o :: l, xs, sn, hl, h, h1, h2 => by
    have hsub : sn.length ≤ (allRefs os ms).length := sub_len sn _ h.sn (fun s hs => by
      obtain ⟨o, ho, hs⟩ := h1 s hs
      unfold allRefs
      rw [List.mem_flatMap]
      exact ⟨o, List.mem_append_left _ ho, hs⟩)
    have hxs := sub_len xs sn h.xn h.xin
    simp only [seedN]
    rw [if_pos (fewN_iff.2 ⟨by omega, by omega⟩)]
    obtain ⟨a1, a2, a3, _⟩ := addL_spec (namesOf refB o.f0) xs sn h
    obtain ⟨z, hz⟩ : ∃ z, addL (namesOf refB o.f0) xs sn = z := ⟨_, rfl⟩
    rw [hz] at a1 a2 a3 ⊢
    obtain ⟨xs', sn', b1, b2, b3, b4, b5, b6⟩ := seedN_spec hT l z.1 z.2 (fun x hx => hl x (List.mem_cons_of_mem _ hx)) a1 (fun s hs => by
      rcases (a2 s).1 hs with hs | hs
      · exact h1 s hs
      · exact ⟨o, hl o (List.mem_cons_self ..), hs⟩) (fun s hs => by
      rw [a3]
      rcases (a2 s).1 hs with hs | hs
      · exact .inl (h2 s hs)
      · by_cases e : s ∈ sn
        · exact .inl (h2 s e)
        · exact .inr ⟨hs, e⟩)
    refine ⟨xs', sn', b1, b2, b3, b4, fun x hx s hs => ?_, fun s hs => b6 s ((a2 s).2 (.inl hs))⟩
    rcases List.mem_cons.1 hx with rfl | hx
    · exact b6 s ((a2 s).2 (.inr hs))
    · exact b5 x hx s hs
end
/-- What Needed hands back. -/
theorem needed_ok {os ms : List S50} (so : smallL os = true) (sm : smallL ms = true) (hT : (allRefs os ms).length ≤ 1000000) (hnm : ∀ s, s ∈ allRefs os ms → s.size ≤ 1048576) :
    ∃ nd, closure_Needed.f os ms = some (pickN nd ms.length) ∧ ∀ q : Nat, q < ms.length → ((q : Int) ∈ nd ↔ Rch os ms q) := by
  have hN := (smallL_iff.1 sm).1
  obtain ⟨xs, sn, h1, h2, h3, h4, h5, _⟩ := seedN_spec (ms := ms) hT os [] [] (fun o ho => ho) ⟨fun i j _ _ hj => by simp at hj, by simp, fun s hs => by simp at hs, by simp⟩ (fun s hs => by simp at hs) (fun s hs => by simp at hs)
  have hNI : NI os ms xs sn [] := ⟨h2, fun s hs => .inl (h3 s hs), by simp, fun i hi => by simp at hi, h5⟩
  obtain ⟨l1, l2, l3⟩ := hNI.lens
  obtain ⟨nd, r1, sn', r2, r3⟩ := runN_spec hT (by omega) hnm 1048576 xs sn [] hNI (fun s g1 g2 _ => absurd (h4 s g1) g2) (by omega)
  refine ⟨nd, ?_, fun q hq => ⟨fun h => ?_, fun h => ?_⟩⟩
  · unfold closure_Needed.f
    rw [if_pos ⟨so, sm⟩, h1, Option.bind_some, r1, Option.bind_some]
  · obtain ⟨k, _, hk, hr, _⟩ := r2.ndr _ h
    have : q = k := by omega
    rw [this]
    exact hr
  · have key : ∀ (s : ByteArray) (q : Nat), q < ms.length → s ∈ sn' → s ∈ namesOf defB (rd_T50 ms (q : Int)).f0 → s ∉ provOf os → (q : Int) ∈ nd := by
      intro s q hq hs hd hp
      rcases r3 s hs (by simp) (fun h => h) with h | h
      · exact absurd h hp
      · exact h _ (zs_mem.2 ⟨q, hq, rfl, hd⟩)
    induction h with
    | base q o hq ho hl =>
      obtain ⟨s, hd, hr, hp⟩ := hl
      exact key s q hq (r2.osr o ho s hr) hd hp
    | step k q hk hq hl ih =>
      obtain ⟨s, hd, hr, hp⟩ := hl
      obtain ⟨k', _, hke, _, hks⟩ := r2.ndr _ (ih hk.lt)
      have : k = k' := by omega
      subst this
      exact key s q hq (hks s hr) hd hp
/-- .. of lists that are right. -/
theorem RightP.needed {os ms : List S50} (ho : RightP os) (hm : RightP ms) : ∃ nd, closure_Needed.f os ms = some (pickN nd ms.length) ∧ ∀ q : Nat, q < ms.length → ((q : Int) ∈ nd ↔ Rch os ms q) := by
  refine needed_ok ho.small hm.small ?_ (fun s hs => ?_)
  · have key : ∀ l : List S50, (∀ o, o ∈ l → o.f0.length ≤ 20) → (l.flatMap fun o => namesOf refB o.f0).length ≤ l.length * 20 := by
      intro l
      induction l with
      | nil => intro _; simp
      | cons o l ih =>
        intro h
        rw [List.flatMap_cons, List.length_append, List.length_cons]
        have h1 := ih (fun x hx => h x (List.mem_cons_of_mem _ hx))
        have h2 := h o (List.mem_cons_self ..)
        have h3 := namesOf_len refB o.f0
        omega
    have h1 := key (os ++ ms) (fun o h => by
      rcases List.mem_append.1 h with h | h
      · exact ho.syms o h
      · exact hm.syms o h)
    rw [List.length_append] at h1
    have := ho.len
    have := hm.len
    unfold allRefs
    omega
  · unfold allRefs at hs
    obtain ⟨o, h1, h2⟩ := List.mem_flatMap.1 hs
    unfold namesOf at h2
    obtain ⟨x, hx, rfl⟩ := List.mem_map.1 h2
    have hx := (List.mem_filter.1 hx).1
    rcases List.mem_append.1 h1 with h1 | h1
    · have := ho.names o h1 x hx; omega
    · have := hm.names o h1 x hx; omega
theorem pickN_mem (nd : List Int) (k : Nat) (v : Int) : v ∈ pickN nd k ↔ ∃ i : Nat, i < k ∧ v = (i : Int) ∧ (i : Int) ∈ nd := by
  unfold pickN
  rw [List.mem_filter, List.mem_map]
  constructor
  · rintro ⟨⟨i, hi, rfl⟩, h⟩
    exact ⟨i, List.mem_range.1 hi, rfl, of_decide_eq_true h⟩
  · rintro ⟨i, hi, rfl, h⟩
    exact ⟨⟨i, List.mem_range.2 hi, rfl⟩, decide_eq_true h⟩
end Go.Proofs.Ythpjpkcfepmhkaa.PAll
namespace Go.Proofs.Ythpjpkcfepmhkaa.PAll.R
open Go.RowKit Go.Proofs.YthpjpkcfepmhkaaW.PrintWords Go.Proofs.YthpjpkcfepmhkaaW.PrintLast Go.Proofs.YthpjpkcfepmhkaaW.PrintMore
set_option linter.unusedVariables false
set_option linter.unusedSimpArgs false
def less (a b : Int) : Bool := decide (a < b)
/-- The variable at the head of block g holds v, a row of one's own that reads as xs; behind it in the block: rest. -/
def HS (w : World) (base g : Nat) (rest : List Value) (v : Value) (xs : List Int) : Prop := w.heap[g]? = some (.cells (v :: rest).toArray 71 (0, 0)) ∧ Kd.R (Kd.int .i64) 3 w base (fun _ => True) v xs
theorem row_cell {w : World} {base b c n : Nat} {ok : Nat → Prop} {xs : List Int} (h : Kd.R (Kd.int .i64) 3 w base ok (.slice (some ⟨b, 0, none⟩) n c) xs) (i : Nat) (hi : i < xs.length) :
    w.cell? ⟨b, i, none⟩ = some (.int .i64 (Hp.at_ (0 : Int) xs i)) ∧ w.frozen? ⟨b, i, none⟩ = false := by
  obtain ⟨hn, _, _⟩ := Kd.R_reads' h
  subst hn
  have := Kd.R_cell (enc := (Value.int .i64)) (h1 := fun _ => rfl) (0 : Int) h (i : Int) (Int.natCast_nonneg _) (by omega)
  simp only [Int.toNat_natCast] at this
  exact this
set_option maxHeartbeats 1000000 in
theorem less_calls (w : World) (base : Nat) (ok : Nat → Prop) (v : Value) (xs : List Int) (i k : Int) (hR : Kd.R (Kd.int .i64) 3 w base ok v xs) (hi0 : 0 ≤ i) (hi : i < xs.length) (hk0 : 0 ≤ k) (hk : k < xs.length) :
    Calls Try.prog 86 #[v, .int .i64 i, .int .i64 k] w fun e w' => e = .returned (.bool (less (Hp.at_ (0 : Int) xs i.toNat) (Hp.at_ (0 : Int) xs k.toNat))) ∧ Below w.heap.size w w' := by
  obtain ⟨b, c, rfl, hbb, hbl, _⟩ := Kd.R_form hR (by omega)
  obtain ⟨i, rfl⟩ := Int.eq_ofNat_of_zero_le hi0
  obtain ⟨k, rfl⟩ := Int.eq_ofNat_of_zero_le hk0
  simp only [Int.toNat_natCast]
  obtain ⟨h0, _⟩ := row_cell hR i (by omega)
  obtain ⟨g0, _⟩ := row_cell hR k (by omega)
  clear hR
  generalize Hp.at_ (0 : Int) xs i = x at *
  generalize Hp.at_ (0 : Int) xs k = y at *
  generalize xs.length = n at *
  unfold less
  go_enter Try.func86, Try.ntmps86
  go_wp2
  go_region
  all_goals go_wp2
  all_goals (go_ret; exact ⟨rfl, by repeat (first | exact Below.refl _ _ | apply below_drew | apply below_alloc)⟩)
/-- Element i of a row of one's own is written. -/
theorem row_set {w : World} {base b c n : Nat} {ok : Nat → Prop} {xs : List Int} (h : Kd.R (Kd.int .i64) 3 w base ok (.slice (some ⟨b, 0, none⟩) n c) xs) (i : Nat) (x : Int) :
    Kd.R (Kd.int .i64) 3 (w.setCell ⟨b, i, none⟩ (.int .i64 x)) base ok (.slice (some ⟨b, 0, none⟩) n c) (xs.set i x) ∧ w.grownBy (w.setCell ⟨b, i, none⟩ (.int .i64 x)) (some b) := by
  obtain ⟨hn, _, _⟩ := Kd.R_reads' h
  subst hn
  have := Kd.R_put (enc := (Value.int .i64)) (h1 := fun _ => rfl) h (i : Int) x
  simp only [Int.toNat_natCast] at this
  exact this
theorem two_set {w0 w w1 w2 : World} {base g b n c : Nat} {rest : List Value} {v : Value} {ys : List Int} (gr1 : w.grownBy w1 (some b)) (gr2 : w1.grownBy w2 (some b)) (r2 : Kd.R (Kd.int .i64) 3 w2 base (fun _ => True) (.slice (some ⟨b, 0, none⟩) n c) ys)
    (hg : w.heap[g]? = some (.cells (v :: rest).toArray 71 (0, 0))) (hbg : g ≠ b) (hB : Below base w0 w) (hbs : base ≤ w.heap.size) (hbb : base ≤ b) :
    w2.drew.heap[g]? = some (.cells (v :: rest).toArray 71 (0, 0)) ∧ Kd.R (Kd.int .i64) 3 w2.drew base (fun _ => True) (.slice (some ⟨b, 0, none⟩) n c) ys ∧ Below base w0 w2.drew ∧ KeepBut w w2.drew g (some b) := by
  have gr := World.grownBy.trans gr1 gr2
  refine ⟨?_, Kd.R_drew r2, below_drew (hB.grown gr hbs (fun k hk => by injection hk with hk; omega)), KeepBut.of_grown (w1 := w2.drew) ⟨gr.os, gr.tape, gr.output, gr.size, gr.block⟩ g⟩
  exact (gr.block g (blk_lt hg) (fun e => hbg (by injection e))).trans hg
set_option maxHeartbeats 1000000 in
theorem swap_calls (w0 w : World) (base g : Nat) (rest : List Value) (v : Value) (xs : List Int) (i k : Int) (hs : HS w base g rest v xs) (hB : Below base w0 w) (hbs : base ≤ w.heap.size) (hi0 : 0 ≤ i) (hi : i < xs.length) (hk0 : 0 ≤ k) (hk : k < xs.length) :
    Calls Try.prog 87 #[v, .int .i64 i, .int .i64 k] w fun e w' => e = .returned (.tuple #[]) ∧ HS w' base g rest v (Hp.swp (0 : Int) xs i.toNat k.toNat) ∧ Below base w0 w' ∧ KeepBut w w' g v.ownBlock := by
  obtain ⟨hg, hR⟩ := hs
  have hne := Kd.R_ne hR hg (by decide)
  obtain ⟨b, c, rfl, hbb, hbl, _⟩ := Kd.R_form hR (by omega)
  obtain ⟨i, rfl⟩ := Int.eq_ofNat_of_zero_le hi0
  obtain ⟨k, rfl⟩ := Int.eq_ofNat_of_zero_le hk0
  simp only [Int.toNat_natCast]
  obtain ⟨h0, f0⟩ := row_cell hR i (by omega)
  obtain ⟨g0, e0⟩ := row_cell hR k (by omega)
  have hfin : ∀ W, W = ((w.setCell ⟨b, i, none⟩ (.int .i64 (Hp.at_ (0 : Int) xs k))).setCell ⟨b, k, none⟩ (.int .i64 (Hp.at_ (0 : Int) xs i))).drew →
      HS W base g rest (.slice (some ⟨b, 0, none⟩) xs.length c) (Hp.swp (0 : Int) xs i k) ∧ Below base w0 W ∧ KeepBut w W g (some b) := by
    intro W hW
    obtain ⟨r1, gr1⟩ := row_set hR i (Hp.at_ (0 : Int) xs k)
    obtain ⟨r2, gr2⟩ := row_set r1 k (Hp.at_ (0 : Int) xs i)
    have hbg : g ≠ b := fun e => hne (by rw [e]; rfl)
    subst hW
    unfold Hp.swp HS
    obtain ⟨a1, a2, a3, a4⟩ := two_set gr1 gr2 r2 hg hbg hB hbs hbb
    exact ⟨⟨a1, a2⟩, a3, a4⟩
  have HF := Lib.hid hfin
  clear hfin hR hne hg hB
  rcases Nat.lt_trichotomy i k with hik | rfl | hik
  · generalize Hp.at_ (0 : Int) xs i = x at *
    generalize Hp.at_ (0 : Int) xs k = y at *
    generalize Hp.swp (0 : Int) xs i k = ys at *
    generalize xs.length = n at *
    go_enter Try.func87, Try.ntmps87
    go_wp2
    go_region
    all_goals (go_end0; exact ⟨rfl, HF.out _ rfl⟩)
  · clear g0 e0
    generalize Hp.at_ (0 : Int) xs i = x at *
    generalize Hp.swp (0 : Int) xs i i = ys at *
    generalize xs.length = n at *
    go_enter Try.func87, Try.ntmps87
    go_wp2
    go_region
    all_goals (go_end0; exact ⟨rfl, HF.out _ rfl⟩)
  · generalize Hp.at_ (0 : Int) xs i = x at *
    generalize Hp.at_ (0 : Int) xs k = y at *
    generalize Hp.swp (0 : Int) xs i k = ys at *
    generalize xs.length = n at *
    go_enter Try.func87, Try.ntmps87
    go_wp2
    go_region
    all_goals (go_end0; exact ⟨rfl, HF.out _ rfl⟩)
theorem cell0 {w : World} {g t : Nat} {rest : List Value} {v : Value} (h : w.heap[g]? = some (.cells (v :: rest).toArray t (0, 0))) : w.cell? ⟨g, 0, none⟩ = some v ∧ w.frozen? ⟨g, 0, none⟩ = false :=
  ⟨(blk_cell h 0).trans (by simp), blk_frozen h _⟩
theorem set0 {w : World} {g t : Nat} {rest : List Value} {v : Value} (h : w.heap[g]? = some (.cells (v :: rest).toArray t (0, 0))) (u : Value) : (w.setCell ⟨g, 0, none⟩ u).heap[g]? = some (.cells (u :: rest).toArray t (0, 0)) :=
  (blk_set h 0 u).trans (by simp)
theorem HS_below {w w1 : World} {base g : Nat} {rest : List Value} {v : Value} {xs : List Int} (h : HS w base g rest v xs) (hb : Below w.heap.size w w1) : HS w1 base g rest v xs :=
  ⟨(hb.block g (blk_lt h.1)).trans h.1, Kd.R_below h.2 hb⟩
theorem HS_cell {w : World} {base g : Nat} {rest : List Value} {v : Value} {xs : List Int} (h : HS w base g rest v xs) : w.cell? ⟨g, 0, none⟩ = some v := (cell0 h.1).1
theorem keep_below {w w1 w2 : World} {g : Nat} {row : Option Nat} (h : KeepBut w w1 g row) (k : Below w1.heap.size w1 w2) : KeepBut w w2 g row := h.trans (KeepBut.of_below k g row) (.inl rfl)
theorem Below_size {B : Nat} {w w1 : World} (h : Below B w w1) (hB : B ≤ w.heap.size) : B ≤ w1.heap.size := by have := h.size; omega
theorem keep_none {w w1 : World} {g : Nat} {row : Option Nat} (h : KeepBut w w1 g none) : KeepBut w w1 g row := ⟨h.1, fun i hi hg _ => h.2 i hi hg (by simp)⟩
end Go.Proofs.Ythpjpkcfepmhkaa.PAll.R
namespace Go.Proofs.Ythpjpkcfepmhkaa.PAll.R
open Go.RowKit Go.Proofs.YthpjpkcfepmhkaaW.PrintWords Go.Proofs.YthpjpkcfepmhkaaW.PrintLast Go.Proofs.YthpjpkcfepmhkaaW.PrintMore
set_option linter.unusedVariables false
set_option linter.unusedSimpArgs false
theorem infoE : (Try.prog.info? 3).map (fun i => (i.zero, i.size, i.bytes)) = some (some (.int .i64 0), 1, 8) := by kernel_rfl
theorem bind_eq_ (x : Sem Value) (f : Value → Sem (Nat × Value)) : Sem.bind x f = x >>= f := rfl
theorem pure_eq_ (x : Nat × Value) : Sem.pure x = pure x := rfl
theorem meth_Len0 (a : Addr) (w : World) : (method 234 73 (.pointer (some a)) "Len").run Try.prog w = (Sem.bind (loadVar 71 a) (fun v => Sem.pure ((42 : Nat), v))).run Try.prog w := by kernel_rfl
theorem meth_Len (g : Nat) (v : Value) (w : World) (h : w.cell? ⟨g, 0, none⟩ = some v) : (method 234 73 (.pointer (some ⟨g, 0, none⟩)) "Len").run Try.prog w = .ok (42, v) w := by
  rw [meth_Len0, bind_eq_]; simp only [pure_eq_, Sem.run_bind, Sem.run_pure]; go_simp
theorem meth_Less0 (a : Addr) (w : World) : (method 234 73 (.pointer (some a)) "Less").run Try.prog w = (Sem.bind (loadVar 71 a) (fun v => Sem.pure ((86 : Nat), v))).run Try.prog w := by kernel_rfl
theorem meth_Less (g : Nat) (v : Value) (w : World) (h : w.cell? ⟨g, 0, none⟩ = some v) : (method 234 73 (.pointer (some ⟨g, 0, none⟩)) "Less").run Try.prog w = .ok (86, v) w := by
  rw [meth_Less0, bind_eq_]; simp only [pure_eq_, Sem.run_bind, Sem.run_pure]; go_simp
theorem meth_Swap0 (a : Addr) (w : World) : (method 234 73 (.pointer (some a)) "Swap").run Try.prog w = (Sem.bind (loadVar 71 a) (fun v => Sem.pure ((87 : Nat), v))).run Try.prog w := by kernel_rfl
theorem meth_Swap (g : Nat) (v : Value) (w : World) (h : w.cell? ⟨g, 0, none⟩ = some v) : (method 234 73 (.pointer (some ⟨g, 0, none⟩)) "Swap").run Try.prog w = .ok (87, v) w := by
  rw [meth_Swap0, bind_eq_]; simp only [pure_eq_, Sem.run_bind, Sem.run_pure]; go_simp
theorem meth_Pop (a : Addr) (w : World) : (method 234 73 (.pointer (some a)) "Pop").run Try.prog w = .ok (88, .pointer (some a)) w := by kernel_rfl
theorem meth_Push (a : Addr) (w : World) : (method 234 73 (.pointer (some a)) "Push").run Try.prog w = .ok (89, .pointer (some a)) w := by kernel_rfl
set_option maxHeartbeats 1000000 in
theorem len_calls (A : Option Addr) (n c : Nat) (w : World) (hn : (n : Int) ≤ 9223372036854775807) :
    Calls Try.prog 42 #[.slice A n c] w fun e w' => e = .returned (.int .i64 n) ∧ w = w' := by
  go_enter Try.func42, Try.ntmps42
  go_wp2
  go_ret
  exact ⟨rfl, rfl⟩
set_option maxHeartbeats 1000000 in
theorem popm_calls (w0 w : World) (base g : Nat) (rest : List Value) (A : Option Addr) (n c : Nat) (xs : List Int) (hs : HS w base g rest (.slice A n c) xs) (hB : Below base w0 w) (hbs : base ≤ w.heap.size) (hbg : base ≤ g) (hn : 0 < xs.length) :
    Calls Try.prog 88 #[.pointer (some ⟨g, 0, none⟩)] w fun e w' => e = .returned (.iface 3 (.int .i64 (Hp.at_ (0 : Int) xs (xs.length - 1)))) ∧
      HS w' base g rest (.slice A (xs.length - 1) c) (xs.take (xs.length - 1)) ∧ Below base w0 w' ∧ KeepBut w w' g none := by
  obtain ⟨hg, hR⟩ := hs
  obtain ⟨hcell, hfz⟩ := cell0 hg
  obtain ⟨b, c', he, hbb, hbl, _⟩ := Kd.R_form hR hn
  injection he with he1 he2 he3
  subst he1; subst he2; subst he3
  obtain ⟨_, hnc, hC⟩ := Kd.R_reads' hR
  have hm := hC.2.1
  obtain ⟨h0, _⟩ := row_cell hR (xs.length - 1) (by omega)
  have hgl := blk_lt hg
  have hneq : g ≠ b := fun e => Kd.R_ne hR hg (by decide) (by rw [e]; rfl)
  have hT := Kd.R_take hR (m := xs.length - 1) (by omega)
  have hfin : HS (w.setCell ⟨g, 0, none⟩ (.slice (some ⟨b, 0, none⟩) (xs.length - 1) c)) base g rest (.slice (some ⟨b, 0, none⟩) (xs.length - 1) c) (xs.take (xs.length - 1)) ∧ Below base w0 (w.setCell ⟨g, 0, none⟩ (.slice (some ⟨b, 0, none⟩) (xs.length - 1) c)) ∧ KeepBut w (w.setCell ⟨g, 0, none⟩ (.slice (some ⟨b, 0, none⟩) (xs.length - 1) c)) g none :=
    ⟨⟨set0 hg _, Kd.R_set hT hg (by decide) 0 _⟩, hB.setCell hbg _, (KeepBut.refl w g none).set_ 0 _⟩
  have HF := Lib.hid hfin
  have hcut : ∀ W, (Instr.slice 71 (.slice (some ⟨b, 0, none⟩) xs.length c) none (some (.int .i64 ((xs.length : Int) - 1))) none).run Try.prog W = .ok (.slice (some ⟨b, 0, none⟩) (xs.length - 1) c) W := by
    intro W
    obtain ⟨i0, hi, _⟩ := Option.map_eq_some_iff.1 infoE
    have := cut_to (P := Try.prog) 71 3 .i64 Try.underlying71 hi (some ⟨b, 0, none⟩) xs.length c ((xs.length : Int) - 1) (by omega) (by omega) hnc W
    rw [this, show ((xs.length : Int) - 1).toNat = xs.length - 1 from by omega]
  clear hfin hT hR hg hB hC
  generalize Hp.at_ (0 : Int) xs (xs.length - 1) = x at *
  generalize xs.take (xs.length - 1) = ys at *
  generalize xs.length = n at *
  obtain ⟨m, rfl⟩ : ∃ m, n = m + 1 := ⟨n - 1, by omega⟩
  simp only [Nat.add_sub_cancel] at *
  have hix : ((m + 1 : Nat) : Int) - 1 = (m : Int) := by omega
  rw [hix] at hcut
  clear hix
  go_enter Try.func88, Try.ntmps88
  go_wp2
  go_ret
  exact ⟨rfl, HF.out⟩
def DownPost (w0 w : World) (base g n : Nat) (rest : List Value) (v : Value) (xs : List Int) (i0 : Nat) (w' : World) : Prop := HS w' base g rest v (Hp.down (0 : Int) less n (n + 1) xs i0) ∧ Below base w0 w' ∧ KeepBut w w' g v.ownBlock
def DownEnd (w0 w : World) (base g n : Nat) (rest : List Value) (v : Value) (xs : List Int) (i0 : Nat) (e : Ending) (w' : World) : Prop := ∃ r : Bool, e = .returned (.bool r) ∧ DownPost w0 w base g n rest v xs i0 w'
/-- One round of down, its three ways, each as a fact on what is left. -/
theorem down_stop {n kq i : Nat} {ys : List Int} (h : n ≤ 2 * i + 1) : Hp.down (0 : Int) less n (kq + 1) ys i = ys := by simp [Hp.down, h]
theorem down_still {n kq i j : Nat} {ys : List Int} (h : ¬ n ≤ 2 * i + 1) (hj : Hp.kid (0 : Int) less n ys i = j) (hl : less (Hp.at_ (0 : Int) ys j) (Hp.at_ (0 : Int) ys i) = false) : Hp.down (0 : Int) less n (kq + 1) ys i = ys := by simp [Hp.down, h, hj, hl]
theorem down_go {n kq i j : Nat} {ys : List Int} (h : ¬ n ≤ 2 * i + 1) (hj : Hp.kid (0 : Int) less n ys i = j) (hl : less (Hp.at_ (0 : Int) ys j) (Hp.at_ (0 : Int) ys i) = true) : Hp.down (0 : Int) less n (kq + 1) ys i = Hp.down (0 : Int) less n kq (Hp.swp (0 : Int) ys i j) j := by simp [Hp.down, h, hj, hl]
theorem kid_two {n i : Nat} {ys : List Int} (h : 2 * i + 2 < n) (hl : less (Hp.at_ (0 : Int) ys (2 * i + 2)) (Hp.at_ (0 : Int) ys (2 * i + 1)) = true) : Hp.kid (0 : Int) less n ys i = 2 * i + 2 := by simp [Hp.kid, h, hl]
theorem kid_one {n i : Nat} {ys : List Int} (h : 2 * i + 2 < n) (hl : less (Hp.at_ (0 : Int) ys (2 * i + 2)) (Hp.at_ (0 : Int) ys (2 * i + 1)) = false) : Hp.kid (0 : Int) less n ys i = 2 * i + 1 := by simp [Hp.kid, hl]
theorem kid_alone {n i : Nat} {ys : List Int} (h : ¬ 2 * i + 2 < n) : Hp.kid (0 : Int) less n ys i = 2 * i + 1 := by simp [Hp.kid, h]
/-- less as the walk asks it: the answer by name. -/
theorem less_named {W : World} {base g : Nat} {rest : List Value} {v : Value} {xs : List Int} (hs : HS W base g rest v xs) (i k : Int) (a c : Nat) (ha : i = a) (hc : k = c) (hal : a < xs.length) (hcl : c < xs.length) {b : Bool} (hb : less (Hp.at_ (0 : Int) xs a) (Hp.at_ (0 : Int) xs c) = b) :
    Calls Try.prog 86 #[v, .int .i64 i, .int .i64 k] W fun e w' => e = .returned (.bool b) ∧ Below W.heap.size W w' := by
  subst ha; subst hc; subst hb
  exact less_calls W base (fun _ => True) v xs a c hs.2 (Int.natCast_nonneg _) (by omega) (Int.natCast_nonneg _) (by omega)
theorem swap_named {w0 W : World} {base g : Nat} {rest : List Value} {v : Value} {xs : List Int} (hs : HS W base g rest v xs) (hB : Below base w0 W) (i k : Int) (a c : Nat) (ha : i = a) (hc : k = c) (hal : a < xs.length) (hcl : c < xs.length) (hbs : base ≤ W.heap.size) :
    Calls Try.prog 87 #[v, .int .i64 i, .int .i64 k] W fun e w' => e = .returned (.tuple #[]) ∧ HS w' base g rest v (Hp.swp (0 : Int) xs a c) ∧ Below base w0 w' ∧ KeepBut W w' g v.ownBlock := by
  subst ha; subst hc
  exact swap_calls w0 W base g rest v xs a c hs hB hbs (Int.natCast_nonneg _) (by omega) (Int.natCast_nonneg _) (by omega)
set_option maxHeartbeats 8000000 in
theorem down_calls (w0 w : World) (base g : Nat) (rest : List Value) (v : Value) (xs : List Int) (i0 n : Int) (hs : HS w base g rest v xs) (hB : Below base w0 w) (hbs : base ≤ w.heap.size) (h0 : 0 ≤ i0) (hi : i0 < xs.length) (hin : i0 ≤ n) (hn : n ≤ xs.length) (hl : (xs.length : Int) ≤ 1099511627776) :
    Calls Try.prog 62 #[.iface 73 (.pointer (some ⟨g, 0, none⟩)), .int .i64 i0, .int .i64 n] w (DownEnd w0 w base g n.toNat rest v xs i0.toNat) := by
  obtain ⟨i0, rfl⟩ := Int.eq_ofNat_of_zero_le h0
  obtain ⟨n, rfl⟩ := Int.eq_ofNat_of_zero_le (show 0 ≤ n by omega)
  simp only [Int.toNat_natCast]
  have HS0 := Lib.hid hs
  have HB0 := Lib.hid hB
  have hless := meth_Less g v
  have hswap := meth_Swap g v
  clear hs hB
  go_enter Try.func62, Try.ntmps62
  go_wp2
  go_loopg [7] (n + 1) (fun kq v7 w' => ∃ (i : Nat) (ys : List Int), v7 = .int .i64 i ∧ Aside0 (i < xs.length ∧ i ≤ n ∧ n < kq + i ∧ ys.length = xs.length ∧ Hp.down (0 : Int) less n kq ys i = Hp.down (0 : Int) less n (n + 1) xs i0) ∧ Aside0 (HS w' base g rest v ys ∧ Below base w0 w' ∧ KeepBut w w' g v.ownBlock))
  case atStart => exact ⟨i0, xs, rfl, ⟨by omega, by omega, by omega, rfl, rfl⟩, HS0.out, HB0.out, KeepBut.refl _ _ _⟩
  case round =>
    obtain ⟨i, ys, rfl, HA, HW⟩ := hrel
    obtain ⟨hil, hin', hk, hyl, hd⟩ := HA.out
    obtain ⟨hsy, hby, hky⟩ := HW.out
    clear HA HW
    obtain ⟨kq, rfl⟩ : ∃ kq, gk = kq + 1 := ⟨gk - 1, by omega⟩
    have hbw : base ≤ wr.heap.size := by have := hky.1; omega
    have hcw := HS_cell hsy
    by_cases c1 : n ≤ 2 * i + 1
    · rw [down_stop c1] at hd
      have HD := Lib.hid hd
      have HW := Lib.hid (And.intro hsy (And.intro hby hky))
      clear hd hsy hby hky hyl
      go_wp2
      go_ret
      exact ⟨_, rfl, by unfold DownPost; rw [← HD.out]; exact HW.out⟩
    · have HW := Lib.hid (And.intro hsy (And.intro hby hky))
      have HD := Lib.hid hd
      have HYL := Lib.hid hyl
      clear hd hsy hby hky hyl
      by_cases c2 : 2 * i + 2 < n
      · cases hl1 : less (Hp.at_ (0 : Int) ys (2 * i + 2)) (Hp.at_ (0 : Int) ys (2 * i + 1)) with
        | true =>
          have HKID := Lib.hid (kid_two c2 hl1)
          have HL1 := Lib.hid hl1
          clear hl1
          go_wp2_with fail
          refine (less_named HW.out.1 _ _ (2 * i + 2) (2 * i + 1) (by omega) (by omega) (by have := HYL.out; omega) (by have := HYL.out; omega) HL1.out).mono ?_
          rintro e w1 ⟨rfl, hb1⟩
          have hs1 := HS_below HW.out.1 hb1
          have hcw1 := HS_cell hs1
          have hk1 := keep_below HW.out.2.2 hb1
          have hB1 := below_then HW.out.2.1 hbw hb1
          have hz1 := Below_size hb1 (Nat.le_refl _)
          have HW1 := Lib.hid (And.intro hs1 (And.intro hB1 hk1))
          clear hs1 hk1 hB1
          cases hl2 : less (Hp.at_ (0 : Int) ys (2 * i + 2)) (Hp.at_ (0 : Int) ys i) with
          | false =>
            have HR := Lib.hid ((down_still c1 HKID.out hl2).symm.trans HD.out)
            have HL2 := Lib.hid hl2
            clear hl2
            go_wp2_with fail
            refine (less_named HW1.out.1 _ _ (2 * i + 2) i (by omega) (by omega) (by have := HYL.out; omega) (by have := HYL.out; omega) HL2.out).mono ?_
            rintro e w2 ⟨rfl, hb2⟩
            have hs2 := HS_below HW1.out.1 hb2
            have hcw2 := HS_cell hs2
            have hk2 := keep_below HW1.out.2.2 hb2
            have hB2 := below_then HW1.out.2.1 (by omega) hb2
            have hz2 := Below_size hb2 (Nat.le_refl _)
            have HW2 := Lib.hid (And.intro hs2 (And.intro hB2 hk2))
            clear hs2 hk2 hB2
            go_wp2
            go_ret
            exact ⟨_, rfl, by unfold DownPost; rw [← HR.out]; exact HW2.out⟩
          | true =>
            have HR := Lib.hid ((down_go c1 HKID.out hl2).symm.trans HD.out)
            have HL2 := Lib.hid hl2
            clear hl2
            go_wp2_with fail
            refine (less_named HW1.out.1 _ _ (2 * i + 2) i (by omega) (by omega) (by have := HYL.out; omega) (by have := HYL.out; omega) HL2.out).mono ?_
            rintro e w2 ⟨rfl, hb2⟩
            have hs2 := HS_below HW1.out.1 hb2
            have hcw2 := HS_cell hs2
            have hk2 := keep_below HW1.out.2.2 hb2
            have hB2 := below_then HW1.out.2.1 (by omega) hb2
            have hz2 := Below_size hb2 (Nat.le_refl _)
            have HW2 := Lib.hid (And.intro hs2 (And.intro hB2 hk2))
            clear hs2 hk2 hB2
            go_wp2_with fail
            refine (swap_named HW2.out.1 HW2.out.2.1 _ _ i (2 * i + 2) (by omega) (by omega) (by have := HYL.out; omega) (by have := HYL.out; omega) (by omega)).mono ?_
            rintro e w3 ⟨rfl, hs3, hB3, hk3⟩
            have HW3 := Lib.hid (And.intro hs3 (And.intro hB3 (KeepBut.trans HW2.out.2.2 hk3 (.inl rfl))))
            clear hs3 hB3 hk3
            go_wp2
            go_roundg kq
            case measure => omega
            case rel => exact ⟨2 * i + 2, Hp.swp (0 : Int) ys i (2 * i + 2), by go_num, ⟨⟨by omega, by omega, by omega, by rw [Hp.swp_length]; exact HYL.out, HR.out⟩⟩, ⟨HW3.out⟩⟩
        | false =>
          have HKID := Lib.hid (kid_one c2 hl1)
          have HL1 := Lib.hid hl1
          clear hl1
          go_wp2_with fail
          refine (less_named HW.out.1 _ _ (2 * i + 2) (2 * i + 1) (by omega) (by omega) (by have := HYL.out; omega) (by have := HYL.out; omega) HL1.out).mono ?_
          rintro e w1 ⟨rfl, hb1⟩
          have hs1 := HS_below HW.out.1 hb1
          have hcw1 := HS_cell hs1
          have hk1 := keep_below HW.out.2.2 hb1
          have hB1 := below_then HW.out.2.1 hbw hb1
          have hz1 := Below_size hb1 (Nat.le_refl _)
          have HW1 := Lib.hid (And.intro hs1 (And.intro hB1 hk1))
          clear hs1 hk1 hB1
          cases hl2 : less (Hp.at_ (0 : Int) ys (2 * i + 1)) (Hp.at_ (0 : Int) ys i) with
          | false =>
            have HR := Lib.hid ((down_still c1 HKID.out hl2).symm.trans HD.out)
            have HL2 := Lib.hid hl2
            clear hl2
            go_wp2_with fail
            refine (less_named HW1.out.1 _ _ (2 * i + 1) i (by omega) (by omega) (by have := HYL.out; omega) (by have := HYL.out; omega) HL2.out).mono ?_
            rintro e w2 ⟨rfl, hb2⟩
            have hs2 := HS_below HW1.out.1 hb2
            have hcw2 := HS_cell hs2
            have hk2 := keep_below HW1.out.2.2 hb2
            have hB2 := below_then HW1.out.2.1 (by omega) hb2
            have hz2 := Below_size hb2 (Nat.le_refl _)
            have HW2 := Lib.hid (And.intro hs2 (And.intro hB2 hk2))
            clear hs2 hk2 hB2
            go_wp2
            go_ret
            exact ⟨_, rfl, by unfold DownPost; rw [← HR.out]; exact HW2.out⟩
          | true =>
            have HR := Lib.hid ((down_go c1 HKID.out hl2).symm.trans HD.out)
            have HL2 := Lib.hid hl2
            clear hl2
            go_wp2_with fail
            refine (less_named HW1.out.1 _ _ (2 * i + 1) i (by omega) (by omega) (by have := HYL.out; omega) (by have := HYL.out; omega) HL2.out).mono ?_
            rintro e w2 ⟨rfl, hb2⟩
            have hs2 := HS_below HW1.out.1 hb2
            have hcw2 := HS_cell hs2
            have hk2 := keep_below HW1.out.2.2 hb2
            have hB2 := below_then HW1.out.2.1 (by omega) hb2
            have hz2 := Below_size hb2 (Nat.le_refl _)
            have HW2 := Lib.hid (And.intro hs2 (And.intro hB2 hk2))
            clear hs2 hk2 hB2
            go_wp2_with fail
            refine (swap_named HW2.out.1 HW2.out.2.1 _ _ i (2 * i + 1) (by omega) (by omega) (by have := HYL.out; omega) (by have := HYL.out; omega) (by omega)).mono ?_
            rintro e w3 ⟨rfl, hs3, hB3, hk3⟩
            have HW3 := Lib.hid (And.intro hs3 (And.intro hB3 (KeepBut.trans HW2.out.2.2 hk3 (.inl rfl))))
            clear hs3 hB3 hk3
            go_wp2
            go_roundg kq
            case measure => omega
            case rel => exact ⟨2 * i + 1, Hp.swp (0 : Int) ys i (2 * i + 1), by go_num, ⟨⟨by omega, by omega, by omega, by rw [Hp.swp_length]; exact HYL.out, HR.out⟩⟩, ⟨HW3.out⟩⟩
      · have HKID := Lib.hid (kid_alone (ys := ys) c2)
        cases hl2 : less (Hp.at_ (0 : Int) ys (2 * i + 1)) (Hp.at_ (0 : Int) ys i) with
        | false =>
          have HR := Lib.hid ((down_still c1 HKID.out hl2).symm.trans HD.out)
          have HL2 := Lib.hid hl2
          clear hl2
          go_wp2_with fail
          refine (less_named HW.out.1 _ _ (2 * i + 1) i (by omega) (by omega) (by have := HYL.out; omega) (by have := HYL.out; omega) HL2.out).mono ?_
          rintro e w2 ⟨rfl, hb2⟩
          have hs2 := HS_below HW.out.1 hb2
          have hcw2 := HS_cell hs2
          have hk2 := keep_below HW.out.2.2 hb2
          have hB2 := below_then HW.out.2.1 hbw hb2
          have hz2 := Below_size hb2 (Nat.le_refl _)
          have HW2 := Lib.hid (And.intro hs2 (And.intro hB2 hk2))
          clear hs2 hk2 hB2
          go_wp2
          go_ret
          exact ⟨_, rfl, by unfold DownPost; rw [← HR.out]; exact HW2.out⟩
        | true =>
          have HR := Lib.hid ((down_go c1 HKID.out hl2).symm.trans HD.out)
          have HL2 := Lib.hid hl2
          clear hl2
          go_wp2_with fail
          refine (less_named HW.out.1 _ _ (2 * i + 1) i (by omega) (by omega) (by have := HYL.out; omega) (by have := HYL.out; omega) HL2.out).mono ?_
          rintro e w2 ⟨rfl, hb2⟩
          have hs2 := HS_below HW.out.1 hb2
          have hcw2 := HS_cell hs2
          have hk2 := keep_below HW.out.2.2 hb2
          have hB2 := below_then HW.out.2.1 hbw hb2
          have hz2 := Below_size hb2 (Nat.le_refl _)
          have HW2 := Lib.hid (And.intro hs2 (And.intro hB2 hk2))
          clear hs2 hk2 hB2
          go_wp2_with fail
          refine (swap_named HW2.out.1 HW2.out.2.1 _ _ i (2 * i + 1) (by omega) (by omega) (by have := HYL.out; omega) (by have := HYL.out; omega) (by omega)).mono ?_
          rintro e w3 ⟨rfl, hs3, hB3, hk3⟩
          have HW3 := Lib.hid (And.intro hs3 (And.intro hB3 (KeepBut.trans HW2.out.2.2 hk3 (.inl rfl))))
          clear hs3 hB3 hk3
          go_wp2
          go_roundg kq
          case measure => omega
          case rel => exact ⟨2 * i + 1, Hp.swp (0 : Int) ys i (2 * i + 1), by go_num, ⟨⟨by omega, by omega, by omega, by rw [Hp.swp_length]; exact HYL.out, HR.out⟩⟩, ⟨HW3.out⟩⟩
end Go.Proofs.Ythpjpkcfepmhkaa.PAll.R
namespace Go.Proofs.Ythpjpkcfepmhkaa.PAll.R
open Go.RowKit Go.Proofs.YthpjpkcfepmhkaaW.PrintWords Go.Proofs.YthpjpkcfepmhkaaW.PrintLast Go.Proofs.YthpjpkcfepmhkaaW.PrintMore
set_option linter.unusedVariables false
set_option linter.unusedSimpArgs false
/-- What is told behind an append: the same row or a new one. -/
def Moved (W : World) (v v1 : Value) : Prop := v1.ownBlock = v.ownBlock ∨ ∃ b, v1.ownBlock = some b ∧ W.heap.size ≤ b
def PushPost (w0 w : World) (base g : Nat) (rest : List Value) (v : Value) (ys : List Int) (w' : World) : Prop := ∃ (A : Option Addr) (c : Nat), HS w' base g rest (.slice A ys.length c) ys ∧ Below base w0 w' ∧ KeepBut w w' g v.ownBlock ∧ Moved w v (.slice A ys.length c)
def PushEnd (w0 w : World) (base g : Nat) (rest : List Value) (v : Value) (ys : List Int) (e : Ending) (w' : World) : Prop := e = .returned (.tuple #[]) ∧ PushPost w0 w base g rest v ys w'
set_option maxRecDepth 100000 in
set_option maxHeartbeats 2000000 in
theorem pushm_calls (w0 w : World) (base g : Nat) (rest : List Value) (v : Value) (xs : List Int) (x : Int) (hs : HS w base g rest v xs) (hB : Below base w0 w) (hbs : base ≤ w.heap.size) (hbg : base ≤ g) (hl : (xs.length : Int) ≤ 1099511627776) :
    Calls Try.prog 89 #[.pointer (some ⟨g, 0, none⟩), .iface 3 (.int .i64 x)] w (PushEnd w0 w base g rest v (xs ++ [x])) := by
  obtain ⟨hg, hR⟩ := hs
  obtain ⟨hcell, hfz⟩ := cell0 hg
  have hgl := blk_lt hg
  have hta : ∀ (v : Value) (W : World), (Instr.typeAssert (.iface 3 v) 20 3 false).run Try.prog W = .ok v W := fun v W => by rfl
  have HG := Lib.hid hg
  have HR := Lib.hid hR
  have HB := Lib.hid hB
  have HNE := Lib.hid (Kd.R_ne hR hg (by decide))
  clear hg hR hB
  go_enter Try.func89, Try.ntmps89
  go_wp2
  go_region_law (rw [show (w.alloc (.cells #[.int .i64 x] 3)).drew = (w.drew).alloc (.cells [.int .i64 x].toArray 3) from rfl]; refine Kd.R_append_step (Kd.int .i64) (w0 := w0) base rfl (.tmp 7) (.tmp 10) 71 3 (.int .i64 0) 8 rfl Try.underlying71 infoE rfl (by decide) (by decide) v xs x [.int .i64 x] (fun _ => True) (fun _ => False) (by go_simp) (by go_simp) rfl (fun _ hk => hk.elim) (fun _ _ => trivial) (by (repeat (first | exact HR.out | apply Kd.R_alloc | apply Kd.R_drewN | apply Kd.R_drew))) (by (repeat (first | exact HB.out | apply below_drew))) (by (first | exact hbs | (simp; omega))) (by omega) ?_; intro v1 w1 ho hb hgr hat; obtain ⟨A1, c1, rfl⟩ := Kd.R_slice ho; have hg1 := blk_grown (blk_drew HG.out) hgr HNE.out; have hg1c := (cell0 hg1).1; have hg1z := (cell0 hg1).2; have HG1 := Lib.hid hg1; have HAP := Lib.hid (And.intro ho (And.intro hb (And.intro hgr hat))); clear ho hb hgr hat hg1)
  all_goals
    go_end0
    obtain ⟨ho, hb, hgr, hat⟩ := HAP.out
    refine ⟨rfl, A1, c1, ?_⟩
    simp only [List.length_append, List.length_singleton] at ho hat ⊢
    exact ⟨⟨set0 HG1.out _, Kd.R_set ho HG1.out (by decide) 0 _⟩, hb.setCell hbg _, (KeepBut.of_grown (w := w.drew) hgr g).set_ 0 _, hat⟩
end Go.Proofs.Ythpjpkcfepmhkaa.PAll.R
namespace Go.Proofs.Ythpjpkcfepmhkaa.PAll.R
open Go.RowKit Go.Proofs.YthpjpkcfepmhkaaW.PrintWords Go.Proofs.YthpjpkcfepmhkaaW.PrintLast Go.Proofs.YthpjpkcfepmhkaaW.PrintMore
set_option linter.unusedVariables false
set_option linter.unusedSimpArgs false
theorem down_named {w0 W : World} {base g : Nat} {rest : List Value} {v : Value} {xs : List Int} (hs : HS W base g rest v xs) (hB : Below base w0 W) (i n : Int) (a m : Nat) (ha : i = a) (hm : n = m) (hal : a < xs.length) (ham : a ≤ m) (hml : m ≤ xs.length) (hbs : base ≤ W.heap.size) (hl : (xs.length : Int) ≤ 1099511627776) :
    Calls Try.prog 62 #[.iface 73 (.pointer (some ⟨g, 0, none⟩)), .int .i64 i, .int .i64 n] W (DownEnd w0 W base g m rest v xs a) := by
  subst ha; subst hm
  have := down_calls w0 W base g rest v xs (a : Int) (m : Int) hs hB hbs (Int.natCast_nonneg _) (by omega) (by omega) (by omega) hl
  simpa only [Int.toNat_natCast] using this
theorem up_stop {k : Nat} {ys : List Int} : Hp.up (0 : Int) less (k + 1) ys 0 = ys := by simp [Hp.up]
theorem up_still {k j : Nat} {ys : List Int} (h : j ≠ 0) (hl : less (Hp.at_ (0 : Int) ys j) (Hp.at_ (0 : Int) ys ((j - 1) / 2)) = false) : Hp.up (0 : Int) less (k + 1) ys j = ys := by simp [Hp.up, h, hl]
theorem up_go {k j : Nat} {ys : List Int} (h : j ≠ 0) (hl : less (Hp.at_ (0 : Int) ys j) (Hp.at_ (0 : Int) ys ((j - 1) / 2)) = true) : Hp.up (0 : Int) less (k + 1) ys j = Hp.up (0 : Int) less k (Hp.swp (0 : Int) ys ((j - 1) / 2) j) ((j - 1) / 2) := by simp [Hp.up, h, hl]
def UpPost (w0 w : World) (base g : Nat) (rest : List Value) (v : Value) (xs : List Int) (j0 : Nat) (w' : World) : Prop := HS w' base g rest v (Hp.up (0 : Int) less (j0 + 1) xs j0) ∧ Below base w0 w' ∧ KeepBut w w' g v.ownBlock
set_option maxHeartbeats 8000000 in
theorem up_calls (w0 w : World) (base g : Nat) (rest : List Value) (v : Value) (xs : List Int) (q0 : Int) (j0 : Nat) (hq0 : q0 = j0) (hs : HS w base g rest v xs) (hB : Below base w0 w) (hbs : base ≤ w.heap.size) (hj : j0 < xs.length) (hl : (xs.length : Int) ≤ 1099511627776) :
    Calls Try.prog 61 #[.iface 73 (.pointer (some ⟨g, 0, none⟩)), .int .i64 q0] w fun e w' => e = .returned (.tuple #[]) ∧ UpPost w0 w base g rest v xs j0 w' := by
  subst hq0
  have HS0 := Lib.hid hs
  have HB0 := Lib.hid hB
  have hless := meth_Less g v
  have hswap := meth_Swap g v
  clear hs hB
  go_enter Try.func61, Try.ntmps61
  go_wp2
  go_loopg [1] (j0 + 1) (fun kq v1 w' => ∃ (j : Nat) (ys : List Int), v1 = .int .i64 j ∧ Aside0 (j < xs.length ∧ j < kq ∧ ys.length = xs.length ∧ Hp.up (0 : Int) less kq ys j = Hp.up (0 : Int) less (j0 + 1) xs j0) ∧ Aside0 (HS w' base g rest v ys ∧ Below base w0 w' ∧ KeepBut w w' g v.ownBlock))
  case atStart => exact ⟨j0, xs, rfl, ⟨by omega, by omega, rfl, rfl⟩, HS0.out, HB0.out, KeepBut.refl _ _ _⟩
  case round =>
    obtain ⟨j, ys, rfl, HA, HW⟩ := hrel
    obtain ⟨hjl, hk, hyl, hd⟩ := HA.out
    obtain ⟨hsy, hby, hky⟩ := HW.out
    clear HA HW
    obtain ⟨kq, rfl⟩ : ∃ kq, gk = kq + 1 := ⟨gk - 1, by omega⟩
    have hbw : base ≤ wr.heap.size := by have := hky.1; omega
    have hcw := HS_cell hsy
    by_cases c1 : j = 0
    · subst c1
      rw [up_stop] at hd
      have HR := Lib.hid hd
      have HW := Lib.hid (And.intro hsy (And.intro hby hky))
      clear hd hsy hby hky hyl
      have hz : Int.tdiv (((0 : Nat) : Int) - 1) 2 = 0 := by decide
      go_wp2
      go_end0
      exact ⟨rfl, by unfold UpPost; rw [← HR.out]; exact HW.out⟩
    · have HW := Lib.hid (And.intro hsy (And.intro hby hky))
      have HD := Lib.hid hd
      have HYL := Lib.hid hyl
      clear hd hsy hby hky hyl
      obtain ⟨i, hi⟩ : ∃ i : Nat, (j - 1) / 2 = i := ⟨_, rfl⟩
      have hiq : ((j : Int) - 1) / 2 = (i : Int) := by omega
      have hij : i < j := by omega
      have HI := Lib.hid hi
      have HIQ := Lib.hid hiq
      have hne : ((((j : Int) - 1) / 2) == (j : Int)) = false := beq_eq_false_iff_ne.2 (by omega)
      have hj1 : (0 : Int) ≤ (j : Int) - 1 := by omega
      clear hi hiq
      cases hl2 : less (Hp.at_ (0 : Int) ys j) (Hp.at_ (0 : Int) ys i) with
      | false =>
        have HR := Lib.hid ((up_still c1 (by rw [HI.out]; exact hl2)).symm.trans HD.out)
        have HL2 := Lib.hid hl2
        clear hl2
        go_wp2_with fail
        refine (less_named HW.out.1 _ _ j i (by omega) HIQ.out (by have := HYL.out; omega) (by have := HYL.out; omega) HL2.out).mono ?_
        rintro e w2 ⟨rfl, hb2⟩
        have hs2 := HS_below HW.out.1 hb2
        have hk2 := keep_below HW.out.2.2 hb2
        have hB2 := below_then HW.out.2.1 hbw hb2
        have HW2 := Lib.hid (And.intro hs2 (And.intro hB2 hk2))
        clear hs2 hk2 hB2
        go_wp2
        go_end0
        exact ⟨rfl, by unfold UpPost; rw [← HR.out]; exact HW2.out⟩
      | true =>
        have HR := Lib.hid ((up_go c1 (by rw [HI.out]; exact hl2)).symm.trans HD.out)
        have HL2 := Lib.hid hl2
        clear hl2
        go_wp2_with fail
        refine (less_named HW.out.1 _ _ j i (by omega) HIQ.out (by have := HYL.out; omega) (by have := HYL.out; omega) HL2.out).mono ?_
        rintro e w2 ⟨rfl, hb2⟩
        have hs2 := HS_below HW.out.1 hb2
        have hcw2 := HS_cell hs2
        have hk2 := keep_below HW.out.2.2 hb2
        have hB2 := below_then HW.out.2.1 hbw hb2
        have hz2 := Below_size hb2 (Nat.le_refl _)
        have HW2 := Lib.hid (And.intro hs2 (And.intro hB2 hk2))
        clear hs2 hk2 hB2
        go_wp2_with fail
        refine (swap_named HW2.out.1 HW2.out.2.1 _ _ i j HIQ.out (by omega) (by have := HYL.out; omega) (by have := HYL.out; omega) (by omega)).mono ?_
        rintro e w3 ⟨rfl, hs3, hB3, hk3⟩
        have HW3 := Lib.hid (And.intro hs3 (And.intro hB3 (KeepBut.trans HW2.out.2.2 hk3 (.inl rfl))))
        clear hs3 hB3 hk3
        go_wp2
        go_roundg kq
        case measure => omega
        case rel => exact ⟨i, Hp.swp (0 : Int) ys i j, by rw [HIQ.out], ⟨⟨by omega, by omega, by rw [Hp.swp_length]; exact HYL.out, by rw [← HR.out, HI.out]⟩⟩, ⟨HW3.out⟩⟩
theorem keep_moved {w w1 w2 : World} {g : Nat} {v v1 : Value} (h : KeepBut w w1 g v.ownBlock) (hm : Moved w v v1) (k : KeepBut w1 w2 g v1.ownBlock) : KeepBut w w2 g v.ownBlock :=
  h.trans k hm
set_option maxHeartbeats 4000000 in
theorem push_calls (w0 w : World) (base g : Nat) (rest : List Value) (v : Value) (xs : List Int) (x : Int) (hs : HS w base g rest v xs) (hB : Below base w0 w) (hbs : base ≤ w.heap.size) (hbg : base ≤ g) (hl : (xs.length : Int) < 1099511627776) :
    Calls Try.prog 41 #[.iface 73 (.pointer (some ⟨g, 0, none⟩)), .iface 3 (.int .i64 x)] w (PushEnd w0 w base g rest v (Hp.push (0 : Int) less xs x)) := by
  have hpush := meth_Push ⟨g, 0, none⟩
  have HS0 := Lib.hid hs
  have HB0 := Lib.hid hB
  clear hs hB
  go_enter Try.func41, Try.ntmps41
  go_wp2_with fail
  refine (pushm_calls w0 w base g rest v xs x HS0.out HB0.out hbs hbg (by omega)).mono ?_
  rintro e w1 ⟨rfl, A, c, hs1, hB1, hk1, hm1⟩
  have hb1 : base ≤ w1.heap.size := by have := hk1.1; omega
  have hlen := meth_Len g (.slice A (xs ++ [x]).length c)
  have hcell := HS_cell hs1
  have hxl : (xs ++ [x]).length = xs.length + 1 := by simp
  have HXL := Lib.hid hxl
  have HW1 := Lib.hid (And.intro hs1 (And.intro hB1 (And.intro hk1 hm1)))
  clear hs1 hB1 hk1 hm1 hxl
  have hl2 : ((xs ++ [x]).length : Int) ≤ 1099511627776 := by rw [HXL.out]; omega
  have hpe : Hp.up (0 : Int) less (xs.length + 1) (xs ++ [x]) xs.length = Hp.push (0 : Int) less xs x := rfl
  have HPE := Lib.hid hpe
  clear hpe
  generalize xs ++ [x] = ys at *
  go_wp2_with fail
  refine (len_calls A ys.length c w1 (by omega)).mono ?_
  rintro e w1' ⟨rfl, rfl⟩
  go_wp2_with fail
  refine (up_calls w0 w1 base g rest (.slice A ys.length c) ys _ xs.length (by rw [HXL.out]; omega) HW1.out.1 HW1.out.2.1 hb1 (by rw [HXL.out]; omega) hl2).mono ?_
  rintro e w2 ⟨rfl, hu⟩
  have HU := Lib.hid hu
  clear hu
  go_wp2
  go_end0
  obtain ⟨u1, u2, u3⟩ := HU.out
  rw [HPE.out] at u1
  have hlen2 : (Hp.push (0 : Int) less xs x).length = ys.length := by rw [Hp.push_length]; exact HXL.out.symm
  refine ⟨rfl, A, c, ?_, u2, keep_moved HW1.out.2.2.1 HW1.out.2.2.2 u3, ?_⟩
  · rw [hlen2]; exact u1
  · rw [hlen2]; exact HW1.out.2.2.2
def PopPost (w0 w : World) (base g : Nat) (rest : List Value) (A : Option Addr) (c : Nat) (xs : List Int) (w' : World) : Prop := HS w' base g rest (.slice A (xs.length - 1) c) (Hp.pop (0 : Int) less xs) ∧ Below base w0 w' ∧ KeepBut w w' g (Value.slice A xs.length c).ownBlock
theorem popped_eq {xs : List Int} (hp : 0 < xs.length) : Hp.down (0 : Int) less (xs.length - 1) (xs.length - 1 + 1) (Hp.swp (0 : Int) xs 0 (xs.length - 1)) 0 = Hp.popped (0 : Int) less xs := by
  unfold Hp.popped
  rw [show xs.length - 1 + 1 = xs.length from by omega]
set_option maxHeartbeats 2000000 in
theorem pop_calls (w0 w : World) (base g : Nat) (rest : List Value) (A : Option Addr) (c : Nat) (xs : List Int) (hs : HS w base g rest (.slice A xs.length c) xs) (hB : Below base w0 w) (hbs : base ≤ w.heap.size) (hbg : base ≤ g) (hp : 0 < xs.length) (hl : (xs.length : Int) ≤ 1099511627776) :
    Calls Try.prog 43 #[.iface 73 (.pointer (some ⟨g, 0, none⟩))] w fun e w' => e = .returned (.iface 3 (.int .i64 (Hp.at_ (0 : Int) xs 0))) ∧ PopPost w0 w base g rest A c xs w' := by
  have hlen := meth_Len g (.slice A xs.length c)
  have hswap := meth_Swap g (.slice A xs.length c)
  have hpop := meth_Pop ⟨g, 0, none⟩
  have hcell := HS_cell hs
  have HS0 := Lib.hid hs
  have HB0 := Lib.hid hB
  have hne : xs ≠ [] := List.length_pos_iff.1 hp
  clear hs hB
  go_enter Try.func43, Try.ntmps43
  go_wp2_with fail
  refine (len_calls A xs.length c w (by omega)).mono ?_
  rintro e w1 ⟨rfl, rfl⟩
  go_wp2_with fail
  refine (swap_named HS0.out HB0.out _ _ 0 (xs.length - 1) (by omega) (by omega) (by omega) (by omega) hbs).mono ?_
  rintro e w1 ⟨rfl, hs1, hB1, hk1⟩
  have hb1 : base ≤ w1.heap.size := by have := hk1.1; omega
  have hl1 : (Hp.swp (0 : Int) xs 0 (xs.length - 1)).length = xs.length := Hp.swp_length _ _ _
  have hcell1 := HS_cell hs1
  have HW1 := Lib.hid (And.intro hs1 (And.intro hB1 hk1))
  have HL1 := Lib.hid hl1
  clear hs1 hB1 hk1 hl1
  go_wp2_with fail
  refine (down_named HW1.out.1 HW1.out.2.1 _ _ 0 (xs.length - 1) (by omega) (by omega) (by have := HL1.out; omega) (by omega) (by have := HL1.out; omega) hb1 (by rw [HL1.out]; exact hl)).mono ?_
  rintro e w2 ⟨r, rfl, hp2⟩
  have HP2 := Lib.hid hp2
  clear hp2
  have hb2 : base ≤ w2.heap.size := by have := HP2.out.2.2.1; omega
  have hyl : (Hp.popped (0 : Int) less xs).length = xs.length := Hp.popped_length xs hne
  have hs2 : HS w2 base g rest (.slice A xs.length c) (Hp.popped (0 : Int) less xs) := by
    have h := HP2.out.1
    rw [popped_eq hp] at h
    exact h
  have HYL := Lib.hid hyl
  have HS2 := Lib.hid hs2
  clear hyl hs2
  go_wp2_with fail
  refine (popm_calls w0 w2 base g rest A xs.length c (Hp.popped (0 : Int) less xs) HS2.out HP2.out.2.1 hb2 hbg (by rw [HYL.out]; exact hp)).mono ?_
  rintro e w3 ⟨rfl, hs3, hB3, hk3⟩
  rw [HYL.out, Hp.popped_last xs hne]
  have HW3 := Lib.hid (And.intro hs3 (And.intro hB3 hk3))
  clear hs3 hB3 hk3
  go_wp2
  go_ret
  refine ⟨rfl, ?_⟩
  obtain ⟨h1, h2, h3⟩ := HW3.out
  rw [HYL.out] at h1
  exact ⟨h1, h2, KeepBut.trans (KeepBut.trans HW1.out.2.2 HP2.out.2.2 (.inl rfl)) (keep_none h3) (.inl rfl)⟩
end Go.Proofs.Ythpjpkcfepmhkaa.PAll.R
namespace Go.Proofs.Ythpjpkcfepmhkaa.PAll
open Go.RowKit Go.Proofs.YthpjpkcfepmhkaaW.PrintWords Go.Proofs.YthpjpkcfepmhkaaW.PrintLast Go.Proofs.YthpjpkcfepmhkaaW.PrintMore
set_option linter.unusedVariables false
set_option linter.unusedSimpArgs false
def edgeIn (n : Int) (e : S68) : Bool := decide (0 ≤ e.f0) && decide (e.f0 < n) && decide (0 ≤ e.f1) && decide (e.f1 < n)
def validS (n : Int) (l : List S68) : Bool := l.all (edgeIn n) && decide (0 ≤ n) && decide (n ≤ 65536)
theorem edgeIn_iff {n : Int} {e : S68} : edgeIn n e = true ↔ 0 ≤ e.f0 ∧ e.f0 < n ∧ 0 ≤ e.f1 ∧ e.f1 < n := by
  unfold edgeIn
  simp only [Bool.and_eq_true, decide_eq_true_eq, and_assoc]
theorem validS_not {n : Int} {l : List S68} (k : Nat) (hk : k < l.length) (h : edgeIn n (rd_T68 l k) = false) : validS n l = false := by
  unfold validS
  have : l.all (edgeIn n) = false := by
    rw [List.all_eq_false]
    refine ⟨rd_T68 l k, ?_, by rw [h]; decide⟩
    unfold rd_T68
    rw [Int.toNat_natCast, List.getD_eq_getElem?_getD, List.getElem?_eq_getElem hk]
    exact List.getElem_mem hk
  rw [this]; rfl
theorem all_take_succ {n : Int} {l : List S68} (k : Nat) (hk : k < l.length) (h : (l.take k).all (edgeIn n) = true) (h1 : edgeIn n (rd_T68 l k) = true) : (l.take (k + 1)).all (edgeIn n) = true := by
  rw [List.take_succ_eq_append_getElem hk, List.all_append, h]
  have : rd_T68 l k = l[k] := by
    unfold rd_T68
    rw [Int.toNat_natCast, List.getD_eq_getElem?_getD, List.getElem?_eq_getElem hk]; rfl
  rw [this] at h1
  simp [h1]
set_option maxHeartbeats 4000000 in
theorem valid_calls (n : Int) (A1 : Option Addr) (c1 : Nat) (l1 : List S68) (w : World) (hr1 : Kd.C k68 w A1 l1.length l1) (hl : l1.length ≤ 1099511627776) :
    Calls Try.prog 40 #[.int .i64 n, .slice A1 l1.length c1] w fun e w' => e = .returned (.bool (validS n l1)) ∧ Below w.heap.size w w' := by
  have HR1 := Lib.hid hr1
  clear hr1
  go_enter Try.func40, Try.ntmps40
  go_wp2
  go_loopg [9] l1.length (fun kq v9 w' => ∃ (k : Nat), v9 = .int .i64 k ∧ Aside0 (kq + k = l1.length ∧ (l1.take k).all (edgeIn n) = true) ∧ Aside0 (Below w.heap.size w w'))
  case atStart => exact ⟨0, rfl, ⟨by omega, by simp⟩, ⟨Below.refl _ _⟩⟩
  case round =>
    obtain ⟨k, rfl, HA, HW⟩ := hrel
    cases gk with
    | zero =>
      have hk : l1.length ≤ k := by have := HA.out.1; omega
      have hv : validS n l1 = (decide (0 ≤ n) && decide (n ≤ 65536)) := by
        have h := HA.out.2
        rw [List.take_of_length_le hk] at h
        unfold validS
        rw [h]; simp
      have HV := Lib.hid hv
      clear hv HA
      by_cases h0 : 0 ≤ n
      · by_cases h1 : n ≤ 65536
        all_goals (go_wp2; go_ret; exact ⟨by rw [HV.out]; simp [h0, h1], HW.out⟩)
      · go_wp2
        go_ret
        exact ⟨by rw [HV.out, show decide (0 ≤ n) = false from decide_eq_false (by omega), Bool.false_and]; rfl, HW.out⟩
    | succ kq =>
      have hk : k < l1.length := by have := HA.out.1; omega
      obtain ⟨ad, rfl, hx0, hx1⟩ := at_T68 HR1.out (k : Int) (Int.natCast_nonneg _) (by omega)
      have hB := HW.out
      replace hx0 := (hB.cell (World.block_lt_of_cell? w _ hx0)).trans hx0
      replace hx1 := (hB.cell (World.block_lt_of_cell? w _ hx1)).trans hx1
      simp only [Int.toNat_natCast] at hx0 hx1
      have HC := Lib.hid (all_take_succ (n := n) k hk HA.out.2)
      have HN := Lib.hid (validS_not (n := n) k hk)
      clear hB
      generalize rd_T68 l1 k = x at *
      have hfalse : (¬ (0 ≤ x.f0 ∧ x.f0 < n ∧ 0 ≤ x.f1 ∧ x.f1 < n)) → validS n l1 = false := fun h => HN.out (by rw [Bool.eq_false_iff]; exact fun h' => h (edgeIn_iff.1 h'))
      have HFL := Lib.hid hfalse
      clear hfalse HN
      by_cases c1 : x.f0 < 0
      · have c1' : decide (x.f0 < 0) = true := decide_eq_true c1
        go_wp2
        go_ret
        exact ⟨by rw [HFL.out (by omega)]; rfl, by repeat (first | exact HW.out | apply below_alloc | apply below_drew)⟩
      · by_cases c2 : x.f0 < n
        · by_cases c3 : x.f1 < 0
          · go_wp2
            go_ret
            exact ⟨by rw [HFL.out (by omega)]; rfl, by repeat (first | exact HW.out | apply below_alloc | apply below_drew)⟩
          · by_cases c4 : x.f1 < n
            · go_wp2
              go_roundg kq
              case measure => omega
              case rel => exact ⟨k + 1, by go_num, ⟨by have := HA.out.1; omega, HC.out (edgeIn_iff.2 ⟨by omega, c2, by omega, c4⟩)⟩, ⟨below_alloc HW.out _⟩⟩
            · go_wp2
              go_ret
              exact ⟨by rw [HFL.out (by omega)]; rfl, by repeat (first | exact HW.out | apply below_alloc | apply below_drew)⟩
        · go_wp2
          go_ret
          exact ⟨by rw [HFL.out (by omega)]; rfl, by repeat (first | exact HW.out | apply below_alloc | apply below_drew)⟩
end Go.Proofs.Ythpjpkcfepmhkaa.PAll
namespace Go.Proofs.Ythpjpkcfepmhkaa.PAll
open Go.RowKit Go.Proofs.YthpjpkcfepmhkaaW.PrintWords Go.Proofs.YthpjpkcfepmhkaaW.PrintLast Go.Proofs.YthpjpkcfepmhkaaW.PrintMore
set_option linter.unusedVariables false
set_option linter.unusedSimpArgs false
section
variable {w0 w w1 : World} {base : Nat} {f : Nat → Nat} {o : Nat} {v : Value} {vs : List Value} {xss : List (List Int)}
theorem getD_some {vs : List Value} {b : Nat} (hb : b < vs.length) : vs[b]? = some (vs.getD b undef) := by
  rw [List.getD_eq_getElem?_getD, List.getElem?_eq_getElem hb]; rfl
/-- An inner row has been appended to and its header put back. -/
theorem Adj.appended {b gv N : Nat} {u1 : Value} {ys : List Int} (h : Adj w base f o (.slice (some ⟨gv, 0, none⟩) N N) vs xss) (hN : vs.length = N) (hb : b < vs.length) (hg : w.grownBy w1 (vs.getD b undef).ownBlock) (hR : KI.R 3 w1 base (fun _ => True) u1 ys)
    (hm : u1.ownBlock = (vs.getD b undef).ownBlock ∨ ∃ k, u1.ownBlock = some k ∧ w.heap.size ≤ k) :
    Adj (w1.setCell ⟨gv, b, none⟩ u1) base (PAll.upd f w.heap.size (o + b)) o (.slice (some ⟨gv, 0, none⟩) N N) (vs.set b u1) (xss.set b ys) := by
  obtain ⟨hRb, hOb⟩ := h.at_ b hb
  have hlt := Kd.R_lt hRb
  have houter : w1.ownsRow base 24 1 (.slice (some ⟨gv, 0, none⟩) N N) vs.length vs := by
    refine own_move h.outer (fun k hk' => ?_)
    obtain ⟨cells, hc⟩ := own_typed h.outer k hk'
    refine hg.block k (own_lt h.outer k hk') ?_
    intro e
    obtain ⟨cs, hc2⟩ := Kd.R_typed hRb k e.symm
    rw [hc] at hc2
    injection hc2 with hc2
    injection hc2 with _ hc2
    exact absurd hc2 (by decide)
  obtain ⟨cells, hc⟩ := own_typed houter gv (by simp [Value.ownBlock])
  subst hN
  have hs := (houter.stored b u1).1
  refine ⟨by rw [List.length_set]; exact hs, by rw [List.length_set, List.length_set]; exact h.len, fun j u xs hu hx => ?_⟩
  by_cases e : j = b
  · subst e
    rw [List.getElem?_set_self hb] at hu
    rw [List.getElem?_set_self (by rw [← h.len]; exact hb)] at hx
    injection hu with hu
    injection hx with hx
    subst hu; subst hx
    exact ⟨Kd.R_set hR hc (by decide) _ _, hOb.moved hlt hm⟩
  · rw [List.getElem?_set_ne (Ne.symm e)] at hu hx
    obtain ⟨h1, h2⟩ := h.inner j u xs hu hx
    exact ⟨Kd.R_set (rs_grown rfl h1 hg (h2.ne hOb (by omega))) hc (by decide) _ _, h2.upd (Kd.R_lt h1)⟩
end
structure AW (w : World) (base : Nat) (f : Nat → Nat) (N gv gw : Nat) (vs : List Value) (xss : List (List Int)) (ws : List Int) : Prop where
  adj : Adj w base f 0 (.slice (some ⟨gv, 0, none⟩) N N) vs xss
  nv : vs.length = N
  waits : KI.R 3 w base (fun _ => True) (.slice (some ⟨gw, 0, none⟩) N N) ws
  nw : ws.length = N
  own : Own f N (.slice (some ⟨gw, 0, none⟩) N N)
section
variable {w0 w w1 : World} {base : Nat} {f : Nat → Nat} {N gv gw : Nat} {vs : List Value} {xss : List (List Int)} {ws : List Int}
theorem AW.below (h : AW w base f N gv gw vs xss ws) (hb : Below w.heap.size w w1) : AW w1 base f N gv gw vs xss ws :=
  ⟨h.adj.below hb, h.nv, Kd.R_below h.waits hb, h.nw, h.own⟩
theorem AW.outer_lt (h : AW w base f N gv gw vs xss ws) : gv < w.heap.size := own_lt h.adj.outer gv (by simp [Value.ownBlock])
theorem AW.waits_lt (h : AW w base f N gv gw vs xss ws) : gw < w.heap.size := Kd.R_lt h.waits gw (by simp [Value.ownBlock])
theorem AW.cell (h : AW w base f N gv gw vs xss ws) (b : Nat) (hb : b < N) : w.cell? ⟨gv, b, none⟩ = some (vs.getD b undef) ∧ w.frozen? ⟨gv, b, none⟩ = false := by
  constructor
  · have hc := h.adj.outer.cells (g := gv) rfl b (vs.getD b undef) (getD_some (by rw [h.nv]; exact hb))
    rwa [add_plain] at hc
  · obtain ⟨cells, hc⟩ := own_typed h.adj.outer gv (by simp [Value.ownBlock])
    exact blk_frozen hc _
theorem AW.at_ (h : AW w base f N gv gw vs xss ws) (b : Nat) (hb : b < N) : KI.R 3 w base (fun _ => True) (vs.getD b undef) (xss.getD b []) ∧ Own f b (vs.getD b undef) := by
  have := h.adj.at_ b (by rw [h.nv]; exact hb)
  rwa [Nat.zero_add] at this
theorem AW.wcell (h : AW w base f N gv gw vs xss ws) (b : Nat) (hb : b < N) : w.cell? ⟨gw, b, none⟩ = some (.int .i64 (ws.getD b 0)) ∧ w.frozen? ⟨gw, b, none⟩ = false := by
  have := R.row_cell h.waits b (by rw [h.nw]; exact hb)
  exact this
/-- After a step that writes a row that is another one's, and new memory. -/
theorem AW.keep (h : AW w base f N gv gw vs xss ws) {g q : Nat} {row : Option Nat} {u : Value} {xs : List Int} {cs : Array Value} (hk : KeepBut w w1 g row) (hg : w.heap[g]? = some (.cells cs 71 (0, 0))) (hrow : row = u.ownBlock) (hR : KI.R 3 w base (fun _ => True) u xs) (hu : Own f q u) (hq : N < q) :
    AW w1 base (PAll.upd f w.heap.size q) N gv gw vs xss ws := by
  subst hrow
  have hne : ∀ (j : Nat) (x : Value), vs[j]? = some x → ∀ k, x.ownBlock = some k → some k ≠ u.ownBlock := fun j x hj => by
    have hjl : j < vs.length := (List.getElem?_eq_some_iff.1 hj).1
    have hx := (h.adj.at_ j hjl).2
    rw [getD_some hjl] at hj
    injection hj with hj
    rw [hj, Nat.zero_add] at hx
    have := h.nv
    exact hx.ne hu (by omega)
  have hrow : u.ownBlock = none ∨ ∃ (cells : Array Value) (t : Nat) (k : Nat), u.ownBlock = some k ∧ w.heap[k]? = some (.cells cells t (0, 0)) ∧ t ≠ 24 := by
    cases hb : u.ownBlock with
    | none => exact .inl rfl
    | some k =>
      obtain ⟨cells, hc⟩ := Kd.R_typed hR k hb
      exact .inr ⟨cells, 3, k, rfl, hc, by decide⟩
  have ha := (h.adj.keep hk ⟨_, _, hg, by decide, by decide⟩ hrow hne)
  refine ⟨⟨ha.outer, ha.len, fun j x xs hj hx => ⟨(ha.inner j x xs hj hx).1, (ha.inner j x xs hj hx).2.upd (Kd.R_lt (h.adj.inner j x xs hj hx).1)⟩⟩, h.nv, rs_keep rfl h.waits hk (fun k hk' => ?_) (h.own.ne hu (by omega)), h.nw, h.own.upd (Kd.R_lt h.waits)⟩
  rintro rfl
  obtain ⟨cells, hc⟩ := Kd.R_typed h.waits k hk'
  rw [hc] at hg
  injection hg with hg
  injection hg with _ hg
  exact absurd hg (by decide)
/-- An edge is put in: one inner row is appended to, and its header put back. -/
theorem AW.edge (h : AW w base f N gv gw vs xss ws) {b : Nat} {u1 : Value} {ys : List Int} (hb : b < N) (hg : w.grownBy w1 (vs.getD b undef).ownBlock) (hR : KI.R 3 w1 base (fun _ => True) u1 ys)
    (hm : u1.ownBlock = (vs.getD b undef).ownBlock ∨ ∃ k, u1.ownBlock = some k ∧ w.heap.size ≤ k) :
    AW (w1.setCell ⟨gv, b, none⟩ u1) base (PAll.upd f w.heap.size b) N gv gw (vs.set b u1) (xss.set b ys) ws := by
  have ha := h.adj.appended h.nv (by rw [h.nv]; exact hb) hg hR hm
  rw [Nat.zero_add] at ha
  obtain ⟨hRb, hOb⟩ := h.at_ b hb
  have houter : w1.ownsRow base 24 1 (.slice (some ⟨gv, 0, none⟩) N N) vs.length vs := by
    refine own_move h.adj.outer (fun k hk' => ?_)
    obtain ⟨cells, hc⟩ := own_typed h.adj.outer k hk'
    refine hg.block k (own_lt h.adj.outer k hk') ?_
    intro e
    obtain ⟨cs, hc2⟩ := Kd.R_typed hRb k e.symm
    rw [hc] at hc2
    injection hc2 with hc2
    injection hc2 with _ hc2
    exact absurd hc2 (by decide)
  obtain ⟨cells, hc⟩ := own_typed houter gv (by simp [Value.ownBlock])
  exact ⟨ha, by rw [List.length_set]; exact h.nv, Kd.R_set (rs_grown rfl h.waits hg (h.own.ne hOb (by omega))) hc (by decide) _ _, h.nw, h.own.upd (Kd.R_lt h.waits)⟩
/-- One number of the ones that wait is written. -/
theorem AW.wait (h : AW w base f N gv gw vs xss ws) {b : Nat} (hb : b < N) (x : Int) :
    AW (w.setCell ⟨gw, b, none⟩ (.int .i64 x)) base f N gv gw vs xss (ws.set b x) ∧ w.grownBy (w.setCell ⟨gw, b, none⟩ (.int .i64 x)) (some gw) := by
  obtain ⟨h1, h2⟩ := R.row_set h.waits b x
  refine ⟨⟨?_, h.nv, h1, by rw [List.length_set]; exact h.nw, h.own⟩, h2⟩
  obtain ⟨cells, hc⟩ := Kd.R_typed h.waits gw (by simp [Value.ownBlock])
  refine h.adj.grown h2 (.inr ⟨cells, 3, gw, rfl, hc, by decide⟩) (fun j x hj => ?_)
  have hjl : j < vs.length := (List.getElem?_eq_some_iff.1 hj).1
  have hx := (h.adj.at_ j hjl).2
  rw [getD_some hjl] at hj
  injection hj with hj
  rw [hj, Nat.zero_add] at hx
  have := h.nv
  exact hx.ne h.own (by omega)
end
/-- The world in Sort's later loops. -/
structure ST (w0 w : World) (base : Nat) (f : Nat → Nat) (N gv gw g : Nat) (vs : List Value) (xss : List (List Int)) (ws : List Int) (v : Value) (xs : List Int) (vo : Value) (out : List Int) : Prop where
  aw : AW w base f N gv gw vs xss ws
  hs : R.HS w base g [] v xs
  hso : Own f (N + 1) v
  out : KI.R 3 w base (fun _ => True) vo out
  outo : Own f (N + 2) vo
  B : Below base w0 w
  base_g : base ≤ g
section
variable {w0 w w1 : World} {base : Nat} {f : Nat → Nat} {N gv gw g : Nat} {vs : List Value} {xss : List (List Int)} {ws : List Int} {v : Value} {xs : List Int} {vo : Value} {out : List Int}
theorem ST.below (h : ST w0 w base f N gv gw g vs xss ws v xs vo out) (hb : Below w.heap.size w w1) (hbs : base ≤ w.heap.size) : ST w0 w1 base f N gv gw g vs xss ws v xs vo out :=
  ⟨h.aw.below hb, R.HS_below h.hs hb, h.hso, Kd.R_below h.out hb, h.outo, below_then h.B hbs hb, h.base_g⟩
theorem ST.keep (h : ST w0 w base f N gv gw g vs xss ws v xs vo out) {A : Option Addr} {n c : Nat} {ys : List Int} (hs : R.HS w1 base g [] (.slice A n c) ys) (hB : Below base w0 w1) (hk : KeepBut w w1 g v.ownBlock) (hm : R.Moved w v (.slice A n c)) :
    ∃ f', ST w0 w1 base f' N gv gw g vs xss ws (.slice A n c) ys vo out := by
  refine ⟨PAll.upd f w.heap.size (N + 1), h.aw.keep hk h.hs.1 rfl h.hs.2 h.hso (by omega), hs, h.hso.moved (Kd.R_lt h.hs.2) hm, ?_, h.outo.upd (Kd.R_lt h.out), hB, h.base_g⟩
  exact rs_keep rfl h.out hk (fun k hk' e => by subst e; exact Kd.R_ne h.out h.hs.1 (by decide) hk'.symm) (h.outo.ne h.hso (by omega))
theorem ST.push (h : ST w0 w base f N gv gw g vs xss ws v xs vo out) {ys : List Int} (hp : R.PushPost w0 w base g [] v ys w1) : ∃ f' v', ST w0 w1 base f' N gv gw g vs xss ws v' ys vo out := by
  obtain ⟨A, c, h1, h2, h3, h4⟩ := hp
  obtain ⟨f', h'⟩ := h.keep h1 h2 h3 h4
  exact ⟨f', _, h'⟩
theorem ST.pop {A : Option Addr} {c : Nat} (h : ST w0 w base f N gv gw g vs xss ws (.slice A xs.length c) xs vo out) (hp : R.PopPost w0 w base g [] A c xs w1) : ∃ f' v', ST w0 w1 base f' N gv gw g vs xss ws v' (Hp.pop (0 : Int) R.less xs) vo out := by
  obtain ⟨h1, h2, h3⟩ := hp
  obtain ⟨f', h'⟩ := h.keep h1 h2 h3 (.inl (by cases A <;> rfl))
  exact ⟨f', _, h'⟩
theorem ST.app (h : ST w0 w base f N gv gw g vs xss ws v xs vo out) {v1 : Value} {ys : List Int} (hg : w.grownBy w1 vo.ownBlock) (hR : KI.R 3 w1 base (fun _ => True) v1 ys) (hB : Below base w0 w1) (hm : v1.ownBlock = vo.ownBlock ∨ ∃ k, v1.ownBlock = some k ∧ w.heap.size ≤ k) :
    ∃ f', ST w0 w1 base f' N gv gw g vs xss ws v xs v1 ys := by
  refine ⟨PAll.upd f w.heap.size (N + 2), h.aw.keep (KeepBut.of_grown hg g) h.hs.1 rfl h.out h.outo (by omega), ⟨blk_grown h.hs.1 hg (Kd.R_ne h.out h.hs.1 (by decide)), rs_grown rfl h.hs.2 hg (h.hso.ne h.outo (by omega))⟩, h.hso.upd (Kd.R_lt h.hs.2), hR, h.outo.moved (Kd.R_lt h.out) hm, hB, h.base_g⟩
theorem ST.wait (h : ST w0 w base f N gv gw g vs xss ws v xs vo out) {b : Nat} (hb : b < N) (x : Int) (hbw : base ≤ gw) (hbs : base ≤ w.heap.size) :
    ST w0 (w.setCell ⟨gw, b, none⟩ (.int .i64 x)) base f N gv gw g vs xss (ws.set b x) v xs vo out := by
  obtain ⟨h1, h2⟩ := h.aw.wait hb x
  have hw : (Value.slice (some ⟨gw, 0, none⟩) N N).ownBlock = some gw := by simp [Value.ownBlock]
  refine ⟨h1, ⟨blk_grown h.hs.1 h2 (by rw [← hw]; exact Kd.R_ne h.aw.waits h.hs.1 (by decide)), rs_grown rfl h.hs.2 h2 (by rw [← hw]; exact h.hso.ne h.aw.own (by omega))⟩, h.hso, rs_grown rfl h.out h2 (by rw [← hw]; exact h.outo.ne h.aw.own (by omega)), h.outo, h.B.setCell hbw _, h.base_g⟩
end
end Go.Proofs.Ythpjpkcfepmhkaa.PAll
