/- Laid together by a program of this session (wip/bundle.py) out of its own texts and of the words that the kit's print.sh laid for this seat, cut to what is used. -/
import Derived.Test.YthpjpkcfepmhkaaMOrderArchives5
namespace Go.Proofs.Ythpjpkcfepmhkaa.PAll
open Go.RowKit Go.Proofs.YthpjpkcfepmhkaaW.PrintWords Go.Proofs.YthpjpkcfepmhkaaW.PrintLast Go.Proofs.YthpjpkcfepmhkaaW.PrintMore
attribute [local go_sem] max2_int min2_int max_two min_two max_three min_three max_four min_four   -- for this text's walks alone
set_option linter.unusedVariables false
set_option linter.unusedSimpArgs false
def arlinklaw23_awake.f (k : Nat)  : Option (Bool) := (order_Sort.f 3 (([(⟨2, 0⟩ : S68)] : List (S68)))).bind fun bt108 => ((order_Sort.f 2 (([(⟨0, 1⟩ : S68), (⟨1, 0⟩ : S68)] : List (S68)))).bind fun bt115 => ((order_Sort.f 2 (([(⟨0, 2⟩ : S68)] : List (S68)))).bind fun bt122 => ((order_Sort.f 0 ([] : List (S68))).bind fun bt126 => ((arlinkref04_Numbers.f k bt108.1 (([1, 2, 0] : List Int))).bind fun t133 => (if t133 = true then (if bt108.2 = 0 then (if bt115.2 = 18 then (if bt122.2 = 13 then (if (bt126.1.length : Int) = 0 then (if bt126.2 = 0 then ((order_Cycle.f 3 (([(⟨0, 1⟩ : S68), (⟨1, 0⟩ : S68), (⟨1, 2⟩ : S68)] : List (S68)))).bind fun t137 => ((arlinkref04_Numbers.f k t137 (([0, 1] : List Int))).bind fun t143 => (some t143))) else (some false)) else (some false)) else (some false)) else (some false)) else (some false)) else (some false))))))
theorem arlinklaw23_awake.mono : ∀ k, LeO (arlinklaw23_awake.f k ) (arlinklaw23_awake.f (k + 1) ) := by
 intro  k
 unfold arlinklaw23_awake.f
 repeat' first
   | (with_reducible exact arlinkref04_Numbers.mono _ _ _)
   | (with_reducible exact LeO.refl _)
   | (with_reducible exact LeO.none _)
   | (with_reducible refine LeO.ite ?_ ?_)
   | (with_reducible refine LeO.bind ?_ (fun _ => ?_))
   | exact arlinkref04_Numbers.mono _ _ _
   | exact LeO.none _
   | refine LeO.ite ?_ ?_
   | refine LeO.bind ?_ (fun _ => ?_)
set_option maxHeartbeats 8000000 in
set_option maxRecDepth 100000 in
theorem arlinklaw23_awake.calls (k : Nat)  (r : Bool) (w : World) (h : arlinklaw23_awake.f k  = some r) :
  Calls Try.prog 13 #[] w fun e w' => e = .returned (.bool r) ∧ Below w.heap.size w w' := by
 have hu68 := Try.underlying68
 have HB := Aside0.mk (Below.refl w.heap.size w)
 have H : ((order_Sort.f 3 (([(⟨2, 0⟩ : S68)] : List (S68)))).bind fun bt108 => ((order_Sort.f 2 (([(⟨0, 1⟩ : S68), (⟨1, 0⟩ : S68)] : List (S68)))).bind fun bt115 => ((order_Sort.f 2 (([(⟨0, 2⟩ : S68)] : List (S68)))).bind fun bt122 => ((order_Sort.f 0 ([] : List (S68))).bind fun bt126 => ((arlinkref04_Numbers.f k bt108.1 (([1, 2, 0] : List Int))).bind fun t133 => (if t133 = true then (if bt108.2 = 0 then (if bt115.2 = 18 then (if bt122.2 = 13 then (if (bt126.1.length : Int) = 0 then (if bt126.2 = 0 then ((order_Cycle.f 3 (([(⟨0, 1⟩ : S68), (⟨1, 0⟩ : S68), (⟨1, 2⟩ : S68)] : List (S68)))).bind fun t137 => ((arlinkref04_Numbers.f k t137 (([0, 1] : List Int))).bind fun t143 => (some t143))) else (some false)) else (some false)) else (some false)) else (some false)) else (some false)) else (some false))))))) = some r := h
 clear h
 obtain ⟨y105, hy105⟩ : ∃ y_ : List (S68), y_ = (([(⟨2, 0⟩ : S68)] : List (S68))) := ⟨_, rfl⟩
 replace H : ((order_Sort.f 3 y105).bind fun bt108 => ((order_Sort.f 2 (([(⟨0, 1⟩ : S68), (⟨1, 0⟩ : S68)] : List (S68)))).bind fun bt115 => ((order_Sort.f 2 (([(⟨0, 2⟩ : S68)] : List (S68)))).bind fun bt122 => ((order_Sort.f 0 ([] : List (S68))).bind fun bt126 => ((arlinkref04_Numbers.f k bt108.1 (([1, 2, 0] : List Int))).bind fun t133 => (if t133 = true then (if bt108.2 = 0 then (if bt115.2 = 18 then (if bt122.2 = 13 then (if (bt126.1.length : Int) = 0 then (if bt126.2 = 0 then ((order_Cycle.f 3 (([(⟨0, 1⟩ : S68), (⟨1, 0⟩ : S68), (⟨1, 2⟩ : S68)] : List (S68)))).bind fun t137 => ((arlinkref04_Numbers.f k t137 (([0, 1] : List Int))).bind fun t143 => (some t143))) else (some false)) else (some false)) else (some false)) else (some false)) else (some false)) else (some false))))))) = some r := by first | (rw [hy105]; with_reducible exact H) | (have H2_ := (Option.bind_some _ _).symm.trans H; rw [hy105]; with_reducible exact H2_) | (have H2_ := (Option.bind_some _ _).symm.trans H; with_reducible exact H2_) | with_reducible exact H | (rw [hy105]; exact H) | exact H
 have Ny105 := Aside0.mk hy105
 clear hy105
 replace H := Option.bind_eq_some_iff.mp H
 obtain ⟨⟨t108, t109⟩, A10, H⟩ := H
 replace H : ((order_Sort.f 2 (([(⟨0, 1⟩ : S68), (⟨1, 0⟩ : S68)] : List (S68)))).bind fun bt115 => ((order_Sort.f 2 (([(⟨0, 2⟩ : S68)] : List (S68)))).bind fun bt122 => ((order_Sort.f 0 ([] : List (S68))).bind fun bt126 => ((arlinkref04_Numbers.f k t108 (([1, 2, 0] : List Int))).bind fun t133 => (if t133 = true then (if t109 = 0 then (if bt115.2 = 18 then (if bt122.2 = 13 then (if (bt126.1.length : Int) = 0 then (if bt126.2 = 0 then ((order_Cycle.f 3 (([(⟨0, 1⟩ : S68), (⟨1, 0⟩ : S68), (⟨1, 2⟩ : S68)] : List (S68)))).bind fun t137 => ((arlinkref04_Numbers.f k t137 (([0, 1] : List Int))).bind fun t143 => (some t143))) else (some false)) else (some false)) else (some false)) else (some false)) else (some false)) else (some false)))))) = some r := H
 have A1 := Aside0.mk A10
 clear A10
 obtain ⟨y112, hy112⟩ : ∃ y_ : List (S68), y_ = (([(⟨0, 1⟩ : S68), (⟨1, 0⟩ : S68)] : List (S68))) := ⟨_, rfl⟩
 replace H : ((order_Sort.f 2 y112).bind fun bt115 => ((order_Sort.f 2 (([(⟨0, 2⟩ : S68)] : List (S68)))).bind fun bt122 => ((order_Sort.f 0 ([] : List (S68))).bind fun bt126 => ((arlinkref04_Numbers.f k t108 (([1, 2, 0] : List Int))).bind fun t133 => (if t133 = true then (if t109 = 0 then (if bt115.2 = 18 then (if bt122.2 = 13 then (if (bt126.1.length : Int) = 0 then (if bt126.2 = 0 then ((order_Cycle.f 3 (([(⟨0, 1⟩ : S68), (⟨1, 0⟩ : S68), (⟨1, 2⟩ : S68)] : List (S68)))).bind fun t137 => ((arlinkref04_Numbers.f k t137 (([0, 1] : List Int))).bind fun t143 => (some t143))) else (some false)) else (some false)) else (some false)) else (some false)) else (some false)) else (some false)))))) = some r := by first | (rw [hy112]; with_reducible exact H) | (have H2_ := (Option.bind_some _ _).symm.trans H; rw [hy112]; with_reducible exact H2_) | (have H2_ := (Option.bind_some _ _).symm.trans H; with_reducible exact H2_) | with_reducible exact H | (rw [hy112]; exact H) | exact H
 have Ny112 := Aside0.mk hy112
 clear hy112
 replace H := Option.bind_eq_some_iff.mp H
 obtain ⟨⟨t115, t116⟩, A20, H⟩ := H
 replace H : ((order_Sort.f 2 (([(⟨0, 2⟩ : S68)] : List (S68)))).bind fun bt122 => ((order_Sort.f 0 ([] : List (S68))).bind fun bt126 => ((arlinkref04_Numbers.f k t108 (([1, 2, 0] : List Int))).bind fun t133 => (if t133 = true then (if t109 = 0 then (if t116 = 18 then (if bt122.2 = 13 then (if (bt126.1.length : Int) = 0 then (if bt126.2 = 0 then ((order_Cycle.f 3 (([(⟨0, 1⟩ : S68), (⟨1, 0⟩ : S68), (⟨1, 2⟩ : S68)] : List (S68)))).bind fun t137 => ((arlinkref04_Numbers.f k t137 (([0, 1] : List Int))).bind fun t143 => (some t143))) else (some false)) else (some false)) else (some false)) else (some false)) else (some false)) else (some false))))) = some r := H
 have A2 := Aside0.mk A20
 clear A20
 obtain ⟨y119, hy119⟩ : ∃ y_ : List (S68), y_ = (([(⟨0, 2⟩ : S68)] : List (S68))) := ⟨_, rfl⟩
 replace H : ((order_Sort.f 2 y119).bind fun bt122 => ((order_Sort.f 0 ([] : List (S68))).bind fun bt126 => ((arlinkref04_Numbers.f k t108 (([1, 2, 0] : List Int))).bind fun t133 => (if t133 = true then (if t109 = 0 then (if t116 = 18 then (if bt122.2 = 13 then (if (bt126.1.length : Int) = 0 then (if bt126.2 = 0 then ((order_Cycle.f 3 (([(⟨0, 1⟩ : S68), (⟨1, 0⟩ : S68), (⟨1, 2⟩ : S68)] : List (S68)))).bind fun t137 => ((arlinkref04_Numbers.f k t137 (([0, 1] : List Int))).bind fun t143 => (some t143))) else (some false)) else (some false)) else (some false)) else (some false)) else (some false)) else (some false))))) = some r := by first | (rw [hy119]; with_reducible exact H) | (have H2_ := (Option.bind_some _ _).symm.trans H; rw [hy119]; with_reducible exact H2_) | (have H2_ := (Option.bind_some _ _).symm.trans H; with_reducible exact H2_) | with_reducible exact H | (rw [hy119]; exact H) | exact H
 have Ny119 := Aside0.mk hy119
 clear hy119
 replace H := Option.bind_eq_some_iff.mp H
 obtain ⟨⟨t122, t123⟩, A30, H⟩ := H
 replace H : ((order_Sort.f 0 ([] : List (S68))).bind fun bt126 => ((arlinkref04_Numbers.f k t108 (([1, 2, 0] : List Int))).bind fun t133 => (if t133 = true then (if t109 = 0 then (if t116 = 18 then (if t123 = 13 then (if (bt126.1.length : Int) = 0 then (if bt126.2 = 0 then ((order_Cycle.f 3 (([(⟨0, 1⟩ : S68), (⟨1, 0⟩ : S68), (⟨1, 2⟩ : S68)] : List (S68)))).bind fun t137 => ((arlinkref04_Numbers.f k t137 (([0, 1] : List Int))).bind fun t143 => (some t143))) else (some false)) else (some false)) else (some false)) else (some false)) else (some false)) else (some false)))) = some r := H
 have A3 := Aside0.mk A30
 clear A30
 replace H := Option.bind_eq_some_iff.mp H
 obtain ⟨⟨t126, t127⟩, A40, H⟩ := H
 replace H : ((arlinkref04_Numbers.f k t108 (([1, 2, 0] : List Int))).bind fun t133 => (if t133 = true then (if t109 = 0 then (if t116 = 18 then (if t123 = 13 then (if (t126.length : Int) = 0 then (if t127 = 0 then ((order_Cycle.f 3 (([(⟨0, 1⟩ : S68), (⟨1, 0⟩ : S68), (⟨1, 2⟩ : S68)] : List (S68)))).bind fun t137 => ((arlinkref04_Numbers.f k t137 (([0, 1] : List Int))).bind fun t143 => (some t143))) else (some false)) else (some false)) else (some false)) else (some false)) else (some false)) else (some false))) = some r := H
 have A4 := Aside0.mk A40
 clear A40
 obtain ⟨y130, hy130⟩ : ∃ y_ : List Int, y_ = (([1, 2, 0] : List Int)) := ⟨_, rfl⟩
 replace H : ((arlinkref04_Numbers.f k t108 y130).bind fun t133 => (if t133 = true then (if t109 = 0 then (if t116 = 18 then (if t123 = 13 then (if (t126.length : Int) = 0 then (if t127 = 0 then ((order_Cycle.f 3 (([(⟨0, 1⟩ : S68), (⟨1, 0⟩ : S68), (⟨1, 2⟩ : S68)] : List (S68)))).bind fun t137 => ((arlinkref04_Numbers.f k t137 (([0, 1] : List Int))).bind fun t143 => (some t143))) else (some false)) else (some false)) else (some false)) else (some false)) else (some false)) else (some false))) = some r := by first | (rw [hy130]; with_reducible exact H) | (have H2_ := (Option.bind_some _ _).symm.trans H; rw [hy130]; with_reducible exact H2_) | (have H2_ := (Option.bind_some _ _).symm.trans H; with_reducible exact H2_) | with_reducible exact H | (rw [hy130]; exact H) | exact H
 have Ny130 := Aside0.mk hy130
 clear hy130
 replace H := Option.bind_eq_some_iff.mp H
 obtain ⟨t133, A50, H⟩ := H
 replace H : (if t133 = true then (if t109 = 0 then (if t116 = 18 then (if t123 = 13 then (if (t126.length : Int) = 0 then (if t127 = 0 then ((order_Cycle.f 3 (([(⟨0, 1⟩ : S68), (⟨1, 0⟩ : S68), (⟨1, 2⟩ : S68)] : List (S68)))).bind fun t137 => ((arlinkref04_Numbers.f k t137 (([0, 1] : List Int))).bind fun t143 => (some t143))) else (some false)) else (some false)) else (some false)) else (some false)) else (some false)) else (some false)) = some r := H
 have A5 := Aside0.mk A50
 clear A50
 by_cases c6 : t133 = true
 ·subst c6
  have H1 : (if t109 = 0 then (if t116 = 18 then (if t123 = 13 then (if (t126.length : Int) = 0 then (if t127 = 0 then ((order_Cycle.f 3 (([(⟨0, 1⟩ : S68), (⟨1, 0⟩ : S68), (⟨1, 2⟩ : S68)] : List (S68)))).bind fun t137 => ((arlinkref04_Numbers.f k t137 (([0, 1] : List Int))).bind fun t143 => (some t143))) else (some false)) else (some false)) else (some false)) else (some false)) else (some false)) = some r := by rw [if_pos rfl] at H; exact H
  clear H
  have H := H1
  clear H1
  by_cases c7 : t109 = 0
  ·rw [if_pos c7] at H
   have c7b0 : (t109 == 0) = true := beq_iff_eq.mpr c7
   have c7b1 : (t109 != 0) = false := bne_eq_false_iff_eq.mpr c7
   clear c7
   by_cases c8 : t116 = 18
   ·rw [if_pos c8] at H
    have c8b0 : (t116 == 18) = true := beq_iff_eq.mpr c8
    have c8b1 : (t116 != 18) = false := bne_eq_false_iff_eq.mpr c8
    clear c8
    by_cases c9 : t123 = 13
    ·rw [if_pos c9] at H
     have c9b0 : (t123 == 13) = true := beq_iff_eq.mpr c9
     have c9b1 : (t123 != 13) = false := bne_eq_false_iff_eq.mpr c9
     clear c9
     by_cases c10 : (t126.length : Int) = 0
     ·rw [if_pos c10] at H
      have c10b0 : ((t126.length : Int) == 0) = true := beq_iff_eq.mpr c10
      have c10b1 : ((t126.length : Int) != 0) = false := bne_eq_false_iff_eq.mpr c10
      clear c10
      by_cases c11 : t127 = 0
      ·rw [if_pos c11] at H
       have c11b0 : (t127 == 0) = true := beq_iff_eq.mpr c11
       have c11b1 : (t127 != 0) = false := bne_eq_false_iff_eq.mpr c11
       clear c11
       obtain ⟨y134, hy134⟩ : ∃ y_ : List (S68), y_ = (([(⟨0, 1⟩ : S68), (⟨1, 0⟩ : S68), (⟨1, 2⟩ : S68)] : List (S68))) := ⟨_, rfl⟩
       replace H : ((order_Cycle.f 3 y134).bind fun t137 => ((arlinkref04_Numbers.f k t137 (([0, 1] : List Int))).bind fun t143 => (some t143))) = some r := by first | (rw [hy134]; with_reducible exact H) | (have H2_ := (Option.bind_some _ _).symm.trans H; rw [hy134]; with_reducible exact H2_) | (have H2_ := (Option.bind_some _ _).symm.trans H; with_reducible exact H2_) | with_reducible exact H | (rw [hy134]; exact H) | exact H
       have Ny134 := Aside0.mk hy134
       clear hy134
       replace H := Option.bind_eq_some_iff.mp H
       obtain ⟨t137, A120, H⟩ := H
       replace H : ((arlinkref04_Numbers.f k t137 (([0, 1] : List Int))).bind fun t143 => (some t143)) = some r := H
       have A12 := Aside0.mk A120
       clear A120
       obtain ⟨y140, hy140⟩ : ∃ y_ : List Int, y_ = (([0, 1] : List Int)) := ⟨_, rfl⟩
       replace H : ((arlinkref04_Numbers.f k t137 y140).bind fun t143 => (some t143)) = some r := by first | (rw [hy140]; with_reducible exact H) | (have H2_ := (Option.bind_some _ _).symm.trans H; rw [hy140]; with_reducible exact H2_) | (have H2_ := (Option.bind_some _ _).symm.trans H; with_reducible exact H2_) | with_reducible exact H | (rw [hy140]; exact H) | exact H
       have Ny140 := Aside0.mk hy140
       clear hy140
       replace H := Option.bind_eq_some_iff.mp H
       obtain ⟨t143, A130, H⟩ := H
       replace H : (some t143) = some r := H
       have A13 := Aside0.mk A130
       clear A130
       obtain rfl := Option.some.inj H
       go_enter Try.func13, Try.ntmps13
       go_wp2_with (first | ((with_reducible refine gate_dst (N := 11) rfl ?_); (try (refine gate_guard (by rfl) ?_; dsimp only)); refine Kd.R_lit k68 _ 68 ?hg (N := 11) ?hd (xs := ([(⟨2, 0⟩ : S68)] : List (S68))) (inner := [.int .i64 2, .int .i64 0]) (ok := fun _ => True) (okp := fun _ => True) ?hr ?hp (fun _ hk => hk) trivial (Below.refl _ _) (Nat.le_refl _) (by simp) ?_; (case hd => rfl); (case hg => rfl); (case hr => first | (go_simp; done) | (go_simp; rfl)); (case hp => exact (Reps.c2 (show Kd.M k68 _ _ _ (⟨2, 0⟩ : S68) [.int .i64 2, .int .i64 0] from (k68_mkM _ _ _ (⟨2, 0⟩ : S68) )) (Reps.none _ _))); intro v106 w14 ho15 hb hg_ hnew_; clear hg_ hnew_; (first | rw [← Ny105.out] at ho15 | (simp only [Int.reduceToNat] at ho15; rw [← Ny105.out] at ho15)); have n0_ := Aside0.mk (Kd.R_lower ho15 (below_size (by repeat (first | (with_reducible first | exact HB.out | apply below_alloc | apply pw_below_drewN | apply below_drew1) | exact HB.out)))); have n1_ := Aside0.mk (below_step (by repeat (first | (with_reducible first | exact HB.out | apply below_alloc | apply pw_below_drewN | apply below_drew1) | exact HB.out)) hb); clear HB; have HO107 := n0_; have HB := n1_; clear n0_ n1_; clear hb ho15; obtain ⟨Ao16, co16, eo16⟩ := Kd.R_slice HO107.out; subst eo16) | ((with_reducible refine gate_callee (f := 14) rfl ?_); refine goesL_ (some 12) rfl rfl Try.func14 (by kernel_rfl) rfl #[.int .i64 3, .slice Ao16 y105.length co16] rfl (by (try simp only [List.map_toArray, List.map_cons, List.map_nil]); first | done | rfl | (simp only [List.length_drop, List.length_take]; rfl)) ?_; (with_reducible refine (order_Sort.calls 3 _ _ y105 t108 t109 _ ?side1 ?side2 A1.out).mono ?_); (case side1 => repeat (first | exact (Kd.R_reads' HO107.out).2.2 | (with_reducible refine Kd.C_alloc ?_ _) | (with_reducible refine Kd.C_drewN ?_ _) | (with_reducible refine Kd.C_drew ?_))); (case side2 => exact (Kd.R_reads' HO107.out).2.1); rintro e w17 ⟨v110, rfl, ho0, hb⟩; refine ⟨_, rfl, ?_⟩; have n0_ := Aside0.mk (Kd.R_below (by (with_reducible repeat (first | apply Kd.R_alloc | apply Kd.R_drewN | apply Kd.R_drew)); exact HO107.out) hb); have n1_ := Aside0.mk (Kd.R_lower ho0 (below_size (by repeat (first | (with_reducible first | exact HB.out | apply below_alloc | apply pw_below_drewN | apply below_drew1) | exact HB.out)))); have n2_ := Aside0.mk (below_step (by repeat (first | (with_reducible first | exact HB.out | apply below_alloc | apply pw_below_drewN | apply below_drew1) | exact HB.out)) hb); clear HO107; clear HB; have HO107 := n0_; have HO111 := n1_; have HB := n2_; clear n0_ n1_ n2_; (try clear hb); (try clear hb2); (try clear hk); (try clear hi); (try clear ho0)) | ((with_reducible refine gate_dst (N := 18) rfl ?_); (try (refine gate_guard (by rfl) ?_; dsimp only)); refine Kd.R_lit k68 _ 68 ?hg (N := 18) ?hd (xs := ([(⟨0, 1⟩ : S68), (⟨1, 0⟩ : S68)] : List (S68))) (inner := [.int .i64 0, .int .i64 1, .int .i64 1, .int .i64 0]) (ok := fun _ => True) (okp := fun _ => True) ?hr ?hp (fun _ hk => hk) trivial (Below.refl _ _) (Nat.le_refl _) (by simp) ?_; (case hd => rfl); (case hg => rfl); (case hr => first | (go_simp; done) | (go_simp; rfl)); (case hp => exact (Reps.c2 (show Kd.M k68 _ _ _ (⟨0, 1⟩ : S68) [.int .i64 0, .int .i64 1] from (k68_mkM _ _ _ (⟨0, 1⟩ : S68) )) (Reps.c2 (show Kd.M k68 _ _ _ (⟨1, 0⟩ : S68) [.int .i64 1, .int .i64 0] from (k68_mkM _ _ _ (⟨1, 0⟩ : S68) )) (Reps.none _ _)))); intro v113 w18 ho19 hb hg_ hnew_; clear hg_ hnew_; (first | rw [← Ny112.out] at ho19 | (simp only [Int.reduceToNat] at ho19; rw [← Ny112.out] at ho19)); have n0_ := Aside0.mk (Kd.R_elder' (by (with_reducible repeat (first | apply Kd.R_alloc | apply Kd.R_drewN | apply Kd.R_drew)); exact HO107.out) (Kd.R_base ho19) hb); have n1_ := Aside0.mk (Kd.R_below (by (with_reducible repeat (first | apply Kd.R_alloc | apply Kd.R_drewN | apply Kd.R_drew)); exact HO111.out) hb); have n2_ := Aside0.mk (Kd.R_lower (Kd.R_new' ho19 (Kd.R_lt (by (with_reducible repeat (first | apply Kd.R_alloc | apply Kd.R_drewN | apply Kd.R_drew)); exact HO107.out))) (below_size (by repeat (first | (with_reducible first | exact HB.out | apply below_alloc | apply pw_below_drewN | apply below_drew1) | exact HB.out)))); have n3_ := Aside0.mk (below_step (by repeat (first | (with_reducible first | exact HB.out | apply below_alloc | apply pw_below_drewN | apply below_drew1) | exact HB.out)) hb); clear HO107; clear HO111; clear HB; have HO107 := n0_; have HO111 := n1_; have HO114 := n2_; have HB := n3_; clear n0_ n1_ n2_ n3_; clear hb ho19; obtain ⟨Ao20, co20, eo20⟩ := Kd.R_slice HO114.out; subst eo20) | ((with_reducible refine gate_callee (f := 14) rfl ?_); refine goesL_ (some 19) rfl rfl Try.func14 (by kernel_rfl) rfl #[.int .i64 2, .slice Ao20 y112.length co20] rfl (by (try simp only [List.map_toArray, List.map_cons, List.map_nil]); first | done | rfl | (simp only [List.length_drop, List.length_take]; rfl)) ?_; (with_reducible refine (order_Sort.calls 2 _ _ y112 t115 t116 _ ?side1 ?side2 A2.out).mono ?_); (case side1 => repeat (first | exact (Kd.R_reads' HO114.out).2.2 | (with_reducible refine Kd.C_alloc ?_ _) | (with_reducible refine Kd.C_drewN ?_ _) | (with_reducible refine Kd.C_drew ?_))); (case side2 => exact (Kd.R_reads' HO114.out).2.1); rintro e w21 ⟨v117, rfl, ho0, hb⟩; refine ⟨_, rfl, ?_⟩; have n0_ := Aside0.mk (Kd.R_below (by (with_reducible repeat (first | apply Kd.R_alloc | apply Kd.R_drewN | apply Kd.R_drew)); exact HO107.out) hb); have n1_ := Aside0.mk (Kd.R_elder' (by (with_reducible repeat (first | apply Kd.R_alloc | apply Kd.R_drewN | apply Kd.R_drew)); exact HO111.out) (Kd.R_base ho0) hb); have n2_ := Aside0.mk (Kd.R_below (by (with_reducible repeat (first | apply Kd.R_alloc | apply Kd.R_drewN | apply Kd.R_drew)); exact HO114.out) hb); have n3_ := Aside0.mk (Kd.R_lower (Kd.R_new' ho0 (Kd.R_lt (by (with_reducible repeat (first | apply Kd.R_alloc | apply Kd.R_drewN | apply Kd.R_drew)); exact HO111.out))) (below_size (by repeat (first | (with_reducible first | exact HB.out | apply below_alloc | apply pw_below_drewN | apply below_drew1) | exact HB.out)))); have n4_ := Aside0.mk (below_step (by repeat (first | (with_reducible first | exact HB.out | apply below_alloc | apply pw_below_drewN | apply below_drew1) | exact HB.out)) hb); clear HO107; clear HO111; clear HO114; clear HB; have HO107 := n0_; have HO111 := n1_; have HO114 := n2_; have HO118 := n3_; have HB := n4_; clear n0_ n1_ n2_ n3_ n4_; (try clear hb); (try clear hb2); (try clear hk); (try clear hi); (try clear ho0)) | ((with_reducible refine gate_dst (N := 24) rfl ?_); (try (refine gate_guard (by rfl) ?_; dsimp only)); refine Kd.R_lit k68 _ 68 ?hg (N := 24) ?hd (xs := ([(⟨0, 2⟩ : S68)] : List (S68))) (inner := [.int .i64 0, .int .i64 2]) (ok := fun _ => True) (okp := fun _ => True) ?hr ?hp (fun _ hk => hk) trivial (Below.refl _ _) (Nat.le_refl _) (by simp) ?_; (case hd => rfl); (case hg => rfl); (case hr => first | (go_simp; done) | (go_simp; rfl)); (case hp => exact (Reps.c2 (show Kd.M k68 _ _ _ (⟨0, 2⟩ : S68) [.int .i64 0, .int .i64 2] from (k68_mkM _ _ _ (⟨0, 2⟩ : S68) )) (Reps.none _ _))); intro v120 w22 ho23 hb hg_ hnew_; clear hg_ hnew_; (first | rw [← Ny119.out] at ho23 | (simp only [Int.reduceToNat] at ho23; rw [← Ny119.out] at ho23)); have n0_ := Aside0.mk (Kd.R_elder' (by (with_reducible repeat (first | apply Kd.R_alloc | apply Kd.R_drewN | apply Kd.R_drew)); exact HO107.out) (Kd.R_base ho23) hb); have n1_ := Aside0.mk (Kd.R_below (by (with_reducible repeat (first | apply Kd.R_alloc | apply Kd.R_drewN | apply Kd.R_drew)); exact HO111.out) hb); have n2_ := Aside0.mk (Kd.R_elder' (by (with_reducible repeat (first | apply Kd.R_alloc | apply Kd.R_drewN | apply Kd.R_drew)); exact HO114.out) (Kd.R_base ho23) hb); have n3_ := Aside0.mk (Kd.R_below (by (with_reducible repeat (first | apply Kd.R_alloc | apply Kd.R_drewN | apply Kd.R_drew)); exact HO118.out) hb); have n4_ := Aside0.mk (Kd.R_lower (Kd.R_new' (Kd.R_new' ho23 (Kd.R_lt (by (with_reducible repeat (first | apply Kd.R_alloc | apply Kd.R_drewN | apply Kd.R_drew)); exact HO107.out))) (Kd.R_lt (by (with_reducible repeat (first | apply Kd.R_alloc | apply Kd.R_drewN | apply Kd.R_drew)); exact HO114.out))) (below_size (by repeat (first | (with_reducible first | exact HB.out | apply below_alloc | apply pw_below_drewN | apply below_drew1) | exact HB.out)))); have n5_ := Aside0.mk (below_step (by repeat (first | (with_reducible first | exact HB.out | apply below_alloc | apply pw_below_drewN | apply below_drew1) | exact HB.out)) hb); clear HO107; clear HO111; clear HO114; clear HO118; clear HB; have HO107 := n0_; have HO111 := n1_; have HO114 := n2_; have HO118 := n3_; have HO121 := n4_; have HB := n5_; clear n0_ n1_ n2_ n3_ n4_ n5_; clear hb ho23; obtain ⟨Ao24, co24, eo24⟩ := Kd.R_slice HO121.out; subst eo24) | ((with_reducible refine gate_callee (f := 14) rfl ?_); refine goesL_ (some 25) rfl rfl Try.func14 (by kernel_rfl) rfl #[.int .i64 2, .slice Ao24 y119.length co24] rfl (by (try simp only [List.map_toArray, List.map_cons, List.map_nil]); first | done | rfl | (simp only [List.length_drop, List.length_take]; rfl)) ?_; (with_reducible refine (order_Sort.calls 2 _ _ y119 t122 t123 _ ?side1 ?side2 A3.out).mono ?_); (case side1 => repeat (first | exact (Kd.R_reads' HO121.out).2.2 | (with_reducible refine Kd.C_alloc ?_ _) | (with_reducible refine Kd.C_drewN ?_ _) | (with_reducible refine Kd.C_drew ?_))); (case side2 => exact (Kd.R_reads' HO121.out).2.1); rintro e w25 ⟨v124, rfl, ho0, hb⟩; refine ⟨_, rfl, ?_⟩; have n0_ := Aside0.mk (Kd.R_below (by (with_reducible repeat (first | apply Kd.R_alloc | apply Kd.R_drewN | apply Kd.R_drew)); exact HO107.out) hb); have n1_ := Aside0.mk (Kd.R_elder' (by (with_reducible repeat (first | apply Kd.R_alloc | apply Kd.R_drewN | apply Kd.R_drew)); exact HO111.out) (Kd.R_base ho0) hb); have n2_ := Aside0.mk (Kd.R_below (by (with_reducible repeat (first | apply Kd.R_alloc | apply Kd.R_drewN | apply Kd.R_drew)); exact HO114.out) hb); have n3_ := Aside0.mk (Kd.R_elder' (by (with_reducible repeat (first | apply Kd.R_alloc | apply Kd.R_drewN | apply Kd.R_drew)); exact HO118.out) (Kd.R_base ho0) hb); have n4_ := Aside0.mk (Kd.R_below (by (with_reducible repeat (first | apply Kd.R_alloc | apply Kd.R_drewN | apply Kd.R_drew)); exact HO121.out) hb); have n5_ := Aside0.mk (Kd.R_lower (Kd.R_new' (Kd.R_new' ho0 (Kd.R_lt (by (with_reducible repeat (first | apply Kd.R_alloc | apply Kd.R_drewN | apply Kd.R_drew)); exact HO111.out))) (Kd.R_lt (by (with_reducible repeat (first | apply Kd.R_alloc | apply Kd.R_drewN | apply Kd.R_drew)); exact HO118.out))) (below_size (by repeat (first | (with_reducible first | exact HB.out | apply below_alloc | apply pw_below_drewN | apply below_drew1) | exact HB.out)))); have n6_ := Aside0.mk (below_step (by repeat (first | (with_reducible first | exact HB.out | apply below_alloc | apply pw_below_drewN | apply below_drew1) | exact HB.out)) hb); clear HO107; clear HO111; clear HO114; clear HO118; clear HO121; clear HB; have HO107 := n0_; have HO111 := n1_; have HO114 := n2_; have HO118 := n3_; have HO121 := n4_; have HO125 := n5_; have HB := n6_; clear n0_ n1_ n2_ n3_ n4_ n5_ n6_; (try clear hb); (try clear hb2); (try clear hk); (try clear hi); (try clear ho0)) | ((with_reducible refine gate_callee (f := 14) rfl ?_); refine goesL_ (some 29) rfl rfl Try.func14 (by kernel_rfl) rfl #[.int .i64 0, .slice none 0 0] rfl (by (try simp only [List.map_toArray, List.map_cons, List.map_nil]); first | done | rfl | (simp only [List.length_drop, List.length_take]; rfl)) ?_; (refine (order_Sort.calls 0 _ _ ([] : List (S68)) t126 t127 _ ?side1 ?side2 A4.out).mono ?_); (case side1 => exact Kd.C_nil _ _); (case side2 => exact Nat.le_refl _); rintro e w26 ⟨v128, rfl, ho0, hb⟩; refine ⟨_, rfl, ?_⟩; have n0_ := Aside0.mk (Kd.R_below (by (with_reducible repeat (first | apply Kd.R_alloc | apply Kd.R_drewN | apply Kd.R_drew)); exact HO107.out) hb); have n1_ := Aside0.mk (Kd.R_elder' (by (with_reducible repeat (first | apply Kd.R_alloc | apply Kd.R_drewN | apply Kd.R_drew)); exact HO111.out) (Kd.R_base ho0) hb); have n2_ := Aside0.mk (Kd.R_below (by (with_reducible repeat (first | apply Kd.R_alloc | apply Kd.R_drewN | apply Kd.R_drew)); exact HO114.out) hb); have n3_ := Aside0.mk (Kd.R_elder' (by (with_reducible repeat (first | apply Kd.R_alloc | apply Kd.R_drewN | apply Kd.R_drew)); exact HO118.out) (Kd.R_base ho0) hb); have n4_ := Aside0.mk (Kd.R_below (by (with_reducible repeat (first | apply Kd.R_alloc | apply Kd.R_drewN | apply Kd.R_drew)); exact HO121.out) hb); have n5_ := Aside0.mk (Kd.R_elder' (by (with_reducible repeat (first | apply Kd.R_alloc | apply Kd.R_drewN | apply Kd.R_drew)); exact HO125.out) (Kd.R_base ho0) hb); have n6_ := Aside0.mk (Kd.R_lower (Kd.R_new' (Kd.R_new' (Kd.R_new' ho0 (Kd.R_lt (by (with_reducible repeat (first | apply Kd.R_alloc | apply Kd.R_drewN | apply Kd.R_drew)); exact HO111.out))) (Kd.R_lt (by (with_reducible repeat (first | apply Kd.R_alloc | apply Kd.R_drewN | apply Kd.R_drew)); exact HO118.out))) (Kd.R_lt (by (with_reducible repeat (first | apply Kd.R_alloc | apply Kd.R_drewN | apply Kd.R_drew)); exact HO125.out))) (below_size (by repeat (first | (with_reducible first | exact HB.out | apply below_alloc | apply pw_below_drewN | apply below_drew1) | exact HB.out)))); have n7_ := Aside0.mk (below_step (by repeat (first | (with_reducible first | exact HB.out | apply below_alloc | apply pw_below_drewN | apply below_drew1) | exact HB.out)) hb); clear HO107; clear HO111; clear HO114; clear HO118; clear HO121; clear HO125; clear HB; have HO107 := n0_; have HO111 := n1_; have HO114 := n2_; have HO118 := n3_; have HO121 := n4_; have HO125 := n5_; have HO129 := n6_; have HB := n7_; clear n0_ n1_ n2_ n3_ n4_ n5_ n6_ n7_; (try clear hb); (try clear hb2); (try clear hk); (try clear hi); (try clear ho0)) | ((with_reducible refine gate_dst (N := 33) rfl ?_); (try (refine gate_guard (by rfl) ?_; dsimp only)); refine Kd.R_lit (Kd.int .i64) _ 3 ?hg (N := 33) ?hd (xs := ([1, 2, 0] : List Int)) (inner := [.int .i64 1, .int .i64 2, .int .i64 0]) (ok := fun _ => True) (okp := fun _ => True) ?hr ?hp (fun _ hk => hk) trivial (Below.refl _ _) (Nat.le_refl _) (by simp) ?_; (case hd => rfl); (case hg => rfl); (case hr => first | (go_simp; done) | (go_simp; rfl)); (case hp => exact (Reps.one (show Kd.M (Kd.int .i64) _ _ _ 1 [.int .i64 1] from rfl) (Reps.one (show Kd.M (Kd.int .i64) _ _ _ 2 [.int .i64 2] from rfl) (Reps.one (show Kd.M (Kd.int .i64) _ _ _ 0 [.int .i64 0] from rfl) (Reps.none _ _))))); intro v131 w27 ho28 hb hg_ hnew_; clear hg_ hnew_; (first | rw [← Ny130.out] at ho28 | (simp only [Int.reduceToNat] at ho28; rw [← Ny130.out] at ho28)); have n0_ := Aside0.mk (Kd.R_below (by (with_reducible repeat (first | apply Kd.R_alloc | apply Kd.R_drewN | apply Kd.R_drew)); exact HO107.out) hb); have n1_ := Aside0.mk (Kd.R_elder' (by (with_reducible repeat (first | apply Kd.R_alloc | apply Kd.R_drewN | apply Kd.R_drew)); exact HO111.out) (Kd.R_base ho28) hb); have n2_ := Aside0.mk (Kd.R_below (by (with_reducible repeat (first | apply Kd.R_alloc | apply Kd.R_drewN | apply Kd.R_drew)); exact HO114.out) hb); have n3_ := Aside0.mk (Kd.R_elder' (by (with_reducible repeat (first | apply Kd.R_alloc | apply Kd.R_drewN | apply Kd.R_drew)); exact HO118.out) (Kd.R_base ho28) hb); have n4_ := Aside0.mk (Kd.R_below (by (with_reducible repeat (first | apply Kd.R_alloc | apply Kd.R_drewN | apply Kd.R_drew)); exact HO121.out) hb); have n5_ := Aside0.mk (Kd.R_elder' (by (with_reducible repeat (first | apply Kd.R_alloc | apply Kd.R_drewN | apply Kd.R_drew)); exact HO125.out) (Kd.R_base ho28) hb); have n6_ := Aside0.mk (Kd.R_elder' (by (with_reducible repeat (first | apply Kd.R_alloc | apply Kd.R_drewN | apply Kd.R_drew)); exact HO129.out) (Kd.R_base ho28) hb); have n7_ := Aside0.mk (Kd.R_lower (Kd.R_new' (Kd.R_new' (Kd.R_new' (Kd.R_new' ho28 (Kd.R_lt (by (with_reducible repeat (first | apply Kd.R_alloc | apply Kd.R_drewN | apply Kd.R_drew)); exact HO111.out))) (Kd.R_lt (by (with_reducible repeat (first | apply Kd.R_alloc | apply Kd.R_drewN | apply Kd.R_drew)); exact HO118.out))) (Kd.R_lt (by (with_reducible repeat (first | apply Kd.R_alloc | apply Kd.R_drewN | apply Kd.R_drew)); exact HO125.out))) (Kd.R_lt (by (with_reducible repeat (first | apply Kd.R_alloc | apply Kd.R_drewN | apply Kd.R_drew)); exact HO129.out))) (below_size (by repeat (first | (with_reducible first | exact HB.out | apply below_alloc | apply pw_below_drewN | apply below_drew1) | exact HB.out)))); have n8_ := Aside0.mk (below_step (by repeat (first | (with_reducible first | exact HB.out | apply below_alloc | apply pw_below_drewN | apply below_drew1) | exact HB.out)) hb); clear HO107; clear HO111; clear HO114; clear HO118; clear HO121; clear HO125; clear HO129; clear HB; have HO107 := n0_; have HO111 := n1_; have HO114 := n2_; have HO118 := n3_; have HO121 := n4_; have HO125 := n5_; have HO129 := n6_; have HO132 := n7_; have HB := n8_; clear n0_ n1_ n2_ n3_ n4_ n5_ n6_ n7_ n8_; clear hb ho28; obtain ⟨Ao29, co29, eo29⟩ := Kd.R_slice HO111.out; subst eo29; obtain ⟨Ao30, co30, eo30⟩ := Kd.R_slice HO132.out; subst eo30) | ((with_reducible refine gate_callee (f := 17) rfl ?_); refine goesL_ (some 34) rfl rfl Try.func17 (by kernel_rfl) rfl #[.slice Ao29 t108.length co29, .slice Ao30 y130.length co30] rfl (by (try simp only [List.map_toArray, List.map_cons, List.map_nil]); first | done | rfl | (simp only [List.length_drop, List.length_take]; rfl)) ?_; (with_reducible refine (arlinkref04_Numbers.calls k _ _ t108 _ _ y130 true _ ?side1 ?side2 ?side3 ?side4 A5.out).mono ?_); (case side1 => repeat (first | exact (Kd.R_reads' HO111.out).2.2 | (with_reducible refine Kd.C_alloc ?_ _) | (with_reducible refine Kd.C_drewN ?_ _) | (with_reducible refine Kd.C_drew ?_))); (case side2 => exact (Kd.R_reads' HO111.out).2.1); (case side3 => repeat (first | exact (Kd.R_reads' HO132.out).2.2 | (with_reducible refine Kd.C_alloc ?_ _) | (with_reducible refine Kd.C_drewN ?_ _) | (with_reducible refine Kd.C_drew ?_))); (case side4 => exact (Kd.R_reads' HO132.out).2.1); rintro e w' ⟨rfl, ⟨nd, rfl⟩⟩; refine ⟨_, rfl, ?_⟩; obtain ⟨Ao31, co31, eo31⟩ := Kd.R_slice HO129.out; subst eo31) | ((with_reducible refine gate_dst (N := 60) rfl ?_); (try (refine gate_guard (by rfl) ?_; dsimp only)); refine Kd.R_lit k68 _ 68 ?hg (N := 60) ?hd (xs := ([(⟨0, 1⟩ : S68), (⟨1, 0⟩ : S68), (⟨1, 2⟩ : S68)] : List (S68))) (inner := [.int .i64 0, .int .i64 1, .int .i64 1, .int .i64 0, .int .i64 1, .int .i64 2]) (ok := fun _ => True) (okp := fun _ => True) ?hr ?hp (fun _ hk => hk) trivial (Below.refl _ _) (Nat.le_refl _) (by simp) ?_; (case hd => rfl); (case hg => rfl); (case hr => first | (go_simp; done) | (go_simp; rfl)); (case hp => exact (Reps.c2 (show Kd.M k68 _ _ _ (⟨0, 1⟩ : S68) [.int .i64 0, .int .i64 1] from (k68_mkM _ _ _ (⟨0, 1⟩ : S68) )) (Reps.c2 (show Kd.M k68 _ _ _ (⟨1, 0⟩ : S68) [.int .i64 1, .int .i64 0] from (k68_mkM _ _ _ (⟨1, 0⟩ : S68) )) (Reps.c2 (show Kd.M k68 _ _ _ (⟨1, 2⟩ : S68) [.int .i64 1, .int .i64 2] from (k68_mkM _ _ _ (⟨1, 2⟩ : S68) )) (Reps.none _ _))))); intro v135 w32 ho33 hb hg_ hnew_; clear hg_ hnew_; (first | rw [← Ny134.out] at ho33 | (simp only [Int.reduceToNat] at ho33; rw [← Ny134.out] at ho33)); have n0_ := Aside0.mk (Kd.R_elder' (by (with_reducible repeat (first | apply Kd.R_alloc | apply Kd.R_drewN | apply Kd.R_drew)); exact HO107.out) (Kd.R_base ho33) hb); have n1_ := Aside0.mk (Kd.R_below (by (with_reducible repeat (first | apply Kd.R_alloc | apply Kd.R_drewN | apply Kd.R_drew)); exact HO111.out) hb); have n2_ := Aside0.mk (Kd.R_elder' (by (with_reducible repeat (first | apply Kd.R_alloc | apply Kd.R_drewN | apply Kd.R_drew)); exact HO114.out) (Kd.R_base ho33) hb); have n3_ := Aside0.mk (Kd.R_below (by (with_reducible repeat (first | apply Kd.R_alloc | apply Kd.R_drewN | apply Kd.R_drew)); exact HO118.out) hb); have n4_ := Aside0.mk (Kd.R_elder' (by (with_reducible repeat (first | apply Kd.R_alloc | apply Kd.R_drewN | apply Kd.R_drew)); exact HO121.out) (Kd.R_base ho33) hb); have n5_ := Aside0.mk (Kd.R_below (by (with_reducible repeat (first | apply Kd.R_alloc | apply Kd.R_drewN | apply Kd.R_drew)); exact HO125.out) hb); have n6_ := Aside0.mk (Kd.R_below (by (with_reducible repeat (first | apply Kd.R_alloc | apply Kd.R_drewN | apply Kd.R_drew)); exact HO129.out) hb); have n7_ := Aside0.mk (Kd.R_below (by (with_reducible repeat (first | apply Kd.R_alloc | apply Kd.R_drewN | apply Kd.R_drew)); exact HO132.out) hb); have n8_ := Aside0.mk (Kd.R_lower (Kd.R_new' (Kd.R_new' (Kd.R_new' ho33 (Kd.R_lt (by (with_reducible repeat (first | apply Kd.R_alloc | apply Kd.R_drewN | apply Kd.R_drew)); exact HO107.out))) (Kd.R_lt (by (with_reducible repeat (first | apply Kd.R_alloc | apply Kd.R_drewN | apply Kd.R_drew)); exact HO114.out))) (Kd.R_lt (by (with_reducible repeat (first | apply Kd.R_alloc | apply Kd.R_drewN | apply Kd.R_drew)); exact HO121.out))) (below_size (by repeat (first | (with_reducible first | exact HB.out | apply below_alloc | apply pw_below_drewN | apply below_drew1) | exact HB.out)))); have n9_ := Aside0.mk (below_step (by repeat (first | (with_reducible first | exact HB.out | apply below_alloc | apply pw_below_drewN | apply below_drew1) | exact HB.out)) hb); clear HO107; clear HO111; clear HO114; clear HO118; clear HO121; clear HO125; clear HO129; clear HO132; clear HB; have HO107 := n0_; have HO111 := n1_; have HO114 := n2_; have HO118 := n3_; have HO121 := n4_; have HO125 := n5_; have HO129 := n6_; have HO132 := n7_; have HO136 := n8_; have HB := n9_; clear n0_ n1_ n2_ n3_ n4_ n5_ n6_ n7_ n8_ n9_; clear hb ho33; obtain ⟨Ao34, co34, eo34⟩ := Kd.R_slice HO136.out; subst eo34) | (go_at_call 18; (with_reducible refine (order_Cycle.calls 3 _ _ y134 t137 _ ?side1 ?side2 A12.out).mono ?_); (case side1 => repeat (first | exact (Kd.R_reads' HO136.out).2.2 | (with_reducible refine Kd.C_alloc ?_ _) | (with_reducible refine Kd.C_drewN ?_ _) | (with_reducible refine Kd.C_drew ?_))); (case side2 => exact (Kd.R_reads' HO136.out).2.1); rintro e w35 ⟨v138, rfl, ho0, hb⟩; have n0_ := Aside0.mk (Kd.R_below (by (with_reducible repeat (first | apply Kd.R_alloc | apply Kd.R_drewN | apply Kd.R_drew)); exact HO107.out) hb); have n1_ := Aside0.mk (Kd.R_elder' (by (with_reducible repeat (first | apply Kd.R_alloc | apply Kd.R_drewN | apply Kd.R_drew)); exact HO111.out) (Kd.R_base ho0) hb); have n2_ := Aside0.mk (Kd.R_below (by (with_reducible repeat (first | apply Kd.R_alloc | apply Kd.R_drewN | apply Kd.R_drew)); exact HO114.out) hb); have n3_ := Aside0.mk (Kd.R_elder' (by (with_reducible repeat (first | apply Kd.R_alloc | apply Kd.R_drewN | apply Kd.R_drew)); exact HO118.out) (Kd.R_base ho0) hb); have n4_ := Aside0.mk (Kd.R_below (by (with_reducible repeat (first | apply Kd.R_alloc | apply Kd.R_drewN | apply Kd.R_drew)); exact HO121.out) hb); have n5_ := Aside0.mk (Kd.R_elder' (by (with_reducible repeat (first | apply Kd.R_alloc | apply Kd.R_drewN | apply Kd.R_drew)); exact HO125.out) (Kd.R_base ho0) hb); have n6_ := Aside0.mk (Kd.R_elder' (by (with_reducible repeat (first | apply Kd.R_alloc | apply Kd.R_drewN | apply Kd.R_drew)); exact HO129.out) (Kd.R_base ho0) hb); have n7_ := Aside0.mk (Kd.R_elder' (by (with_reducible repeat (first | apply Kd.R_alloc | apply Kd.R_drewN | apply Kd.R_drew)); exact HO132.out) (Kd.R_base ho0) hb); have n8_ := Aside0.mk (Kd.R_below (by (with_reducible repeat (first | apply Kd.R_alloc | apply Kd.R_drewN | apply Kd.R_drew)); exact HO136.out) hb); have n9_ := Aside0.mk (Kd.R_lower (Kd.R_new' (Kd.R_new' (Kd.R_new' (Kd.R_new' (Kd.R_new' ho0 (Kd.R_lt (by (with_reducible repeat (first | apply Kd.R_alloc | apply Kd.R_drewN | apply Kd.R_drew)); exact HO111.out))) (Kd.R_lt (by (with_reducible repeat (first | apply Kd.R_alloc | apply Kd.R_drewN | apply Kd.R_drew)); exact HO118.out))) (Kd.R_lt (by (with_reducible repeat (first | apply Kd.R_alloc | apply Kd.R_drewN | apply Kd.R_drew)); exact HO125.out))) (Kd.R_lt (by (with_reducible repeat (first | apply Kd.R_alloc | apply Kd.R_drewN | apply Kd.R_drew)); exact HO129.out))) (Kd.R_lt (by (with_reducible repeat (first | apply Kd.R_alloc | apply Kd.R_drewN | apply Kd.R_drew)); exact HO132.out))) (below_size (by repeat (first | (with_reducible first | exact HB.out | apply below_alloc | apply pw_below_drewN | apply below_drew1) | exact HB.out)))); have n10_ := Aside0.mk (below_step (by repeat (first | (with_reducible first | exact HB.out | apply below_alloc | apply pw_below_drewN | apply below_drew1) | exact HB.out)) hb); clear HO107; clear HO111; clear HO114; clear HO118; clear HO121; clear HO125; clear HO129; clear HO132; clear HO136; clear HB; have HO107 := n0_; have HO111 := n1_; have HO114 := n2_; have HO118 := n3_; have HO121 := n4_; have HO125 := n5_; have HO129 := n6_; have HO132 := n7_; have HO136 := n8_; have HO139 := n9_; have HB := n10_; clear n0_ n1_ n2_ n3_ n4_ n5_ n6_ n7_ n8_ n9_ n10_; (try clear hb); (try clear hb2); (try clear hk); (try clear hi); (try clear ho0)) | ((with_reducible refine gate_dst (N := 62) rfl ?_); (try (refine gate_guard (by rfl) ?_; dsimp only)); refine Kd.R_lit (Kd.int .i64) _ 3 ?hg (N := 62) ?hd (xs := ([0, 1] : List Int)) (inner := [.int .i64 0, .int .i64 1]) (ok := fun _ => True) (okp := fun _ => True) ?hr ?hp (fun _ hk => hk) trivial (Below.refl _ _) (Nat.le_refl _) (by simp) ?_; (case hd => rfl); (case hg => rfl); (case hr => first | (go_simp; done) | (go_simp; rfl)); (case hp => exact (Reps.one (show Kd.M (Kd.int .i64) _ _ _ 0 [.int .i64 0] from rfl) (Reps.one (show Kd.M (Kd.int .i64) _ _ _ 1 [.int .i64 1] from rfl) (Reps.none _ _)))); intro v141 w36 ho37 hb hg_ hnew_; clear hg_ hnew_; (first | rw [← Ny140.out] at ho37 | (simp only [Int.reduceToNat] at ho37; rw [← Ny140.out] at ho37)); have n0_ := Aside0.mk (Kd.R_below (by (with_reducible repeat (first | apply Kd.R_alloc | apply Kd.R_drewN | apply Kd.R_drew)); exact HO107.out) hb); have n1_ := Aside0.mk (Kd.R_elder' (by (with_reducible repeat (first | apply Kd.R_alloc | apply Kd.R_drewN | apply Kd.R_drew)); exact HO111.out) (Kd.R_base ho37) hb); have n2_ := Aside0.mk (Kd.R_below (by (with_reducible repeat (first | apply Kd.R_alloc | apply Kd.R_drewN | apply Kd.R_drew)); exact HO114.out) hb); have n3_ := Aside0.mk (Kd.R_elder' (by (with_reducible repeat (first | apply Kd.R_alloc | apply Kd.R_drewN | apply Kd.R_drew)); exact HO118.out) (Kd.R_base ho37) hb); have n4_ := Aside0.mk (Kd.R_below (by (with_reducible repeat (first | apply Kd.R_alloc | apply Kd.R_drewN | apply Kd.R_drew)); exact HO121.out) hb); have n5_ := Aside0.mk (Kd.R_elder' (by (with_reducible repeat (first | apply Kd.R_alloc | apply Kd.R_drewN | apply Kd.R_drew)); exact HO125.out) (Kd.R_base ho37) hb); have n6_ := Aside0.mk (Kd.R_elder' (by (with_reducible repeat (first | apply Kd.R_alloc | apply Kd.R_drewN | apply Kd.R_drew)); exact HO129.out) (Kd.R_base ho37) hb); have n7_ := Aside0.mk (Kd.R_elder' (by (with_reducible repeat (first | apply Kd.R_alloc | apply Kd.R_drewN | apply Kd.R_drew)); exact HO132.out) (Kd.R_base ho37) hb); have n8_ := Aside0.mk (Kd.R_below (by (with_reducible repeat (first | apply Kd.R_alloc | apply Kd.R_drewN | apply Kd.R_drew)); exact HO136.out) hb); have n9_ := Aside0.mk (Kd.R_elder' (by (with_reducible repeat (first | apply Kd.R_alloc | apply Kd.R_drewN | apply Kd.R_drew)); exact HO139.out) (Kd.R_base ho37) hb); have n10_ := Aside0.mk (Kd.R_lower (Kd.R_new' (Kd.R_new' (Kd.R_new' (Kd.R_new' (Kd.R_new' (Kd.R_new' ho37 (Kd.R_lt (by (with_reducible repeat (first | apply Kd.R_alloc | apply Kd.R_drewN | apply Kd.R_drew)); exact HO111.out))) (Kd.R_lt (by (with_reducible repeat (first | apply Kd.R_alloc | apply Kd.R_drewN | apply Kd.R_drew)); exact HO118.out))) (Kd.R_lt (by (with_reducible repeat (first | apply Kd.R_alloc | apply Kd.R_drewN | apply Kd.R_drew)); exact HO125.out))) (Kd.R_lt (by (with_reducible repeat (first | apply Kd.R_alloc | apply Kd.R_drewN | apply Kd.R_drew)); exact HO129.out))) (Kd.R_lt (by (with_reducible repeat (first | apply Kd.R_alloc | apply Kd.R_drewN | apply Kd.R_drew)); exact HO132.out))) (Kd.R_lt (by (with_reducible repeat (first | apply Kd.R_alloc | apply Kd.R_drewN | apply Kd.R_drew)); exact HO139.out))) (below_size (by repeat (first | (with_reducible first | exact HB.out | apply below_alloc | apply pw_below_drewN | apply below_drew1) | exact HB.out)))); have n11_ := Aside0.mk (below_step (by repeat (first | (with_reducible first | exact HB.out | apply below_alloc | apply pw_below_drewN | apply below_drew1) | exact HB.out)) hb); clear HO107; clear HO111; clear HO114; clear HO118; clear HO121; clear HO125; clear HO129; clear HO132; clear HO136; clear HO139; clear HB; have HO107 := n0_; have HO111 := n1_; have HO114 := n2_; have HO118 := n3_; have HO121 := n4_; have HO125 := n5_; have HO129 := n6_; have HO132 := n7_; have HO136 := n8_; have HO139 := n9_; have HO142 := n10_; have HB := n11_; clear n0_ n1_ n2_ n3_ n4_ n5_ n6_ n7_ n8_ n9_ n10_ n11_; clear hb ho37; obtain ⟨Ao38, co38, eo38⟩ := Kd.R_slice HO139.out; subst eo38; obtain ⟨Ao39, co39, eo39⟩ := Kd.R_slice HO142.out; subst eo39) | (go_at_call 17; (with_reducible refine (arlinkref04_Numbers.calls k _ _ t137 _ _ y140 t143 _ ?side1 ?side2 ?side3 ?side4 A13.out).mono ?_); (case side1 => repeat (first | exact (Kd.R_reads' HO139.out).2.2 | (with_reducible refine Kd.C_alloc ?_ _) | (with_reducible refine Kd.C_drewN ?_ _) | (with_reducible refine Kd.C_drew ?_))); (case side2 => exact (Kd.R_reads' HO139.out).2.1); (case side3 => repeat (first | exact (Kd.R_reads' HO142.out).2.2 | (with_reducible refine Kd.C_alloc ?_ _) | (with_reducible refine Kd.C_drewN ?_ _) | (with_reducible refine Kd.C_drew ?_))); (case side4 => exact (Kd.R_reads' HO142.out).2.1); rintro e w' ⟨rfl, ⟨nd, rfl⟩⟩))
       go_ret
       exact ⟨by first | rfl | (simp [errW_none, errW_some] <;> rfl) | (simp [*, errW_none, errW_some] <;> rfl), by repeat (first | (with_reducible first | exact HB.out | apply below_alloc | apply pw_below_drewN | apply below_drew1) | exact HB.out)⟩
      ·rw [if_neg c11] at H
       have c11b0 : (t127 == 0) = false := beq_eq_false_iff_ne.mpr c11
       have c11b1 : (t127 != 0) = true := bne_iff_ne.mpr c11
       obtain rfl := Option.some.inj H
       go_enter Try.func13, Try.ntmps13
       go_wp2_with (first | ((with_reducible refine gate_dst (N := 11) rfl ?_); (try (refine gate_guard (by rfl) ?_; dsimp only)); refine Kd.R_lit k68 _ 68 ?hg (N := 11) ?hd (xs := ([(⟨2, 0⟩ : S68)] : List (S68))) (inner := [.int .i64 2, .int .i64 0]) (ok := fun _ => True) (okp := fun _ => True) ?hr ?hp (fun _ hk => hk) trivial (Below.refl _ _) (Nat.le_refl _) (by simp) ?_; (case hd => rfl); (case hg => rfl); (case hr => first | (go_simp; done) | (go_simp; rfl)); (case hp => exact (Reps.c2 (show Kd.M k68 _ _ _ (⟨2, 0⟩ : S68) [.int .i64 2, .int .i64 0] from (k68_mkM _ _ _ (⟨2, 0⟩ : S68) )) (Reps.none _ _))); intro v106 w40 ho41 hb hg_ hnew_; clear hg_ hnew_; (first | rw [← Ny105.out] at ho41 | (simp only [Int.reduceToNat] at ho41; rw [← Ny105.out] at ho41)); have n0_ := Aside0.mk (Kd.R_lower ho41 (below_size (by repeat (first | (with_reducible first | exact HB.out | apply below_alloc | apply pw_below_drewN | apply below_drew1) | exact HB.out)))); have n1_ := Aside0.mk (below_step (by repeat (first | (with_reducible first | exact HB.out | apply below_alloc | apply pw_below_drewN | apply below_drew1) | exact HB.out)) hb); clear HB; have HO107 := n0_; have HB := n1_; clear n0_ n1_; clear hb ho41; obtain ⟨Ao42, co42, eo42⟩ := Kd.R_slice HO107.out; subst eo42) | ((with_reducible refine gate_callee (f := 14) rfl ?_); refine goesL_ (some 12) rfl rfl Try.func14 (by kernel_rfl) rfl #[.int .i64 3, .slice Ao42 y105.length co42] rfl (by (try simp only [List.map_toArray, List.map_cons, List.map_nil]); first | done | rfl | (simp only [List.length_drop, List.length_take]; rfl)) ?_; (with_reducible refine (order_Sort.calls 3 _ _ y105 t108 t109 _ ?side1 ?side2 A1.out).mono ?_); (case side1 => repeat (first | exact (Kd.R_reads' HO107.out).2.2 | (with_reducible refine Kd.C_alloc ?_ _) | (with_reducible refine Kd.C_drewN ?_ _) | (with_reducible refine Kd.C_drew ?_))); (case side2 => exact (Kd.R_reads' HO107.out).2.1); rintro e w43 ⟨v110, rfl, ho0, hb⟩; refine ⟨_, rfl, ?_⟩; have n0_ := Aside0.mk (Kd.R_below (by (with_reducible repeat (first | apply Kd.R_alloc | apply Kd.R_drewN | apply Kd.R_drew)); exact HO107.out) hb); have n1_ := Aside0.mk (Kd.R_lower ho0 (below_size (by repeat (first | (with_reducible first | exact HB.out | apply below_alloc | apply pw_below_drewN | apply below_drew1) | exact HB.out)))); have n2_ := Aside0.mk (below_step (by repeat (first | (with_reducible first | exact HB.out | apply below_alloc | apply pw_below_drewN | apply below_drew1) | exact HB.out)) hb); clear HO107; clear HB; have HO107 := n0_; have HO111 := n1_; have HB := n2_; clear n0_ n1_ n2_; (try clear hb); (try clear hb2); (try clear hk); (try clear hi); (try clear ho0)) | ((with_reducible refine gate_dst (N := 18) rfl ?_); (try (refine gate_guard (by rfl) ?_; dsimp only)); refine Kd.R_lit k68 _ 68 ?hg (N := 18) ?hd (xs := ([(⟨0, 1⟩ : S68), (⟨1, 0⟩ : S68)] : List (S68))) (inner := [.int .i64 0, .int .i64 1, .int .i64 1, .int .i64 0]) (ok := fun _ => True) (okp := fun _ => True) ?hr ?hp (fun _ hk => hk) trivial (Below.refl _ _) (Nat.le_refl _) (by simp) ?_; (case hd => rfl); (case hg => rfl); (case hr => first | (go_simp; done) | (go_simp; rfl)); (case hp => exact (Reps.c2 (show Kd.M k68 _ _ _ (⟨0, 1⟩ : S68) [.int .i64 0, .int .i64 1] from (k68_mkM _ _ _ (⟨0, 1⟩ : S68) )) (Reps.c2 (show Kd.M k68 _ _ _ (⟨1, 0⟩ : S68) [.int .i64 1, .int .i64 0] from (k68_mkM _ _ _ (⟨1, 0⟩ : S68) )) (Reps.none _ _)))); intro v113 w44 ho45 hb hg_ hnew_; clear hg_ hnew_; (first | rw [← Ny112.out] at ho45 | (simp only [Int.reduceToNat] at ho45; rw [← Ny112.out] at ho45)); have n0_ := Aside0.mk (Kd.R_elder' (by (with_reducible repeat (first | apply Kd.R_alloc | apply Kd.R_drewN | apply Kd.R_drew)); exact HO107.out) (Kd.R_base ho45) hb); have n1_ := Aside0.mk (Kd.R_below (by (with_reducible repeat (first | apply Kd.R_alloc | apply Kd.R_drewN | apply Kd.R_drew)); exact HO111.out) hb); have n2_ := Aside0.mk (Kd.R_lower (Kd.R_new' ho45 (Kd.R_lt (by (with_reducible repeat (first | apply Kd.R_alloc | apply Kd.R_drewN | apply Kd.R_drew)); exact HO107.out))) (below_size (by repeat (first | (with_reducible first | exact HB.out | apply below_alloc | apply pw_below_drewN | apply below_drew1) | exact HB.out)))); have n3_ := Aside0.mk (below_step (by repeat (first | (with_reducible first | exact HB.out | apply below_alloc | apply pw_below_drewN | apply below_drew1) | exact HB.out)) hb); clear HO107; clear HO111; clear HB; have HO107 := n0_; have HO111 := n1_; have HO114 := n2_; have HB := n3_; clear n0_ n1_ n2_ n3_; clear hb ho45; obtain ⟨Ao46, co46, eo46⟩ := Kd.R_slice HO114.out; subst eo46) | ((with_reducible refine gate_callee (f := 14) rfl ?_); refine goesL_ (some 19) rfl rfl Try.func14 (by kernel_rfl) rfl #[.int .i64 2, .slice Ao46 y112.length co46] rfl (by (try simp only [List.map_toArray, List.map_cons, List.map_nil]); first | done | rfl | (simp only [List.length_drop, List.length_take]; rfl)) ?_; (with_reducible refine (order_Sort.calls 2 _ _ y112 t115 t116 _ ?side1 ?side2 A2.out).mono ?_); (case side1 => repeat (first | exact (Kd.R_reads' HO114.out).2.2 | (with_reducible refine Kd.C_alloc ?_ _) | (with_reducible refine Kd.C_drewN ?_ _) | (with_reducible refine Kd.C_drew ?_))); (case side2 => exact (Kd.R_reads' HO114.out).2.1); rintro e w47 ⟨v117, rfl, ho0, hb⟩; refine ⟨_, rfl, ?_⟩; have n0_ := Aside0.mk (Kd.R_below (by (with_reducible repeat (first | apply Kd.R_alloc | apply Kd.R_drewN | apply Kd.R_drew)); exact HO107.out) hb); have n1_ := Aside0.mk (Kd.R_elder' (by (with_reducible repeat (first | apply Kd.R_alloc | apply Kd.R_drewN | apply Kd.R_drew)); exact HO111.out) (Kd.R_base ho0) hb); have n2_ := Aside0.mk (Kd.R_below (by (with_reducible repeat (first | apply Kd.R_alloc | apply Kd.R_drewN | apply Kd.R_drew)); exact HO114.out) hb); have n3_ := Aside0.mk (Kd.R_lower (Kd.R_new' ho0 (Kd.R_lt (by (with_reducible repeat (first | apply Kd.R_alloc | apply Kd.R_drewN | apply Kd.R_drew)); exact HO111.out))) (below_size (by repeat (first | (with_reducible first | exact HB.out | apply below_alloc | apply pw_below_drewN | apply below_drew1) | exact HB.out)))); have n4_ := Aside0.mk (below_step (by repeat (first | (with_reducible first | exact HB.out | apply below_alloc | apply pw_below_drewN | apply below_drew1) | exact HB.out)) hb); clear HO107; clear HO111; clear HO114; clear HB; have HO107 := n0_; have HO111 := n1_; have HO114 := n2_; have HO118 := n3_; have HB := n4_; clear n0_ n1_ n2_ n3_ n4_; (try clear hb); (try clear hb2); (try clear hk); (try clear hi); (try clear ho0)) | ((with_reducible refine gate_dst (N := 24) rfl ?_); (try (refine gate_guard (by rfl) ?_; dsimp only)); refine Kd.R_lit k68 _ 68 ?hg (N := 24) ?hd (xs := ([(⟨0, 2⟩ : S68)] : List (S68))) (inner := [.int .i64 0, .int .i64 2]) (ok := fun _ => True) (okp := fun _ => True) ?hr ?hp (fun _ hk => hk) trivial (Below.refl _ _) (Nat.le_refl _) (by simp) ?_; (case hd => rfl); (case hg => rfl); (case hr => first | (go_simp; done) | (go_simp; rfl)); (case hp => exact (Reps.c2 (show Kd.M k68 _ _ _ (⟨0, 2⟩ : S68) [.int .i64 0, .int .i64 2] from (k68_mkM _ _ _ (⟨0, 2⟩ : S68) )) (Reps.none _ _))); intro v120 w48 ho49 hb hg_ hnew_; clear hg_ hnew_; (first | rw [← Ny119.out] at ho49 | (simp only [Int.reduceToNat] at ho49; rw [← Ny119.out] at ho49)); have n0_ := Aside0.mk (Kd.R_elder' (by (with_reducible repeat (first | apply Kd.R_alloc | apply Kd.R_drewN | apply Kd.R_drew)); exact HO107.out) (Kd.R_base ho49) hb); have n1_ := Aside0.mk (Kd.R_below (by (with_reducible repeat (first | apply Kd.R_alloc | apply Kd.R_drewN | apply Kd.R_drew)); exact HO111.out) hb); have n2_ := Aside0.mk (Kd.R_elder' (by (with_reducible repeat (first | apply Kd.R_alloc | apply Kd.R_drewN | apply Kd.R_drew)); exact HO114.out) (Kd.R_base ho49) hb); have n3_ := Aside0.mk (Kd.R_below (by (with_reducible repeat (first | apply Kd.R_alloc | apply Kd.R_drewN | apply Kd.R_drew)); exact HO118.out) hb); have n4_ := Aside0.mk (Kd.R_lower (Kd.R_new' (Kd.R_new' ho49 (Kd.R_lt (by (with_reducible repeat (first | apply Kd.R_alloc | apply Kd.R_drewN | apply Kd.R_drew)); exact HO107.out))) (Kd.R_lt (by (with_reducible repeat (first | apply Kd.R_alloc | apply Kd.R_drewN | apply Kd.R_drew)); exact HO114.out))) (below_size (by repeat (first | (with_reducible first | exact HB.out | apply below_alloc | apply pw_below_drewN | apply below_drew1) | exact HB.out)))); have n5_ := Aside0.mk (below_step (by repeat (first | (with_reducible first | exact HB.out | apply below_alloc | apply pw_below_drewN | apply below_drew1) | exact HB.out)) hb); clear HO107; clear HO111; clear HO114; clear HO118; clear HB; have HO107 := n0_; have HO111 := n1_; have HO114 := n2_; have HO118 := n3_; have HO121 := n4_; have HB := n5_; clear n0_ n1_ n2_ n3_ n4_ n5_; clear hb ho49; obtain ⟨Ao50, co50, eo50⟩ := Kd.R_slice HO121.out; subst eo50) | ((with_reducible refine gate_callee (f := 14) rfl ?_); refine goesL_ (some 25) rfl rfl Try.func14 (by kernel_rfl) rfl #[.int .i64 2, .slice Ao50 y119.length co50] rfl (by (try simp only [List.map_toArray, List.map_cons, List.map_nil]); first | done | rfl | (simp only [List.length_drop, List.length_take]; rfl)) ?_; (with_reducible refine (order_Sort.calls 2 _ _ y119 t122 t123 _ ?side1 ?side2 A3.out).mono ?_); (case side1 => repeat (first | exact (Kd.R_reads' HO121.out).2.2 | (with_reducible refine Kd.C_alloc ?_ _) | (with_reducible refine Kd.C_drewN ?_ _) | (with_reducible refine Kd.C_drew ?_))); (case side2 => exact (Kd.R_reads' HO121.out).2.1); rintro e w51 ⟨v124, rfl, ho0, hb⟩; refine ⟨_, rfl, ?_⟩; have n0_ := Aside0.mk (Kd.R_below (by (with_reducible repeat (first | apply Kd.R_alloc | apply Kd.R_drewN | apply Kd.R_drew)); exact HO107.out) hb); have n1_ := Aside0.mk (Kd.R_elder' (by (with_reducible repeat (first | apply Kd.R_alloc | apply Kd.R_drewN | apply Kd.R_drew)); exact HO111.out) (Kd.R_base ho0) hb); have n2_ := Aside0.mk (Kd.R_below (by (with_reducible repeat (first | apply Kd.R_alloc | apply Kd.R_drewN | apply Kd.R_drew)); exact HO114.out) hb); have n3_ := Aside0.mk (Kd.R_elder' (by (with_reducible repeat (first | apply Kd.R_alloc | apply Kd.R_drewN | apply Kd.R_drew)); exact HO118.out) (Kd.R_base ho0) hb); have n4_ := Aside0.mk (Kd.R_below (by (with_reducible repeat (first | apply Kd.R_alloc | apply Kd.R_drewN | apply Kd.R_drew)); exact HO121.out) hb); have n5_ := Aside0.mk (Kd.R_lower (Kd.R_new' (Kd.R_new' ho0 (Kd.R_lt (by (with_reducible repeat (first | apply Kd.R_alloc | apply Kd.R_drewN | apply Kd.R_drew)); exact HO111.out))) (Kd.R_lt (by (with_reducible repeat (first | apply Kd.R_alloc | apply Kd.R_drewN | apply Kd.R_drew)); exact HO118.out))) (below_size (by repeat (first | (with_reducible first | exact HB.out | apply below_alloc | apply pw_below_drewN | apply below_drew1) | exact HB.out)))); have n6_ := Aside0.mk (below_step (by repeat (first | (with_reducible first | exact HB.out | apply below_alloc | apply pw_below_drewN | apply below_drew1) | exact HB.out)) hb); clear HO107; clear HO111; clear HO114; clear HO118; clear HO121; clear HB; have HO107 := n0_; have HO111 := n1_; have HO114 := n2_; have HO118 := n3_; have HO121 := n4_; have HO125 := n5_; have HB := n6_; clear n0_ n1_ n2_ n3_ n4_ n5_ n6_; (try clear hb); (try clear hb2); (try clear hk); (try clear hi); (try clear ho0)) | ((with_reducible refine gate_callee (f := 14) rfl ?_); refine goesL_ (some 29) rfl rfl Try.func14 (by kernel_rfl) rfl #[.int .i64 0, .slice none 0 0] rfl (by (try simp only [List.map_toArray, List.map_cons, List.map_nil]); first | done | rfl | (simp only [List.length_drop, List.length_take]; rfl)) ?_; (refine (order_Sort.calls 0 _ _ ([] : List (S68)) t126 t127 _ ?side1 ?side2 A4.out).mono ?_); (case side1 => exact Kd.C_nil _ _); (case side2 => exact Nat.le_refl _); rintro e w52 ⟨v128, rfl, ho0, hb⟩; refine ⟨_, rfl, ?_⟩; have n0_ := Aside0.mk (Kd.R_below (by (with_reducible repeat (first | apply Kd.R_alloc | apply Kd.R_drewN | apply Kd.R_drew)); exact HO107.out) hb); have n1_ := Aside0.mk (Kd.R_elder' (by (with_reducible repeat (first | apply Kd.R_alloc | apply Kd.R_drewN | apply Kd.R_drew)); exact HO111.out) (Kd.R_base ho0) hb); have n2_ := Aside0.mk (Kd.R_below (by (with_reducible repeat (first | apply Kd.R_alloc | apply Kd.R_drewN | apply Kd.R_drew)); exact HO114.out) hb); have n3_ := Aside0.mk (Kd.R_elder' (by (with_reducible repeat (first | apply Kd.R_alloc | apply Kd.R_drewN | apply Kd.R_drew)); exact HO118.out) (Kd.R_base ho0) hb); have n4_ := Aside0.mk (Kd.R_below (by (with_reducible repeat (first | apply Kd.R_alloc | apply Kd.R_drewN | apply Kd.R_drew)); exact HO121.out) hb); have n5_ := Aside0.mk (Kd.R_elder' (by (with_reducible repeat (first | apply Kd.R_alloc | apply Kd.R_drewN | apply Kd.R_drew)); exact HO125.out) (Kd.R_base ho0) hb); have n6_ := Aside0.mk (Kd.R_lower (Kd.R_new' (Kd.R_new' (Kd.R_new' ho0 (Kd.R_lt (by (with_reducible repeat (first | apply Kd.R_alloc | apply Kd.R_drewN | apply Kd.R_drew)); exact HO111.out))) (Kd.R_lt (by (with_reducible repeat (first | apply Kd.R_alloc | apply Kd.R_drewN | apply Kd.R_drew)); exact HO118.out))) (Kd.R_lt (by (with_reducible repeat (first | apply Kd.R_alloc | apply Kd.R_drewN | apply Kd.R_drew)); exact HO125.out))) (below_size (by repeat (first | (with_reducible first | exact HB.out | apply below_alloc | apply pw_below_drewN | apply below_drew1) | exact HB.out)))); have n7_ := Aside0.mk (below_step (by repeat (first | (with_reducible first | exact HB.out | apply below_alloc | apply pw_below_drewN | apply below_drew1) | exact HB.out)) hb); clear HO107; clear HO111; clear HO114; clear HO118; clear HO121; clear HO125; clear HB; have HO107 := n0_; have HO111 := n1_; have HO114 := n2_; have HO118 := n3_; have HO121 := n4_; have HO125 := n5_; have HO129 := n6_; have HB := n7_; clear n0_ n1_ n2_ n3_ n4_ n5_ n6_ n7_; (try clear hb); (try clear hb2); (try clear hk); (try clear hi); (try clear ho0)) | ((with_reducible refine gate_dst (N := 33) rfl ?_); (try (refine gate_guard (by rfl) ?_; dsimp only)); refine Kd.R_lit (Kd.int .i64) _ 3 ?hg (N := 33) ?hd (xs := ([1, 2, 0] : List Int)) (inner := [.int .i64 1, .int .i64 2, .int .i64 0]) (ok := fun _ => True) (okp := fun _ => True) ?hr ?hp (fun _ hk => hk) trivial (Below.refl _ _) (Nat.le_refl _) (by simp) ?_; (case hd => rfl); (case hg => rfl); (case hr => first | (go_simp; done) | (go_simp; rfl)); (case hp => exact (Reps.one (show Kd.M (Kd.int .i64) _ _ _ 1 [.int .i64 1] from rfl) (Reps.one (show Kd.M (Kd.int .i64) _ _ _ 2 [.int .i64 2] from rfl) (Reps.one (show Kd.M (Kd.int .i64) _ _ _ 0 [.int .i64 0] from rfl) (Reps.none _ _))))); intro v131 w53 ho54 hb hg_ hnew_; clear hg_ hnew_; (first | rw [← Ny130.out] at ho54 | (simp only [Int.reduceToNat] at ho54; rw [← Ny130.out] at ho54)); have n0_ := Aside0.mk (Kd.R_below (by (with_reducible repeat (first | apply Kd.R_alloc | apply Kd.R_drewN | apply Kd.R_drew)); exact HO107.out) hb); have n1_ := Aside0.mk (Kd.R_elder' (by (with_reducible repeat (first | apply Kd.R_alloc | apply Kd.R_drewN | apply Kd.R_drew)); exact HO111.out) (Kd.R_base ho54) hb); have n2_ := Aside0.mk (Kd.R_below (by (with_reducible repeat (first | apply Kd.R_alloc | apply Kd.R_drewN | apply Kd.R_drew)); exact HO114.out) hb); have n3_ := Aside0.mk (Kd.R_elder' (by (with_reducible repeat (first | apply Kd.R_alloc | apply Kd.R_drewN | apply Kd.R_drew)); exact HO118.out) (Kd.R_base ho54) hb); have n4_ := Aside0.mk (Kd.R_below (by (with_reducible repeat (first | apply Kd.R_alloc | apply Kd.R_drewN | apply Kd.R_drew)); exact HO121.out) hb); have n5_ := Aside0.mk (Kd.R_elder' (by (with_reducible repeat (first | apply Kd.R_alloc | apply Kd.R_drewN | apply Kd.R_drew)); exact HO125.out) (Kd.R_base ho54) hb); have n6_ := Aside0.mk (Kd.R_elder' (by (with_reducible repeat (first | apply Kd.R_alloc | apply Kd.R_drewN | apply Kd.R_drew)); exact HO129.out) (Kd.R_base ho54) hb); have n7_ := Aside0.mk (Kd.R_lower (Kd.R_new' (Kd.R_new' (Kd.R_new' (Kd.R_new' ho54 (Kd.R_lt (by (with_reducible repeat (first | apply Kd.R_alloc | apply Kd.R_drewN | apply Kd.R_drew)); exact HO111.out))) (Kd.R_lt (by (with_reducible repeat (first | apply Kd.R_alloc | apply Kd.R_drewN | apply Kd.R_drew)); exact HO118.out))) (Kd.R_lt (by (with_reducible repeat (first | apply Kd.R_alloc | apply Kd.R_drewN | apply Kd.R_drew)); exact HO125.out))) (Kd.R_lt (by (with_reducible repeat (first | apply Kd.R_alloc | apply Kd.R_drewN | apply Kd.R_drew)); exact HO129.out))) (below_size (by repeat (first | (with_reducible first | exact HB.out | apply below_alloc | apply pw_below_drewN | apply below_drew1) | exact HB.out)))); have n8_ := Aside0.mk (below_step (by repeat (first | (with_reducible first | exact HB.out | apply below_alloc | apply pw_below_drewN | apply below_drew1) | exact HB.out)) hb); clear HO107; clear HO111; clear HO114; clear HO118; clear HO121; clear HO125; clear HO129; clear HB; have HO107 := n0_; have HO111 := n1_; have HO114 := n2_; have HO118 := n3_; have HO121 := n4_; have HO125 := n5_; have HO129 := n6_; have HO132 := n7_; have HB := n8_; clear n0_ n1_ n2_ n3_ n4_ n5_ n6_ n7_ n8_; clear hb ho54; obtain ⟨Ao55, co55, eo55⟩ := Kd.R_slice HO111.out; subst eo55; obtain ⟨Ao56, co56, eo56⟩ := Kd.R_slice HO132.out; subst eo56) | ((with_reducible refine gate_callee (f := 17) rfl ?_); refine goesL_ (some 34) rfl rfl Try.func17 (by kernel_rfl) rfl #[.slice Ao55 t108.length co55, .slice Ao56 y130.length co56] rfl (by (try simp only [List.map_toArray, List.map_cons, List.map_nil]); first | done | rfl | (simp only [List.length_drop, List.length_take]; rfl)) ?_; (with_reducible refine (arlinkref04_Numbers.calls k _ _ t108 _ _ y130 true _ ?side1 ?side2 ?side3 ?side4 A5.out).mono ?_); (case side1 => repeat (first | exact (Kd.R_reads' HO111.out).2.2 | (with_reducible refine Kd.C_alloc ?_ _) | (with_reducible refine Kd.C_drewN ?_ _) | (with_reducible refine Kd.C_drew ?_))); (case side2 => exact (Kd.R_reads' HO111.out).2.1); (case side3 => repeat (first | exact (Kd.R_reads' HO132.out).2.2 | (with_reducible refine Kd.C_alloc ?_ _) | (with_reducible refine Kd.C_drewN ?_ _) | (with_reducible refine Kd.C_drew ?_))); (case side4 => exact (Kd.R_reads' HO132.out).2.1); rintro e w' ⟨rfl, ⟨nd, rfl⟩⟩; refine ⟨_, rfl, ?_⟩; obtain ⟨Ao57, co57, eo57⟩ := Kd.R_slice HO129.out; subst eo57))
       go_ret
       exact ⟨by first | rfl | (simp [errW_none, errW_some] <;> rfl) | (simp [*, errW_none, errW_some] <;> rfl), by repeat (first | (with_reducible first | exact HB.out | apply below_alloc | apply pw_below_drewN | apply below_drew1) | exact HB.out)⟩
     ·rw [if_neg c10] at H
      have c10b0 : ((t126.length : Int) == 0) = false := beq_eq_false_iff_ne.mpr c10
      have c10b1 : ((t126.length : Int) != 0) = true := bne_iff_ne.mpr c10
      have c10b2 : ¬ (t126 = []) := fun h_ => c10 (by rw [h_]; rfl)
      obtain rfl := Option.some.inj H
      go_enter Try.func13, Try.ntmps13
      go_wp2_with (first | ((with_reducible refine gate_dst (N := 11) rfl ?_); (try (refine gate_guard (by rfl) ?_; dsimp only)); refine Kd.R_lit k68 _ 68 ?hg (N := 11) ?hd (xs := ([(⟨2, 0⟩ : S68)] : List (S68))) (inner := [.int .i64 2, .int .i64 0]) (ok := fun _ => True) (okp := fun _ => True) ?hr ?hp (fun _ hk => hk) trivial (Below.refl _ _) (Nat.le_refl _) (by simp) ?_; (case hd => rfl); (case hg => rfl); (case hr => first | (go_simp; done) | (go_simp; rfl)); (case hp => exact (Reps.c2 (show Kd.M k68 _ _ _ (⟨2, 0⟩ : S68) [.int .i64 2, .int .i64 0] from (k68_mkM _ _ _ (⟨2, 0⟩ : S68) )) (Reps.none _ _))); intro v106 w58 ho59 hb hg_ hnew_; clear hg_ hnew_; (first | rw [← Ny105.out] at ho59 | (simp only [Int.reduceToNat] at ho59; rw [← Ny105.out] at ho59)); have n0_ := Aside0.mk (Kd.R_lower ho59 (below_size (by repeat (first | (with_reducible first | exact HB.out | apply below_alloc | apply pw_below_drewN | apply below_drew1) | exact HB.out)))); have n1_ := Aside0.mk (below_step (by repeat (first | (with_reducible first | exact HB.out | apply below_alloc | apply pw_below_drewN | apply below_drew1) | exact HB.out)) hb); clear HB; have HO107 := n0_; have HB := n1_; clear n0_ n1_; clear hb ho59; obtain ⟨Ao60, co60, eo60⟩ := Kd.R_slice HO107.out; subst eo60) | ((with_reducible refine gate_callee (f := 14) rfl ?_); refine goesL_ (some 12) rfl rfl Try.func14 (by kernel_rfl) rfl #[.int .i64 3, .slice Ao60 y105.length co60] rfl (by (try simp only [List.map_toArray, List.map_cons, List.map_nil]); first | done | rfl | (simp only [List.length_drop, List.length_take]; rfl)) ?_; (with_reducible refine (order_Sort.calls 3 _ _ y105 t108 t109 _ ?side1 ?side2 A1.out).mono ?_); (case side1 => repeat (first | exact (Kd.R_reads' HO107.out).2.2 | (with_reducible refine Kd.C_alloc ?_ _) | (with_reducible refine Kd.C_drewN ?_ _) | (with_reducible refine Kd.C_drew ?_))); (case side2 => exact (Kd.R_reads' HO107.out).2.1); rintro e w61 ⟨v110, rfl, ho0, hb⟩; refine ⟨_, rfl, ?_⟩; have n0_ := Aside0.mk (Kd.R_below (by (with_reducible repeat (first | apply Kd.R_alloc | apply Kd.R_drewN | apply Kd.R_drew)); exact HO107.out) hb); have n1_ := Aside0.mk (Kd.R_lower ho0 (below_size (by repeat (first | (with_reducible first | exact HB.out | apply below_alloc | apply pw_below_drewN | apply below_drew1) | exact HB.out)))); have n2_ := Aside0.mk (below_step (by repeat (first | (with_reducible first | exact HB.out | apply below_alloc | apply pw_below_drewN | apply below_drew1) | exact HB.out)) hb); clear HO107; clear HB; have HO107 := n0_; have HO111 := n1_; have HB := n2_; clear n0_ n1_ n2_; (try clear hb); (try clear hb2); (try clear hk); (try clear hi); (try clear ho0)) | ((with_reducible refine gate_dst (N := 18) rfl ?_); (try (refine gate_guard (by rfl) ?_; dsimp only)); refine Kd.R_lit k68 _ 68 ?hg (N := 18) ?hd (xs := ([(⟨0, 1⟩ : S68), (⟨1, 0⟩ : S68)] : List (S68))) (inner := [.int .i64 0, .int .i64 1, .int .i64 1, .int .i64 0]) (ok := fun _ => True) (okp := fun _ => True) ?hr ?hp (fun _ hk => hk) trivial (Below.refl _ _) (Nat.le_refl _) (by simp) ?_; (case hd => rfl); (case hg => rfl); (case hr => first | (go_simp; done) | (go_simp; rfl)); (case hp => exact (Reps.c2 (show Kd.M k68 _ _ _ (⟨0, 1⟩ : S68) [.int .i64 0, .int .i64 1] from (k68_mkM _ _ _ (⟨0, 1⟩ : S68) )) (Reps.c2 (show Kd.M k68 _ _ _ (⟨1, 0⟩ : S68) [.int .i64 1, .int .i64 0] from (k68_mkM _ _ _ (⟨1, 0⟩ : S68) )) (Reps.none _ _)))); intro v113 w62 ho63 hb hg_ hnew_; clear hg_ hnew_; (first | rw [← Ny112.out] at ho63 | (simp only [Int.reduceToNat] at ho63; rw [← Ny112.out] at ho63)); have n0_ := Aside0.mk (Kd.R_elder' (by (with_reducible repeat (first | apply Kd.R_alloc | apply Kd.R_drewN | apply Kd.R_drew)); exact HO107.out) (Kd.R_base ho63) hb); have n1_ := Aside0.mk (Kd.R_below (by (with_reducible repeat (first | apply Kd.R_alloc | apply Kd.R_drewN | apply Kd.R_drew)); exact HO111.out) hb); have n2_ := Aside0.mk (Kd.R_lower (Kd.R_new' ho63 (Kd.R_lt (by (with_reducible repeat (first | apply Kd.R_alloc | apply Kd.R_drewN | apply Kd.R_drew)); exact HO107.out))) (below_size (by repeat (first | (with_reducible first | exact HB.out | apply below_alloc | apply pw_below_drewN | apply below_drew1) | exact HB.out)))); have n3_ := Aside0.mk (below_step (by repeat (first | (with_reducible first | exact HB.out | apply below_alloc | apply pw_below_drewN | apply below_drew1) | exact HB.out)) hb); clear HO107; clear HO111; clear HB; have HO107 := n0_; have HO111 := n1_; have HO114 := n2_; have HB := n3_; clear n0_ n1_ n2_ n3_; clear hb ho63; obtain ⟨Ao64, co64, eo64⟩ := Kd.R_slice HO114.out; subst eo64) | ((with_reducible refine gate_callee (f := 14) rfl ?_); refine goesL_ (some 19) rfl rfl Try.func14 (by kernel_rfl) rfl #[.int .i64 2, .slice Ao64 y112.length co64] rfl (by (try simp only [List.map_toArray, List.map_cons, List.map_nil]); first | done | rfl | (simp only [List.length_drop, List.length_take]; rfl)) ?_; (with_reducible refine (order_Sort.calls 2 _ _ y112 t115 t116 _ ?side1 ?side2 A2.out).mono ?_); (case side1 => repeat (first | exact (Kd.R_reads' HO114.out).2.2 | (with_reducible refine Kd.C_alloc ?_ _) | (with_reducible refine Kd.C_drewN ?_ _) | (with_reducible refine Kd.C_drew ?_))); (case side2 => exact (Kd.R_reads' HO114.out).2.1); rintro e w65 ⟨v117, rfl, ho0, hb⟩; refine ⟨_, rfl, ?_⟩; have n0_ := Aside0.mk (Kd.R_below (by (with_reducible repeat (first | apply Kd.R_alloc | apply Kd.R_drewN | apply Kd.R_drew)); exact HO107.out) hb); have n1_ := Aside0.mk (Kd.R_elder' (by (with_reducible repeat (first | apply Kd.R_alloc | apply Kd.R_drewN | apply Kd.R_drew)); exact HO111.out) (Kd.R_base ho0) hb); have n2_ := Aside0.mk (Kd.R_below (by (with_reducible repeat (first | apply Kd.R_alloc | apply Kd.R_drewN | apply Kd.R_drew)); exact HO114.out) hb); have n3_ := Aside0.mk (Kd.R_lower (Kd.R_new' ho0 (Kd.R_lt (by (with_reducible repeat (first | apply Kd.R_alloc | apply Kd.R_drewN | apply Kd.R_drew)); exact HO111.out))) (below_size (by repeat (first | (with_reducible first | exact HB.out | apply below_alloc | apply pw_below_drewN | apply below_drew1) | exact HB.out)))); have n4_ := Aside0.mk (below_step (by repeat (first | (with_reducible first | exact HB.out | apply below_alloc | apply pw_below_drewN | apply below_drew1) | exact HB.out)) hb); clear HO107; clear HO111; clear HO114; clear HB; have HO107 := n0_; have HO111 := n1_; have HO114 := n2_; have HO118 := n3_; have HB := n4_; clear n0_ n1_ n2_ n3_ n4_; (try clear hb); (try clear hb2); (try clear hk); (try clear hi); (try clear ho0)) | ((with_reducible refine gate_dst (N := 24) rfl ?_); (try (refine gate_guard (by rfl) ?_; dsimp only)); refine Kd.R_lit k68 _ 68 ?hg (N := 24) ?hd (xs := ([(⟨0, 2⟩ : S68)] : List (S68))) (inner := [.int .i64 0, .int .i64 2]) (ok := fun _ => True) (okp := fun _ => True) ?hr ?hp (fun _ hk => hk) trivial (Below.refl _ _) (Nat.le_refl _) (by simp) ?_; (case hd => rfl); (case hg => rfl); (case hr => first | (go_simp; done) | (go_simp; rfl)); (case hp => exact (Reps.c2 (show Kd.M k68 _ _ _ (⟨0, 2⟩ : S68) [.int .i64 0, .int .i64 2] from (k68_mkM _ _ _ (⟨0, 2⟩ : S68) )) (Reps.none _ _))); intro v120 w66 ho67 hb hg_ hnew_; clear hg_ hnew_; (first | rw [← Ny119.out] at ho67 | (simp only [Int.reduceToNat] at ho67; rw [← Ny119.out] at ho67)); have n0_ := Aside0.mk (Kd.R_elder' (by (with_reducible repeat (first | apply Kd.R_alloc | apply Kd.R_drewN | apply Kd.R_drew)); exact HO107.out) (Kd.R_base ho67) hb); have n1_ := Aside0.mk (Kd.R_below (by (with_reducible repeat (first | apply Kd.R_alloc | apply Kd.R_drewN | apply Kd.R_drew)); exact HO111.out) hb); have n2_ := Aside0.mk (Kd.R_elder' (by (with_reducible repeat (first | apply Kd.R_alloc | apply Kd.R_drewN | apply Kd.R_drew)); exact HO114.out) (Kd.R_base ho67) hb); have n3_ := Aside0.mk (Kd.R_below (by (with_reducible repeat (first | apply Kd.R_alloc | apply Kd.R_drewN | apply Kd.R_drew)); exact HO118.out) hb); have n4_ := Aside0.mk (Kd.R_lower (Kd.R_new' (Kd.R_new' ho67 (Kd.R_lt (by (with_reducible repeat (first | apply Kd.R_alloc | apply Kd.R_drewN | apply Kd.R_drew)); exact HO107.out))) (Kd.R_lt (by (with_reducible repeat (first | apply Kd.R_alloc | apply Kd.R_drewN | apply Kd.R_drew)); exact HO114.out))) (below_size (by repeat (first | (with_reducible first | exact HB.out | apply below_alloc | apply pw_below_drewN | apply below_drew1) | exact HB.out)))); have n5_ := Aside0.mk (below_step (by repeat (first | (with_reducible first | exact HB.out | apply below_alloc | apply pw_below_drewN | apply below_drew1) | exact HB.out)) hb); clear HO107; clear HO111; clear HO114; clear HO118; clear HB; have HO107 := n0_; have HO111 := n1_; have HO114 := n2_; have HO118 := n3_; have HO121 := n4_; have HB := n5_; clear n0_ n1_ n2_ n3_ n4_ n5_; clear hb ho67; obtain ⟨Ao68, co68, eo68⟩ := Kd.R_slice HO121.out; subst eo68) | ((with_reducible refine gate_callee (f := 14) rfl ?_); refine goesL_ (some 25) rfl rfl Try.func14 (by kernel_rfl) rfl #[.int .i64 2, .slice Ao68 y119.length co68] rfl (by (try simp only [List.map_toArray, List.map_cons, List.map_nil]); first | done | rfl | (simp only [List.length_drop, List.length_take]; rfl)) ?_; (with_reducible refine (order_Sort.calls 2 _ _ y119 t122 t123 _ ?side1 ?side2 A3.out).mono ?_); (case side1 => repeat (first | exact (Kd.R_reads' HO121.out).2.2 | (with_reducible refine Kd.C_alloc ?_ _) | (with_reducible refine Kd.C_drewN ?_ _) | (with_reducible refine Kd.C_drew ?_))); (case side2 => exact (Kd.R_reads' HO121.out).2.1); rintro e w69 ⟨v124, rfl, ho0, hb⟩; refine ⟨_, rfl, ?_⟩; have n0_ := Aside0.mk (Kd.R_below (by (with_reducible repeat (first | apply Kd.R_alloc | apply Kd.R_drewN | apply Kd.R_drew)); exact HO107.out) hb); have n1_ := Aside0.mk (Kd.R_elder' (by (with_reducible repeat (first | apply Kd.R_alloc | apply Kd.R_drewN | apply Kd.R_drew)); exact HO111.out) (Kd.R_base ho0) hb); have n2_ := Aside0.mk (Kd.R_below (by (with_reducible repeat (first | apply Kd.R_alloc | apply Kd.R_drewN | apply Kd.R_drew)); exact HO114.out) hb); have n3_ := Aside0.mk (Kd.R_elder' (by (with_reducible repeat (first | apply Kd.R_alloc | apply Kd.R_drewN | apply Kd.R_drew)); exact HO118.out) (Kd.R_base ho0) hb); have n4_ := Aside0.mk (Kd.R_below (by (with_reducible repeat (first | apply Kd.R_alloc | apply Kd.R_drewN | apply Kd.R_drew)); exact HO121.out) hb); have n5_ := Aside0.mk (Kd.R_lower (Kd.R_new' (Kd.R_new' ho0 (Kd.R_lt (by (with_reducible repeat (first | apply Kd.R_alloc | apply Kd.R_drewN | apply Kd.R_drew)); exact HO111.out))) (Kd.R_lt (by (with_reducible repeat (first | apply Kd.R_alloc | apply Kd.R_drewN | apply Kd.R_drew)); exact HO118.out))) (below_size (by repeat (first | (with_reducible first | exact HB.out | apply below_alloc | apply pw_below_drewN | apply below_drew1) | exact HB.out)))); have n6_ := Aside0.mk (below_step (by repeat (first | (with_reducible first | exact HB.out | apply below_alloc | apply pw_below_drewN | apply below_drew1) | exact HB.out)) hb); clear HO107; clear HO111; clear HO114; clear HO118; clear HO121; clear HB; have HO107 := n0_; have HO111 := n1_; have HO114 := n2_; have HO118 := n3_; have HO121 := n4_; have HO125 := n5_; have HB := n6_; clear n0_ n1_ n2_ n3_ n4_ n5_ n6_; (try clear hb); (try clear hb2); (try clear hk); (try clear hi); (try clear ho0)) | ((with_reducible refine gate_callee (f := 14) rfl ?_); refine goesL_ (some 29) rfl rfl Try.func14 (by kernel_rfl) rfl #[.int .i64 0, .slice none 0 0] rfl (by (try simp only [List.map_toArray, List.map_cons, List.map_nil]); first | done | rfl | (simp only [List.length_drop, List.length_take]; rfl)) ?_; (refine (order_Sort.calls 0 _ _ ([] : List (S68)) t126 t127 _ ?side1 ?side2 A4.out).mono ?_); (case side1 => exact Kd.C_nil _ _); (case side2 => exact Nat.le_refl _); rintro e w70 ⟨v128, rfl, ho0, hb⟩; refine ⟨_, rfl, ?_⟩; have n0_ := Aside0.mk (Kd.R_below (by (with_reducible repeat (first | apply Kd.R_alloc | apply Kd.R_drewN | apply Kd.R_drew)); exact HO107.out) hb); have n1_ := Aside0.mk (Kd.R_elder' (by (with_reducible repeat (first | apply Kd.R_alloc | apply Kd.R_drewN | apply Kd.R_drew)); exact HO111.out) (Kd.R_base ho0) hb); have n2_ := Aside0.mk (Kd.R_below (by (with_reducible repeat (first | apply Kd.R_alloc | apply Kd.R_drewN | apply Kd.R_drew)); exact HO114.out) hb); have n3_ := Aside0.mk (Kd.R_elder' (by (with_reducible repeat (first | apply Kd.R_alloc | apply Kd.R_drewN | apply Kd.R_drew)); exact HO118.out) (Kd.R_base ho0) hb); have n4_ := Aside0.mk (Kd.R_below (by (with_reducible repeat (first | apply Kd.R_alloc | apply Kd.R_drewN | apply Kd.R_drew)); exact HO121.out) hb); have n5_ := Aside0.mk (Kd.R_elder' (by (with_reducible repeat (first | apply Kd.R_alloc | apply Kd.R_drewN | apply Kd.R_drew)); exact HO125.out) (Kd.R_base ho0) hb); have n6_ := Aside0.mk (Kd.R_lower (Kd.R_new' (Kd.R_new' (Kd.R_new' ho0 (Kd.R_lt (by (with_reducible repeat (first | apply Kd.R_alloc | apply Kd.R_drewN | apply Kd.R_drew)); exact HO111.out))) (Kd.R_lt (by (with_reducible repeat (first | apply Kd.R_alloc | apply Kd.R_drewN | apply Kd.R_drew)); exact HO118.out))) (Kd.R_lt (by (with_reducible repeat (first | apply Kd.R_alloc | apply Kd.R_drewN | apply Kd.R_drew)); exact HO125.out))) (below_size (by repeat (first | (with_reducible first | exact HB.out | apply below_alloc | apply pw_below_drewN | apply below_drew1) | exact HB.out)))); have n7_ := Aside0.mk (below_step (by repeat (first | (with_reducible first | exact HB.out | apply below_alloc | apply pw_below_drewN | apply below_drew1) | exact HB.out)) hb); clear HO107; clear HO111; clear HO114; clear HO118; clear HO121; clear HO125; clear HB; have HO107 := n0_; have HO111 := n1_; have HO114 := n2_; have HO118 := n3_; have HO121 := n4_; have HO125 := n5_; have HO129 := n6_; have HB := n7_; clear n0_ n1_ n2_ n3_ n4_ n5_ n6_ n7_; (try clear hb); (try clear hb2); (try clear hk); (try clear hi); (try clear ho0)) | ((with_reducible refine gate_dst (N := 33) rfl ?_); (try (refine gate_guard (by rfl) ?_; dsimp only)); refine Kd.R_lit (Kd.int .i64) _ 3 ?hg (N := 33) ?hd (xs := ([1, 2, 0] : List Int)) (inner := [.int .i64 1, .int .i64 2, .int .i64 0]) (ok := fun _ => True) (okp := fun _ => True) ?hr ?hp (fun _ hk => hk) trivial (Below.refl _ _) (Nat.le_refl _) (by simp) ?_; (case hd => rfl); (case hg => rfl); (case hr => first | (go_simp; done) | (go_simp; rfl)); (case hp => exact (Reps.one (show Kd.M (Kd.int .i64) _ _ _ 1 [.int .i64 1] from rfl) (Reps.one (show Kd.M (Kd.int .i64) _ _ _ 2 [.int .i64 2] from rfl) (Reps.one (show Kd.M (Kd.int .i64) _ _ _ 0 [.int .i64 0] from rfl) (Reps.none _ _))))); intro v131 w71 ho72 hb hg_ hnew_; clear hg_ hnew_; (first | rw [← Ny130.out] at ho72 | (simp only [Int.reduceToNat] at ho72; rw [← Ny130.out] at ho72)); have n0_ := Aside0.mk (Kd.R_below (by (with_reducible repeat (first | apply Kd.R_alloc | apply Kd.R_drewN | apply Kd.R_drew)); exact HO107.out) hb); have n1_ := Aside0.mk (Kd.R_elder' (by (with_reducible repeat (first | apply Kd.R_alloc | apply Kd.R_drewN | apply Kd.R_drew)); exact HO111.out) (Kd.R_base ho72) hb); have n2_ := Aside0.mk (Kd.R_below (by (with_reducible repeat (first | apply Kd.R_alloc | apply Kd.R_drewN | apply Kd.R_drew)); exact HO114.out) hb); have n3_ := Aside0.mk (Kd.R_elder' (by (with_reducible repeat (first | apply Kd.R_alloc | apply Kd.R_drewN | apply Kd.R_drew)); exact HO118.out) (Kd.R_base ho72) hb); have n4_ := Aside0.mk (Kd.R_below (by (with_reducible repeat (first | apply Kd.R_alloc | apply Kd.R_drewN | apply Kd.R_drew)); exact HO121.out) hb); have n5_ := Aside0.mk (Kd.R_elder' (by (with_reducible repeat (first | apply Kd.R_alloc | apply Kd.R_drewN | apply Kd.R_drew)); exact HO125.out) (Kd.R_base ho72) hb); have n6_ := Aside0.mk (Kd.R_elder' (by (with_reducible repeat (first | apply Kd.R_alloc | apply Kd.R_drewN | apply Kd.R_drew)); exact HO129.out) (Kd.R_base ho72) hb); have n7_ := Aside0.mk (Kd.R_lower (Kd.R_new' (Kd.R_new' (Kd.R_new' (Kd.R_new' ho72 (Kd.R_lt (by (with_reducible repeat (first | apply Kd.R_alloc | apply Kd.R_drewN | apply Kd.R_drew)); exact HO111.out))) (Kd.R_lt (by (with_reducible repeat (first | apply Kd.R_alloc | apply Kd.R_drewN | apply Kd.R_drew)); exact HO118.out))) (Kd.R_lt (by (with_reducible repeat (first | apply Kd.R_alloc | apply Kd.R_drewN | apply Kd.R_drew)); exact HO125.out))) (Kd.R_lt (by (with_reducible repeat (first | apply Kd.R_alloc | apply Kd.R_drewN | apply Kd.R_drew)); exact HO129.out))) (below_size (by repeat (first | (with_reducible first | exact HB.out | apply below_alloc | apply pw_below_drewN | apply below_drew1) | exact HB.out)))); have n8_ := Aside0.mk (below_step (by repeat (first | (with_reducible first | exact HB.out | apply below_alloc | apply pw_below_drewN | apply below_drew1) | exact HB.out)) hb); clear HO107; clear HO111; clear HO114; clear HO118; clear HO121; clear HO125; clear HO129; clear HB; have HO107 := n0_; have HO111 := n1_; have HO114 := n2_; have HO118 := n3_; have HO121 := n4_; have HO125 := n5_; have HO129 := n6_; have HO132 := n7_; have HB := n8_; clear n0_ n1_ n2_ n3_ n4_ n5_ n6_ n7_ n8_; clear hb ho72; obtain ⟨Ao73, co73, eo73⟩ := Kd.R_slice HO111.out; subst eo73; obtain ⟨Ao74, co74, eo74⟩ := Kd.R_slice HO132.out; subst eo74) | ((with_reducible refine gate_callee (f := 17) rfl ?_); refine goesL_ (some 34) rfl rfl Try.func17 (by kernel_rfl) rfl #[.slice Ao73 t108.length co73, .slice Ao74 y130.length co74] rfl (by (try simp only [List.map_toArray, List.map_cons, List.map_nil]); first | done | rfl | (simp only [List.length_drop, List.length_take]; rfl)) ?_; (with_reducible refine (arlinkref04_Numbers.calls k _ _ t108 _ _ y130 true _ ?side1 ?side2 ?side3 ?side4 A5.out).mono ?_); (case side1 => repeat (first | exact (Kd.R_reads' HO111.out).2.2 | (with_reducible refine Kd.C_alloc ?_ _) | (with_reducible refine Kd.C_drewN ?_ _) | (with_reducible refine Kd.C_drew ?_))); (case side2 => exact (Kd.R_reads' HO111.out).2.1); (case side3 => repeat (first | exact (Kd.R_reads' HO132.out).2.2 | (with_reducible refine Kd.C_alloc ?_ _) | (with_reducible refine Kd.C_drewN ?_ _) | (with_reducible refine Kd.C_drew ?_))); (case side4 => exact (Kd.R_reads' HO132.out).2.1); rintro e w' ⟨rfl, ⟨nd, rfl⟩⟩; refine ⟨_, rfl, ?_⟩; obtain ⟨Ao75, co75, eo75⟩ := Kd.R_slice HO129.out; subst eo75))
      go_ret
      exact ⟨by first | rfl | (simp [errW_none, errW_some] <;> rfl) | (simp [*, errW_none, errW_some] <;> rfl), by repeat (first | (with_reducible first | exact HB.out | apply below_alloc | apply pw_below_drewN | apply below_drew1) | exact HB.out)⟩
    ·rw [if_neg c9] at H
     have c9b0 : (t123 == 13) = false := beq_eq_false_iff_ne.mpr c9
     have c9b1 : (t123 != 13) = true := bne_iff_ne.mpr c9
     obtain rfl := Option.some.inj H
     go_enter Try.func13, Try.ntmps13
     go_wp2_with (first | ((with_reducible refine gate_dst (N := 11) rfl ?_); (try (refine gate_guard (by rfl) ?_; dsimp only)); refine Kd.R_lit k68 _ 68 ?hg (N := 11) ?hd (xs := ([(⟨2, 0⟩ : S68)] : List (S68))) (inner := [.int .i64 2, .int .i64 0]) (ok := fun _ => True) (okp := fun _ => True) ?hr ?hp (fun _ hk => hk) trivial (Below.refl _ _) (Nat.le_refl _) (by simp) ?_; (case hd => rfl); (case hg => rfl); (case hr => first | (go_simp; done) | (go_simp; rfl)); (case hp => exact (Reps.c2 (show Kd.M k68 _ _ _ (⟨2, 0⟩ : S68) [.int .i64 2, .int .i64 0] from (k68_mkM _ _ _ (⟨2, 0⟩ : S68) )) (Reps.none _ _))); intro v106 w76 ho77 hb hg_ hnew_; clear hg_ hnew_; (first | rw [← Ny105.out] at ho77 | (simp only [Int.reduceToNat] at ho77; rw [← Ny105.out] at ho77)); have n0_ := Aside0.mk (Kd.R_lower ho77 (below_size (by repeat (first | (with_reducible first | exact HB.out | apply below_alloc | apply pw_below_drewN | apply below_drew1) | exact HB.out)))); have n1_ := Aside0.mk (below_step (by repeat (first | (with_reducible first | exact HB.out | apply below_alloc | apply pw_below_drewN | apply below_drew1) | exact HB.out)) hb); clear HB; have HO107 := n0_; have HB := n1_; clear n0_ n1_; clear hb ho77; obtain ⟨Ao78, co78, eo78⟩ := Kd.R_slice HO107.out; subst eo78) | ((with_reducible refine gate_callee (f := 14) rfl ?_); refine goesL_ (some 12) rfl rfl Try.func14 (by kernel_rfl) rfl #[.int .i64 3, .slice Ao78 y105.length co78] rfl (by (try simp only [List.map_toArray, List.map_cons, List.map_nil]); first | done | rfl | (simp only [List.length_drop, List.length_take]; rfl)) ?_; (with_reducible refine (order_Sort.calls 3 _ _ y105 t108 t109 _ ?side1 ?side2 A1.out).mono ?_); (case side1 => repeat (first | exact (Kd.R_reads' HO107.out).2.2 | (with_reducible refine Kd.C_alloc ?_ _) | (with_reducible refine Kd.C_drewN ?_ _) | (with_reducible refine Kd.C_drew ?_))); (case side2 => exact (Kd.R_reads' HO107.out).2.1); rintro e w79 ⟨v110, rfl, ho0, hb⟩; refine ⟨_, rfl, ?_⟩; have n0_ := Aside0.mk (Kd.R_below (by (with_reducible repeat (first | apply Kd.R_alloc | apply Kd.R_drewN | apply Kd.R_drew)); exact HO107.out) hb); have n1_ := Aside0.mk (Kd.R_lower ho0 (below_size (by repeat (first | (with_reducible first | exact HB.out | apply below_alloc | apply pw_below_drewN | apply below_drew1) | exact HB.out)))); have n2_ := Aside0.mk (below_step (by repeat (first | (with_reducible first | exact HB.out | apply below_alloc | apply pw_below_drewN | apply below_drew1) | exact HB.out)) hb); clear HO107; clear HB; have HO107 := n0_; have HO111 := n1_; have HB := n2_; clear n0_ n1_ n2_; (try clear hb); (try clear hb2); (try clear hk); (try clear hi); (try clear ho0)) | ((with_reducible refine gate_dst (N := 18) rfl ?_); (try (refine gate_guard (by rfl) ?_; dsimp only)); refine Kd.R_lit k68 _ 68 ?hg (N := 18) ?hd (xs := ([(⟨0, 1⟩ : S68), (⟨1, 0⟩ : S68)] : List (S68))) (inner := [.int .i64 0, .int .i64 1, .int .i64 1, .int .i64 0]) (ok := fun _ => True) (okp := fun _ => True) ?hr ?hp (fun _ hk => hk) trivial (Below.refl _ _) (Nat.le_refl _) (by simp) ?_; (case hd => rfl); (case hg => rfl); (case hr => first | (go_simp; done) | (go_simp; rfl)); (case hp => exact (Reps.c2 (show Kd.M k68 _ _ _ (⟨0, 1⟩ : S68) [.int .i64 0, .int .i64 1] from (k68_mkM _ _ _ (⟨0, 1⟩ : S68) )) (Reps.c2 (show Kd.M k68 _ _ _ (⟨1, 0⟩ : S68) [.int .i64 1, .int .i64 0] from (k68_mkM _ _ _ (⟨1, 0⟩ : S68) )) (Reps.none _ _)))); intro v113 w80 ho81 hb hg_ hnew_; clear hg_ hnew_; (first | rw [← Ny112.out] at ho81 | (simp only [Int.reduceToNat] at ho81; rw [← Ny112.out] at ho81)); have n0_ := Aside0.mk (Kd.R_elder' (by (with_reducible repeat (first | apply Kd.R_alloc | apply Kd.R_drewN | apply Kd.R_drew)); exact HO107.out) (Kd.R_base ho81) hb); have n1_ := Aside0.mk (Kd.R_below (by (with_reducible repeat (first | apply Kd.R_alloc | apply Kd.R_drewN | apply Kd.R_drew)); exact HO111.out) hb); have n2_ := Aside0.mk (Kd.R_lower (Kd.R_new' ho81 (Kd.R_lt (by (with_reducible repeat (first | apply Kd.R_alloc | apply Kd.R_drewN | apply Kd.R_drew)); exact HO107.out))) (below_size (by repeat (first | (with_reducible first | exact HB.out | apply below_alloc | apply pw_below_drewN | apply below_drew1) | exact HB.out)))); have n3_ := Aside0.mk (below_step (by repeat (first | (with_reducible first | exact HB.out | apply below_alloc | apply pw_below_drewN | apply below_drew1) | exact HB.out)) hb); clear HO107; clear HO111; clear HB; have HO107 := n0_; have HO111 := n1_; have HO114 := n2_; have HB := n3_; clear n0_ n1_ n2_ n3_; clear hb ho81; obtain ⟨Ao82, co82, eo82⟩ := Kd.R_slice HO114.out; subst eo82) | ((with_reducible refine gate_callee (f := 14) rfl ?_); refine goesL_ (some 19) rfl rfl Try.func14 (by kernel_rfl) rfl #[.int .i64 2, .slice Ao82 y112.length co82] rfl (by (try simp only [List.map_toArray, List.map_cons, List.map_nil]); first | done | rfl | (simp only [List.length_drop, List.length_take]; rfl)) ?_; (with_reducible refine (order_Sort.calls 2 _ _ y112 t115 t116 _ ?side1 ?side2 A2.out).mono ?_); (case side1 => repeat (first | exact (Kd.R_reads' HO114.out).2.2 | (with_reducible refine Kd.C_alloc ?_ _) | (with_reducible refine Kd.C_drewN ?_ _) | (with_reducible refine Kd.C_drew ?_))); (case side2 => exact (Kd.R_reads' HO114.out).2.1); rintro e w83 ⟨v117, rfl, ho0, hb⟩; refine ⟨_, rfl, ?_⟩; have n0_ := Aside0.mk (Kd.R_below (by (with_reducible repeat (first | apply Kd.R_alloc | apply Kd.R_drewN | apply Kd.R_drew)); exact HO107.out) hb); have n1_ := Aside0.mk (Kd.R_elder' (by (with_reducible repeat (first | apply Kd.R_alloc | apply Kd.R_drewN | apply Kd.R_drew)); exact HO111.out) (Kd.R_base ho0) hb); have n2_ := Aside0.mk (Kd.R_below (by (with_reducible repeat (first | apply Kd.R_alloc | apply Kd.R_drewN | apply Kd.R_drew)); exact HO114.out) hb); have n3_ := Aside0.mk (Kd.R_lower (Kd.R_new' ho0 (Kd.R_lt (by (with_reducible repeat (first | apply Kd.R_alloc | apply Kd.R_drewN | apply Kd.R_drew)); exact HO111.out))) (below_size (by repeat (first | (with_reducible first | exact HB.out | apply below_alloc | apply pw_below_drewN | apply below_drew1) | exact HB.out)))); have n4_ := Aside0.mk (below_step (by repeat (first | (with_reducible first | exact HB.out | apply below_alloc | apply pw_below_drewN | apply below_drew1) | exact HB.out)) hb); clear HO107; clear HO111; clear HO114; clear HB; have HO107 := n0_; have HO111 := n1_; have HO114 := n2_; have HO118 := n3_; have HB := n4_; clear n0_ n1_ n2_ n3_ n4_; (try clear hb); (try clear hb2); (try clear hk); (try clear hi); (try clear ho0)) | ((with_reducible refine gate_dst (N := 24) rfl ?_); (try (refine gate_guard (by rfl) ?_; dsimp only)); refine Kd.R_lit k68 _ 68 ?hg (N := 24) ?hd (xs := ([(⟨0, 2⟩ : S68)] : List (S68))) (inner := [.int .i64 0, .int .i64 2]) (ok := fun _ => True) (okp := fun _ => True) ?hr ?hp (fun _ hk => hk) trivial (Below.refl _ _) (Nat.le_refl _) (by simp) ?_; (case hd => rfl); (case hg => rfl); (case hr => first | (go_simp; done) | (go_simp; rfl)); (case hp => exact (Reps.c2 (show Kd.M k68 _ _ _ (⟨0, 2⟩ : S68) [.int .i64 0, .int .i64 2] from (k68_mkM _ _ _ (⟨0, 2⟩ : S68) )) (Reps.none _ _))); intro v120 w84 ho85 hb hg_ hnew_; clear hg_ hnew_; (first | rw [← Ny119.out] at ho85 | (simp only [Int.reduceToNat] at ho85; rw [← Ny119.out] at ho85)); have n0_ := Aside0.mk (Kd.R_elder' (by (with_reducible repeat (first | apply Kd.R_alloc | apply Kd.R_drewN | apply Kd.R_drew)); exact HO107.out) (Kd.R_base ho85) hb); have n1_ := Aside0.mk (Kd.R_below (by (with_reducible repeat (first | apply Kd.R_alloc | apply Kd.R_drewN | apply Kd.R_drew)); exact HO111.out) hb); have n2_ := Aside0.mk (Kd.R_elder' (by (with_reducible repeat (first | apply Kd.R_alloc | apply Kd.R_drewN | apply Kd.R_drew)); exact HO114.out) (Kd.R_base ho85) hb); have n3_ := Aside0.mk (Kd.R_below (by (with_reducible repeat (first | apply Kd.R_alloc | apply Kd.R_drewN | apply Kd.R_drew)); exact HO118.out) hb); have n4_ := Aside0.mk (Kd.R_lower (Kd.R_new' (Kd.R_new' ho85 (Kd.R_lt (by (with_reducible repeat (first | apply Kd.R_alloc | apply Kd.R_drewN | apply Kd.R_drew)); exact HO107.out))) (Kd.R_lt (by (with_reducible repeat (first | apply Kd.R_alloc | apply Kd.R_drewN | apply Kd.R_drew)); exact HO114.out))) (below_size (by repeat (first | (with_reducible first | exact HB.out | apply below_alloc | apply pw_below_drewN | apply below_drew1) | exact HB.out)))); have n5_ := Aside0.mk (below_step (by repeat (first | (with_reducible first | exact HB.out | apply below_alloc | apply pw_below_drewN | apply below_drew1) | exact HB.out)) hb); clear HO107; clear HO111; clear HO114; clear HO118; clear HB; have HO107 := n0_; have HO111 := n1_; have HO114 := n2_; have HO118 := n3_; have HO121 := n4_; have HB := n5_; clear n0_ n1_ n2_ n3_ n4_ n5_; clear hb ho85; obtain ⟨Ao86, co86, eo86⟩ := Kd.R_slice HO121.out; subst eo86) | ((with_reducible refine gate_callee (f := 14) rfl ?_); refine goesL_ (some 25) rfl rfl Try.func14 (by kernel_rfl) rfl #[.int .i64 2, .slice Ao86 y119.length co86] rfl (by (try simp only [List.map_toArray, List.map_cons, List.map_nil]); first | done | rfl | (simp only [List.length_drop, List.length_take]; rfl)) ?_; (with_reducible refine (order_Sort.calls 2 _ _ y119 t122 t123 _ ?side1 ?side2 A3.out).mono ?_); (case side1 => repeat (first | exact (Kd.R_reads' HO121.out).2.2 | (with_reducible refine Kd.C_alloc ?_ _) | (with_reducible refine Kd.C_drewN ?_ _) | (with_reducible refine Kd.C_drew ?_))); (case side2 => exact (Kd.R_reads' HO121.out).2.1); rintro e w87 ⟨v124, rfl, ho0, hb⟩; refine ⟨_, rfl, ?_⟩; have n0_ := Aside0.mk (Kd.R_below (by (with_reducible repeat (first | apply Kd.R_alloc | apply Kd.R_drewN | apply Kd.R_drew)); exact HO107.out) hb); have n1_ := Aside0.mk (Kd.R_elder' (by (with_reducible repeat (first | apply Kd.R_alloc | apply Kd.R_drewN | apply Kd.R_drew)); exact HO111.out) (Kd.R_base ho0) hb); have n2_ := Aside0.mk (Kd.R_below (by (with_reducible repeat (first | apply Kd.R_alloc | apply Kd.R_drewN | apply Kd.R_drew)); exact HO114.out) hb); have n3_ := Aside0.mk (Kd.R_elder' (by (with_reducible repeat (first | apply Kd.R_alloc | apply Kd.R_drewN | apply Kd.R_drew)); exact HO118.out) (Kd.R_base ho0) hb); have n4_ := Aside0.mk (Kd.R_below (by (with_reducible repeat (first | apply Kd.R_alloc | apply Kd.R_drewN | apply Kd.R_drew)); exact HO121.out) hb); have n5_ := Aside0.mk (Kd.R_lower (Kd.R_new' (Kd.R_new' ho0 (Kd.R_lt (by (with_reducible repeat (first | apply Kd.R_alloc | apply Kd.R_drewN | apply Kd.R_drew)); exact HO111.out))) (Kd.R_lt (by (with_reducible repeat (first | apply Kd.R_alloc | apply Kd.R_drewN | apply Kd.R_drew)); exact HO118.out))) (below_size (by repeat (first | (with_reducible first | exact HB.out | apply below_alloc | apply pw_below_drewN | apply below_drew1) | exact HB.out)))); have n6_ := Aside0.mk (below_step (by repeat (first | (with_reducible first | exact HB.out | apply below_alloc | apply pw_below_drewN | apply below_drew1) | exact HB.out)) hb); clear HO107; clear HO111; clear HO114; clear HO118; clear HO121; clear HB; have HO107 := n0_; have HO111 := n1_; have HO114 := n2_; have HO118 := n3_; have HO121 := n4_; have HO125 := n5_; have HB := n6_; clear n0_ n1_ n2_ n3_ n4_ n5_ n6_; (try clear hb); (try clear hb2); (try clear hk); (try clear hi); (try clear ho0)) | ((with_reducible refine gate_callee (f := 14) rfl ?_); refine goesL_ (some 29) rfl rfl Try.func14 (by kernel_rfl) rfl #[.int .i64 0, .slice none 0 0] rfl (by (try simp only [List.map_toArray, List.map_cons, List.map_nil]); first | done | rfl | (simp only [List.length_drop, List.length_take]; rfl)) ?_; (refine (order_Sort.calls 0 _ _ ([] : List (S68)) t126 t127 _ ?side1 ?side2 A4.out).mono ?_); (case side1 => exact Kd.C_nil _ _); (case side2 => exact Nat.le_refl _); rintro e w88 ⟨v128, rfl, ho0, hb⟩; refine ⟨_, rfl, ?_⟩; have n0_ := Aside0.mk (Kd.R_below (by (with_reducible repeat (first | apply Kd.R_alloc | apply Kd.R_drewN | apply Kd.R_drew)); exact HO107.out) hb); have n1_ := Aside0.mk (Kd.R_elder' (by (with_reducible repeat (first | apply Kd.R_alloc | apply Kd.R_drewN | apply Kd.R_drew)); exact HO111.out) (Kd.R_base ho0) hb); have n2_ := Aside0.mk (Kd.R_below (by (with_reducible repeat (first | apply Kd.R_alloc | apply Kd.R_drewN | apply Kd.R_drew)); exact HO114.out) hb); have n3_ := Aside0.mk (Kd.R_elder' (by (with_reducible repeat (first | apply Kd.R_alloc | apply Kd.R_drewN | apply Kd.R_drew)); exact HO118.out) (Kd.R_base ho0) hb); have n4_ := Aside0.mk (Kd.R_below (by (with_reducible repeat (first | apply Kd.R_alloc | apply Kd.R_drewN | apply Kd.R_drew)); exact HO121.out) hb); have n5_ := Aside0.mk (Kd.R_elder' (by (with_reducible repeat (first | apply Kd.R_alloc | apply Kd.R_drewN | apply Kd.R_drew)); exact HO125.out) (Kd.R_base ho0) hb); have n6_ := Aside0.mk (Kd.R_lower (Kd.R_new' (Kd.R_new' (Kd.R_new' ho0 (Kd.R_lt (by (with_reducible repeat (first | apply Kd.R_alloc | apply Kd.R_drewN | apply Kd.R_drew)); exact HO111.out))) (Kd.R_lt (by (with_reducible repeat (first | apply Kd.R_alloc | apply Kd.R_drewN | apply Kd.R_drew)); exact HO118.out))) (Kd.R_lt (by (with_reducible repeat (first | apply Kd.R_alloc | apply Kd.R_drewN | apply Kd.R_drew)); exact HO125.out))) (below_size (by repeat (first | (with_reducible first | exact HB.out | apply below_alloc | apply pw_below_drewN | apply below_drew1) | exact HB.out)))); have n7_ := Aside0.mk (below_step (by repeat (first | (with_reducible first | exact HB.out | apply below_alloc | apply pw_below_drewN | apply below_drew1) | exact HB.out)) hb); clear HO107; clear HO111; clear HO114; clear HO118; clear HO121; clear HO125; clear HB; have HO107 := n0_; have HO111 := n1_; have HO114 := n2_; have HO118 := n3_; have HO121 := n4_; have HO125 := n5_; have HO129 := n6_; have HB := n7_; clear n0_ n1_ n2_ n3_ n4_ n5_ n6_ n7_; (try clear hb); (try clear hb2); (try clear hk); (try clear hi); (try clear ho0)) | ((with_reducible refine gate_dst (N := 33) rfl ?_); (try (refine gate_guard (by rfl) ?_; dsimp only)); refine Kd.R_lit (Kd.int .i64) _ 3 ?hg (N := 33) ?hd (xs := ([1, 2, 0] : List Int)) (inner := [.int .i64 1, .int .i64 2, .int .i64 0]) (ok := fun _ => True) (okp := fun _ => True) ?hr ?hp (fun _ hk => hk) trivial (Below.refl _ _) (Nat.le_refl _) (by simp) ?_; (case hd => rfl); (case hg => rfl); (case hr => first | (go_simp; done) | (go_simp; rfl)); (case hp => exact (Reps.one (show Kd.M (Kd.int .i64) _ _ _ 1 [.int .i64 1] from rfl) (Reps.one (show Kd.M (Kd.int .i64) _ _ _ 2 [.int .i64 2] from rfl) (Reps.one (show Kd.M (Kd.int .i64) _ _ _ 0 [.int .i64 0] from rfl) (Reps.none _ _))))); intro v131 w89 ho90 hb hg_ hnew_; clear hg_ hnew_; (first | rw [← Ny130.out] at ho90 | (simp only [Int.reduceToNat] at ho90; rw [← Ny130.out] at ho90)); have n0_ := Aside0.mk (Kd.R_below (by (with_reducible repeat (first | apply Kd.R_alloc | apply Kd.R_drewN | apply Kd.R_drew)); exact HO107.out) hb); have n1_ := Aside0.mk (Kd.R_elder' (by (with_reducible repeat (first | apply Kd.R_alloc | apply Kd.R_drewN | apply Kd.R_drew)); exact HO111.out) (Kd.R_base ho90) hb); have n2_ := Aside0.mk (Kd.R_below (by (with_reducible repeat (first | apply Kd.R_alloc | apply Kd.R_drewN | apply Kd.R_drew)); exact HO114.out) hb); have n3_ := Aside0.mk (Kd.R_elder' (by (with_reducible repeat (first | apply Kd.R_alloc | apply Kd.R_drewN | apply Kd.R_drew)); exact HO118.out) (Kd.R_base ho90) hb); have n4_ := Aside0.mk (Kd.R_below (by (with_reducible repeat (first | apply Kd.R_alloc | apply Kd.R_drewN | apply Kd.R_drew)); exact HO121.out) hb); have n5_ := Aside0.mk (Kd.R_elder' (by (with_reducible repeat (first | apply Kd.R_alloc | apply Kd.R_drewN | apply Kd.R_drew)); exact HO125.out) (Kd.R_base ho90) hb); have n6_ := Aside0.mk (Kd.R_elder' (by (with_reducible repeat (first | apply Kd.R_alloc | apply Kd.R_drewN | apply Kd.R_drew)); exact HO129.out) (Kd.R_base ho90) hb); have n7_ := Aside0.mk (Kd.R_lower (Kd.R_new' (Kd.R_new' (Kd.R_new' (Kd.R_new' ho90 (Kd.R_lt (by (with_reducible repeat (first | apply Kd.R_alloc | apply Kd.R_drewN | apply Kd.R_drew)); exact HO111.out))) (Kd.R_lt (by (with_reducible repeat (first | apply Kd.R_alloc | apply Kd.R_drewN | apply Kd.R_drew)); exact HO118.out))) (Kd.R_lt (by (with_reducible repeat (first | apply Kd.R_alloc | apply Kd.R_drewN | apply Kd.R_drew)); exact HO125.out))) (Kd.R_lt (by (with_reducible repeat (first | apply Kd.R_alloc | apply Kd.R_drewN | apply Kd.R_drew)); exact HO129.out))) (below_size (by repeat (first | (with_reducible first | exact HB.out | apply below_alloc | apply pw_below_drewN | apply below_drew1) | exact HB.out)))); have n8_ := Aside0.mk (below_step (by repeat (first | (with_reducible first | exact HB.out | apply below_alloc | apply pw_below_drewN | apply below_drew1) | exact HB.out)) hb); clear HO107; clear HO111; clear HO114; clear HO118; clear HO121; clear HO125; clear HO129; clear HB; have HO107 := n0_; have HO111 := n1_; have HO114 := n2_; have HO118 := n3_; have HO121 := n4_; have HO125 := n5_; have HO129 := n6_; have HO132 := n7_; have HB := n8_; clear n0_ n1_ n2_ n3_ n4_ n5_ n6_ n7_ n8_; clear hb ho90; obtain ⟨Ao91, co91, eo91⟩ := Kd.R_slice HO111.out; subst eo91; obtain ⟨Ao92, co92, eo92⟩ := Kd.R_slice HO132.out; subst eo92) | ((with_reducible refine gate_callee (f := 17) rfl ?_); refine goesL_ (some 34) rfl rfl Try.func17 (by kernel_rfl) rfl #[.slice Ao91 t108.length co91, .slice Ao92 y130.length co92] rfl (by (try simp only [List.map_toArray, List.map_cons, List.map_nil]); first | done | rfl | (simp only [List.length_drop, List.length_take]; rfl)) ?_; (with_reducible refine (arlinkref04_Numbers.calls k _ _ t108 _ _ y130 true _ ?side1 ?side2 ?side3 ?side4 A5.out).mono ?_); (case side1 => repeat (first | exact (Kd.R_reads' HO111.out).2.2 | (with_reducible refine Kd.C_alloc ?_ _) | (with_reducible refine Kd.C_drewN ?_ _) | (with_reducible refine Kd.C_drew ?_))); (case side2 => exact (Kd.R_reads' HO111.out).2.1); (case side3 => repeat (first | exact (Kd.R_reads' HO132.out).2.2 | (with_reducible refine Kd.C_alloc ?_ _) | (with_reducible refine Kd.C_drewN ?_ _) | (with_reducible refine Kd.C_drew ?_))); (case side4 => exact (Kd.R_reads' HO132.out).2.1); rintro e w' ⟨rfl, ⟨nd, rfl⟩⟩; refine ⟨_, rfl, ?_⟩))
     go_ret
     exact ⟨by first | rfl | (simp [errW_none, errW_some] <;> rfl) | (simp [*, errW_none, errW_some] <;> rfl), by repeat (first | (with_reducible first | exact HB.out | apply below_alloc | apply pw_below_drewN | apply below_drew1) | exact HB.out)⟩
   ·rw [if_neg c8] at H
    have c8b0 : (t116 == 18) = false := beq_eq_false_iff_ne.mpr c8
    have c8b1 : (t116 != 18) = true := bne_iff_ne.mpr c8
    obtain rfl := Option.some.inj H
    go_enter Try.func13, Try.ntmps13
    go_wp2_with (first | ((with_reducible refine gate_dst (N := 11) rfl ?_); (try (refine gate_guard (by rfl) ?_; dsimp only)); refine Kd.R_lit k68 _ 68 ?hg (N := 11) ?hd (xs := ([(⟨2, 0⟩ : S68)] : List (S68))) (inner := [.int .i64 2, .int .i64 0]) (ok := fun _ => True) (okp := fun _ => True) ?hr ?hp (fun _ hk => hk) trivial (Below.refl _ _) (Nat.le_refl _) (by simp) ?_; (case hd => rfl); (case hg => rfl); (case hr => first | (go_simp; done) | (go_simp; rfl)); (case hp => exact (Reps.c2 (show Kd.M k68 _ _ _ (⟨2, 0⟩ : S68) [.int .i64 2, .int .i64 0] from (k68_mkM _ _ _ (⟨2, 0⟩ : S68) )) (Reps.none _ _))); intro v106 w93 ho94 hb hg_ hnew_; clear hg_ hnew_; (first | rw [← Ny105.out] at ho94 | (simp only [Int.reduceToNat] at ho94; rw [← Ny105.out] at ho94)); have n0_ := Aside0.mk (Kd.R_lower ho94 (below_size (by repeat (first | (with_reducible first | exact HB.out | apply below_alloc | apply pw_below_drewN | apply below_drew1) | exact HB.out)))); have n1_ := Aside0.mk (below_step (by repeat (first | (with_reducible first | exact HB.out | apply below_alloc | apply pw_below_drewN | apply below_drew1) | exact HB.out)) hb); clear HB; have HO107 := n0_; have HB := n1_; clear n0_ n1_; clear hb ho94; obtain ⟨Ao95, co95, eo95⟩ := Kd.R_slice HO107.out; subst eo95) | ((with_reducible refine gate_callee (f := 14) rfl ?_); refine goesL_ (some 12) rfl rfl Try.func14 (by kernel_rfl) rfl #[.int .i64 3, .slice Ao95 y105.length co95] rfl (by (try simp only [List.map_toArray, List.map_cons, List.map_nil]); first | done | rfl | (simp only [List.length_drop, List.length_take]; rfl)) ?_; (with_reducible refine (order_Sort.calls 3 _ _ y105 t108 t109 _ ?side1 ?side2 A1.out).mono ?_); (case side1 => repeat (first | exact (Kd.R_reads' HO107.out).2.2 | (with_reducible refine Kd.C_alloc ?_ _) | (with_reducible refine Kd.C_drewN ?_ _) | (with_reducible refine Kd.C_drew ?_))); (case side2 => exact (Kd.R_reads' HO107.out).2.1); rintro e w96 ⟨v110, rfl, ho0, hb⟩; refine ⟨_, rfl, ?_⟩; have n0_ := Aside0.mk (Kd.R_below (by (with_reducible repeat (first | apply Kd.R_alloc | apply Kd.R_drewN | apply Kd.R_drew)); exact HO107.out) hb); have n1_ := Aside0.mk (Kd.R_lower ho0 (below_size (by repeat (first | (with_reducible first | exact HB.out | apply below_alloc | apply pw_below_drewN | apply below_drew1) | exact HB.out)))); have n2_ := Aside0.mk (below_step (by repeat (first | (with_reducible first | exact HB.out | apply below_alloc | apply pw_below_drewN | apply below_drew1) | exact HB.out)) hb); clear HO107; clear HB; have HO107 := n0_; have HO111 := n1_; have HB := n2_; clear n0_ n1_ n2_; (try clear hb); (try clear hb2); (try clear hk); (try clear hi); (try clear ho0)) | ((with_reducible refine gate_dst (N := 18) rfl ?_); (try (refine gate_guard (by rfl) ?_; dsimp only)); refine Kd.R_lit k68 _ 68 ?hg (N := 18) ?hd (xs := ([(⟨0, 1⟩ : S68), (⟨1, 0⟩ : S68)] : List (S68))) (inner := [.int .i64 0, .int .i64 1, .int .i64 1, .int .i64 0]) (ok := fun _ => True) (okp := fun _ => True) ?hr ?hp (fun _ hk => hk) trivial (Below.refl _ _) (Nat.le_refl _) (by simp) ?_; (case hd => rfl); (case hg => rfl); (case hr => first | (go_simp; done) | (go_simp; rfl)); (case hp => exact (Reps.c2 (show Kd.M k68 _ _ _ (⟨0, 1⟩ : S68) [.int .i64 0, .int .i64 1] from (k68_mkM _ _ _ (⟨0, 1⟩ : S68) )) (Reps.c2 (show Kd.M k68 _ _ _ (⟨1, 0⟩ : S68) [.int .i64 1, .int .i64 0] from (k68_mkM _ _ _ (⟨1, 0⟩ : S68) )) (Reps.none _ _)))); intro v113 w97 ho98 hb hg_ hnew_; clear hg_ hnew_; (first | rw [← Ny112.out] at ho98 | (simp only [Int.reduceToNat] at ho98; rw [← Ny112.out] at ho98)); have n0_ := Aside0.mk (Kd.R_elder' (by (with_reducible repeat (first | apply Kd.R_alloc | apply Kd.R_drewN | apply Kd.R_drew)); exact HO107.out) (Kd.R_base ho98) hb); have n1_ := Aside0.mk (Kd.R_below (by (with_reducible repeat (first | apply Kd.R_alloc | apply Kd.R_drewN | apply Kd.R_drew)); exact HO111.out) hb); have n2_ := Aside0.mk (Kd.R_lower (Kd.R_new' ho98 (Kd.R_lt (by (with_reducible repeat (first | apply Kd.R_alloc | apply Kd.R_drewN | apply Kd.R_drew)); exact HO107.out))) (below_size (by repeat (first | (with_reducible first | exact HB.out | apply below_alloc | apply pw_below_drewN | apply below_drew1) | exact HB.out)))); have n3_ := Aside0.mk (below_step (by repeat (first | (with_reducible first | exact HB.out | apply below_alloc | apply pw_below_drewN | apply below_drew1) | exact HB.out)) hb); clear HO107; clear HO111; clear HB; have HO107 := n0_; have HO111 := n1_; have HO114 := n2_; have HB := n3_; clear n0_ n1_ n2_ n3_; clear hb ho98; obtain ⟨Ao99, co99, eo99⟩ := Kd.R_slice HO114.out; subst eo99) | ((with_reducible refine gate_callee (f := 14) rfl ?_); refine goesL_ (some 19) rfl rfl Try.func14 (by kernel_rfl) rfl #[.int .i64 2, .slice Ao99 y112.length co99] rfl (by (try simp only [List.map_toArray, List.map_cons, List.map_nil]); first | done | rfl | (simp only [List.length_drop, List.length_take]; rfl)) ?_; (with_reducible refine (order_Sort.calls 2 _ _ y112 t115 t116 _ ?side1 ?side2 A2.out).mono ?_); (case side1 => repeat (first | exact (Kd.R_reads' HO114.out).2.2 | (with_reducible refine Kd.C_alloc ?_ _) | (with_reducible refine Kd.C_drewN ?_ _) | (with_reducible refine Kd.C_drew ?_))); (case side2 => exact (Kd.R_reads' HO114.out).2.1); rintro e w100 ⟨v117, rfl, ho0, hb⟩; refine ⟨_, rfl, ?_⟩; have n0_ := Aside0.mk (Kd.R_below (by (with_reducible repeat (first | apply Kd.R_alloc | apply Kd.R_drewN | apply Kd.R_drew)); exact HO107.out) hb); have n1_ := Aside0.mk (Kd.R_elder' (by (with_reducible repeat (first | apply Kd.R_alloc | apply Kd.R_drewN | apply Kd.R_drew)); exact HO111.out) (Kd.R_base ho0) hb); have n2_ := Aside0.mk (Kd.R_below (by (with_reducible repeat (first | apply Kd.R_alloc | apply Kd.R_drewN | apply Kd.R_drew)); exact HO114.out) hb); have n3_ := Aside0.mk (Kd.R_lower (Kd.R_new' ho0 (Kd.R_lt (by (with_reducible repeat (first | apply Kd.R_alloc | apply Kd.R_drewN | apply Kd.R_drew)); exact HO111.out))) (below_size (by repeat (first | (with_reducible first | exact HB.out | apply below_alloc | apply pw_below_drewN | apply below_drew1) | exact HB.out)))); have n4_ := Aside0.mk (below_step (by repeat (first | (with_reducible first | exact HB.out | apply below_alloc | apply pw_below_drewN | apply below_drew1) | exact HB.out)) hb); clear HO107; clear HO111; clear HO114; clear HB; have HO107 := n0_; have HO111 := n1_; have HO114 := n2_; have HO118 := n3_; have HB := n4_; clear n0_ n1_ n2_ n3_ n4_; (try clear hb); (try clear hb2); (try clear hk); (try clear hi); (try clear ho0)) | ((with_reducible refine gate_dst (N := 24) rfl ?_); (try (refine gate_guard (by rfl) ?_; dsimp only)); refine Kd.R_lit k68 _ 68 ?hg (N := 24) ?hd (xs := ([(⟨0, 2⟩ : S68)] : List (S68))) (inner := [.int .i64 0, .int .i64 2]) (ok := fun _ => True) (okp := fun _ => True) ?hr ?hp (fun _ hk => hk) trivial (Below.refl _ _) (Nat.le_refl _) (by simp) ?_; (case hd => rfl); (case hg => rfl); (case hr => first | (go_simp; done) | (go_simp; rfl)); (case hp => exact (Reps.c2 (show Kd.M k68 _ _ _ (⟨0, 2⟩ : S68) [.int .i64 0, .int .i64 2] from (k68_mkM _ _ _ (⟨0, 2⟩ : S68) )) (Reps.none _ _))); intro v120 w101 ho102 hb hg_ hnew_; clear hg_ hnew_; (first | rw [← Ny119.out] at ho102 | (simp only [Int.reduceToNat] at ho102; rw [← Ny119.out] at ho102)); have n0_ := Aside0.mk (Kd.R_elder' (by (with_reducible repeat (first | apply Kd.R_alloc | apply Kd.R_drewN | apply Kd.R_drew)); exact HO107.out) (Kd.R_base ho102) hb); have n1_ := Aside0.mk (Kd.R_below (by (with_reducible repeat (first | apply Kd.R_alloc | apply Kd.R_drewN | apply Kd.R_drew)); exact HO111.out) hb); have n2_ := Aside0.mk (Kd.R_elder' (by (with_reducible repeat (first | apply Kd.R_alloc | apply Kd.R_drewN | apply Kd.R_drew)); exact HO114.out) (Kd.R_base ho102) hb); have n3_ := Aside0.mk (Kd.R_below (by (with_reducible repeat (first | apply Kd.R_alloc | apply Kd.R_drewN | apply Kd.R_drew)); exact HO118.out) hb); have n4_ := Aside0.mk (Kd.R_lower (Kd.R_new' (Kd.R_new' ho102 (Kd.R_lt (by (with_reducible repeat (first | apply Kd.R_alloc | apply Kd.R_drewN | apply Kd.R_drew)); exact HO107.out))) (Kd.R_lt (by (with_reducible repeat (first | apply Kd.R_alloc | apply Kd.R_drewN | apply Kd.R_drew)); exact HO114.out))) (below_size (by repeat (first | (with_reducible first | exact HB.out | apply below_alloc | apply pw_below_drewN | apply below_drew1) | exact HB.out)))); have n5_ := Aside0.mk (below_step (by repeat (first | (with_reducible first | exact HB.out | apply below_alloc | apply pw_below_drewN | apply below_drew1) | exact HB.out)) hb); clear HO107; clear HO111; clear HO114; clear HO118; clear HB; have HO107 := n0_; have HO111 := n1_; have HO114 := n2_; have HO118 := n3_; have HO121 := n4_; have HB := n5_; clear n0_ n1_ n2_ n3_ n4_ n5_; clear hb ho102; obtain ⟨Ao103, co103, eo103⟩ := Kd.R_slice HO121.out; subst eo103) | ((with_reducible refine gate_callee (f := 14) rfl ?_); refine goesL_ (some 25) rfl rfl Try.func14 (by kernel_rfl) rfl #[.int .i64 2, .slice Ao103 y119.length co103] rfl (by (try simp only [List.map_toArray, List.map_cons, List.map_nil]); first | done | rfl | (simp only [List.length_drop, List.length_take]; rfl)) ?_; (with_reducible refine (order_Sort.calls 2 _ _ y119 t122 t123 _ ?side1 ?side2 A3.out).mono ?_); (case side1 => repeat (first | exact (Kd.R_reads' HO121.out).2.2 | (with_reducible refine Kd.C_alloc ?_ _) | (with_reducible refine Kd.C_drewN ?_ _) | (with_reducible refine Kd.C_drew ?_))); (case side2 => exact (Kd.R_reads' HO121.out).2.1); rintro e w104 ⟨v124, rfl, ho0, hb⟩; refine ⟨_, rfl, ?_⟩; have n0_ := Aside0.mk (Kd.R_below (by (with_reducible repeat (first | apply Kd.R_alloc | apply Kd.R_drewN | apply Kd.R_drew)); exact HO107.out) hb); have n1_ := Aside0.mk (Kd.R_elder' (by (with_reducible repeat (first | apply Kd.R_alloc | apply Kd.R_drewN | apply Kd.R_drew)); exact HO111.out) (Kd.R_base ho0) hb); have n2_ := Aside0.mk (Kd.R_below (by (with_reducible repeat (first | apply Kd.R_alloc | apply Kd.R_drewN | apply Kd.R_drew)); exact HO114.out) hb); have n3_ := Aside0.mk (Kd.R_elder' (by (with_reducible repeat (first | apply Kd.R_alloc | apply Kd.R_drewN | apply Kd.R_drew)); exact HO118.out) (Kd.R_base ho0) hb); have n4_ := Aside0.mk (Kd.R_below (by (with_reducible repeat (first | apply Kd.R_alloc | apply Kd.R_drewN | apply Kd.R_drew)); exact HO121.out) hb); have n5_ := Aside0.mk (Kd.R_lower (Kd.R_new' (Kd.R_new' ho0 (Kd.R_lt (by (with_reducible repeat (first | apply Kd.R_alloc | apply Kd.R_drewN | apply Kd.R_drew)); exact HO111.out))) (Kd.R_lt (by (with_reducible repeat (first | apply Kd.R_alloc | apply Kd.R_drewN | apply Kd.R_drew)); exact HO118.out))) (below_size (by repeat (first | (with_reducible first | exact HB.out | apply below_alloc | apply pw_below_drewN | apply below_drew1) | exact HB.out)))); have n6_ := Aside0.mk (below_step (by repeat (first | (with_reducible first | exact HB.out | apply below_alloc | apply pw_below_drewN | apply below_drew1) | exact HB.out)) hb); clear HO107; clear HO111; clear HO114; clear HO118; clear HO121; clear HB; have HO107 := n0_; have HO111 := n1_; have HO114 := n2_; have HO118 := n3_; have HO121 := n4_; have HO125 := n5_; have HB := n6_; clear n0_ n1_ n2_ n3_ n4_ n5_ n6_; (try clear hb); (try clear hb2); (try clear hk); (try clear hi); (try clear ho0)) | ((with_reducible refine gate_callee (f := 14) rfl ?_); refine goesL_ (some 29) rfl rfl Try.func14 (by kernel_rfl) rfl #[.int .i64 0, .slice none 0 0] rfl (by (try simp only [List.map_toArray, List.map_cons, List.map_nil]); first | done | rfl | (simp only [List.length_drop, List.length_take]; rfl)) ?_; (refine (order_Sort.calls 0 _ _ ([] : List (S68)) t126 t127 _ ?side1 ?side2 A4.out).mono ?_); (case side1 => exact Kd.C_nil _ _); (case side2 => exact Nat.le_refl _); rintro e w105 ⟨v128, rfl, ho0, hb⟩; refine ⟨_, rfl, ?_⟩; have n0_ := Aside0.mk (Kd.R_below (by (with_reducible repeat (first | apply Kd.R_alloc | apply Kd.R_drewN | apply Kd.R_drew)); exact HO107.out) hb); have n1_ := Aside0.mk (Kd.R_elder' (by (with_reducible repeat (first | apply Kd.R_alloc | apply Kd.R_drewN | apply Kd.R_drew)); exact HO111.out) (Kd.R_base ho0) hb); have n2_ := Aside0.mk (Kd.R_below (by (with_reducible repeat (first | apply Kd.R_alloc | apply Kd.R_drewN | apply Kd.R_drew)); exact HO114.out) hb); have n3_ := Aside0.mk (Kd.R_elder' (by (with_reducible repeat (first | apply Kd.R_alloc | apply Kd.R_drewN | apply Kd.R_drew)); exact HO118.out) (Kd.R_base ho0) hb); have n4_ := Aside0.mk (Kd.R_below (by (with_reducible repeat (first | apply Kd.R_alloc | apply Kd.R_drewN | apply Kd.R_drew)); exact HO121.out) hb); have n5_ := Aside0.mk (Kd.R_elder' (by (with_reducible repeat (first | apply Kd.R_alloc | apply Kd.R_drewN | apply Kd.R_drew)); exact HO125.out) (Kd.R_base ho0) hb); have n6_ := Aside0.mk (Kd.R_lower (Kd.R_new' (Kd.R_new' (Kd.R_new' ho0 (Kd.R_lt (by (with_reducible repeat (first | apply Kd.R_alloc | apply Kd.R_drewN | apply Kd.R_drew)); exact HO111.out))) (Kd.R_lt (by (with_reducible repeat (first | apply Kd.R_alloc | apply Kd.R_drewN | apply Kd.R_drew)); exact HO118.out))) (Kd.R_lt (by (with_reducible repeat (first | apply Kd.R_alloc | apply Kd.R_drewN | apply Kd.R_drew)); exact HO125.out))) (below_size (by repeat (first | (with_reducible first | exact HB.out | apply below_alloc | apply pw_below_drewN | apply below_drew1) | exact HB.out)))); have n7_ := Aside0.mk (below_step (by repeat (first | (with_reducible first | exact HB.out | apply below_alloc | apply pw_below_drewN | apply below_drew1) | exact HB.out)) hb); clear HO107; clear HO111; clear HO114; clear HO118; clear HO121; clear HO125; clear HB; have HO107 := n0_; have HO111 := n1_; have HO114 := n2_; have HO118 := n3_; have HO121 := n4_; have HO125 := n5_; have HO129 := n6_; have HB := n7_; clear n0_ n1_ n2_ n3_ n4_ n5_ n6_ n7_; (try clear hb); (try clear hb2); (try clear hk); (try clear hi); (try clear ho0)) | ((with_reducible refine gate_dst (N := 33) rfl ?_); (try (refine gate_guard (by rfl) ?_; dsimp only)); refine Kd.R_lit (Kd.int .i64) _ 3 ?hg (N := 33) ?hd (xs := ([1, 2, 0] : List Int)) (inner := [.int .i64 1, .int .i64 2, .int .i64 0]) (ok := fun _ => True) (okp := fun _ => True) ?hr ?hp (fun _ hk => hk) trivial (Below.refl _ _) (Nat.le_refl _) (by simp) ?_; (case hd => rfl); (case hg => rfl); (case hr => first | (go_simp; done) | (go_simp; rfl)); (case hp => exact (Reps.one (show Kd.M (Kd.int .i64) _ _ _ 1 [.int .i64 1] from rfl) (Reps.one (show Kd.M (Kd.int .i64) _ _ _ 2 [.int .i64 2] from rfl) (Reps.one (show Kd.M (Kd.int .i64) _ _ _ 0 [.int .i64 0] from rfl) (Reps.none _ _))))); intro v131 w106 ho107 hb hg_ hnew_; clear hg_ hnew_; (first | rw [← Ny130.out] at ho107 | (simp only [Int.reduceToNat] at ho107; rw [← Ny130.out] at ho107)); have n0_ := Aside0.mk (Kd.R_below (by (with_reducible repeat (first | apply Kd.R_alloc | apply Kd.R_drewN | apply Kd.R_drew)); exact HO107.out) hb); have n1_ := Aside0.mk (Kd.R_elder' (by (with_reducible repeat (first | apply Kd.R_alloc | apply Kd.R_drewN | apply Kd.R_drew)); exact HO111.out) (Kd.R_base ho107) hb); have n2_ := Aside0.mk (Kd.R_below (by (with_reducible repeat (first | apply Kd.R_alloc | apply Kd.R_drewN | apply Kd.R_drew)); exact HO114.out) hb); have n3_ := Aside0.mk (Kd.R_elder' (by (with_reducible repeat (first | apply Kd.R_alloc | apply Kd.R_drewN | apply Kd.R_drew)); exact HO118.out) (Kd.R_base ho107) hb); have n4_ := Aside0.mk (Kd.R_below (by (with_reducible repeat (first | apply Kd.R_alloc | apply Kd.R_drewN | apply Kd.R_drew)); exact HO121.out) hb); have n5_ := Aside0.mk (Kd.R_elder' (by (with_reducible repeat (first | apply Kd.R_alloc | apply Kd.R_drewN | apply Kd.R_drew)); exact HO125.out) (Kd.R_base ho107) hb); have n6_ := Aside0.mk (Kd.R_elder' (by (with_reducible repeat (first | apply Kd.R_alloc | apply Kd.R_drewN | apply Kd.R_drew)); exact HO129.out) (Kd.R_base ho107) hb); have n7_ := Aside0.mk (Kd.R_lower (Kd.R_new' (Kd.R_new' (Kd.R_new' (Kd.R_new' ho107 (Kd.R_lt (by (with_reducible repeat (first | apply Kd.R_alloc | apply Kd.R_drewN | apply Kd.R_drew)); exact HO111.out))) (Kd.R_lt (by (with_reducible repeat (first | apply Kd.R_alloc | apply Kd.R_drewN | apply Kd.R_drew)); exact HO118.out))) (Kd.R_lt (by (with_reducible repeat (first | apply Kd.R_alloc | apply Kd.R_drewN | apply Kd.R_drew)); exact HO125.out))) (Kd.R_lt (by (with_reducible repeat (first | apply Kd.R_alloc | apply Kd.R_drewN | apply Kd.R_drew)); exact HO129.out))) (below_size (by repeat (first | (with_reducible first | exact HB.out | apply below_alloc | apply pw_below_drewN | apply below_drew1) | exact HB.out)))); have n8_ := Aside0.mk (below_step (by repeat (first | (with_reducible first | exact HB.out | apply below_alloc | apply pw_below_drewN | apply below_drew1) | exact HB.out)) hb); clear HO107; clear HO111; clear HO114; clear HO118; clear HO121; clear HO125; clear HO129; clear HB; have HO107 := n0_; have HO111 := n1_; have HO114 := n2_; have HO118 := n3_; have HO121 := n4_; have HO125 := n5_; have HO129 := n6_; have HO132 := n7_; have HB := n8_; clear n0_ n1_ n2_ n3_ n4_ n5_ n6_ n7_ n8_; clear hb ho107; obtain ⟨Ao108, co108, eo108⟩ := Kd.R_slice HO111.out; subst eo108; obtain ⟨Ao109, co109, eo109⟩ := Kd.R_slice HO132.out; subst eo109) | ((with_reducible refine gate_callee (f := 17) rfl ?_); refine goesL_ (some 34) rfl rfl Try.func17 (by kernel_rfl) rfl #[.slice Ao108 t108.length co108, .slice Ao109 y130.length co109] rfl (by (try simp only [List.map_toArray, List.map_cons, List.map_nil]); first | done | rfl | (simp only [List.length_drop, List.length_take]; rfl)) ?_; (with_reducible refine (arlinkref04_Numbers.calls k _ _ t108 _ _ y130 true _ ?side1 ?side2 ?side3 ?side4 A5.out).mono ?_); (case side1 => repeat (first | exact (Kd.R_reads' HO111.out).2.2 | (with_reducible refine Kd.C_alloc ?_ _) | (with_reducible refine Kd.C_drewN ?_ _) | (with_reducible refine Kd.C_drew ?_))); (case side2 => exact (Kd.R_reads' HO111.out).2.1); (case side3 => repeat (first | exact (Kd.R_reads' HO132.out).2.2 | (with_reducible refine Kd.C_alloc ?_ _) | (with_reducible refine Kd.C_drewN ?_ _) | (with_reducible refine Kd.C_drew ?_))); (case side4 => exact (Kd.R_reads' HO132.out).2.1); rintro e w' ⟨rfl, ⟨nd, rfl⟩⟩; refine ⟨_, rfl, ?_⟩))
    go_ret
    exact ⟨by first | rfl | (simp [errW_none, errW_some] <;> rfl) | (simp [*, errW_none, errW_some] <;> rfl), by repeat (first | (with_reducible first | exact HB.out | apply below_alloc | apply pw_below_drewN | apply below_drew1) | exact HB.out)⟩
  ·rw [if_neg c7] at H
   have c7b0 : (t109 == 0) = false := beq_eq_false_iff_ne.mpr c7
   have c7b1 : (t109 != 0) = true := bne_iff_ne.mpr c7
   obtain rfl := Option.some.inj H
   go_enter Try.func13, Try.ntmps13
   go_wp2_with (first | ((with_reducible refine gate_dst (N := 11) rfl ?_); (try (refine gate_guard (by rfl) ?_; dsimp only)); refine Kd.R_lit k68 _ 68 ?hg (N := 11) ?hd (xs := ([(⟨2, 0⟩ : S68)] : List (S68))) (inner := [.int .i64 2, .int .i64 0]) (ok := fun _ => True) (okp := fun _ => True) ?hr ?hp (fun _ hk => hk) trivial (Below.refl _ _) (Nat.le_refl _) (by simp) ?_; (case hd => rfl); (case hg => rfl); (case hr => first | (go_simp; done) | (go_simp; rfl)); (case hp => exact (Reps.c2 (show Kd.M k68 _ _ _ (⟨2, 0⟩ : S68) [.int .i64 2, .int .i64 0] from (k68_mkM _ _ _ (⟨2, 0⟩ : S68) )) (Reps.none _ _))); intro v106 w110 ho111 hb hg_ hnew_; clear hg_ hnew_; (first | rw [← Ny105.out] at ho111 | (simp only [Int.reduceToNat] at ho111; rw [← Ny105.out] at ho111)); have n0_ := Aside0.mk (Kd.R_lower ho111 (below_size (by repeat (first | (with_reducible first | exact HB.out | apply below_alloc | apply pw_below_drewN | apply below_drew1) | exact HB.out)))); have n1_ := Aside0.mk (below_step (by repeat (first | (with_reducible first | exact HB.out | apply below_alloc | apply pw_below_drewN | apply below_drew1) | exact HB.out)) hb); clear HB; have HO107 := n0_; have HB := n1_; clear n0_ n1_; clear hb ho111; obtain ⟨Ao112, co112, eo112⟩ := Kd.R_slice HO107.out; subst eo112) | ((with_reducible refine gate_callee (f := 14) rfl ?_); refine goesL_ (some 12) rfl rfl Try.func14 (by kernel_rfl) rfl #[.int .i64 3, .slice Ao112 y105.length co112] rfl (by (try simp only [List.map_toArray, List.map_cons, List.map_nil]); first | done | rfl | (simp only [List.length_drop, List.length_take]; rfl)) ?_; (with_reducible refine (order_Sort.calls 3 _ _ y105 t108 t109 _ ?side1 ?side2 A1.out).mono ?_); (case side1 => repeat (first | exact (Kd.R_reads' HO107.out).2.2 | (with_reducible refine Kd.C_alloc ?_ _) | (with_reducible refine Kd.C_drewN ?_ _) | (with_reducible refine Kd.C_drew ?_))); (case side2 => exact (Kd.R_reads' HO107.out).2.1); rintro e w113 ⟨v110, rfl, ho0, hb⟩; refine ⟨_, rfl, ?_⟩; have n0_ := Aside0.mk (Kd.R_below (by (with_reducible repeat (first | apply Kd.R_alloc | apply Kd.R_drewN | apply Kd.R_drew)); exact HO107.out) hb); have n1_ := Aside0.mk (Kd.R_lower ho0 (below_size (by repeat (first | (with_reducible first | exact HB.out | apply below_alloc | apply pw_below_drewN | apply below_drew1) | exact HB.out)))); have n2_ := Aside0.mk (below_step (by repeat (first | (with_reducible first | exact HB.out | apply below_alloc | apply pw_below_drewN | apply below_drew1) | exact HB.out)) hb); clear HO107; clear HB; have HO107 := n0_; have HO111 := n1_; have HB := n2_; clear n0_ n1_ n2_; (try clear hb); (try clear hb2); (try clear hk); (try clear hi); (try clear ho0)) | ((with_reducible refine gate_dst (N := 18) rfl ?_); (try (refine gate_guard (by rfl) ?_; dsimp only)); refine Kd.R_lit k68 _ 68 ?hg (N := 18) ?hd (xs := ([(⟨0, 1⟩ : S68), (⟨1, 0⟩ : S68)] : List (S68))) (inner := [.int .i64 0, .int .i64 1, .int .i64 1, .int .i64 0]) (ok := fun _ => True) (okp := fun _ => True) ?hr ?hp (fun _ hk => hk) trivial (Below.refl _ _) (Nat.le_refl _) (by simp) ?_; (case hd => rfl); (case hg => rfl); (case hr => first | (go_simp; done) | (go_simp; rfl)); (case hp => exact (Reps.c2 (show Kd.M k68 _ _ _ (⟨0, 1⟩ : S68) [.int .i64 0, .int .i64 1] from (k68_mkM _ _ _ (⟨0, 1⟩ : S68) )) (Reps.c2 (show Kd.M k68 _ _ _ (⟨1, 0⟩ : S68) [.int .i64 1, .int .i64 0] from (k68_mkM _ _ _ (⟨1, 0⟩ : S68) )) (Reps.none _ _)))); intro v113 w114 ho115 hb hg_ hnew_; clear hg_ hnew_; (first | rw [← Ny112.out] at ho115 | (simp only [Int.reduceToNat] at ho115; rw [← Ny112.out] at ho115)); have n0_ := Aside0.mk (Kd.R_elder' (by (with_reducible repeat (first | apply Kd.R_alloc | apply Kd.R_drewN | apply Kd.R_drew)); exact HO107.out) (Kd.R_base ho115) hb); have n1_ := Aside0.mk (Kd.R_below (by (with_reducible repeat (first | apply Kd.R_alloc | apply Kd.R_drewN | apply Kd.R_drew)); exact HO111.out) hb); have n2_ := Aside0.mk (Kd.R_lower (Kd.R_new' ho115 (Kd.R_lt (by (with_reducible repeat (first | apply Kd.R_alloc | apply Kd.R_drewN | apply Kd.R_drew)); exact HO107.out))) (below_size (by repeat (first | (with_reducible first | exact HB.out | apply below_alloc | apply pw_below_drewN | apply below_drew1) | exact HB.out)))); have n3_ := Aside0.mk (below_step (by repeat (first | (with_reducible first | exact HB.out | apply below_alloc | apply pw_below_drewN | apply below_drew1) | exact HB.out)) hb); clear HO107; clear HO111; clear HB; have HO107 := n0_; have HO111 := n1_; have HO114 := n2_; have HB := n3_; clear n0_ n1_ n2_ n3_; clear hb ho115; obtain ⟨Ao116, co116, eo116⟩ := Kd.R_slice HO114.out; subst eo116) | ((with_reducible refine gate_callee (f := 14) rfl ?_); refine goesL_ (some 19) rfl rfl Try.func14 (by kernel_rfl) rfl #[.int .i64 2, .slice Ao116 y112.length co116] rfl (by (try simp only [List.map_toArray, List.map_cons, List.map_nil]); first | done | rfl | (simp only [List.length_drop, List.length_take]; rfl)) ?_; (with_reducible refine (order_Sort.calls 2 _ _ y112 t115 t116 _ ?side1 ?side2 A2.out).mono ?_); (case side1 => repeat (first | exact (Kd.R_reads' HO114.out).2.2 | (with_reducible refine Kd.C_alloc ?_ _) | (with_reducible refine Kd.C_drewN ?_ _) | (with_reducible refine Kd.C_drew ?_))); (case side2 => exact (Kd.R_reads' HO114.out).2.1); rintro e w117 ⟨v117, rfl, ho0, hb⟩; refine ⟨_, rfl, ?_⟩; have n0_ := Aside0.mk (Kd.R_below (by (with_reducible repeat (first | apply Kd.R_alloc | apply Kd.R_drewN | apply Kd.R_drew)); exact HO107.out) hb); have n1_ := Aside0.mk (Kd.R_elder' (by (with_reducible repeat (first | apply Kd.R_alloc | apply Kd.R_drewN | apply Kd.R_drew)); exact HO111.out) (Kd.R_base ho0) hb); have n2_ := Aside0.mk (Kd.R_below (by (with_reducible repeat (first | apply Kd.R_alloc | apply Kd.R_drewN | apply Kd.R_drew)); exact HO114.out) hb); have n3_ := Aside0.mk (Kd.R_lower (Kd.R_new' ho0 (Kd.R_lt (by (with_reducible repeat (first | apply Kd.R_alloc | apply Kd.R_drewN | apply Kd.R_drew)); exact HO111.out))) (below_size (by repeat (first | (with_reducible first | exact HB.out | apply below_alloc | apply pw_below_drewN | apply below_drew1) | exact HB.out)))); have n4_ := Aside0.mk (below_step (by repeat (first | (with_reducible first | exact HB.out | apply below_alloc | apply pw_below_drewN | apply below_drew1) | exact HB.out)) hb); clear HO107; clear HO111; clear HO114; clear HB; have HO107 := n0_; have HO111 := n1_; have HO114 := n2_; have HO118 := n3_; have HB := n4_; clear n0_ n1_ n2_ n3_ n4_; (try clear hb); (try clear hb2); (try clear hk); (try clear hi); (try clear ho0)) | ((with_reducible refine gate_dst (N := 24) rfl ?_); (try (refine gate_guard (by rfl) ?_; dsimp only)); refine Kd.R_lit k68 _ 68 ?hg (N := 24) ?hd (xs := ([(⟨0, 2⟩ : S68)] : List (S68))) (inner := [.int .i64 0, .int .i64 2]) (ok := fun _ => True) (okp := fun _ => True) ?hr ?hp (fun _ hk => hk) trivial (Below.refl _ _) (Nat.le_refl _) (by simp) ?_; (case hd => rfl); (case hg => rfl); (case hr => first | (go_simp; done) | (go_simp; rfl)); (case hp => exact (Reps.c2 (show Kd.M k68 _ _ _ (⟨0, 2⟩ : S68) [.int .i64 0, .int .i64 2] from (k68_mkM _ _ _ (⟨0, 2⟩ : S68) )) (Reps.none _ _))); intro v120 w118 ho119 hb hg_ hnew_; clear hg_ hnew_; (first | rw [← Ny119.out] at ho119 | (simp only [Int.reduceToNat] at ho119; rw [← Ny119.out] at ho119)); have n0_ := Aside0.mk (Kd.R_elder' (by (with_reducible repeat (first | apply Kd.R_alloc | apply Kd.R_drewN | apply Kd.R_drew)); exact HO107.out) (Kd.R_base ho119) hb); have n1_ := Aside0.mk (Kd.R_below (by (with_reducible repeat (first | apply Kd.R_alloc | apply Kd.R_drewN | apply Kd.R_drew)); exact HO111.out) hb); have n2_ := Aside0.mk (Kd.R_elder' (by (with_reducible repeat (first | apply Kd.R_alloc | apply Kd.R_drewN | apply Kd.R_drew)); exact HO114.out) (Kd.R_base ho119) hb); have n3_ := Aside0.mk (Kd.R_below (by (with_reducible repeat (first | apply Kd.R_alloc | apply Kd.R_drewN | apply Kd.R_drew)); exact HO118.out) hb); have n4_ := Aside0.mk (Kd.R_lower (Kd.R_new' (Kd.R_new' ho119 (Kd.R_lt (by (with_reducible repeat (first | apply Kd.R_alloc | apply Kd.R_drewN | apply Kd.R_drew)); exact HO107.out))) (Kd.R_lt (by (with_reducible repeat (first | apply Kd.R_alloc | apply Kd.R_drewN | apply Kd.R_drew)); exact HO114.out))) (below_size (by repeat (first | (with_reducible first | exact HB.out | apply below_alloc | apply pw_below_drewN | apply below_drew1) | exact HB.out)))); have n5_ := Aside0.mk (below_step (by repeat (first | (with_reducible first | exact HB.out | apply below_alloc | apply pw_below_drewN | apply below_drew1) | exact HB.out)) hb); clear HO107; clear HO111; clear HO114; clear HO118; clear HB; have HO107 := n0_; have HO111 := n1_; have HO114 := n2_; have HO118 := n3_; have HO121 := n4_; have HB := n5_; clear n0_ n1_ n2_ n3_ n4_ n5_; clear hb ho119; obtain ⟨Ao120, co120, eo120⟩ := Kd.R_slice HO121.out; subst eo120) | ((with_reducible refine gate_callee (f := 14) rfl ?_); refine goesL_ (some 25) rfl rfl Try.func14 (by kernel_rfl) rfl #[.int .i64 2, .slice Ao120 y119.length co120] rfl (by (try simp only [List.map_toArray, List.map_cons, List.map_nil]); first | done | rfl | (simp only [List.length_drop, List.length_take]; rfl)) ?_; (with_reducible refine (order_Sort.calls 2 _ _ y119 t122 t123 _ ?side1 ?side2 A3.out).mono ?_); (case side1 => repeat (first | exact (Kd.R_reads' HO121.out).2.2 | (with_reducible refine Kd.C_alloc ?_ _) | (with_reducible refine Kd.C_drewN ?_ _) | (with_reducible refine Kd.C_drew ?_))); (case side2 => exact (Kd.R_reads' HO121.out).2.1); rintro e w121 ⟨v124, rfl, ho0, hb⟩; refine ⟨_, rfl, ?_⟩; have n0_ := Aside0.mk (Kd.R_below (by (with_reducible repeat (first | apply Kd.R_alloc | apply Kd.R_drewN | apply Kd.R_drew)); exact HO107.out) hb); have n1_ := Aside0.mk (Kd.R_elder' (by (with_reducible repeat (first | apply Kd.R_alloc | apply Kd.R_drewN | apply Kd.R_drew)); exact HO111.out) (Kd.R_base ho0) hb); have n2_ := Aside0.mk (Kd.R_below (by (with_reducible repeat (first | apply Kd.R_alloc | apply Kd.R_drewN | apply Kd.R_drew)); exact HO114.out) hb); have n3_ := Aside0.mk (Kd.R_elder' (by (with_reducible repeat (first | apply Kd.R_alloc | apply Kd.R_drewN | apply Kd.R_drew)); exact HO118.out) (Kd.R_base ho0) hb); have n4_ := Aside0.mk (Kd.R_below (by (with_reducible repeat (first | apply Kd.R_alloc | apply Kd.R_drewN | apply Kd.R_drew)); exact HO121.out) hb); have n5_ := Aside0.mk (Kd.R_lower (Kd.R_new' (Kd.R_new' ho0 (Kd.R_lt (by (with_reducible repeat (first | apply Kd.R_alloc | apply Kd.R_drewN | apply Kd.R_drew)); exact HO111.out))) (Kd.R_lt (by (with_reducible repeat (first | apply Kd.R_alloc | apply Kd.R_drewN | apply Kd.R_drew)); exact HO118.out))) (below_size (by repeat (first | (with_reducible first | exact HB.out | apply below_alloc | apply pw_below_drewN | apply below_drew1) | exact HB.out)))); have n6_ := Aside0.mk (below_step (by repeat (first | (with_reducible first | exact HB.out | apply below_alloc | apply pw_below_drewN | apply below_drew1) | exact HB.out)) hb); clear HO107; clear HO111; clear HO114; clear HO118; clear HO121; clear HB; have HO107 := n0_; have HO111 := n1_; have HO114 := n2_; have HO118 := n3_; have HO121 := n4_; have HO125 := n5_; have HB := n6_; clear n0_ n1_ n2_ n3_ n4_ n5_ n6_; (try clear hb); (try clear hb2); (try clear hk); (try clear hi); (try clear ho0)) | ((with_reducible refine gate_callee (f := 14) rfl ?_); refine goesL_ (some 29) rfl rfl Try.func14 (by kernel_rfl) rfl #[.int .i64 0, .slice none 0 0] rfl (by (try simp only [List.map_toArray, List.map_cons, List.map_nil]); first | done | rfl | (simp only [List.length_drop, List.length_take]; rfl)) ?_; (refine (order_Sort.calls 0 _ _ ([] : List (S68)) t126 t127 _ ?side1 ?side2 A4.out).mono ?_); (case side1 => exact Kd.C_nil _ _); (case side2 => exact Nat.le_refl _); rintro e w122 ⟨v128, rfl, ho0, hb⟩; refine ⟨_, rfl, ?_⟩; have n0_ := Aside0.mk (Kd.R_below (by (with_reducible repeat (first | apply Kd.R_alloc | apply Kd.R_drewN | apply Kd.R_drew)); exact HO107.out) hb); have n1_ := Aside0.mk (Kd.R_elder' (by (with_reducible repeat (first | apply Kd.R_alloc | apply Kd.R_drewN | apply Kd.R_drew)); exact HO111.out) (Kd.R_base ho0) hb); have n2_ := Aside0.mk (Kd.R_below (by (with_reducible repeat (first | apply Kd.R_alloc | apply Kd.R_drewN | apply Kd.R_drew)); exact HO114.out) hb); have n3_ := Aside0.mk (Kd.R_elder' (by (with_reducible repeat (first | apply Kd.R_alloc | apply Kd.R_drewN | apply Kd.R_drew)); exact HO118.out) (Kd.R_base ho0) hb); have n4_ := Aside0.mk (Kd.R_below (by (with_reducible repeat (first | apply Kd.R_alloc | apply Kd.R_drewN | apply Kd.R_drew)); exact HO121.out) hb); have n5_ := Aside0.mk (Kd.R_elder' (by (with_reducible repeat (first | apply Kd.R_alloc | apply Kd.R_drewN | apply Kd.R_drew)); exact HO125.out) (Kd.R_base ho0) hb); have n6_ := Aside0.mk (Kd.R_lower (Kd.R_new' (Kd.R_new' (Kd.R_new' ho0 (Kd.R_lt (by (with_reducible repeat (first | apply Kd.R_alloc | apply Kd.R_drewN | apply Kd.R_drew)); exact HO111.out))) (Kd.R_lt (by (with_reducible repeat (first | apply Kd.R_alloc | apply Kd.R_drewN | apply Kd.R_drew)); exact HO118.out))) (Kd.R_lt (by (with_reducible repeat (first | apply Kd.R_alloc | apply Kd.R_drewN | apply Kd.R_drew)); exact HO125.out))) (below_size (by repeat (first | (with_reducible first | exact HB.out | apply below_alloc | apply pw_below_drewN | apply below_drew1) | exact HB.out)))); have n7_ := Aside0.mk (below_step (by repeat (first | (with_reducible first | exact HB.out | apply below_alloc | apply pw_below_drewN | apply below_drew1) | exact HB.out)) hb); clear HO107; clear HO111; clear HO114; clear HO118; clear HO121; clear HO125; clear HB; have HO107 := n0_; have HO111 := n1_; have HO114 := n2_; have HO118 := n3_; have HO121 := n4_; have HO125 := n5_; have HO129 := n6_; have HB := n7_; clear n0_ n1_ n2_ n3_ n4_ n5_ n6_ n7_; (try clear hb); (try clear hb2); (try clear hk); (try clear hi); (try clear ho0)) | ((with_reducible refine gate_dst (N := 33) rfl ?_); (try (refine gate_guard (by rfl) ?_; dsimp only)); refine Kd.R_lit (Kd.int .i64) _ 3 ?hg (N := 33) ?hd (xs := ([1, 2, 0] : List Int)) (inner := [.int .i64 1, .int .i64 2, .int .i64 0]) (ok := fun _ => True) (okp := fun _ => True) ?hr ?hp (fun _ hk => hk) trivial (Below.refl _ _) (Nat.le_refl _) (by simp) ?_; (case hd => rfl); (case hg => rfl); (case hr => first | (go_simp; done) | (go_simp; rfl)); (case hp => exact (Reps.one (show Kd.M (Kd.int .i64) _ _ _ 1 [.int .i64 1] from rfl) (Reps.one (show Kd.M (Kd.int .i64) _ _ _ 2 [.int .i64 2] from rfl) (Reps.one (show Kd.M (Kd.int .i64) _ _ _ 0 [.int .i64 0] from rfl) (Reps.none _ _))))); intro v131 w123 ho124 hb hg_ hnew_; clear hg_ hnew_; (first | rw [← Ny130.out] at ho124 | (simp only [Int.reduceToNat] at ho124; rw [← Ny130.out] at ho124)); have n0_ := Aside0.mk (Kd.R_below (by (with_reducible repeat (first | apply Kd.R_alloc | apply Kd.R_drewN | apply Kd.R_drew)); exact HO107.out) hb); have n1_ := Aside0.mk (Kd.R_elder' (by (with_reducible repeat (first | apply Kd.R_alloc | apply Kd.R_drewN | apply Kd.R_drew)); exact HO111.out) (Kd.R_base ho124) hb); have n2_ := Aside0.mk (Kd.R_below (by (with_reducible repeat (first | apply Kd.R_alloc | apply Kd.R_drewN | apply Kd.R_drew)); exact HO114.out) hb); have n3_ := Aside0.mk (Kd.R_elder' (by (with_reducible repeat (first | apply Kd.R_alloc | apply Kd.R_drewN | apply Kd.R_drew)); exact HO118.out) (Kd.R_base ho124) hb); have n4_ := Aside0.mk (Kd.R_below (by (with_reducible repeat (first | apply Kd.R_alloc | apply Kd.R_drewN | apply Kd.R_drew)); exact HO121.out) hb); have n5_ := Aside0.mk (Kd.R_elder' (by (with_reducible repeat (first | apply Kd.R_alloc | apply Kd.R_drewN | apply Kd.R_drew)); exact HO125.out) (Kd.R_base ho124) hb); have n6_ := Aside0.mk (Kd.R_elder' (by (with_reducible repeat (first | apply Kd.R_alloc | apply Kd.R_drewN | apply Kd.R_drew)); exact HO129.out) (Kd.R_base ho124) hb); have n7_ := Aside0.mk (Kd.R_lower (Kd.R_new' (Kd.R_new' (Kd.R_new' (Kd.R_new' ho124 (Kd.R_lt (by (with_reducible repeat (first | apply Kd.R_alloc | apply Kd.R_drewN | apply Kd.R_drew)); exact HO111.out))) (Kd.R_lt (by (with_reducible repeat (first | apply Kd.R_alloc | apply Kd.R_drewN | apply Kd.R_drew)); exact HO118.out))) (Kd.R_lt (by (with_reducible repeat (first | apply Kd.R_alloc | apply Kd.R_drewN | apply Kd.R_drew)); exact HO125.out))) (Kd.R_lt (by (with_reducible repeat (first | apply Kd.R_alloc | apply Kd.R_drewN | apply Kd.R_drew)); exact HO129.out))) (below_size (by repeat (first | (with_reducible first | exact HB.out | apply below_alloc | apply pw_below_drewN | apply below_drew1) | exact HB.out)))); have n8_ := Aside0.mk (below_step (by repeat (first | (with_reducible first | exact HB.out | apply below_alloc | apply pw_below_drewN | apply below_drew1) | exact HB.out)) hb); clear HO107; clear HO111; clear HO114; clear HO118; clear HO121; clear HO125; clear HO129; clear HB; have HO107 := n0_; have HO111 := n1_; have HO114 := n2_; have HO118 := n3_; have HO121 := n4_; have HO125 := n5_; have HO129 := n6_; have HO132 := n7_; have HB := n8_; clear n0_ n1_ n2_ n3_ n4_ n5_ n6_ n7_ n8_; clear hb ho124; obtain ⟨Ao125, co125, eo125⟩ := Kd.R_slice HO111.out; subst eo125; obtain ⟨Ao126, co126, eo126⟩ := Kd.R_slice HO132.out; subst eo126) | ((with_reducible refine gate_callee (f := 17) rfl ?_); refine goesL_ (some 34) rfl rfl Try.func17 (by kernel_rfl) rfl #[.slice Ao125 t108.length co125, .slice Ao126 y130.length co126] rfl (by (try simp only [List.map_toArray, List.map_cons, List.map_nil]); first | done | rfl | (simp only [List.length_drop, List.length_take]; rfl)) ?_; (with_reducible refine (arlinkref04_Numbers.calls k _ _ t108 _ _ y130 true _ ?side1 ?side2 ?side3 ?side4 A5.out).mono ?_); (case side1 => repeat (first | exact (Kd.R_reads' HO111.out).2.2 | (with_reducible refine Kd.C_alloc ?_ _) | (with_reducible refine Kd.C_drewN ?_ _) | (with_reducible refine Kd.C_drew ?_))); (case side2 => exact (Kd.R_reads' HO111.out).2.1); (case side3 => repeat (first | exact (Kd.R_reads' HO132.out).2.2 | (with_reducible refine Kd.C_alloc ?_ _) | (with_reducible refine Kd.C_drewN ?_ _) | (with_reducible refine Kd.C_drew ?_))); (case side4 => exact (Kd.R_reads' HO132.out).2.1); rintro e w' ⟨rfl, ⟨nd, rfl⟩⟩; refine ⟨_, rfl, ?_⟩))
   go_ret
   exact ⟨by first | rfl | (simp [errW_none, errW_some] <;> rfl) | (simp [*, errW_none, errW_some] <;> rfl), by repeat (first | (with_reducible first | exact HB.out | apply below_alloc | apply pw_below_drewN | apply below_drew1) | exact HB.out)⟩
 ·replace c6 := Bool.eq_false_iff.mpr c6
  subst c6
  have H1 : (some false) = some r := by rw [if_neg (show ¬ (false = true) by decide)] at H; exact H
  clear H
  have H := H1
  clear H1
  obtain rfl := Option.some.inj H
  go_enter Try.func13, Try.ntmps13
  go_wp2_with (first | ((with_reducible refine gate_dst (N := 11) rfl ?_); (try (refine gate_guard (by rfl) ?_; dsimp only)); refine Kd.R_lit k68 _ 68 ?hg (N := 11) ?hd (xs := ([(⟨2, 0⟩ : S68)] : List (S68))) (inner := [.int .i64 2, .int .i64 0]) (ok := fun _ => True) (okp := fun _ => True) ?hr ?hp (fun _ hk => hk) trivial (Below.refl _ _) (Nat.le_refl _) (by simp) ?_; (case hd => rfl); (case hg => rfl); (case hr => first | (go_simp; done) | (go_simp; rfl)); (case hp => exact (Reps.c2 (show Kd.M k68 _ _ _ (⟨2, 0⟩ : S68) [.int .i64 2, .int .i64 0] from (k68_mkM _ _ _ (⟨2, 0⟩ : S68) )) (Reps.none _ _))); intro v106 w127 ho128 hb hg_ hnew_; clear hg_ hnew_; (first | rw [← Ny105.out] at ho128 | (simp only [Int.reduceToNat] at ho128; rw [← Ny105.out] at ho128)); have n0_ := Aside0.mk (Kd.R_lower ho128 (below_size (by repeat (first | (with_reducible first | exact HB.out | apply below_alloc | apply pw_below_drewN | apply below_drew1) | exact HB.out)))); have n1_ := Aside0.mk (below_step (by repeat (first | (with_reducible first | exact HB.out | apply below_alloc | apply pw_below_drewN | apply below_drew1) | exact HB.out)) hb); clear HB; have HO107 := n0_; have HB := n1_; clear n0_ n1_; clear hb ho128; obtain ⟨Ao129, co129, eo129⟩ := Kd.R_slice HO107.out; subst eo129) | ((with_reducible refine gate_callee (f := 14) rfl ?_); refine goesL_ (some 12) rfl rfl Try.func14 (by kernel_rfl) rfl #[.int .i64 3, .slice Ao129 y105.length co129] rfl (by (try simp only [List.map_toArray, List.map_cons, List.map_nil]); first | done | rfl | (simp only [List.length_drop, List.length_take]; rfl)) ?_; (with_reducible refine (order_Sort.calls 3 _ _ y105 t108 t109 _ ?side1 ?side2 A1.out).mono ?_); (case side1 => repeat (first | exact (Kd.R_reads' HO107.out).2.2 | (with_reducible refine Kd.C_alloc ?_ _) | (with_reducible refine Kd.C_drewN ?_ _) | (with_reducible refine Kd.C_drew ?_))); (case side2 => exact (Kd.R_reads' HO107.out).2.1); rintro e w130 ⟨v110, rfl, ho0, hb⟩; refine ⟨_, rfl, ?_⟩; have n0_ := Aside0.mk (Kd.R_below (by (with_reducible repeat (first | apply Kd.R_alloc | apply Kd.R_drewN | apply Kd.R_drew)); exact HO107.out) hb); have n1_ := Aside0.mk (Kd.R_lower ho0 (below_size (by repeat (first | (with_reducible first | exact HB.out | apply below_alloc | apply pw_below_drewN | apply below_drew1) | exact HB.out)))); have n2_ := Aside0.mk (below_step (by repeat (first | (with_reducible first | exact HB.out | apply below_alloc | apply pw_below_drewN | apply below_drew1) | exact HB.out)) hb); clear HO107; clear HB; have HO107 := n0_; have HO111 := n1_; have HB := n2_; clear n0_ n1_ n2_; (try clear hb); (try clear hb2); (try clear hk); (try clear hi); (try clear ho0)) | ((with_reducible refine gate_dst (N := 18) rfl ?_); (try (refine gate_guard (by rfl) ?_; dsimp only)); refine Kd.R_lit k68 _ 68 ?hg (N := 18) ?hd (xs := ([(⟨0, 1⟩ : S68), (⟨1, 0⟩ : S68)] : List (S68))) (inner := [.int .i64 0, .int .i64 1, .int .i64 1, .int .i64 0]) (ok := fun _ => True) (okp := fun _ => True) ?hr ?hp (fun _ hk => hk) trivial (Below.refl _ _) (Nat.le_refl _) (by simp) ?_; (case hd => rfl); (case hg => rfl); (case hr => first | (go_simp; done) | (go_simp; rfl)); (case hp => exact (Reps.c2 (show Kd.M k68 _ _ _ (⟨0, 1⟩ : S68) [.int .i64 0, .int .i64 1] from (k68_mkM _ _ _ (⟨0, 1⟩ : S68) )) (Reps.c2 (show Kd.M k68 _ _ _ (⟨1, 0⟩ : S68) [.int .i64 1, .int .i64 0] from (k68_mkM _ _ _ (⟨1, 0⟩ : S68) )) (Reps.none _ _)))); intro v113 w131 ho132 hb hg_ hnew_; clear hg_ hnew_; (first | rw [← Ny112.out] at ho132 | (simp only [Int.reduceToNat] at ho132; rw [← Ny112.out] at ho132)); have n0_ := Aside0.mk (Kd.R_elder' (by (with_reducible repeat (first | apply Kd.R_alloc | apply Kd.R_drewN | apply Kd.R_drew)); exact HO107.out) (Kd.R_base ho132) hb); have n1_ := Aside0.mk (Kd.R_below (by (with_reducible repeat (first | apply Kd.R_alloc | apply Kd.R_drewN | apply Kd.R_drew)); exact HO111.out) hb); have n2_ := Aside0.mk (Kd.R_lower (Kd.R_new' ho132 (Kd.R_lt (by (with_reducible repeat (first | apply Kd.R_alloc | apply Kd.R_drewN | apply Kd.R_drew)); exact HO107.out))) (below_size (by repeat (first | (with_reducible first | exact HB.out | apply below_alloc | apply pw_below_drewN | apply below_drew1) | exact HB.out)))); have n3_ := Aside0.mk (below_step (by repeat (first | (with_reducible first | exact HB.out | apply below_alloc | apply pw_below_drewN | apply below_drew1) | exact HB.out)) hb); clear HO107; clear HO111; clear HB; have HO107 := n0_; have HO111 := n1_; have HO114 := n2_; have HB := n3_; clear n0_ n1_ n2_ n3_; clear hb ho132; obtain ⟨Ao133, co133, eo133⟩ := Kd.R_slice HO114.out; subst eo133) | ((with_reducible refine gate_callee (f := 14) rfl ?_); refine goesL_ (some 19) rfl rfl Try.func14 (by kernel_rfl) rfl #[.int .i64 2, .slice Ao133 y112.length co133] rfl (by (try simp only [List.map_toArray, List.map_cons, List.map_nil]); first | done | rfl | (simp only [List.length_drop, List.length_take]; rfl)) ?_; (with_reducible refine (order_Sort.calls 2 _ _ y112 t115 t116 _ ?side1 ?side2 A2.out).mono ?_); (case side1 => repeat (first | exact (Kd.R_reads' HO114.out).2.2 | (with_reducible refine Kd.C_alloc ?_ _) | (with_reducible refine Kd.C_drewN ?_ _) | (with_reducible refine Kd.C_drew ?_))); (case side2 => exact (Kd.R_reads' HO114.out).2.1); rintro e w134 ⟨v117, rfl, ho0, hb⟩; refine ⟨_, rfl, ?_⟩; have n0_ := Aside0.mk (Kd.R_below (by (with_reducible repeat (first | apply Kd.R_alloc | apply Kd.R_drewN | apply Kd.R_drew)); exact HO107.out) hb); have n1_ := Aside0.mk (Kd.R_elder' (by (with_reducible repeat (first | apply Kd.R_alloc | apply Kd.R_drewN | apply Kd.R_drew)); exact HO111.out) (Kd.R_base ho0) hb); have n2_ := Aside0.mk (Kd.R_below (by (with_reducible repeat (first | apply Kd.R_alloc | apply Kd.R_drewN | apply Kd.R_drew)); exact HO114.out) hb); have n3_ := Aside0.mk (Kd.R_lower (Kd.R_new' ho0 (Kd.R_lt (by (with_reducible repeat (first | apply Kd.R_alloc | apply Kd.R_drewN | apply Kd.R_drew)); exact HO111.out))) (below_size (by repeat (first | (with_reducible first | exact HB.out | apply below_alloc | apply pw_below_drewN | apply below_drew1) | exact HB.out)))); have n4_ := Aside0.mk (below_step (by repeat (first | (with_reducible first | exact HB.out | apply below_alloc | apply pw_below_drewN | apply below_drew1) | exact HB.out)) hb); clear HO107; clear HO111; clear HO114; clear HB; have HO107 := n0_; have HO111 := n1_; have HO114 := n2_; have HO118 := n3_; have HB := n4_; clear n0_ n1_ n2_ n3_ n4_; (try clear hb); (try clear hb2); (try clear hk); (try clear hi); (try clear ho0)) | ((with_reducible refine gate_dst (N := 24) rfl ?_); (try (refine gate_guard (by rfl) ?_; dsimp only)); refine Kd.R_lit k68 _ 68 ?hg (N := 24) ?hd (xs := ([(⟨0, 2⟩ : S68)] : List (S68))) (inner := [.int .i64 0, .int .i64 2]) (ok := fun _ => True) (okp := fun _ => True) ?hr ?hp (fun _ hk => hk) trivial (Below.refl _ _) (Nat.le_refl _) (by simp) ?_; (case hd => rfl); (case hg => rfl); (case hr => first | (go_simp; done) | (go_simp; rfl)); (case hp => exact (Reps.c2 (show Kd.M k68 _ _ _ (⟨0, 2⟩ : S68) [.int .i64 0, .int .i64 2] from (k68_mkM _ _ _ (⟨0, 2⟩ : S68) )) (Reps.none _ _))); intro v120 w135 ho136 hb hg_ hnew_; clear hg_ hnew_; (first | rw [← Ny119.out] at ho136 | (simp only [Int.reduceToNat] at ho136; rw [← Ny119.out] at ho136)); have n0_ := Aside0.mk (Kd.R_elder' (by (with_reducible repeat (first | apply Kd.R_alloc | apply Kd.R_drewN | apply Kd.R_drew)); exact HO107.out) (Kd.R_base ho136) hb); have n1_ := Aside0.mk (Kd.R_below (by (with_reducible repeat (first | apply Kd.R_alloc | apply Kd.R_drewN | apply Kd.R_drew)); exact HO111.out) hb); have n2_ := Aside0.mk (Kd.R_elder' (by (with_reducible repeat (first | apply Kd.R_alloc | apply Kd.R_drewN | apply Kd.R_drew)); exact HO114.out) (Kd.R_base ho136) hb); have n3_ := Aside0.mk (Kd.R_below (by (with_reducible repeat (first | apply Kd.R_alloc | apply Kd.R_drewN | apply Kd.R_drew)); exact HO118.out) hb); have n4_ := Aside0.mk (Kd.R_lower (Kd.R_new' (Kd.R_new' ho136 (Kd.R_lt (by (with_reducible repeat (first | apply Kd.R_alloc | apply Kd.R_drewN | apply Kd.R_drew)); exact HO107.out))) (Kd.R_lt (by (with_reducible repeat (first | apply Kd.R_alloc | apply Kd.R_drewN | apply Kd.R_drew)); exact HO114.out))) (below_size (by repeat (first | (with_reducible first | exact HB.out | apply below_alloc | apply pw_below_drewN | apply below_drew1) | exact HB.out)))); have n5_ := Aside0.mk (below_step (by repeat (first | (with_reducible first | exact HB.out | apply below_alloc | apply pw_below_drewN | apply below_drew1) | exact HB.out)) hb); clear HO107; clear HO111; clear HO114; clear HO118; clear HB; have HO107 := n0_; have HO111 := n1_; have HO114 := n2_; have HO118 := n3_; have HO121 := n4_; have HB := n5_; clear n0_ n1_ n2_ n3_ n4_ n5_; clear hb ho136; obtain ⟨Ao137, co137, eo137⟩ := Kd.R_slice HO121.out; subst eo137) | ((with_reducible refine gate_callee (f := 14) rfl ?_); refine goesL_ (some 25) rfl rfl Try.func14 (by kernel_rfl) rfl #[.int .i64 2, .slice Ao137 y119.length co137] rfl (by (try simp only [List.map_toArray, List.map_cons, List.map_nil]); first | done | rfl | (simp only [List.length_drop, List.length_take]; rfl)) ?_; (with_reducible refine (order_Sort.calls 2 _ _ y119 t122 t123 _ ?side1 ?side2 A3.out).mono ?_); (case side1 => repeat (first | exact (Kd.R_reads' HO121.out).2.2 | (with_reducible refine Kd.C_alloc ?_ _) | (with_reducible refine Kd.C_drewN ?_ _) | (with_reducible refine Kd.C_drew ?_))); (case side2 => exact (Kd.R_reads' HO121.out).2.1); rintro e w138 ⟨v124, rfl, ho0, hb⟩; refine ⟨_, rfl, ?_⟩; have n0_ := Aside0.mk (Kd.R_below (by (with_reducible repeat (first | apply Kd.R_alloc | apply Kd.R_drewN | apply Kd.R_drew)); exact HO107.out) hb); have n1_ := Aside0.mk (Kd.R_elder' (by (with_reducible repeat (first | apply Kd.R_alloc | apply Kd.R_drewN | apply Kd.R_drew)); exact HO111.out) (Kd.R_base ho0) hb); have n2_ := Aside0.mk (Kd.R_below (by (with_reducible repeat (first | apply Kd.R_alloc | apply Kd.R_drewN | apply Kd.R_drew)); exact HO114.out) hb); have n3_ := Aside0.mk (Kd.R_elder' (by (with_reducible repeat (first | apply Kd.R_alloc | apply Kd.R_drewN | apply Kd.R_drew)); exact HO118.out) (Kd.R_base ho0) hb); have n4_ := Aside0.mk (Kd.R_below (by (with_reducible repeat (first | apply Kd.R_alloc | apply Kd.R_drewN | apply Kd.R_drew)); exact HO121.out) hb); have n5_ := Aside0.mk (Kd.R_lower (Kd.R_new' (Kd.R_new' ho0 (Kd.R_lt (by (with_reducible repeat (first | apply Kd.R_alloc | apply Kd.R_drewN | apply Kd.R_drew)); exact HO111.out))) (Kd.R_lt (by (with_reducible repeat (first | apply Kd.R_alloc | apply Kd.R_drewN | apply Kd.R_drew)); exact HO118.out))) (below_size (by repeat (first | (with_reducible first | exact HB.out | apply below_alloc | apply pw_below_drewN | apply below_drew1) | exact HB.out)))); have n6_ := Aside0.mk (below_step (by repeat (first | (with_reducible first | exact HB.out | apply below_alloc | apply pw_below_drewN | apply below_drew1) | exact HB.out)) hb); clear HO107; clear HO111; clear HO114; clear HO118; clear HO121; clear HB; have HO107 := n0_; have HO111 := n1_; have HO114 := n2_; have HO118 := n3_; have HO121 := n4_; have HO125 := n5_; have HB := n6_; clear n0_ n1_ n2_ n3_ n4_ n5_ n6_; (try clear hb); (try clear hb2); (try clear hk); (try clear hi); (try clear ho0)) | ((with_reducible refine gate_callee (f := 14) rfl ?_); refine goesL_ (some 29) rfl rfl Try.func14 (by kernel_rfl) rfl #[.int .i64 0, .slice none 0 0] rfl (by (try simp only [List.map_toArray, List.map_cons, List.map_nil]); first | done | rfl | (simp only [List.length_drop, List.length_take]; rfl)) ?_; (refine (order_Sort.calls 0 _ _ ([] : List (S68)) t126 t127 _ ?side1 ?side2 A4.out).mono ?_); (case side1 => exact Kd.C_nil _ _); (case side2 => exact Nat.le_refl _); rintro e w139 ⟨v128, rfl, ho0, hb⟩; refine ⟨_, rfl, ?_⟩; have n0_ := Aside0.mk (Kd.R_below (by (with_reducible repeat (first | apply Kd.R_alloc | apply Kd.R_drewN | apply Kd.R_drew)); exact HO107.out) hb); have n1_ := Aside0.mk (Kd.R_elder' (by (with_reducible repeat (first | apply Kd.R_alloc | apply Kd.R_drewN | apply Kd.R_drew)); exact HO111.out) (Kd.R_base ho0) hb); have n2_ := Aside0.mk (Kd.R_below (by (with_reducible repeat (first | apply Kd.R_alloc | apply Kd.R_drewN | apply Kd.R_drew)); exact HO114.out) hb); have n3_ := Aside0.mk (Kd.R_elder' (by (with_reducible repeat (first | apply Kd.R_alloc | apply Kd.R_drewN | apply Kd.R_drew)); exact HO118.out) (Kd.R_base ho0) hb); have n4_ := Aside0.mk (Kd.R_below (by (with_reducible repeat (first | apply Kd.R_alloc | apply Kd.R_drewN | apply Kd.R_drew)); exact HO121.out) hb); have n5_ := Aside0.mk (Kd.R_elder' (by (with_reducible repeat (first | apply Kd.R_alloc | apply Kd.R_drewN | apply Kd.R_drew)); exact HO125.out) (Kd.R_base ho0) hb); have n6_ := Aside0.mk (Kd.R_lower (Kd.R_new' (Kd.R_new' (Kd.R_new' ho0 (Kd.R_lt (by (with_reducible repeat (first | apply Kd.R_alloc | apply Kd.R_drewN | apply Kd.R_drew)); exact HO111.out))) (Kd.R_lt (by (with_reducible repeat (first | apply Kd.R_alloc | apply Kd.R_drewN | apply Kd.R_drew)); exact HO118.out))) (Kd.R_lt (by (with_reducible repeat (first | apply Kd.R_alloc | apply Kd.R_drewN | apply Kd.R_drew)); exact HO125.out))) (below_size (by repeat (first | (with_reducible first | exact HB.out | apply below_alloc | apply pw_below_drewN | apply below_drew1) | exact HB.out)))); have n7_ := Aside0.mk (below_step (by repeat (first | (with_reducible first | exact HB.out | apply below_alloc | apply pw_below_drewN | apply below_drew1) | exact HB.out)) hb); clear HO107; clear HO111; clear HO114; clear HO118; clear HO121; clear HO125; clear HB; have HO107 := n0_; have HO111 := n1_; have HO114 := n2_; have HO118 := n3_; have HO121 := n4_; have HO125 := n5_; have HO129 := n6_; have HB := n7_; clear n0_ n1_ n2_ n3_ n4_ n5_ n6_ n7_; (try clear hb); (try clear hb2); (try clear hk); (try clear hi); (try clear ho0)) | ((with_reducible refine gate_dst (N := 33) rfl ?_); (try (refine gate_guard (by rfl) ?_; dsimp only)); refine Kd.R_lit (Kd.int .i64) _ 3 ?hg (N := 33) ?hd (xs := ([1, 2, 0] : List Int)) (inner := [.int .i64 1, .int .i64 2, .int .i64 0]) (ok := fun _ => True) (okp := fun _ => True) ?hr ?hp (fun _ hk => hk) trivial (Below.refl _ _) (Nat.le_refl _) (by simp) ?_; (case hd => rfl); (case hg => rfl); (case hr => first | (go_simp; done) | (go_simp; rfl)); (case hp => exact (Reps.one (show Kd.M (Kd.int .i64) _ _ _ 1 [.int .i64 1] from rfl) (Reps.one (show Kd.M (Kd.int .i64) _ _ _ 2 [.int .i64 2] from rfl) (Reps.one (show Kd.M (Kd.int .i64) _ _ _ 0 [.int .i64 0] from rfl) (Reps.none _ _))))); intro v131 w140 ho141 hb hg_ hnew_; clear hg_ hnew_; (first | rw [← Ny130.out] at ho141 | (simp only [Int.reduceToNat] at ho141; rw [← Ny130.out] at ho141)); have n0_ := Aside0.mk (Kd.R_below (by (with_reducible repeat (first | apply Kd.R_alloc | apply Kd.R_drewN | apply Kd.R_drew)); exact HO107.out) hb); have n1_ := Aside0.mk (Kd.R_elder' (by (with_reducible repeat (first | apply Kd.R_alloc | apply Kd.R_drewN | apply Kd.R_drew)); exact HO111.out) (Kd.R_base ho141) hb); have n2_ := Aside0.mk (Kd.R_below (by (with_reducible repeat (first | apply Kd.R_alloc | apply Kd.R_drewN | apply Kd.R_drew)); exact HO114.out) hb); have n3_ := Aside0.mk (Kd.R_elder' (by (with_reducible repeat (first | apply Kd.R_alloc | apply Kd.R_drewN | apply Kd.R_drew)); exact HO118.out) (Kd.R_base ho141) hb); have n4_ := Aside0.mk (Kd.R_below (by (with_reducible repeat (first | apply Kd.R_alloc | apply Kd.R_drewN | apply Kd.R_drew)); exact HO121.out) hb); have n5_ := Aside0.mk (Kd.R_elder' (by (with_reducible repeat (first | apply Kd.R_alloc | apply Kd.R_drewN | apply Kd.R_drew)); exact HO125.out) (Kd.R_base ho141) hb); have n6_ := Aside0.mk (Kd.R_elder' (by (with_reducible repeat (first | apply Kd.R_alloc | apply Kd.R_drewN | apply Kd.R_drew)); exact HO129.out) (Kd.R_base ho141) hb); have n7_ := Aside0.mk (Kd.R_lower (Kd.R_new' (Kd.R_new' (Kd.R_new' (Kd.R_new' ho141 (Kd.R_lt (by (with_reducible repeat (first | apply Kd.R_alloc | apply Kd.R_drewN | apply Kd.R_drew)); exact HO111.out))) (Kd.R_lt (by (with_reducible repeat (first | apply Kd.R_alloc | apply Kd.R_drewN | apply Kd.R_drew)); exact HO118.out))) (Kd.R_lt (by (with_reducible repeat (first | apply Kd.R_alloc | apply Kd.R_drewN | apply Kd.R_drew)); exact HO125.out))) (Kd.R_lt (by (with_reducible repeat (first | apply Kd.R_alloc | apply Kd.R_drewN | apply Kd.R_drew)); exact HO129.out))) (below_size (by repeat (first | (with_reducible first | exact HB.out | apply below_alloc | apply pw_below_drewN | apply below_drew1) | exact HB.out)))); have n8_ := Aside0.mk (below_step (by repeat (first | (with_reducible first | exact HB.out | apply below_alloc | apply pw_below_drewN | apply below_drew1) | exact HB.out)) hb); clear HO107; clear HO111; clear HO114; clear HO118; clear HO121; clear HO125; clear HO129; clear HB; have HO107 := n0_; have HO111 := n1_; have HO114 := n2_; have HO118 := n3_; have HO121 := n4_; have HO125 := n5_; have HO129 := n6_; have HO132 := n7_; have HB := n8_; clear n0_ n1_ n2_ n3_ n4_ n5_ n6_ n7_ n8_; clear hb ho141; obtain ⟨Ao142, co142, eo142⟩ := Kd.R_slice HO111.out; subst eo142; obtain ⟨Ao143, co143, eo143⟩ := Kd.R_slice HO132.out; subst eo143) | ((with_reducible refine gate_callee (f := 17) rfl ?_); refine goesL_ (some 34) rfl rfl Try.func17 (by kernel_rfl) rfl #[.slice Ao142 t108.length co142, .slice Ao143 y130.length co143] rfl (by (try simp only [List.map_toArray, List.map_cons, List.map_nil]); first | done | rfl | (simp only [List.length_drop, List.length_take]; rfl)) ?_; (with_reducible refine (arlinkref04_Numbers.calls k _ _ t108 _ _ y130 false _ ?side1 ?side2 ?side3 ?side4 A5.out).mono ?_); (case side1 => repeat (first | exact (Kd.R_reads' HO111.out).2.2 | (with_reducible refine Kd.C_alloc ?_ _) | (with_reducible refine Kd.C_drewN ?_ _) | (with_reducible refine Kd.C_drew ?_))); (case side2 => exact (Kd.R_reads' HO111.out).2.1); (case side3 => repeat (first | exact (Kd.R_reads' HO132.out).2.2 | (with_reducible refine Kd.C_alloc ?_ _) | (with_reducible refine Kd.C_drewN ?_ _) | (with_reducible refine Kd.C_drew ?_))); (case side4 => exact (Kd.R_reads' HO132.out).2.1); rintro e w' ⟨rfl, ⟨nd, rfl⟩⟩; refine ⟨_, rfl, ?_⟩))
  go_ret
  exact ⟨by first | rfl | (simp [errW_none, errW_some] <;> rfl) | (simp [*, errW_none, errW_some] <;> rfl), by repeat (first | (with_reducible first | exact HB.out | apply below_alloc | apply pw_below_drewN | apply below_drew1) | exact HB.out)⟩
end Go.Proofs.Ythpjpkcfepmhkaa.PAll
namespace Go.Proofs.Ythpjpkcfepmhkaa.PAll
open Go.RowKit Go.Proofs.YthpjpkcfepmhkaaW.PrintWords Go.Proofs.YthpjpkcfepmhkaaW.PrintLast Go.Proofs.YthpjpkcfepmhkaaW.PrintMore
attribute [local go_sem] max2_int min2_int max_two min_two max_three min_three max_four min_four   -- for this text's walks alone
set_option linter.unusedVariables false
set_option linter.unusedSimpArgs false
mutual
def arlinklaw23_OrderArchives.j0 : Nat → List (List (S50)) → Bool → Option (Bool)
 | 0, _, _ => none
 | k + 1, x0, x16 => if x16 = true then ((arlinklaw23_awake.f k).bind fun t508 => (some t508)) else ((arlinkref23_Needs.f k x0).bind fun t509 => ((order_Needs.f k x0).bind fun t512 => ((arlinklaw23_back.f k t512).bind fun t515 => ((arlinkref23_Same.f k t515 t509).bind fun t518 => (if t518 = true then ((order_Archives.f k x0).bind fun bt519 => ((arlinkref23_Sort.f k (x0.length : Int) t509).bind fun bt523 => ((arlinkref04_Numbers.f k bt519.1 bt523.1).bind fun t527 => (if t527 = true then (arlinklaw23_OrderArchives.j1 k x0 bt519.1 (bt519.2 != bt523.2)) else (arlinklaw23_OrderArchives.j1 k x0 bt519.1 true))))) else (some false))))))
def arlinklaw23_OrderArchives.j1 : Nat → List (List (S50)) → List Int → Bool → Option (Bool)
 | 0, _, _, _ => none
 | k + 1, x0, x4, x46 => if x46 = true then (some false) else (arlinklaw23_OrderArchives.l0 k x0 x4 0)
def arlinklaw23_OrderArchives.l0 : Nat → List (List (S50)) → List Int → Int → Option (Bool)
 | 0, _, _, _ => none
 | k + 1, x0, x4, x8 => if x8 < (x4.length : Int) then (arlinklaw23_OrderArchives.l1 k x0 x4 x8 0) else (some true)
def arlinklaw23_OrderArchives.l1 : Nat → List (List (S50)) → List Int → Int → Int → Option (Bool)
 | 0, _, _, _, _ => none
 | k + 1, x0, x4, x8, x9 => if x9 < x8 then (if 0 ≤ x8 then (if x8 < (x4.length : Int) then (if 0 ≤ (rd x4 x8) then (if (rd x4 x8) < (x0.length : Int) then (if 0 ≤ x9 then (if x9 < (x4.length : Int) then (if 0 ≤ (rd x4 x9) then (if (rd x4 x9) < (x0.length : Int) then ((arlinkref23_Need.f k (rd_L10 x0 (rd x4 x8)) (rd_L10 x0 (rd x4 x9))).bind fun t532 => (if t532 = true then (some false) else (arlinklaw23_OrderArchives.l1 k x0 x4 x8 (wrap64 (x9 + 1))))) else (none)) else (none)) else (none)) else (none)) else (none)) else (none)) else (none)) else (none)) else (arlinklaw23_OrderArchives.l0 k x0 x4 (wrap64 (x8 + 1)))
end
def arlinklaw23_OrderArchives.f (k : Nat) (l0 : List (List (S50))) : Option (Bool) := (arlinklaw23_awake.f k).bind fun t506 => (if t506 = true then ((arlinklaw23_right.f k l0).bind fun t507 => (arlinklaw23_OrderArchives.j0 k l0 (!t507))) else (arlinklaw23_OrderArchives.j0 k l0 true))
def arlinklaw23_OrderArchives.T16 : Bool × List (List Nat × List Nat) := (true, [([], []), ([], []), ([], []), ([1, 2], [1, 2]), ([3], [3]), ([0, 4], [0, 4]), ([5], [5]), ([], []), ([], []), ([], []), ([8, 9], [8, 9]), ([10], [10]), ([7, 11], [7, 11]), ([12], [12]), ([6, 13], [6, 13])])
def arlinklaw23_OrderArchives.B16 : List Nat := [0, 0, 0, 6, 14, 31, 63, 0, 0, 0, 768, 1792, 3968, 8064, 16383]
theorem arlinklaw23_OrderArchives.tab16 : rtab .any (opsOf Try.f11 16) = arlinklaw23_OrderArchives.T16 := by kernel_rfl
theorem arlinklaw23_OrderArchives.bits16 : waitsOk arlinklaw23_OrderArchives.T16.2 arlinklaw23_OrderArchives.B16 = true := by kernel_rfl
set_option maxHeartbeats 8000000 in
set_option maxRecDepth 100000 in
theorem arlinklaw23_OrderArchives.calls (k : Nat) (A0 : Option Addr) (c0 : Nat) (l0 : List (List (S50))) (r : Bool) (w : World) (hr0 : Kd.C (Kd.slice 50 k50) w A0 l0.length l0) (hc0 : l0.length ≤ c0) (h : arlinklaw23_OrderArchives.f k l0 = some r) :
  Calls Try.prog 11 #[.slice A0 l0.length c0] w fun e w' => e = .returned (.bool r) ∧ Below w.heap.size w w' := by
 have HR0 := Aside0.mk hr0
 have HC0 := Aside0.mk hc0
 clear hr0 hc0
 have HB := Aside0.mk (Below.refl w.heap.size w)
 have H : ((arlinklaw23_awake.f k).bind fun t506 => (if t506 = true then ((arlinklaw23_right.f k l0).bind fun t507 => (arlinklaw23_OrderArchives.j0 k l0 (!t507))) else (arlinklaw23_OrderArchives.j0 k l0 true))) = some r := h
 clear h
 have HC2 := Aside0.mk H
 clear H
 go_enter Try.func11, Try.ntmps11
 go_upto_region 1 with (fail)
 go_cut [16] (fun v16 wc => ∃ (kq : Nat) (x16_1 : Bool), v16 = .bool x16_1 ∧ Aside0 (arlinklaw23_OrderArchives.j0 kq l0 x16_1 = some r) ∧ Aside0 (kq ≤ k) ∧ Aside0 (Below w.heap.size w wc))
 case first =>
  have H := HC2.out
  clear HC2
  replace H := Option.bind_eq_some_iff.mp H
  obtain ⟨t506, A30, H⟩ := H
  replace H : (if t506 = true then ((arlinklaw23_right.f k l0).bind fun t507 => (arlinklaw23_OrderArchives.j0 k l0 (!t507))) else (arlinklaw23_OrderArchives.j0 k l0 true)) = some r := H
  have A3 := Aside0.mk A30
  clear A30
  by_cases c4 : t506 = true
  ·subst c4
   have H1 : ((arlinklaw23_right.f k l0).bind fun t507 => (arlinklaw23_OrderArchives.j0 k l0 (!t507))) = some r := by rw [if_pos rfl] at H; exact H
   clear H
   have H := H1
   clear H1
   replace H := Option.bind_eq_some_iff.mp H
   obtain ⟨t507, A50, H⟩ := H
   replace H : (arlinklaw23_OrderArchives.j0 k l0 (!t507)) = some r := H
   have A5 := Aside0.mk A50
   clear A50
   have H' := Aside0.mk H
   clear H
   go_wp2_with (first | ((with_reducible refine gate_callee (f := 13) rfl ?_); refine goesL_ (some 10) rfl rfl Try.func13 (by kernel_rfl) rfl #[] rfl (by (try simp only [List.map_toArray, List.map_cons, List.map_nil]); first | done | rfl | (simp only [List.length_drop, List.length_take]; rfl)) ?_; (with_reducible refine (arlinklaw23_awake.calls k  true _ A3.out).mono ?_); rintro e w6 ⟨rfl, hb⟩; refine ⟨_, rfl, ?_⟩; have n0_ := Aside0.mk (below_step (by repeat (first | (with_reducible first | exact HB.out | apply below_alloc | apply pw_below_drewN | apply below_drew1) | exact HB.out)) hb); clear HB; have HB := n0_; clear n0_; (try clear hb); (try clear hb2); (try clear hk); (try clear hi)) | (go_at_call 33; (with_reducible refine (arlinklaw23_right.calls k _ _ l0 t507 _ ?side1 ?side2 A5.out).mono ?_); (case side1 => repeat (first | exact (Kd.C_below HR0.out HB.out) | (with_reducible refine Kd.C_alloc ?_ _) | (with_reducible refine Kd.C_drewN ?_ _) | (with_reducible refine Kd.C_drew ?_))); (case side2 => exact HC0.out); rintro e w7 ⟨rfl, hb⟩; have n0_ := Aside0.mk (below_step (by repeat (first | (with_reducible first | exact HB.out | apply below_alloc | apply pw_below_drewN | apply below_drew1) | exact HB.out)) hb); clear HB; have HB := n0_; clear n0_; (try clear hb); (try clear hb2); (try clear hk); (try clear hi)))
   go_meet
   case rel => exact ⟨_, (!t507), (by first | rfl | (simp; done) | (simp [*]; done)), H', ⟨by first | omega | exact Nat.le_refl _⟩, ⟨by repeat (first | (with_reducible first | exact HB.out | apply below_alloc | apply pw_below_drewN | apply below_drew1) | exact HB.out)⟩⟩
  ·replace c4 := Bool.eq_false_iff.mpr c4
   subst c4
   have H1 : (arlinklaw23_OrderArchives.j0 k l0 true) = some r := by rw [if_neg (show ¬ (false = true) by decide)] at H; exact H
   clear H
   have H := H1
   clear H1
   have H' := Aside0.mk H
   clear H
   go_wp2_with (first | ((with_reducible refine gate_callee (f := 13) rfl ?_); refine goesL_ (some 10) rfl rfl Try.func13 (by kernel_rfl) rfl #[] rfl (by (try simp only [List.map_toArray, List.map_cons, List.map_nil]); first | done | rfl | (simp only [List.length_drop, List.length_take]; rfl)) ?_; (with_reducible refine (arlinklaw23_awake.calls k  false _ A3.out).mono ?_); rintro e w8 ⟨rfl, hb⟩; refine ⟨_, rfl, ?_⟩; have n0_ := Aside0.mk (below_step (by repeat (first | (with_reducible first | exact HB.out | apply below_alloc | apply pw_below_drewN | apply below_drew1) | exact HB.out)) hb); clear HB; have HB := n0_; clear n0_; (try clear hb); (try clear hb2); (try clear hk); (try clear hi)))
   go_meet
   case rel => exact ⟨_, (true), (by first | rfl | (simp; done) | (simp [*]; done)), H', ⟨by first | omega | exact Nat.le_refl _⟩, ⟨by repeat (first | (with_reducible first | exact HB.out | apply below_alloc | apply pw_below_drewN | apply below_drew1) | exact HB.out)⟩⟩
 case rest =>
  clear HC2
  try clear c1
  try clear p2
  try clear c4
  obtain ⟨kq, x16_1, rfl, HA, HJ1, HB⟩ := hcut
  cases kq with
  | zero => exact absurd HA.out (by simp [arlinklaw23_OrderArchives.j0])
  | succ kj1 =>
   have H := HA.out
   clear HA
   simp only [arlinklaw23_OrderArchives.j0] at H
   by_cases c9 : x16_1 = true
   ·subst c9
    have H1 : ((arlinklaw23_awake.f kj1).bind fun t508 => (some t508)) = some r := by rw [if_pos rfl] at H; exact H
    clear H
    have H := H1
    clear H1
    replace H := Option.bind_eq_some_iff.mp H
    obtain ⟨t508, A100, H⟩ := H
    replace H : (some t508) = some r := H
    have A10 := Aside0.mk A100
    clear A100
    obtain rfl := Option.some.inj H
    go_wp2_with (first | ((with_reducible refine gate_callee (f := 13) rfl ?_); refine goesL_ (some 17) rfl rfl Try.func13 (by kernel_rfl) rfl #[] rfl (by (try simp only [List.map_toArray, List.map_cons, List.map_nil]); first | done | rfl | (simp only [List.length_drop, List.length_take]; rfl)) ?_; (with_reducible refine (arlinklaw23_awake.calls kj1  t508 _ A10.out).mono ?_); rintro e w11 ⟨rfl, hb⟩; refine ⟨_, rfl, ?_⟩; have n0_ := Aside0.mk (below_step (by repeat (first | (with_reducible first | exact HB.out | apply below_alloc | apply pw_below_drewN | apply below_drew1) | exact HB.out)) hb); clear HB; have HB := n0_; clear n0_; (try clear hb); (try clear hb2); (try clear hk); (try clear hi)))
    go_ret
    exact ⟨by first | rfl | (simp [errW_none, errW_some] <;> rfl) | (simp [*, errW_none, errW_some] <;> rfl), by repeat (first | (with_reducible first | exact HB.out | apply below_alloc | apply pw_below_drewN | apply below_drew1) | exact HB.out)⟩
   ·replace c9 := Bool.eq_false_iff.mpr c9
    subst c9
    have H1 : ((arlinkref23_Needs.f kj1 l0).bind fun t509 => ((order_Needs.f kj1 l0).bind fun t512 => ((arlinklaw23_back.f kj1 t512).bind fun t515 => ((arlinkref23_Same.f kj1 t515 t509).bind fun t518 => (if t518 = true then ((order_Archives.f kj1 l0).bind fun bt519 => ((arlinkref23_Sort.f kj1 (l0.length : Int) t509).bind fun bt523 => ((arlinkref04_Numbers.f kj1 bt519.1 bt523.1).bind fun t527 => (if t527 = true then (arlinklaw23_OrderArchives.j1 kj1 l0 bt519.1 (bt519.2 != bt523.2)) else (arlinklaw23_OrderArchives.j1 kj1 l0 bt519.1 true))))) else (some false)))))) = some r := by rw [if_neg (show ¬ (false = true) by decide)] at H; exact H
    clear H
    have H := H1
    clear H1
    replace H := Option.bind_eq_some_iff.mp H
    obtain ⟨t509, A120, H⟩ := H
    replace H : ((order_Needs.f kj1 l0).bind fun t512 => ((arlinklaw23_back.f kj1 t512).bind fun t515 => ((arlinkref23_Same.f kj1 t515 t509).bind fun t518 => (if t518 = true then ((order_Archives.f kj1 l0).bind fun bt519 => ((arlinkref23_Sort.f kj1 (l0.length : Int) t509).bind fun bt523 => ((arlinkref04_Numbers.f kj1 bt519.1 bt523.1).bind fun t527 => (if t527 = true then (arlinklaw23_OrderArchives.j1 kj1 l0 bt519.1 (bt519.2 != bt523.2)) else (arlinklaw23_OrderArchives.j1 kj1 l0 bt519.1 true))))) else (some false))))) = some r := H
    have A12 := Aside0.mk A120
    clear A120
    replace H := Option.bind_eq_some_iff.mp H
    obtain ⟨t512, A130, H⟩ := H
    replace H : ((arlinklaw23_back.f kj1 t512).bind fun t515 => ((arlinkref23_Same.f kj1 t515 t509).bind fun t518 => (if t518 = true then ((order_Archives.f kj1 l0).bind fun bt519 => ((arlinkref23_Sort.f kj1 (l0.length : Int) t509).bind fun bt523 => ((arlinkref04_Numbers.f kj1 bt519.1 bt523.1).bind fun t527 => (if t527 = true then (arlinklaw23_OrderArchives.j1 kj1 l0 bt519.1 (bt519.2 != bt523.2)) else (arlinklaw23_OrderArchives.j1 kj1 l0 bt519.1 true))))) else (some false)))) = some r := H
    have A13 := Aside0.mk A130
    clear A130
    replace H := Option.bind_eq_some_iff.mp H
    obtain ⟨t515, A140, H⟩ := H
    replace H : ((arlinkref23_Same.f kj1 t515 t509).bind fun t518 => (if t518 = true then ((order_Archives.f kj1 l0).bind fun bt519 => ((arlinkref23_Sort.f kj1 (l0.length : Int) t509).bind fun bt523 => ((arlinkref04_Numbers.f kj1 bt519.1 bt523.1).bind fun t527 => (if t527 = true then (arlinklaw23_OrderArchives.j1 kj1 l0 bt519.1 (bt519.2 != bt523.2)) else (arlinklaw23_OrderArchives.j1 kj1 l0 bt519.1 true))))) else (some false))) = some r := H
    have A14 := Aside0.mk A140
    clear A140
    replace H := Option.bind_eq_some_iff.mp H
    obtain ⟨t518, A150, H⟩ := H
    replace H : (if t518 = true then ((order_Archives.f kj1 l0).bind fun bt519 => ((arlinkref23_Sort.f kj1 (l0.length : Int) t509).bind fun bt523 => ((arlinkref04_Numbers.f kj1 bt519.1 bt523.1).bind fun t527 => (if t527 = true then (arlinklaw23_OrderArchives.j1 kj1 l0 bt519.1 (bt519.2 != bt523.2)) else (arlinklaw23_OrderArchives.j1 kj1 l0 bt519.1 true))))) else (some false)) = some r := H
    have A15 := Aside0.mk A150
    clear A150
    by_cases c16 : t518 = true
    ·subst c16
     have H1 : ((order_Archives.f kj1 l0).bind fun bt519 => ((arlinkref23_Sort.f kj1 (l0.length : Int) t509).bind fun bt523 => ((arlinkref04_Numbers.f kj1 bt519.1 bt523.1).bind fun t527 => (if t527 = true then (arlinklaw23_OrderArchives.j1 kj1 l0 bt519.1 (bt519.2 != bt523.2)) else (arlinklaw23_OrderArchives.j1 kj1 l0 bt519.1 true))))) = some r := by rw [if_pos rfl] at H; exact H
     clear H
     have H := H1
     clear H1
     replace H := Option.bind_eq_some_iff.mp H
     obtain ⟨⟨t519, t520⟩, A170, H⟩ := H
     replace H : ((arlinkref23_Sort.f kj1 (l0.length : Int) t509).bind fun bt523 => ((arlinkref04_Numbers.f kj1 t519 bt523.1).bind fun t527 => (if t527 = true then (arlinklaw23_OrderArchives.j1 kj1 l0 t519 (t520 != bt523.2)) else (arlinklaw23_OrderArchives.j1 kj1 l0 t519 true)))) = some r := H
     have A17 := Aside0.mk A170
     clear A170
     replace H := Option.bind_eq_some_iff.mp H
     obtain ⟨⟨t523, t524⟩, A180, H⟩ := H
     replace H : ((arlinkref04_Numbers.f kj1 t519 t523).bind fun t527 => (if t527 = true then (arlinklaw23_OrderArchives.j1 kj1 l0 t519 (t520 != t524)) else (arlinklaw23_OrderArchives.j1 kj1 l0 t519 true))) = some r := H
     have A18 := Aside0.mk A180
     clear A180
     have HC19 := Aside0.mk H
     clear H
     go_upto_region 8 with (first | ((with_reducible refine gate_callee (f := 34) rfl ?_); refine goesL_ (some 19) rfl rfl Try.func34 (by kernel_rfl) rfl #[.slice A0 l0.length c0] rfl (by (try simp only [List.map_toArray, List.map_cons, List.map_nil]); first | done | rfl | (simp only [List.length_drop, List.length_take]; rfl)) ?_; (with_reducible refine (arlinkref23_Needs.calls kj1 _ _ l0 t509 _ ?side1 ?side2 A12.out).mono ?_); (case side1 => repeat (first | exact (Kd.C_below HR0.out HB.out) | (with_reducible refine Kd.C_alloc ?_ _) | (with_reducible refine Kd.C_drewN ?_ _) | (with_reducible refine Kd.C_drew ?_))); (case side2 => exact HC0.out); rintro e w20 ⟨v510, rfl, ho0, hb⟩; refine ⟨_, rfl, ?_⟩; have n0_ := Aside0.mk (Kd.R_lower ho0 (below_size (by repeat (first | (with_reducible first | exact HB.out | apply below_alloc | apply pw_below_drewN | apply below_drew1) | exact HB.out)))); have n1_ := Aside0.mk (below_step (by repeat (first | (with_reducible first | exact HB.out | apply below_alloc | apply pw_below_drewN | apply below_drew1) | exact HB.out)) hb); clear HB; have HO511 := n0_; have HB := n1_; clear n0_ n1_; (try clear hb); (try clear hb2); (try clear hk); (try clear hi); (try clear ho0)) | ((with_reducible refine gate_callee (f := 37) rfl ?_); refine goesL_ (some 21) rfl rfl Try.func37 (by kernel_rfl) rfl #[.slice A0 l0.length c0] rfl (by (try simp only [List.map_toArray, List.map_cons, List.map_nil]); first | done | rfl | (simp only [List.length_drop, List.length_take]; rfl)) ?_; (with_reducible refine (order_Needs.calls kj1 _ _ l0 t512 _ ?side1 ?side2 A13.out).mono ?_); (case side1 => repeat (first | exact (Kd.C_below HR0.out HB.out) | (with_reducible refine Kd.C_alloc ?_ _) | (with_reducible refine Kd.C_drewN ?_ _) | (with_reducible refine Kd.C_drew ?_))); (case side2 => exact HC0.out); rintro e w21 ⟨v513, rfl, ho0, hb⟩; refine ⟨_, rfl, ?_⟩; have n0_ := Aside0.mk (Kd.R_below (by (with_reducible repeat (first | apply Kd.R_alloc | apply Kd.R_drewN | apply Kd.R_drew)); exact HO511.out) hb); have n1_ := Aside0.mk (Kd.R_lower ho0 (below_size (by repeat (first | (with_reducible first | exact HB.out | apply below_alloc | apply pw_below_drewN | apply below_drew1) | exact HB.out)))); have n2_ := Aside0.mk (below_step (by repeat (first | (with_reducible first | exact HB.out | apply below_alloc | apply pw_below_drewN | apply below_drew1) | exact HB.out)) hb); clear HO511; clear HB; have HO511 := n0_; have HO514 := n1_; have HB := n2_; clear n0_ n1_ n2_; (try clear hb); (try clear hb2); (try clear hk); (try clear hi); (try clear ho0); obtain ⟨Ao22, co22, eo22⟩ := Kd.R_slice HO514.out; subst eo22) | ((with_reducible refine gate_callee (f := 36) rfl ?_); refine goesL_ (some 22) rfl rfl Try.func36 (by kernel_rfl) rfl #[.slice Ao22 t512.length co22] rfl (by (try simp only [List.map_toArray, List.map_cons, List.map_nil]); first | done | rfl | (simp only [List.length_drop, List.length_take]; rfl)) ?_; (with_reducible refine (arlinklaw23_back.calls kj1 _ _ t512 t515 _ ?side1 ?side2 A14.out).mono ?_); (case side1 => repeat (first | exact (Kd.R_reads' HO514.out).2.2 | (with_reducible refine Kd.C_alloc ?_ _) | (with_reducible refine Kd.C_drewN ?_ _) | (with_reducible refine Kd.C_drew ?_))); (case side2 => exact (Kd.R_reads' HO514.out).2.1); rintro e w23 ⟨v516, rfl, ho0, hb⟩; refine ⟨_, rfl, ?_⟩; have n0_ := Aside0.mk (Kd.R_elder' (by (with_reducible repeat (first | apply Kd.R_alloc | apply Kd.R_drewN | apply Kd.R_drew)); exact HO511.out) (Kd.R_base ho0) hb); have n1_ := Aside0.mk (Kd.R_below (by (with_reducible repeat (first | apply Kd.R_alloc | apply Kd.R_drewN | apply Kd.R_drew)); exact HO514.out) hb); have n2_ := Aside0.mk (Kd.R_lower (Kd.R_new' ho0 (Kd.R_lt (by (with_reducible repeat (first | apply Kd.R_alloc | apply Kd.R_drewN | apply Kd.R_drew)); exact HO511.out))) (below_size (by repeat (first | (with_reducible first | exact HB.out | apply below_alloc | apply pw_below_drewN | apply below_drew1) | exact HB.out)))); have n3_ := Aside0.mk (below_step (by repeat (first | (with_reducible first | exact HB.out | apply below_alloc | apply pw_below_drewN | apply below_drew1) | exact HB.out)) hb); clear HO511; clear HO514; clear HB; have HO511 := n0_; have HO514 := n1_; have HO517 := n2_; have HB := n3_; clear n0_ n1_ n2_ n3_; (try clear hb); (try clear hb2); (try clear hk); (try clear hi); (try clear ho0); obtain ⟨Ao24, co24, eo24⟩ := Kd.R_slice HO517.out; subst eo24; obtain ⟨Ao25, co25, eo25⟩ := Kd.R_slice HO511.out; subst eo25) | ((with_reducible refine gate_callee (f := 35) rfl ?_); refine goesL_ (some 24) rfl rfl Try.func35 (by kernel_rfl) rfl #[.slice Ao24 t515.length co24, .slice Ao25 t509.length co25] rfl (by (try simp only [List.map_toArray, List.map_cons, List.map_nil]); first | done | rfl | (simp only [List.length_drop, List.length_take]; rfl)) ?_; (with_reducible refine (arlinkref23_Same.calls kj1 _ _ t515 _ _ t509 true _ ?side1 ?side2 ?side3 ?side4 A15.out).mono ?_); (case side1 => repeat (first | exact (Kd.R_reads' HO517.out).2.2 | (with_reducible refine Kd.C_alloc ?_ _) | (with_reducible refine Kd.C_drewN ?_ _) | (with_reducible refine Kd.C_drew ?_))); (case side2 => exact (Kd.R_reads' HO517.out).2.1); (case side3 => repeat (first | exact (Kd.R_reads' HO511.out).2.2 | (with_reducible refine Kd.C_alloc ?_ _) | (with_reducible refine Kd.C_drewN ?_ _) | (with_reducible refine Kd.C_drew ?_))); (case side4 => exact (Kd.R_reads' HO511.out).2.1); rintro e w' ⟨rfl, ⟨nd, rfl⟩⟩; refine ⟨_, rfl, ?_⟩) | ((with_reducible refine gate_callee (f := 38) rfl ?_); refine goesL_ (some 28) rfl rfl Try.func38 (by kernel_rfl) rfl #[.slice A0 l0.length c0] rfl (by (try simp only [List.map_toArray, List.map_cons, List.map_nil]); first | done | rfl | (simp only [List.length_drop, List.length_take]; rfl)) ?_; (with_reducible refine (order_Archives.calls kj1 _ _ l0 t519 t520 _ ?side1 ?side2 A17.out).mono ?_); (case side1 => repeat (first | exact (Kd.C_below HR0.out (by repeat (first | (with_reducible first | exact HB.out | apply below_alloc | apply pw_below_drewN | apply below_drew1) | exact HB.out))) | (with_reducible refine Kd.C_alloc ?_ _) | (with_reducible refine Kd.C_drewN ?_ _) | (with_reducible refine Kd.C_drew ?_))); (case side2 => exact HC0.out); rintro e w26 ⟨v521, rfl, ho0, hb⟩; refine ⟨_, rfl, ?_⟩; have n0_ := Aside0.mk (Kd.R_below (by (with_reducible repeat (first | apply Kd.R_alloc | apply Kd.R_drewN | apply Kd.R_drew)); exact HO511.out) hb); have n1_ := Aside0.mk (Kd.R_below (by (with_reducible repeat (first | apply Kd.R_alloc | apply Kd.R_drewN | apply Kd.R_drew)); exact HO514.out) hb); have n2_ := Aside0.mk (Kd.R_below (by (with_reducible repeat (first | apply Kd.R_alloc | apply Kd.R_drewN | apply Kd.R_drew)); exact HO517.out) hb); have n3_ := Aside0.mk (Kd.R_lower ho0 (below_size (by repeat (first | (with_reducible first | exact HB.out | apply below_alloc | apply pw_below_drewN | apply below_drew1) | exact HB.out)))); have n4_ := Aside0.mk (below_step (by repeat (first | (with_reducible first | exact HB.out | apply below_alloc | apply pw_below_drewN | apply below_drew1) | exact HB.out)) hb); clear HO511; clear HO514; clear HO517; clear HB; have HO511 := n0_; have HO514 := n1_; have HO517 := n2_; have HO522 := n3_; have HB := n4_; clear n0_ n1_ n2_ n3_ n4_; (try clear hb); (try clear hb2); (try clear hk); (try clear hi); (try clear ho0)) | ((with_reducible refine gate_callee (f := 16) rfl ?_); refine goesL_ (some 35) rfl rfl Try.func16 (by kernel_rfl) rfl #[.int .i64 (l0.length : Int), .slice Ao25 t509.length co25] rfl (by (try simp only [List.map_toArray, List.map_cons, List.map_nil]); first | done | rfl | (simp only [List.length_drop, List.length_take]; rfl)) ?_; (with_reducible refine (arlinkref23_Sort.calls kj1 (l0.length : Int) _ _ t509 t523 t524 _ ?side1 ?side2 A18.out).mono ?_); (case side1 => repeat (first | exact (Kd.R_reads' HO511.out).2.2 | (with_reducible refine Kd.C_alloc ?_ _) | (with_reducible refine Kd.C_drewN ?_ _) | (with_reducible refine Kd.C_drew ?_))); (case side2 => exact (Kd.R_reads' HO511.out).2.1); rintro e w27 ⟨v525, rfl, ho0, hb⟩; refine ⟨_, rfl, ?_⟩; have n0_ := Aside0.mk (Kd.R_below (by (with_reducible repeat (first | apply Kd.R_alloc | apply Kd.R_drewN | apply Kd.R_drew)); exact HO511.out) hb); have n1_ := Aside0.mk (Kd.R_below (by (with_reducible repeat (first | apply Kd.R_alloc | apply Kd.R_drewN | apply Kd.R_drew)); exact HO514.out) hb); have n2_ := Aside0.mk (Kd.R_below (by (with_reducible repeat (first | apply Kd.R_alloc | apply Kd.R_drewN | apply Kd.R_drew)); exact HO517.out) hb); have n3_ := Aside0.mk (Kd.R_elder' (by (with_reducible repeat (first | apply Kd.R_alloc | apply Kd.R_drewN | apply Kd.R_drew)); exact HO522.out) (Kd.R_base ho0) hb); have n4_ := Aside0.mk (Kd.R_lower (Kd.R_new' ho0 (Kd.R_lt (by (with_reducible repeat (first | apply Kd.R_alloc | apply Kd.R_drewN | apply Kd.R_drew)); exact HO522.out))) (below_size (by repeat (first | (with_reducible first | exact HB.out | apply below_alloc | apply pw_below_drewN | apply below_drew1) | exact HB.out)))); have n5_ := Aside0.mk (below_step (by repeat (first | (with_reducible first | exact HB.out | apply below_alloc | apply pw_below_drewN | apply below_drew1) | exact HB.out)) hb); clear HO511; clear HO514; clear HO517; clear HO522; clear HB; have HO511 := n0_; have HO514 := n1_; have HO517 := n2_; have HO522 := n3_; have HO526 := n4_; have HB := n5_; clear n0_ n1_ n2_ n3_ n4_ n5_; (try clear hb); (try clear hb2); (try clear hk); (try clear hi); (try clear ho0)))
     (try simp only [Act.put, List.setIfInBounds_toArray, List.set_cons_zero, List.set_cons_succ])
     go_cut [46] (fun v46 wc => ∃ (kq : Nat) (x46_18 : Bool), v46 = .bool x46_18 ∧ Aside0 (arlinklaw23_OrderArchives.j1 kq l0 t519 x46_18 = some r) ∧ Aside0 (kq ≤ kj1) ∧ Aside0 (Kd.R (Kd.int .i64) 3 wc w.heap.size (fun _ => True) v521 t519) ∧ Aside0 (Below w.heap.size w wc))
     case first =>
      have H := HC19.out
      clear HC19
      replace H := Option.bind_eq_some_iff.mp H
      obtain ⟨t527, A280, H⟩ := H
      replace H : (if t527 = true then (arlinklaw23_OrderArchives.j1 kj1 l0 t519 (t520 != t524)) else (arlinklaw23_OrderArchives.j1 kj1 l0 t519 true)) = some r := H
      have A28 := Aside0.mk A280
      clear A280
      by_cases c29 : t527 = true
      ·subst c29
       have H1 : (arlinklaw23_OrderArchives.j1 kj1 l0 t519 (t520 != t524)) = some r := by rw [if_pos rfl] at H; exact H
       clear H
       have H := H1
       clear H1
       have H' := Aside0.mk H
       clear H
       obtain ⟨Ao30, co30, eo30⟩ := Kd.R_slice HO522.out
       subst eo30
       obtain ⟨Ao31, co31, eo31⟩ := Kd.R_slice HO526.out
       subst eo31
       go_wp2_with (first | ((with_reducible refine gate_callee (f := 17) rfl ?_); refine goesL_ (some 40) rfl rfl Try.func17 (by kernel_rfl) rfl #[.slice Ao30 t519.length co30, .slice Ao31 t523.length co31] rfl (by (try simp only [List.map_toArray, List.map_cons, List.map_nil]); first | done | rfl | (simp only [List.length_drop, List.length_take]; rfl)) ?_; (with_reducible refine (arlinkref04_Numbers.calls kj1 _ _ t519 _ _ t523 true _ ?side1 ?side2 ?side3 ?side4 A28.out).mono ?_); (case side1 => repeat (first | exact (Kd.R_reads' HO522.out).2.2 | (with_reducible refine Kd.C_alloc ?_ _) | (with_reducible refine Kd.C_drewN ?_ _) | (with_reducible refine Kd.C_drew ?_))); (case side2 => exact (Kd.R_reads' HO522.out).2.1); (case side3 => repeat (first | exact (Kd.R_reads' HO526.out).2.2 | (with_reducible refine Kd.C_alloc ?_ _) | (with_reducible refine Kd.C_drewN ?_ _) | (with_reducible refine Kd.C_drew ?_))); (case side4 => exact (Kd.R_reads' HO526.out).2.1); rintro e w' ⟨rfl, ⟨nd, rfl⟩⟩; refine ⟨_, rfl, ?_⟩))
       go_meet
       case rel => exact ⟨_, ((t520 != t524)), (by first | rfl | (simp; done) | (simp [*]; done)), H', ⟨by have := HJ1.out; first | omega | exact Nat.le_refl _⟩, ⟨by (with_reducible repeat (first | apply Kd.R_alloc | apply Kd.R_drewN | apply Kd.R_drew)); exact Kd.R_mono HO522.out (fun _ hk => trivial)⟩, ⟨by repeat (first | (with_reducible first | exact HB.out | apply below_alloc | apply pw_below_drewN | apply below_drew1) | exact HB.out)⟩⟩
      ·replace c29 := Bool.eq_false_iff.mpr c29
       subst c29
       have H1 : (arlinklaw23_OrderArchives.j1 kj1 l0 t519 true) = some r := by rw [if_neg (show ¬ (false = true) by decide)] at H; exact H
       clear H
       have H := H1
       clear H1
       have H' := Aside0.mk H
       clear H
       obtain ⟨Ao32, co32, eo32⟩ := Kd.R_slice HO522.out
       subst eo32
       obtain ⟨Ao33, co33, eo33⟩ := Kd.R_slice HO526.out
       subst eo33
       go_wp2_with (first | ((with_reducible refine gate_callee (f := 17) rfl ?_); refine goesL_ (some 40) rfl rfl Try.func17 (by kernel_rfl) rfl #[.slice Ao32 t519.length co32, .slice Ao33 t523.length co33] rfl (by (try simp only [List.map_toArray, List.map_cons, List.map_nil]); first | done | rfl | (simp only [List.length_drop, List.length_take]; rfl)) ?_; (with_reducible refine (arlinkref04_Numbers.calls kj1 _ _ t519 _ _ t523 false _ ?side1 ?side2 ?side3 ?side4 A28.out).mono ?_); (case side1 => repeat (first | exact (Kd.R_reads' HO522.out).2.2 | (with_reducible refine Kd.C_alloc ?_ _) | (with_reducible refine Kd.C_drewN ?_ _) | (with_reducible refine Kd.C_drew ?_))); (case side2 => exact (Kd.R_reads' HO522.out).2.1); (case side3 => repeat (first | exact (Kd.R_reads' HO526.out).2.2 | (with_reducible refine Kd.C_alloc ?_ _) | (with_reducible refine Kd.C_drewN ?_ _) | (with_reducible refine Kd.C_drew ?_))); (case side4 => exact (Kd.R_reads' HO526.out).2.1); rintro e w' ⟨rfl, ⟨nd, rfl⟩⟩; refine ⟨_, rfl, ?_⟩))
       go_meet
       case rel => exact ⟨_, (true), (by first | rfl | (simp; done) | (simp [*]; done)), H', ⟨by have := HJ1.out; first | omega | exact Nat.le_refl _⟩, ⟨by (with_reducible repeat (first | apply Kd.R_alloc | apply Kd.R_drewN | apply Kd.R_drew)); exact Kd.R_mono HO522.out (fun _ hk => trivial)⟩, ⟨by repeat (first | (with_reducible first | exact HB.out | apply below_alloc | apply pw_below_drewN | apply below_drew1) | exact HB.out)⟩⟩
     case rest =>
      clear HC19
      try clear c1
      try clear c2
      try clear p2
      try clear c3
      try clear c4
      try clear c9
      try clear c11
      try clear c13
      try clear c16
      try clear c17
      try clear c29
      try clear p2
      obtain ⟨kq, x46_18, rfl, HA, HJ18, HO_4, HB⟩ := hcut
      cases kq with
      | zero => exact absurd HA.out (by simp [arlinklaw23_OrderArchives.j1])
      | succ kj18 =>
       have H := HA.out
       clear HA
       simp only [arlinklaw23_OrderArchives.j1] at H
       by_cases c34 : x46_18 = true
       ·subst c34
        have H1 : (some false) = some r := by rw [if_pos rfl] at H; exact H
        clear H
        have H := H1
        clear H1
        obtain rfl := Option.some.inj H
        go_wp2
        go_ret
        exact ⟨by first | rfl | (simp [errW_none, errW_some] <;> rfl) | (simp [*, errW_none, errW_some] <;> rfl), by repeat (first | (with_reducible first | exact HB.out | apply below_alloc | apply pw_below_drewN | apply below_drew1) | exact HB.out)⟩
       ·replace c34 := Bool.eq_false_iff.mpr c34
        subst c34
        have H1 : (arlinklaw23_OrderArchives.l0 kj18 l0 t519 0) = some r := by rw [if_neg (show ¬ (false = true) by decide)] at H; exact H
        clear H
        have H := H1
        clear H1
        have H' := Aside0.mk H
        clear H
        go_wp2
        go_loopg [8] kj18 (fun kq v8 w' => ∃ (x8_3 : Int), v8 = .int .i64 x8_3 ∧ Aside0 (arlinklaw23_OrderArchives.l0 kq l0 t519 x8_3 = some r) ∧ Aside0 (kq ≤ kj18) ∧ Aside0 (Kd.R (Kd.int .i64) 3 w' w.heap.size (fun _ => True) v521 t519) ∧ Aside0 (Below w.heap.size w w'))
        case atStart => exact ⟨(0), (by first | rfl | (simp; done) | (simp [*]; done)), H', ⟨Nat.le_refl _⟩, ⟨by (with_reducible repeat (first | apply Kd.R_alloc | apply Kd.R_drewN | apply Kd.R_drew)); exact HO_4.out⟩, ⟨by repeat (first | (with_reducible first | exact HB.out | apply below_alloc | apply pw_below_drewN | apply below_drew1) | exact HB.out)⟩⟩
        case round =>
         clear H'
         try clear c1
         try clear c2
         try clear p2
         try clear c3
         try clear c4
         try clear c9
         try clear c11
         try clear c13
         try clear c16
         try clear c17
         try clear c29
         try clear c34
         try clear p2
         obtain ⟨x8_3, rfl, HA, HK3, HO_4, HB⟩ := hrel
         cases gk with
         | zero => exact absurd HA.out (by simp [arlinklaw23_OrderArchives.l0])
         | succ k3 =>
          have H := HA.out
          clear HA
          simp only [arlinklaw23_OrderArchives.l0] at H
          by_cases c35 : x8_3 < (t519.length : Int)
          ·rw [if_pos c35] at H
           have c35b0 : decide (x8_3 < (t519.length : Int)) = true := decide_eq_true c35
           clear c35
           have H' := Aside0.mk H
           clear H
           obtain ⟨Ao36, co36, eo36⟩ := Kd.R_slice HO_4.out
           subst eo36
           go_wp2
           go_loopg [9] k3 (fun kq v9 w' => ∃ (x9_4 : Int), v9 = .int .i64 x9_4 ∧ Aside0 (arlinklaw23_OrderArchives.l1 kq l0 t519 x8_3 x9_4 = some r) ∧ Aside0 (kq ≤ k3) ∧ Aside0 (Kd.R (Kd.int .i64) 3 w' w.heap.size (fun _ => True) (.slice Ao36 t519.length co36) t519) ∧ Aside0 (Below w.heap.size w w'))
           case atStart => exact ⟨(0), (by first | rfl | (simp; done) | (simp [*]; done)), H', ⟨Nat.le_refl _⟩, ⟨by (with_reducible repeat (first | apply Kd.R_alloc | apply Kd.R_drewN | apply Kd.R_drew)); exact HO_4.out⟩, ⟨by repeat (first | (with_reducible first | exact HB.out | apply below_alloc | apply pw_below_drewN | apply below_drew1) | exact HB.out)⟩⟩
           case round =>
            clear H'
            try clear c1
            try clear c2
            try clear p2
            try clear c3
            try clear c4
            try clear c9
            try clear c11
            try clear c13
            try clear c16
            try clear c17
            try clear c29
            try clear c34
            try clear c35
            try clear c35b0
            try clear c36
            try clear p2
            obtain ⟨x9_4, rfl, HA, HK4, HO_4, HB⟩ := hrel
            cases gk with
            | zero => exact absurd HA.out (by simp [arlinklaw23_OrderArchives.l1])
            | succ k4 =>
             have H := HA.out
             clear HA
             simp only [arlinklaw23_OrderArchives.l1] at H
             by_cases c37 : x9_4 < x8_3
             ·rw [if_pos c37] at H
              have c37b0 : decide (x9_4 < x8_3) = true := decide_eq_true c37
              clear c37
              by_cases c38 : 0 ≤ x8_3
              ·rw [if_pos c38] at H
               have c38b0 : decide (0 ≤ x8_3) = true := decide_eq_true c38
               clear c38
               by_cases c39 : x8_3 < (t519.length : Int)
               ·rw [if_pos c39] at H
                have c39b0 : decide (x8_3 < (t519.length : Int)) = true := decide_eq_true c39
                clear c39
                by_cases c40 : 0 ≤ (rd t519 x8_3)
                ·rw [if_pos c40] at H
                 have c40b0 : decide (0 ≤ (rd t519 x8_3)) = true := decide_eq_true c40
                 clear c40
                 by_cases c41 : (rd t519 x8_3) < (l0.length : Int)
                 ·rw [if_pos c41] at H
                  have c41b0 : decide ((rd t519 x8_3) < (l0.length : Int)) = true := decide_eq_true c41
                  clear c41
                  by_cases c42 : 0 ≤ x9_4
                  ·rw [if_pos c42] at H
                   have c42b0 : decide (0 ≤ x9_4) = true := decide_eq_true c42
                   clear c42
                   by_cases c43 : x9_4 < (t519.length : Int)
                   ·rw [if_pos c43] at H
                    have c43b0 : decide (x9_4 < (t519.length : Int)) = true := decide_eq_true c43
                    clear c43
                    by_cases c44 : 0 ≤ (rd t519 x9_4)
                    ·rw [if_pos c44] at H
                     have c44b0 : decide (0 ≤ (rd t519 x9_4)) = true := decide_eq_true c44
                     clear c44
                     by_cases c45 : (rd t519 x9_4) < (l0.length : Int)
                     ·rw [if_pos c45] at H
                      have c45b0 : decide ((rd t519 x9_4) < (l0.length : Int)) = true := decide_eq_true c45
                      clear c45
                      replace H := Option.bind_eq_some_iff.mp H
                      obtain ⟨t532, A460, H⟩ := H
                      replace H : (if t532 = true then (some false) else (arlinklaw23_OrderArchives.l1 k4 l0 t519 x8_3 (wrap64 (x9_4 + 1)))) = some r := H
                      have A46 := Aside0.mk A460
                      clear A460
                      by_cases c47 : t532 = true
                      ·subst c47
                       have H1 : (some false) = some r := by rw [if_pos rfl] at H; exact H
                       clear H
                       have H := H1
                       clear H1
                       obtain rfl := Option.some.inj H
                       try go_wp2
                       have n0_ := Aside0.mk (Kd.R_drew HO_4.out)
                       have n1_ := Aside0.mk (below_drew1 HB.out)
                       clear HO_4
                       clear HB
                       have HO_4 := n0_
                       have HB := n1_
                       clear n0_ n1_
                       have p528 : 0 ≤ (x8_3 : Int) := of_decide_eq_true (by first | (with_reducible assumption) | assumption)
                       have q528 : x8_3 < (t519.length : Int) := of_decide_eq_true (by first | (with_reducible assumption) | assumption)
                       obtain ⟨ad528, e528, hx528_0⟩ := Kd.at_int (Kd.R_reads' HO_4.out).2.2 x8_3 p528 q528
                       cases e528
                       replace p528 := eq_true p528
                       replace q528 := eq_true q528
                       have p529 : 0 ≤ ((rd t519 x8_3) : Int) := of_decide_eq_true (by first | (with_reducible assumption) | assumption)
                       have q529 : (rd t519 x8_3) < (l0.length : Int) := of_decide_eq_true (by first | (with_reducible assumption) | assumption)
                       obtain ⟨ad529, A529_0, c529_0, e529, hx529_0, hl529_0, hi529_0⟩ := at_L10 HR0.out (rd t519 x8_3) p529 q529
                       have hw529_0 := hx529_0
                       cases e529
                       replace hx529_0 := (HB.out.cell (World.block_lt_of_cell? w _ hx529_0)).trans hx529_0
                       have HR529_0 := Aside0.mk hi529_0
                       have HC529_0 := Aside0.mk hl529_0
                       clear hi529_0 hl529_0
                       replace p529 := eq_true p529
                       replace q529 := eq_true q529
                       have p530 : 0 ≤ (x9_4 : Int) := of_decide_eq_true (by first | (with_reducible assumption) | assumption)
                       have q530 : x9_4 < (t519.length : Int) := of_decide_eq_true (by first | (with_reducible assumption) | assumption)
                       obtain ⟨ad530, e530, hx530_0⟩ := Kd.at_int (Kd.R_reads' HO_4.out).2.2 x9_4 p530 q530
                       obtain rfl : ad528 = ad530 := (by injection e530)
                       replace p530 := eq_true p530
                       replace q530 := eq_true q530
                       have p531 : 0 ≤ ((rd t519 x9_4) : Int) := of_decide_eq_true (by first | (with_reducible assumption) | assumption)
                       have q531 : (rd t519 x9_4) < (l0.length : Int) := of_decide_eq_true (by first | (with_reducible assumption) | assumption)
                       obtain ⟨ad531, A531_0, c531_0, e531, hx531_0, hl531_0, hi531_0⟩ := at_L10 HR0.out (rd t519 x9_4) p531 q531
                       have hw531_0 := hx531_0
                       obtain rfl : ad529 = ad531 := (by injection e531)
                       replace hx531_0 := (HB.out.cell (World.block_lt_of_cell? w _ hx531_0)).trans hx531_0
                       have HR531_0 := Aside0.mk hi531_0
                       have HC531_0 := Aside0.mk hl531_0
                       clear hi531_0 hl531_0
                       replace p531 := eq_true p531
                       replace q531 := eq_true q531
                       refine start_ (n := 15) (S := fun w' => w'.cell? (ad528.add (x8_3).toNat) = some (.int .i64 (rd t519 x8_3)) ∧ w'.cell? (ad529.add ((rd t519 x8_3)).toNat) = some (.slice A529_0 (rd_L10 l0 (rd t519 x8_3)).length c529_0) ∧ w'.cell? (ad528.add (x9_4).toNat) = some (.int .i64 (rd t519 x9_4)) ∧ w'.cell? (ad529.add ((rd t519 x9_4)).toNat) = some (.slice A531_0 (rd_L10 l0 (rd t519 x9_4)).length c531_0)) (ds := []) #[false, false, false, false, false, false, false, false, false, false, false, false, false, false, false] (by kernel_rfl) rfl rfl ⟨hx528_0, ((HB.out.cell (World.block_lt_of_cell? w _ hw529_0)).trans hw529_0), hx530_0, ((HB.out.cell (World.block_lt_of_cell? w _ hw531_0)).trans hw531_0)⟩ (fun hHeld => ?_); refine with_tabW arlinklaw23_OrderArchives.tab16 arlinklaw23_OrderArchives.bits16 (fun HT_ HW_ => ?_)
                       generalize wr.drew = w48 at HO_4 HB HR529_0 HR531_0 hx528_0 hx529_0 hx530_0 hx531_0 hHeld ⊢
                       refine pure_ (i := 0) (N := some 58) (v := ?_) (a' := ?_) #[true, false, false, false, false, false, false, false, false, false, false, false, false, false, false] rfl rfl (any_of HT_.out (by kernel_rfl)) (fun _ _ _ h => h) (Or.inl ⟨by rfl, ?_⟩) ?_ ?_
                       rotate_left
                       ·intro w'
                        go_simp
                        with_reducible rfl
                       rotate_left
                       ·simp only [Act.put, List.setIfInBounds_toArray, List.set_cons_zero, List.set_cons_succ, i64_w, i32_w]
                        rfl
                       refine pure_ (i := 1) (N := some 59) (v := ?_) (a' := ?_) #[true, true, false, false, false, false, false, false, false, false, false, false, false, false, false] rfl rfl (any_of HT_.out (by kernel_rfl)) (fun _ _ _ h => h) (Or.inl ⟨by rfl, ?_⟩) ?_ ?_
                       rotate_left
                       ·intro w'
                        go_simp
                        with_reducible rfl
                       rotate_left
                       ·simp only [Act.put, List.setIfInBounds_toArray, List.set_cons_zero, List.set_cons_succ, i64_w, i32_w]
                        rfl
                       refine pure_ (i := 2) (N := some 60) (v := ?_) (a' := ?_) #[true, true, true, false, false, false, false, false, false, false, false, false, false, false, false] rfl rfl (any_of HT_.out (by kernel_rfl)) (fun _ _ _ h => h) (Or.inl ⟨by rfl, ?_⟩) ?_ ?_
                       rotate_left
                       ·intro w'
                        go_simp
                        with_reducible rfl
                       rotate_left
                       ·simp only [Act.put, List.setIfInBounds_toArray, List.set_cons_zero, List.set_cons_succ, i64_w, i32_w]
                        rfl
                       refine pure_ (i := 3) (N := some 61) (v := ?_) (a' := ?_) #[true, true, true, true, false, false, false, false, false, false, false, false, false, false, false] rfl rfl (any_of HT_.out (by kernel_rfl)) (fun _ _ _ h => h) (Or.inl ⟨by rfl, ?_⟩) ?_ ?_
                       rotate_left
                       ·intro w'
                        go_simp
                        with_reducible rfl
                       rotate_left
                       ·simp only [Act.put, List.setIfInBounds_toArray, List.set_cons_zero, List.set_cons_succ, i64_w, i32_w]
                        rfl
                       refine pure_ (i := 7) (N := some 65) (v := ?_) (a' := ?_) #[true, true, true, true, false, false, false, true, false, false, false, false, false, false, false] rfl rfl (any_of HT_.out (by kernel_rfl)) (fun _ _ _ h => h) (Or.inl ⟨by rfl, ?_⟩) ?_ ?_
                       rotate_left
                       ·intro w'
                        go_simp
                        with_reducible rfl
                       rotate_left
                       ·simp only [Act.put, List.setIfInBounds_toArray, List.set_cons_zero, List.set_cons_succ, i64_w, i32_w]
                        rfl
                       refine pure_ (i := 8) (N := some 66) (v := ?_) (a' := ?_) #[true, true, true, true, false, false, false, true, true, false, false, false, false, false, false] rfl rfl (any_of HT_.out (by kernel_rfl)) (fun _ _ _ h => h) (Or.inl ⟨by rfl, ?_⟩) ?_ ?_
                       rotate_left
                       ·intro w'
                        go_simp
                        with_reducible rfl
                       rotate_left
                       ·simp only [Act.put, List.setIfInBounds_toArray, List.set_cons_zero, List.set_cons_succ, i64_w, i32_w]
                        rfl
                       refine pure_ (i := 9) (N := some 67) (v := ?_) (a' := ?_) #[true, true, true, true, false, false, false, true, true, true, false, false, false, false, false] rfl rfl (any_of HT_.out (by kernel_rfl)) (fun _ _ _ h => h) (Or.inl ⟨by rfl, ?_⟩) ?_ ?_
                       rotate_left
                       ·intro w'
                        go_simp
                        with_reducible rfl
                       rotate_left
                       ·simp only [Act.put, List.setIfInBounds_toArray, List.set_cons_zero, List.set_cons_succ, i64_w, i32_w]
                        rfl
                       refine pure_ (i := 10) (N := some 68) (v := ?_) (a' := ?_) #[true, true, true, true, false, false, false, true, true, true, true, false, false, false, false] rfl rfl (any_of HT_.out (by kernel_rfl)) (fun _ _ _ h => h) (Or.inl ⟨by rfl, ?_⟩) ?_ ?_
                       rotate_left
                       ·intro w'
                        go_simp
                        with_reducible rfl
                       rotate_left
                       ·simp only [Act.put, List.setIfInBounds_toArray, List.set_cons_zero, List.set_cons_succ, i64_w, i32_w]
                        rfl
                       refine take_ (i := 4) (N := some 62) (v := ?_) (a' := ?_) #[true, true, true, true, true, false, false, true, true, true, true, false, false, false, false] rfl rfl (take_ofW HT_.out HW_.out (by kernel_rfl)) (fun _ _ _ h => h) (Or.inl ⟨by rfl, ?_⟩) hHeld ?_ ?_
                       rotate_left
                       ·rintro w' ⟨s0, s1, s2, s3⟩
                        go_simp
                        with_reducible rfl
                       rotate_left
                       ·simp only [Act.put, List.setIfInBounds_toArray, List.set_cons_zero, List.set_cons_succ, i64_w, i32_w]
                        rfl
                       refine pure_ (i := 5) (N := some 63) (v := ?_) (a' := ?_) #[true, true, true, true, true, true, false, true, true, true, true, false, false, false, false] rfl rfl (any_of HT_.out (by kernel_rfl)) (fun _ _ _ h => h) (Or.inl ⟨by rfl, ?_⟩) ?_ ?_
                       rotate_left
                       ·intro w'
                        go_simp
                        with_reducible rfl
                       rotate_left
                       ·simp only [Act.put, List.setIfInBounds_toArray, List.set_cons_zero, List.set_cons_succ, i64_w, i32_w]
                        rfl
                       refine take_ (i := 6) (N := some 64) (v := ?_) (a' := ?_) #[true, true, true, true, true, true, true, true, true, true, true, false, false, false, false] rfl rfl (take_ofW HT_.out HW_.out (by kernel_rfl)) (fun _ _ _ h => h) (Or.inl ⟨by rfl, ?_⟩) hHeld ?_ ?_
                       rotate_left
                       ·rintro w' ⟨s0, s1, s2, s3⟩
                        go_simp
                        with_reducible rfl
                       rotate_left
                       ·simp only [Act.put, List.setIfInBounds_toArray, List.set_cons_zero, List.set_cons_succ, i64_w, i32_w]
                        rfl
                       refine take_ (i := 11) (N := some 69) (v := ?_) (a' := ?_) #[true, true, true, true, true, true, true, true, true, true, true, true, false, false, false] rfl rfl (take_ofW HT_.out HW_.out (by kernel_rfl)) (fun _ _ _ h => h) (Or.inl ⟨by rfl, ?_⟩) hHeld ?_ ?_
                       rotate_left
                       ·rintro w' ⟨s0, s1, s2, s3⟩
                        go_simp
                        with_reducible rfl
                       rotate_left
                       ·simp only [Act.put, List.setIfInBounds_toArray, List.set_cons_zero, List.set_cons_succ, i64_w, i32_w]
                        rfl
                       refine pure_ (i := 12) (N := some 70) (v := ?_) (a' := ?_) #[true, true, true, true, true, true, true, true, true, true, true, true, true, false, false] rfl rfl (any_of HT_.out (by kernel_rfl)) (fun _ _ _ h => h) (Or.inl ⟨by rfl, ?_⟩) ?_ ?_
                       rotate_left
                       ·intro w'
                        go_simp
                        with_reducible rfl
                       rotate_left
                       ·simp only [Act.put, List.setIfInBounds_toArray, List.set_cons_zero, List.set_cons_succ, i64_w, i32_w]
                        rfl
                       refine take_ (i := 13) (N := some 71) (v := ?_) (a' := ?_) #[true, true, true, true, true, true, true, true, true, true, true, true, true, true, false] rfl rfl (take_ofW HT_.out HW_.out (by kernel_rfl)) (fun _ _ _ h => h) (Or.inl ⟨by rfl, ?_⟩) hHeld ?_ ?_
                       rotate_left
                       ·rintro w' ⟨s0, s1, s2, s3⟩
                        go_simp
                        with_reducible rfl
                       rotate_left
                       ·simp only [Act.put, List.setIfInBounds_toArray, List.set_cons_zero, List.set_cons_succ, i64_w, i32_w]
                        rfl
                       refine one_ (i := 14) (N := some 72) #[true, true, true, true, true, true, true, true, true, true, true, true, true, true, true] rfl rfl (one_of HT_.out (by kernel_rfl)) (by decide) (fun K hK => ?_)
                       refine goes_ Try.func39 (by kernel_rfl) rfl #[.slice A529_0 (rd_L10 l0 (rd t519 x8_3)).length c529_0, .slice A531_0 (rd_L10 l0 (rd t519 x9_4)).length c531_0] (by rfl) rfl rfl (by (try simp only [List.map_toArray, List.map_cons, List.map_nil]); first | done | rfl | (simp only [List.length_drop, List.length_take]; rfl)) ?_
                       with_reducible refine (arlinkref23_Need.calls k4 _ _ (rd_L10 l0 (rd t519 x8_3)) _ _ (rd_L10 l0 (rd t519 x9_4)) true _ ?side1 ?side2 ?side3 ?side4 A46.out).mono ?_
                       (case side1 => repeat (first | exact (Kd.C_below HR529_0.out HB.out) | (with_reducible refine Kd.C_alloc ?_ _) | (with_reducible refine Kd.C_drewN ?_ _) | (with_reducible refine Kd.C_drew ?_)))
                       (case side2 => exact HC529_0.out)
                       (case side3 => repeat (first | exact (Kd.C_below HR531_0.out HB.out) | (with_reducible refine Kd.C_alloc ?_ _) | (with_reducible refine Kd.C_drewN ?_ _) | (with_reducible refine Kd.C_drew ?_)))
                       (case side4 => exact HC531_0.out)
                       rintro e w49 ⟨rfl, hb⟩
                       have HS0_ := (hb.cell (World.block_lt_of_cell? _ _ (hHeld.1))).trans (hHeld.1)
                       have HS2_ := (hb.cell (World.block_lt_of_cell? _ _ (hHeld.2.2.1))).trans (hHeld.2.2.1)
                       refine ⟨_, rfl, ?_⟩
                       have n0_ := Aside0.mk (Kd.R_below (by (with_reducible repeat (first | apply Kd.R_alloc | apply Kd.R_drewN | apply Kd.R_drew)); exact HO_4.out) hb)
                       have n1_ := Aside0.mk (below_step (by repeat (first | (with_reducible first | exact HB.out | apply below_alloc | apply pw_below_drewN | apply below_drew1) | exact HB.out)) hb)
                       clear HO_4
                       clear HB
                       have HO_4 := n0_
                       have HB := n1_
                       clear n0_ n1_
                       (try clear hb)
                       (try clear hb2)
                       (try clear hk)
                       (try clear hi)
                       refine hK.out _ _ ⟨HS0_, ((HB.out.cell (World.block_lt_of_cell? w _ hw529_0)).trans hw529_0), HS2_, ((HB.out.cell (World.block_lt_of_cell? w _ hw531_0)).trans hw531_0)⟩ (fun hHeld => ?_)
                       clear hK K
                       refine norm_ (a' := ?_) ?_ ?_
                       rotate_left
                       ·show Act.put _ (some 72) _ = _
                        simp only [Act.put, List.setIfInBounds_toArray, List.set_cons_zero, List.set_cons_succ, i64_w, i32_w]
                        rfl
                       refine done_ (done_of HT_.out (by kernel_rfl)) ?_
                       try go_wp2
                       go_ret
                       exact ⟨by first | rfl | (simp [errW_none, errW_some] <;> rfl) | (simp [*, errW_none, errW_some] <;> rfl), by repeat (first | (with_reducible first | exact HB.out | apply below_alloc | apply pw_below_drewN | apply below_drew1) | exact HB.out)⟩
                      ·replace c47 := Bool.eq_false_iff.mpr c47
                       subst c47
                       have H1 : (arlinklaw23_OrderArchives.l1 k4 l0 t519 x8_3 (wrap64 (x9_4 + 1))) = some r := by rw [if_neg (show ¬ (false = true) by decide)] at H; exact H
                       clear H
                       have H := H1
                       clear H1
                       have H' := Aside0.mk H
                       clear H
                       try go_wp2
                       have n0_ := Aside0.mk (Kd.R_drew HO_4.out)
                       have n1_ := Aside0.mk (below_drew1 HB.out)
                       clear HO_4
                       clear HB
                       have HO_4 := n0_
                       have HB := n1_
                       clear n0_ n1_
                       have p528 : 0 ≤ (x8_3 : Int) := of_decide_eq_true (by first | (with_reducible assumption) | assumption)
                       have q528 : x8_3 < (t519.length : Int) := of_decide_eq_true (by first | (with_reducible assumption) | assumption)
                       obtain ⟨ad528, e528, hx528_0⟩ := Kd.at_int (Kd.R_reads' HO_4.out).2.2 x8_3 p528 q528
                       cases e528
                       replace p528 := eq_true p528
                       replace q528 := eq_true q528
                       have p529 : 0 ≤ ((rd t519 x8_3) : Int) := of_decide_eq_true (by first | (with_reducible assumption) | assumption)
                       have q529 : (rd t519 x8_3) < (l0.length : Int) := of_decide_eq_true (by first | (with_reducible assumption) | assumption)
                       obtain ⟨ad529, A529_0, c529_0, e529, hx529_0, hl529_0, hi529_0⟩ := at_L10 HR0.out (rd t519 x8_3) p529 q529
                       have hw529_0 := hx529_0
                       cases e529
                       replace hx529_0 := (HB.out.cell (World.block_lt_of_cell? w _ hx529_0)).trans hx529_0
                       have HR529_0 := Aside0.mk hi529_0
                       have HC529_0 := Aside0.mk hl529_0
                       clear hi529_0 hl529_0
                       replace p529 := eq_true p529
                       replace q529 := eq_true q529
                       have p530 : 0 ≤ (x9_4 : Int) := of_decide_eq_true (by first | (with_reducible assumption) | assumption)
                       have q530 : x9_4 < (t519.length : Int) := of_decide_eq_true (by first | (with_reducible assumption) | assumption)
                       obtain ⟨ad530, e530, hx530_0⟩ := Kd.at_int (Kd.R_reads' HO_4.out).2.2 x9_4 p530 q530
                       obtain rfl : ad528 = ad530 := (by injection e530)
                       replace p530 := eq_true p530
                       replace q530 := eq_true q530
                       have p531 : 0 ≤ ((rd t519 x9_4) : Int) := of_decide_eq_true (by first | (with_reducible assumption) | assumption)
                       have q531 : (rd t519 x9_4) < (l0.length : Int) := of_decide_eq_true (by first | (with_reducible assumption) | assumption)
                       obtain ⟨ad531, A531_0, c531_0, e531, hx531_0, hl531_0, hi531_0⟩ := at_L10 HR0.out (rd t519 x9_4) p531 q531
                       have hw531_0 := hx531_0
                       obtain rfl : ad529 = ad531 := (by injection e531)
                       replace hx531_0 := (HB.out.cell (World.block_lt_of_cell? w _ hx531_0)).trans hx531_0
                       have HR531_0 := Aside0.mk hi531_0
                       have HC531_0 := Aside0.mk hl531_0
                       clear hi531_0 hl531_0
                       replace p531 := eq_true p531
                       replace q531 := eq_true q531
                       refine start_ (n := 15) (S := fun w' => w'.cell? (ad528.add (x8_3).toNat) = some (.int .i64 (rd t519 x8_3)) ∧ w'.cell? (ad529.add ((rd t519 x8_3)).toNat) = some (.slice A529_0 (rd_L10 l0 (rd t519 x8_3)).length c529_0) ∧ w'.cell? (ad528.add (x9_4).toNat) = some (.int .i64 (rd t519 x9_4)) ∧ w'.cell? (ad529.add ((rd t519 x9_4)).toNat) = some (.slice A531_0 (rd_L10 l0 (rd t519 x9_4)).length c531_0)) (ds := []) #[false, false, false, false, false, false, false, false, false, false, false, false, false, false, false] (by kernel_rfl) rfl rfl ⟨hx528_0, ((HB.out.cell (World.block_lt_of_cell? w _ hw529_0)).trans hw529_0), hx530_0, ((HB.out.cell (World.block_lt_of_cell? w _ hw531_0)).trans hw531_0)⟩ (fun hHeld => ?_); refine with_tabW arlinklaw23_OrderArchives.tab16 arlinklaw23_OrderArchives.bits16 (fun HT_ HW_ => ?_)
                       generalize wr.drew = w50 at HO_4 HB HR529_0 HR531_0 hx528_0 hx529_0 hx530_0 hx531_0 hHeld ⊢
                       refine pure_ (i := 0) (N := some 58) (v := ?_) (a' := ?_) #[true, false, false, false, false, false, false, false, false, false, false, false, false, false, false] rfl rfl (any_of HT_.out (by kernel_rfl)) (fun _ _ _ h => h) (Or.inl ⟨by rfl, ?_⟩) ?_ ?_
                       rotate_left
                       ·intro w'
                        go_simp
                        with_reducible rfl
                       rotate_left
                       ·simp only [Act.put, List.setIfInBounds_toArray, List.set_cons_zero, List.set_cons_succ, i64_w, i32_w]
                        rfl
                       refine pure_ (i := 1) (N := some 59) (v := ?_) (a' := ?_) #[true, true, false, false, false, false, false, false, false, false, false, false, false, false, false] rfl rfl (any_of HT_.out (by kernel_rfl)) (fun _ _ _ h => h) (Or.inl ⟨by rfl, ?_⟩) ?_ ?_
                       rotate_left
                       ·intro w'
                        go_simp
                        with_reducible rfl
                       rotate_left
                       ·simp only [Act.put, List.setIfInBounds_toArray, List.set_cons_zero, List.set_cons_succ, i64_w, i32_w]
                        rfl
                       refine pure_ (i := 2) (N := some 60) (v := ?_) (a' := ?_) #[true, true, true, false, false, false, false, false, false, false, false, false, false, false, false] rfl rfl (any_of HT_.out (by kernel_rfl)) (fun _ _ _ h => h) (Or.inl ⟨by rfl, ?_⟩) ?_ ?_
                       rotate_left
                       ·intro w'
                        go_simp
                        with_reducible rfl
                       rotate_left
                       ·simp only [Act.put, List.setIfInBounds_toArray, List.set_cons_zero, List.set_cons_succ, i64_w, i32_w]
                        rfl
                       refine pure_ (i := 3) (N := some 61) (v := ?_) (a' := ?_) #[true, true, true, true, false, false, false, false, false, false, false, false, false, false, false] rfl rfl (any_of HT_.out (by kernel_rfl)) (fun _ _ _ h => h) (Or.inl ⟨by rfl, ?_⟩) ?_ ?_
                       rotate_left
                       ·intro w'
                        go_simp
                        with_reducible rfl
                       rotate_left
                       ·simp only [Act.put, List.setIfInBounds_toArray, List.set_cons_zero, List.set_cons_succ, i64_w, i32_w]
                        rfl
                       refine pure_ (i := 7) (N := some 65) (v := ?_) (a' := ?_) #[true, true, true, true, false, false, false, true, false, false, false, false, false, false, false] rfl rfl (any_of HT_.out (by kernel_rfl)) (fun _ _ _ h => h) (Or.inl ⟨by rfl, ?_⟩) ?_ ?_
                       rotate_left
                       ·intro w'
                        go_simp
                        with_reducible rfl
                       rotate_left
                       ·simp only [Act.put, List.setIfInBounds_toArray, List.set_cons_zero, List.set_cons_succ, i64_w, i32_w]
                        rfl
                       refine pure_ (i := 8) (N := some 66) (v := ?_) (a' := ?_) #[true, true, true, true, false, false, false, true, true, false, false, false, false, false, false] rfl rfl (any_of HT_.out (by kernel_rfl)) (fun _ _ _ h => h) (Or.inl ⟨by rfl, ?_⟩) ?_ ?_
                       rotate_left
                       ·intro w'
                        go_simp
                        with_reducible rfl
                       rotate_left
                       ·simp only [Act.put, List.setIfInBounds_toArray, List.set_cons_zero, List.set_cons_succ, i64_w, i32_w]
                        rfl
                       refine pure_ (i := 9) (N := some 67) (v := ?_) (a' := ?_) #[true, true, true, true, false, false, false, true, true, true, false, false, false, false, false] rfl rfl (any_of HT_.out (by kernel_rfl)) (fun _ _ _ h => h) (Or.inl ⟨by rfl, ?_⟩) ?_ ?_
                       rotate_left
                       ·intro w'
                        go_simp
                        with_reducible rfl
                       rotate_left
                       ·simp only [Act.put, List.setIfInBounds_toArray, List.set_cons_zero, List.set_cons_succ, i64_w, i32_w]
                        rfl
                       refine pure_ (i := 10) (N := some 68) (v := ?_) (a' := ?_) #[true, true, true, true, false, false, false, true, true, true, true, false, false, false, false] rfl rfl (any_of HT_.out (by kernel_rfl)) (fun _ _ _ h => h) (Or.inl ⟨by rfl, ?_⟩) ?_ ?_
                       rotate_left
                       ·intro w'
                        go_simp
                        with_reducible rfl
                       rotate_left
                       ·simp only [Act.put, List.setIfInBounds_toArray, List.set_cons_zero, List.set_cons_succ, i64_w, i32_w]
                        rfl
                       refine take_ (i := 4) (N := some 62) (v := ?_) (a' := ?_) #[true, true, true, true, true, false, false, true, true, true, true, false, false, false, false] rfl rfl (take_ofW HT_.out HW_.out (by kernel_rfl)) (fun _ _ _ h => h) (Or.inl ⟨by rfl, ?_⟩) hHeld ?_ ?_
                       rotate_left
                       ·rintro w' ⟨s0, s1, s2, s3⟩
                        go_simp
                        with_reducible rfl
                       rotate_left
                       ·simp only [Act.put, List.setIfInBounds_toArray, List.set_cons_zero, List.set_cons_succ, i64_w, i32_w]
                        rfl
                       refine pure_ (i := 5) (N := some 63) (v := ?_) (a' := ?_) #[true, true, true, true, true, true, false, true, true, true, true, false, false, false, false] rfl rfl (any_of HT_.out (by kernel_rfl)) (fun _ _ _ h => h) (Or.inl ⟨by rfl, ?_⟩) ?_ ?_
                       rotate_left
                       ·intro w'
                        go_simp
                        with_reducible rfl
                       rotate_left
                       ·simp only [Act.put, List.setIfInBounds_toArray, List.set_cons_zero, List.set_cons_succ, i64_w, i32_w]
                        rfl
                       refine take_ (i := 6) (N := some 64) (v := ?_) (a' := ?_) #[true, true, true, true, true, true, true, true, true, true, true, false, false, false, false] rfl rfl (take_ofW HT_.out HW_.out (by kernel_rfl)) (fun _ _ _ h => h) (Or.inl ⟨by rfl, ?_⟩) hHeld ?_ ?_
                       rotate_left
                       ·rintro w' ⟨s0, s1, s2, s3⟩
                        go_simp
                        with_reducible rfl
                       rotate_left
                       ·simp only [Act.put, List.setIfInBounds_toArray, List.set_cons_zero, List.set_cons_succ, i64_w, i32_w]
                        rfl
                       refine take_ (i := 11) (N := some 69) (v := ?_) (a' := ?_) #[true, true, true, true, true, true, true, true, true, true, true, true, false, false, false] rfl rfl (take_ofW HT_.out HW_.out (by kernel_rfl)) (fun _ _ _ h => h) (Or.inl ⟨by rfl, ?_⟩) hHeld ?_ ?_
                       rotate_left
                       ·rintro w' ⟨s0, s1, s2, s3⟩
                        go_simp
                        with_reducible rfl
                       rotate_left
                       ·simp only [Act.put, List.setIfInBounds_toArray, List.set_cons_zero, List.set_cons_succ, i64_w, i32_w]
                        rfl
                       refine pure_ (i := 12) (N := some 70) (v := ?_) (a' := ?_) #[true, true, true, true, true, true, true, true, true, true, true, true, true, false, false] rfl rfl (any_of HT_.out (by kernel_rfl)) (fun _ _ _ h => h) (Or.inl ⟨by rfl, ?_⟩) ?_ ?_
                       rotate_left
                       ·intro w'
                        go_simp
                        with_reducible rfl
                       rotate_left
                       ·simp only [Act.put, List.setIfInBounds_toArray, List.set_cons_zero, List.set_cons_succ, i64_w, i32_w]
                        rfl
                       refine take_ (i := 13) (N := some 71) (v := ?_) (a' := ?_) #[true, true, true, true, true, true, true, true, true, true, true, true, true, true, false] rfl rfl (take_ofW HT_.out HW_.out (by kernel_rfl)) (fun _ _ _ h => h) (Or.inl ⟨by rfl, ?_⟩) hHeld ?_ ?_
                       rotate_left
                       ·rintro w' ⟨s0, s1, s2, s3⟩
                        go_simp
                        with_reducible rfl
                       rotate_left
                       ·simp only [Act.put, List.setIfInBounds_toArray, List.set_cons_zero, List.set_cons_succ, i64_w, i32_w]
                        rfl
                       refine one_ (i := 14) (N := some 72) #[true, true, true, true, true, true, true, true, true, true, true, true, true, true, true] rfl rfl (one_of HT_.out (by kernel_rfl)) (by decide) (fun K hK => ?_)
                       refine goes_ Try.func39 (by kernel_rfl) rfl #[.slice A529_0 (rd_L10 l0 (rd t519 x8_3)).length c529_0, .slice A531_0 (rd_L10 l0 (rd t519 x9_4)).length c531_0] (by rfl) rfl rfl (by (try simp only [List.map_toArray, List.map_cons, List.map_nil]); first | done | rfl | (simp only [List.length_drop, List.length_take]; rfl)) ?_
                       with_reducible refine (arlinkref23_Need.calls k4 _ _ (rd_L10 l0 (rd t519 x8_3)) _ _ (rd_L10 l0 (rd t519 x9_4)) false _ ?side1 ?side2 ?side3 ?side4 A46.out).mono ?_
                       (case side1 => repeat (first | exact (Kd.C_below HR529_0.out HB.out) | (with_reducible refine Kd.C_alloc ?_ _) | (with_reducible refine Kd.C_drewN ?_ _) | (with_reducible refine Kd.C_drew ?_)))
                       (case side2 => exact HC529_0.out)
                       (case side3 => repeat (first | exact (Kd.C_below HR531_0.out HB.out) | (with_reducible refine Kd.C_alloc ?_ _) | (with_reducible refine Kd.C_drewN ?_ _) | (with_reducible refine Kd.C_drew ?_)))
                       (case side4 => exact HC531_0.out)
                       rintro e w51 ⟨rfl, hb⟩
                       have HS0_ := (hb.cell (World.block_lt_of_cell? _ _ (hHeld.1))).trans (hHeld.1)
                       have HS2_ := (hb.cell (World.block_lt_of_cell? _ _ (hHeld.2.2.1))).trans (hHeld.2.2.1)
                       refine ⟨_, rfl, ?_⟩
                       have n0_ := Aside0.mk (Kd.R_below (by (with_reducible repeat (first | apply Kd.R_alloc | apply Kd.R_drewN | apply Kd.R_drew)); exact HO_4.out) hb)
                       have n1_ := Aside0.mk (below_step (by repeat (first | (with_reducible first | exact HB.out | apply below_alloc | apply pw_below_drewN | apply below_drew1) | exact HB.out)) hb)
                       clear HO_4
                       clear HB
                       have HO_4 := n0_
                       have HB := n1_
                       clear n0_ n1_
                       (try clear hb)
                       (try clear hb2)
                       (try clear hk)
                       (try clear hi)
                       refine hK.out _ _ ⟨HS0_, ((HB.out.cell (World.block_lt_of_cell? w _ hw529_0)).trans hw529_0), HS2_, ((HB.out.cell (World.block_lt_of_cell? w _ hw531_0)).trans hw531_0)⟩ (fun hHeld => ?_)
                       clear hK K
                       refine norm_ (a' := ?_) ?_ ?_
                       rotate_left
                       ·show Act.put _ (some 72) _ = _
                        simp only [Act.put, List.setIfInBounds_toArray, List.set_cons_zero, List.set_cons_succ, i64_w, i32_w]
                        rfl
                       refine done_ (done_of HT_.out (by kernel_rfl)) ?_
                       try go_wp2
                       go_roundg k4
                       case measure => have := HJ1.out; have := HJ18.out; have := HK3.out; have := HK4.out; omega
                       case rel => exact ⟨(wrap64 (x9_4 + 1)), (by first | rfl | (simp; done) | (simp [*]; done)), H', ⟨by have := HJ1.out; have := HJ18.out; have := HK3.out; have := HK4.out; omega⟩, ⟨by (with_reducible repeat (first | apply Kd.R_alloc | apply Kd.R_drewN | apply Kd.R_drew)); exact HO_4.out⟩, ⟨by repeat (first | (with_reducible first | exact HB.out | apply below_alloc | apply pw_below_drewN | apply below_drew1) | exact HB.out)⟩⟩
                     ·rw [if_neg c45] at H
                      exact absurd H (by simp)
                    ·rw [if_neg c44] at H
                     exact absurd H (by simp)
                   ·rw [if_neg c43] at H
                    exact absurd H (by simp)
                  ·rw [if_neg c42] at H
                   exact absurd H (by simp)
                 ·rw [if_neg c41] at H
                  exact absurd H (by simp)
                ·rw [if_neg c40] at H
                 exact absurd H (by simp)
               ·rw [if_neg c39] at H
                exact absurd H (by simp)
              ·rw [if_neg c38] at H
               exact absurd H (by simp)
             ·rw [if_neg c37] at H
              have c37b0 : decide (x9_4 < x8_3) = false := decide_eq_false c37
              clear c37
              have H' := Aside0.mk H
              clear H
              go_wp2
              go_roundg k4
              case measure => have := HJ1.out; have := HJ18.out; have := HK3.out; have := HK4.out; omega
              case rel => exact ⟨(wrap64 (x8_3 + 1)), (by first | rfl | (simp; done) | (simp [*]; done)), H', ⟨by have := HJ1.out; have := HJ18.out; have := HK3.out; have := HK4.out; omega⟩, ⟨by (with_reducible repeat (first | apply Kd.R_alloc | apply Kd.R_drewN | apply Kd.R_drew)); exact HO_4.out⟩, ⟨by repeat (first | (with_reducible first | exact HB.out | apply below_alloc | apply pw_below_drewN | apply below_drew1) | exact HB.out)⟩⟩
          ·rw [if_neg c35] at H
           have c35b0 : decide (x8_3 < (t519.length : Int)) = false := decide_eq_false c35
           clear c35
           obtain rfl := Option.some.inj H
           obtain ⟨Ao52, co52, eo52⟩ := Kd.R_slice HO_4.out
           subst eo52
           go_wp2
           go_ret
           exact ⟨by first | rfl | (simp [errW_none, errW_some] <;> rfl) | (simp [*, errW_none, errW_some] <;> rfl), by repeat (first | (with_reducible first | exact HB.out | apply below_alloc | apply pw_below_drewN | apply below_drew1) | exact HB.out)⟩
    ·replace c16 := Bool.eq_false_iff.mpr c16
     subst c16
     have H1 : (some false) = some r := by rw [if_neg (show ¬ (false = true) by decide)] at H; exact H
     clear H
     have H := H1
     clear H1
     obtain rfl := Option.some.inj H
     go_wp2_with (first | ((with_reducible refine gate_callee (f := 34) rfl ?_); refine goesL_ (some 19) rfl rfl Try.func34 (by kernel_rfl) rfl #[.slice A0 l0.length c0] rfl (by (try simp only [List.map_toArray, List.map_cons, List.map_nil]); first | done | rfl | (simp only [List.length_drop, List.length_take]; rfl)) ?_; (with_reducible refine (arlinkref23_Needs.calls kj1 _ _ l0 t509 _ ?side1 ?side2 A12.out).mono ?_); (case side1 => repeat (first | exact (Kd.C_below HR0.out HB.out) | (with_reducible refine Kd.C_alloc ?_ _) | (with_reducible refine Kd.C_drewN ?_ _) | (with_reducible refine Kd.C_drew ?_))); (case side2 => exact HC0.out); rintro e w53 ⟨v510, rfl, ho0, hb⟩; refine ⟨_, rfl, ?_⟩; have n0_ := Aside0.mk (Kd.R_lower ho0 (below_size (by repeat (first | (with_reducible first | exact HB.out | apply below_alloc | apply pw_below_drewN | apply below_drew1) | exact HB.out)))); have n1_ := Aside0.mk (below_step (by repeat (first | (with_reducible first | exact HB.out | apply below_alloc | apply pw_below_drewN | apply below_drew1) | exact HB.out)) hb); clear HB; have HO511 := n0_; have HB := n1_; clear n0_ n1_; (try clear hb); (try clear hb2); (try clear hk); (try clear hi); (try clear ho0)) | ((with_reducible refine gate_callee (f := 37) rfl ?_); refine goesL_ (some 21) rfl rfl Try.func37 (by kernel_rfl) rfl #[.slice A0 l0.length c0] rfl (by (try simp only [List.map_toArray, List.map_cons, List.map_nil]); first | done | rfl | (simp only [List.length_drop, List.length_take]; rfl)) ?_; (with_reducible refine (order_Needs.calls kj1 _ _ l0 t512 _ ?side1 ?side2 A13.out).mono ?_); (case side1 => repeat (first | exact (Kd.C_below HR0.out HB.out) | (with_reducible refine Kd.C_alloc ?_ _) | (with_reducible refine Kd.C_drewN ?_ _) | (with_reducible refine Kd.C_drew ?_))); (case side2 => exact HC0.out); rintro e w54 ⟨v513, rfl, ho0, hb⟩; refine ⟨_, rfl, ?_⟩; have n0_ := Aside0.mk (Kd.R_below (by (with_reducible repeat (first | apply Kd.R_alloc | apply Kd.R_drewN | apply Kd.R_drew)); exact HO511.out) hb); have n1_ := Aside0.mk (Kd.R_lower ho0 (below_size (by repeat (first | (with_reducible first | exact HB.out | apply below_alloc | apply pw_below_drewN | apply below_drew1) | exact HB.out)))); have n2_ := Aside0.mk (below_step (by repeat (first | (with_reducible first | exact HB.out | apply below_alloc | apply pw_below_drewN | apply below_drew1) | exact HB.out)) hb); clear HO511; clear HB; have HO511 := n0_; have HO514 := n1_; have HB := n2_; clear n0_ n1_ n2_; (try clear hb); (try clear hb2); (try clear hk); (try clear hi); (try clear ho0); obtain ⟨Ao55, co55, eo55⟩ := Kd.R_slice HO514.out; subst eo55) | ((with_reducible refine gate_callee (f := 36) rfl ?_); refine goesL_ (some 22) rfl rfl Try.func36 (by kernel_rfl) rfl #[.slice Ao55 t512.length co55] rfl (by (try simp only [List.map_toArray, List.map_cons, List.map_nil]); first | done | rfl | (simp only [List.length_drop, List.length_take]; rfl)) ?_; (with_reducible refine (arlinklaw23_back.calls kj1 _ _ t512 t515 _ ?side1 ?side2 A14.out).mono ?_); (case side1 => repeat (first | exact (Kd.R_reads' HO514.out).2.2 | (with_reducible refine Kd.C_alloc ?_ _) | (with_reducible refine Kd.C_drewN ?_ _) | (with_reducible refine Kd.C_drew ?_))); (case side2 => exact (Kd.R_reads' HO514.out).2.1); rintro e w56 ⟨v516, rfl, ho0, hb⟩; refine ⟨_, rfl, ?_⟩; have n0_ := Aside0.mk (Kd.R_elder' (by (with_reducible repeat (first | apply Kd.R_alloc | apply Kd.R_drewN | apply Kd.R_drew)); exact HO511.out) (Kd.R_base ho0) hb); have n1_ := Aside0.mk (Kd.R_below (by (with_reducible repeat (first | apply Kd.R_alloc | apply Kd.R_drewN | apply Kd.R_drew)); exact HO514.out) hb); have n2_ := Aside0.mk (Kd.R_lower (Kd.R_new' ho0 (Kd.R_lt (by (with_reducible repeat (first | apply Kd.R_alloc | apply Kd.R_drewN | apply Kd.R_drew)); exact HO511.out))) (below_size (by repeat (first | (with_reducible first | exact HB.out | apply below_alloc | apply pw_below_drewN | apply below_drew1) | exact HB.out)))); have n3_ := Aside0.mk (below_step (by repeat (first | (with_reducible first | exact HB.out | apply below_alloc | apply pw_below_drewN | apply below_drew1) | exact HB.out)) hb); clear HO511; clear HO514; clear HB; have HO511 := n0_; have HO514 := n1_; have HO517 := n2_; have HB := n3_; clear n0_ n1_ n2_ n3_; (try clear hb); (try clear hb2); (try clear hk); (try clear hi); (try clear ho0); obtain ⟨Ao57, co57, eo57⟩ := Kd.R_slice HO517.out; subst eo57; obtain ⟨Ao58, co58, eo58⟩ := Kd.R_slice HO511.out; subst eo58) | ((with_reducible refine gate_callee (f := 35) rfl ?_); refine goesL_ (some 24) rfl rfl Try.func35 (by kernel_rfl) rfl #[.slice Ao57 t515.length co57, .slice Ao58 t509.length co58] rfl (by (try simp only [List.map_toArray, List.map_cons, List.map_nil]); first | done | rfl | (simp only [List.length_drop, List.length_take]; rfl)) ?_; (with_reducible refine (arlinkref23_Same.calls kj1 _ _ t515 _ _ t509 false _ ?side1 ?side2 ?side3 ?side4 A15.out).mono ?_); (case side1 => repeat (first | exact (Kd.R_reads' HO517.out).2.2 | (with_reducible refine Kd.C_alloc ?_ _) | (with_reducible refine Kd.C_drewN ?_ _) | (with_reducible refine Kd.C_drew ?_))); (case side2 => exact (Kd.R_reads' HO517.out).2.1); (case side3 => repeat (first | exact (Kd.R_reads' HO511.out).2.2 | (with_reducible refine Kd.C_alloc ?_ _) | (with_reducible refine Kd.C_drewN ?_ _) | (with_reducible refine Kd.C_drew ?_))); (case side4 => exact (Kd.R_reads' HO511.out).2.1); rintro e w' ⟨rfl, ⟨nd, rfl⟩⟩; refine ⟨_, rfl, ?_⟩))
     go_ret
     exact ⟨by first | rfl | (simp [errW_none, errW_some] <;> rfl) | (simp [*, errW_none, errW_some] <;> rfl), by repeat (first | (with_reducible first | exact HB.out | apply below_alloc | apply pw_below_drewN | apply below_drew1) | exact HB.out)⟩
end Go.Proofs.Ythpjpkcfepmhkaa.PAll
namespace Go.Proofs.Ythpjpkcfepmhkaa.PAll
open Go.RowKit Go.Proofs.YthpjpkcfepmhkaaW.PrintWords Go.Proofs.YthpjpkcfepmhkaaW.PrintLast Go.Proofs.YthpjpkcfepmhkaaW.PrintMore
set_option linter.unusedVariables false
set_option linter.unusedSimpArgs false
theorem uses_l1 {l : List S50} (hs : Slim l) (a : ByteArray) (x y : Int) {i : Nat} (hi : i < l.length) {r : Bool} (hend : Ev (fun k => arlinkref23_uses.l0 k l a x y ((i + 1 : Nat) : Int)) r) :
    ∀ (d j : Nat), j + d = (rd_T50 l (i : Int)).f0.length → Ev (fun k => arlinkref23_uses.l1 k l a x y (i : Int) (j : Int)) (hasB ((rd_T50 l (i : Int)).f0.drop j) a x y || r)
  | 0, j, h => by
    have hl := hs.1
    rw [List.drop_of_length_le (by omega)]
    exact Ev.step (fun k => by simp only [arlinkref23_uses.l1]; rw [if_pos (by omega), if_pos (by omega), if_neg (by omega), wrN i (by omega)]) hend
  | d + 1, j, h => by
    have hl := hs.1
    have hj : j < (rd_T50 l (i : Int)).f0.length := by omega
    have hjl : (rd_T50 l (i : Int)).f0.length ≤ 1000000 := by rw [rd50 hi]; exact hs.2 _ (List.getElem_mem hi)
    have ih := uses_l1 hs a x y hi hend d (j + 1) (by omega)
    unfold hasB at ih ⊢
    rw [any_drop _ _ _ hj]
    obtain ⟨z, hz⟩ : ∃ z, (rd_T50 l (i : Int)).f0[j] = z := ⟨_, rfl⟩
    have hr : rd_T55 (rd_T50 l (i : Int)).f0 (j : Int) = z := by rw [rd55 hj, hz]
    rw [hz]
    by_cases c1 : z.f0 = a
    · rw [decide_eq_true c1, Bool.true_and]
      by_cases c2 : z.f1 = x
      · rw [beq_iff_eq.mpr c2, Bool.true_or, Bool.true_or, Bool.true_or]
        exact Ev.step (f := fun _ => some true) (fun k => by simp only [arlinkref23_uses.l1]; rw [if_pos (by omega), if_pos (by omega), if_pos (by omega), if_pos (by omega), hr, if_pos ((name_eq _ _).2 c1), if_pos c2]) (Ev.now _)
      · rw [beq_eq_false_iff_ne.mpr c2, Bool.false_or]
        by_cases c3 : z.f1 = y
        · rw [beq_iff_eq.mpr c3, Bool.true_or, Bool.true_or]
          exact Ev.step (f := fun _ => some true) (fun k => by simp only [arlinkref23_uses.l1]; rw [if_pos (by omega), if_pos (by omega), if_pos (by omega), if_pos (by omega), hr, if_pos ((name_eq _ _).2 c1), if_neg c2, if_pos c3]) (Ev.now _)
        · rw [beq_eq_false_iff_ne.mpr c3, Bool.false_or]
          exact Ev.step (fun k => by simp only [arlinkref23_uses.l1]; rw [if_pos (by omega), if_pos (by omega), if_pos (by omega), if_pos (by omega), hr, if_pos ((name_eq _ _).2 c1), if_neg c2, if_neg c3, wrN j (by omega)]) ih
    · rw [decide_eq_false c1, Bool.false_and, Bool.false_or]
      exact Ev.step (fun k => by simp only [arlinkref23_uses.l1]; rw [if_pos (by omega), if_pos (by omega), if_pos (by omega), if_pos (by omega), hr, if_neg (fun h => c1 ((name_eq _ _).1 h)), wrN j (by omega)]) ih
theorem uses_l0 {l : List S50} (hs : Slim l) (a : ByteArray) (x y : Int) : ∀ (d i : Nat), i + d = l.length → Ev (fun k => arlinkref23_uses.l0 k l a x y (i : Int)) ((l.drop i).any fun o => hasB o.f0 a x y)
  | 0, i, h => by
    rw [List.drop_of_length_le (by omega)]
    exact Ev.step (f := fun _ => some false) (fun k => by simp only [arlinkref23_uses.l0]; rw [if_neg (by omega)]) (Ev.now _)
  | d + 1, i, h => by
    have hi : i < l.length := by omega
    have ih := uses_l0 hs a x y d (i + 1) (by omega)
    have := uses_l1 hs a x y hi ih (rd_T50 l (i : Int)).f0.length 0 (by omega)
    rw [List.drop_zero, rd50 hi] at this
    rw [any_drop _ _ _ hi]
    exact Ev.step (f := fun k => arlinkref23_uses.l1 k l a x y (i : Int) ((0 : Nat) : Int)) (fun k => by simp only [arlinkref23_uses.l0]; rw [if_pos (by omega)]; rfl) this
theorem uses_ev {l : List S50} (hs : Slim l) (a : ByteArray) : Ev (fun k => arlinkref23_uses.f k l a 1 2) (decide (a ∈ provOf l)) := by
  have := uses_l0 hs a 1 2 l.length 0 (by omega)
  rwa [List.drop_zero, prov_any] at this
def symB (a b : List S50) (s : S55) : Bool := refB s.f1 && (decide (s.f0 ∈ provOf b) && !decide (s.f0 ∈ provOf a))
def needB (a b : List S50) : Bool := a.any fun o => o.f0.any fun s => symB a b s
theorem need_l1' {a b : List S50} (ha : Slim a) (hb : Slim b) {i : Nat} (hi : i < a.length) {r : Bool} (hend : Ev (fun k => arlinkref23_Need.l0 k a b ((i + 1 : Nat) : Int)) r) :
    ∀ (d j : Nat), j + d = (rd_T50 a (i : Int)).f0.length → Ev (fun k => arlinkref23_Need.l1 k a b (i : Int) (j : Int)) ((((rd_T50 a (i : Int)).f0.drop j).any fun s => symB a b s) || r)
  | 0, j, h => by
    have hl := ha.1
    rw [List.drop_of_length_le (by omega)]
    exact Ev.step (fun k => by simp only [arlinkref23_Need.l1]; rw [if_pos (by omega), if_pos (by omega), if_neg (by omega), wrN i (by omega)]) hend
  | d + 1, j, h => by
    have hl := ha.1
    have hj : j < (rd_T50 a (i : Int)).f0.length := by omega
    have hjl : (rd_T50 a (i : Int)).f0.length ≤ 1000000 := by rw [rd50 hi]; exact ha.2 _ (List.getElem_mem hi)
    have ih := need_l1' ha hb hi hend d (j + 1) (by omega)
    rw [any_drop _ _ _ hj]
    obtain ⟨z, hz⟩ : ∃ z, (rd_T50 a (i : Int)).f0[j] = z := ⟨_, rfl⟩
    have hr : rd_T55 (rd_T50 a (i : Int)).f0 (j : Int) = z := by rw [rd55 hj, hz]
    rw [hz]
    unfold symB at ih ⊢
    by_cases c : z.f1 = 4
    · have hd : refB z.f1 = true := by rw [c]; rfl
      rw [hd, Bool.true_and]
      refine Ev.step (f := fun k => (arlinkref23_uses.f k b z.f0 1 2).bind fun t => if t = true then (arlinkref23_uses.f k a z.f0 1 2).bind fun u => if u = true then arlinkref23_Need.l1 k a b (i : Int) ((j + 1 : Nat) : Int) else some true else arlinkref23_Need.l1 k a b (i : Int) ((j + 1 : Nat) : Int)) (fun k => by
        simp only [arlinkref23_Need.l1]
        rw [if_pos (by omega), if_pos (by omega), if_pos (by omega), if_pos (by omega), hr, if_pos c, wrN j (by omega)]) (Ev.bind (uses_ev hb z.f0) ?_)
      cases decide (z.f0 ∈ provOf b) with
      | false => exact Ev.congr (fun k => by rw [if_neg (by decide)]) ih
      | true =>
        refine Ev.congr (f := fun k => (arlinkref23_uses.f k a z.f0 1 2).bind fun u => if u = true then arlinkref23_Need.l1 k a b (i : Int) ((j + 1 : Nat) : Int) else some true) (fun k => by rw [if_pos rfl]) (Ev.bind (uses_ev ha z.f0) ?_)
        cases decide (z.f0 ∈ provOf a) with
        | true => exact Ev.congr (fun k => by rw [if_pos rfl]) ih
        | false => exact Ev.now _
    · have hd : refB z.f1 = false := by unfold refB; exact beq_eq_false_iff_ne.mpr c
      rw [hd, Bool.false_and, Bool.false_or]
      exact Ev.step (fun k => by simp only [arlinkref23_Need.l1]; rw [if_pos (by omega), if_pos (by omega), if_pos (by omega), if_pos (by omega), hr, if_neg c, wrN j (by omega)]) ih
theorem need_l0' {a b : List S50} (ha : Slim a) (hb : Slim b) : ∀ (d i : Nat), i + d = a.length → Ev (fun k => arlinkref23_Need.l0 k a b (i : Int)) ((a.drop i).any fun o => o.f0.any fun s => symB a b s)
  | 0, i, h => by
    rw [List.drop_of_length_le (by omega)]
    exact Ev.step (f := fun _ => some false) (fun k => by simp only [arlinkref23_Need.l0]; rw [if_neg (by omega)]) (Ev.now _)
  | d + 1, i, h => by
    have hi : i < a.length := by omega
    have ih := need_l0' ha hb d (i + 1) (by omega)
    have := need_l1' ha hb hi ih (rd_T50 a (i : Int)).f0.length 0 (by omega)
    rw [List.drop_zero, rd50 hi] at this
    rw [any_drop _ _ _ hi]
    exact Ev.step (f := fun k => arlinkref23_Need.l1 k a b (i : Int) ((0 : Nat) : Int)) (fun k => by simp only [arlinkref23_Need.l0]; rw [if_pos (by omega)]; rfl) this
theorem need23_ev {a b : List S50} (ha : Slim a) (hb : Slim b) : Ev (fun k => arlinkref23_Need.f k a b) (needB a b) := by
  have := need_l0' ha hb a.length 0 (by omega)
  rwa [List.drop_zero] at this
theorem needB_iff {a b : List S50} : needB a b = true ↔ ∃ q, Rch a b q := by
  unfold needB symB
  simp only [List.any_eq_true, Bool.and_eq_true, decide_eq_true_eq, Bool.not_eq_true', decide_eq_false_iff_not]
  constructor
  · rintro ⟨o, ho, s, hs, hr, hp, hn⟩
    unfold provOf at hp
    obtain ⟨m, hm, hd⟩ := List.mem_flatMap.1 hp
    obtain ⟨q, hq, rfl⟩ := List.getElem_of_mem hm
    exact ⟨q, .base q o hq ho ⟨s.f0, by rw [rd50 hq]; exact hd, List.mem_map.2 ⟨s, List.mem_filter.2 ⟨hs, hr⟩, rfl⟩, hn⟩⟩
  · rintro ⟨q, h⟩
    induction h with
    | step _ _ _ _ _ ih => exact ih
    | base q o hq ho hl =>
      obtain ⟨n, hd, hr, hn⟩ := hl
      unfold namesOf at hr
      obtain ⟨s, hs, rfl⟩ := List.mem_map.1 hr
      obtain ⟨h1, h2⟩ := List.mem_filter.1 hs
      refine ⟨o, ho, s, h1, h2, ?_, hn⟩
      unfold provOf
      exact List.mem_flatMap.2 ⟨_, rd50_mem hq, hd⟩
theorem needed_some {a b : List S50} (ha : RightP a) (hb : RightP b) : ∃ v, closure_Needed.f a b = some v ∧ ((v.length : Int) > 0 ↔ needB a b = true) := by
  obtain ⟨nd, h1, h2⟩ := ha.needed hb
  refine ⟨_, h1, ?_⟩
  rw [needB_iff]
  constructor
  · intro h
    obtain ⟨v, hv⟩ := List.exists_mem_of_length_pos (show 0 < (pickN nd b.length).length by omega)
    obtain ⟨q, hq, rfl, hm⟩ := (pickN_mem _ _ _).1 hv
    exact ⟨q, (h2 q hq).1 hm⟩
  · rintro ⟨q, hr⟩
    have := (pickN_mem nd b.length (q : Int)).2 ⟨q, hr.lt, rfl, (h2 q hr.lt).2 hr⟩
    have := List.length_pos_of_mem this
    omega
def rowE (c : Nat → Bool) : Nat → List Nat
  | 0 => []
  | b + 1 => if c b = true then rowE c b ++ [b] else rowE c b
def gridE (c : Nat → Nat → Bool) (n : Nat) : Nat → List (Nat × Nat)
  | 0 => []
  | a + 1 => gridE c n a ++ (rowE (c a) n).map fun b => (a, b)
theorem rowE_len (c : Nat → Bool) : ∀ b, (rowE c b).length ≤ b
  | 0 => by simp [rowE]
  | b + 1 => by
    have := rowE_len c b
    unfold rowE
    split
    · rw [List.length_append, List.length_singleton]; omega
    · omega
theorem rowE_mem (c : Nat → Bool) (x : Nat) : ∀ b, x ∈ rowE c b ↔ x < b ∧ c x = true
  | 0 => by simp [rowE]
  | b + 1 => by
    unfold rowE
    by_cases h : c b = true
    · rw [if_pos h, List.mem_append, rowE_mem c x b, List.mem_singleton]
      constructor
      · rintro (⟨h1, h2⟩ | rfl)
        · exact ⟨by omega, h2⟩
        · exact ⟨by omega, h⟩
      · rintro ⟨h1, h2⟩
        by_cases e : x = b
        · exact .inr e
        · exact .inl ⟨by omega, h2⟩
    · rw [if_neg h, rowE_mem c x b]
      constructor
      · rintro ⟨h1, h2⟩; exact ⟨by omega, h2⟩
      · rintro ⟨h1, h2⟩
        by_cases e : x = b
        · subst e; exact absurd h2 h
        · exact ⟨by omega, h2⟩
theorem gridE_len (c : Nat → Nat → Bool) (n : Nat) : ∀ a, (gridE c n a).length ≤ a * n
  | 0 => by simp [gridE]
  | a + 1 => by
    have h1 := gridE_len c n a
    have h2 := rowE_len (c a) n
    unfold gridE
    rw [List.length_append, List.length_map, Nat.add_mul, Nat.one_mul]
    omega
theorem gridE_mem (c : Nat → Nat → Bool) (n x y : Nat) : ∀ a, (x, y) ∈ gridE c n a ↔ x < a ∧ y < n ∧ c x y = true
  | 0 => by simp [gridE]
  | a + 1 => by
    unfold gridE
    rw [List.mem_append, gridE_mem c n x y a, List.mem_map]
    constructor
    · rintro (⟨h1, h2, h3⟩ | ⟨b, hb, e⟩)
      · exact ⟨by omega, h2, h3⟩
      · cases e
        obtain ⟨h1, h2⟩ := (rowE_mem _ _ _).1 hb
        exact ⟨by omega, h1, h2⟩
    · rintro ⟨h1, h2, h3⟩
      by_cases e : x = a
      · subst e
        exact .inr ⟨y, (rowE_mem _ _ _).2 ⟨h2, h3⟩, rfl⟩
      · exact .inl ⟨by omega, h2, h3⟩
def e39 (p : List (Nat × Nat)) : List S39 := p.map fun x => ⟨(x.1 : Int), (x.2 : Int)⟩
def e68 (p : List (Nat × Nat)) : List S68 := p.map fun x => ⟨(x.1 : Int), (x.2 : Int)⟩
theorem e39_snoc (p : List (Nat × Nat)) (a b : Nat) : e39 p ++ [⟨(a : Int), (b : Int)⟩] = e39 (p ++ [(a, b)]) := by simp [e39]
theorem e68_snoc (p : List (Nat × Nat)) (a b : Nat) : e68 p ++ [⟨(a : Int), (b : Int)⟩] = e68 (p ++ [(a, b)]) := by simp [e68]
theorem fw_e39 (p : List (Nat × Nat)) : fw (e39 p) = e68 p := by
  unfold fw e39 e68
  rw [List.map_map]; rfl
theorem rdL10 {l : List (List S50)} {i : Nat} (h : i < l.length) : rd_L10 l (i : Int) = l[i] := by
  unfold rd_L10
  rw [Int.toNat_natCast, List.getD_eq_getElem?_getD, List.getElem?_eq_getElem h]; rfl
def cN (l : List (List S50)) (a b : Nat) : Bool := !decide (a = b) && needB (rd_L10 l (a : Int)) (rd_L10 l (b : Int))
def accE (l : List (List S50)) (a b : Nat) : List (Nat × Nat) := gridE (cN l) l.length a ++ (rowE (cN l a) b).map fun x => (a, x)
theorem accE_succ (l : List (List S50)) (a b : Nat) : accE l a (b + 1) = if cN l a b = true then accE l a b ++ [(a, b)] else accE l a b := by
  unfold accE
  rw [rowE]
  split
  · rw [List.map_append, List.append_assoc]; rfl
  · rfl
theorem accE_len (l : List (List S50)) (a b : Nat) : (accE l a b).length ≤ a * l.length + b := by
  have h1 := gridE_len (cN l) l.length a
  have h2 := rowE_len (cN l a) b
  unfold accE
  rw [List.length_append, List.length_map]
  omega
section
variable {l : List (List S50)} (hl : l.length ≤ 8) (hR : ∀ x, x ∈ l → RightP x)
include hl hR
theorem refNeeds_l1 {r : List S39} {a : Nat} (ha : a < l.length) (hend : Ev (fun k => arlinkref23_Needs.l0 k l (e39 (gridE (cN l) l.length (a + 1))) ((a + 1 : Nat) : Int)) r) :
    ∀ (d b : Nat), b + d = l.length → Ev (fun k => arlinkref23_Needs.l1 k l (e39 (accE l a b)) (a : Int) (b : Int)) r
  | 0, b, h => by
    have : b = l.length := by omega
    subst this
    exact Ev.step (fun k => by simp only [arlinkref23_Needs.l1]; rw [if_neg (by omega), wrN a (by omega)]; rfl) hend
  | d + 1, b, h => by
    have hb : b < l.length := by omega
    have ih := refNeeds_l1 ha hend d (b + 1) (by omega)
    rw [accE_succ] at ih
    have hlen := accE_len l a b
    have hmul : a * l.length ≤ 8 * 8 := Nat.mul_le_mul (by omega) hl
    have hel : (e39 (accE l a b)).length ≤ 1000 := by unfold e39; rw [List.length_map]; omega
    by_cases e : a = b
    · have hc : cN l a b = false := by unfold cN; rw [decide_eq_true e]; rfl
      rw [hc, if_neg (by decide)] at ih
      exact Ev.step (fun k => by simp only [arlinkref23_Needs.l1]; rw [if_pos (by omega), if_pos (by omega), wrN b (by omega)]) ih
    · have hc : cN l a b = needB (rd_L10 l (a : Int)) (rd_L10 l (b : Int)) := by unfold cN; rw [decide_eq_false e]; rfl
      rw [hc] at ih
      have hh := need23_ev (a := rd_L10 l (a : Int)) (b := rd_L10 l (b : Int)) (by rw [rdL10 ha]; exact (hR _ (List.getElem_mem ha)).slim) (by rw [rdL10 hb]; exact (hR _ (List.getElem_mem hb)).slim)
      refine Ev.step (f := fun k => (arlinkref23_Need.f k (rd_L10 l (a : Int)) (rd_L10 l (b : Int))).bind fun t => if t = true then arlinkref23_Needs.l1 k l (e39 (accE l a b ++ [(a, b)])) (a : Int) ((b + 1 : Nat) : Int) else arlinkref23_Needs.l1 k l (e39 (accE l a b)) (a : Int) ((b + 1 : Nat) : Int)) (fun k => by
        simp only [arlinkref23_Needs.l1]
        rw [if_pos (by omega), if_neg (by omega), if_pos (by omega), if_pos (by omega), if_pos (by omega), if_pos (by omega), e39_snoc, wrN b (by omega)]) (Ev.bind hh ?_)
      cases hv : needB (rd_L10 l (a : Int)) (rd_L10 l (b : Int)) with
      | true =>
        rw [hv, if_pos rfl] at ih
        exact Ev.congr (fun k => by rw [if_pos rfl]) ih
      | false =>
        rw [hv, if_neg (by decide)] at ih
        exact Ev.congr (fun k => by rw [if_neg (by decide)]) ih
theorem refNeeds_l0 : ∀ (d a : Nat), a + d = l.length → Ev (fun k => arlinkref23_Needs.l0 k l (e39 (gridE (cN l) l.length a)) (a : Int)) (e39 (gridE (cN l) l.length l.length))
  | 0, a, h => by
    have : a = l.length := by omega
    subst this
    exact Ev.step (f := fun _ => some (e39 (gridE (cN l) l.length l.length))) (fun k => by simp only [arlinkref23_Needs.l0]; rw [if_neg (by omega)]) (Ev.now _)
  | d + 1, a, h => by
    have ih := refNeeds_l0 d (a + 1) (by omega)
    have h1 := refNeeds_l1 hl hR (by omega) ih l.length 0 (by omega)
    have e : accE l a 0 = gridE (cN l) l.length a := by simp [accE, rowE]
    rw [e] at h1
    exact Ev.step (f := fun k => arlinkref23_Needs.l1 k l (e39 (gridE (cN l) l.length a)) (a : Int) ((0 : Nat) : Int)) (fun k => by simp only [arlinkref23_Needs.l0]; rw [if_pos (by omega)]; rfl) h1
theorem refNeeds_ev : Ev (fun k => arlinkref23_Needs.f k l) (e39 (gridE (cN l) l.length l.length)) := refNeeds_l0 hl hR l.length 0 (by omega)
theorem needs_l1 {r : List S68} {a : Nat} (ha : a < l.length) (hend : Ev (fun k => order_Needs.l0 k l (e68 (gridE (cN l) l.length (a + 1))) l (l.length : Int) ((a + 1 : Nat) : Int)) r) :
    ∀ (d b : Nat), b + d = l.length → Ev (fun k => order_Needs.l1 k l (e68 (accE l a b)) (a : Int) (rd_L10 l (a : Int)) l (l.length : Int) (a : Int) l (l.length : Int) (b : Int)) r
  | 0, b, h => by
    have : b = l.length := by omega
    subst this
    exact Ev.step (fun k => by simp only [order_Needs.l1]; rw [if_neg (by omega), wrN a (by omega)]; rfl) hend
  | d + 1, b, h => by
    have hb : b < l.length := by omega
    have ih := needs_l1 ha hend d (b + 1) (by omega)
    rw [accE_succ] at ih
    have hlen := accE_len l a b
    have hmul : a * l.length ≤ 8 * 8 := Nat.mul_le_mul (by omega) hl
    have hel : (e68 (accE l a b)).length ≤ 1000 := by unfold e68; rw [List.length_map]; omega
    by_cases e : a = b
    · have hc : cN l a b = false := by unfold cN; rw [decide_eq_true e]; rfl
      rw [hc, if_neg (by decide)] at ih
      exact Ev.step (fun k => by simp only [order_Needs.l1]; rw [if_pos (by omega), if_pos (by omega), if_pos (by omega), if_pos (by omega), wrN b (by omega)]) ih
    · have hc : cN l a b = needB (rd_L10 l (a : Int)) (rd_L10 l (b : Int)) := by unfold cN; rw [decide_eq_false e]; rfl
      rw [hc] at ih
      obtain ⟨v, hv1, hv2⟩ := needed_some (a := rd_L10 l (a : Int)) (b := rd_L10 l (b : Int)) (by rw [rdL10 ha]; exact hR _ (List.getElem_mem ha)) (by rw [rdL10 hb]; exact hR _ (List.getElem_mem hb))
      by_cases hv : needB (rd_L10 l (a : Int)) (rd_L10 l (b : Int)) = true
      · rw [if_pos hv] at ih
        exact Ev.step (fun k => by
          simp only [order_Needs.l1]
          rw [if_pos (by omega), if_pos (by omega), if_pos (by omega), if_neg (by omega), hv1, Option.bind_some, if_pos (hv2.2 hv), if_pos (by omega), e68_snoc, wrN b (by omega)]) ih
      · rw [if_neg hv] at ih
        exact Ev.step (fun k => by
          simp only [order_Needs.l1]
          rw [if_pos (by omega), if_pos (by omega), if_pos (by omega), if_neg (by omega), hv1, Option.bind_some, if_neg (fun h => hv (hv2.1 h)), wrN b (by omega)]) ih
theorem needs_l0 : ∀ (d a : Nat), a + d = l.length → Ev (fun k => order_Needs.l0 k l (e68 (gridE (cN l) l.length a)) l (l.length : Int) (a : Int)) (e68 (gridE (cN l) l.length l.length))
  | 0, a, h => by
    have : a = l.length := by omega
    subst this
    exact Ev.step (f := fun _ => some (e68 (gridE (cN l) l.length l.length))) (fun k => by simp only [order_Needs.l0]; rw [if_neg (by omega)]) (Ev.now _)
  | d + 1, a, h => by
    have ih := needs_l0 d (a + 1) (by omega)
    have h1 := needs_l1 hl hR (by omega) ih l.length 0 (by omega)
    have e : accE l a 0 = gridE (cN l) l.length a := by simp [accE, rowE]
    rw [e] at h1
    exact Ev.step (f := fun k => order_Needs.l1 k l (e68 (gridE (cN l) l.length a)) (a : Int) (rd_L10 l (a : Int)) l (l.length : Int) (a : Int) l (l.length : Int) ((0 : Nat) : Int)) (fun k => by simp only [order_Needs.l0]; rw [if_pos (by omega), if_pos (by omega), if_pos (by omega)]; rfl) h1
theorem needs_ev : Ev (fun k => order_Needs.f k l) (e68 (gridE (cN l) l.length l.length)) := needs_l0 hl hR l.length 0 (by omega)
end
theorem right23_loop (l : List (List S50)) (hl : l.length ≤ 8) : ∀ (d i : Nat), i + d = l.length → ∃ b, Ev (fun k => arlinklaw23_right.l0 k l (i : Int)) b ∧ (b = true → ∀ (j : Nat) (hj : j < l.length), i ≤ j → RightP l[j])
  | 0, i, h => ⟨true, Ev.step (f := fun _ => some true) (fun k => by simp only [arlinklaw23_right.l0]; rw [if_neg (by omega)]) (Ev.now _), fun _ j hj hij => by omega⟩
  | d + 1, i, h => by
    have hi : i < l.length := by omega
    obtain ⟨b, hb, hb2⟩ := right23_loop l hl d (i + 1) (by omega)
    obtain ⟨c, hc, hc2⟩ := right_ev l[i]
    have hst : ∀ {r : Bool}, Ev (fun k => (arlinkref14_Right.f k l[i]).bind fun t => if t = true then arlinklaw23_right.l0 k l ((i + 1 : Nat) : Int) else some false) r → Ev (fun k => arlinklaw23_right.l0 k l (i : Int)) r := fun hr =>
      Ev.step (fun k => by simp only [arlinklaw23_right.l0]; rw [if_pos (by omega), if_pos (by omega), rdL10 hi, wrN i (by omega)]) hr
    cases c with
    | false => exact ⟨false, hst (Ev.bind hc (Ev.now _)), fun h => by cases h⟩
    | true =>
      refine ⟨b, hst (Ev.bind hc (Ev.congr (fun k => by rw [if_pos rfl]) hb)), fun h j hj hij => ?_⟩
      by_cases e : i = j
      · subst e; exact hc2 rfl
      · exact hb2 h j hj (by omega)
theorem right23_ev (l : List (List S50)) : ∃ b, Ev (fun k => arlinklaw23_right.f k l) b ∧ (b = true → l.length ≤ 8 ∧ ∀ x, x ∈ l → RightP x) := by
  unfold arlinklaw23_right.f
  by_cases c : (l.length : Int) > 8
  · exact ⟨false, Ev.congr (fun k => by rw [if_pos c]) (Ev.now _), fun h => by cases h⟩
  · obtain ⟨b, hb, hb2⟩ := right23_loop l (by omega) l.length 0 (by omega)
    refine ⟨b, Ev.congr (f := fun k => arlinklaw23_right.l0 k l ((0 : Nat) : Int)) (fun k => by rw [if_neg c]; rfl) hb, fun h => ⟨by omega, fun x hx => ?_⟩⟩
    obtain ⟨j, hj, rfl⟩ := List.getElem_of_mem hx
    exact hb2 h j hj (by omega)
theorem rd68 {l : List S68} {i : Nat} (h : i < l.length) : rd_T68 l (i : Int) = l[i] := by
  unfold rd_T68
  rw [Int.toNat_natCast, List.getD_eq_getElem?_getD, List.getElem?_eq_getElem h]; rfl
def bk (l : List S68) : List S39 := l.map fun x => ⟨x.f0, x.f1⟩
theorem back_loop (l : List S68) (hl : l.length ≤ 1000000) : ∀ (d i : Nat), i + d = l.length → Ev (fun k => arlinklaw23_back.l0 k l (bk (l.take i)) (i : Int)) (bk l)
  | 0, i, h => by
    have : l.take i = l := List.take_of_length_le (by omega)
    rw [this]
    exact Ev.step (f := fun _ => some (bk l)) (fun k => by simp only [arlinklaw23_back.l0]; rw [if_neg (by omega)]) (Ev.now _)
  | d + 1, i, h => by
    have hi : i < l.length := by omega
    have ih := back_loop l hl d (i + 1) (by omega)
    have e : bk (l.take (i + 1)) = bk (l.take i) ++ [⟨(l[i]).f0, (l[i]).f1⟩] := by
      unfold bk
      rw [List.take_add_one, List.getElem?_eq_getElem hi, List.map_append]; rfl
    rw [e] at ih
    have hb : (bk (l.take i)).length ≤ 1000000 := by unfold bk; rw [List.length_map, List.length_take]; omega
    exact Ev.step (fun k => by
      simp only [arlinklaw23_back.l0]
      rw [if_pos (by omega), if_pos (by omega), if_pos (by omega), rd68 hi, wrN i (by omega)]) ih
theorem back_ev (l : List S68) (hl : l.length ≤ 1000000) : Ev (fun k => arlinklaw23_back.f k l) (bk l) := by
  have := back_loop l hl l.length 0 (by omega)
  rwa [List.take_zero] at this
theorem bk_e68 (p : List (Nat × Nat)) : bk (e68 p) = e39 p := by
  unfold bk e39 e68
  rw [List.map_map]; rfl
theorem same23_loop (a : List S39) (hl : a.length ≤ 1000000) : ∀ (d i : Nat), i + d = a.length → Ev (fun k => arlinkref23_Same.l0 k a a (i : Int)) true
  | 0, i, h => Ev.step (f := fun _ => some true) (fun k => by simp only [arlinkref23_Same.l0]; rw [if_neg (by omega)]) (Ev.now _)
  | d + 1, i, h => Ev.step (f := fun k => arlinkref23_Same.l0 k a a ((i + 1 : Nat) : Int)) (fun k => by
      simp only [arlinkref23_Same.l0, beq_self_eq_true, Bool.not_true, Bool.or_self]
      rw [if_pos (by omega), if_pos (by omega), if_pos (by omega), if_neg (by decide), wrN i (by omega)]) (same23_loop a hl d (i + 1) (by omega))
theorem same23_ev (a : List S39) (hl : a.length ≤ 1000000) : Ev (fun k => arlinkref23_Same.f k a a) true := by
  unfold arlinkref23_Same.f
  exact Ev.congr (f := fun k => arlinkref23_Same.l0 k a a ((0 : Nat) : Int)) (fun k => by rw [if_pos rfl]; rfl) (same23_loop a hl a.length 0 (by omega))
theorem numbers23_loop (a : List Int) (hl : a.length ≤ 1000000) : ∀ (d i : Nat), i + d = a.length → Ev (fun k => arlinkref04_Numbers.l0 k a a (i : Int)) true
  | 0, i, h => Ev.step (f := fun _ => some true) (fun k => by simp only [arlinkref04_Numbers.l0]; rw [if_neg (by omega)]) (Ev.now _)
  | d + 1, i, h => Ev.step (f := fun k => arlinkref04_Numbers.l0 k a a ((i + 1 : Nat) : Int)) (fun k => by simp only [arlinkref04_Numbers.l0]; rw [if_pos (by omega), if_pos (by omega), if_pos (by omega), if_true, wrN i (by omega)]) (numbers23_loop a hl d (i + 1) (by omega))
theorem numbers23_same (a : List Int) (hl : a.length ≤ 1000000) : Ev (fun k => arlinkref04_Numbers.f k a a) true := by
  unfold arlinkref04_Numbers.f
  exact Ev.congr (f := fun k => arlinkref04_Numbers.l0 k a a ((0 : Nat) : Int)) (fun k => by rw [if_pos rfl]; rfl) (numbers23_loop a hl a.length 0 (by omega))
section
variable {l : List (List S50)} {m : List Int} (hR : ∀ x, x ∈ l → RightP x) (hm : m.length ≤ 8) (hb : ∀ i, i < m.length → ∃ p : Nat, rd m (i : Int) = (p : Int) ∧ p < l.length)
  (hno : ∀ i j, i < m.length → j < i → needB (rd_L10 l (rd m (i : Int))) (rd_L10 l (rd m (j : Int))) = false)
include hR hm hb hno
theorem arch_l1 {i : Nat} (hi : i < m.length) (hend : Ev (fun k => arlinklaw23_OrderArchives.l0 k l m ((i + 1 : Nat) : Int)) true) : ∀ (d j : Nat), j + d = i → Ev (fun k => arlinklaw23_OrderArchives.l1 k l m (i : Int) (j : Int)) true
  | 0, j, h => Ev.step (fun k => by simp only [arlinklaw23_OrderArchives.l1]; rw [if_neg (by omega), wrN i (by omega)]) hend
  | d + 1, j, h => by
    obtain ⟨p, hp1, hp2⟩ := hb i hi
    obtain ⟨q, hq1, hq2⟩ := hb j (by omega)
    have hn := hno i j hi (by omega)
    rw [hp1, hq1] at hn
    have hh := need23_ev (a := rd_L10 l (p : Int)) (b := rd_L10 l (q : Int)) (by rw [rdL10 hp2]; exact (hR _ (List.getElem_mem hp2)).slim) (by rw [rdL10 hq2]; exact (hR _ (List.getElem_mem hq2)).slim)
    rw [hn] at hh
    exact Ev.step (f := fun k => (arlinkref23_Need.f k (rd_L10 l (p : Int)) (rd_L10 l (q : Int))).bind fun t => if t = true then some false else arlinklaw23_OrderArchives.l1 k l m (i : Int) ((j + 1 : Nat) : Int)) (fun k => by
      simp only [arlinklaw23_OrderArchives.l1]
      rw [if_pos (by omega), if_pos (by omega), if_pos (by omega), hp1, if_pos (by omega), if_pos (by omega), if_pos (by omega), if_pos (by omega), hq1, if_pos (by omega), if_pos (by omega), wrN j (by omega)]) (Ev.bind hh (Ev.congr (fun k => by rw [if_neg (by decide)]) (arch_l1 hi hend d (j + 1) (by omega))))
theorem arch_l0 : ∀ (d i : Nat), i + d = m.length → Ev (fun k => arlinklaw23_OrderArchives.l0 k l m (i : Int)) true
  | 0, i, h => Ev.step (f := fun _ => some true) (fun k => by simp only [arlinklaw23_OrderArchives.l0]; rw [if_neg (by omega)]) (Ev.now _)
  | d + 1, i, h => by
    have ih := arch_l0 d (i + 1) (by omega)
    exact Ev.step (f := fun k => arlinklaw23_OrderArchives.l1 k l m (i : Int) ((0 : Nat) : Int)) (fun k => by simp only [arlinklaw23_OrderArchives.l0]; rw [if_pos (by omega)]; rfl) (arch_l1 hR hm hb hno (by omega) ih i 0 (by omega))
end
theorem awake23_ev : Ev (fun k => arlinklaw23_awake.f k) true := Ev.of (fun k => arlinklaw23_awake.mono k) (k := 20) (by kernel_rfl)
theorem archives_ev (l : List (List S50)) : Ev (fun k => arlinklaw23_OrderArchives.f k l) true := by
  have hj : Ev (fun k => arlinklaw23_OrderArchives.j0 k l true) true := Ev.step (f := fun k => (arlinklaw23_awake.f k).bind fun t => some t) (fun k => by simp only [arlinklaw23_OrderArchives.j0]; rfl) (Ev.bind awake23_ev (Ev.now _))
  unfold arlinklaw23_OrderArchives.f
  refine Ev.bind awake23_ev (Ev.congr (fun k => by rw [if_pos rfl]) ?_)
  obtain ⟨b, hb, hbP⟩ := right23_ev l
  refine Ev.bind hb ?_
  cases b with
  | false => exact hj
  | true =>
    obtain ⟨hl, hR⟩ := hbP rfl
    obtain ⟨P, hP⟩ : ∃ P, gridE (cN l) l.length l.length = P := ⟨_, rfl⟩
    have hrn := refNeeds_ev hl hR
    have hon := needs_ev hl hR
    rw [hP] at hrn hon
    have hPl : P.length ≤ 64 := by
      have := gridE_len (cN l) l.length l.length
      rw [hP] at this
      have h2 : l.length * l.length ≤ 8 * 8 := Nat.mul_le_mul hl hl
      omega
    have h39 : (e39 P).length ≤ 64 := by unfold e39; rw [List.length_map]; exact hPl
    have h68 : (e68 P).length ≤ 64 := by unfold e68; rw [List.length_map]; exact hPl
    have hmemP : ∀ x y, (x, y) ∈ P ↔ x < l.length ∧ y < l.length ∧ cN l x y = true := fun x y => by rw [← hP]; exact gridE_mem _ _ _ _ _
    have hv : validS (l.length : Int) (e68 P) = true := by
      unfold validS
      simp only [Bool.and_eq_true, decide_eq_true_eq, List.all_eq_true]
      refine ⟨⟨fun e he => ?_, by omega⟩, by omega⟩
      unfold e68 at he
      obtain ⟨⟨x, y⟩, hx, rfl⟩ := List.mem_map.1 he
      obtain ⟨h1, h2, _⟩ := (hmemP x y).1 hx
      rw [edgeIn_iff]
      dsimp only
      omega
    obtain ⟨r, s1, s2, _⟩ := sorts_alike (l.length : Int) (e39 P) (by omega)
    rw [fw_e39] at s1
    obtain ⟨g, g1, g2⟩ := sort_ok hv (by omega)
    rw [g2] at s1
    have hr : r = if (g.length : Int) < (l.length : Int) then ([], 18) else (g, 0) := (Option.some.inj s1).symm
    obtain ⟨ok1, ok2, _⟩ := g1.ok List.nodup_nil (fun v hv => by simp at hv)
    have htopo := g1.topo (fun p x s h => by simp at h)
    have hgl : g.length ≤ l.length := by
      have := pigeonI l.length g ok1 ok2
      exact this
    have hmain : ∀ m, r.1 = m → m.length ≤ 8 ∧ (∀ i, i < m.length → ∃ p : Nat, rd m (i : Int) = (p : Int) ∧ p < l.length) ∧ ∀ i j, i < m.length → j < i → needB (rd_L10 l (rd m (i : Int))) (rd_L10 l (rd m (j : Int))) = false := by
      rintro m rfl
      rw [hr]
      split
      · exact ⟨by simp, fun i hi => by simp at hi, fun i j hi => by simp at hi⟩
      · refine ⟨by dsimp only; omega, fun i hi => ?_, fun i j hi hj => ?_⟩
        · dsimp only at hi ⊢
          rw [rd_at hi]
          have := ok2 _ (List.getElem_mem hi)
          exact ⟨g[i].toNat, by omega, by omega⟩
        · dsimp only at hi ⊢
          have hjg : j < g.length := by omega
          rw [rd_at hi, rd_at hjg]
          cases hn : needB (rd_L10 l g[i]) (rd_L10 l g[j]) with
          | false => rfl
          | true =>
            exfalso
            have b1 := ok2 _ (List.getElem_mem hi)
            have b2 := ok2 _ (List.getElem_mem hjg)
            obtain ⟨x, hx⟩ : ∃ x : Nat, g[i] = (x : Int) := ⟨g[i].toNat, by omega⟩
            obtain ⟨y, hy⟩ : ∃ y : Nat, g[j] = (y : Int) := ⟨g[j].toNat, by omega⟩
            have hne : x ≠ y := by
              rintro rfl
              exact (List.pairwise_iff_getElem.1 ok1) j i hjg hi hj (by rw [hx, hy])
            rw [hx, hy] at hn
            have hedge : (⟨(x : Int), (y : Int)⟩ : S68) ∈ e68 P := by
              unfold e68
              refine List.mem_map.2 ⟨(x, y), (hmemP x y).2 ⟨by omega, by omega, ?_⟩, rfl⟩
              unfold cN
              rw [decide_eq_false hne, hn]; rfl
            have hfree := htopo (g.take j) g[j] (g.drop (j + 1)) (by rw [← List.drop_eq_getElem_cons hjg, List.take_append_drop]) _ hedge (by dsimp only; rw [hy])
            dsimp only at hfree
            rw [← hx] at hfree
            obtain ⟨t, ht, hte⟩ := List.getElem_of_mem hfree
            rw [List.getElem_take] at hte
            rw [List.length_take] at ht
            exact (List.pairwise_iff_getElem.1 ok1) t i (by omega) hi (by omega) hte
    obtain ⟨m1, m2, m3⟩ := hmain r.1 rfl
    have harch : Ev (fun k => order_Archives.f k l) r := by
      unfold order_Archives.f
      exact Ev.bind hon (Ev.congr (f := fun _ => some r) (fun k => by rw [g2, Option.bind_some, ← hr]) (Ev.now _))
    refine Ev.step (f := fun k => (arlinkref23_Needs.f k l).bind fun t509 => (order_Needs.f k l).bind fun t512 => (arlinklaw23_back.f k t512).bind fun t515 => (arlinkref23_Same.f k t515 t509).bind fun t518 => if t518 = true then (order_Archives.f k l).bind fun bt519 => (arlinkref23_Sort.f k (l.length : Int) t509).bind fun bt523 => (arlinkref04_Numbers.f k bt519.1 bt523.1).bind fun t527 => if t527 = true then arlinklaw23_OrderArchives.j1 k l bt519.1 (bt519.2 != bt523.2) else arlinklaw23_OrderArchives.j1 k l bt519.1 true else some false) (fun k => by
      simp only [arlinklaw23_OrderArchives.j0, Bool.not_true]; rw [if_neg (by decide)]) ?_
    have hbk := back_ev (e68 P) (by omega)
    rw [bk_e68] at hbk
    refine Ev.bind hrn (Ev.bind hon (Ev.bind hbk (Ev.bind (same23_ev (e39 P) (by omega)) (Ev.congr (fun k => by rw [if_pos rfl]) ?_))))
    refine Ev.bind harch (Ev.bind s2 (Ev.bind (numbers23_same r.1 (by omega)) (Ev.congr (fun k => by rw [if_pos rfl, bne_self_eq_false]) ?_)))
    exact Ev.step (f := fun k => arlinklaw23_OrderArchives.l0 k l r.1 ((0 : Nat) : Int)) (fun k => by simp only [arlinklaw23_OrderArchives.j1]; rw [if_neg (by decide)]; rfl) (arch_l0 hR m1 m2 m3 r.1.length 0 (by omega))
end Go.Proofs.Ythpjpkcfepmhkaa.PAll
