/- Laid together by a program of this session (wip/bundle.py) out of its own texts and of the words that the kit's print.sh laid for this seat, cut to what is used. -/
import Derived.Test.YthpjpkcfepmhkaaMOrderKeeps5
namespace Go.Proofs.Ythpjpkcfepmhkaa.PAll
open Go.RowKit Go.Proofs.YthpjpkcfepmhkaaW.PrintWords Go.Proofs.YthpjpkcfepmhkaaW.PrintLast Go.Proofs.YthpjpkcfepmhkaaW.PrintMore
set_option linter.unusedVariables false
set_option linter.unusedSimpArgs false
set_option maxRecDepth 10000 in
set_option maxHeartbeats 400000000 in
theorem keep_calls (k : Nat) (a0 : Int) (A1 : Option Addr) (c1 : Nat) (es : List S39) (A2 : Option Addr) (c2 : Nat) (ls : List (List S50)) (n : Int) (b1 b2 : Bool) (w : World)
    (hr1 : Kd.C k39 w A1 es.length es) (hc1 : es.length ≤ c1) (hr2 : Kd.C (Kd.slice 50 k50) w A2 ls.length ls) (hc2 : ls.length ≤ c2)
    (hI : KeepIn k a0 n es ls b1 b2) (hG : es.length ≤ 100 → b1 = true → b2 = true → ∃ E r1 r2 q m1 m2 E2, KeepGo k n es ls E r1 r2 q m1 m2 E2) :
    Calls Try.prog 12 #[.int .u8 a0, .slice A1 es.length c1, .slice A2 ls.length c2] w fun e w' => e = .returned (.bool true) ∧ Below w.heap.size w w' := by
  go_enter Try.func12, Try.ntmps12
  have HM := Lib.hid (show KW w w A1 c1 es A2 c2 ls from ⟨Below.refl _ _, hr1, hc1, hr2, hc2⟩)
  have hn := hI.hn
  clear hr1 hc1 hr2 hc2
  go_wp2_with fail
  refine (arlinklaw23_awake.calls k true _ hI.a).mono ?_
  rintro e w2 ⟨rfl, hb⟩
  have HM2 := Lib.hid (HM.out.below hb)
  clear HM hb hn
  by_cases hel : (es.length : Int) > 100
  · have hel' : decide ((es.length : Int) > 100) = true := decide_eq_true hel
    go_wp2_with fail
    refine (arlinklaw23_awake.calls k true _ hI.a).mono ?_
    rintro e we ⟨rfl, hbe⟩
    go_wp2
    go_ret
    exact ⟨rfl, below_then HM2.out.B (below_size HM2.out.B) hbe⟩
  · have hel' : decide ((es.length : Int) > 100) = false := decide_eq_false hel
    go_wp2_with fail
    refine (arlinkref23_Valid.calls k n A1 c1 es b1 w2 HM2.out.e HM2.out.ec (hI.v (by omega))).mono ?_
    rintro e w3 ⟨rfl, hb⟩
    have HM3 := Lib.hid (HM2.out.below hb)
    clear HM2 hb
    cases b1 with
    | false =>
      go_wp2_with fail
      refine (arlinklaw23_awake.calls k true _ hI.a).mono ?_
      rintro e we ⟨rfl, hbe⟩
      go_wp2
      go_ret
      exact ⟨rfl, below_then HM3.out.B (below_size HM3.out.B) hbe⟩
    | true =>
      go_wp2_with fail
      refine (arlinklaw23_right.calls k A2 c2 ls b2 w3 HM3.out.l HM3.out.lc hI.r).mono ?_
      rintro e w4 ⟨rfl, hb⟩
      have HM4 := Lib.hid (HM3.out.below hb)
      clear HM3 hb
      cases b2 with
      | false =>
        go_wp2_with fail
        refine (arlinklaw23_awake.calls k true _ hI.a).mono ?_
        rintro e we ⟨rfl, hbe⟩
        go_wp2
        go_ret
        exact ⟨rfl, below_then HM4.out.B (below_size HM4.out.B) hbe⟩
      | true =>
        obtain ⟨E, r1, r2, q, m1, m2, E2, hg⟩ := hG (by omega) (by simp) (by simp)
        have HG := Lib.hid hg
        clear hg hG hel hel'
        go_wp2_with fail
        refine (arlinklaw23_forward.calls k A1 c1 es E w4 HM4.out.e HM4.out.ec HG.out.fw).mono ?_
        rintro e w5 ⟨v8, rfl, hR, hb⟩
        have HM5 := Lib.hid (HM4.out.below hb)
        obtain ⟨A8, c8, rfl⟩ := Kd.R_slice hR
        have H8 := Lib.hid (Kd.R_reads' hR).2
        clear HM4 hR hb
        go_wp2_with fail
        refine (order_Sort.calls n A8 c8 E r1 r2 w5 H8.out.2 H8.out.1 HG.out.so).mono ?_
        rintro e w6 ⟨v9, rfl, hR, hb⟩
        obtain ⟨A9, c9, rfl⟩ := Kd.R_slice hR
        have H9 := Aside0.mk hR
        have HB6 := Aside0.mk hb
        have hrl := Lib.hid HG.out.rl
        clear hR hb
        go_wp2_with fail
        go_loopg [11] (r1.length + 1) (fun kq v11 w' => ∃ (i : Nat) (ys : List Int), v11 = .int .i64 (i : Int) ∧ Aside0 (i + kq = r1.length + 1 ∧ i ≤ r1.length ∧ ys.length = r1.length) ∧ Aside0 (Kd.R (Kd.int .i64) 3 w' w5.heap.size (fun _ => True) (.slice A9 r1.length c9) ys) ∧ Aside0 (Below w5.heap.size w5 w'))
        case atStart => exact ⟨0, r1, rfl, ⟨by omega, by omega, rfl⟩, H9, HB6⟩
        case round =>
          obtain ⟨i, ys, rfl, HA, HR, HBw⟩ := hrel
          clear H9 HB6
          by_cases c : i < r1.length
          · have c' : decide ((i : Int) < (r1.length : Int)) = true := decide_eq_true (by omega)
            have cd2 : decide (i < r1.length) = true := decide_eq_true c
            obtain ⟨g, cap, e, hg1, hg2, _⟩ := Kd.R_form HR.out (by have := HA.out; omega)
            injection e with e1 e2 e3
            subst e1
            subst e3
            have hset := Aside0.mk (R.row_set HR.out i (-1))
            obtain ⟨y0, f0⟩ := R.row_cell HR.out i (by have := HA.out; omega)
            have p0 : (0 ≤ (i : Int)) = True := eq_true (by omega)
            have p1 : ((i : Int) < (r1.length : Int)) = True := eq_true (by omega)
            have hiN := Aside0.mk c
            clear c e2
            go_wp2
            go_roundg (gk - 1)
            case measure => have := HA.out; have := hiN.out; omega
            case rel => exact ⟨i + 1, ys.set i (-1), by rw [show wrap64 ((i : Int) + 1) = ((i + 1 : Nat) : Int) from by have := hiN.out; have := hrl.out; unfold wrap64; omega], ⟨by have := HA.out; have := hiN.out; omega, by have := hiN.out; omega, by rw [List.length_set]; exact HA.out.2.2⟩, ⟨hset.out.1⟩, ⟨below_set HBw.out hg1⟩⟩
          · have c' : decide ((i : Int) < (r1.length : Int)) = false := decide_eq_false (by omega)
            have cd2 : decide (i < r1.length) = false := decide_eq_false c
            have HM7 := Lib.hid (HM5.out.below HBw.out)
            have H87 := Lib.hid (And.intro H8.out.1 (Kd.C_below H8.out.2 HBw.out))
            clear HM5 H8 HR HBw HA
            go_wp2_with fail
            clear c' cd2 c
            refine (order_Cycle.calls n A8 c8 E q wr H87.out.2 H87.out.1 HG.out.cy).mono ?_
            rintro e w8 ⟨v59, rfl, _, hb⟩
            have HM8 := Lib.hid (HM7.out.below hb)
            have H88 := Lib.hid (And.intro H87.out.1 (Kd.C_below H87.out.2 hb))
            clear HM7 H87 hb
            go_wp2_with fail
            have hll := Lib.hid HG.out.ll
            go_loopg [12, 13] (ls.length + 1) (fun kq v12 v13 w' => ∃ (i : Nat) (xss : List (List (List S55 × Value))), v13 = .int .i64 (i : Int) ∧ Aside0 (i + kq = ls.length + 1 ∧ i ≤ ls.length) ∧ Aside0 ((Kd.slice 50 kX).R 42 w' w8.heap.size (fun _ => True) v12 xss ∧ Rel2 (Rel2 (fun x o => RepB w8 o x)) xss (ls.take i)) ∧ Aside0 (Below w8.heap.size w8 w'))
            case atStart => exact ⟨0, [], rfl, ⟨by omega, by omega⟩, ⟨Kd.R_nil _ _ _ _ _, Rel2.nil⟩, ⟨Below.refl _ _⟩⟩
            case round =>
              obtain ⟨i, xss, rfl, HA, HO, HB8⟩ := hrel
              obtain ⟨wi, hwi⟩ : ∃ wi, wi = wr := ⟨_, rfl⟩
              subst hwi
              obtain ⟨go, hgo⟩ : ∃ go, go = gk := ⟨_, rfl⟩
              subst hgo
              by_cases c : i < ls.length
              · have c' : decide ((i : Int) < (ls.length : Int)) = true := decide_eq_true (by omega)
                have cd2 : decide (i < ls.length) = true := decide_eq_true c
                obtain ⟨ad, A0, c0, e, hcell, hle, hC⟩ := at_L10 HM8.out.l (i : Int) (by omega) (by omega)
                subst e
                simp only [Int.toNat_natCast] at hcell
                have hCl := Lib.hid hC
                have hcl := Lib.hid hcell
                have hlen := Lib.hid hle
                have hL : rd_L10 ls (i : Int) ∈ ls := by rw [rdL10k c]; exact List.getElem_mem c
                have hl12 := Lib.hid (HG.out.lo _ hL)
                have hl20 := Lib.hid (HG.out.lq _ hL)
                have hiN := Aside0.mk c
                obtain ⟨l, hl⟩ : ∃ l, rd_L10 ls (i : Int) = l := ⟨_, rfl⟩
                have hl' := Lib.hid hl
                rw [hl] at hCl hcl hlen hl12 hl20
                clear c hcell hle hC hL hl
                go_wp2_with fail
                go_loopg [14, 15] (l.length + 1) (fun kq v14 v15 w' => ∃ (j : Nat) (xs : List (List S55 × Value)), v15 = .int .i64 (j : Int) ∧ Aside0 (j + kq = l.length + 1 ∧ j ≤ l.length) ∧ Aside0 (kX.R 50 w' wi.heap.size (fun _ => True) v14 xs ∧ Rel2 (fun x o => RepB w8 o x) xs (l.take j)) ∧ Aside0 (Below wi.heap.size wi w'))
                case atStart => exact ⟨0, [], rfl, ⟨by omega, by omega⟩, ⟨Kd.R_nil _ _ _ _ _, Rel2.nil⟩, ⟨Below.refl _ _⟩⟩
                case round =>
                  obtain ⟨j, xs, rfl, HA2, HO2, HBi⟩ := hrel
                  obtain ⟨wj, hwj⟩ : ∃ wj, wj = wr := ⟨_, rfl⟩
                  subst hwj
                  have q0 : (0 ≤ (i : Int)) = True := eq_true (by omega)
                  have q1 : ((i : Int) < (ls.length : Int)) = True := eq_true (by have := hiN.out; omega)
                  have y := ((below_then HB8.out HB8.out.size HBi.out).cell (World.block_lt_of_cell? w8 _ hcl.out)).trans hcl.out
                  by_cases c : j < l.length
                  · have c' : decide ((j : Int) < (l.length : Int)) = true := decide_eq_true (by omega)
                    have cd2 : decide (j < l.length) = true := decide_eq_true c
                    obtain ⟨ad2, B0, d0, B1, d1, e2, y0, y1, l0, g0, l1, g1⟩ := at_T50 hCl.out (j : Int) (by omega) (by omega)
                    subst e2
                    simp only [Int.toNat_natCast] at y0 y1
                    have ho : rd_T50 l (j : Int) ∈ l := by rw [rd50k c]; exact List.getElem_mem c
                    have hj20 := hl20.out _ ho
                    have htk := Lib.hid (show l.take (j + 1) = l.take j ++ [rd_T50 l (j : Int)] from by rw [rd50k c, List.take_add_one, List.getElem?_eq_getElem c]; rfl)
                    obtain ⟨o, hoe⟩ : ∃ o, rd_T50 l (j : Int) = o := ⟨_, rfl⟩
                    rw [hoe] at y0 y1 l0 g0 l1 g1 hj20 htk
                    have hxl : xs.length ≤ 12 := by have := HO2.out.2.1; rw [List.length_take] at this; have := hl12.out; omega
                    have HC := Lib.hid (And.intro g0 (And.intro (And.intro l1 g1) (And.intro hj20 hxl)))
                    have HY := Lib.hid (And.intro hcl.out (And.intro y0 y1))
                    have hjN := Aside0.mk c
                    have p0 : (0 ≤ (j : Int)) = True := eq_true (by omega)
                    have p1 : ((j : Int) < (l.length : Int)) = True := eq_true (by omega)
                    clear c y0 y1 l0 g0 l1 g1 hj20 hxl hoe ho
                    go_wp2_with fail
                    have HB9 := Lib.hid (below_then HB8.out HB8.out.size (below_then HBi.out HBi.out.size (below_drew (Below.refl _ _))))
                    have HM9 := Lib.hid (Kd.R_below HO2.out.1 (below_drew (Below.refl _ _)))
                    have HBi9 := Lib.hid (below_then HBi.out HBi.out.size (below_drew (Below.refl _ _)))
                    refine start_ (n := 23) (S := fun w' => w'.cell? (ad.add i) = some (.slice (some ad2) l.length c0) ∧ w'.cell? (ad2.add (j * 2)) = some (.slice B0 o.f0.length d0) ∧ w'.cell? ⟨(ad2.add (j * 2)).block, (ad2.add (j * 2)).off + 1, none⟩ = some (.slice B1 o.f1.length d1)) (ds := []) #[false, false, false, false, false, false, false, false, false, false, false, false, false, false, false, false, false, false, false, false, false, false, false] (by kernel_rfl) rfl rfl ⟨(HB9.out.cell (World.block_lt_of_cell? w8 _ HY.out.1)).trans HY.out.1, (HB9.out.cell (World.block_lt_of_cell? w8 _ HY.out.2.1)).trans HY.out.2.1, (HB9.out.cell (World.block_lt_of_cell? w8 _ HY.out.2.2)).trans HY.out.2.2⟩ (fun hHeld => ?_); refine with_tab keep_tab19 (fun HT_ => ?_)
                    generalize wj.drew = w9 at HB9 HM9 HBi9 hHeld ⊢
                    have HB := Lib.hid (Below.refl w9.heap.size w9)
                    refine pure_ (i := 0) (N := some 75) (v := ?_) (a' := ?_) #[true, false, false, false, false, false, false, false, false, false, false, false, false, false, false, false, false, false, false, false, false, false, false] rfl rfl (any_of HT_.out (by kernel_rfl)) (fun _ _ _ h => h) (Or.inl ⟨by rfl, ?_⟩) ?_ ?_
                    rotate_left
                    · intro w'
                      go_simp
                      with_reducible rfl
                    rotate_left
                    · simp only [Act.put, List.setIfInBounds_toArray, List.set_cons_zero, List.set_cons_succ, i64_w, i32_w]
                      rfl
                    refine pure_ (i := 2) (N := some 77) (v := ?_) (a' := ?_) #[true, false, true, false, false, false, false, false, false, false, false, false, false, false, false, false, false, false, false, false, false, false, false] rfl rfl (any_of HT_.out (by kernel_rfl)) (fun _ _ _ h => h) (Or.inl ⟨by rfl, ?_⟩) ?_ ?_
                    rotate_left
                    · intro w'
                      go_simp
                      with_reducible rfl
                    rotate_left
                    · simp only [Act.put, List.setIfInBounds_toArray, List.set_cons_zero, List.set_cons_succ, i64_w, i32_w]
                      rfl
                    refine pure_ (i := 3) (N := some 78) (v := ?_) (a' := ?_) #[true, false, true, true, false, false, false, false, false, false, false, false, false, false, false, false, false, false, false, false, false, false, false] rfl rfl (any_of HT_.out (by kernel_rfl)) (fun _ _ _ h => h) (Or.inl ⟨by rfl, ?_⟩) ?_ ?_
                    rotate_left
                    · intro w'
                      go_simp
                      with_reducible rfl
                    rotate_left
                    · simp only [Act.put, List.setIfInBounds_toArray, List.set_cons_zero, List.set_cons_succ, i64_w, i32_w]
                      rfl
                    refine pure_ (i := 4) (N := some 79) (v := ?_) (a' := ?_) #[true, false, true, true, true, false, false, false, false, false, false, false, false, false, false, false, false, false, false, false, false, false, false] rfl rfl (any_of HT_.out (by kernel_rfl)) (fun _ _ _ h => h) (Or.inl ⟨by rfl, ?_⟩) ?_ ?_
                    rotate_left
                    · intro w'
                      go_simp
                      with_reducible rfl
                    rotate_left
                    · simp only [Act.put, List.setIfInBounds_toArray, List.set_cons_zero, List.set_cons_succ, i64_w, i32_w]
                      rfl
                    refine take_ (i := 5) (N := some 80) (v := ?_) (a' := ?_) #[true, false, true, true, true, true, false, false, false, false, false, false, false, false, false, false, false, false, false, false, false, false, false] rfl rfl (take_of HT_.out (by kernel_rfl)) (fun _ _ _ h => h) (Or.inl ⟨by rfl, ?_⟩) hHeld ?_ ?_
                    rotate_left
                    · rintro w' ⟨s0, s1, s2⟩
                      go_simp
                      with_reducible rfl
                    rotate_left
                    · simp only [Act.put, List.setIfInBounds_toArray, List.set_cons_zero, List.set_cons_succ, i64_w, i32_w]
                      rfl
                    refine pure_ (i := 6) (N := some 81) (v := ?_) (a' := ?_) #[true, false, true, true, true, true, true, false, false, false, false, false, false, false, false, false, false, false, false, false, false, false, false] rfl rfl (any_of HT_.out (by kernel_rfl)) (fun _ _ _ h => h) (Or.inl ⟨by rfl, ?_⟩) ?_ ?_
                    rotate_left
                    · intro w'
                      go_simp
                      with_reducible rfl
                    rotate_left
                    · simp only [Act.put, List.setIfInBounds_toArray, List.set_cons_zero, List.set_cons_succ, i64_w, i32_w]
                      rfl
                    refine pure_ (i := 7) (N := some 82) (v := ?_) (a' := ?_) #[true, false, true, true, true, true, true, true, false, false, false, false, false, false, false, false, false, false, false, false, false, false, false] rfl rfl (any_of HT_.out (by kernel_rfl)) (fun _ _ _ h => h) (Or.inl ⟨by rfl, ?_⟩) ?_ ?_
                    rotate_left
                    · intro w'
                      go_simp
                      with_reducible rfl
                    rotate_left
                    · simp only [Act.put, List.setIfInBounds_toArray, List.set_cons_zero, List.set_cons_succ, i64_w, i32_w]
                      rfl
                    refine pure_ (i := 8) (N := some 83) (v := ?_) (a' := ?_) #[true, false, true, true, true, true, true, true, true, false, false, false, false, false, false, false, false, false, false, false, false, false, false] rfl rfl (any_of HT_.out (by kernel_rfl)) (fun _ _ _ h => h) (Or.inl ⟨by rfl, ?_⟩) ?_ ?_
                    rotate_left
                    · intro w'
                      go_simp
                      with_reducible rfl
                    rotate_left
                    · simp only [Act.put, List.setIfInBounds_toArray, List.set_cons_zero, List.set_cons_succ, i64_w, i32_w]
                      rfl
                    refine take_ (i := 9) (N := some 84) (v := ?_) (a' := ?_) #[true, false, true, true, true, true, true, true, true, true, false, false, false, false, false, false, false, false, false, false, false, false, false] rfl rfl (take_of HT_.out (by kernel_rfl)) (fun _ _ _ h => h) (Or.inl ⟨by rfl, ?_⟩) hHeld ?_ ?_
                    rotate_left
                    · rintro w' ⟨s0, s1, s2⟩
                      go_simp
                      with_reducible rfl
                    rotate_left
                    · simp only [Act.put, List.setIfInBounds_toArray, List.set_cons_zero, List.set_cons_succ, i64_w, i32_w]
                      rfl
                    refine pure_ (i := 11) (N := some 86) (v := ?_) (a' := ?_) #[true, false, true, true, true, true, true, true, true, true, false, true, false, false, false, false, false, false, false, false, false, false, false] rfl rfl (any_of HT_.out (by kernel_rfl)) (fun _ _ _ h => h) (Or.inl ⟨by rfl, ?_⟩) ?_ ?_
                    rotate_left
                    · intro w'
                      go_simp
                      with_reducible rfl
                    rotate_left
                    · simp only [Act.put, List.setIfInBounds_toArray, List.set_cons_zero, List.set_cons_succ, i64_w, i32_w]
                      rfl
                    refine pure_ (i := 12) (N := some 87) (v := ?_) (a' := ?_) #[true, false, true, true, true, true, true, true, true, true, false, true, true, false, false, false, false, false, false, false, false, false, false] rfl rfl (any_of HT_.out (by kernel_rfl)) (fun _ _ _ h => h) (Or.inl ⟨by rfl, ?_⟩) ?_ ?_
                    rotate_left
                    · intro w'
                      go_simp
                      with_reducible rfl
                    rotate_left
                    · simp only [Act.put, List.setIfInBounds_toArray, List.set_cons_zero, List.set_cons_succ, i64_w, i32_w]
                      rfl
                    refine pure_ (i := 13) (N := some 88) (v := ?_) (a' := ?_) #[true, false, true, true, true, true, true, true, true, true, false, true, true, true, false, false, false, false, false, false, false, false, false] rfl rfl (any_of HT_.out (by kernel_rfl)) (fun _ _ _ h => h) (Or.inl ⟨by rfl, ?_⟩) ?_ ?_
                    rotate_left
                    · intro w'
                      go_simp
                      with_reducible rfl
                    rotate_left
                    · simp only [Act.put, List.setIfInBounds_toArray, List.set_cons_zero, List.set_cons_succ, i64_w, i32_w]
                      rfl
                    refine take_ (i := 14) (N := some 89) (v := ?_) (a' := ?_) #[true, false, true, true, true, true, true, true, true, true, false, true, true, true, true, false, false, false, false, false, false, false, false] rfl rfl (take_of HT_.out (by kernel_rfl)) (fun _ _ _ h => h) (Or.inl ⟨by rfl, ?_⟩) hHeld ?_ ?_
                    rotate_left
                    · rintro w' ⟨s0, s1, s2⟩
                      go_simp
                      with_reducible rfl
                    rotate_left
                    · simp only [Act.put, List.setIfInBounds_toArray, List.set_cons_zero, List.set_cons_succ, i64_w, i32_w]
                      rfl
                    refine pure_ (i := 15) (N := some 90) (v := ?_) (a' := ?_) #[true, false, true, true, true, true, true, true, true, true, false, true, true, true, true, true, false, false, false, false, false, false, false] rfl rfl (any_of HT_.out (by kernel_rfl)) (fun _ _ _ h => h) (Or.inl ⟨by rfl, ?_⟩) ?_ ?_
                    rotate_left
                    · intro w'
                      go_simp
                      with_reducible rfl
                    rotate_left
                    · simp only [Act.put, List.setIfInBounds_toArray, List.set_cons_zero, List.set_cons_succ, i64_w, i32_w]
                      rfl
                    refine pure_ (i := 16) (N := some 91) (v := ?_) (a' := ?_) #[true, false, true, true, true, true, true, true, true, true, false, true, true, true, true, true, true, false, false, false, false, false, false] rfl rfl (any_of HT_.out (by kernel_rfl)) (fun _ _ _ h => h) (Or.inl ⟨by rfl, ?_⟩) ?_ ?_
                    rotate_left
                    · intro w'
                      go_simp
                      with_reducible rfl
                    rotate_left
                    · simp only [Act.put, List.setIfInBounds_toArray, List.set_cons_zero, List.set_cons_succ, i64_w, i32_w]
                      rfl
                    refine pure_ (i := 17) (N := some 92) (v := ?_) (a' := ?_) #[true, false, true, true, true, true, true, true, true, true, false, true, true, true, true, true, true, true, false, false, false, false, false] rfl rfl (any_of HT_.out (by kernel_rfl)) (fun _ _ _ h => h) (Or.inl ⟨by rfl, ?_⟩) ?_ ?_
                    rotate_left
                    · intro w'
                      go_simp
                      with_reducible rfl
                    rotate_left
                    · simp only [Act.put, List.setIfInBounds_toArray, List.set_cons_zero, List.set_cons_succ, i64_w, i32_w]
                      rfl
                    refine take_ (i := 18) (N := some 93) (v := ?_) (a' := ?_) #[true, false, true, true, true, true, true, true, true, true, false, true, true, true, true, true, true, true, true, false, false, false, false] rfl rfl (take_of HT_.out (by kernel_rfl)) (fun _ _ _ h => h) (Or.inl ⟨by rfl, ?_⟩) hHeld ?_ ?_
                    rotate_left
                    · rintro w' ⟨s0, s1, s2⟩
                      go_simp
                      with_reducible rfl
                    rotate_left
                    · simp only [Act.put, List.setIfInBounds_toArray, List.set_cons_zero, List.set_cons_succ, i64_w, i32_w]
                      rfl
                    refine one_ (i := 1) (N := some 76) #[true, true, true, true, true, true, true, true, true, true, false, true, true, true, true, true, true, true, true, false, false, false, false] rfl rfl (one_of HT_.out (by kernel_rfl)) (by decide) (fun K hK => ?_)
                    refine Kd.R_lit_step k55 _ 55 ?hg (N := 76) ?hd (xs := ([] : List S55)) (inner := []) (ok := fun _ => True) (okp := fun _ => True) ?hr ?hp (fun _ hk => hk) trivial (Below.refl _ _) (Nat.le_refl _) (by simp) ?_; (case hd => rfl); (case hg => rfl); (case hr => first | (go_simp; done) | (go_simp; rfl)); (case hp => exact (Reps.none _ _))
                    intro v76 wa ho hb hg_ hnew_
                    have H76 := Lib.hid ho
                    have HB1 := Lib.hid hb
                    clear HB
                    have HB := HB1
                    clear ho hb hg_ hnew_ HB1
                    refine hK.out _ _ ⟨((below_then HB9.out HB9.out.size HB.out).cell (World.block_lt_of_cell? w8 _ HY.out.1)).trans HY.out.1, ((below_then HB9.out HB9.out.size HB.out).cell (World.block_lt_of_cell? w8 _ HY.out.2.1)).trans HY.out.2.1, ((below_then HB9.out HB9.out.size HB.out).cell (World.block_lt_of_cell? w8 _ HY.out.2.2)).trans HY.out.2.2⟩ (fun hHeld => ?_)
                    clear hK K
                    refine norm_ (a' := ?_) ?_ ?_
                    rotate_left
                    · show Act.put _ (some 76) _ = _
                      simp only [Act.put, List.setIfInBounds_toArray, List.set_cons_zero, List.set_cons_succ, i64_w, i32_w]
                      rfl
                    refine one_ (i := 10) (N := some 85) #[true, true, true, true, true, true, true, true, true, true, true, true, true, true, true, true, true, true, true, false, false, false, false] rfl rfl (one_of HT_.out (by kernel_rfl)) (by decide) (fun K hK => ?_)
                    refine Kd.R_append_rows_step k55 (w0 := w9) w9.heap.size (by rfl) (.tmp 76) (.tmp 84) 47 55 (.agg #[(.string ⟨#[]⟩), (.int .i64 0), (.int .i64 0), (.int .i64 0)]) 40 rfl Try.underlying47 info55 rfl (by decide) (by omega) v76 [] o.f0 _ _ _ (fun _ => True) (fun _ => False) rfl rfl H76.out (Kd.C_below HC.out.1 (below_then HB9.out HB9.out.size HB.out)) (fun _ _ h => h) (fun _ h => h.elim) (fun _ _ => trivial) HB.out HB.out.size (by have := HC.out.2.2.1; simp only [List.length_nil]; omega) ?_
                    intro v85 wb ho hb hg hat
                    obtain ⟨A85, c85, e85⟩ := Kd.R_slice ho
                    rw [List.nil_append] at ho e85
                    subst e85
                    have H85 := Lib.hid ho
                    have HB1 := Lib.hid hb
                    clear HB H76
                    have HB := HB1
                    clear ho hb hg hat HB1
                    refine hK.out _ _ ⟨((below_then HB9.out HB9.out.size HB.out).cell (World.block_lt_of_cell? w8 _ HY.out.1)).trans HY.out.1, ((below_then HB9.out HB9.out.size HB.out).cell (World.block_lt_of_cell? w8 _ HY.out.2.1)).trans HY.out.2.1, ((below_then HB9.out HB9.out.size HB.out).cell (World.block_lt_of_cell? w8 _ HY.out.2.2)).trans HY.out.2.2⟩ (fun hHeld => ?_)
                    clear hK K
                    refine norm_ (a' := ?_) ?_ ?_
                    rotate_left
                    · show Act.put _ (some 85) _ = _
                      simp only [Act.put, List.setIfInBounds_toArray, List.set_cons_zero, List.set_cons_succ, i64_w, i32_w]
                      rfl
                    refine pure_ (i := 19) (N := some 94) (v := ?_) (a' := ?_) #[true, true, true, true, true, true, true, true, true, true, true, true, true, true, true, true, true, true, true, true, false, false, false] rfl rfl (any_of HT_.out (by kernel_rfl)) (fun _ _ _ h => h) (Or.inl ⟨by rfl, ?_⟩) ?_ ?_
                    rotate_left
                    · intro w'
                      go_simp
                      with_reducible rfl
                    rotate_left
                    · simp only [Act.put, List.setIfInBounds_toArray, List.set_cons_zero, List.set_cons_succ, i64_w, i32_w]
                      rfl
                    refine one_ (i := 20) (N := some 95) #[true, true, true, true, true, true, true, true, true, true, true, true, true, true, true, true, true, true, true, true, true, false, false] rfl rfl (one_of HT_.out (by kernel_rfl)) (by decide) (fun K hK => ?_)
                    refine value_ (w1 := ?_) (v := ?_) (by rfl) rfl ?_ ?_
                    rotate_left 2
                    · go_simp
                      constructor
                      · rfl
                      · rfl
                    have HBa := Lib.hid (below_alloc (W := wb) (Below.refl wb.heap.size wb) (.cells #[.slice A85 o.f0.length c85, .slice B1 o.f1.length d1] 50))
                    refine hK.out _ _ ⟨((below_then HB9.out HB9.out.size (below_then HB.out HB.out.size HBa.out)).cell (World.block_lt_of_cell? w8 _ HY.out.1)).trans HY.out.1, ((below_then HB9.out HB9.out.size (below_then HB.out HB.out.size HBa.out)).cell (World.block_lt_of_cell? w8 _ HY.out.2.1)).trans HY.out.2.1, ((below_then HB9.out HB9.out.size (below_then HB.out HB.out.size HBa.out)).cell (World.block_lt_of_cell? w8 _ HY.out.2.2)).trans HY.out.2.2⟩ (fun hHeld => ?_)
                    clear hK K
                    refine norm_ (a' := ?_) ?_ ?_
                    rotate_left
                    · show Act.put _ (some 95) _ = _
                      simp only [Act.put, List.setIfInBounds_toArray, List.set_cons_zero, List.set_cons_succ, i64_w, i32_w]
                      rfl
                    refine one_ (i := 21) (N := some 96) #[true, true, true, true, true, true, true, true, true, true, true, true, true, true, true, true, true, true, true, true, true, true, false] rfl rfl (one_of HT_.out (by kernel_rfl)) (by decide) (fun K hK => ?_)
                    have hyoung := Lib.hid (show ∀ k, u14.ownBlock = some k → k < w9.heap.size from fun k hk => (Kd.R_bound HM9.out).1 k hk |>.2.2.1)
                    refine Kd.R_append_step kX (w0 := wi) (W := wb) wi.heap.size (by rfl) (.tmp 75) (.tmp 95) 42 50 (.agg #[(.slice none 0 0), (.slice none 0 0)]) 48 rfl Try.underlying42 info50 rfl (by decide) (by omega) u14 xs (o.f0, .slice B1 o.f1.length d1) [.slice A85 o.f0.length c85, .slice B1 o.f1.length d1] (fun _ => True) (fun k_ => w9.heap.size ≤ k_) rfl rfl ?aP (fun k_ hk_ => ⟨trivial, fun e_ => by have := hyoung.out k_ e_.symm; omega⟩) (fun _ _ => trivial) (Kd.R_below HM9.out HB.out) (below_step HBi9.out HB.out) ?aS ?aL ?_
                    (case aP => exact kX_mkM _ _ _ (o.f0, .slice B1 o.f1.length d1) (Kd.R_lower (Kd.R_mono (Kd.R_bound H85.out) (fun k hk => hk.2.1)) HBi9.out.size) rfl)
                    (case aS => exact Nat.le_trans HBi9.out.size HB.out.size)
                    (case aL => have := HC.out.2.2.2; omega)
                    intro v96 wc ho hb hg hat
                    have H96 := Lib.hid ho
                    have HB1 := Lib.hid hb
                    clear HB H85 HM9 HBa hyoung ho hb hg hat
                    refine hK.out _ _ ⟨((below_then HB8.out HB8.out.size HB1.out).cell (World.block_lt_of_cell? w8 _ HY.out.1)).trans HY.out.1, ((below_then HB8.out HB8.out.size HB1.out).cell (World.block_lt_of_cell? w8 _ HY.out.2.1)).trans HY.out.2.1, ((below_then HB8.out HB8.out.size HB1.out).cell (World.block_lt_of_cell? w8 _ HY.out.2.2)).trans HY.out.2.2⟩ (fun hHeld => ?_)
                    clear hK K
                    refine norm_ (a' := ?_) ?_ ?_
                    rotate_left
                    · show Act.put _ (some 96) _ = _
                      simp only [Act.put, List.setIfInBounds_toArray, List.set_cons_zero, List.set_cons_succ, i64_w, i32_w]
                      rfl
                    refine pure_ (i := 22) (N := some 14) (v := ?_) (a' := ?_) #[true, true, true, true, true, true, true, true, true, true, true, true, true, true, true, true, true, true, true, true, true, true, true] rfl rfl (any_of HT_.out (by kernel_rfl)) (fun _ _ _ h => h) (Or.inl ⟨by rfl, ?_⟩) ?_ ?_
                    rotate_left
                    · intro w'
                      go_simp
                      with_reducible rfl
                    rotate_left
                    · simp only [Act.put, List.setIfInBounds_toArray, List.set_cons_zero, List.set_cons_succ, i64_w, i32_w]
                      rfl
                    refine done_ (done_of HT_.out (by kernel_rfl)) ?_
                    clear HT_ hHeld HB9 HBi9
                    go_wp2
                    go_roundg (gk - 1)
                    case measure => have := HA2.out; have := hjN.out; omega
                    case rel => exact ⟨j + 1, xs ++ [(o.f0, .slice B1 o.f1.length d1)], by rw [show wrap64 ((j : Int) + 1) = ((j + 1 : Nat) : Int) from by have := hjN.out; have := hl12.out; unfold wrap64; omega], ⟨by have := HA2.out; have := hjN.out; omega, by have := hjN.out; omega⟩, ⟨H96.out, by rw [htk.out]; exact HO2.out.2.snoc ⟨rfl, B1, d1, rfl, HC.out.2.1.1, HC.out.2.1.2⟩⟩, ⟨HB1.out⟩⟩
                  · have c' : decide ((j : Int) < (l.length : Int)) = false := decide_eq_false (by omega)
                    have cd2 : decide (j < l.length) = false := decide_eq_false c
                    have hxl : xs.length ≤ 12 := by have := HO2.out.2.1; rw [List.length_take] at this; have := hl12.out; omega
                    have hrel2 := Lib.hid (show Rel2 (Rel2 (fun x o => RepB w8 o x)) (xss ++ [xs]) (ls.take (i + 1)) from by
                      have e1 : ls.take (i + 1) = ls.take i ++ [l] := by rw [List.take_add_one, List.getElem?_eq_getElem hiN.out, ← hl'.out, rdL10k hiN.out]; rfl
                      have e2 : l.take j = l := List.take_of_length_le (by omega)
                      rw [e1]
                      refine HO.out.2.snoc ?_
                      have := HO2.out.2
                      rwa [e2] at this)
                    have hyoung := Lib.hid (show ∀ k, u12.ownBlock = some k → k < wi.heap.size from fun k hk => (Kd.R_bound HO.out.1).1 k hk |>.2.2.1)
                    have hxsl : xss.length ≤ 8 := by have := HO.out.2.1; rw [List.length_take] at this; have := hll.out; omega
                    obtain ⟨A14, c14, rfl⟩ := Kd.R_slice HO2.out.1
                    have hbs := Nat.le_trans HB8.out.size HBi.out.size
                    clear c
                    go_wp2_with (first | (at_builtin; go_must (refine Kd.R_append (Kd.slice 50 kX) (w0 := w8) w8.heap.size rfl (.tmp 97) (.tmp 99) 60 42 (.slice none 0 0) 24 rfl Try.underlying60 keep_info42 rfl (by decide) (by decide) u12 xss xs [.slice A14 xs.length c14] (fun _ => True) (fun k_ => wi.heap.size ≤ k_) rfl ?aX ?aP ?aQ ?aF ?aO ?aB ?aS ?aL ?_; (case aX => go_simp); (case aP => exact ⟨_, rfl, Kd.R_lower (Kd.R_mono (Kd.R_bound HO2.out.1) (fun k hk => hk.2.1)) HB8.out.size⟩); (case aQ => exact fun k_ hk_ => ⟨trivial, fun e_ => by have := hyoung.out k_ e_.symm; omega⟩); (case aF => exact fun _ _ => trivial); (case aO => exact Kd.R_below HO.out.1 HBi.out); (case aB => exact below_then HB8.out HB8.out.size HBi.out); (case aS => exact hbs); (case aL => omega); intro v1 w7 ho hb hg hat; have HE := Lib.hid (And.intro ho hb); clear ho hb hg hat)))
                    go_roundg (go - 1)
                    case measure => have := HA.out; have := hiN.out; omega
                    case rel => exact ⟨i + 1, xss ++ [xs], by rw [show wrap64 ((i : Int) + 1) = ((i + 1 : Nat) : Int) from by have := hiN.out; have := hll.out; unfold wrap64; omega], ⟨by have := HA.out; have := hiN.out; omega, by have := hiN.out; omega⟩, ⟨HE.out.1, hrel2.out⟩, ⟨HE.out.2⟩⟩
              · have c' : decide ((i : Int) < (ls.length : Int)) = false := decide_eq_false (by omega)
                have cd2 : decide (i < ls.length) = false := decide_eq_false c
                obtain ⟨A12, c12, rfl⟩ := Kd.R_slice HO.out.1
                have e2 : ls.take i = ls := List.take_of_length_le (by omega)
                have hrel0 := HO.out.2
                rw [e2] at hrel0
                have hle : xss.length = ls.length := hrel0.1
                have HO1 := HO.out.1
                rw [hle] at HO1 ⊢
                have hCm := (Kd.R_reads' HO1).2.2
                have hroom := (Kd.R_reads' HO1).2.1
                have hCm2 := C_kM hCm (hrel0.imp (fun x l h => h.imp (fun p o hp => RepB.below hp HB8.out)))
                have Hmine := Lib.hid (And.intro hroom hCm2)
                have HM9 := Lib.hid (HM8.out.below HB8.out)
                have H89 := Lib.hid (And.intro H88.out.1 (Kd.C_below H88.out.2 HB8.out))
                clear HO HO1 hrel0 hCm hroom hCm2 hle e2 HB8 c HM8 H88
                go_wp2_with fail
                refine (order_Archives.calls k A12 c12 ls m1 m2 wi Hmine.out.2 Hmine.out.1 HG.out.ar).mono ?_
                rintro e wa ⟨v102, rfl, _, hb⟩
                have HMa := Lib.hid (HM9.out.below hb)
                have H8a := Lib.hid (And.intro H89.out.1 (Kd.C_below H89.out.2 hb))
                have Hma := Lib.hid (And.intro Hmine.out.1 (Kd.C_below Hmine.out.2 hb))
                clear HM9 H89 Hmine hb c' cd2
                go_wp2_with fail
                go_loopg [16] (ls.length + 1) (fun kq v16 w' => ∃ i : Nat, v16 = .int .i64 (i : Int) ∧ Aside0 (i + kq = ls.length + 1 ∧ i ≤ ls.length) ∧ Aside0 (Below wa.heap.size wa w'))
                case atStart => exact ⟨0, rfl, ⟨by omega, by omega⟩, ⟨Below.refl _ _⟩⟩
                case round =>
                  obtain ⟨i, rfl, HA, HBi⟩ := hrel
                  obtain ⟨wi, hwi⟩ : ∃ wi, wi = wr := ⟨_, rfl⟩
                  subst hwi
                  obtain ⟨go, hgo⟩ : ∃ go, go = gk := ⟨_, rfl⟩
                  subst hgo
                  by_cases c : i < ls.length
                  · have c' : decide ((i : Int) < (ls.length : Int)) = true := decide_eq_true (by omega)
                    have cd2 : decide (i < ls.length) = true := decide_eq_true c
                    obtain ⟨ad, A0, c0, e, hcell, hle, hC⟩ := at_L10 HMa.out.l (i : Int) (by omega) (by omega)
                    obtain ⟨adm, Am0, cm0, em, hcellm, hlem, hCm⟩ := at_L10 Hma.out.2 (i : Int) (by omega) (by omega)
                    subst e
                    subst em
                    simp only [Int.toNat_natCast] at hcell hcellm
                    have hL : rd_L10 ls (i : Int) ∈ ls := by rw [rdL10k c]; exact List.getElem_mem c
                    have hl12 := HG.out.lo _ hL
                    have hsm := HG.out.s6 _ hL
                    have hiN := Aside0.mk c
                    obtain ⟨l, hl⟩ : ∃ l, rd_L10 ls (i : Int) = l := ⟨_, rfl⟩
                    rw [hl] at hcell hcellm hle hlem hC hCm hl12 hsm
                    have hcl := Lib.hid (And.intro hcellm hcell)
                    have hCl := Lib.hid (And.intro hCm hC)
                    have hl12' := Lib.hid hl12
                    have hsm' := Lib.hid hsm
                    clear c hcell hcellm hle hlem hC hCm hL hl hl12 hsm
                    go_wp2_with fail
                    go_loopg [17] (l.length + 1) (fun kq v17 w' => ∃ j : Nat, v17 = .int .i64 (j : Int) ∧ Aside0 (j + kq = l.length + 1 ∧ j ≤ l.length) ∧ Aside0 (Below wa.heap.size wa w'))
                    case atStart => exact ⟨0, rfl, ⟨by omega, by omega⟩, HBi⟩
                    case round =>
                      obtain ⟨j, rfl, HA2, HBj⟩ := hrel
                      obtain ⟨wj, hwj⟩ : ∃ wj, wj = wr := ⟨_, rfl⟩
                      subst hwj
                      have q0 : (0 ≤ (i : Int)) = True := eq_true (by omega)
                      have q1 : ((i : Int) < (ls.length : Int)) = True := eq_true (by have := hiN.out; omega)
                      have y := (HBj.out.cell (World.block_lt_of_cell? wa _ hcl.out.2)).trans hcl.out.2
                      by_cases c : j < l.length
                      · have c' : decide ((j : Int) < (l.length : Int)) = true := decide_eq_true (by omega)
                        have cd2 : decide (j < l.length) = true := decide_eq_true c
                        obtain ⟨ad2, B0, d0, B1, d1, e2, y0, y1, l0, g0, l1, g1⟩ := at_T50 hCl.out.2 (j : Int) (by omega) (by omega)
                        obtain ⟨adn, E0, f0, E1, f1, e3, z0, z1, m0, h0, m1', h1⟩ := at_T50 hCl.out.1 (j : Int) (by omega) (by omega)
                        subst e2
                        subst e3
                        simp only [Int.toNat_natCast] at y0 y1 z0 z1
                        have ho : rd_T50 l (j : Int) ∈ l := by rw [rd50k c]; exact List.getElem_mem c
                        have hss := hsm'.out _ ho
                        obtain ⟨o, hoe⟩ : ∃ o, rd_T50 l (j : Int) = o := ⟨_, rfl⟩
                        rw [hoe] at y0 y1 l0 g0 l1 g1 z0 z1 m0 h0 m1' h1 hss
                        have hsame := Lib.hid hss
                        have HC := Lib.hid (And.intro (And.intro m0 (And.intro h0 (And.intro m1' h1))) (And.intro l0 (And.intro g0 (And.intro l1 g1))))
                        have HY := Lib.hid (And.intro (And.intro hcl.out.1 (And.intro z0 z1)) (And.intro hcl.out.2 (And.intro y0 y1)))
                        have hjN := Aside0.mk c
                        have p0 : (0 ≤ (j : Int)) = True := eq_true (by omega)
                        have p1 : ((j : Int) < (l.length : Int)) = True := eq_true (by omega)
                        clear c y0 y1 l0 g0 l1 g1 z0 z1 m0 h0 m1' h1 hss hoe ho
                        go_wp2_with fail
                        have HB9 := Lib.hid (below_then HBj.out HBj.out.size (below_drew (Below.refl _ _)))
                        refine start_ (n := 16) (S := fun w' => w'.cell? (adm.add i) = some (.slice (some adn) l.length cm0) ∧ w'.cell? (adn.add (j * 2)) = some (.slice E0 o.f0.length f0) ∧ w'.cell? ⟨(adn.add (j * 2)).block, (adn.add (j * 2)).off + 1, none⟩ = some (.slice E1 o.f1.length f1) ∧ w'.cell? (ad.add i) = some (.slice (some ad2) l.length c0) ∧ w'.cell? (ad2.add (j * 2)) = some (.slice B0 o.f0.length d0) ∧ w'.cell? ⟨(ad2.add (j * 2)).block, (ad2.add (j * 2)).off + 1, none⟩ = some (.slice B1 o.f1.length d1)) (ds := []) #[false, false, false, false, false, false, false, false, false, false, false, false, false, false, false, false] (by kernel_rfl) rfl rfl ⟨(HB9.out.cell (World.block_lt_of_cell? wa _ HY.out.1.1)).trans HY.out.1.1, (HB9.out.cell (World.block_lt_of_cell? wa _ HY.out.1.2.1)).trans HY.out.1.2.1, (HB9.out.cell (World.block_lt_of_cell? wa _ HY.out.1.2.2)).trans HY.out.1.2.2, (HB9.out.cell (World.block_lt_of_cell? wa _ HY.out.2.1)).trans HY.out.2.1, (HB9.out.cell (World.block_lt_of_cell? wa _ HY.out.2.2.1)).trans HY.out.2.2.1, (HB9.out.cell (World.block_lt_of_cell? wa _ HY.out.2.2.2)).trans HY.out.2.2.2⟩ (fun hHeld => ?_); refine with_tab keep_tab28 (fun HT_ => ?_)
                        generalize wj.drew = w9 at HB9 hHeld ⊢
                        refine pure_ (i := 0) (N := some 118) (v := ?_) (a' := ?_) #[true, false, false, false, false, false, false, false, false, false, false, false, false, false, false, false] rfl rfl (any_of HT_.out (by kernel_rfl)) (fun _ _ _ h => h) (Or.inl ⟨by rfl, ?_⟩) ?_ ?_
                        rotate_left
                        · intro w'
                          go_simp
                          with_reducible rfl
                        rotate_left
                        · simp only [Act.put, List.setIfInBounds_toArray, List.set_cons_zero, List.set_cons_succ, i64_w, i32_w]
                          rfl
                        refine pure_ (i := 1) (N := some 119) (v := ?_) (a' := ?_) #[true, true, false, false, false, false, false, false, false, false, false, false, false, false, false, false] rfl rfl (any_of HT_.out (by kernel_rfl)) (fun _ _ _ h => h) (Or.inl ⟨by rfl, ?_⟩) ?_ ?_
                        rotate_left
                        · intro w'
                          go_simp
                          with_reducible rfl
                        rotate_left
                        · simp only [Act.put, List.setIfInBounds_toArray, List.set_cons_zero, List.set_cons_succ, i64_w, i32_w]
                          rfl
                        refine pure_ (i := 2) (N := some 120) (v := ?_) (a' := ?_) #[true, true, true, false, false, false, false, false, false, false, false, false, false, false, false, false] rfl rfl (any_of HT_.out (by kernel_rfl)) (fun _ _ _ h => h) (Or.inl ⟨by rfl, ?_⟩) ?_ ?_
                        rotate_left
                        · intro w'
                          go_simp
                          with_reducible rfl
                        rotate_left
                        · simp only [Act.put, List.setIfInBounds_toArray, List.set_cons_zero, List.set_cons_succ, i64_w, i32_w]
                          rfl
                        refine take_ (i := 3) (N := some 121) (v := ?_) (a' := ?_) #[true, true, true, true, false, false, false, false, false, false, false, false, false, false, false, false] rfl rfl (take_of HT_.out (by kernel_rfl)) (fun _ _ _ h => h) (Or.inl ⟨by rfl, ?_⟩) hHeld ?_ ?_
                        rotate_left
                        · rintro w' ⟨s0, s1, s2, s3, s4, s5⟩
                          go_simp
                          with_reducible rfl
                        rotate_left
                        · simp only [Act.put, List.setIfInBounds_toArray, List.set_cons_zero, List.set_cons_succ, i64_w, i32_w]
                          rfl
                        refine pure_ (i := 4) (N := some 122) (v := ?_) (a' := ?_) #[true, true, true, true, true, false, false, false, false, false, false, false, false, false, false, false] rfl rfl (any_of HT_.out (by kernel_rfl)) (fun _ _ _ h => h) (Or.inl ⟨by rfl, ?_⟩) ?_ ?_
                        rotate_left
                        · intro w'
                          go_simp
                          with_reducible rfl
                        rotate_left
                        · simp only [Act.put, List.setIfInBounds_toArray, List.set_cons_zero, List.set_cons_succ, i64_w, i32_w]
                          rfl
                        refine pure_ (i := 5) (N := some 123) (v := ?_) (a' := ?_) #[true, true, true, true, true, true, false, false, false, false, false, false, false, false, false, false] rfl rfl (any_of HT_.out (by kernel_rfl)) (fun _ _ _ h => h) (Or.inl ⟨by rfl, ?_⟩) ?_ ?_
                        rotate_left
                        · intro w'
                          go_simp
                          with_reducible rfl
                        rotate_left
                        · simp only [Act.put, List.setIfInBounds_toArray, List.set_cons_zero, List.set_cons_succ, i64_w, i32_w]
                          rfl
                        refine take_ (i := 6) (N := some 124) (v := ?_) (a' := ?_) #[true, true, true, true, true, true, true, false, false, false, false, false, false, false, false, false] rfl rfl (take_of HT_.out (by kernel_rfl)) (fun _ _ _ h => h) (Or.inl ⟨by rfl, ?_⟩) hHeld ?_ ?_
                        rotate_left
                        · rintro w' ⟨s0, s1, s2, s3, s4, s5⟩
                          go_simp
                          with_reducible rfl
                        rotate_left
                        · simp only [Act.put, List.setIfInBounds_toArray, List.set_cons_zero, List.set_cons_succ, i64_w, i32_w]
                          rfl
                        refine pure_ (i := 7) (N := some 125) (v := ?_) (a' := ?_) #[true, true, true, true, true, true, true, true, false, false, false, false, false, false, false, false] rfl rfl (any_of HT_.out (by kernel_rfl)) (fun _ _ _ h => h) (Or.inl ⟨by rfl, ?_⟩) ?_ ?_
                        rotate_left
                        · intro w'
                          go_simp
                          with_reducible rfl
                        rotate_left
                        · simp only [Act.put, List.setIfInBounds_toArray, List.set_cons_zero, List.set_cons_succ, i64_w, i32_w]
                          rfl
                        refine pure_ (i := 8) (N := some 126) (v := ?_) (a' := ?_) #[true, true, true, true, true, true, true, true, true, false, false, false, false, false, false, false] rfl rfl (any_of HT_.out (by kernel_rfl)) (fun _ _ _ h => h) (Or.inl ⟨by rfl, ?_⟩) ?_ ?_
                        rotate_left
                        · intro w'
                          go_simp
                          with_reducible rfl
                        rotate_left
                        · simp only [Act.put, List.setIfInBounds_toArray, List.set_cons_zero, List.set_cons_succ, i64_w, i32_w]
                          rfl
                        refine pure_ (i := 9) (N := some 127) (v := ?_) (a' := ?_) #[true, true, true, true, true, true, true, true, true, true, false, false, false, false, false, false] rfl rfl (any_of HT_.out (by kernel_rfl)) (fun _ _ _ h => h) (Or.inl ⟨by rfl, ?_⟩) ?_ ?_
                        rotate_left
                        · intro w'
                          go_simp
                          with_reducible rfl
                        rotate_left
                        · simp only [Act.put, List.setIfInBounds_toArray, List.set_cons_zero, List.set_cons_succ, i64_w, i32_w]
                          rfl
                        refine take_ (i := 10) (N := some 128) (v := ?_) (a' := ?_) #[true, true, true, true, true, true, true, true, true, true, true, false, false, false, false, false] rfl rfl (take_of HT_.out (by kernel_rfl)) (fun _ _ _ h => h) (Or.inl ⟨by rfl, ?_⟩) hHeld ?_ ?_
                        rotate_left
                        · rintro w' ⟨s0, s1, s2, s3, s4, s5⟩
                          go_simp
                          with_reducible rfl
                        rotate_left
                        · simp only [Act.put, List.setIfInBounds_toArray, List.set_cons_zero, List.set_cons_succ, i64_w, i32_w]
                          rfl
                        refine pure_ (i := 11) (N := some 129) (v := ?_) (a' := ?_) #[true, true, true, true, true, true, true, true, true, true, true, true, false, false, false, false] rfl rfl (any_of HT_.out (by kernel_rfl)) (fun _ _ _ h => h) (Or.inl ⟨by rfl, ?_⟩) ?_ ?_
                        rotate_left
                        · intro w'
                          go_simp
                          with_reducible rfl
                        rotate_left
                        · simp only [Act.put, List.setIfInBounds_toArray, List.set_cons_zero, List.set_cons_succ, i64_w, i32_w]
                          rfl
                        refine pure_ (i := 12) (N := some 130) (v := ?_) (a' := ?_) #[true, true, true, true, true, true, true, true, true, true, true, true, true, false, false, false] rfl rfl (any_of HT_.out (by kernel_rfl)) (fun _ _ _ h => h) (Or.inl ⟨by rfl, ?_⟩) ?_ ?_
                        rotate_left
                        · intro w'
                          go_simp
                          with_reducible rfl
                        rotate_left
                        · simp only [Act.put, List.setIfInBounds_toArray, List.set_cons_zero, List.set_cons_succ, i64_w, i32_w]
                          rfl
                        refine take_ (i := 13) (N := some 131) (v := ?_) (a' := ?_) #[true, true, true, true, true, true, true, true, true, true, true, true, true, true, false, false] rfl rfl (take_of HT_.out (by kernel_rfl)) (fun _ _ _ h => h) (Or.inl ⟨by rfl, ?_⟩) hHeld ?_ ?_
                        rotate_left
                        · rintro w' ⟨s0, s1, s2, s3, s4, s5⟩
                          go_simp
                          with_reducible rfl
                        rotate_left
                        · simp only [Act.put, List.setIfInBounds_toArray, List.set_cons_zero, List.set_cons_succ, i64_w, i32_w]
                          rfl
                        refine one_ (i := 14) (N := some 132) #[true, true, true, true, true, true, true, true, true, true, true, true, true, true, true, false] rfl rfl (one_of HT_.out (by kernel_rfl)) (by decide) (fun K hK => ?_)
                        refine goes_ Try.func32 (by kernel_rfl) rfl #[.agg #[.slice E0 o.f0.length f0, .slice E1 o.f1.length f1], .agg #[.slice B0 o.f0.length d0, .slice B1 o.f1.length d1]] (by rfl) rfl rfl (by (try simp only [List.map_toArray, List.map_cons, List.map_nil]); first | done | rfl) ?_
                        refine (arlinkref06_Same.calls k E0 f0 o.f0 E1 f1 o.f1 B0 d0 o.f0 B1 d1 o.f1 true w9 (Kd.C_below HC.out.1.2.1 HB9.out) HC.out.1.1 (Kd.C_below HC.out.1.2.2.2 HB9.out) HC.out.1.2.2.1 (Kd.C_below HC.out.2.2.1 HB9.out) HC.out.2.1 (Kd.C_below HC.out.2.2.2.2 HB9.out) HC.out.2.2.2.1 hsame.out).mono ?_
                        rintro e wb ⟨rfl, hb⟩
                        refine ⟨_, rfl, ?_⟩
                        have HBb := Lib.hid (below_then HB9.out HB9.out.size hb)
                        clear HB9 hb
                        refine hK.out _ _ ⟨(HBb.out.cell (World.block_lt_of_cell? wa _ HY.out.1.1)).trans HY.out.1.1, (HBb.out.cell (World.block_lt_of_cell? wa _ HY.out.1.2.1)).trans HY.out.1.2.1, (HBb.out.cell (World.block_lt_of_cell? wa _ HY.out.1.2.2)).trans HY.out.1.2.2, (HBb.out.cell (World.block_lt_of_cell? wa _ HY.out.2.1)).trans HY.out.2.1, (HBb.out.cell (World.block_lt_of_cell? wa _ HY.out.2.2.1)).trans HY.out.2.2.1, (HBb.out.cell (World.block_lt_of_cell? wa _ HY.out.2.2.2)).trans HY.out.2.2.2⟩ (fun hHeld => ?_)
                        clear hK K
                        refine norm_ (a' := ?_) ?_ ?_
                        rotate_left
                        · show Act.put _ (some 132) _ = _
                          simp only [Act.put, List.setIfInBounds_toArray, List.set_cons_zero, List.set_cons_succ, i64_w, i32_w]
                          rfl
                        refine pure_ (i := 15) (N := some 133) (v := ?_) (a' := ?_) #[true, true, true, true, true, true, true, true, true, true, true, true, true, true, true, true] rfl rfl (any_of HT_.out (by kernel_rfl)) (fun _ _ _ h => h) (Or.inl ⟨by rfl, ?_⟩) ?_ ?_
                        rotate_left
                        · intro w'
                          go_simp
                          with_reducible rfl
                        rotate_left
                        · simp only [Act.put, List.setIfInBounds_toArray, List.set_cons_zero, List.set_cons_succ, i64_w, i32_w]
                          rfl
                        refine done_ (done_of HT_.out (by kernel_rfl)) ?_
                        clear HT_ hHeld
                        go_wp2
                        go_roundg (gk - 1)
                        case measure => have := HA2.out; have := hjN.out; omega
                        case rel => exact ⟨j + 1, by rw [show wrap64 ((j : Int) + 1) = ((j + 1 : Nat) : Int) from by have := hjN.out; have := hl12'.out; unfold wrap64; omega], ⟨by have := HA2.out; have := hjN.out; omega, by have := hjN.out; omega⟩, ⟨HBb.out⟩⟩
                      · have c' : decide ((j : Int) < (l.length : Int)) = false := decide_eq_false (by omega)
                        have cd2 : decide (j < l.length) = false := decide_eq_false c
                        clear c
                        go_wp2
                        go_roundg (go - 1)
                        case measure => have := HA.out; have := hiN.out; omega
                        case rel => exact ⟨i + 1, by rw [show wrap64 ((i : Int) + 1) = ((i + 1 : Nat) : Int) from by have := hiN.out; have := hll.out; unfold wrap64; omega], ⟨by have := HA.out; have := hiN.out; omega, by have := hiN.out; omega⟩, HBj⟩
                  · have c' : decide ((i : Int) < (ls.length : Int)) = false := decide_eq_false (by omega)
                    have cd2 : decide (i < ls.length) = false := decide_eq_false c
                    have HMz := Lib.hid (HMa.out.below HBi.out)
                    clear c
                    go_wp2_with fail
                    refine (arlinklaw23_back.calls k A8 c8 E E2 wi (Kd.C_below H8a.out.2 HBi.out) H8a.out.1 HG.out.bk).mono ?_
                    rintro e wb ⟨vb, rfl, hR, hb⟩
                    obtain ⟨Ab, cb, rfl⟩ := Kd.R_slice hR
                    have Hbk := Lib.hid (Kd.R_reads' hR).2
                    have HMy := Lib.hid (HMz.out.below hb)
                    clear hR hb HMz c' cd2
                    go_wp2_with fail
                    refine (arlinkref23_Same.calls k Ab cb E2 A1 c1 es true wb Hbk.out.2 Hbk.out.1 HMy.out.e HMy.out.ec HG.out.sm).mono ?_
                    rintro e wc ⟨rfl, hd⟩
                    have hdb := Lib.hid hd.below
                    clear hd
                    go_wp2
                    go_ret
                    exact ⟨rfl, below_then HMy.out.B (below_size HMy.out.B) hdb.out⟩
end Go.Proofs.Ythpjpkcfepmhkaa.PAll
namespace Go.Proofs.Ythpjpkcfepmhkaa.PAll
open Go.RowKit Go.Proofs.YthpjpkcfepmhkaaW.PrintWords Go.Proofs.YthpjpkcfepmhkaaW.PrintLast Go.Proofs.YthpjpkcfepmhkaaW.PrintMore
set_option linter.unusedVariables false
set_option linter.unusedSimpArgs false
theorem forward_loopK (l : List S39) (hl : l.length ≤ 1000000) : ∀ (d i : Nat) (acc : List S68), i + d = l.length → acc.length = i → Ev (fun k => arlinklaw23_forward.l0 k l acc (i : Int)) (acc ++ fw (l.drop i))
  | 0, i, acc, h, ha => by
    rw [List.drop_of_length_le (by omega)]
    refine Ev.step (f := fun _ => some acc) (fun k => by simp only [arlinklaw23_forward.l0]; rw [if_neg (by omega)]) ?_
    simp only [fw, List.map_nil, List.append_nil]
    exact Ev.now _
  | d + 1, i, acc, h, ha => by
    have hi : i < l.length := by omega
    have ih := forward_loopK l hl d (i + 1) (acc ++ [⟨(rd_T39 l (i : Int)).f0, (rd_T39 l (i : Int)).f1⟩]) (by omega) (by rw [List.length_append, List.length_singleton, ha])
    have he : acc ++ fw (l.drop i) = (acc ++ [⟨(rd_T39 l (i : Int)).f0, (rd_T39 l (i : Int)).f1⟩]) ++ fw (l.drop (i + 1)) := by
      rw [List.drop_eq_getElem_cons hi, rd39 hi, List.append_assoc]
      rfl
    rw [he]
    exact Ev.step (f := fun k => arlinklaw23_forward.l0 k l (acc ++ [⟨(rd_T39 l (i : Int)).f0, (rd_T39 l (i : Int)).f1⟩]) ((i + 1 : Nat) : Int)) (fun k => by simp only [arlinklaw23_forward.l0]; rw [if_pos (by omega), if_pos (by omega), if_pos (by omega), wrN i (by omega)]) ih
theorem forward_evK (l : List S39) (hl : l.length ≤ 1000000) : Ev (fun k => arlinklaw23_forward.f k l) (fw l) := by
  have := forward_loopK l hl l.length 0 [] (by omega) rfl
  rwa [List.drop_zero, List.nil_append] at this
theorem bk_fw (l : List S39) : bk (fw l) = l := by
  unfold bk fw
  rw [List.map_map]
  exact (List.map_congr_left (fun _ _ => rfl)).trans (List.map_id _)
theorem same01_at (b : List Int) (hb : b.length ≤ 1000000) : ∀ (d i : Nat), i + d = b.length → ∀ k, d < k → arlinkref01_Same.l0 k b b (i : Int) = some true
  | 0, i, h, k, hk => by
    obtain ⟨k, rfl⟩ : ∃ k', k = k' + 1 := ⟨k - 1, by omega⟩
    rw [arlinkref01_Same.l0, if_neg (by omega)]
  | d + 1, i, h, k, hk => by
    obtain ⟨k, rfl⟩ : ∃ k', k = k' + 1 := ⟨k - 1, by omega⟩
    rw [arlinkref01_Same.l0, if_pos (by omega), if_pos (by omega), if_pos (by omega), if_pos rfl, wrN i (by omega)]
    exact same01_at b hb d (i + 1) (by omega) k (by omega)
theorem same06_at (a : List S55) (b : List Int) (ha : a.length ≤ 1000000) (hb : b.length ≤ 1000) : ∀ (d i : Nat), i + d = a.length → ∀ k, d + 2000 < k → arlinkref06_Same.l0 k (i : Int) a b a b = some true
  | 0, i, h, k, hk => by
    obtain ⟨k, rfl⟩ : ∃ k', k = k' + 1 := ⟨k - 1, by omega⟩
    have h1 : arlinkref01_Same.f k b b = some true := by
      unfold arlinkref01_Same.f
      rw [if_pos rfl]
      exact same01_at b (by omega) b.length 0 (by omega) k (by omega)
    rw [arlinkref06_Same.l0, if_neg (by omega), h1]
    rfl
  | d + 1, i, h, k, hk => by
    obtain ⟨k, rfl⟩ : ∃ k', k = k' + 1 := ⟨k - 1, by omega⟩
    simp only [arlinkref06_Same.l0, beq_self_eq_true, Bool.not_true, Bool.or_self]
    rw [if_pos (by omega), if_pos (by omega), if_pos (by omega), if_neg (by decide), wrN i (by omega)]
    exact same06_at a b ha hb d (i + 1) (by omega) k (by omega)
theorem same06_ok {a : List S55} {b : List Int} (ha : a.length ≤ 1000) (hb : b.length ≤ 1000) {k : Nat} (hk : 4000 ≤ k) : arlinkref06_Same.f k a b a b = some true := by
  unfold arlinkref06_Same.f
  rw [if_pos rfl]
  exact same06_at a b (by omega) hb a.length 0 (by omega) k (by omega)
theorem right23_each (l : List (List S50)) (hl : l.length ≤ 8) : ∀ (k i : Nat), arlinklaw23_right.l0 k l (i : Int) = some true → ∀ j (hj : j < l.length), i ≤ j → Ev (fun n => arlinkref14_Right.f n l[j]) true
  | 0, i, h => by simp [arlinklaw23_right.l0] at h
  | k + 1, i, h => by
    intro j hj hij
    have hi : i < l.length := by omega
    rw [arlinklaw23_right.l0, if_pos (by omega), if_pos (by omega), rdL10 hi, Option.bind_eq_some_iff] at h
    obtain ⟨b, hb, h⟩ := h
    split at h
    · rename_i c
      subst c
      by_cases e : i = j
      · subst e
        exact Ev.of (fun n => arlinkref14_Right.mono l[i] n) hb
      · rw [wrN i (by omega)] at h
        exact right23_each l hl k (i + 1) h j hj (by omega)
    · cases h
theorem right23_all {l : List (List S50)} (h : Ev (fun k => arlinklaw23_right.f k l) true) : ∀ x, x ∈ l → Ev (fun n => arlinkref14_Right.f n x) true := by
  obtain ⟨k, hk⟩ := h.rounds
  unfold arlinklaw23_right.f at hk
  split at hk
  · cases hk
  · intro x hx
    obtain ⟨j, hj, rfl⟩ := List.getElem_of_mem hx
    exact right23_each l (by omega) k 0 hk j hj (by omega)
theorem keep_main (a0 : Int) (es : List S39) (ls : List (List S50)) (h0 : 0 ≤ a0) (h1 : a0 ≤ 255) : ∃ k n b1 b2, KeepIn k a0 n es ls b1 b2 ∧ (es.length ≤ 100 → b1 = true → b2 = true → ∃ E r1 r2 q m1 m2 E2, KeepGo k n es ls E r1 r2 q m1 m2 E2) := by
  obtain ⟨N, hN, hN20⟩ := tmod20 h0 h1
  obtain ⟨Ka, ka⟩ := awake23_ev
  obtain ⟨Kv, kv⟩ : ∃ Kv, es.length ≤ 100 → ∀ k, Kv ≤ k → arlinkref23_Valid.f k (N : Int) es = some (validS (N : Int) (fw es)) := by
    by_cases c : es.length ≤ 100
    · obtain ⟨K, hK⟩ := rvalid_ev (N : Int) es (by omega)
      exact ⟨K, fun _ => hK⟩
    · exact ⟨0, fun h => absurd h c⟩
  obtain ⟨b2, hr, hrP⟩ := right23_ev ls
  have hr' := hr
  obtain ⟨Kr, kr⟩ := hr
  by_cases hgo : es.length ≤ 100 ∧ validS (N : Int) (fw es) = true ∧ b2 = true
  · obtain ⟨g1, g2, rfl⟩ := hgo
    obtain ⟨hl8, hR⟩ := hrP rfl
    have hall := right23_all hr'
    obtain ⟨Kf, kf⟩ := forward_evK es (by omega)
    have hfl : (fw es).length ≤ 100 := by rw [fw_length]; exact g1
    obtain ⟨⟨r1, r2⟩, so, _, _⟩ := sorts_alike (N : Int) es (by omega)
    obtain ⟨d, u, cy, _⟩ := cycle_ok g2 (by omega)
    have hon := needs_ev hl8 hR
    obtain ⟨⟨m1, m2⟩, sa, _, _⟩ := sorts_alike (ls.length : Int) (e39 (gridE (cN ls) ls.length ls.length)) (by
      unfold e39
      rw [List.length_map]
      have := gridE_len (cN ls) ls.length ls.length
      have h2 : ls.length * ls.length ≤ 8 * 8 := Nat.mul_le_mul hl8 hl8
      omega)
    rw [fw_e39] at sa
    have harch : Ev (fun k => order_Archives.f k ls) (m1, m2) := by
      unfold order_Archives.f
      exact Ev.bind hon (Ev.congr (f := fun _ => some (m1, m2)) (fun k => by rw [sa, Option.bind_some]) (Ev.now _))
    obtain ⟨Kc, kc⟩ := harch
    obtain ⟨Kb, kb⟩ := back_ev (fw es) (by omega)
    rw [bk_fw] at kb
    obtain ⟨Ks, ks⟩ := same23_ev es (by omega)
    have hrl : r1.length ≤ 100000 := by
      obtain ⟨g, hg1, hg2⟩ := sort_ok g2 (by omega)
      rw [hg2] at so
      have := Option.some.inj so
      have hgr : r1 = [] ∨ r1 = g := by
        split at this
        · exact .inl (congrArg Prod.fst this).symm
        · exact .inr (congrArg Prod.fst this).symm
      rcases hgr with rfl | rfl
      · simp
      · obtain ⟨ok1, ok2, _⟩ := hg1.ok List.nodup_nil (fun v hv => by simp at hv)
        have := pigeonI N r1 ok1 ok2
        omega
    refine ⟨Ka + Kv + Kr + Kf + Kc + Kb + Ks + 4000, N, _, true, ⟨hN, ka _ (by omega), fun c => kv c _ (by omega), kr _ (by omega)⟩, fun _ _ _ => ⟨fw es, r1, r2, between d u N, m1, m2, es, ?_⟩⟩
    exact ⟨kf _ (by omega), so, cy, kc _ (by omega), kb _ (by omega), ks _ (by omega), fun l hl o ho => same06_ok (by have := (hR l hl).syms o ho; omega) (right_body (hall l hl) o ho) (by omega), hl8, fun l hl => (hR l hl).len, fun l hl o ho => (hR l hl).syms o ho, hrl⟩
  · exact ⟨Ka + Kv + Kr, N, _, b2, ⟨hN, ka _ (by omega), fun c => kv c _ (by omega), kr _ (by omega)⟩, fun a1 a2 a3 => absurd ⟨a1, a2, a3⟩ hgo⟩
def arlinklaw23_OrderKeeps.f (k : Nat) : Option Bool := some true
theorem orderKeeps_ev : Ev (fun k => arlinklaw23_OrderKeeps.f k) true := Ev.now _
theorem arlinklaw23_OrderKeeps.calls (k : Nat) (a0 : Int) (A1 : Option Addr) (c1 : Nat) (es : List S39) (A2 : Option Addr) (c2 : Nat) (ls : List (List S50)) (r : Bool) (w : World)
    (hr1 : Kd.C k39 w A1 es.length es) (hc1 : es.length ≤ c1) (hr2 : Kd.C (Kd.slice 50 k50) w A2 ls.length ls) (hc2 : ls.length ≤ c2) (h0 : 0 ≤ a0) (h1 : a0 ≤ 255) (h : arlinklaw23_OrderKeeps.f k = some r) :
    Calls Try.prog 12 #[.int .u8 a0, .slice A1 es.length c1, .slice A2 ls.length c2] w fun e w' => e = .returned (.bool r) ∧ Below w.heap.size w w' := by
  obtain rfl := Option.some.inj h
  obtain ⟨K, n, b1, b2, hI, hG⟩ := keep_main a0 es ls h0 h1
  exact keep_calls K a0 A1 c1 es A2 c2 ls n b1 b2 w hr1 hc1 hr2 hc2 hI hG
end Go.Proofs.Ythpjpkcfepmhkaa.PAll
