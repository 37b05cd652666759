import Derived.Test.YthpjpkcfepmhkaaHCycle0
namespace Go.Proofs.Ythpjpkcfepmhkaa.PAll
open Go.RowKit Go.Proofs.YthpjpkcfepmhkaaW.PrintWords Go.Proofs.YthpjpkcfepmhkaaW.PrintLast Go.Proofs.YthpjpkcfepmhkaaW.PrintMore
set_option linter.unusedVariables false
set_option linter.unusedSimpArgs false

def VEnd (w : World) (base base' : Nat) (f : Nat → Nat) (o N gv gs bn bs bv : Nat) (vs : List Value) (xss : List (List Int)) (seen1 : List Bool) (w' : World) : Prop :=
  VS w' base base' f o N gv gs bn bs bv vs xss seen1 ∧ w.grownBy w' (some gs)

set_option maxRecDepth 10000 in
set_option maxHeartbeats 4000000 in
theorem visit_calls (base base' : Nat) (f : Nat → Nat) (o N gv gs bn bs bv : Nat) (vs : List Value) (xss : List (List Int)) (hN : (N : Int) ≤ 65536) : ∀ (k i : Nat) (seen seen1 : List Bool) (w : World), i < N → VS w base base' f o N gv gs bn bs bv vs xss seen → visit xss k i seen = some seen1 →
    Calls Try.prog 63 #[.int .i64 i, .pointer (some ⟨bn, 0, none⟩), .pointer (some ⟨bs, 0, none⟩), .pointer (some ⟨bv, 0, none⟩)] w fun e w' => e = .returned (.tuple #[]) ∧ VEnd w base base' f o N gv gs bn bs bv vs xss seen1 w'
  | 0, i, seen, seen1, w, hi, hV, h => by simp [visit] at h
  | k + 1, i, seen, seen1, w, hi, hV, h => by
    have ih := visit_calls base base' f o N gv gs bn bs bv vs xss hN k
    simp only [visit] at h
    obtain ⟨ys, hys⟩ : ∃ ys, xss.getD i [] = ys := ⟨_, rfl⟩
    rw [hys] at h
    have hiv : i < vs.length := by rw [hV.nv]; exact hi
    have hRi := (hV.adj.at_ i hiv).1
    rw [hys] at hRi
    obtain ⟨Ai, ci, hui⟩ := Kd.R_slice hRi
    rw [hui] at hRi
    have hcc := hV.adj.outer.cells (g := gv) rfl i (vs.getD i undef) (getD_some hiv)
    rw [add_plain, hui] at hcc
    have hcn := blk_cell hV.cn 0
    simp only [List.getElem?_toArray, List.getElem?_cons_succ, List.getElem?_cons_zero] at hcn
    have hyl : ys.length ≤ 9223372036854775807 := (Kd.R_reads' hRi).2.2.2.1
    have HV := Lib.hid hV
    have H := Lib.hid h
    have HYS := Lib.hid hys
    have HUI := Lib.hid hui
    clear hV h hys hui hRi
    go_enter Try.func63, Try.ntmps63
    go_wp2
    go_loopg [12] ys.length (fun kq v12 w' => ∃ (j : Nat) (sn : List Bool), v12 = .int .i64 j ∧ Aside0 (kq + j = ys.length ∧ visitL (visit xss k) (ys.drop j) sn = some seen1) ∧ Aside0 (VEnd w base base' f o N gv gs bn bs bv vs xss sn w'))
    case atStart => exact ⟨0, seen, rfl, ⟨by omega, H.out⟩, ⟨HV.out, World.grownBy.refl _ _⟩⟩
    case round =>
      clear HV H
      obtain ⟨j, sn, rfl, HJ, HS⟩ := hrel
      cases gk with
      | zero =>
        have hj : ys.length ≤ j := by have := HJ.out.1; omega
        have hr := HJ.out.2
        rw [List.drop_eq_nil_of_le hj] at hr
        simp only [visitL, Option.some.injEq] at hr
        subst hr
        clear HJ
        go_wp2
        go_end0
        exact ⟨rfl, HS.out⟩
      | succ jq =>
        have hj : j < ys.length := by have := HJ.out.1; omega
        have hr := HJ.out.2
        rw [List.drop_eq_getElem_cons hj] at hr
        simp only [visitL] at hr
        split at hr
        · rename_i hg
          obtain ⟨hg0, hg1⟩ := hg
          obtain ⟨d, hd⟩ := Int.eq_ofNat_of_zero_le hg0
          rw [hd] at hr hg1
          rw [Int.toNat_natCast] at hr
          have hVS := HS.out.1
          have hRi := (hVS.adj.at_ i hiv).1
          rw [HYS.out, HUI.out] at hRi
          obtain ⟨b, c', he, _, hbl, _⟩ := Kd.R_form hRi (by omega)
          injection he with he1 he2 he3
          subst he1
          obtain ⟨hyc, _⟩ := R.row_cell hRi j hj
          have hyd : Hp.at_ (0 : Int) ys j = (d : Int) := by
            unfold Hp.at_
            rw [List.getD_eq_getElem?_getD, List.getElem?_eq_getElem hj]
            exact hd
          rw [hyd] at hyc
          have hdN : d < N := by have := hVS.ns; omega
          obtain ⟨hsc, hsz⟩ := hVS.scell d hdN
          have hsl : gs < wr.heap.size := Kd.R_lt hVS.marks gs (by simp [Value.ownBlock])
          have hcs := blk_cell hVS.cs 0
          have hcv := blk_cell hVS.cv 0
          simp only [List.getElem?_toArray, List.getElem?_cons_succ, List.getElem?_cons_zero] at hcs hcv
          have hbs1 := blk_lt hVS.cs
          have hbv1 := blk_lt hVS.cv
          have hne1 : bs ≠ gs := by
            rintro rfl
            exact Kd.R_ne hVS.marks hVS.cs (by decide) (by simp [Value.ownBlock])
          have hne2 : bv ≠ gs := by
            rintro rfl
            exact Kd.R_ne hVS.marks hVS.cv (by decide) (by simp [Value.ownBlock])
          have HM := Lib.hid (hVS.mark d hdN true)
          clear hVS hRi he2 he3 hyd hd hg0
          unfold visitFn at hcv
          cases hsn : sn.getD d false with
          | true =>
            rw [hsn, if_pos rfl] at hr
            rw [hsn] at hsc
            have HR := Lib.hid hr
            clear hr hsn
            go_wp2
            go_roundg jq
            case measure => omega
            case rel => exact ⟨j + 1, sn, by go_num, ⟨by have := HJ.out.1; omega, HR.out⟩, ⟨HS.out⟩⟩
          | false =>
            rw [hsn, if_neg (by decide), Option.bind_eq_some_iff] at hr
            rw [hsn] at hsc
            obtain ⟨s2, hr1, hr2⟩ := hr
            have HR1 := Lib.hid hr1
            have HR2 := Lib.hid hr2
            clear hr1 hr2 hsn
            go_wp2_with fail
            refine (ih d _ s2 (wr.setCell ⟨gs, d, none⟩ (.bool true)) hdN HM.out.1 HR1.out).mono ?_
            rintro e w2 ⟨rfl, hv2, hg2⟩
            have HV2 := Lib.hid (And.intro hv2 (World.grownBy.trans (World.grownBy.trans HS.out.2 HM.out.2) hg2))
            clear hv2 hg2
            go_wp2
            go_roundg jq
            case measure => omega
            case rel => exact ⟨j + 1, s2, by go_num, ⟨by have := HJ.out.1; omega, HR2.out⟩, ⟨HV2.out⟩⟩
        · cases hr
end Go.Proofs.Ythpjpkcfepmhkaa.PAll
