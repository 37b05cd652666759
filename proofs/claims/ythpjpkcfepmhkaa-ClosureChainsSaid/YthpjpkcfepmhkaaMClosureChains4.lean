/- Laid together by a program of this session (wip/bundle.py) out of its own texts and of the words that the kit's print.sh laid for this seat, cut to what is used. -/
import Derived.Test.YthpjpkcfepmhkaaMClosureChains3
import Derived.Deep.RegionLaw
import Derived.WalkSpells
import Derived.Deep.DeepCutAuto
import GoSem.Op.String
import Derived.WalkLawsBesides
import Derived.Lib.Hide
namespace Go.Proofs.Ythpjpkcfepmhkaa.PAll
open Go.RowKit Go.Proofs.YthpjpkcfepmhkaaW.PrintWords Go.Proofs.YthpjpkcfepmhkaaW.PrintLast Go.Proofs.YthpjpkcfepmhkaaW.PrintMore
set_option linter.unusedVariables false
set_option linter.unusedSimpArgs false
def BuildEnd (w : World) (vm : Value) (l0 l1 : List S50) (e : Ending) (w' : World) : Prop := ∃ (bd bp : Nat) (f : Nat → ByteArray) (g : ByteArray → Option Value), e = .returned (.agg #[vm, .map (some bd), .map (some bp)]) ∧ Below w.heap.size w w' ∧
  Grp w' w.heap.size bd (prsOf l1 0).length f g (zsOf (prsOf l1 0)) ∧ MapV lkS w' 9 bp (provOf l0).length (inG (provOf l0)) ∧ w.heap.size ≤ bd ∧ w.heap.size ≤ bp
theorem BW.start (w : World) (vm : Value) : BW w ((((w.alloc (.cells #[.slice none 0 0, .map none, .map none] 83)).alloc (.map #[] 0)).alloc (.map #[] 0)).alloc (.cells #[vm, .map (some (w.heap.size + 1)), .map (some (w.heap.size + 1 + 1))] 83)) vm w.heap.size (w.heap.size + 1) (w.heap.size + 1 + 1) (w.heap.size + 1 + 1 + 1) (fun _ => ByteArray.empty) (fun _ => none) [] [] := by
  have z1 : (w.alloc (.cells #[.slice none 0 0, .map none, .map none] 83)).heap.size = w.heap.size + 1 := by go_simp
  have b1 := below_alloc (Below.refl w.heap.size w) (.cells #[.slice none 0 0, .map none, .map none] 83)
  have r1 := heap_alloc_new w (.cells #[.slice none 0 0, .map none, .map none] 83)
  generalize w.alloc (.cells #[.slice none 0 0, .map none, .map none] 83) = w1 at *
  have z2 : (w1.alloc (.map #[] 0)).heap.size = w.heap.size + 1 + 1 := by rw [← z1]; go_simp
  have b2 := below_alloc (Below.refl w1.heap.size w1) (.map #[] 0)
  have m2 := Grp.made w1 w.heap.size (fun _ => ByteArray.empty)
  rw [z1] at m2
  generalize w1.alloc (.map #[] 0) = w2 at *
  have z3 : (w2.alloc (.map #[] 0)).heap.size = w.heap.size + 1 + 1 + 1 := by rw [← z2]; go_simp
  have b3 := below_alloc (Below.refl w2.heap.size w2) (.map #[] 0)
  have m3 := MapV.made lkS w2 9
  rw [z2] at m3
  generalize w2.alloc (.map #[] 0) = w3 at *
  have b4 := below_alloc (Below.refl w3.heap.size w3) (.cells #[vm, .map (some (w.heap.size + 1)), .map (some (w.heap.size + 1 + 1))] 83)
  have r4 := heap_alloc_new w3 (.cells #[vm, .map (some (w.heap.size + 1)), .map (some (w.heap.size + 1 + 1))] 83)
  rw [z3] at r4
  generalize w3.alloc (.cells #[vm, .map (some (w.heap.size + 1)), .map (some (w.heap.size + 1 + 1))] 83) = w4 at *
  have hz : zsOf [] = fun _ => [] := rfl
  refine ⟨below_then (below_then (below_then b1 (by omega) b2) (by omega) b3) (by omega) b4, blk_below (blk_below (blk_below r1 b2) b3) b4, r4, ?_, ?_, by omega, by omega, by omega, by omega, by omega, by omega⟩
  · rw [hz]
    exact (m2.below b3 (Nat.le_refl _)).below b4 (Nat.le_refl _)
  · rw [inG_nil]
    exact m3.below b4 m3.lt
theorem grown_set (w : World) (g i : Nat) (u : Value) : w.grownBy (w.setCell ⟨g, i, none⟩ u) (some g) :=
  ⟨rfl, rfl, rfl, by simp [World.setCell], fun k _ hk => Below.heap_setCell w ⟨g, i, none⟩ u k (fun e => hk (by rw [e]))⟩
theorem BW.fin {w wr : World} {vm : Value} {g4 bd bp gp : Nat} {f : Nat → ByteArray} {g : ByteArray → Option Value} {ps : List (ByteArray × Int)} {pv : List ByteArray} (h : BW w wr vm g4 bd bp gp f g ps pv) {a b c : Value} :
    Below w.heap.size w (((wr.setCell ⟨g4, 0, none⟩ a).setCell ⟨g4, 1, none⟩ b).setCell ⟨g4, 2, none⟩ c) ∧ Grp (((wr.setCell ⟨g4, 0, none⟩ a).setCell ⟨g4, 1, none⟩ b).setCell ⟨g4, 2, none⟩ c) w.heap.size bd ps.length f g (zsOf ps) ∧
      MapV lkS (((wr.setCell ⟨g4, 0, none⟩ a).setCell ⟨g4, 1, none⟩ b).setCell ⟨g4, 2, none⟩ c) 9 bp pv.length (inG pv) ∧ w.heap.size ≤ bd ∧ w.heap.size ≤ bp := by
  have hg := World.grownBy.trans (World.grownBy.trans (grown_set wr g4 0 a) (grown_set _ g4 1 b)) (grown_set _ g4 2 c)
  refine ⟨h.B.grown hg h.B.size (fun k hk => by cases hk; exact h.h4), ⟨h.grp.map.grown hg (fun e => h.grp.map.ne_cells h.r (Option.some.inj e)), fun y => ?_, h.grp.has⟩, h.prov.grown hg (fun e => h.prov.ne_cells h.r (Option.some.inj e)), h.hd, h.hq⟩
  obtain ⟨r1, r2⟩ := h.grp.rows y
  exact ⟨rs_grown rfl r1 hg (fun k hk e => Kd.R_ne r1 h.r (by decide) (by rw [hk, e])), r2⟩
set_option maxRecDepth 10000 in
set_option maxHeartbeats 8000000 in
theorem build_calls (A0 : Option Addr) (c0 : Nat) (l0 : List S50) (A1 : Option Addr) (c1 : Nat) (l1 : List S50) (w : World) (hr0 : Kd.C k50 w A0 l0.length l0) (hr1 : Kd.C k50 w A1 l1.length l1) (s0 : smallL l0 = true) (s1 : smallL l1 = true) :
    Calls Try.prog 49 #[.slice A0 l0.length c0, .slice A1 l1.length c1] w fun e w' => BuildEnd w (.slice A1 l1.length c1) l0 l1 e w' := by
  have hu50 := Try.underlying50
  have hu83 := Try.underlying83
  have hmm := @run_makeMap Try.prog
  have HR0 := Lib.hid hr0
  have HR1 := Lib.hid hr1
  have hl0 := (smallL_iff.1 s0).1
  have hl1 := (smallL_iff.1 s1).1
  have S0 := Lib.hid s0
  have S1 := Lib.hid s1
  have HPV0 := Lib.hid (show (provOf l0).length ≤ 1048576 from by have := prov_len s0 l0.length; rwa [List.take_length] at this)
  clear hr0 hr1 s0 s1
  go_enter Try.func49, Try.ntmps49
  go_wp2
  have HBW := Lib.hid (BW.start w (.slice A1 l1.length c1))
  generalize (((w.alloc (.cells #[.slice none 0 0, .map none, .map none] 83)).alloc (.map #[] 0)).alloc (.map #[] 0)).alloc (.cells #[.slice A1 l1.length c1, .map (some (w.heap.size + 1)), .map (some (w.heap.size + 1 + 1))] 83) = w0 at *
  clear hmm
  go_loopg [20] l0.length (fun kq v20 w' => ∃ (k : Nat), v20 = .int .i64 k ∧ Aside0 (kq + k = l0.length) ∧ Aside0 (BW w w' (.slice A1 l1.length c1) w.heap.size (w.heap.size + 1) (w.heap.size + 1 + 1) (w.heap.size + 1 + 1 + 1) (fun _ => ByteArray.empty) (fun _ => none) [] (provOf (l0.take k))))
  case atStart => exact ⟨0, rfl, ⟨by omega⟩, ⟨HBW.out⟩⟩
  case round =>
    clear HBW
    obtain ⟨k, rfl, HA, HS⟩ := hrel
    cases gk with
    | zero =>
      have hk : l0.length ≤ k := by have := HA.out; omega
      have hkf : decide (k < l0.length) = false := decide_eq_false (by omega)
      have HE := HS.out
      rw [List.take_of_length_le hk] at HE
      have HE := Lib.hid HE
      clear HS HA hk
      clear HR0 S0 hl0
      generalize hpv1 : provOf l0 = pv at *
      have HPV1 := Lib.hid hpv1
      clear hpv1
      have hpv : pv.length ≤ 2097152 := by have := HPV0.out; omega
      go_wp2
      go_loopg [38] l1.length (fun kq v38 w' => ∃ (k : Nat) (f : Nat → ByteArray) (g : ByteArray → Option Value), v38 = .int .i64 k ∧ Aside0 (kq + k = l1.length) ∧ Aside0 (BW w w' (.slice A1 l1.length c1) w.heap.size (w.heap.size + 1) (w.heap.size + 1 + 1) (w.heap.size + 1 + 1 + 1) f g (prsOf (l1.take k) 0) pv))
      case atStart => exact ⟨0, _, _, rfl, ⟨by omega⟩, ⟨HE.out⟩⟩
      case round =>
        clear HE
        obtain ⟨k, f, g, rfl, HA, HS⟩ := hrel
        cases gk with
        | zero =>
          have hk : l1.length ≤ k := by have := HA.out; omega
          have hkf : decide (k < l1.length) = false := decide_eq_false (by omega)
          have HE := HS.out
          rw [List.take_of_length_le hk] at HE
          have HE := Lib.hid HE
          clear HS HA hk
          have p0 := blk_cell HE.out.p 0
          have p1 := blk_cell HE.out.p 1
          have p2 := blk_cell HE.out.p 2
          have r0 := blk_cell HE.out.r 0
          have r1 := blk_cell HE.out.r 1
          have r2 := blk_cell HE.out.r 2
          simp only [List.getElem?_toArray, List.getElem?_cons_succ, List.getElem?_cons_zero] at p0 p1 p2 r0 r1 r2
          have z0 := blk_frozen HE.out.r 0
          have z1 := blk_frozen HE.out.r 1
          have z2 := blk_frozen HE.out.r 2
          have pl := blk_lt HE.out.p
          have rl := blk_lt HE.out.r
          go_wp2
          have hrf := blk_set (blk_set (blk_set HE.out.r 0 (.slice A1 l1.length c1)) 1 (.map (some (w.heap.size + 1)))) 2 (.map (some (w.heap.size + 1 + 1)))
          have q0 := blk_cell hrf 0
          have q1 := blk_cell hrf 1
          have q2 := blk_cell hrf 2
          simp [World.setCell_drew] at q0 q1 q2
          have hfin : BuildEnd w (.slice A1 l1.length c1) l0 l1 (.returned (.agg #[.slice A1 l1.length c1, .map (some (w.heap.size + 1)), .map (some (w.heap.size + 1 + 1))])) (((wr.setCell ⟨w.heap.size, 0, none⟩ (.slice A1 l1.length c1)).setCell ⟨w.heap.size, 1, none⟩ (.map (some (w.heap.size + 1)))).setCell ⟨w.heap.size, 2, none⟩ (.map (some (w.heap.size + 1 + 1)))) := by
            have := HE.out.fin (a := .slice A1 l1.length c1) (b := .map (some (w.heap.size + 1))) (c := .map (some (w.heap.size + 1 + 1)))
            rw [← HPV1.out] at this
            exact ⟨_, _, f, g, rfl, this⟩
          clear hrf p0 p1 p2 r0 r1 r2 z0 z1 z2
          generalize ((wr.setCell ⟨w.heap.size, 0, none⟩ (.slice A1 l1.length c1)).setCell ⟨w.heap.size, 1, none⟩ (.map (some (w.heap.size + 1)))).setCell ⟨w.heap.size, 2, none⟩ (.map (some (w.heap.size + 1 + 1))) = wf at *
          exact bodyPost_ret (v := .agg #[.slice A1 l1.length c1, .map (some (w.heap.size + 1)), .map (some (w.heap.size + 1 + 1))]) (by simp [results, Try.results49, go_sem, q0, q1, q2]) rfl hfin
        | succ kq =>
          have hk : k < l1.length := by have := HA.out; omega
          obtain ⟨ad, B0, d0, B1, d1, rfl, hx0, hx1, hle0, hC0, hle1, hC1⟩ := at_T50 HR1.out (k : Int) (Int.natCast_nonneg _) (by omega)
          have hB := HS.out.B
          replace hx0 := (hB.cell (World.block_lt_of_cell? w _ hx0)).trans hx0
          replace hx1 := (hB.cell (World.block_lt_of_cell? w _ hx1)).trans hx1
          simp only [Int.toNat_natCast] at hx0 hx1
          have HN := Lib.hid (names_small S1.out defB hk)
          have HC := Lib.hid (prsOf_snoc hk)
          have HPL := Lib.hid (prs_len S1.out k)
          have hbs := below_size hB
          clear hB hC1 hle0 hle1
          generalize rd_T50 l1 k = x at *
          obtain ⟨x0, x1⟩ := x
          dsimp only at hx0 hx1 hC0 HN HC
          have HX := Lib.hid hC0
          clear hC0
          go_wp2_with fail
          have hBW2 := HS.out.below (below_alloc (Below.refl _ _) (.cells #[.slice B0 x0.length d0, .slice B1 x1.length d1] 50))
          clear hx0 hx1 HS
          generalize wr.alloc (.cells #[.slice B0 x0.length d0, .slice B1 x1.length d1] 50) = w2 at *
          have hC2 := Kd.C_below HX.out hBW2.B
          have hb2 := below_size hBW2.B
          have HB2 := Lib.hid hBW2
          clear hBW2
          refine (names_calls66 defB holds_defines B0 d0 x0 B1 x1.length d1 w2 hC2 (by have := HN.out.1; omega)).mono ?_
          rintro e w3 ⟨v, rfl, hR, hb3⟩
          have HB3 := Lib.hid (And.intro (HB2.out.below hb3) (Kd.R_lower hR hb2))
          have HN2 := Lib.hid HN.out.2
          clear hR hb3 hC2 HB2 HN HX hb2
          generalize namesOf defB x0 = ns at *
          obtain ⟨Av, cv, rfl⟩ := Kd.R_slice HB3.out.2
          have hnl : ns.length ≤ 1024 := HN2.out.1
          generalize prsOf (l1.take k) 0 = ps at *
          go_wp2
          go_loopg [46] ns.length (fun kq v46 w' => ∃ (j : Nat) (f : Nat → ByteArray) (g : ByteArray → Option Value), v46 = .int .i64 j ∧ Aside0 (kq + j = ns.length) ∧ Aside0 (BW w w' (.slice (some ad) l1.length c1) w.heap.size (w.heap.size + 1) (w.heap.size + 1 + 1) (w.heap.size + 1 + 1 + 1) f g (ps ++ (ns.take j).map (fun s => (s, (k : Int)))) pv ∧ Kd.string.R 9 w' w.heap.size (fun _ => True) (.slice Av ns.length cv) ns))
          case atStart => exact ⟨0, f, g, rfl, ⟨by omega⟩, ⟨by rw [List.take_zero, List.map_nil, List.append_nil]; exact HB3.out.1, HB3.out.2⟩⟩
          case round =>
            clear HB3
            obtain ⟨j, f, g, rfl, HJ, HS⟩ := hrel
            cases gk with
            | zero =>
              have hj : ns.length ≤ j := by have := HJ.out; omega
              have hkf : decide (j < ns.length) = false := decide_eq_false (by omega)
              have HE := HS.out.1
              rw [List.take_of_length_le hj, ← HC.out] at HE
              have HE := Lib.hid HE
              clear HS HJ hj
              go_wp2
              go_roundg kq
              case measure => omega
              case rel => exact ⟨k + 1, f, g, by go_num, ⟨by have := HA.out; omega⟩, ⟨HE.out⟩⟩
            | succ jq =>
              have hj : j < ns.length := by have := HJ.out; omega
              obtain ⟨b, c', he, _, hbl, _⟩ := Kd.R_form HS.out.2 (by omega)
              injection he with he1 he2 he3
              subst he1
              obtain ⟨hyc, _⟩ := W.row_cell HS.out.2 j hj
              have hsm : (Hp.at_ ByteArray.empty ns j).size ≤ 1048576 := by
                refine HN2.out.2 _ ?_
                unfold Hp.at_
                rw [List.getD_eq_getElem?_getD, List.getElem?_eq_getElem hj]
                exact List.getElem_mem hj
              have HT := Lib.hid (show (ns.take (j + 1)).map (fun s => (s, (k : Int))) = (ns.take j).map (fun s => (s, (k : Int))) ++ [(Hp.at_ ByteArray.empty ns j, (k : Int))] from by
                unfold Hp.at_
                rw [List.take_succ_eq_append_getElem hj, List.getD_eq_getElem?_getD, List.getElem?_eq_getElem hj, List.map_append]; rfl)
              have HPS := Lib.hid (show (ps ++ (ns.take j).map (fun s => (s, (k : Int)))).length ≤ 2097152 from by rw [List.length_append, List.length_map, List.length_take]; have := HPL.out; omega)
              generalize Hp.at_ ByteArray.empty ns j = s at *
              generalize hpq : ps ++ (ns.take j).map (fun s => (s, (k : Int))) = pq at *
              have HPQ := Lib.hid hpq
              clear he2 he3 hpq
              go_wp2
              have hbs := below_size HS.out.1.B
              have HD := Lib.hid (HS.out.1.below (below_drew (Below.refl _ _)))
              have HV := Lib.hid (Kd.R_below HS.out.2 (below_drew (Below.refl _ _)))
              have hlk1 := HD.out.grp.look (s := s) (by omega)
              have hlk2 := ((HS.out.1.grp.alloc (.cells #[.int .i64 (k : Int)] 3)).drew).look (s := s) (by omega)
              have hrw := (HD.out.grp.rows s).1
              obtain ⟨u, hu⟩ : ∃ u, (g s).getD (.slice none 0 0) = u := ⟨_, rfl⟩
              rw [hu] at hlk1 hlk2 hrw
              have HRW := Lib.hid hrw
              have HU := Lib.hid hu
              clear hu hrw
              have p1 := blk_cell HD.out.p 1
              have p1' := blk_cell HS.out.1.p 1
              have p1'' := blk_cell (blk_alloc HS.out.1.p (.cells #[.int .i64 (k : Int)] 3)) 1
              simp only [List.getElem?_toArray, List.getElem?_cons_succ, List.getElem?_cons_zero] at p1 p1' p1''
              have pl := blk_lt HS.out.1.p
              have HZ := Lib.hid (zs_len pq s)
              clear HS
              go_region_law (rw [show (wr.alloc (.cells #[.int .i64 (k : Int)] 3)).drew = (wr.drew).alloc (.cells [.int .i64 (k : Int)].toArray 3) from rfl]; refine Kd.R_append_step KI (w0 := w) w.heap.size rfl (.tmp 56) (.tmp 58) 24 3 (.int .i64 0) 8 rfl Try.underlying24 info3 rfl (by decide) (by decide) u (zsOf pq s) (k : Int) [.int .i64 (k : Int)] (fun _ => True) (fun _ => False) (by go_simp) (by go_simp) rfl (fun _ hk => hk.elim) (fun _ _ => trivial) (by (repeat (first | exact HRW.out | apply Kd.R_alloc | apply Kd.R_drewN | apply Kd.R_drew))) HD.out.B (by (first | exact hbs | (simp; omega))) (by have := HZ.out; have := HPS.out; omega) ?_; intro v1 w4 ho hb hgr hat; rw [← HU.out] at hgr hat; obtain ⟨w5, f5, g5, hrun5, hbw5, hr5⟩ := HD.out.group hsm HPS.out hgr hb ho hat HV.out; have hp4 := blk_cell (blk_grown HD.out.p hgr (Kd.R_ne (HD.out.grp.rows s).1 HD.out.p (by decide))) 1; simp only [List.getElem?_toArray, List.getElem?_cons_succ, List.getElem?_cons_zero] at hp4; have hpl4 := blk_lt (blk_grown HD.out.p hgr (Kd.R_ne (HD.out.grp.rows s).1 HD.out.p (by decide))); have H5 := Lib.hid (And.intro hbw5 hr5); clear ho hb hgr hat hbw5 hr5)
              all_goals go_wp2
              all_goals (go_roundg jq; (case measure => omega); (case rel => exact ⟨j + 1, f5, g5, by go_num, ⟨by have := HJ.out; omega⟩, ⟨by rw [HT.out, ← List.append_assoc, HPQ.out]; exact H5.out.1, H5.out.2⟩⟩))
    | succ kq =>
      have hk : k < l0.length := by have := HA.out; omega
      obtain ⟨ad, B0, d0, B1, d1, rfl, hx0, hx1, hle0, hC0, hle1, hC1⟩ := at_T50 HR0.out (k : Int) (Int.natCast_nonneg _) (by omega)
      have hB := HS.out.B
      replace hx0 := (hB.cell (World.block_lt_of_cell? w _ hx0)).trans hx0
      replace hx1 := (hB.cell (World.block_lt_of_cell? w _ hx1)).trans hx1
      simp only [Int.toNat_natCast] at hx0 hx1
      have HN := Lib.hid (names_small S0.out defB hk)
      have HC := Lib.hid (provOf_snoc hk)
      have HPL := Lib.hid (prov_len S0.out k)
      have hbs := below_size hB
      clear hB hC1 hle0 hle1
      generalize rd_T50 l0 k = x at *
      obtain ⟨x0, x1⟩ := x
      dsimp only at hx0 hx1 hC0 HN HC
      have HX := Lib.hid hC0
      clear hC0
      go_wp2_with fail
      have hBW2 := HS.out.below (below_alloc (Below.refl _ _) (.cells #[.slice B0 x0.length d0, .slice B1 x1.length d1] 50))
      clear hx0 hx1 HS
      generalize wr.alloc (.cells #[.slice B0 x0.length d0, .slice B1 x1.length d1] 50) = w2 at *
      have hC2 := Kd.C_below HX.out hBW2.B
      have hb2 := below_size hBW2.B
      have HB2 := Lib.hid hBW2
      clear hBW2
      refine (names_calls66 defB holds_defines B0 d0 x0 B1 x1.length d1 w2 hC2 (by have := HN.out.1; omega)).mono ?_
      rintro e w3 ⟨v, rfl, hR, hb3⟩
      have HB3 := Lib.hid (And.intro (HB2.out.below hb3) (Kd.R_lower hR hb2))
      have HN2 := Lib.hid HN.out.2
      clear hR hb3 hC2 HB2 HN HX hb2
      generalize namesOf defB x0 = ns at *
      obtain ⟨Av, cv, rfl⟩ := Kd.R_slice HB3.out.2
      have hnl : ns.length ≤ 1024 := HN2.out.1
      generalize hpv : provOf (l0.take k) = pv at *
      have HPV := Lib.hid hpv
      clear hpv
      go_wp2
      go_loopg [27] ns.length (fun kq v27 w' => ∃ (j : Nat), v27 = .int .i64 j ∧ Aside0 (kq + j = ns.length) ∧ Aside0 (BW w w' (.slice A1 l1.length c1) w.heap.size (w.heap.size + 1) (w.heap.size + 1 + 1) (w.heap.size + 1 + 1 + 1) (fun _ => ByteArray.empty) (fun _ => none) [] (pv ++ ns.take j) ∧ Kd.string.R 9 w' w.heap.size (fun _ => True) (.slice Av ns.length cv) ns))
      case atStart => exact ⟨0, rfl, ⟨by omega⟩, ⟨by rw [List.take_zero, List.append_nil]; exact HB3.out.1, HB3.out.2⟩⟩
      case round =>
        clear HB3
        obtain ⟨j, rfl, HJ, HS⟩ := hrel
        cases gk with
        | zero =>
          have hj : ns.length ≤ j := by have := HJ.out; omega
          have hkf : decide (j < ns.length) = false := decide_eq_false (by omega)
          have HE := HS.out.1
          rw [List.take_of_length_le hj, ← HC.out] at HE
          have HE := Lib.hid HE
          clear HS HJ hj
          go_wp2
          go_roundg kq
          case measure => omega
          case rel => exact ⟨k + 1, by go_num, ⟨by have := HA.out; omega⟩, ⟨HE.out⟩⟩
        | succ jq =>
          have hj : j < ns.length := by have := HJ.out; omega
          obtain ⟨b, c', he, _, hbl, _⟩ := Kd.R_form HS.out.2 (by omega)
          injection he with he1 he2 he3
          subst he1
          obtain ⟨hyc, _⟩ := W.row_cell HS.out.2 j hj
          have hsm : (Hp.at_ ByteArray.empty ns j).size ≤ 1048576 := by
            refine HN2.out.2 _ ?_
            unfold Hp.at_
            rw [List.getD_eq_getElem?_getD, List.getElem?_eq_getElem hj]
            exact List.getElem_mem hj
          have HT := Lib.hid (show ns.take (j + 1) = ns.take j ++ [Hp.at_ ByteArray.empty ns j] from by
            unfold Hp.at_
            rw [List.take_succ_eq_append_getElem hj, List.getD_eq_getElem?_getD, List.getElem?_eq_getElem hj]; rfl)
          have hpl : (pv ++ ns.take j).length ≤ 2097152 := by rw [List.length_append, List.length_take]; have := HPL.out; omega
          obtain ⟨w5, hrun, hbw, hr5⟩ := HS.out.1.put hsm hpl HS.out.2
          have hp2 := blk_cell HS.out.1.p 2
          simp only [List.getElem?_toArray, List.getElem?_cons_succ, List.getElem?_cons_zero] at hp2
          have hpl2 := blk_lt HS.out.1.p
          have H5 := Lib.hid (And.intro hbw hr5)
          clear he2 he3 hbw hr5 HS hpl hsm
          generalize Hp.at_ ByteArray.empty ns j = s at *
          go_wp2
          go_roundg jq
          case measure => omega
          case rel => exact ⟨j + 1, by go_num, ⟨by have := HJ.out; omega⟩, ⟨by rw [HT.out, ← List.append_assoc]; exact H5.out.1, H5.out.2⟩⟩
end Go.Proofs.Ythpjpkcfepmhkaa.PAll
namespace Go.Proofs.Ythpjpkcfepmhkaa.PAll
open Go.RowKit Go.Proofs.YthpjpkcfepmhkaaW.PrintWords Go.Proofs.YthpjpkcfepmhkaaW.PrintLast Go.Proofs.YthpjpkcfepmhkaaW.PrintMore
set_option linter.unusedVariables false
set_option linter.unusedSimpArgs false
def addL : List ByteArray → List ByteArray → List ByteArray → List ByteArray × List ByteArray
  | [], xs, sn => (xs, sn)
  | s :: ns, xs, sn => if s ∈ sn then addL ns xs sn else addL ns (Hp.push ByteArray.empty W.less xs s) (sn ++ [s])
structure WLb (w : World) (g : Nat) (v : Value) (b : Nat) (xs sn : List ByteArray) : Prop where
  hs : W.HS w g g [.map (some b)] v xs
  mp : MapV lkS w 9 b sn.length (inG sn)
  hb : g ≤ b
structure WL (w : World) (g : Nat) (v : Value) (r : Option Nat) (xs sn : List ByteArray) : Prop where
  hs : W.HS w g g [.map r] v xs
  mp : (r = none ∧ sn = []) ∨ ∃ b, r = some b ∧ MapV lkS w 9 b sn.length (inG sn) ∧ g ≤ b
section
variable {w w1 : World} {g b : Nat} {v : Value} {r : Option Nat} {xs sn : List ByteArray}
theorem WLb.wl (h : WLb w g v b xs sn) : WL w g v (some b) xs sn := ⟨h.hs, .inr ⟨b, rfl, h.mp, h.hb⟩⟩
theorem WLb.below (h : WLb w g v b xs sn) (hb : Below w.heap.size w w1) : WLb w1 g v b xs sn := ⟨W.HS_below h.hs hb, h.mp.below hb h.mp.lt, h.hb⟩
theorem WL.below (h : WL w g v r xs sn) (hb : Below w.heap.size w w1) : WL w1 g v r xs sn := by
  refine ⟨W.HS_below h.hs hb, ?_⟩
  rcases h.mp with h1 | ⟨b, h1, h2, h3⟩
  · exact .inl h1
  · exact .inr ⟨b, h1, h2.below hb h2.lt, h3⟩
theorem WL.lt (h : WL w g v r xs sn) : g < w.heap.size := blk_lt h.hs.1
/-- The names' map is made and put in its place. -/
theorem WL.made (h : WL w g v none xs sn) : WLb ((w.setCell ⟨g, 1, none⟩ (.map (some w.heap.size))).alloc (.map #[] 0)) g v w.heap.size xs sn ∧ Below g w ((w.setCell ⟨g, 1, none⟩ (.map (some w.heap.size))).alloc (.map #[] 0)) := by
  have hsn : sn = [] := by
    rcases h.mp with h1 | ⟨b, h1, _⟩
    · exact h1.2
    · cases h1
  subst hsn
  have hgl := h.lt
  have hsz : (w.setCell ⟨g, 1, none⟩ (.map (some w.heap.size))).heap.size = w.heap.size := by simp [World.setCell]
  have hs1 : W.HS (w.setCell ⟨g, 1, none⟩ (.map (some w.heap.size))) g g [.map (some w.heap.size)] v xs := ⟨blk_set h.hs.1 1 (.map (some w.heap.size)), Kd.R_set h.hs.2 h.hs.1 (by decide) _ _⟩
  have hb : Below g w (w.setCell ⟨g, 1, none⟩ (.map (some w.heap.size))) := (Below.refl g w).setCell (Nat.le_refl _) _
  refine ⟨⟨W.HS_below hs1 (below_alloc (Below.refl _ _) _), ?_, Nat.le_of_lt hgl⟩, hb.alloc (by rw [hsz]; exact Nat.le_of_lt hgl) _⟩
  rw [inG_nil]
  have hm := MapV.made lkS (w.setCell ⟨g, 1, none⟩ (.map (some w.heap.size))) 9
  rwa [hsz] at hm
/-- A name is put among those that were added. -/
theorem WLb.note (h : WLb w g v b xs sn) {s : ByteArray} (hs : s.size ≤ 1048576) (hn : sn.length ≤ 2097152) {u : Value} {ns : List ByteArray} {nb : Nat} (hR : Kd.string.R 9 w nb (fun _ => True) u ns) :
    ∃ w', (Instr.mapUpdate 81 (.map (some b)) (.string s) (.bool true)).run Try.prog w = .ok () w' ∧ WLb w' g v b xs (sn ++ [s]) ∧ Below g w w' ∧ Kd.string.R 9 w' nb (fun _ => True) u ns := by
  obtain ⟨w', h1, h2, h3⟩ := inG_store h.mp (s := s) (by omega) (by omega)
  have hgl := blk_lt h.hs.1
  refine ⟨w', h1, ⟨⟨blk_grown h.hs.1 h3 (fun e => h.mp.ne_cells h.hs.1 (Option.some.inj e).symm), rs_grown rfl h.hs.2 h3 (fun k hk e => h.mp.ne_row h.hs.2 (by rw [hk, ← e]))⟩, by rw [List.length_append]; exact h2, h.hb⟩, (Below.refl g w).grown h3 (Nat.le_of_lt hgl) (fun k hk => by cases hk; exact h.hb), rs_grown rfl hR h3 (fun k hk e => h.mp.ne_row hR (by rw [hk, ← e]))⟩
/-- A name has been pushed. -/
theorem WLb.pushed (h : WLb w g v b xs sn) {ys : List ByteArray} (hp : W.PushPost w w g g [.map (some b)] v ys w1) {u : Value} {ns : List ByteArray} {nb : Nat} (hR : Kd.string.R 9 w nb (fun _ => True) u ns) (hne : ∀ k, u.ownBlock = some k → some k ≠ v.ownBlock) :
    ∃ v1, WLb w1 g v1 b ys sn ∧ Below g w w1 ∧ Kd.string.R 9 w1 nb (fun _ => True) u ns ∧ ∀ k, u.ownBlock = some k → some k ≠ v1.ownBlock := by
  obtain ⟨A, c, h1, h2, h3, h4⟩ := hp
  refine ⟨_, ⟨h1, h.mp.same (h3.2 b h.mp.lt (fun e => h.mp.ne_cells h.hs.1 e) (h.mp.ne_row h.hs.2)), h.hb⟩, h2, rs_keep rfl hR h3 (fun k hk e => by subst e; exact Kd.R_ne hR h.hs.1 (by decide) hk.symm) hne, fun k hk e => ?_⟩
  rcases h4 with h4 | ⟨j, h4, h5⟩
  · exact hne k hk (e.trans h4)
  · rw [h4] at e
    have e := Option.some.inj e
    have := Kd.R_lt hR k hk
    omega
end
theorem addL_cons (s : ByteArray) (ns xs sn : List ByteArray) : addL (s :: ns) xs sn = if s ∈ sn then addL ns xs sn else addL ns (Hp.push ByteArray.empty W.less xs s) (sn ++ [s]) := rfl
def AddEnd (w : World) (g : Nat) (xs sn : List ByteArray) (e : Ending) (w' : World) : Prop := ∃ (n : Int) (v : Value) (b : Nat), e = .returned (.int .i64 n) ∧ WLb w' g v b xs sn ∧ Below g w w'
theorem queue_calls (g : Nat) (w : World) : Calls Try.prog 67 #[.pointer (some ⟨g, 0, none⟩)] w fun e w' => e = .returned (.iface 117 (.pointer (some ⟨g, 0, none⟩))) ∧ w = w' := by
  go_enter Try.func67, Try.ntmps67
  go_wp2
  go_ret
  exact ⟨rfl, rfl⟩
theorem wlen_calls (g : Nat) (A : Option Addr) (n c : Nat) (w : World) (h : w.cell? ⟨g, 0, none⟩ = some (.slice A n c)) (hn : (n : Int) ≤ 9223372036854775807) : Calls Try.prog 68 #[.pointer (some ⟨g, 0, none⟩)] w fun e w' => e = .returned (.int .i64 n) ∧ w = w' := by
  go_enter Try.func68, Try.ntmps68
  go_wp2
  go_ret
  exact ⟨rfl, rfl⟩
set_option maxRecDepth 10000 in
set_option maxHeartbeats 8000000 in
theorem add_calls (g : Nat) (v : Value) (r : Option Nat) (xs sn : List ByteArray) (w : World) (hw : WL w g v r xs sn) (u : Value) (ns : List ByteArray) (nb : Nat) (hR : Kd.string.R 9 w nb (fun _ => True) u ns) (hne : ∀ k, u.ownBlock = some k → some k ≠ v.ownBlock)
    (hns : ∀ s, s ∈ ns → s.size ≤ 1048576) (hnl : ns.length ≤ 1048576) (hxl : xs.length ≤ 1048576) (hsl : sn.length ≤ 1048576) :
    Calls Try.prog 50 #[.pointer (some ⟨g, 0, none⟩), u] w fun e w' => AddEnd w g (addL ns xs sn).1 (addL ns xs sn).2 e w' := by
  have hu89 := Try.underlying89
  have hmm := @run_makeMap Try.prog
  have hqm : ∀ (w : World) (r : Option Nat), (binOp .eql 81 (.map r) (.map none)).run Try.prog w = .ok (.bool r.isNone) w := fun w r => run_eql_map_nil w _ _ _ r Try.underlying81
  obtain ⟨Au, cu, rfl⟩ := Kd.R_slice hR
  have hm1 := blk_cell hw.hs.1 1
  simp only [List.getElem?_toArray, List.getElem?_cons_succ, List.getElem?_cons_zero] at hm1
  have hgl := hw.lt
  have HW := Lib.hid hw
  have HR := Lib.hid hR
  have HNE := Lib.hid hne
  have HNS := Lib.hid hns
  clear hw hR hne hns
  go_enter Try.func50, Try.ntmps50
  go_upto_if 14 with (fail)
  go_cut [] (fun wx => ∃ (b : Nat), Aside0 (WLb wx g v b xs sn ∧ Below g w wx ∧ Kd.string.R 9 wx nb (fun _ => True) (.slice Au ns.length cu) ns))
  case first =>
    have hz1 := blk_frozen HW.out.hs.1 1
    cases r with
    | some b =>
      go_wp2
      go_meet
      refine ⟨b, ⟨⟨HW.out.hs, ?_, ?_⟩, Below.refl _ _, HR.out⟩⟩
      · rcases HW.out.mp with h1 | ⟨b', h1, h2, h3⟩
        · cases h1.1
        · cases h1; exact h2
      · rcases HW.out.mp with h1 | ⟨b', h1, h2, h3⟩
        · cases h1.1
        · cases h1; exact h3
    | none =>
      have HM := Lib.hid HW.out.made
      have hz2 := blk_frozen (blk_alloc HW.out.hs.1 (.map #[] 0)) 1
      have hm2 := blk_cell (blk_alloc HW.out.hs.1 (.map #[] 0)) 1
      simp only [List.getElem?_toArray, List.getElem?_cons_succ, List.getElem?_cons_zero] at hm2
      have hR2 := Kd.R_below (Kd.R_set HR.out HW.out.hs.1 (by decide) 1 (.map (some w.heap.size))) (below_alloc (Below.refl _ _) (.map #[] 0))
      have HR2 := Lib.hid hR2
      clear hR2
      go_wp2
      go_meet
      exact ⟨_, ⟨HM.out.1, HM.out.2, HR2.out⟩⟩
  case rest =>
    obtain ⟨b, HX⟩ := hcut
    clear hm1 hmm hqm HW HR
    go_wp2
    go_loopg [5, 21] ns.length (fun kq v5 v21 w' => ∃ (j n : Nat) (v : Value) (ys tn : List ByteArray), v5 = .int .i64 n ∧ v21 = .int .i64 j ∧ Aside0 (kq + j = ns.length ∧ n ≤ j ∧ addL (ns.drop j) ys tn = addL ns xs sn ∧ ys.length ≤ xs.length + j ∧ tn.length ≤ sn.length + j) ∧ Aside0 (WLb w' g v b ys tn ∧ Below g w w' ∧ Kd.string.R 9 w' nb (fun _ => True) (.slice Au ns.length cu) ns ∧ ∀ k, (Value.slice Au ns.length cu).ownBlock = some k → some k ≠ v.ownBlock))
    case atStart => exact ⟨0, 0, v, xs, sn, rfl, rfl, ⟨by omega, by omega, by rw [List.drop_zero], by omega, by omega⟩, ⟨HX.out.1, HX.out.2.1, HX.out.2.2, HNE.out⟩⟩
    case round =>
      clear HX HNE
      obtain ⟨j, n, v, ys, tn, rfl, rfl, HA, HS⟩ := hrel
      obtain ⟨hA1, hA2, hA3, hA4, hA5⟩ := HA.out
      cases gk with
      | zero =>
        have hj : ns.length ≤ j := by omega
        have hkf : decide (j < ns.length) = false := decide_eq_false (by omega)
        rw [List.drop_eq_nil_of_le hj] at hA3
        have HE := Lib.hid hA3
        clear hA1 hA3 HA hj
        go_wp2
        go_ret
        refine ⟨n, v, b, rfl, ?_, HS.out.2.1⟩
        rw [← HE.out]
        exact HS.out.1
      | succ jq =>
        have hj : j < ns.length := by omega
        obtain ⟨c, c', he, _, hbl, _⟩ := Kd.R_form HS.out.2.2.1 (by omega)
        injection he with he1 he2 he3
        subst he1
        obtain ⟨hyc, _⟩ := W.row_cell HS.out.2.2.1 j hj
        have hse : Hp.at_ ByteArray.empty ns j = ns[j] := by
          unfold Hp.at_
          rw [List.getD_eq_getElem?_getD, List.getElem?_eq_getElem hj]; rfl
        have hsm : (Hp.at_ ByteArray.empty ns j).size ≤ 1048576 := by rw [hse]; exact HNS.out _ (List.getElem_mem hj)
        rw [List.drop_eq_getElem_cons hj, ← hse, addL_cons] at hA3
        have HT := Lib.hid hA3
        clear he2 he3 hse hA3
        generalize Hp.at_ ByteArray.empty ns j = s at *
        have hlk := inG_look HS.out.1.mp (s := s) (by omega)
        have hm2 := blk_cell HS.out.1.hs.1 1
        simp only [List.getElem?_toArray, List.getElem?_cons_succ, List.getElem?_cons_zero] at hm2
        have hgl2 := blk_lt HS.out.1.hs.1
        by_cases hin : s ∈ tn
        · have ht := HT.out
          rw [if_pos hin] at ht
          have HT2 := Lib.hid ht
          rw [decide_eq_true hin] at hlk
          have HIN := Lib.hid hin
          clear ht hin HT
          go_wp2
          go_roundg jq
          case measure => omega
          case rel => exact ⟨j + 1, n, v, ys, tn, rfl, by go_num, ⟨by omega, by omega, HT2.out, by omega, by omega⟩, ⟨HS.out⟩⟩
        · have ht := HT.out
          rw [if_neg hin] at ht
          have HT2 := Lib.hid ht
          rw [decide_eq_false hin] at hlk
          obtain ⟨w3, hrun, hb3, hbel3, hR3⟩ := HS.out.1.note hsm (by omega) HS.out.2.2.1
          have H3 := Lib.hid (And.intro hb3 (And.intro (HS.out.2.1.trans hbel3) hR3))
          have HNE3 := Lib.hid HS.out.2.2.2
          clear ht hin HT hb3 hbel3 hR3 HS
          have hgl3 := blk_lt H3.out.1.hs.1
          go_wp2_with (go_at_call 67; refine (queue_calls g w3).mono ?_; rintro e w4 ⟨rfl, rfl⟩)
          refine (W.push_calls w3 w3 g g [.map (some b)] v ys s H3.out.1.hs (Below.refl _ _) (Nat.le_of_lt hgl3) (Nat.le_refl _) (by omega)).mono ?_
          rintro e w5 ⟨rfl, hp⟩
          obtain ⟨v1, hb5, hbel5, hR5, hne5⟩ := H3.out.1.pushed hp H3.out.2.2 HNE3.out
          have H5 := Lib.hid (And.intro hb5 (And.intro (H3.out.2.1.trans hbel5) (And.intro hR5 hne5)))
          have HPL := Lib.hid (Hp.push_length (d := ByteArray.empty) (less := W.less) ys s)
          clear hp hb5 hbel5 hR5 hne5 H3 HNE3
          go_wp2
          go_roundg jq
          case measure => omega
          case rel => exact ⟨j + 1, n + 1, v1, _, tn ++ [s], by go_num, by go_num, ⟨by omega, by omega, HT2.out, by rw [HPL.out]; omega, by rw [List.length_append, List.length_singleton]; omega⟩, ⟨H5.out⟩⟩
def TakeEnd0 (w : World) (e : Ending) (w' : World) : Prop := e = .returned (.tuple #[.string ⟨#[]⟩, .bool false]) ∧ w = w'
def TakeEnd1 (w : World) (g : Nat) (r : Option Nat) (xs sn : List ByteArray) (e : Ending) (w' : World) : Prop := ∃ v : Value, e = .returned (.tuple #[.string (Hp.at_ ByteArray.empty xs 0), .bool true]) ∧ WL w' g v r (Hp.pop ByteArray.empty W.less xs) sn ∧ Below g w w'
theorem take0_calls (g : Nat) (v : Value) (r : Option Nat) (xs sn : List ByteArray) (w : World) (hw : WL w g v r xs sn) (h0 : xs.length = 0) :
    Calls Try.prog 53 #[.pointer (some ⟨g, 0, none⟩)] w fun e w' => TakeEnd0 w e w' := by
  have hc := W.HS_cell hw.hs
  obtain ⟨A, c, rfl⟩ := Kd.R_slice hw.hs.2
  rw [h0] at hc
  clear hw h0
  go_enter Try.func53, Try.ntmps53
  go_wp2_with (go_at_call 68; refine (wlen_calls g A 0 c w hc (by omega)).mono ?_; rintro e w4 ⟨rfl, rfl⟩)
  go_ret2
  exact ⟨rfl, rfl⟩
theorem WL.popped {w w1 : World} {g : Nat} {A : Option Addr} {c : Nat} {r : Option Nat} {xs sn : List ByteArray} (h : WL w g (.slice A xs.length c) r xs sn) (hp : W.PopPost w w g g [.map r] A c xs w1) : ∃ v1, WL w1 g v1 r (Hp.pop ByteArray.empty W.less xs) sn ∧ Below g w w1 := by
  obtain ⟨h1, h2, h3⟩ := hp
  refine ⟨_, ⟨h1, ?_⟩, h2⟩
  rcases h.mp with h4 | ⟨b, h4, h5, h6⟩
  · exact .inl h4
  · exact .inr ⟨b, h4, h5.same (h3.2 b h5.lt (fun e => h5.ne_cells h.hs.1 e) (h5.ne_row h.hs.2)), h6⟩
set_option maxRecDepth 10000 in
set_option maxHeartbeats 1000000 in
theorem take1_calls (g : Nat) (v : Value) (r : Option Nat) (xs sn : List ByteArray) (w : World) (hw : WL w g v r xs sn) (hp : 0 < xs.length) (hl : xs.length ≤ 1099511627776) :
    Calls Try.prog 53 #[.pointer (some ⟨g, 0, none⟩)] w fun e w' => TakeEnd1 w g r xs sn e w' := by
  have hta : ∀ (s : ByteArray) (W : World), (Instr.typeAssert (.iface 9 (.string s)) 20 9 true).run Try.prog W = .ok (.tuple #[.string s, .bool true]) W := fun v W => by rfl
  have hc := W.HS_cell hw.hs
  obtain ⟨A, c, rfl⟩ := Kd.R_slice hw.hs.2
  have hgl := hw.lt
  have HW := Lib.hid hw
  have hz : ((xs.length : Int) == 0) = false := beq_eq_false_iff_ne.mpr (by omega)
  clear hw
  go_enter Try.func53, Try.ntmps53
  go_wp2_with (first | (go_at_call 68; refine (wlen_calls g A xs.length c w hc (by omega)).mono ?_; rintro e w4 ⟨rfl, rfl⟩) | (go_at_call 67; refine (queue_calls g w).mono ?_; rintro e w4 ⟨rfl, rfl⟩))
  refine (W.pop_calls w w g g [.map r] A c xs HW.out.hs (Below.refl _ _) (Nat.le_of_lt hgl) (Nat.le_refl _) hp (by omega)).mono ?_
  rintro e w5 ⟨rfl, hpp⟩
  obtain ⟨v1, h1, h2⟩ := HW.out.popped hpp
  have H5 := Lib.hid (And.intro h1 h2)
  clear hpp h1 h2 HW hc
  go_wp2
  go_ret2
  exact ⟨v1, rfl, H5.out⟩
end Go.Proofs.Ythpjpkcfepmhkaa.PAll
namespace Go.Proofs.Ythpjpkcfepmhkaa.PAll
open Go.RowKit Go.Proofs.YthpjpkcfepmhkaaW.PrintWords Go.Proofs.YthpjpkcfepmhkaaW.PrintLast Go.Proofs.YthpjpkcfepmhkaaW.PrintMore
set_option linter.unusedVariables false
set_option linter.unusedSimpArgs false
def fewN (xs sn : List ByteArray) : Bool := decide (xs.length ≤ 1048576) && decide (sn.length ≤ 1048576)
theorem fewN_iff {xs sn : List ByteArray} : fewN xs sn = true ↔ xs.length ≤ 1048576 ∧ sn.length ≤ 1048576 := by unfold fewN; simp
/-- The names that the objects refer to. -/
def seedN : List S50 → List ByteArray → List ByteArray → Option (List ByteArray × List ByteArray)
  | [], xs, sn => some (xs, sn)
  | o :: r, xs, sn => if fewN xs sn = true then seedN r (addL (namesOf refB o.f0) xs sn).1 (addL (namesOf refB o.f0) xs sn).2 else none
/-- A name's definers. -/
def visitN (ms : List S50) : List Int → List ByteArray → List ByteArray → List Int → Option (List ByteArray × List ByteArray × List Int)
  | [], xs, sn, nd => some (xs, sn, nd)
  | i :: r, xs, sn, nd => if i ∈ nd then visitN ms r xs sn nd else
      if fewN xs sn = true ∧ nd.length ≤ 1048576 then visitN ms r (addL (namesOf refB (rd_T50 ms i).f0) xs sn).1 (addL (namesOf refB (rd_T50 ms i).f0) xs sn).2 (nd ++ [i]) else none
def runN (pv : List ByteArray) (ps : List (ByteArray × Int)) (ms : List S50) : Nat → List ByteArray → List ByteArray → List Int → Option (List Int)
  | 0, _, _, _ => none
  | k + 1, xs, sn, nd => if xs.length = 0 then some nd else if 1048576 < xs.length ∨ 1048576 < (Hp.at_ ByteArray.empty xs 0).size then none else
      if Hp.at_ ByteArray.empty xs 0 ∈ pv then runN pv ps ms k (Hp.pop ByteArray.empty W.less xs) sn nd else
        (visitN ms (zsOf ps (Hp.at_ ByteArray.empty xs 0)) (Hp.pop ByteArray.empty W.less xs) sn nd).bind fun r => runN pv ps ms k r.1 r.2.1 r.2.2
def pickN (nd : List Int) (k : Nat) : List Int := ((List.range k).map fun i : Nat => (i : Int)).filter fun i => decide (i ∈ nd)
theorem pickN_succ (nd : List Int) (k : Nat) : pickN nd (k + 1) = if (k : Int) ∈ nd then pickN nd k ++ [(k : Int)] else pickN nd k := by
  unfold pickN
  rw [List.range_succ, List.map_append, List.filter_append]
  by_cases e : (k : Int) ∈ nd
  · rw [if_pos e]; simp [e]
  · rw [if_neg e]; simp [e]
theorem pickN_len (nd : List Int) : ∀ k, (pickN nd k).length ≤ k
  | 0 => by simp [pickN]
  | k + 1 => by
    have := pickN_len nd k
    rw [pickN_succ]
    split
    · rw [List.length_append, List.length_singleton]; omega
    · omega
def closure_Needed.f (os ms : List S50) : Option (List Int) :=
  if smallL os = true ∧ smallL ms = true then
    (seedN os [] []).bind fun a => (runN (provOf os) (prsOf ms 0) ms 1048576 a.1 a.2 []).bind fun nd => some (pickN nd ms.length)
  else none
/-- The definers are numbers of members. -/
theorem prs_in : ∀ (l : List S50) (i : Nat) (p : ByteArray × Int), p ∈ prsOf l i → ∃ q, q < l.length ∧ p.2 = ((i + q : Nat) : Int)
  | [], i, p, h => by simp [prsOf] at h
  | o :: r, i, p, h => by
    unfold prsOf at h
    rcases List.mem_append.1 h with h | h
    · obtain ⟨s, _, rfl⟩ := List.mem_map.1 h
      exact ⟨0, by simp, rfl⟩
    · obtain ⟨q, h1, h2⟩ := prs_in r (i + 1) p h
      exact ⟨q + 1, by simp only [List.length_cons]; omega, by rw [h2]; omega⟩
theorem zs_in {l : List S50} {s : ByteArray} {i : Int} (h : i ∈ zsOf (prsOf l 0) s) : ∃ q : Nat, q < l.length ∧ i = (q : Int) := by
  unfold zsOf at h
  obtain ⟨p, hp, rfl⟩ := List.mem_map.1 h
  obtain ⟨q, h1, h2⟩ := prs_in l 0 p (List.mem_filter.1 hp).1
  exact ⟨q, h1, by rw [h2]; omega⟩
structure NW (w1 wr : World) (vm : Value) (bd bp g5 nb gw : Nat) (nd : List Int) (v : Value) (r : Option Nat) (xs sn : List ByteArray) : Prop where
  B : Below w1.heap.size w1 wr
  p : wr.heap[g5]? = some (.cells #[vm, .map (some bd), .map (some bp)] 83 (0, 0))
  nd : MapV lkI wr 3 nb nd.length (inN nd)
  wl : WL wr gw v r xs sn
  h5 : w1.heap.size ≤ g5
  hn : w1.heap.size ≤ nb
  hg5 : g5 < gw
  hnb : nb < gw
section
variable {w1 wr w2 : World} {vm : Value} {bd bp g5 nb gw : Nat} {nd : List Int} {v : Value} {r : Option Nat} {xs sn : List ByteArray}
theorem NW.below (h : NW w1 wr vm bd bp g5 nb gw nd v r xs sn) (hb : Below wr.heap.size wr w2) : NW w1 w2 vm bd bp g5 nb gw nd v r xs sn :=
  ⟨below_then h.B h.B.size hb, blk_below h.p hb, h.nd.below hb h.nd.lt, h.wl.below hb, h.h5, h.hn, h.hg5, h.hnb⟩
/-- The worklist has turned. -/
theorem NW.list (h : NW w1 wr vm bd bp g5 nb gw nd v r xs sn) {v' : Value} {r' : Option Nat} {ys tn : List ByteArray} (hw : WL w2 gw v' r' ys tn) (hb : Below gw wr w2) : NW w1 w2 vm bd bp g5 nb gw nd v' r' ys tn :=
  ⟨h.B.trans (hb.mono (by have := h.h5; have := h.hg5; omega)), (hb.block g5 h.hg5).trans h.p, h.nd.below hb h.hnb, hw, h.h5, h.hn, h.hg5, h.hnb⟩
/-- A number is put among the needed ones. -/
theorem NW.need (h : NW w1 wr vm bd bp g5 nb gw nd v r xs sn) {i : Nat} (hi : i < 1048576) (hn : nd.length ≤ 1048576) :
    ∃ w', (Instr.mapUpdate 85 (.map (some nb)) (.int .i64 (i : Int)) (.bool true)).run Try.prog wr = .ok () w' ∧ NW w1 w' vm bd bp g5 nb gw (nd ++ [(i : Int)]) v r xs sn := by
  obtain ⟨w', h1, h2, h3⟩ := inN_store h.nd (s := (i : Int)) (by omega) (by omega) (by omega)
  refine ⟨w', h1, ⟨h.B.grown h3 h.B.size (fun k hk => by cases hk; exact h.hn), blk_grown h.p h3 (fun e => h.nd.ne_cells h.p (Option.some.inj e).symm), by rw [List.length_append]; exact h2, ?_, h.h5, h.hn, h.hg5, h.hnb⟩⟩
  refine ⟨⟨blk_grown h.wl.hs.1 h3 (fun e => h.nd.ne_cells h.wl.hs.1 (Option.some.inj e).symm), rs_grown rfl h.wl.hs.2 h3 (fun k hk e => h.nd.ne_row h.wl.hs.2 (by rw [hk, ← e]))⟩, ?_⟩
  rcases h.wl.mp with h4 | ⟨b, h4, h5, h6⟩
  · exact .inl h4
  · exact .inr ⟨b, h4, h5.grown h3 (fun e => by have := Option.some.inj e; have := h.hnb; omega), h6⟩
theorem NW.start (w1 : World) (vm : Value) (bd bp : Nat) : NW w1 (((w1.alloc (.cells #[vm, .map (some bd), .map (some bp)] 83)).alloc (.map #[] 0)).alloc (.cells #[.slice none 0 0, .map none] 89)) vm bd bp w1.heap.size (w1.heap.size + 1) (w1.heap.size + 1 + 1) [] (.slice none 0 0) none [] [] := by
  have z1 : (w1.alloc (.cells #[vm, .map (some bd), .map (some bp)] 83)).heap.size = w1.heap.size + 1 := by go_simp
  have b1 := below_alloc (Below.refl w1.heap.size w1) (.cells #[vm, .map (some bd), .map (some bp)] 83)
  have r1 := heap_alloc_new w1 (.cells #[vm, .map (some bd), .map (some bp)] 83)
  generalize w1.alloc (.cells #[vm, .map (some bd), .map (some bp)] 83) = w2 at *
  have z2 : (w2.alloc (.map #[] 0)).heap.size = w1.heap.size + 1 + 1 := by rw [← z1]; go_simp
  have b2 := below_alloc (Below.refl w2.heap.size w2) (.map #[] 0)
  have m2 := MapV.made lkI w2 3
  rw [z1] at m2
  generalize w2.alloc (.map #[] 0) = w3 at *
  have b3 := below_alloc (Below.refl w3.heap.size w3) (.cells #[.slice none 0 0, .map none] 89)
  have r3 := heap_alloc_new w3 (.cells #[.slice none 0 0, .map none] 89)
  rw [z2] at r3
  generalize w3.alloc (.cells #[.slice none 0 0, .map none] 89) = w4 at *
  refine ⟨below_then (below_then b1 (by omega) b2) (by omega) b3, blk_below (blk_below r1 b2) b3, by rw [inN_nil]; exact m2.below b3 m2.lt, ⟨⟨r3, Kd.R_nil _ _ _ _ _⟩, .inl ⟨rfl, rfl⟩⟩, by omega, by omega, by omega, by omega⟩
end
end Go.Proofs.Ythpjpkcfepmhkaa.PAll
namespace Go.Proofs.Ythpjpkcfepmhkaa.Bytes
theorem less_cons (a b : UInt8) (x y : List UInt8) : Op.bytesLess (a :: x) (b :: y) = (decide (a < b) || (a == b && Op.bytesLess x y)) := rfl
theorem less_nil (x : List UInt8) : Op.bytesLess x [] = false := by cases x <;> rfl
theorem less_iff (a b : UInt8) (x y : List UInt8) : Op.bytesLess (a :: x) (b :: y) = true ↔ a.toNat < b.toNat ∨ a.toNat = b.toNat ∧ Op.bytesLess x y = true := by
  rw [less_cons]
  simp only [Bool.or_eq_true, decide_eq_true_eq, Bool.and_eq_true, beq_iff_eq, UInt8.lt_iff_toNat_lt, ← UInt8.toNat_inj]
theorem less_false (a b : UInt8) (x y : List UInt8) : Op.bytesLess (a :: x) (b :: y) = false ↔ b.toNat < a.toNat ∨ a.toNat = b.toNat ∧ Op.bytesLess x y = false := by
  have h := less_iff a b x y
  cases h1 : Op.bytesLess (a :: x) (b :: y)
  · have h' : ¬ (a.toNat < b.toNat ∨ a.toNat = b.toNat ∧ Op.bytesLess x y = true) := fun z => by have := h.2 z; rw [h1] at this; cases this
    simp only [true_iff]
    cases h2 : Op.bytesLess x y
    · by_cases e : a.toNat = b.toNat
      · exact .inr ⟨e, rfl⟩
      · exact .inl (by omega)
    · rw [h2] at h'
      left
      have : ¬ (a.toNat = b.toNat) := fun e => h' (.inr ⟨e, rfl⟩)
      omega
  · have h' := h.1 h1
    simp only [Bool.true_eq_false, false_iff]
    rintro (h3 | ⟨h3, h4⟩)
    · omega
    · rcases h' with h' | ⟨_, h'⟩
      · omega
      · rw [h4] at h'; cases h'
theorem asym : ∀ x y : List UInt8, Op.bytesLess x y = true → Op.bytesLess y x = false
  | _, [], h => by rw [less_nil] at h; cases h
  | [], b :: y, _ => less_nil _
  | a :: x, b :: y, h => by
    rw [less_iff] at h
    rw [less_false]
    rcases h with h | ⟨h, h2⟩
    · exact .inl h
    · exact .inr ⟨h.symm, asym x y h2⟩
/-- Not less is a total order's other side: it chains. -/
theorem neg_trans : ∀ x y z : List UInt8, Op.bytesLess y x = false → Op.bytesLess z y = false → Op.bytesLess z x = false
  | [], y, z, _, _ => less_nil _
  | a :: x, [], z, h, _ => by cases h
  | a :: x, b :: y, [], _, h => by cases h
  | a :: x, b :: y, c :: z, h1, h2 => by
    rw [less_false] at h1 h2 ⊢
    rcases h1 with h1 | ⟨h1, h1'⟩ <;> rcases h2 with h2 | ⟨h2, h2'⟩
    · exact .inl (by omega)
    · exact .inl (by omega)
    · exact .inl (by omega)
    · exact .inr ⟨by omega, neg_trans x y z h1' h2'⟩
end Go.Proofs.Ythpjpkcfepmhkaa.Bytes
namespace Go.Proofs.Ythpjpkcfepmhkaa.PAll
open Go.RowKit Go.Proofs.YthpjpkcfepmhkaaW.PrintWords Go.Proofs.YthpjpkcfepmhkaaW.PrintLast Go.Proofs.YthpjpkcfepmhkaaW.PrintMore
set_option linter.unusedVariables false
set_option linter.unusedSimpArgs false
def LeadsP (os : List S50) (o m : S50) : Prop := ∃ s, s ∈ namesOf defB m.f0 ∧ s ∈ namesOf refB o.f0 ∧ s ∉ provOf os
def leadsB (os : List S50) (o m : S50) : Bool := m.f0.any fun s => defB s.f1 && (hasB o.f0 s.f0 4 4 && !decide (s.f0 ∈ provOf os))
theorem leadsB_iff {os : List S50} {o m : S50} : leadsB os o m = true ↔ LeadsP os o m := by
  unfold leadsB LeadsP
  simp only [List.any_eq_true, Bool.and_eq_true, hasB_ref, Bool.not_eq_true', decide_eq_false_iff_not]
  constructor
  · rintro ⟨s, h1, h2, h3, h4⟩
    exact ⟨s.f0, List.mem_map.2 ⟨s, List.mem_filter.2 ⟨h1, h2⟩, rfl⟩, h3, h4⟩
  · rintro ⟨n, h1, h3, h4⟩
    obtain ⟨s, hs, rfl⟩ := List.mem_map.1 h1
    obtain ⟨h5, h6⟩ := List.mem_filter.1 hs
    exact ⟨s, h5, h6, h3, h4⟩
theorem leads_loop (os : List S50) (hs : Slim os) (o m : S50) (ho : o.f0.length ≤ 1000000) (hm : m.f0.length ≤ 1000000) : ∀ (d i : Nat), i + d = m.f0.length →
    Ev (fun k => arlinkref22_Leads.l0 k os (i : Int) o.f0 o.f1 m.f0 m.f1) ((m.f0.drop i).any fun s => defB s.f1 && (hasB o.f0 s.f0 4 4 && !decide (s.f0 ∈ provOf os)))
  | 0, i, h => by
    rw [List.drop_of_length_le (by omega)]
    exact Ev.step (f := fun _ => some false) (fun k => by simp only [arlinkref22_Leads.l0]; rw [if_neg (by omega)]) (Ev.now _)
  | d + 1, i, h => by
    have hi : i < m.f0.length := by omega
    have ih := leads_loop os hs o m ho hm d (i + 1) (by omega)
    rw [any_drop _ _ _ hi]
    obtain ⟨z, hz⟩ : ∃ z, m.f0[i] = z := ⟨_, rfl⟩
    have hr : rd_T55 m.f0 (i : Int) = z := by rw [rd55 hi, hz]
    rw [hz]
    have hh := has22_ev o.f0 o.f1 z.f0 4 4 (by omega)
    have hp := provided_ev os z.f0 hs
    have body : Ev (fun k => (arlinkref22_has.f k o.f0 o.f1 z.f0 4 4).bind fun t => if t = true then (arlinkref22_Provided.f k os z.f0).bind fun u => if u = true then arlinkref22_Leads.l0 k os ((i + 1 : Nat) : Int) o.f0 o.f1 m.f0 m.f1 else some true else arlinkref22_Leads.l0 k os ((i + 1 : Nat) : Int) o.f0 o.f1 m.f0 m.f1)
        ((hasB o.f0 z.f0 4 4 && !decide (z.f0 ∈ provOf os)) || (m.f0.drop (i + 1)).any fun s => defB s.f1 && (hasB o.f0 s.f0 4 4 && !decide (s.f0 ∈ provOf os))) := by
      refine Ev.bind hh ?_
      cases hasB o.f0 z.f0 4 4 with
      | false => exact Ev.congr (fun k => by rw [if_neg (by decide)]) ih
      | true =>
        refine Ev.congr (f := fun k => (arlinkref22_Provided.f k os z.f0).bind fun u => if u = true then arlinkref22_Leads.l0 k os ((i + 1 : Nat) : Int) o.f0 o.f1 m.f0 m.f1 else some true) (fun k => by rw [if_pos rfl]) (Ev.bind hp ?_)
        cases decide (z.f0 ∈ provOf os) with
        | true => exact Ev.congr (fun k => by rw [if_pos rfl]) ih
        | false => exact Ev.now _
    by_cases c1 : z.f1 = 1
    · have hd : defB z.f1 = true := by rw [c1]; rfl
      rw [hd, Bool.true_and]
      exact Ev.step (fun k => by rw [arlinkref22_Leads.l0, if_pos (by omega), if_pos (by omega), hr, if_pos c1, wrN i (by omega)]) body
    · by_cases c2 : z.f1 = 2
      · have hd : defB z.f1 = true := by rw [c2]; rfl
        rw [hd, Bool.true_and]
        exact Ev.step (fun k => by rw [arlinkref22_Leads.l0, if_pos (by omega), if_pos (by omega), hr, if_neg c1, if_pos c2, wrN i (by omega)]) body
      · have hd : defB z.f1 = false := by unfold defB; rw [beq_eq_false_iff_ne.mpr c1, beq_eq_false_iff_ne.mpr c2]; rfl
        rw [hd, Bool.false_and, Bool.false_or]
        exact Ev.step (fun k => by rw [arlinkref22_Leads.l0, if_pos (by omega), if_pos (by omega), hr, if_neg c1, if_neg c2, wrN i (by omega)]) ih
theorem leads_ev (os : List S50) (hs : Slim os) (o m : S50) (ho : o.f0.length ≤ 1000000) (hm : m.f0.length ≤ 1000000) : Ev (fun k => arlinkref22_Leads.f k os o.f0 o.f1 m.f0 m.f1) (leadsB os o m) := by
  have := leads_loop os hs o m ho hm m.f0.length 0 (by omega)
  rwa [List.drop_zero] at this
inductive Rch (os ms : List S50) : Nat → Prop where
  | base (q : Nat) (o : S50) : q < ms.length → o ∈ os → LeadsP os o (rd_T50 ms q) → Rch os ms q
  | step (k q : Nat) : Rch os ms k → q < ms.length → LeadsP os (rd_T50 ms k) (rd_T50 ms q) → Rch os ms q
theorem Rch.lt {os ms : List S50} {q : Nat} (h : Rch os ms q) : q < ms.length := by
  cases h with
  | base _ _ h _ _ => exact h
  | step _ _ _ h _ => exact h
theorem prs_mem : ∀ (l : List S50) (i : Nat) (s : ByteArray) (x : Int), (s, x) ∈ prsOf l i ↔ ∃ (q : Nat) (hq : q < l.length), x = ((i + q : Nat) : Int) ∧ s ∈ namesOf defB l[q].f0
  | [], i, s, x => by simp [prsOf]
  | o :: r, i, s, x => by
    unfold prsOf
    rw [List.mem_append, prs_mem r (i + 1), List.mem_map]
    constructor
    · rintro (⟨t, h1, h2⟩ | ⟨q, hq, h1, h2⟩)
      · cases h2
        exact ⟨0, by simp, rfl, h1⟩
      · exact ⟨q + 1, by simp only [List.length_cons]; omega, by rw [h1]; omega, h2⟩
    · rintro ⟨q, hq, h1, h2⟩
      cases q with
      | zero => exact .inl ⟨s, h2, by rw [h1]; rfl⟩
      | succ q => exact .inr ⟨q, by simp only [List.length_cons] at hq; omega, by rw [h1]; omega, h2⟩
theorem zs_mem {ms : List S50} {s : ByteArray} {x : Int} : x ∈ zsOf (prsOf ms 0) s ↔ ∃ q : Nat, q < ms.length ∧ x = (q : Int) ∧ s ∈ namesOf defB (rd_T50 ms q).f0 := by
  unfold zsOf
  rw [List.mem_map]
  constructor
  · rintro ⟨⟨t, y⟩, h1, rfl⟩
    obtain ⟨h2, h3⟩ := List.mem_filter.1 h1
    have h3 : t = s := of_decide_eq_true h3
    subst h3
    obtain ⟨q, hq, h4, h5⟩ := (prs_mem ms 0 t y).1 h2
    exact ⟨q, hq, by rw [h4]; omega, by rw [rd50 hq]; exact h5⟩
  · rintro ⟨q, hq, rfl, h⟩
    rw [rd50 hq] at h
    exact ⟨(s, (q : Int)), List.mem_filter.2 ⟨(prs_mem ms 0 s (q : Int)).2 ⟨q, hq, by omega, h⟩, by simp⟩, rfl⟩
theorem less_ordW : Hp.Ord W.less := ⟨fun a b h => Bytes.asym _ _ h, fun a b c h1 h2 => Bytes.neg_trans _ _ _ h1 h2⟩
structure LI (xs sn : List ByteArray) : Prop where
  heap : Hp.Heap ByteArray.empty W.less xs xs.length 0
  xn : xs.Nodup
  xin : ∀ s, s ∈ xs → s ∈ sn
  sn : sn.Nodup
theorem addL_spec : ∀ (ns xs sn : List ByteArray), LI xs sn → LI (addL ns xs sn).1 (addL ns xs sn).2 ∧ (∀ s, s ∈ (addL ns xs sn).2 ↔ s ∈ sn ∨ s ∈ ns) ∧ (∀ s, s ∈ (addL ns xs sn).1 ↔ s ∈ xs ∨ (s ∈ ns ∧ s ∉ sn)) ∧ (addL ns xs sn).1.length + sn.length = (addL ns xs sn).2.length + xs.length
  | [], xs, sn, h => by
    exact ⟨h, fun s => by simp [addL], fun s => by simp [addL], Nat.add_comm _ _⟩
  | n :: ns, xs, sn, h => by
    rw [addL_cons]
    by_cases c : n ∈ sn
    · rw [if_pos c]
      obtain ⟨h1, h2, h3, h4⟩ := addL_spec ns xs sn h
      refine ⟨h1, fun s => ?_, fun s => ?_, h4⟩
      · rw [h2, List.mem_cons]
        constructor
        · rintro (h | h)
          · exact .inl h
          · exact .inr (.inr h)
        · rintro (h | rfl | h)
          · exact .inl h
          · exact .inl c
          · exact .inr h
      · rw [h3, List.mem_cons]
        constructor
        · rintro (h | ⟨h, h'⟩)
          · exact .inl h
          · exact .inr ⟨.inr h, h'⟩
        · rintro (h | ⟨rfl | h, h'⟩)
          · exact .inl h
          · exact absurd c h'
          · exact .inr ⟨h, h'⟩
    · rw [if_neg c]
      obtain ⟨p1, p2⟩ := Hp.push_spec (d := ByteArray.empty) less_ordW xs n h.heap
      have hpl : (Hp.push ByteArray.empty W.less xs n).length = xs.length + 1 := Hp.push_length _ _
      have hnx : n ∉ xs := fun hm => c (h.xin n hm)
      obtain ⟨h1, h2, h3, h4⟩ := addL_spec ns (Hp.push ByteArray.empty W.less xs n) (sn ++ [n]) ⟨by rw [hpl]; exact p1, p2.symm.nodup_iff.1 (List.nodup_cons.2 ⟨hnx, h.xn⟩), fun s hs => by
        rcases List.mem_cons.1 (p2.mem_iff.1 hs) with rfl | hs
        · simp
        · exact List.mem_append_left _ (h.xin s hs), by
        rw [List.nodup_append]
        exact ⟨h.sn, by simp, fun a ha b hb => by rw [List.mem_singleton] at hb; rintro rfl; exact c (hb ▸ ha)⟩⟩
      refine ⟨h1, fun s => ?_, fun s => ?_, ?_⟩
      · rw [h2, List.mem_append, List.mem_singleton, List.mem_cons]
        constructor
        · rintro ((h | h) | h)
          · exact .inl h
          · exact .inr (.inl h)
          · exact .inr (.inr h)
        · rintro (h | h | h)
          · exact .inl (.inl h)
          · exact .inl (.inr h)
          · exact .inr h
      · rw [h3, p2.mem_iff, List.mem_cons, List.mem_cons, List.mem_append, List.mem_singleton]
        constructor
        · rintro ((rfl | h) | ⟨h, h'⟩)
          · exact .inr ⟨.inl rfl, c⟩
          · exact .inl h
          · exact .inr ⟨.inr h, fun h2 => h' (.inl h2)⟩
        · rintro (h | ⟨h, h'⟩)
          · exact .inl (.inr h)
          · by_cases e : s = n
            · exact .inl (.inl e)
            · exact .inr ⟨h.resolve_left e, fun h2 => h2.elim h' e⟩
      · rw [hpl, List.length_append, List.length_singleton] at h4
        omega
def allRefs (os ms : List S50) : List ByteArray := (os ++ ms).flatMap fun o => namesOf refB o.f0
theorem sub_len : ∀ (a b : List ByteArray), a.Nodup → (∀ s, s ∈ a → s ∈ b) → a.length ≤ b.length
  | [], b, _, _ => by simp
  | x :: a, b, hn, h => by
    rw [List.nodup_cons] at hn
    have hx := h x (List.mem_cons_self ..)
    have h1 := sub_len a (b.filter fun y => !decide (y = x)) hn.2 (fun s hs => List.mem_filter.2 ⟨h s (List.mem_cons_of_mem _ hs), by
      have : s ≠ x := fun e => hn.1 (by rw [← e]; exact hs)
      simp [this]⟩)
    have h2 : (b.filter fun y => !decide (y = x)).length < b.length := List.length_filter_lt_length_iff_exists.2 ⟨x, hx, by simp⟩
    rw [List.length_cons]
    omega
theorem pigeonI : ∀ (N : Nat) (l : List Int), l.Nodup → (∀ x, x ∈ l → 0 ≤ x ∧ x < N) → l.length ≤ N
  | 0, [], _, _ => by simp
  | 0, x :: l, _, h => by have := h x (List.mem_cons_self ..); omega
  | N + 1, l, hn, h => by
    have h1 := pigeonI N (l.erase (N : Int)) (hn.erase _) (fun x hx => by
      have h2 := h x (List.mem_of_mem_erase hx)
      have h3 : x ≠ (N : Int) := fun e => by
        rw [e, hn.mem_erase_iff] at hx
        exact hx.1 rfl
      omega)
    by_cases hm : (N : Int) ∈ l
    · rw [List.length_erase_of_mem hm] at h1; omega
    · rw [List.erase_of_not_mem hm] at h1; omega
end Go.Proofs.Ythpjpkcfepmhkaa.PAll
namespace Go.Proofs.Ythpjpkcfepmhkaa.PAll
open Go.RowKit Go.Proofs.YthpjpkcfepmhkaaW.PrintWords Go.Proofs.YthpjpkcfepmhkaaW.PrintLast Go.Proofs.YthpjpkcfepmhkaaW.PrintMore
set_option linter.unusedVariables false
set_option linter.unusedSimpArgs false
/-- What holds of Needed's state: the names that were added come from what refers; all that refers has been added. -/
structure NI (os ms : List S50) (xs sn : List ByteArray) (nd : List Int) : Prop where
  li : LI xs sn
  src : ∀ s, s ∈ sn → (∃ o, o ∈ os ∧ s ∈ namesOf refB o.f0) ∨ ∃ q : Nat, q < ms.length ∧ (q : Int) ∈ nd ∧ s ∈ namesOf refB (rd_T50 ms q).f0
  nn : nd.Nodup
  ndr : ∀ i, i ∈ nd → ∃ q : Nat, q < ms.length ∧ i = (q : Int) ∧ Rch os ms q ∧ ∀ s, s ∈ namesOf refB (rd_T50 ms q).f0 → s ∈ sn
  osr : ∀ o, o ∈ os → ∀ s, s ∈ namesOf refB o.f0 → s ∈ sn
/-- .. and what was taken has been seen to. -/
def Seen (os ms : List S50) (xs sn : List ByteArray) (nd : List Int) (cur : ByteArray → Prop) : Prop := ∀ s, s ∈ sn → s ∉ xs → ¬ cur s → s ∈ provOf os ∨ ∀ i, i ∈ zsOf (prsOf ms 0) s → i ∈ nd
theorem rd50_mem {ms : List S50} {q : Nat} (h : q < ms.length) : rd_T50 ms (q : Int) ∈ ms := by rw [rd50 h]; exact List.getElem_mem h
section
variable {os ms : List S50} {xs sn : List ByteArray} {nd : List Int}
theorem NI.sub (h : NI os ms xs sn nd) : ∀ s, s ∈ sn → s ∈ allRefs os ms := by
  intro s hs
  unfold allRefs
  rw [List.mem_flatMap]
  rcases h.src s hs with ⟨o, ho, h1⟩ | ⟨q, hq, _, h1⟩
  · exact ⟨o, List.mem_append_left _ ho, h1⟩
  · exact ⟨_, List.mem_append_right _ (rd50_mem hq), h1⟩
theorem NI.lens (h : NI os ms xs sn nd) : xs.length ≤ sn.length ∧ sn.length ≤ (allRefs os ms).length ∧ nd.length ≤ ms.length :=
  ⟨sub_len xs sn h.li.xn h.li.xin, sub_len sn _ h.li.sn h.sub, pigeonI ms.length nd h.nn (fun i hi => by obtain ⟨q, hq, rfl, _⟩ := h.ndr i hi; omega)⟩
/-- A name's definers are gone through. -/
theorem visitN_spec (hT : (allRefs os ms).length ≤ 1000000) (hN : ms.length ≤ 1000000) {c : ByteArray} (hcp : c ∉ provOf os) : ∀ (js : List Int) (xs sn : List ByteArray) (nd : List Int), c ∈ sn → (∀ i, i ∈ js → i ∈ zsOf (prsOf ms 0) c) → NI os ms xs sn nd → Seen os ms xs sn nd (· = c) →
    ∃ xs' sn' nd', visitN ms js xs sn nd = some (xs', sn', nd') ∧ NI os ms xs' sn' nd' ∧ Seen os ms xs' sn' nd' (· = c) ∧ (∀ i, i ∈ js → i ∈ nd') ∧ (∀ i, i ∈ nd → i ∈ nd') ∧ (∀ s, s ∈ sn → s ∈ sn') ∧ xs'.length + sn.length = sn'.length + xs.length ∧ (∀ s, s ∈ xs' → s ∈ xs ∨ s ∉ sn)
  | [], xs, sn, nd, hc, hj, h, hs => ⟨xs, sn, nd, rfl, h, hs, fun i hi => by simp at hi, fun i hi => hi, fun s hs => hs, by omega, fun s hs => .inl hs⟩
  | j :: js, xs, sn, nd, hc, hj, h, hs => by
    simp only [visitN]
    by_cases c1 : j ∈ nd
    · rw [if_pos c1]
      obtain ⟨xs', sn', nd', h1, h2, h3, h4, h5, h6, h7, h8⟩ := visitN_spec hT hN hcp js xs sn nd hc (fun i hi => hj i (List.mem_cons_of_mem _ hi)) h hs
      refine ⟨xs', sn', nd', h1, h2, h3, fun i hi => ?_, h5, h6, h7, h8⟩
      rcases List.mem_cons.1 hi with rfl | hi
      · exact h5 _ c1
      · exact h4 i hi
    · rw [if_neg c1]
      obtain ⟨l1, l2, l3⟩ := h.lens
      rw [if_pos ⟨fewN_iff.2 ⟨by omega, by omega⟩, by omega⟩]
      obtain ⟨q, hq, rfl, hqd⟩ := zs_mem.1 (hj j (List.mem_cons_self ..))
      obtain ⟨a1, a2, a3, a4⟩ := addL_spec (namesOf refB (rd_T50 ms (q : Int)).f0) xs sn h.li
      obtain ⟨z, hz⟩ : ∃ z, addL (namesOf refB (rd_T50 ms (q : Int)).f0) xs sn = z := ⟨_, rfl⟩
      rw [hz] at a1 a2 a3 a4 ⊢
      have hr : Rch os ms q := by
        rcases h.src c hc with ⟨o, ho, h1⟩ | ⟨k, hk, h0, h1⟩
        · exact .base q o hq ho ⟨c, hqd, h1, hcp⟩
        · obtain ⟨k', _, hke, hkr, _⟩ := h.ndr _ h0
          have : k = k' := by omega
          subst this
          exact .step k q hkr hq ⟨c, hqd, h1, hcp⟩
      have hNI : NI os ms z.1 z.2 (nd ++ [(q : Int)]) := by
        refine ⟨a1, fun s hs => ?_, ?_, fun i hi => ?_, fun o ho s hs => (a2 s).2 (.inl (h.osr o ho s hs))⟩
        · rcases (a2 s).1 hs with hs | hs
          · rcases h.src s hs with h1 | ⟨k, hk, h0, h1⟩
            · exact .inl h1
            · exact .inr ⟨k, hk, List.mem_append_left _ h0, h1⟩
          · exact .inr ⟨q, hq, by simp, hs⟩
        · rw [List.nodup_append]
          exact ⟨h.nn, by simp, fun a ha b hb => by rw [List.mem_singleton] at hb; rintro rfl; exact c1 (hb ▸ ha)⟩
        · rcases List.mem_append.1 hi with hi | hi
          · obtain ⟨k, hk, rfl, hkr, hks⟩ := h.ndr i hi
            exact ⟨k, hk, rfl, hkr, fun s hs => (a2 s).2 (.inl (hks s hs))⟩
          · rw [List.mem_singleton] at hi
            exact ⟨q, hq, hi, hr, fun s hs => (a2 s).2 (.inr hs)⟩
      have hSeen : Seen os ms z.1 z.2 (nd ++ [(q : Int)]) (· = c) := by
        intro s h1 h2 h3
        rw [a2] at h1
        rw [a3] at h2
        have h4 : s ∈ sn := by
          rcases h1 with h1 | h1
          · exact h1
          · apply Classical.byContradiction
            intro h5
            exact h2 (.inr ⟨h1, h5⟩)
        rcases hs s h4 (fun h5 => h2 (.inl h5)) h3 with h5 | h5
        · exact .inl h5
        · exact .inr (fun i hi => List.mem_append_left _ (h5 i hi))
      obtain ⟨xs', sn', nd', h1, h2, h3, h4, h5, h6, h7, h8⟩ := visitN_spec hT hN hcp js z.1 z.2 (nd ++ [(q : Int)]) ((a2 c).2 (.inl hc)) (fun i hi => hj i (List.mem_cons_of_mem _ hi)) hNI hSeen
      refine ⟨xs', sn', nd', h1, h2, h3, fun i hi => ?_, fun i hi => h5 i (List.mem_append_left _ hi), fun s hs => h6 s ((a2 s).2 (.inl hs)), by omega, fun s hs => ?_⟩
      · rcases List.mem_cons.1 hi with rfl | hi
        · exact h5 _ (by simp)
        · exact h4 i hi
      · rcases h8 s hs with h9 | h9
        · rcases (a3 s).1 h9 with h9 | ⟨_, h9⟩
          · exact .inl h9
          · exact .inr h9
        · exact .inr (fun h10 => h9 ((a2 s).2 (.inl h10)))
theorem runN_spec (hT : (allRefs os ms).length ≤ 1000000) (hN : ms.length ≤ 1000000) (hnm : ∀ s, s ∈ allRefs os ms → s.size ≤ 1048576) : ∀ (k : Nat) (xs sn : List ByteArray) (nd : List Int), NI os ms xs sn nd → Seen os ms xs sn nd (fun _ => False) → xs.length + ((allRefs os ms).length - sn.length) < k →
    ∃ nd', runN (provOf os) (prsOf ms 0) ms k xs sn nd = some nd' ∧ ∃ sn', NI os ms [] sn' nd' ∧ Seen os ms [] sn' nd' (fun _ => False)
  | 0, xs, sn, nd, h, hs, hk => by omega
  | k + 1, xs, sn, nd, h, hs, hk => by
    simp only [runN]
    obtain ⟨l1, l2, l3⟩ := h.lens
    by_cases c0 : xs.length = 0
    · rw [if_pos c0]
      have : xs = [] := List.length_eq_zero_iff.1 c0
      subst this
      exact ⟨nd, rfl, sn, h, hs⟩
    · rw [if_neg c0]
      have hne : xs ≠ [] := fun e => c0 (by rw [e]; rfl)
      obtain ⟨p1, p2, p3, _⟩ := Hp.pop_spec (d := ByteArray.empty) less_ordW xs hne h.li.heap
      obtain ⟨c, hc⟩ : ∃ c, Hp.at_ ByteArray.empty xs 0 = c := ⟨_, rfl⟩
      rw [hc] at p1 ⊢
      obtain ⟨ys, hy⟩ : ∃ ys, Hp.pop ByteArray.empty W.less xs = ys := ⟨_, rfl⟩
      rw [hy] at p1 p2 p3 ⊢
      have hcx : c ∈ xs := p1.mem_iff.2 (List.mem_cons_self ..)
      have hcs := h.li.xin c hcx
      have hnd := p1.nodup_iff.1 h.li.xn
      rw [List.nodup_cons] at hnd
      have hmem : ∀ s, s ∈ ys ↔ s ∈ xs ∧ s ≠ c := by
        intro s
        rw [p1.mem_iff, List.mem_cons]
        constructor
        · intro h1
          exact ⟨.inr h1, fun e => hnd.1 (by rw [← e]; exact h1)⟩
        · rintro ⟨h1 | h1, h2⟩
          · exact absurd h1 h2
          · exact h1
      have hLI : LI ys sn := ⟨by rw [p2]; exact p3, hnd.2, fun s hs => h.li.xin s ((hmem s).1 hs).1, h.li.sn⟩
      have hNI : NI os ms ys sn nd := ⟨hLI, h.src, h.nn, h.ndr, h.osr⟩
      have hSc : Seen os ms ys sn nd (· = c) := fun s h1 h2 h3 => hs s h1 (fun h4 => h2 ((hmem s).2 ⟨h4, h3⟩)) (fun h => h)
      rw [if_neg (by have := hnm c (h.sub c hcs); omega)]
      by_cases cp : c ∈ provOf os
      · rw [if_pos cp]
        refine runN_spec hT hN hnm k ys sn nd hNI (fun s h1 h2 _ => ?_) (by omega)
        by_cases e : s = c
        · exact .inl (by rw [e]; exact cp)
        · exact hSc s h1 h2 e
      · rw [if_neg cp]
        obtain ⟨xs', sn', nd', h1, h2, h3, h4, h5, h6, h7, h8⟩ := visitN_spec hT hN cp (zsOf (prsOf ms 0) c) ys sn nd hcs (fun i hi => hi) hNI hSc
        rw [h1, Option.bind_some]
        obtain ⟨m1, m2, m3⟩ := h2.lens
        refine runN_spec hT hN hnm k xs' sn' nd' h2 (fun s g1 g2 _ => ?_) (by omega)
        by_cases e : s = c
        · subst e
          exact .inr h4
        · exact h3 s g1 g2 e
theorem seedN_spec (hT : (allRefs os ms).length ≤ 1000000) : ∀ (l : List S50) (xs sn : List ByteArray), (∀ o, o ∈ l → o ∈ os) → LI xs sn → (∀ s, s ∈ sn → ∃ o, o ∈ os ∧ s ∈ namesOf refB o.f0) → (∀ s, s ∈ sn → s ∈ xs) →
    ∃ xs' sn', seedN l xs sn = some (xs', sn') ∧ LI xs' sn' ∧ (∀ s, s ∈ sn' → ∃ o, o ∈ os ∧ s ∈ namesOf refB o.f0) ∧ (∀ s, s ∈ sn' → s ∈ xs') ∧ (∀ o, o ∈ l → ∀ s, s ∈ namesOf refB o.f0 → s ∈ sn') ∧ ∀ s, s ∈ sn → s ∈ sn'
  | [], xs, sn, hl, h, h1, h2 => ⟨xs, sn, rfl, h, h1, h2, fun o ho => by simp at ho, fun s hs => hs⟩
  | o :: l, xs, sn, hl, h, h1, h2 => by
    have hsub : sn.length ≤ (allRefs os ms).length := sub_len sn _ h.sn (fun s hs => by
      obtain ⟨o, ho, hs⟩ := h1 s hs
      unfold allRefs
      rw [List.mem_flatMap]
      exact ⟨o, List.mem_append_left _ ho, hs⟩)
    have hxs := sub_len xs sn h.xn h.xin
    simp only [seedN]
    rw [if_pos (fewN_iff.2 ⟨by omega, by omega⟩)]
    obtain ⟨a1, a2, a3, _⟩ := addL_spec (namesOf refB o.f0) xs sn h
    obtain ⟨z, hz⟩ : ∃ z, addL (namesOf refB o.f0) xs sn = z := ⟨_, rfl⟩
    rw [hz] at a1 a2 a3 ⊢
    obtain ⟨xs', sn', b1, b2, b3, b4, b5, b6⟩ := seedN_spec hT l z.1 z.2 (fun x hx => hl x (List.mem_cons_of_mem _ hx)) a1 (fun s hs => by
      rcases (a2 s).1 hs with hs | hs
      · exact h1 s hs
      · exact ⟨o, hl o (List.mem_cons_self ..), hs⟩) (fun s hs => by
      rw [a3]
      rcases (a2 s).1 hs with hs | hs
      · exact .inl (h2 s hs)
      · by_cases e : s ∈ sn
        · exact .inl (h2 s e)
        · exact .inr ⟨hs, e⟩)
    refine ⟨xs', sn', b1, b2, b3, b4, fun x hx s hs => ?_, fun s hs => b6 s ((a2 s).2 (.inl hs))⟩
    rcases List.mem_cons.1 hx with rfl | hx
    · exact b6 s ((a2 s).2 (.inr hs))
    · exact b5 x hx s hs
end
/-- What Needed hands back. -/
theorem needed_ok {os ms : List S50} (so : smallL os = true) (sm : smallL ms = true) (hT : (allRefs os ms).length ≤ 1000000) (hnm : ∀ s, s ∈ allRefs os ms → s.size ≤ 1048576) :
    ∃ nd, closure_Needed.f os ms = some (pickN nd ms.length) ∧ ∀ q : Nat, q < ms.length → ((q : Int) ∈ nd ↔ Rch os ms q) := by
  have hN := (smallL_iff.1 sm).1
  obtain ⟨xs, sn, h1, h2, h3, h4, h5, _⟩ := seedN_spec (ms := ms) hT os [] [] (fun o ho => ho) ⟨fun i j _ _ hj => by simp at hj, by simp, fun s hs => by simp at hs, by simp⟩ (fun s hs => by simp at hs) (fun s hs => by simp at hs)
  have hNI : NI os ms xs sn [] := ⟨h2, fun s hs => .inl (h3 s hs), by simp, fun i hi => by simp at hi, h5⟩
  obtain ⟨l1, l2, l3⟩ := hNI.lens
  obtain ⟨nd, r1, sn', r2, r3⟩ := runN_spec hT (by omega) hnm 1048576 xs sn [] hNI (fun s g1 g2 _ => absurd (h4 s g1) g2) (by omega)
  refine ⟨nd, ?_, fun q hq => ⟨fun h => ?_, fun h => ?_⟩⟩
  · unfold closure_Needed.f
    rw [if_pos ⟨so, sm⟩, h1, Option.bind_some, r1, Option.bind_some]
  · obtain ⟨k, _, hk, hr, _⟩ := r2.ndr _ h
    have : q = k := by omega
    rw [this]
    exact hr
  · have key : ∀ (s : ByteArray) (q : Nat), q < ms.length → s ∈ sn' → s ∈ namesOf defB (rd_T50 ms (q : Int)).f0 → s ∉ provOf os → (q : Int) ∈ nd := by
      intro s q hq hs hd hp
      rcases r3 s hs (by simp) (fun h => h) with h | h
      · exact absurd h hp
      · exact h _ (zs_mem.2 ⟨q, hq, rfl, hd⟩)
    induction h with
    | base q o hq ho hl =>
      obtain ⟨s, hd, hr, hp⟩ := hl
      exact key s q hq (r2.osr o ho s hr) hd hp
    | step k q hk hq hl ih =>
      obtain ⟨s, hd, hr, hp⟩ := hl
      obtain ⟨k', _, hke, _, hks⟩ := r2.ndr _ (ih hk.lt)
      have : k = k' := by omega
      subst this
      exact key s q hq (hks s hr) hd hp
/-- .. of lists that are right. -/
theorem RightP.needed {os ms : List S50} (ho : RightP os) (hm : RightP ms) : ∃ nd, closure_Needed.f os ms = some (pickN nd ms.length) ∧ ∀ q : Nat, q < ms.length → ((q : Int) ∈ nd ↔ Rch os ms q) := by
  refine needed_ok ho.small hm.small ?_ (fun s hs => ?_)
  · have key : ∀ l : List S50, (∀ o, o ∈ l → o.f0.length ≤ 20) → (l.flatMap fun o => namesOf refB o.f0).length ≤ l.length * 20 := by
      intro l
      induction l with
      | nil => intro _; simp
      | cons o l ih =>
        intro h
        rw [List.flatMap_cons, List.length_append, List.length_cons]
        have h1 := ih (fun x hx => h x (List.mem_cons_of_mem _ hx))
        have h2 := h o (List.mem_cons_self ..)
        have h3 := namesOf_len refB o.f0
        omega
    have h1 := key (os ++ ms) (fun o h => by
      rcases List.mem_append.1 h with h | h
      · exact ho.syms o h
      · exact hm.syms o h)
    rw [List.length_append] at h1
    have := ho.len
    have := hm.len
    unfold allRefs
    omega
  · unfold allRefs at hs
    obtain ⟨o, h1, h2⟩ := List.mem_flatMap.1 hs
    unfold namesOf at h2
    obtain ⟨x, hx, rfl⟩ := List.mem_map.1 h2
    have hx := (List.mem_filter.1 hx).1
    rcases List.mem_append.1 h1 with h1 | h1
    · have := ho.names o h1 x hx; omega
    · have := hm.names o h1 x hx; omega
end Go.Proofs.Ythpjpkcfepmhkaa.PAll
namespace Go.Proofs.Ythpjpkcfepmhkaa.PAll
open Go.RowKit Go.Proofs.YthpjpkcfepmhkaaW.PrintWords Go.Proofs.YthpjpkcfepmhkaaW.PrintLast Go.Proofs.YthpjpkcfepmhkaaW.PrintMore
attribute [local go_sem] max2_int min2_int max_two min_two max_three min_three max_four min_four   -- for this text's walks alone
set_option linter.unusedVariables false
set_option linter.unusedSimpArgs false
mutual
def arlinkref22_Needed.l0 : Nat → List (S50) → List (S50) → List Int → Int → Option (List Int)
 | 0, _, _, _, _ => none
 | k + 1, x0, x1, x5, x6 => if x6 < (x1.length : Int) then (arlinkref22_Needed.l1 k x0 x1 x5 x6 0) else (arlinkref22_Needed.l2 k x0 x1 x5 1)
def arlinkref22_Needed.l1 : Nat → List (S50) → List (S50) → List Int → Int → Int → Option (List Int)
 | 0, _, _, _, _, _ => none
 | k + 1, x0, x1, x5, x6, x7 => if x7 < (x0.length : Int) then (if 0 ≤ x7 then (if 0 ≤ x6 then (if x6 < (x1.length : Int) then ((arlinkref22_Leads.f k x0 ((rd_T50 x0 x7).f0) ((rd_T50 x0 x7).f1) ((rd_T50 x1 x6).f0) ((rd_T50 x1 x6).f1)).bind fun t329 => (if t329 = true then (if x6 < (x5.length : Int) then (arlinkref22_Needed.l1 k x0 x1 (x5.set (x6 : Int).toNat 1) x6 (wrap64 (x7 + 1))) else (none)) else (arlinkref22_Needed.l1 k x0 x1 x5 x6 (wrap64 (x7 + 1))))) else (none)) else (none)) else (none)) else (arlinkref22_Needed.l0 k x0 x1 x5 (wrap64 (x6 + 1)))
def arlinkref22_Needed.l2 : Nat → List (S50) → List (S50) → List Int → Int → Option (List Int)
 | 0, _, _, _, _ => none
 | k + 1, x0, x1, x5, x8 => if x8 ≤ (x1.length : Int) then (arlinkref22_Needed.l3 k x0 x1 x5 x8 0) else (some x5)
def arlinkref22_Needed.l3 : Nat → List (S50) → List (S50) → List Int → Int → Int → Option (List Int)
 | 0, _, _, _, _, _ => none
 | k + 1, x0, x1, x5, x8, x9 => if x9 < (x1.length : Int) then (arlinkref22_Needed.l4 k x0 x1 x5 x8 x9 0) else (arlinkref22_Needed.l2 k x0 x1 x5 (wrap64 (x8 + 1)))
def arlinkref22_Needed.l4 : Nat → List (S50) → List (S50) → List Int → Int → Int → Int → Option (List Int)
 | 0, _, _, _, _, _, _ => none
 | k + 1, x0, x1, x5, x8, x9, x10 => if x10 < (x1.length : Int) then (if 0 ≤ x10 then (if x10 < (x5.length : Int) then (if (rd x5 x10) = x8 then (if 0 ≤ x9 then (if x9 < (x5.length : Int) then (if (rd x5 x9) = 0 then (if x9 < (x1.length : Int) then ((arlinkref22_Leads.f k x0 ((rd_T50 x1 x10).f0) ((rd_T50 x1 x10).f1) ((rd_T50 x1 x9).f0) ((rd_T50 x1 x9).f1)).bind fun t335 => (if t335 = true then (arlinkref22_Needed.l4 k x0 x1 (x5.set (x9 : Int).toNat (wrap64 (x8 + 1))) x8 x9 (wrap64 (x10 + 1))) else (arlinkref22_Needed.l4 k x0 x1 x5 x8 x9 (wrap64 (x10 + 1))))) else (none)) else (arlinkref22_Needed.l4 k x0 x1 x5 x8 x9 (wrap64 (x10 + 1)))) else (none)) else (none)) else (arlinkref22_Needed.l4 k x0 x1 x5 x8 x9 (wrap64 (x10 + 1)))) else (none)) else (none)) else (arlinkref22_Needed.l3 k x0 x1 x5 x8 (wrap64 (x9 + 1)))
end
def arlinkref22_Needed.f (k : Nat) (l0 : List (S50)) (l1 : List (S50)) : Option (List Int) := if 0 ≤ (l1.length : Int) then (if ((l1.length : Int) : Int).toNat ≤ 35184372088832 then (arlinkref22_Needed.l0 k l0 l1 (List.replicate ((l1.length : Int) : Int).toNat 0) 0) else (none)) else (none)
def arlinkref22_Needed.T8 : Bool × List (List Nat × List Nat) := (true, [([], []), ([], []), ([], []), ([1, 2], [1, 2]), ([3], [3]), ([], []), ([], []), ([5, 6], [5, 6]), ([7], [7]), ([0, 4, 8], [0, 4, 8])])
def arlinkref22_Needed.B8 : List Nat := [0, 0, 0, 6, 14, 0, 0, 96, 224, 511]
theorem arlinkref22_Needed.tab8 : rtab .any (opsOf Try.f24 8) = arlinkref22_Needed.T8 := by kernel_rfl
theorem arlinkref22_Needed.bits8 : waitsOk arlinkref22_Needed.T8.2 arlinkref22_Needed.B8 = true := by kernel_rfl
def arlinkref22_Needed.T19 : Bool × List (List Nat × List Nat) := (true, [([], []), ([], []), ([0, 1], [0, 1]), ([2], [2]), ([], []), ([3, 4], [3, 4]), ([5], [5]), ([6], [6]), ([6], [6]), ([7, 8, 6], [6, 7, 8]), ([9, 6], [6, 9]), ([10, 6], [6, 10]), ([6, 11], [6, 11]), ([12, 6], [12]), ([13], [13]), ([13], [13]), ([13], [13]), ([15, 16, 13], [13, 15, 16]), ([17, 13], [13, 17]), ([13], [13]), ([13], [13]), ([19, 20, 13], [13, 19, 20]), ([21, 13], [13, 21]), ([14, 18, 22, 13, 13], [13, 14, 18, 22]), ([13, 23], [13, 23])])
def arlinkref22_Needed.B19 : List Nat := [0, 0, 3, 7, 0, 31, 63, 127, 127, 511, 1023, 2047, 4095, 8191, 16383, 16383, 16383, 114687, 245759, 16383, 16383, 1589247, 3686399, 8388607, 16777215]
theorem arlinkref22_Needed.tab19 : rtab .any (opsOf Try.f24 19) = arlinkref22_Needed.T19 := by kernel_rfl
theorem arlinkref22_Needed.bits19 : waitsOk arlinkref22_Needed.T19.2 arlinkref22_Needed.B19 = true := by kernel_rfl
set_option maxHeartbeats 8000000 in
set_option maxRecDepth 100000 in
theorem arlinkref22_Needed.calls (k : Nat) (A0 : Option Addr) (c0 : Nat) (l0 : List (S50)) (A1 : Option Addr) (c1 : Nat) (l1 : List (S50)) (r : List Int) (w : World) (hr0 : Kd.C k50 w A0 l0.length l0) (hc0 : l0.length ≤ c0) (hr1 : Kd.C k50 w A1 l1.length l1) (hc1 : l1.length ≤ c1) (h : arlinkref22_Needed.f k l0 l1 = some r) :
  Calls Try.prog 24 #[.slice A0 l0.length c0, .slice A1 l1.length c1] w fun e w' => ∃ v0_ : Value, e = .returned (v0_) ∧ Kd.R (Kd.int .i64) 3 w' w.heap.size (fun _ => True) v0_ r ∧ Below w.heap.size w w' := by
 have hu50 := Try.underlying50
 have HR0 := Aside0.mk hr0
 have HC0 := Aside0.mk hc0
 clear hr0 hc0
 have HR1 := Aside0.mk hr1
 have HC1 := Aside0.mk hc1
 clear hr1 hc1
 have HB := Aside0.mk (Below.refl w.heap.size w)
 have H : (if 0 ≤ (l1.length : Int) then (if ((l1.length : Int) : Int).toNat ≤ 35184372088832 then (arlinkref22_Needed.l0 k l0 l1 (List.replicate ((l1.length : Int) : Int).toNat 0) 0) else (none)) else (none)) = some r := h
 clear h
 by_cases c3 : 0 ≤ (l1.length : Int)
 ·rw [if_pos c3] at H
  have c3b0 := eq_true c3
  have c3b1 : decide (0 ≤ (l1.length : Int)) = true := decide_eq_true c3
  clear c3
  by_cases c4 : ((l1.length : Int) : Int).toNat ≤ 35184372088832
  ·rw [if_pos c4] at H
   have c4b0 := eq_true c4
   have c4b1 : decide (((l1.length : Int) : Int).toNat ≤ 35184372088832) = true := decide_eq_true c4
   clear c4
   obtain ⟨y324, hy324⟩ : ∃ y_ : List Int, y_ = (List.replicate ((l1.length : Int) : Int).toNat 0) := ⟨_, rfl⟩
   replace H : (arlinkref22_Needed.l0 k l0 l1 y324 0) = some r := by first | (rw [hy324]; with_reducible exact H) | (have H2_ := (Option.bind_some _ _).symm.trans H; rw [hy324]; with_reducible exact H2_) | (have H2_ := (Option.bind_some _ _).symm.trans H; with_reducible exact H2_) | with_reducible exact H | (rw [hy324]; exact H) | exact H
   have Ny324 := Aside0.mk hy324
   clear hy324
   have H' := Aside0.mk H
   clear H
   go_enter Try.func24, Try.ntmps24
   go_wp2_with (first | ((with_reducible refine gate_dst (N := 13) rfl ?_); refine Kd.R_make (Kd.int .i64) _ 3 rfl (N := 13) rfl 24 _ _ rfl (l1.length : Int) rfl rfl Try.underlying24 (.int .i64 0) 8 info3 rfl (by decide) (by omega) 0 (ok := fun _ => True) (okp := fun _ => True) rfl (fun _ hk => hk) trivial (of_decide_eq_true (by first | (with_reducible assumption) | assumption)) (Nat.le_trans (Nat.mul_le_mul_right _ (of_decide_eq_true (by first | (with_reducible assumption) | assumption) : (l1.length : Int).toNat ≤ 35184372088832)) (by omega)) (Below.refl _ _) (Nat.le_refl _) ?_; intro v325 w5 ho6 hb hg_ hnew_; clear hg_ hnew_; (first | rw [← Ny324.out] at ho6 | (simp only [Int.reduceToNat] at ho6; rw [← Ny324.out] at ho6)); have n0_ := Aside0.mk (Kd.R_lower ho6 (below_size (by repeat (first | (with_reducible first | exact HB.out | apply below_alloc | apply pw_below_drewN | apply below_drew1) | exact HB.out)))); have n1_ := Aside0.mk (below_step (by repeat (first | (with_reducible first | exact HB.out | apply below_alloc | apply pw_below_drewN | apply below_drew1) | exact HB.out)) hb); clear HB; have HO326 := n0_; have HB := n1_; clear n0_ n1_; clear hb ho6))
   go_loopg [6] k (fun kq v6 w' => ∃ (x5_1 : List Int) (x6_1 : Int), v6 = .int .i64 x6_1 ∧ Aside0 (arlinkref22_Needed.l0 kq l0 l1 x5_1 x6_1 = some r) ∧ Aside0 (kq ≤ k) ∧ Aside0 (Kd.R (Kd.int .i64) 3 w' w.heap.size (fun _ => True) v325 x5_1) ∧ Aside0 (Below w.heap.size w w'))
   case atStart => exact ⟨(y324), (0), (by first | rfl | (simp; done) | (simp [*]; done)), H', ⟨Nat.le_refl _⟩, ⟨by (with_reducible repeat (first | apply Kd.R_alloc | apply Kd.R_drewN | apply Kd.R_drew)); exact HO326.out⟩, ⟨by repeat (first | (with_reducible first | exact HB.out | apply below_alloc | apply pw_below_drewN | apply below_drew1) | exact HB.out)⟩⟩
   case round =>
    clear H'
    try clear c1
    try clear c2
    try clear p2
    try clear c3
    try clear c3b0
    try clear c3b1
    try clear c4
    try clear c4b0
    try clear c4b1
    obtain ⟨x5_1, x6_1, rfl, HA, HK1, HO_5, HB⟩ := hrel
    cases gk with
    | zero => exact absurd HA.out (by simp [arlinkref22_Needed.l0])
    | succ k1 =>
     have H := HA.out
     clear HA
     simp only [arlinkref22_Needed.l0] at H
     by_cases c7 : x6_1 < (l1.length : Int)
     ·rw [if_pos c7] at H
      have c7b0 : decide (x6_1 < (l1.length : Int)) = true := decide_eq_true c7
      clear c7
      have H' := Aside0.mk H
      clear H
      go_wp2
      go_loopg [7] k1 (fun kq v7 w' => ∃ (x5_2 : List Int) (x7_2 : Int), v7 = .int .i64 x7_2 ∧ Aside0 (arlinkref22_Needed.l1 kq l0 l1 x5_2 x6_1 x7_2 = some r) ∧ Aside0 (kq ≤ k1) ∧ Aside0 (Kd.R (Kd.int .i64) 3 w' w.heap.size (fun _ => True) v325 x5_2) ∧ Aside0 (Below w.heap.size w w'))
      case atStart => exact ⟨(x5_1), (0), (by first | rfl | (simp; done) | (simp [*]; done)), H', ⟨Nat.le_refl _⟩, ⟨by (with_reducible repeat (first | apply Kd.R_alloc | apply Kd.R_drewN | apply Kd.R_drew)); exact HO_5.out⟩, ⟨by repeat (first | (with_reducible first | exact HB.out | apply below_alloc | apply pw_below_drewN | apply below_drew1) | exact HB.out)⟩⟩
      case round =>
       clear H'
       try clear c1
       try clear c2
       try clear p2
       try clear c3
       try clear c3b0
       try clear c3b1
       try clear c4
       try clear c4b0
       try clear c4b1
       try clear c7
       try clear c7b0
       try clear p2
       obtain ⟨x5_2, x7_2, rfl, HA, HK2, HO_5, HB⟩ := hrel
       cases gk with
       | zero => exact absurd HA.out (by simp [arlinkref22_Needed.l1])
       | succ k2 =>
        have H := HA.out
        clear HA
        simp only [arlinkref22_Needed.l1] at H
        by_cases c8 : x7_2 < (l0.length : Int)
        ·rw [if_pos c8] at H
         have c8b0 : decide (x7_2 < (l0.length : Int)) = true := decide_eq_true c8
         clear c8
         by_cases c9 : 0 ≤ x7_2
         ·rw [if_pos c9] at H
          have c9b0 : decide (0 ≤ x7_2) = true := decide_eq_true c9
          clear c9
          by_cases c10 : 0 ≤ x6_1
          ·rw [if_pos c10] at H
           have c10b0 : decide (0 ≤ x6_1) = true := decide_eq_true c10
           clear c10
           by_cases c11 : x6_1 < (l1.length : Int)
           ·rw [if_pos c11] at H
            have c11b0 : decide (x6_1 < (l1.length : Int)) = true := decide_eq_true c11
            clear c11
            replace H := Option.bind_eq_some_iff.mp H
            obtain ⟨t329, A120, H⟩ := H
            replace H : (if t329 = true then (if x6_1 < (x5_2.length : Int) then (arlinkref22_Needed.l1 k2 l0 l1 (x5_2.set (x6_1 : Int).toNat 1) x6_1 (wrap64 (x7_2 + 1))) else (none)) else (arlinkref22_Needed.l1 k2 l0 l1 x5_2 x6_1 (wrap64 (x7_2 + 1)))) = some r := H
            have A12 := Aside0.mk A120
            clear A120
            by_cases c13 : t329 = true
            ·subst c13
             have H1 : (if x6_1 < (x5_2.length : Int) then (arlinkref22_Needed.l1 k2 l0 l1 (x5_2.set (x6_1 : Int).toNat 1) x6_1 (wrap64 (x7_2 + 1))) else (none)) = some r := by rw [if_pos rfl] at H; exact H
             clear H
             have H := H1
             clear H1
             by_cases c14 : x6_1 < (x5_2.length : Int)
             ·rw [if_pos c14] at H
              have c14b0 : decide (x6_1 < (x5_2.length : Int)) = true := decide_eq_true c14
              clear c14
              obtain ⟨y330, hy330⟩ : ∃ y_ : List Int, y_ = (x5_2.set (x6_1 : Int).toNat 1) := ⟨_, rfl⟩
              replace H : (arlinkref22_Needed.l1 k2 l0 l1 y330 x6_1 (wrap64 (x7_2 + 1))) = some r := by first | (rw [hy330]; with_reducible exact H) | (have H2_ := (Option.bind_some _ _).symm.trans H; rw [hy330]; with_reducible exact H2_) | (have H2_ := (Option.bind_some _ _).symm.trans H; with_reducible exact H2_) | with_reducible exact H | (rw [hy330]; exact H) | exact H
              have Ny330 := Aside0.mk hy330
              clear hy330
              have H' := Aside0.mk H
              clear H
              try go_wp2
              have n0_ := Aside0.mk (Kd.R_drew HO_5.out)
              have n1_ := Aside0.mk (below_drew1 HB.out)
              clear HO_5
              clear HB
              have HO_5 := n0_
              have HB := n1_
              clear n0_ n1_
              have p327 : 0 ≤ (x7_2 : Int) := of_decide_eq_true (by first | (with_reducible assumption) | assumption)
              have q327 : x7_2 < (l0.length : Int) := of_decide_eq_true (by first | (with_reducible assumption) | assumption)
              obtain ⟨ad327, A327_0, c327_0, A327_1, c327_1, e327, hx327_0, hx327_1, hl327_0, hi327_0, hl327_1, hi327_1⟩ := at_T50 HR0.out x7_2 p327 q327
              have hw327_1 := hx327_1
              have hw327_0 := hx327_0
              cases e327
              replace hx327_0 := (HB.out.cell (World.block_lt_of_cell? w _ hx327_0)).trans hx327_0
              replace hx327_1 := (HB.out.cell (World.block_lt_of_cell? w _ hx327_1)).trans hx327_1
              have HR327_0 := Aside0.mk hi327_0
              have HC327_0 := Aside0.mk hl327_0
              clear hi327_0 hl327_0
              have HR327_1 := Aside0.mk hi327_1
              have HC327_1 := Aside0.mk hl327_1
              clear hi327_1 hl327_1
              replace p327 := eq_true p327
              replace q327 := eq_true q327
              have p328 : 0 ≤ (x6_1 : Int) := of_decide_eq_true (by first | (with_reducible assumption) | assumption)
              have q328 : x6_1 < (l1.length : Int) := of_decide_eq_true (by first | (with_reducible assumption) | assumption)
              obtain ⟨ad328, A328_0, c328_0, A328_1, c328_1, e328, hx328_0, hx328_1, hl328_0, hi328_0, hl328_1, hi328_1⟩ := at_T50 HR1.out x6_1 p328 q328
              have hw328_1 := hx328_1
              have hw328_0 := hx328_0
              cases e328
              replace hx328_0 := (HB.out.cell (World.block_lt_of_cell? w _ hx328_0)).trans hx328_0
              replace hx328_1 := (HB.out.cell (World.block_lt_of_cell? w _ hx328_1)).trans hx328_1
              have HR328_0 := Aside0.mk hi328_0
              have HC328_0 := Aside0.mk hl328_0
              clear hi328_0 hl328_0
              have HR328_1 := Aside0.mk hi328_1
              have HC328_1 := Aside0.mk hl328_1
              clear hi328_1 hl328_1
              replace p328 := eq_true p328
              replace q328 := eq_true q328
              refine start_ (n := 10) (S := fun w' => w'.cell? (ad327.add ((x7_2).toNat * 2)) = some (.slice A327_0 ((rd_T50 l0 x7_2).f0).length c327_0) ∧ w'.cell? ⟨(ad327.add ((x7_2).toNat * 2)).block, (ad327.add ((x7_2).toNat * 2)).off + 1, none⟩ = some (.slice A327_1 ((rd_T50 l0 x7_2).f1).length c327_1) ∧ w'.cell? (ad328.add ((x6_1).toNat * 2)) = some (.slice A328_0 ((rd_T50 l1 x6_1).f0).length c328_0) ∧ w'.cell? ⟨(ad328.add ((x6_1).toNat * 2)).block, (ad328.add ((x6_1).toNat * 2)).off + 1, none⟩ = some (.slice A328_1 ((rd_T50 l1 x6_1).f1).length c328_1)) (ds := []) #[false, false, false, false, false, false, false, false, false, false] (by kernel_rfl) rfl rfl ⟨((HB.out.cell (World.block_lt_of_cell? w _ hw327_0)).trans hw327_0), ((HB.out.cell (World.block_lt_of_cell? w _ hw327_1)).trans hw327_1), ((HB.out.cell (World.block_lt_of_cell? w _ hw328_0)).trans hw328_0), ((HB.out.cell (World.block_lt_of_cell? w _ hw328_1)).trans hw328_1)⟩ (fun hHeld => ?_); refine with_tabW arlinkref22_Needed.tab8 arlinkref22_Needed.bits8 (fun HT_ HW_ => ?_)
              generalize wr.drew = w16 at HO_5 HB HR327_0 HR327_1 HR328_0 HR328_1 hx327_0 hx327_1 hx328_0 hx328_1 hHeld ⊢
              refine pure_ (i := 0) (N := some 26) (v := ?_) (a' := ?_) #[true, false, false, false, false, false, false, false, false, false] rfl rfl (any_of HT_.out (by kernel_rfl)) (fun _ _ _ h => h) (Or.inl ⟨by rfl, ?_⟩) ?_ ?_
              rotate_left
              ·intro w'
               go_simp
               with_reducible rfl
              rotate_left
              ·simp only [Act.put, List.setIfInBounds_toArray, List.set_cons_zero, List.set_cons_succ, i64_w, i32_w]
               rfl
              refine pure_ (i := 1) (N := some 27) (v := ?_) (a' := ?_) #[true, true, false, false, false, false, false, false, false, false] rfl rfl (any_of HT_.out (by kernel_rfl)) (fun _ _ _ h => h) (Or.inl ⟨by rfl, ?_⟩) ?_ ?_
              rotate_left
              ·intro w'
               go_simp
               with_reducible rfl
              rotate_left
              ·simp only [Act.put, List.setIfInBounds_toArray, List.set_cons_zero, List.set_cons_succ, i64_w, i32_w]
               rfl
              refine pure_ (i := 2) (N := some 28) (v := ?_) (a' := ?_) #[true, true, true, false, false, false, false, false, false, false] rfl rfl (any_of HT_.out (by kernel_rfl)) (fun _ _ _ h => h) (Or.inl ⟨by rfl, ?_⟩) ?_ ?_
              rotate_left
              ·intro w'
               go_simp
               with_reducible rfl
              rotate_left
              ·simp only [Act.put, List.setIfInBounds_toArray, List.set_cons_zero, List.set_cons_succ, i64_w, i32_w]
               rfl
              refine pure_ (i := 3) (N := some 29) (v := ?_) (a' := ?_) #[true, true, true, true, false, false, false, false, false, false] rfl rfl (any_of HT_.out (by kernel_rfl)) (fun _ _ _ h => h) (Or.inl ⟨by rfl, ?_⟩) ?_ ?_
              rotate_left
              ·intro w'
               go_simp
               with_reducible rfl
              rotate_left
              ·simp only [Act.put, List.setIfInBounds_toArray, List.set_cons_zero, List.set_cons_succ, i64_w, i32_w]
               rfl
              refine pure_ (i := 5) (N := some 31) (v := ?_) (a' := ?_) #[true, true, true, true, false, true, false, false, false, false] rfl rfl (any_of HT_.out (by kernel_rfl)) (fun _ _ _ h => h) (Or.inl ⟨by rfl, ?_⟩) ?_ ?_
              rotate_left
              ·intro w'
               go_simp
               with_reducible rfl
              rotate_left
              ·simp only [Act.put, List.setIfInBounds_toArray, List.set_cons_zero, List.set_cons_succ, i64_w, i32_w]
               rfl
              refine pure_ (i := 6) (N := some 32) (v := ?_) (a' := ?_) #[true, true, true, true, false, true, true, false, false, false] rfl rfl (any_of HT_.out (by kernel_rfl)) (fun _ _ _ h => h) (Or.inl ⟨by rfl, ?_⟩) ?_ ?_
              rotate_left
              ·intro w'
               go_simp
               with_reducible rfl
              rotate_left
              ·simp only [Act.put, List.setIfInBounds_toArray, List.set_cons_zero, List.set_cons_succ, i64_w, i32_w]
               rfl
              refine pure_ (i := 7) (N := some 33) (v := ?_) (a' := ?_) #[true, true, true, true, false, true, true, true, false, false] rfl rfl (any_of HT_.out (by kernel_rfl)) (fun _ _ _ h => h) (Or.inl ⟨by rfl, ?_⟩) ?_ ?_
              rotate_left
              ·intro w'
               go_simp
               with_reducible rfl
              rotate_left
              ·simp only [Act.put, List.setIfInBounds_toArray, List.set_cons_zero, List.set_cons_succ, i64_w, i32_w]
               rfl
              refine take_ (i := 4) (N := some 30) (v := ?_) (a' := ?_) #[true, true, true, true, true, true, true, true, false, false] rfl rfl (take_ofW HT_.out HW_.out (by kernel_rfl)) (fun _ _ _ h => h) (Or.inl ⟨by rfl, ?_⟩) hHeld ?_ ?_
              rotate_left
              ·rintro w' ⟨s0, s1, s2, s3⟩
               go_simp
               with_reducible rfl
              rotate_left
              ·simp only [Act.put, List.setIfInBounds_toArray, List.set_cons_zero, List.set_cons_succ, i64_w, i32_w]
               rfl
              refine take_ (i := 8) (N := some 34) (v := ?_) (a' := ?_) #[true, true, true, true, true, true, true, true, true, false] rfl rfl (take_ofW HT_.out HW_.out (by kernel_rfl)) (fun _ _ _ h => h) (Or.inl ⟨by rfl, ?_⟩) hHeld ?_ ?_
              rotate_left
              ·rintro w' ⟨s0, s1, s2, s3⟩
               go_simp
               with_reducible rfl
              rotate_left
              ·simp only [Act.put, List.setIfInBounds_toArray, List.set_cons_zero, List.set_cons_succ, i64_w, i32_w]
               rfl
              refine one_ (i := 9) (N := some 35) #[true, true, true, true, true, true, true, true, true, true] rfl rfl (one_of HT_.out (by kernel_rfl)) (by decide) (fun K hK => ?_)
              refine goes_ Try.func28 (by kernel_rfl) rfl #[.slice (some ad327) l0.length c0, .agg #[.slice A327_0 ((rd_T50 l0 x7_2).f0).length c327_0, .slice A327_1 ((rd_T50 l0 x7_2).f1).length c327_1], .agg #[.slice A328_0 ((rd_T50 l1 x6_1).f0).length c328_0, .slice A328_1 ((rd_T50 l1 x6_1).f1).length c328_1]] (by rfl) rfl rfl (by (try simp only [List.map_toArray, List.map_cons, List.map_nil]); first | done | rfl | (simp only [List.length_drop, List.length_take]; rfl)) ?_
              with_reducible refine (arlinkref22_Leads.calls k2 _ _ l0 _ _ ((rd_T50 l0 x7_2).f0) _ _ ((rd_T50 l0 x7_2).f1) _ _ ((rd_T50 l1 x6_1).f0) _ _ ((rd_T50 l1 x6_1).f1) true _ ?side1 ?side2 ?side3 ?side4 ?side5 ?side6 ?side7 ?side8 ?side9 ?side10 A12.out).mono ?_
              (case side1 => repeat (first | exact (Kd.C_below HR0.out HB.out) | (with_reducible refine Kd.C_alloc ?_ _) | (with_reducible refine Kd.C_drewN ?_ _) | (with_reducible refine Kd.C_drew ?_)))
              (case side2 => exact HC0.out)
              (case side3 => repeat (first | exact (Kd.C_below HR327_0.out HB.out) | (with_reducible refine Kd.C_alloc ?_ _) | (with_reducible refine Kd.C_drewN ?_ _) | (with_reducible refine Kd.C_drew ?_)))
              (case side4 => exact HC327_0.out)
              (case side5 => repeat (first | exact (Kd.C_below HR327_1.out HB.out) | (with_reducible refine Kd.C_alloc ?_ _) | (with_reducible refine Kd.C_drewN ?_ _) | (with_reducible refine Kd.C_drew ?_)))
              (case side6 => exact HC327_1.out)
              (case side7 => repeat (first | exact (Kd.C_below HR328_0.out HB.out) | (with_reducible refine Kd.C_alloc ?_ _) | (with_reducible refine Kd.C_drewN ?_ _) | (with_reducible refine Kd.C_drew ?_)))
              (case side8 => exact HC328_0.out)
              (case side9 => repeat (first | exact (Kd.C_below HR328_1.out HB.out) | (with_reducible refine Kd.C_alloc ?_ _) | (with_reducible refine Kd.C_drewN ?_ _) | (with_reducible refine Kd.C_drew ?_)))
              (case side10 => exact HC328_1.out)
              rintro e w17 ⟨rfl, hb⟩
              refine ⟨_, rfl, ?_⟩
              have n0_ := Aside0.mk (Kd.R_below (by (with_reducible repeat (first | apply Kd.R_alloc | apply Kd.R_drewN | apply Kd.R_drew)); exact HO_5.out) hb)
              have n1_ := Aside0.mk (below_step (by repeat (first | (with_reducible first | exact HB.out | apply below_alloc | apply pw_below_drewN | apply below_drew1) | exact HB.out)) hb)
              clear HO_5
              clear HB
              have HO_5 := n0_
              have HB := n1_
              clear n0_ n1_
              (try clear hb)
              (try clear hb2)
              (try clear hk)
              (try clear hi)
              refine hK.out _ _ ⟨((HB.out.cell (World.block_lt_of_cell? w _ hw327_0)).trans hw327_0), ((HB.out.cell (World.block_lt_of_cell? w _ hw327_1)).trans hw327_1), ((HB.out.cell (World.block_lt_of_cell? w _ hw328_0)).trans hw328_0), ((HB.out.cell (World.block_lt_of_cell? w _ hw328_1)).trans hw328_1)⟩ (fun hHeld => ?_)
              clear hK K
              refine norm_ (a' := ?_) ?_ ?_
              rotate_left
              ·show Act.put _ (some 35) _ = _
               simp only [Act.put, List.setIfInBounds_toArray, List.set_cons_zero, List.set_cons_succ, i64_w, i32_w]
               rfl
              refine done_ (done_of HT_.out (by kernel_rfl)) ?_
              have p15 : 0 ≤ (x6_1 : Int) := of_decide_eq_true (by first | (with_reducible assumption) | assumption)
              have q15 : (x6_1 : Int) < ((x5_2.length : Int) : Int) := of_decide_eq_true (by first | (with_reducible assumption) | assumption)
              obtain ⟨go15, co15, eo15, gb15, gl15, cl15, HG15⟩ := Kd.R_form HO_5.out (by omega)
              (first | cases eo15 | (injection eo15 with ea_ en_ ec_; (first | subst ea_ | (injection ea_ with ea_; subst ea_)); subst ec_; clear en_))
              have GB15 := Aside0.mk gb15
              have GG15 := Aside0.mk HG15
              clear gb15 gl15 HG15
              obtain ⟨hx15_0, hf15_0⟩ := Kd.R_celln 0 HO_5.out (x6_1 : Int) p15 q15
              replace p15 := eq_true p15
              replace q15 := eq_true q15
              obtain ⟨hy18_, hz18_⟩ := Kd.R_celln 0 HO_5.out (x6_1 : Int) (of_decide_eq_true (by first | (with_reducible assumption) | assumption)) (of_decide_eq_true (by first | (with_reducible assumption) | assumption))
              have HP18 := Kd.R_putg HO_5.out (x6_1 : Int) 1
              try go_wp2_with (first | ((with_reducible refine gate_store (t := 3) (p := 38) rfl ?_); refine store_event (t := 3) (p := 38) (v := ?vo_w19) (w1 := (w17.setCell ⟨go15, (x6_1 : Int).toNat, none⟩ (.int .i64 1))) ?hg ?ho ?hn ?hr ?_; (case ho => rfl); (case hg => rfl); (case hn => rfl); (case hr => first | (go_simp; done) | (go_simp; rfl)); intro w19 hw; have hg : w17.grownBy w19 (some go15) := (by rw [hw]; exact HP18.2); have hp_ : Kd.R (Kd.int .i64) 3 w19 w.heap.size (fun _ => True) (.slice (some ⟨go15, 0, none⟩) x5_2.length co15) y330 := (by rw [hw, Ny330.out]; exact HP18.1); clear HP18; have n0_ := Aside0.mk (hp_); have n1_ := Aside0.mk ((by rw [hw]; exact below_set (HB.out) GB15.out : Below w.heap.size w w19)); clear HO_5; clear HB; have HO_5 := n0_; have HB := n1_; clear n0_ n1_; clear hg hw hp_))
              go_roundg k2
              case measure => have := HK1.out; have := HK2.out; omega
              case rel => exact ⟨(y330), (wrap64 (x7_2 + 1)), (by first | rfl | (simp; done) | (simp [*]; done)), H', ⟨by have := HK1.out; have := HK2.out; omega⟩, ⟨by (with_reducible repeat (first | apply Kd.R_alloc | apply Kd.R_drewN | apply Kd.R_drew)); exact HO_5.out⟩, ⟨by repeat (first | (with_reducible first | exact HB.out | apply below_alloc | apply pw_below_drewN | apply below_drew1) | exact HB.out)⟩⟩
             ·rw [if_neg c14] at H
              exact absurd H (by simp)
            ·replace c13 := Bool.eq_false_iff.mpr c13
             subst c13
             have H1 : (arlinkref22_Needed.l1 k2 l0 l1 x5_2 x6_1 (wrap64 (x7_2 + 1))) = some r := by rw [if_neg (show ¬ (false = true) by decide)] at H; exact H
             clear H
             have H := H1
             clear H1
             have H' := Aside0.mk H
             clear H
             try go_wp2
             have n0_ := Aside0.mk (Kd.R_drew HO_5.out)
             have n1_ := Aside0.mk (below_drew1 HB.out)
             clear HO_5
             clear HB
             have HO_5 := n0_
             have HB := n1_
             clear n0_ n1_
             have p327 : 0 ≤ (x7_2 : Int) := of_decide_eq_true (by first | (with_reducible assumption) | assumption)
             have q327 : x7_2 < (l0.length : Int) := of_decide_eq_true (by first | (with_reducible assumption) | assumption)
             obtain ⟨ad327, A327_0, c327_0, A327_1, c327_1, e327, hx327_0, hx327_1, hl327_0, hi327_0, hl327_1, hi327_1⟩ := at_T50 HR0.out x7_2 p327 q327
             have hw327_1 := hx327_1
             have hw327_0 := hx327_0
             cases e327
             replace hx327_0 := (HB.out.cell (World.block_lt_of_cell? w _ hx327_0)).trans hx327_0
             replace hx327_1 := (HB.out.cell (World.block_lt_of_cell? w _ hx327_1)).trans hx327_1
             have HR327_0 := Aside0.mk hi327_0
             have HC327_0 := Aside0.mk hl327_0
             clear hi327_0 hl327_0
             have HR327_1 := Aside0.mk hi327_1
             have HC327_1 := Aside0.mk hl327_1
             clear hi327_1 hl327_1
             replace p327 := eq_true p327
             replace q327 := eq_true q327
             have p328 : 0 ≤ (x6_1 : Int) := of_decide_eq_true (by first | (with_reducible assumption) | assumption)
             have q328 : x6_1 < (l1.length : Int) := of_decide_eq_true (by first | (with_reducible assumption) | assumption)
             obtain ⟨ad328, A328_0, c328_0, A328_1, c328_1, e328, hx328_0, hx328_1, hl328_0, hi328_0, hl328_1, hi328_1⟩ := at_T50 HR1.out x6_1 p328 q328
             have hw328_1 := hx328_1
             have hw328_0 := hx328_0
             cases e328
             replace hx328_0 := (HB.out.cell (World.block_lt_of_cell? w _ hx328_0)).trans hx328_0
             replace hx328_1 := (HB.out.cell (World.block_lt_of_cell? w _ hx328_1)).trans hx328_1
             have HR328_0 := Aside0.mk hi328_0
             have HC328_0 := Aside0.mk hl328_0
             clear hi328_0 hl328_0
             have HR328_1 := Aside0.mk hi328_1
             have HC328_1 := Aside0.mk hl328_1
             clear hi328_1 hl328_1
             replace p328 := eq_true p328
             replace q328 := eq_true q328
             refine start_ (n := 10) (S := fun w' => w'.cell? (ad327.add ((x7_2).toNat * 2)) = some (.slice A327_0 ((rd_T50 l0 x7_2).f0).length c327_0) ∧ w'.cell? ⟨(ad327.add ((x7_2).toNat * 2)).block, (ad327.add ((x7_2).toNat * 2)).off + 1, none⟩ = some (.slice A327_1 ((rd_T50 l0 x7_2).f1).length c327_1) ∧ w'.cell? (ad328.add ((x6_1).toNat * 2)) = some (.slice A328_0 ((rd_T50 l1 x6_1).f0).length c328_0) ∧ w'.cell? ⟨(ad328.add ((x6_1).toNat * 2)).block, (ad328.add ((x6_1).toNat * 2)).off + 1, none⟩ = some (.slice A328_1 ((rd_T50 l1 x6_1).f1).length c328_1)) (ds := []) #[false, false, false, false, false, false, false, false, false, false] (by kernel_rfl) rfl rfl ⟨((HB.out.cell (World.block_lt_of_cell? w _ hw327_0)).trans hw327_0), ((HB.out.cell (World.block_lt_of_cell? w _ hw327_1)).trans hw327_1), ((HB.out.cell (World.block_lt_of_cell? w _ hw328_0)).trans hw328_0), ((HB.out.cell (World.block_lt_of_cell? w _ hw328_1)).trans hw328_1)⟩ (fun hHeld => ?_); refine with_tabW arlinkref22_Needed.tab8 arlinkref22_Needed.bits8 (fun HT_ HW_ => ?_)
             generalize wr.drew = w20 at HO_5 HB HR327_0 HR327_1 HR328_0 HR328_1 hx327_0 hx327_1 hx328_0 hx328_1 hHeld ⊢
             refine pure_ (i := 0) (N := some 26) (v := ?_) (a' := ?_) #[true, false, false, false, false, false, false, false, false, false] rfl rfl (any_of HT_.out (by kernel_rfl)) (fun _ _ _ h => h) (Or.inl ⟨by rfl, ?_⟩) ?_ ?_
             rotate_left
             ·intro w'
              go_simp
              with_reducible rfl
             rotate_left
             ·simp only [Act.put, List.setIfInBounds_toArray, List.set_cons_zero, List.set_cons_succ, i64_w, i32_w]
              rfl
             refine pure_ (i := 1) (N := some 27) (v := ?_) (a' := ?_) #[true, true, false, false, false, false, false, false, false, false] rfl rfl (any_of HT_.out (by kernel_rfl)) (fun _ _ _ h => h) (Or.inl ⟨by rfl, ?_⟩) ?_ ?_
             rotate_left
             ·intro w'
              go_simp
              with_reducible rfl
             rotate_left
             ·simp only [Act.put, List.setIfInBounds_toArray, List.set_cons_zero, List.set_cons_succ, i64_w, i32_w]
              rfl
             refine pure_ (i := 2) (N := some 28) (v := ?_) (a' := ?_) #[true, true, true, false, false, false, false, false, false, false] rfl rfl (any_of HT_.out (by kernel_rfl)) (fun _ _ _ h => h) (Or.inl ⟨by rfl, ?_⟩) ?_ ?_
             rotate_left
             ·intro w'
              go_simp
              with_reducible rfl
             rotate_left
             ·simp only [Act.put, List.setIfInBounds_toArray, List.set_cons_zero, List.set_cons_succ, i64_w, i32_w]
              rfl
             refine pure_ (i := 3) (N := some 29) (v := ?_) (a' := ?_) #[true, true, true, true, false, false, false, false, false, false] rfl rfl (any_of HT_.out (by kernel_rfl)) (fun _ _ _ h => h) (Or.inl ⟨by rfl, ?_⟩) ?_ ?_
             rotate_left
             ·intro w'
              go_simp
              with_reducible rfl
             rotate_left
             ·simp only [Act.put, List.setIfInBounds_toArray, List.set_cons_zero, List.set_cons_succ, i64_w, i32_w]
              rfl
             refine pure_ (i := 5) (N := some 31) (v := ?_) (a' := ?_) #[true, true, true, true, false, true, false, false, false, false] rfl rfl (any_of HT_.out (by kernel_rfl)) (fun _ _ _ h => h) (Or.inl ⟨by rfl, ?_⟩) ?_ ?_
             rotate_left
             ·intro w'
              go_simp
              with_reducible rfl
             rotate_left
             ·simp only [Act.put, List.setIfInBounds_toArray, List.set_cons_zero, List.set_cons_succ, i64_w, i32_w]
              rfl
             refine pure_ (i := 6) (N := some 32) (v := ?_) (a' := ?_) #[true, true, true, true, false, true, true, false, false, false] rfl rfl (any_of HT_.out (by kernel_rfl)) (fun _ _ _ h => h) (Or.inl ⟨by rfl, ?_⟩) ?_ ?_
             rotate_left
             ·intro w'
              go_simp
              with_reducible rfl
             rotate_left
             ·simp only [Act.put, List.setIfInBounds_toArray, List.set_cons_zero, List.set_cons_succ, i64_w, i32_w]
              rfl
             refine pure_ (i := 7) (N := some 33) (v := ?_) (a' := ?_) #[true, true, true, true, false, true, true, true, false, false] rfl rfl (any_of HT_.out (by kernel_rfl)) (fun _ _ _ h => h) (Or.inl ⟨by rfl, ?_⟩) ?_ ?_
             rotate_left
             ·intro w'
              go_simp
              with_reducible rfl
             rotate_left
             ·simp only [Act.put, List.setIfInBounds_toArray, List.set_cons_zero, List.set_cons_succ, i64_w, i32_w]
              rfl
             refine take_ (i := 4) (N := some 30) (v := ?_) (a' := ?_) #[true, true, true, true, true, true, true, true, false, false] rfl rfl (take_ofW HT_.out HW_.out (by kernel_rfl)) (fun _ _ _ h => h) (Or.inl ⟨by rfl, ?_⟩) hHeld ?_ ?_
             rotate_left
             ·rintro w' ⟨s0, s1, s2, s3⟩
              go_simp
              with_reducible rfl
             rotate_left
             ·simp only [Act.put, List.setIfInBounds_toArray, List.set_cons_zero, List.set_cons_succ, i64_w, i32_w]
              rfl
             refine take_ (i := 8) (N := some 34) (v := ?_) (a' := ?_) #[true, true, true, true, true, true, true, true, true, false] rfl rfl (take_ofW HT_.out HW_.out (by kernel_rfl)) (fun _ _ _ h => h) (Or.inl ⟨by rfl, ?_⟩) hHeld ?_ ?_
             rotate_left
             ·rintro w' ⟨s0, s1, s2, s3⟩
              go_simp
              with_reducible rfl
             rotate_left
             ·simp only [Act.put, List.setIfInBounds_toArray, List.set_cons_zero, List.set_cons_succ, i64_w, i32_w]
              rfl
             refine one_ (i := 9) (N := some 35) #[true, true, true, true, true, true, true, true, true, true] rfl rfl (one_of HT_.out (by kernel_rfl)) (by decide) (fun K hK => ?_)
             refine goes_ Try.func28 (by kernel_rfl) rfl #[.slice (some ad327) l0.length c0, .agg #[.slice A327_0 ((rd_T50 l0 x7_2).f0).length c327_0, .slice A327_1 ((rd_T50 l0 x7_2).f1).length c327_1], .agg #[.slice A328_0 ((rd_T50 l1 x6_1).f0).length c328_0, .slice A328_1 ((rd_T50 l1 x6_1).f1).length c328_1]] (by rfl) rfl rfl (by (try simp only [List.map_toArray, List.map_cons, List.map_nil]); first | done | rfl | (simp only [List.length_drop, List.length_take]; rfl)) ?_
             with_reducible refine (arlinkref22_Leads.calls k2 _ _ l0 _ _ ((rd_T50 l0 x7_2).f0) _ _ ((rd_T50 l0 x7_2).f1) _ _ ((rd_T50 l1 x6_1).f0) _ _ ((rd_T50 l1 x6_1).f1) false _ ?side1 ?side2 ?side3 ?side4 ?side5 ?side6 ?side7 ?side8 ?side9 ?side10 A12.out).mono ?_
             (case side1 => repeat (first | exact (Kd.C_below HR0.out HB.out) | (with_reducible refine Kd.C_alloc ?_ _) | (with_reducible refine Kd.C_drewN ?_ _) | (with_reducible refine Kd.C_drew ?_)))
             (case side2 => exact HC0.out)
             (case side3 => repeat (first | exact (Kd.C_below HR327_0.out HB.out) | (with_reducible refine Kd.C_alloc ?_ _) | (with_reducible refine Kd.C_drewN ?_ _) | (with_reducible refine Kd.C_drew ?_)))
             (case side4 => exact HC327_0.out)
             (case side5 => repeat (first | exact (Kd.C_below HR327_1.out HB.out) | (with_reducible refine Kd.C_alloc ?_ _) | (with_reducible refine Kd.C_drewN ?_ _) | (with_reducible refine Kd.C_drew ?_)))
             (case side6 => exact HC327_1.out)
             (case side7 => repeat (first | exact (Kd.C_below HR328_0.out HB.out) | (with_reducible refine Kd.C_alloc ?_ _) | (with_reducible refine Kd.C_drewN ?_ _) | (with_reducible refine Kd.C_drew ?_)))
             (case side8 => exact HC328_0.out)
             (case side9 => repeat (first | exact (Kd.C_below HR328_1.out HB.out) | (with_reducible refine Kd.C_alloc ?_ _) | (with_reducible refine Kd.C_drewN ?_ _) | (with_reducible refine Kd.C_drew ?_)))
             (case side10 => exact HC328_1.out)
             rintro e w21 ⟨rfl, hb⟩
             refine ⟨_, rfl, ?_⟩
             have n0_ := Aside0.mk (Kd.R_below (by (with_reducible repeat (first | apply Kd.R_alloc | apply Kd.R_drewN | apply Kd.R_drew)); exact HO_5.out) hb)
             have n1_ := Aside0.mk (below_step (by repeat (first | (with_reducible first | exact HB.out | apply below_alloc | apply pw_below_drewN | apply below_drew1) | exact HB.out)) hb)
             clear HO_5
             clear HB
             have HO_5 := n0_
             have HB := n1_
             clear n0_ n1_
             (try clear hb)
             (try clear hb2)
             (try clear hk)
             (try clear hi)
             refine hK.out _ _ ⟨((HB.out.cell (World.block_lt_of_cell? w _ hw327_0)).trans hw327_0), ((HB.out.cell (World.block_lt_of_cell? w _ hw327_1)).trans hw327_1), ((HB.out.cell (World.block_lt_of_cell? w _ hw328_0)).trans hw328_0), ((HB.out.cell (World.block_lt_of_cell? w _ hw328_1)).trans hw328_1)⟩ (fun hHeld => ?_)
             clear hK K
             refine norm_ (a' := ?_) ?_ ?_
             rotate_left
             ·show Act.put _ (some 35) _ = _
              simp only [Act.put, List.setIfInBounds_toArray, List.set_cons_zero, List.set_cons_succ, i64_w, i32_w]
              rfl
             refine done_ (done_of HT_.out (by kernel_rfl)) ?_
             try go_wp2
             go_roundg k2
             case measure => have := HK1.out; have := HK2.out; omega
             case rel => exact ⟨(x5_2), (wrap64 (x7_2 + 1)), (by first | rfl | (simp; done) | (simp [*]; done)), H', ⟨by have := HK1.out; have := HK2.out; omega⟩, ⟨by (with_reducible repeat (first | apply Kd.R_alloc | apply Kd.R_drewN | apply Kd.R_drew)); exact HO_5.out⟩, ⟨by repeat (first | (with_reducible first | exact HB.out | apply below_alloc | apply pw_below_drewN | apply below_drew1) | exact HB.out)⟩⟩
           ·rw [if_neg c11] at H
            exact absurd H (by simp)
          ·rw [if_neg c10] at H
           exact absurd H (by simp)
         ·rw [if_neg c9] at H
          exact absurd H (by simp)
        ·rw [if_neg c8] at H
         have c8b0 : decide (x7_2 < (l0.length : Int)) = false := decide_eq_false c8
         clear c8
         have H' := Aside0.mk H
         clear H
         go_wp2
         go_roundg k2
         case measure => have := HK1.out; have := HK2.out; omega
         case rel => exact ⟨(x5_2), (wrap64 (x6_1 + 1)), (by first | rfl | (simp; done) | (simp [*]; done)), H', ⟨by have := HK1.out; have := HK2.out; omega⟩, ⟨by (with_reducible repeat (first | apply Kd.R_alloc | apply Kd.R_drewN | apply Kd.R_drew)); exact HO_5.out⟩, ⟨by repeat (first | (with_reducible first | exact HB.out | apply below_alloc | apply pw_below_drewN | apply below_drew1) | exact HB.out)⟩⟩
     ·rw [if_neg c7] at H
      have c7b0 : decide (x6_1 < (l1.length : Int)) = false := decide_eq_false c7
      clear c7
      have H' := Aside0.mk H
      clear H
      go_wp2
      go_loopg [8] k1 (fun kq v8 w' => ∃ (x5_2 : List Int) (x8_2 : Int), v8 = .int .i64 x8_2 ∧ Aside0 (arlinkref22_Needed.l2 kq l0 l1 x5_2 x8_2 = some r) ∧ Aside0 (kq ≤ k1) ∧ Aside0 (Kd.R (Kd.int .i64) 3 w' w.heap.size (fun _ => True) v325 x5_2) ∧ Aside0 (Below w.heap.size w w'))
      case atStart => exact ⟨(x5_1), (1), (by first | rfl | (simp; done) | (simp [*]; done)), H', ⟨Nat.le_refl _⟩, ⟨by (with_reducible repeat (first | apply Kd.R_alloc | apply Kd.R_drewN | apply Kd.R_drew)); exact HO_5.out⟩, ⟨by repeat (first | (with_reducible first | exact HB.out | apply below_alloc | apply pw_below_drewN | apply below_drew1) | exact HB.out)⟩⟩
      case round =>
       clear H'
       try clear c1
       try clear p1
       try clear q1
       try clear hx1
       try clear c2
       try clear p2
       try clear c3
       try clear c3b0
       try clear c3b1
       try clear p3
       try clear q3
       try clear hx3
       try clear c4
       try clear c4b0
       try clear c4b1
       try clear p6
       try clear c7
       try clear c7b0
       try clear c8
       try clear c8b0
       try clear c9
       try clear c9b0
       try clear c10
       try clear c10b0
       try clear c11
       try clear c11b0
       try clear c13
       try clear c14
       try clear c14b0
       try clear p15
       try clear q15
       try clear hx15
       try clear hf15
       try clear hx15_0
       try clear hx327_0
       try clear hx327_1
       try clear hx328_0
       try clear hx328_1
       try clear p15
       try clear p2
       try clear p327
       try clear p328
       try clear q15
       try clear q327
       try clear q328
       obtain ⟨x5_2, x8_2, rfl, HA, HK2, HO_5, HB⟩ := hrel
       cases gk with
       | zero => exact absurd HA.out (by simp [arlinkref22_Needed.l2])
       | succ k2 =>
        have H := HA.out
        clear HA
        simp only [arlinkref22_Needed.l2] at H
        by_cases c22 : x8_2 ≤ (l1.length : Int)
        ·rw [if_pos c22] at H
         have c22b0 : decide (x8_2 ≤ (l1.length : Int)) = true := decide_eq_true c22
         clear c22
         have H' := Aside0.mk H
         clear H
         go_wp2
         go_loopg [9] k2 (fun kq v9 w' => ∃ (x5_3 : List Int) (x9_3 : Int), v9 = .int .i64 x9_3 ∧ Aside0 (arlinkref22_Needed.l3 kq l0 l1 x5_3 x8_2 x9_3 = some r) ∧ Aside0 (kq ≤ k2) ∧ Aside0 (Kd.R (Kd.int .i64) 3 w' w.heap.size (fun _ => True) v325 x5_3) ∧ Aside0 (Below w.heap.size w w'))
         case atStart => exact ⟨(x5_2), (0), (by first | rfl | (simp; done) | (simp [*]; done)), H', ⟨Nat.le_refl _⟩, ⟨by (with_reducible repeat (first | apply Kd.R_alloc | apply Kd.R_drewN | apply Kd.R_drew)); exact HO_5.out⟩, ⟨by repeat (first | (with_reducible first | exact HB.out | apply below_alloc | apply pw_below_drewN | apply below_drew1) | exact HB.out)⟩⟩
         case round =>
          clear H'
          try clear c1
          try clear p1
          try clear q1
          try clear hx1
          try clear c2
          try clear p2
          try clear c3
          try clear c3b0
          try clear c3b1
          try clear p3
          try clear q3
          try clear hx3
          try clear c4
          try clear c4b0
          try clear c4b1
          try clear p6
          try clear c7
          try clear c7b0
          try clear c8
          try clear c8b0
          try clear c9
          try clear c9b0
          try clear c10
          try clear c10b0
          try clear c11
          try clear c11b0
          try clear c13
          try clear c14
          try clear c14b0
          try clear p15
          try clear q15
          try clear hx15
          try clear hf15
          try clear c22
          try clear c22b0
          try clear hx15_0
          try clear hx327_0
          try clear hx327_1
          try clear hx328_0
          try clear hx328_1
          try clear p1
          try clear p15
          try clear p2
          try clear p3
          try clear p327
          try clear p328
          try clear p6
          try clear q1
          try clear q15
          try clear q3
          try clear q327
          try clear q328
          obtain ⟨x5_3, x9_3, rfl, HA, HK3, HO_5, HB⟩ := hrel
          cases gk with
          | zero => exact absurd HA.out (by simp [arlinkref22_Needed.l3])
          | succ k3 =>
           have H := HA.out
           clear HA
           simp only [arlinkref22_Needed.l3] at H
           by_cases c23 : x9_3 < (l1.length : Int)
           ·rw [if_pos c23] at H
            have c23b0 : decide (x9_3 < (l1.length : Int)) = true := decide_eq_true c23
            clear c23
            have H' := Aside0.mk H
            clear H
            go_wp2
            go_loopg [10] k3 (fun kq v10 w' => ∃ (x5_4 : List Int) (x10_4 : Int), v10 = .int .i64 x10_4 ∧ Aside0 (arlinkref22_Needed.l4 kq l0 l1 x5_4 x8_2 x9_3 x10_4 = some r) ∧ Aside0 (kq ≤ k3) ∧ Aside0 (Kd.R (Kd.int .i64) 3 w' w.heap.size (fun _ => True) v325 x5_4) ∧ Aside0 (Below w.heap.size w w'))
            case atStart => exact ⟨(x5_3), (0), (by first | rfl | (simp; done) | (simp [*]; done)), H', ⟨Nat.le_refl _⟩, ⟨by (with_reducible repeat (first | apply Kd.R_alloc | apply Kd.R_drewN | apply Kd.R_drew)); exact HO_5.out⟩, ⟨by repeat (first | (with_reducible first | exact HB.out | apply below_alloc | apply pw_below_drewN | apply below_drew1) | exact HB.out)⟩⟩
            case round =>
             clear H'
             try clear c1
             try clear p1
             try clear q1
             try clear hx1
             try clear c2
             try clear p2
             try clear c3
             try clear c3b0
             try clear c3b1
             try clear p3
             try clear q3
             try clear hx3
             try clear c4
             try clear c4b0
             try clear c4b1
             try clear p6
             try clear c7
             try clear c7b0
             try clear c8
             try clear c8b0
             try clear c9
             try clear c9b0
             try clear c10
             try clear c10b0
             try clear c11
             try clear c11b0
             try clear c13
             try clear c14
             try clear c14b0
             try clear p15
             try clear q15
             try clear hx15
             try clear hf15
             try clear c22
             try clear c22b0
             try clear c23
             try clear c23b0
             try clear hx15_0
             try clear hx327_0
             try clear hx327_1
             try clear hx328_0
             try clear hx328_1
             try clear p1
             try clear p15
             try clear p2
             try clear p3
             try clear p327
             try clear p328
             try clear p6
             try clear q1
             try clear q15
             try clear q3
             try clear q327
             try clear q328
             obtain ⟨x5_4, x10_4, rfl, HA, HK4, HO_5, HB⟩ := hrel
             cases gk with
             | zero => exact absurd HA.out (by simp [arlinkref22_Needed.l4])
             | succ k4 =>
              have H := HA.out
              clear HA
              simp only [arlinkref22_Needed.l4] at H
              by_cases c24 : x10_4 < (l1.length : Int)
              ·rw [if_pos c24] at H
               have c24b0 : decide (x10_4 < (l1.length : Int)) = true := decide_eq_true c24
               clear c24
               by_cases c25 : 0 ≤ x10_4
               ·rw [if_pos c25] at H
                have c25b0 : decide (0 ≤ x10_4) = true := decide_eq_true c25
                clear c25
                by_cases c26 : x10_4 < (x5_4.length : Int)
                ·rw [if_pos c26] at H
                 have c26b0 : decide (x10_4 < (x5_4.length : Int)) = true := decide_eq_true c26
                 clear c26
                 by_cases c27 : (rd x5_4 x10_4) = x8_2
                 ·rw [if_pos c27] at H
                  have c27b0 : ((rd x5_4 x10_4) == x8_2) = true := beq_iff_eq.mpr c27
                  have c27b1 : ((rd x5_4 x10_4) != x8_2) = false := bne_eq_false_iff_eq.mpr c27
                  clear c27
                  by_cases c28 : 0 ≤ x9_3
                  ·rw [if_pos c28] at H
                   have c28b0 : decide (0 ≤ x9_3) = true := decide_eq_true c28
                   clear c28
                   by_cases c29 : x9_3 < (x5_4.length : Int)
                   ·rw [if_pos c29] at H
                    have c29b0 : decide (x9_3 < (x5_4.length : Int)) = true := decide_eq_true c29
                    clear c29
                    by_cases c30 : (rd x5_4 x9_3) = 0
                    ·rw [if_pos c30] at H
                     have c30b0 : ((rd x5_4 x9_3) == 0) = true := beq_iff_eq.mpr c30
                     have c30b1 : ((rd x5_4 x9_3) != 0) = false := bne_eq_false_iff_eq.mpr c30
                     clear c30
                     by_cases c31 : x9_3 < (l1.length : Int)
                     ·rw [if_pos c31] at H
                      have c31b0 : decide (x9_3 < (l1.length : Int)) = true := decide_eq_true c31
                      clear c31
                      replace H := Option.bind_eq_some_iff.mp H
                      obtain ⟨t335, A320, H⟩ := H
                      replace H : (if t335 = true then (arlinkref22_Needed.l4 k4 l0 l1 (x5_4.set (x9_3 : Int).toNat (wrap64 (x8_2 + 1))) x8_2 x9_3 (wrap64 (x10_4 + 1))) else (arlinkref22_Needed.l4 k4 l0 l1 x5_4 x8_2 x9_3 (wrap64 (x10_4 + 1)))) = some r := H
                      have A32 := Aside0.mk A320
                      clear A320
                      by_cases c33 : t335 = true
                      ·subst c33
                       have H1 : (arlinkref22_Needed.l4 k4 l0 l1 (x5_4.set (x9_3 : Int).toNat (wrap64 (x8_2 + 1))) x8_2 x9_3 (wrap64 (x10_4 + 1))) = some r := by rw [if_pos rfl] at H; exact H
                       clear H
                       have H := H1
                       clear H1
                       obtain ⟨y336, hy336⟩ : ∃ y_ : List Int, y_ = (x5_4.set (x9_3 : Int).toNat (wrap64 (x8_2 + 1))) := ⟨_, rfl⟩
                       replace H : (arlinkref22_Needed.l4 k4 l0 l1 y336 x8_2 x9_3 (wrap64 (x10_4 + 1))) = some r := by first | (rw [hy336]; with_reducible exact H) | (have H2_ := (Option.bind_some _ _).symm.trans H; rw [hy336]; with_reducible exact H2_) | (have H2_ := (Option.bind_some _ _).symm.trans H; with_reducible exact H2_) | with_reducible exact H | (rw [hy336]; exact H) | exact H
                       have Ny336 := Aside0.mk hy336
                       clear hy336
                       have H' := Aside0.mk H
                       clear H
                       try go_wp2
                       have n0_ := Aside0.mk (Kd.R_drew HO_5.out)
                       have n1_ := Aside0.mk (below_drew1 HB.out)
                       clear HO_5
                       clear HB
                       have HO_5 := n0_
                       have HB := n1_
                       clear n0_ n1_
                       obtain ⟨Ao36, co36, eo36⟩ := Kd.R_slice HO_5.out
                       (first | subst eo36 | (injection eo36 with f1_ f2_ f3_; have f4_ := f1_.symm; have f5_ := f3_.symm; clear f1_ f2_ f3_; subst f4_; subst f5_))
                       have p331 : 0 ≤ (x10_4 : Int) := of_decide_eq_true (by first | (with_reducible assumption) | assumption)
                       have q331 : x10_4 < (x5_4.length : Int) := of_decide_eq_true (by first | (with_reducible assumption) | assumption)
                       obtain ⟨ad331, e331, hx331_0⟩ := Kd.at_int (Kd.R_reads' HO_5.out).2.2 x10_4 p331 q331
                       cases e331
                       replace p331 := eq_true p331
                       replace q331 := eq_true q331
                       have p332 : 0 ≤ (x9_3 : Int) := of_decide_eq_true (by first | (with_reducible assumption) | assumption)
                       have q332 : x9_3 < (x5_4.length : Int) := of_decide_eq_true (by first | (with_reducible assumption) | assumption)
                       obtain ⟨ad332, e332, hx332_0⟩ := Kd.at_int (Kd.R_reads' HO_5.out).2.2 x9_3 p332 q332
                       obtain rfl : ad331 = ad332 := (by injection e332)
                       replace p332 := eq_true p332
                       replace q332 := eq_true q332
                       have p333 : 0 ≤ (x10_4 : Int) := of_decide_eq_true (by first | (with_reducible assumption) | assumption)
                       have q333 : x10_4 < (l1.length : Int) := of_decide_eq_true (by first | (with_reducible assumption) | assumption)
                       obtain ⟨ad333, A333_0, c333_0, A333_1, c333_1, e333, hx333_0, hx333_1, hl333_0, hi333_0, hl333_1, hi333_1⟩ := at_T50 HR1.out x10_4 p333 q333
                       have hw333_1 := hx333_1
                       have hw333_0 := hx333_0
                       cases e333
                       replace hx333_0 := (HB.out.cell (World.block_lt_of_cell? w _ hx333_0)).trans hx333_0
                       replace hx333_1 := (HB.out.cell (World.block_lt_of_cell? w _ hx333_1)).trans hx333_1
                       have HR333_0 := Aside0.mk hi333_0
                       have HC333_0 := Aside0.mk hl333_0
                       clear hi333_0 hl333_0
                       have HR333_1 := Aside0.mk hi333_1
                       have HC333_1 := Aside0.mk hl333_1
                       clear hi333_1 hl333_1
                       replace p333 := eq_true p333
                       replace q333 := eq_true q333
                       have p334 : 0 ≤ (x9_3 : Int) := of_decide_eq_true (by first | (with_reducible assumption) | assumption)
                       have q334 : x9_3 < (l1.length : Int) := of_decide_eq_true (by first | (with_reducible assumption) | assumption)
                       obtain ⟨ad334, A334_0, c334_0, A334_1, c334_1, e334, hx334_0, hx334_1, hl334_0, hi334_0, hl334_1, hi334_1⟩ := at_T50 HR1.out x9_3 p334 q334
                       have hw334_1 := hx334_1
                       have hw334_0 := hx334_0
                       obtain rfl : ad333 = ad334 := (by injection e334)
                       replace hx334_0 := (HB.out.cell (World.block_lt_of_cell? w _ hx334_0)).trans hx334_0
                       replace hx334_1 := (HB.out.cell (World.block_lt_of_cell? w _ hx334_1)).trans hx334_1
                       have HR334_0 := Aside0.mk hi334_0
                       have HC334_0 := Aside0.mk hl334_0
                       clear hi334_0 hl334_0
                       have HR334_1 := Aside0.mk hi334_1
                       have HC334_1 := Aside0.mk hl334_1
                       clear hi334_1 hl334_1
                       replace p334 := eq_true p334
                       replace q334 := eq_true q334
                       refine start_ (n := 25) (S := fun w' => w'.cell? (ad331.add (x10_4).toNat) = some (.int .i64 (rd x5_4 x10_4)) ∧ w'.cell? (ad331.add (x9_3).toNat) = some (.int .i64 (rd x5_4 x9_3)) ∧ w'.cell? (ad333.add ((x10_4).toNat * 2)) = some (.slice A333_0 ((rd_T50 l1 x10_4).f0).length c333_0) ∧ w'.cell? ⟨(ad333.add ((x10_4).toNat * 2)).block, (ad333.add ((x10_4).toNat * 2)).off + 1, none⟩ = some (.slice A333_1 ((rd_T50 l1 x10_4).f1).length c333_1) ∧ w'.cell? (ad333.add ((x9_3).toNat * 2)) = some (.slice A334_0 ((rd_T50 l1 x9_3).f0).length c334_0) ∧ w'.cell? ⟨(ad333.add ((x9_3).toNat * 2)).block, (ad333.add ((x9_3).toNat * 2)).off + 1, none⟩ = some (.slice A334_1 ((rd_T50 l1 x9_3).f1).length c334_1)) (ds := []) #[false, false, false, false, false, false, false, false, false, false, false, false, false, false, false, false, false, false, false, false, false, false, false, false, false] (by kernel_rfl) rfl rfl ⟨hx331_0, hx332_0, ((HB.out.cell (World.block_lt_of_cell? w _ hw333_0)).trans hw333_0), ((HB.out.cell (World.block_lt_of_cell? w _ hw333_1)).trans hw333_1), ((HB.out.cell (World.block_lt_of_cell? w _ hw334_0)).trans hw334_0), ((HB.out.cell (World.block_lt_of_cell? w _ hw334_1)).trans hw334_1)⟩ (fun hHeld => ?_); refine with_tabW arlinkref22_Needed.tab19 arlinkref22_Needed.bits19 (fun HT_ HW_ => ?_)
                       generalize wr.drew = w35 at HO_5 HB HR333_0 HR333_1 HR334_0 HR334_1 hx331_0 hx332_0 hx333_0 hx333_1 hx334_0 hx334_1 hHeld ⊢
                       refine pure_ (i := 0) (N := some 57) (v := ?_) (a' := ?_) #[true, false, false, false, false, false, false, false, false, false, false, false, false, false, false, false, false, false, false, false, false, false, false, false, false] rfl rfl (any_of HT_.out (by kernel_rfl)) (fun _ _ _ h => h) (Or.inl ⟨by rfl, ?_⟩) ?_ ?_
                       rotate_left
                       ·intro w'
                        go_simp
                        with_reducible rfl
                       rotate_left
                       ·simp only [Act.put, List.setIfInBounds_toArray, List.set_cons_zero, List.set_cons_succ, i64_w, i32_w]
                        rfl
                       refine pure_ (i := 1) (N := some 58) (v := ?_) (a' := ?_) #[true, true, false, false, false, false, false, false, false, false, false, false, false, false, false, false, false, false, false, false, false, false, false, false, false] rfl rfl (any_of HT_.out (by kernel_rfl)) (fun _ _ _ h => h) (Or.inl ⟨by rfl, ?_⟩) ?_ ?_
                       rotate_left
                       ·intro w'
                        go_simp
                        with_reducible rfl
                       rotate_left
                       ·simp only [Act.put, List.setIfInBounds_toArray, List.set_cons_zero, List.set_cons_succ, i64_w, i32_w]
                        rfl
                       refine pure_ (i := 2) (N := some 59) (v := ?_) (a' := ?_) #[true, true, true, false, false, false, false, false, false, false, false, false, false, false, false, false, false, false, false, false, false, false, false, false, false] rfl rfl (any_of HT_.out (by kernel_rfl)) (fun _ _ _ h => h) (Or.inl ⟨by rfl, ?_⟩) ?_ ?_
                       rotate_left
                       ·intro w'
                        go_simp
                        with_reducible rfl
                       rotate_left
                       ·simp only [Act.put, List.setIfInBounds_toArray, List.set_cons_zero, List.set_cons_succ, i64_w, i32_w]
                        rfl
                       refine pure_ (i := 4) (N := some 61) (v := ?_) (a' := ?_) #[true, true, true, false, true, false, false, false, false, false, false, false, false, false, false, false, false, false, false, false, false, false, false, false, false] rfl rfl (any_of HT_.out (by kernel_rfl)) (fun _ _ _ h => h) (Or.inl ⟨by rfl, ?_⟩) ?_ ?_
                       rotate_left
                       ·intro w'
                        go_simp
                        with_reducible rfl
                       rotate_left
                       ·simp only [Act.put, List.setIfInBounds_toArray, List.set_cons_zero, List.set_cons_succ, i64_w, i32_w]
                        rfl
                       refine take_ (i := 3) (N := some 60) (v := ?_) (a' := ?_) #[true, true, true, true, true, false, false, false, false, false, false, false, false, false, false, false, false, false, false, false, false, false, false, false, false] rfl rfl (take_ofW HT_.out HW_.out (by kernel_rfl)) (fun _ _ _ h => h) (Or.inl ⟨by rfl, ?_⟩) hHeld ?_ ?_
                       rotate_left
                       ·rintro w' ⟨s0, s1, s2, s3, s4, s5⟩
                        go_simp
                        with_reducible rfl
                       rotate_left
                       ·simp only [Act.put, List.setIfInBounds_toArray, List.set_cons_zero, List.set_cons_succ, i64_w, i32_w]
                        rfl
                       refine pure_ (i := 5) (N := some 62) (v := ?_) (a' := ?_) #[true, true, true, true, true, true, false, false, false, false, false, false, false, false, false, false, false, false, false, false, false, false, false, false, false] rfl rfl (any_of HT_.out (by kernel_rfl)) (fun _ _ _ h => h) (Or.inl ⟨by rfl, ?_⟩) ?_ ?_
                       rotate_left
                       ·intro w'
                        go_simp
                        with_reducible rfl
                       rotate_left
                       ·simp only [Act.put, List.setIfInBounds_toArray, List.set_cons_zero, List.set_cons_succ, i64_w, i32_w]
                        rfl
                       refine pure_ (i := 6) (N := some 63) (v := ?_) (a' := ?_) #[true, true, true, true, true, true, true, false, false, false, false, false, false, false, false, false, false, false, false, false, false, false, false, false, false] rfl rfl (any_of HT_.out (by kernel_rfl)) (fun _ _ _ h => h) (Or.inl ⟨by rfl, ?_⟩) ?_ ?_
                       rotate_left
                       ·intro w'
                        go_simp
                        with_reducible rfl
                       rotate_left
                       ·simp only [Act.put, List.setIfInBounds_toArray, List.set_cons_zero, List.set_cons_succ, i64_w, i32_w]
                        rfl
                       refine pure_ (i := 7) (N := some 64) (v := ?_) (a' := ?_) #[true, true, true, true, true, true, true, true, false, false, false, false, false, false, false, false, false, false, false, false, false, false, false, false, false] rfl rfl (any_of HT_.out (by kernel_rfl)) (fun _ _ _ h => h) (Or.inl ⟨by rfl, ?_⟩) ?_ ?_
                       rotate_left
                       ·intro w'
                        go_simp
                        with_reducible rfl
                       rotate_left
                       ·simp only [Act.put, List.setIfInBounds_toArray, List.set_cons_zero, List.set_cons_succ, i64_w, i32_w]
                        rfl
                       refine pure_ (i := 8) (N := some 65) (v := ?_) (a' := ?_) #[true, true, true, true, true, true, true, true, true, false, false, false, false, false, false, false, false, false, false, false, false, false, false, false, false] rfl rfl (any_of HT_.out (by kernel_rfl)) (fun _ _ _ h => h) (Or.inl ⟨by rfl, ?_⟩) ?_ ?_
                       rotate_left
                       ·intro w'
                        go_simp
                        with_reducible rfl
                       rotate_left
                       ·simp only [Act.put, List.setIfInBounds_toArray, List.set_cons_zero, List.set_cons_succ, i64_w, i32_w]
                        rfl
                       refine pure_ (i := 9) (N := some 66) (v := ?_) (a' := ?_) #[true, true, true, true, true, true, true, true, true, true, false, false, false, false, false, false, false, false, false, false, false, false, false, false, false] rfl rfl (any_of HT_.out (by kernel_rfl)) (fun _ _ _ h => h) (Or.inl ⟨by rfl, ?_⟩) ?_ ?_
                       rotate_left
                       ·intro w'
                        go_simp
                        with_reducible rfl
                       rotate_left
                       ·simp only [Act.put, List.setIfInBounds_toArray, List.set_cons_zero, List.set_cons_succ, i64_w, i32_w]
                        rfl
                       refine take_ (i := 10) (N := some 67) (v := ?_) (a' := ?_) #[true, true, true, true, true, true, true, true, true, true, true, false, false, false, false, false, false, false, false, false, false, false, false, false, false] rfl rfl (take_ofW HT_.out HW_.out (by kernel_rfl)) (fun _ _ _ h => h) (Or.inl ⟨by rfl, ?_⟩) hHeld ?_ ?_
                       rotate_left
                       ·rintro w' ⟨s0, s1, s2, s3, s4, s5⟩
                        go_simp
                        with_reducible rfl
                       rotate_left
                       ·simp only [Act.put, List.setIfInBounds_toArray, List.set_cons_zero, List.set_cons_succ, i64_w, i32_w]
                        rfl
                       refine pure_ (i := 11) (N := some 68) (v := ?_) (a' := ?_) #[true, true, true, true, true, true, true, true, true, true, true, true, false, false, false, false, false, false, false, false, false, false, false, false, false] rfl rfl (any_of HT_.out (by kernel_rfl)) (fun _ _ _ h => h) (Or.inl ⟨by rfl, ?_⟩) ?_ ?_
                       rotate_left
                       ·intro w'
                        go_simp
                        with_reducible rfl
                       rotate_left
                       ·simp only [Act.put, List.setIfInBounds_toArray, List.set_cons_zero, List.set_cons_succ, i64_w, i32_w]
                        rfl
                       refine pure_ (i := 12) (N := some 69) (v := ?_) (a' := ?_) #[true, true, true, true, true, true, true, true, true, true, true, true, true, false, false, false, false, false, false, false, false, false, false, false, false] rfl rfl (any_of HT_.out (by kernel_rfl)) (fun _ _ _ h => h) (Or.inl ⟨by rfl, ?_⟩) ?_ ?_
                       rotate_left
                       ·intro w'
                        go_simp
                        with_reducible rfl
                       rotate_left
                       ·simp only [Act.put, List.setIfInBounds_toArray, List.set_cons_zero, List.set_cons_succ, i64_w, i32_w]
                        rfl
                       refine pure_ (i := 13) (N := some 70) (v := ?_) (a' := ?_) #[true, true, true, true, true, true, true, true, true, true, true, true, true, true, false, false, false, false, false, false, false, false, false, false, false] rfl rfl (any_of HT_.out (by kernel_rfl)) (fun _ _ _ h => h) (Or.inl ⟨by rfl, ?_⟩) ?_ ?_
                       rotate_left
                       ·intro w'
                        go_simp
                        with_reducible rfl
                       rotate_left
                       ·simp only [Act.put, List.setIfInBounds_toArray, List.set_cons_zero, List.set_cons_succ, i64_w, i32_w]
                        rfl
                       refine pure_ (i := 14) (N := some 71) (v := ?_) (a' := ?_) #[true, true, true, true, true, true, true, true, true, true, true, true, true, true, true, false, false, false, false, false, false, false, false, false, false] rfl rfl (any_of HT_.out (by kernel_rfl)) (fun _ _ _ h => h) (Or.inl ⟨by rfl, ?_⟩) ?_ ?_
                       rotate_left
                       ·intro w'
                        go_simp
                        with_reducible rfl
                       rotate_left
                       ·simp only [Act.put, List.setIfInBounds_toArray, List.set_cons_zero, List.set_cons_succ, i64_w, i32_w]
                        rfl
                       refine pure_ (i := 15) (N := some 72) (v := ?_) (a' := ?_) #[true, true, true, true, true, true, true, true, true, true, true, true, true, true, true, true, false, false, false, false, false, false, false, false, false] rfl rfl (any_of HT_.out (by kernel_rfl)) (fun _ _ _ h => h) (Or.inl ⟨by rfl, ?_⟩) ?_ ?_
                       rotate_left
                       ·intro w'
                        go_simp
                        with_reducible rfl
                       rotate_left
                       ·simp only [Act.put, List.setIfInBounds_toArray, List.set_cons_zero, List.set_cons_succ, i64_w, i32_w]
                        rfl
                       refine pure_ (i := 16) (N := some 73) (v := ?_) (a' := ?_) #[true, true, true, true, true, true, true, true, true, true, true, true, true, true, true, true, true, false, false, false, false, false, false, false, false] rfl rfl (any_of HT_.out (by kernel_rfl)) (fun _ _ _ h => h) (Or.inl ⟨by rfl, ?_⟩) ?_ ?_
                       rotate_left
                       ·intro w'
                        go_simp
                        with_reducible rfl
                       rotate_left
                       ·simp only [Act.put, List.setIfInBounds_toArray, List.set_cons_zero, List.set_cons_succ, i64_w, i32_w]
                        rfl
                       refine pure_ (i := 17) (N := some 74) (v := ?_) (a' := ?_) #[true, true, true, true, true, true, true, true, true, true, true, true, true, true, true, true, true, true, false, false, false, false, false, false, false] rfl rfl (any_of HT_.out (by kernel_rfl)) (fun _ _ _ h => h) (Or.inl ⟨by rfl, ?_⟩) ?_ ?_
                       rotate_left
                       ·intro w'
                        go_simp
                        with_reducible rfl
                       rotate_left
                       ·simp only [Act.put, List.setIfInBounds_toArray, List.set_cons_zero, List.set_cons_succ, i64_w, i32_w]
                        rfl
                       refine pure_ (i := 19) (N := some 76) (v := ?_) (a' := ?_) #[true, true, true, true, true, true, true, true, true, true, true, true, true, true, true, true, true, true, false, true, false, false, false, false, false] rfl rfl (any_of HT_.out (by kernel_rfl)) (fun _ _ _ h => h) (Or.inl ⟨by rfl, ?_⟩) ?_ ?_
                       rotate_left
                       ·intro w'
                        go_simp
                        with_reducible rfl
                       rotate_left
                       ·simp only [Act.put, List.setIfInBounds_toArray, List.set_cons_zero, List.set_cons_succ, i64_w, i32_w]
                        rfl
                       refine pure_ (i := 20) (N := some 77) (v := ?_) (a' := ?_) #[true, true, true, true, true, true, true, true, true, true, true, true, true, true, true, true, true, true, false, true, true, false, false, false, false] rfl rfl (any_of HT_.out (by kernel_rfl)) (fun _ _ _ h => h) (Or.inl ⟨by rfl, ?_⟩) ?_ ?_
                       rotate_left
                       ·intro w'
                        go_simp
                        with_reducible rfl
                       rotate_left
                       ·simp only [Act.put, List.setIfInBounds_toArray, List.set_cons_zero, List.set_cons_succ, i64_w, i32_w]
                        rfl
                       refine pure_ (i := 21) (N := some 78) (v := ?_) (a' := ?_) #[true, true, true, true, true, true, true, true, true, true, true, true, true, true, true, true, true, true, false, true, true, true, false, false, false] rfl rfl (any_of HT_.out (by kernel_rfl)) (fun _ _ _ h => h) (Or.inl ⟨by rfl, ?_⟩) ?_ ?_
                       rotate_left
                       ·intro w'
                        go_simp
                        with_reducible rfl
                       rotate_left
                       ·simp only [Act.put, List.setIfInBounds_toArray, List.set_cons_zero, List.set_cons_succ, i64_w, i32_w]
                        rfl
                       refine take_ (i := 18) (N := some 75) (v := ?_) (a' := ?_) #[true, true, true, true, true, true, true, true, true, true, true, true, true, true, true, true, true, true, true, true, true, true, false, false, false] rfl rfl (take_ofW HT_.out HW_.out (by kernel_rfl)) (fun _ _ _ h => h) (Or.inl ⟨by rfl, ?_⟩) hHeld ?_ ?_
                       rotate_left
                       ·rintro w' ⟨s0, s1, s2, s3, s4, s5⟩
                        go_simp
                        with_reducible rfl
                       rotate_left
                       ·simp only [Act.put, List.setIfInBounds_toArray, List.set_cons_zero, List.set_cons_succ, i64_w, i32_w]
                        rfl
                       refine take_ (i := 22) (N := some 79) (v := ?_) (a' := ?_) #[true, true, true, true, true, true, true, true, true, true, true, true, true, true, true, true, true, true, true, true, true, true, true, false, false] rfl rfl (take_ofW HT_.out HW_.out (by kernel_rfl)) (fun _ _ _ h => h) (Or.inl ⟨by rfl, ?_⟩) hHeld ?_ ?_
                       rotate_left
                       ·rintro w' ⟨s0, s1, s2, s3, s4, s5⟩
                        go_simp
                        with_reducible rfl
                       rotate_left
                       ·simp only [Act.put, List.setIfInBounds_toArray, List.set_cons_zero, List.set_cons_succ, i64_w, i32_w]
                        rfl
                       refine one_ (i := 23) (N := some 80) #[true, true, true, true, true, true, true, true, true, true, true, true, true, true, true, true, true, true, true, true, true, true, true, true, false] rfl rfl (one_of HT_.out (by kernel_rfl)) (by decide) (fun K hK => ?_)
                       refine goes_ Try.func28 (by kernel_rfl) rfl #[.slice A0 l0.length c0, .agg #[.slice A333_0 ((rd_T50 l1 x10_4).f0).length c333_0, .slice A333_1 ((rd_T50 l1 x10_4).f1).length c333_1], .agg #[.slice A334_0 ((rd_T50 l1 x9_3).f0).length c334_0, .slice A334_1 ((rd_T50 l1 x9_3).f1).length c334_1]] (by rfl) rfl rfl (by (try simp only [List.map_toArray, List.map_cons, List.map_nil]); first | done | rfl | (simp only [List.length_drop, List.length_take]; rfl)) ?_
                       with_reducible refine (arlinkref22_Leads.calls k4 _ _ l0 _ _ ((rd_T50 l1 x10_4).f0) _ _ ((rd_T50 l1 x10_4).f1) _ _ ((rd_T50 l1 x9_3).f0) _ _ ((rd_T50 l1 x9_3).f1) true _ ?side1 ?side2 ?side3 ?side4 ?side5 ?side6 ?side7 ?side8 ?side9 ?side10 A32.out).mono ?_
                       (case side1 => repeat (first | exact (Kd.C_below HR0.out HB.out) | (with_reducible refine Kd.C_alloc ?_ _) | (with_reducible refine Kd.C_drewN ?_ _) | (with_reducible refine Kd.C_drew ?_)))
                       (case side2 => exact HC0.out)
                       (case side3 => repeat (first | exact (Kd.C_below HR333_0.out HB.out) | (with_reducible refine Kd.C_alloc ?_ _) | (with_reducible refine Kd.C_drewN ?_ _) | (with_reducible refine Kd.C_drew ?_)))
                       (case side4 => exact HC333_0.out)
                       (case side5 => repeat (first | exact (Kd.C_below HR333_1.out HB.out) | (with_reducible refine Kd.C_alloc ?_ _) | (with_reducible refine Kd.C_drewN ?_ _) | (with_reducible refine Kd.C_drew ?_)))
                       (case side6 => exact HC333_1.out)
                       (case side7 => repeat (first | exact (Kd.C_below HR334_0.out HB.out) | (with_reducible refine Kd.C_alloc ?_ _) | (with_reducible refine Kd.C_drewN ?_ _) | (with_reducible refine Kd.C_drew ?_)))
                       (case side8 => exact HC334_0.out)
                       (case side9 => repeat (first | exact (Kd.C_below HR334_1.out HB.out) | (with_reducible refine Kd.C_alloc ?_ _) | (with_reducible refine Kd.C_drewN ?_ _) | (with_reducible refine Kd.C_drew ?_)))
                       (case side10 => exact HC334_1.out)
                       rintro e w37 ⟨rfl, hb⟩
                       have HS0_ := (hb.cell (World.block_lt_of_cell? _ _ (hHeld.1))).trans (hHeld.1)
                       have HS1_ := (hb.cell (World.block_lt_of_cell? _ _ (hHeld.2.1))).trans (hHeld.2.1)
                       refine ⟨_, rfl, ?_⟩
                       have n0_ := Aside0.mk (Kd.R_below (by (with_reducible repeat (first | apply Kd.R_alloc | apply Kd.R_drewN | apply Kd.R_drew)); exact HO_5.out) hb)
                       have n1_ := Aside0.mk (below_step (by repeat (first | (with_reducible first | exact HB.out | apply below_alloc | apply pw_below_drewN | apply below_drew1) | exact HB.out)) hb)
                       clear HO_5
                       clear HB
                       have HO_5 := n0_
                       have HB := n1_
                       clear n0_ n1_
                       (try clear hb)
                       (try clear hb2)
                       (try clear hk)
                       (try clear hi)
                       refine hK.out _ _ ⟨HS0_, HS1_, ((HB.out.cell (World.block_lt_of_cell? w _ hw333_0)).trans hw333_0), ((HB.out.cell (World.block_lt_of_cell? w _ hw333_1)).trans hw333_1), ((HB.out.cell (World.block_lt_of_cell? w _ hw334_0)).trans hw334_0), ((HB.out.cell (World.block_lt_of_cell? w _ hw334_1)).trans hw334_1)⟩ (fun hHeld => ?_)
                       clear hK K
                       refine norm_ (a' := ?_) ?_ ?_
                       rotate_left
                       ·show Act.put _ (some 80) _ = _
                        simp only [Act.put, List.setIfInBounds_toArray, List.set_cons_zero, List.set_cons_succ, i64_w, i32_w]
                        rfl
                       refine pure_ (i := 24) (N := some 81) (v := ?_) (a' := ?_) #[true, true, true, true, true, true, true, true, true, true, true, true, true, true, true, true, true, true, true, true, true, true, true, true, true] rfl rfl (any_of HT_.out (by kernel_rfl)) (fun _ _ _ h => h) (Or.inl ⟨by rfl, ?_⟩) ?_ ?_
                       rotate_left
                       ·intro w'
                        go_simp
                        with_reducible rfl
                       rotate_left
                       ·simp only [Act.put, List.setIfInBounds_toArray, List.set_cons_zero, List.set_cons_succ, i64_w, i32_w]
                        rfl
                       refine done_ (done_of HT_.out (by kernel_rfl)) ?_
                       have p34 : 0 ≤ (x9_3 : Int) := of_decide_eq_true (by first | (with_reducible assumption) | assumption)
                       have q34 : (x9_3 : Int) < ((x5_4.length : Int) : Int) := of_decide_eq_true (by first | (with_reducible assumption) | assumption)
                       obtain ⟨go34, co34, eo34, gb34, gl34, cl34, HG34⟩ := Kd.R_form HO_5.out (by omega)
                       (first | cases eo34 | (injection eo34 with ea_ en_ ec_; (first | subst ea_ | (injection ea_ with ea_; subst ea_)); subst ec_; clear en_))
                       have GB34 := Aside0.mk gb34
                       have GG34 := Aside0.mk HG34
                       clear gb34 gl34 HG34
                       (first | simp only [add_plain] at hx331_0 | skip)
                       (first | simp only [add_plain] at hx332_0 | skip)
                       obtain ⟨hx34_0, hf34_0⟩ := Kd.R_celln 0 HO_5.out (x9_3 : Int) p34 q34
                       replace p34 := eq_true p34
                       replace q34 := eq_true q34
                       obtain ⟨hy38_, hz38_⟩ := Kd.R_celln 0 HO_5.out (x9_3 : Int) (of_decide_eq_true (by first | (with_reducible assumption) | assumption)) (of_decide_eq_true (by first | (with_reducible assumption) | assumption))
                       have HP38 := Kd.R_putg HO_5.out (x9_3 : Int) (wrap64 (x8_2 + 1))
                       try go_wp2_with (first | ((with_reducible refine gate_store (t := 3) (p := 86) rfl ?_); refine store_event (t := 3) (p := 86) (v := ?vo_w39) (w1 := (w37.setCell ⟨go34, (x9_3 : Int).toNat, none⟩ (.int .i64 (wrap64 (x8_2 + 1))))) ?hg ?ho ?hn ?hr ?_; (case ho => rfl); (case hg => rfl); (case hn => rfl); (case hr => first | (go_simp; done) | (go_simp; rfl)); intro w39 hw; have hg : w37.grownBy w39 (some go34) := (by rw [hw]; exact HP38.2); have hp_ : Kd.R (Kd.int .i64) 3 w39 w.heap.size (fun _ => True) (.slice (some ⟨go34, 0, none⟩) x5_4.length co36) y336 := (by rw [hw, Ny336.out]; exact HP38.1); clear HP38; have n0_ := Aside0.mk (hp_); have n1_ := Aside0.mk ((by rw [hw]; exact below_set (HB.out) GB34.out : Below w.heap.size w w39)); clear HO_5; clear HB; have HO_5 := n0_; have HB := n1_; clear n0_ n1_; clear hg hw hp_))
                       go_roundg k4
                       case measure => have := HK1.out; have := HK2.out; have := HK3.out; have := HK4.out; omega
                       case rel => exact ⟨(y336), (wrap64 (x10_4 + 1)), (by first | rfl | (simp; done) | (simp [*]; done)), H', ⟨by have := HK1.out; have := HK2.out; have := HK3.out; have := HK4.out; omega⟩, ⟨by (with_reducible repeat (first | apply Kd.R_alloc | apply Kd.R_drewN | apply Kd.R_drew)); exact HO_5.out⟩, ⟨by repeat (first | (with_reducible first | exact HB.out | apply below_alloc | apply pw_below_drewN | apply below_drew1) | exact HB.out)⟩⟩
                      ·replace c33 := Bool.eq_false_iff.mpr c33
                       subst c33
                       have H1 : (arlinkref22_Needed.l4 k4 l0 l1 x5_4 x8_2 x9_3 (wrap64 (x10_4 + 1))) = some r := by rw [if_neg (show ¬ (false = true) by decide)] at H; exact H
                       clear H
                       have H := H1
                       clear H1
                       have H' := Aside0.mk H
                       clear H
                       try go_wp2
                       have n0_ := Aside0.mk (Kd.R_drew HO_5.out)
                       have n1_ := Aside0.mk (below_drew1 HB.out)
                       clear HO_5
                       clear HB
                       have HO_5 := n0_
                       have HB := n1_
                       clear n0_ n1_
                       obtain ⟨Ao41, co41, eo41⟩ := Kd.R_slice HO_5.out
                       (first | subst eo41 | (injection eo41 with f1_ f2_ f3_; have f4_ := f1_.symm; have f5_ := f3_.symm; clear f1_ f2_ f3_; subst f4_; subst f5_))
                       have p331 : 0 ≤ (x10_4 : Int) := of_decide_eq_true (by first | (with_reducible assumption) | assumption)
                       have q331 : x10_4 < (x5_4.length : Int) := of_decide_eq_true (by first | (with_reducible assumption) | assumption)
                       obtain ⟨ad331, e331, hx331_0⟩ := Kd.at_int (Kd.R_reads' HO_5.out).2.2 x10_4 p331 q331
                       cases e331
                       replace p331 := eq_true p331
                       replace q331 := eq_true q331
                       have p332 : 0 ≤ (x9_3 : Int) := of_decide_eq_true (by first | (with_reducible assumption) | assumption)
                       have q332 : x9_3 < (x5_4.length : Int) := of_decide_eq_true (by first | (with_reducible assumption) | assumption)
                       obtain ⟨ad332, e332, hx332_0⟩ := Kd.at_int (Kd.R_reads' HO_5.out).2.2 x9_3 p332 q332
                       obtain rfl : ad331 = ad332 := (by injection e332)
                       replace p332 := eq_true p332
                       replace q332 := eq_true q332
                       have p333 : 0 ≤ (x10_4 : Int) := of_decide_eq_true (by first | (with_reducible assumption) | assumption)
                       have q333 : x10_4 < (l1.length : Int) := of_decide_eq_true (by first | (with_reducible assumption) | assumption)
                       obtain ⟨ad333, A333_0, c333_0, A333_1, c333_1, e333, hx333_0, hx333_1, hl333_0, hi333_0, hl333_1, hi333_1⟩ := at_T50 HR1.out x10_4 p333 q333
                       have hw333_1 := hx333_1
                       have hw333_0 := hx333_0
                       cases e333
                       replace hx333_0 := (HB.out.cell (World.block_lt_of_cell? w _ hx333_0)).trans hx333_0
                       replace hx333_1 := (HB.out.cell (World.block_lt_of_cell? w _ hx333_1)).trans hx333_1
                       have HR333_0 := Aside0.mk hi333_0
                       have HC333_0 := Aside0.mk hl333_0
                       clear hi333_0 hl333_0
                       have HR333_1 := Aside0.mk hi333_1
                       have HC333_1 := Aside0.mk hl333_1
                       clear hi333_1 hl333_1
                       replace p333 := eq_true p333
                       replace q333 := eq_true q333
                       have p334 : 0 ≤ (x9_3 : Int) := of_decide_eq_true (by first | (with_reducible assumption) | assumption)
                       have q334 : x9_3 < (l1.length : Int) := of_decide_eq_true (by first | (with_reducible assumption) | assumption)
                       obtain ⟨ad334, A334_0, c334_0, A334_1, c334_1, e334, hx334_0, hx334_1, hl334_0, hi334_0, hl334_1, hi334_1⟩ := at_T50 HR1.out x9_3 p334 q334
                       have hw334_1 := hx334_1
                       have hw334_0 := hx334_0
                       obtain rfl : ad333 = ad334 := (by injection e334)
                       replace hx334_0 := (HB.out.cell (World.block_lt_of_cell? w _ hx334_0)).trans hx334_0
                       replace hx334_1 := (HB.out.cell (World.block_lt_of_cell? w _ hx334_1)).trans hx334_1
                       have HR334_0 := Aside0.mk hi334_0
                       have HC334_0 := Aside0.mk hl334_0
                       clear hi334_0 hl334_0
                       have HR334_1 := Aside0.mk hi334_1
                       have HC334_1 := Aside0.mk hl334_1
                       clear hi334_1 hl334_1
                       replace p334 := eq_true p334
                       replace q334 := eq_true q334
                       refine start_ (n := 25) (S := fun w' => w'.cell? (ad331.add (x10_4).toNat) = some (.int .i64 (rd x5_4 x10_4)) ∧ w'.cell? (ad331.add (x9_3).toNat) = some (.int .i64 (rd x5_4 x9_3)) ∧ w'.cell? (ad333.add ((x10_4).toNat * 2)) = some (.slice A333_0 ((rd_T50 l1 x10_4).f0).length c333_0) ∧ w'.cell? ⟨(ad333.add ((x10_4).toNat * 2)).block, (ad333.add ((x10_4).toNat * 2)).off + 1, none⟩ = some (.slice A333_1 ((rd_T50 l1 x10_4).f1).length c333_1) ∧ w'.cell? (ad333.add ((x9_3).toNat * 2)) = some (.slice A334_0 ((rd_T50 l1 x9_3).f0).length c334_0) ∧ w'.cell? ⟨(ad333.add ((x9_3).toNat * 2)).block, (ad333.add ((x9_3).toNat * 2)).off + 1, none⟩ = some (.slice A334_1 ((rd_T50 l1 x9_3).f1).length c334_1)) (ds := []) #[false, false, false, false, false, false, false, false, false, false, false, false, false, false, false, false, false, false, false, false, false, false, false, false, false] (by kernel_rfl) rfl rfl ⟨hx331_0, hx332_0, ((HB.out.cell (World.block_lt_of_cell? w _ hw333_0)).trans hw333_0), ((HB.out.cell (World.block_lt_of_cell? w _ hw333_1)).trans hw333_1), ((HB.out.cell (World.block_lt_of_cell? w _ hw334_0)).trans hw334_0), ((HB.out.cell (World.block_lt_of_cell? w _ hw334_1)).trans hw334_1)⟩ (fun hHeld => ?_); refine with_tabW arlinkref22_Needed.tab19 arlinkref22_Needed.bits19 (fun HT_ HW_ => ?_)
                       generalize wr.drew = w40 at HO_5 HB HR333_0 HR333_1 HR334_0 HR334_1 hx331_0 hx332_0 hx333_0 hx333_1 hx334_0 hx334_1 hHeld ⊢
                       refine pure_ (i := 0) (N := some 57) (v := ?_) (a' := ?_) #[true, false, false, false, false, false, false, false, false, false, false, false, false, false, false, false, false, false, false, false, false, false, false, false, false] rfl rfl (any_of HT_.out (by kernel_rfl)) (fun _ _ _ h => h) (Or.inl ⟨by rfl, ?_⟩) ?_ ?_
                       rotate_left
                       ·intro w'
                        go_simp
                        with_reducible rfl
                       rotate_left
                       ·simp only [Act.put, List.setIfInBounds_toArray, List.set_cons_zero, List.set_cons_succ, i64_w, i32_w]
                        rfl
                       refine pure_ (i := 1) (N := some 58) (v := ?_) (a' := ?_) #[true, true, false, false, false, false, false, false, false, false, false, false, false, false, false, false, false, false, false, false, false, false, false, false, false] rfl rfl (any_of HT_.out (by kernel_rfl)) (fun _ _ _ h => h) (Or.inl ⟨by rfl, ?_⟩) ?_ ?_
                       rotate_left
                       ·intro w'
                        go_simp
                        with_reducible rfl
                       rotate_left
                       ·simp only [Act.put, List.setIfInBounds_toArray, List.set_cons_zero, List.set_cons_succ, i64_w, i32_w]
                        rfl
                       refine pure_ (i := 2) (N := some 59) (v := ?_) (a' := ?_) #[true, true, true, false, false, false, false, false, false, false, false, false, false, false, false, false, false, false, false, false, false, false, false, false, false] rfl rfl (any_of HT_.out (by kernel_rfl)) (fun _ _ _ h => h) (Or.inl ⟨by rfl, ?_⟩) ?_ ?_
                       rotate_left
                       ·intro w'
                        go_simp
                        with_reducible rfl
                       rotate_left
                       ·simp only [Act.put, List.setIfInBounds_toArray, List.set_cons_zero, List.set_cons_succ, i64_w, i32_w]
                        rfl
                       refine pure_ (i := 4) (N := some 61) (v := ?_) (a' := ?_) #[true, true, true, false, true, false, false, false, false, false, false, false, false, false, false, false, false, false, false, false, false, false, false, false, false] rfl rfl (any_of HT_.out (by kernel_rfl)) (fun _ _ _ h => h) (Or.inl ⟨by rfl, ?_⟩) ?_ ?_
                       rotate_left
                       ·intro w'
                        go_simp
                        with_reducible rfl
                       rotate_left
                       ·simp only [Act.put, List.setIfInBounds_toArray, List.set_cons_zero, List.set_cons_succ, i64_w, i32_w]
                        rfl
                       refine take_ (i := 3) (N := some 60) (v := ?_) (a' := ?_) #[true, true, true, true, true, false, false, false, false, false, false, false, false, false, false, false, false, false, false, false, false, false, false, false, false] rfl rfl (take_ofW HT_.out HW_.out (by kernel_rfl)) (fun _ _ _ h => h) (Or.inl ⟨by rfl, ?_⟩) hHeld ?_ ?_
                       rotate_left
                       ·rintro w' ⟨s0, s1, s2, s3, s4, s5⟩
                        go_simp
                        with_reducible rfl
                       rotate_left
                       ·simp only [Act.put, List.setIfInBounds_toArray, List.set_cons_zero, List.set_cons_succ, i64_w, i32_w]
                        rfl
                       refine pure_ (i := 5) (N := some 62) (v := ?_) (a' := ?_) #[true, true, true, true, true, true, false, false, false, false, false, false, false, false, false, false, false, false, false, false, false, false, false, false, false] rfl rfl (any_of HT_.out (by kernel_rfl)) (fun _ _ _ h => h) (Or.inl ⟨by rfl, ?_⟩) ?_ ?_
                       rotate_left
                       ·intro w'
                        go_simp
                        with_reducible rfl
                       rotate_left
                       ·simp only [Act.put, List.setIfInBounds_toArray, List.set_cons_zero, List.set_cons_succ, i64_w, i32_w]
                        rfl
                       refine pure_ (i := 6) (N := some 63) (v := ?_) (a' := ?_) #[true, true, true, true, true, true, true, false, false, false, false, false, false, false, false, false, false, false, false, false, false, false, false, false, false] rfl rfl (any_of HT_.out (by kernel_rfl)) (fun _ _ _ h => h) (Or.inl ⟨by rfl, ?_⟩) ?_ ?_
                       rotate_left
                       ·intro w'
                        go_simp
                        with_reducible rfl
                       rotate_left
                       ·simp only [Act.put, List.setIfInBounds_toArray, List.set_cons_zero, List.set_cons_succ, i64_w, i32_w]
                        rfl
                       refine pure_ (i := 7) (N := some 64) (v := ?_) (a' := ?_) #[true, true, true, true, true, true, true, true, false, false, false, false, false, false, false, false, false, false, false, false, false, false, false, false, false] rfl rfl (any_of HT_.out (by kernel_rfl)) (fun _ _ _ h => h) (Or.inl ⟨by rfl, ?_⟩) ?_ ?_
                       rotate_left
                       ·intro w'
                        go_simp
                        with_reducible rfl
                       rotate_left
                       ·simp only [Act.put, List.setIfInBounds_toArray, List.set_cons_zero, List.set_cons_succ, i64_w, i32_w]
                        rfl
                       refine pure_ (i := 8) (N := some 65) (v := ?_) (a' := ?_) #[true, true, true, true, true, true, true, true, true, false, false, false, false, false, false, false, false, false, false, false, false, false, false, false, false] rfl rfl (any_of HT_.out (by kernel_rfl)) (fun _ _ _ h => h) (Or.inl ⟨by rfl, ?_⟩) ?_ ?_
                       rotate_left
                       ·intro w'
                        go_simp
                        with_reducible rfl
                       rotate_left
                       ·simp only [Act.put, List.setIfInBounds_toArray, List.set_cons_zero, List.set_cons_succ, i64_w, i32_w]
                        rfl
                       refine pure_ (i := 9) (N := some 66) (v := ?_) (a' := ?_) #[true, true, true, true, true, true, true, true, true, true, false, false, false, false, false, false, false, false, false, false, false, false, false, false, false] rfl rfl (any_of HT_.out (by kernel_rfl)) (fun _ _ _ h => h) (Or.inl ⟨by rfl, ?_⟩) ?_ ?_
                       rotate_left
                       ·intro w'
                        go_simp
                        with_reducible rfl
                       rotate_left
                       ·simp only [Act.put, List.setIfInBounds_toArray, List.set_cons_zero, List.set_cons_succ, i64_w, i32_w]
                        rfl
                       refine take_ (i := 10) (N := some 67) (v := ?_) (a' := ?_) #[true, true, true, true, true, true, true, true, true, true, true, false, false, false, false, false, false, false, false, false, false, false, false, false, false] rfl rfl (take_ofW HT_.out HW_.out (by kernel_rfl)) (fun _ _ _ h => h) (Or.inl ⟨by rfl, ?_⟩) hHeld ?_ ?_
                       rotate_left
                       ·rintro w' ⟨s0, s1, s2, s3, s4, s5⟩
                        go_simp
                        with_reducible rfl
                       rotate_left
                       ·simp only [Act.put, List.setIfInBounds_toArray, List.set_cons_zero, List.set_cons_succ, i64_w, i32_w]
                        rfl
                       refine pure_ (i := 11) (N := some 68) (v := ?_) (a' := ?_) #[true, true, true, true, true, true, true, true, true, true, true, true, false, false, false, false, false, false, false, false, false, false, false, false, false] rfl rfl (any_of HT_.out (by kernel_rfl)) (fun _ _ _ h => h) (Or.inl ⟨by rfl, ?_⟩) ?_ ?_
                       rotate_left
                       ·intro w'
                        go_simp
                        with_reducible rfl
                       rotate_left
                       ·simp only [Act.put, List.setIfInBounds_toArray, List.set_cons_zero, List.set_cons_succ, i64_w, i32_w]
                        rfl
                       refine pure_ (i := 12) (N := some 69) (v := ?_) (a' := ?_) #[true, true, true, true, true, true, true, true, true, true, true, true, true, false, false, false, false, false, false, false, false, false, false, false, false] rfl rfl (any_of HT_.out (by kernel_rfl)) (fun _ _ _ h => h) (Or.inl ⟨by rfl, ?_⟩) ?_ ?_
                       rotate_left
                       ·intro w'
                        go_simp
                        with_reducible rfl
                       rotate_left
                       ·simp only [Act.put, List.setIfInBounds_toArray, List.set_cons_zero, List.set_cons_succ, i64_w, i32_w]
                        rfl
                       refine pure_ (i := 13) (N := some 70) (v := ?_) (a' := ?_) #[true, true, true, true, true, true, true, true, true, true, true, true, true, true, false, false, false, false, false, false, false, false, false, false, false] rfl rfl (any_of HT_.out (by kernel_rfl)) (fun _ _ _ h => h) (Or.inl ⟨by rfl, ?_⟩) ?_ ?_
                       rotate_left
                       ·intro w'
                        go_simp
                        with_reducible rfl
                       rotate_left
                       ·simp only [Act.put, List.setIfInBounds_toArray, List.set_cons_zero, List.set_cons_succ, i64_w, i32_w]
                        rfl
                       refine pure_ (i := 14) (N := some 71) (v := ?_) (a' := ?_) #[true, true, true, true, true, true, true, true, true, true, true, true, true, true, true, false, false, false, false, false, false, false, false, false, false] rfl rfl (any_of HT_.out (by kernel_rfl)) (fun _ _ _ h => h) (Or.inl ⟨by rfl, ?_⟩) ?_ ?_
                       rotate_left
                       ·intro w'
                        go_simp
                        with_reducible rfl
                       rotate_left
                       ·simp only [Act.put, List.setIfInBounds_toArray, List.set_cons_zero, List.set_cons_succ, i64_w, i32_w]
                        rfl
                       refine pure_ (i := 15) (N := some 72) (v := ?_) (a' := ?_) #[true, true, true, true, true, true, true, true, true, true, true, true, true, true, true, true, false, false, false, false, false, false, false, false, false] rfl rfl (any_of HT_.out (by kernel_rfl)) (fun _ _ _ h => h) (Or.inl ⟨by rfl, ?_⟩) ?_ ?_
                       rotate_left
                       ·intro w'
                        go_simp
                        with_reducible rfl
                       rotate_left
                       ·simp only [Act.put, List.setIfInBounds_toArray, List.set_cons_zero, List.set_cons_succ, i64_w, i32_w]
                        rfl
                       refine pure_ (i := 16) (N := some 73) (v := ?_) (a' := ?_) #[true, true, true, true, true, true, true, true, true, true, true, true, true, true, true, true, true, false, false, false, false, false, false, false, false] rfl rfl (any_of HT_.out (by kernel_rfl)) (fun _ _ _ h => h) (Or.inl ⟨by rfl, ?_⟩) ?_ ?_
                       rotate_left
                       ·intro w'
                        go_simp
                        with_reducible rfl
                       rotate_left
                       ·simp only [Act.put, List.setIfInBounds_toArray, List.set_cons_zero, List.set_cons_succ, i64_w, i32_w]
                        rfl
                       refine pure_ (i := 17) (N := some 74) (v := ?_) (a' := ?_) #[true, true, true, true, true, true, true, true, true, true, true, true, true, true, true, true, true, true, false, false, false, false, false, false, false] rfl rfl (any_of HT_.out (by kernel_rfl)) (fun _ _ _ h => h) (Or.inl ⟨by rfl, ?_⟩) ?_ ?_
                       rotate_left
                       ·intro w'
                        go_simp
                        with_reducible rfl
                       rotate_left
                       ·simp only [Act.put, List.setIfInBounds_toArray, List.set_cons_zero, List.set_cons_succ, i64_w, i32_w]
                        rfl
                       refine pure_ (i := 19) (N := some 76) (v := ?_) (a' := ?_) #[true, true, true, true, true, true, true, true, true, true, true, true, true, true, true, true, true, true, false, true, false, false, false, false, false] rfl rfl (any_of HT_.out (by kernel_rfl)) (fun _ _ _ h => h) (Or.inl ⟨by rfl, ?_⟩) ?_ ?_
                       rotate_left
                       ·intro w'
                        go_simp
                        with_reducible rfl
                       rotate_left
                       ·simp only [Act.put, List.setIfInBounds_toArray, List.set_cons_zero, List.set_cons_succ, i64_w, i32_w]
                        rfl
                       refine pure_ (i := 20) (N := some 77) (v := ?_) (a' := ?_) #[true, true, true, true, true, true, true, true, true, true, true, true, true, true, true, true, true, true, false, true, true, false, false, false, false] rfl rfl (any_of HT_.out (by kernel_rfl)) (fun _ _ _ h => h) (Or.inl ⟨by rfl, ?_⟩) ?_ ?_
                       rotate_left
                       ·intro w'
                        go_simp
                        with_reducible rfl
                       rotate_left
                       ·simp only [Act.put, List.setIfInBounds_toArray, List.set_cons_zero, List.set_cons_succ, i64_w, i32_w]
                        rfl
                       refine pure_ (i := 21) (N := some 78) (v := ?_) (a' := ?_) #[true, true, true, true, true, true, true, true, true, true, true, true, true, true, true, true, true, true, false, true, true, true, false, false, false] rfl rfl (any_of HT_.out (by kernel_rfl)) (fun _ _ _ h => h) (Or.inl ⟨by rfl, ?_⟩) ?_ ?_
                       rotate_left
                       ·intro w'
                        go_simp
                        with_reducible rfl
                       rotate_left
                       ·simp only [Act.put, List.setIfInBounds_toArray, List.set_cons_zero, List.set_cons_succ, i64_w, i32_w]
                        rfl
                       refine take_ (i := 18) (N := some 75) (v := ?_) (a' := ?_) #[true, true, true, true, true, true, true, true, true, true, true, true, true, true, true, true, true, true, true, true, true, true, false, false, false] rfl rfl (take_ofW HT_.out HW_.out (by kernel_rfl)) (fun _ _ _ h => h) (Or.inl ⟨by rfl, ?_⟩) hHeld ?_ ?_
                       rotate_left
                       ·rintro w' ⟨s0, s1, s2, s3, s4, s5⟩
                        go_simp
                        with_reducible rfl
                       rotate_left
                       ·simp only [Act.put, List.setIfInBounds_toArray, List.set_cons_zero, List.set_cons_succ, i64_w, i32_w]
                        rfl
                       refine take_ (i := 22) (N := some 79) (v := ?_) (a' := ?_) #[true, true, true, true, true, true, true, true, true, true, true, true, true, true, true, true, true, true, true, true, true, true, true, false, false] rfl rfl (take_ofW HT_.out HW_.out (by kernel_rfl)) (fun _ _ _ h => h) (Or.inl ⟨by rfl, ?_⟩) hHeld ?_ ?_
                       rotate_left
                       ·rintro w' ⟨s0, s1, s2, s3, s4, s5⟩
                        go_simp
                        with_reducible rfl
                       rotate_left
                       ·simp only [Act.put, List.setIfInBounds_toArray, List.set_cons_zero, List.set_cons_succ, i64_w, i32_w]
                        rfl
                       refine one_ (i := 23) (N := some 80) #[true, true, true, true, true, true, true, true, true, true, true, true, true, true, true, true, true, true, true, true, true, true, true, true, false] rfl rfl (one_of HT_.out (by kernel_rfl)) (by decide) (fun K hK => ?_)
                       refine goes_ Try.func28 (by kernel_rfl) rfl #[.slice A0 l0.length c0, .agg #[.slice A333_0 ((rd_T50 l1 x10_4).f0).length c333_0, .slice A333_1 ((rd_T50 l1 x10_4).f1).length c333_1], .agg #[.slice A334_0 ((rd_T50 l1 x9_3).f0).length c334_0, .slice A334_1 ((rd_T50 l1 x9_3).f1).length c334_1]] (by rfl) rfl rfl (by (try simp only [List.map_toArray, List.map_cons, List.map_nil]); first | done | rfl | (simp only [List.length_drop, List.length_take]; rfl)) ?_
                       with_reducible refine (arlinkref22_Leads.calls k4 _ _ l0 _ _ ((rd_T50 l1 x10_4).f0) _ _ ((rd_T50 l1 x10_4).f1) _ _ ((rd_T50 l1 x9_3).f0) _ _ ((rd_T50 l1 x9_3).f1) false _ ?side1 ?side2 ?side3 ?side4 ?side5 ?side6 ?side7 ?side8 ?side9 ?side10 A32.out).mono ?_
                       (case side1 => repeat (first | exact (Kd.C_below HR0.out HB.out) | (with_reducible refine Kd.C_alloc ?_ _) | (with_reducible refine Kd.C_drewN ?_ _) | (with_reducible refine Kd.C_drew ?_)))
                       (case side2 => exact HC0.out)
                       (case side3 => repeat (first | exact (Kd.C_below HR333_0.out HB.out) | (with_reducible refine Kd.C_alloc ?_ _) | (with_reducible refine Kd.C_drewN ?_ _) | (with_reducible refine Kd.C_drew ?_)))
                       (case side4 => exact HC333_0.out)
                       (case side5 => repeat (first | exact (Kd.C_below HR333_1.out HB.out) | (with_reducible refine Kd.C_alloc ?_ _) | (with_reducible refine Kd.C_drewN ?_ _) | (with_reducible refine Kd.C_drew ?_)))
                       (case side6 => exact HC333_1.out)
                       (case side7 => repeat (first | exact (Kd.C_below HR334_0.out HB.out) | (with_reducible refine Kd.C_alloc ?_ _) | (with_reducible refine Kd.C_drewN ?_ _) | (with_reducible refine Kd.C_drew ?_)))
                       (case side8 => exact HC334_0.out)
                       (case side9 => repeat (first | exact (Kd.C_below HR334_1.out HB.out) | (with_reducible refine Kd.C_alloc ?_ _) | (with_reducible refine Kd.C_drewN ?_ _) | (with_reducible refine Kd.C_drew ?_)))
                       (case side10 => exact HC334_1.out)
                       rintro e w42 ⟨rfl, hb⟩
                       have HS0_ := (hb.cell (World.block_lt_of_cell? _ _ (hHeld.1))).trans (hHeld.1)
                       have HS1_ := (hb.cell (World.block_lt_of_cell? _ _ (hHeld.2.1))).trans (hHeld.2.1)
                       refine ⟨_, rfl, ?_⟩
                       have n0_ := Aside0.mk (Kd.R_below (by (with_reducible repeat (first | apply Kd.R_alloc | apply Kd.R_drewN | apply Kd.R_drew)); exact HO_5.out) hb)
                       have n1_ := Aside0.mk (below_step (by repeat (first | (with_reducible first | exact HB.out | apply below_alloc | apply pw_below_drewN | apply below_drew1) | exact HB.out)) hb)
                       clear HO_5
                       clear HB
                       have HO_5 := n0_
                       have HB := n1_
                       clear n0_ n1_
                       (try clear hb)
                       (try clear hb2)
                       (try clear hk)
                       (try clear hi)
                       refine hK.out _ _ ⟨HS0_, HS1_, ((HB.out.cell (World.block_lt_of_cell? w _ hw333_0)).trans hw333_0), ((HB.out.cell (World.block_lt_of_cell? w _ hw333_1)).trans hw333_1), ((HB.out.cell (World.block_lt_of_cell? w _ hw334_0)).trans hw334_0), ((HB.out.cell (World.block_lt_of_cell? w _ hw334_1)).trans hw334_1)⟩ (fun hHeld => ?_)
                       clear hK K
                       refine norm_ (a' := ?_) ?_ ?_
                       rotate_left
                       ·show Act.put _ (some 80) _ = _
                        simp only [Act.put, List.setIfInBounds_toArray, List.set_cons_zero, List.set_cons_succ, i64_w, i32_w]
                        rfl
                       refine pure_ (i := 24) (N := some 81) (v := ?_) (a' := ?_) #[true, true, true, true, true, true, true, true, true, true, true, true, true, true, true, true, true, true, true, true, true, true, true, true, true] rfl rfl (any_of HT_.out (by kernel_rfl)) (fun _ _ _ h => h) (Or.inl ⟨by rfl, ?_⟩) ?_ ?_
                       rotate_left
                       ·intro w'
                        go_simp
                        with_reducible rfl
                       rotate_left
                       ·simp only [Act.put, List.setIfInBounds_toArray, List.set_cons_zero, List.set_cons_succ, i64_w, i32_w]
                        rfl
                       refine done_ (done_of HT_.out (by kernel_rfl)) ?_
                       try go_wp2
                       go_roundg k4
                       case measure => have := HK1.out; have := HK2.out; have := HK3.out; have := HK4.out; omega
                       case rel => exact ⟨(x5_4), (wrap64 (x10_4 + 1)), (by first | rfl | (simp; done) | (simp [*]; done)), H', ⟨by have := HK1.out; have := HK2.out; have := HK3.out; have := HK4.out; omega⟩, ⟨by (with_reducible repeat (first | apply Kd.R_alloc | apply Kd.R_drewN | apply Kd.R_drew)); exact HO_5.out⟩, ⟨by repeat (first | (with_reducible first | exact HB.out | apply below_alloc | apply pw_below_drewN | apply below_drew1) | exact HB.out)⟩⟩
                     ·rw [if_neg c31] at H
                      exact absurd H (by simp)
                    ·rw [if_neg c30] at H
                     have c30b0 : ((rd x5_4 x9_3) == 0) = false := beq_eq_false_iff_ne.mpr c30
                     have c30b1 : ((rd x5_4 x9_3) != 0) = true := bne_iff_ne.mpr c30
                     have H' := Aside0.mk H
                     clear H
                     try go_wp2
                     have n0_ := Aside0.mk (Kd.R_drew HO_5.out)
                     have n1_ := Aside0.mk (below_drew1 HB.out)
                     clear HO_5
                     clear HB
                     have HO_5 := n0_
                     have HB := n1_
                     clear n0_ n1_
                     obtain ⟨Ao44, co44, eo44⟩ := Kd.R_slice HO_5.out
                     (first | subst eo44 | (injection eo44 with f1_ f2_ f3_; have f4_ := f1_.symm; have f5_ := f3_.symm; clear f1_ f2_ f3_; subst f4_; subst f5_))
                     have p331 : 0 ≤ (x10_4 : Int) := of_decide_eq_true (by first | (with_reducible assumption) | assumption)
                     have q331 : x10_4 < (x5_4.length : Int) := of_decide_eq_true (by first | (with_reducible assumption) | assumption)
                     obtain ⟨ad331, e331, hx331_0⟩ := Kd.at_int (Kd.R_reads' HO_5.out).2.2 x10_4 p331 q331
                     cases e331
                     replace p331 := eq_true p331
                     replace q331 := eq_true q331
                     have p332 : 0 ≤ (x9_3 : Int) := of_decide_eq_true (by first | (with_reducible assumption) | assumption)
                     have q332 : x9_3 < (x5_4.length : Int) := of_decide_eq_true (by first | (with_reducible assumption) | assumption)
                     obtain ⟨ad332, e332, hx332_0⟩ := Kd.at_int (Kd.R_reads' HO_5.out).2.2 x9_3 p332 q332
                     obtain rfl : ad331 = ad332 := (by injection e332)
                     replace p332 := eq_true p332
                     replace q332 := eq_true q332
                     refine start_ (n := 25) (S := fun w' => w'.cell? (ad331.add (x10_4).toNat) = some (.int .i64 (rd x5_4 x10_4)) ∧ w'.cell? (ad331.add (x9_3).toNat) = some (.int .i64 (rd x5_4 x9_3))) (ds := []) #[false, false, false, false, false, false, false, false, false, false, false, false, false, false, false, false, false, false, false, false, false, false, false, false, false] (by kernel_rfl) rfl rfl ⟨hx331_0, hx332_0⟩ (fun hHeld => ?_); refine with_tabW arlinkref22_Needed.tab19 arlinkref22_Needed.bits19 (fun HT_ HW_ => ?_)
                     generalize wr.drew = w43 at HO_5 HB hx331_0 hx332_0 hHeld ⊢
                     refine pure_ (i := 0) (N := some 57) (v := ?_) (a' := ?_) #[true, false, false, false, false, false, false, false, false, false, false, false, false, false, false, false, false, false, false, false, false, false, false, false, false] rfl rfl (any_of HT_.out (by kernel_rfl)) (fun _ _ _ h => h) (Or.inl ⟨by rfl, ?_⟩) ?_ ?_
                     rotate_left
                     ·intro w'
                      go_simp
                      with_reducible rfl
                     rotate_left
                     ·simp only [Act.put, List.setIfInBounds_toArray, List.set_cons_zero, List.set_cons_succ, i64_w, i32_w]
                      rfl
                     refine pure_ (i := 1) (N := some 58) (v := ?_) (a' := ?_) #[true, true, false, false, false, false, false, false, false, false, false, false, false, false, false, false, false, false, false, false, false, false, false, false, false] rfl rfl (any_of HT_.out (by kernel_rfl)) (fun _ _ _ h => h) (Or.inl ⟨by rfl, ?_⟩) ?_ ?_
                     rotate_left
                     ·intro w'
                      go_simp
                      with_reducible rfl
                     rotate_left
                     ·simp only [Act.put, List.setIfInBounds_toArray, List.set_cons_zero, List.set_cons_succ, i64_w, i32_w]
                      rfl
                     refine pure_ (i := 2) (N := some 59) (v := ?_) (a' := ?_) #[true, true, true, false, false, false, false, false, false, false, false, false, false, false, false, false, false, false, false, false, false, false, false, false, false] rfl rfl (any_of HT_.out (by kernel_rfl)) (fun _ _ _ h => h) (Or.inl ⟨by rfl, ?_⟩) ?_ ?_
                     rotate_left
                     ·intro w'
                      go_simp
                      with_reducible rfl
                     rotate_left
                     ·simp only [Act.put, List.setIfInBounds_toArray, List.set_cons_zero, List.set_cons_succ, i64_w, i32_w]
                      rfl
                     refine pure_ (i := 4) (N := some 61) (v := ?_) (a' := ?_) #[true, true, true, false, true, false, false, false, false, false, false, false, false, false, false, false, false, false, false, false, false, false, false, false, false] rfl rfl (any_of HT_.out (by kernel_rfl)) (fun _ _ _ h => h) (Or.inl ⟨by rfl, ?_⟩) ?_ ?_
                     rotate_left
                     ·intro w'
                      go_simp
                      with_reducible rfl
                     rotate_left
                     ·simp only [Act.put, List.setIfInBounds_toArray, List.set_cons_zero, List.set_cons_succ, i64_w, i32_w]
                      rfl
                     refine take_ (i := 3) (N := some 60) (v := ?_) (a' := ?_) #[true, true, true, true, true, false, false, false, false, false, false, false, false, false, false, false, false, false, false, false, false, false, false, false, false] rfl rfl (take_ofW HT_.out HW_.out (by kernel_rfl)) (fun _ _ _ h => h) (Or.inl ⟨by rfl, ?_⟩) hHeld ?_ ?_
                     rotate_left
                     ·rintro w' ⟨s0, s1⟩
                      go_simp
                      with_reducible rfl
                     rotate_left
                     ·simp only [Act.put, List.setIfInBounds_toArray, List.set_cons_zero, List.set_cons_succ, i64_w, i32_w]
                      rfl
                     refine pure_ (i := 5) (N := some 62) (v := ?_) (a' := ?_) #[true, true, true, true, true, true, false, false, false, false, false, false, false, false, false, false, false, false, false, false, false, false, false, false, false] rfl rfl (any_of HT_.out (by kernel_rfl)) (fun _ _ _ h => h) (Or.inl ⟨by rfl, ?_⟩) ?_ ?_
                     rotate_left
                     ·intro w'
                      go_simp
                      with_reducible rfl
                     rotate_left
                     ·simp only [Act.put, List.setIfInBounds_toArray, List.set_cons_zero, List.set_cons_succ, i64_w, i32_w]
                      rfl
                     refine pure_ (i := 6) (N := some 63) (v := ?_) (a' := ?_) #[true, true, true, true, true, true, true, false, false, false, false, false, false, false, false, false, false, false, false, false, false, false, false, false, false] rfl rfl (any_of HT_.out (by kernel_rfl)) (fun _ _ _ h => h) (Or.inl ⟨by rfl, ?_⟩) ?_ ?_
                     rotate_left
                     ·intro w'
                      go_simp
                      with_reducible rfl
                     rotate_left
                     ·simp only [Act.put, List.setIfInBounds_toArray, List.set_cons_zero, List.set_cons_succ, i64_w, i32_w]
                      rfl
                     refine pure_ (i := 7) (N := some 64) (v := ?_) (a' := ?_) #[true, true, true, true, true, true, true, true, false, false, false, false, false, false, false, false, false, false, false, false, false, false, false, false, false] rfl rfl (any_of HT_.out (by kernel_rfl)) (fun _ _ _ h => h) (Or.inl ⟨by rfl, ?_⟩) ?_ ?_
                     rotate_left
                     ·intro w'
                      go_simp
                      with_reducible rfl
                     rotate_left
                     ·simp only [Act.put, List.setIfInBounds_toArray, List.set_cons_zero, List.set_cons_succ, i64_w, i32_w]
                      rfl
                     refine pure_ (i := 8) (N := some 65) (v := ?_) (a' := ?_) #[true, true, true, true, true, true, true, true, true, false, false, false, false, false, false, false, false, false, false, false, false, false, false, false, false] rfl rfl (any_of HT_.out (by kernel_rfl)) (fun _ _ _ h => h) (Or.inl ⟨by rfl, ?_⟩) ?_ ?_
                     rotate_left
                     ·intro w'
                      go_simp
                      with_reducible rfl
                     rotate_left
                     ·simp only [Act.put, List.setIfInBounds_toArray, List.set_cons_zero, List.set_cons_succ, i64_w, i32_w]
                      rfl
                     refine pure_ (i := 9) (N := some 66) (v := ?_) (a' := ?_) #[true, true, true, true, true, true, true, true, true, true, false, false, false, false, false, false, false, false, false, false, false, false, false, false, false] rfl rfl (any_of HT_.out (by kernel_rfl)) (fun _ _ _ h => h) (Or.inl ⟨by rfl, ?_⟩) ?_ ?_
                     rotate_left
                     ·intro w'
                      go_simp
                      with_reducible rfl
                     rotate_left
                     ·simp only [Act.put, List.setIfInBounds_toArray, List.set_cons_zero, List.set_cons_succ, i64_w, i32_w]
                      rfl
                     refine take_ (i := 10) (N := some 67) (v := ?_) (a' := ?_) #[true, true, true, true, true, true, true, true, true, true, true, false, false, false, false, false, false, false, false, false, false, false, false, false, false] rfl rfl (take_ofW HT_.out HW_.out (by kernel_rfl)) (fun _ _ _ h => h) (Or.inl ⟨by rfl, ?_⟩) hHeld ?_ ?_
                     rotate_left
                     ·rintro w' ⟨s0, s1⟩
                      go_simp
                      with_reducible rfl
                     rotate_left
                     ·simp only [Act.put, List.setIfInBounds_toArray, List.set_cons_zero, List.set_cons_succ, i64_w, i32_w]
                      rfl
                     refine pure_ (i := 11) (N := some 68) (v := ?_) (a' := ?_) #[true, true, true, true, true, true, true, true, true, true, true, true, false, false, false, false, false, false, false, false, false, false, false, false, false] rfl rfl (any_of HT_.out (by kernel_rfl)) (fun _ _ _ h => h) (Or.inl ⟨by rfl, ?_⟩) ?_ ?_
                     rotate_left
                     ·intro w'
                      go_simp
                      with_reducible rfl
                     rotate_left
                     ·simp only [Act.put, List.setIfInBounds_toArray, List.set_cons_zero, List.set_cons_succ, i64_w, i32_w]
                      rfl
                     refine pure_ (i := 12) (N := some 69) (v := ?_) (a' := ?_) #[true, true, true, true, true, true, true, true, true, true, true, true, true, false, false, false, false, false, false, false, false, false, false, false, false] rfl rfl (any_of HT_.out (by kernel_rfl)) (fun _ _ _ h => h) (Or.inl ⟨by rfl, ?_⟩) ?_ ?_
                     rotate_left
                     ·intro w'
                      go_simp
                      with_reducible rfl
                     rotate_left
                     ·simp only [Act.put, List.setIfInBounds_toArray, List.set_cons_zero, List.set_cons_succ, i64_w, i32_w]
                      rfl
                     refine pure_ (i := 13) (N := some 70) (v := ?_) (a' := ?_) #[true, true, true, true, true, true, true, true, true, true, true, true, true, true, false, false, false, false, false, false, false, false, false, false, false] rfl rfl (any_of HT_.out (by kernel_rfl)) (fun _ _ _ h => h) (Or.inl ⟨by rfl, ?_⟩) ?_ ?_
                     rotate_left
                     ·intro w'
                      go_simp
                      with_reducible rfl
                     rotate_left
                     ·simp only [Act.put, List.setIfInBounds_toArray, List.set_cons_zero, List.set_cons_succ, i64_w, i32_w]
                      rfl
                     refine pure_ (i := 14) (N := some 71) (v := undef) (a' := ?_) #[true, true, true, true, true, true, true, true, true, true, true, true, true, true, true, false, false, false, false, false, false, false, false, false, false] rfl rfl (any_of HT_.out (by kernel_rfl)) (fun _ _ _ h => h) (Or.inr ⟨by rfl, rfl⟩) ?_ ?_
                     rotate_left
                     ·simp only [Act.put, List.setIfInBounds_toArray, List.set_cons_zero, List.set_cons_succ, i64_w, i32_w]
                      rfl
                     refine pure_ (i := 15) (N := some 72) (v := undef) (a' := ?_) #[true, true, true, true, true, true, true, true, true, true, true, true, true, true, true, true, false, false, false, false, false, false, false, false, false] rfl rfl (any_of HT_.out (by kernel_rfl)) (fun _ _ _ h => h) (Or.inr ⟨by rfl, rfl⟩) ?_ ?_
                     rotate_left
                     ·simp only [Act.put, List.setIfInBounds_toArray, List.set_cons_zero, List.set_cons_succ, i64_w, i32_w]
                      rfl
                     refine pure_ (i := 16) (N := some 73) (v := undef) (a' := ?_) #[true, true, true, true, true, true, true, true, true, true, true, true, true, true, true, true, true, false, false, false, false, false, false, false, false] rfl rfl (any_of HT_.out (by kernel_rfl)) (fun _ _ _ h => h) (Or.inr ⟨by rfl, rfl⟩) ?_ ?_
                     rotate_left
                     ·simp only [Act.put, List.setIfInBounds_toArray, List.set_cons_zero, List.set_cons_succ, i64_w, i32_w]
                      rfl
                     refine pure_ (i := 17) (N := some 74) (v := undef) (a' := ?_) #[true, true, true, true, true, true, true, true, true, true, true, true, true, true, true, true, true, true, false, false, false, false, false, false, false] rfl rfl (any_of HT_.out (by kernel_rfl)) (fun _ _ _ h => h) (Or.inr ⟨by rfl, rfl⟩) ?_ ?_
                     rotate_left
                     ·simp only [Act.put, List.setIfInBounds_toArray, List.set_cons_zero, List.set_cons_succ, i64_w, i32_w]
                      rfl
                     refine pure_ (i := 18) (N := some 75) (v := undef) (a' := ?_) #[true, true, true, true, true, true, true, true, true, true, true, true, true, true, true, true, true, true, true, false, false, false, false, false, false] rfl rfl (any_of HT_.out (by kernel_rfl)) (fun _ _ _ h => h) (Or.inr ⟨by rfl, rfl⟩) ?_ ?_
                     rotate_left
                     ·simp only [Act.put, List.setIfInBounds_toArray, List.set_cons_zero, List.set_cons_succ, i64_w, i32_w]
                      rfl
                     refine pure_ (i := 19) (N := some 76) (v := undef) (a' := ?_) #[true, true, true, true, true, true, true, true, true, true, true, true, true, true, true, true, true, true, true, true, false, false, false, false, false] rfl rfl (any_of HT_.out (by kernel_rfl)) (fun _ _ _ h => h) (Or.inr ⟨by rfl, rfl⟩) ?_ ?_
                     rotate_left
                     ·simp only [Act.put, List.setIfInBounds_toArray, List.set_cons_zero, List.set_cons_succ, i64_w, i32_w]
                      rfl
                     refine pure_ (i := 20) (N := some 77) (v := undef) (a' := ?_) #[true, true, true, true, true, true, true, true, true, true, true, true, true, true, true, true, true, true, true, true, true, false, false, false, false] rfl rfl (any_of HT_.out (by kernel_rfl)) (fun _ _ _ h => h) (Or.inr ⟨by rfl, rfl⟩) ?_ ?_
                     rotate_left
                     ·simp only [Act.put, List.setIfInBounds_toArray, List.set_cons_zero, List.set_cons_succ, i64_w, i32_w]
                      rfl
                     refine pure_ (i := 21) (N := some 78) (v := undef) (a' := ?_) #[true, true, true, true, true, true, true, true, true, true, true, true, true, true, true, true, true, true, true, true, true, true, false, false, false] rfl rfl (any_of HT_.out (by kernel_rfl)) (fun _ _ _ h => h) (Or.inr ⟨by rfl, rfl⟩) ?_ ?_
                     rotate_left
                     ·simp only [Act.put, List.setIfInBounds_toArray, List.set_cons_zero, List.set_cons_succ, i64_w, i32_w]
                      rfl
                     refine pure_ (i := 22) (N := some 79) (v := undef) (a' := ?_) #[true, true, true, true, true, true, true, true, true, true, true, true, true, true, true, true, true, true, true, true, true, true, true, false, false] rfl rfl (any_of HT_.out (by kernel_rfl)) (fun _ _ _ h => h) (Or.inr ⟨by rfl, rfl⟩) ?_ ?_
                     rotate_left
                     ·simp only [Act.put, List.setIfInBounds_toArray, List.set_cons_zero, List.set_cons_succ, i64_w, i32_w]
                      rfl
                     refine pure_ (i := 23) (N := some 80) (v := undef) (a' := ?_) #[true, true, true, true, true, true, true, true, true, true, true, true, true, true, true, true, true, true, true, true, true, true, true, true, false] rfl rfl (any_of HT_.out (by kernel_rfl)) (fun _ _ _ h => h) (Or.inr ⟨by rfl, rfl⟩) ?_ ?_
                     rotate_left
                     ·simp only [Act.put, List.setIfInBounds_toArray, List.set_cons_zero, List.set_cons_succ, i64_w, i32_w]
                      rfl
                     refine pure_ (i := 24) (N := some 81) (v := ?_) (a' := ?_) #[true, true, true, true, true, true, true, true, true, true, true, true, true, true, true, true, true, true, true, true, true, true, true, true, true] rfl rfl (any_of HT_.out (by kernel_rfl)) (fun _ _ _ h => h) (Or.inl ⟨by rfl, ?_⟩) ?_ ?_
                     rotate_left
                     ·intro w'
                      go_simp
                      with_reducible rfl
                     rotate_left
                     ·simp only [Act.put, List.setIfInBounds_toArray, List.set_cons_zero, List.set_cons_succ, i64_w, i32_w]
                      rfl
                     refine done_ (done_of HT_.out (by kernel_rfl)) ?_
                     try go_wp2
                     go_roundg k4
                     case measure => have := HK1.out; have := HK2.out; have := HK3.out; have := HK4.out; omega
                     case rel => exact ⟨(x5_4), (wrap64 (x10_4 + 1)), (by first | rfl | (simp; done) | (simp [*]; done)), H', ⟨by have := HK1.out; have := HK2.out; have := HK3.out; have := HK4.out; omega⟩, ⟨by (with_reducible repeat (first | apply Kd.R_alloc | apply Kd.R_drewN | apply Kd.R_drew)); exact HO_5.out⟩, ⟨by repeat (first | (with_reducible first | exact HB.out | apply below_alloc | apply pw_below_drewN | apply below_drew1) | exact HB.out)⟩⟩
                   ·rw [if_neg c29] at H
                    exact absurd H (by simp)
                  ·rw [if_neg c28] at H
                   exact absurd H (by simp)
                 ·rw [if_neg c27] at H
                  have c27b0 : ((rd x5_4 x10_4) == x8_2) = false := beq_eq_false_iff_ne.mpr c27
                  have c27b1 : ((rd x5_4 x10_4) != x8_2) = true := bne_iff_ne.mpr c27
                  have H' := Aside0.mk H
                  clear H
                  try go_wp2
                  have n0_ := Aside0.mk (Kd.R_drew HO_5.out)
                  have n1_ := Aside0.mk (below_drew1 HB.out)
                  clear HO_5
                  clear HB
                  have HO_5 := n0_
                  have HB := n1_
                  clear n0_ n1_
                  obtain ⟨Ao46, co46, eo46⟩ := Kd.R_slice HO_5.out
                  (first | subst eo46 | (injection eo46 with f1_ f2_ f3_; have f4_ := f1_.symm; have f5_ := f3_.symm; clear f1_ f2_ f3_; subst f4_; subst f5_))
                  have p331 : 0 ≤ (x10_4 : Int) := of_decide_eq_true (by first | (with_reducible assumption) | assumption)
                  have q331 : x10_4 < (x5_4.length : Int) := of_decide_eq_true (by first | (with_reducible assumption) | assumption)
                  obtain ⟨ad331, e331, hx331_0⟩ := Kd.at_int (Kd.R_reads' HO_5.out).2.2 x10_4 p331 q331
                  cases e331
                  replace p331 := eq_true p331
                  replace q331 := eq_true q331
                  refine start_ (n := 25) (S := fun w' => w'.cell? (ad331.add (x10_4).toNat) = some (.int .i64 (rd x5_4 x10_4))) (ds := []) #[false, false, false, false, false, false, false, false, false, false, false, false, false, false, false, false, false, false, false, false, false, false, false, false, false] (by kernel_rfl) rfl rfl (hx331_0) (fun hHeld => ?_); refine with_tabW arlinkref22_Needed.tab19 arlinkref22_Needed.bits19 (fun HT_ HW_ => ?_)
                  generalize wr.drew = w45 at HO_5 HB hx331_0 hHeld ⊢
                  refine pure_ (i := 0) (N := some 57) (v := ?_) (a' := ?_) #[true, false, false, false, false, false, false, false, false, false, false, false, false, false, false, false, false, false, false, false, false, false, false, false, false] rfl rfl (any_of HT_.out (by kernel_rfl)) (fun _ _ _ h => h) (Or.inl ⟨by rfl, ?_⟩) ?_ ?_
                  rotate_left
                  ·intro w'
                   go_simp
                   with_reducible rfl
                  rotate_left
                  ·simp only [Act.put, List.setIfInBounds_toArray, List.set_cons_zero, List.set_cons_succ, i64_w, i32_w]
                   rfl
                  refine pure_ (i := 1) (N := some 58) (v := ?_) (a' := ?_) #[true, true, false, false, false, false, false, false, false, false, false, false, false, false, false, false, false, false, false, false, false, false, false, false, false] rfl rfl (any_of HT_.out (by kernel_rfl)) (fun _ _ _ h => h) (Or.inl ⟨by rfl, ?_⟩) ?_ ?_
                  rotate_left
                  ·intro w'
                   go_simp
                   with_reducible rfl
                  rotate_left
                  ·simp only [Act.put, List.setIfInBounds_toArray, List.set_cons_zero, List.set_cons_succ, i64_w, i32_w]
                   rfl
                  refine pure_ (i := 2) (N := some 59) (v := ?_) (a' := ?_) #[true, true, true, false, false, false, false, false, false, false, false, false, false, false, false, false, false, false, false, false, false, false, false, false, false] rfl rfl (any_of HT_.out (by kernel_rfl)) (fun _ _ _ h => h) (Or.inl ⟨by rfl, ?_⟩) ?_ ?_
                  rotate_left
                  ·intro w'
                   go_simp
                   with_reducible rfl
                  rotate_left
                  ·simp only [Act.put, List.setIfInBounds_toArray, List.set_cons_zero, List.set_cons_succ, i64_w, i32_w]
                   rfl
                  refine pure_ (i := 4) (N := some 61) (v := ?_) (a' := ?_) #[true, true, true, false, true, false, false, false, false, false, false, false, false, false, false, false, false, false, false, false, false, false, false, false, false] rfl rfl (any_of HT_.out (by kernel_rfl)) (fun _ _ _ h => h) (Or.inl ⟨by rfl, ?_⟩) ?_ ?_
                  rotate_left
                  ·intro w'
                   go_simp
                   with_reducible rfl
                  rotate_left
                  ·simp only [Act.put, List.setIfInBounds_toArray, List.set_cons_zero, List.set_cons_succ, i64_w, i32_w]
                   rfl
                  refine take_ (i := 3) (N := some 60) (v := ?_) (a' := ?_) #[true, true, true, true, true, false, false, false, false, false, false, false, false, false, false, false, false, false, false, false, false, false, false, false, false] rfl rfl (take_ofW HT_.out HW_.out (by kernel_rfl)) (fun _ _ _ h => h) (Or.inl ⟨by rfl, ?_⟩) hHeld ?_ ?_
                  rotate_left
                  ·intro w' s0
                   go_simp
                   with_reducible rfl
                  rotate_left
                  ·simp only [Act.put, List.setIfInBounds_toArray, List.set_cons_zero, List.set_cons_succ, i64_w, i32_w]
                   rfl
                  refine pure_ (i := 5) (N := some 62) (v := ?_) (a' := ?_) #[true, true, true, true, true, true, false, false, false, false, false, false, false, false, false, false, false, false, false, false, false, false, false, false, false] rfl rfl (any_of HT_.out (by kernel_rfl)) (fun _ _ _ h => h) (Or.inl ⟨by rfl, ?_⟩) ?_ ?_
                  rotate_left
                  ·intro w'
                   go_simp
                   with_reducible rfl
                  rotate_left
                  ·simp only [Act.put, List.setIfInBounds_toArray, List.set_cons_zero, List.set_cons_succ, i64_w, i32_w]
                   rfl
                  refine pure_ (i := 6) (N := some 63) (v := ?_) (a' := ?_) #[true, true, true, true, true, true, true, false, false, false, false, false, false, false, false, false, false, false, false, false, false, false, false, false, false] rfl rfl (any_of HT_.out (by kernel_rfl)) (fun _ _ _ h => h) (Or.inl ⟨by rfl, ?_⟩) ?_ ?_
                  rotate_left
                  ·intro w'
                   go_simp
                   with_reducible rfl
                  rotate_left
                  ·simp only [Act.put, List.setIfInBounds_toArray, List.set_cons_zero, List.set_cons_succ, i64_w, i32_w]
                   rfl
                  refine pure_ (i := 7) (N := some 64) (v := undef) (a' := ?_) #[true, true, true, true, true, true, true, true, false, false, false, false, false, false, false, false, false, false, false, false, false, false, false, false, false] rfl rfl (any_of HT_.out (by kernel_rfl)) (fun _ _ _ h => h) (Or.inr ⟨by rfl, rfl⟩) ?_ ?_
                  rotate_left
                  ·simp only [Act.put, List.setIfInBounds_toArray, List.set_cons_zero, List.set_cons_succ, i64_w, i32_w]
                   rfl
                  refine pure_ (i := 8) (N := some 65) (v := undef) (a' := ?_) #[true, true, true, true, true, true, true, true, true, false, false, false, false, false, false, false, false, false, false, false, false, false, false, false, false] rfl rfl (any_of HT_.out (by kernel_rfl)) (fun _ _ _ h => h) (Or.inr ⟨by rfl, rfl⟩) ?_ ?_
                  rotate_left
                  ·simp only [Act.put, List.setIfInBounds_toArray, List.set_cons_zero, List.set_cons_succ, i64_w, i32_w]
                   rfl
                  refine pure_ (i := 9) (N := some 66) (v := undef) (a' := ?_) #[true, true, true, true, true, true, true, true, true, true, false, false, false, false, false, false, false, false, false, false, false, false, false, false, false] rfl rfl (any_of HT_.out (by kernel_rfl)) (fun _ _ _ h => h) (Or.inr ⟨by rfl, rfl⟩) ?_ ?_
                  rotate_left
                  ·simp only [Act.put, List.setIfInBounds_toArray, List.set_cons_zero, List.set_cons_succ, i64_w, i32_w]
                   rfl
                  refine pure_ (i := 10) (N := some 67) (v := undef) (a' := ?_) #[true, true, true, true, true, true, true, true, true, true, true, false, false, false, false, false, false, false, false, false, false, false, false, false, false] rfl rfl (any_of HT_.out (by kernel_rfl)) (fun _ _ _ h => h) (Or.inr ⟨by rfl, rfl⟩) ?_ ?_
                  rotate_left
                  ·simp only [Act.put, List.setIfInBounds_toArray, List.set_cons_zero, List.set_cons_succ, i64_w, i32_w]
                   rfl
                  refine pure_ (i := 11) (N := some 68) (v := undef) (a' := ?_) #[true, true, true, true, true, true, true, true, true, true, true, true, false, false, false, false, false, false, false, false, false, false, false, false, false] rfl rfl (any_of HT_.out (by kernel_rfl)) (fun _ _ _ h => h) (Or.inr ⟨by rfl, rfl⟩) ?_ ?_
                  rotate_left
                  ·simp only [Act.put, List.setIfInBounds_toArray, List.set_cons_zero, List.set_cons_succ, i64_w, i32_w]
                   rfl
                  refine pure_ (i := 12) (N := some 69) (v := ?_) (a' := ?_) #[true, true, true, true, true, true, true, true, true, true, true, true, true, false, false, false, false, false, false, false, false, false, false, false, false] rfl rfl (any_of HT_.out (by kernel_rfl)) (fun _ _ _ h => h) (Or.inl ⟨by rfl, ?_⟩) ?_ ?_
                  rotate_left
                  ·intro w'
                   go_simp
                   with_reducible rfl
                  rotate_left
                  ·simp only [Act.put, List.setIfInBounds_toArray, List.set_cons_zero, List.set_cons_succ, i64_w, i32_w]
                   rfl
                  refine pure_ (i := 13) (N := some 70) (v := ?_) (a' := ?_) #[true, true, true, true, true, true, true, true, true, true, true, true, true, true, false, false, false, false, false, false, false, false, false, false, false] rfl rfl (any_of HT_.out (by kernel_rfl)) (fun _ _ _ h => h) (Or.inl ⟨by rfl, ?_⟩) ?_ ?_
                  rotate_left
                  ·intro w'
                   go_simp
                   with_reducible rfl
                  rotate_left
                  ·simp only [Act.put, List.setIfInBounds_toArray, List.set_cons_zero, List.set_cons_succ, i64_w, i32_w]
                   rfl
                  refine pure_ (i := 14) (N := some 71) (v := undef) (a' := ?_) #[true, true, true, true, true, true, true, true, true, true, true, true, true, true, true, false, false, false, false, false, false, false, false, false, false] rfl rfl (any_of HT_.out (by kernel_rfl)) (fun _ _ _ h => h) (Or.inr ⟨by rfl, rfl⟩) ?_ ?_
                  rotate_left
                  ·simp only [Act.put, List.setIfInBounds_toArray, List.set_cons_zero, List.set_cons_succ, i64_w, i32_w]
                   rfl
                  refine pure_ (i := 15) (N := some 72) (v := undef) (a' := ?_) #[true, true, true, true, true, true, true, true, true, true, true, true, true, true, true, true, false, false, false, false, false, false, false, false, false] rfl rfl (any_of HT_.out (by kernel_rfl)) (fun _ _ _ h => h) (Or.inr ⟨by rfl, rfl⟩) ?_ ?_
                  rotate_left
                  ·simp only [Act.put, List.setIfInBounds_toArray, List.set_cons_zero, List.set_cons_succ, i64_w, i32_w]
                   rfl
                  refine pure_ (i := 16) (N := some 73) (v := undef) (a' := ?_) #[true, true, true, true, true, true, true, true, true, true, true, true, true, true, true, true, true, false, false, false, false, false, false, false, false] rfl rfl (any_of HT_.out (by kernel_rfl)) (fun _ _ _ h => h) (Or.inr ⟨by rfl, rfl⟩) ?_ ?_
                  rotate_left
                  ·simp only [Act.put, List.setIfInBounds_toArray, List.set_cons_zero, List.set_cons_succ, i64_w, i32_w]
                   rfl
                  refine pure_ (i := 17) (N := some 74) (v := undef) (a' := ?_) #[true, true, true, true, true, true, true, true, true, true, true, true, true, true, true, true, true, true, false, false, false, false, false, false, false] rfl rfl (any_of HT_.out (by kernel_rfl)) (fun _ _ _ h => h) (Or.inr ⟨by rfl, rfl⟩) ?_ ?_
                  rotate_left
                  ·simp only [Act.put, List.setIfInBounds_toArray, List.set_cons_zero, List.set_cons_succ, i64_w, i32_w]
                   rfl
                  refine pure_ (i := 18) (N := some 75) (v := undef) (a' := ?_) #[true, true, true, true, true, true, true, true, true, true, true, true, true, true, true, true, true, true, true, false, false, false, false, false, false] rfl rfl (any_of HT_.out (by kernel_rfl)) (fun _ _ _ h => h) (Or.inr ⟨by rfl, rfl⟩) ?_ ?_
                  rotate_left
                  ·simp only [Act.put, List.setIfInBounds_toArray, List.set_cons_zero, List.set_cons_succ, i64_w, i32_w]
                   rfl
                  refine pure_ (i := 19) (N := some 76) (v := undef) (a' := ?_) #[true, true, true, true, true, true, true, true, true, true, true, true, true, true, true, true, true, true, true, true, false, false, false, false, false] rfl rfl (any_of HT_.out (by kernel_rfl)) (fun _ _ _ h => h) (Or.inr ⟨by rfl, rfl⟩) ?_ ?_
                  rotate_left
                  ·simp only [Act.put, List.setIfInBounds_toArray, List.set_cons_zero, List.set_cons_succ, i64_w, i32_w]
                   rfl
                  refine pure_ (i := 20) (N := some 77) (v := undef) (a' := ?_) #[true, true, true, true, true, true, true, true, true, true, true, true, true, true, true, true, true, true, true, true, true, false, false, false, false] rfl rfl (any_of HT_.out (by kernel_rfl)) (fun _ _ _ h => h) (Or.inr ⟨by rfl, rfl⟩) ?_ ?_
                  rotate_left
                  ·simp only [Act.put, List.setIfInBounds_toArray, List.set_cons_zero, List.set_cons_succ, i64_w, i32_w]
                   rfl
                  refine pure_ (i := 21) (N := some 78) (v := undef) (a' := ?_) #[true, true, true, true, true, true, true, true, true, true, true, true, true, true, true, true, true, true, true, true, true, true, false, false, false] rfl rfl (any_of HT_.out (by kernel_rfl)) (fun _ _ _ h => h) (Or.inr ⟨by rfl, rfl⟩) ?_ ?_
                  rotate_left
                  ·simp only [Act.put, List.setIfInBounds_toArray, List.set_cons_zero, List.set_cons_succ, i64_w, i32_w]
                   rfl
                  refine pure_ (i := 22) (N := some 79) (v := undef) (a' := ?_) #[true, true, true, true, true, true, true, true, true, true, true, true, true, true, true, true, true, true, true, true, true, true, true, false, false] rfl rfl (any_of HT_.out (by kernel_rfl)) (fun _ _ _ h => h) (Or.inr ⟨by rfl, rfl⟩) ?_ ?_
                  rotate_left
                  ·simp only [Act.put, List.setIfInBounds_toArray, List.set_cons_zero, List.set_cons_succ, i64_w, i32_w]
                   rfl
                  refine pure_ (i := 23) (N := some 80) (v := undef) (a' := ?_) #[true, true, true, true, true, true, true, true, true, true, true, true, true, true, true, true, true, true, true, true, true, true, true, true, false] rfl rfl (any_of HT_.out (by kernel_rfl)) (fun _ _ _ h => h) (Or.inr ⟨by rfl, rfl⟩) ?_ ?_
                  rotate_left
                  ·simp only [Act.put, List.setIfInBounds_toArray, List.set_cons_zero, List.set_cons_succ, i64_w, i32_w]
                   rfl
                  refine pure_ (i := 24) (N := some 81) (v := ?_) (a' := ?_) #[true, true, true, true, true, true, true, true, true, true, true, true, true, true, true, true, true, true, true, true, true, true, true, true, true] rfl rfl (any_of HT_.out (by kernel_rfl)) (fun _ _ _ h => h) (Or.inl ⟨by rfl, ?_⟩) ?_ ?_
                  rotate_left
                  ·intro w'
                   go_simp
                   with_reducible rfl
                  rotate_left
                  ·simp only [Act.put, List.setIfInBounds_toArray, List.set_cons_zero, List.set_cons_succ, i64_w, i32_w]
                   rfl
                  refine done_ (done_of HT_.out (by kernel_rfl)) ?_
                  try go_wp2
                  go_roundg k4
                  case measure => have := HK1.out; have := HK2.out; have := HK3.out; have := HK4.out; omega
                  case rel => exact ⟨(x5_4), (wrap64 (x10_4 + 1)), (by first | rfl | (simp; done) | (simp [*]; done)), H', ⟨by have := HK1.out; have := HK2.out; have := HK3.out; have := HK4.out; omega⟩, ⟨by (with_reducible repeat (first | apply Kd.R_alloc | apply Kd.R_drewN | apply Kd.R_drew)); exact HO_5.out⟩, ⟨by repeat (first | (with_reducible first | exact HB.out | apply below_alloc | apply pw_below_drewN | apply below_drew1) | exact HB.out)⟩⟩
                ·rw [if_neg c26] at H
                 exact absurd H (by simp)
               ·rw [if_neg c25] at H
                exact absurd H (by simp)
              ·rw [if_neg c24] at H
               have c24b0 : decide (x10_4 < (l1.length : Int)) = false := decide_eq_false c24
               clear c24
               have H' := Aside0.mk H
               clear H
               go_wp2
               go_roundg k4
               case measure => have := HK1.out; have := HK2.out; have := HK3.out; have := HK4.out; omega
               case rel => exact ⟨(x5_4), (wrap64 (x9_3 + 1)), (by first | rfl | (simp; done) | (simp [*]; done)), H', ⟨by have := HK1.out; have := HK2.out; have := HK3.out; have := HK4.out; omega⟩, ⟨by (with_reducible repeat (first | apply Kd.R_alloc | apply Kd.R_drewN | apply Kd.R_drew)); exact HO_5.out⟩, ⟨by repeat (first | (with_reducible first | exact HB.out | apply below_alloc | apply pw_below_drewN | apply below_drew1) | exact HB.out)⟩⟩
           ·rw [if_neg c23] at H
            have c23b0 : decide (x9_3 < (l1.length : Int)) = false := decide_eq_false c23
            clear c23
            have H' := Aside0.mk H
            clear H
            go_wp2
            go_roundg k3
            case measure => have := HK1.out; have := HK2.out; have := HK3.out; omega
            case rel => exact ⟨(x5_3), (wrap64 (x8_2 + 1)), (by first | rfl | (simp; done) | (simp [*]; done)), H', ⟨by have := HK1.out; have := HK2.out; have := HK3.out; omega⟩, ⟨by (with_reducible repeat (first | apply Kd.R_alloc | apply Kd.R_drewN | apply Kd.R_drew)); exact HO_5.out⟩, ⟨by repeat (first | (with_reducible first | exact HB.out | apply below_alloc | apply pw_below_drewN | apply below_drew1) | exact HB.out)⟩⟩
        ·rw [if_neg c22] at H
         have c22b0 : decide (x8_2 ≤ (l1.length : Int)) = false := decide_eq_false c22
         clear c22
         obtain rfl := Option.some.inj H
         go_wp2
         go_ret
         exact ⟨_, by first | rfl | (simp [errW_none, errW_some] <;> rfl) | (simp [*, errW_none, errW_some] <;> rfl), by (with_reducible repeat (first | apply Kd.R_alloc | apply Kd.R_drewN | apply Kd.R_drew)); exact HO_5.out, by repeat (first | (with_reducible first | exact HB.out | apply below_alloc | apply pw_below_drewN | apply below_drew1) | exact HB.out)⟩
  ·rw [if_neg c4] at H
   exact absurd H (by simp)
 ·rw [if_neg c3] at H
  exact absurd H (by simp)
end Go.Proofs.Ythpjpkcfepmhkaa.PAll
namespace Go.Proofs.Ythpjpkcfepmhkaa.PAll
open Go.RowKit Go.Proofs.YthpjpkcfepmhkaaW.PrintWords Go.Proofs.YthpjpkcfepmhkaaW.PrintLast Go.Proofs.YthpjpkcfepmhkaaW.PrintMore
set_option linter.unusedVariables false
set_option linter.unusedSimpArgs false
/-- There is a chain of n members that ends with q. -/
inductive Ch (os ms : List S50) : Nat → Nat → Prop where
  | base (q : Nat) (o : S50) : q < ms.length → o ∈ os → LeadsP os o (rd_T50 ms q) → Ch os ms 1 q
  | step (n k q : Nat) : Ch os ms n k → q < ms.length → LeadsP os (rd_T50 ms k) (rd_T50 ms q) → Ch os ms (n + 1) q
/-- .. and none that is shorter. -/
def MinCh (os ms : List S50) (n q : Nat) : Prop := Ch os ms n q ∧ ∀ m, m < n → ¬ Ch os ms m q
section
variable {os ms : List S50}
theorem Ch.lt {n q : Nat} (h : Ch os ms n q) : q < ms.length := by
  cases h with
  | base _ _ h _ _ => exact h
  | step _ _ _ _ h _ => exact h
theorem Ch.pos {n q : Nat} (h : Ch os ms n q) : 1 ≤ n := by
  cases h with
  | base _ _ _ _ _ => omega
  | step n _ _ _ _ _ => omega
theorem Ch.rch {n q : Nat} (h : Ch os ms n q) : Rch os ms q := by
  induction h with
  | base q o h1 h2 h3 => exact .base q o h1 h2 h3
  | step n k q _ h2 h3 ih => exact .step k q ih h2 h3
theorem Rch.ch {q : Nat} (h : Rch os ms q) : ∃ n, Ch os ms n q := by
  induction h with
  | base q o h1 h2 h3 => exact ⟨1, .base q o h1 h2 h3⟩
  | step k q _ h2 h3 ih =>
    obtain ⟨n, hn⟩ := ih
    exact ⟨n + 1, .step n k q hn h2 h3⟩
theorem Ch.min : ∀ {n q : Nat}, Ch os ms n q → ∃ m, m ≤ n ∧ MinCh os ms m q := by
  intro n
  induction n using Nat.strongRecOn with
  | ind n ih =>
    intro q h
    by_cases c : ∃ m, m < n ∧ Ch os ms m q
    · obtain ⟨m, h1, h2⟩ := c
      obtain ⟨m', h3, h4⟩ := ih m h1 h2
      exact ⟨m', by omega, h4⟩
    · exact ⟨n, by omega, h, fun m h1 h2 => c ⟨m, h1, h2⟩⟩
theorem MinCh.uniq {n m q : Nat} (h1 : MinCh os ms n q) (h2 : MinCh os ms m q) : n = m := by
  rcases Nat.lt_trichotomy n m with h | h | h
  · exact absurd h1.1 (h2.2 n h)
  · exact h
  · exact absurd h2.1 (h1.2 m h)
theorem MinCh.pre {n q : Nat} (h : MinCh os ms (n + 1) q) (hn : 1 ≤ n) : ∃ k, MinCh os ms n k ∧ LeadsP os (rd_T50 ms k) (rd_T50 ms q) := by
  obtain ⟨h1, h2⟩ := h
  cases h1 with
  | base _ _ _ _ _ => omega
  | step _ k _ hk hq hl => exact ⟨k, ⟨hk, fun m hm hc => h2 (m + 1) (by omega) (.step m k q hc hq hl)⟩, hl⟩
theorem MinCh.list : ∀ {n q : Nat}, MinCh os ms n q → ∃ l : List Int, l.length = n ∧ l.Nodup ∧ ∀ x, x ∈ l → ∃ (p m : Nat), x = (p : Int) ∧ m ≤ n ∧ MinCh os ms m p
  | 0, q, h => absurd h.1.pos (by omega)
  | 1, q, h => ⟨[(q : Int)], rfl, by simp, fun x hx => ⟨q, 1, by simpa using hx, by omega, h⟩⟩
  | n + 2, q, h => by
    obtain ⟨k, hk, _⟩ := h.pre (by omega)
    obtain ⟨l, h1, h2, h3⟩ := hk.list
    refine ⟨(q : Int) :: l, by simp [h1], List.nodup_cons.2 ⟨fun hm => ?_, h2⟩, fun x hx => ?_⟩
    · obtain ⟨p, m, e, hm2, hp⟩ := h3 _ hm
      have : q = p := by omega
      subst this
      have := h.uniq hp
      omega
    · rcases List.mem_cons.1 hx with rfl | hx
      · exact ⟨q, n + 2, rfl, by omega, h⟩
      · obtain ⟨p, m, e, hm2, hp⟩ := h3 _ hx
        exact ⟨p, m, e, by omega, hp⟩
theorem MinCh.le {n q : Nat} (h : MinCh os ms n q) : n ≤ ms.length := by
  obtain ⟨l, h1, h2, h3⟩ := h.list
  have := pigeonI ms.length l h2 (fun x hx => by
    obtain ⟨p, m, rfl, _, hp⟩ := h3 x hx
    have := hp.1.lt
    omega)
  omega
/-- What is known of a length when chains of n have been looked at. -/
def At (os ms : List S50) (n : Nat) (x : Int) (q : Nat) : Prop := (∃ m : Nat, 1 ≤ m ∧ m ≤ n ∧ x = (m : Int) ∧ MinCh os ms m q) ∨ (x = 0 ∧ ∀ m, m ≤ n → ¬ Ch os ms m q)
theorem At.eq {n : Nat} {x : Int} {q : Nat} {N : Nat} (hN : n ≤ N) (hn : 1 ≤ n) (h : At os ms N x q) : x = (n : Int) ↔ MinCh os ms n q := by
  rcases h with ⟨m, h1, h2, rfl, h3⟩ | ⟨rfl, h⟩
  · constructor
    · intro e
      have : m = n := by omega
      rw [← this]; exact h3
    · intro h
      rw [h3.uniq h]
  · constructor
    · intro e; omega
    · intro h2; exact absurd h2.1 (h n hN)
theorem At.up {n : Nat} {x : Int} {q : Nat} (h : At os ms n x q) (hne : x ≠ 0) : At os ms (n + 1) x q := by
  rcases h with ⟨m, h1, h2, h3, h4⟩ | ⟨h1, _⟩
  · exact .inl ⟨m, h1, by omega, h3, h4⟩
  · exact absurd h1 hne
structure St (os ms : List S50) (n i : Nat) (L : List Int) : Prop where
  len : L.length = ms.length
  lo : ∀ q, q < i → q < ms.length → At os ms (n + 1) (rd L (q : Int)) q
  hi : ∀ q, i ≤ q → q < ms.length → At os ms n (rd L (q : Int)) q
theorem rd_set {L : List Int} {i q : Nat} {x : Int} (hi : i < L.length) : rd (L.set i x) (q : Int) = if q = i then x else rd L (q : Int) := by
  unfold rd
  rw [Int.toNat_natCast, List.getD_eq_getElem?_getD, List.getD_eq_getElem?_getD, List.getElem?_set]
  by_cases e : i = q
  · subst e
    rw [if_pos rfl, if_pos rfl, if_pos hi]; rfl
  · rw [if_neg e, if_neg (fun h => e h.symm)]
theorem St.known {n i q k : Nat} {L : List Int} (h : St os ms n i L) (hk : k < ms.length) (hn : 1 ≤ n) : rd L (k : Int) = (n : Int) ↔ MinCh os ms n k := by
  by_cases c : k < i
  · exact (h.lo k c hk).eq (by omega) hn
  · exact (h.hi k (by omega) hk).eq (by omega) hn
theorem St.next {n i : Nat} {L : List Int} (h : St os ms n i L) (hi : i < ms.length) (ha : At os ms (n + 1) (rd L (i : Int)) i) : St os ms n (i + 1) L :=
  ⟨h.len, fun q h1 h2 => by
    by_cases e : q = i
    · subst e; exact ha
    · exact h.lo q (by omega) h2, fun q h1 h2 => h.hi q (by omega) h2⟩
theorem St.set {n i : Nat} {L : List Int} (h : St os ms n i L) (hi : i < ms.length) (hm : MinCh os ms (n + 1) i) : St os ms n (i + 1) (L.set i ((n + 1 : Nat) : Int)) :=
  ⟨by rw [List.length_set]; exact h.len, fun q h1 h2 => by
    rw [rd_set (by rw [h.len]; exact hi)]
    by_cases e : q = i
    · subst e; rw [if_pos rfl]; exact .inl ⟨n + 1, by omega, by omega, rfl, hm⟩
    · rw [if_neg e]; exact h.lo q (by omega) h2, fun q h1 h2 => by
    rw [rd_set (by rw [h.len]; exact hi), if_neg (by omega)]
    exact h.hi q (by omega) h2⟩
end
section
variable {os ms : List S50} {r : List Int}
/-- The rest of a round for a member whose length is known. -/
theorem need_l4_done (so : Slim os) (sm : Slim ms) {L : List Int} (hL : L.length = ms.length) {n i : Nat} (hi : i < ms.length) (hn : n ≤ 1000000) (hne : rd L (i : Int) ≠ 0)
    (hend : Ev (fun k => arlinkref22_Needed.l3 k os ms L (n : Int) ((i + 1 : Nat) : Int)) r) : ∀ (d j : Nat), j + d = ms.length → Ev (fun k => arlinkref22_Needed.l4 k os ms L (n : Int) (i : Int) (j : Int)) r
  | 0, j, h => by
    have hl := sm.1
    exact Ev.step (fun k => by simp only [arlinkref22_Needed.l4]; rw [if_neg (by omega), wrN i (by omega)]) hend
  | d + 1, j, h => by
    have hl := sm.1
    have ih := need_l4_done so sm hL hi hn hne hend d (j + 1) (by omega)
    by_cases c : rd L (j : Int) = (n : Int)
    · exact Ev.step (fun k => by simp only [arlinkref22_Needed.l4]; rw [if_pos (by omega), if_pos (by omega), if_pos (by omega), if_pos c, if_pos (by omega), if_pos (by omega), if_neg hne, wrN j (by omega)]) ih
    · exact Ev.step (fun k => by simp only [arlinkref22_Needed.l4]; rw [if_pos (by omega), if_pos (by omega), if_pos (by omega), if_neg c, wrN j (by omega)]) ih
/-- A round for a member whose length is not known yet. -/
theorem need_l4_open (so : Slim os) (sm : Slim ms) {L : List Int} (hL : L.length = ms.length) {n i : Nat} (hi : i < ms.length) (hn : n ≤ 1000000) (h0 : rd L (i : Int) = 0)
    (hset : ∀ t, t < ms.length → rd L (t : Int) = (n : Int) → LeadsP os (rd_T50 ms (t : Int)) (rd_T50 ms (i : Int)) → Ev (fun k => arlinkref22_Needed.l3 k os ms (L.set i ((n + 1 : Nat) : Int)) (n : Int) ((i + 1 : Nat) : Int)) r)
    (hno : (∀ t, t < ms.length → ¬ (rd L (t : Int) = (n : Int) ∧ LeadsP os (rd_T50 ms (t : Int)) (rd_T50 ms (i : Int)))) → Ev (fun k => arlinkref22_Needed.l3 k os ms L (n : Int) ((i + 1 : Nat) : Int)) r) :
    ∀ (d j : Nat), j + d = ms.length → (∀ t, t < j → ¬ (rd L (t : Int) = (n : Int) ∧ LeadsP os (rd_T50 ms (t : Int)) (rd_T50 ms (i : Int)))) → Ev (fun k => arlinkref22_Needed.l4 k os ms L (n : Int) (i : Int) (j : Int)) r
  | 0, j, h, hb => by
    have hl := sm.1
    have hj : j = ms.length := by omega
    subst hj
    exact Ev.step (fun k => by simp only [arlinkref22_Needed.l4]; rw [if_neg (by omega), wrN i (by omega)]) (hno hb)
  | d + 1, j, h, hb => by
    have hl := sm.1
    have hj : j < ms.length := by omega
    by_cases c : rd L (j : Int) = (n : Int)
    · have hh := leads_ev os so (rd_T50 ms (j : Int)) (rd_T50 ms (i : Int)) (by rw [rd50 hj]; exact sm.2 _ (List.getElem_mem hj)) (by rw [rd50 hi]; exact sm.2 _ (List.getElem_mem hi))
      refine Ev.step (f := fun k => (arlinkref22_Leads.f k os (rd_T50 ms (j : Int)).f0 (rd_T50 ms (j : Int)).f1 (rd_T50 ms (i : Int)).f0 (rd_T50 ms (i : Int)).f1).bind fun t => if t = true then arlinkref22_Needed.l4 k os ms (L.set i ((n + 1 : Nat) : Int)) (n : Int) (i : Int) ((j + 1 : Nat) : Int) else arlinkref22_Needed.l4 k os ms L (n : Int) (i : Int) ((j + 1 : Nat) : Int)) (fun k => by
        simp only [arlinkref22_Needed.l4]
        rw [if_pos (by omega), if_pos (by omega), if_pos (by omega), if_pos c, if_pos (by omega), if_pos (by omega), if_pos h0, if_pos (by omega), wrN j (by omega), wrN n (by omega), Int.toNat_natCast]) (Ev.bind hh ?_)
      cases hb2 : leadsB os (rd_T50 ms (j : Int)) (rd_T50 ms (i : Int)) with
      | true =>
        refine Ev.congr (fun k => by rw [if_pos rfl]) (need_l4_done so sm (by rw [List.length_set]; exact hL) hi hn ?_ (hset j hj c (leadsB_iff.1 hb2)) d (j + 1) (by omega))
        rw [rd_set (by omega), if_pos rfl]
        omega
      | false =>
        refine Ev.congr (fun k => by rw [if_neg (by decide)]) (need_l4_open so sm hL hi hn h0 hset hno d (j + 1) (by omega) (fun t ht => ?_))
        by_cases e : t = j
        · subst e
          rintro ⟨_, h2⟩
          rw [leadsB_iff.2 h2] at hb2
          cases hb2
        · exact hb t (by omega)
    · refine Ev.step (fun k => by simp only [arlinkref22_Needed.l4]; rw [if_pos (by omega), if_pos (by omega), if_pos (by omega), if_neg c, wrN j (by omega)]) (need_l4_open so sm hL hi hn h0 hset hno d (j + 1) (by omega) (fun t ht => ?_))
      by_cases e : t = j
      · subst e
        exact fun h => c h.1
      · exact hb t (by omega)
/-- The result: the lengths of shortest chains. -/
def Lens (os ms : List S50) (L : List Int) : Prop := L.length = ms.length ∧ ∀ q, q < ms.length → (∃ m : Nat, 1 ≤ m ∧ rd L (q : Int) = (m : Int) ∧ MinCh os ms m q) ∨ (rd L (q : Int) = 0 ∧ ¬ Rch os ms q)
theorem need_l3 (so : Slim os) (sm : Slim ms) {n : Nat} (h1 : 1 ≤ n) (hn : n ≤ 1000000) (hend : ∀ L, St os ms (n + 1) 0 L → ∃ R, Lens os ms R ∧ Ev (fun k => arlinkref22_Needed.l2 k os ms L ((n + 1 : Nat) : Int)) R) :
    ∀ (d i : Nat) (L : List Int), i + d = ms.length → St os ms n i L → ∃ R, Lens os ms R ∧ Ev (fun k => arlinkref22_Needed.l3 k os ms L (n : Int) (i : Int)) R
  | 0, i, L, h, hS => by
    obtain ⟨R, hR, hE⟩ := hend L ⟨hS.len, fun q h1 h2 => by omega, fun q h1 h2 => hS.lo q (by omega) h2⟩
    exact ⟨R, hR, Ev.step (fun k => by simp only [arlinkref22_Needed.l3]; rw [if_neg (by omega), wrN n (by omega)]) hE⟩
  | d + 1, i, L, h, hS => by
    have hi : i < ms.length := by omega
    have hA := hS.hi i (Nat.le_refl _) hi
    have hst : ∀ {R : List Int}, Ev (fun k => arlinkref22_Needed.l4 k os ms L (n : Int) (i : Int) ((0 : Nat) : Int)) R → Ev (fun k => arlinkref22_Needed.l3 k os ms L (n : Int) (i : Int)) R := fun hE =>
      Ev.step (fun k => by simp only [arlinkref22_Needed.l3]; rw [if_pos (by omega)]; rfl) hE
    by_cases c : rd L (i : Int) = 0
    · have hnc : ∀ m, m ≤ n → ¬ Ch os ms m i := by
        rcases hA with ⟨m, a1, _, a3, _⟩ | ⟨_, a⟩
        · omega
        · exact a
      by_cases hex : ∃ t, t < ms.length ∧ rd L (t : Int) = (n : Int) ∧ LeadsP os (rd_T50 ms (t : Int)) (rd_T50 ms (i : Int))
      · obtain ⟨t, ht, e1, e2⟩ := hex
        have hmin : MinCh os ms (n + 1) i := ⟨.step n t i ((hS.known (q := 0) ht h1).1 e1).1 hi e2, fun m hm => hnc m (by omega)⟩
        obtain ⟨R, hR, hE⟩ := need_l3 so sm h1 hn hend d (i + 1) _ (by omega) (hS.set hi hmin)
        exact ⟨R, hR, hst (need_l4_open so sm hS.len hi hn c (fun _ _ _ _ => hE) (fun hno => absurd ⟨e1, e2⟩ (hno t ht)) ms.length 0 (by omega) (fun t ht => by omega))⟩
      · have hA2 : At os ms (n + 1) (rd L (i : Int)) i := by
          refine .inr ⟨c, fun m hm hc => ?_⟩
          by_cases e : m = n + 1
          · subst e
            obtain ⟨k, hk, hl⟩ := MinCh.pre ⟨hc, fun m hm => hnc m (by omega)⟩ h1
            exact hex ⟨k, hk.1.lt, (hS.known (q := 0) hk.1.lt h1).2 hk, hl⟩
          · exact hnc m (by omega) hc
        obtain ⟨R, hR, hE⟩ := need_l3 so sm h1 hn hend d (i + 1) L (by omega) (hS.next hi hA2)
        exact ⟨R, hR, hst (need_l4_open so sm hS.len hi hn c (fun t ht a1 a2 => absurd ⟨t, ht, a1, a2⟩ hex) (fun _ => hE) ms.length 0 (by omega) (fun t ht => by omega))⟩
    · obtain ⟨R, hR, hE⟩ := need_l3 so sm h1 hn hend d (i + 1) L (by omega) (hS.next hi (hA.up c))
      exact ⟨R, hR, hst (need_l4_done so sm hS.len hi hn c hE ms.length 0 (by omega))⟩
theorem need_l2 (so : Slim os) (sm : Slim ms) : ∀ (d n : Nat) (L : List Int), 1 ≤ n → n + d = ms.length + 1 → St os ms n 0 L → ∃ R, Lens os ms R ∧ Ev (fun k => arlinkref22_Needed.l2 k os ms L (n : Int)) R
  | 0, n, L, h1, h, hS => by
    refine ⟨L, ⟨hS.len, fun q hq => ?_⟩, Ev.step (f := fun _ => some L) (fun k => by simp only [arlinkref22_Needed.l2]; rw [if_neg (by omega)]) (Ev.now _)⟩
    rcases hS.hi q (by omega) hq with ⟨m, a1, _, a3, a4⟩ | ⟨a1, a2⟩
    · exact .inl ⟨m, a1, a3, a4⟩
    · refine .inr ⟨a1, fun hr => ?_⟩
      obtain ⟨m, hm⟩ := hr.ch
      obtain ⟨m', _, hm'⟩ := hm.min
      exact a2 m' (by have := hm'.le; omega) hm'.1
  | d + 1, n, L, h1, h, hS => by
    have hl := sm.1
    obtain ⟨R, hR, hE⟩ := need_l3 so sm h1 (by omega) (fun L' hL' => need_l2 so sm d (n + 1) L' (by omega) (by omega) hL') ms.length 0 L (by omega) hS
    exact ⟨R, hR, Ev.step (fun k => by simp only [arlinkref22_Needed.l2]; rw [if_pos (by omega)]; rfl) hE⟩
/-- The members that the objects lead to. -/
theorem need_l1 (so : Slim os) (sm : Slim ms) {i : Nat} (hi : i < ms.length) {L : List Int} (hL : L.length = ms.length)
    (hset : (∃ o, o ∈ os ∧ LeadsP os o (rd_T50 ms (i : Int))) → ∀ L', L' = L.set i 1 → Ev (fun k => arlinkref22_Needed.l0 k os ms L' ((i + 1 : Nat) : Int)) r) (hno : (¬ ∃ o, o ∈ os ∧ LeadsP os o (rd_T50 ms (i : Int))) → Ev (fun k => arlinkref22_Needed.l0 k os ms L ((i + 1 : Nat) : Int)) r) :
    ∀ (d j : Nat) (L' : List Int), j + d = os.length → (L' = L ∧ (∀ t (ht : t < os.length), t < j → ¬ LeadsP os os[t] (rd_T50 ms (i : Int))) ∨ L' = L.set i 1 ∧ ∃ o, o ∈ os ∧ LeadsP os o (rd_T50 ms (i : Int))) → Ev (fun k => arlinkref22_Needed.l1 k os ms L' (i : Int) (j : Int)) r
  | 0, j, L', h, hb => by
    have hl := sm.1
    have hl2 := so.1
    rcases hb with ⟨rfl, hb⟩ | ⟨rfl, hb⟩
    · exact Ev.step (fun k => by simp only [arlinkref22_Needed.l1]; rw [if_neg (by omega), wrN i (by omega)]) (hno (fun ⟨o, ho, hp⟩ => by
        obtain ⟨t, ht, rfl⟩ := List.getElem_of_mem ho
        exact hb t ht (by omega) hp))
    · exact Ev.step (fun k => by simp only [arlinkref22_Needed.l1]; rw [if_neg (by omega), wrN i (by omega)]) (hset hb _ rfl)
  | d + 1, j, L', h, hb => by
    have hl := sm.1
    have hl2 := so.1
    have hj : j < os.length := by omega
    have hr : rd_T50 os (j : Int) = os[j] := rd50 hj
    have hLL : L'.length = ms.length := by
      rcases hb with ⟨rfl, _⟩ | ⟨rfl, _⟩
      · exact hL
      · rw [List.length_set]; exact hL
    have hh := leads_ev os so os[j] (rd_T50 ms (i : Int)) (so.2 _ (List.getElem_mem hj)) (by rw [rd50 hi]; exact sm.2 _ (List.getElem_mem hi))
    refine Ev.step (f := fun k => (arlinkref22_Leads.f k os os[j].f0 os[j].f1 (rd_T50 ms (i : Int)).f0 (rd_T50 ms (i : Int)).f1).bind fun t => if t = true then arlinkref22_Needed.l1 k os ms (L'.set i 1) (i : Int) ((j + 1 : Nat) : Int) else arlinkref22_Needed.l1 k os ms L' (i : Int) ((j + 1 : Nat) : Int)) (fun k => by
      simp only [arlinkref22_Needed.l1]
      rw [if_pos (by omega), if_pos (by omega), if_pos (by omega), if_pos (by omega), if_pos (by omega), hr, wrN j (by omega), Int.toNat_natCast]) (Ev.bind hh ?_)
    cases hb2 : leadsB os os[j] (rd_T50 ms (i : Int)) with
    | true =>
      refine Ev.congr (fun k => by rw [if_pos rfl]) (need_l1 so sm hi hL hset hno d (j + 1) _ (by omega) (.inr ⟨?_, os[j], List.getElem_mem hj, leadsB_iff.1 hb2⟩))
      rcases hb with ⟨rfl, _⟩ | ⟨rfl, _⟩
      · rfl
      · rw [List.set_set]
    | false =>
      refine Ev.congr (fun k => by rw [if_neg (by decide)]) (need_l1 so sm hi hL hset hno d (j + 1) _ (by omega) ?_)
      rcases hb with ⟨rfl, hb⟩ | hb
      · refine .inl ⟨rfl, fun t ht h2 h3 => ?_⟩
        by_cases e : t = j
        · subst e
          rw [leadsB_iff.2 h3] at hb2
          cases hb2
        · exact hb t ht (by omega) h3
      · exact .inr hb
theorem need_l0 (so : Slim os) (sm : Slim ms) : ∀ (d i : Nat) (L : List Int), i + d = ms.length → St os ms 0 i L → ∃ R, Lens os ms R ∧ Ev (fun k => arlinkref22_Needed.l0 k os ms L (i : Int)) R
  | 0, i, L, h, hS => by
    obtain ⟨R, hR, hE⟩ := need_l2 so sm ms.length 1 L (by omega) (by omega) ⟨hS.len, fun q h1 h2 => by omega, fun q h1 h2 => hS.lo q (by omega) h2⟩
    exact ⟨R, hR, Ev.step (fun k => by simp only [arlinkref22_Needed.l0]; rw [if_neg (by omega)]; rfl) hE⟩
  | d + 1, i, L, h, hS => by
    have hi : i < ms.length := by omega
    have hA := hS.hi i (Nat.le_refl _) hi
    have hst : ∀ {R : List Int}, Ev (fun k => arlinkref22_Needed.l1 k os ms L (i : Int) ((0 : Nat) : Int)) R → Ev (fun k => arlinkref22_Needed.l0 k os ms L (i : Int)) R := fun hE =>
      Ev.step (fun k => by simp only [arlinkref22_Needed.l0]; rw [if_pos (by omega)]; rfl) hE
    by_cases hex : ∃ o, o ∈ os ∧ LeadsP os o (rd_T50 ms (i : Int))
    · obtain ⟨o, ho, hp⟩ := hex
      have hmin : MinCh os ms (0 + 1) i := ⟨.base i o hi ho hp, fun m hm hc => by have := hc.pos; omega⟩
      obtain ⟨R, hR, hE⟩ := need_l0 so sm d (i + 1) _ (by omega) (hS.set hi hmin)
      exact ⟨R, hR, hst (need_l1 so sm hi hS.len (fun _ L' hL' => by subst hL'; exact hE) (fun hno => absurd ⟨o, ho, hp⟩ hno) os.length 0 L (by omega) (.inl ⟨rfl, fun t ht h => by omega⟩))⟩
    · have hA2 : At os ms (0 + 1) (rd L (i : Int)) i := by
        rcases hA with ⟨m, a1, a2, _, _⟩ | ⟨a1, a2⟩
        · omega
        · refine .inr ⟨a1, fun m hm hc => ?_⟩
          cases hc with
          | base _ o _ ho hp => exact hex ⟨o, ho, hp⟩
          | step n k _ hk _ _ => have := hk.pos; omega
      obtain ⟨R, hR, hE⟩ := need_l0 so sm d (i + 1) L (by omega) (hS.next hi hA2)
      exact ⟨R, hR, hst (need_l1 so sm hi hS.len (fun h => absurd h hex) (fun _ => hE) os.length 0 L (by omega) (.inl ⟨rfl, fun t ht h => by omega⟩))⟩
theorem rd_zeros (N q : Nat) : rd (List.replicate N 0) (q : Int) = 0 := by
  unfold rd
  rw [Int.toNat_natCast, List.getD_eq_getElem?_getD, List.getElem?_replicate]
  split <;> rfl
theorem refNeeded_ev (so : Slim os) (sm : Slim ms) : ∃ R, Lens os ms R ∧ Ev (fun k => arlinkref22_Needed.f k os ms) R := by
  have hl := sm.1
  obtain ⟨R, hR, hE⟩ := need_l0 so sm ms.length 0 (List.replicate ms.length 0) (by omega) ⟨by simp, fun q h1 h2 => by omega, fun q h1 h2 => .inr ⟨rd_zeros _ _, fun m hm hc => by have := hc.pos; omega⟩⟩
  refine ⟨R, hR, Ev.congr (fun k => ?_) hE⟩
  unfold arlinkref22_Needed.f
  rw [if_pos (by omega), if_pos (by omega), Int.toNat_natCast]; rfl
end
end Go.Proofs.Ythpjpkcfepmhkaa.PAll
namespace Go.Proofs.Ythpjpkcfepmhkaa.PAll.R
open Go.RowKit Go.Proofs.YthpjpkcfepmhkaaW.PrintWords Go.Proofs.YthpjpkcfepmhkaaW.PrintLast Go.Proofs.YthpjpkcfepmhkaaW.PrintMore
set_option linter.unusedVariables false
set_option linter.unusedSimpArgs false
def less (a b : Int) : Bool := decide (a < b)
/-- The variable at the head of block g holds v, a row of one's own that reads as xs; behind it in the block: rest. -/
def HS (w : World) (base g : Nat) (rest : List Value) (v : Value) (xs : List Int) : Prop := w.heap[g]? = some (.cells (v :: rest).toArray 71 (0, 0)) ∧ Kd.R (Kd.int .i64) 3 w base (fun _ => True) v xs
theorem row_cell {w : World} {base b c n : Nat} {ok : Nat → Prop} {xs : List Int} (h : Kd.R (Kd.int .i64) 3 w base ok (.slice (some ⟨b, 0, none⟩) n c) xs) (i : Nat) (hi : i < xs.length) :
    w.cell? ⟨b, i, none⟩ = some (.int .i64 (Hp.at_ (0 : Int) xs i)) ∧ w.frozen? ⟨b, i, none⟩ = false := by
  obtain ⟨hn, _, _⟩ := Kd.R_reads' h
  subst hn
  have := Kd.R_cell (enc := (Value.int .i64)) (h1 := fun _ => rfl) (0 : Int) h (i : Int) (Int.natCast_nonneg _) (by omega)
  simp only [Int.toNat_natCast] at this
  exact this
set_option maxHeartbeats 1000000 in
theorem less_calls (w : World) (base : Nat) (ok : Nat → Prop) (v : Value) (xs : List Int) (i k : Int) (hR : Kd.R (Kd.int .i64) 3 w base ok v xs) (hi0 : 0 ≤ i) (hi : i < xs.length) (hk0 : 0 ≤ k) (hk : k < xs.length) :
    Calls Try.prog 86 #[v, .int .i64 i, .int .i64 k] w fun e w' => e = .returned (.bool (less (Hp.at_ (0 : Int) xs i.toNat) (Hp.at_ (0 : Int) xs k.toNat))) ∧ Below w.heap.size w w' := by
  obtain ⟨b, c, rfl, hbb, hbl, _⟩ := Kd.R_form hR (by omega)
  obtain ⟨i, rfl⟩ := Int.eq_ofNat_of_zero_le hi0
  obtain ⟨k, rfl⟩ := Int.eq_ofNat_of_zero_le hk0
  simp only [Int.toNat_natCast]
  obtain ⟨h0, _⟩ := row_cell hR i (by omega)
  obtain ⟨g0, _⟩ := row_cell hR k (by omega)
  clear hR
  generalize Hp.at_ (0 : Int) xs i = x at *
  generalize Hp.at_ (0 : Int) xs k = y at *
  generalize xs.length = n at *
  unfold less
  go_enter Try.func86, Try.ntmps86
  go_wp2
  go_region
  all_goals go_wp2
  all_goals (go_ret; exact ⟨rfl, by repeat (first | exact Below.refl _ _ | apply below_drew | apply below_alloc)⟩)
/-- Element i of a row of one's own is written. -/
theorem row_set {w : World} {base b c n : Nat} {ok : Nat → Prop} {xs : List Int} (h : Kd.R (Kd.int .i64) 3 w base ok (.slice (some ⟨b, 0, none⟩) n c) xs) (i : Nat) (x : Int) :
    Kd.R (Kd.int .i64) 3 (w.setCell ⟨b, i, none⟩ (.int .i64 x)) base ok (.slice (some ⟨b, 0, none⟩) n c) (xs.set i x) ∧ w.grownBy (w.setCell ⟨b, i, none⟩ (.int .i64 x)) (some b) := by
  obtain ⟨hn, _, _⟩ := Kd.R_reads' h
  subst hn
  have := Kd.R_put (enc := (Value.int .i64)) (h1 := fun _ => rfl) h (i : Int) x
  simp only [Int.toNat_natCast] at this
  exact this
theorem two_set {w0 w w1 w2 : World} {base g b n c : Nat} {rest : List Value} {v : Value} {ys : List Int} (gr1 : w.grownBy w1 (some b)) (gr2 : w1.grownBy w2 (some b)) (r2 : Kd.R (Kd.int .i64) 3 w2 base (fun _ => True) (.slice (some ⟨b, 0, none⟩) n c) ys)
    (hg : w.heap[g]? = some (.cells (v :: rest).toArray 71 (0, 0))) (hbg : g ≠ b) (hB : Below base w0 w) (hbs : base ≤ w.heap.size) (hbb : base ≤ b) :
    w2.drew.heap[g]? = some (.cells (v :: rest).toArray 71 (0, 0)) ∧ Kd.R (Kd.int .i64) 3 w2.drew base (fun _ => True) (.slice (some ⟨b, 0, none⟩) n c) ys ∧ Below base w0 w2.drew ∧ KeepBut w w2.drew g (some b) := by
  have gr := World.grownBy.trans gr1 gr2
  refine ⟨?_, Kd.R_drew r2, below_drew (hB.grown gr hbs (fun k hk => by injection hk with hk; omega)), KeepBut.of_grown (w1 := w2.drew) ⟨gr.os, gr.tape, gr.output, gr.size, gr.block⟩ g⟩
  exact (gr.block g (blk_lt hg) (fun e => hbg (by injection e))).trans hg
set_option maxHeartbeats 1000000 in
theorem swap_calls (w0 w : World) (base g : Nat) (rest : List Value) (v : Value) (xs : List Int) (i k : Int) (hs : HS w base g rest v xs) (hB : Below base w0 w) (hbs : base ≤ w.heap.size) (hi0 : 0 ≤ i) (hi : i < xs.length) (hk0 : 0 ≤ k) (hk : k < xs.length) :
    Calls Try.prog 87 #[v, .int .i64 i, .int .i64 k] w fun e w' => e = .returned (.tuple #[]) ∧ HS w' base g rest v (Hp.swp (0 : Int) xs i.toNat k.toNat) ∧ Below base w0 w' ∧ KeepBut w w' g v.ownBlock := by
  obtain ⟨hg, hR⟩ := hs
  have hne := Kd.R_ne hR hg (by decide)
  obtain ⟨b, c, rfl, hbb, hbl, _⟩ := Kd.R_form hR (by omega)
  obtain ⟨i, rfl⟩ := Int.eq_ofNat_of_zero_le hi0
  obtain ⟨k, rfl⟩ := Int.eq_ofNat_of_zero_le hk0
  simp only [Int.toNat_natCast]
  obtain ⟨h0, f0⟩ := row_cell hR i (by omega)
  obtain ⟨g0, e0⟩ := row_cell hR k (by omega)
  have hfin : ∀ W, W = ((w.setCell ⟨b, i, none⟩ (.int .i64 (Hp.at_ (0 : Int) xs k))).setCell ⟨b, k, none⟩ (.int .i64 (Hp.at_ (0 : Int) xs i))).drew →
      HS W base g rest (.slice (some ⟨b, 0, none⟩) xs.length c) (Hp.swp (0 : Int) xs i k) ∧ Below base w0 W ∧ KeepBut w W g (some b) := by
    intro W hW
    obtain ⟨r1, gr1⟩ := row_set hR i (Hp.at_ (0 : Int) xs k)
    obtain ⟨r2, gr2⟩ := row_set r1 k (Hp.at_ (0 : Int) xs i)
    have hbg : g ≠ b := fun e => hne (by rw [e]; rfl)
    subst hW
    unfold Hp.swp HS
    obtain ⟨a1, a2, a3, a4⟩ := two_set gr1 gr2 r2 hg hbg hB hbs hbb
    exact ⟨⟨a1, a2⟩, a3, a4⟩
  have HF := Lib.hid hfin
  clear hfin hR hne hg hB
  rcases Nat.lt_trichotomy i k with hik | rfl | hik
  · generalize Hp.at_ (0 : Int) xs i = x at *
    generalize Hp.at_ (0 : Int) xs k = y at *
    generalize Hp.swp (0 : Int) xs i k = ys at *
    generalize xs.length = n at *
    go_enter Try.func87, Try.ntmps87
    go_wp2
    go_region
    all_goals (go_end0; exact ⟨rfl, HF.out _ rfl⟩)
  · clear g0 e0
    generalize Hp.at_ (0 : Int) xs i = x at *
    generalize Hp.swp (0 : Int) xs i i = ys at *
    generalize xs.length = n at *
    go_enter Try.func87, Try.ntmps87
    go_wp2
    go_region
    all_goals (go_end0; exact ⟨rfl, HF.out _ rfl⟩)
  · generalize Hp.at_ (0 : Int) xs i = x at *
    generalize Hp.at_ (0 : Int) xs k = y at *
    generalize Hp.swp (0 : Int) xs i k = ys at *
    generalize xs.length = n at *
    go_enter Try.func87, Try.ntmps87
    go_wp2
    go_region
    all_goals (go_end0; exact ⟨rfl, HF.out _ rfl⟩)
theorem cell0 {w : World} {g t : Nat} {rest : List Value} {v : Value} (h : w.heap[g]? = some (.cells (v :: rest).toArray t (0, 0))) : w.cell? ⟨g, 0, none⟩ = some v ∧ w.frozen? ⟨g, 0, none⟩ = false :=
  ⟨(blk_cell h 0).trans (by simp), blk_frozen h _⟩
theorem set0 {w : World} {g t : Nat} {rest : List Value} {v : Value} (h : w.heap[g]? = some (.cells (v :: rest).toArray t (0, 0))) (u : Value) : (w.setCell ⟨g, 0, none⟩ u).heap[g]? = some (.cells (u :: rest).toArray t (0, 0)) :=
  (blk_set h 0 u).trans (by simp)
theorem HS_below {w w1 : World} {base g : Nat} {rest : List Value} {v : Value} {xs : List Int} (h : HS w base g rest v xs) (hb : Below w.heap.size w w1) : HS w1 base g rest v xs :=
  ⟨(hb.block g (blk_lt h.1)).trans h.1, Kd.R_below h.2 hb⟩
theorem HS_cell {w : World} {base g : Nat} {rest : List Value} {v : Value} {xs : List Int} (h : HS w base g rest v xs) : w.cell? ⟨g, 0, none⟩ = some v := (cell0 h.1).1
theorem keep_below {w w1 w2 : World} {g : Nat} {row : Option Nat} (h : KeepBut w w1 g row) (k : Below w1.heap.size w1 w2) : KeepBut w w2 g row := h.trans (KeepBut.of_below k g row) (.inl rfl)
theorem Below_size {B : Nat} {w w1 : World} (h : Below B w w1) (hB : B ≤ w.heap.size) : B ≤ w1.heap.size := by have := h.size; omega
theorem keep_none {w w1 : World} {g : Nat} {row : Option Nat} (h : KeepBut w w1 g none) : KeepBut w w1 g row := ⟨h.1, fun i hi hg _ => h.2 i hi hg (by simp)⟩
end Go.Proofs.Ythpjpkcfepmhkaa.PAll.R
namespace Go.Proofs.Ythpjpkcfepmhkaa.PAll
open Go.RowKit Go.Proofs.YthpjpkcfepmhkaaW.PrintWords Go.Proofs.YthpjpkcfepmhkaaW.PrintLast Go.Proofs.YthpjpkcfepmhkaaW.PrintMore
set_option linter.unusedVariables false
set_option linter.unusedSimpArgs false
/-- The members that define what an object refers to. -/
def nextOf (pv : List ByteArray) (ps : List (ByteArray × Int)) (ns : List ByteArray) : List Int := ns.flatMap fun s => if s ∈ pv then [] else zsOf ps s
theorem nextOf_snoc (pv : List ByteArray) (ps : List (ByteArray × Int)) (ns : List ByteArray) (s : ByteArray) : nextOf pv ps (ns ++ [s]) = nextOf pv ps ns ++ (if s ∈ pv then [] else zsOf ps s) := by
  unfold nextOf
  rw [List.flatMap_append]
  simp
theorem nextOf_len (pv : List ByteArray) (ps : List (ByteArray × Int)) (hp : ps.length ≤ 1048576) : ∀ ns : List ByteArray, (nextOf pv ps ns).length ≤ ns.length * 1048576
  | [] => by simp [nextOf]
  | s :: ns => by
    have ih := nextOf_len pv ps hp ns
    unfold nextOf at ih ⊢
    rw [List.flatMap_cons, List.length_append, List.length_cons]
    have := zs_len ps s
    split
    · simp only [List.length_nil]; omega
    · omega
def NextEnd (w : World) (r : List Int) (e : Ending) (w' : World) : Prop := ∃ v : Value, e = .returned v ∧ KI.R 3 w' w.heap.size (fun _ => True) v r ∧ Below w.heap.size w w'
set_option maxRecDepth 10000 in
set_option maxHeartbeats 8000000 in
theorem next_calls (vm : Value) (bd bp base n q : Nat) (f : Nat → ByteArray) (g : ByteArray → Option Value) (ps : List (ByteArray × Int)) (pv : List ByteArray) (A0 : Option Addr) (c0 : Nat) (l : List S55) (A1 : Option Addr) (m c1 : Nat) (w : World)
    (hg : Grp w base bd n f g (zsOf ps)) (hv : MapV lkS w 9 bp q (inG pv)) (hr : Kd.C k55 w A0 l.length l) (hl : l.length ≤ 1024) (hs : ∀ s, s ∈ namesOf refB l → s.size ≤ 1048576) (hp : ps.length ≤ 1048576) :
    Calls Try.prog 57 #[.agg #[vm, .map (some bd), .map (some bp)], .agg #[.slice A0 l.length c0, .slice A1 m c1]] w fun e w' => NextEnd w (nextOf pv ps (namesOf refB l)) e w' := by
  have hu50 := Try.underlying50
  have hu83 := Try.underlying83
  have HG := Lib.hid hg
  have HV := Lib.hid hv
  have HR := Lib.hid hr
  have HS := Lib.hid hs
  have HP := Lib.hid hp
  clear hg hv hr hs hp
  go_enter Try.func57, Try.ntmps57
  go_wp2_with fail
  have hb2 := below_alloc (below_alloc (Below.refl w.heap.size w) (.cells #[vm, .map (some bd), .map (some bp)] 83)) (.cells #[.slice A0 l.length c0, .slice A1 m c1] 50)
  have hp2 := blk_alloc (heap_alloc_new w (.cells #[vm, .map (some bd), .map (some bp)] 83)) (.cells #[.slice A0 l.length c0, .slice A1 m c1] 50)
  have hC2 := Kd.C_below HR.out hb2
  have hG2 := HG.out.below hb2 (Nat.le_refl _)
  have hV2 := HV.out.below hb2 HV.out.lt
  have HR2 := Lib.hid hC2
  have HB2 := Lib.hid hb2
  have HP2 := Lib.hid hp2
  have HG2 := Lib.hid hG2
  have HV2 := Lib.hid hV2
  have hbs2 := below_size hb2
  clear hb2 hp2 hC2 hG2 hV2 HG HV HR
  generalize (w.alloc (.cells #[vm, .map (some bd), .map (some bp)] 83)).alloc (.cells #[.slice A0 l.length c0, .slice A1 m c1] 50) = w2 at *
  refine (names_calls52 refB holds_refers A0 c0 l A1 m c1 w2 HR2.out (by omega)).mono ?_
  rintro e w3 ⟨v, rfl, hR, hb3⟩
  have hG3 := HG2.out.below hb3 (Nat.le_refl _)
  have hV3 := HV2.out.below hb3 HV2.out.lt
  have HG3 := Lib.hid hG3
  have HV3 := Lib.hid hV3
  have HB3 := Lib.hid (below_then HB2.out hbs2 hb3)
  have HP3 := Lib.hid (blk_below HP2.out hb3)
  have HN3 := Lib.hid (Kd.R_lower hR hbs2)
  have hnl := namesOf_len refB l
  clear hR hb3 HB2 HP2 HG2 HV2 HR2 hbs2 hG3 hV3
  generalize hnse : namesOf refB l = ns at *
  have HNSE := Lib.hid hnse
  clear hnse
  obtain ⟨Av, cv, rfl⟩ := Kd.R_slice HN3.out
  have hbs3 := below_size HB3.out
  go_wp2
  go_loopg [5, 11] ns.length (fun kq v5 v11 w' => ∃ (j : Nat), v11 = .int .i64 j ∧ Aside0 (kq + j = ns.length) ∧ Aside0 (Below w3.heap.size w3 w' ∧ KI.R 3 w' w3.heap.size (fun _ => True) v5 (nextOf pv ps (ns.take j))))
  case atStart => exact ⟨0, rfl, ⟨by omega⟩, ⟨Below.refl _ _, Kd.R_nil _ _ _ _ _⟩⟩
  case round =>
    obtain ⟨j, rfl, HJ, HW⟩ := hrel
    cases gk with
    | zero =>
      have hj : ns.length ≤ j := by have := HJ.out; omega
      have hkf : decide (j < ns.length) = false := decide_eq_false (by omega)
      have HE := HW.out
      rw [List.take_of_length_le hj] at HE
      have HE := Lib.hid (And.intro (below_then HB3.out hbs3 HE.1) (Kd.R_lower HE.2 hbs3))
      clear HW HJ hj
      go_wp2
      go_ret
      refine ⟨u5, rfl, ?_, HE.out.1⟩
      rw [HNSE.out]
      exact HE.out.2
    | succ jq =>
      have hj : j < ns.length := by have := HJ.out; omega
      have hNr := Kd.R_below HN3.out HW.out.1
      obtain ⟨b, c', he, _, hbl, _⟩ := Kd.R_form hNr (by omega)
      injection he with he1 he2 he3
      subst he1
      obtain ⟨hyc, _⟩ := W.row_cell hNr j hj
      have hse : Hp.at_ ByteArray.empty ns j = ns[j] := by
        unfold Hp.at_
        rw [List.getD_eq_getElem?_getD, List.getElem?_eq_getElem hj]; rfl
      have hsm : (Hp.at_ ByteArray.empty ns j).size ≤ 1048576 := by rw [hse]; exact HS.out _ (List.getElem_mem hj)
      have HT := Lib.hid (show nextOf pv ps (ns.take (j + 1)) = nextOf pv ps (ns.take j) ++ (if Hp.at_ ByteArray.empty ns j ∈ pv then [] else zsOf ps (Hp.at_ ByteArray.empty ns j)) from by
        rw [List.take_succ_eq_append_getElem hj, ← hse, nextOf_snoc])
      have HOL := Lib.hid (show (nextOf pv ps (ns.take j)).length ≤ 1073741824 from by
        have := nextOf_len pv ps HP.out (ns.take j)
        rw [List.length_take] at this
        have h2 : min j ns.length ≤ 1024 := by omega
        omega)
      have hGr := HG3.out.below HW.out.1 (Nat.le_refl _)
      have hVr := HV3.out.below HW.out.1 HV3.out.lt
      have hPr := blk_below HP3.out HW.out.1
      have hlp := inG_look hVr (s := Hp.at_ ByteArray.empty ns j) (by omega)
      have hlg := hGr.look (s := Hp.at_ ByteArray.empty ns j) (by omega)
      have hrow := (hGr.rows (Hp.at_ ByteArray.empty ns j)).1
      have p1 := blk_cell hPr 1
      have p2 := blk_cell hPr 2
      simp only [List.getElem?_toArray, List.getElem?_cons_succ, List.getElem?_cons_zero] at p1 p2
      have pl := blk_lt hPr
      clear hNr he2 he3 hse hGr hVr hPr
      generalize Hp.at_ ByteArray.empty ns j = s at *
      generalize nextOf pv ps (ns.take j) = out at *
      by_cases hin : s ∈ pv
      · rw [decide_eq_true hin] at hlp
        have ht := HT.out
        rw [if_pos hin, List.append_nil] at ht
        have HT2 := Lib.hid ht
        clear ht HT hin hrow hlg
        go_wp2
        go_roundg jq
        case measure => omega
        case rel => exact ⟨j + 1, by go_num, ⟨by have := HJ.out; omega⟩, ⟨HW.out.1, by rw [HT2.out]; exact HW.out.2⟩⟩
      · rw [decide_eq_false hin] at hlp
        have ht := HT.out
        rw [if_neg hin] at ht
        have HT2 := Lib.hid ht
        have HZL := Lib.hid (zs_len ps s)
        generalize zsOf ps s = zs at *
        generalize (g s).getD (.slice none 0 0) = u at *
        obtain ⟨Az, cz, hu, hcz, hC⟩ := Kd.R_reads hrow
        subst hu
        have HC := Lib.hid hC
        have hbs := below_size HW.out.1
        clear ht HT hin hrow hC hcz
        go_wp2_with (first | (at_builtin; go_must (refine Kd.R_append_row (Value.int .i64) (0 : Int) (h1 := fun _ => rfl) (w0 := w3) w3.heap.size rfl (.tmp 20) (.tmp 24) 24 3 (.int .i64 0) 8 rfl Try.underlying24 info3 rfl (by decide) u5 out zs Az zs.length cz (fun _ => True) rfl ?aX ?aF ?aO ?aC ?aB ?aS ?aL ?_; (case aX => go_simp); (case aF => exact fun _ _ => trivial); (case aO => exact HW.out.2); (case aC => exact HC.out); (case aB => exact HW.out.1); (case aS => exact hbs); (case aL => (have := HOL.out; have := HZL.out; have := HP.out; omega)); intro v1 w7 ho hb hg hat; have HE := Lib.hid (And.intro hb ho); clear ho hb hg hat)))
        go_roundg jq
        case measure => omega
        case rel => exact ⟨j + 1, by go_num, ⟨by have := HJ.out; omega⟩, ⟨HE.out.1, by rw [HT2.out]; exact HE.out.2⟩⟩
end Go.Proofs.Ythpjpkcfepmhkaa.PAll
namespace Go.Proofs.Ythpjpkcfepmhkaa.PAll
open Go.RowKit Go.Proofs.YthpjpkcfepmhkaaW.PrintWords Go.Proofs.YthpjpkcfepmhkaaW.PrintLast Go.Proofs.YthpjpkcfepmhkaaW.PrintMore
set_option linter.unusedVariables false
set_option linter.unusedSimpArgs false
def lookB : List (Int × Int) → Int → Option Int
  | [], _ => none
  | (a, b) :: r, i => if a = i then some b else lookB r i
theorem lookB_snoc {i x : Int} : ∀ {bf : List (Int × Int)}, lookB bf i = none → ∀ y, lookB (bf ++ [(i, x)]) y = if y = i then some x else lookB bf y
  | [], _, y => by
    simp only [List.nil_append, lookB]
    by_cases e : i = y
    · rw [if_pos e, if_pos e.symm]
    · rw [if_neg e, if_neg (fun h => e h.symm)]
  | (a, b) :: r, h, y => by
    simp only [List.cons_append, lookB] at h ⊢
    by_cases e : a = i
    · rw [if_pos e] at h; cases h
    · rw [if_neg e] at h
      rw [lookB_snoc h y]
      by_cases e2 : a = y
      · rw [if_pos e2, if_pos e2, if_neg (fun h => e (e2.trans h))]
      · rw [if_neg e2, if_neg e2]
def bgW (bf : List (Int × Int)) : Int → Option Value := fun i => (lookB bf i).map (Value.int .i64)
theorem bgW_nil : bgW [] = fun _ => none := rfl
theorem bgW_snoc {bf : List (Int × Int)} {i x : Int} (h : lookB bf i = none) : updM (bgW bf) i (.int .i64 x) = bgW (bf ++ [(i, x)]) := by
  funext y
  unfold updM bgW
  rw [lookB_snoc h]
  by_cases e : y = i
  · rw [if_pos e, if_pos e]; rfl
  · rw [if_neg e, if_neg e]
def visitW : List Int → Int → List (Int × Int) → List Int → Option (List (Int × Int) × List Int)
  | [], _, bf, q => some (bf, q)
  | i :: r, x, bf, q => if (lookB bf i).isSome = true then visitW r x bf q else if bf.length ≤ 1048576 ∧ q.length ≤ 1048576 then visitW r x (bf ++ [(i, x)]) (q ++ [i]) else none
theorem visitW_step {i : Int} {r : List Int} {x : Int} {bf : List (Int × Int)} {q : List Int} {a : List (Int × Int) × List Int} (h : visitW (i :: r) x bf q = some a) :
    ((lookB bf i).isSome = true ∧ visitW r x bf q = some a) ∨ (lookB bf i = none ∧ bf.length ≤ 1048576 ∧ q.length ≤ 1048576 ∧ visitW r x (bf ++ [(i, x)]) (q ++ [i]) = some a) := by
  simp only [visitW] at h
  by_cases c : (lookB bf i).isSome = true
  · rw [if_pos c] at h; exact .inl ⟨c, h⟩
  · rw [if_neg c] at h
    by_cases d : bf.length ≤ 1048576 ∧ q.length ≤ 1048576
    · rw [if_pos d] at h
      exact .inr ⟨by cases hl : lookB bf i with | none => rfl | some z => rw [hl] at c; exact absurd rfl c, d.1, d.2, h⟩
    · rw [if_neg d] at h; cases h
structure YW (w1 wr : World) (vm : Value) (bd bp g8 g9 g10 bb : Nat) (qv : Value) (q : List Int) (bf : List (Int × Int)) : Prop where
  B : Below w1.heap.size w1 wr
  p : wr.heap[g8]? = some (.cells #[vm, .map (some bd), .map (some bp)] 83 (0, 0))
  cb : wr.heap[g9]? = some (.cells #[.map (some bb)] 97 (0, 0))
  cq : wr.heap[g10]? = some (.cells #[qv] 24 (0, 0))
  bf : MapV lkI wr 3 bb bf.length (bgW bf)
  q : KI.Q 3 wr w1.heap.size (fun _ => True) qv q
  h8 : w1.heap.size ≤ g8
  h9 : w1.heap.size ≤ g9
  h10 : w1.heap.size ≤ g10
  hb : w1.heap.size ≤ bb
section
variable {w1 wr w2 : World} {vm : Value} {bd bp g8 g9 g10 bb : Nat} {qv : Value} {q : List Int} {bf : List (Int × Int)}
theorem YW.below (h : YW w1 wr vm bd bp g8 g9 g10 bb qv q bf) (hb : Below wr.heap.size wr w2) : YW w1 w2 vm bd bp g8 g9 g10 bb qv q bf :=
  ⟨below_then h.B h.B.size hb, blk_below h.p hb, blk_below h.cb hb, blk_below h.cq hb, h.bf.below hb h.bf.lt, Kd.Q_below h.q hb, h.h8, h.h9, h.h10, h.hb⟩
theorem Qmap_ne {w : World} {k b n base e : Nat} {g : Int → Option Value} {ok : Nat → Prop} {v : Value} {xs : List Int} (h : MapV lkI w k b n g) (hR : KI.Q e w base ok v xs) : some b ≠ v.ownBlock := by
  intro e1
  obtain ⟨cs, hc⟩ := Kd.Q_typed hR b e1.symm
  exact h.ne_cells hc rfl
/-- A member is met. -/
theorem YW.mark (h : YW w1 wr vm bd bp g8 g9 g10 bb qv q bf) {i : Nat} {x : Int} (hi : i < 1048576) (hl : lookB bf (i : Int) = none) (hn : bf.length ≤ 1048576) {u : Value} {ls : List Int} {nb : Nat} (hR : KI.R 3 wr nb (fun _ => True) u ls) :
    ∃ w', (Instr.mapUpdate 97 (.map (some bb)) (.int .i64 (i : Int)) (.int .i64 x)).run Try.prog wr = .ok () w' ∧ YW w1 w' vm bd bp g8 g9 g10 bb qv q (bf ++ [((i : Int), x)]) ∧ KI.R 3 w' nb (fun _ => True) u ls := by
  obtain ⟨w', h1, h2, h3⟩ := h.bf.store lawI lkI_inj Try.underlying97 (by simp only [maxLen]; omega) (keyI (i := (i : Int)) (by omega) (by omega)) (.int .i64 x)
  rw [bgW_snoc hl] at h2
  have hc : ∀ {j t : Nat} {cs : Array Value}, wr.heap[j]? = some (.cells cs t (0, 0)) → w'.heap[j]? = some (.cells cs t (0, 0)) := fun hj => blk_grown hj h3 (fun e => h.bf.ne_cells hj (Option.some.inj e).symm)
  exact ⟨w', h1, ⟨h.B.grown h3 h.B.size (fun k hk => by cases hk; exact h.hb), hc h.p, hc h.cb, hc h.cq, by rw [List.length_append]; exact h2, Kd.Q_grown1 h.q rfl h3 (Qmap_ne h.bf h.q), h.h8, h.h9, h.h10, h.hb⟩, rs_grown rfl hR h3 (fun k hk e => h.bf.ne_row hR (by rw [hk, ← e]))⟩
/-- The queue has been appended to, and is put back. -/
theorem YW.push (h : YW w1 wr vm bd bp g8 g9 g10 bb qv q bf) {v1 : Value} {ys : List Int} (hg : wr.grownBy w2 qv.ownBlock) (hQ : KI.Q 3 w2 w1.heap.size (fun _ => True) v1 ys) (hB : Below w1.heap.size w1 w2) :
    YW w1 (w2.setCell ⟨g10, 0, none⟩ v1) vm bd bp g8 g9 g10 bb v1 ys bf ∧ w2.cell? ⟨g10, 0, none⟩ = some qv ∧ w2.frozen? ⟨g10, 0, none⟩ = false ∧ g10 < w2.heap.size := by
  have hc : ∀ {j t : Nat} {cs : Array Value}, wr.heap[j]? = some (.cells cs t (0, 0)) → t ≠ 3 → w2.heap[j]? = some (.cells cs t (0, 0)) := fun hj ht => blk_grown hj hg (fun e => by
    obtain ⟨cs', hc'⟩ := Kd.Q_typed h.q _ e.symm
    rw [hj] at hc'
    cases hc'
    exact ht rfl)
  have hcq := hc h.cq (by decide)
  have hcp := hc h.p (by decide)
  have hcb := hc h.cb (by decide)
  have hm := h.bf.grown hg (Qmap_ne h.bf h.q)
  refine ⟨⟨hB.setCell h.h10 _, blk_far hcp (blk_ne hcp hcq (by decide)) v1, blk_far hcb (blk_ne hcb hcq (by decide)) v1, blk_set hcq 0 v1, ?_, Kd.Q_set hQ hcq (by decide) 0 v1, h.h8, h.h9, h.h10, h.hb⟩, (blk_cell hcq 0).trans (by simp), blk_frozen hcq 0, blk_lt hcq⟩
  exact hm.same (Below.heap_setCell _ _ _ _ (fun e => hm.ne_cells hcq e))
theorem YW.start (w1 : World) (vm : Value) (bd bp : Nat) : YW w1 ((((w1.alloc (.cells #[vm, .map (some bd), .map (some bp)] 83)).alloc (.map #[] 0)).alloc (.cells #[.map (some (w1.heap.size + 1))] 97)).alloc (.cells #[.slice none 0 0] 24)) vm bd bp w1.heap.size (w1.heap.size + 1 + 1) (w1.heap.size + 1 + 1 + 1) (w1.heap.size + 1) (.slice none 0 0) [] [] := by
  have z1 : (w1.alloc (.cells #[vm, .map (some bd), .map (some bp)] 83)).heap.size = w1.heap.size + 1 := by go_simp
  have b1 := below_alloc (Below.refl w1.heap.size w1) (.cells #[vm, .map (some bd), .map (some bp)] 83)
  have r1 := heap_alloc_new w1 (.cells #[vm, .map (some bd), .map (some bp)] 83)
  generalize w1.alloc (.cells #[vm, .map (some bd), .map (some bp)] 83) = w2 at *
  have z2 : (w2.alloc (.map #[] 0)).heap.size = w1.heap.size + 1 + 1 := by rw [← z1]; go_simp
  have b2 := below_alloc (Below.refl w2.heap.size w2) (.map #[] 0)
  have m2 := MapV.made lkI w2 3
  rw [z1] at m2
  generalize w2.alloc (.map #[] 0) = w3 at *
  have z3 : (w3.alloc (.cells #[.map (some (w1.heap.size + 1))] 97)).heap.size = w1.heap.size + 1 + 1 + 1 := by rw [← z2]; go_simp
  have b3 := below_alloc (Below.refl w3.heap.size w3) (.cells #[.map (some (w1.heap.size + 1))] 97)
  have r3 := heap_alloc_new w3 (.cells #[.map (some (w1.heap.size + 1))] 97)
  rw [z2] at r3
  generalize w3.alloc (.cells #[.map (some (w1.heap.size + 1))] 97) = w4 at *
  have b4 := below_alloc (Below.refl w4.heap.size w4) (.cells #[.slice none 0 0] 24)
  have r4 := heap_alloc_new w4 (.cells #[.slice none 0 0] 24)
  rw [z3] at r4
  generalize w4.alloc (.cells #[.slice none 0 0] 24) = w5 at *
  exact ⟨below_then (below_then (below_then b1 (by omega) b2) (by omega) b3) (by omega) b4, blk_below (blk_below (blk_below r1 b2) b3) b4, blk_below r3 b4, r4, by rw [bgW_nil]; exact (m2.below b3 m2.lt).below b4 (m2.below b3 m2.lt).lt, Kd.Q_nil _ _ _ _ _, by omega, by omega, by omega, by omega⟩
end
def VisitEnd (w1 : World) (vm : Value) (bd bp g8 g9 g10 bb : Nat) (q : List Int) (bf : List (Int × Int)) (w' : World) : Prop := ∃ qv, YW w1 w' vm bd bp g8 g9 g10 bb qv q bf
set_option maxRecDepth 10000 in
set_option maxHeartbeats 4000000 in
theorem visitW_calls (w1 : World) (vm : Value) (bd bp g8 g9 g10 bb N : Nat) (qv : Value) (q q2 : List Int) (bf bf2 : List (Int × Int)) (x : Int) (w : World) (u : Value) (ls : List Int) (nb : Nat) (hN : N ≤ 1024) (hw : YW w1 w vm bd bp g8 g9 g10 bb qv q bf) (hR : KI.R 3 w nb (fun _ => True) u ls)
    (hne : ∀ k, u.ownBlock = some k → some k ≠ qv.ownBlock) (hin : ∀ i, i ∈ ls → ∃ j : Nat, j < N ∧ i = (j : Int)) (h : visitW ls x bf q = some (bf2, q2)) :
    Calls Try.prog 56 #[u, .int .i64 x, .pointer (some ⟨g9, 0, none⟩), .pointer (some ⟨g10, 0, none⟩)] w fun e w' => e = .returned (.tuple #[]) ∧ VisitEnd w1 vm bd bp g8 g9 g10 bb q2 bf2 w' := by
  obtain ⟨Au, cu, rfl⟩ := Kd.R_slice hR
  have hll : ls.length ≤ 9223372036854775807 := (Kd.R_reads' hR).2.2.2.1
  have HW := Lib.hid (And.intro hw (And.intro hR hne))
  have HIN := Lib.hid hin
  have HV := Lib.hid h
  clear hw hR hne hin h
  go_enter Try.func56, Try.ntmps56
  go_wp2
  go_loopg [12] ls.length (fun kq v12 w' => ∃ (j : Nat) (qv : Value) (q : List Int) (bf : List (Int × Int)), v12 = .int .i64 j ∧ Aside0 (kq + j = ls.length ∧ visitW (ls.drop j) x bf q = some (bf2, q2)) ∧ Aside0 (YW w1 w' vm bd bp g8 g9 g10 bb qv q bf ∧ KI.R 3 w' nb (fun _ => True) (.slice Au ls.length cu) ls ∧ ∀ k, (Value.slice Au ls.length cu).ownBlock = some k → some k ≠ qv.ownBlock))
  case atStart => exact ⟨0, qv, q, bf, rfl, ⟨by omega, HV.out⟩, ⟨HW.out⟩⟩
  case round =>
    clear HW HV
    obtain ⟨j, qv, q, bf, rfl, HJ, HW⟩ := hrel
    cases gk with
    | zero =>
      have hj : ls.length ≤ j := by have := HJ.out.1; omega
      have hkf : decide (j < ls.length) = false := decide_eq_false (by omega)
      have hv := HJ.out.2
      rw [List.drop_eq_nil_of_le hj] at hv
      simp only [visitW, Option.some.injEq, Prod.mk.injEq] at hv
      obtain ⟨rfl, rfl⟩ := hv
      clear HJ hj
      go_wp2
      go_end0
      exact ⟨rfl, qv, HW.out.1⟩
    | succ jq =>
      have hj : j < ls.length := by have := HJ.out.1; omega
      obtain ⟨b, c', he, _, hbl, _⟩ := Kd.R_form HW.out.2.1 (by omega)
      injection he with he1 he2 he3
      subst he1
      obtain ⟨hyc, _⟩ := R.row_cell HW.out.2.1 j hj
      obtain ⟨i, hi, hie⟩ := HIN.out ls[j] (List.getElem_mem hj)
      have hyd : Hp.at_ (0 : Int) ls j = (i : Int) := by
        unfold Hp.at_
        rw [List.getD_eq_getElem?_getD, List.getElem?_eq_getElem hj]
        exact hie
      rw [hyd] at hyc
      have hv := HJ.out.2
      rw [List.drop_eq_getElem_cons hj, hie] at hv
      have hlk := HW.out.1.bf.look_ok lawI Try.underlying97 (zeroI _) (keyI (i := (i : Int)) (by omega) (by omega))
      have hcb := blk_cell HW.out.1.cb 0
      have hcq := blk_cell HW.out.1.cq 0
      simp only [List.getElem?_toArray, List.getElem?_cons_succ, List.getElem?_cons_zero] at hcb hcq
      have hbl9 := blk_lt HW.out.1.cb
      have hbl10 := blk_lt HW.out.1.cq
      have hso : (bgW bf (i : Int)).isSome = (lookB bf (i : Int)).isSome := by unfold bgW; cases lookB bf (i : Int) <;> rfl
      rw [hso] at hlk
      generalize (bgW bf (i : Int)).getD (.int .i64 0) = z at hlk
      clear he2 he3 hyd hie hso
      rcases visitW_step hv with ⟨hsm, hv2⟩ | ⟨hsm, hf1, hf2, hv2⟩
      · rw [hsm] at hlk
        have HV2 := Lib.hid hv2
        clear hv hsm hv2
        go_wp2
        go_roundg jq
        case measure => omega
        case rel => exact ⟨j + 1, qv, q, bf, by go_num, ⟨by have := HJ.out.1; omega, HV2.out⟩, ⟨HW.out⟩⟩
      · obtain ⟨w5, hrun, hy5, hr5⟩ := HW.out.1.mark (i := i) (x := x) (by omega) hsm hf1 HW.out.2.1
        rw [hsm] at hlk
        have HV2 := Lib.hid hv2
        have H5 := Lib.hid (And.intro hy5 (And.intro hr5 HW.out.2.2))
        have hcq5 := blk_cell H5.out.1.cq 0
        simp only [List.getElem?_toArray, List.getElem?_cons_succ, List.getElem?_cons_zero] at hcq5
        have hbs5 := below_size H5.out.1.B
        have hbl5 := blk_lt H5.out.1.cq
        clear hv hsm hv2 hy5 hr5 HW hf1
        have hlk2 : (Instr.lookup 97 (.map (some bb)) (.int .i64 (i : Int)) true).run Try.prog wr = .ok (.tuple #[z, .bool false]) wr := hlk
        clear hlk
        go_wp2_with (first | (at_builtin; go_must (refine Kd.Q_append KI (w0 := w1) w1.heap.size rfl (.tmp 27) (.tmp 29) 24 3 (.int .i64 0) 8 rfl Try.underlying24 info3 rfl (by decide) (by decide) qv q (i : Int) [.int .i64 (i : Int)] (fun _ => True) (fun _ => False) rfl ?aX ?aP (fun _ hk => hk.elim) ?aF ?aO ?aB ?aS ?aL ?_; (case aX => go_simp); (case aP => rfl); (case aF => exact fun _ _ => trivial); (case aO => exact H5.out.1.q); (case aB => exact H5.out.1.B); (case aS => exact hbs5); (case aL => omega); intro v1 w7 ho hb hg hat; obtain ⟨A1, c1, rfl, _⟩ := Kd.Q_slice ho; obtain ⟨hy7, hc7, hz7, hl7⟩ := H5.out.1.push hg ho hb; have hr7 := rs_grown rfl H5.out.2.1 hg H5.out.2.2; have hne7 : ∀ k, (Value.slice (some ⟨b, 0, none⟩) ls.length cu).ownBlock = some k → some k ≠ (Value.slice A1 (q ++ [(i : Int)]).length c1).ownBlock := (fun k hk e => (by rcases hat with hat | ⟨m, hat, hle⟩; exact H5.out.2.2 k hk (e.trans hat); rw [hat] at e; have e := Option.some.inj e; have := Kd.R_lt H5.out.2.1 k hk; omega)); have hr8 := Kd.R_set hr7 (show w7.heap[g10]? = some (.cells #[qv] 24 (0, 0)) from blk_grown H5.out.1.cq hg (fun e => (by obtain ⟨cs', hc'⟩ := Kd.Q_typed H5.out.1.q _ e.symm; rw [H5.out.1.cq] at hc'; cases hc'))) (by decide) 0 (.slice A1 (q ++ [(i : Int)]).length c1); have H7 := Lib.hid (And.intro hy7 (And.intro hr8 hne7)); simp only [List.length_append, List.length_singleton] at H7; clear ho hb hg hat hy7 hr7 hr8 hne7)))
        go_roundg jq
        case measure => omega
        case rel => exact ⟨j + 1, _, q ++ [(i : Int)], bf ++ [((i : Int), x)], by go_num, ⟨by have := HJ.out.1; omega, HV2.out⟩, ⟨H7.out⟩⟩
end Go.Proofs.Ythpjpkcfepmhkaa.PAll
namespace Go.Proofs.Ythpjpkcfepmhkaa.PAll
open Go.RowKit Go.Proofs.YthpjpkcfepmhkaaW.PrintWords Go.Proofs.YthpjpkcfepmhkaaW.PrintLast Go.Proofs.YthpjpkcfepmhkaaW.PrintMore
set_option linter.unusedVariables false
set_option linter.unusedSimpArgs false
def seedW (pv : List ByteArray) (ps : List (ByteArray × Int)) : List S50 → List (Int × Int) → List Int → Option (List (Int × Int) × List Int)
  | [], bf, q => some (bf, q)
  | o :: r, bf, q => (visitW (nextOf pv ps (namesOf refB o.f0)) (-1) bf q).bind fun a => seedW pv ps r a.1 a.2
def loopW (pv : List ByteArray) (ps : List (ByteArray × Int)) (ms : List S50) : Nat → List (Int × Int) → List Int → Option (List (Int × Int))
  | 0, _, _ => none
  | k + 1, bf, q => if q.length = 0 then some bf else
      if 0 ≤ q.getD 0 0 ∧ q.getD 0 0 < ms.length ∧ q.length ≤ 1048576 then
        (visitW (nextOf pv ps (namesOf refB (rd_T50 ms (q.getD 0 0)).f0)) (q.getD 0 0) bf (q.drop 1)).bind fun a => loopW pv ps ms k a.1 a.2
      else none
def chainW (bf : List (Int × Int)) : Nat → Int → List Int → Option (List Int)
  | 0, _, _ => none
  | k + 1, i, out => if i < 0 then some out else if out.length ≤ 1048576 ∧ i ≤ 1048576 then chainW bf k ((lookB bf i).getD 0) (out ++ [i]) else none
def i64B (a : Int) : Bool := decide (-9223372036854775808 ≤ a) && decide (a ≤ 9223372036854775807)
def whyEnd (bf : List (Int × Int)) (a : Int) : Option (List Int × Bool) :=
  match lookB bf a with
  | none => some ([], false)
  | some _ => (chainW bf 1048576 a []).bind fun out => some (out.reverse, true)
def closure_Why.f (os ms : List S50) (a : Int) : Option (List Int × Bool) :=
  if smallL os = true ∧ smallL ms = true ∧ i64B a = true then
    (seedW (provOf os) (prsOf ms 0) os [] []).bind fun z => (loopW (provOf os) (prsOf ms 0) ms 1048576 z.1 z.2).bind fun bf => whyEnd bf a
  else none
theorem why_open {os ms : List S50} {a : Int} {r : List Int × Bool} (h : closure_Why.f os ms a = some r) : smallL os = true ∧ smallL ms = true ∧ i64B a = true ∧
    ∃ bf1 q1 bf2, seedW (provOf os) (prsOf ms 0) os [] [] = some (bf1, q1) ∧ loopW (provOf os) (prsOf ms 0) ms 1048576 bf1 q1 = some bf2 ∧ whyEnd bf2 a = some r := by
  unfold closure_Why.f at h
  by_cases c : smallL os = true ∧ smallL ms = true ∧ i64B a = true
  · rw [if_pos c, Option.bind_eq_some_iff] at h
    obtain ⟨⟨bf1, q1⟩, h1, h2⟩ := h
    rw [Option.bind_eq_some_iff] at h2
    obtain ⟨bf2, h3, h4⟩ := h2
    exact ⟨c.1, c.2.1, c.2.2, bf1, q1, bf2, h1, h3, h4⟩
  · rw [if_neg c] at h
    cases h
theorem whyEnd_cases {bf : List (Int × Int)} {a : Int} {r : List Int × Bool} (h : whyEnd bf a = some r) : (lookB bf a = none ∧ r = ([], false)) ∨ ∃ x out, lookB bf a = some x ∧ chainW bf 1048576 a [] = some out ∧ r = (out.reverse, true) := by
  unfold whyEnd at h
  cases hl : lookB bf a with
  | none =>
    rw [hl] at h
    exact .inl ⟨rfl, (Option.some.inj h).symm⟩
  | some x =>
    rw [hl] at h
    simp only [Option.bind_eq_some_iff] at h
    obtain ⟨out, h1, h2⟩ := h
    exact .inr ⟨x, out, rfl, h1, (Option.some.inj h2).symm⟩
theorem loopW_cases {pv : List ByteArray} {ps : List (ByteArray × Int)} {ms : List S50} {k : Nat} {bf bf2 : List (Int × Int)} {q : List Int} (h : loopW pv ps ms (k + 1) bf q = some bf2) :
    (q = [] ∧ bf = bf2) ∨ ∃ (i : Nat) (q' : List Int) (bf3 : List (Int × Int)) (q3 : List Int), q = (i : Int) :: q' ∧ i < ms.length ∧ q'.length ≤ 1048576 ∧ visitW (nextOf pv ps (namesOf refB (rd_T50 ms (i : Int)).f0)) (i : Int) bf q' = some (bf3, q3) ∧ loopW pv ps ms k bf3 q3 = some bf2 := by
  simp only [loopW] at h
  cases q with
  | nil => exact .inl ⟨rfl, Option.some.inj h⟩
  | cons i q' =>
    rw [if_neg (by simp)] at h
    by_cases c : 0 ≤ (i :: q').getD 0 0 ∧ (i :: q').getD 0 0 < ms.length ∧ (i :: q').length ≤ 1048576
    · rw [if_pos c, Option.bind_eq_some_iff] at h
      obtain ⟨⟨bf3, q3⟩, h1, h2⟩ := h
      obtain ⟨c1, c2, c3⟩ := c
      have c1 : 0 ≤ i := c1
      have c2 : i < ms.length := c2
      obtain ⟨n, rfl⟩ := Int.eq_ofNat_of_zero_le c1
      exact .inr ⟨n, q', bf3, q3, rfl, by omega, by rw [List.length_cons] at c3; omega, h1, h2⟩
    · rw [if_neg c] at h
      cases h
theorem next_in {l : List S50} {pv : List ByteArray} {ns : List ByteArray} {i : Int} (h : i ∈ nextOf pv (prsOf l 0) ns) : ∃ j : Nat, j < l.length ∧ i = (j : Int) := by
  unfold nextOf at h
  obtain ⟨s, _, hs⟩ := List.mem_flatMap.1 h
  by_cases c : s ∈ pv
  · rw [if_pos c] at hs; cases hs
  · rw [if_neg c] at hs
    exact zs_in hs
theorem wrapS {x : Int} (h0 : -4611686018427387904 ≤ x) (h1 : x ≤ 4611686018427387904) : wrap64 x = x := by unfold wrap64; omega
theorem setL_get {ws : List Int} {k i : Nat} {x : Int} (hk : k < ws.length) : (ws.set k x).getD i 0 = if i = k then x else ws.getD i 0 := by
  by_cases e : i = k
  · subst e
    rw [List.getD_eq_getElem?_getD, List.getElem?_set_self hk, if_pos rfl]; rfl
  · rw [List.getD_eq_getElem?_getD, List.getElem?_set_ne (Ne.symm e), if_neg e, ← List.getD_eq_getElem?_getD]
theorem rev_loop (xs : List Int) (hn : xs.length ≤ 1099511627776) : ∀ (d i : Nat) (ys : List Int), xs.length ≤ d + 2 * i → ys.length = xs.length → i ≤ xs.length → (∀ p, p < xs.length → ys.getD p 0 = if p < i ∨ xs.length ≤ p + i then xs.getD (xs.length - 1 - p) 0 else xs.getD p 0) →
    ∃ k, slices_Reverse_int_int.l0 k ys (i : Int) ((xs.length : Int) - 1 - (i : Int)) = some xs.reverse := by
  have hend : ∀ (i : Nat) (ys : List Int), xs.length ≤ 2 * i + 1 → ys.length = xs.length → (∀ p, p < xs.length → ys.getD p 0 = if p < i ∨ xs.length ≤ p + i then xs.getD (xs.length - 1 - p) 0 else xs.getD p 0) → ys = xs.reverse := by
    intro i ys hi hl hp
    refine List.ext_getElem (by rw [List.length_reverse]; exact hl) (fun p h1 h2 => ?_)
    have h3 := hp p (by omega)
    have h4 : ys.getD p 0 = xs.getD (xs.length - 1 - p) 0 := by
      rw [h3]
      by_cases c : p < i ∨ xs.length ≤ p + i
      · rw [if_pos c]
      · rw [if_neg c]
        have : xs.length - 1 - p = p := by omega
        rw [this]
    rw [List.getElem_reverse]
    rw [List.getD_eq_getElem?_getD, List.getElem?_eq_getElem h1, List.getD_eq_getElem?_getD, List.getElem?_eq_getElem (show xs.length - 1 - p < xs.length by omega)] at h4
    exact h4
  intro d
  induction d with
  | zero =>
    intro i ys hd hl hi hp
    refine ⟨1, ?_⟩
    simp only [slices_Reverse_int_int.l0]
    rw [if_neg (by omega), hend i ys (by omega) hl hp]
  | succ d ih =>
    intro i ys hd hl hi hp
    by_cases c : 2 * i + 1 < xs.length
    · have hr1 : rd ys ((xs.length : Int) - 1 - (i : Int)) = xs.getD (xs.length - 1 - i) 0 := by
        unfold rd
        have e : ((xs.length : Int) - 1 - (i : Int)).toNat = xs.length - 1 - i := by omega
        rw [e, hp _ (by omega), if_neg (by omega)]
      have hr2 : rd ys (i : Int) = xs.getD i 0 := by
        unfold rd
        rw [Int.toNat_natCast, hp _ (by omega), if_neg (by omega)]
      have et : ((xs.length : Int) - 1 - (i : Int)).toNat = xs.length - 1 - i := by omega
      obtain ⟨k, hk⟩ := ih (i + 1) ((ys.set i (xs.getD (xs.length - 1 - i) 0)).set (xs.length - 1 - i) (xs.getD i 0)) (by omega) (by rw [List.length_set, List.length_set]; exact hl) (by omega) (fun p hpl => by
        rw [setL_get (by rw [List.length_set]; omega), setL_get (by omega), hp p hpl]
        by_cases e1 : p = xs.length - 1 - i
        · rw [if_pos e1, if_pos (by omega), e1]
          congr 1
          omega
        · rw [if_neg e1]
          by_cases e2 : p = i
          · rw [if_pos e2, if_pos (by omega), e2]
          · rw [if_neg e2]
            by_cases e3 : p < i ∨ xs.length ≤ p + i
            · rw [if_pos e3, if_pos (by omega)]
            · rw [if_neg e3, if_neg (by omega)])
      refine ⟨k + 1, ?_⟩
      simp only [slices_Reverse_int_int.l0]
      rw [if_pos (by omega), if_pos (by omega), if_pos (by omega), if_pos (by omega), if_pos (by omega), hr1, hr2, et, Int.toNat_natCast, wrapS (x := (i : Int) + 1) (by omega) (by omega), wrapS (x := (xs.length : Int) - 1 - (i : Int) - 1) (by omega) (by omega)]
      have e4 : (i : Int) + 1 = ((i + 1 : Nat) : Int) := by omega
      have e5 : (xs.length : Int) - 1 - (i : Int) - 1 = (xs.length : Int) - 1 - ((i + 1 : Nat) : Int) := by omega
      rw [e4, e5]
      exact hk
    · refine ⟨1, ?_⟩
      simp only [slices_Reverse_int_int.l0]
      rw [if_neg (by omega), hend i ys (by omega) hl hp]
theorem reverse_f (xs : List Int) (hn : xs.length ≤ 1099511627776) : ∃ k, slices_Reverse_int_int.f k xs = some xs.reverse := by
  obtain ⟨k, hk⟩ := rev_loop xs hn xs.length 0 xs (by omega) rfl (by omega) (fun p hp => by rw [if_neg (by omega)])
  refine ⟨k, ?_⟩
  unfold slices_Reverse_int_int.f
  rw [wrapS (by omega) (by omega)]
  have : (xs.length : Int) - 1 - ((0 : Nat) : Int) = (xs.length : Int) - 1 := by omega
  rw [this] at hk
  exact hk
end Go.Proofs.Ythpjpkcfepmhkaa.PAll
