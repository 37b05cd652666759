import Derived.Test.YthpjpkcfepmhkaaHCycle3
import Derived.BigRegion
namespace Go.Proofs.Ythpjpkcfepmhkaa.PAll
open Go.RowKit Go.Proofs.YthpjpkcfepmhkaaW.PrintWords Go.Proofs.YthpjpkcfepmhkaaW.PrintLast Go.Proofs.YthpjpkcfepmhkaaW.PrintMore
set_option linter.unusedVariables false
set_option linter.unusedSimpArgs false

theorem aa_made {w0 w : World} (N : Nat) (hb : w0.heap.size ≤ w.heap.size) (hn : (N : Int) ≤ 65536) (hB : Below w0.heap.size w0 w) :
    ∃ f, AA ((w.alloc (.cells (madeCells #[.slice none 0 0] N) 24)).alloc (.cells (madeCells #[.slice none 0 0] N) 24)).drew w0.heap.size f N w.heap.size (w.heap.size + 1) (List.replicate N (.slice none 0 0)) (List.replicate N []) (List.replicate N (.slice none 0 0)) (List.replicate N []) := by
  have s1 : (w.alloc (.cells (madeCells #[.slice none 0 0] N) 24)).heap.size = w.heap.size + 1 := by go_simp
  have h2 := Adj.made (w.alloc (.cells (madeCells #[.slice none 0 0] N) 24)) w0.heap.size N (fun _ => 0) N (by omega) (by omega)
  rw [s1] at h2
  exact ⟨fun _ => 0, AA.below ⟨(Adj.made w w0.heap.size N (fun _ => 0) 0 hb (by omega)).below (below_alloc (Below.refl _ _) _), h2, by simp, by simp, by omega⟩ (below_drew (Below.refl _ _))⟩
theorem aa_made' {w0 w : World} (N : Nat) (hb : w0.heap.size ≤ w.heap.size) (hn : (N : Int) ≤ 65536) (hB : Below w0.heap.size w0 w) :
    ∃ f, AA ((w.alloc (.cells (madeCells #[.slice none 0 0] N) 24)).alloc (.cells (madeCells #[.slice none 0 0] N) 24)).drew w0.heap.size f N (w.heap.size + 1) w.heap.size (List.replicate N (.slice none 0 0)) (List.replicate N []) (List.replicate N (.slice none 0 0)) (List.replicate N []) := by
  have s1 : (w.alloc (.cells (madeCells #[.slice none 0 0] N) 24)).heap.size = w.heap.size + 1 := by go_simp
  have h2 := Adj.made (w.alloc (.cells (madeCells #[.slice none 0 0] N) 24)) w0.heap.size N (fun _ => 0) 0 (by omega) (by omega)
  rw [s1] at h2
  exact ⟨fun _ => 0, AA.below ⟨h2, (Adj.made w w0.heap.size N (fun _ => 0) N hb (by omega)).below (below_alloc (Below.refl _ _) _), by simp, by simp, by omega⟩ (below_drew (Below.refl _ _))⟩
theorem du_made {w0 w : World} (N : Nat) (hb : w0.heap.size ≤ w.heap.size) (hn : (N : Int) ≤ 65536) :
    DU ((w.alloc (.cells (madeCells #[.bool false] N) 4)).alloc (.cells (madeCells #[.bool false] N) 4)).drew w0.heap.size N w.heap.size (w.heap.size + 1) (List.replicate N false) (List.replicate N false) ∧ DU ((w.alloc (.cells (madeCells #[.bool false] N) 4)).alloc (.cells (madeCells #[.bool false] N) 4)).drew w0.heap.size N (w.heap.size + 1) w.heap.size (List.replicate N false) (List.replicate N false) := by
  have s1 : (w.alloc (.cells (madeCells #[.bool false] N) 4)).heap.size = w.heap.size + 1 := by go_simp
  have h2 := made4 (w.alloc (.cells (madeCells #[.bool false] N) 4)) w0.heap.size N (by omega) (by omega)
  rw [s1] at h2
  have h1 := Kd.R_alloc (made4 w w0.heap.size N hb (by omega)) (.cells (madeCells #[.bool false] N) 4)
  exact ⟨DU.below ⟨h1, h2, by simp, by simp, by omega⟩ (below_drew (Below.refl _ _)), DU.below ⟨h2, h1, by simp, by simp, by omega⟩ (below_drew (Below.refl _ _))⟩
theorem addBack_len (l : List S68) : ∀ (z : List (List Int)) (b : Nat), ((l.foldl addBack z).getD b []).length ≤ (z.getD b []).length + l.length := by
  induction l with
  | nil => intro z b; simp
  | cons e r ih =>
    intro z b
    rw [List.foldl_cons, List.length_cons]
    refine Nat.le_trans (ih _ b) ?_
    have : ((addBack z e).getD b []).length ≤ (z.getD b []).length + 1 := by
      unfold addBack
      by_cases hb : e.f1.toNat = b
      · subst hb
        by_cases hl : e.f1.toNat < z.length
        · rw [List.getD_eq_getElem?_getD, List.getElem?_set_self hl]
          simp
        · rw [List.getD_eq_getElem?_getD, List.getElem?_eq_none (by rw [List.length_set]; omega)]
          simp
      · rw [List.getD_eq_getElem?_getD, List.getElem?_set_ne hb, ← List.getD_eq_getElem?_getD]
        omega
    omega
theorem rep_len {N b : Nat} : ((List.replicate N ([] : List Int)).getD b []).length = 0 := by
  rw [List.getD_eq_getElem?_getD, List.getElem?_replicate]
  split <;> rfl

/-- The world in Cycle's second loop. -/
structure CW (w0 w : World) (f : Nat → Nat) (N gv gb gd gu : Nat) (vs : List Value) (xss : List (List Int)) (bs : List Value) (bss : List (List Int)) (d u : List Bool) : Prop where
  aa : AA w w0.heap.size f N gv gb vs xss bs bss
  du : DU w w0.heap.size N gd gu d u
  B : Below w0.heap.size w0 w
theorem CW.below {w0 w w1 : World} {f : Nat → Nat} {N gv gb gd gu : Nat} {vs bs : List Value} {xss bss : List (List Int)} {d u : List Bool} (h : CW w0 w f N gv gb gd gu vs xss bs bss d u) (hb : Below w.heap.size w w1) : CW w0 w1 f N gv gb gd gu vs xss bs bss d u :=
  ⟨h.aa.below hb, h.du.below hb, below_then h.B (below_size h.B) hb⟩
theorem CW.set {w0 w : World} {f : Nat → Nat} {N gv gb gd gu : Nat} {vs bs : List Value} {xss bss : List (List Int)} {d u r b : List Bool} {gr gc : Nat} (h : CW w0 w f N gv gb gd gu vs xss bs bss d u) (hgd : w0.heap.size ≤ gd) (hgu : w0.heap.size ≤ gu)
    (hr : KB.R 4 w w0.heap.size (fun _ => True) (.slice (some ⟨gr, 0, none⟩) N N) r) (hb : KB.R 4 w w0.heap.size (fun _ => True) (.slice (some ⟨gc, 0, none⟩) N N) b) (h1 : gr ≠ gd) (h2 : gr ≠ gu) (h3 : gc ≠ gd) (h4 : gc ≠ gu) (i : Nat) (x y : Bool) :
    (CW w0 ((w.setCell ⟨gd, i, none⟩ (.bool x)).setCell ⟨gu, i, none⟩ (.bool y)) f N gv gb gd gu vs xss bs bss (d.set i x) (u.set i y) ∧ KB.R 4 ((w.setCell ⟨gd, i, none⟩ (.bool x)).setCell ⟨gu, i, none⟩ (.bool y)) w0.heap.size (fun _ => True) (.slice (some ⟨gr, 0, none⟩) N N) r ∧ KB.R 4 ((w.setCell ⟨gd, i, none⟩ (.bool x)).setCell ⟨gu, i, none⟩ (.bool y)) w0.heap.size (fun _ => True) (.slice (some ⟨gc, 0, none⟩) N N) b) ∧
    (CW w0 ((w.setCell ⟨gu, i, none⟩ (.bool y)).setCell ⟨gd, i, none⟩ (.bool x)) f N gv gb gd gu vs xss bs bss (d.set i x) (u.set i y) ∧ KB.R 4 ((w.setCell ⟨gu, i, none⟩ (.bool y)).setCell ⟨gd, i, none⟩ (.bool x)) w0.heap.size (fun _ => True) (.slice (some ⟨gr, 0, none⟩) N N) r ∧ KB.R 4 ((w.setCell ⟨gu, i, none⟩ (.bool y)).setCell ⟨gd, i, none⟩ (.bool x)) w0.heap.size (fun _ => True) (.slice (some ⟨gc, 0, none⟩) N N) b) := by
  obtain ⟨cd, hcd⟩ := Kd.R_typed h.du.rd gd (by simp [Value.ownBlock])
  obtain ⟨cu, hcu⟩ := Kd.R_typed h.du.ru gu (by simp [Value.ownBlock])
  constructor
  · obtain ⟨a1, a2⟩ := h.du.setD i x
    obtain ⟨b1, b2⟩ := a1.setU i y
    obtain ⟨cu', hcu'⟩ := Kd.R_typed a1.ru gu (by simp [Value.ownBlock])
    exact ⟨⟨(h.aa.grown4 a2 hcd).grown4 b2 hcu', b1, (h.B.setCell hgd _).setCell hgu _⟩, bkeep (bkeep hr a2 h1) b2 h2, bkeep (bkeep hb a2 h3) b2 h4⟩
  · obtain ⟨a1, a2⟩ := h.du.setU i y
    obtain ⟨b1, b2⟩ := a1.setD i x
    obtain ⟨cd', hcd'⟩ := Kd.R_typed a1.rd gd (by simp [Value.ownBlock])
    exact ⟨⟨(h.aa.grown4 a2 hcu).grown4 b2 hcd', b1, (h.B.setCell hgu _).setCell hgd _⟩, bkeep (bkeep hr a2 h2) b2 h1, bkeep (bkeep hb a2 h4) b2 h3⟩

theorem DU.grown3 {w w1 : World} {base N gd gu : Nat} {d u : List Bool} {v : Value} {xs : List Int} (h : DU w base N gd gu d u) (hg : w.grownBy w1 v.ownBlock) (hR : KI.R 3 w base (fun _ => True) v xs) : DU w1 base N gd gu d u := by
  have key : ∀ {g : Nat} {r : List Bool}, KB.R 4 w base (fun _ => True) (.slice (some ⟨g, 0, none⟩) N N) r → KB.R 4 w1 base (fun _ => True) (.slice (some ⟨g, 0, none⟩) N N) r := by
    intro g r hr
    refine rs_grown rfl hr hg (fun k hk e => ?_)
    obtain ⟨c1, h1⟩ := Kd.R_typed hr k hk
    obtain ⟨c2, h2⟩ := Kd.R_typed hR k e.symm
    rw [h1] at h2
    injection h2 with h2
    injection h2 with _ h2
    exact absurd h2 (by decide)
  exact ⟨key h.rd, key h.ru, h.nd, h.nu, h.ne⟩
def CycleEnd (w : World) (r : List Int) (e : Ending) (w' : World) : Prop := ∃ v0_ : Value, e = .returned v0_ ∧ Kd.R (Kd.int .i64) 3 w' w.heap.size (fun _ => True) v0_ r ∧ Below w.heap.size w w'

set_option maxRecDepth 10000 in
set_option maxHeartbeats 8000000 in
theorem order_Cycle.calls0 (n : Int) (A1 : Option Addr) (c1 : Nat) (l1 : List S68) (r : List Int) (w : World) (hr1 : Kd.C k68 w A1 l1.length l1) (hc1 : l1.length ≤ c1) (h : order_Cycle.f n l1 = some r) :
    Calls Try.prog 18 #[.int .i64 n, .slice A1 l1.length c1] w fun e w' => CycleEnd w r e w' := by
  have hd : l1.length ≤ 1099511627776 ∧ validS n l1 = true := by
    unfold order_Cycle.f at h
    split at h
    · assumption
    · cases h
  obtain ⟨hl, hv⟩ := hd
  have hn : 0 ≤ n ∧ n ≤ 65536 := by
    have hv := hv
    unfold validS at hv
    simp only [Bool.and_eq_true, decide_eq_true_eq] at hv
    exact ⟨hv.1.2, hv.2⟩
  obtain ⟨hn0, hn1⟩ := hn
  obtain ⟨N, rfl⟩ := Int.eq_ofNat_of_zero_le hn0
  unfold order_Cycle.f at h
  rw [if_pos ⟨hl, hv⟩, Int.toNat_natCast, Option.bind_eq_some_iff] at h
  obtain ⟨⟨dN, uN⟩, hmk, hres⟩ := h
  have HMK := Lib.hid hmk
  have HRES := Lib.hid (Option.some.inj hres)
  have HV := Lib.hid hv
  have HR1 := Lib.hid hr1
  have hm1 := print_make_of (P := Try.prog) 70 24 (.slice none 0 0) 24 Try.underlying70 info24 rfl (by decide) N (by omega)
  have hm2 := print_make_of (P := Try.prog) 36 4 (.bool false) 1 Try.underlying36 info4 rfl (by decide) N (by omega)
  have HM2 := Lib.hid hm2
  clear hr1 hv hmk hres hm2
  go_enter Try.func18, Try.ntmps18
  go_wp2
  go_cut [5, 6] (fun v5 v6 wx => ∃ (gv gb : Nat) (f : Nat → Nat), v5 = .slice (some ⟨gv, 0, none⟩) N N ∧ v6 = .slice (some ⟨gb, 0, none⟩) N N ∧ w.heap.size ≤ gv ∧ w.heap.size ≤ gb ∧ Aside0 (AA wx w.heap.size f N gv gb (List.replicate N (.slice none 0 0)) (List.replicate N []) (List.replicate N (.slice none 0 0)) (List.replicate N [])) ∧ Aside0 (Below w.heap.size w wx))
  case first =>
    go_region
    all_goals (go_wp2; go_meet)
    · obtain ⟨f, hf⟩ := aa_made N (Nat.le_refl _) hn1 (Below.refl w.heap.size w)
      exact ⟨_, _, f, rfl, rfl, by omega, by omega, ⟨hf⟩, ⟨below_drew (below_alloc (below_alloc (Below.refl _ _) _) _)⟩⟩
    · obtain ⟨f, hf⟩ := aa_made' N (Nat.le_refl _) hn1 (Below.refl w.heap.size w)
      exact ⟨_, _, f, rfl, rfl, by omega, by omega, ⟨hf⟩, ⟨below_drew (below_alloc (below_alloc (Below.refl _ _) _) _)⟩⟩
  case rest =>
    obtain ⟨gv, gb, f0, rfl, rfl, hgv, hgb, HA, HB⟩ := hcut
    clear hm1
    go_wp2
    go_loopg [23] l1.length (fun kq v23 w' => ∃ (k : Nat) (f : Nat → Nat) (vs bs : List Value), v23 = .int .i64 k ∧ Aside0 (kq + k = l1.length) ∧ Aside0 (AA w' w.heap.size f N gv gb vs ((l1.take k).foldl addEdge (List.replicate N [])) bs ((l1.take k).foldl addBack (List.replicate N [])) ∧ Below w.heap.size w w'))
    case atStart => exact ⟨0, f0, _, _, rfl, ⟨by omega⟩, ⟨HA.out, HB.out⟩⟩
    case round =>
      clear HA HB
      obtain ⟨k, f, vs, bs, rfl, HA, HW⟩ := hrel
      cases gk with
      | zero =>
        have hk : l1.length ≤ k := by have := HA.out; omega
        have hxs : (l1.take k).foldl addEdge (List.replicate N []) = afterOf N l1 ∧ (l1.take k).foldl addBack (List.replicate N []) = beforeOf N l1 := by
          rw [List.take_of_length_le hk]; exact ⟨rfl, rfl⟩
        rw [hxs.1, hxs.2] at HW
        clear hxs HA
        generalize afterOf N l1 = xss at *
        generalize beforeOf N l1 = bss at *
        have hkf : decide (k < l1.length) = false := decide_eq_false (by omega)
        clear hk
        have hm2 := HM2.out
        have hbsz := below_size HW.out.2
        go_wp2
        go_cut [9, 10] (fun v9 v10 wx => ∃ (gd gu : Nat), v9 = .slice (some ⟨gd, 0, none⟩) N N ∧ v10 = .slice (some ⟨gu, 0, none⟩) N N ∧ w.heap.size ≤ gd ∧ w.heap.size ≤ gu ∧ Aside0 (CW w wx f N gv gb gd gu vs xss bs bss (List.replicate N false) (List.replicate N false)))
        case first =>
          go_region
          all_goals (go_wp2; go_meet)
          · exact ⟨_, _, rfl, rfl, by omega, by omega, ⟨HW.out.1.below (below_drew (below_alloc (below_alloc (Below.refl _ _) _) _)), (du_made N hbsz hn1).1, below_drew (below_alloc (below_alloc HW.out.2 _) _)⟩⟩
          · exact ⟨_, _, rfl, rfl, by omega, by omega, ⟨HW.out.1.below (below_drew (below_alloc (below_alloc (Below.refl _ _) _) _)), (du_made N hbsz hn1).2, below_drew (below_alloc (below_alloc HW.out.2 _) _)⟩⟩
        case rest =>
          obtain ⟨gd, gu, rfl, rfl, hgd, hgu, HC⟩ := hcut
          clear HW hm2 HM2 hbsz
          go_wp2
          go_loopg [59] N (fun kq v59 w' => ∃ (k : Nat) (d u : List Bool), v59 = .int .i64 k ∧ Aside0 (kq + k = N ∧ marks xss bss N k = some (d, u)) ∧ Aside0 (CW w w' f N gv gb gd gu vs xss bs bss d u))
          case atStart => exact ⟨0, _, _, rfl, ⟨by omega, rfl⟩, ⟨HC.out⟩⟩
          case round =>
            clear HC
            obtain ⟨k, d, u, rfl, HK, HW⟩ := hrel
            cases gk with
            | zero =>
              have hkN : k = N := by have := HK.out.1; omega
              subst hkN
              have hdu : d = dN ∧ u = uN := by
                have h := HK.out.2.symm.trans HMK.out
                simpa using h
              obtain ⟨rfl, rfl⟩ := hdu
              clear HK HMK
              have HDU := Lib.hid HW.out.du
              have HBW := Lib.hid HW.out.B
              clear HW
              go_wp2
              go_loopg [15, 107] k (fun kq v15 v107 w' => ∃ (i : Nat), v107 = .int .i64 i ∧ Aside0 (kq + i = k) ∧ Aside0 (DU w' w.heap.size k gd gu d u ∧ KI.R 3 w' w.heap.size (fun _ => True) v15 (between d u i) ∧ Below w.heap.size w w'))
              case atStart => exact ⟨0, rfl, ⟨by omega⟩, ⟨HDU.out, Kd.R_nil _ _ _ _ _, HBW.out⟩⟩
              case round =>
                clear HDU HBW
                obtain ⟨i, rfl, HI, HS⟩ := hrel
                cases gk with
                | zero =>
                  have hik : i = k := by have := HI.out; omega
                  subst hik
                  have hbt := HRES.out
                  clear HI
                  go_wp2
                  go_ret
                  exact ⟨_, rfl, by rw [← hbt]; exact HS.out.2.1, HS.out.2.2⟩
                | succ iq =>
                  have hik : i < k := by have := HI.out; omega
                  obtain ⟨hd1, hd2, hd3⟩ := bcell HS.out.1.rd HS.out.1.nd i hik
                  obtain ⟨hu1, hu2, hu3⟩ := bcell HS.out.1.ru HS.out.1.nu i hik
                  have HBS := Lib.hid (between_succ d u i)
                  have hbl := between_length d u i
                  clear hd2 hu2
                  generalize d.getD i false = x at *
                  generalize u.getD i false = y at *
                  generalize between d u i = out at *
                  cases x with
                  | false =>
                    go_wp2
                    go_roundg iq
                    case measure => omega
                    case rel => exact ⟨i + 1, by go_num, ⟨by have := HI.out; omega⟩, ⟨HS.out.1, by rw [HBS.out]; exact HS.out.2.1, HS.out.2.2⟩⟩
                  | true =>
                    cases y with
                    | false =>
                      go_wp2
                      go_roundg iq
                      case measure => omega
                      case rel => exact ⟨i + 1, by go_num, ⟨by have := HI.out; omega⟩, ⟨HS.out.1, by rw [HBS.out]; exact HS.out.2.1, HS.out.2.2⟩⟩
                    | true =>
                      go_wp2_with (first | (at_builtin; go_must (refine Kd.R_append KI (w0 := w) w.heap.size rfl (.tmp 120) (.tmp 122) 24 3 (.int .i64 0) 8 rfl Try.underlying24 R.infoE rfl (by decide) (by decide) u15 out (i : Int) [.int .i64 (i : Int)] (fun _ => True) (fun _ => False) rfl ?aX ?aP (fun _ hk => hk.elim) ?aF ?aO ?aB ?aS ?aL ?_; (case aX => go_simp); (case aP => rfl); (case aF => exact fun _ _ => trivial); (case aO => exact HS.out.2.1); (case aB => exact HS.out.2.2); (case aS => exact below_size HS.out.2.2); (case aL => omega); intro v1 w7 ho hb hg hat; have HS7 := Lib.hid (And.intro (DU.grown3 HS.out.1 hg HS.out.2.1) (And.intro ho hb)); clear ho hb hg hat)))
                      go_roundg iq
                      case measure => omega
                      case rel => exact ⟨i + 1, by go_num, ⟨by have := HI.out; omega⟩, ⟨HS7.out.1, by rw [HBS.out]; exact HS7.out.2.1, HS7.out.2.2⟩⟩
            | succ kq =>
              have hkN : k < N := by have := HK.out.1; omega
              have hsome : (marks xss bss N (k + 1)).isSome = true := marks_le (k + 1) N (by omega) (by rw [HMK.out]; rfl)
              obtain ⟨⟨d1, u1⟩, hmk1⟩ := Option.isSome_iff_exists.1 hsome
              have hm := hmk1
              simp only [marks] at hm
              rw [HK.out.2, Option.bind_some, Option.bind_eq_some_iff] at hm
              obtain ⟨rr, hrr, hm2⟩ := hm
              have HMK1 := Lib.hid hmk1
              have HM2 := Lib.hid hm2
              have HRR := Lib.hid hrr
              clear hsome hmk1 hm2 hrr
              go_wp2_with fail
              refine (reach_calls w.heap.size f 0 N gv vs xss hn1 k rr wr hkN HW.out.aa.a HW.out.aa.na HRR.out).mono ?_
              rintro e w2 ⟨gr, rfl, hgr, hRr, hBr⟩
              have hbs := below_size HW.out.B
              have hgdl := (bcell HW.out.du.rd HW.out.du.nd k hkN).2.2
              have hgul := (bcell HW.out.du.ru HW.out.du.nu k hkN).2.2
              have HW2 := Lib.hid (HW.out.below hBr)
              have HR2 := Lib.hid (Kd.R_lower hRr hbs)
              obtain ⟨hrc, hrz, hrl⟩ := bcell HR2.out (reach_length HRR.out) k hkN
              have hd1 : gr ≠ gd := by omega
              have hd2 : gr ≠ gu := by omega
              have hsz2 := hBr.size
              clear hRr hBr HW hrz
              cases hrk : rr.getD k false with
              | false =>
                rw [hrk] at hrc
                have hmm : marks xss bss N (k + 1) = some (d, u) := by
                  have h := HM2.out
                  rw [hrk] at h
                  rw [HMK1.out, ← h]
                  rfl
                have HMM := Lib.hid hmm
                clear hrk hmm
                go_wp2
                go_roundg kq
                case measure => omega
                case rel => exact ⟨k + 1, d, u, by go_num, ⟨by have := HK.out.1; omega, HMM.out⟩, ⟨HW2.out⟩⟩
              | true =>
                rw [hrk] at hrc
                have hmm : ∃ bb, reach bss N k = some bb ∧ marks xss bss N (k + 1) = some (orTo rr N d, orTo bb N u) := by
                  have h := HM2.out
                  rw [hrk, if_pos rfl, Option.bind_eq_some_iff] at h
                  obtain ⟨bb, h1, h2⟩ := h
                  exact ⟨bb, h1, by rw [HMK1.out, ← h2]⟩
                obtain ⟨bb, hbb, hmm⟩ := hmm
                have HMM := Lib.hid hmm
                have HBB := Lib.hid hbb
                clear hrk hmm hbb HM2
                go_wp2_with fail
                refine (reach_calls w.heap.size f N N gb bs bss hn1 k bb w2 hkN HW2.out.aa.b HW2.out.aa.nb HBB.out).mono ?_
                rintro e w3 ⟨gc, rfl, hgc, hRc, hBc⟩
                have HW3 := Lib.hid (And.intro (HW2.out.below hBc) (And.intro (Kd.R_below HR2.out hBc) (Kd.R_lower hRc (below_size HW2.out.B))))
                have hd3 : gc ≠ gd := by omega
                have hd4 : gc ≠ gu := by omega
                clear hRc hBc HW2 HR2 hrc
                go_wp2
                go_loopg [75] N (fun kq v75 w' => ∃ (j : Nat), v75 = .int .i64 j ∧ Aside0 (kq + j = N) ∧ Aside0 (CW w w' f N gv gb gd gu vs xss bs bss (orTo rr j d) (orTo bb j u) ∧ KB.R 4 w' w.heap.size (fun _ => True) (.slice (some ⟨gr, 0, none⟩) N N) rr ∧ KB.R 4 w' w.heap.size (fun _ => True) (.slice (some ⟨gc, 0, none⟩) N N) bb))
                case atStart => exact ⟨0, rfl, ⟨by omega⟩, ⟨HW3.out⟩⟩
                case round =>
                  clear HW3
                  obtain ⟨j, rfl, HJ, HS⟩ := hrel
                  cases gk with
                  | zero =>
                    have hjN : j = N := by have := HJ.out; omega
                    subst hjN
                    clear HJ
                    go_wp2
                    go_roundg kq
                    case measure => omega
                    case rel => exact ⟨k + 1, _, _, by go_num, ⟨by have := HK.out.1; omega, HMM.out⟩, ⟨HS.out.1⟩⟩
                  | succ jq =>
                    have hjN : j < N := by have := HJ.out; omega
                    go_wp2
                    obtain ⟨hc1, hz1, hl1⟩ := bcell HS.out.1.du.rd HS.out.1.du.nd j hjN
                    obtain ⟨hc2, hz2, hl2⟩ := bcell HS.out.1.du.ru HS.out.1.du.nu j hjN
                    obtain ⟨hc3, hz3, hl3⟩ := bcell HS.out.2.1 (reach_length HRR.out) j hjN
                    obtain ⟨hc4, hz4, hl4⟩ := bcell HS.out.2.2 (reach_length HBB.out) j hjN
                    have hdu := HS.out.1.du.ne
                    have HSET := Lib.hid (CW.set HS.out.1 hgd hgu HS.out.2.1 HS.out.2.2 hd1 hd2 hd3 hd4 j ((orTo rr j d).getD j false || rr.getD j false) ((orTo bb j u).getD j false || bb.getD j false))
                    have HOS := Lib.hid (And.intro (orTo_succ rr j d) (orTo_succ bb j u))
                    clear hz3 hz4 HS
                    obtain ⟨dn, hdn⟩ : ∃ dn, orTo rr (j + 1) d = dn := ⟨_, rfl⟩
                    obtain ⟨un, hun⟩ : ∃ un, orTo bb (j + 1) u = un := ⟨_, rfl⟩
                    have HDN := Lib.hid (And.intro hdn hun)
                    rw [hdn, hun] at HOS
                    clear hdn hun
                    generalize orTo rr j d = dj at *
                    generalize orTo bb j u = uj at *
                    rw [← HOS.out.1, ← HOS.out.2] at HSET
                    clear HOS
                    generalize dj.getD j false = x1 at *
                    generalize uj.getD j false = x2 at *
                    generalize rr.getD j false = x3 at *
                    generalize bb.getD j false = x4 at *
                    cases x1 <;> cases x2
                    all_goals
                      go_region
                      go_wp2
                      go_roundg jq
                      case measure => omega
                      case rel => exact ⟨j + 1, by go_num, ⟨by have := HJ.out; omega⟩, ⟨by rw [HDN.out.1, HDN.out.2]; exact ⟨HSET.out.1.1.below (below_drew (Below.refl _ _)), Kd.R_drew HSET.out.1.2.1, Kd.R_drew HSET.out.1.2.2⟩⟩⟩
      | succ kq =>
        have hk : k < l1.length := by have := HA.out; omega
        obtain ⟨ad, rfl, hx0, hx1⟩ := at_T68 HR1.out (k : Int) (Int.natCast_nonneg _) (by omega)
        have hB := HW.out.2
        replace hx0 := (hB.cell (World.block_lt_of_cell? w _ hx0)).trans hx0
        replace hx1 := (hB.cell (World.block_lt_of_cell? w _ hx1)).trans hx1
        simp only [Int.toNat_natCast] at hx0 hx1
        have hxin := edgeIn_iff.1 (valid_at HV.out k hk)
        have HL := Lib.hid (fun b => (show (((l1.take k).foldl addEdge (List.replicate N [])).getD b []).length ≤ k from by
          have h1 := addEdge_len (l1.take k) (List.replicate N []) b
          rw [rep_len, List.length_take] at h1
          omega))
        have HL2 := Lib.hid (fun b => (show (((l1.take k).foldl addBack (List.replicate N [])).getD b []).length ≤ k from by
          have h1 := addBack_len (l1.take k) (List.replicate N []) b
          rw [rep_len, List.length_take] at h1
          omega))
        have HC := Lib.hid (And.intro (take_foldl addEdge (List.replicate N []) l1 k hk) (take_foldl addBack (List.replicate N []) l1 k hk))
        clear hB
        generalize rd_T68 l1 k = x at *
        generalize (l1.take k).foldl addEdge (List.replicate N []) = xss at *
        generalize (l1.take k).foldl addBack (List.replicate N []) = bss at *
        obtain ⟨x0, x1⟩ := x
        obtain ⟨hxa, hxb, hxc, hxd⟩ := hxin
        obtain ⟨b, rfl⟩ := Int.eq_ofNat_of_zero_le hxa
        obtain ⟨d, rfl⟩ := Int.eq_ofNat_of_zero_le hxc
        dsimp only at hxb hxd
        have hbN : b < N := by omega
        have hdN : d < N := by omega
        dsimp only at hx0 hx1
        go_wp2
        have hed := heap_alloc_new wr (.cells #[.int .i64 (b : Int), .int .i64 (d : Int)] 68)
        have haw := HW.out.1.below (below_alloc (Below.refl _ _) (.cells #[.int .i64 (b : Int), .int .i64 (d : Int)] 68))
        have hB3 := below_alloc HW.out.2 (.cells #[.int .i64 (b : Int), .int .i64 (d : Int)] 68)
        clear HW hx0 hx1
        generalize wr.alloc (.cells #[.int .i64 (b : Int), .int .i64 (d : Int)] 68) = w3 at *
        generalize wr.heap.size = ge at *
        have he0 := blk_cell hed 0
        have he1 := blk_cell hed 1
        have hel := blk_lt hed
        simp only [List.getElem?_toArray, List.getElem?_cons_succ, List.getElem?_cons_zero] at he0 he1
        have hs3 := below_size hB3
        have HAW := Lib.hid haw
        have HB3 := Lib.hid hB3
        have HED := Lib.hid hed
        clear haw hB3 hed
        go_cut [] (fun wx => ∃ (f' : Nat → Nat) (vs' : List Value), Aside0 (AA wx w.heap.size f' N gv gb vs' (xss.set b (xss.getD b [] ++ [(d : Int)])) bs bss ∧ Below w.heap.size w wx ∧ wx.heap[ge]? = some (.cells #[.int .i64 (b : Int), .int .i64 (d : Int)] 68 (0, 0))))
        case first =>
          have haw := HAW.out
          obtain ⟨hgc, hgz, hgl⟩ := haw.a.cell_ haw.na b hbN
          have HU := Lib.hid (haw.a.at_ b (by rw [haw.na]; exact hbN))
          clear haw
          have hyl := HL.out b
          clear HL HL2
          generalize hu : vs.getD b undef = u at *
          have HUE := Lib.hid hu
          clear hu
          generalize xss.getD b [] = ys at *
          go_region_law (rw [show (w3.alloc (.cells #[.int .i64 (d : Int)] 3)).drew = (w3.drew).alloc (.cells [.int .i64 (d : Int)].toArray 3) from rfl]; refine Kd.R_append_step KI (w0 := w) w.heap.size rfl (.tmp 34) (.tmp 37) 24 3 (.int .i64 0) 8 rfl Try.underlying24 R.infoE rfl (by decide) (by decide) u ys (d : Int) [.int .i64 (d : Int)] (fun _ => True) (fun _ => False) (by go_simp) (by go_simp) rfl (fun _ hk => hk.elim) (fun _ _ => trivial) (by (repeat (first | exact HU.out.1 | apply Kd.R_alloc | apply Kd.R_drewN | apply Kd.R_drew))) (by (repeat (first | exact HB3.out | apply below_drew))) (by (first | exact hs3 | (simp; omega))) (by omega) ?_; intro v1 w4 ho hb hgr hat; obtain ⟨A1, c1, rfl⟩ := Kd.R_slice ho; simp only [List.length_append, List.length_singleton] at ho hat; obtain ⟨hst, hst3, hst4, hst5, hst6⟩ := HAW.out.edgeA hbN HUE.out hgr ho hb hat hgv HED.out; have hee0 := blk_cell hst6 0; have hee1 := blk_cell hst6 1; have heel := blk_lt hst6; simp only [List.getElem?_toArray, List.getElem?_cons_succ, List.getElem?_cons_zero] at hee0 hee1; have HST := Lib.hid hst; clear ho hb hgr hat hst hst6)
          all_goals (go_wp2; go_meet)
          all_goals
            obtain ⟨f1, vs1, h1, h2, h3⟩ := HST.out
            exact ⟨f1, vs1, ⟨h1, h2, h3⟩⟩
        case rest =>
          obtain ⟨f1, vs1, HX⟩ := hcut
          clear HAW HB3 HED hel hs3 he0 he1 HL
          have hed := HX.out.2.2
          have he0 := blk_cell hed 0
          have he1 := blk_cell hed 1
          have hel := blk_lt hed
          simp only [List.getElem?_toArray, List.getElem?_cons_succ, List.getElem?_cons_zero] at he0 he1
          have hs3 := below_size HX.out.2.1
          clear hed
          go_wp2
          have haw := HX.out.1
          obtain ⟨hgc, hgz, hgl⟩ := haw.b.cell_ haw.nb d hdN
          have HU := Lib.hid (haw.b.at_ d (by rw [haw.nb]; exact hdN))
          clear haw
          have hyl := HL2.out d
          clear HL2
          generalize hu : bs.getD d undef = u at *
          have HUE := Lib.hid hu
          clear hu
          generalize hys : bss.getD d [] = ys at *
          have HYS := Lib.hid hys
          clear hys
          go_region_law (rw [show (wc.alloc (.cells #[.int .i64 (b : Int)] 3)).drew = (wc.drew).alloc (.cells [.int .i64 (b : Int)].toArray 3) from rfl]; refine Kd.R_append_step KI (w0 := w) w.heap.size rfl (.tmp 47) (.tmp 50) 24 3 (.int .i64 0) 8 rfl Try.underlying24 R.infoE rfl (by decide) (by decide) u ys (b : Int) [.int .i64 (b : Int)] (fun _ => True) (fun _ => False) (by go_simp) (by go_simp) rfl (fun _ hk => hk.elim) (fun _ _ => trivial) (by (repeat (first | exact HU.out.1 | apply Kd.R_alloc | apply Kd.R_drewN | apply Kd.R_drew))) (by (repeat (first | exact HX.out.2.1 | apply below_drew))) (by (first | exact hs3 | (simp; omega))) (by omega) ?_; intro v1 w4 ho hb hgr hat; obtain ⟨A1, c1, rfl⟩ := Kd.R_slice ho; simp only [List.length_append, List.length_singleton] at ho hat; obtain ⟨hst, hst3, hst4, hst5, hst6⟩ := HX.out.1.edgeB hdN HUE.out hgr ho hb hat hgb HX.out.2.2; have hee0 := blk_cell hst6 0; have hee1 := blk_cell hst6 1; have heel := blk_lt hst6; simp only [List.getElem?_toArray, List.getElem?_cons_succ, List.getElem?_cons_zero] at hee0 hee1; have HST := Lib.hid hst; clear ho hb hgr hat hst hst6)
          all_goals
            go_wp2
            go_roundg kq
            case measure => omega
            case rel =>
              obtain ⟨f2, bs2, h1, h2, h3⟩ := HST.out
              refine ⟨k + 1, f2, vs1, bs2, by go_num, ⟨by have := HA.out; omega⟩, ⟨?_, h2⟩⟩
              rw [HC.out.1, HC.out.2]
              unfold addEdge addBack
              simp only [Int.toNat_natCast]
              rw [HYS.out]
              exact h1
end Go.Proofs.Ythpjpkcfepmhkaa.PAll
