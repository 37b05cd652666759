import Derived.Test.YtmiahabiabcohaaHHeap
import Derived.Outline
namespace Go.Proofs.Ytmiahabiabcohaa.PAll
open Go.RowKit Go.Proofs.YtmiahabiabcohaaW.PrintWords Go.Proofs.YtmiahabiabcohaaW.PrintLast Go.Proofs.YtmiahabiabcohaaW.PrintMore
set_option linter.unusedVariables false
set_option linter.unusedSimpArgs false

theorem cell_of_blk {w : World} {g t : Nat} {v : Value} (h : w.heap[g]? = some (.cells #[v] t (0, 0))) : w.cell? ⟨g, 0, none⟩ = some v ∧ w.frozen? ⟨g, 0, none⟩ = false := by
  refine ⟨?_, blk_frozen h _⟩
  rw [cell_of_row w g 0 _ _ _ h]
  rfl

theorem bind_eq_ (x : Sem Value) (f : Value → Sem (Nat × Value)) : Sem.bind x f = x >>= f := rfl
theorem pure_eq_ (x : Nat × Value) : Sem.pure x = pure x := rfl
theorem meth_Len0 (a : Addr) (w : World) : (method 177 45 (.pointer (some a)) "Len").run Try.prog w = (Sem.bind (loadVar 43 a) (fun v => Sem.pure ((18 : Nat), v))).run Try.prog w := by kernel_rfl
theorem meth_Len (g : Nat) (v : Value) (w : World) (h : w.cell? ⟨g, 0, none⟩ = some v) : (method 177 45 (.pointer (some ⟨g, 0, none⟩)) "Len").run Try.prog w = .ok (18, v) w := by
  rw [meth_Len0, bind_eq_]; simp only [pure_eq_, Sem.run_bind, Sem.run_pure]; go_simp
theorem meth_Less0 (a : Addr) (w : World) : (method 177 45 (.pointer (some a)) "Less").run Try.prog w = (Sem.bind (loadVar 43 a) (fun v => Sem.pure ((41 : Nat), v))).run Try.prog w := by kernel_rfl
theorem meth_Less (g : Nat) (v : Value) (w : World) (h : w.cell? ⟨g, 0, none⟩ = some v) : (method 177 45 (.pointer (some ⟨g, 0, none⟩)) "Less").run Try.prog w = .ok (41, v) w := by
  rw [meth_Less0, bind_eq_]; simp only [pure_eq_, Sem.run_bind, Sem.run_pure]; go_simp
theorem meth_Swap0 (a : Addr) (w : World) : (method 177 45 (.pointer (some a)) "Swap").run Try.prog w = (Sem.bind (loadVar 43 a) (fun v => Sem.pure ((42 : Nat), v))).run Try.prog w := by kernel_rfl
theorem meth_Swap (g : Nat) (v : Value) (w : World) (h : w.cell? ⟨g, 0, none⟩ = some v) : (method 177 45 (.pointer (some ⟨g, 0, none⟩)) "Swap").run Try.prog w = .ok (42, v) w := by
  rw [meth_Swap0, bind_eq_]; simp only [pure_eq_, Sem.run_bind, Sem.run_pure]; go_simp
theorem meth_Pop (a : Addr) (w : World) : (method 177 45 (.pointer (some a)) "Pop").run Try.prog w = .ok (43, .pointer (some a)) w := by kernel_rfl

theorem ret_int {k : IntKind} {a b : Int} (h : a = b) : Ending.returned (.int k a) = .returned (.int k b) := by rw [h]

set_option maxHeartbeats 1000000 in
theorem len_calls (A : Option Addr) (n c : Nat) (w : World) (hn : (n : Int) ≤ 9223372036854775807) :
    Calls Try.prog 18 #[.slice A n c] w fun e w' => e = .returned (.int .i64 n) ∧ w = w' := by
  go_enter Try.func18, Try.ntmps18
  go_wp2
  go_ret
  exact ⟨rfl, rfl⟩

set_option maxHeartbeats 1000000 in
theorem popm_calls (w0 w : World) (base g : Nat) (A : Option Addr) (n c : Nat) (xs : List S40) (hs : HS w base g (.slice A n c) xs) (hB : Below base w0 w) (hbs : base ≤ w.heap.size) (hbg : base ≤ g) (hn : 0 < xs.length) :
    Calls Try.prog 43 #[.pointer (some ⟨g, 0, none⟩)] w fun e w' => e = .returned (.iface 40 (.agg #[.string (Hp.at_ z40 xs (xs.length - 1)).f0, .int .i64 (Hp.at_ z40 xs (xs.length - 1)).f1, .int .i64 (Hp.at_ z40 xs (xs.length - 1)).f2, .int .i64 (Hp.at_ z40 xs (xs.length - 1)).f3, .int .i64 (Hp.at_ z40 xs (xs.length - 1)).f4])) ∧
      HS w' base g (.slice A (xs.length - 1) c) (xs.take (xs.length - 1)) ∧ Below base w0 w' ∧ KeepBut w w' g none := by
  obtain ⟨hg, hR⟩ := hs
  obtain ⟨hcell, hfz⟩ := cell_of_blk hg
  obtain ⟨b, c', he, hbb, hbl, _⟩ := Kd.R_form hR hn
  injection he with he1 he2 he3
  subst he1; subst he2; subst he3
  obtain ⟨_, hnc, hC⟩ := Kd.R_reads' hR
  have hm := hC.2.1
  obtain ⟨⟨h0, h1, h2, h3, h4⟩, _⟩ := row_cells hR (xs.length - 1) (by omega)
  have hgl := blk_lt hg
  have hneq : g ≠ b := fun e => Kd.R_ne hR hg (by decide) (by rw [e]; rfl)
  have hT := Kd.R_take hR (m := xs.length - 1) (by omega)
  have hfin : ∀ o : Obj, HS ((w.setCell ⟨g, 0, none⟩ (.slice (some ⟨b, 0, none⟩) (xs.length - 1) c)).alloc o) base g (.slice (some ⟨b, 0, none⟩) (xs.length - 1) c) (xs.take (xs.length - 1)) ∧ Below base w0 ((w.setCell ⟨g, 0, none⟩ (.slice (some ⟨b, 0, none⟩) (xs.length - 1) c)).alloc o) ∧ KeepBut w ((w.setCell ⟨g, 0, none⟩ (.slice (some ⟨b, 0, none⟩) (xs.length - 1) c)).alloc o) g none := by
    intro o
    have b1 := blk_set hg 0 (.slice (some ⟨b, 0, none⟩) (xs.length - 1) c)
    refine ⟨⟨blk_alloc b1 o, Kd.R_alloc (Kd.R_set hT hg (by decide) 0 _) o⟩, (hB.setCell hbg _).alloc (by simp [World.setCell]; omega) o, ?_⟩
    have k1 := (KeepBut.refl w g none).set_ 0 (.slice (some ⟨b, 0, none⟩) (xs.length - 1) c)
    exact k1.trans (KeepBut.of_below (below_alloc (Below.refl _ _) o) g none) (.inl rfl)
  have HF := Lib.hid hfin
  have hcut : ∀ W, (Instr.slice 43 (.slice (some ⟨b, 0, none⟩) xs.length c) none (some (.int .i64 ((xs.length : Int) - 1))) none).run Try.prog W = .ok (.slice (some ⟨b, 0, none⟩) (xs.length - 1) c) W := by
    intro W
    obtain ⟨i0, hi, _⟩ := Option.map_eq_some_iff.1 info40
    have := cut_to (P := Try.prog) 43 40 .i64 Try.underlying43 hi (some ⟨b, 0, none⟩) xs.length c ((xs.length : Int) - 1) (by omega) (by omega) hnc W
    rw [this, show ((xs.length : Int) - 1).toNat = xs.length - 1 from by omega]
  clear hfin hT hR hg hB hC
  generalize Hp.at_ z40 xs (xs.length - 1) = x at *
  generalize xs.take (xs.length - 1) = ys at *
  generalize xs.length = n at *
  obtain ⟨m, rfl⟩ : ∃ m, n = m + 1 := ⟨n - 1, by omega⟩
  simp only [Nat.add_sub_cancel] at *
  have hix : ((m + 1 : Nat) : Int) - 1 = (m : Int) := by omega
  rw [hix] at hcut
  clear hix
  go_enter Try.func43, Try.ntmps43
  go_wp2
  go_ret
  exact ⟨rfl, HF.out _⟩

def DownPost (w0 w : World) (base g n : Nat) (v : Value) (xs : List S40) (i0 : Nat) (w' : World) : Prop := HS w' base g v (Hp.down z40 lessS n (n + 1) xs i0) ∧ Below base w0 w' ∧ KeepBut w w' g v.ownBlock
def DownEnd (w0 w : World) (base g n : Nat) (v : Value) (xs : List S40) (i0 : Nat) (e : Ending) (w' : World) : Prop := ∃ r : Bool, e = .returned (.bool r) ∧ DownPost w0 w base g n v xs i0 w'

theorem HS_below {w w1 : World} {base g : Nat} {v : Value} {xs : List S40} (h : HS w base g v xs) (hb : Below w.heap.size w w1) : HS w1 base g v xs :=
  ⟨(hb.block g (blk_lt h.1)).trans h.1, Kd.R_below h.2 hb⟩
theorem HS_cell {w : World} {base g : Nat} {v : Value} {xs : List S40} (h : HS w base g v xs) : w.cell? ⟨g, 0, none⟩ = some v := (cell_of_blk h.1).1
theorem below_add {B : Nat} {w0 w w1 : World} (h : Below B w0 w) (hB : B ≤ w.heap.size) (k : Below w.heap.size w w1) : Below B w0 w1 ∧ B ≤ w1.heap.size := ⟨below_then h hB k, by have := k.size; omega⟩
theorem keep_below {w w1 w2 : World} {g : Nat} {row : Option Nat} (h : KeepBut w w1 g row) (k : Below w1.heap.size w1 w2) : KeepBut w w2 g row := h.trans (KeepBut.of_below k g row) (.inl rfl)
theorem Below_size {B : Nat} {w w1 : World} (h : Below B w w1) (hB : B ≤ w.heap.size) : B ≤ w1.heap.size := by have := h.size; omega

/-- One round of down, its three ways, each as a fact on what is left. -/
theorem down_stop {n kq i : Nat} {ys : List S40} (h : n ≤ 2 * i + 1) : Hp.down z40 lessS n (kq + 1) ys i = ys := by simp [Hp.down, h]
theorem down_still {n kq i j : Nat} {ys : List S40} (h : ¬ n ≤ 2 * i + 1) (hj : Hp.kid z40 lessS n ys i = j) (hl : lessS (Hp.at_ z40 ys j) (Hp.at_ z40 ys i) = false) : Hp.down z40 lessS n (kq + 1) ys i = ys := by simp [Hp.down, h, hj, hl]
theorem down_go {n kq i j : Nat} {ys : List S40} (h : ¬ n ≤ 2 * i + 1) (hj : Hp.kid z40 lessS n ys i = j) (hl : lessS (Hp.at_ z40 ys j) (Hp.at_ z40 ys i) = true) : Hp.down z40 lessS n (kq + 1) ys i = Hp.down z40 lessS n kq (Hp.swp z40 ys i j) j := by simp [Hp.down, h, hj, hl]
theorem kid_two {n i : Nat} {ys : List S40} (h : 2 * i + 2 < n) (hl : lessS (Hp.at_ z40 ys (2 * i + 2)) (Hp.at_ z40 ys (2 * i + 1)) = true) : Hp.kid z40 lessS n ys i = 2 * i + 2 := by simp [Hp.kid, h, hl]
theorem kid_one {n i : Nat} {ys : List S40} (h : 2 * i + 2 < n) (hl : lessS (Hp.at_ z40 ys (2 * i + 2)) (Hp.at_ z40 ys (2 * i + 1)) = false) : Hp.kid z40 lessS n ys i = 2 * i + 1 := by simp [Hp.kid, hl]
theorem kid_alone {n i : Nat} {ys : List S40} (h : ¬ 2 * i + 2 < n) : Hp.kid z40 lessS n ys i = 2 * i + 1 := by simp [Hp.kid, h]
/-- less as the walk asks it: the answer by name. -/
theorem less_named {W : World} {base g : Nat} {v : Value} {xs : List S40} (hs : HS W base g v xs) (i k : Int) (a c : Nat) (ha : i = a) (hc : k = c) (hal : a < xs.length) (hcl : c < xs.length) {b : Bool} (hb : lessS (Hp.at_ z40 xs a) (Hp.at_ z40 xs c) = b) :
    Calls Try.prog 41 #[v, .int .i64 i, .int .i64 k] W fun e w' => e = .returned (.bool b) ∧ Below W.heap.size W w' := by
  subst ha; subst hc; subst hb
  exact less_calls W base (fun _ => True) v xs a c hs.2 (Int.natCast_nonneg _) (by omega) (Int.natCast_nonneg _) (by omega)

theorem swap_named {w0 W : World} {base g : Nat} {v : Value} {xs : List S40} (hs : HS W base g v xs) (hB : Below base w0 W) (i k : Int) (a c : Nat) (ha : i = a) (hc : k = c) (hal : a < xs.length) (hcl : c < xs.length) (hbs : base ≤ W.heap.size) :
    Calls Try.prog 42 #[v, .int .i64 i, .int .i64 k] W fun e w' => e = .returned (.tuple #[]) ∧ HS w' base g v (Hp.swp z40 xs a c) ∧ Below base w0 w' ∧ KeepBut W w' g v.ownBlock := by
  subst ha; subst hc
  exact swap_calls w0 W base g v xs a c hs hB hbs (Int.natCast_nonneg _) (by omega) (Int.natCast_nonneg _) (by omega)

set_option maxHeartbeats 8000000 in
theorem down_calls (w0 w : World) (base g : Nat) (v : Value) (xs : List S40) (i0 n : Int) (hs : HS w base g v xs) (hB : Below base w0 w) (hbs : base ≤ w.heap.size) (h0 : 0 ≤ i0) (hi : i0 < xs.length) (hin : i0 ≤ n) (hn : n ≤ xs.length) (hl : (xs.length : Int) ≤ 1099511627776) :
    Calls Try.prog 23 #[.iface 45 (.pointer (some ⟨g, 0, none⟩)), .int .i64 i0, .int .i64 n] w (DownEnd w0 w base g n.toNat v xs i0.toNat) := by
  obtain ⟨i0, rfl⟩ := Int.eq_ofNat_of_zero_le h0
  obtain ⟨n, rfl⟩ := Int.eq_ofNat_of_zero_le (show 0 ≤ n by omega)
  simp only [Int.toNat_natCast]
  have HS0 := Lib.hid hs
  have HB0 := Lib.hid hB
  have hless := meth_Less g v
  have hswap := meth_Swap g v
  clear hs hB
  go_enter Try.func23, Try.ntmps23
  go_wp2
  go_loopg [7] (n + 1) (fun kq v7 w' => ∃ (i : Nat) (ys : List S40), v7 = .int .i64 i ∧ Aside0 (i < xs.length ∧ i ≤ n ∧ n < kq + i ∧ ys.length = xs.length ∧ Hp.down z40 lessS n kq ys i = Hp.down z40 lessS n (n + 1) xs i0) ∧ Aside0 (HS w' base g v ys ∧ Below base w0 w' ∧ KeepBut w w' g v.ownBlock))
  case atStart => exact ⟨i0, xs, rfl, ⟨by omega, by omega, by omega, rfl, rfl⟩, HS0.out, HB0.out, KeepBut.refl _ _ _⟩
  case round =>
    obtain ⟨i, ys, rfl, HA, HW⟩ := hrel
    obtain ⟨hil, hin', hk, hyl, hd⟩ := HA.out
    obtain ⟨hsy, hby, hky⟩ := HW.out
    clear HA HW
    obtain ⟨kq, rfl⟩ : ∃ kq, gk = kq + 1 := ⟨gk - 1, by omega⟩
    have hbw : base ≤ wr.heap.size := by have := hky.1; omega
    have hcw := HS_cell hsy
    by_cases c1 : n ≤ 2 * i + 1
    · rw [down_stop c1] at hd
      have HD := Lib.hid hd
      have HW := Lib.hid (And.intro hsy (And.intro hby hky))
      clear hd hsy hby hky hyl
      go_wp2
      go_ret
      exact ⟨_, rfl, by unfold DownPost; rw [← HD.out]; exact HW.out⟩
    · have HW := Lib.hid (And.intro hsy (And.intro hby hky))
      have HD := Lib.hid hd
      have HYL := Lib.hid hyl
      clear hd hsy hby hky hyl
      by_cases c2 : 2 * i + 2 < n
      · cases hl1 : lessS (Hp.at_ z40 ys (2 * i + 2)) (Hp.at_ z40 ys (2 * i + 1)) with
        | true =>
          have HKID := Lib.hid (kid_two c2 hl1)
          have HL1 := Lib.hid hl1
          clear hl1
          go_wp2_with fail
          refine (less_named HW.out.1 _ _ (2 * i + 2) (2 * i + 1) (by omega) (by omega) (by have := HYL.out; omega) (by have := HYL.out; omega) HL1.out).mono ?_
          rintro e w1 ⟨rfl, hb1⟩
          have hs1 := HS_below HW.out.1 hb1
          have hcw1 := HS_cell hs1
          have hk1 := keep_below HW.out.2.2 hb1
          have hB1 := below_then HW.out.2.1 hbw hb1
          have hz1 := Below_size hb1 (Nat.le_refl _)
          have HW1 := Lib.hid (And.intro hs1 (And.intro hB1 hk1))
          clear hs1 hk1 hB1
          cases hl2 : lessS (Hp.at_ z40 ys (2 * i + 2)) (Hp.at_ z40 ys i) with
          | false =>
            have HR := Lib.hid ((down_still c1 HKID.out hl2).symm.trans HD.out)
            have HL2 := Lib.hid hl2
            clear hl2
            go_wp2_with fail
            refine (less_named HW1.out.1 _ _ (2 * i + 2) i (by omega) (by omega) (by have := HYL.out; omega) (by have := HYL.out; omega) HL2.out).mono ?_
            rintro e w2 ⟨rfl, hb2⟩
            have hs2 := HS_below HW1.out.1 hb2
            have hcw2 := HS_cell hs2
            have hk2 := keep_below HW1.out.2.2 hb2
            have hB2 := below_then HW1.out.2.1 (by omega) hb2
            have hz2 := Below_size hb2 (Nat.le_refl _)
            have HW2 := Lib.hid (And.intro hs2 (And.intro hB2 hk2))
            clear hs2 hk2 hB2
            go_wp2
            go_ret
            exact ⟨_, rfl, by unfold DownPost; rw [← HR.out]; exact HW2.out⟩
          | true =>
            have HR := Lib.hid ((down_go c1 HKID.out hl2).symm.trans HD.out)
            have HL2 := Lib.hid hl2
            clear hl2
            go_wp2_with fail
            refine (less_named HW1.out.1 _ _ (2 * i + 2) i (by omega) (by omega) (by have := HYL.out; omega) (by have := HYL.out; omega) HL2.out).mono ?_
            rintro e w2 ⟨rfl, hb2⟩
            have hs2 := HS_below HW1.out.1 hb2
            have hcw2 := HS_cell hs2
            have hk2 := keep_below HW1.out.2.2 hb2
            have hB2 := below_then HW1.out.2.1 (by omega) hb2
            have hz2 := Below_size hb2 (Nat.le_refl _)
            have HW2 := Lib.hid (And.intro hs2 (And.intro hB2 hk2))
            clear hs2 hk2 hB2
            go_wp2_with fail
            refine (swap_named HW2.out.1 HW2.out.2.1 _ _ i (2 * i + 2) (by omega) (by omega) (by have := HYL.out; omega) (by have := HYL.out; omega) (by omega)).mono ?_
            rintro e w3 ⟨rfl, hs3, hB3, hk3⟩
            have HW3 := Lib.hid (And.intro hs3 (And.intro hB3 (KeepBut.trans HW2.out.2.2 hk3 (.inl rfl))))
            clear hs3 hB3 hk3
            go_wp2
            go_roundg kq
            case measure => omega
            case rel => exact ⟨2 * i + 2, Hp.swp z40 ys i (2 * i + 2), by go_num, ⟨⟨by omega, by omega, by omega, by rw [Hp.swp_length]; exact HYL.out, HR.out⟩⟩, ⟨HW3.out⟩⟩
        | false =>
          have HKID := Lib.hid (kid_one c2 hl1)
          have HL1 := Lib.hid hl1
          clear hl1
          go_wp2_with fail
          refine (less_named HW.out.1 _ _ (2 * i + 2) (2 * i + 1) (by omega) (by omega) (by have := HYL.out; omega) (by have := HYL.out; omega) HL1.out).mono ?_
          rintro e w1 ⟨rfl, hb1⟩
          have hs1 := HS_below HW.out.1 hb1
          have hcw1 := HS_cell hs1
          have hk1 := keep_below HW.out.2.2 hb1
          have hB1 := below_then HW.out.2.1 hbw hb1
          have hz1 := Below_size hb1 (Nat.le_refl _)
          have HW1 := Lib.hid (And.intro hs1 (And.intro hB1 hk1))
          clear hs1 hk1 hB1
          cases hl2 : lessS (Hp.at_ z40 ys (2 * i + 1)) (Hp.at_ z40 ys i) with
          | false =>
            have HR := Lib.hid ((down_still c1 HKID.out hl2).symm.trans HD.out)
            have HL2 := Lib.hid hl2
            clear hl2
            go_wp2_with fail
            refine (less_named HW1.out.1 _ _ (2 * i + 1) i (by omega) (by omega) (by have := HYL.out; omega) (by have := HYL.out; omega) HL2.out).mono ?_
            rintro e w2 ⟨rfl, hb2⟩
            have hs2 := HS_below HW1.out.1 hb2
            have hcw2 := HS_cell hs2
            have hk2 := keep_below HW1.out.2.2 hb2
            have hB2 := below_then HW1.out.2.1 (by omega) hb2
            have hz2 := Below_size hb2 (Nat.le_refl _)
            have HW2 := Lib.hid (And.intro hs2 (And.intro hB2 hk2))
            clear hs2 hk2 hB2
            go_wp2
            go_ret
            exact ⟨_, rfl, by unfold DownPost; rw [← HR.out]; exact HW2.out⟩
          | true =>
            have HR := Lib.hid ((down_go c1 HKID.out hl2).symm.trans HD.out)
            have HL2 := Lib.hid hl2
            clear hl2
            go_wp2_with fail
            refine (less_named HW1.out.1 _ _ (2 * i + 1) i (by omega) (by omega) (by have := HYL.out; omega) (by have := HYL.out; omega) HL2.out).mono ?_
            rintro e w2 ⟨rfl, hb2⟩
            have hs2 := HS_below HW1.out.1 hb2
            have hcw2 := HS_cell hs2
            have hk2 := keep_below HW1.out.2.2 hb2
            have hB2 := below_then HW1.out.2.1 (by omega) hb2
            have hz2 := Below_size hb2 (Nat.le_refl _)
            have HW2 := Lib.hid (And.intro hs2 (And.intro hB2 hk2))
            clear hs2 hk2 hB2
            go_wp2_with fail
            refine (swap_named HW2.out.1 HW2.out.2.1 _ _ i (2 * i + 1) (by omega) (by omega) (by have := HYL.out; omega) (by have := HYL.out; omega) (by omega)).mono ?_
            rintro e w3 ⟨rfl, hs3, hB3, hk3⟩
            have HW3 := Lib.hid (And.intro hs3 (And.intro hB3 (KeepBut.trans HW2.out.2.2 hk3 (.inl rfl))))
            clear hs3 hB3 hk3
            go_wp2
            go_roundg kq
            case measure => omega
            case rel => exact ⟨2 * i + 1, Hp.swp z40 ys i (2 * i + 1), by go_num, ⟨⟨by omega, by omega, by omega, by rw [Hp.swp_length]; exact HYL.out, HR.out⟩⟩, ⟨HW3.out⟩⟩
      · have HKID := Lib.hid (kid_alone (ys := ys) c2)
        cases hl2 : lessS (Hp.at_ z40 ys (2 * i + 1)) (Hp.at_ z40 ys i) with
        | false =>
          have HR := Lib.hid ((down_still c1 HKID.out hl2).symm.trans HD.out)
          have HL2 := Lib.hid hl2
          clear hl2
          go_wp2_with fail
          refine (less_named HW.out.1 _ _ (2 * i + 1) i (by omega) (by omega) (by have := HYL.out; omega) (by have := HYL.out; omega) HL2.out).mono ?_
          rintro e w2 ⟨rfl, hb2⟩
          have hs2 := HS_below HW.out.1 hb2
          have hcw2 := HS_cell hs2
          have hk2 := keep_below HW.out.2.2 hb2
          have hB2 := below_then HW.out.2.1 hbw hb2
          have hz2 := Below_size hb2 (Nat.le_refl _)
          have HW2 := Lib.hid (And.intro hs2 (And.intro hB2 hk2))
          clear hs2 hk2 hB2
          go_wp2
          go_ret
          exact ⟨_, rfl, by unfold DownPost; rw [← HR.out]; exact HW2.out⟩
        | true =>
          have HR := Lib.hid ((down_go c1 HKID.out hl2).symm.trans HD.out)
          have HL2 := Lib.hid hl2
          clear hl2
          go_wp2_with fail
          refine (less_named HW.out.1 _ _ (2 * i + 1) i (by omega) (by omega) (by have := HYL.out; omega) (by have := HYL.out; omega) HL2.out).mono ?_
          rintro e w2 ⟨rfl, hb2⟩
          have hs2 := HS_below HW.out.1 hb2
          have hcw2 := HS_cell hs2
          have hk2 := keep_below HW.out.2.2 hb2
          have hB2 := below_then HW.out.2.1 hbw hb2
          have hz2 := Below_size hb2 (Nat.le_refl _)
          have HW2 := Lib.hid (And.intro hs2 (And.intro hB2 hk2))
          clear hs2 hk2 hB2
          go_wp2_with fail
          refine (swap_named HW2.out.1 HW2.out.2.1 _ _ i (2 * i + 1) (by omega) (by omega) (by have := HYL.out; omega) (by have := HYL.out; omega) (by omega)).mono ?_
          rintro e w3 ⟨rfl, hs3, hB3, hk3⟩
          have HW3 := Lib.hid (And.intro hs3 (And.intro hB3 (KeepBut.trans HW2.out.2.2 hk3 (.inl rfl))))
          clear hs3 hB3 hk3
          go_wp2
          go_roundg kq
          case measure => omega
          case rel => exact ⟨2 * i + 1, Hp.swp z40 ys i (2 * i + 1), by go_num, ⟨⟨by omega, by omega, by omega, by rw [Hp.swp_length]; exact HYL.out, HR.out⟩⟩, ⟨HW3.out⟩⟩
end Go.Proofs.Ytmiahabiabcohaa.PAll
