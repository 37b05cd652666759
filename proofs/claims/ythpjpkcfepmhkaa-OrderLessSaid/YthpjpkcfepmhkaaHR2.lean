import Derived.Test.YthpjpkcfepmhkaaHR1
namespace Go.Proofs.Ythpjpkcfepmhkaa.PAll.R
open Go.RowKit Go.Proofs.YthpjpkcfepmhkaaW.PrintWords Go.Proofs.YthpjpkcfepmhkaaW.PrintLast Go.Proofs.YthpjpkcfepmhkaaW.PrintMore
set_option linter.unusedVariables false
set_option linter.unusedSimpArgs false

theorem infoE : (Try.prog.info? 3).map (fun i => (i.zero, i.size, i.bytes)) = some (some (.int .i64 0), 1, 8) := by kernel_rfl
theorem bind_eq_ (x : Sem Value) (f : Value → Sem (Nat × Value)) : Sem.bind x f = x >>= f := rfl
theorem pure_eq_ (x : Nat × Value) : Sem.pure x = pure x := rfl
theorem meth_Len0 (a : Addr) (w : World) : (method 234 73 (.pointer (some a)) "Len").run Try.prog w = (Sem.bind (loadVar 71 a) (fun v => Sem.pure ((42 : Nat), v))).run Try.prog w := by kernel_rfl
theorem meth_Len (g : Nat) (v : Value) (w : World) (h : w.cell? ⟨g, 0, none⟩ = some v) : (method 234 73 (.pointer (some ⟨g, 0, none⟩)) "Len").run Try.prog w = .ok (42, v) w := by
  rw [meth_Len0, bind_eq_]; simp only [pure_eq_, Sem.run_bind, Sem.run_pure]; go_simp
theorem meth_Less0 (a : Addr) (w : World) : (method 234 73 (.pointer (some a)) "Less").run Try.prog w = (Sem.bind (loadVar 71 a) (fun v => Sem.pure ((86 : Nat), v))).run Try.prog w := by kernel_rfl
theorem meth_Less (g : Nat) (v : Value) (w : World) (h : w.cell? ⟨g, 0, none⟩ = some v) : (method 234 73 (.pointer (some ⟨g, 0, none⟩)) "Less").run Try.prog w = .ok (86, v) w := by
  rw [meth_Less0, bind_eq_]; simp only [pure_eq_, Sem.run_bind, Sem.run_pure]; go_simp
theorem meth_Swap0 (a : Addr) (w : World) : (method 234 73 (.pointer (some a)) "Swap").run Try.prog w = (Sem.bind (loadVar 71 a) (fun v => Sem.pure ((87 : Nat), v))).run Try.prog w := by kernel_rfl
theorem meth_Swap (g : Nat) (v : Value) (w : World) (h : w.cell? ⟨g, 0, none⟩ = some v) : (method 234 73 (.pointer (some ⟨g, 0, none⟩)) "Swap").run Try.prog w = .ok (87, v) w := by
  rw [meth_Swap0, bind_eq_]; simp only [pure_eq_, Sem.run_bind, Sem.run_pure]; go_simp
theorem meth_Pop (a : Addr) (w : World) : (method 234 73 (.pointer (some a)) "Pop").run Try.prog w = .ok (88, .pointer (some a)) w := by kernel_rfl
theorem meth_Push (a : Addr) (w : World) : (method 234 73 (.pointer (some a)) "Push").run Try.prog w = .ok (89, .pointer (some a)) w := by kernel_rfl

set_option maxHeartbeats 1000000 in
theorem len_calls (A : Option Addr) (n c : Nat) (w : World) (hn : (n : Int) ≤ 9223372036854775807) :
    Calls Try.prog 42 #[.slice A n c] w fun e w' => e = .returned (.int .i64 n) ∧ w = w' := by
  go_enter Try.func42, Try.ntmps42
  go_wp2
  go_ret
  exact ⟨rfl, rfl⟩

set_option maxHeartbeats 1000000 in
theorem popm_calls (w0 w : World) (base g : Nat) (rest : List Value) (A : Option Addr) (n c : Nat) (xs : List Int) (hs : HS w base g rest (.slice A n c) xs) (hB : Below base w0 w) (hbs : base ≤ w.heap.size) (hbg : base ≤ g) (hn : 0 < xs.length) :
    Calls Try.prog 88 #[.pointer (some ⟨g, 0, none⟩)] w fun e w' => e = .returned (.iface 3 (.int .i64 (Hp.at_ (0 : Int) xs (xs.length - 1)))) ∧
      HS w' base g rest (.slice A (xs.length - 1) c) (xs.take (xs.length - 1)) ∧ Below base w0 w' ∧ KeepBut w w' g none := by
  obtain ⟨hg, hR⟩ := hs
  obtain ⟨hcell, hfz⟩ := cell0 hg
  obtain ⟨b, c', he, hbb, hbl, _⟩ := Kd.R_form hR hn
  injection he with he1 he2 he3
  subst he1; subst he2; subst he3
  obtain ⟨_, hnc, hC⟩ := Kd.R_reads' hR
  have hm := hC.2.1
  obtain ⟨h0, _⟩ := row_cell hR (xs.length - 1) (by omega)
  have hgl := blk_lt hg
  have hneq : g ≠ b := fun e => Kd.R_ne hR hg (by decide) (by rw [e]; rfl)
  have hT := Kd.R_take hR (m := xs.length - 1) (by omega)
  have hfin : HS (w.setCell ⟨g, 0, none⟩ (.slice (some ⟨b, 0, none⟩) (xs.length - 1) c)) base g rest (.slice (some ⟨b, 0, none⟩) (xs.length - 1) c) (xs.take (xs.length - 1)) ∧ Below base w0 (w.setCell ⟨g, 0, none⟩ (.slice (some ⟨b, 0, none⟩) (xs.length - 1) c)) ∧ KeepBut w (w.setCell ⟨g, 0, none⟩ (.slice (some ⟨b, 0, none⟩) (xs.length - 1) c)) g none :=
    ⟨⟨set0 hg _, Kd.R_set hT hg (by decide) 0 _⟩, hB.setCell hbg _, (KeepBut.refl w g none).set_ 0 _⟩
  have HF := Lib.hid hfin
  have hcut : ∀ W, (Instr.slice 71 (.slice (some ⟨b, 0, none⟩) xs.length c) none (some (.int .i64 ((xs.length : Int) - 1))) none).run Try.prog W = .ok (.slice (some ⟨b, 0, none⟩) (xs.length - 1) c) W := by
    intro W
    obtain ⟨i0, hi, _⟩ := Option.map_eq_some_iff.1 infoE
    have := cut_to (P := Try.prog) 71 3 .i64 Try.underlying71 hi (some ⟨b, 0, none⟩) xs.length c ((xs.length : Int) - 1) (by omega) (by omega) hnc W
    rw [this, show ((xs.length : Int) - 1).toNat = xs.length - 1 from by omega]
  clear hfin hT hR hg hB hC
  generalize Hp.at_ (0 : Int) xs (xs.length - 1) = x at *
  generalize xs.take (xs.length - 1) = ys at *
  generalize xs.length = n at *
  obtain ⟨m, rfl⟩ : ∃ m, n = m + 1 := ⟨n - 1, by omega⟩
  simp only [Nat.add_sub_cancel] at *
  have hix : ((m + 1 : Nat) : Int) - 1 = (m : Int) := by omega
  rw [hix] at hcut
  clear hix
  go_enter Try.func88, Try.ntmps88
  go_wp2
  go_ret
  exact ⟨rfl, HF.out⟩

def DownPost (w0 w : World) (base g n : Nat) (rest : List Value) (v : Value) (xs : List Int) (i0 : Nat) (w' : World) : Prop := HS w' base g rest v (Hp.down (0 : Int) less n (n + 1) xs i0) ∧ Below base w0 w' ∧ KeepBut w w' g v.ownBlock
def DownEnd (w0 w : World) (base g n : Nat) (rest : List Value) (v : Value) (xs : List Int) (i0 : Nat) (e : Ending) (w' : World) : Prop := ∃ r : Bool, e = .returned (.bool r) ∧ DownPost w0 w base g n rest v xs i0 w'

/-- One round of down, its three ways, each as a fact on what is left. -/
theorem down_stop {n kq i : Nat} {ys : List Int} (h : n ≤ 2 * i + 1) : Hp.down (0 : Int) less n (kq + 1) ys i = ys := by simp [Hp.down, h]
theorem down_still {n kq i j : Nat} {ys : List Int} (h : ¬ n ≤ 2 * i + 1) (hj : Hp.kid (0 : Int) less n ys i = j) (hl : less (Hp.at_ (0 : Int) ys j) (Hp.at_ (0 : Int) ys i) = false) : Hp.down (0 : Int) less n (kq + 1) ys i = ys := by simp [Hp.down, h, hj, hl]
theorem down_go {n kq i j : Nat} {ys : List Int} (h : ¬ n ≤ 2 * i + 1) (hj : Hp.kid (0 : Int) less n ys i = j) (hl : less (Hp.at_ (0 : Int) ys j) (Hp.at_ (0 : Int) ys i) = true) : Hp.down (0 : Int) less n (kq + 1) ys i = Hp.down (0 : Int) less n kq (Hp.swp (0 : Int) ys i j) j := by simp [Hp.down, h, hj, hl]
theorem kid_two {n i : Nat} {ys : List Int} (h : 2 * i + 2 < n) (hl : less (Hp.at_ (0 : Int) ys (2 * i + 2)) (Hp.at_ (0 : Int) ys (2 * i + 1)) = true) : Hp.kid (0 : Int) less n ys i = 2 * i + 2 := by simp [Hp.kid, h, hl]
theorem kid_one {n i : Nat} {ys : List Int} (h : 2 * i + 2 < n) (hl : less (Hp.at_ (0 : Int) ys (2 * i + 2)) (Hp.at_ (0 : Int) ys (2 * i + 1)) = false) : Hp.kid (0 : Int) less n ys i = 2 * i + 1 := by simp [Hp.kid, hl]
theorem kid_alone {n i : Nat} {ys : List Int} (h : ¬ 2 * i + 2 < n) : Hp.kid (0 : Int) less n ys i = 2 * i + 1 := by simp [Hp.kid, h]
/-- less as the walk asks it: the answer by name. -/
theorem less_named {W : World} {base g : Nat} {rest : List Value} {v : Value} {xs : List Int} (hs : HS W base g rest v xs) (i k : Int) (a c : Nat) (ha : i = a) (hc : k = c) (hal : a < xs.length) (hcl : c < xs.length) {b : Bool} (hb : less (Hp.at_ (0 : Int) xs a) (Hp.at_ (0 : Int) xs c) = b) :
    Calls Try.prog 86 #[v, .int .i64 i, .int .i64 k] W fun e w' => e = .returned (.bool b) ∧ Below W.heap.size W w' := by
  subst ha; subst hc; subst hb
  exact less_calls W base (fun _ => True) v xs a c hs.2 (Int.natCast_nonneg _) (by omega) (Int.natCast_nonneg _) (by omega)

theorem swap_named {w0 W : World} {base g : Nat} {rest : List Value} {v : Value} {xs : List Int} (hs : HS W base g rest v xs) (hB : Below base w0 W) (i k : Int) (a c : Nat) (ha : i = a) (hc : k = c) (hal : a < xs.length) (hcl : c < xs.length) (hbs : base ≤ W.heap.size) :
    Calls Try.prog 87 #[v, .int .i64 i, .int .i64 k] W fun e w' => e = .returned (.tuple #[]) ∧ HS w' base g rest v (Hp.swp (0 : Int) xs a c) ∧ Below base w0 w' ∧ KeepBut W w' g v.ownBlock := by
  subst ha; subst hc
  exact swap_calls w0 W base g rest v xs a c hs hB hbs (Int.natCast_nonneg _) (by omega) (Int.natCast_nonneg _) (by omega)

set_option maxHeartbeats 8000000 in
theorem down_calls (w0 w : World) (base g : Nat) (rest : List Value) (v : Value) (xs : List Int) (i0 n : Int) (hs : HS w base g rest v xs) (hB : Below base w0 w) (hbs : base ≤ w.heap.size) (h0 : 0 ≤ i0) (hi : i0 < xs.length) (hin : i0 ≤ n) (hn : n ≤ xs.length) (hl : (xs.length : Int) ≤ 1099511627776) :
    Calls Try.prog 62 #[.iface 73 (.pointer (some ⟨g, 0, none⟩)), .int .i64 i0, .int .i64 n] w (DownEnd w0 w base g n.toNat rest v xs i0.toNat) := by
  obtain ⟨i0, rfl⟩ := Int.eq_ofNat_of_zero_le h0
  obtain ⟨n, rfl⟩ := Int.eq_ofNat_of_zero_le (show 0 ≤ n by omega)
  simp only [Int.toNat_natCast]
  have HS0 := Lib.hid hs
  have HB0 := Lib.hid hB
  have hless := meth_Less g v
  have hswap := meth_Swap g v
  clear hs hB
  go_enter Try.func62, Try.ntmps62
  go_wp2
  go_loopg [7] (n + 1) (fun kq v7 w' => ∃ (i : Nat) (ys : List Int), v7 = .int .i64 i ∧ Aside0 (i < xs.length ∧ i ≤ n ∧ n < kq + i ∧ ys.length = xs.length ∧ Hp.down (0 : Int) less n kq ys i = Hp.down (0 : Int) less n (n + 1) xs i0) ∧ Aside0 (HS w' base g rest v ys ∧ Below base w0 w' ∧ KeepBut w w' g v.ownBlock))
  case atStart => exact ⟨i0, xs, rfl, ⟨by omega, by omega, by omega, rfl, rfl⟩, HS0.out, HB0.out, KeepBut.refl _ _ _⟩
  case round =>
    obtain ⟨i, ys, rfl, HA, HW⟩ := hrel
    obtain ⟨hil, hin', hk, hyl, hd⟩ := HA.out
    obtain ⟨hsy, hby, hky⟩ := HW.out
    clear HA HW
    obtain ⟨kq, rfl⟩ : ∃ kq, gk = kq + 1 := ⟨gk - 1, by omega⟩
    have hbw : base ≤ wr.heap.size := by have := hky.1; omega
    have hcw := HS_cell hsy
    by_cases c1 : n ≤ 2 * i + 1
    · rw [down_stop c1] at hd
      have HD := Lib.hid hd
      have HW := Lib.hid (And.intro hsy (And.intro hby hky))
      clear hd hsy hby hky hyl
      go_wp2
      go_ret
      exact ⟨_, rfl, by unfold DownPost; rw [← HD.out]; exact HW.out⟩
    · have HW := Lib.hid (And.intro hsy (And.intro hby hky))
      have HD := Lib.hid hd
      have HYL := Lib.hid hyl
      clear hd hsy hby hky hyl
      by_cases c2 : 2 * i + 2 < n
      · cases hl1 : less (Hp.at_ (0 : Int) ys (2 * i + 2)) (Hp.at_ (0 : Int) ys (2 * i + 1)) with
        | true =>
          have HKID := Lib.hid (kid_two c2 hl1)
          have HL1 := Lib.hid hl1
          clear hl1
          go_wp2_with fail
          refine (less_named HW.out.1 _ _ (2 * i + 2) (2 * i + 1) (by omega) (by omega) (by have := HYL.out; omega) (by have := HYL.out; omega) HL1.out).mono ?_
          rintro e w1 ⟨rfl, hb1⟩
          have hs1 := HS_below HW.out.1 hb1
          have hcw1 := HS_cell hs1
          have hk1 := keep_below HW.out.2.2 hb1
          have hB1 := below_then HW.out.2.1 hbw hb1
          have hz1 := Below_size hb1 (Nat.le_refl _)
          have HW1 := Lib.hid (And.intro hs1 (And.intro hB1 hk1))
          clear hs1 hk1 hB1
          cases hl2 : less (Hp.at_ (0 : Int) ys (2 * i + 2)) (Hp.at_ (0 : Int) ys i) with
          | false =>
            have HR := Lib.hid ((down_still c1 HKID.out hl2).symm.trans HD.out)
            have HL2 := Lib.hid hl2
            clear hl2
            go_wp2_with fail
            refine (less_named HW1.out.1 _ _ (2 * i + 2) i (by omega) (by omega) (by have := HYL.out; omega) (by have := HYL.out; omega) HL2.out).mono ?_
            rintro e w2 ⟨rfl, hb2⟩
            have hs2 := HS_below HW1.out.1 hb2
            have hcw2 := HS_cell hs2
            have hk2 := keep_below HW1.out.2.2 hb2
            have hB2 := below_then HW1.out.2.1 (by omega) hb2
            have hz2 := Below_size hb2 (Nat.le_refl _)
            have HW2 := Lib.hid (And.intro hs2 (And.intro hB2 hk2))
            clear hs2 hk2 hB2
            go_wp2
            go_ret
            exact ⟨_, rfl, by unfold DownPost; rw [← HR.out]; exact HW2.out⟩
          | true =>
            have HR := Lib.hid ((down_go c1 HKID.out hl2).symm.trans HD.out)
            have HL2 := Lib.hid hl2
            clear hl2
            go_wp2_with fail
            refine (less_named HW1.out.1 _ _ (2 * i + 2) i (by omega) (by omega) (by have := HYL.out; omega) (by have := HYL.out; omega) HL2.out).mono ?_
            rintro e w2 ⟨rfl, hb2⟩
            have hs2 := HS_below HW1.out.1 hb2
            have hcw2 := HS_cell hs2
            have hk2 := keep_below HW1.out.2.2 hb2
            have hB2 := below_then HW1.out.2.1 (by omega) hb2
            have hz2 := Below_size hb2 (Nat.le_refl _)
            have HW2 := Lib.hid (And.intro hs2 (And.intro hB2 hk2))
            clear hs2 hk2 hB2
            go_wp2_with fail
            refine (swap_named HW2.out.1 HW2.out.2.1 _ _ i (2 * i + 2) (by omega) (by omega) (by have := HYL.out; omega) (by have := HYL.out; omega) (by omega)).mono ?_
            rintro e w3 ⟨rfl, hs3, hB3, hk3⟩
            have HW3 := Lib.hid (And.intro hs3 (And.intro hB3 (KeepBut.trans HW2.out.2.2 hk3 (.inl rfl))))
            clear hs3 hB3 hk3
            go_wp2
            go_roundg kq
            case measure => omega
            case rel => exact ⟨2 * i + 2, Hp.swp (0 : Int) ys i (2 * i + 2), by go_num, ⟨⟨by omega, by omega, by omega, by rw [Hp.swp_length]; exact HYL.out, HR.out⟩⟩, ⟨HW3.out⟩⟩
        | false =>
          have HKID := Lib.hid (kid_one c2 hl1)
          have HL1 := Lib.hid hl1
          clear hl1
          go_wp2_with fail
          refine (less_named HW.out.1 _ _ (2 * i + 2) (2 * i + 1) (by omega) (by omega) (by have := HYL.out; omega) (by have := HYL.out; omega) HL1.out).mono ?_
          rintro e w1 ⟨rfl, hb1⟩
          have hs1 := HS_below HW.out.1 hb1
          have hcw1 := HS_cell hs1
          have hk1 := keep_below HW.out.2.2 hb1
          have hB1 := below_then HW.out.2.1 hbw hb1
          have hz1 := Below_size hb1 (Nat.le_refl _)
          have HW1 := Lib.hid (And.intro hs1 (And.intro hB1 hk1))
          clear hs1 hk1 hB1
          cases hl2 : less (Hp.at_ (0 : Int) ys (2 * i + 1)) (Hp.at_ (0 : Int) ys i) with
          | false =>
            have HR := Lib.hid ((down_still c1 HKID.out hl2).symm.trans HD.out)
            have HL2 := Lib.hid hl2
            clear hl2
            go_wp2_with fail
            refine (less_named HW1.out.1 _ _ (2 * i + 1) i (by omega) (by omega) (by have := HYL.out; omega) (by have := HYL.out; omega) HL2.out).mono ?_
            rintro e w2 ⟨rfl, hb2⟩
            have hs2 := HS_below HW1.out.1 hb2
            have hcw2 := HS_cell hs2
            have hk2 := keep_below HW1.out.2.2 hb2
            have hB2 := below_then HW1.out.2.1 (by omega) hb2
            have hz2 := Below_size hb2 (Nat.le_refl _)
            have HW2 := Lib.hid (And.intro hs2 (And.intro hB2 hk2))
            clear hs2 hk2 hB2
            go_wp2
            go_ret
            exact ⟨_, rfl, by unfold DownPost; rw [← HR.out]; exact HW2.out⟩
          | true =>
            have HR := Lib.hid ((down_go c1 HKID.out hl2).symm.trans HD.out)
            have HL2 := Lib.hid hl2
            clear hl2
            go_wp2_with fail
            refine (less_named HW1.out.1 _ _ (2 * i + 1) i (by omega) (by omega) (by have := HYL.out; omega) (by have := HYL.out; omega) HL2.out).mono ?_
            rintro e w2 ⟨rfl, hb2⟩
            have hs2 := HS_below HW1.out.1 hb2
            have hcw2 := HS_cell hs2
            have hk2 := keep_below HW1.out.2.2 hb2
            have hB2 := below_then HW1.out.2.1 (by omega) hb2
            have hz2 := Below_size hb2 (Nat.le_refl _)
            have HW2 := Lib.hid (And.intro hs2 (And.intro hB2 hk2))
            clear hs2 hk2 hB2
            go_wp2_with fail
            refine (swap_named HW2.out.1 HW2.out.2.1 _ _ i (2 * i + 1) (by omega) (by omega) (by have := HYL.out; omega) (by have := HYL.out; omega) (by omega)).mono ?_
            rintro e w3 ⟨rfl, hs3, hB3, hk3⟩
            have HW3 := Lib.hid (And.intro hs3 (And.intro hB3 (KeepBut.trans HW2.out.2.2 hk3 (.inl rfl))))
            clear hs3 hB3 hk3
            go_wp2
            go_roundg kq
            case measure => omega
            case rel => exact ⟨2 * i + 1, Hp.swp (0 : Int) ys i (2 * i + 1), by go_num, ⟨⟨by omega, by omega, by omega, by rw [Hp.swp_length]; exact HYL.out, HR.out⟩⟩, ⟨HW3.out⟩⟩
      · have HKID := Lib.hid (kid_alone (ys := ys) c2)
        cases hl2 : less (Hp.at_ (0 : Int) ys (2 * i + 1)) (Hp.at_ (0 : Int) ys i) with
        | false =>
          have HR := Lib.hid ((down_still c1 HKID.out hl2).symm.trans HD.out)
          have HL2 := Lib.hid hl2
          clear hl2
          go_wp2_with fail
          refine (less_named HW.out.1 _ _ (2 * i + 1) i (by omega) (by omega) (by have := HYL.out; omega) (by have := HYL.out; omega) HL2.out).mono ?_
          rintro e w2 ⟨rfl, hb2⟩
          have hs2 := HS_below HW.out.1 hb2
          have hcw2 := HS_cell hs2
          have hk2 := keep_below HW.out.2.2 hb2
          have hB2 := below_then HW.out.2.1 hbw hb2
          have hz2 := Below_size hb2 (Nat.le_refl _)
          have HW2 := Lib.hid (And.intro hs2 (And.intro hB2 hk2))
          clear hs2 hk2 hB2
          go_wp2
          go_ret
          exact ⟨_, rfl, by unfold DownPost; rw [← HR.out]; exact HW2.out⟩
        | true =>
          have HR := Lib.hid ((down_go c1 HKID.out hl2).symm.trans HD.out)
          have HL2 := Lib.hid hl2
          clear hl2
          go_wp2_with fail
          refine (less_named HW.out.1 _ _ (2 * i + 1) i (by omega) (by omega) (by have := HYL.out; omega) (by have := HYL.out; omega) HL2.out).mono ?_
          rintro e w2 ⟨rfl, hb2⟩
          have hs2 := HS_below HW.out.1 hb2
          have hcw2 := HS_cell hs2
          have hk2 := keep_below HW.out.2.2 hb2
          have hB2 := below_then HW.out.2.1 hbw hb2
          have hz2 := Below_size hb2 (Nat.le_refl _)
          have HW2 := Lib.hid (And.intro hs2 (And.intro hB2 hk2))
          clear hs2 hk2 hB2
          go_wp2_with fail
          refine (swap_named HW2.out.1 HW2.out.2.1 _ _ i (2 * i + 1) (by omega) (by omega) (by have := HYL.out; omega) (by have := HYL.out; omega) (by omega)).mono ?_
          rintro e w3 ⟨rfl, hs3, hB3, hk3⟩
          have HW3 := Lib.hid (And.intro hs3 (And.intro hB3 (KeepBut.trans HW2.out.2.2 hk3 (.inl rfl))))
          clear hs3 hB3 hk3
          go_wp2
          go_roundg kq
          case measure => omega
          case rel => exact ⟨2 * i + 1, Hp.swp (0 : Int) ys i (2 * i + 1), by go_num, ⟨⟨by omega, by omega, by omega, by rw [Hp.swp_length]; exact HYL.out, HR.out⟩⟩, ⟨HW3.out⟩⟩
end Go.Proofs.Ythpjpkcfepmhkaa.PAll.R
