import Derived.Test.YthpjpkcfepmhkaaHR3
namespace Go.Proofs.Ythpjpkcfepmhkaa.PAll.R
open Go.RowKit Go.Proofs.YthpjpkcfepmhkaaW.PrintWords Go.Proofs.YthpjpkcfepmhkaaW.PrintLast Go.Proofs.YthpjpkcfepmhkaaW.PrintMore
set_option linter.unusedVariables false
set_option linter.unusedSimpArgs false

theorem down_named {w0 W : World} {base g : Nat} {rest : List Value} {v : Value} {xs : List Int} (hs : HS W base g rest v xs) (hB : Below base w0 W) (i n : Int) (a m : Nat) (ha : i = a) (hm : n = m) (hal : a < xs.length) (ham : a ≤ m) (hml : m ≤ xs.length) (hbs : base ≤ W.heap.size) (hl : (xs.length : Int) ≤ 1099511627776) :
    Calls Try.prog 62 #[.iface 73 (.pointer (some ⟨g, 0, none⟩)), .int .i64 i, .int .i64 n] W (DownEnd w0 W base g m rest v xs a) := by
  subst ha; subst hm
  have := down_calls w0 W base g rest v xs (a : Int) (m : Int) hs hB hbs (Int.natCast_nonneg _) (by omega) (by omega) (by omega) hl
  simpa only [Int.toNat_natCast] using this

theorem up_stop {k : Nat} {ys : List Int} : Hp.up (0 : Int) less (k + 1) ys 0 = ys := by simp [Hp.up]
theorem up_still {k j : Nat} {ys : List Int} (h : j ≠ 0) (hl : less (Hp.at_ (0 : Int) ys j) (Hp.at_ (0 : Int) ys ((j - 1) / 2)) = false) : Hp.up (0 : Int) less (k + 1) ys j = ys := by simp [Hp.up, h, hl]
theorem up_go {k j : Nat} {ys : List Int} (h : j ≠ 0) (hl : less (Hp.at_ (0 : Int) ys j) (Hp.at_ (0 : Int) ys ((j - 1) / 2)) = true) : Hp.up (0 : Int) less (k + 1) ys j = Hp.up (0 : Int) less k (Hp.swp (0 : Int) ys ((j - 1) / 2) j) ((j - 1) / 2) := by simp [Hp.up, h, hl]

def UpPost (w0 w : World) (base g : Nat) (rest : List Value) (v : Value) (xs : List Int) (j0 : Nat) (w' : World) : Prop := HS w' base g rest v (Hp.up (0 : Int) less (j0 + 1) xs j0) ∧ Below base w0 w' ∧ KeepBut w w' g v.ownBlock

set_option maxHeartbeats 8000000 in
theorem up_calls (w0 w : World) (base g : Nat) (rest : List Value) (v : Value) (xs : List Int) (q0 : Int) (j0 : Nat) (hq0 : q0 = j0) (hs : HS w base g rest v xs) (hB : Below base w0 w) (hbs : base ≤ w.heap.size) (hj : j0 < xs.length) (hl : (xs.length : Int) ≤ 1099511627776) :
    Calls Try.prog 61 #[.iface 73 (.pointer (some ⟨g, 0, none⟩)), .int .i64 q0] w fun e w' => e = .returned (.tuple #[]) ∧ UpPost w0 w base g rest v xs j0 w' := by
  subst hq0
  have HS0 := Lib.hid hs
  have HB0 := Lib.hid hB
  have hless := meth_Less g v
  have hswap := meth_Swap g v
  clear hs hB
  go_enter Try.func61, Try.ntmps61
  go_wp2
  go_loopg [1] (j0 + 1) (fun kq v1 w' => ∃ (j : Nat) (ys : List Int), v1 = .int .i64 j ∧ Aside0 (j < xs.length ∧ j < kq ∧ ys.length = xs.length ∧ Hp.up (0 : Int) less kq ys j = Hp.up (0 : Int) less (j0 + 1) xs j0) ∧ Aside0 (HS w' base g rest v ys ∧ Below base w0 w' ∧ KeepBut w w' g v.ownBlock))
  case atStart => exact ⟨j0, xs, rfl, ⟨by omega, by omega, rfl, rfl⟩, HS0.out, HB0.out, KeepBut.refl _ _ _⟩
  case round =>
    obtain ⟨j, ys, rfl, HA, HW⟩ := hrel
    obtain ⟨hjl, hk, hyl, hd⟩ := HA.out
    obtain ⟨hsy, hby, hky⟩ := HW.out
    clear HA HW
    obtain ⟨kq, rfl⟩ : ∃ kq, gk = kq + 1 := ⟨gk - 1, by omega⟩
    have hbw : base ≤ wr.heap.size := by have := hky.1; omega
    have hcw := HS_cell hsy
    by_cases c1 : j = 0
    · subst c1
      rw [up_stop] at hd
      have HR := Lib.hid hd
      have HW := Lib.hid (And.intro hsy (And.intro hby hky))
      clear hd hsy hby hky hyl
      have hz : Int.tdiv (((0 : Nat) : Int) - 1) 2 = 0 := by decide
      go_wp2
      go_end0
      exact ⟨rfl, by unfold UpPost; rw [← HR.out]; exact HW.out⟩
    · have HW := Lib.hid (And.intro hsy (And.intro hby hky))
      have HD := Lib.hid hd
      have HYL := Lib.hid hyl
      clear hd hsy hby hky hyl
      obtain ⟨i, hi⟩ : ∃ i : Nat, (j - 1) / 2 = i := ⟨_, rfl⟩
      have hiq : ((j : Int) - 1) / 2 = (i : Int) := by omega
      have hij : i < j := by omega
      have HI := Lib.hid hi
      have HIQ := Lib.hid hiq
      have hne : ((((j : Int) - 1) / 2) == (j : Int)) = false := beq_eq_false_iff_ne.2 (by omega)
      have hj1 : (0 : Int) ≤ (j : Int) - 1 := by omega
      clear hi hiq
      cases hl2 : less (Hp.at_ (0 : Int) ys j) (Hp.at_ (0 : Int) ys i) with
      | false =>
        have HR := Lib.hid ((up_still c1 (by rw [HI.out]; exact hl2)).symm.trans HD.out)
        have HL2 := Lib.hid hl2
        clear hl2
        go_wp2_with fail
        refine (less_named HW.out.1 _ _ j i (by omega) HIQ.out (by have := HYL.out; omega) (by have := HYL.out; omega) HL2.out).mono ?_
        rintro e w2 ⟨rfl, hb2⟩
        have hs2 := HS_below HW.out.1 hb2
        have hk2 := keep_below HW.out.2.2 hb2
        have hB2 := below_then HW.out.2.1 hbw hb2
        have HW2 := Lib.hid (And.intro hs2 (And.intro hB2 hk2))
        clear hs2 hk2 hB2
        go_wp2
        go_end0
        exact ⟨rfl, by unfold UpPost; rw [← HR.out]; exact HW2.out⟩
      | true =>
        have HR := Lib.hid ((up_go c1 (by rw [HI.out]; exact hl2)).symm.trans HD.out)
        have HL2 := Lib.hid hl2
        clear hl2
        go_wp2_with fail
        refine (less_named HW.out.1 _ _ j i (by omega) HIQ.out (by have := HYL.out; omega) (by have := HYL.out; omega) HL2.out).mono ?_
        rintro e w2 ⟨rfl, hb2⟩
        have hs2 := HS_below HW.out.1 hb2
        have hcw2 := HS_cell hs2
        have hk2 := keep_below HW.out.2.2 hb2
        have hB2 := below_then HW.out.2.1 hbw hb2
        have hz2 := Below_size hb2 (Nat.le_refl _)
        have HW2 := Lib.hid (And.intro hs2 (And.intro hB2 hk2))
        clear hs2 hk2 hB2
        go_wp2_with fail
        refine (swap_named HW2.out.1 HW2.out.2.1 _ _ i j HIQ.out (by omega) (by have := HYL.out; omega) (by have := HYL.out; omega) (by omega)).mono ?_
        rintro e w3 ⟨rfl, hs3, hB3, hk3⟩
        have HW3 := Lib.hid (And.intro hs3 (And.intro hB3 (KeepBut.trans HW2.out.2.2 hk3 (.inl rfl))))
        clear hs3 hB3 hk3
        go_wp2
        go_roundg kq
        case measure => omega
        case rel => exact ⟨i, Hp.swp (0 : Int) ys i j, by rw [HIQ.out], ⟨⟨by omega, by omega, by rw [Hp.swp_length]; exact HYL.out, by rw [← HR.out, HI.out]⟩⟩, ⟨HW3.out⟩⟩

theorem keep_moved {w w1 w2 : World} {g : Nat} {v v1 : Value} (h : KeepBut w w1 g v.ownBlock) (hm : Moved w v v1) (k : KeepBut w1 w2 g v1.ownBlock) : KeepBut w w2 g v.ownBlock :=
  h.trans k hm

set_option maxHeartbeats 4000000 in
theorem push_calls (w0 w : World) (base g : Nat) (rest : List Value) (v : Value) (xs : List Int) (x : Int) (hs : HS w base g rest v xs) (hB : Below base w0 w) (hbs : base ≤ w.heap.size) (hbg : base ≤ g) (hl : (xs.length : Int) < 1099511627776) :
    Calls Try.prog 41 #[.iface 73 (.pointer (some ⟨g, 0, none⟩)), .iface 3 (.int .i64 x)] w (PushEnd w0 w base g rest v (Hp.push (0 : Int) less xs x)) := by
  have hpush := meth_Push ⟨g, 0, none⟩
  have HS0 := Lib.hid hs
  have HB0 := Lib.hid hB
  clear hs hB
  go_enter Try.func41, Try.ntmps41
  go_wp2_with fail
  refine (pushm_calls w0 w base g rest v xs x HS0.out HB0.out hbs hbg (by omega)).mono ?_
  rintro e w1 ⟨rfl, A, c, hs1, hB1, hk1, hm1⟩
  have hb1 : base ≤ w1.heap.size := by have := hk1.1; omega
  have hlen := meth_Len g (.slice A (xs ++ [x]).length c)
  have hcell := HS_cell hs1
  have hxl : (xs ++ [x]).length = xs.length + 1 := by simp
  have HXL := Lib.hid hxl
  have HW1 := Lib.hid (And.intro hs1 (And.intro hB1 (And.intro hk1 hm1)))
  clear hs1 hB1 hk1 hm1 hxl
  have hl2 : ((xs ++ [x]).length : Int) ≤ 1099511627776 := by rw [HXL.out]; omega
  have hpe : Hp.up (0 : Int) less (xs.length + 1) (xs ++ [x]) xs.length = Hp.push (0 : Int) less xs x := rfl
  have HPE := Lib.hid hpe
  clear hpe
  generalize xs ++ [x] = ys at *
  go_wp2_with fail
  refine (len_calls A ys.length c w1 (by omega)).mono ?_
  rintro e w1' ⟨rfl, rfl⟩
  go_wp2_with fail
  refine (up_calls w0 w1 base g rest (.slice A ys.length c) ys _ xs.length (by rw [HXL.out]; omega) HW1.out.1 HW1.out.2.1 hb1 (by rw [HXL.out]; omega) hl2).mono ?_
  rintro e w2 ⟨rfl, hu⟩
  have HU := Lib.hid hu
  clear hu
  go_wp2
  go_end0
  obtain ⟨u1, u2, u3⟩ := HU.out
  rw [HPE.out] at u1
  have hlen2 : (Hp.push (0 : Int) less xs x).length = ys.length := by rw [Hp.push_length]; exact HXL.out.symm
  refine ⟨rfl, A, c, ?_, u2, keep_moved HW1.out.2.2.1 HW1.out.2.2.2 u3, ?_⟩
  · rw [hlen2]; exact u1
  · rw [hlen2]; exact HW1.out.2.2.2

def PopPost (w0 w : World) (base g : Nat) (rest : List Value) (A : Option Addr) (c : Nat) (xs : List Int) (w' : World) : Prop := HS w' base g rest (.slice A (xs.length - 1) c) (Hp.pop (0 : Int) less xs) ∧ Below base w0 w' ∧ KeepBut w w' g (Value.slice A xs.length c).ownBlock
theorem popped_eq {xs : List Int} (hp : 0 < xs.length) : Hp.down (0 : Int) less (xs.length - 1) (xs.length - 1 + 1) (Hp.swp (0 : Int) xs 0 (xs.length - 1)) 0 = Hp.popped (0 : Int) less xs := by
  unfold Hp.popped
  rw [show xs.length - 1 + 1 = xs.length from by omega]

set_option maxHeartbeats 2000000 in
theorem pop_calls (w0 w : World) (base g : Nat) (rest : List Value) (A : Option Addr) (c : Nat) (xs : List Int) (hs : HS w base g rest (.slice A xs.length c) xs) (hB : Below base w0 w) (hbs : base ≤ w.heap.size) (hbg : base ≤ g) (hp : 0 < xs.length) (hl : (xs.length : Int) ≤ 1099511627776) :
    Calls Try.prog 43 #[.iface 73 (.pointer (some ⟨g, 0, none⟩))] w fun e w' => e = .returned (.iface 3 (.int .i64 (Hp.at_ (0 : Int) xs 0))) ∧ PopPost w0 w base g rest A c xs w' := by
  have hlen := meth_Len g (.slice A xs.length c)
  have hswap := meth_Swap g (.slice A xs.length c)
  have hpop := meth_Pop ⟨g, 0, none⟩
  have hcell := HS_cell hs
  have HS0 := Lib.hid hs
  have HB0 := Lib.hid hB
  have hne : xs ≠ [] := List.length_pos_iff.1 hp
  clear hs hB
  go_enter Try.func43, Try.ntmps43
  go_wp2_with fail
  refine (len_calls A xs.length c w (by omega)).mono ?_
  rintro e w1 ⟨rfl, rfl⟩
  go_wp2_with fail
  refine (swap_named HS0.out HB0.out _ _ 0 (xs.length - 1) (by omega) (by omega) (by omega) (by omega) hbs).mono ?_
  rintro e w1 ⟨rfl, hs1, hB1, hk1⟩
  have hb1 : base ≤ w1.heap.size := by have := hk1.1; omega
  have hl1 : (Hp.swp (0 : Int) xs 0 (xs.length - 1)).length = xs.length := Hp.swp_length _ _ _
  have hcell1 := HS_cell hs1
  have HW1 := Lib.hid (And.intro hs1 (And.intro hB1 hk1))
  have HL1 := Lib.hid hl1
  clear hs1 hB1 hk1 hl1
  go_wp2_with fail
  refine (down_named HW1.out.1 HW1.out.2.1 _ _ 0 (xs.length - 1) (by omega) (by omega) (by have := HL1.out; omega) (by omega) (by have := HL1.out; omega) hb1 (by rw [HL1.out]; exact hl)).mono ?_
  rintro e w2 ⟨r, rfl, hp2⟩
  have HP2 := Lib.hid hp2
  clear hp2
  have hb2 : base ≤ w2.heap.size := by have := HP2.out.2.2.1; omega
  have hyl : (Hp.popped (0 : Int) less xs).length = xs.length := Hp.popped_length xs hne
  have hs2 : HS w2 base g rest (.slice A xs.length c) (Hp.popped (0 : Int) less xs) := by
    have h := HP2.out.1
    rw [popped_eq hp] at h
    exact h
  have HYL := Lib.hid hyl
  have HS2 := Lib.hid hs2
  clear hyl hs2
  go_wp2_with fail
  refine (popm_calls w0 w2 base g rest A xs.length c (Hp.popped (0 : Int) less xs) HS2.out HP2.out.2.1 hb2 hbg (by rw [HYL.out]; exact hp)).mono ?_
  rintro e w3 ⟨rfl, hs3, hB3, hk3⟩
  rw [HYL.out, Hp.popped_last xs hne]
  have HW3 := Lib.hid (And.intro hs3 (And.intro hB3 hk3))
  clear hs3 hB3 hk3
  go_wp2
  go_ret
  refine ⟨rfl, ?_⟩
  obtain ⟨h1, h2, h3⟩ := HW3.out
  rw [HYL.out] at h1
  exact ⟨h1, h2, KeepBut.trans (KeepBut.trans HW1.out.2.2 HP2.out.2.2 (.inl rfl)) (keep_none h3) (.inl rfl)⟩
end Go.Proofs.Ythpjpkcfepmhkaa.PAll.R
