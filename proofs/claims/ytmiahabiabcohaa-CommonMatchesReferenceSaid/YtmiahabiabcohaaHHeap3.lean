import Derived.Test.YtmiahabiabcohaaHHeap2
import Derived.Outline
namespace Go.Proofs.Ytmiahabiabcohaa.PAll
open Go.RowKit Go.Proofs.YtmiahabiabcohaaW.PrintWords Go.Proofs.YtmiahabiabcohaaW.PrintLast Go.Proofs.YtmiahabiabcohaaW.PrintMore
set_option linter.unusedVariables false
set_option linter.unusedSimpArgs false

def InitPost (w0 w : World) (base g : Nat) (v : Value) (xs : List S40) (w' : World) : Prop := HS w' base g v (Hp.init z40 lessS xs) ∧ Below base w0 w' ∧ KeepBut w w' g v.ownBlock

theorem down_named {w0 W : World} {base g : Nat} {v : Value} {xs : List S40} (hs : HS W base g v xs) (hB : Below base w0 W) (i n : Int) (a m : Nat) (ha : i = a) (hm : n = m) (hal : a < xs.length) (ham : a ≤ m) (hml : m ≤ xs.length) (hbs : base ≤ W.heap.size) (hl : (xs.length : Int) ≤ 1099511627776) :
    Calls Try.prog 23 #[.iface 45 (.pointer (some ⟨g, 0, none⟩)), .int .i64 i, .int .i64 n] W (DownEnd w0 W base g m v xs a) := by
  subst ha; subst hm
  have := down_calls w0 W base g v xs (a : Int) (m : Int) hs hB hbs (Int.natCast_nonneg _) (by omega) (by omega) (by omega) hl
  simpa only [Int.toNat_natCast] using this

set_option maxHeartbeats 2000000 in
theorem init_calls (w0 w : World) (base g : Nat) (v : Value) (xs : List S40) (hs : HS w base g v xs) (hB : Below base w0 w) (hbs : base ≤ w.heap.size) (hl : (xs.length : Int) ≤ 1099511627776) :
    Calls Try.prog 16 #[.iface 45 (.pointer (some ⟨g, 0, none⟩))] w fun e w' => e = .returned (.tuple #[]) ∧ InitPost w0 w base g v xs w' := by
  obtain ⟨A, c, rfl⟩ := Kd.R_slice hs.2
  have hlen := meth_Len g (.slice A xs.length c)
  have hcell := HS_cell hs
  have HS0 := Lib.hid hs
  have HB0 := Lib.hid hB
  clear hs hB
  go_enter Try.func16, Try.ntmps16
  go_wp2_with fail
  refine (len_calls A xs.length c w (by omega)).mono ?_
  rintro e w1 ⟨rfl, rfl⟩
  have hdiv : ((xs.length : Int) / 2 - 1) = ((xs.length / 2 : Nat) : Int) - 1 := by omega
  have HDIV := Lib.hid hdiv
  clear hdiv
  go_wp2_with fail
  go_loopg [3] (xs.length / 2) (fun kq v3 w' => ∃ (q : Int) (ys : List S40), v3 = .int .i64 q ∧ Aside0 (q = (kq : Int) - 1 ∧ kq ≤ xs.length / 2 ∧ ys.length = xs.length ∧ Hp.build z40 lessS xs.length kq ys = Hp.init z40 lessS xs) ∧ Aside0 (HS w' base g (.slice A xs.length c) ys ∧ Below base w0 w' ∧ KeepBut w w' g (Value.slice A xs.length c).ownBlock))
  case atStart => exact ⟨_, xs, rfl, ⟨⟨HDIV.out, Nat.le_refl _, rfl, rfl⟩⟩, ⟨⟨HS0.out, HB0.out, KeepBut.refl _ _ _⟩⟩⟩
  case round =>
    obtain ⟨q, ys, rfl, HA, HW⟩ := hrel
    cases gk with
    | zero =>
      have hq : q < 0 := by have := HA.out.1; omega
      have HD := Lib.hid HA.out.2.2.2
      clear HA
      go_wp2
      go_end0
      exact ⟨rfl, by unfold InitPost; rw [← HD.out]; exact HW.out⟩
    | succ k =>
      obtain ⟨hq, hk, hyl, hd⟩ := HA.out
      clear HA
      have hq0 : 0 ≤ q := by omega
      have hqk : q ≤ 549755813888 := by omega
      have HQ := Lib.hid (show q = (k : Int) by omega)
      have HYL := Lib.hid hyl
      have HD := Lib.hid hd
      clear hq hyl hd
      have hbw : base ≤ wr.heap.size := by have := HW.out.2.2.1; omega
      go_wp2_with fail
      refine (down_named HW.out.1 HW.out.2.1 q _ k xs.length HQ.out rfl (by have := HYL.out; omega) (by omega) (by rw [HYL.out]; exact Nat.le_refl _) hbw (by rw [HYL.out]; exact hl)).mono ?_
      rintro e w1 ⟨r, rfl, hp⟩
      have HP := Lib.hid hp
      clear hp
      go_wp2
      go_roundg k
      case measure => omega
      case rel => exact ⟨q - 1, Hp.down z40 lessS xs.length (xs.length + 1) ys k, rfl, ⟨⟨by have := HQ.out; omega, by omega, by rw [Hp.down_length _ _ _ _ (by rw [HYL.out]; exact Nat.le_refl _) (by have := HYL.out; omega)]; exact HYL.out, HD.out⟩⟩, ⟨⟨HP.out.1, HP.out.2.1, KeepBut.trans HW.out.2.2 HP.out.2.2 (.inl rfl)⟩⟩⟩

def agg40 (x : S40) : Value := .agg #[.string x.f0, .int .i64 x.f1, .int .i64 x.f2, .int .i64 x.f3, .int .i64 x.f4]
def PopPost (w0 w : World) (base g : Nat) (A : Option Addr) (c : Nat) (xs : List S40) (w' : World) : Prop := HS w' base g (.slice A (xs.length - 1) c) (Hp.pop z40 lessS xs) ∧ Below base w0 w' ∧ KeepBut w w' g (Value.slice A xs.length c).ownBlock

theorem keep_none {w w1 : World} {g : Nat} {row : Option Nat} (h : KeepBut w w1 g none) : KeepBut w w1 g row := ⟨h.1, fun i hi hg _ => h.2 i hi hg (by simp)⟩
theorem popped_eq {xs : List S40} (hp : 0 < xs.length) : Hp.down z40 lessS (xs.length - 1) (xs.length - 1 + 1) (Hp.swp z40 xs 0 (xs.length - 1)) 0 = Hp.popped z40 lessS xs := by
  unfold Hp.popped
  rw [show xs.length - 1 + 1 = xs.length from by omega]

set_option maxHeartbeats 2000000 in
theorem pop_calls (w0 w : World) (base g : Nat) (A : Option Addr) (c : Nat) (xs : List S40) (hs : HS w base g (.slice A xs.length c) xs) (hB : Below base w0 w) (hbs : base ≤ w.heap.size) (hbg : base ≤ g) (hp : 0 < xs.length) (hl : (xs.length : Int) ≤ 1099511627776) :
    Calls Try.prog 19 #[.iface 45 (.pointer (some ⟨g, 0, none⟩))] w fun e w' => e = .returned (.iface 40 (agg40 (Hp.at_ z40 xs 0))) ∧ PopPost w0 w base g A c xs w' := by
  have hlen := meth_Len g (.slice A xs.length c)
  have hswap := meth_Swap g (.slice A xs.length c)
  have hpop := meth_Pop ⟨g, 0, none⟩
  have hcell := HS_cell hs
  have HS0 := Lib.hid hs
  have HB0 := Lib.hid hB
  have hne : xs ≠ [] := List.length_pos_iff.1 hp
  clear hs hB
  go_enter Try.func19, Try.ntmps19
  go_wp2_with fail
  refine (len_calls A xs.length c w (by omega)).mono ?_
  rintro e w1 ⟨rfl, rfl⟩
  go_wp2_with fail
  refine (swap_named HS0.out HB0.out _ _ 0 (xs.length - 1) (by omega) (by omega) (by omega) (by omega) hbs).mono ?_
  rintro e w1 ⟨rfl, hs1, hB1, hk1⟩
  have hb1 : base ≤ w1.heap.size := by have := hk1.1; omega
  have hl1 : (Hp.swp z40 xs 0 (xs.length - 1)).length = xs.length := Hp.swp_length _ _ _
  have hcell1 := HS_cell hs1
  have HW1 := Lib.hid (And.intro hs1 (And.intro hB1 hk1))
  have HL1 := Lib.hid hl1
  clear hs1 hB1 hk1 hl1
  go_wp2_with fail
  refine (down_named HW1.out.1 HW1.out.2.1 _ _ 0 (xs.length - 1) (by omega) (by omega) (by have := HL1.out; omega) (by omega) (by have := HL1.out; omega) hb1 (by rw [HL1.out]; exact hl)).mono ?_
  rintro e w2 ⟨r, rfl, hp2⟩
  have HP2 := Lib.hid hp2
  clear hp2
  have hb2 : base ≤ w2.heap.size := by have := HP2.out.2.2.1; omega
  have hyl : (Hp.popped z40 lessS xs).length = xs.length := Hp.popped_length xs hne
  have hs2 : HS w2 base g (.slice A xs.length c) (Hp.popped z40 lessS xs) := by
    have h := HP2.out.1
    rw [popped_eq hp] at h
    exact h
  have HYL := Lib.hid hyl
  have HS2 := Lib.hid hs2
  clear hyl hs2
  go_wp2_with fail
  refine (popm_calls w0 w2 base g A xs.length c (Hp.popped z40 lessS xs) HS2.out HP2.out.2.1 hb2 hbg (by rw [HYL.out]; exact hp)).mono ?_
  rintro e w3 ⟨rfl, hs3, hB3, hk3⟩
  rw [HYL.out, Hp.popped_last xs hne]
  have HW3 := Lib.hid (And.intro hs3 (And.intro hB3 hk3))
  clear hs3 hB3 hk3
  go_wp2
  go_ret
  refine ⟨rfl, ?_⟩
  obtain ⟨h1, h2, h3⟩ := HW3.out
  rw [HYL.out] at h1
  exact ⟨h1, h2, KeepBut.trans (KeepBut.trans HW1.out.2.2 HP2.out.2.2 (.inl rfl)) (keep_none h3) (.inl rfl)⟩
end Go.Proofs.Ytmiahabiabcohaa.PAll
