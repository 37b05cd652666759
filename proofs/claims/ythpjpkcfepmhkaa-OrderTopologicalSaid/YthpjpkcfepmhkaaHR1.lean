import Derived.Test.YthpjpkcfepmhkaaPAllx0
import Derived.Test.YthpjpkcfepmhkaaHeap
import Derived.WalkSpells
import Derived.WalkLawsBesides
import Derived.Lib.Hide
import Derived.Deep.RegionLaw

namespace Go.Proofs.Ythpjpkcfepmhkaa.PAll.R
open Go.RowKit Go.Proofs.YthpjpkcfepmhkaaW.PrintWords Go.Proofs.YthpjpkcfepmhkaaW.PrintLast Go.Proofs.YthpjpkcfepmhkaaW.PrintMore
set_option linter.unusedVariables false
set_option linter.unusedSimpArgs false

def less (a b : Int) : Bool := decide (a < b)

/-- The variable at the head of block g holds v, a row of one's own that reads as xs; behind it in the block: rest. -/
def HS (w : World) (base g : Nat) (rest : List Value) (v : Value) (xs : List Int) : Prop := w.heap[g]? = some (.cells (v :: rest).toArray 71 (0, 0)) ∧ Kd.R (Kd.int .i64) 3 w base (fun _ => True) v xs

theorem row_cell {w : World} {base b c n : Nat} {ok : Nat → Prop} {xs : List Int} (h : Kd.R (Kd.int .i64) 3 w base ok (.slice (some ⟨b, 0, none⟩) n c) xs) (i : Nat) (hi : i < xs.length) :
    w.cell? ⟨b, i, none⟩ = some (.int .i64 (Hp.at_ (0 : Int) xs i)) ∧ w.frozen? ⟨b, i, none⟩ = false := by
  obtain ⟨hn, _, _⟩ := Kd.R_reads' h
  subst hn
  have := Kd.R_cell (enc := (Value.int .i64)) (h1 := fun _ => rfl) (0 : Int) h (i : Int) (Int.natCast_nonneg _) (by omega)
  simp only [Int.toNat_natCast] at this
  exact this

set_option maxHeartbeats 1000000 in
theorem less_calls (w : World) (base : Nat) (ok : Nat → Prop) (v : Value) (xs : List Int) (i k : Int) (hR : Kd.R (Kd.int .i64) 3 w base ok v xs) (hi0 : 0 ≤ i) (hi : i < xs.length) (hk0 : 0 ≤ k) (hk : k < xs.length) :
    Calls Try.prog 86 #[v, .int .i64 i, .int .i64 k] w fun e w' => e = .returned (.bool (less (Hp.at_ (0 : Int) xs i.toNat) (Hp.at_ (0 : Int) xs k.toNat))) ∧ Below w.heap.size w w' := by
  obtain ⟨b, c, rfl, hbb, hbl, _⟩ := Kd.R_form hR (by omega)
  obtain ⟨i, rfl⟩ := Int.eq_ofNat_of_zero_le hi0
  obtain ⟨k, rfl⟩ := Int.eq_ofNat_of_zero_le hk0
  simp only [Int.toNat_natCast]
  obtain ⟨h0, _⟩ := row_cell hR i (by omega)
  obtain ⟨g0, _⟩ := row_cell hR k (by omega)
  clear hR
  generalize Hp.at_ (0 : Int) xs i = x at *
  generalize Hp.at_ (0 : Int) xs k = y at *
  generalize xs.length = n at *
  unfold less
  go_enter Try.func86, Try.ntmps86
  go_wp2
  go_region
  all_goals go_wp2
  all_goals (go_ret; exact ⟨rfl, by repeat (first | exact Below.refl _ _ | apply below_drew | apply below_alloc)⟩)

/-- Element i of a row of one's own is written. -/
theorem row_set {w : World} {base b c n : Nat} {ok : Nat → Prop} {xs : List Int} (h : Kd.R (Kd.int .i64) 3 w base ok (.slice (some ⟨b, 0, none⟩) n c) xs) (i : Nat) (x : Int) :
    Kd.R (Kd.int .i64) 3 (w.setCell ⟨b, i, none⟩ (.int .i64 x)) base ok (.slice (some ⟨b, 0, none⟩) n c) (xs.set i x) ∧ w.grownBy (w.setCell ⟨b, i, none⟩ (.int .i64 x)) (some b) := by
  obtain ⟨hn, _, _⟩ := Kd.R_reads' h
  subst hn
  have := Kd.R_put (enc := (Value.int .i64)) (h1 := fun _ => rfl) h (i : Int) x
  simp only [Int.toNat_natCast] at this
  exact this
theorem two_set {w0 w w1 w2 : World} {base g b n c : Nat} {rest : List Value} {v : Value} {ys : List Int} (gr1 : w.grownBy w1 (some b)) (gr2 : w1.grownBy w2 (some b)) (r2 : Kd.R (Kd.int .i64) 3 w2 base (fun _ => True) (.slice (some ⟨b, 0, none⟩) n c) ys)
    (hg : w.heap[g]? = some (.cells (v :: rest).toArray 71 (0, 0))) (hbg : g ≠ b) (hB : Below base w0 w) (hbs : base ≤ w.heap.size) (hbb : base ≤ b) :
    w2.drew.heap[g]? = some (.cells (v :: rest).toArray 71 (0, 0)) ∧ Kd.R (Kd.int .i64) 3 w2.drew base (fun _ => True) (.slice (some ⟨b, 0, none⟩) n c) ys ∧ Below base w0 w2.drew ∧ KeepBut w w2.drew g (some b) := by
  have gr := World.grownBy.trans gr1 gr2
  refine ⟨?_, Kd.R_drew r2, below_drew (hB.grown gr hbs (fun k hk => by injection hk with hk; omega)), KeepBut.of_grown (w1 := w2.drew) ⟨gr.os, gr.tape, gr.output, gr.size, gr.block⟩ g⟩
  exact (gr.block g (blk_lt hg) (fun e => hbg (by injection e))).trans hg

set_option maxHeartbeats 1000000 in
theorem swap_calls (w0 w : World) (base g : Nat) (rest : List Value) (v : Value) (xs : List Int) (i k : Int) (hs : HS w base g rest v xs) (hB : Below base w0 w) (hbs : base ≤ w.heap.size) (hi0 : 0 ≤ i) (hi : i < xs.length) (hk0 : 0 ≤ k) (hk : k < xs.length) :
    Calls Try.prog 87 #[v, .int .i64 i, .int .i64 k] w fun e w' => e = .returned (.tuple #[]) ∧ HS w' base g rest v (Hp.swp (0 : Int) xs i.toNat k.toNat) ∧ Below base w0 w' ∧ KeepBut w w' g v.ownBlock := by
  obtain ⟨hg, hR⟩ := hs
  have hne := Kd.R_ne hR hg (by decide)
  obtain ⟨b, c, rfl, hbb, hbl, _⟩ := Kd.R_form hR (by omega)
  obtain ⟨i, rfl⟩ := Int.eq_ofNat_of_zero_le hi0
  obtain ⟨k, rfl⟩ := Int.eq_ofNat_of_zero_le hk0
  simp only [Int.toNat_natCast]
  obtain ⟨h0, f0⟩ := row_cell hR i (by omega)
  obtain ⟨g0, e0⟩ := row_cell hR k (by omega)
  have hfin : ∀ W, W = ((w.setCell ⟨b, i, none⟩ (.int .i64 (Hp.at_ (0 : Int) xs k))).setCell ⟨b, k, none⟩ (.int .i64 (Hp.at_ (0 : Int) xs i))).drew →
      HS W base g rest (.slice (some ⟨b, 0, none⟩) xs.length c) (Hp.swp (0 : Int) xs i k) ∧ Below base w0 W ∧ KeepBut w W g (some b) := by
    intro W hW
    obtain ⟨r1, gr1⟩ := row_set hR i (Hp.at_ (0 : Int) xs k)
    obtain ⟨r2, gr2⟩ := row_set r1 k (Hp.at_ (0 : Int) xs i)
    have hbg : g ≠ b := fun e => hne (by rw [e]; rfl)
    subst hW
    unfold Hp.swp HS
    obtain ⟨a1, a2, a3, a4⟩ := two_set gr1 gr2 r2 hg hbg hB hbs hbb
    exact ⟨⟨a1, a2⟩, a3, a4⟩
  have HF := Lib.hid hfin
  clear hfin hR hne hg hB
  rcases Nat.lt_trichotomy i k with hik | rfl | hik
  · generalize Hp.at_ (0 : Int) xs i = x at *
    generalize Hp.at_ (0 : Int) xs k = y at *
    generalize Hp.swp (0 : Int) xs i k = ys at *
    generalize xs.length = n at *
    go_enter Try.func87, Try.ntmps87
    go_wp2
    go_region
    all_goals (go_end0; exact ⟨rfl, HF.out _ rfl⟩)
  · clear g0 e0
    generalize Hp.at_ (0 : Int) xs i = x at *
    generalize Hp.swp (0 : Int) xs i i = ys at *
    generalize xs.length = n at *
    go_enter Try.func87, Try.ntmps87
    go_wp2
    go_region
    all_goals (go_end0; exact ⟨rfl, HF.out _ rfl⟩)
  · generalize Hp.at_ (0 : Int) xs i = x at *
    generalize Hp.at_ (0 : Int) xs k = y at *
    generalize Hp.swp (0 : Int) xs i k = ys at *
    generalize xs.length = n at *
    go_enter Try.func87, Try.ntmps87
    go_wp2
    go_region
    all_goals (go_end0; exact ⟨rfl, HF.out _ rfl⟩)

theorem cell0 {w : World} {g t : Nat} {rest : List Value} {v : Value} (h : w.heap[g]? = some (.cells (v :: rest).toArray t (0, 0))) : w.cell? ⟨g, 0, none⟩ = some v ∧ w.frozen? ⟨g, 0, none⟩ = false :=
  ⟨(blk_cell h 0).trans (by simp), blk_frozen h _⟩
theorem set0 {w : World} {g t : Nat} {rest : List Value} {v : Value} (h : w.heap[g]? = some (.cells (v :: rest).toArray t (0, 0))) (u : Value) : (w.setCell ⟨g, 0, none⟩ u).heap[g]? = some (.cells (u :: rest).toArray t (0, 0)) :=
  (blk_set h 0 u).trans (by simp)
theorem HS_below {w w1 : World} {base g : Nat} {rest : List Value} {v : Value} {xs : List Int} (h : HS w base g rest v xs) (hb : Below w.heap.size w w1) : HS w1 base g rest v xs :=
  ⟨(hb.block g (blk_lt h.1)).trans h.1, Kd.R_below h.2 hb⟩
theorem HS_cell {w : World} {base g : Nat} {rest : List Value} {v : Value} {xs : List Int} (h : HS w base g rest v xs) : w.cell? ⟨g, 0, none⟩ = some v := (cell0 h.1).1
theorem keep_below {w w1 w2 : World} {g : Nat} {row : Option Nat} (h : KeepBut w w1 g row) (k : Below w1.heap.size w1 w2) : KeepBut w w2 g row := h.trans (KeepBut.of_below k g row) (.inl rfl)
theorem Below_size {B : Nat} {w w1 : World} (h : Below B w w1) (hB : B ≤ w.heap.size) : B ≤ w1.heap.size := by have := h.size; omega
theorem keep_none {w w1 : World} {g : Nat} {row : Option Nat} (h : KeepBut w w1 g none) : KeepBut w w1 g row := ⟨h.1, fun i hi hg _ => h.2 i hi hg (by simp)⟩
end Go.Proofs.Ythpjpkcfepmhkaa.PAll.R
