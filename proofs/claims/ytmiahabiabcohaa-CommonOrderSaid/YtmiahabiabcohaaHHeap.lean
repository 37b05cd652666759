import Derived.Test.YtmiahabiabcohaaPAllx0
import Derived.Test.YtmiahabiabcohaaHeap
import Derived.WalkSpells
import Derived.WalkLawsBesides
import Derived.Lib.Hide
namespace Go.Proofs.Ytmiahabiabcohaa.PAll
open Go.RowKit Go.Proofs.YtmiahabiabcohaaW.PrintWords Go.Proofs.YtmiahabiabcohaaW.PrintLast Go.Proofs.YtmiahabiabcohaaW.PrintMore
set_option linter.unusedVariables false
set_option linter.unusedSimpArgs false

def lessS (a b : S40) : Bool := if a.f3 = b.f3 then (if a.f2 = b.f2 then Op.bytesLess a.f0.toList b.f0.toList else decide (b.f2 < a.f2)) else decide (b.f3 < a.f3)

/-- The variable at block g holds v, a row of one's own that reads as xs. -/
def HS (w : World) (base g : Nat) (v : Value) (xs : List S40) : Prop := w.heap[g]? = some (.cells #[v] 43 (0, 0)) ∧ Kd.R k40 40 w base (fun _ => True) v xs

theorem row_cells {w : World} {base b c n : Nat} {ok : Nat → Prop} {xs : List S40} (h : Kd.R k40 40 w base ok (.slice (some ⟨b, 0, none⟩) n c) xs) (i : Nat) (hi : i < xs.length) :
    (w.cell? ⟨b, i * 5, none⟩ = some (.string (Hp.at_ z40 xs i).f0) ∧ w.cell? ⟨b, i * 5 + 1, none⟩ = some (.int .i64 (Hp.at_ z40 xs i).f1) ∧ w.cell? ⟨b, i * 5 + 2, none⟩ = some (.int .i64 (Hp.at_ z40 xs i).f2) ∧ w.cell? ⟨b, i * 5 + 3, none⟩ = some (.int .i64 (Hp.at_ z40 xs i).f3) ∧ w.cell? ⟨b, i * 5 + 4, none⟩ = some (.int .i64 (Hp.at_ z40 xs i).f4)) ∧
    (w.frozen? ⟨b, i * 5, none⟩ = false ∧ w.frozen? ⟨b, i * 5 + 1, none⟩ = false ∧ w.frozen? ⟨b, i * 5 + 2, none⟩ = false ∧ w.frozen? ⟨b, i * 5 + 3, none⟩ = false ∧ w.frozen? ⟨b, i * 5 + 4, none⟩ = false) := by
  obtain ⟨hn, _, _⟩ := Kd.R_reads' h
  obtain ⟨cs, hl, hM, hc, hf⟩ := Kd.R_elem h z40 (i : Int) (Int.natCast_nonneg _) (by omega)
  obtain rfl := k40_openM hM
  simp only [Int.toNat_natCast] at hc hf
  exact ⟨⟨hc 0 _ rfl, hc 1 _ rfl, hc 2 _ rfl, hc 3 _ rfl, hc 4 _ rfl⟩, hf 0, hf 1, hf 2, hf 3, hf 4⟩

theorem bw {w W : World} (h : Below w.heap.size w W) : Below w.heap.size w W := h

set_option maxHeartbeats 1000000 in
theorem less_calls (w : World) (base : Nat) (ok : Nat → Prop) (v : Value) (xs : List S40) (i k : Int) (hR : Kd.R k40 40 w base ok v xs) (hi0 : 0 ≤ i) (hi : i < xs.length) (hk0 : 0 ≤ k) (hk : k < xs.length) :
    Calls Try.prog 41 #[v, .int .i64 i, .int .i64 k] w fun e w' => e = .returned (.bool (lessS (Hp.at_ z40 xs i.toNat) (Hp.at_ z40 xs k.toNat))) ∧ Below w.heap.size w w' := by
  obtain ⟨b, c, rfl, hbb, hbl, _⟩ := Kd.R_form hR (by omega)
  obtain ⟨i, rfl⟩ := Int.eq_ofNat_of_zero_le hi0
  obtain ⟨k, rfl⟩ := Int.eq_ofNat_of_zero_le hk0
  simp only [Int.toNat_natCast]
  obtain ⟨⟨h0, h1, h2, h3, h4⟩, _⟩ := row_cells hR i (by omega)
  obtain ⟨⟨g0, g1, g2, g3, g4⟩, _⟩ := row_cells hR k (by omega)
  clear hR
  generalize Hp.at_ z40 xs i = x at *
  generalize Hp.at_ z40 xs k = y at *
  generalize xs.length = n at *
  by_cases c1 : x.f3 = y.f3
  · by_cases c2 : x.f2 = y.f2
    · have hr : lessS x y = Op.bytesLess x.f0.toList y.f0.toList := by simp [lessS, c1, c2]
      have c1b : (x.f3 != y.f3) = false := bne_eq_false_iff_eq.mpr c1
      have c2b : (x.f2 != y.f2) = false := bne_eq_false_iff_eq.mpr c2
      rw [hr]
      clear hr c1 c2
      go_enter Try.func41, Try.ntmps41
      go_wp2
      go_region
      all_goals go_wp2
      all_goals (go_ret; exact ⟨rfl, by repeat (first | exact Below.refl _ _ | apply below_drew | apply below_alloc)⟩)
    · have hr : lessS x y = decide (y.f2 < x.f2) := by simp [lessS, c1, c2]
      have c1b : (x.f3 != y.f3) = false := bne_eq_false_iff_eq.mpr c1
      have c2b : (x.f2 != y.f2) = true := by rw [bne_iff_ne]; exact c2
      rw [hr]
      clear hr c1 c2
      go_enter Try.func41, Try.ntmps41
      go_wp2
      go_region
      all_goals go_wp2
      all_goals (go_ret; exact ⟨rfl, by repeat (first | exact Below.refl _ _ | apply below_drew | apply below_alloc)⟩)
  · have hr : lessS x y = decide (y.f3 < x.f3) := by simp [lessS, c1]
    have c1b : (x.f3 != y.f3) = true := by rw [bne_iff_ne]; exact c1
    rw [hr]
    clear hr c1
    go_enter Try.func41, Try.ntmps41
    go_wp2
    go_region
    all_goals go_wp2
    all_goals (go_ret; exact ⟨rfl, by repeat (first | exact Below.refl _ _ | apply below_drew | apply below_alloc)⟩)

theorem k40_any (w : World) (base : Nat) (ok : Nat → Prop) (x : S40) : k40.M w base ok x [.string x.f0, .int .i64 x.f1, .int .i64 x.f2, .int .i64 x.f3, .int .i64 x.f4] := k40_mkM w base ok x

/-- Element i of a row of one's own is written whole. -/
theorem row_set {w : World} {base b c n : Nat} {ok : Nat → Prop} {xs : List S40} (h : Kd.R k40 40 w base ok (.slice (some ⟨b, 0, none⟩) n c) xs) (i : Nat) (hi : i < xs.length) (x : S40) :
    Kd.R k40 40 (w.setCells b (i * 5) [.string x.f0, .int .i64 x.f1, .int .i64 x.f2, .int .i64 x.f3, .int .i64 x.f4]) base ok (.slice (some ⟨b, 0, none⟩) n c) (xs.set i x) ∧ w.grownBy (w.setCells b (i * 5) [.string x.f0, .int .i64 x.f1, .int .i64 x.f2, .int .i64 x.f3, .int .i64 x.f4]) (some b) := by
  obtain ⟨hn, _, _⟩ := Kd.R_reads' h
  obtain ⟨cs, hl, hM, hc, hf⟩ := Kd.R_elem h z40 (i : Int) (Int.natCast_nonneg _) (by omega)
  have hcs := k40_openM hM
  have := Kd.R_seg h (i : Int) (Int.natCast_nonneg _) (by omega) (j := 0) (seg := [.string x.f0, .int .i64 x.f1, .int .i64 x.f2, .int .i64 x.f3, .int .i64 x.f4]) hl hc (by exact Nat.le_refl 5) (x' := x) (okp := fun k => ok k ∧ k ≠ b) (by rw [hcs]; exact k40_any _ _ _ _) (fun _ h => h)
  simp only [Int.toNat_natCast, Nat.add_zero] at this
  exact this

theorem two_set {w0 w w1 w2 : World} {base g b n c : Nat} {v : Value} {ys : List S40} (gr1 : w.grownBy w1 (some b)) (gr2 : w1.grownBy w2 (some b)) (r2 : Kd.R k40 40 w2 base (fun _ => True) (.slice (some ⟨b, 0, none⟩) n c) ys)
    (hg : w.heap[g]? = some (.cells #[v] 43 (0, 0))) (hbg : g ≠ b) (hB : Below base w0 w) (hbs : base ≤ w.heap.size) (hbb : base ≤ b) :
    w2.drew.heap[g]? = some (.cells #[v] 43 (0, 0)) ∧ Kd.R k40 40 w2.drew base (fun _ => True) (.slice (some ⟨b, 0, none⟩) n c) ys ∧ Below base w0 w2.drew ∧ KeepBut w w2.drew g (some b) := by
  have gr := World.grownBy.trans gr1 gr2
  refine ⟨?_, Kd.R_drew r2, below_drew (hB.grown gr hbs (fun k hk => by injection hk with hk; omega)), KeepBut.of_grown (w1 := w2.drew) ⟨gr.os, gr.tape, gr.output, gr.size, gr.block⟩ g⟩
  exact (gr.block g (blk_lt hg) (fun e => hbg (by injection e))).trans hg

set_option maxHeartbeats 1000000 in
theorem swap_calls (w0 w : World) (base g : Nat) (v : Value) (xs : List S40) (i k : Int) (hs : HS w base g v xs) (hB : Below base w0 w) (hbs : base ≤ w.heap.size) (hi0 : 0 ≤ i) (hi : i < xs.length) (hk0 : 0 ≤ k) (hk : k < xs.length) :
    Calls Try.prog 42 #[v, .int .i64 i, .int .i64 k] w fun e w' => e = .returned (.tuple #[]) ∧ HS w' base g v (Hp.swp z40 xs i.toNat k.toNat) ∧ Below base w0 w' ∧ KeepBut w w' g v.ownBlock := by
  obtain ⟨hg, hR⟩ := hs
  have hne := Kd.R_ne hR hg (by decide)
  obtain ⟨b, c, rfl, hbb, hbl, _⟩ := Kd.R_form hR (by omega)
  obtain ⟨i, rfl⟩ := Int.eq_ofNat_of_zero_le hi0
  obtain ⟨k, rfl⟩ := Int.eq_ofNat_of_zero_le hk0
  simp only [Int.toNat_natCast]
  obtain ⟨⟨h0, h1, h2, h3, h4⟩, f0, f1, f2, f3, f4⟩ := row_cells hR i (by omega)
  obtain ⟨⟨g0, g1, g2, g3, g4⟩, e0, e1, e2, e3, e4⟩ := row_cells hR k (by omega)
  have hfin : ∀ W, W = (((w.setCells b (i * 5) [.string (Hp.at_ z40 xs k).f0, .int .i64 (Hp.at_ z40 xs k).f1, .int .i64 (Hp.at_ z40 xs k).f2, .int .i64 (Hp.at_ z40 xs k).f3, .int .i64 (Hp.at_ z40 xs k).f4]).setCells b (k * 5) [.string (Hp.at_ z40 xs i).f0, .int .i64 (Hp.at_ z40 xs i).f1, .int .i64 (Hp.at_ z40 xs i).f2, .int .i64 (Hp.at_ z40 xs i).f3, .int .i64 (Hp.at_ z40 xs i).f4]).drew) →
      HS W base g (.slice (some ⟨b, 0, none⟩) xs.length c) (Hp.swp z40 xs i k) ∧ Below base w0 W ∧ KeepBut w W g (some b) := by
    intro W hW
    obtain ⟨r1, gr1⟩ := row_set hR i (by omega) (Hp.at_ z40 xs k)
    obtain ⟨r2, gr2⟩ := row_set r1 k (by rw [List.length_set]; omega) (Hp.at_ z40 xs i)
    have hbg : g ≠ b := fun e => hne (by rw [e]; rfl)
    subst hW
    unfold Hp.swp HS
    obtain ⟨a1, a2, a3, a4⟩ := two_set gr1 gr2 r2 hg hbg hB hbs hbb
    exact ⟨⟨a1, a2⟩, a3, a4⟩
  have HF := Lib.hid hfin
  clear hfin hR hne hg hB
  rcases Nat.lt_trichotomy i k with hik | rfl | hik
  · skip
    generalize Hp.at_ z40 xs i = x at *
    generalize Hp.at_ z40 xs k = y at *
    generalize Hp.swp z40 xs i k = ys at *
    generalize xs.length = n at *
    go_enter Try.func42, Try.ntmps42
    go_wp2
    go_region
    all_goals (go_end0; exact ⟨rfl, HF.out _ rfl⟩)
  · clear g0 g1 g2 g3 g4 e0 e1 e2 e3 e4
    generalize Hp.at_ z40 xs i = x at *
    generalize Hp.swp z40 xs i i = ys at *
    generalize xs.length = n at *
    go_enter Try.func42, Try.ntmps42
    go_wp2
    go_region
    all_goals (go_end0; exact ⟨rfl, HF.out _ rfl⟩)
  · skip
    generalize Hp.at_ z40 xs i = x at *
    generalize Hp.at_ z40 xs k = y at *
    generalize Hp.swp z40 xs i k = ys at *
    generalize xs.length = n at *
    go_enter Try.func42, Try.ntmps42
    go_wp2
    go_region
    all_goals (go_end0; exact ⟨rfl, HF.out _ rfl⟩)
end Go.Proofs.Ytmiahabiabcohaa.PAll
