import Derived.Test.YtmiahabiabcohaaHLayout
import Derived.Outline
namespace Go.Proofs.Ytmiahabiabcohaa.PAll
open Go.RowKit Go.Proofs.YtmiahabiabcohaaW.PrintWords Go.Proofs.YtmiahabiabcohaaW.PrintLast Go.Proofs.YtmiahabiabcohaaW.PrintMore
set_option linter.unusedVariables false
set_option linter.unusedSimpArgs false

/-- The place of the first one with a name, counted from k; -1 if there is none. -/
def place (nm : ByteArray) : List S32 → Nat → Int
  | [], _ => -1
  | x :: r, k => if (x.f0.toList == nm.toList) = true then (k : Int) else place nm r (k + 1)
def common_Find.f (l0 : List S32) (a1 : ByteArray) : Option (ByteArray × Int × Int × Bool) :=
  if place a1 l0 0 < 0 then some (⟨#[]⟩, 0, 0, false) else some ((rd_T32 l0 (place a1 l0 0)).f0, (rd_T32 l0 (place a1 l0 0)).f1, (rd_T32 l0 (place a1 l0 0)).f2, true)

theorem place_step (nm : ByteArray) (xs : List S32) (k : Nat) (h : k < xs.length) : place nm (xs.drop k) k = if ((rd_T32 xs k).f0.toList == nm.toList) = true then (k : Int) else place nm (xs.drop (k + 1)) (k + 1) := by
  rw [List.drop_eq_getElem_cons h]
  simp only [place]
  have : rd_T32 xs k = xs[k] := by simp [rd_T32, List.getD_eq_getElem?_getD, List.getElem?_eq_getElem h]
  rw [this]
theorem place_end (nm : ByteArray) (xs : List S32) (k : Nat) (h : xs.length ≤ k) : place nm (xs.drop k) k = -1 := by
  rw [List.drop_of_length_le h]; rfl
theorem place_bounds (nm : ByteArray) : ∀ (xs : List S32) (k : Nat), place nm xs k < 0 ∨ (k : Int) ≤ place nm xs k ∧ place nm xs k < k + xs.length
  | [], _ => .inl (by simp [place])
  | x :: r, k => by
    simp only [place]
    split
    · exact .inr ⟨Int.le_refl _, by simp; omega⟩
    · rcases place_bounds nm r (k + 1) with h | ⟨h1, h2⟩
      · exact .inl h
      · exact .inr ⟨by omega, by simp; omega⟩

set_option maxHeartbeats 1000000 in
theorem same_calls (x : S32) (nm : ByteArray) (g : Nat) (b : Bool) (w : World) (hg : w.heap[g]? = some (.cells #[.string nm] 9 (0, 0))) (hb : (x.f0.toList == nm.toList) = b) :
    Calls Try.prog 22 #[.agg #[.string x.f0, .int .i64 x.f1, .int .i64 x.f2], .pointer (some ⟨g, 0, none⟩)] w fun e w' => e = .returned (.bool b) ∧ Below w.heap.size w w' := by
  have hc := (cell_of_blk hg).1
  have hl := blk_lt hg
  clear hg
  go_enter Try.func22, Try.ntmps22
  go_wp2
  go_ret
  exact ⟨rfl, below_alloc (Below.refl _ _) _⟩

set_option maxHeartbeats 2000000 in
theorem index_calls (A : Option Addr) (c g : Nat) (xs : List S32) (nm : ByteArray) (w : World) (hC : Kd.C k32 w A xs.length xs) (hg : w.heap[g]? = some (.cells #[.string nm] 9 (0, 0))) :
    Calls Try.prog 21 #[.slice A xs.length c, .func (Fn.func 22) #[] #[.pointer (some ⟨g, 0, none⟩)]] w fun e w' => e = .returned (.int .i64 (place nm xs 0)) ∧ Below w.heap.size w w' := by
  have hm := hC.2.1
  have HC := Lib.hid hC
  have HG := Lib.hid hg
  have hgl := blk_lt hg
  clear hC hg
  go_enter Try.func21, Try.ntmps21
  go_wp2
  go_loopg [8] xs.length (fun kq v8 w' => ∃ k : Nat, v8 = .int .i64 k ∧ Aside0 (kq + k = xs.length ∧ place nm (xs.drop k) k = place nm xs 0) ∧ Aside0 (Below w.heap.size w w'))
  case atStart => exact ⟨0, rfl, ⟨by omega, rfl⟩, ⟨Below.refl _ _⟩⟩
  case round =>
    obtain ⟨k, rfl, HA, HB⟩ := hrel
    cases gk with
    | zero =>
      have hk : xs.length ≤ k := by have := HA.out.1; omega
      have HP := Lib.hid ((place_end nm xs k hk).symm.trans HA.out.2)
      clear HA
      go_wp2
      go_ret
      exact ⟨by rw [← HP.out]; rfl, HB.out⟩
    | succ kq =>
      have hk : k < xs.length := by have := HA.out.1; omega
      obtain ⟨ad, rfl, hx0, hx1, hx2⟩ := at_T32 HC.out (k : Int) (Int.natCast_nonneg _) (by omega)
      replace hx0 := (HB.out.cell (World.block_lt_of_cell? w _ hx0)).trans hx0
      replace hx1 := (HB.out.cell (World.block_lt_of_cell? w _ hx1)).trans hx1
      replace hx2 := (HB.out.cell (World.block_lt_of_cell? w _ hx2)).trans hx2
      simp only [Int.toNat_natCast] at hx0 hx1 hx2
      have hg2 := (HB.out.block g hgl).trans HG.out
      have HG2 := Lib.hid hg2
      have HP := Lib.hid ((place_step nm xs k hk).symm.trans HA.out.2)
      have HK := Lib.hid HA.out.1
      clear HA hg2
      generalize rd_T32 xs k = x at *
      cases hb : (x.f0.toList == nm.toList) with
      | true =>
        have HBO := Lib.hid hb
        have HR := Lib.hid (show (k : Int) = place nm xs 0 from by have := HP.out; rw [if_pos hb] at this; exact this)
        clear hb
        go_wp2_with fail
        refine (same_calls x nm g true _ HG2.out HBO.out).mono ?_
        rintro e w1 ⟨rfl, hb1⟩
        have HB1 := Lib.hid hb1
        clear hb1
        go_wp2
        go_ret
        exact ⟨by rw [← HR.out]; rfl, below_then HB.out HB.out.size HB1.out⟩
      | false =>
        have HBO := Lib.hid hb
        have HR := Lib.hid (show place nm (xs.drop (k + 1)) (k + 1) = place nm xs 0 from by have := HP.out; rw [if_neg (by rw [hb]; decide)] at this; exact this)
        clear hb
        go_wp2_with fail
        refine (same_calls x nm g false _ HG2.out HBO.out).mono ?_
        rintro e w1 ⟨rfl, hb1⟩
        have HB1 := Lib.hid hb1
        clear hb1
        go_wp2
        go_roundg kq
        case measure => omega
        case rel => exact ⟨k + 1, by go_num, ⟨by have := HK.out; omega, HR.out⟩, ⟨below_then HB.out HB.out.size HB1.out⟩⟩

set_option maxHeartbeats 2000000 in
theorem common_Find.calls (A0 : Option Addr) (c0 : Nat) (l0 : List S32) (a1 : ByteArray) (r1 : ByteArray) (r2 r3 : Int) (r4 : Bool) (w : World) (hr0 : Kd.C k32 w A0 l0.length l0) (hc0 : l0.length ≤ c0) (h : common_Find.f l0 a1 = some (r1, r2, r3, r4)) :
    Calls Try.prog 12 #[.slice A0 l0.length c0, .string a1] w fun e w' => e = .returned (.tuple #[.agg #[.string r1, .int .i64 r2, .int .i64 r3], .bool r4]) ∧ Below w.heap.size w w' := by
  have HR0 := Lib.hid hr0
  have hm := hr0.2.1
  have hb := place_bounds a1 l0 0
  simp only [common_Find.f] at h
  clear hr0
  generalize hp : place a1 l0 0 = p at *
  have HP := Lib.hid hp
  clear hp
  go_enter Try.func12, Try.ntmps12
  go_wp2_with fail
  refine (index_calls A0 c0 w.heap.size l0 a1 _ (Kd.C_alloc (Kd.C_alloc HR0.out _) _) (blk_alloc (heap_alloc_new w _) _)).mono ?_
  rintro e w1 ⟨rfl, hb1⟩
  rw [HP.out]
  have hz := hb1.block (w.heap.size + 1) (by simp)
  have hx2 : w1.heap[w.heap.size + 1]? = some (.cells #[.string ⟨#[]⟩, .int .i64 0, .int .i64 0] 32 (0, 0)) := hz.trans (by
    have h2 := heap_alloc_new (w.alloc (.cells #[.string a1] 9)) (.cells #[.string ⟨#[]⟩, .int .i64 0, .int .i64 0] 32)
    rw [show (w.alloc (.cells #[.string a1] 9)).heap.size = w.heap.size + 1 from by simp] at h2
    exact h2)
  have HX := Lib.hid hx2
  have hx2l := blk_lt hx2
  have hx2c : ∀ i, w1.cell? ⟨w.heap.size + 1, i, none⟩ = #[.string ⟨#[]⟩, .int .i64 0, .int .i64 0][i]? := fun i => blk_cell hx2 i
  have hx2z : ∀ i, w1.frozen? ⟨w.heap.size + 1, i, none⟩ = false := fun i => blk_frozen hx2 i
  have hB : Below w.heap.size w w1 := (below_alloc (below_alloc (Below.refl _ _) _) _).trans (hb1.mono (by simp; omega))
  have HB := Lib.hid hB
  clear hz hb1 hB
  by_cases c1 : p < 0
  · rw [if_pos c1] at h
    simp only [Option.some.injEq, Prod.mk.injEq] at h
    obtain ⟨rfl, rfl, rfl, rfl⟩ := h
    clear hx2
    go_wp2
    have hfin := blk_set (blk_set (blk_set HX.out 0 (.string ⟨#[]⟩)) 1 (.int .i64 0)) 2 (.int .i64 0)
    have hbel := ((HB.out.setCell (p := ⟨w.heap.size + 1, 0, none⟩) (by simp) (.string ⟨#[]⟩)).setCell (p := ⟨w.heap.size + 1, 1, none⟩) (by simp) (.int .i64 0)).setCell (p := ⟨w.heap.size + 1, 2, none⟩) (by simp) (.int .i64 0)
    clear hx2c hx2z HX HB
    generalize ((w1.setCell { block := w.heap.size + 1, off := 0 } (.string ⟨#[]⟩)).setCell { block := w.heap.size + 1, off := 1 } (.int .i64 0)).setCell { block := w.heap.size + 1, off := 2 } (.int .i64 0) = W at *
    have k0 : W.cell? ⟨w.heap.size + 1, 0, none⟩ = some (.string ⟨#[]⟩) := (blk_cell hfin 0).trans (by rfl)
    have k1 : W.cell? ⟨w.heap.size + 1, 1, none⟩ = some (.int .i64 0) := (blk_cell hfin 1).trans (by rfl)
    have k2 : W.cell? ⟨w.heap.size + 1, 2, none⟩ = some (.int .i64 0) := (blk_cell hfin 2).trans (by rfl)
    exact bodyPost_ret (v := .tuple #[.agg #[.string ⟨#[]⟩, .int .i64 0, .int .i64 0], .bool false]) (by simp [results, Try.results12, go_sem, k0, k1, k2]) rfl ⟨rfl, hbel⟩
  · rw [if_neg c1] at h
    simp only [Option.some.injEq, Prod.mk.injEq] at h
    obtain ⟨rfl, rfl, rfl, rfl⟩ := h
    have p0 : 0 ≤ p := by omega
    have p1 : p < l0.length := by omega
    obtain ⟨ad, rfl, hx0, hx1, hxb⟩ := at_T32 HR0.out p p0 p1
    replace hx0 := (HB.out.cell (World.block_lt_of_cell? w _ hx0)).trans hx0
    replace hx1 := (HB.out.cell (World.block_lt_of_cell? w _ hx1)).trans hx1
    replace hxb := (HB.out.cell (World.block_lt_of_cell? w _ hxb)).trans hxb
    clear hx2 hb
    go_wp2
    have hfin := blk_set (blk_set (blk_set HX.out 0 (.string (rd_T32 l0 p).f0)) 1 (.int .i64 (rd_T32 l0 p).f1)) 2 (.int .i64 (rd_T32 l0 p).f2)
    have hbel := ((HB.out.setCell (p := ⟨w.heap.size + 1, 0, none⟩) (by simp) (.string (rd_T32 l0 p).f0)).setCell (p := ⟨w.heap.size + 1, 1, none⟩) (by simp) (.int .i64 (rd_T32 l0 p).f1)).setCell (p := ⟨w.heap.size + 1, 2, none⟩) (by simp) (.int .i64 (rd_T32 l0 p).f2)
    clear hx2c hx2z HX HB hx0 hx1 hxb
    generalize ((w1.setCell { block := w.heap.size + 1, off := 0 } (.string (rd_T32 l0 p).f0)).setCell { block := w.heap.size + 1, off := 1 } (.int .i64 (rd_T32 l0 p).f1)).setCell { block := w.heap.size + 1, off := 2 } (.int .i64 (rd_T32 l0 p).f2) = W at *
    have k0 : W.cell? ⟨w.heap.size + 1, 0, none⟩ = some (.string (rd_T32 l0 p).f0) := (blk_cell hfin 0).trans (by rfl)
    have k1 : W.cell? ⟨w.heap.size + 1, 1, none⟩ = some (.int .i64 (rd_T32 l0 p).f1) := (blk_cell hfin 1).trans (by rfl)
    have k2 : W.cell? ⟨w.heap.size + 1, 2, none⟩ = some (.int .i64 (rd_T32 l0 p).f2) := (blk_cell hfin 2).trans (by rfl)
    exact bodyPost_ret (v := .tuple #[.agg #[.string (rd_T32 l0 p).f0, .int .i64 (rd_T32 l0 p).f1, .int .i64 (rd_T32 l0 p).f2], .bool true]) (by simp [results, Try.results12, go_sem, k0, k1, k2]) rfl ⟨rfl, hbel⟩
end Go.Proofs.Ytmiahabiabcohaa.PAll
