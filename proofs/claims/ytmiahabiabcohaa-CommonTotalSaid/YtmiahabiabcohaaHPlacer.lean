import Derived.Test.YtmiahabiabcohaaHHeap3
import Derived.Outline
namespace Go.Proofs.Ytmiahabiabcohaa.PAll
open Go.RowKit Go.Proofs.YtmiahabiabcohaaW.PrintWords Go.Proofs.YtmiahabiabcohaaW.PrintLast Go.Proofs.YtmiahabiabcohaaW.PrintMore
set_option linter.unusedVariables false
set_option linter.unusedSimpArgs false

def placed (e : Int) (x : S40) : Int := (e + x.f3 - 1) / x.f3 * x.f3

set_option maxHeartbeats 1000000 in
theorem placer_calls (w : World) : Calls Try.prog 17 #[] w fun e w' => e = .returned (.func (Fn.func 24) #[] #[.pointer (some ⟨w.heap.size, 0, none⟩)]) ∧ w' = w.alloc (.cells #[.int .i64 0] 3) := by
  go_enter Try.func17, Try.ntmps17
  go_wp2
  go_ret
  exact ⟨rfl, rfl⟩

set_option maxHeartbeats 1000000 in
theorem placer1_calls (w0 w : World) (base ge : Nat) (q : Int) (x : S40) (hge : w.heap[ge]? = some (.cells #[.int .i64 q] 3 (0, 0))) (hB : Below base w0 w) (hbs : base ≤ w.heap.size) (hbg : base ≤ ge) (hq0 : 0 ≤ q) (hq : q ≤ 1099511627776) (ha0 : 1 ≤ x.f3) (ha : x.f3 ≤ 65536) (hs0 : 0 ≤ x.f2) (hs : x.f2 ≤ 4294967295) (hp0 : 0 ≤ placed q x) (hp : placed q x ≤ 2199023255552) :
    Calls Try.prog 24 #[.agg #[.string x.f0, .int .i64 x.f1, .int .i64 x.f2, .int .i64 x.f3, .int .i64 x.f4], .pointer (some ⟨ge, 0, none⟩)] w fun e w' => e = .returned (.agg #[.string x.f0, .int .i64 (placed q x), .int .i64 x.f2]) ∧
      w'.heap[ge]? = some (.cells #[.int .i64 (placed q x + x.f2)] 3 (0, 0)) ∧ KeepBut w w' ge none ∧ Below base w0 w' := by
  have hc := (cell_of_blk hge).1
  have hz := (cell_of_blk hge).2
  have hl := blk_lt hge
  have HG := Lib.hid hge
  have HB := Lib.hid hB
  have HP := Lib.hid (show (q + x.f3 - 1) / x.f3 * x.f3 = placed q x from rfl)
  clear hge hB
  unfold placed at hp0 hp
  have hne : (x.f3 == 0) = false := beq_eq_false_iff_ne.2 (by omega)
  go_enter Try.func24, Try.ntmps24
  go_wp2
  go_region
  all_goals go_wp2
  all_goals
    rw [HP.out]
    refine bodyPost_ret (v := .agg #[.string x.f0, .int .i64 (placed q x), .int .i64 x.f2]) (by simp [results, Try.results24, go_sem]) rfl ⟨rfl, ?_, ?_, ?_⟩
    · exact blk_drew (blk_alloc (blk_alloc (one_setCell HG.out) _) _)
    · have k1 := (KeepBut.refl w ge none).set_ 0 (.int .i64 (placed q x + x.f2))
      exact k1.trans (KeepBut.of_below (below_drew (below_alloc (below_alloc (Below.refl _ _) _) _)) ge none) (.inl rfl)
    · exact below_drew (((HB.out.setCell hbg _).alloc (by simp [World.setCell]; omega) _).alloc (by simp [World.setCell]; omega) _)
end Go.Proofs.Ytmiahabiabcohaa.PAll
