import Derived.Test.YthpjpkcfepmhkaaHCycle1
import Derived.Laws.EntriesVeiled
namespace Go.Proofs.Ythpjpkcfepmhkaa.PAll
open Go.RowKit Go.Proofs.YthpjpkcfepmhkaaW.PrintWords Go.Proofs.YthpjpkcfepmhkaaW.PrintLast Go.Proofs.YthpjpkcfepmhkaaW.PrintMore
set_option linter.unusedVariables false
set_option linter.unusedSimpArgs false

def reach (xss : List (List Int)) (N i : Nat) : Option (List Bool) := visit xss (N + 1) i (List.replicate N false)

def ReachEnd (w : World) (seen1 : List Bool) (N : Nat) (e : Ending) (w' : World) : Prop := ∃ gs, e = .returned (.slice (some ⟨gs, 0, none⟩) N N) ∧ w.heap.size ≤ gs ∧ KB.R 4 w' w.heap.size (fun _ => True) (.slice (some ⟨gs, 0, none⟩) N N) seen1 ∧ Below w.heap.size w w'

theorem made4 (w : World) (base N : Nat) (hb : base ≤ w.heap.size) (hn : N ≤ 65536) : KB.R 4 (w.alloc (.cells (madeCells #[.bool false] N) 4)) base (fun _ => True) (.slice (some ⟨w.heap.size, 0, none⟩) N N) (List.replicate N false) := by
  have h := own_made_of' (enc := Value.bool) (d := false) w base 4 N hb (by omega)
  exact Kd.R_of_own (enc := Value.bool) (h1 := fun _ => rfl) h (fun _ _ => trivial)

/-- The world in which visit is called first. -/
def reachW (w : World) (v : Value) (N : Nat) : World := (((w.alloc (.cells #[v] 70)).alloc (.cells (madeCells #[.bool false] N) 4)).alloc (.cells #[.slice (some ⟨w.heap.size + 1, 0, none⟩) N N] 36)).alloc (.cells #[visitFn w.heap.size (w.heap.size + 2) (w.heap.size + 3)] 110)
theorem reachW_size (w : World) (v : Value) (N : Nat) : (reachW w v N).heap.size = w.heap.size + 4 := by unfold reachW; go_simp
theorem reachW_below (w : World) (v : Value) (N : Nat) : Below w.heap.size w (reachW w v N) := below_alloc (below_alloc (below_alloc (below_alloc (Below.refl _ _) _) _) _) _
theorem reach_start {w : World} {base : Nat} {f : Nat → Nat} {o N gv : Nat} {vs : List Value} {xss : List (List Int)} (h : Adj w base f o (.slice (some ⟨gv, 0, none⟩) N N) vs xss) (hv : vs.length = N) (hN : (N : Int) ≤ 65536) :
    VS (reachW w (.slice (some ⟨gv, 0, none⟩) N N) N) base w.heap.size f o N gv (w.heap.size + 1) w.heap.size (w.heap.size + 2) (w.heap.size + 3) vs xss (List.replicate N false) := by
  have s1 : (w.alloc (.cells #[.slice (some ⟨gv, 0, none⟩) N N] 70)).heap.size = w.heap.size + 1 := by go_simp
  have hm := made4 (w.alloc (.cells #[.slice (some ⟨gv, 0, none⟩) N N] 70)) w.heap.size N (by omega) (by omega)
  rw [s1] at hm
  have s2 : ((w.alloc (.cells #[.slice (some ⟨gv, 0, none⟩) N N] 70)).alloc (.cells (madeCells #[.bool false] N) 4)).heap.size = w.heap.size + 2 := by go_simp
  have s3 : (((w.alloc (.cells #[.slice (some ⟨gv, 0, none⟩) N N] 70)).alloc (.cells (madeCells #[.bool false] N) 4)).alloc (.cells #[.slice (some ⟨w.heap.size + 1, 0, none⟩) N N] 36)).heap.size = w.heap.size + 3 := by go_simp
  refine ⟨h.below (reachW_below _ _ _), hv, ?_, ?_, ?_, Kd.R_alloc (Kd.R_alloc hm _) _, by simp⟩
  · exact blk_alloc (blk_alloc (blk_alloc (heap_alloc_new w _) _) _) _
  · have := heap_alloc_new ((w.alloc (.cells #[.slice (some ⟨gv, 0, none⟩) N N] 70)).alloc (.cells (madeCells #[.bool false] N) 4)) (.cells #[.slice (some ⟨w.heap.size + 1, 0, none⟩) N N] 36)
    rw [s2] at this
    exact blk_alloc this _
  · have := heap_alloc_new (((w.alloc (.cells #[.slice (some ⟨gv, 0, none⟩) N N] 70)).alloc (.cells (madeCells #[.bool false] N) 4)).alloc (.cells #[.slice (some ⟨w.heap.size + 1, 0, none⟩) N N] 36)) (.cells #[visitFn w.heap.size (w.heap.size + 2) (w.heap.size + 3)] 110)
    rw [s3] at this
    exact this

set_option maxRecDepth 10000 in
set_option maxHeartbeats 4000000 in
theorem reach_calls (base : Nat) (f : Nat → Nat) (o N gv : Nat) (vs : List Value) (xss : List (List Int)) (hN : (N : Int) ≤ 65536) (i : Nat) (seen1 : List Bool) (w : World) (hi : i < N) (hA : Adj w base f o (.slice (some ⟨gv, 0, none⟩) N N) vs xss) (hv : vs.length = N) (h : reach xss N i = some seen1) :
    Calls Try.prog 46 #[.int .i64 N, .slice (some ⟨gv, 0, none⟩) N N, .int .i64 i] w fun e w' => ReachEnd w seen1 N e w' := by
  have hm := print_make_of (P := Try.prog) 36 4 (.bool false) 1 Try.underlying36 info4 rfl (by decide) N (by omega)
  have hmf : ∀ (fn : Fn) (first cap : Array Value) (w : World), (Instr.makeFunc fn first cap).run Try.prog w = .ok (.func fn first cap) w := fun _ _ _ _ => rfl
  have HS := Lib.hid (reach_start hA hv hN)
  have H := Lib.hid h
  have HZ := Lib.hid (reachW_size w (.slice (some ⟨gv, 0, none⟩) N N) N)
  have HB := Lib.hid (reachW_below w (.slice (some ⟨gv, 0, none⟩) N N) N)
  clear hA h
  go_enter Try.func46, Try.ntmps46
  go_wp2_with fail
  refine (visit_calls base w.heap.size f o N gv (w.heap.size + 1) w.heap.size (w.heap.size + 2) (w.heap.size + 3) vs xss hN (N + 1) i _ seen1 (reachW w (.slice (some ⟨gv, 0, none⟩) N N) N) hi HS.out H.out).mono ?_
  rintro e w2 ⟨rfl, hv2, hg2⟩
  have hcs := blk_cell hv2.cs 0
  simp only [List.getElem?_toArray, List.getElem?_cons_succ, List.getElem?_cons_zero] at hcs
  have HV2 := Lib.hid (And.intro hv2 hg2)
  clear hv2 hg2
  go_wp2
  go_ret
  refine ⟨_, rfl, by omega, HV2.out.1.marks, ?_⟩
  exact HB.out.grown HV2.out.2 (by rw [HZ.out]; omega) (fun k hk => by injection hk with hk; omega)
end Go.Proofs.Ythpjpkcfepmhkaa.PAll
