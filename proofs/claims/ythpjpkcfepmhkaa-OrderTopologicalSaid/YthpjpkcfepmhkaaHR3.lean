import Derived.Test.YthpjpkcfepmhkaaHR2
namespace Go.Proofs.Ythpjpkcfepmhkaa.PAll.R
open Go.RowKit Go.Proofs.YthpjpkcfepmhkaaW.PrintWords Go.Proofs.YthpjpkcfepmhkaaW.PrintLast Go.Proofs.YthpjpkcfepmhkaaW.PrintMore
set_option linter.unusedVariables false
set_option linter.unusedSimpArgs false

/-- What is told behind an append: the same row or a new one. -/
def Moved (W : World) (v v1 : Value) : Prop := v1.ownBlock = v.ownBlock ∨ ∃ b, v1.ownBlock = some b ∧ W.heap.size ≤ b
def PushPost (w0 w : World) (base g : Nat) (rest : List Value) (v : Value) (ys : List Int) (w' : World) : Prop := ∃ (A : Option Addr) (c : Nat), HS w' base g rest (.slice A ys.length c) ys ∧ Below base w0 w' ∧ KeepBut w w' g v.ownBlock ∧ Moved w v (.slice A ys.length c)
def PushEnd (w0 w : World) (base g : Nat) (rest : List Value) (v : Value) (ys : List Int) (e : Ending) (w' : World) : Prop := e = .returned (.tuple #[]) ∧ PushPost w0 w base g rest v ys w'

set_option maxRecDepth 100000 in
set_option maxHeartbeats 2000000 in
theorem pushm_calls (w0 w : World) (base g : Nat) (rest : List Value) (v : Value) (xs : List Int) (x : Int) (hs : HS w base g rest v xs) (hB : Below base w0 w) (hbs : base ≤ w.heap.size) (hbg : base ≤ g) (hl : (xs.length : Int) ≤ 1099511627776) :
    Calls Try.prog 89 #[.pointer (some ⟨g, 0, none⟩), .iface 3 (.int .i64 x)] w (PushEnd w0 w base g rest v (xs ++ [x])) := by
  obtain ⟨hg, hR⟩ := hs
  obtain ⟨hcell, hfz⟩ := cell0 hg
  have hgl := blk_lt hg
  have hta : ∀ (v : Value) (W : World), (Instr.typeAssert (.iface 3 v) 20 3 false).run Try.prog W = .ok v W := fun v W => by rfl
  have HG := Lib.hid hg
  have HR := Lib.hid hR
  have HB := Lib.hid hB
  have HNE := Lib.hid (Kd.R_ne hR hg (by decide))
  clear hg hR hB
  go_enter Try.func89, Try.ntmps89
  go_wp2
  go_region_law (rw [show (w.alloc (.cells #[.int .i64 x] 3)).drew = (w.drew).alloc (.cells [.int .i64 x].toArray 3) from rfl]; refine Kd.R_append_step (Kd.int .i64) (w0 := w0) base rfl (.tmp 7) (.tmp 10) 71 3 (.int .i64 0) 8 rfl Try.underlying71 infoE rfl (by decide) (by decide) v xs x [.int .i64 x] (fun _ => True) (fun _ => False) (by go_simp) (by go_simp) rfl (fun _ hk => hk.elim) (fun _ _ => trivial) (by (repeat (first | exact HR.out | apply Kd.R_alloc | apply Kd.R_drewN | apply Kd.R_drew))) (by (repeat (first | exact HB.out | apply below_drew))) (by (first | exact hbs | (simp; omega))) (by omega) ?_; intro v1 w1 ho hb hgr hat; obtain ⟨A1, c1, rfl⟩ := Kd.R_slice ho; have hg1 := blk_grown (blk_drew HG.out) hgr HNE.out; have hg1c := (cell0 hg1).1; have hg1z := (cell0 hg1).2; have HG1 := Lib.hid hg1; have HAP := Lib.hid (And.intro ho (And.intro hb (And.intro hgr hat))); clear ho hb hgr hat hg1)
  all_goals
    go_end0
    obtain ⟨ho, hb, hgr, hat⟩ := HAP.out
    refine ⟨rfl, A1, c1, ?_⟩
    simp only [List.length_append, List.length_singleton] at ho hat ⊢
    exact ⟨⟨set0 HG1.out _, Kd.R_set ho HG1.out (by decide) 0 _⟩, hb.setCell hbg _, (KeepBut.of_grown (w := w.drew) hgr g).set_ 0 _, hat⟩

end Go.Proofs.Ythpjpkcfepmhkaa.PAll.R
