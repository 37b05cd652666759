import Derived.Test.YthpjpkcfepmhkaaHSort2
namespace Go.Proofs.Ythpjpkcfepmhkaa.PAll
open Go.RowKit Go.Proofs.YthpjpkcfepmhkaaW.PrintWords Go.Proofs.YthpjpkcfepmhkaaW.PrintLast Go.Proofs.YthpjpkcfepmhkaaW.PrintMore
set_option linter.unusedVariables false
set_option linter.unusedSimpArgs false

def visitL (rec : Nat → List Bool → Option (List Bool)) : List Int → List Bool → Option (List Bool)
  | [], seen => some seen
  | j :: js, seen => if 0 ≤ j ∧ j < seen.length then (if seen.getD j.toNat false = true then visitL rec js seen else (rec j.toNat (seen.set j.toNat true)).bind (visitL rec js)) else none
def visit (xss : List (List Int)) : Nat → Nat → List Bool → Option (List Bool)
  | 0, _, _ => none
  | k + 1, i, seen => visitL (visit xss k) (xss.getD i []) seen

abbrev KB : Kd Bool := Kd.bool
def visitFn (bn bs bv : Nat) : Value := .func (.func 63) #[] #[.pointer (some ⟨bn, 0, none⟩), .pointer (some ⟨bs, 0, none⟩), .pointer (some ⟨bv, 0, none⟩)]
/-- What visit reads: the rows, the variables that it captures; and the row that it marks. -/
structure VS (w : World) (base base' : Nat) (f : Nat → Nat) (o N gv gs bn bs bv : Nat) (vs : List Value) (xss : List (List Int)) (seen : List Bool) : Prop where
  adj : Adj w base f o (.slice (some ⟨gv, 0, none⟩) N N) vs xss
  nv : vs.length = N
  cn : w.heap[bn]? = some (.cells #[.slice (some ⟨gv, 0, none⟩) N N] 70 (0, 0))
  cs : w.heap[bs]? = some (.cells #[.slice (some ⟨gs, 0, none⟩) N N] 36 (0, 0))
  cv : w.heap[bv]? = some (.cells #[visitFn bn bs bv] 110 (0, 0))
  marks : KB.R 4 w base' (fun _ => True) (.slice (some ⟨gs, 0, none⟩) N N) seen
  ns : seen.length = N
section
variable {w w1 : World} {base base' : Nat} {f : Nat → Nat} {o N gv gs bn bs bv : Nat} {vs : List Value} {xss : List (List Int)} {seen seen1 : List Bool}
theorem VS.grown (h : VS w base base' f o N gv gs bn bs bv vs xss seen) (hg : w.grownBy w1 (some gs)) (hR : KB.R 4 w1 base' (fun _ => True) (.slice (some ⟨gs, 0, none⟩) N N) seen1) (hl : seen1.length = N) :
    VS w1 base base' f o N gv gs bn bs bv vs xss seen1 := by
  obtain ⟨cells, hc⟩ := Kd.R_typed h.marks gs (by simp [Value.ownBlock])
  have hw : (Value.slice (some ⟨gs, 0, none⟩) N N).ownBlock = some gs := by simp [Value.ownBlock]
  refine ⟨h.adj.grown hg (.inr ⟨cells, 4, gs, rfl, hc, by decide⟩) (fun j u hj k hk e => ?_), h.nv, ?_, ?_, ?_, hR, hl⟩
  · injection e with e
    subst e
    have hjl : j < vs.length := (List.getElem?_eq_some_iff.1 hj).1
    have hx := (h.adj.at_ j hjl).1
    rw [getD_some hjl] at hj
    injection hj with hj
    rw [hj] at hx
    obtain ⟨cs, hcs⟩ := Kd.R_typed hx k hk
    rw [hc] at hcs
    injection hcs with hcs
    injection hcs with _ hcs
    exact absurd hcs (by decide)
  · exact blk_grown h.cn hg (by rw [← hw]; exact Kd.R_ne h.marks h.cn (by decide))
  · exact blk_grown h.cs hg (by rw [← hw]; exact Kd.R_ne h.marks h.cs (by decide))
  · exact blk_grown h.cv hg (by rw [← hw]; exact Kd.R_ne h.marks h.cv (by decide))
theorem VS.scell (h : VS w base base' f o N gv gs bn bs bv vs xss seen) (i : Nat) (hi : i < N) : w.cell? ⟨gs, i, none⟩ = some (.bool (seen.getD i false)) ∧ w.frozen? ⟨gs, i, none⟩ = false := by
  have hn := h.ns
  subst hn
  have := Kd.R_cell (enc := Value.bool) (h1 := fun _ => rfl) false h.marks (i : Int) (Int.natCast_nonneg _) (by omega)
  simp only [Int.toNat_natCast] at this
  exact this
theorem VS.mark (h : VS w base base' f o N gv gs bn bs bv vs xss seen) (i : Nat) (hi : i < N) (b : Bool) : VS (w.setCell ⟨gs, i, none⟩ (.bool b)) base base' f o N gv gs bn bs bv vs xss (seen.set i b) ∧ w.grownBy (w.setCell ⟨gs, i, none⟩ (.bool b)) (some gs) := by
  have hn := h.ns
  have hR := h.marks
  subst hn
  have := Kd.R_put (enc := Value.bool) (h1 := fun _ => rfl) hR (i : Int) b
  simp only [Int.toNat_natCast] at this
  exact ⟨h.grown this.2 this.1 (by rw [List.length_set]), this.2⟩
end
end Go.Proofs.Ythpjpkcfepmhkaa.PAll
