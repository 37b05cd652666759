/-
  No cell of these rows narrows 'for every input' (looked for: loops, veiled, ifaces, maps, wideKeys, modest, calm, conditions, laid).
  DERIVED. THE GIVEN ROWS OF THIS SEAT. 10 by the template 'for every input the law returns true; each argument reads behind the call as it read before'; 0 by the template 'total and deterministic' (their statements: YthpjpkcfepmhkaaTotals.lean).
  GIVEN WITH THE SEED: the statements are not yours to turn. If you find one false, say at which input.
  Laid BY PROGRAM, IN A SANDBOX (cutbox-rows.mjs): the forced cells as the released guide's own fill.sh prints them over the translation 4bbbec2479adf760… (all of the seat's roots in one cut). By AI agents, Wed Nov 11 2026. No macro, syntax, notation, axiom, sorry.
-/
import Derived.Test.YthpjpkcfepmhkaaChecked
import GoSem.Claim
import GoSem.ClaimJoined
import GoSem.ClaimMapViews
import Derived.JoinedTies
import Derived.KernelRfl
namespace Go.Proofs.Ythpjpkcfepmhkaa
/- THE CELL 'sum', in the pinned program and in every row, IS THE sha256 OF THE DUMP (.gsa) THAT YthpjpkcfepmhkaaProg.lean LOADS. Nothing in Lean hashes anything: it is a label: what it is worth is what the hold of that sum in a sandbox is worth. -/
noncomputable def Try.pinned : Pinned := { name := "ythpjpkcfepmhkaa", sum := "4bbbec2479adf76096072da44c3545138359d452cd7e824464a01f47d33d470d", checked := Try.checked }
namespace Rows
def none {H : Type} : Left H := { results := [], args := [] }

/-- 'arlinklaw23.OrderMatchesReference': WHATEVER THE INPUT: true; the input reads as it did. -/
def orderMatchesReferenceSpec : ChangeSpec := { name := "orderMatchesReference", fn := fun _ => fun
  | [d1, d2] => { results := [.lit (.bool true)], args := [d1, d2] }
  | _ => none }
def orderMatchesReferenceRow : OpenClaim := { program := "ythpjpkcfepmhkaa", sum := "4bbbec2479adf76096072da44c3545138359d452cd7e824464a01f47d33d470d", func := "arlink/arlinklaw23.OrderMatchesReference", spec := "orderMatchesReference", unfollowed := true, recurses := true, apart := false }
def OrderMatchesReferenceSaid : Prop := orderMatchesReferenceRow.holds Try.pinned (OpenSpec.ofChange orderMatchesReferenceSpec)

/-- ITS FALSE NEIGHBOUR: 'it returns false'. Refute it at one input. -/
def orderMatchesReferenceWrong : ChangeSpec := { name := "orderMatchesReference", fn := fun _ => fun
  | [d1, d2] => { results := [.lit (.bool false)], args := [d1, d2] }
  | _ => none }
def OrderMatchesReferenceWrongFalsely : Prop := orderMatchesReferenceRow.holds Try.pinned (OpenSpec.ofChange orderMatchesReferenceWrong)

/-- 'arlinklaw23.OrderTopological': WHATEVER THE INPUT: true; the input reads as it did. -/
def orderTopologicalSpec : ChangeSpec := { name := "orderTopological", fn := fun _ => fun
  | [d1, d2] => { results := [.lit (.bool true)], args := [d1, d2] }
  | _ => none }
def orderTopologicalRow : OpenClaim := { program := "ythpjpkcfepmhkaa", sum := "4bbbec2479adf76096072da44c3545138359d452cd7e824464a01f47d33d470d", func := "arlink/arlinklaw23.OrderTopological", spec := "orderTopological", unfollowed := true, recurses := true, apart := false }
def OrderTopologicalSaid : Prop := orderTopologicalRow.holds Try.pinned (OpenSpec.ofChange orderTopologicalSpec)

/-- ITS FALSE NEIGHBOUR: 'it returns false'. Refute it at one input. -/
def orderTopologicalWrong : ChangeSpec := { name := "orderTopological", fn := fun _ => fun
  | [d1, d2] => { results := [.lit (.bool false)], args := [d1, d2] }
  | _ => none }
def OrderTopologicalWrongFalsely : Prop := orderTopologicalRow.holds Try.pinned (OpenSpec.ofChange orderTopologicalWrong)

/-- 'arlinklaw23.OrderLess': WHATEVER THE INPUT: true; the input reads as it did. -/
def orderLessSpec : ChangeSpec := { name := "orderLess", fn := fun _ => fun
  | [d1, d2, d3] => { results := [.lit (.bool true)], args := [d1, d2, d3] }
  | _ => none }
def orderLessRow : OpenClaim := { program := "ythpjpkcfepmhkaa", sum := "4bbbec2479adf76096072da44c3545138359d452cd7e824464a01f47d33d470d", func := "arlink/arlinklaw23.OrderLess", spec := "orderLess", unfollowed := true, recurses := true, apart := false }
def OrderLessSaid : Prop := orderLessRow.holds Try.pinned (OpenSpec.ofChange orderLessSpec)

/-- ITS FALSE NEIGHBOUR: 'it returns false'. Refute it at one input. -/
def orderLessWrong : ChangeSpec := { name := "orderLess", fn := fun _ => fun
  | [d1, d2, d3] => { results := [.lit (.bool false)], args := [d1, d2, d3] }
  | _ => none }
def OrderLessWrongFalsely : Prop := orderLessRow.holds Try.pinned (OpenSpec.ofChange orderLessWrong)

/-- 'arlinklaw22.ClosureMatchesReference': WHATEVER THE INPUT: true; the input reads as it did. -/
def closureMatchesReferenceSpec : ChangeSpec := { name := "closureMatchesReference", fn := fun _ => fun
  | [d1, d2] => { results := [.lit (.bool true)], args := [d1, d2] }
  | _ => none }
def closureMatchesReferenceRow : OpenClaim := { program := "ythpjpkcfepmhkaa", sum := "4bbbec2479adf76096072da44c3545138359d452cd7e824464a01f47d33d470d", func := "arlink/arlinklaw22.ClosureMatchesReference", spec := "closureMatchesReference", unfollowed := true, recurses := true, apart := false }
def ClosureMatchesReferenceSaid : Prop := closureMatchesReferenceRow.holds Try.pinned (OpenSpec.ofChange closureMatchesReferenceSpec)

/-- ITS FALSE NEIGHBOUR: 'it returns false'. Refute it at one input. -/
def closureMatchesReferenceWrong : ChangeSpec := { name := "closureMatchesReference", fn := fun _ => fun
  | [d1, d2] => { results := [.lit (.bool false)], args := [d1, d2] }
  | _ => none }
def ClosureMatchesReferenceWrongFalsely : Prop := closureMatchesReferenceRow.holds Try.pinned (OpenSpec.ofChange closureMatchesReferenceWrong)

/-- 'arlinklaw22.ClosureLeast': WHATEVER THE INPUT: true; the input reads as it did. -/
def closureLeastSpec : ChangeSpec := { name := "closureLeast", fn := fun _ => fun
  | [d1, d2] => { results := [.lit (.bool true)], args := [d1, d2] }
  | _ => none }
def closureLeastRow : OpenClaim := { program := "ythpjpkcfepmhkaa", sum := "4bbbec2479adf76096072da44c3545138359d452cd7e824464a01f47d33d470d", func := "arlink/arlinklaw22.ClosureLeast", spec := "closureLeast", unfollowed := true, recurses := true, apart := false }
def ClosureLeastSaid : Prop := closureLeastRow.holds Try.pinned (OpenSpec.ofChange closureLeastSpec)

/-- ITS FALSE NEIGHBOUR: 'it returns false'. Refute it at one input. -/
def closureLeastWrong : ChangeSpec := { name := "closureLeast", fn := fun _ => fun
  | [d1, d2] => { results := [.lit (.bool false)], args := [d1, d2] }
  | _ => none }
def ClosureLeastWrongFalsely : Prop := closureLeastRow.holds Try.pinned (OpenSpec.ofChange closureLeastWrong)

/-- 'arlinklaw22.ClosureChains': WHATEVER THE INPUT: true; the input reads as it did. -/
def closureChainsSpec : ChangeSpec := { name := "closureChains", fn := fun _ => fun
  | [d1, d2, d3] => { results := [.lit (.bool true)], args := [d1, d2, d3] }
  | _ => none }
def closureChainsRow : OpenClaim := { program := "ythpjpkcfepmhkaa", sum := "4bbbec2479adf76096072da44c3545138359d452cd7e824464a01f47d33d470d", func := "arlink/arlinklaw22.ClosureChains", spec := "closureChains", unfollowed := true, recurses := true, apart := false }
def ClosureChainsSaid : Prop := closureChainsRow.holds Try.pinned (OpenSpec.ofChange closureChainsSpec)

/-- ITS FALSE NEIGHBOUR: 'it returns false'. Refute it at one input. -/
def closureChainsWrong : ChangeSpec := { name := "closureChains", fn := fun _ => fun
  | [d1, d2, d3] => { results := [.lit (.bool false)], args := [d1, d2, d3] }
  | _ => none }
def ClosureChainsWrongFalsely : Prop := closureChainsRow.holds Try.pinned (OpenSpec.ofChange closureChainsWrong)

/-- 'arlinklaw22.ClosureMonotone': WHATEVER THE INPUT: true; the input reads as it did. -/
def closureMonotoneSpec : ChangeSpec := { name := "closureMonotone", fn := fun _ => fun
  | [d1, d2, d3, d4] => { results := [.lit (.bool true)], args := [d1, d2, d3, d4] }
  | _ => none }
def closureMonotoneRow : OpenClaim := { program := "ythpjpkcfepmhkaa", sum := "4bbbec2479adf76096072da44c3545138359d452cd7e824464a01f47d33d470d", func := "arlink/arlinklaw22.ClosureMonotone", spec := "closureMonotone", unfollowed := true, recurses := true, apart := false }
def ClosureMonotoneSaid : Prop := closureMonotoneRow.holds Try.pinned (OpenSpec.ofChange closureMonotoneSpec)

/-- ITS FALSE NEIGHBOUR: 'it returns false'. Refute it at one input. -/
def closureMonotoneWrong : ChangeSpec := { name := "closureMonotone", fn := fun _ => fun
  | [d1, d2, d3, d4] => { results := [.lit (.bool false)], args := [d1, d2, d3, d4] }
  | _ => none }
def ClosureMonotoneWrongFalsely : Prop := closureMonotoneRow.holds Try.pinned (OpenSpec.ofChange closureMonotoneWrong)

/-- 'arlinklaw22.ClosureKeeps': WHATEVER THE INPUT: true; the input reads as it did. -/
def closureKeepsSpec : ChangeSpec := { name := "closureKeeps", fn := fun _ => fun
  | [d1, d2, d3] => { results := [.lit (.bool true)], args := [d1, d2, d3] }
  | _ => none }
def closureKeepsRow : OpenClaim := { program := "ythpjpkcfepmhkaa", sum := "4bbbec2479adf76096072da44c3545138359d452cd7e824464a01f47d33d470d", func := "arlink/arlinklaw22.ClosureKeeps", spec := "closureKeeps", unfollowed := true, recurses := true, apart := false }
def ClosureKeepsSaid : Prop := closureKeepsRow.holds Try.pinned (OpenSpec.ofChange closureKeepsSpec)

/-- ITS FALSE NEIGHBOUR: 'it returns false'. Refute it at one input. -/
def closureKeepsWrong : ChangeSpec := { name := "closureKeeps", fn := fun _ => fun
  | [d1, d2, d3] => { results := [.lit (.bool false)], args := [d1, d2, d3] }
  | _ => none }
def ClosureKeepsWrongFalsely : Prop := closureKeepsRow.holds Try.pinned (OpenSpec.ofChange closureKeepsWrong)

/-- 'arlinklaw23.OrderArchives': WHATEVER THE INPUT: true; the input reads as it did. -/
def orderArchivesSpec : ChangeSpec := { name := "orderArchives", fn := fun _ => fun
  | [d] => { results := [.lit (.bool true)], args := [d] }
  | _ => none }
def orderArchivesRow : OpenClaim := { program := "ythpjpkcfepmhkaa", sum := "4bbbec2479adf76096072da44c3545138359d452cd7e824464a01f47d33d470d", func := "arlink/arlinklaw23.OrderArchives", spec := "orderArchives", unfollowed := true, recurses := true, apart := false }
def OrderArchivesSaid : Prop := orderArchivesRow.holds Try.pinned (OpenSpec.ofChange orderArchivesSpec)

/-- ITS FALSE NEIGHBOUR: 'it returns false'. Refute it at one input. -/
def orderArchivesWrong : ChangeSpec := { name := "orderArchives", fn := fun _ => fun
  | [d] => { results := [.lit (.bool false)], args := [d] }
  | _ => none }
def OrderArchivesWrongFalsely : Prop := orderArchivesRow.holds Try.pinned (OpenSpec.ofChange orderArchivesWrong)

/-- 'arlinklaw23.OrderKeeps': WHATEVER THE INPUT: true; the input reads as it did. -/
def orderKeepsSpec : ChangeSpec := { name := "orderKeeps", fn := fun _ => fun
  | [d1, d2, d3] => { results := [.lit (.bool true)], args := [d1, d2, d3] }
  | _ => none }
def orderKeepsRow : OpenClaim := { program := "ythpjpkcfepmhkaa", sum := "4bbbec2479adf76096072da44c3545138359d452cd7e824464a01f47d33d470d", func := "arlink/arlinklaw23.OrderKeeps", spec := "orderKeeps", unfollowed := true, recurses := true, apart := false }
def OrderKeepsSaid : Prop := orderKeepsRow.holds Try.pinned (OpenSpec.ofChange orderKeepsSpec)

/-- ITS FALSE NEIGHBOUR: 'it returns false'. Refute it at one input. -/
def orderKeepsWrong : ChangeSpec := { name := "orderKeeps", fn := fun _ => fun
  | [d1, d2, d3] => { results := [.lit (.bool false)], args := [d1, d2, d3] }
  | _ => none }
def OrderKeepsWrongFalsely : Prop := orderKeepsRow.holds Try.pinned (OpenSpec.ofChange orderKeepsWrong)

/- THE SECOND FORM. 'bulk': how many values and letters a reading holds, each counted each time it is reached (what is shared counts as often as it is met; a slice's spare places count too). A statement '..UptoSaid' is the law's where the arguments, and the package variables that the reading takes, are together of bulk at most 1048576: NARROWER than '..Said'. Prove '..Said' where nothing that the law and all that it calls make is longer than what came in: it says more and counts as full. Else prove '..UptoSaid'. A law counts once. -/
mutual
def uptoBulk {H : Type} : DataW H → Nat
  | .lit (.string bytes) => bytes.length + 1
  | .lit _ => 1
  | .nil => 1
  | .ptr d => uptoBulk d + 1
  | .slice elems spare => uptoBulkAll elems + uptoBulkAll spare + 1
  | .agg parts => uptoBulkAll parts + 1
  | .iface _ d => uptoBulk d + 1
  | .map entries => uptoBulkEntries entries + 1
  | .held _ => 1
def uptoBulkAll {H : Type} : List (DataW H) → Nat
  | [] => 0
  | d :: r => uptoBulk d + uptoBulkAll r
def uptoBulkEntries {H : Type} : List (Lit × DataW H) → Nat
  | [] => 0
  | x :: r => uptoBulkEntry x + uptoBulkEntries r
def uptoBulkEntry {H : Type} : Lit × DataW H → Nat
  | (.string bytes, d) => bytes.length + uptoBulk d + 1
  | (_, d) => uptoBulk d + 1
 end
def uptoSmall : (H : Type) → List (DataW H) → Bool := fun _ ds => decide (uptoBulkAll ds ≤ 1048576)
def OpenSpec.upto (s : _root_.Go.ChangeSpec) : _root_.Go.OpenSpec := { _root_.Go.OpenSpec.ofChange s with cond := some uptoSmall }

/-- 'arlinklaw23.OrderMatchesReference', WHERE WHAT IT READS IS OF BULK AT MOST 1048576: true; the input reads as it did. -/
def orderMatchesReferenceUptoRow : OpenClaim := { program := "ythpjpkcfepmhkaa", sum := "4bbbec2479adf76096072da44c3545138359d452cd7e824464a01f47d33d470d", func := "arlink/arlinklaw23.OrderMatchesReference", spec := "orderMatchesReference", unfollowed := true, recurses := true, apart := false, narrowed := true }
def OrderMatchesReferenceUptoSaid : Prop := orderMatchesReferenceUptoRow.holds Try.pinned (OpenSpec.upto orderMatchesReferenceSpec)

/-- 'arlinklaw23.OrderTopological', WHERE WHAT IT READS IS OF BULK AT MOST 1048576: true; the input reads as it did. -/
def orderTopologicalUptoRow : OpenClaim := { program := "ythpjpkcfepmhkaa", sum := "4bbbec2479adf76096072da44c3545138359d452cd7e824464a01f47d33d470d", func := "arlink/arlinklaw23.OrderTopological", spec := "orderTopological", unfollowed := true, recurses := true, apart := false, narrowed := true }
def OrderTopologicalUptoSaid : Prop := orderTopologicalUptoRow.holds Try.pinned (OpenSpec.upto orderTopologicalSpec)

/-- 'arlinklaw23.OrderLess', WHERE WHAT IT READS IS OF BULK AT MOST 1048576: true; the input reads as it did. -/
def orderLessUptoRow : OpenClaim := { program := "ythpjpkcfepmhkaa", sum := "4bbbec2479adf76096072da44c3545138359d452cd7e824464a01f47d33d470d", func := "arlink/arlinklaw23.OrderLess", spec := "orderLess", unfollowed := true, recurses := true, apart := false, narrowed := true }
def OrderLessUptoSaid : Prop := orderLessUptoRow.holds Try.pinned (OpenSpec.upto orderLessSpec)

/-- 'arlinklaw22.ClosureMatchesReference', WHERE WHAT IT READS IS OF BULK AT MOST 1048576: true; the input reads as it did. -/
def closureMatchesReferenceUptoRow : OpenClaim := { program := "ythpjpkcfepmhkaa", sum := "4bbbec2479adf76096072da44c3545138359d452cd7e824464a01f47d33d470d", func := "arlink/arlinklaw22.ClosureMatchesReference", spec := "closureMatchesReference", unfollowed := true, recurses := true, apart := false, narrowed := true }
def ClosureMatchesReferenceUptoSaid : Prop := closureMatchesReferenceUptoRow.holds Try.pinned (OpenSpec.upto closureMatchesReferenceSpec)

/-- 'arlinklaw22.ClosureLeast', WHERE WHAT IT READS IS OF BULK AT MOST 1048576: true; the input reads as it did. -/
def closureLeastUptoRow : OpenClaim := { program := "ythpjpkcfepmhkaa", sum := "4bbbec2479adf76096072da44c3545138359d452cd7e824464a01f47d33d470d", func := "arlink/arlinklaw22.ClosureLeast", spec := "closureLeast", unfollowed := true, recurses := true, apart := false, narrowed := true }
def ClosureLeastUptoSaid : Prop := closureLeastUptoRow.holds Try.pinned (OpenSpec.upto closureLeastSpec)

/-- 'arlinklaw22.ClosureChains', WHERE WHAT IT READS IS OF BULK AT MOST 1048576: true; the input reads as it did. -/
def closureChainsUptoRow : OpenClaim := { program := "ythpjpkcfepmhkaa", sum := "4bbbec2479adf76096072da44c3545138359d452cd7e824464a01f47d33d470d", func := "arlink/arlinklaw22.ClosureChains", spec := "closureChains", unfollowed := true, recurses := true, apart := false, narrowed := true }
def ClosureChainsUptoSaid : Prop := closureChainsUptoRow.holds Try.pinned (OpenSpec.upto closureChainsSpec)

/-- 'arlinklaw22.ClosureMonotone', WHERE WHAT IT READS IS OF BULK AT MOST 1048576: true; the input reads as it did. -/
def closureMonotoneUptoRow : OpenClaim := { program := "ythpjpkcfepmhkaa", sum := "4bbbec2479adf76096072da44c3545138359d452cd7e824464a01f47d33d470d", func := "arlink/arlinklaw22.ClosureMonotone", spec := "closureMonotone", unfollowed := true, recurses := true, apart := false, narrowed := true }
def ClosureMonotoneUptoSaid : Prop := closureMonotoneUptoRow.holds Try.pinned (OpenSpec.upto closureMonotoneSpec)

/-- 'arlinklaw22.ClosureKeeps', WHERE WHAT IT READS IS OF BULK AT MOST 1048576: true; the input reads as it did. -/
def closureKeepsUptoRow : OpenClaim := { program := "ythpjpkcfepmhkaa", sum := "4bbbec2479adf76096072da44c3545138359d452cd7e824464a01f47d33d470d", func := "arlink/arlinklaw22.ClosureKeeps", spec := "closureKeeps", unfollowed := true, recurses := true, apart := false, narrowed := true }
def ClosureKeepsUptoSaid : Prop := closureKeepsUptoRow.holds Try.pinned (OpenSpec.upto closureKeepsSpec)

/-- 'arlinklaw23.OrderArchives', WHERE WHAT IT READS IS OF BULK AT MOST 1048576: true; the input reads as it did. -/
def orderArchivesUptoRow : OpenClaim := { program := "ythpjpkcfepmhkaa", sum := "4bbbec2479adf76096072da44c3545138359d452cd7e824464a01f47d33d470d", func := "arlink/arlinklaw23.OrderArchives", spec := "orderArchives", unfollowed := true, recurses := true, apart := false, narrowed := true }
def OrderArchivesUptoSaid : Prop := orderArchivesUptoRow.holds Try.pinned (OpenSpec.upto orderArchivesSpec)

/-- 'arlinklaw23.OrderKeeps', WHERE WHAT IT READS IS OF BULK AT MOST 1048576: true; the input reads as it did. -/
def orderKeepsUptoRow : OpenClaim := { program := "ythpjpkcfepmhkaa", sum := "4bbbec2479adf76096072da44c3545138359d452cd7e824464a01f47d33d470d", func := "arlink/arlinklaw23.OrderKeeps", spec := "orderKeeps", unfollowed := true, recurses := true, apart := false, narrowed := true }
def OrderKeepsUptoSaid : Prop := orderKeepsUptoRow.holds Try.pinned (OpenSpec.upto orderKeepsSpec)

end Rows
end Go.Proofs.Ythpjpkcfepmhkaa
