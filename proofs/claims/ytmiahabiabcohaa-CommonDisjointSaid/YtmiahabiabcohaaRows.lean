/-
  No cell of these rows narrows 'for every input' (looked for: loops, veiled, ifaces, maps, wideKeys, modest, calm, conditions, laid).
  DERIVED. THE GIVEN ROWS OF THIS SEAT. 5 by the template 'for every input the law returns true; each argument reads behind the call as it read before'; 0 by the template 'total and deterministic' (their statements: YtmiahabiabcohaaTotals.lean).
  GIVEN WITH THE SEED: the statements are not yours to turn. If you find one false, say at which input.
  Laid BY PROGRAM, IN A SANDBOX (cutbox-rows.mjs): the forced cells as the released guide's own fill.sh prints them over the translation 627d938976144253… (all of the seat's roots in one cut). By AI agents, Wed Nov 11 2026. No macro, syntax, notation, axiom, sorry.
-/
import Derived.Test.YtmiahabiabcohaaChecked
import GoSem.Claim
import GoSem.ClaimJoined
import GoSem.ClaimMapViews
import Derived.JoinedTies
import Derived.KernelRfl
namespace Go.Proofs.Ytmiahabiabcohaa
/- THE CELL 'sum', in the pinned program and in every row, IS THE sha256 OF THE DUMP (.gsa) THAT YtmiahabiabcohaaProg.lean LOADS. Nothing in Lean hashes anything: it is a label: what it is worth is what the hold of that sum in a sandbox is worth. -/
noncomputable def Try.pinned : Pinned := { name := "ytmiahabiabcohaa", sum := "627d938976144253528fec6dae472a5a0963dfcc6410120d162f315ddc060405", checked := Try.checked }
namespace Rows
def none {H : Type} : Left H := { results := [], args := [] }

/-- 'arlinklaw16.CommonMatchesReference': WHATEVER THE INPUT: true; the input reads as it did. -/
def commonMatchesReferenceSpec : ChangeSpec := { name := "commonMatchesReference", fn := fun _ => fun
  | [d1, d2] => { results := [.lit (.bool true)], args := [d1, d2] }
  | _ => none }
def commonMatchesReferenceRow : OpenClaim := { program := "ytmiahabiabcohaa", sum := "627d938976144253528fec6dae472a5a0963dfcc6410120d162f315ddc060405", func := "arlink/arlinklaw16.CommonMatchesReference", spec := "commonMatchesReference", unfollowed := true, recurses := true, apart := false }
def CommonMatchesReferenceSaid : Prop := commonMatchesReferenceRow.holds Try.pinned (OpenSpec.ofChange commonMatchesReferenceSpec)

/-- ITS FALSE NEIGHBOUR: 'it returns false'. Refute it at one input. -/
def commonMatchesReferenceWrong : ChangeSpec := { name := "commonMatchesReference", fn := fun _ => fun
  | [d1, d2] => { results := [.lit (.bool false)], args := [d1, d2] }
  | _ => none }
def CommonMatchesReferenceWrongFalsely : Prop := commonMatchesReferenceRow.holds Try.pinned (OpenSpec.ofChange commonMatchesReferenceWrong)

/-- 'arlinklaw16.CommonDisjoint': WHATEVER THE INPUT: true; the input reads as it did. -/
def commonDisjointSpec : ChangeSpec := { name := "commonDisjoint", fn := fun _ => fun
  | [d] => { results := [.lit (.bool true)], args := [d] }
  | _ => none }
def commonDisjointRow : OpenClaim := { program := "ytmiahabiabcohaa", sum := "627d938976144253528fec6dae472a5a0963dfcc6410120d162f315ddc060405", func := "arlink/arlinklaw16.CommonDisjoint", spec := "commonDisjoint", unfollowed := true, recurses := true, apart := false }
def CommonDisjointSaid : Prop := commonDisjointRow.holds Try.pinned (OpenSpec.ofChange commonDisjointSpec)

/-- ITS FALSE NEIGHBOUR: 'it returns false'. Refute it at one input. -/
def commonDisjointWrong : ChangeSpec := { name := "commonDisjoint", fn := fun _ => fun
  | [d] => { results := [.lit (.bool false)], args := [d] }
  | _ => none }
def CommonDisjointWrongFalsely : Prop := commonDisjointRow.holds Try.pinned (OpenSpec.ofChange commonDisjointWrong)

/-- 'arlinklaw16.CommonOrder': WHATEVER THE INPUT: true; the input reads as it did. -/
def commonOrderSpec : ChangeSpec := { name := "commonOrder", fn := fun _ => fun
  | [d1, d2] => { results := [.lit (.bool true)], args := [d1, d2] }
  | _ => none }
def commonOrderRow : OpenClaim := { program := "ytmiahabiabcohaa", sum := "627d938976144253528fec6dae472a5a0963dfcc6410120d162f315ddc060405", func := "arlink/arlinklaw16.CommonOrder", spec := "commonOrder", unfollowed := true, recurses := true, apart := false }
def CommonOrderSaid : Prop := commonOrderRow.holds Try.pinned (OpenSpec.ofChange commonOrderSpec)

/-- ITS FALSE NEIGHBOUR: 'it returns false'. Refute it at one input. -/
def commonOrderWrong : ChangeSpec := { name := "commonOrder", fn := fun _ => fun
  | [d1, d2] => { results := [.lit (.bool false)], args := [d1, d2] }
  | _ => none }
def CommonOrderWrongFalsely : Prop := commonOrderRow.holds Try.pinned (OpenSpec.ofChange commonOrderWrong)

/-- 'arlinklaw16.CommonKeeps': WHATEVER THE INPUT: true; the input reads as it did. -/
def commonKeepsSpec : ChangeSpec := { name := "commonKeeps", fn := fun _ => fun
  | [d] => { results := [.lit (.bool true)], args := [d] }
  | _ => none }
def commonKeepsRow : OpenClaim := { program := "ytmiahabiabcohaa", sum := "627d938976144253528fec6dae472a5a0963dfcc6410120d162f315ddc060405", func := "arlink/arlinklaw16.CommonKeeps", spec := "commonKeeps", unfollowed := true, recurses := true, apart := false }
def CommonKeepsSaid : Prop := commonKeepsRow.holds Try.pinned (OpenSpec.ofChange commonKeepsSpec)

/-- ITS FALSE NEIGHBOUR: 'it returns false'. Refute it at one input. -/
def commonKeepsWrong : ChangeSpec := { name := "commonKeeps", fn := fun _ => fun
  | [d] => { results := [.lit (.bool false)], args := [d] }
  | _ => none }
def CommonKeepsWrongFalsely : Prop := commonKeepsRow.holds Try.pinned (OpenSpec.ofChange commonKeepsWrong)

/-- 'arlinklaw16.CommonTotal': WHATEVER THE INPUT: true; the input reads as it did. -/
def commonTotalSpec : ChangeSpec := { name := "commonTotal", fn := fun _ => fun
  | [d] => { results := [.lit (.bool true)], args := [d] }
  | _ => none }
def commonTotalRow : OpenClaim := { program := "ytmiahabiabcohaa", sum := "627d938976144253528fec6dae472a5a0963dfcc6410120d162f315ddc060405", func := "arlink/arlinklaw16.CommonTotal", spec := "commonTotal", unfollowed := true, recurses := true, apart := false }
def CommonTotalSaid : Prop := commonTotalRow.holds Try.pinned (OpenSpec.ofChange commonTotalSpec)

/-- ITS FALSE NEIGHBOUR: 'it returns false'. Refute it at one input. -/
def commonTotalWrong : ChangeSpec := { name := "commonTotal", fn := fun _ => fun
  | [d] => { results := [.lit (.bool false)], args := [d] }
  | _ => none }
def CommonTotalWrongFalsely : Prop := commonTotalRow.holds Try.pinned (OpenSpec.ofChange commonTotalWrong)

/- THE SECOND FORM. 'bulk': how many values and letters a reading holds, each counted each time it is reached (what is shared counts as often as it is met; a slice's spare places count too). A statement '..UptoSaid' is the law's where the arguments, and the package variables that the reading takes, are together of bulk at most 1048576: NARROWER than '..Said'. Prove '..Said' where nothing that the law and all that it calls make is longer than what came in: it says more and counts as full. Else prove '..UptoSaid'. A law counts once. -/
mutual
def uptoBulk {H : Type} : DataW H → Nat
  | .lit (.string bytes) => bytes.length + 1
  | .lit _ => 1
  | .nil => 1
  | .ptr d => uptoBulk d + 1
  | .slice elems spare => uptoBulkAll elems + uptoBulkAll spare + 1
  | .agg parts => uptoBulkAll parts + 1
  | .iface _ d => uptoBulk d + 1
  | .map entries => uptoBulkEntries entries + 1
  | .held _ => 1
def uptoBulkAll {H : Type} : List (DataW H) → Nat
  | [] => 0
  | d :: r => uptoBulk d + uptoBulkAll r
def uptoBulkEntries {H : Type} : List (Lit × DataW H) → Nat
  | [] => 0
  | x :: r => uptoBulkEntry x + uptoBulkEntries r
def uptoBulkEntry {H : Type} : Lit × DataW H → Nat
  | (.string bytes, d) => bytes.length + uptoBulk d + 1
  | (_, d) => uptoBulk d + 1
 end
def uptoSmall : (H : Type) → List (DataW H) → Bool := fun _ ds => decide (uptoBulkAll ds ≤ 1048576)
def OpenSpec.upto (s : _root_.Go.ChangeSpec) : _root_.Go.OpenSpec := { _root_.Go.OpenSpec.ofChange s with cond := some uptoSmall }

/-- 'arlinklaw16.CommonMatchesReference', WHERE WHAT IT READS IS OF BULK AT MOST 1048576: true; the input reads as it did. -/
def commonMatchesReferenceUptoRow : OpenClaim := { program := "ytmiahabiabcohaa", sum := "627d938976144253528fec6dae472a5a0963dfcc6410120d162f315ddc060405", func := "arlink/arlinklaw16.CommonMatchesReference", spec := "commonMatchesReference", unfollowed := true, recurses := true, apart := false, narrowed := true }
def CommonMatchesReferenceUptoSaid : Prop := commonMatchesReferenceUptoRow.holds Try.pinned (OpenSpec.upto commonMatchesReferenceSpec)

/-- 'arlinklaw16.CommonDisjoint', WHERE WHAT IT READS IS OF BULK AT MOST 1048576: true; the input reads as it did. -/
def commonDisjointUptoRow : OpenClaim := { program := "ytmiahabiabcohaa", sum := "627d938976144253528fec6dae472a5a0963dfcc6410120d162f315ddc060405", func := "arlink/arlinklaw16.CommonDisjoint", spec := "commonDisjoint", unfollowed := true, recurses := true, apart := false, narrowed := true }
def CommonDisjointUptoSaid : Prop := commonDisjointUptoRow.holds Try.pinned (OpenSpec.upto commonDisjointSpec)

/-- 'arlinklaw16.CommonOrder', WHERE WHAT IT READS IS OF BULK AT MOST 1048576: true; the input reads as it did. -/
def commonOrderUptoRow : OpenClaim := { program := "ytmiahabiabcohaa", sum := "627d938976144253528fec6dae472a5a0963dfcc6410120d162f315ddc060405", func := "arlink/arlinklaw16.CommonOrder", spec := "commonOrder", unfollowed := true, recurses := true, apart := false, narrowed := true }
def CommonOrderUptoSaid : Prop := commonOrderUptoRow.holds Try.pinned (OpenSpec.upto commonOrderSpec)

/-- 'arlinklaw16.CommonKeeps', WHERE WHAT IT READS IS OF BULK AT MOST 1048576: true; the input reads as it did. -/
def commonKeepsUptoRow : OpenClaim := { program := "ytmiahabiabcohaa", sum := "627d938976144253528fec6dae472a5a0963dfcc6410120d162f315ddc060405", func := "arlink/arlinklaw16.CommonKeeps", spec := "commonKeeps", unfollowed := true, recurses := true, apart := false, narrowed := true }
def CommonKeepsUptoSaid : Prop := commonKeepsUptoRow.holds Try.pinned (OpenSpec.upto commonKeepsSpec)

/-- 'arlinklaw16.CommonTotal', WHERE WHAT IT READS IS OF BULK AT MOST 1048576: true; the input reads as it did. -/
def commonTotalUptoRow : OpenClaim := { program := "ytmiahabiabcohaa", sum := "627d938976144253528fec6dae472a5a0963dfcc6410120d162f315ddc060405", func := "arlink/arlinklaw16.CommonTotal", spec := "commonTotal", unfollowed := true, recurses := true, apart := false, narrowed := true }
def CommonTotalUptoSaid : Prop := commonTotalUptoRow.holds Try.pinned (OpenSpec.upto commonTotalSpec)

end Rows
end Go.Proofs.Ytmiahabiabcohaa
