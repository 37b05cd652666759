import Derived.Test.YthpjpkcfepmhkaaHSort2
namespace Go.Proofs.Ythpjpkcfepmhkaa.PAll
set_option linter.unusedVariables false
open Go.RowKit Go.Proofs.YthpjpkcfepmhkaaW.PrintWords Go.Proofs.YthpjpkcfepmhkaaW.PrintLast Go.Proofs.YthpjpkcfepmhkaaW.PrintMore
theorem order_Sort.calls (n : Int) (A1 : Option Addr) (c1 : Nat) (l1 : List S68) (r1 : List Int) (r2 : Int) (w : World) (hr1 : Kd.C k68 w A1 l1.length l1) (hc1 : l1.length ≤ c1) (h : order_Sort.f n l1 = some (r1, r2)) :
    Calls Try.prog 14 #[.int .i64 n, .slice A1 l1.length c1] w fun e w' => ∃ v0_ : Value, e = .returned (.tuple #[v0_, .int .i64 r2]) ∧ Kd.R (Kd.int .i64) 3 w' w.heap.size (fun _ => True) v0_ r1 ∧ Below w.heap.size w w' :=
  (order_Sort.calls0 n A1 c1 l1 r1 r2 w hr1 hc1 h).mono fun e w' h => h
end Go.Proofs.Ythpjpkcfepmhkaa.PAll
