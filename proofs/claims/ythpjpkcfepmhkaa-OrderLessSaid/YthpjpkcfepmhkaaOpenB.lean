import Derived.Test.YthpjpkcfepmhkaaOpens
import Derived.Test.YthpjpkcfepmhkaaPAllx0
namespace Go.Proofs.Ythpjpkcfepmhkaa.PAll
open Go.RowKit Go.Proofs.YthpjpkcfepmhkaaW.PrintWords Go.Proofs.Ythpjpkcfepmhkaa.Opens
/-- An edge that came in. -/
theorem opens39 (w : World) : Opens Try.prog w 39 k39 (fun _ => True) :=
  (opens_iso (fun x : S39 => (x.f0, x.f1)) (fun p => ⟨p.1, p.2⟩) (fun _ => rfl)
    (opens_struct Try.underlying39 (by kernel_rfl)
      (opensF_cons (opens_int Try.underlying3) (opensF_one (opens_int Try.underlying3))))).imp (fun _ _ => trivial)
theorem opens22 (w : World) : Opens Try.prog w 22 (Kd.slice 39 k39) (fun l => l.length * 16 ≤ 140737488351232 ∧ l.length ≤ maxLen ∧ ∀ x ∈ l, True) :=
  opens_slice Try.underlying22 (opens39 w) (by kernel_rfl) (by kernel_rfl)
theorem u8_lo {a : Int} (h : (Lit.int .u8 a).wf = true) : 0 ≤ a := by
  unfold Lit.wf at h
  simp only [Bool.and_eq_true, decide_eq_true_eq] at h
  have h1 : (0 : Int) ≤ a := h.1
  have h2 : a ≤ 255 := h.2
  omega
theorem u8_hi {a : Int} (h : (Lit.int .u8 a).wf = true) : a ≤ 255 := by
  unfold Lit.wf at h
  simp only [Bool.and_eq_true, decide_eq_true_eq] at h
  have h1 : (0 : Int) ≤ a := h.1
  have h2 : a ≤ 255 := h.2
  omega
end Go.Proofs.Ythpjpkcfepmhkaa.PAll
