import Derived.Test.YtmiahabiabcohaaOpens
import Derived.Test.YtmiahabiabcohaaPAllx0
namespace Go.Proofs.Ytmiahabiabcohaa.PAll
open Go.RowKit Go.Proofs.YtmiahabiabcohaaW.PrintWords Go.Proofs.Ytmiahabiabcohaa.Opens
/-- A resolution that came in. -/
theorem opens40 (w : World) : Opens Try.prog w 40 k40 (fun _ => True) :=
  (opens_iso (fun x : S40 => (x.f0, x.f1, x.f2, x.f3, x.f4)) (fun p => ⟨p.1, p.2.1, p.2.2.1, p.2.2.2.1, p.2.2.2.2⟩) (fun _ => rfl)
    (opens_struct Try.underlying40 (by kernel_rfl)
      (opensF_cons (opens_string Try.underlying9) (opensF_cons (opens_int Try.underlying3) (opensF_cons (opens_int Try.underlying3) (opensF_cons (opens_int Try.underlying3) (opensF_one (opens_int Try.underlying3)))))))).imp (fun _ _ => trivial)
theorem opens22 (w : World) : Opens Try.prog w 22 (Kd.slice 40 k40) (fun l => l.length * 48 ≤ 140737488351232 ∧ l.length ≤ maxLen ∧ ∀ x ∈ l, True) :=
  opens_slice Try.underlying22 (opens40 w) (by kernel_rfl) (by kernel_rfl)
theorem u8_lo {a : Int} (h : (Lit.int .u8 a).wf = true) : 0 ≤ a := by
  unfold Lit.wf at h
  simp only [Bool.and_eq_true, decide_eq_true_eq] at h
  have h1 : (0 : Int) ≤ a := h.1
  have h2 : a ≤ 255 := h.2
  omega
theorem u8_hi {a : Int} (h : (Lit.int .u8 a).wf = true) : a ≤ 255 := by
  unfold Lit.wf at h
  simp only [Bool.and_eq_true, decide_eq_true_eq] at h
  have h1 : (0 : Int) ≤ a := h.1
  have h2 : a ≤ 255 := h.2
  omega
end Go.Proofs.Ytmiahabiabcohaa.PAll
