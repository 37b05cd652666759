import Derived.Test.YtmiahabiabcohaaPureA
namespace Go.Proofs.Ytmiahabiabcohaa.PAll
open Go.RowKit Go.Proofs.YtmiahabiabcohaaW.PrintWords Go.Proofs.YtmiahabiabcohaaW.PrintLast Go.Proofs.YtmiahabiabcohaaW.PrintMore
set_option linter.unusedVariables false
set_option linter.unusedSimpArgs false

/-! ### CommonTotal -/
def sumF (f : S40 → Int) : List S40 → Int
  | [] => 0
  | x :: r => f x + sumF f r
theorem sum_perm {f : S40 → Int} {a b : List S40} (h : a.Perm b) : sumF f a = sumF f b := by
  induction h with
  | nil => rfl
  | cons x _ ih => simp only [sumF, ih]
  | swap x y l => simp only [sumF]; omega
  | trans _ _ ih1 ih2 => rw [ih1, ih2]
theorem sum_bounds (f : S40 → Int) (lo hi : Int) : ∀ (c : List S40), (∀ x, x ∈ c → lo ≤ f x ∧ f x ≤ hi) → lo * c.length ≤ sumF f c ∧ sumF f c ≤ hi * c.length
  | [], _ => by simp [sumF]
  | x :: r, h => by
    obtain ⟨h1, h2⟩ := sum_bounds f lo hi r (fun y hy => h y (List.mem_cons_of_mem _ hy))
    obtain ⟨h3, h4⟩ := h x List.mem_cons_self
    simp only [sumF, List.length_cons]
    have e1 : lo * ((r.length + 1 : Nat) : Int) = lo * r.length + lo := by rw [Int.natCast_add, Int.mul_add]; omega
    have e2 : hi * ((r.length + 1 : Nat) : Int) = hi * r.length + hi := by rw [Int.natCast_add, Int.mul_add]; omega
    rw [e1, e2]
    omega
theorem end_bounds : ∀ (D : List S40) (e : Int), 0 ≤ e → (∀ x, x ∈ D → fits x) → e + sumF (·.f2) D ≤ endOf D e ∧ endOf D e + D.length ≤ e + sumF (·.f2) D + sumF (·.f3) D
  | [], e, _, _ => by simp [sumF, endOf]
  | x :: r, e, he, h => by
    have hx := h x List.mem_cons_self
    obtain ⟨p1, p2, p3, p4⟩ := placed_end he hx
    obtain ⟨h1, h2⟩ := end_bounds r (placed e x + x.f2) p3 (fun y hy => h y (List.mem_cons_of_mem _ hy))
    simp only [sumF, endOf, List.length_cons]
    omega
end Go.Proofs.Ytmiahabiabcohaa.PAll
