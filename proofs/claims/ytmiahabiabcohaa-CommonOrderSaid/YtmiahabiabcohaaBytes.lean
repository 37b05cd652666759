/- The order of strings, byte by byte: what two sorts may lean on. -/
import GoSem.Op.String
namespace Go.Proofs.Ytmiahabiabcohaa.Bytes

theorem less_cons (a b : UInt8) (x y : List UInt8) : Op.bytesLess (a :: x) (b :: y) = (decide (a < b) || (a == b && Op.bytesLess x y)) := rfl
theorem less_nil (x : List UInt8) : Op.bytesLess x [] = false := by cases x <;> rfl
theorem less_iff (a b : UInt8) (x y : List UInt8) : Op.bytesLess (a :: x) (b :: y) = true ↔ a.toNat < b.toNat ∨ a.toNat = b.toNat ∧ Op.bytesLess x y = true := by
  rw [less_cons]
  simp only [Bool.or_eq_true, decide_eq_true_eq, Bool.and_eq_true, beq_iff_eq, UInt8.lt_iff_toNat_lt, ← UInt8.toNat_inj]
theorem less_false (a b : UInt8) (x y : List UInt8) : Op.bytesLess (a :: x) (b :: y) = false ↔ b.toNat < a.toNat ∨ a.toNat = b.toNat ∧ Op.bytesLess x y = false := by
  have h := less_iff a b x y
  cases h1 : Op.bytesLess (a :: x) (b :: y)
  · have h' : ¬ (a.toNat < b.toNat ∨ a.toNat = b.toNat ∧ Op.bytesLess x y = true) := fun z => by have := h.2 z; rw [h1] at this; cases this
    simp only [true_iff]
    cases h2 : Op.bytesLess x y
    · by_cases e : a.toNat = b.toNat
      · exact .inr ⟨e, rfl⟩
      · exact .inl (by omega)
    · rw [h2] at h'
      left
      have : ¬ (a.toNat = b.toNat) := fun e => h' (.inr ⟨e, rfl⟩)
      omega
  · have h' := h.1 h1
    simp only [Bool.true_eq_false, false_iff]
    rintro (h3 | ⟨h3, h4⟩)
    · omega
    · rcases h' with h' | ⟨_, h'⟩
      · omega
      · rw [h4] at h'; cases h'
theorem asym : ∀ x y : List UInt8, Op.bytesLess x y = true → Op.bytesLess y x = false
  | _, [], h => by rw [less_nil] at h; cases h
  | [], b :: y, _ => less_nil _
  | a :: x, b :: y, h => by
    rw [less_iff] at h
    rw [less_false]
    rcases h with h | ⟨h, h2⟩
    · exact .inl h
    · exact .inr ⟨h.symm, asym x y h2⟩
/-- Not less is a total order's other side: it chains. -/
theorem neg_trans : ∀ x y z : List UInt8, Op.bytesLess y x = false → Op.bytesLess z y = false → Op.bytesLess z x = false
  | [], y, z, _, _ => less_nil _
  | a :: x, [], z, h, _ => by cases h
  | a :: x, b :: y, [], _, h => by cases h
  | a :: x, b :: y, c :: z, h1, h2 => by
    rw [less_false] at h1 h2 ⊢
    rcases h1 with h1 | ⟨h1, h1'⟩ <;> rcases h2 with h2 | ⟨h2, h2'⟩
    · exact .inl (by omega)
    · exact .inl (by omega)
    · exact .inl (by omega)
    · exact .inr ⟨by omega, neg_trans x y z h1' h2'⟩
theorem eq_of_neither : ∀ x y : List UInt8, Op.bytesLess x y = false → Op.bytesLess y x = false → x = y
  | [], [], _, _ => rfl
  | [], _ :: _, h, _ => by cases h
  | _ :: _, [], _, h => by cases h
  | a :: x, b :: y, h1, h2 => by
    rw [less_false] at h1 h2
    rcases h1 with h1 | ⟨h1, h1'⟩ <;> rcases h2 with h2 | ⟨h2, h2'⟩
    · omega
    · omega
    · omega
    · rw [UInt8.toNat_inj.1 h1, eq_of_neither x y h1' h2']
theorem irrefl (x : List UInt8) : Op.bytesLess x x = false := by
  cases h : Op.bytesLess x x
  · rfl
  · have := asym x x h; rw [h] at this; cases this
end Go.Proofs.Ytmiahabiabcohaa.Bytes
