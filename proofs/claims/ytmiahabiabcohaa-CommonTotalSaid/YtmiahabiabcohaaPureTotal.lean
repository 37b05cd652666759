import Derived.Test.YtmiahabiabcohaaPureB
import Derived.Test.YtmiahabiabcohaaPureSums
import Derived.Test.YtmiahabiabcohaaPAllx10
namespace Go.Proofs.Ytmiahabiabcohaa.PAll
open Go.RowKit Go.Proofs.YtmiahabiabcohaaW.PrintWords Go.Proofs.YtmiahabiabcohaaW.PrintLast Go.Proofs.YtmiahabiabcohaaW.PrintMore
set_option linter.unusedVariables false
set_option linter.unusedSimpArgs false

def totB (n s m : Int) : Bool := decide (s ≤ n ∧ (n < m ∨ m = 0 ∧ n = 0))
theorem total_loop {l : List S40} (h : Rightly l) (n : Int) : ∀ (d i : Nat) (s m : Int), i + d = l.length → 0 ≤ s → s ≤ 8589934592 * i → 0 ≤ m → m ≤ 8589934592 * i →
    Ev (fun k => arlinklaw16_CommonTotal.l0 k l n s m (i : Int)) (totB n (s + sumF (·.f2) (commons (l.drop i))) (m + sumF (·.f2) (commons (l.drop i)) + sumF (·.f3) (commons (l.drop i)))) := by
  have hfew := h.few
  intro d
  induction d with
  | zero =>
    intro i s m hi hs0 hs1 hm0 hm1
    have hd : l.drop i = [] := List.drop_of_length_le (by omega)
    rw [hd]
    simp only [commons, List.filter_nil, sumF, Int.add_zero]
    refine Ev.step (f := fun _ => some (totB n s m)) (fun k => ?_) (Ev.now _)
    simp only [arlinklaw16_CommonTotal.l0]
    unfold totB
    rw [if_neg (by omega)]
    by_cases c1 : n ≥ s
    · rw [if_pos c1]
      by_cases c2 : n < m
      · rw [if_pos c2]; simp [c1, c2]
      · rw [if_neg c2]
        by_cases c3 : m = 0
        · rw [if_pos c3]
          congr 1
          rw [Bool.eq_iff_iff]
          simp only [beq_iff_eq, decide_eq_true_eq]
          omega
        · rw [if_neg c3]; simp [c1, c2, c3]
    · rw [if_neg c1]; simp [c1]
  | succ d ih =>
    intro i s m hi hs0 hs1 hm0 hm1
    have hil : i < l.length := by omega
    have hc := commons_drop l i hil
    by_cases c : (Hp.at_ z40 l i).f1 = 3
    · rw [if_pos c] at hc
      have hin : Hp.at_ z40 l i ∈ commons l := by
        unfold commons
        rw [List.mem_filter]
        refine ⟨?_, by simp [c]⟩
        rw [at_getElem l i hil]
        exact List.getElem_mem hil
      obtain ⟨f1, f2, f3, f4⟩ := h.fit _ hin
      have h1 := ih (i + 1) (s + (Hp.at_ z40 l i).f2) (m + (Hp.at_ z40 l i).f2 + (Hp.at_ z40 l i).f3) (by omega) (by omega) (by omega) (by omega) (by omega)
      rw [hc]
      simp only [sumF]
      refine Ev.step (f := fun k => arlinklaw16_CommonTotal.l0 k l n (s + (Hp.at_ z40 l i).f2) (m + (Hp.at_ z40 l i).f2 + (Hp.at_ z40 l i).f3) ((i + 1 : Nat) : Int)) (fun k => ?_) ?_
      · simp only [arlinklaw16_CommonTotal.l0]
        rw [if_pos (by omega), if_pos (by omega), rd40, if_pos c, wrap_small (x := s + (Hp.at_ z40 l i).f2) (by omega) (by omega), wrap_small (x := m + (Hp.at_ z40 l i).f2) (by omega) (by omega), wrap_small (x := m + (Hp.at_ z40 l i).f2 + (Hp.at_ z40 l i).f3) (by omega) (by omega), wrap_nat i (by omega)]
      · rw [show s + ((Hp.at_ z40 l i).f2 + sumF (·.f2) (commons (l.drop (i + 1)))) = s + (Hp.at_ z40 l i).f2 + sumF (·.f2) (commons (l.drop (i + 1))) from by omega, show m + ((Hp.at_ z40 l i).f2 + sumF (·.f2) (commons (l.drop (i + 1)))) + ((Hp.at_ z40 l i).f3 + sumF (·.f3) (commons (l.drop (i + 1)))) = m + (Hp.at_ z40 l i).f2 + (Hp.at_ z40 l i).f3 + sumF (·.f2) (commons (l.drop (i + 1))) + sumF (·.f3) (commons (l.drop (i + 1))) from by omega]
        exact h1
    · rw [if_neg c] at hc
      rw [hc]
      refine Ev.step (f := fun k => arlinklaw16_CommonTotal.l0 k l n s m ((i + 1 : Nat) : Int)) (fun k => ?_) (ih (i + 1) s m (by omega) hs0 (by omega) hm0 (by omega))
      simp only [arlinklaw16_CommonTotal.l0]
      rw [if_pos (by omega), if_pos (by omega), rd40, if_neg c, wrap_nat i (by omega)]
theorem CommonTotal_ev (l : List S40) : Ev (fun k => arlinklaw16_CommonTotal.f k l) true := by
  obtain ⟨b, hb, hr⟩ := right_ev l
  have hj1 : Ev (fun k => arlinklaw16_CommonTotal.j0 k l true) true :=
    Ev.step (f := fun k => (arlinklaw16_awake.f k).bind fun t => some t) (fun k => by simp only [arlinklaw16_CommonTotal.j0]; rw [if_pos trivial]) (Ev.bind awake_ev (Ev.now true))
  refine Ev.congr (f := fun k => (arlinklaw16_awake.f k).bind fun t => (if t = true then ((arlinkref16_Right.f k l).bind fun u => (arlinklaw16_CommonTotal.j0 k l (!u))) else (arlinklaw16_CommonTotal.j0 k l true))) (fun k => rfl) ?_
  refine Ev.bind awake_ev (Ev.bind hb ?_)
  cases b with
  | false => exact hj1
  | true =>
    have h := hr rfl
    have hl := total_loop h (endOf (ranked l) 0) l.length 0 0 0 (by omega) (by omega) (by omega) (by omega) (by omega)
    rw [List.drop_zero] at hl
    have hp := (ranked_spec l).1
    obtain ⟨e1, e2⟩ := end_bounds (ranked l) 0 (by omega) h.rank_fit
    rw [sum_perm hp] at e1 e2
    rw [sum_perm (f := (·.f3)) hp] at e2
    have hlen := hp.length_eq
    have hz : (commons l).length = 0 → sumF (·.f2) (commons l) = 0 ∧ sumF (·.f3) (commons l) = 0 ∧ endOf (ranked l) 0 = 0 := by
      intro hz
      have h1 : commons l = [] := List.length_eq_zero_iff.1 hz
      have h2 : ranked l = [] := List.length_eq_zero_iff.1 (by omega)
      rw [h1, h2]
      exact ⟨rfl, rfl, rfl⟩
    have hd : totB (endOf (ranked l) 0) (0 + sumF (·.f2) (commons l)) (0 + sumF (·.f2) (commons l) + sumF (·.f3) (commons l)) = true := by
      apply decide_eq_true
      refine ⟨by omega, ?_⟩
      by_cases c : (commons l).length = 0
      · obtain ⟨z1, z2, z3⟩ := hz c
        exact .inr ⟨by omega, z3⟩
      · exact .inl (by omega)
    rw [hd] at hl
    refine Ev.step (f := fun k => arlinklaw16_CommonTotal.l0 k l (endOf (ranked l) 0) 0 0 ((0 : Nat) : Int)) (fun k => ?_) hl
    simp only [arlinklaw16_CommonTotal.j0, Bool.not_true]
    rw [if_neg (by decide), layout_eq h.fitting]
    rfl

end Go.Proofs.Ytmiahabiabcohaa.PAll
