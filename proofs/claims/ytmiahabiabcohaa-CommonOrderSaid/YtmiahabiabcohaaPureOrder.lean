import Derived.Test.YtmiahabiabcohaaPureB
import Derived.Test.YtmiahabiabcohaaPAllx9
namespace Go.Proofs.Ytmiahabiabcohaa.PAll
open Go.RowKit Go.Proofs.YtmiahabiabcohaaW.PrintWords Go.Proofs.YtmiahabiabcohaaW.PrintLast Go.Proofs.YtmiahabiabcohaaW.PrintMore
set_option linter.unusedVariables false
set_option linter.unusedSimpArgs false

/-! ### CommonOrder -/
theorem CommonOrder_ev (l : List S40) (t : Int) (h0 : 0 ≤ t) (h1 : t ≤ 255) : Ev (fun k => arlinklaw16_CommonOrder.f k l t) true := by
  obtain ⟨b, hb, hr⟩ := right_ev l
  have hj1 : Ev (fun k => arlinklaw16_CommonOrder.j0 k l t true) true :=
    Ev.step (f := fun k => (arlinklaw16_awake.f k).bind fun t => some t) (fun k => by simp only [arlinklaw16_CommonOrder.j0]; rw [if_pos trivial]) (Ev.bind awake_ev (Ev.now true))
  refine Ev.congr (f := fun k => (arlinklaw16_awake.f k).bind fun t234 => (if t234 = true then ((arlinkref16_Right.f k l).bind fun t235 => (if t235 = true then (arlinklaw16_CommonOrder.j0 k l t ((l.length : Int) == 0)) else (arlinklaw16_CommonOrder.j0 k l t true))) else (arlinklaw16_CommonOrder.j0 k l t true))) (fun k => rfl) ?_
  refine Ev.bind awake_ev (Ev.bind hb ?_)
  cases b with
  | false => exact hj1
  | true =>
    have h := hr rfl
    by_cases c : (l.length : Int) = 0
    · have : ((l.length : Int) == 0) = true := by simp [c]
      simp only [this]
      exact hj1
    · have hc : ((l.length : Int) == 0) = false := by simpa using c
      simp only [hc, if_true]
      have hw : wrap64 t = t := wrap_small (by omega) (by omega)
      have htm : Int.tmod t (l.length : Int) = t % (l.length : Int) := Int.tmod_eq_emod_of_nonneg h0
      have hr0 := Int.emod_nonneg t c
      have hr1 := Int.emod_lt_of_pos t (show 0 < (l.length : Int) by omega)
      have hfew := h.few
      generalize hq : t % (l.length : Int) = q at *
      have hperm : (l.drop q.toNat ++ l.take q.toNat).Perm l := by
        have := List.perm_append_comm (l₁ := l.drop q.toNat) (l₂ := l.take q.toNat)
        rwa [List.take_append_drop] at this
      have hm := h.perm hperm
      have hs := slots_le h 0
      refine Ev.step (f := fun k => (arlinklaw16_slots.f k (slotsOf (ranked l) 0)).bind fun t264 => ((arlinklaw16_slots.f k (slotsOf (ranked l) 0)).bind fun t267 => ((arlinkref16_Same.f k t264 t267).bind fun t270 => (if t270 = true then (if endOf (ranked l) 0 = endOf (ranked l) 0 then (some (alOf (ranked l) 1 == alOf (ranked l) 1)) else (some false)) else (some false))))) (fun k => ?_) ?_
      · simp only [arlinklaw16_CommonOrder.j0]
        rw [if_neg (by decide), if_neg c, hw, htm]
        simp only [Option.bind_some, List.nil_append, List.length_nil, List.length_drop, List.length_take]
        rw [if_pos hr0, if_pos (by omega), if_pos (by omega), if_pos (by omega), layout_eq h.fitting, layout_eq hm.fitting, ranked_perm h.apart hperm]
        simp only [Option.bind_some]
      · refine Ev.bind (slots_ev _ (by omega)) (Ev.bind (slots_ev _ (by omega)) (Ev.bind (same_ev _ (by rw [List.length_map]; omega)) ?_))
        exact Ev.congr (fun k => by simp) (Ev.now true)

end Go.Proofs.Ytmiahabiabcohaa.PAll
