import Derived.Test.YtmiahabiabcohaaPureB
import Derived.Test.YtmiahabiabcohaaPureSums
import Derived.Test.YtmiahabiabcohaaPAllx8
namespace Go.Proofs.Ytmiahabiabcohaa.PAll
open Go.RowKit Go.Proofs.YtmiahabiabcohaaW.PrintWords Go.Proofs.YtmiahabiabcohaaW.PrintLast Go.Proofs.YtmiahabiabcohaaW.PrintMore
set_option linter.unusedVariables false
set_option linter.unusedSimpArgs false

/-! ### CommonDisjoint -/
theorem al_ge : ∀ (D : List S40) (a : Int) (x : S40), x ∈ D → x.f3 ≤ alOf D a
  | y :: r, a, x, h => by
    have mono : ∀ (r : List S40) (b : Int), b ≤ alOf r b := by
      intro r
      induction r with
      | nil => intro b; exact Int.le_refl _
      | cons z r ih => intro b; simp only [alOf]; have h1 := ih (mx b z.f3); have h2 : b ≤ mx b z.f3 := (by unfold mx; split <;> omega); omega
    rcases List.mem_cons.1 h with rfl | h
    · simp only [alOf]
      have h1 := mono r (mx a x.f3)
      have h2 : x.f3 ≤ mx a x.f3 := by unfold mx; split <;> omega
      omega
    · simp only [alOf]; exact al_ge r _ x h
theorem slots_at : ∀ (D : List S40) (e : Int) (i : Nat) (h : i < D.length), rd_T32 (slotsOf D e) i = ⟨D[i].f0, placed (endOf (D.take i) e) D[i], D[i].f2⟩
  | x :: r, e, 0, h => rfl
  | x :: r, e, i + 1, h => by
    have := slots_at r (placed e x + x.f2) i (by simpa using h)
    simpa [slotsOf, endOf, rd_T32] using this
theorem end_succ : ∀ (D : List S40) (e : Int) (i : Nat) (h : i < D.length), endOf (D.take (i + 1)) e = placed (endOf (D.take i) e) D[i] + D[i].f2
  | x :: r, e, 0, h => by simp [endOf]
  | x :: r, e, i + 1, h => by
    have := end_succ r (placed e x + x.f2) i (by simpa using h)
    simpa [endOf] using this
theorem end_take (D : List S40) (i : Nat) (hf : ∀ x, x ∈ D → fits x) : 0 ≤ endOf (D.take i) 0 ∧ endOf (D.take i) 0 ≤ 4295032831 * i := by
  have hin : ∀ x, x ∈ D.take i → fits x := fun x hx => hf x (List.mem_of_mem_take hx)
  obtain ⟨h1, h2⟩ := end_bounds (D.take i) 0 (by omega) hin
  have s2 := sum_bounds (·.f2) 0 4294967295 (D.take i) (fun x hx => ⟨(hin x hx).1, (hin x hx).2.1⟩)
  have s3 := sum_bounds (·.f3) 0 65536 (D.take i) (fun x hx => ⟨by have := (hin x hx).2.2.1; omega, (hin x hx).2.2.2⟩)
  have hl : (D.take i).length ≤ i := by rw [List.length_take]; omega
  omega
theorem disjoint_l2 {l : List S40} (h : Rightly l) (n a e : Int) (s : List S32) (hs : s.length = (commons l).length) (hne : n = e) (ha : s.length = 0 → a = 1) : ∀ (d i : Nat) (c : Nat), i + d = l.length → c + (commons (l.drop i)).length = (commons l).length →
    Ev (fun k => arlinklaw16_CommonDisjoint.l2 k l s n a e (c : Int) (i : Int)) true := by
  have hfew := h.few
  have hcl := commons_length l
  intro d
  induction d with
  | zero =>
    intro i c hi hc
    have hd : l.drop i = [] := List.drop_of_length_le (by omega)
    rw [hd] at hc
    simp only [commons, List.filter_nil, List.length_nil, Nat.add_zero] at hc
    have hc' : s.length = c := by rw [hs]; exact hc.symm
    refine Ev.step (f := fun _ => some true) (fun k => ?_) (Ev.now _)
    simp only [arlinklaw16_CommonDisjoint.l2]
    rw [if_neg (by omega), if_pos (by omega), if_pos hne]
    by_cases c1 : (c : Int) > 0
    · rw [if_pos c1]
    · rw [if_neg c1, ha (by omega)]; rfl
  | succ d ih =>
    intro i c hi hc
    have hil : i < l.length := by omega
    have hcd := commons_drop l i hil
    by_cases c1 : (Hp.at_ z40 l i).f1 = 3
    · rw [if_pos c1] at hcd
      rw [hcd, List.length_cons] at hc
      refine Ev.step (f := fun k => arlinklaw16_CommonDisjoint.l2 k l s n a e ((c + 1 : Nat) : Int) ((i + 1 : Nat) : Int)) (fun k => ?_) (ih (i + 1) (c + 1) (by omega) (by omega))
      simp only [arlinklaw16_CommonDisjoint.l2]
      rw [if_pos (by omega), if_pos (by omega), rd40, if_pos c1, wrap_nat c (by omega), wrap_nat i (by omega)]
    · rw [if_neg c1] at hcd
      rw [hcd] at hc
      refine Ev.step (f := fun k => arlinklaw16_CommonDisjoint.l2 k l s n a e (c : Int) ((i + 1 : Nat) : Int)) (fun k => ?_) (ih (i + 1) c (by omega) hc)
      simp only [arlinklaw16_CommonDisjoint.l2]
      rw [if_pos (by omega), if_pos (by omega), rd40, if_neg c1, wrap_nat i (by omega)]
theorem disjoint_l1 {l : List S40} (h : Rightly l) (n a e : Int) (s : List S32) (i : Nat) (x : S40) (hx : x ∈ commons l) (hi : i < s.length) (hsl : s.length ≤ 100) (hrd : rd_T32 s i = ⟨x.f0, placed e x, x.f2⟩) (he0 : 0 ≤ e) (he1 : e ≤ 858993459200) (ha : x.f3 ≤ a)
    (h0 : Ev (fun k => arlinklaw16_CommonDisjoint.l0 k l s n a (placed e x + x.f2) ((i + 1 : Nat) : Int)) true) : ∀ (d q : Nat) (f : Bool), q + d = l.length → (f = true ∨ ∃ j, q ≤ j ∧ j < l.length ∧ Hp.at_ z40 l j = x) →
    Ev (fun k => arlinklaw16_CommonDisjoint.l1 k l s n a e (i : Int) f (q : Int)) true := by
  have hfew := h.few
  obtain ⟨p1, p2, p3, p4⟩ := placed_end he0 (h.fit x hx)
  obtain ⟨f1, f2, f3, f4⟩ := h.fit x hx
  have hm := placed_mod e x
  intro d
  induction d with
  | zero =>
    intro q f hq hf
    have hft : f = true := by
      rcases hf with hf | ⟨j, h1, h2, _⟩
      · exact hf
      · omega
    subst hft
    refine Ev.step (fun k => ?_) h0
    simp only [arlinklaw16_CommonDisjoint.l1]
    rw [if_neg (by omega), if_pos trivial, if_pos (by omega), if_pos (by omega), hrd]
    dsimp only
    rw [if_neg (by omega), wrap_small (x := placed e x + x.f2) (by omega) (by omega), wrap_nat i (by omega)]
  | succ d ih =>
    intro q f hq hf
    have hql : q < l.length := by omega
    have hxf1 : x.f1 = 3 := by
      have := (List.mem_filter.1 hx).2
      exact beq_iff_eq.1 this
    by_cases c : Hp.at_ z40 l q = x
    · refine Ev.step (f := fun k => arlinklaw16_CommonDisjoint.j3 k l s n a e (i : Int) f (q : Int) true) (fun k => ?_) (Ev.step (f := fun k => arlinklaw16_CommonDisjoint.l1 k l s n a e (i : Int) true ((q + 1 : Nat) : Int)) (fun k => ?_) (ih (q + 1) true (by omega) (.inl rfl)))
      · simp only [arlinklaw16_CommonDisjoint.l1]
        rw [if_pos (by omega), if_pos (by omega), rd40, c, if_pos hxf1, if_pos (by omega), if_pos (by omega), hrd]
        simp
      · simp only [arlinklaw16_CommonDisjoint.j3]
        rw [if_pos trivial, if_pos (by omega), if_pos (by omega), if_pos (by omega), if_pos (by omega), rd40, c, hrd]
        dsimp only
        rw [if_pos rfl, if_neg (by omega), if_pos (by rw [Int.tmod_eq_emod_of_nonneg (by omega)]; exact hm), if_neg (by rw [wrap_small (by omega) (by omega)]; omega), if_neg (by omega), wrap_nat q (by omega)]
    · have hnext := ih (q + 1) f (by omega) (by
        rcases hf with hf | ⟨j, h1, h2, h3⟩
        · exact .inl hf
        · refine .inr ⟨j, ?_, h2, h3⟩
          rcases Nat.lt_or_ge q j with h4 | h4
          · exact h4
          · have : j = q := by omega
            subst this
            exact absurd h3 c)
      have hj : Ev (fun k => arlinklaw16_CommonDisjoint.j3 k l s n a e (i : Int) f (q : Int) false) true := by
        refine Ev.step (fun k => ?_) hnext
        simp only [arlinklaw16_CommonDisjoint.j3]
        rw [if_neg (by decide), wrap_nat q (by omega)]
      refine Ev.step (fun k => ?_) hj
      simp only [arlinklaw16_CommonDisjoint.l1]
      rw [if_pos (by omega), if_pos (by omega), rd40]
      by_cases c3 : (Hp.at_ z40 l q).f1 = 3
      · have hin : Hp.at_ z40 l q ∈ commons l := by
          unfold commons
          rw [List.mem_filter]
          refine ⟨?_, by simp [c3]⟩
          rw [at_getElem l q hql]
          exact List.getElem_mem hql
        have hne : ((Hp.at_ z40 l q).f0.toList == x.f0.toList) = false := by
          apply beq_eq_false_iff_ne.2
          intro e1
          exact c (apart_eq h.apart hin hx e1)
        rw [if_pos c3, if_pos (by omega), if_pos (by omega), hrd]
        simp only [hne]
      · rw [if_neg c3]
theorem disjoint_l0 {l : List S40} (h : Rightly l) : ∀ (d i : Nat), i + d = (ranked l).length →
    Ev (fun k => arlinklaw16_CommonDisjoint.l0 k l (slotsOf (ranked l) 0) (endOf (ranked l) 0) (alOf (ranked l) 1) (endOf ((ranked l).take i) 0) (i : Int)) true := by
  have hfew := h.few
  have hcl := commons_length l
  have hlen := (ranked_spec l).1.length_eq
  have hsl : (slotsOf (ranked l) 0).length = (ranked l).length := slotsOf_length _ _
  intro d
  induction d with
  | zero =>
    intro i hi
    have ht : (ranked l).take i = ranked l := List.take_of_length_le (by omega)
    rw [ht]
    refine Ev.step (f := fun k => arlinklaw16_CommonDisjoint.l2 k l (slotsOf (ranked l) 0) (endOf (ranked l) 0) (alOf (ranked l) 1) (endOf (ranked l) 0) ((0 : Nat) : Int) ((0 : Nat) : Int)) (fun k => ?_) (disjoint_l2 h _ _ _ _ (by omega) rfl (fun hz => ?_) l.length 0 0 (by omega) (by rw [List.drop_zero]; omega))
    · simp only [arlinklaw16_CommonDisjoint.l0]
      rw [if_neg (by omega)]
      rfl
    · have : ranked l = [] := List.length_eq_zero_iff.1 (by omega)
      rw [this]
      rfl
  | succ d ih =>
    intro i hi
    have hil : i < (ranked l).length := by omega
    have hx : (ranked l)[i] ∈ commons l := (ranked_spec l).1.mem_iff.1 (List.getElem_mem hil)
    obtain ⟨e0, e1⟩ := end_take (ranked l) i h.rank_fit
    have hnext := ih (i + 1) (by omega)
    rw [end_succ (ranked l) 0 i hil] at hnext
    have hmem : ∃ j, 0 ≤ j ∧ j < l.length ∧ Hp.at_ z40 l j = (ranked l)[i] := by
      obtain ⟨j, hj, hjx⟩ := List.getElem_of_mem (List.mem_filter.1 hx).1
      exact ⟨j, Nat.zero_le _, hj, by rw [at_getElem l j hj]; exact hjx⟩
    refine Ev.step (f := fun k => arlinklaw16_CommonDisjoint.l1 k l (slotsOf (ranked l) 0) (endOf (ranked l) 0) (alOf (ranked l) 1) (endOf ((ranked l).take i) 0) (i : Int) false ((0 : Nat) : Int)) (fun k => ?_) (disjoint_l1 h _ _ _ _ i _ hx (by omega) (by omega) (slots_at _ _ i hil) e0 (by omega) (al_ge _ _ _ (List.getElem_mem hil)) hnext l.length 0 false (by omega) (.inr hmem))
    simp only [arlinklaw16_CommonDisjoint.l0]
    rw [if_pos (by omega)]
    rfl
theorem CommonDisjoint_ev (l : List S40) : Ev (fun k => arlinklaw16_CommonDisjoint.f k l) true := by
  obtain ⟨b, hb, hr⟩ := right_ev l
  have hj1 : Ev (fun k => arlinklaw16_CommonDisjoint.j0 k l true) true :=
    Ev.step (f := fun k => (arlinklaw16_awake.f k).bind fun t => some t) (fun k => by simp only [arlinklaw16_CommonDisjoint.j0]; rw [if_pos trivial]) (Ev.bind awake_ev (Ev.now true))
  refine Ev.congr (f := fun k => (arlinklaw16_awake.f k).bind fun t => (if t = true then ((arlinkref16_Right.f k l).bind fun u => (arlinklaw16_CommonDisjoint.j0 k l (!u))) else (arlinklaw16_CommonDisjoint.j0 k l true))) (fun k => rfl) ?_
  refine Ev.bind awake_ev (Ev.bind hb ?_)
  cases b with
  | false => exact hj1
  | true =>
    have h := hr rfl
    refine Ev.step (fun k => ?_) (disjoint_l0 h (ranked l).length 0 (by omega))
    simp only [arlinklaw16_CommonDisjoint.j0, Bool.not_true]
    rw [if_neg (by decide), layout_eq h.fitting]
    rfl
end Go.Proofs.Ytmiahabiabcohaa.PAll
