import Derived.Test.YtmiahabiabcohaaPureB
import Derived.Test.YtmiahabiabcohaaPAllx6
namespace Go.Proofs.Ytmiahabiabcohaa.PAll
open Go.RowKit Go.Proofs.YtmiahabiabcohaaW.PrintWords Go.Proofs.YtmiahabiabcohaaW.PrintLast Go.Proofs.YtmiahabiabcohaaW.PrintMore
set_option linter.unusedVariables false
set_option linter.unusedSimpArgs false

/-! ### the reference's Layout -/
def ins : List S40 → S40 → List S40
  | [], x => [x]
  | y :: r, x => if lessS y x = true then y :: ins r x else x :: y :: r
theorem ins_length : ∀ (S : List S40) (x : S40), (ins S x).length = S.length + 1
  | [], _ => rfl
  | y :: r, x => by
    simp only [ins]
    split
    · rw [List.length_cons, ins_length r x, List.length_cons]
    · rfl
theorem ins_perm : ∀ (S : List S40) (x : S40), (ins S x).Perm (x :: S)
  | [], _ => List.Perm.refl _
  | y :: r, x => by
    simp only [ins]
    split
    · exact ((ins_perm r x).cons y).trans (List.Perm.swap x y r)
    · exact List.Perm.refl _
theorem ins_sorted : ∀ (S : List S40) (x : S40), S.Pairwise (fun a b => lessS b a = false) → (ins S x).Pairwise (fun a b => lessS b a = false)
  | [], x, _ => List.pairwise_singleton _ _
  | y :: r, x, h => by
    rw [List.pairwise_cons] at h
    simp only [ins]
    split
    · rename_i hl
      refine List.Pairwise.cons (fun b hb => ?_) (ins_sorted r x h.2)
      rcases List.mem_cons.1 ((ins_perm r x).mem_iff.1 hb) with rfl | hb'
      · exact lessS_ord.asym _ _ hl
      · exact h.1 b hb'
    · rename_i hl
      have hl' : lessS y x = false := by cases hx : lessS y x; rfl; exact absurd hx hl
      refine List.Pairwise.cons (fun b hb => ?_) (List.Pairwise.cons h.1 h.2)
      rcases List.mem_cons.1 hb with rfl | hb'
      · exact hl'
      · exact lessS_ord.trans _ _ _ hl' (h.1 b hb')
def insAll (S : List S40) (c : List S40) : List S40 := c.foldl ins S
theorem insAll_spec : ∀ (c S : List S40), S.Pairwise (fun a b => lessS b a = false) → (insAll S c).Perm (c ++ S) ∧ (insAll S c).Pairwise (fun a b => lessS b a = false)
  | [], S, h => ⟨List.Perm.refl _, h⟩
  | x :: r, S, h => by
    obtain ⟨h1, h2⟩ := insAll_spec r (ins S x) (ins_sorted S x h)
    refine ⟨h1.trans ?_, h2⟩
    exact ((ins_perm S x).append_left r).trans List.perm_middle
theorem insAll_ranked {l : List S40} (h : Apart l) : insAll [] (commons l) = ranked l := by
  obtain ⟨h1, h2⟩ := insAll_spec (commons l) [] List.Pairwise.nil
  exact ranked_unique h (by simpa using h1) h2
theorem before_eq (a b : S40) : arlinkref16_before.f a.f0 a.f1 a.f2 a.f3 a.f4 b.f0 b.f1 b.f2 b.f3 b.f4 = some (lessS a b) := by
  unfold arlinkref16_before.f lessS
  split
  · split <;> rfl
  · rfl
/-- The third loop: the slots out of the sorted list. -/
theorem ref_l2 (S : List S40) (hS : S.length ≤ 100) (hf : ∀ x, x ∈ S → fits x) : ∀ (d i : Nat) (acc : List S35) (e a : Int), i + d = S.length → acc.length = i → 0 ≤ e → e ≤ 8589934592 * i →
    Ev (fun k => arlinkref16_Layout.l2 k S acc e a (i : Int)) (acc ++ (slotsOf (S.drop i) e).map to35, endOf (S.drop i) e, alOf (S.drop i) a) := by
  intro d
  induction d with
  | zero =>
    intro i acc e a hi hacc h0 h1
    refine Ev.step (f := fun _ => some (acc ++ (slotsOf (S.drop i) e).map to35, endOf (S.drop i) e, alOf (S.drop i) a)) (fun k => ?_) (Ev.now _)
    simp only [arlinkref16_Layout.l2]
    rw [if_neg (by omega), List.drop_of_length_le (by omega)]
    simp [slotsOf, endOf, alOf]
  | succ d ih =>
    intro i acc e a hi hacc h0 h1
    have hil : i < S.length := by omega
    have hx := hf _ (List.getElem_mem hil)
    rw [← at_getElem S i hil] at hx
    have hd : S.drop i = Hp.at_ z40 S i :: S.drop (i + 1) := by rw [List.drop_eq_getElem_cons hil, at_getElem S i hil]
    generalize hx' : Hp.at_ z40 S i = x at hx hd
    obtain ⟨p1, p2, p3, p4⟩ := placed_end h0 hx
    obtain ⟨f1, f2, f3, f4⟩ := hx
    have hm := placed_mod e x
    have hstep := ih (i + 1) (acc ++ [⟨x.f0, placed e x, x.f2⟩]) (placed e x + x.f2) (mx a x.f3) (by omega) (by rw [List.length_append, List.length_singleton]; omega) (by omega) (by omega)
    have hres : (acc ++ [(⟨x.f0, placed e x, x.f2⟩ : S35)] ++ (slotsOf (S.drop (i + 1)) (placed e x + x.f2)).map to35, endOf (S.drop (i + 1)) (placed e x + x.f2), alOf (S.drop (i + 1)) (mx a x.f3)) = (acc ++ (slotsOf (S.drop i) e).map to35, endOf (S.drop i) e, alOf (S.drop i) a) := by
      rw [hd]
      simp [slotsOf, endOf, alOf, to35]
    rw [hres] at hstep
    refine Ev.step (f := fun k => arlinkref16_Layout.l2 k S (acc ++ [⟨x.f0, placed e x, x.f2⟩]) (placed e x + x.f2) (mx a x.f3) ((i + 1 : Nat) : Int)) (fun k => ?_) hstep
    simp only [arlinkref16_Layout.l2]
    rw [if_pos (by omega), if_pos (by omega), rd40, hx', if_neg (by omega)]
    have htm : Int.tmod e x.f3 = e % x.f3 := Int.tmod_eq_emod_of_nonneg h0
    have hr0 := Int.emod_nonneg e (show x.f3 ≠ 0 by omega)
    have hr1 := Int.emod_lt_of_pos e (show 0 < x.f3 by omega)
    rw [htm]
    by_cases c : e % x.f3 = 0
    · have hpe : placed e x = e := placed_here h0 f3 c
      rw [if_pos c, if_pos (by omega), hpe, wrap_small (by omega) (by omega), wrap_nat i (by omega)]
    · have hpe : e + x.f3 - e % x.f3 = placed e x := placed_there h0 f3 c
      rw [if_neg c, if_pos (by omega), wrap_small (x := e + x.f3) (by omega) (by omega), wrap_small (x := e + x.f3 - e % x.f3) (by omega) (by omega), hpe, wrap_small (x := placed e x + x.f2) (by omega) (by omega), wrap_nat i (by omega)]
theorem ref_l1 (l S : List S40) (hl : l.length ≤ 100) (hS : S.length ≤ 100) (i : Nat) (hi : i < l.length) (R : List S35 × Int × Int) : ∀ (d q : Nat), q + d = S.length →
    Ev (fun k => arlinkref16_Layout.l0 k l (S.take q ++ ins (S.drop q) (Hp.at_ z40 l i)) ((i + 1 : Nat) : Int)) R → Ev (fun k => arlinkref16_Layout.l1 k l S (i : Int) (S.take q) (q : Int)) R := by
  intro d
  induction d with
  | zero =>
    intro q hq h
    refine Ev.step (f := fun k => arlinkref16_Layout.l0 k l (S.take q ++ ins (S.drop q) (Hp.at_ z40 l i)) ((i + 1 : Nat) : Int)) (fun k => ?_) h
    have hd : S.drop q = [] := List.drop_of_length_le (by omega)
    simp only [arlinkref16_Layout.l1]
    rw [if_neg (by omega), if_pos (by omega), if_pos (by omega), if_pos (by rw [List.length_take]; omega)]
    simp only [Option.bind_some, Int.toNat_natCast, hd, rd40, ins, List.length_append, List.length_take, List.length_singleton, List.length_nil, List.append_nil]
    rw [if_pos (by omega), if_pos (by omega), if_pos (by omega), wrap_nat i (by omega)]
  | succ d ih =>
    intro q hq h
    have hql : q < S.length := by omega
    have hd : S.drop q = Hp.at_ z40 S q :: S.drop (q + 1) := by rw [List.drop_eq_getElem_cons hql, at_getElem S q hql]
    have ht : S.take (q + 1) = S.take q ++ [Hp.at_ z40 S q] := by rw [List.take_succ_eq_append_getElem hql, at_getElem S q hql]
    cases hb : lessS (Hp.at_ z40 S q) (Hp.at_ z40 l i) with
    | true =>
      have h' : Ev (fun k => arlinkref16_Layout.l0 k l (S.take (q + 1) ++ ins (S.drop (q + 1)) (Hp.at_ z40 l i)) ((i + 1 : Nat) : Int)) R := by
        have e : S.take (q + 1) ++ ins (S.drop (q + 1)) (Hp.at_ z40 l i) = S.take q ++ ins (S.drop q) (Hp.at_ z40 l i) := by
          rw [hd, ht]
          simp only [ins]
          rw [if_pos hb]
          simp
        rw [e]
        exact h
      refine Ev.step (f := fun k => arlinkref16_Layout.l1 k l S (i : Int) (S.take (q + 1)) ((q + 1 : Nat) : Int)) (fun k => ?_) (ih (q + 1) (by omega) h')
      simp only [arlinkref16_Layout.l1]
      rw [if_pos (by omega), if_pos (by omega), if_pos (by omega), if_pos (by omega), rd40, rd40, before_eq, hb]
      simp only [Option.bind_some, if_true]
      rw [if_pos (by rw [List.length_take]; omega), wrap_nat q (by omega), ht]
    | false =>
      refine Ev.step (f := fun k => arlinkref16_Layout.l0 k l (S.take q ++ ins (S.drop q) (Hp.at_ z40 l i)) ((i + 1 : Nat) : Int)) (fun k => ?_) h
      have e : S.take q ++ ins (S.drop q) (Hp.at_ z40 l i) = S.take q ++ [Hp.at_ z40 l i] ++ S.drop q := by
        rw [hd]
        simp only [ins]
        rw [if_neg (by rw [hb]; decide)]
        simp
      rw [e]
      simp only [arlinkref16_Layout.l1]
      rw [if_pos (by omega), if_pos (by omega), if_pos (by omega), if_pos (by omega), rd40, rd40, before_eq, hb]
      simp only [Option.bind_some, Bool.false_eq_true, if_false, Int.toNat_natCast]
      rw [if_pos (by rw [List.length_take]; omega), if_pos (by omega)]
      simp only [List.length_append, List.length_take, List.length_singleton, List.length_drop]
      rw [if_pos (by omega), wrap_nat i (by omega)]
theorem ref_l0 (l : List S40) (hl : l.length ≤ 100) (hf : ∀ x, x ∈ commons l → fits x) : ∀ (d i : Nat) (S : List S40), i + d = l.length → S.length ≤ i → (∀ x, x ∈ S → x ∈ commons l) →
    Ev (fun k => arlinkref16_Layout.l0 k l S (i : Int)) ((slotsOf (insAll S (commons (l.drop i))) 0).map to35, endOf (insAll S (commons (l.drop i))) 0, alOf (insAll S (commons (l.drop i))) 1) := by
  intro d
  induction d with
  | zero =>
    intro i S hi hS hm
    have hd : l.drop i = [] := List.drop_of_length_le (by omega)
    rw [hd]
    show Ev _ ((slotsOf S 0).map to35, endOf S 0, alOf S 1)
    have h2 := ref_l2 S (by omega) (fun x hx => hf x (hm x hx)) S.length 0 [] 0 1 (by omega) rfl (by omega) (by omega)
    refine Ev.step (f := fun k => arlinkref16_Layout.l2 k S [] 0 1 ((0 : Nat) : Int)) (fun k => ?_) h2
    simp only [arlinkref16_Layout.l0]
    rw [if_neg (by omega)]
    rfl
  | succ d ih =>
    intro i S hi hS hm
    have hil : i < l.length := by omega
    have hc := commons_drop l i hil
    by_cases c : (Hp.at_ z40 l i).f1 = 3
    · rw [if_pos c] at hc
      rw [hc]
      have hin : Hp.at_ z40 l i ∈ commons l := by
        unfold commons
        rw [List.mem_filter]
        refine ⟨?_, by simp [c]⟩
        rw [at_getElem l i hil]
        exact List.getElem_mem hil
      have h1 := ih (i + 1) (ins S (Hp.at_ z40 l i)) (by omega) (by rw [ins_length]; omega) (fun x hx => by
        rcases List.mem_cons.1 ((ins_perm S _).mem_iff.1 hx) with rfl | hx'
        · exact hin
        · exact hm x hx')
      refine Ev.step (f := fun k => arlinkref16_Layout.l1 k l S (i : Int) (S.take 0) ((0 : Nat) : Int)) (fun k => ?_) (ref_l1 l S hl (by omega) i hil _ S.length 0 (by omega) (by simpa [insAll] using h1))
      simp only [arlinkref16_Layout.l0]
      rw [if_pos (by omega), if_pos (by omega), rd40, if_pos c]
      rfl
    · rw [if_neg c] at hc
      rw [hc]
      refine Ev.step (f := fun k => arlinkref16_Layout.l0 k l S ((i + 1 : Nat) : Int)) (fun k => ?_) (ih (i + 1) S (by omega) (by omega) hm)
      simp only [arlinkref16_Layout.l0]
      rw [if_pos (by omega), if_pos (by omega), rd40, if_neg c, wrap_nat i (by omega)]
theorem ref_ev {l : List S40} (h : Rightly l) : Ev (fun k => arlinkref16_Layout.f k l) ((slotsOf (ranked l) 0).map to35, endOf (ranked l) 0, alOf (ranked l) 1) := by
  have h1 := ref_l0 l h.few h.fit l.length 0 [] (by omega) (by simp) (fun x hx => by cases hx)
  rw [List.drop_zero, insAll_ranked h.apart] at h1
  exact h1

end Go.Proofs.Ytmiahabiabcohaa.PAll
