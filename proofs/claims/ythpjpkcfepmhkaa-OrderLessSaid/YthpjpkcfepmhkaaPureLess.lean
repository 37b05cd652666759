import Derived.Test.YthpjpkcfepmhkaaPureMatch
import Derived.Test.YthpjpkcfepmhkaaPureGraph
import Derived.Test.YthpjpkcfepmhkaaPAllx8
namespace Go.Proofs.Ythpjpkcfepmhkaa.PAll
open Go.RowKit Go.Proofs.YthpjpkcfepmhkaaW.PrintWords Go.Proofs.YthpjpkcfepmhkaaW.PrintLast Go.Proofs.YthpjpkcfepmhkaaW.PrintMore
set_option linter.unusedVariables false
set_option linter.unusedSimpArgs false

theorem lex_loop (a b : List Int) (hab : a.length = b.length) (hl : b.length ≤ 1099511627776) (hpq : b = a ∨ ∃ p x y s t, b = p ++ x :: s ∧ a = p ++ y :: t ∧ x < y) : Ev (fun k => arlinklaw23_OrderLess.l0 k a b 0) true := by
  rcases hpq with rfl | ⟨p, x, y, s, t, hb, ha, hxy⟩
  · have loop : ∀ (d i : Nat), i + d = b.length → Ev (fun k => arlinklaw23_OrderLess.l0 k b b (i : Int)) true := by
      intro d
      induction d with
      | zero => intro i h; exact Ev.step (f := fun _ => some true) (fun k => by simp only [arlinklaw23_OrderLess.l0]; rw [if_neg (by omega)]) (Ev.now _)
      | succ d ih => intro i h; exact Ev.step (f := fun k => arlinklaw23_OrderLess.l0 k b b ((i + 1 : Nat) : Int)) (fun k => by simp only [arlinklaw23_OrderLess.l0]; rw [if_pos (by omega), if_pos (by omega), if_pos (by omega), if_true, wrap_nat i (by omega)]) (ih (i + 1) (by omega))
    exact loop b.length 0 (by omega)
  · have hpl : p.length < b.length := by rw [hb]; simp
    have hpa : p.length < a.length := by omega
    have gb : ∀ i : Nat, i < p.length → rd b (i : Int) = rd a (i : Int) := by
      intro i hi
      unfold rd
      rw [Int.toNat_natCast, hb, ha, List.getD_eq_getElem?_getD, List.getD_eq_getElem?_getD, List.getElem?_append_left hi, List.getElem?_append_left hi]
    have gx : rd b (p.length : Int) = x := by
      unfold rd
      rw [Int.toNat_natCast, hb, List.getD_eq_getElem?_getD, List.getElem?_append_right (Nat.le_refl _), Nat.sub_self]; rfl
    have gy : rd a (p.length : Int) = y := by
      unfold rd
      rw [Int.toNat_natCast, ha, List.getD_eq_getElem?_getD, List.getElem?_append_right (Nat.le_refl _), Nat.sub_self]; rfl
    have loop : ∀ (d i : Nat), i + d = p.length → Ev (fun k => arlinklaw23_OrderLess.l0 k a b (i : Int)) true := by
      intro d
      induction d with
      | zero =>
        intro i h
        have hip : i = p.length := by omega
        subst hip
        refine Ev.step (f := fun _ => some true) (fun k => ?_) (Ev.now _)
        simp only [arlinklaw23_OrderLess.l0]
        rw [if_pos (by omega), if_pos (by omega), if_pos (by omega), gx, gy, if_neg (by omega), decide_eq_true hxy]
      | succ d ih =>
        intro i h
        refine Ev.step (f := fun k => arlinklaw23_OrderLess.l0 k a b ((i + 1 : Nat) : Int)) (fun k => ?_) (ih (i + 1) (by omega))
        simp only [arlinklaw23_OrderLess.l0]
        rw [if_pos (by omega), if_pos (by omega), if_pos (by omega), if_pos (gb i (by omega)), wrap_nat i (by omega)]
    exact loop p.length 0 (by omega)

theorem within_sub {n : Int} {l m : List S39} (hsub : ∀ e, e ∈ fw m → e ∈ fw l) (hv : validS n (fw l) = true) : validS n (fw m) = true := by
  unfold validS at hv ⊢
  simp only [Bool.and_eq_true, decide_eq_true_eq, List.all_eq_true] at hv ⊢
  exact ⟨⟨fun e he => hv.1.1 e (hsub e he), hv.1.2⟩, hv.2⟩
theorem less_ev (a0 : Int) (l : List S39) (a2 : Int) (h0 : 0 ≤ a0) (h1 : a0 ≤ 255) (h2 : 0 ≤ a2) (h3 : a2 ≤ 255) : Ev (fun k => arlinklaw23_OrderLess.f k a0 l a2) true := by
  obtain ⟨N, hN, hN20⟩ := tmod20 h0 h1
  unfold arlinklaw23_OrderLess.f
  rw [hN]
  refine Ev.bind awake_ev (Ev.congr (fun k => by rw [if_pos rfl]) ?_)
  have hj0 : Ev (fun k => arlinklaw23_OrderLess.j0 k l a2 (N : Int) true) true := Ev.step (f := fun k => (arlinklaw23_awake.f k).bind fun t => some t) (fun k => rfl) (Ev.bind awake_ev (Ev.now _))
  by_cases c1 : (l.length : Int) = 0
  · exact Ev.congr (fun k => by rw [if_pos c1]) hj0
  by_cases c2 : (l.length : Int) > 100
  · exact Ev.congr (fun k => by rw [if_neg c1, if_pos c2]) hj0
  have hl : l.length ≤ 100 := by omega
  have hlb : l.length ≤ 1099511627776 := by omega
  refine Ev.congr (fun k => by rw [if_neg c1, if_neg c2]) ?_
  refine Ev.bind (rvalid_ev (N : Int) l hlb) ?_
  cases hv : validS (N : Int) (fw l) with
  | false => exact hj0
  | true =>
    obtain ⟨r, hg, hs⟩ := sort_ok hv (by rw [fw_length]; exact hlb)
    have hf := forward_ev l hlb
    obtain ⟨i, hi⟩ : ∃ i : Nat, Int.tmod (wrap64 a2) (l.length : Int) = (i : Int) ∧ i < l.length := by
      rw [wrap_small (by omega) (by omega), Int.tmod_eq_emod_of_nonneg h2]
      have e1 := Int.emod_nonneg a2 (show (l.length : Int) ≠ 0 by omega)
      have e2 := Int.emod_lt_of_pos a2 (show (0 : Int) < (l.length : Int) by omega)
      exact ⟨(a2 % (l.length : Int)).toNat, by omega, by omega⟩
    obtain ⟨hi1, hi2⟩ := hi
    obtain ⟨m, hm⟩ : ∃ m, l.take i ++ l.drop (i + 1) = m := ⟨_, rfl⟩
    have hml : m.length ≤ 100 := by rw [← hm, List.length_append, List.length_take, List.length_drop]; omega
    have hsub : ∀ e, e ∈ fw m → e ∈ fw l := by
      intro e he
      unfold fw at he ⊢
      rw [List.mem_map] at he ⊢
      obtain ⟨x, hx, rfl⟩ := he
      refine ⟨x, ?_, rfl⟩
      rw [← hm] at hx
      rcases List.mem_append.1 hx with hx | hx
      · exact List.mem_of_mem_take hx
      · exact List.mem_of_mem_drop hx
    have hfm := forward_ev m (by omega)
    obtain ⟨r', hg', hs'⟩ := sort_ok (within_sub hsub hv) (by rw [fw_length]; omega)
    have hwi := wrap_nat i (by omega)
    have hw := within_of hv
    have hle : r.length ≤ N := by
      obtain ⟨n1, b1, _⟩ := hg.ok List.nodup_nil (fun v hv => by simp at hv)
      exact pigeon N r n1 b1
    refine Ev.step (fun k => by rw [arlinklaw23_OrderLess.j0, if_neg (show ¬ ((!true) = true) by decide)]) ?_
    by_cases c : (r.length : Int) < (N : Int)
    · rw [if_pos c] at hs
      refine Ev.bind hf (Ev.congr (fun k => by rw [hs, Option.bind_some]) ?_)
      dsimp only
      exact Ev.congr (f := fun _ => some true) (fun k => by rw [if_neg (show ¬ ((18 : Int) = 0) by decide)]; rfl) (Ev.now _)
    · rw [if_neg c] at hs
      have hrN : r.length = N := by omega
      have hrN' := less_whole hsub hg hg' hrN
      rw [if_neg (by omega)] at hs'
      refine Ev.bind hf (Ev.congr (fun k => by rw [hs, Option.bind_some]) ?_)
      dsimp only
      have HI1 := Lib.hid hi1
      have HW1 := Lib.hid hwi
      clear hi1 hwi hN
      have e1 : (0 : Int) ≤ (i : Int) := by omega
      have e2 : (i : Int) ≤ (l.length : Int) := by omega
      have e3 : (0 : Int) ≤ ((i + 1 : Nat) : Int) := by omega
      have e4 : ((i + 1 : Nat) : Int) ≤ (l.length : Int) := by omega
      have e5 : ([] : List S39).length + (l.take i).length < 8796093022208 := by rw [List.length_take]; simp only [List.length_nil]; omega
      have e6 : ([] ++ l.take i).length + (l.drop (i + 1)).length < 8796093022208 := by rw [List.nil_append, List.length_take, List.length_drop]; omega
      have e7 : [] ++ l.take i ++ l.drop (i + 1) = m := by rw [List.nil_append, hm]
      refine Ev.congr (fun k => by rw [if_pos rfl, if_neg c1, Option.bind_some, HI1.out, if_pos e1, if_pos e2, Option.bind_some, Int.toNat_natCast, if_pos e5, Option.bind_some, HW1.out, if_pos e3, if_pos e4, Option.bind_some, Int.toNat_natCast, if_pos e6, e7]) ?_
      refine Ev.bind hfm (Ev.congr (fun k => by rw [hs', Option.bind_some]) ?_)
      dsimp only
      have hnn : ((r.length : Int) != (r'.length : Int)) = false := by rw [hrN, hrN']; simp
      refine Ev.congr (fun k => by rw [if_pos rfl, hnn]) ?_
      refine Ev.step (f := fun k => arlinklaw23_OrderLess.l0 k r r' 0) (fun k => by rw [arlinklaw23_OrderLess.j1, if_neg (by decide)]) ?_
      exact lex_loop r r' (by omega) (by omega) (less_lex hsub hg r' hg' List.nodup_nil (fun v hv => by simp at hv) hrN)
end Go.Proofs.Ythpjpkcfepmhkaa.PAll
