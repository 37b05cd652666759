import Derived.Test.YthpjpkcfepmhkaaPureMatch
import Derived.Test.YthpjpkcfepmhkaaPureGraph
import Derived.Test.YthpjpkcfepmhkaaPAllx7
namespace Go.Proofs.Ythpjpkcfepmhkaa.PAll
open Go.RowKit Go.Proofs.YthpjpkcfepmhkaaW.PrintWords Go.Proofs.YthpjpkcfepmhkaaW.PrintLast Go.Proofs.YthpjpkcfepmhkaaW.PrintMore
set_option linter.unusedVariables false
set_option linter.unusedSimpArgs false

theorem topo_l3 (l : List S39) (N : Nat) (a : List Int) (hl : l.length ≤ 1099511627776) (hw : Within N (fw l)) (hlen : a.length = N)
    (hlt : ∀ e, e ∈ fw l → a.getD e.f0.toNat 0 < a.getD e.f1.toNat 0) : ∀ (d i : Nat), i + d = l.length → Ev (fun k => arlinklaw23_OrderTopological.l3 k l a (i : Int)) true
  | 0, i, h => Ev.step (f := fun _ => some true) (fun k => by simp only [arlinklaw23_OrderTopological.l3]; rw [if_neg (by omega)]) (Ev.now _)
  | d + 1, i, h => by
    have hi : i < l.length := by omega
    have hm := fw_mem.2 ⟨i, hi, rfl⟩
    have hb := hw _ hm
    have hq := hlt _ hm
    dsimp only at hb hq
    refine Ev.step (f := fun k => arlinklaw23_OrderTopological.l3 k l a ((i + 1 : Nat) : Int)) (fun k => ?_) (topo_l3 l N a hl hw hlen hlt d (i + 1) (by omega))
    simp only [arlinklaw23_OrderTopological.l3]
    rw [if_pos (by omega), if_pos (by omega), if_pos hb.1, if_pos (by omega), if_pos hb.2.2.1, if_pos (by omega), if_neg (by unfold rd; omega), wrap_nat i (by omega)]

structure TI (N : Nat) (r : List Int) (i : Nat) (a : List Int) : Prop where
  len : a.length = N
  done : ∀ j, j < i → a.getD (r.getD j 0).toNat 0 = (j : Int)
  free : ∀ v : Nat, v < N → (v : Int) ∉ r.take i → a.getD v 0 = -1
theorem getD_at {r : List Int} {i : Nat} (h : i < r.length) : r.getD i 0 = r[i] := by
  rw [List.getD_eq_getElem?_getD, List.getElem?_eq_getElem h]; rfl
theorem not_before {r : List Int} (hn : r.Nodup) {i : Nat} (hi : i < r.length) : r[i] ∉ r.take i := by
  intro hm
  have he : r = r.take i ++ r[i] :: r.drop (i + 1) := by rw [← List.drop_eq_getElem_cons hi, List.take_append_drop]
  rw [he, List.nodup_append] at hn
  exact hn.2.2 _ hm _ (List.mem_cons_self ..) rfl
theorem TI.step {N : Nat} {r : List Int} {i : Nat} {a : List Int} (hn : r.Nodup) (hb : ∀ v, v ∈ r → 0 ≤ v ∧ v < N) (hi : i < r.length) (h : TI N r i a) :
    a.getD (r.getD i 0).toNat 0 = -1 ∧ TI N r (i + 1) (a.set (r.getD i 0).toNat (i : Int)) := by
  obtain ⟨b0, b1⟩ := hb r[i] (List.getElem_mem hi)
  have hg := getD_at hi
  have hnb := not_before hn hi
  obtain ⟨q, hq⟩ := Int.eq_ofNat_of_zero_le b0
  rw [hg, hq, Int.toNat_natCast]
  rw [hq] at hnb
  have hqN : q < N := by omega
  refine ⟨h.free q hqN hnb, by rw [List.length_set]; exact h.len, fun j hj => ?_, fun v hv hm => ?_⟩
  · rw [set_get (by rw [h.len]; exact hqN)]
    by_cases e : j = i
    · subst e
      rw [hg, hq, Int.toNat_natCast, if_pos rfl]
    · have hjl : j < r.length := by omega
      have hjm : r[j] ∈ r.take i := by
        rw [List.mem_iff_getElem]
        exact ⟨j, by rw [List.length_take]; omega, by rw [List.getElem_take]⟩
      have hjb := hb r[j] (List.getElem_mem hjl)
      rw [getD_at hjl]
      rw [if_neg (fun e => hnb (by rw [← e, Int.toNat_of_nonneg hjb.1]; exact hjm)), ← getD_at hjl]
      exact h.done j (by omega)
  · rw [List.take_succ_eq_append_getElem hi, List.mem_append, List.mem_singleton, not_or, hq] at hm
    rw [set_get (by rw [h.len]; exact hqN), if_neg (by omega)]
    exact h.free v hv hm.1
section
variable {l : List S39} {N : Nat} {r : List Int}
theorem topo_l2 (hN : N ≤ 1000) (hn : r.Nodup) (hb : ∀ v, v ∈ r → 0 ≤ v ∧ v < N) (hr : r.length = N) (hl : l.length ≤ 1099511627776) (hw : Within N (fw l))
    (htopo : ∀ a, TI N r N a → ∀ e, e ∈ fw l → a.getD e.f0.toNat 0 < a.getD e.f1.toNat 0) :
    ∀ (d i : Nat) (a : List Int), i + d = N → TI N r i a → Ev (fun k => arlinklaw23_OrderTopological.l2 k l (N : Int) r a (i : Int)) true
  | 0, i, a, h, hi => by
    have : i = N := by omega
    subst this
    refine Ev.step (f := fun k => arlinklaw23_OrderTopological.l3 k l a ((0 : Nat) : Int)) (fun k => ?_) (topo_l3 l i a hl hw hi.len (htopo a hi) l.length 0 (by omega))
    simp only [arlinklaw23_OrderTopological.l2]
    rw [if_neg (by omega)]
    rfl
  | d + 1, i, a, h, hi => by
    have hir : i < r.length := by omega
    obtain ⟨h1, h2⟩ := hi.step hn hb hir
    have ih := topo_l2 hN hn hb hr hl hw htopo d (i + 1) _ (by omega) h2
    have hbi := hb r[i] (List.getElem_mem hir)
    have hg := getD_at hir
    have hrd : rd r (i : Int) = r.getD i 0 := by unfold rd; rw [Int.toNat_natCast]
    have hla := hi.len
    refine Ev.step (f := fun k => arlinklaw23_OrderTopological.l2 k l (N : Int) r (a.set (r.getD i 0).toNat (i : Int)) ((i + 1 : Nat) : Int)) (fun k => ?_) ih
    rw [← hg] at hbi
    simp only [arlinklaw23_OrderTopological.l2]
    rw [hrd, if_pos (by omega), if_pos (by omega), if_pos (by omega), if_neg (by omega), if_neg (by omega), if_pos (by omega), if_pos (by omega), if_neg (by unfold rd; omega), wrap_nat i (by omega)]
theorem topo_l1 (hN : N ≤ 1000) {v : Bool} (hend : ∀ a, TI N r 0 a → Ev (fun k => arlinklaw23_OrderTopological.l2 k l (N : Int) r a ((0 : Nat) : Int)) v) :
    ∀ (d i : Nat) (a : List Int), i + d = N → a.length = N → (∀ j, j < i → a.getD j 0 = -1) → Ev (fun k => arlinklaw23_OrderTopological.l1 k l (N : Int) r a (i : Int)) v
  | 0, i, a, h, ha, hm => by
    have : i = N := by omega
    subst this
    refine Ev.step (f := fun k => arlinklaw23_OrderTopological.l2 k l (i : Int) r a ((0 : Nat) : Int)) (fun k => ?_) (hend a ⟨ha, fun j hj => by omega, fun v hv _ => hm v hv⟩)
    simp only [arlinklaw23_OrderTopological.l1]
    rw [if_neg (by omega)]
    rfl
  | d + 1, i, a, h, ha, hm => by
    refine Ev.step (f := fun k => arlinklaw23_OrderTopological.l1 k l (N : Int) r (a.set i (-1)) ((i + 1 : Nat) : Int)) (fun k => ?_) (topo_l1 hN hend d (i + 1) _ (by omega) (by rw [List.length_set]; exact ha) (fun j hj => by
      rw [set_get (by omega)]
      split
      · rfl
      · exact hm j (by omega)))
    simp only [arlinklaw23_OrderTopological.l1]
    rw [if_pos (by omega), if_pos (by omega), if_pos (by omega), Int.toNat_natCast, wrap_nat i (by omega)]
theorem topo_l0 {E : List S68} (hN : N ≤ 1000) {e : Int} {R : List Bool} (hR : R.length = N * N) (hM : ∀ i j, i < N → j < N → (R.getD (i * N + j) false = true ↔ Walk E i j)) {b v : Bool} (hb : b = true ↔ ∃ q, q < N ∧ Walk E q q)
    (hend : Ev (fun k => arlinklaw23_OrderTopological.l0 k l (N : Int) r e R b (N : Int)) v) :
    ∀ (d i : Nat) (c : Bool), i + d = N → (c = true ↔ ∃ q, q < i ∧ Walk E q q) → Ev (fun k => arlinklaw23_OrderTopological.l0 k l (N : Int) r e R c (i : Int)) v
  | 0, i, c, h, hc => by
    have : i = N := by omega
    subst this
    have : c = b := by rw [Bool.eq_iff_iff, hc, hb]
    rw [this]
    exact hend
  | d + 1, i, c, h, hc => by
    have hi : i < N := by omega
    have X := Lib.hid (widx hi hi hN)
    have y := idx_lt hi hi
    have m := hM i i hi hi
    have HW := Lib.hid (wrap_nat i (by omega))
    have ih := fun c => topo_l0 hN hR hM hb hend d (i + 1) c (by omega)
    clear hend hM hb
    rw [← hR] at y
    obtain ⟨q1, e1⟩ : ∃ m, i * N + i = m := ⟨_, rfl⟩
    rw [e1] at X y m
    clear e1 hR
    have hiN : (i : Int) < (N : Int) := by omega
    have z : (0 : Int) ≤ (q1 : Int) ∧ (q1 : Int) < (R.length : Int) := by omega
    have old : ∀ (p : Nat → Prop), (∃ q, q < i + 1 ∧ p q) ↔ (∃ q, q < i ∧ p q) ∨ p i := by
      intro p
      constructor
      · rintro ⟨q, h1, h2⟩
        by_cases e : q = i
        · subst e; exact .inr h2
        · exact .inl ⟨q, by omega, h2⟩
      · rintro (⟨q, h1, h2⟩ | h)
        · exact ⟨q, by omega, h2⟩
        · exact ⟨i, by omega, h⟩
    have D := old (fun q => Walk E q q)
    have hw := HW.out
    have x := X.out
    cases hcc : c with
    | true =>
      refine Ev.step (f := fun k => arlinklaw23_OrderTopological.l0 k l (N : Int) r e R true ((i + 1 : Nat) : Int)) (fun k => ?_) (ih true ⟨fun _ => D.2 (.inl (hc.1 hcc)), fun _ => rfl⟩)
      rw [arlinklaw23_OrderTopological.l0, if_pos hiN, if_pos rfl, hw]
    | false =>
      refine Ev.step (f := fun k => arlinklaw23_OrderTopological.l0 k l (N : Int) r e R (R.getD q1 false) ((i + 1 : Nat) : Int)) (fun k => ?_) (ih (R.getD q1 false) (by
        rw [D, ← m, ← hc, hcc]
        exact ⟨.inr, fun h => h.resolve_left (by decide)⟩))
      rw [arlinklaw23_OrderTopological.l0, if_pos hiN, if_neg (by decide)]
      simp only [x, hw, rdB]
      rw [if_pos z.1, if_pos z.2]
end
theorem topological_ev (a0 : Int) (l : List S39) (h0 : 0 ≤ a0) (h1 : a0 ≤ 255) : Ev (fun k => arlinklaw23_OrderTopological.f k a0 l) true := by
  obtain ⟨N, hN, hN20⟩ := tmod20 h0 h1
  unfold arlinklaw23_OrderTopological.f
  rw [hN]
  refine Ev.bind awake_ev (Ev.congr (fun k => by rw [if_pos rfl]) ?_)
  have hj0 : Ev (fun k => arlinklaw23_OrderTopological.j0 k l (N : Int) true) true := Ev.step (f := fun k => (arlinklaw23_awake.f k).bind fun t => some t) (fun k => by rw [arlinklaw23_OrderTopological.j0, if_pos rfl]) (Ev.bind awake_ev (Ev.now _))
  by_cases c2 : (l.length : Int) > 100
  · exact Ev.congr (fun k => by rw [if_pos c2]) hj0
  have hlb : l.length ≤ 1099511627776 := by omega
  refine Ev.congr (fun k => by rw [if_neg c2]) ?_
  refine Ev.bind (rvalid_ev (N : Int) l hlb) ?_
  cases hv : validS (N : Int) (fw l) with
  | false => exact hj0
  | true =>
    have hw := within_of hv
    have hE : (fw l).length ≤ 1099511627776 := by rw [fw_length]; exact hlb
    obtain ⟨r, hg, hs⟩ := sort_ok hv hE
    have hf := forward_ev l hlb
    obtain ⟨R, h3, h4, h5⟩ := reaches_ev l N (by omega) hw hlb
    obtain ⟨dn, up, hc, hdu⟩ := cycle_ok hv hE
    obtain ⟨n1, b1, _⟩ := hg.ok List.nodup_nil (fun v hv => by simp at hv)
    have hle := pigeon N r n1 b1
    refine Ev.step (fun k => by rw [arlinklaw23_OrderTopological.j0, if_neg (show ¬ ((!true) = true) by decide)]) ?_
    refine Ev.bind hf (Ev.congr (fun k => by rw [hs, Option.bind_some]) ?_)
    refine Ev.bind h3 ?_
    by_cases cyc : ∃ q, q < N ∧ Walk (fw l) q q
    · obtain ⟨q, hq, hqw⟩ := id cyc
      have hlt : (r.length : Int) < (N : Int) := by
        have : r.length ≠ N := fun e => whole_acyclic hw hg e q hqw
        omega
      rw [if_pos hlt]
      dsimp only
      refine topo_l0 (by omega) h4 h5 (b := true) ⟨fun _ => cyc, fun _ => rfl⟩ ?_ N 0 false (by omega) ⟨fun h => (by cases h), fun ⟨q, hq, _⟩ => by omega⟩
      refine Ev.step (f := fun k => (arlinklaw23_forward.f k l).bind fun t221 => (order_Cycle.f (N : Int) t221).bind fun t224 => some (decide ((t224.length : Int) > 0))) (fun k => ?_) ?_
      · rw [arlinklaw23_OrderTopological.l0, if_neg (by omega), if_pos rfl, if_pos rfl, if_pos (show ((([] : List Int).length : Nat) : Int) = 0 from rfl)]
      · refine Ev.bind hf (Ev.congr (fun k => by rw [hc, Option.bind_some]) ?_)
        have hpos : (between dn up N).length > 0 := by
          have : (q : Int) ∈ between dn up N := by
            rw [between_pick, pick_mem]
            exact ⟨q, hq, (hdu q hq).2 ⟨⟨q, hq, hqw, hqw⟩, ⟨q, hq, hqw, hqw⟩⟩, rfl⟩
          exact List.length_pos_of_mem this
        rw [decide_eq_true (by omega)]
        exact Ev.now _
    · have hno : ∀ i, i < N → ¬ Walk (fw l) i i := fun i hi hwk => cyc ⟨i, hi, hwk⟩
      have hrN : r.length = N := acyclic_whole hw hg hno
      rw [if_neg (by omega)]
      dsimp only
      refine topo_l0 (by omega) h4 h5 (b := false) ⟨fun h => (by cases h), fun h => absurd h cyc⟩ ?_ N 0 false (by omega) ⟨fun h => (by cases h), fun ⟨q, hq, _⟩ => by omega⟩
      refine Ev.step (f := fun k => (arlinklaw23_forward.f k l).bind fun t227 => (order_Cycle.f (N : Int) t227).bind fun t230 => arlinklaw23_OrderTopological.j2 k l (N : Int) r ((t230.length : Int) != 0)) (fun k => ?_) ?_
      · rw [arlinklaw23_OrderTopological.l0, if_neg (by omega), if_neg (by decide), if_pos rfl, if_pos (by omega)]
      · refine Ev.bind hf (Ev.congr (fun k => by rw [hc, Option.bind_some]) ?_)
        have hz : between dn up N = [] := by
          rw [List.eq_nil_iff_forall_not_mem]
          intro v hv
          rw [between_pick, pick_mem] at hv
          obtain ⟨i, hi, h6, _⟩ := hv
          obtain ⟨⟨a, ha, h7, _⟩, _⟩ := (hdu i hi).1 h6
          exact hno a ha h7
        rw [hz]
        refine Ev.step (f := fun k => arlinklaw23_OrderTopological.l1 k l (N : Int) r (List.replicate N 0) ((0 : Nat) : Int)) (fun k => ?_) ?_
        · rw [arlinklaw23_OrderTopological.j2, if_neg (by decide), if_pos (by omega), Int.toNat_natCast, if_pos (by omega)]
          rfl
        · refine topo_l1 (by omega) (fun a ha => ?_) N 0 _ (by omega) (by simp) (fun j hj => by omega)
          refine topo_l2 (by omega) n1 b1 hrN hlb hw (fun a ha e he => ?_) N 0 a (by omega) ha
          have ht := hg.topo (fun p x s he => by simp at he)
          obtain ⟨e0, e1, e2, e3⟩ := hw e he
          have hq1 : e.f1 ∈ r := by have := all_in n1 b1 hrN e.f1.toNat (by omega); rwa [Int.toNat_of_nonneg e2] at this
          obtain ⟨p, s, hp⟩ := List.append_of_mem hq1
          have hm := ht p e.f1 s hp e he rfl
          obtain ⟨i, hi, hpi⟩ := List.getElem_of_mem hm
          have hplen : p.length < N := by rw [← hrN, hp]; simp
          have d1 := ha.done p.length hplen
          have d2 := ha.done i (by omega)
          have g1 : r.getD p.length 0 = e.f1 := by
            rw [hp, List.getD_eq_getElem?_getD, List.getElem?_append_right (Nat.le_refl _), Nat.sub_self]; rfl
          have g2 : r.getD i 0 = e.f0 := by
            rw [hp, List.getD_eq_getElem?_getD, List.getElem?_append_left hi, List.getElem?_eq_getElem hi, hpi]; rfl
          rw [g1] at d1
          rw [g2] at d2
          omega
end Go.Proofs.Ythpjpkcfepmhkaa.PAll
