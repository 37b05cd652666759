import Derived.Test.YthpjpkcfepmhkaaPureReach
import Derived.Test.YthpjpkcfepmhkaaPAllx3
import Derived.Test.YthpjpkcfepmhkaaPAllx6
import Derived.KernelRfl
namespace Go.Proofs.Ythpjpkcfepmhkaa.PAll
open Go.RowKit Go.Proofs.YthpjpkcfepmhkaaW.PrintWords Go.Proofs.YthpjpkcfepmhkaaW.PrintLast Go.Proofs.YthpjpkcfepmhkaaW.PrintMore
set_option linter.unusedVariables false
set_option linter.unusedSimpArgs false

/-! ### forward, Numbers -/
theorem forward_loop (l : List S39) (hl : l.length ≤ 1099511627776) : ∀ (d i : Nat) (acc : List S68), i + d = l.length → acc.length = i → Ev (fun k => arlinklaw23_forward.l0 k l acc (i : Int)) (acc ++ fw (l.drop i))
  | 0, i, acc, h, ha => by
    rw [List.drop_of_length_le (by omega)]
    refine Ev.step (f := fun _ => some acc) (fun k => by simp only [arlinklaw23_forward.l0]; rw [if_neg (by omega)]) ?_
    simp only [fw, List.map_nil, List.append_nil]
    exact Ev.now _
  | d + 1, i, acc, h, ha => by
    have hi : i < l.length := by omega
    have ih := forward_loop l hl d (i + 1) (acc ++ [⟨(rd_T39 l (i : Int)).f0, (rd_T39 l (i : Int)).f1⟩]) (by omega) (by rw [List.length_append, List.length_singleton, ha])
    have he : acc ++ fw (l.drop i) = (acc ++ [⟨(rd_T39 l (i : Int)).f0, (rd_T39 l (i : Int)).f1⟩]) ++ fw (l.drop (i + 1)) := by
      rw [List.drop_eq_getElem_cons hi, rd39 hi, List.append_assoc]
      rfl
    rw [he]
    exact Ev.step (f := fun k => arlinklaw23_forward.l0 k l (acc ++ [⟨(rd_T39 l (i : Int)).f0, (rd_T39 l (i : Int)).f1⟩]) ((i + 1 : Nat) : Int)) (fun k => by simp only [arlinklaw23_forward.l0]; rw [if_pos (by omega), if_pos (by omega), if_pos (by omega), wrap_nat i (by omega)]) ih
theorem forward_ev (l : List S39) (hl : l.length ≤ 1099511627776) : Ev (fun k => arlinklaw23_forward.f k l) (fw l) := by
  have := forward_loop l hl l.length 0 [] (by omega) rfl
  rwa [List.drop_zero, List.nil_append] at this
theorem numbers_loop (a : List Int) (hl : a.length ≤ 1099511627776) : ∀ (d i : Nat), i + d = a.length → Ev (fun k => arlinkref04_Numbers.l0 k a a (i : Int)) true
  | 0, i, h => Ev.step (f := fun _ => some true) (fun k => by simp only [arlinkref04_Numbers.l0]; rw [if_neg (by omega)]) (Ev.now _)
  | d + 1, i, h => Ev.step (f := fun k => arlinkref04_Numbers.l0 k a a ((i + 1 : Nat) : Int)) (fun k => by simp only [arlinkref04_Numbers.l0]; rw [if_pos (by omega), if_pos (by omega), if_pos (by omega), if_true, wrap_nat i (by omega)]) (numbers_loop a hl d (i + 1) (by omega))
theorem numbers_same (a : List Int) (hl : a.length ≤ 1099511627776) : Ev (fun k => arlinkref04_Numbers.f k a a) true := by
  unfold arlinkref04_Numbers.f
  exact Ev.congr (f := fun k => arlinkref04_Numbers.l0 k a a ((0 : Nat) : Int)) (fun k => by rw [if_pos rfl]; rfl) (numbers_loop a hl a.length 0 (by omega))

/-! ### The reference's Cycle -/
section
variable {E : List S68} {N : Nat} {R : List Bool}
theorem rcycle_l1 (hN : N ≤ 1000) (hR : R.length = N * N) (hM : ∀ i j, i < N → j < N → (R.getD (i * N + j) false = true ↔ Walk E i j)) (i : Nat) (hi : i < N) (out : List Int) (ho : out.length ≤ 1000) (b : Bool) (hb : b = true ↔ Amid E N i) {r : List Int}
    (hend : Ev (fun k => arlinkref23_Cycle.l0 k (N : Int) R (if b = true then out ++ [(i : Int)] else out) ((i + 1 : Nat) : Int)) r) :
    ∀ (d c : Nat) (dn up : Bool), c + d = N → (dn = true ↔ ∃ q, q < c ∧ Walk E q q ∧ Walk E i q) → (up = true ↔ ∃ q, q < c ∧ Walk E q q ∧ Walk E q i) → Ev (fun k => arlinkref23_Cycle.l1 k (N : Int) R out (i : Int) dn up (c : Int)) r
  | 0, c, dn, up, hc, hd, hu => by
    have hcN : c = N := by omega
    subst hcN
    have hw := wrap_nat i (by omega)
    have hbb : b = (dn && up) := by
      rw [Bool.eq_iff_iff, hb, Bool.and_eq_true, hd, hu]
      unfold Amid
      exact and_comm
    subst hbb
    refine Ev.step (f := fun k => if dn = true then if up = true then arlinkref23_Cycle.l0 k (c : Int) R (out ++ [(i : Int)]) ((i + 1 : Nat) : Int) else arlinkref23_Cycle.l0 k (c : Int) R out ((i + 1 : Nat) : Int) else arlinkref23_Cycle.l0 k (c : Int) R out ((i + 1 : Nat) : Int)) (fun k => ?_) ?_
    · simp only [arlinkref23_Cycle.l1]
      rw [if_neg (by omega), hw, if_pos (show out.length < 17592186044416 by omega)]
    · cases dn
      · exact hend
      · cases up
        · exact hend
        · exact hend
  | d + 1, c, dn, up, hc, hd, hu => by
    have hcN : c < N := by omega
    have X1 := Lib.hid (widx hcN hcN hN)
    have X2 := Lib.hid (widx hcN hi hN)
    have X3 := Lib.hid (widx hi hcN hN)
    have HW := Lib.hid (wrap_nat c (by omega))
    have y1 := idx_lt hcN hcN
    have y2 := idx_lt hcN hi
    have y3 := idx_lt hi hcN
    have m1 := hM c c hcN hcN
    have m2 := hM c i hcN hi
    have m3 := hM i c hi hcN
    have ih := fun dn up => rcycle_l1 hN hR hM i hi out ho b hb hend d (c + 1) dn up (by omega)
    clear hend hM hb
    rw [← hR] at y1 y2 y3
    obtain ⟨q1, e1⟩ : ∃ m, c * N + c = m := ⟨_, rfl⟩
    obtain ⟨q2, e2⟩ : ∃ m, c * N + i = m := ⟨_, rfl⟩
    obtain ⟨q3, e3⟩ : ∃ m, i * N + c = m := ⟨_, rfl⟩
    rw [e1] at X1 y1 m1
    rw [e2] at X2 y2 m2
    rw [e3] at X3 y3 m3
    clear e1 e2 e3 hR
    have hcN' : (c : Int) < (N : Int) := by omega
    have z1 : (0 : Int) ≤ (q1 : Int) ∧ (q1 : Int) < (R.length : Int) := by omega
    have z2 : (0 : Int) ≤ (q2 : Int) ∧ (q2 : Int) < (R.length : Int) := by omega
    have z3 : (0 : Int) ≤ (q3 : Int) ∧ (q3 : Int) < (R.length : Int) := by omega
    have old : ∀ (p : Nat → Prop), (∃ q, q < c + 1 ∧ p q) ↔ (∃ q, q < c ∧ p q) ∨ p c := by
      intro p
      constructor
      · rintro ⟨q, h1, h2⟩
        by_cases e : q = c
        · subst e; exact .inr h2
        · exact .inl ⟨q, by omega, h2⟩
      · rintro (⟨q, h1, h2⟩ | h)
        · exact ⟨q, by omega, h2⟩
        · exact ⟨c, by omega, h⟩
    have D := old (fun q => Walk E q q ∧ Walk E i q)
    have U := old (fun q => Walk E q q ∧ Walk E q i)
    have hw := HW.out
    have x1 := X1.out
    have x2 := X2.out
    have x3 := X3.out
    by_cases c1 : R.getD q1 false = true
    · have hcc := m1.1 c1
      cases hdn : dn with
      | true =>
        have D1 : (true = true ↔ ∃ q, q < c + 1 ∧ Walk E q q ∧ Walk E i q) := ⟨fun _ => D.2 (.inl (hd.1 hdn)), fun _ => rfl⟩
        cases hup : up with
        | true =>
          have := ih true true D1 ⟨fun _ => U.2 (.inl (hu.1 hup)), fun _ => rfl⟩
          refine Ev.step (f := fun k => arlinkref23_Cycle.l1 k (N : Int) R out (i : Int) true true ((c + 1 : Nat) : Int)) (fun k => ?_) this
          rw [arlinkref23_Cycle.l1, if_pos hcN']
          simp only [x1, hw, rdB]
          rw [if_pos z1.1, if_pos z1.2, if_pos c1, if_pos trivial, if_pos trivial]
        | false =>
          have := ih true (R.getD q2 false) D1 (by
            rw [U, m2, ← hu, hup]
            exact ⟨fun h => .inr ⟨hcc, h⟩, fun h => (h.resolve_left (by decide)).2⟩)
          refine Ev.step (f := fun k => arlinkref23_Cycle.l1 k (N : Int) R out (i : Int) true (R.getD q2 false) ((c + 1 : Nat) : Int)) (fun k => ?_) this
          rw [arlinkref23_Cycle.l1, if_pos hcN']
          simp only [x1, x2, hw, rdB]
          rw [if_pos z1.1, if_pos z1.2, if_pos c1, if_pos trivial, if_neg (by decide), if_pos z2.1, if_pos z2.2]
      | false =>
        have D1 : (R.getD q3 false = true ↔ ∃ q, q < c + 1 ∧ Walk E q q ∧ Walk E i q) := by
          rw [D, m3, ← hd, hdn]
          exact ⟨fun h => .inr ⟨hcc, h⟩, fun h => (h.resolve_left (by decide)).2⟩
        cases hup : up with
        | true =>
          have := ih (R.getD q3 false) true D1 ⟨fun _ => U.2 (.inl (hu.1 hup)), fun _ => rfl⟩
          refine Ev.step (f := fun k => arlinkref23_Cycle.l1 k (N : Int) R out (i : Int) (R.getD q3 false) true ((c + 1 : Nat) : Int)) (fun k => ?_) this
          rw [arlinkref23_Cycle.l1, if_pos hcN']
          simp only [x1, x3, hw, rdB]
          rw [if_pos z1.1, if_pos z1.2, if_pos c1, if_neg (by decide), if_pos z3.1, if_pos z3.2, if_pos trivial]
        | false =>
          have := ih (R.getD q3 false) (R.getD q2 false) D1 (by
            rw [U, m2, ← hu, hup]
            exact ⟨fun h => .inr ⟨hcc, h⟩, fun h => (h.resolve_left (by decide)).2⟩)
          refine Ev.step (f := fun k => arlinkref23_Cycle.l1 k (N : Int) R out (i : Int) (R.getD q3 false) (R.getD q2 false) ((c + 1 : Nat) : Int)) (fun k => ?_) this
          rw [arlinkref23_Cycle.l1, if_pos hcN']
          simp only [x1, x2, x3, hw, rdB]
          rw [if_pos z1.1, if_pos z1.2, if_pos c1, if_neg (by decide), if_pos z3.1, if_pos z3.2, if_neg (by decide), if_pos z2.1, if_pos z2.2]
    · have := ih dn up (by
        rw [D, ← hd]
        exact ⟨.inl, fun h => h.resolve_right (fun h => c1 (m1.2 h.1))⟩) (by
        rw [U, ← hu]
        exact ⟨.inl, fun h => h.resolve_right (fun h => c1 (m1.2 h.1))⟩)
      refine Ev.step (f := fun k => arlinkref23_Cycle.l1 k (N : Int) R out (i : Int) dn up ((c + 1 : Nat) : Int)) (fun k => ?_) this
      rw [arlinkref23_Cycle.l1, if_pos hcN']
      simp only [x1, hw, rdB]
      rw [if_pos z1.1, if_pos z1.2, if_neg c1]
theorem rcycle_l0 (hN : N ≤ 1000) (hR : R.length = N * N) (hM : ∀ i j, i < N → j < N → (R.getD (i * N + j) false = true ↔ Walk E i j)) (d u : List Bool) (hdu : ∀ j, j < N → ((d.getD j false && u.getD j false) = true ↔ Amid E N j)) :
    ∀ (m i : Nat), i + m = N → Ev (fun k => arlinkref23_Cycle.l0 k (N : Int) R (between d u i) (i : Int)) (between d u N)
  | 0, i, h => by
    have : i = N := by omega
    subst this
    exact Ev.step (f := fun _ => some (between d u i)) (fun k => by simp only [arlinkref23_Cycle.l0]; rw [if_neg (by omega)]) (Ev.now _)
  | m + 1, i, h => by
    have hi : i < N := by omega
    have ih := rcycle_l0 hN hR hM d u hdu m (i + 1) (by omega)
    rw [between_succ] at ih
    have hl := between_length d u i
    have h1 := rcycle_l1 hN hR hM i hi (between d u i) (by omega) (d.getD i false && u.getD i false) (hdu i hi) ih N 0 false false (by omega) ⟨fun h => (by cases h), fun ⟨q, hq, _⟩ => by omega⟩ ⟨fun h => (by cases h), fun ⟨q, hq, _⟩ => by omega⟩
    exact Ev.step (f := fun k => arlinkref23_Cycle.l1 k (N : Int) R (between d u i) (i : Int) false false 0) (fun k => by simp only [arlinkref23_Cycle.l0]; rw [if_pos (by omega)]) h1
end
/-- The two find the same elements. -/
theorem cycles_alike (l : List S39) (N : Nat) (hN : N ≤ 1000) (hv : validS (N : Int) (fw l) = true) (hl : l.length ≤ 1099511627776) : ∃ r, order_Cycle.f (N : Int) (fw l) = some r ∧ Ev (fun k => arlinkref23_Cycle.f k (N : Int) l) r ∧ r.length ≤ N := by
  obtain ⟨d, u, h1, h2⟩ := cycle_ok hv (by rw [fw_length]; exact hl)
  obtain ⟨R, h3, h4, h5⟩ := reaches_ev l N hN (within_of hv) hl
  refine ⟨_, h1, ?_, between_length d u N⟩
  unfold arlinkref23_Cycle.f
  exact Ev.bind h3 (rcycle_l0 hN h4 h5 d u h2 N 0 (by omega))

/-! ### The law -/
theorem awake_ev : Ev (fun k => arlinklaw23_awake.f k) true := Ev.of (fun k => arlinklaw23_awake.mono k) (k := 20) (by kernel_rfl)
theorem greedy_length {E : List S68} {N : Nat} {o r : List Int} (h : Greedy E N o r) : o.Nodup → (∀ v, v ∈ o → 0 ≤ v ∧ v < N) → r.length ≤ N := by
  induction h with
  | stop o _ => exact fun hn hb => pigeon N o hn hb
  | step o x r hx _ _ ih =>
    intro hn hb
    obtain ⟨c0, c1, c2, c3⟩ := hx
    refine ih ?_ ?_
    · rw [List.nodup_append]
      exact ⟨hn, by simp, fun a ha b hb => by rw [List.mem_singleton] at hb; rintro rfl; exact c2 (hb ▸ ha)⟩
    · intro v hv
      rcases List.mem_append.1 hv with hv | hv
      · exact hb v hv
      · rw [List.mem_singleton] at hv; subst hv; exact ⟨c0, c1⟩
theorem sort_small {n : Int} {E : List S68} {r : List Int × Int} (hE : E.length ≤ 1099511627776) (h : order_Sort.f n E = some r) : r.1.length ≤ 65536 := by
  cases c : validS n E with
  | false =>
    rw [sort_bad c hE] at h
    rw [← Option.some.inj h]
    simp
  | true =>
    have hn : 0 ≤ n ∧ n ≤ 65536 := by
      have c := c
      unfold validS at c
      simp only [Bool.and_eq_true, decide_eq_true_eq] at c
      exact ⟨c.1.2, c.2⟩
    obtain ⟨N, rfl⟩ := Int.eq_ofNat_of_zero_le hn.1
    obtain ⟨s, hg, hs⟩ := sort_ok c hE
    rw [hs] at h
    rw [← Option.some.inj h]
    have := greedy_length hg List.nodup_nil (fun v hv => by simp at hv)
    split
    · simp
    · dsimp only; omega
theorem matches_ev (n : Int) (l : List S39) : Ev (fun k => arlinklaw23_OrderMatchesReference.f k n l) true := by
  unfold arlinklaw23_OrderMatchesReference.f
  refine Ev.bind awake_ev (Ev.congr (fun k => by rw [if_pos rfl]) ?_)
  have hj0 : Ev (fun k => arlinklaw23_OrderMatchesReference.j0 k n l true) true := Ev.step (f := fun k => (arlinklaw23_awake.f k).bind fun t184 => some t184) (fun k => by simp only [arlinklaw23_OrderMatchesReference.j0]; rfl) (Ev.bind awake_ev (Ev.now _))
  have main : ¬ (n > 30 ∧ n ≤ 65536) → Ev (fun k => arlinklaw23_OrderMatchesReference.j0 k n l (decide ((l.length : Int) > 200))) true := by
    intro hn
    by_cases c : (l.length : Int) > 200
    · rw [decide_eq_true c]; exact hj0
    · rw [decide_eq_false c]
      have hl : l.length ≤ 1099511627776 := by omega
      obtain ⟨r, s1, s2, s3⟩ := sorts_alike n l hl
      have hf := forward_ev l hl
      have hrs := sort_small (by rw [fw_length]; exact hl) s1
      obtain ⟨r1, r2⟩ := r
      dsimp only at s3 hrs
      refine Ev.step (f := fun k => (arlinklaw23_forward.f k l).bind fun t185 => (order_Sort.f n t185).bind fun bt188 => (arlinkref23_Sort.f k n l).bind fun bt192 => (arlinkref04_Numbers.f k bt188.1 bt192.1).bind fun t196 => if t196 = true then arlinklaw23_OrderMatchesReference.j1 k n l bt192.2 (bt188.2 != bt192.2) else arlinklaw23_OrderMatchesReference.j1 k n l bt192.2 true) (fun k => by simp only [arlinklaw23_OrderMatchesReference.j0]; rfl) ?_
      refine Ev.bind hf (Ev.congr (fun k => by rw [s1, Option.bind_some]) ?_)
      refine Ev.bind s2 (Ev.bind (numbers_same r1 (by omega)) (Ev.congr (fun k => by rw [if_pos rfl]) ?_))
      have hne : (r2 != r2) = false := by simp
      dsimp only
      rw [hne]
      by_cases c13 : r2 = 13
      · refine Ev.step (f := fun _ => some true) (fun k => ?_) (Ev.now _)
        simp only [arlinklaw23_OrderMatchesReference.j1]
        rw [if_neg (by decide), if_pos c13]
      · have hv : validS n (fw l) = true := by
          cases hv : validS n (fw l) with
          | true => rfl
          | false => exact absurd (s3.2 hv) c13
        have hn2 : 0 ≤ n ∧ n ≤ 30 := by
          have hv := hv
          unfold validS at hv
          simp only [Bool.and_eq_true, decide_eq_true_eq] at hv
          exact ⟨hv.1.2, by have := hv.2; omega⟩
        obtain ⟨N, rfl⟩ := Int.eq_ofNat_of_zero_le hn2.1
        obtain ⟨q, q1, q2, q3⟩ := cycles_alike l N (by omega) hv hl
        refine Ev.step (f := fun k => (arlinklaw23_forward.f k l).bind fun t197 => (order_Cycle.f (N : Int) t197).bind fun t200 => (arlinkref23_Cycle.f k (N : Int) l).bind fun t203 => (arlinkref04_Numbers.f k t200 t203).bind fun t206 => some t206) (fun k => ?_) ?_
        · simp only [arlinklaw23_OrderMatchesReference.j1]
          rw [if_neg (by decide), if_neg c13]
        · refine Ev.bind hf (Ev.congr (fun k => by rw [q1, Option.bind_some]) ?_)
          exact Ev.bind q2 (Ev.bind (numbers_same q (by omega)) (Ev.now _))
  by_cases c1 : n > 30
  · by_cases c2 : n ≤ 65536
    · exact Ev.congr (fun k => by rw [if_pos c1, if_pos c2]) hj0
    · exact Ev.congr (fun k => by rw [if_pos c1, if_neg c2]) (main (by omega))
  · exact Ev.congr (fun k => by rw [if_neg c1]) (main (by omega))
end Go.Proofs.Ythpjpkcfepmhkaa.PAll
