import Derived.Test.YthpjpkcfepmhkaaPureSort2
import Derived.Test.YthpjpkcfepmhkaaPAllx4
namespace Go.Proofs.Ythpjpkcfepmhkaa.PAll
open Go.RowKit Go.Proofs.YthpjpkcfepmhkaaW.PrintWords Go.Proofs.YthpjpkcfepmhkaaW.PrintLast Go.Proofs.YthpjpkcfepmhkaaW.PrintMore
set_option linter.unusedVariables false
set_option linter.unusedSimpArgs false

/-- The program's edges of the reference's. -/
def fw (l : List S39) : List S68 := l.map fun x => ⟨x.f0, x.f1⟩
theorem fw_length (l : List S39) : (fw l).length = l.length := by unfold fw; rw [List.length_map]
theorem rd39 {l : List S39} {i : Nat} (h : i < l.length) : rd_T39 l (i : Int) = l[i] := by
  unfold rd_T39
  rw [Int.toNat_natCast, List.getD_eq_getElem?_getD, List.getElem?_eq_getElem h]; rfl
theorem fw_mem {l : List S39} {e : S68} : e ∈ fw l ↔ ∃ i, i < l.length ∧ e = ⟨(rd_T39 l (i : Int)).f0, (rd_T39 l (i : Int)).f1⟩ := by
  unfold fw
  rw [List.mem_map]
  constructor
  · rintro ⟨x, hx, rfl⟩
    obtain ⟨i, hi, rfl⟩ := List.getElem_of_mem hx
    exact ⟨i, hi, by rw [rd39 hi]⟩
  · rintro ⟨i, hi, rfl⟩
    exact ⟨l[i], List.getElem_mem hi, by rw [rd39 hi]⟩

/-! ### Valid -/
theorem rvalid_loop (n : Int) (l : List S39) (hl : l.length ≤ 1099511627776) : ∀ (d i : Nat), i + d = l.length → Ev (fun k => arlinkref23_Valid.l0 k n l (i : Int)) ((fw (l.drop i)).all (edgeIn n))
  | 0, i, h => Ev.step (f := fun _ => some true) (fun k => by simp only [arlinkref23_Valid.l0]; rw [if_neg (by omega)]) (by rw [List.drop_of_length_le (by omega)]; exact Ev.now _)
  | d + 1, i, h => by
    have hi : i < l.length := by omega
    have ih := rvalid_loop n l hl d (i + 1) (by omega)
    rw [List.drop_eq_getElem_cons hi]
    obtain ⟨x, hx⟩ : ∃ x, l[i] = x := ⟨_, rfl⟩
    have hr : rd_T39 l (i : Int) = x := by rw [rd39 hi, hx]
    rw [hx]
    have hcons : (fw (x :: l.drop (i + 1))).all (edgeIn n) = (edgeIn n ⟨x.f0, x.f1⟩ && (fw (l.drop (i + 1))).all (edgeIn n)) := rfl
    rw [hcons]
    have hin := @edgeIn_iff n ⟨x.f0, x.f1⟩
    dsimp only at hin
    have hfalse : (¬ (0 ≤ x.f0 ∧ x.f0 < n ∧ 0 ≤ x.f1 ∧ x.f1 < n)) → edgeIn n ⟨x.f0, x.f1⟩ = false := fun h => by rw [Bool.eq_false_iff]; exact fun h' => h (hin.1 h')
    by_cases c1 : x.f0 < 0
    · rw [hfalse (by omega)]
      exact Ev.step (f := fun _ => some false) (fun k => by simp only [arlinkref23_Valid.l0]; rw [if_pos (by omega), if_pos (by omega), hr, if_pos c1]) (Ev.now _)
    · by_cases c2 : x.f0 ≥ n
      · rw [hfalse (by omega)]
        exact Ev.step (f := fun _ => some false) (fun k => by simp only [arlinkref23_Valid.l0]; rw [if_pos (by omega), if_pos (by omega), hr, if_neg c1, if_pos c2]) (Ev.now _)
      · by_cases c3 : x.f1 < 0
        · rw [hfalse (by omega)]
          exact Ev.step (f := fun _ => some false) (fun k => by simp only [arlinkref23_Valid.l0]; rw [if_pos (by omega), if_pos (by omega), hr, if_neg c1, if_neg c2, if_pos c3]) (Ev.now _)
        · by_cases c4 : x.f1 ≥ n
          · rw [hfalse (by omega)]
            exact Ev.step (f := fun _ => some false) (fun k => by simp only [arlinkref23_Valid.l0]; rw [if_pos (by omega), if_pos (by omega), hr, if_neg c1, if_neg c2, if_neg c3, if_pos c4]) (Ev.now _)
          · rw [hin.2 ⟨by omega, by omega, by omega, by omega⟩, Bool.true_and]
            exact Ev.step (f := fun k => arlinkref23_Valid.l0 k n l ((i + 1 : Nat) : Int)) (fun k => by simp only [arlinkref23_Valid.l0]; rw [if_pos (by omega), if_pos (by omega), hr, if_neg c1, if_neg c2, if_neg c3, if_neg c4, wrap_nat i (by omega)]) ih
theorem rvalid_ev (n : Int) (l : List S39) (hl : l.length ≤ 1099511627776) : Ev (fun k => arlinkref23_Valid.f k n l) (validS n (fw l)) := by
  have h0 := rvalid_loop n l hl l.length 0 (by omega)
  rw [List.drop_zero] at h0
  unfold arlinkref23_Valid.f
  by_cases c1 : n < 0
  · have hv : validS n (fw l) = false := by unfold validS; rw [show decide (0 ≤ n) = false from decide_eq_false (by omega)]; simp
    rw [hv]
    exact Ev.congr (f := fun k => arlinkref23_Valid.j0 k n l true) (fun k => by rw [if_pos c1]) (Ev.step (f := fun _ => some false) (fun k => by rfl) (Ev.now _))
  · refine Ev.congr (f := fun k => arlinkref23_Valid.j0 k n l (decide (n > 65536))) (fun k => by rw [if_neg c1]) ?_
    by_cases c2 : n > 65536
    · have hv : validS n (fw l) = false := by unfold validS; rw [show decide (n ≤ 65536) = false from decide_eq_false (by omega)]; simp
      rw [hv]
      exact Ev.step (f := fun _ => some false) (fun k => by simp only [arlinkref23_Valid.j0]; rw [if_pos (decide_eq_true c2)]) (Ev.now _)
    · have hv : validS n (fw l) = (fw l).all (edgeIn n) := by
        unfold validS
        rw [show decide (0 ≤ n) = true from decide_eq_true (by omega), show decide (n ≤ 65536) = true from decide_eq_true (by omega)]; simp
      rw [hv]
      exact Ev.step (f := fun k => arlinkref23_Valid.l0 k n l 0) (fun k => by simp only [arlinkref23_Valid.j0]; rw [if_neg (by simpa using c2)]) h0

/-! ### has, free -/
theorem rd_at {o : List Int} {i : Nat} (h : i < o.length) : rd o (i : Int) = o[i] := by
  unfold rd
  rw [Int.toNat_natCast, List.getD_eq_getElem?_getD, List.getElem?_eq_getElem h]; rfl
theorem has_loop (o : List Int) (x : Int) (hl : o.length ≤ 1099511627776) : ∀ (d i : Nat), i + d = o.length → Ev (fun k => arlinkref23_has.l0 k o x (i : Int)) (decide (x ∈ o.drop i))
  | 0, i, h => by
    rw [List.drop_of_length_le (by omega)]
    exact Ev.step (f := fun _ => some false) (fun k => by simp only [arlinkref23_has.l0]; rw [if_neg (by omega)]) (by simp; exact Ev.now _)
  | d + 1, i, h => by
    have hi : i < o.length := by omega
    have ih := has_loop o x hl d (i + 1) (by omega)
    rw [List.drop_eq_getElem_cons hi]
    by_cases c : o[i] = x
    · rw [decide_eq_true (by rw [c]; exact List.mem_cons_self ..)]
      exact Ev.step (f := fun _ => some true) (fun k => by simp only [arlinkref23_has.l0]; rw [if_pos (by omega), if_pos (by omega), rd_at hi, if_pos c]) (Ev.now _)
    · have : decide (x ∈ o[i] :: o.drop (i + 1)) = decide (x ∈ o.drop (i + 1)) := decide_eq_decide.2 (by
        rw [List.mem_cons]
        exact ⟨fun h => h.resolve_left (fun e => c e.symm), .inr⟩)
      rw [this]
      exact Ev.step (f := fun k => arlinkref23_has.l0 k o x ((i + 1 : Nat) : Int)) (fun k => by simp only [arlinkref23_has.l0]; rw [if_pos (by omega), if_pos (by omega), rd_at hi, if_neg c, wrap_nat i (by omega)]) ih
theorem has_ev (o : List Int) (x : Int) (hl : o.length ≤ 1099511627776) : Ev (fun k => arlinkref23_has.f k o x) (decide (x ∈ o)) := by
  have := has_loop o x hl o.length 0 (by omega)
  rwa [List.drop_zero] at this
theorem free_loop (l : List S39) (o : List Int) (x : Int) (hl : l.length ≤ 1099511627776) (ho : o.length ≤ 1099511627776) : ∀ (d i : Nat), i + d = l.length → ∃ b, Ev (fun k => arlinkref23_free.l0 k l o x (i : Int)) b ∧ (b = true ↔ freeE (fw (l.drop i)) o x)
  | 0, i, h => by
    refine ⟨true, Ev.step (f := fun _ => some true) (fun k => by simp only [arlinkref23_free.l0]; rw [if_neg (by omega)]) (Ev.now _), ?_⟩
    rw [List.drop_of_length_le (by omega)]
    exact ⟨fun _ e he => by simp [fw] at he, fun _ => rfl⟩
  | d + 1, i, h => by
    have hi : i < l.length := by omega
    obtain ⟨b, ih, hb⟩ := free_loop l o x hl ho d (i + 1) (by omega)
    rw [List.drop_eq_getElem_cons hi]
    obtain ⟨y, hy⟩ : ∃ y, l[i] = y := ⟨_, rfl⟩
    have hr : rd_T39 l (i : Int) = y := by rw [rd39 hi, hy]
    rw [hy]
    have hcons : freeE (fw (y :: l.drop (i + 1))) o x ↔ (y.f1 = x → y.f0 ∈ o) ∧ freeE (fw (l.drop (i + 1))) o x := by
      unfold freeE
      have hc : fw (y :: l.drop (i + 1)) = ⟨y.f0, y.f1⟩ :: fw (l.drop (i + 1)) := rfl
      rw [hc]
      constructor
      · intro h
        exact ⟨h _ (List.mem_cons_self ..), fun e he => h e (List.mem_cons_of_mem _ he)⟩
      · rintro ⟨h1, h2⟩ e he
        rcases List.mem_cons.1 he with rfl | he
        · exact h1
        · exact h2 e he
    rw [hcons]
    by_cases c : y.f1 = x
    · have hh := has_ev o y.f0 ho
      by_cases c2 : y.f0 ∈ o
      · rw [decide_eq_true c2] at hh
        refine ⟨b, Ev.step (f := fun k => (arlinkref23_has.f k o y.f0).bind fun t => if t = true then arlinkref23_free.l0 k l o x ((i + 1 : Nat) : Int) else some false) (fun k => by simp only [arlinkref23_free.l0]; rw [if_pos (by omega), if_pos (by omega), hr, if_pos c, wrap_nat i (by omega)]) (Ev.bind hh (Ev.congr (fun k => by rw [if_pos rfl]) ih)), ?_⟩
        rw [hb]
        exact ⟨fun h => ⟨fun _ => c2, h⟩, fun h => h.2⟩
      · rw [decide_eq_false c2] at hh
        refine ⟨false, Ev.step (f := fun k => (arlinkref23_has.f k o y.f0).bind fun t => if t = true then arlinkref23_free.l0 k l o x ((i + 1 : Nat) : Int) else some false) (fun k => by simp only [arlinkref23_free.l0]; rw [if_pos (by omega), if_pos (by omega), hr, if_pos c, wrap_nat i (by omega)]) (Ev.bind hh (Ev.now _)), ?_⟩
        exact ⟨fun h => (by cases h), fun h => absurd (h.1 c) c2⟩
    · refine ⟨b, Ev.step (f := fun k => arlinkref23_free.l0 k l o x ((i + 1 : Nat) : Int)) (fun k => by simp only [arlinkref23_free.l0]; rw [if_pos (by omega), if_pos (by omega), hr, if_neg c, wrap_nat i (by omega)]) ih, ?_⟩
      rw [hb]
      exact ⟨fun h => ⟨fun h' => absurd h' c, h⟩, fun h => h.2⟩
theorem free_ev (l : List S39) (o : List Int) (x : Int) (hl : l.length ≤ 1099511627776) (ho : o.length ≤ 1099511627776) : ∃ b, Ev (fun k => arlinkref23_free.f k l o x) b ∧ (b = true ↔ freeE (fw l) o x) := by
  have := free_loop l o x hl ho l.length 0 (by omega)
  rwa [List.drop_zero] at this

/-! ### Sort -/
/-- The search for the next: from i on there is none below, and at x it stops (x = N: none). -/
theorem next_loop (l : List S39) (N : Nat) (hN : N ≤ 65536) (o : List Int) (hl : l.length ≤ 1099511627776) (ho : o.length ≤ 65536) (x : Nat) (hx : x ≤ N) (hc : x < N → Cand (fw l) N o (x : Int)) (r : List Int × Int)
    (hend : Ev (fun k => if (x : Int) = (N : Int) then some (([] : List Int), (18 : Int)) else if o.length < 17592186044416 then arlinkref23_Sort.l0 k (N : Int) l (o ++ [(x : Int)]) else none) r) :
    ∀ (d i : Nat), i + d = x → (∀ y : Nat, i ≤ y → y < x → ¬ Cand (fw l) N o (y : Int)) → Ev (fun k => arlinkref23_Sort.l1 k (N : Int) l o (i : Int)) r
  | 0, i, h, hno => by
    have hix : i = x := by omega
    subst hix
    by_cases c : i < N
    · obtain ⟨c0, c1, c2, c3⟩ := hc c
      have hh := has_ev o (i : Int) (by omega)
      rw [decide_eq_false c2] at hh
      obtain ⟨b, hb, hbi⟩ := free_ev l o (i : Int) hl (by omega)
      rw [hbi.2 c3] at hb
      refine Ev.step (f := fun k => (arlinkref23_has.f k o (i : Int)).bind fun t156 => if t156 = true then arlinkref23_Sort.l1 k (N : Int) l o (wrap64 ((i : Int) + 1)) else (arlinkref23_free.f k l o (i : Int)).bind fun t157 => if t157 = true then (if (i : Int) = (N : Int) then some (([] : List Int), (18 : Int)) else if o.length < 17592186044416 then arlinkref23_Sort.l0 k (N : Int) l (o ++ [(i : Int)]) else none) else arlinkref23_Sort.l1 k (N : Int) l o (wrap64 ((i : Int) + 1))) (fun k => by simp only [arlinkref23_Sort.l1]; rw [if_pos (by omega)]) ?_
      refine Ev.bind hh (Ev.congr (fun k => by rw [if_neg (by decide)]) ?_)
      exact Ev.bind hb (Ev.congr (fun k => by rw [if_pos rfl]) hend)
    · refine Ev.step (f := fun k => if (i : Int) = (N : Int) then some (([] : List Int), (18 : Int)) else if o.length < 17592186044416 then arlinkref23_Sort.l0 k (N : Int) l (o ++ [(i : Int)]) else none) (fun k => by simp only [arlinkref23_Sort.l1]; rw [if_neg (by omega)]) hend
  | d + 1, i, h, hno => by
    have ih := next_loop l N hN o hl ho x hx hc r hend d (i + 1) (by omega) (fun y h1 h2 => hno y (by omega) h2)
    have hn := hno i (Nat.le_refl _) (by omega)
    have hh := has_ev o (i : Int) (by omega)
    have hw := wrap_nat i (by omega)
    refine Ev.step (f := fun k => (arlinkref23_has.f k o (i : Int)).bind fun t156 => if t156 = true then arlinkref23_Sort.l1 k (N : Int) l o ((i + 1 : Nat) : Int) else (arlinkref23_free.f k l o (i : Int)).bind fun t157 => if t157 = true then (if (i : Int) = (N : Int) then some (([] : List Int), (18 : Int)) else if o.length < 17592186044416 then arlinkref23_Sort.l0 k (N : Int) l (o ++ [(i : Int)]) else none) else arlinkref23_Sort.l1 k (N : Int) l o ((i + 1 : Nat) : Int)) (fun k => by simp only [arlinkref23_Sort.l1]; rw [if_pos (by omega), hw]) ?_
    refine Ev.bind hh ?_
    by_cases c : (i : Int) ∈ o
    · exact Ev.congr (fun k => by rw [if_pos (decide_eq_true c)]) ih
    · refine Ev.congr (fun k => by rw [if_neg (by simpa using c)]) ?_
      obtain ⟨b, hb, hbi⟩ := free_ev l o (i : Int) hl (by omega)
      have hb0 : b = false := by
        rw [Bool.eq_false_iff]
        intro e
        exact hn ⟨by omega, by omega, c, hbi.1 e⟩
      rw [hb0] at hb
      exact Ev.bind hb (Ev.congr (fun k => by rw [if_neg (by decide)]) ih)
theorem rsort_ev (l : List S39) (N : Nat) (hN : N ≤ 65536) (hl : l.length ≤ 1099511627776) {o r : List Int} (h : Greedy (fw l) N o r) : o.Nodup → (∀ v, v ∈ o → 0 ≤ v ∧ v < N) →
    Ev (fun k => arlinkref23_Sort.l0 k (N : Int) l o) (if (r.length : Int) < (N : Int) then ([], 18) else (r, 0)) := by
  induction h with
  | stop o hno =>
    intro hn hb
    have hol := pigeon N o hn hb
    by_cases c : (o.length : Int) < (N : Int)
    · rw [if_pos c]
      refine Ev.step (f := fun k => arlinkref23_Sort.l1 k (N : Int) l o 0) (fun k => by simp only [arlinkref23_Sort.l0]; rw [if_pos c]) ?_
      exact next_loop l N hN o hl (by omega) N (Nat.le_refl _) (fun h => by omega) _ (Ev.congr (f := fun _ => some _) (fun k => by rw [if_pos rfl]) (Ev.now _)) N 0 (by omega) (fun y _ _ => hno _)
    · rw [if_neg c]
      exact Ev.step (f := fun _ => some (o, 0)) (fun k => by simp only [arlinkref23_Sort.l0]; rw [if_neg c]) (Ev.now _)
  | step o x r hx hle hg ih =>
    intro hn hb
    obtain ⟨c0, c1, c2, c3⟩ := hx
    have hn' : (o ++ [x]).Nodup := by
      rw [List.nodup_append]
      exact ⟨hn, by simp, fun a ha b hb => by rw [List.mem_singleton] at hb; rintro rfl; exact c2 (hb ▸ ha)⟩
    have hb' : ∀ v, v ∈ o ++ [x] → 0 ≤ v ∧ v < N := by
      intro v hv
      rcases List.mem_append.1 hv with hv | hv
      · exact hb v hv
      · rw [List.mem_singleton] at hv; subst hv; exact ⟨c0, c1⟩
    have hl' := pigeon N _ hn' hb'
    rw [List.length_append, List.length_singleton] at hl'
    obtain ⟨q, rfl⟩ := Int.eq_ofNat_of_zero_le c0
    refine Ev.step (f := fun k => arlinkref23_Sort.l1 k (N : Int) l o 0) (fun k => by simp only [arlinkref23_Sort.l0]; rw [if_pos (by omega)]) ?_
    exact next_loop l N hN o hl (by omega) q (by omega) (fun _ => ⟨c0, c1, c2, c3⟩) _ (Ev.congr (f := fun k => arlinkref23_Sort.l0 k (N : Int) l (o ++ [(q : Int)])) (fun k => by rw [if_neg (by omega), if_pos (by omega)]) (ih hn' hb')) q 0 (by omega) (fun y _ hy hc => by have := hle _ hc; omega)
/-- The two sort alike. -/
theorem sorts_alike (n : Int) (l : List S39) (hl : l.length ≤ 1099511627776) : ∃ r, order_Sort.f n (fw l) = some r ∧ Ev (fun k => arlinkref23_Sort.f k n l) r ∧ (r.2 = 13 ↔ validS n (fw l) = false) := by
  have hv := rvalid_ev n l hl
  cases c : validS n (fw l) with
  | false =>
    rw [c] at hv
    refine ⟨([], 13), sort_bad c (by rw [fw_length]; exact hl), ?_, by simp⟩
    unfold arlinkref23_Sort.f
    exact Ev.bind hv (Ev.now _)
  | true =>
    rw [c] at hv
    have hn : 0 ≤ n ∧ n ≤ 65536 := by
      unfold validS at c
      simp only [Bool.and_eq_true, decide_eq_true_eq] at c
      exact ⟨c.1.2, c.2⟩
    obtain ⟨N, rfl⟩ := Int.eq_ofNat_of_zero_le hn.1
    obtain ⟨r, hg, hs⟩ := sort_ok c (by rw [fw_length]; exact hl)
    refine ⟨_, hs, ?_, by split <;> simp⟩
    unfold arlinkref23_Sort.f
    exact Ev.bind hv (Ev.congr (fun k => by rw [if_pos rfl]) (rsort_ev l N (by omega) hl hg List.nodup_nil (fun v hv => by simp at hv)))
end Go.Proofs.Ythpjpkcfepmhkaa.PAll
