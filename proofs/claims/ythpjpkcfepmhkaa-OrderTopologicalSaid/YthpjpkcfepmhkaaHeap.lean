/- Plain law of a binary heap in a list, as container/heap keeps it: down, up, and what Init, Push and Pop make of them. -/
namespace Go.Proofs.Ythpjpkcfepmhkaa.Hp
section
variable {α : Type} (d : α) (less : α → α → Bool)

def at_ (xs : List α) (i : Nat) : α := xs.getD i d
def swp (xs : List α) (i k : Nat) : List α := (xs.set i (at_ d xs k)).set k (at_ d xs i)
/-- The lesser child. -/
def kid (n : Nat) (xs : List α) (i : Nat) : Nat := if 2 * i + 2 < n ∧ less (at_ d xs (2 * i + 2)) (at_ d xs (2 * i + 1)) = true then 2 * i + 2 else 2 * i + 1
def down (n : Nat) : Nat → List α → Nat → List α
  | 0, xs, _ => xs
  | k + 1, xs, i =>
    if n ≤ 2 * i + 1 then xs else
    if less (at_ d xs (kid d less n xs i)) (at_ d xs i) = true then down n k (swp d xs i (kid d less n xs i)) (kid d less n xs i) else xs
def up : Nat → List α → Nat → List α
  | 0, xs, _ => xs
  | k + 1, xs, j =>
    if j = 0 then xs else
    if less (at_ d xs j) (at_ d xs ((j - 1) / 2)) = true then up k (swp d xs ((j - 1) / 2) j) ((j - 1) / 2) else xs
/-- Init's rounds: at i, i - 1, .., 0 (i counts one more). -/
def build (n : Nat) : Nat → List α → List α
  | 0, xs => xs
  | i + 1, xs => build n i (down d less n (n + 1) xs i)
def init (xs : List α) : List α := build d less xs.length (xs.length / 2) xs
def push (xs : List α) (x : α) : List α := up d less (xs.length + 1) (xs ++ [x]) xs.length
/-- Behind Pop's exchange and down: the last is handed back, the others stay. -/
def popped (xs : List α) : List α := down d less (xs.length - 1) (xs.length) (swp d xs 0 (xs.length - 1)) 0
def pop (xs : List α) : List α := (popped d less xs).take (xs.length - 1)
end

section
variable {α : Type} {d : α} {less : α → α → Bool}

theorem swp_length (xs : List α) (i k : Nat) : (swp d xs i k).length = xs.length := by simp [swp]
theorem at_set (xs : List α) (i j : Nat) (a : α) (hi : i < xs.length) : at_ d (xs.set i a) j = if j = i then a else at_ d xs j := by
  unfold at_
  simp only [List.getD_eq_getElem?_getD, List.getElem?_set]
  by_cases h : i = j
  · subst h; simp [hi]
  · simp [h, Ne.symm h]
theorem at_swp (xs : List α) (i k j : Nat) (hi : i < xs.length) (hk : k < xs.length) : at_ d (swp d xs i k) j = if j = k then at_ d xs i else if j = i then at_ d xs k else at_ d xs j := by
  unfold swp
  rw [at_set _ _ _ _ (by simpa using hk), at_set _ _ _ _ hi]
theorem swp_perm (xs : List α) (i k : Nat) (hi : i < xs.length) (hk : k < xs.length) : (swp d xs i k).Perm xs := by
  have h := Array.swap_perm (xs := xs.toArray) (i := i) (j := k) (by simpa using hi) (by simpa using hk)
  have h2 := h.toList
  have e : (xs.toArray.swap i k (by simpa using hi) (by simpa using hk)).toList = swp d xs i k := by
    simp [Array.swap, swp, at_, List.getD_eq_getElem?_getD, List.getElem?_eq_getElem hi, List.getElem?_eq_getElem hk]
  rw [e] at h2
  simpa using h2

/-- From place a on each one is no greater than those beneath it, within the first n. -/
def Heap (d : α) (less : α → α → Bool) (xs : List α) (n a : Nat) : Prop :=
  ∀ i j, a ≤ i → (j = 2 * i + 1 ∨ j = 2 * i + 2) → j < n → less (at_ d xs j) (at_ d xs i) = false

structure Ord (less : α → α → Bool) : Prop where
  asym : ∀ a b, less a b = true → less b a = false
  trans : ∀ a b c, less b a = false → less c b = false → less c a = false

theorem down_perm (n : Nat) : ∀ (k : Nat) (xs : List α) (i : Nat), n ≤ xs.length → i < xs.length → (down d less n k xs i).Perm xs := by
  intro k
  induction k with
  | zero => intro xs i _ _; exact List.Perm.refl _
  | succ k ih =>
    intro xs i hn hi
    simp only [down]
    split
    · exact List.Perm.refl _
    · rename_i h1
      split
      · generalize hj : kid d less n xs i = j
        have hjl : j < n := by
          rw [← hj]; unfold kid; split
          · rename_i h; exact h.1
          · omega
        exact (ih _ j (by rw [swp_length]; exact hn) (by rw [swp_length]; omega)).trans (swp_perm xs i j hi (by omega))
      · exact List.Perm.refl _
theorem down_length (n k : Nat) (xs : List α) (i : Nat) (hn : n ≤ xs.length) (hi : i < xs.length) : (down d less n k xs i).length = xs.length := (down_perm n k xs i hn hi).length_eq
theorem down_far (n : Nat) : ∀ (k : Nat) (xs : List α) (i q : Nat), n ≤ xs.length → i < xs.length → (q < i ∨ n ≤ q) → i < n ∨ q ≠ i → at_ d (down d less n k xs i) q = at_ d xs q := by
  intro k
  induction k with
  | zero => intro xs i q _ _ _ _; rfl
  | succ k ih =>
    intro xs i q hn hi hq hq2
    simp only [down]
    split
    · rfl
    · rename_i h1
      split
      · generalize hj : kid d less n xs i = j
        have hjl : j < n ∧ i < j := by
          rw [← hj]; unfold kid; split
          · rename_i h; exact ⟨h.1, by omega⟩
          · omega
        rw [ih _ j q (by rw [swp_length]; exact hn) (by rw [swp_length]; omega) (by omega) (by omega), at_swp xs i j q hi (by omega), if_neg (by omega), if_neg (by omega)]
      · rfl
/-- down makes a heap from i0 on, where all beneath it was one; on its way: all but at i. -/
theorem down_heap (ho : Ord less) (n a : Nat) : ∀ (k : Nat) (xs : List α) (i : Nat), n ≤ xs.length → i < xs.length → a ≤ i → n < k + i →
    (∀ p j, a ≤ p → p ≠ i → (j = 2 * p + 1 ∨ j = 2 * p + 2) → j < n → less (at_ d xs j) (at_ d xs p) = false) →
    (∀ p j, a ≤ p → (i = 2 * p + 1 ∨ i = 2 * p + 2) → (j = 2 * i + 1 ∨ j = 2 * i + 2) → j < n → less (at_ d xs j) (at_ d xs p) = false) →
    Heap d less (down d less n k xs i) n a := by
  intro k
  induction k with
  | zero =>
    intro xs i hn hi ha hk h1 h2 p j hp hj hjn
    by_cases e : p = i
    · omega
    · exact h1 p j hp e hj hjn
  | succ k ih =>
    intro xs i hn hi ha hk h1 h2
    simp only [down]
    split
    · rename_i hb
      intro p j hp hj hjn
      by_cases e : p = i
      · omega
      · exact h1 p j hp e hj hjn
    · rename_i hb
      generalize hj : kid d less n xs i = j
      have hjl : j < n ∧ (j = 2 * i + 1 ∨ j = 2 * i + 2) := by
        rw [← hj]; unfold kid; split
        · rename_i h; exact ⟨h.1, by omega⟩
        · omega
      -- j is the lesser child
      have hmin : ∀ q, (q = 2 * i + 1 ∨ q = 2 * i + 2) → q < n → less (at_ d xs q) (at_ d xs j) = false := by
        have irr : ∀ x, less x x = false := fun x => by
          cases h : less x x
          · rfl
          · exact absurd (ho.asym x x h) (by rw [h]; decide)
        intro q hq hqn
        by_cases hc : 2 * i + 2 < n ∧ less (at_ d xs (2 * i + 2)) (at_ d xs (2 * i + 1)) = true
        · unfold kid at hj; rw [if_pos hc] at hj
          subst hj
          rcases hq with rfl | rfl
          · exact ho.asym _ _ hc.2
          · exact irr _
        · unfold kid at hj; rw [if_neg hc] at hj
          subst hj
          rcases hq with rfl | rfl
          · exact irr _
          · cases hx : less (at_ d xs (2 * i + 2)) (at_ d xs (2 * i + 1))
            · rfl
            · exact absurd ⟨hqn, hx⟩ hc
      split
      · rename_i hlt
        have hil : i < n := by omega
        refine ih _ j (by rw [swp_length]; exact hn) (by rw [swp_length]; omega) (by omega) (by omega) ?_ ?_
        · intro p q hp hpj hq hqn
          rw [at_swp xs i j q hi (by omega), at_swp xs i j p hi (by omega)]
          by_cases hpi : p = i
          · -- the exchanged parent: xs[j] now
            subst hpi
            rw [if_neg hpj, if_pos rfl]
            by_cases hqj : q = j
            · rw [if_pos hqj]; exact ho.asym _ _ hlt
            · rw [if_neg hqj, if_neg (by omega)]; exact hmin q hq hqn
          · rw [if_neg hpj, if_neg hpi]
            by_cases hqj : q = j
            · exfalso; omega
            · rw [if_neg hqj]
              by_cases hqi : q = i
              · rw [if_pos hqi]
                -- p is i's parent: its grandchild j
                exact h2 p j hp (by omega) hjl.2 hjl.1
              · rw [if_neg hqi]; exact h1 p q hp hpi hq hqn
        · intro p q hp hjp hq hqn
          have hpi : p = i := by omega
          subst hpi
          rw [at_swp xs p j q hi (by omega), at_swp xs p j p hi (by omega), if_neg (by omega : ¬ q = j), if_neg (by omega : ¬ q = p), if_neg (by omega : ¬ p = j), if_pos rfl]
          exact h1 j q (by omega) (by omega) hq hqn
      · rename_i hlt
        have hlt' : less (at_ d xs j) (at_ d xs i) = false := by
          cases h : less (at_ d xs j) (at_ d xs i)
          · rfl
          · exact absurd h hlt
        intro p q hp hq hqn
        by_cases hpi : p = i
        · subst hpi
          exact ho.trans _ _ _ hlt' (hmin q hq hqn)
        · exact h1 p q hp hpi hq hqn
theorem build_spec (ho : Ord less) (n : Nat) : ∀ (i : Nat) (xs : List α), n ≤ xs.length → i ≤ n / 2 → Heap d less xs n i → Heap d less (build d less n i xs) n 0 ∧ (build d less n i xs).Perm xs := by
  intro i
  induction i with
  | zero => intro xs _ _ h; exact ⟨h, List.Perm.refl _⟩
  | succ i ih =>
    intro xs hn hi h
    have hil : i < xs.length := by omega
    have hp := down_perm (d := d) (less := less) n (n + 1) xs i hn hil
    have hh : Heap d less (down d less n (n + 1) xs i) n i := by
      refine down_heap ho n i (n + 1) xs i hn hil (Nat.le_refl _) (by omega) ?_ ?_
      · intro p j hp hpi hj hjn
        exact h p j (by omega) hj hjn
      · intro p j hp hip hj hjn
        omega
    obtain ⟨h1, h2⟩ := ih _ (by rw [hp.length_eq]; exact hn) (by omega) hh
    exact ⟨h1, h2.trans hp⟩
theorem init_spec (ho : Ord less) (xs : List α) : Heap d less (init d less xs) xs.length 0 ∧ (init d less xs).Perm xs :=
  build_spec ho xs.length (xs.length / 2) xs (Nat.le_refl _) (Nat.le_refl _) (by intro i j hi hj hjn; omega)
theorem init_length (ho : Ord less) (xs : List α) : (init d less xs).length = xs.length := (init_spec ho xs).2.length_eq
/-- The first of a heap is none of the greater. -/
theorem heap_least (ho : Ord less) {xs : List α} {n : Nat} (h : Heap d less xs n 0) : ∀ j, j < n → less (at_ d xs j) (at_ d xs 0) = false := by
  have irr : ∀ x, less x x = false := fun x => by
    cases h : less x x
    · rfl
    · exact absurd (ho.asym x x h) (by rw [h]; decide)
  intro j
  induction j using Nat.strongRecOn with
  | _ j ih =>
    intro hj
    by_cases h0 : j = 0
    · subst h0; exact irr _
    · have h1 := ih ((j - 1) / 2) (by omega) (by omega)
      have h2 := h ((j - 1) / 2) j (Nat.zero_le _) (by omega) hj
      exact ho.trans _ _ _ h1 h2
theorem popped_length (xs : List α) (h : xs ≠ []) : (popped d less xs).length = xs.length := by
  have hl : 0 < xs.length := List.length_pos_iff.2 h
  unfold popped
  rw [down_length _ _ _ _ (by rw [swp_length]; omega) (by rw [swp_length]; omega), swp_length]
theorem popped_last (xs : List α) (h : xs ≠ []) : at_ d (popped d less xs) (xs.length - 1) = at_ d xs 0 := by
  have hl : 0 < xs.length := List.length_pos_iff.2 h
  unfold popped
  by_cases h1 : xs.length = 1
  · rw [h1]
    have : down d less (1 - 1) 1 (swp d xs 0 (1 - 1)) 0 = swp d xs 0 0 := by simp [down]
    rw [this, at_swp xs 0 0 _ hl hl]
    simp
  · rw [down_far _ _ _ _ _ (by rw [swp_length]; omega) (by rw [swp_length]; omega) (by omega) (by omega), at_swp xs 0 _ _ hl (by omega), if_pos rfl]
theorem pop_spec (ho : Ord less) (xs : List α) (h : xs ≠ []) (hh : Heap d less xs xs.length 0) :
    xs.Perm (at_ d xs 0 :: pop d less xs) ∧ (pop d less xs).length = xs.length - 1 ∧ Heap d less (pop d less xs) (xs.length - 1) 0 ∧ ∀ y, y ∈ pop d less xs → less y (at_ d xs 0) = false := by
  have hl : 0 < xs.length := List.length_pos_iff.2 h
  have hpl := popped_length (d := d) (less := less) xs h
  have hlast := popped_last (d := d) (less := less) xs h
  have hperm : (popped d less xs).Perm xs := by
    unfold popped
    exact (down_perm _ _ _ _ (by rw [swp_length]; omega) (by rw [swp_length]; omega)).trans (swp_perm xs 0 _ hl (by omega))
  have hsplit : popped d less xs = pop d less xs ++ [at_ d xs 0] := by
    have e1 : popped d less xs = (popped d less xs).take (xs.length - 1) ++ (popped d less xs).drop (xs.length - 1) := (List.take_append_drop _ _).symm
    rw [e1]
    congr 1
    rw [List.drop_eq_getElem_cons (by omega), List.drop_of_length_le (by omega)]
    rw [← hlast]
    simp [at_, List.getD_eq_getElem?_getD, List.getElem?_eq_getElem (show xs.length - 1 < (popped d less xs).length by omega)]
  have hp1 : xs.Perm (at_ d xs 0 :: pop d less xs) := by
    have h2 := hperm.symm
    rw [hsplit] at h2
    exact h2.trans List.perm_append_comm
  have hplen : (pop d less xs).length = xs.length - 1 := by unfold pop; rw [List.length_take, hpl]; omega
  have hheap : Heap d less (popped d less xs) (xs.length - 1) 0 := by
    unfold popped
    by_cases h1 : xs.length = 1
    · intro i j _ _ hj; omega
    · refine down_heap ho _ 0 _ _ 0 (by rw [swp_length]; omega) (by rw [swp_length]; omega) (Nat.le_refl _) (by omega) ?_ ?_
      · intro p j _ hp0 hj hjn
        rw [at_swp xs 0 _ _ hl (by omega), at_swp xs 0 _ _ hl (by omega), if_neg (by omega), if_neg (by omega), if_neg (by omega), if_neg (by omega)]
        exact hh p j (Nat.zero_le _) hj (by omega)
      · intro p j _ hip; omega
  refine ⟨hp1, hplen, ?_, ?_⟩
  · intro i j hi hj hjn
    have e : ∀ q, q < xs.length - 1 → at_ d (pop d less xs) q = at_ d (popped d less xs) q := by
      intro q hq
      simp [pop, at_, List.getD_eq_getElem?_getD, hq]
    rw [e j hjn, e i (by omega)]
    exact hheap i j hi hj hjn
  · intro y hy
    have hy2 : y ∈ xs := hp1.symm.mem_iff.1 (List.mem_cons_of_mem _ hy)
    obtain ⟨j, hj, rfl⟩ := List.getElem_of_mem hy2
    have := heap_least ho hh j hj
    simpa [at_, List.getD_eq_getElem?_getD, List.getElem?_eq_getElem hj] using this
theorem up_perm : ∀ (k : Nat) (xs : List α) (j : Nat), j < xs.length → (up d less k xs j).Perm xs := by
  intro k
  induction k with
  | zero => intro xs j _; exact List.Perm.refl _
  | succ k ih =>
    intro xs j hj
    simp only [up]
    split
    · exact List.Perm.refl _
    · split
      · exact (ih _ _ (by rw [swp_length]; omega)).trans (swp_perm xs _ j (by omega) hj)
      · exact List.Perm.refl _
theorem up_heap (ho : Ord less) (n : Nat) : ∀ (k : Nat) (xs : List α) (j : Nat), n = xs.length → j < n → j < k →
    (∀ p q, (q = 2 * p + 1 ∨ q = 2 * p + 2) → q < n → q ≠ j → less (at_ d xs q) (at_ d xs p) = false) →
    (∀ p q, (j = 2 * p + 1 ∨ j = 2 * p + 2) → (q = 2 * j + 1 ∨ q = 2 * j + 2) → q < n → less (at_ d xs q) (at_ d xs p) = false) →
    Heap d less (up d less k xs j) n 0 := by
  intro k
  induction k with
  | zero => intro xs j _ _ hk; omega
  | succ k ih =>
    intro xs j hn hj hk h1 h2
    simp only [up]
    split
    · rename_i h0
      intro p q _ hq hqn
      exact h1 p q hq hqn (by omega)
    · rename_i h0
      split
      · rename_i hlt
        generalize hi : (j - 1) / 2 = i at hlt ⊢
        have hij : j = 2 * i + 1 ∨ j = 2 * i + 2 := by omega
        have hil : i < xs.length := by omega
        refine ih _ i (by rw [swp_length]; exact hn) (by omega) (by omega) ?_ ?_
        · intro p q hq hqn hqi
          rw [at_swp xs i j q hil (by omega), at_swp xs i j p hil (by omega)]
          by_cases hqj : q = j
          · have hpi : p = i := by omega
            subst hpi
            rw [if_pos hqj, if_neg (by omega), if_pos rfl]
            exact ho.asym _ _ hlt
          · rw [if_neg hqj, if_neg hqi]
            by_cases hpj : p = j
            · subst hpj
              rw [if_pos rfl]
              exact h2 i q hij hq hqn
            · rw [if_neg hpj]
              by_cases hpi : p = i
              · subst hpi
                rw [if_pos rfl]
                exact ho.trans _ _ _ (ho.asym _ _ hlt) (h1 p q hq hqn hqj)
              · rw [if_neg hpi]
                exact h1 p q hq hqn hqj
        · intro p q hip hq hqn
          rw [at_swp xs i j q hil (by omega), at_swp xs i j p hil (by omega), if_neg (by omega : ¬ p = j), if_neg (by omega : ¬ p = i)]
          have hpi := h1 p i hip (by omega) (by omega)
          by_cases hqj : q = j
          · rw [if_pos hqj]; exact hpi
          · rw [if_neg hqj, if_neg (by omega)]
            exact ho.trans _ _ _ hpi (h1 i q hq hqn hqj)
      · rename_i hlt
        have hlt' : less (at_ d xs j) (at_ d xs ((j - 1) / 2)) = false := by
          cases h : less (at_ d xs j) (at_ d xs ((j - 1) / 2))
          · rfl
          · exact absurd h hlt
        intro p q _ hq hqn
        by_cases hqj : q = j
        · subst hqj
          have : p = (q - 1) / 2 := by omega
          rw [this]; exact hlt'
        · exact h1 p q hq hqn hqj
theorem push_spec (ho : Ord less) (xs : List α) (x : α) (hh : Heap d less xs xs.length 0) : Heap d less (push d less xs x) (xs.length + 1) 0 ∧ (push d less xs x).Perm (x :: xs) := by
  have ha : ∀ q, q < xs.length → at_ d (xs ++ [x]) q = at_ d xs q := by
    intro q hq
    simp [at_, List.getD_eq_getElem?_getD, List.getElem?_append_left hq]
  refine ⟨?_, ?_⟩
  · unfold push
    refine up_heap ho (xs.length + 1) _ _ _ (by simp) (by omega) (by omega) ?_ ?_
    · intro p q hq hqn hqj
      rw [ha q (by omega), ha p (by omega)]
      exact hh p q (Nat.zero_le _) hq (by omega)
    · intro p q hp hq hqn; omega
  · unfold push
    exact (up_perm _ _ _ (by simp)).trans List.perm_append_comm
theorem push_length (xs : List α) (x : α) : (push d less xs x).length = xs.length + 1 := by
  unfold push
  rw [(up_perm _ _ _ (by simp)).length_eq]
  simp
end
end Go.Proofs.Ythpjpkcfepmhkaa.Hp
