import Derived.Test.YtmiahabiabcohaaHFind
namespace Go.Proofs.Ytmiahabiabcohaa.PAll
open Go.RowKit Go.Proofs.YtmiahabiabcohaaW.PrintWords Go.Proofs.YtmiahabiabcohaaW.PrintLast Go.Proofs.YtmiahabiabcohaaW.PrintMore
set_option linter.unusedVariables false
set_option linter.unusedSimpArgs false

/-! ### What the heap hands back: the common ones, each once, in order -/
theorem drained_spec : ∀ (k : Nat) (xs : List S40), xs.length = k → Hp.Heap z40 lessS xs k 0 → (drained k xs).Perm xs ∧ (drained k xs).Pairwise (fun a b => lessS b a = false) := by
  intro k
  induction k with
  | zero =>
    intro xs hl _
    have : xs = [] := List.length_eq_zero_iff.1 hl
    subst this
    exact ⟨List.Perm.refl _, List.Pairwise.nil⟩
  | succ k ih =>
    intro xs hl hh
    have hne : xs ≠ [] := by intro e; rw [e] at hl; cases hl
    obtain ⟨p1, p2, p3, p4⟩ := Hp.pop_spec (d := z40) lessS_ord xs hne (by rw [hl]; exact hh)
    have e : drained (k + 1) xs = Hp.at_ z40 xs 0 :: drained k (Hp.pop z40 lessS xs) := by
      simp only [drained]
      rw [if_neg (by omega)]
    rw [hl, Nat.add_sub_cancel] at p2 p3
    obtain ⟨q1, q2⟩ := ih _ p2 p3
    rw [e]
    refine ⟨(q1.cons _).trans p1.symm, List.Pairwise.cons (fun b hb => ?_) q2⟩
    exact p4 b (q1.mem_iff.1 hb)
/-- The common ones of l in order. -/
def ranked (l : List S40) : List S40 := drained (commons l).length (Hp.init z40 lessS (commons l))
theorem ranked_spec (l : List S40) : (ranked l).Perm (commons l) ∧ (ranked l).Pairwise (fun a b => lessS b a = false) := by
  obtain ⟨h1, h2⟩ := Hp.init_spec (d := z40) lessS_ord (commons l)
  obtain ⟨h3, h4⟩ := drained_spec _ _ h2.length_eq h1
  exact ⟨h3.trans h2, h4⟩
/-- Names told apart: each common one has its own. -/
def Apart (l : List S40) : Prop := (commons l).Pairwise (fun a b => a.f0.toList ≠ b.f0.toList)
theorem apart_mem : ∀ (c : List S40), c.Pairwise (fun a b => a.f0.toList ≠ b.f0.toList) → ∀ {a b : S40}, a ∈ c → b ∈ c → a.f0.toList = b.f0.toList → a = b
  | [], _, _, _, ha, _, _ => nomatch ha
  | x :: r, h, a, b, ha, hb, he => by
    rw [List.pairwise_cons] at h
    rcases List.mem_cons.1 ha with rfl | ha' <;> rcases List.mem_cons.1 hb with rfl | hb'
    · rfl
    · exact absurd he (h.1 b hb')
    · exact absurd he.symm (h.1 a ha')
    · exact apart_mem r h.2 ha' hb' he
theorem apart_eq {l : List S40} (h : Apart l) {a b : S40} (ha : a ∈ commons l) (hb : b ∈ commons l) (he : a.f0.toList = b.f0.toList) : a = b := by
  exact apart_mem (commons l) h ha hb he
theorem less_both {a b : S40} (h1 : lessS a b = false) (h2 : lessS b a = false) : a.f0.toList = b.f0.toList := by
  rw [lessS_false] at h1 h2
  have : Op.bytesLess a.f0.toList b.f0.toList = false ∧ Op.bytesLess b.f0.toList a.f0.toList = false := by
    rcases h1 with h1 | ⟨_, h1 | ⟨_, h1⟩⟩ <;> rcases h2 with h2 | ⟨_, h2 | ⟨_, h2⟩⟩ <;> first | omega | exact ⟨h1, h2⟩
  exact Bytes.eq_of_neither _ _ this.1 this.2
/-- Whatever holds the common ones in order is this. -/
theorem ranked_unique {l m : List S40} (hA : Apart l) (hp : m.Perm (commons l)) (hs : m.Pairwise (fun a b => lessS b a = false)) : m = ranked l := by
  obtain ⟨h1, h2⟩ := ranked_spec l
  refine List.Perm.eq_of_pairwise (le := fun a b => lessS b a = false) ?_ hs h2 (hp.trans h1.symm)
  intro a b ha hb hab hba
  exact apart_eq hA (hp.mem_iff.1 ha) (h1.mem_iff.1 hb) (less_both hba hab)

/-! ### The slots -/
def slotsOf : List S40 → Int → List S32
  | [], _ => []
  | x :: r, e => ⟨x.f0, placed e x, x.f2⟩ :: slotsOf r (placed e x + x.f2)
def endOf : List S40 → Int → Int
  | [], e => e
  | x :: r, e => endOf r (placed e x + x.f2)
def alOf : List S40 → Int → Int
  | [], a => a
  | x :: r, a => alOf r (mx a x.f3)
theorem lay_eq : ∀ (D : List S40) (e a : Int) (acc : List S32), lay D e a acc = (acc ++ slotsOf D e, endOf D e, alOf D a)
  | [], e, a, acc => by simp [lay, slotsOf, endOf, alOf]
  | x :: r, e, a, acc => by simp only [lay, slotsOf, endOf, alOf]; rw [lay_eq r]; simp
theorem layout_eq {l : List S40} (h : fitting l = true) : common_Layout.f l = some (slotsOf (ranked l) 0, endOf (ranked l) 0, alOf (ranked l) 1) := by
  unfold common_Layout.f
  rw [if_pos h, lay_eq]
  rfl
theorem slotsOf_length : ∀ (D : List S40) (e : Int), (slotsOf D e).length = D.length
  | [], _ => rfl
  | x :: r, e => by simp only [slotsOf, List.length_cons]; rw [slotsOf_length r]

/-- What the reference's Right tells of resolutions. -/
structure Rightly (l : List S40) : Prop where
  few : l.length ≤ 100
  fit : ∀ x, x ∈ commons l → fits x
  apart : Apart l
theorem commons_length (l : List S40) : (commons l).length ≤ l.length := List.length_filter_le _ _
theorem Rightly.fitting {l : List S40} (h : Rightly l) : fitting l = true := by
  unfold PAll.fitting
  simp only [Bool.and_eq_true, decide_eq_true_eq]
  refine ⟨h.few, List.all_eq_true.2 fun x hx => ?_⟩
  obtain ⟨h1, h2, h3, h4⟩ := h.fit x hx
  simp [h1, h2, h3, h4]
theorem Rightly.rank_fit {l : List S40} (h : Rightly l) : ∀ x, x ∈ ranked l → fits x := fun x hx => h.fit x ((ranked_spec l).1.mem_iff.1 hx)
theorem Rightly.rank_few {l : List S40} (h : Rightly l) : (ranked l).length ≤ 100 := by
  rw [(ranked_spec l).1.length_eq]
  have := commons_length l
  have := h.few
  omega
/-- A turned list has the same ranks. -/
theorem ranked_perm {l m : List S40} (h : Apart l) (hp : m.Perm l) : ranked m = ranked l :=
  ranked_unique h ((ranked_spec m).1.trans (hp.filter _)) (ranked_spec m).2
theorem Rightly.perm {l m : List S40} (h : Rightly l) (hp : m.Perm l) : Rightly m := by
  have hc : (commons m).Perm (commons l) := hp.filter _
  exact ⟨by rw [hp.length_eq]; exact h.few, fun x hx => h.fit x (hc.mem_iff.1 hx), hc.symm.pairwise h.apart (fun h => Ne.symm h)⟩

/-- Bounds of a layout's running end. -/
theorem placed_end {e : Int} {x : S40} (he : 0 ≤ e) (hx : fits x) : e ≤ placed e x ∧ placed e x < e + x.f3 ∧ 0 ≤ placed e x + x.f2 ∧ placed e x + x.f2 ≤ e + 4295032830 := by
  have h1 := placed_lo e x he hx.2.2.1
  have h2 := placed_hi e x he hx.2.2.1
  obtain ⟨f1, f2, f3, f4⟩ := hx
  omega
/-- The place is a multiple of the alignment. -/
theorem placed_mod (e : Int) (x : S40) : placed e x % x.f3 = 0 := by
  unfold placed
  exact Int.mul_emod_left _ _
theorem placed_here {e : Int} {x : S40} (he : 0 ≤ e) (ha : 1 ≤ x.f3) (h : e % x.f3 = 0) : placed e x = e := by
  have h1 := placed_lo e x he ha
  have h2 := placed_hi e x he ha
  have h3 := placed_mod e x
  have h4 : (placed e x - e) % x.f3 = 0 := by rw [Int.sub_emod, h3, h]; simp
  have h5 : placed e x - e = (placed e x - e) % x.f3 := (Int.emod_eq_of_lt (by omega) (by omega)).symm
  omega
theorem placed_there {e : Int} {x : S40} (he : 0 ≤ e) (ha : 1 ≤ x.f3) (h : ¬ e % x.f3 = 0) : e + x.f3 - e % x.f3 = placed e x := by
  have h1 := placed_lo e x he ha
  have h2 := placed_hi e x he ha
  have h3 := placed_mod e x
  have r0 := Int.emod_nonneg e (show x.f3 ≠ 0 by omega)
  have r1 := Int.emod_lt_of_pos e (show 0 < x.f3 by omega)
  have hq := Int.mul_ediv_add_emod e x.f3
  -- the difference is a multiple of the alignment and less than it
  have h4 : (placed e x - (e - e % x.f3)) % x.f3 = 0 := by
    have h5 : (e - e % x.f3) % x.f3 = 0 := by
      have : e - e % x.f3 = x.f3 * (e / x.f3) := by omega
      rw [this]; exact Int.mul_emod_right _ _
    rw [Int.sub_emod, h3, h5]; simp
  obtain ⟨c, hc⟩ := Int.dvd_of_emod_eq_zero h4
  have hc1 : c = 1 := by
    have hlo : 0 < x.f3 * c := by omega
    have hhi : x.f3 * c < x.f3 * 2 := by omega
    have c0 : 0 < c := by
      by_cases h6 : 0 < c
      · exact h6
      · have h6 : c ≤ 0 := by omega
        have := Int.mul_nonpos_of_nonneg_of_nonpos (show 0 ≤ x.f3 by omega) h6
        omega
    have c2 : c < 2 := Int.lt_of_mul_lt_mul_left hhi (by omega)
    omega
  rw [hc1] at hc
  omega
end Go.Proofs.Ytmiahabiabcohaa.PAll
