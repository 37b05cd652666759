import Derived.Test.YthpjpkcfepmhkaaPAllx0
import Derived.Lib.Hide
namespace Go.Proofs.Ythpjpkcfepmhkaa.PAll
open Go.RowKit Go.Proofs.YthpjpkcfepmhkaaW.PrintWords Go.Proofs.YthpjpkcfepmhkaaW.PrintLast Go.Proofs.YthpjpkcfepmhkaaW.PrintMore
set_option linter.unusedVariables false
set_option linter.unusedSimpArgs false

/-! ### Rows of scalars, told apart by an owner: f gives each block a number -/
section
variable {α : Type} {d : Kd α} {e : Nat} {w w1 W : World} {base : Nat} {v u : Value} {xs : List α}
theorem rs_grown (hE : d.E = []) (h : d.R e w base (fun _ => True) v xs) {row : Option Nat} (hg : w.grownBy w1 row) (hne : ∀ k, v.ownBlock = some k → some k ≠ row) : d.R e w1 base (fun _ => True) v xs :=
  Kd.R_mono (Kd.R_grown (Kd.R_tight hE h) hg (fun k hk => hne k hk.symm)) (fun _ _ => trivial)
theorem rs_keep (hE : d.E = []) (h : d.R e w base (fun _ => True) v xs) {g : Nat} {row : Option Nat} (hk : KeepBut w w1 g row) (hg : ∀ k, v.ownBlock = some k → k ≠ g) (hne : ∀ k, v.ownBlock = some k → some k ≠ row) : d.R e w1 base (fun _ => True) v xs :=
  Kd.R_mono (Kd.R_step (Kd.R_tight hE h) (fun k hk' hlt => hk.2 k hlt (hg k hk'.symm) (hne k hk'.symm))) (fun _ _ => trivial)
end
def Own (f : Nat → Nat) (i : Nat) (v : Value) : Prop := ∀ k, v.ownBlock = some k → f k = i
def upd (f : Nat → Nat) (n i : Nat) : Nat → Nat := fun k => if n ≤ k then i else f k
theorem Own.ne {f : Nat → Nat} {i j : Nat} {v u : Value} (h : Own f i v) (h' : Own f j u) (hij : i ≠ j) : ∀ k, v.ownBlock = some k → some k ≠ u.ownBlock := by
  intro k hk e
  have h1 := h k hk
  have h2 := h' k e.symm
  omega
theorem Own.upd {f : Nat → Nat} {i n q : Nat} {v : Value} (h : Own f i v) (hlt : ∀ k, v.ownBlock = some k → k < n) : Own (upd f n q) i v := by
  intro k hk
  unfold PAll.upd
  rw [if_neg (by have := hlt k hk; omega)]
  exact h k hk
theorem Own.moved {f : Nat → Nat} {i n : Nat} {v v1 : Value} (h : Own f i v) (hlt : ∀ k, v.ownBlock = some k → k < n) (hm : v1.ownBlock = v.ownBlock ∨ ∃ b, v1.ownBlock = some b ∧ n ≤ b) : Own (PAll.upd f n i) i v1 := by
  intro k hk
  unfold PAll.upd
  rcases hm with hm | ⟨b, hb, hle⟩
  · rw [hm] at hk
    rw [if_neg (by have := hlt k hk; omega)]
    exact h k hk
  · rw [hb] at hk
    injection hk with hk
    rw [if_pos (by omega)]
theorem Own.nil (f : Nat → Nat) (i : Nat) : Own f i (.slice none 0 0) := fun k hk => by simp [Value.ownBlock] at hk

/-! ### A row of rows of numbers: vs are the inner rows' headers, row j's owner is o + j -/
abbrev KI : Kd Int := Kd.int .i64
structure Adj (w : World) (base : Nat) (f : Nat → Nat) (o : Nat) (v : Value) (vs : List Value) (xss : List (List Int)) : Prop where
  outer : w.ownsRow base 24 1 v vs.length vs
  len : vs.length = xss.length
  inner : ∀ j u xs, vs[j]? = some u → xss[j]? = some xs → KI.R 3 w base (fun _ => True) u xs ∧ Own f (o + j) u
section
variable {w w1 : World} {base : Nat} {f : Nat → Nat} {o : Nat} {v : Value} {vs : List Value} {xss : List (List Int)}
theorem Adj.keep (h : Adj w base f o v vs xss) {g : Nat} {row : Option Nat} (hk : KeepBut w w1 g row) (hgt : ∃ (cells : Array Value) (t : Nat), w.heap[g]? = some (.cells cells t (0, 0)) ∧ t ≠ 24 ∧ t ≠ 3) (hrow : row = none ∨ ∃ (cells : Array Value) (t : Nat) (k : Nat), row = some k ∧ w.heap[k]? = some (.cells cells t (0, 0)) ∧ t ≠ 24)
    (hne : ∀ (j : Nat) (u : Value), vs[j]? = some u → ∀ k, u.ownBlock = some k → some k ≠ row) : Adj w1 base f o v vs xss := by
  obtain ⟨gc, gt, hg, hg1, hg2⟩ := hgt
  refine ⟨?_, h.len, fun j u xs hu hx => ?_⟩
  · refine own_move h.outer (fun k hk' => ?_)
    obtain ⟨cells, hc⟩ := own_typed h.outer k hk'
    refine hk.2 k (own_lt h.outer k hk') ?_ ?_
    · rintro rfl
      rw [hc] at hg
      injection hg with hg
      injection hg with _ hg
      exact hg1 hg.symm
    · rcases hrow with hrow | ⟨rc, rt, rk, hrow, hr, hr1⟩
      · rw [hrow]; simp
      · rw [hrow]
        intro e
        injection e with e
        subst e
        rw [hc] at hr
        injection hr with hr
        injection hr with _ hr
        exact hr1 hr.symm
  · obtain ⟨hR, hO⟩ := h.inner j u xs hu hx
    refine ⟨rs_keep rfl hR hk (fun k hk' => ?_) (hne j u hu), hO⟩
    rintro rfl
    obtain ⟨cells, hc⟩ := Kd.R_typed hR k hk'
    rw [hc] at hg
    injection hg with hg
    injection hg with _ hg
    exact hg2 hg.symm
theorem Adj.below (h : Adj w base f o v vs xss) (hb : Below w.heap.size w w1) : Adj w1 base f o v vs xss :=
  ⟨pw_own_below h.outer hb, h.len, fun j u xs hu hx => ⟨Kd.R_below (h.inner j u xs hu hx).1 hb, (h.inner j u xs hu hx).2⟩⟩
/-- A row of numbers that is none of the inner ones has been written. -/
theorem Adj.grown (h : Adj w base f o v vs xss) {row : Option Nat} (hg : w.grownBy w1 row) (hrow : row = none ∨ ∃ (cells : Array Value) (t : Nat) (k : Nat), row = some k ∧ w.heap[k]? = some (.cells cells t (0, 0)) ∧ t ≠ 24) (hne : ∀ (j : Nat) (u : Value), vs[j]? = some u → ∀ k, u.ownBlock = some k → some k ≠ row) : Adj w1 base f o v vs xss := by
  refine ⟨own_move h.outer (fun k hk' => ?_), h.len, fun j u xs hu hx => ⟨rs_grown rfl (h.inner j u xs hu hx).1 hg (hne j u hu), (h.inner j u xs hu hx).2⟩⟩
  obtain ⟨cells, hc⟩ := own_typed h.outer k hk'
  refine hg.block k (own_lt h.outer k hk') ?_
  rcases hrow with hrow | ⟨rc, rt, rk, hrow, hr, hr1⟩
  · rw [hrow]; simp
  · rw [hrow]
    intro e
    injection e with e
    subst e
    rw [hc] at hr
    injection hr with hr
    injection hr with _ hr
    exact hr1 hr.symm
theorem Adj.upd (h : Adj w base f o v vs xss) {q : Nat} (n : Nat) (hn : w.heap.size ≤ n) : Adj w base (PAll.upd f n q) o v vs xss :=
  ⟨h.outer, h.len, fun j u xs hu hx => ⟨(h.inner j u xs hu hx).1, (h.inner j u xs hu hx).2.upd (fun k hk => Nat.lt_of_lt_of_le (Kd.R_lt (h.inner j u xs hu hx).1 k hk) hn)⟩⟩
/-- An inner row's header is put back, its row has been appended to. -/
theorem Adj.stored {b : Nat} {u1 : Value} {ys : List Int} {gv cap : Nat} (h : Adj w base f o (.slice (some ⟨gv, 0, none⟩) vs.length cap) vs xss) (hb : b < vs.length) (hR : KI.R 3 w base (fun _ => True) u1 ys) (hO : Own f (o + b) u1) :
    Adj (w.setCell ⟨gv, b, none⟩ u1) base f o (.slice (some ⟨gv, 0, none⟩) vs.length cap) (vs.set b u1) (xss.set b ys) := by
  obtain ⟨cells, hc⟩ := own_typed h.outer gv (by simp [Value.ownBlock])
  have hs := (h.outer.stored b u1).1
  refine ⟨by rw [List.length_set]; exact hs, by rw [List.length_set, List.length_set]; exact h.len, fun j u xs hu hx => ?_⟩
  by_cases e : j = b
  · subst e
    rw [List.getElem?_set_self hb] at hu
    rw [List.getElem?_set_self (by rw [← h.len]; exact hb)] at hx
    injection hu with hu
    injection hx with hx
    subst hu; subst hx
    exact ⟨Kd.R_set hR hc (by decide) _ _, hO⟩
  · rw [List.getElem?_set_ne (Ne.symm e)] at hu hx
    obtain ⟨h1, h2⟩ := h.inner j u xs hu hx
    exact ⟨Kd.R_set h1 hc (by decide) _ _, h2⟩
theorem Adj.form (h : Adj w base f o v vs xss) (hp : 0 < vs.length) : ∃ g cap, v = .slice (some ⟨g, 0, none⟩) vs.length cap ∧ base ≤ g ∧ g < w.heap.size := h.outer.form hp
theorem Adj.cell {gv cap : Nat} (h : Adj w base f o (.slice (some ⟨gv, 0, none⟩) vs.length cap) vs xss) (b : Nat) (hb : b < vs.length) : w.cell? ⟨gv, b, none⟩ = some (vs.getD b undef) ∧ w.frozen? ⟨gv, b, none⟩ = false := by
  constructor
  · have hc := h.outer.cells (g := gv) rfl b (vs.getD b undef) (by rw [List.getD_eq_getElem?_getD, List.getElem?_eq_getElem hb]; rfl)
    rwa [add_plain] at hc
  · obtain ⟨cells, hc⟩ := own_typed h.outer gv (by simp [Value.ownBlock])
    exact blk_frozen hc _
theorem Adj.at_ (h : Adj w base f o v vs xss) (b : Nat) (hb : b < vs.length) : KI.R 3 w base (fun _ => True) (vs.getD b undef) (xss.getD b []) ∧ Own f (o + b) (vs.getD b undef) := by
  refine h.inner b _ _ ?_ ?_
  · rw [List.getD_eq_getElem?_getD, List.getElem?_eq_getElem hb]; rfl
  · have : b < xss.length := by rw [← h.len]; exact hb
    rw [List.getD_eq_getElem?_getD, List.getElem?_eq_getElem this]; rfl
/-- What was made: all inner rows nil. -/
theorem Adj.made (w : World) (base n : Nat) (f : Nat → Nat) (o : Nat) (hb : base ≤ w.heap.size) (hn : n ≤ 1099511627776) :
    Adj (w.alloc (.cells (madeCells #[.slice none 0 0] n) 24)) base f o (.slice (some ⟨w.heap.size, 0, none⟩) n n) (List.replicate n (.slice none 0 0)) (List.replicate n []) := by
  have hl : (madeCells #[Value.slice none 0 0] n).toList = List.replicate n (.slice none 0 0) := by
    apply List.ext_getElem
    · simp [madeCells]
    · intro i h1 h2
      simp [madeCells, Nat.mod_one]
  refine ⟨?_, by simp, fun j u xs hu hx => ?_⟩
  · have h := World.ownsRow_lit (base := base) (e := 24) (size := 1) w (madeCells #[.slice none 0 0] n) n hb (by simp only [maxLen]; omega) (by simp [size_madeCells])
    rw [hl] at h
    rw [List.length_replicate]
    exact h
  · have hj := (List.getElem?_eq_some_iff.1 hu).1
    rw [List.length_replicate] at hj
    rw [List.getElem?_replicate, if_pos hj] at hu hx
    injection hu with hu
    injection hx with hx
    subst hu; subst hx
    exact ⟨Kd.R_nil _ _ _ _ _, Own.nil _ _⟩
end
end Go.Proofs.Ythpjpkcfepmhkaa.PAll
