import Derived.Test.YthpjpkcfepmhkaaHSort0
namespace Go.Proofs.Ythpjpkcfepmhkaa.PAll
open Go.RowKit Go.Proofs.YthpjpkcfepmhkaaW.PrintWords Go.Proofs.YthpjpkcfepmhkaaW.PrintLast Go.Proofs.YthpjpkcfepmhkaaW.PrintMore
set_option linter.unusedVariables false
set_option linter.unusedSimpArgs false

section
variable {w0 w w1 : World} {base : Nat} {f : Nat → Nat} {o : Nat} {v : Value} {vs : List Value} {xss : List (List Int)}
theorem getD_some {vs : List Value} {b : Nat} (hb : b < vs.length) : vs[b]? = some (vs.getD b undef) := by
  rw [List.getD_eq_getElem?_getD, List.getElem?_eq_getElem hb]; rfl
theorem getD_someL {xss : List (List Int)} {b : Nat} (hb : b < xss.length) : xss[b]? = some (xss.getD b []) := by
  rw [List.getD_eq_getElem?_getD, List.getElem?_eq_getElem hb]; rfl
/-- An inner row has been appended to and its header put back. -/
theorem Adj.appended {b gv N : Nat} {u1 : Value} {ys : List Int} (h : Adj w base f o (.slice (some ⟨gv, 0, none⟩) N N) vs xss) (hN : vs.length = N) (hb : b < vs.length) (hg : w.grownBy w1 (vs.getD b undef).ownBlock) (hR : KI.R 3 w1 base (fun _ => True) u1 ys)
    (hm : u1.ownBlock = (vs.getD b undef).ownBlock ∨ ∃ k, u1.ownBlock = some k ∧ w.heap.size ≤ k) :
    Adj (w1.setCell ⟨gv, b, none⟩ u1) base (PAll.upd f w.heap.size (o + b)) o (.slice (some ⟨gv, 0, none⟩) N N) (vs.set b u1) (xss.set b ys) := by
  obtain ⟨hRb, hOb⟩ := h.at_ b hb
  have hlt := Kd.R_lt hRb
  have houter : w1.ownsRow base 24 1 (.slice (some ⟨gv, 0, none⟩) N N) vs.length vs := by
    refine own_move h.outer (fun k hk' => ?_)
    obtain ⟨cells, hc⟩ := own_typed h.outer k hk'
    refine hg.block k (own_lt h.outer k hk') ?_
    intro e
    obtain ⟨cs, hc2⟩ := Kd.R_typed hRb k e.symm
    rw [hc] at hc2
    injection hc2 with hc2
    injection hc2 with _ hc2
    exact absurd hc2 (by decide)
  obtain ⟨cells, hc⟩ := own_typed houter gv (by simp [Value.ownBlock])
  subst hN
  have hs := (houter.stored b u1).1
  refine ⟨by rw [List.length_set]; exact hs, by rw [List.length_set, List.length_set]; exact h.len, fun j u xs hu hx => ?_⟩
  by_cases e : j = b
  · subst e
    rw [List.getElem?_set_self hb] at hu
    rw [List.getElem?_set_self (by rw [← h.len]; exact hb)] at hx
    injection hu with hu
    injection hx with hx
    subst hu; subst hx
    exact ⟨Kd.R_set hR hc (by decide) _ _, hOb.moved hlt hm⟩
  · rw [List.getElem?_set_ne (Ne.symm e)] at hu hx
    obtain ⟨h1, h2⟩ := h.inner j u xs hu hx
    exact ⟨Kd.R_set (rs_grown rfl h1 hg (h2.ne hOb (by omega))) hc (by decide) _ _, h2.upd (Kd.R_lt h1)⟩
end

structure AW (w : World) (base : Nat) (f : Nat → Nat) (N gv gw : Nat) (vs : List Value) (xss : List (List Int)) (ws : List Int) : Prop where
  adj : Adj w base f 0 (.slice (some ⟨gv, 0, none⟩) N N) vs xss
  nv : vs.length = N
  waits : KI.R 3 w base (fun _ => True) (.slice (some ⟨gw, 0, none⟩) N N) ws
  nw : ws.length = N
  own : Own f N (.slice (some ⟨gw, 0, none⟩) N N)
section
variable {w0 w w1 : World} {base : Nat} {f : Nat → Nat} {N gv gw : Nat} {vs : List Value} {xss : List (List Int)} {ws : List Int}
theorem AW.below (h : AW w base f N gv gw vs xss ws) (hb : Below w.heap.size w w1) : AW w1 base f N gv gw vs xss ws :=
  ⟨h.adj.below hb, h.nv, Kd.R_below h.waits hb, h.nw, h.own⟩
theorem AW.outer_lt (h : AW w base f N gv gw vs xss ws) : gv < w.heap.size := own_lt h.adj.outer gv (by simp [Value.ownBlock])
theorem AW.waits_lt (h : AW w base f N gv gw vs xss ws) : gw < w.heap.size := Kd.R_lt h.waits gw (by simp [Value.ownBlock])
theorem AW.cell (h : AW w base f N gv gw vs xss ws) (b : Nat) (hb : b < N) : w.cell? ⟨gv, b, none⟩ = some (vs.getD b undef) ∧ w.frozen? ⟨gv, b, none⟩ = false := by
  constructor
  · have hc := h.adj.outer.cells (g := gv) rfl b (vs.getD b undef) (getD_some (by rw [h.nv]; exact hb))
    rwa [add_plain] at hc
  · obtain ⟨cells, hc⟩ := own_typed h.adj.outer gv (by simp [Value.ownBlock])
    exact blk_frozen hc _
theorem AW.at_ (h : AW w base f N gv gw vs xss ws) (b : Nat) (hb : b < N) : KI.R 3 w base (fun _ => True) (vs.getD b undef) (xss.getD b []) ∧ Own f b (vs.getD b undef) := by
  have := h.adj.at_ b (by rw [h.nv]; exact hb)
  rwa [Nat.zero_add] at this
theorem AW.wcell (h : AW w base f N gv gw vs xss ws) (b : Nat) (hb : b < N) : w.cell? ⟨gw, b, none⟩ = some (.int .i64 (ws.getD b 0)) ∧ w.frozen? ⟨gw, b, none⟩ = false := by
  have := R.row_cell h.waits b (by rw [h.nw]; exact hb)
  exact this
/-- After a step that writes a row that is another one's, and new memory. -/
theorem AW.keep (h : AW w base f N gv gw vs xss ws) {g q : Nat} {row : Option Nat} {u : Value} {xs : List Int} {cs : Array Value} (hk : KeepBut w w1 g row) (hg : w.heap[g]? = some (.cells cs 71 (0, 0))) (hrow : row = u.ownBlock) (hR : KI.R 3 w base (fun _ => True) u xs) (hu : Own f q u) (hq : N < q) :
    AW w1 base (PAll.upd f w.heap.size q) N gv gw vs xss ws := by
  subst hrow
  have hne : ∀ (j : Nat) (x : Value), vs[j]? = some x → ∀ k, x.ownBlock = some k → some k ≠ u.ownBlock := fun j x hj => by
    have hjl : j < vs.length := (List.getElem?_eq_some_iff.1 hj).1
    have hx := (h.adj.at_ j hjl).2
    rw [getD_some hjl] at hj
    injection hj with hj
    rw [hj, Nat.zero_add] at hx
    have := h.nv
    exact hx.ne hu (by omega)
  have hrow : u.ownBlock = none ∨ ∃ (cells : Array Value) (t : Nat) (k : Nat), u.ownBlock = some k ∧ w.heap[k]? = some (.cells cells t (0, 0)) ∧ t ≠ 24 := by
    cases hb : u.ownBlock with
    | none => exact .inl rfl
    | some k =>
      obtain ⟨cells, hc⟩ := Kd.R_typed hR k hb
      exact .inr ⟨cells, 3, k, rfl, hc, by decide⟩
  have ha := (h.adj.keep hk ⟨_, _, hg, by decide, by decide⟩ hrow hne)
  refine ⟨⟨ha.outer, ha.len, fun j x xs hj hx => ⟨(ha.inner j x xs hj hx).1, (ha.inner j x xs hj hx).2.upd (Kd.R_lt (h.adj.inner j x xs hj hx).1)⟩⟩, h.nv, rs_keep rfl h.waits hk (fun k hk' => ?_) (h.own.ne hu (by omega)), h.nw, h.own.upd (Kd.R_lt h.waits)⟩
  rintro rfl
  obtain ⟨cells, hc⟩ := Kd.R_typed h.waits k hk'
  rw [hc] at hg
  injection hg with hg
  injection hg with _ hg
  exact absurd hg (by decide)
/-- An edge is put in: one inner row is appended to, and its header put back. -/
theorem AW.edge (h : AW w base f N gv gw vs xss ws) {b : Nat} {u1 : Value} {ys : List Int} (hb : b < N) (hg : w.grownBy w1 (vs.getD b undef).ownBlock) (hR : KI.R 3 w1 base (fun _ => True) u1 ys)
    (hm : u1.ownBlock = (vs.getD b undef).ownBlock ∨ ∃ k, u1.ownBlock = some k ∧ w.heap.size ≤ k) :
    AW (w1.setCell ⟨gv, b, none⟩ u1) base (PAll.upd f w.heap.size b) N gv gw (vs.set b u1) (xss.set b ys) ws := by
  have ha := h.adj.appended h.nv (by rw [h.nv]; exact hb) hg hR hm
  rw [Nat.zero_add] at ha
  obtain ⟨hRb, hOb⟩ := h.at_ b hb
  have houter : w1.ownsRow base 24 1 (.slice (some ⟨gv, 0, none⟩) N N) vs.length vs := by
    refine own_move h.adj.outer (fun k hk' => ?_)
    obtain ⟨cells, hc⟩ := own_typed h.adj.outer k hk'
    refine hg.block k (own_lt h.adj.outer k hk') ?_
    intro e
    obtain ⟨cs, hc2⟩ := Kd.R_typed hRb k e.symm
    rw [hc] at hc2
    injection hc2 with hc2
    injection hc2 with _ hc2
    exact absurd hc2 (by decide)
  obtain ⟨cells, hc⟩ := own_typed houter gv (by simp [Value.ownBlock])
  exact ⟨ha, by rw [List.length_set]; exact h.nv, Kd.R_set (rs_grown rfl h.waits hg (h.own.ne hOb (by omega))) hc (by decide) _ _, h.nw, h.own.upd (Kd.R_lt h.waits)⟩
/-- One number of the ones that wait is written. -/
theorem AW.wait (h : AW w base f N gv gw vs xss ws) {b : Nat} (hb : b < N) (x : Int) :
    AW (w.setCell ⟨gw, b, none⟩ (.int .i64 x)) base f N gv gw vs xss (ws.set b x) ∧ w.grownBy (w.setCell ⟨gw, b, none⟩ (.int .i64 x)) (some gw) := by
  obtain ⟨h1, h2⟩ := R.row_set h.waits b x
  refine ⟨⟨?_, h.nv, h1, by rw [List.length_set]; exact h.nw, h.own⟩, h2⟩
  obtain ⟨cells, hc⟩ := Kd.R_typed h.waits gw (by simp [Value.ownBlock])
  refine h.adj.grown h2 (.inr ⟨cells, 3, gw, rfl, hc, by decide⟩) (fun j x hj => ?_)
  have hjl : j < vs.length := (List.getElem?_eq_some_iff.1 hj).1
  have hx := (h.adj.at_ j hjl).2
  rw [getD_some hjl] at hj
  injection hj with hj
  rw [hj, Nat.zero_add] at hx
  have := h.nv
  exact hx.ne h.own (by omega)
theorem AW.own_upd (h : AW w base f N gv gw vs xss ws) {q n : Nat} (hn : w.heap.size ≤ n) : AW w base (PAll.upd f n q) N gv gw vs xss ws :=
  ⟨h.adj.upd n hn, h.nv, h.waits, h.nw, h.own.upd (fun k hk => Nat.lt_of_lt_of_le (Kd.R_lt h.waits k hk) hn)⟩
end

/-- The world in Sort's later loops. -/
structure ST (w0 w : World) (base : Nat) (f : Nat → Nat) (N gv gw g : Nat) (vs : List Value) (xss : List (List Int)) (ws : List Int) (v : Value) (xs : List Int) (vo : Value) (out : List Int) : Prop where
  aw : AW w base f N gv gw vs xss ws
  hs : R.HS w base g [] v xs
  hso : Own f (N + 1) v
  out : KI.R 3 w base (fun _ => True) vo out
  outo : Own f (N + 2) vo
  B : Below base w0 w
  base_g : base ≤ g
section
variable {w0 w w1 : World} {base : Nat} {f : Nat → Nat} {N gv gw g : Nat} {vs : List Value} {xss : List (List Int)} {ws : List Int} {v : Value} {xs : List Int} {vo : Value} {out : List Int}
theorem ST.below (h : ST w0 w base f N gv gw g vs xss ws v xs vo out) (hb : Below w.heap.size w w1) (hbs : base ≤ w.heap.size) : ST w0 w1 base f N gv gw g vs xss ws v xs vo out :=
  ⟨h.aw.below hb, R.HS_below h.hs hb, h.hso, Kd.R_below h.out hb, h.outo, below_then h.B hbs hb, h.base_g⟩
theorem ST.keep (h : ST w0 w base f N gv gw g vs xss ws v xs vo out) {A : Option Addr} {n c : Nat} {ys : List Int} (hs : R.HS w1 base g [] (.slice A n c) ys) (hB : Below base w0 w1) (hk : KeepBut w w1 g v.ownBlock) (hm : R.Moved w v (.slice A n c)) :
    ∃ f', ST w0 w1 base f' N gv gw g vs xss ws (.slice A n c) ys vo out := by
  refine ⟨PAll.upd f w.heap.size (N + 1), h.aw.keep hk h.hs.1 rfl h.hs.2 h.hso (by omega), hs, h.hso.moved (Kd.R_lt h.hs.2) hm, ?_, h.outo.upd (Kd.R_lt h.out), hB, h.base_g⟩
  exact rs_keep rfl h.out hk (fun k hk' e => by subst e; exact Kd.R_ne h.out h.hs.1 (by decide) hk'.symm) (h.outo.ne h.hso (by omega))
theorem ST.push (h : ST w0 w base f N gv gw g vs xss ws v xs vo out) {ys : List Int} (hp : R.PushPost w0 w base g [] v ys w1) : ∃ f' v', ST w0 w1 base f' N gv gw g vs xss ws v' ys vo out := by
  obtain ⟨A, c, h1, h2, h3, h4⟩ := hp
  obtain ⟨f', h'⟩ := h.keep h1 h2 h3 h4
  exact ⟨f', _, h'⟩
theorem ST.pop {A : Option Addr} {c : Nat} (h : ST w0 w base f N gv gw g vs xss ws (.slice A xs.length c) xs vo out) (hp : R.PopPost w0 w base g [] A c xs w1) : ∃ f' v', ST w0 w1 base f' N gv gw g vs xss ws v' (Hp.pop (0 : Int) R.less xs) vo out := by
  obtain ⟨h1, h2, h3⟩ := hp
  obtain ⟨f', h'⟩ := h.keep h1 h2 h3 (.inl (by cases A <;> rfl))
  exact ⟨f', _, h'⟩
theorem ST.app (h : ST w0 w base f N gv gw g vs xss ws v xs vo out) {v1 : Value} {ys : List Int} (hg : w.grownBy w1 vo.ownBlock) (hR : KI.R 3 w1 base (fun _ => True) v1 ys) (hB : Below base w0 w1) (hm : v1.ownBlock = vo.ownBlock ∨ ∃ k, v1.ownBlock = some k ∧ w.heap.size ≤ k) :
    ∃ f', ST w0 w1 base f' N gv gw g vs xss ws v xs v1 ys := by
  refine ⟨PAll.upd f w.heap.size (N + 2), h.aw.keep (KeepBut.of_grown hg g) h.hs.1 rfl h.out h.outo (by omega), ⟨blk_grown h.hs.1 hg (Kd.R_ne h.out h.hs.1 (by decide)), rs_grown rfl h.hs.2 hg (h.hso.ne h.outo (by omega))⟩, h.hso.upd (Kd.R_lt h.hs.2), hR, h.outo.moved (Kd.R_lt h.out) hm, hB, h.base_g⟩
theorem ST.wait (h : ST w0 w base f N gv gw g vs xss ws v xs vo out) {b : Nat} (hb : b < N) (x : Int) (hbw : base ≤ gw) (hbs : base ≤ w.heap.size) :
    ST w0 (w.setCell ⟨gw, b, none⟩ (.int .i64 x)) base f N gv gw g vs xss (ws.set b x) v xs vo out := by
  obtain ⟨h1, h2⟩ := h.aw.wait hb x
  have hw : (Value.slice (some ⟨gw, 0, none⟩) N N).ownBlock = some gw := by simp [Value.ownBlock]
  refine ⟨h1, ⟨blk_grown h.hs.1 h2 (by rw [← hw]; exact Kd.R_ne h.aw.waits h.hs.1 (by decide)), rs_grown rfl h.hs.2 h2 (by rw [← hw]; exact h.hso.ne h.aw.own (by omega))⟩, h.hso, rs_grown rfl h.out h2 (by rw [← hw]; exact h.outo.ne h.aw.own (by omega)), h.outo, h.B.setCell hbw _, h.base_g⟩
end
end Go.Proofs.Ythpjpkcfepmhkaa.PAll
