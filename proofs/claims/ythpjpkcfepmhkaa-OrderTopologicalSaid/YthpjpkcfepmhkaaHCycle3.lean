import Derived.Test.YthpjpkcfepmhkaaHCycle2
namespace Go.Proofs.Ythpjpkcfepmhkaa.PAll
open Go.RowKit Go.Proofs.YthpjpkcfepmhkaaW.PrintWords Go.Proofs.YthpjpkcfepmhkaaW.PrintLast Go.Proofs.YthpjpkcfepmhkaaW.PrintMore
set_option linter.unusedVariables false
set_option linter.unusedSimpArgs false

def addBack (before : List (List Int)) (e : S68) : List (List Int) := before.set e.f1.toNat (before.getD e.f1.toNat [] ++ [e.f0])
def beforeOf (N : Nat) (l : List S68) : List (List Int) := l.foldl addBack (List.replicate N [])
def orTo (b : List Bool) (k : Nat) (a : List Bool) : List Bool := (List.range k).foldl (fun a j => a.set j (a.getD j false || b.getD j false)) a
def marks (nx bf : List (List Int)) (N : Nat) : Nat → Option (List Bool × List Bool)
  | 0 => some (List.replicate N false, List.replicate N false)
  | k + 1 => (marks nx bf N k).bind fun p => (reach nx N k).bind fun r => if r.getD k false = true then (reach bf N k).bind fun b => some (orTo r N p.1, orTo b N p.2) else some p
def between (d u : List Bool) (k : Nat) : List Int := (List.range k).foldl (fun out i => if (d.getD i false && u.getD i false) = true then out ++ [(i : Int)] else out) []
def order_Cycle.f (n : Int) (l : List S68) : Option (List Int) :=
  if l.length ≤ 1099511627776 ∧ validS n l = true then
    (marks (afterOf n.toNat l) (beforeOf n.toNat l) n.toNat n.toNat).bind fun p => some (between p.1 p.2 n.toNat)
  else none
theorem orTo_succ (b : List Bool) (k : Nat) (a : List Bool) : orTo b (k + 1) a = (orTo b k a).set k ((orTo b k a).getD k false || b.getD k false) := by
  unfold orTo
  rw [List.range_succ, List.foldl_append]
  rfl
theorem orTo_length (b : List Bool) : ∀ (k : Nat) (a : List Bool), (orTo b k a).length = a.length
  | 0, a => rfl
  | k + 1, a => by rw [orTo_succ, List.length_set, orTo_length b k a]
theorem between_succ (d u : List Bool) (k : Nat) : between d u (k + 1) = if (d.getD k false && u.getD k false) = true then between d u k ++ [(k : Int)] else between d u k := by
  unfold between
  rw [List.range_succ, List.foldl_append]
  rfl
theorem between_length (d u : List Bool) : ∀ k, (between d u k).length ≤ k
  | 0 => by simp [between]
  | k + 1 => by
    rw [between_succ]
    have := between_length d u k
    split
    · rw [List.length_append, List.length_singleton]; omega
    · omega
theorem visitL_length {rec : Nat → List Bool → Option (List Bool)} (hrec : ∀ i s t, rec i s = some t → t.length = s.length) : ∀ (js : List Int) (s t : List Bool), visitL rec js s = some t → t.length = s.length
  | [], s, t, h => by simp only [visitL, Option.some.injEq] at h; rw [h]
  | j :: js, s, t, h => by
    simp only [visitL] at h
    split at h
    · split at h
      · exact visitL_length hrec js s t h
      · rw [Option.bind_eq_some_iff] at h
        obtain ⟨x, h1, h2⟩ := h
        rw [visitL_length hrec js x t h2, hrec _ _ _ h1, List.length_set]
    · cases h
theorem visit_length {xss : List (List Int)} : ∀ (k i : Nat) (s t : List Bool), visit xss k i s = some t → t.length = s.length
  | 0, i, s, t, h => by simp [visit] at h
  | k + 1, i, s, t, h => visitL_length (fun i s t => visit_length k i s t) _ s t h
theorem reach_length {xss : List (List Int)} {N i : Nat} {t : List Bool} (h : reach xss N i = some t) : t.length = N := by
  rw [visit_length _ _ _ _ h, List.length_replicate]
theorem marks_le {nx bf : List (List Int)} {N : Nat} : ∀ (k m : Nat), k ≤ m → (marks nx bf N m).isSome = true → (marks nx bf N k).isSome = true
  | k, 0, hk, h => by rw [show k = 0 by omega]; exact h
  | k, m + 1, hk, h => by
    by_cases e : k = m + 1
    · rw [e]; exact h
    · refine marks_le k m (by omega) ?_
      cases hm : marks nx bf N m with
      | some p => rfl
      | none => simp [marks, hm] at h
theorem marks_length {nx bf : List (List Int)} {N : Nat} : ∀ (k : Nat) (d u : List Bool), marks nx bf N k = some (d, u) → d.length = N ∧ u.length = N
  | 0, d, u, h => by
    simp only [marks, Option.some.injEq, Prod.mk.injEq] at h
    rw [← h.1, ← h.2]; simp
  | k + 1, d, u, h => by
    simp only [marks, Option.bind_eq_some_iff] at h
    obtain ⟨⟨d0, u0⟩, h0, r, hr, h1⟩ := h
    have ih := marks_length k d0 u0 h0
    split at h1
    · rw [Option.bind_eq_some_iff] at h1
      obtain ⟨b, hb, h2⟩ := h1
      simp only [Option.some.injEq, Prod.mk.injEq] at h2
      rw [← h2.1, ← h2.2, orTo_length, orTo_length]
      exact ih
    · simp only [Option.some.injEq, Prod.mk.injEq] at h1
      rw [← h1.1, ← h1.2]
      exact ih

section
variable {w0 w w1 : World} {base : Nat} {f : Nat → Nat} {o o2 N gv g2 : Nat} {vs vs2 : List Value} {xss xss2 : List (List Int)}
theorem Adj.outer_grown {b : Nat} (h : Adj w base f o (.slice (some ⟨gv, 0, none⟩) N N) vs xss) (hb : b < vs.length) (hg : w.grownBy w1 (vs.getD b undef).ownBlock) {n : Nat} {v2 : Value} {ws : List Value} (h2 : w.ownsRow base 24 1 v2 n ws) : w1.ownsRow base 24 1 v2 n ws := by
  obtain ⟨hRb, hOb⟩ := h.at_ b hb
  refine own_move h2 (fun k hk' => ?_)
  obtain ⟨cells, hc⟩ := own_typed h2 k hk'
  refine hg.block k (own_lt h2 k hk') ?_
  intro e
  obtain ⟨cs, hc2⟩ := Kd.R_typed hRb k e.symm
  rw [hc] at hc2
  injection hc2 with hc2
  injection hc2 with _ hc2
  exact absurd hc2 (by decide)
/-- The other row of rows, when an inner row of the one has been appended to and its header put back. -/
theorem Adj.other {b : Nat} {u1 : Value} (h : Adj w base f o (.slice (some ⟨gv, 0, none⟩) N N) vs xss) (hb : b < vs.length) (h2 : Adj w base f o2 (.slice (some ⟨g2, 0, none⟩) N N) vs2 xss2) (hne : gv ≠ g2) (ho : ∀ j, j < vs2.length → o2 + j ≠ o + b)
    (hg : w.grownBy w1 (vs.getD b undef).ownBlock) : Adj (w1.setCell ⟨gv, b, none⟩ u1) base (PAll.upd f w.heap.size (o + b)) o2 (.slice (some ⟨g2, 0, none⟩) N N) vs2 xss2 := by
  obtain ⟨hRb, hOb⟩ := h.at_ b hb
  have ho1 := h.outer_grown hb hg h.outer
  have ho2 := h.outer_grown hb hg h2.outer
  obtain ⟨cells, hc⟩ := own_typed ho1 gv (by simp [Value.ownBlock])
  refine ⟨own_move ho2 (fun k hk => ?_), h2.len, fun j u xs hu hx => ?_⟩
  · simp only [Value.ownBlock, Option.some.injEq] at hk
    subst hk
    exact heap_setCell_other _ _ _ _ (by simpa using Ne.symm hne)
  · obtain ⟨h3, h4⟩ := h2.inner j u xs hu hx
    exact ⟨Kd.R_set (rs_grown rfl h3 hg (h4.ne hOb (ho j (List.getElem?_eq_some_iff.1 hu).1))) hc (by decide) _ _, h4.upd (Kd.R_lt h3)⟩
theorem Adj.cell_ (h : Adj w base f o (.slice (some ⟨gv, 0, none⟩) N N) vs xss) (hN : vs.length = N) (b : Nat) (hb : b < N) : w.cell? ⟨gv, b, none⟩ = some (vs.getD b undef) ∧ w.frozen? ⟨gv, b, none⟩ = false ∧ gv < w.heap.size := by
  refine ⟨?_, ?_, own_lt h.outer gv (by simp [Value.ownBlock])⟩
  · have hc := h.outer.cells (g := gv) rfl b (vs.getD b undef) (getD_some (by rw [hN]; exact hb))
    rwa [add_plain] at hc
  · obtain ⟨cells, hc⟩ := own_typed h.outer gv (by simp [Value.ownBlock])
    exact blk_frozen hc _
end

/-- The rows of what follows and of what precedes. -/
structure AA (w : World) (base : Nat) (f : Nat → Nat) (N gv gb : Nat) (vs : List Value) (xss : List (List Int)) (bs : List Value) (bss : List (List Int)) : Prop where
  a : Adj w base f 0 (.slice (some ⟨gv, 0, none⟩) N N) vs xss
  b : Adj w base f N (.slice (some ⟨gb, 0, none⟩) N N) bs bss
  na : vs.length = N
  nb : bs.length = N
  ne : gv ≠ gb
section
variable {w0 w w1 w3 w4 : World} {base : Nat} {f : Nat → Nat} {N gv gb : Nat} {vs bs : List Value} {xss bss : List (List Int)}
theorem AA.below (h : AA w base f N gv gb vs xss bs bss) (hb : Below w.heap.size w w1) : AA w1 base f N gv gb vs xss bs bss :=
  ⟨h.a.below hb, h.b.below hb, h.na, h.nb, h.ne⟩
theorem AA.edgeA {b ge : Nat} {u u1 : Value} {zs : List Int} {cs : Array Value} (h : AA w3 w.heap.size f N gv gb vs xss bs bss) (hb : b < N) (hu : vs.getD b undef = u) (hg : w3.drew.grownBy w4 u.ownBlock)
    (hR : KI.R 3 w4 w.heap.size (fun _ => True) u1 zs) (hB : Below w.heap.size w w4) (hm : u1.ownBlock = u.ownBlock ∨ ∃ k, u1.ownBlock = some k ∧ w3.drew.heap.size ≤ k) (hgv : w.heap.size ≤ gv) (he : w3.heap[ge]? = some (.cells cs 68 (0, 0))) :
    (∃ f' vs', AA (w4.setCell ⟨gv, b, none⟩ u1) w.heap.size f' N gv gb vs' (xss.set b zs) bs bss ∧ Below w.heap.size w (w4.setCell ⟨gv, b, none⟩ u1) ∧ (w4.setCell ⟨gv, b, none⟩ u1).heap[ge]? = some (.cells cs 68 (0, 0))) ∧ w4.cell? ⟨gv, b, none⟩ = some u ∧ w4.frozen? ⟨gv, b, none⟩ = false ∧ gv < w4.heap.size ∧ w4.heap[ge]? = some (.cells cs 68 (0, 0)) := by
  subst hu
  have h3 : AA w3.drew w.heap.size f N gv gb vs xss bs bss := h.below (below_drew (Below.refl _ _))
  have hbl : b < vs.length := by rw [h.na]; exact hb
  have he3 : w3.drew.heap[ge]? = some (.cells cs 68 (0, 0)) := blk_drew he
  have he4 := blk_grown he3 hg (Kd.R_ne (h3.a.at_ b hbl).1 he3 (by decide))
  have hgg : ge ≠ gv := by
    obtain ⟨cells, ho⟩ := own_typed h3.a.outer gv (by simp [Value.ownBlock])
    rintro rfl
    rw [he3] at ho
    injection ho with ho
    injection ho with _ ho
    exact absurd ho (by decide)
  refine ⟨⟨_, _, ⟨h3.a.appended h.na hbl hg hR hm, h3.a.other hbl h3.b h.ne (fun j hj => by omega) hg, by rw [List.length_set]; exact h.na, h.nb, h.ne⟩, hB.setCell hgv _, ?_⟩, ?_⟩
  · rw [heap_setCell_other _ _ _ _ hgg]; exact he4
  · have ho := h3.a.outer_grown hbl hg h3.a.outer
    obtain ⟨cells, hc⟩ := own_typed ho gv (by simp [Value.ownBlock])
    have hcc := ho.cells (g := gv) rfl b (vs.getD b undef) (getD_some hbl)
    rw [add_plain] at hcc
    exact ⟨hcc, blk_frozen hc _, own_lt ho gv (by simp [Value.ownBlock]), he4⟩
theorem AA.edgeB {b ge : Nat} {u u1 : Value} {zs : List Int} {cs : Array Value} (h : AA w3 w.heap.size f N gv gb vs xss bs bss) (hb : b < N) (hu : bs.getD b undef = u) (hg : w3.drew.grownBy w4 u.ownBlock)
    (hR : KI.R 3 w4 w.heap.size (fun _ => True) u1 zs) (hB : Below w.heap.size w w4) (hm : u1.ownBlock = u.ownBlock ∨ ∃ k, u1.ownBlock = some k ∧ w3.drew.heap.size ≤ k) (hgb : w.heap.size ≤ gb) (he : w3.heap[ge]? = some (.cells cs 68 (0, 0))) :
    (∃ f' bs', AA (w4.setCell ⟨gb, b, none⟩ u1) w.heap.size f' N gv gb vs xss bs' (bss.set b zs) ∧ Below w.heap.size w (w4.setCell ⟨gb, b, none⟩ u1) ∧ (w4.setCell ⟨gb, b, none⟩ u1).heap[ge]? = some (.cells cs 68 (0, 0))) ∧ w4.cell? ⟨gb, b, none⟩ = some u ∧ w4.frozen? ⟨gb, b, none⟩ = false ∧ gb < w4.heap.size ∧ w4.heap[ge]? = some (.cells cs 68 (0, 0)) := by
  subst hu
  have h3 : AA w3.drew w.heap.size f N gv gb vs xss bs bss := h.below (below_drew (Below.refl _ _))
  have hbl : b < bs.length := by rw [h.nb]; exact hb
  have he3 : w3.drew.heap[ge]? = some (.cells cs 68 (0, 0)) := blk_drew he
  have he4 := blk_grown he3 hg (Kd.R_ne (h3.b.at_ b hbl).1 he3 (by decide))
  have hgg : ge ≠ gb := by
    obtain ⟨cells, ho⟩ := own_typed h3.b.outer gb (by simp [Value.ownBlock])
    rintro rfl
    rw [he3] at ho
    injection ho with ho
    injection ho with _ ho
    exact absurd ho (by decide)
  refine ⟨⟨_, _, ⟨h3.b.other hbl h3.a (Ne.symm h.ne) (fun j hj => by have := h.na; omega) hg, h3.b.appended h.nb hbl hg hR hm, h.na, by rw [List.length_set]; exact h.nb, h.ne⟩, hB.setCell hgb _, ?_⟩, ?_⟩
  · rw [heap_setCell_other _ _ _ _ hgg]; exact he4
  · have ho := h3.b.outer_grown hbl hg h3.b.outer
    obtain ⟨cells, hc⟩ := own_typed ho gb (by simp [Value.ownBlock])
    have hcc := ho.cells (g := gb) rfl b (bs.getD b undef) (getD_some hbl)
    rw [add_plain] at hcc
    exact ⟨hcc, blk_frozen hc _, own_lt ho gb (by simp [Value.ownBlock]), he4⟩
end

theorem Adj.grown4 {w w1 : World} {base : Nat} {f : Nat → Nat} {o g : Nat} {v : Value} {vs : List Value} {xss : List (List Int)} {cells : Array Value} (h : Adj w base f o v vs xss) (hg : w.grownBy w1 (some g)) (hc : w.heap[g]? = some (.cells cells 4 (0, 0))) : Adj w1 base f o v vs xss := by
  refine h.grown hg (.inr ⟨cells, 4, g, rfl, hc, by decide⟩) (fun j u hj k hk e => ?_)
  injection e with e
  subst e
  have hjl : j < vs.length := (List.getElem?_eq_some_iff.1 hj).1
  have hx := (h.at_ j hjl).1
  rw [getD_some hjl] at hj
  injection hj with hj
  rw [hj] at hx
  obtain ⟨cs, hcs⟩ := Kd.R_typed hx k hk
  rw [hc] at hcs
  injection hcs with hcs
  injection hcs with _ hcs
  exact absurd hcs (by decide)
theorem AA.grown4 {w w1 : World} {base : Nat} {f : Nat → Nat} {N gv gb g : Nat} {vs bs : List Value} {xss bss : List (List Int)} {cells : Array Value} (h : AA w base f N gv gb vs xss bs bss) (hg : w.grownBy w1 (some g)) (hc : w.heap[g]? = some (.cells cells 4 (0, 0))) : AA w1 base f N gv gb vs xss bs bss :=
  ⟨h.a.grown4 hg hc, h.b.grown4 hg hc, h.na, h.nb, h.ne⟩

/-- The two rows of marks. -/
structure DU (w : World) (base N gd gu : Nat) (d u : List Bool) : Prop where
  rd : KB.R 4 w base (fun _ => True) (.slice (some ⟨gd, 0, none⟩) N N) d
  ru : KB.R 4 w base (fun _ => True) (.slice (some ⟨gu, 0, none⟩) N N) u
  nd : d.length = N
  nu : u.length = N
  ne : gd ≠ gu
section
variable {w w1 : World} {base N gd gu g : Nat} {d u r : List Bool}
theorem DU.below (h : DU w base N gd gu d u) (hb : Below w.heap.size w w1) : DU w1 base N gd gu d u := ⟨Kd.R_below h.rd hb, Kd.R_below h.ru hb, h.nd, h.nu, h.ne⟩
theorem bcell (h : KB.R 4 w base (fun _ => True) (.slice (some ⟨g, 0, none⟩) N N) r) (hn : r.length = N) (i : Nat) (hi : i < N) : w.cell? ⟨g, i, none⟩ = some (.bool (r.getD i false)) ∧ w.frozen? ⟨g, i, none⟩ = false ∧ g < w.heap.size := by
  subst hn
  have := Kd.R_cell (enc := Value.bool) (h1 := fun _ => rfl) false h (i : Int) (Int.natCast_nonneg _) (by omega)
  simp only [Int.toNat_natCast] at this
  exact ⟨this.1, this.2, Kd.R_lt h g (by simp [Value.ownBlock])⟩
theorem bput (h : KB.R 4 w base (fun _ => True) (.slice (some ⟨g, 0, none⟩) N N) r) (hn : r.length = N) (i : Nat) (b : Bool) : KB.R 4 (w.setCell ⟨g, i, none⟩ (.bool b)) base (fun _ => True) (.slice (some ⟨g, 0, none⟩) N N) (r.set i b) ∧ w.grownBy (w.setCell ⟨g, i, none⟩ (.bool b)) (some g) := by
  subst hn
  have := Kd.R_put (enc := Value.bool) (h1 := fun _ => rfl) h (i : Int) b
  simp only [Int.toNat_natCast, List.length_set] at this
  exact this
theorem bkeep (h : KB.R 4 w base (fun _ => True) (.slice (some ⟨g, 0, none⟩) N N) r) {g2 i : Nat} {x : Value} (hg : w.grownBy (w.setCell ⟨g2, i, none⟩ x) (some g2)) (hne : g ≠ g2) : KB.R 4 (w.setCell ⟨g2, i, none⟩ x) base (fun _ => True) (.slice (some ⟨g, 0, none⟩) N N) r :=
  rs_grown rfl h hg (fun k hk e => by simp only [Value.ownBlock, Option.some.injEq] at hk; injection e with e; omega)
theorem DU.setD (h : DU w base N gd gu d u) (i : Nat) (b : Bool) : DU (w.setCell ⟨gd, i, none⟩ (.bool b)) base N gd gu (d.set i b) u ∧ w.grownBy (w.setCell ⟨gd, i, none⟩ (.bool b)) (some gd) := by
  obtain ⟨h1, h2⟩ := bput h.rd h.nd i b
  exact ⟨⟨h1, bkeep h.ru h2 (Ne.symm h.ne), by rw [List.length_set]; exact h.nd, h.nu, h.ne⟩, h2⟩
theorem DU.setU (h : DU w base N gd gu d u) (i : Nat) (b : Bool) : DU (w.setCell ⟨gu, i, none⟩ (.bool b)) base N gd gu d (u.set i b) ∧ w.grownBy (w.setCell ⟨gu, i, none⟩ (.bool b)) (some gu) := by
  obtain ⟨h1, h2⟩ := bput h.ru h.nu i b
  exact ⟨⟨bkeep h.rd h2 h.ne, h1, h.nd, by rw [List.length_set]; exact h.nu, h.ne⟩, h2⟩
end
end Go.Proofs.Ythpjpkcfepmhkaa.PAll
