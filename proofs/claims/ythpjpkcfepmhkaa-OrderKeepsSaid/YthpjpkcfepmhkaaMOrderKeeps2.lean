/- Laid together by a program of this session (wip/bundle.py) out of its own texts and of the words that the kit's print.sh laid for this seat, cut to what is used. -/
import Derived.Test.YthpjpkcfepmhkaaMOrderKeeps1
import Derived.Below
import Derived.Deep.Draws
import Derived.Deep.AppendLies
import Derived.Maps.AppendAt
import Derived.OwnWalk
import Derived.Laws.BytesArg
import Derived.Laws.MakeOwn
import Derived.Laws.OwnMore
import Derived.Deep.OwnRows
import Derived.Tactics
import Derived.Lib.ConvBytes
import Derived.Laws.Slices
import Derived.WalkKit
import Derived.KernelRfl
import Derived.RowKit3
import Derived.Deep.LoopGhost
import Derived.Deep.QuietTactic
import Derived.BigQuiet
import Derived.WideLaws
import Derived.Deep.DeepCutAuto
import Derived.Deep.CutBlock
import Derived.Deep.RegionHeld3
import Derived.Laws.Rows
import Derived.Lib.AppendStr
import Derived.ArgAppend
import Derived.Laws.IdiomCopy
import Derived.RowKit
import Derived.Deep.Slices
import Derived.ChangeArms
import Derived.SizedLaws
import Derived.Laws.StructEq
import Derived.Test.YthpjpkcfepmhkaaProg
import Derived.OrdersHeld
import Derived.Laws.BitsLemmas
import Derived.WalkSpells
import Derived.WalkLawsBesides
import Derived.Lib.Hide
import Derived.Deep.RegionLaw
import Derived.Deep.Cut
import Derived.Deep.CutRange
import Derived.Maps.OwnSet
import Derived.Maps.RangeWalk
namespace Go.Proofs.YthpjpkcfepmhkaaW.PrintWords
set_option linter.unusedVariables false
set_option linter.unusedSimpArgs false
open Go.RowKit
/-- A fact that the walk's simp doesn't look into. -/
structure Aside0 (p : Prop) : Prop where mk :: (out : p)
/-- The world is the old one, some orders having been drawn. -/
structure Drawn0 (w w' : World) : Prop where mk :: (out : ∃ n, w' = w.drewN n)
theorem Drawn0.refl (w : World) : Drawn0 w w := ⟨⟨0, rfl⟩⟩
theorem Drawn0.step {w w' : World} (h : Drawn0 w w') (n : Nat) : Drawn0 w (w'.drewN n) := by
  obtain ⟨m, rfl⟩ := h
  exact ⟨⟨m + n, World.drewN_drewN ..⟩⟩
theorem Drawn0.grown {w w' : World} (h : Drawn0 w w') : Grown w w' := by
  obtain ⟨n, rfl⟩ := h
  induction n with
  | zero => exact Grown.refl _
  | succ n ih => rw [← World.drew_drewN]; exact Grown.drew ih
theorem Drawn0.below {w w' : World} (h : Drawn0 w w') : Below w.heap.size w w' := by
  obtain ⟨n, rfl⟩ := h
  induction n with
  | zero => exact Below.refl _ _
  | succ n ih => rw [← World.drew_drewN]; exact ih.drew
def rd (xs : List Int) (i : Int) : Int := xs.getD i.toNat 0
def bt (s : ByteArray) (i : Int) : Int := if h : i.toNat < s.size then ((s[i.toNat]'h).toNat : Int) else 0
theorem bt_at (s : ByteArray) (i : Int) : ∀ h : i.toNat < s.size, ((s[i.toNat]'h).toNat : Int) = bt s i := fun h => by simp [bt, h]
def nums (k : IntKind) (xs : List Int) : List Value := xs.map fun x => .int k x
theorem below_alloc {w W : World} (h : Below w.heap.size w W) (o : Obj) : Below w.heap.size w (W.alloc o) := h.alloc h.size o
theorem below_drew {B : Nat} {w W : World} (h : Below B w W) : Below B w W.drew := ⟨h.os, h.tape, h.output, h.size, h.block⟩
theorem pw_below_drewN {B : Nat} {w W : World} (h : Below B w W) (n : Nat) : Below B w (W.drewN n) := ⟨h.os, h.tape, h.output, h.size, h.block⟩
theorem below_then {B : Nat} {w w1 w2 : World} (h : Below B w w1) (hB : B ≤ w1.heap.size) (k : Below w1.heap.size w1 w2) : Below B w w2 :=
  h.trans ⟨k.os, k.tape, k.output, k.size, fun i hi => k.block i (Nat.lt_of_lt_of_le hi hB)⟩
theorem grown_of_below {w w1 : World} (h : Below w.heap.size w w1) (row : Option Nat) : w.grownBy w1 row := ⟨h.os, h.tape, h.output, h.size, fun i hi _ => h.block i hi⟩
theorem pw_cell_below {w w1 : World} (h : Below w.heap.size w w1) {a : Addr} {v : Value} (hc : w.cell? a = some v) : w1.cell? a = some v := (h.cell (World.block_lt_of_cell? w a hc)).trans hc
theorem add_plain (g j : Nat) : (⟨g, 0, none⟩ : Addr).add j = ⟨g, j, none⟩ := by unfold Addr.add; split <;> simp_all
def ReadsInt (w : World) (k : IntKind) (A : Option Addr) (n : Nat) (xs : List Int) : Prop :=
  xs.length = n ∧ n ≤ 9223372036854775807 ∧ (0 < n → ∃ ad, A = some ad ∧ ∀ j, j < n → w.cell? (ad.add j) = some (.int k (xs.getD j 0)))
theorem ReadsInt.at_ {w : World} {k : IntKind} {A : Option Addr} {n : Nat} {xs : List Int} (h : ReadsInt w k A n xs) (i : Int) (h0 : 0 ≤ i) (h1 : i < n) : ∃ ad, A = some ad ∧ w.cell? (ad.add i.toNat) = some (.int k (rd xs i)) := by
  obtain ⟨ad, e, hc⟩ := h.2.2 (by omega)
  exact ⟨ad, e, hc _ (by omega)⟩
theorem ReadsInt.below {w w1 : World} {k : IntKind} {A : Option Addr} {n : Nat} {xs : List Int} (h : ReadsInt w k A n xs) (hb : Below w.heap.size w w1) : ReadsInt w1 k A n xs :=
  ⟨h.1, h.2.1, fun hn => by
    obtain ⟨ad, e, hc⟩ := h.2.2 hn
    exact ⟨ad, e, fun j hj => pw_cell_below hb (hc j hj)⟩⟩
theorem own_nil (W : World) (base : Nat) (e : TypeId) (size : Nat) : W.ownsRow base e size (.slice none 0 0) 0 [] := ⟨by simp, .inl ⟨rfl, rfl⟩⟩
theorem own_base {w : World} {base : Nat} {e : TypeId} {size n : Nat} {v : Value} {xs : List Value} (h : w.ownsRow base e size v n xs) (k : Nat) (hk : v.ownBlock = some k) : base ≤ k := by
  rcases h.2 with ⟨rfl, _⟩ | ⟨g, cap, cur, rfl, hb, _⟩
  · simp [Value.ownBlock] at hk
  · have : g = k := by simpa [Value.ownBlock] using hk
    omega
theorem own_lt {w : World} {base : Nat} {e : TypeId} {size n : Nat} {v : Value} {xs : List Value} (h : w.ownsRow base e size v n xs) (k : Nat) (hk : v.ownBlock = some k) : k < w.heap.size := by
  rcases h.2 with ⟨rfl, _⟩ | ⟨g, cap, cur, rfl, hb, hh, _⟩
  · simp [Value.ownBlock] at hk
  · have : g = k := by simpa [Value.ownBlock] using hk
    subst this
    exact (Array.getElem?_eq_some_iff.1 hh).1
theorem pw_own_below {w w1 : World} {base : Nat} {e : TypeId} {size n : Nat} {v : Value} {xs : List Value} (h : w.ownsRow base e size v n xs) (hb : Below w.heap.size w w1) : w1.ownsRow base e size v n xs :=
  h.kept (grown_of_below hb none) (by cases v.ownBlock <;> simp)
/-- What is written is another row: this one lives on. -/
theorem own_other {w w1 : World} {base : Nat} {e : TypeId} {size n : Nat} {v : Value} {xs : List Value} (h : w.ownsRow base e size v n xs) {row : Option Nat} (hg : w.grownBy w1 row) (hne : v.ownBlock = none ∨ v.ownBlock ≠ row) : w1.ownsRow base e size v n xs := h.kept hg hne
/-- The shape of whatever is owned. -/
theorem own_slice {w : World} {base n : Nat} {e : TypeId} {size : Nat} {v : Value} {xs : List Value} (h : w.ownsRow base e size v n xs) : ∃ A c, v = .slice A n c := by
  rcases h.2 with ⟨rfl, rfl⟩ | ⟨g, cap, cur, rfl, _⟩
  · exact ⟨none, 0, rfl⟩
  · exact ⟨_, cap, rfl⟩
section
variable {P : Program} {ops : Array Oper} {rest : List Oper} {o : Oper} {a : Act} {Q : Exit → Act → World → Prop}
end
section
variable {P : Program}
end
theorem own_made (W : World) (base : Nat) (e : TypeId) (k : IntKind) (m : Nat) (hb : base ≤ W.heap.size) (hm : m ≤ 9223372036854775807) :
    (W.alloc (.cells (madeCells #[.int k 0] m) e)).ownsRow base e 1 (.slice (some ⟨W.heap.size, 0, none⟩) m m) m (nums k (List.replicate m 0)) := by
  have h := World.ownsRow_lit (base := base) (e := e) (size := 1) W (madeCells #[.int k 0] m) m hb (by simpa [maxLen] using hm) (by simp [size_madeCells])
  have hl : (madeCells #[Value.int k 0] m).toList = nums k (List.replicate m 0) := by
    apply List.ext_getElem
    · simp [nums, madeCells]
    · intro i h1 h2
      simp [nums, madeCells, Nat.mod_one]
  rwa [hl] at h
section
variable {P : Program} {ops : Array Oper} {rest : List Oper} {o : Oper} {a : Act} {Q : Exit → Act → World → Prop}
end
def bytesOf (s : ByteArray) : List Int := s.data.toList.map fun b => (b.toNat : Int)
/-- 'xs[:k]' and 'xs[k:]' of a slice that is read; the address of the second as_ the walk has it. -/
theorem ReadsInt.take_ {w : World} {k : IntKind} {A : Option Addr} {n : Nat} {xs : List Int} (h : ReadsInt w k A n xs) (i : Nat) (hi : i ≤ n) : ReadsInt w k A i (xs.take i) := by
  refine ⟨by rw [List.length_take, h.1]; omega, by have := h.2.1; omega, fun hp => ?_⟩
  obtain ⟨ad, e, hc⟩ := h.2.2 (by omega)
  refine ⟨ad, e, fun j hj => ?_⟩
  rw [hc j (by omega)]
  simp [List.getD_eq_getElem?_getD, hj]
/-- Where the first answers, the second answers the same. -/
def LeO {α : Type} (a b : Option α) : Prop := ∀ r, a = some r → b = some r
theorem LeO.refl {α : Type} (a : Option α) : LeO a a := fun _ h => h
theorem LeO.none {α : Type} (b : Option α) : LeO Option.none b := fun _ h => by cases h
theorem LeO.trans {α : Type} {a b c : Option α} (h : LeO a b) (k : LeO b c) : LeO a c := fun r hr => k r (h r hr)
theorem LeO.ite {α : Type} {c : Prop} [Decidable c] {a a' b b' : Option α} (h : LeO a a') (k : LeO b b') : LeO (if c then a else b) (if c then a' else b') := by
  split
  · exact h
  · exact k
theorem LeO.bind {α β : Type} {a a' : Option α} {f f' : α → Option β} (h : LeO a a') (k : ∀ x, LeO (f x) (f' x)) : LeO (a.bind f) (a'.bind f') := by
  intro r hr
  obtain ⟨x, hx, hf⟩ := Option.bind_eq_some_iff.1 hr
  exact Option.bind_eq_some_iff.2 ⟨x, h x hx, k x r hf⟩
theorem LeO.map {α β : Type} {a a' : Option α} (f : α → β) (h : LeO a a') : LeO (a.map f) (a'.map f) := by
  intro r hr
  obtain ⟨x, hx, hf⟩ := Option.map_eq_some_iff.1 hr
  exact Option.map_eq_some_iff.2 ⟨x, h x hx, hf⟩
theorem more_rounds {α : Type} {g : Nat → Option α} (h : ∀ k, LeO (g k) (g (k + 1))) (k : Nat) : ∀ j, LeO (g k) (g (k + j))
  | 0 => LeO.refl _
  | j + 1 => (more_rounds h k j).trans (h (k + j))
theorem at_rounds {α : Type} {g : Nat → Option α} (h : ∀ k, LeO (g k) (g (k + 1))) {k k' : Nat} (hk : k ≤ k') {r : α} (hr : g k = some r) : g k' = some r := by
  have := more_rounds h k (k' - k) r hr
  rwa [Nat.add_sub_cancel' hk] at this
def Reps {α : Type} (R : α → List Value → Prop) (size : Nat) (ps : List α) (cs : List Value) : Prop :=
  cs.length = ps.length * size ∧ ∀ j p, ps[j]? = some p → R p ((cs.drop (j * size)).take size)
theorem Reps.none {α : Type} (R : α → List Value → Prop) (size : Nat) : Reps R size [] [] := ⟨by simp, fun j p h => by simp at h⟩
theorem Reps.snoc {α : Type} {R : α → List Value → Prop} {size : Nat} {ps : List α} {cs c : List Value} {p : α} (h : Reps R size ps cs) (hp : R p c) (hc : c.length = size) : Reps R size (ps ++ [p]) (cs ++ c) := by
  refine ⟨by rw [List.length_append, h.1, hc, List.length_append, List.length_singleton, Nat.add_mul, Nat.one_mul], fun j q hq => ?_⟩
  rcases Nat.lt_or_ge j ps.length with hj | hj
  · rw [List.getElem?_append_left hj] at hq
    have h1 : j * size + size ≤ cs.length := by rw [h.1, ← Nat.succ_mul]; exact Nat.mul_le_mul_right _ hj
    have h2 := h.2 j q hq
    rw [List.drop_append_of_le_length (by omega), List.take_append_of_le_length (by rw [List.length_drop]; omega)]
    exact h2
  · have hj' : j = ps.length := by
      have := (List.getElem?_eq_some_iff.1 hq).1
      rw [List.length_append, List.length_singleton] at this
      omega
    subst hj'
    have hq' : p = q := by simpa using hq
    subst hq'
    rw [← h.1, List.drop_left, ← hc, List.take_length]
    exact hp
theorem Reps.imp_ {α : Type} {R R' : α → List Value → Prop} {size : Nat} {ps : List α} {cs : List Value} (h : Reps R size ps cs) (hR : ∀ p c, R p c → R' p c) : Reps R' size ps cs := ⟨h.1, fun j p hj => hR _ _ (h.2 j p hj)⟩
def ReadsRow {α : Type} (R : α → List Value → Prop) (size : Nat) (w : World) (A : Option Addr) (n : Nat) (ps : List α) : Prop :=
  ps.length = n ∧ n ≤ 9223372036854775807 ∧ (0 < n → ∃ ad, A = some ad ∧ ∀ j p, ps[j]? = some p → ∃ c, c.length = size ∧ R p c ∧ ∀ i u, c[i]? = some u → w.cell? (ad.add (j * size + i)) = some u)
theorem ReadsRow.get_ {α : Type} {R : α → List Value → Prop} {size : Nat} {w : World} {A : Option Addr} {n : Nat} {ps : List α} (h : ReadsRow R size w A n ps) (d : α) (i : Int) (h0 : 0 ≤ i) (h1 : i < n) :
    ∃ ad c, A = some ad ∧ c.length = size ∧ R (ps.getD i.toNat d) c ∧ ∀ j u, c[j]? = some u → w.cell? (ad.add (i.toNat * size + j)) = some u := by
  obtain ⟨ad, e, hc⟩ := h.2.2 (by omega)
  have hl : i.toNat < ps.length := by have := h.1; omega
  obtain ⟨c, hs, hr, hcell⟩ := hc i.toNat _ (List.getElem?_eq_getElem hl)
  refine ⟨ad, c, e, hs, ?_, hcell⟩
  rw [List.getD_eq_getElem?_getD, List.getElem?_eq_getElem hl]
  exact hr
theorem ReadsRow.imp_ {α : Type} {R R' : α → List Value → Prop} {size : Nat} {w w1 : World} {A : Option Addr} {n : Nat} {ps : List α} (h : ReadsRow R size w A n ps) (hb : Below w.heap.size w w1) (hR : ∀ p c, R p c → R' p c) : ReadsRow R' size w1 A n ps :=
  ⟨h.1, h.2.1, fun hn => by
    obtain ⟨ad, e, hc⟩ := h.2.2 hn
    refine ⟨ad, e, fun j p hj => ?_⟩
    obtain ⟨c, hs, hr, hcell⟩ := hc j p hj
    exact ⟨c, hs, hR _ _ hr, fun i u hu => pw_cell_below hb (hcell i u hu)⟩⟩
theorem own_reads_row {α : Type} {R : α → List Value → Prop} {w : World} {base n size : Nat} {e : TypeId} {v : Value} {ps : List α} {cs : List Value} (h : w.ownsRow base e size v n cs) (hR : Reps R size ps cs) (hn : ps.length = n) :
    ∃ A c, v = .slice A n c ∧ ReadsRow R size w A n ps := by
  rcases Nat.eq_zero_or_pos n with h0 | h0
  · rcases h.2 with ⟨rfl, rfl⟩ | ⟨g, cap, cur, rfl, _⟩
    · exact ⟨none, 0, rfl, hn, by omega, fun hp => absurd hp (by omega)⟩
    · exact ⟨_, cap, rfl, hn, by omega, fun hp => absurd hp (by omega)⟩
  · obtain ⟨g, cap, rfl, _, _⟩ := h.form h0
    have hm : n ≤ 9223372036854775807 := by
      rcases h.2 with ⟨_, h1⟩ | ⟨g', cap', cur, he, _, _, h1, h2, _⟩
      · omega
      · simp only [maxLen] at h2
        omega
    refine ⟨_, cap, rfl, hn, hm, fun _ => ⟨_, rfl, fun j p hj => ⟨(cs.drop (j * size)).take size, ?_, hR.2 j p hj, fun i u hu => ?_⟩⟩⟩
    · have hjl := (List.getElem?_eq_some_iff.1 hj).1
      have h1 : j * size + size ≤ cs.length := by rw [hR.1, ← Nat.succ_mul]; exact Nat.mul_le_mul_right _ hjl
      rw [List.length_take, List.length_drop]
      omega
    · refine h.cells (g := g) rfl _ u ?_
      rw [List.getElem?_take] at hu
      split at hu
      · rw [List.getElem?_drop] at hu
        exact hu
      · cases hu
/-- A field's address as_ the walk spells it. -/
theorem add_field (ad : Addr) (m j : Nat) (hj : 0 < j) : ad.add (m + j) = ⟨(ad.add m).block, (ad.add m).off + j, none⟩ := by
  unfold Addr.add
  by_cases hm : m = 0
  · subst hm
    simp [Nat.ne_of_gt hj]
  · simp [hm, Nat.add_assoc]
section
variable {P : Program} {ops : Array Oper} {rest : List Oper} {o : Oper} {a : Act} {Q : Exit → Act → World → Prop}
/-- append(v, x), x of several cells; behind 'at_builtin'; the goal's world is 'W.alloc' of the variadic's box. -/
theorem print_append_cells {w0 W : World} (base : Nat) (hgd : o.guard = none) (s x : Operand) (t e : TypeId) (z : Value) (size bytes : Nat)
    (ho : o.op = .call { callee := .builtin .append, args := #[s, x], argTypes := #[t, t] })
    (ht : P.underlying t = some (.slice e)) (hinfo : (P.info? e).map (fun i => (i.zero, i.size, i.bytes)) = some (some z, size, bytes)) (hz : z.cells.size = size) (hs0 : 0 < size) (hb0 : 0 < bytes)
    (v : Value) (n : Nat) (xs ys : List Value) (hs : a.eval s = v) (hx : a.eval x = .slice (some ⟨W.heap.size, 0, none⟩) 1 1) (hys : ys.length = size) (h1 : ∀ u ∈ ys, u.oneCell' = true)
    (HO : W.ownsRow base e size v n xs) (HB : Below base w0 W) (hbase : base ≤ W.heap.size) (hl : (n + 1) * bytes ≤ 140737488355328)
    (h : ∀ v1 w1, w1.ownsRow base e size v1 (n + 1) (xs ++ ys) → Below base w0 w1 → W.grownBy w1 v.ownBlock → (v1.ownBlock = v.ownBlock ∨ ∃ b, v1.ownBlock = some b ∧ W.heap.size ≤ b) → wpList P ops Q rest (a.put o.dst v1) w1) :
    wpList P ops Q (o :: rest) a (W.alloc (.cells ys.toArray e)) := by
  obtain ⟨i0, hi, hzz⟩ := Option.map_eq_some_iff.1 hinfo
  simp only [Prod.mk.injEq] at hzz
  obtain ⟨hz0, hz1, hz2⟩ := hzz
  have hlen : n + 1 ≤ 140737488355328 := Nat.le_trans (Nat.le_mul_of_pos_right _ hb0) hl
  refine wpList_append_own_at (W.alloc (.cells ys.toArray e)) hgd s x t ho base e i0 z size bytes ht hi hz0 hz1 hz2 hz hs0 v n xs hs (HO.alloc _) ⟨W.heap.size, 0, none⟩ 1 1 ys hx (by rw [hys]; simp)
    (by simpa using World.news_of_block (cs := ys.toArray) (t := e) (fr := (0, 0)) (heap_alloc_new W (.cells ys.toArray e))) h1 (by simp only [maxLen]; omega) hl (by simp; omega) ?_
  intro v1 w1 hown hg _ hat
  refine h v1 w1 hown ((HB.alloc hbase _).grown hg (by simp; omega) (own_base HO)) (World.grownBy.trans (World.grownBy_alloc W _ _) hg) ?_
  rcases hat with hat | hat
  · exact .inl hat
  · exact .inr ⟨_, hat, by simp⟩
end
theorem own_ne {w : World} {base : Nat} {e t : TypeId} {size n g : Nat} {v : Value} {xs : List Value} {cs : Array Value} (h : w.ownsRow base e size v n xs) (hg : w.heap[g]? = some (.cells cs t (0, 0))) (hne : e ≠ t) : some g ≠ v.ownBlock := by
  rcases h.2 with ⟨rfl, _⟩ | ⟨g', cap, cur, rfl, _, hh, _⟩
  · simp [Value.ownBlock]
  · intro he
    have : g = g' := by simpa [Value.ownBlock] using he
    subst this
    rw [hg] at hh
    injection hh with hh
    injection hh with _ ht
    exact hne ht.symm
theorem own_setCell {w : World} {base : Nat} {e : TypeId} {size n : Nat} {v : Value} {xs : List Value} (h : w.ownsRow base e size v n xs) {p : Addr} (hne : some p.block ≠ v.ownBlock) (u : Value) : (w.setCell p u).ownsRow base e size v n xs := by
  obtain ⟨h1, h2⟩ := h
  refine ⟨h1, ?_⟩
  rcases h2 with h2 | ⟨g, cap, cur, rfl, hg, hh, r⟩
  · exact .inl h2
  · exact .inr ⟨g, cap, cur, rfl, hg, by rw [Below.heap_setCell _ _ _ _ (fun e => hne (by rw [e]; rfl))]; exact hh, r⟩
theorem blk_set {w : World} {g : Nat} {t : TypeId} {cs : Array Value} (h : w.heap[g]? = some (.cells cs t (0, 0))) (i : Nat) (u : Value) : (w.setCell ⟨g, i, none⟩ u).heap[g]? = some (.cells (cs.setIfInBounds i u) t (0, 0)) := by
  simp [World.setCell, Array.getElem?_modify, h]
theorem blk_lt {w : World} {g : Nat} {o : Obj} (h : w.heap[g]? = some o) : g < w.heap.size := (Array.getElem?_eq_some_iff.1 h).1
theorem blk_cell {w : World} {g : Nat} {t : TypeId} {cs : Array Value} (h : w.heap[g]? = some (.cells cs t (0, 0))) (i : Nat) : w.cell? ⟨g, i, none⟩ = cs[i]? := cell_of_row w g i cs t (0, 0) h
theorem blk_frozen {w : World} {g : Nat} {t : TypeId} {cs : Array Value} (h : w.heap[g]? = some (.cells cs t (0, 0))) (i : Nat) : w.frozen? ⟨g, i, none⟩ = false := by simp [World.frozen?, h]
theorem blk_grown {w w1 : World} {g : Nat} {o : Obj} {row : Option Nat} (h : w.heap[g]? = some o) (hg : w.grownBy w1 row) (hne : some g ≠ row) : w1.heap[g]? = some o := (hg.block g (blk_lt h) hne).trans h
def KeepBut (w w' : World) (g : Nat) (row : Option Nat) : Prop := w.heap.size ≤ w'.heap.size ∧ ∀ i, i < w.heap.size → i ≠ g → some i ≠ row → w'.heap[i]? = w.heap[i]?
theorem KeepBut.refl (w : World) (g : Nat) (row : Option Nat) : KeepBut w w g row := ⟨Nat.le_refl _, fun _ _ _ _ => rfl⟩
theorem KeepBut.of_grown {w w1 : World} {row : Option Nat} (h : w.grownBy w1 row) (g : Nat) : KeepBut w w1 g row := ⟨h.size, fun i hi _ hr => h.block i hi hr⟩
theorem KeepBut.of_below {w w1 : World} (h : Below w.heap.size w w1) (g : Nat) (row : Option Nat) : KeepBut w w1 g row := ⟨h.size, fun i hi _ _ => h.block i hi⟩
theorem KeepBut.set_ {w w1 : World} {g : Nat} {row : Option Nat} (h : KeepBut w w1 g row) (j : Nat) (u : Value) : KeepBut w (w1.setCell ⟨g, j, none⟩ u) g row :=
  ⟨by simpa [World.setCell] using h.1, fun i hi hg hr => (Below.heap_setCell w1 ⟨g, j, none⟩ u i hg).trans (h.2 i hi hg hr)⟩
theorem KeepBut.trans {w w1 w2 : World} {g : Nat} {row row1 : Option Nat} (h : KeepBut w w1 g row) (k : KeepBut w1 w2 g row1) (hr : row1 = row ∨ ∃ b, row1 = some b ∧ w.heap.size ≤ b) : KeepBut w w2 g row :=
  ⟨Nat.le_trans h.1 k.1, fun i hi hg hn => by
    refine (k.2 i (Nat.lt_of_lt_of_le hi h.1) hg ?_).trans (h.2 i hi hg hn)
    rcases hr with rfl | ⟨b, rfl, hb⟩
    · exact hn
    · intro e
      injection e with e
      omega⟩
/-- Another block, another row: they live on. -/
theorem KeepBut.blk {w w1 : World} {g g' : Nat} {row : Option Nat} {o : Obj} (h : KeepBut w w1 g row) (hb : w.heap[g']? = some o) (hg : g' ≠ g) (hr : some g' ≠ row) : w1.heap[g']? = some o := (h.2 g' (blk_lt hb) hg hr).trans hb
theorem KeepBut.own {w w1 : World} {g : Nat} {row : Option Nat} {base : Nat} {e : TypeId} {size n : Nat} {v : Value} {xs : List Value} (h : KeepBut w w1 g row) (ho : w.ownsRow base e size v n xs) (hg : v.ownBlock ≠ some g) (hr : v.ownBlock = none ∨ v.ownBlock ≠ row) : w1.ownsRow base e size v n xs := by
  obtain ⟨h1, h2⟩ := ho
  refine ⟨h1, ?_⟩
  rcases h2 with h2 | ⟨b, cap, cur, rfl, hb, hh, r⟩
  · exact .inl h2
  · refine .inr ⟨b, cap, cur, rfl, hb, h.blk hh ?_ ?_, r⟩
    · intro e
      exact hg (by rw [← e]; rfl)
    · rcases hr with hr | hr
      · simp [Value.ownBlock] at hr
      · exact hr
def Ev {α : Type} (g : Nat → Option α) (r : α) : Prop := ∃ K, ∀ k, K ≤ k → g k = some r
theorem Ev.of {α : Type} {g : Nat → Option α} {r : α} (hg : ∀ k, LeO (g k) (g (k + 1))) {k : Nat} (h : g k = some r) : Ev g r := ⟨k, fun _ hk => at_rounds hg hk h⟩
theorem Ev.now {α : Type} (r : α) : Ev (fun _ => some r) r := ⟨0, fun _ _ => rfl⟩
theorem Ev.rounds {α : Type} {g : Nat → Option α} {r : α} (h : Ev g r) : ∃ k, g k = some r := by
  obtain ⟨K, h⟩ := h
  exact ⟨K, h K (Nat.le_refl _)⟩
theorem Ev.bind {α β : Type} {g : Nat → Option α} {f : Nat → α → Option β} {a : α} {r : β} (h : Ev g a) (k : Ev (fun n => f n a) r) : Ev (fun n => (g n).bind (f n)) r := by
  obtain ⟨K, h⟩ := h
  obtain ⟨K', k⟩ := k
  refine ⟨max K K', fun n hn => ?_⟩
  have h1 := h n (by omega)
  have h2 := k n (by omega)
  simp only [h1, Option.bind_some]
  exact h2
/-- One round of a loop. -/
theorem Ev.step {α : Type} {g f : Nat → Option α} {r : α} (h : ∀ k, g (k + 1) = f k) (k : Ev f r) : Ev g r := by
  obtain ⟨K, k⟩ := k
  refine ⟨K + 1, fun n hn => ?_⟩
  obtain ⟨m, rfl⟩ : ∃ m, n = m + 1 := ⟨n - 1, by omega⟩
  rw [h]
  exact k m (by omega)
theorem Ev.congr {α : Type} {g f : Nat → Option α} {r : α} (h : ∀ k, g k = f k) (k : Ev f r) : Ev g r := by
  obtain ⟨K, k⟩ := k
  exact ⟨K, fun n hn => (h n).trans (k n hn)⟩
section
variable {P : Program} {ops : Array Oper} {o : Oper} {a : Act} {Q : Exit → Act → World → Prop} {K : Act → World → Prop}
theorem step_append_cells {w0 W : World} (base : Nat) (hw : Region.wanted o (yielded ops a.tmps) = true) (s x : Operand) (t e : TypeId) (z : Value) (size bytes : Nat)
    (ho : o.op = .call { callee := .builtin .append, args := #[s, x], argTypes := #[t, t] })
    (ht : P.underlying t = some (.slice e)) (hinfo : (P.info? e).map (fun i => (i.zero, i.size, i.bytes)) = some (some z, size, bytes)) (hz : z.cells.size = size) (hs0 : 0 < size) (hb0 : 0 < bytes)
    (v : Value) (n : Nat) (xs ys : List Value) (hs : a.eval s = v) (hx : a.eval x = .slice (some ⟨W.heap.size, 0, none⟩) 1 1) (hys : ys.length = size) (h1 : ∀ u ∈ ys, u.oneCell' = true)
    (HO : W.ownsRow base e size v n xs) (HB : Below base w0 W) (hbase : base ≤ W.heap.size) (hl : (n + 1) * bytes ≤ 140737488355328)
    (h : ∀ v1 w1, w1.ownsRow base e size v1 (n + 1) (xs ++ ys) → Below base w0 w1 → W.grownBy w1 v.ownBlock → (v1.ownBlock = v.ownBlock ∨ ∃ b, v1.ownBlock = some b ∧ W.heap.size ≤ b) → K (a.put o.dst v1) w1) :
    if Region.wanted o (yielded ops a.tmps) = true then Oper.wp P o a (W.alloc (.cells ys.toArray e)) K Q else K (a.put o.dst undef) (W.alloc (.cells ys.toArray e)) := by
  obtain ⟨i0, hi, hzz⟩ := Option.map_eq_some_iff.1 hinfo
  simp only [Prod.mk.injEq] at hzz
  obtain ⟨hz0, hz1, hz2⟩ := hzz
  have hlen : n + 1 ≤ 140737488355328 := Nat.le_trans (Nat.le_mul_of_pos_right _ hb0) hl
  rw [if_pos hw]
  obtain ⟨v1, w1, hr, hown, hg, _, hat⟩ := run_append_own_at (P := P) (W.alloc (.cells ys.toArray e)) base t o.type e i0 z size bytes ht hi hz0 hz1 hz2 hz hs0 v n xs (HO.alloc _) ⟨W.heap.size, 0, none⟩ 1 1 ys (by rw [hys]; simp)
    (by simpa using World.news_of_block (cs := ys.toArray) (t := e) (fr := (0, 0)) (heap_alloc_new W (.cells ys.toArray e))) h1 (by simp only [maxLen]; omega) hl (by simp; omega)
  unfold Oper.wp execOp
  simp only [ho, resolve, invoke, builtin, Sem.run_bind, Sem.run_pure, Result.andThen_ok, List.map_toArray, List.map_cons, List.map_nil, hs, hx, hr]
  refine h v1 w1 hown ((HB.alloc hbase _).grown hg (by simp; omega) (own_base HO)) (World.grownBy.trans (World.grownBy_alloc W _ _) hg) ?_
  rcases hat with hat | hat
  · exact .inl hat
  · exact .inr ⟨_, hat, by simp⟩
end
theorem own_weaken {w : World} {base base' : Nat} {e : TypeId} {size n : Nat} {v : Value} {xs : List Value} (h : w.ownsRow base e size v n xs) (hb : base' ≤ base) : w.ownsRow base' e size v n xs := by
  obtain ⟨h1, h2⟩ := h
  refine ⟨h1, ?_⟩
  rcases h2 with h2 | ⟨g, cap, cur, rfl, hg, r⟩
  · exact .inl h2
  · exact .inr ⟨g, cap, cur, rfl, Nat.le_trans hb hg, r⟩
section
variable {α : Type} {enc : α → Value} {d : α}
def encs (enc : α → Value) (xs : List α) : List Value := xs.map enc
def rdOf (d : α) (xs : List α) (i : Int) : α := xs.getD i.toNat d
theorem encs_length (xs : List α) : (encs enc xs).length = xs.length := by simp [encs]
theorem encs_get (xs : List α) (j : Nat) (h : j < xs.length) : (encs enc xs)[j]? = some (enc (xs.getD j d)) := by
  simp [encs, List.getElem?_eq_getElem h, List.getD_eq_getElem?_getD]
def ReadsOf (enc : α → Value) (d : α) (w : World) (A : Option Addr) (n : Nat) (xs : List α) : Prop :=
  xs.length = n ∧ n ≤ 9223372036854775807 ∧ (0 < n → ∃ ad, A = some ad ∧ ∀ j, j < n → w.cell? (ad.add j) = some (enc (xs.getD j d)))
theorem ReadsOf.at_ {w : World} {A : Option Addr} {n : Nat} {xs : List α} (h : ReadsOf enc d w A n xs) (i : Int) (h0 : 0 ≤ i) (h1 : i < n) : ∃ ad, A = some ad ∧ w.cell? (ad.add i.toNat) = some (enc (rdOf d xs i)) := by
  obtain ⟨ad, e, hc⟩ := h.2.2 (by omega)
  exact ⟨ad, e, hc _ (by omega)⟩
theorem ReadsOf.below {w w1 : World} {A : Option Addr} {n : Nat} {xs : List α} (h : ReadsOf enc d w A n xs) (hb : Below w.heap.size w w1) : ReadsOf enc d w1 A n xs :=
  ⟨h.1, h.2.1, fun hn => by
    obtain ⟨ad, e, hc⟩ := h.2.2 hn
    exact ⟨ad, e, fun j hj => pw_cell_below hb (hc j hj)⟩⟩
theorem ReadsOf.take_ {w : World} {A : Option Addr} {n : Nat} {xs : List α} (h : ReadsOf enc d w A n xs) (i : Nat) (hi : i ≤ n) : ReadsOf enc d w A i (xs.take i) := by
  refine ⟨by rw [List.length_take, h.1]; omega, by have := h.2.1; omega, fun hp => ?_⟩
  obtain ⟨ad, e, hc⟩ := h.2.2 (by omega)
  refine ⟨ad, e, fun j hj => ?_⟩
  rw [hc j (by omega)]
  simp [List.getD_eq_getElem?_getD, hj]
theorem print_make_of {P : Program} (t e : TypeId) (z : Value) (bytes : Nat) (ht : P.underlying t = some (.slice e)) (hinfo : (P.info? e).map (fun i => (i.zero, i.size, i.bytes)) = some (some z, 1, bytes)) (hz : z.cells = #[z]) (hb0 : 0 < bytes)
    (m : Nat) (hn : m * bytes ≤ 281474976710656) :
    ∀ W : World, (Instr.makeSlice t (.int .i64 (m : Int)) (.int .i64 (m : Int))).run P W = .ok (.slice (some ⟨W.heap.size, 0, none⟩) m m) (W.alloc (.cells (madeCells #[z] m) e)) := by
  intro W
  have hm : m ≤ 281474976710656 := Nat.le_trans (Nat.le_mul_of_pos_right _ hb0) hn
  exact run_make_row' t e z bytes ht hinfo hz .i64 .i64 m (by rw [Nat.mul_comm]; exact hn) (by omega) W
theorem own_made_of (W : World) (base : Nat) (e : TypeId) (m : Nat) (hb : base ≤ W.heap.size) (hm : m ≤ 9223372036854775807) :
    (W.alloc (.cells (madeCells #[enc d] m) e)).ownsRow base e 1 (.slice (some ⟨W.heap.size, 0, none⟩) m m) m (encs enc (List.replicate m d)) := by
  have h := World.ownsRow_lit (base := base) (e := e) (size := 1) W (madeCells #[enc d] m) m hb (by simpa [maxLen] using hm) (by simp [size_madeCells])
  have hl : (madeCells #[enc d] m).toList = encs enc (List.replicate m d) := by
    apply List.ext_getElem
    · simp [encs, madeCells]
    · intro i h1 h2
      simp [encs, madeCells, Nat.mod_one]
  rwa [hl] at h
theorem own_at_of {W : World} {base g n cap : Nat} {e : TypeId} {xs : List α} (h : W.ownsRow base e 1 (.slice (some ⟨g, 0, none⟩) n cap) n (encs enc xs)) (i : Int) (h0 : 0 ≤ i) (h1 : i < n) :
    W.cell? ⟨g, i.toNat, none⟩ = some (enc (rdOf d xs i)) ∧ W.frozen? ⟨g, i.toNat, none⟩ = false := by
  have hl : xs.length = n := by have := h.1; simp [encs] at this; exact this
  constructor
  · have hc := h.cells (g := g) rfl i.toNat _ (encs_get (d := d) xs i.toNat (by omega))
    rwa [add_plain] at hc
  · rcases h.2 with ⟨h', _⟩ | ⟨g', cap', cur, h', _, hh, _⟩
    · cases h'
    · have : g = g' := by injection h' with h'; injection h' with h'; injection h' with h'
      subst this
      simp [World.frozen?, hh]
theorem own_store_of {W : World} {base g n cap : Nat} {e : TypeId} {xs : List α} (h : W.ownsRow base e 1 (.slice (some ⟨g, 0, none⟩) n cap) n (encs enc xs)) (i : Int) (x : α) :
    (W.setCell ⟨g, i.toNat, none⟩ (enc x)).ownsRow base e 1 (.slice (some ⟨g, 0, none⟩) n cap) n (encs enc (xs.set i.toNat x)) ∧ W.grownBy (W.setCell ⟨g, i.toNat, none⟩ (enc x)) (some g) := by
  have hs := h.stored i.toNat (enc x)
  have he : (encs enc xs).set i.toNat (enc x) = encs enc (xs.set i.toNat x) := by simp [encs, List.map_set]
  rwa [he] at hs
end
section
variable {α : Type} {P : Program} {ops : Array Oper} {rest : List Oper} {o : Oper} {a : Act} {Q : Exit → Act → World → Prop}
end
theorem blk_alloc {w : World} {g : Nat} {o : Obj} (h : w.heap[g]? = some o) (o' : Obj) : (w.alloc o').heap[g]? = some o := (Below.heap_alloc w o' g (blk_lt h)).trans h
theorem blk_drew {w : World} {g : Nat} {o : Obj} (h : w.heap[g]? = some o) : w.drew.heap[g]? = some o := h
theorem blk_drewN {w : World} {g : Nat} {o : Obj} (h : w.heap[g]? = some o) (n : Nat) : (w.drewN n).heap[g]? = some o := h
theorem blk_below {w w1 : World} {g : Nat} {o : Obj} (h : w.heap[g]? = some o) (hb : Below w.heap.size w w1) : w1.heap[g]? = some o := (hb.block g (blk_lt h)).trans h
theorem blk_new (w : World) (o : Obj) : (w.alloc o).heap[w.heap.size]? = some o := heap_alloc_new w o
section
variable {P : Program}
end
theorem own_le {w : World} {base n m c size : Nat} {e : TypeId} {A : Option Addr} {xs : List Value} (h : w.ownsRow base e size (.slice A m c) n xs) : m ≤ c := by
  rcases h.2 with ⟨he, _⟩ | ⟨g, cap, cur, he, _, _, hnc, _⟩
  · injection he with _ h2 h3
    omega
  · injection he with _ h2 h3
    omega
def OwnRow {α : Type} (R : α → List Value → Prop) (e : TypeId) (size : Nat) (w : World) (base : Nat) (v : Value) (ps : List α) : Prop :=
  ∃ inner, w.ownsRow base e size v ps.length inner ∧ Reps R size ps inner
section
variable {α : Type} {R R' : α → List Value → Prop} {e : TypeId} {size : Nat} {w w1 : World} {base : Nat} {v : Value} {ps : List α}
theorem OwnRow.none_ (R : α → List Value → Prop) (e : TypeId) (size : Nat) (w : World) (base : Nat) : OwnRow R e size w base (.slice none 0 0) [] := ⟨[], own_nil _ _ _ _, Reps.none _ _⟩
theorem OwnRow.imp_ (h : OwnRow R e size w base v ps) (hR : ∀ p c, R p c → R' p c) : OwnRow R' e size w base v ps := by
  obtain ⟨inner, ho, hr⟩ := h
  exact ⟨inner, ho, hr.imp_ hR⟩
theorem OwnRow.below (h : OwnRow R e size w base v ps) (hb : Below w.heap.size w w1) : OwnRow R e size w1 base v ps := by
  obtain ⟨inner, ho, hr⟩ := h
  exact ⟨inner, pw_own_below ho hb, hr⟩
theorem OwnRow.other (h : OwnRow R e size w base v ps) {row : Option Nat} (hg : w.grownBy w1 row) (hne : v.ownBlock = none ∨ v.ownBlock ≠ row) : OwnRow R e size w1 base v ps := by
  obtain ⟨inner, ho, hr⟩ := h
  exact ⟨inner, own_other ho hg hne, hr⟩
theorem OwnRow.set_ (h : OwnRow R e size w base v ps) {g : Nat} {t : TypeId} {cells : Array Value} (hb : w.heap[g]? = some (.cells cells t (0, 0))) (ht : e ≠ t) (j : Nat) (u : Value) : OwnRow R e size (w.setCell ⟨g, j, none⟩ u) base v ps := by
  obtain ⟨inner, ho, hr⟩ := h
  exact ⟨inner, own_setCell ho (own_ne ho hb ht) u, hr⟩
theorem OwnRow.keep (h : OwnRow R e size w base v ps) {g : Nat} {t : TypeId} {cells : Array Value} (hb : w.heap[g]? = some (.cells cells t (0, 0))) (ht : e ≠ t) (hk : KeepBut w w1 g none) : OwnRow R e size w1 base v ps := by
  obtain ⟨inner, ho, hr⟩ := h
  exact ⟨inner, hk.own ho (Ne.symm (own_ne ho hb ht)) (by cases v.ownBlock <;> simp), hr⟩
theorem OwnRow.reads (h : OwnRow R e size w base v ps) : ∃ A c, v = .slice A ps.length c ∧ ps.length ≤ c ∧ ReadsRow R size w A ps.length ps := by
  obtain ⟨inner, ho, hr⟩ := h
  obtain ⟨A, c, rfl, hrow⟩ := own_reads_row ho hr rfl
  exact ⟨A, c, rfl, own_le ho, hrow⟩
theorem OwnRow.ne_block (h : OwnRow R e size w base v ps) {g : Nat} {t : TypeId} {cells : Array Value} (hb : w.heap[g]? = some (.cells cells t (0, 0))) (ht : e ≠ t) : some g ≠ v.ownBlock := by
  obtain ⟨inner, ho, hr⟩ := h
  exact own_ne ho hb ht
end
section
variable {P : Program} {ops : Array Oper} {rest : List Oper} {o : Oper} {a : Act} {Q : Exit → Act → World → Prop} {α : Type} {R : α → List Value → Prop}
/-- append(v, x): x's cells are cs. R is that of the world AHEAD; move it over hg ('OwnRow.imp_'). -/
theorem OwnRow.append {w0 W : World} (base : Nat) (hgd : o.guard = none) (s x : Operand) (t e : TypeId) (z : Value) (size bytes : Nat)
    (ho : o.op = .call { callee := .builtin .append, args := #[s, x], argTypes := #[t, t] })
    (ht : P.underlying t = some (.slice e)) (hinfo : (P.info? e).map (fun i => (i.zero, i.size, i.bytes)) = some (some z, size, bytes)) (hz : z.cells.size = size) (hs0 : 0 < size) (hb0 : 0 < bytes)
    (v : Value) (ps : List α) (p : α) (cs : List Value) (hs : a.eval s = v) (hx : a.eval x = .slice (some ⟨W.heap.size, 0, none⟩) 1 1) (hp : R p cs) (hcs : cs.length = size) (h1 : ∀ u ∈ cs, u.oneCell' = true)
    (HO : OwnRow R e size W base v ps) (HB : Below base w0 W) (hbase : base ≤ W.heap.size) (hl : (ps.length + 1) * bytes ≤ 140737488355328)
    (h : ∀ v1 w1, OwnRow R e size w1 base v1 (ps ++ [p]) → Below base w0 w1 → W.grownBy w1 v.ownBlock → (v1.ownBlock = v.ownBlock ∨ ∃ b, v1.ownBlock = some b ∧ W.heap.size ≤ b) → wpList P ops Q rest (a.put o.dst v1) w1) :
    wpList P ops Q (o :: rest) a (W.alloc (.cells cs.toArray e)) := by
  obtain ⟨inner, hown, hr⟩ := HO
  refine print_append_cells base hgd s x t e z size bytes ho ht hinfo hz hs0 hb0 v ps.length inner cs hs hx hcs h1 hown HB hbase hl ?_
  intro v1 w1 hown1 hb1 hg1 hat1
  exact h v1 w1 ⟨inner ++ cs, by rw [List.length_append, List.length_singleton]; exact hown1, hr.snoc hp hcs⟩ hb1 hg1 hat1
end
section
variable {P : Program} {ops : Array Oper} {o : Oper} {a : Act} {Q : Exit → Act → World → Prop} {K : Act → World → Prop} {α : Type} {R : α → List Value → Prop}
end
/-- What is read as_ a row has its cells one behind the other. -/
theorem ReadsRow.inner_ {α : Type} {R : α → List Value → Prop} {size : Nat} {w : World} {ad : Addr} {n : Nat} {ps : List α} (h : ReadsRow R size w (some ad) n ps) :
    ∃ inner, Reps R size ps inner ∧ ∀ j u, inner[j]? = some u → w.cell? (ad.add j) = some u := by
  have key : ∀ m, m ≤ ps.length → ∃ inner, Reps R size (ps.take m) inner ∧ ∀ j u, inner[j]? = some u → w.cell? (ad.add j) = some u := by
    intro m
    induction m with
    | zero => exact fun _ => ⟨[], Reps.none _ _, fun j u hu => by simp at hu⟩
    | succ m ih =>
      intro hm
      obtain ⟨inner, hr, hc⟩ := ih (by omega)
      obtain ⟨ad', he, hcell⟩ := h.2.2 (by have := h.1; omega)
      injection he with he
      subst he
      obtain ⟨c, hcl, hp, hcc⟩ := hcell m _ (List.getElem?_eq_getElem (show m < ps.length by omega))
      refine ⟨inner ++ c, ?_, fun j u hu => ?_⟩
      · rw [List.take_succ_eq_append_getElem (show m < ps.length by omega)]
        exact hr.snoc hp hcl
      · have hil : inner.length = m * size := by rw [hr.1, List.length_take, Nat.min_eq_left (by omega)]
        rcases Nat.lt_or_ge j inner.length with hj | hj
        · rw [List.getElem?_append_left hj] at hu
          exact hc j u hu
        · rw [List.getElem?_append_right hj] at hu
          have := hcc (j - inner.length) u hu
          rwa [hil, Nat.add_sub_cancel' (by omega)] at this
  obtain ⟨inner, hr, hc⟩ := key ps.length (Nat.le_refl _)
  rw [List.take_length] at hr
  exact ⟨inner, hr, hc⟩
section
variable {α : Type} {P : Program}
end
section
variable {P : Program} {ops : Array Oper} {rest : List Oper} {o : Oper} {a : Act} {Q : Exit → Act → World → Prop}
end
/-- ok: which blocks the rows inside may be ('not the row that is being written'). -/
structure Kd (α : Type) where
  sz : Nat
  E : List Nat
  K : World → α → List Value → Prop
  M : World → Nat → (Nat → Prop) → α → List Value → Prop
  K_len : ∀ {w x cs}, K w x cs → cs.length = sz
  K_one : ∀ {w x cs}, K w x cs → ∀ u ∈ cs, u.oneCell' = true
  K_below : ∀ {w w1 : World} {x cs}, Below w.heap.size w w1 → K w x cs → K w1 x cs
  K_of_M : ∀ {w base ok x cs}, M w base ok x cs → K w x cs
  M_mono : ∀ {w base ok ok' x cs}, (∀ k, ok k → ok' k) → M w base ok x cs → M w base ok' x cs
  M_bound : ∀ {w : World} {base ok x cs}, M w base ok x cs → M w base (fun k => ok k ∧ base ≤ k ∧ k < w.heap.size ∧ ∃ q, q ∈ E ∧ ∃ cells, w.heap[k]? = some (.cells cells q (0, 0))) x cs
  M_move : ∀ {w w1 : World} {base ok x cs}, (∀ k, ok k → w1.heap[k]? = w.heap[k]?) → M w base ok x cs → M w1 base ok x cs
  M_lower : ∀ {w base base' ok x cs}, base' ≤ base → M w base ok x cs → M w base' ok x cs
theorem own_move {w w1 : World} {base : Nat} {e : TypeId} {size n : Nat} {v : Value} {xs : List Value} (h : w.ownsRow base e size v n xs) (hm : ∀ k, v.ownBlock = some k → w1.heap[k]? = w.heap[k]?) : w1.ownsRow base e size v n xs := by
  obtain ⟨h1, h2⟩ := h
  refine ⟨h1, ?_⟩
  rcases h2 with h2 | ⟨g, cap, cur, rfl, hg, hh, r⟩
  · exact .inl h2
  · exact .inr ⟨g, cap, cur, rfl, hg, (hm g (by simp [Value.ownBlock])).trans hh, r⟩
theorem own_typed {w : World} {base : Nat} {e : TypeId} {size n : Nat} {v : Value} {xs : List Value} (h : w.ownsRow base e size v n xs) (k : Nat) (hk : v.ownBlock = some k) : ∃ cells, w.heap[k]? = some (.cells cells e (0, 0)) := by
  rcases h.2 with ⟨rfl, _⟩ | ⟨g, cap, cur, rfl, hg, hh, r⟩
  · simp [Value.ownBlock] at hk
  · have : g = k := by simpa [Value.ownBlock] using hk
    subst this
    exact ⟨cur, hh⟩
namespace Kd
/-- A row of elements that is read. -/
def C {α : Type} (d : Kd α) (w : World) (A : Option Addr) (n : Nat) (xs : List α) : Prop := ReadsRow (d.K w) d.sz w A n xs
/-- A row of elements (type e) of the call's own; the elements' rows are not this one. -/
def R {α : Type} (d : Kd α) (e : Nat) (w : World) (base : Nat) (ok : Nat → Prop) (v : Value) (xs : List α) : Prop :=
  (∀ k, v.ownBlock = some k → ok k) ∧ OwnRow (d.M w base (fun k => ok k ∧ some k ≠ v.ownBlock)) e d.sz w base v xs
section
variable {α : Type} {d : Kd α} {e : Nat} {w w1 : World} {base : Nat} {ok ok' : Nat → Prop} {v : Value} {xs : List α}
theorem C_below {A : Option Addr} {n : Nat} (h : d.C w A n xs) (hb : Below w.heap.size w w1) : d.C w1 A n xs := ReadsRow.imp_ h hb (fun _ _ hp => d.K_below hb hp)
theorem R_nil (d : Kd α) (e : Nat) (w : World) (base : Nat) (ok : Nat → Prop) : d.R e w base ok (.slice none 0 0) [] := ⟨fun k hk => by simp [Value.ownBlock] at hk, OwnRow.none_ _ _ _ _ _⟩
theorem R_mono (h : d.R e w base ok v xs) (hok : ∀ k, ok k → ok' k) : d.R e w base ok' v xs := ⟨fun k hk => hok k (h.1 k hk), h.2.imp_ (fun _ _ hp => d.M_mono (fun k hk => ⟨hok k hk.1, hk.2⟩) hp)⟩
theorem R_bound (h : d.R e w base ok v xs) : d.R e w base (fun k => ok k ∧ base ≤ k ∧ k < w.heap.size ∧ ∃ q, q ∈ e :: d.E ∧ ∃ cells, w.heap[k]? = some (.cells cells q (0, 0))) v xs := by
  obtain ⟨h0, inner, ho, hr⟩ := h
  refine ⟨fun k hk => ?_, inner, ho, hr.imp_ (fun _ _ hp => d.M_mono (fun k hk => ?_) (d.M_bound hp))⟩
  · obtain ⟨cells, hc⟩ := own_typed ho k hk
    exact ⟨h0 k hk, own_base ho k hk, own_lt ho k hk, e, List.mem_cons_self, cells, hc⟩
  · obtain ⟨⟨h1, h2⟩, h3, h4, q, hq, hc⟩ := hk
    exact ⟨⟨h1, h3, h4, q, List.mem_cons_of_mem _ hq, hc⟩, h2⟩
theorem R_move (h : d.R e w base ok v xs) (hm : ∀ k, ok k → w1.heap[k]? = w.heap[k]?) : d.R e w1 base ok v xs := by
  obtain ⟨h0, inner, ho, hr⟩ := h
  exact ⟨h0, inner, own_move ho (fun k hk => hm k (h0 k hk)), hr.imp_ (fun _ _ hp => d.M_move (fun k hk => hm k hk.1) hp)⟩
theorem R_lower {base' : Nat} (h : d.R e w base ok v xs) (hb : base' ≤ base) : d.R e w base' ok v xs := by
  obtain ⟨h0, inner, ho, hr⟩ := h
  exact ⟨h0, inner, own_weaken ho hb, hr.imp_ (fun _ _ hp => d.M_lower hb hp)⟩
/-- Any mover: what is ok, and a block of w's, stays. -/
theorem R_step (h : d.R e w base ok v xs) (hm : ∀ k, ok k → k < w.heap.size → w1.heap[k]? = w.heap[k]?) : d.R e w1 base ok v xs :=
  R_mono (R_move (R_bound h) (fun k hk => hm k hk.1 hk.2.2.1)) (fun _ hk => hk.1)
theorem M_step {x : α} {cs : List Value} (h : d.M w base ok x cs) (hm : ∀ k, ok k → k < w.heap.size → w1.heap[k]? = w.heap[k]?) : d.M w1 base ok x cs :=
  d.M_mono (fun _ hk => hk.1) (d.M_move (fun k hk => hm k hk.1 hk.2.2.1) (d.M_bound h))
theorem R_below (h : d.R e w base ok v xs) (hb : Below w.heap.size w w1) : d.R e w1 base ok v xs := R_step h (fun k _ hk => hb.block k hk)
theorem M_below {x : α} {cs : List Value} (h : d.M w base ok x cs) (hb : Below w.heap.size w w1) : d.M w1 base ok x cs := M_step h (fun k _ hk => hb.block k hk)
/-- Another row (a block, or none) has been written. -/
theorem R_grown (h : d.R e w base ok v xs) {row : Option Nat} (hg : w.grownBy w1 row) (hok : ∀ k, ok k → some k ≠ row) : d.R e w1 base ok v xs := R_step h (fun k ho hk => hg.block k hk (hok k ho))
/-- A store into another block. -/
theorem R_far (h : d.R e w base ok v xs) {p : Addr} (hok : ∀ k, ok k → k ≠ p.block) (u : Value) : d.R e (w.setCell p u) base ok v xs := R_step h (fun k ho _ => Below.heap_setCell w p u k (hok k ho))
/-- By types alone: the rows inside are none of a block of type t. -/
theorem R_types (h : d.R e w base ok v xs) {g t : Nat} {cells : Array Value} (hb : w.heap[g]? = some (.cells cells t (0, 0))) (ht : ∀ q, q ∈ e :: d.E → q ≠ t) : d.R e w base (fun k => ok k ∧ k ≠ g) v xs :=
  R_mono (R_bound h) (fun k hk => ⟨hk.1, by
    obtain ⟨_, _, _, q, hq, cells', hc⟩ := hk
    rintro rfl
    rw [hc] at hb
    injection hb with hb
    injection hb with _ hb
    exact ht q hq hb⟩)
theorem R_set (h : d.R e w base ok v xs) {g t : Nat} {cells : Array Value} (hb : w.heap[g]? = some (.cells cells t (0, 0))) (ht : ∀ q, q ∈ e :: d.E → q ≠ t) (j : Nat) (u : Value) : d.R e (w.setCell ⟨g, j, none⟩ u) base ok v xs :=
  R_mono (R_far (p := ⟨g, j, none⟩) (R_types h hb ht) (fun _ hk => hk.2) u) (fun _ hk => hk.1)
theorem R_reads (h : d.R e w base ok v xs) : ∃ A c, v = .slice A xs.length c ∧ xs.length ≤ c ∧ d.C w A xs.length xs := by
  obtain ⟨A, c, he, hl, hr⟩ := OwnRow.reads h.2
  exact ⟨A, c, he, hl, hr.imp_ (Below.refl _ _) (fun _ _ hp => d.K_of_M hp)⟩
theorem R_slice (h : d.R e w base ok v xs) : ∃ A c, v = .slice A xs.length c := by
  obtain ⟨A, c, he, _⟩ := R_reads h
  exact ⟨A, c, he⟩
theorem R_own (h : d.R e w base ok v xs) : ∃ inner, w.ownsRow base e d.sz v xs.length inner := by
  obtain ⟨_, inner, ho, _⟩ := h
  exact ⟨inner, ho⟩
theorem R_ne (h : d.R e w base ok v xs) {g t : Nat} {cells : Array Value} (hb : w.heap[g]? = some (.cells cells t (0, 0))) (ht : e ≠ t) : some g ≠ v.ownBlock := OwnRow.ne_block h.2 hb ht
end
def scalar {α : Type} (enc : α → Value) (h1 : ∀ x, (enc x).oneCell' = true) : Kd α where
  sz := 1
  E := []
  K := fun _ x cs => cs = [enc x]
  M := fun _ _ _ x cs => cs = [enc x]
  K_len := fun h => by rw [h]; rfl
  K_one := fun h u hu => by
    rw [h] at hu
    rw [List.mem_singleton.1 hu]
    exact h1 _
  K_below := fun _ h => h
  K_of_M := fun h => h
  M_mono := fun _ h => h
  M_bound := fun h => h
  M_move := fun _ h => h
  M_lower := fun _ h => h
def int (k : IntKind) : Kd Int := scalar (Value.int k) (fun _ => rfl)
def bool : Kd Bool := scalar Value.bool (fun _ => rfl)
def string : Kd ByteArray := scalar Value.string (fun _ => rfl)
def slice {α : Type} (e : Nat) (d : Kd α) : Kd (List α) where
  sz := 1
  E := e :: d.E
  K := fun w xs cs => ∃ A c, cs = [.slice A xs.length c] ∧ xs.length ≤ c ∧ d.C w A xs.length xs
  M := fun w base ok xs cs => ∃ v, cs = [v] ∧ d.R e w base ok v xs
  K_len := by
    rintro w x cs ⟨A, c, rfl, _⟩
    rfl
  K_one := by
    rintro w x cs ⟨A, c, rfl, _⟩ u hu
    rw [List.mem_singleton.1 hu]
    rfl
  K_below := by
    rintro w w1 x cs hb ⟨A, c, rfl, hl, hr⟩
    exact ⟨A, c, rfl, hl, C_below hr hb⟩
  K_of_M := by
    rintro w base ok x cs ⟨v, rfl, h⟩
    obtain ⟨A, c, rfl, hl, hr⟩ := R_reads h
    exact ⟨A, c, rfl, hl, hr⟩
  M_mono := by
    rintro w base ok ok' x cs hok ⟨v, rfl, h⟩
    exact ⟨v, rfl, R_mono h hok⟩
  M_bound := by
    rintro w base ok x cs ⟨v, rfl, h⟩
    exact ⟨v, rfl, R_bound h⟩
  M_move := by
    rintro w w1 base ok x cs hm ⟨v, rfl, h⟩
    exact ⟨v, rfl, R_move h hm⟩
  M_lower := by
    rintro w base base' ok x cs hb ⟨v, rfl, h⟩
    exact ⟨v, rfl, R_lower h hb⟩
/-- Two in line. -/
def pair {α β : Type} (a : Kd α) (b : Kd β) : Kd (α × β) where
  sz := a.sz + b.sz
  E := a.E ++ b.E
  K := fun w x cs => ∃ c0 c1, cs = c0 ++ c1 ∧ a.K w x.1 c0 ∧ b.K w x.2 c1
  M := fun w base ok x cs => ∃ c0 c1, cs = c0 ++ c1 ∧ a.M w base ok x.1 c0 ∧ b.M w base ok x.2 c1
  K_len := by
    rintro w x cs ⟨c0, c1, rfl, h0, h1⟩
    rw [List.length_append, a.K_len h0, b.K_len h1]
  K_one := by
    rintro w x cs ⟨c0, c1, rfl, h0, h1⟩ u hu
    rcases List.mem_append.1 hu with hu | hu
    · exact a.K_one h0 u hu
    · exact b.K_one h1 u hu
  K_below := by
    rintro w w1 x cs hb ⟨c0, c1, rfl, h0, h1⟩
    exact ⟨c0, c1, rfl, a.K_below hb h0, b.K_below hb h1⟩
  K_of_M := by
    rintro w base ok x cs ⟨c0, c1, rfl, h0, h1⟩
    exact ⟨c0, c1, rfl, a.K_of_M h0, b.K_of_M h1⟩
  M_mono := by
    rintro w base ok ok' x cs hok ⟨c0, c1, rfl, h0, h1⟩
    exact ⟨c0, c1, rfl, a.M_mono hok h0, b.M_mono hok h1⟩
  M_bound := by
    rintro w base ok x cs ⟨c0, c1, rfl, h0, h1⟩
    refine ⟨c0, c1, rfl, a.M_mono ?_ (a.M_bound h0), b.M_mono ?_ (b.M_bound h1)⟩
    · rintro k ⟨h2, h3, h4, q, hq, hc⟩
      exact ⟨h2, h3, h4, q, List.mem_append_left _ hq, hc⟩
    · rintro k ⟨h2, h3, h4, q, hq, hc⟩
      exact ⟨h2, h3, h4, q, List.mem_append_right _ hq, hc⟩
  M_move := by
    rintro w w1 base ok x cs hm ⟨c0, c1, rfl, h0, h1⟩
    exact ⟨c0, c1, rfl, a.M_move hm h0, b.M_move hm h1⟩
  M_lower := by
    rintro w base base' ok x cs hb ⟨c0, c1, rfl, h0, h1⟩
    exact ⟨c0, c1, rfl, a.M_lower hb h0, b.M_lower hb h1⟩
/-- A Lean structure by its fields. -/
def iso {α β : Type} (d : Kd α) (f : β → α) : Kd β where
  sz := d.sz
  E := d.E
  K := fun w x cs => d.K w (f x) cs
  M := fun w base ok x cs => d.M w base ok (f x) cs
  K_len := d.K_len
  K_one := d.K_one
  K_below := d.K_below
  K_of_M := d.K_of_M
  M_mono := d.M_mono
  M_bound := d.M_bound
  M_move := d.M_move
  M_lower := d.M_lower
/-- Nothing is of this kind: where the nesting's depth is used up. -/
def bot {α : Type} (sz : Nat) (E : List Nat) : Kd α where
  sz := sz
  E := E
  K := fun _ _ _ => False
  M := fun _ _ _ _ _ => False
  K_len := fun h => h.elim
  K_one := fun h => h.elim
  K_below := fun _ h => h
  K_of_M := fun h => h
  M_mono := fun _ h => h
  M_bound := fun h => h
  M_move := fun _ h => h
  M_lower := fun _ h => h
/-- A type nested in itself: nested at most n deep .. -/
def upto {α : Type} (F : Kd α → Kd α) (sz : Nat) (E : List Nat) : Nat → Kd α
  | 0 => bot sz E
  | n + 1 => F (upto F sz E n)
theorem C_get {α : Type} {d : Kd α} {w : World} {A : Option Addr} {n : Nat} {xs : List α} (h : d.C w A n xs) (z : α) (i : Int) (h0 : 0 ≤ i) (h1 : i < n) :
    ∃ ad c, A = some ad ∧ c.length = d.sz ∧ d.K w (xs.getD i.toNat z) c ∧ ∀ j u, c[j]? = some u → w.cell? (ad.add (i.toNat * d.sz + j)) = some u := ReadsRow.get_ h z i h0 h1
/-- What an append leaves: the old elements' rows and the new one's are not the new row's block. -/
theorem R_appended {α : Type} {d : Kd α} {e base : Nat} {ok okp : Nat → Prop} {W w1 : World} {v v1 : Value} {xs : List α} {p : α} {inner cs : List Value} (h0 : ∀ k, v.ownBlock = some k → ok k) (hr : Reps (d.M W base (fun k => ok k ∧ some k ≠ v.ownBlock)) d.sz xs inner) (hp : d.M W base okp p cs) (hokp : ∀ k, okp k → ok k ∧ some k ≠ v.ownBlock) (hfresh : ∀ k, W.heap.size ≤ k → ok k)
    (hown : w1.ownsRow base e d.sz v1 (xs.length + 1) (inner ++ cs)) (hg : W.grownBy w1 v.ownBlock) (hat : v1.ownBlock = v.ownBlock ∨ ∃ b, v1.ownBlock = some b ∧ W.heap.size ≤ b) : d.R e w1 base ok v1 (xs ++ [p]) := by
  have hne : ∀ k, some k ≠ v.ownBlock → k < W.heap.size → some k ≠ v1.ownBlock := by
    intro k hk hlt
    rcases hat with hat | ⟨b, hb, hle⟩
    · rw [hat]; exact hk
    · rw [hb]
      intro he
      injection he with he
      omega
  have step : ∀ {q : α} {c : List Value} {o : Nat → Prop}, d.M W base o q c → (∀ k, o k → ok k ∧ some k ≠ v.ownBlock) → d.M w1 base (fun k => ok k ∧ some k ≠ v1.ownBlock) q c := by
    intro q c o hq ho
    have h1 := d.M_move (w1 := w1) (fun k hk => hg.block k hk.2.2.1 (ho k hk.1).2) (d.M_bound hq)
    exact d.M_mono (fun k hk => ⟨(ho k hk.1).1, hne k (ho k hk.1).2 hk.2.2.1⟩) h1
  refine ⟨fun k hk => ?_, inner ++ cs, by rw [List.length_append, List.length_singleton]; exact hown, ?_⟩
  · rcases hat with hat | ⟨b, hb, hle⟩
    · exact h0 k (hat ▸ hk)
    · rw [hb] at hk
      injection hk with hk
      exact hfresh k (by omega)
  · exact (hr.imp_ (fun _ _ hq => step hq (fun _ hk => hk))).snoc (step hp hokp) (d.K_len (d.K_of_M hp))
section
variable {P : Program} {ops : Array Oper} {rest : List Oper} {o : Oper} {a : Act} {Q : Exit → Act → World → Prop} {α : Type}
/-- append(v, x), behind 'at_builtin'; the goal's world is 'W.alloc' of the variadic's box; x's cells are cs, made (its rows satisfy okp). hfresh: a block that is new at W is ok. -/
theorem R_append (d : Kd α) {w0 W : World} (base : Nat) (hgd : o.guard = none) (s x : Operand) (t e : TypeId) (z : Value) (bytes : Nat)
    (ho : o.op = .call { callee := .builtin .append, args := #[s, x], argTypes := #[t, t] })
    (ht : P.underlying t = some (.slice e)) (hinfo : (P.info? e).map (fun i => (i.zero, i.size, i.bytes)) = some (some z, d.sz, bytes)) (hz : z.cells.size = d.sz) (hs0 : 0 < d.sz) (hb0 : 0 < bytes)
    (v : Value) (xs : List α) (p : α) (cs : List Value) (ok okp : Nat → Prop) (hs : a.eval s = v) (hx : a.eval x = .slice (some ⟨W.heap.size, 0, none⟩) 1 1) (hp : d.M W base okp p cs) (hokp : ∀ k, okp k → ok k ∧ some k ≠ v.ownBlock) (hfresh : ∀ k, W.heap.size ≤ k → ok k)
    (HO : d.R e W base ok v xs) (HB : Below base w0 W) (hbase : base ≤ W.heap.size) (hl : (xs.length + 1) * bytes ≤ 140737488355328)
    (h : ∀ v1 w1, d.R e w1 base ok v1 (xs ++ [p]) → Below base w0 w1 → W.grownBy w1 v.ownBlock → (v1.ownBlock = v.ownBlock ∨ ∃ b, v1.ownBlock = some b ∧ W.heap.size ≤ b) → wpList P ops Q rest (a.put o.dst v1) w1) :
    wpList P ops Q (o :: rest) a (W.alloc (.cells cs.toArray e)) := by
  obtain ⟨h0, inner, hown, hr⟩ := HO
  refine print_append_cells base hgd s x t e z d.sz bytes ho ht hinfo hz hs0 hb0 v xs.length inner cs hs hx (d.K_len (d.K_of_M hp)) (d.K_one (d.K_of_M hp)) hown HB hbase hl ?_
  intro v1 w1 hown1 hb1 hg1 hat1
  exact h v1 w1 (R_appended h0 hr hp hokp hfresh hown1 hg1 hat1) hb1 hg1 hat1
end
section
variable {P : Program} {ops : Array Oper} {o : Oper} {a : Act} {Q : Exit → Act → World → Prop} {Kc : Act → World → Prop} {α : Type}
theorem R_append_step (d : Kd α) {w0 W : World} (base : Nat) (hw : Region.wanted o (yielded ops a.tmps) = true) (s x : Operand) (t e : TypeId) (z : Value) (bytes : Nat)
    (ho : o.op = .call { callee := .builtin .append, args := #[s, x], argTypes := #[t, t] })
    (ht : P.underlying t = some (.slice e)) (hinfo : (P.info? e).map (fun i => (i.zero, i.size, i.bytes)) = some (some z, d.sz, bytes)) (hz : z.cells.size = d.sz) (hs0 : 0 < d.sz) (hb0 : 0 < bytes)
    (v : Value) (xs : List α) (p : α) (cs : List Value) (ok okp : Nat → Prop) (hs : a.eval s = v) (hx : a.eval x = .slice (some ⟨W.heap.size, 0, none⟩) 1 1) (hp : d.M W base okp p cs) (hokp : ∀ k, okp k → ok k ∧ some k ≠ v.ownBlock) (hfresh : ∀ k, W.heap.size ≤ k → ok k)
    (HO : d.R e W base ok v xs) (HB : Below base w0 W) (hbase : base ≤ W.heap.size) (hl : (xs.length + 1) * bytes ≤ 140737488355328)
    (h : ∀ v1 w1, d.R e w1 base ok v1 (xs ++ [p]) → Below base w0 w1 → W.grownBy w1 v.ownBlock → (v1.ownBlock = v.ownBlock ∨ ∃ b, v1.ownBlock = some b ∧ W.heap.size ≤ b) → Kc (a.put o.dst v1) w1) :
    if Region.wanted o (yielded ops a.tmps) = true then Oper.wp P o a (W.alloc (.cells cs.toArray e)) Kc Q else Kc (a.put o.dst undef) (W.alloc (.cells cs.toArray e)) := by
  obtain ⟨h0, inner, hown, hr⟩ := HO
  refine step_append_cells base hw s x t e z d.sz bytes ho ht hinfo hz hs0 hb0 v xs.length inner cs hs hx (d.K_len (d.K_of_M hp)) (d.K_one (d.K_of_M hp)) hown HB hbase hl ?_
  intro v1 w1 hown1 hb1 hg1 hat1
  exact h v1 w1 (R_appended h0 hr hp hokp hfresh hown1 hg1 hat1) hb1 hg1 hat1
end
/-- A row of scalars is the elder form. -/
theorem reps_scalar {α : Type} {enc : α → Value} (xs : List α) : Reps (fun (x : α) (cs : List Value) => cs = [enc x]) 1 xs (encs enc xs) := by
  refine ⟨by simp [encs], fun j p hj => ?_⟩
  obtain ⟨hl, hp⟩ := List.getElem?_eq_some_iff.1 hj
  have hl' : j < (encs enc xs).length := by rw [encs_length]; exact hl
  rw [Nat.mul_one, List.drop_eq_getElem_cons hl']
  simp [encs, hp]
theorem R_of_own {α : Type} {enc : α → Value} {h1 : ∀ x, (enc x).oneCell' = true} {e : Nat} {w : World} {base : Nat} {ok : Nat → Prop} {v : Value} {xs : List α} (ho : w.ownsRow base e 1 v xs.length (encs enc xs)) (hok : ∀ k, v.ownBlock = some k → ok k) : (scalar enc h1).R e w base ok v xs := ⟨hok, encs enc xs, ho, reps_scalar xs⟩
theorem own_of_R {α : Type} {enc : α → Value} {h1 : ∀ x, (enc x).oneCell' = true} {e : Nat} {w : World} {base : Nat} {ok : Nat → Prop} {v : Value} {xs : List α} (h : (scalar enc h1).R e w base ok v xs) : w.ownsRow base e 1 v xs.length (encs enc xs) := by
  obtain ⟨_, inner, ho, hr⟩ := h
  have : inner = encs enc xs := by
    apply List.ext_getElem?
    intro j
    rcases Nat.lt_or_ge j xs.length with hj | hj
    · have h2 := hr.2 j _ (List.getElem?_eq_getElem hj)
      have hl : j < inner.length := by have := hr.1; simp [scalar] at this; omega
      have h3 : (inner.drop (j * 1)).take 1 = [enc xs[j]] := h2
      rw [Nat.mul_one, List.drop_eq_getElem_cons hl] at h3
      have h4 : inner[j] = enc xs[j] := by
        have h5 := congrArg List.head? h3
        rw [List.take_succ_cons] at h5
        exact Option.some.inj h5
      rw [List.getElem?_eq_getElem hl, h4]
      simp [encs, List.getElem?_eq_getElem hj]
    · have h3 : inner.length = xs.length := by have := hr.1; simp [scalar] at this; omega
      rw [List.getElem?_eq_none (by omega), List.getElem?_eq_none (by rw [encs_length]; omega)]
  rw [← this]
  exact ho
theorem reads_of_C {α : Type} {enc : α → Value} {d : α} {h1 : ∀ x, (enc x).oneCell' = true} {w : World} {A : Option Addr} {n : Nat} {xs : List α} (h : (scalar enc h1).C w A n xs) : ReadsOf enc d w A n xs := by
  refine ⟨h.1, h.2.1, fun hn => ?_⟩
  obtain ⟨ad, e, hc⟩ := h.2.2 hn
  refine ⟨ad, e, fun j hj => ?_⟩
  have hl : j < xs.length := by have := h.1; omega
  obtain ⟨c, _, hK, hcell⟩ := hc j _ (List.getElem?_eq_getElem hl)
  have hK' : c = [enc xs[j]] := hK
  subst hK'
  have := hcell 0 _ rfl
  simpa [scalar, List.getD_eq_getElem?_getD, List.getElem?_eq_getElem hl] using this
end Kd
namespace Kd
section
variable {α : Type} {F : Kd α → Kd α} {sz : Nat} {E : List Nat} {hs : ∀ n, (upto F sz E n).sz = sz} {hE : ∀ n q, q ∈ (upto F sz E n).E → q ∈ E}
end
end Kd
namespace Kd
end Kd
namespace Kd
section
variable {α β : Type} {d : Kd α} {d' : Kd β} {e e' : Nat} {w w1 W : World} {base b b' : Nat} {ok ok' okv oku : Nat → Prop} {v u : Value} {xs : List α} {ys : List β}
theorem R_alloc (h : d.R e w base ok v xs) (o : Obj) : d.R e (w.alloc o) base ok v xs := R_below h (below_alloc (Below.refl _ _) o)
theorem R_drew (h : d.R e w base ok v xs) : d.R e w.drew base ok v xs := R_below h (below_drew (Below.refl _ _))
theorem R_drewN (h : d.R e w base ok v xs) (m : Nat) : d.R e (w.drewN m) base ok v xs := R_below h (pw_below_drewN (Below.refl _ _) m)
theorem C_alloc {A : Option Addr} {n : Nat} (h : d.C w A n xs) (o : Obj) : d.C (w.alloc o) A n xs := C_below h (below_alloc (Below.refl _ _) o)
theorem C_drew {A : Option Addr} {n : Nat} (h : d.C w A n xs) : d.C w.drew A n xs := C_below h (below_drew (Below.refl _ _))
theorem C_drewN {A : Option Addr} {n : Nat} (h : d.C w A n xs) (m : Nat) : d.C (w.drewN m) A n xs := C_below h (pw_below_drewN (Below.refl _ _) m)
theorem C_nil (d : Kd α) (w : World) : d.C w none ([] : List α).length [] := ⟨rfl, by simp, fun h => absurd h (Nat.lt_irrefl 0)⟩
theorem R_reads' {A : Option Addr} {n c : Nat} (h : d.R e w base ok (.slice A n c) xs) : n = xs.length ∧ n ≤ c ∧ d.C w A xs.length xs := by
  obtain ⟨A', c', he, hl, hr⟩ := R_reads h
  injection he with h1 h2 h3
  subst h1
  exact ⟨h2, by omega, hr⟩
theorem R_lt (h : d.R e w base ok v xs) : ∀ k, v.ownBlock = some k → k < w.heap.size := by
  obtain ⟨inner, ho⟩ := R_own h
  exact own_lt ho
theorem R_base (h : d.R e w base ok v xs) : ∀ k, v.ownBlock = some k → base ≤ k := by
  obtain ⟨inner, ho⟩ := R_own h
  exact own_base ho
theorem R_form (h : d.R e w base ok v xs) (hp : 0 < xs.length) : ∃ g cap, v = .slice (some ⟨g, 0, none⟩) xs.length cap ∧ base ≤ g ∧ g < w.heap.size ∧ ∃ cells, w.heap[g]? = some (.cells cells e (0, 0)) := by
  obtain ⟨inner, ho⟩ := R_own h
  obtain ⟨g, cap, he, hb, hl⟩ := ho.form hp
  obtain ⟨cells, hc⟩ := own_typed ho g (by rw [he]; simp [Value.ownBlock])
  exact ⟨g, cap, he, hb, hl, cells, hc⟩
end
section
variable {w W : World} {A : Option Addr} {n : Nat}
theorem at_int {k : IntKind} {xs : List Int} (h : (Kd.int k).C w A n xs) (i : Int) (h0 : 0 ≤ i) (h1 : i < n) : ∃ ad, A = some ad ∧ w.cell? (ad.add i.toNat) = some (.int k (rd xs i)) :=
  ReadsOf.at_ (reads_of_C (enc := Value.int k) (d := (0 : Int)) (h1 := fun _ => rfl) h) i h0 h1
variable {α : Type} {enc : α → Value} {h1 : ∀ x, (enc x).oneCell' = true} {e base g cap : Nat} {ok : Nat → Prop} {xs : List α}
theorem R_cell (d : α) (h : (scalar enc h1).R e W base ok (.slice (some ⟨g, 0, none⟩) xs.length cap) xs) (i : Int) (h0 : 0 ≤ i) (hi : i < xs.length) : W.cell? ⟨g, i.toNat, none⟩ = some (enc (rdOf d xs i)) ∧ W.frozen? ⟨g, i.toNat, none⟩ = false := own_at_of (own_of_R h) i h0 hi
theorem R_put (h : (scalar enc h1).R e W base ok (.slice (some ⟨g, 0, none⟩) xs.length cap) xs) (i : Int) (x : α) : (scalar enc h1).R e (W.setCell ⟨g, i.toNat, none⟩ (enc x)) base ok (.slice (some ⟨g, 0, none⟩) xs.length cap) (xs.set i.toNat x) ∧ W.grownBy (W.setCell ⟨g, i.toNat, none⟩ (enc x)) (some g) := by
  obtain ⟨ho, hg⟩ := own_store_of (own_of_R h) i x
  exact ⟨R_of_own (by rw [List.length_set]; exact ho) h.1, hg⟩
end
section
variable {P : Program} {ops : Array Oper} {rest : List Oper} {o : Oper} {a : Act} {Q : Exit → Act → World → Prop}
theorem event_run {W w1 : World} {v : Value} (hgd : o.guard = none) (hrun : (execOp a.eval o).run P W = .ok (.value v) w1) (h : wpList P ops Q rest (a.put o.dst v) w1) : wpList P ops Q (o :: rest) a W := by
  refine wpList_plain hgd fun K hK => ?_
  unfold Oper.wp
  rw [hrun]
  exact hK _ _ h
variable {α : Type}
/-- A literal '[]T{..}': inner its cells. 'hd' picks the operation; 'hrun' by '(by go_simp; rfl)'. -/
theorem R_lit (d : Kd α) {w0 W : World} (base e : Nat) (hgd : o.guard = none) {N : Tmp} (_hd : o.dst = some N) {xs : List α} {inner : List Value} {ok okp : Nat → Prop}
    (hrun : (execOp a.eval o).run P W = .ok (.value (.slice (some ⟨W.heap.size, 0, none⟩) xs.length xs.length)) (W.alloc (.cells inner.toArray e)))
    (hrep : Reps (d.M W base okp) d.sz xs inner) (hok : ∀ k, okp k → ok k) (hfresh : ok W.heap.size) (HB : Below base w0 W) (hbase : base ≤ W.heap.size) (hm : xs.length ≤ 9223372036854775807)
    (h : ∀ v1 w1, d.R e w1 base ok v1 xs → Below base w0 w1 → W.grownBy w1 none → (∃ b, v1.ownBlock = some b ∧ W.heap.size ≤ b) → wpList P ops Q rest (a.put o.dst v1) w1) : wpList P ops Q (o :: rest) a W := by
  refine event_run hgd hrun (h _ _ ⟨fun k hk => ?_, inner, ?_, ?_⟩ (HB.alloc hbase _) (World.grownBy_alloc W _ none) ⟨W.heap.size, by simp [Value.ownBlock], Nat.le_refl _⟩)
  · have : W.heap.size = k := by simpa [Value.ownBlock] using hk
    subst this
    exact hfresh
  · have h2 := World.ownsRow_lit (base := base) (e := e) (size := d.sz) W inner.toArray xs.length hbase (by simpa [maxLen] using hm) (by simpa using hrep.1)
    simpa using h2
  · refine hrep.imp_ (fun p c hp => d.M_mono (fun k hk => ⟨hok k hk.1, fun he => ?_⟩) (M_below (d.M_bound hp) (below_alloc (Below.refl _ _) _)))
    have h3 : k = W.heap.size := by simpa [Value.ownBlock] using he
    have := hk.2.2.1
    omega
end
end Kd
theorem own_take {w : World} {base n m c size : Nat} {e : TypeId} {A : Option Addr} {xs : List Value} (h : w.ownsRow base e size (.slice A n c) n xs) (hm : m ≤ n) : w.ownsRow base e size (.slice A m c) m (xs.take (m * size)) := by
  obtain ⟨h1, h2⟩ := h
  refine ⟨by rw [List.length_take, h1]; exact Nat.min_eq_left (Nat.mul_le_mul_right _ hm), ?_⟩
  rcases h2 with ⟨he, h0⟩ | ⟨g, cap, cur, he, hb, hh, hnc, hcm, hcs, ht⟩
  · injection he with ha _ hc
    subst ha; subst hc
    exact .inl ⟨by rw [show m = 0 by omega], by omega⟩
  · injection he with ha _ hc
    subst ha; subst hc
    refine .inr ⟨g, c, cur, rfl, hb, hh, by omega, hcm, hcs, ?_⟩
    rw [← ht, List.take_take, Nat.min_eq_left (Nat.mul_le_mul_right _ hm)]
section
variable {P : Program}
theorem cut_to (t e : TypeId) (kh : IntKind) {i : TypeInfo} (ht : P.underlying t = some (.slice e)) (hi : P.info? e = some i) (A : Option Addr) (n c : Nat) (j : Int) (h0 : 0 ≤ j) (hm : j ≤ n) (hc : n ≤ c) :
    ∀ W : World, (Instr.slice t (.slice A n c) none (some (.int kh j)) none).run P W = .ok (.slice A j.toNat c) W := by
  intro W
  have hel : P.elem t = e := by simp [Program.elem, ht]
  have hu : P.underlying t = some (.slice (P.elem t)) := by rw [hel]; exact ht
  have ha : (A.map fun x => x.add 0) = A := by cases A <;> simp [Addr.add]
  rw [run_slice_h W t A n c hu kh j h0 (by omega), hel]
  simp [sizeOf, typeInfo, hi, sliced, Result.andThen, ha]
end
/-- A row of one's own that may begin inside its block. -/
def QRow (w : World) (base : Nat) (e : TypeId) (size : Nat) (v : Value) (n : Nat) (xs : List Value) : Prop :=
  xs.length = n * size ∧
  ((n = 0 ∧ ∃ A, v = .slice A 0 0 ∧ ∀ a, A = some a → base ≤ a.block ∧ ∃ cur, w.heap[a.block]? = some (.cells cur e (0, 0))) ∨
   ∃ g off cap cur, v = .slice (some ⟨g, off * size, none⟩) n cap ∧ base ≤ g ∧ w.heap[g]? = some (.cells cur e (0, 0)) ∧ n ≤ cap ∧ off + cap ≤ maxLen ∧ cur.size = (off + cap) * size ∧ (cur.toList.drop (off * size)).take (n * size) = xs)
section
variable {w w1 : World} {base n size : Nat} {e : TypeId} {v : Value} {xs : List Value}
theorem q_of_own (h : w.ownsRow base e size v n xs) : QRow w base e size v n xs := by
  obtain ⟨h1, h2⟩ := h
  refine ⟨h1, ?_⟩
  rcases h2 with ⟨rfl, h0⟩ | ⟨g, cap, cur, rfl, hb, hh, hnc, hcm, hcs, ht⟩
  · exact .inl ⟨h0, none, rfl, fun a ha => by cases ha⟩
  · exact .inr ⟨g, 0, cap, cur, by rw [Nat.zero_mul], hb, hh, hnc, by rw [Nat.zero_add]; exact hcm, by rw [Nat.zero_add]; exact hcs, by rw [Nat.zero_mul, List.drop_zero]; exact ht⟩
end
section
variable {P : Program}
end
namespace Kd
theorem reps_take {α : Type} {R : α → List Value → Prop} {size m : Nat} {ps : List α} {cs : List Value} (h : Reps R size ps cs) (hm : m ≤ ps.length) : Reps R size (ps.take m) (cs.take (m * size)) := by
  refine ⟨by rw [List.length_take, List.length_take, h.1, Nat.min_eq_left hm, Nat.min_eq_left (Nat.mul_le_mul_right _ hm)], fun j p hj => ?_⟩
  rw [List.getElem?_take] at hj
  split at hj
  · rename_i hjm
    have := h.2 j p hj
    have hle : j * size + size ≤ m * size := by rw [← Nat.succ_mul]; exact Nat.mul_le_mul_right _ hjm
    rw [List.drop_take, List.take_take, Nat.min_eq_left (by omega)]
    exact this
  · cases hj
theorem R_take {α : Type} {d : Kd α} {e m n c : Nat} {w : World} {base : Nat} {ok : Nat → Prop} {A : Option Addr} {xs : List α} (h : d.R e w base ok (.slice A n c) xs) (hm : m ≤ xs.length) : d.R e w base ok (.slice A m c) (xs.take m) := by
  obtain ⟨h0, inner, ho, hr⟩ := h
  have hn : n = xs.length := by
    obtain ⟨A', c', he⟩ := own_slice ho
    injection he
  subst hn
  have hb : ∀ x y : Nat, (Value.slice A x c).ownBlock = (Value.slice A y c).ownBlock := by
    intro x y
    cases A <;> rfl
  refine ⟨fun k hk => h0 k (by rw [hb _ m]; exact hk), inner.take (m * d.sz), ?_, ?_⟩
  · rw [List.length_take, Nat.min_eq_left hm]
    exact own_take ho hm
  · rw [hb m xs.length]
    exact reps_take hr hm
def Q {α : Type} (d : Kd α) (e : Nat) (w : World) (base : Nat) (ok : Nat → Prop) (v : Value) (xs : List α) : Prop :=
  (∀ k, v.ownBlock = some k → ok k) ∧ ∃ inner, QRow w base e d.sz v xs.length inner ∧ Reps (d.M w base (fun k => ok k ∧ some k ≠ v.ownBlock)) d.sz xs inner
section
variable {α : Type} {d : Kd α} {e : Nat} {w w1 W : World} {base : Nat} {ok ok' : Nat → Prop} {v : Value} {xs : List α}
theorem Q_of_R (h : d.R e w base ok v xs) : d.Q e w base ok v xs := by
  obtain ⟨h0, inner, ho, hr⟩ := h
  exact ⟨h0, inner, q_of_own ho, hr⟩
theorem Q_nil (d : Kd α) (e : Nat) (w : World) (base : Nat) (ok : Nat → Prop) : d.Q e w base ok (.slice none 0 0) [] := Q_of_R (R_nil d e w base ok)
end
section
variable {P : Program} {ops : Array Oper} {rest : List Oper} {o : Oper} {a : Act} {Q' : Exit → Act → World → Prop} {Kc : Act → World → Prop} {α : Type}
end
end Kd
namespace Kd
section
variable {α : Type} {d : Kd α} {e e' : Nat} {w w1 W : World} {base : Nat} {ok : Nat → Prop} {u v : Value} {xs : List α}
theorem R_typed (h : d.R e w base ok v xs) : ∀ k, v.ownBlock = some k → ∃ cells, w.heap[k]? = some (.cells cells e (0, 0)) := by
  obtain ⟨inner, ho⟩ := R_own h
  exact fun k hk => own_typed ho k hk
theorem R_over' (h : d.R e W base ok u xs) (hty : ∀ k, v.ownBlock = some k → ∃ cells, W.heap[k]? = some (.cells cells e' (0, 0))) (ht : ∀ q, q ∈ e :: d.E → q ≠ e') (hg : W.grownBy w1 v.ownBlock) : d.R e w1 base ok u xs := by
  refine R_mono (R_move (R_bound h) (fun k hk => hg.block k hk.2.2.1 (fun he => ?_))) (fun _ hk => hk.1)
  obtain ⟨_, _, _, q, hq, cells, hc⟩ := hk
  obtain ⟨cells', hc'⟩ := hty k he.symm
  rw [hc] at hc'
  injection hc' with hc'
  injection hc' with _ hc'
  exact ht q hq hc'
theorem R_elder' (hu : d.R e W base ok u xs) (hbase : ∀ k, v.ownBlock = some k → W.heap.size ≤ k) (hb : Below W.heap.size W w1) : d.R e w1 base (fun k => ok k ∧ some k ≠ v.ownBlock) u xs :=
  R_mono (R_move (R_bound hu) (fun k hk => hb.block k hk.2.2.1)) (fun k hk => ⟨hk.1, fun he => by have := hbase k he.symm; have := hk.2.2.1; omega⟩)
theorem R_new' (h : d.R e w1 W.heap.size ok v xs) (hlt : ∀ k, u.ownBlock = some k → k < W.heap.size) : d.R e w1 W.heap.size (fun k => ok k ∧ some k ≠ u.ownBlock) v xs :=
  R_mono (R_bound h) (fun k hk => ⟨hk.1, fun he => by have := hlt k he.symm; have := hk.2.1; omega⟩)
end
end Kd
namespace Kd
section
variable {α : Type} {d : Kd α} {e base g n cap : Nat} {ok okp : Nat → Prop} {W : World} {xs : List α}
end
end Kd
namespace Kd
def fixed {α : Type} (d : Kd α) (w0 : World) : Kd α where
  sz := d.sz
  E := []
  K := fun _ x cs => d.K w0 x cs
  M := fun _ _ _ x cs => d.K w0 x cs
  K_len := d.K_len
  K_one := d.K_one
  K_below := fun _ h => h
  K_of_M := fun h => h
  M_mono := fun _ h => h
  M_bound := fun h => h
  M_move := fun _ h => h
  M_lower := fun _ h => h
def or_ {α : Type} (a b : Kd α) (h : b.sz = a.sz) : Kd α where
  sz := a.sz
  E := a.E ++ b.E
  K := fun w x cs => a.K w x cs ∨ b.K w x cs
  M := fun w base ok x cs => a.M w base ok x cs ∨ b.M w base ok x cs
  K_len := fun hk => hk.elim a.K_len (fun hk => (b.K_len hk).trans h)
  K_one := fun hk => hk.elim a.K_one b.K_one
  K_below := fun hb hk => hk.imp (a.K_below hb) (b.K_below hb)
  K_of_M := fun hk => hk.imp a.K_of_M b.K_of_M
  M_mono := fun hok hk => hk.imp (a.M_mono hok) (b.M_mono hok)
  M_bound := fun hk => hk.imp
    (fun hk => a.M_mono (fun _ ⟨h1, h2, h3, q, hq, hc⟩ => ⟨h1, h2, h3, q, List.mem_append_left _ hq, hc⟩) (a.M_bound hk))
    (fun hk => b.M_mono (fun _ ⟨h1, h2, h3, q, hq, hc⟩ => ⟨h1, h2, h3, q, List.mem_append_right _ hq, hc⟩) (b.M_bound hk))
  M_move := fun hm hk => hk.imp (a.M_move hm) (b.M_move hm)
  M_lower := fun hb hk => hk.imp (a.M_lower hb) (b.M_lower hb)
section
variable {α : Type} {F : Kd α → Kd α} {sz : Nat} {E : List Nat} {hs : ∀ n, (upto F sz E n).sz = sz} {hE : ∀ n q, q ∈ (upto F sz E n).E → q ∈ E}
end
end Kd
namespace Kd
theorem reps_append {α : Type} {R : α → List Value → Prop} {size : Nat} {ps qs : List α} {cs ds : List Value} (h : Reps R size ps cs) (h' : Reps R size qs ds) : Reps R size (ps ++ qs) (cs ++ ds) := by
  refine ⟨by rw [List.length_append, List.length_append, h.1, h'.1, Nat.add_mul], fun j p hj => ?_⟩
  rcases Nat.lt_or_ge j ps.length with hlt | hge
  · rw [List.getElem?_append_left hlt] at hj
    have hle : j * size + size ≤ cs.length := by rw [h.1, ← Nat.succ_mul]; exact Nat.mul_le_mul_right _ hlt
    rw [List.drop_append_of_le_length (by omega), List.take_append_of_le_length (by rw [List.length_drop]; omega)]
    exact h.2 j p hj
  · rw [List.getElem?_append_right hge] at hj
    have h2 := h'.2 (j - ps.length) p hj
    have hle : ps.length * size ≤ j * size := Nat.mul_le_mul_right _ hge
    rw [List.drop_append, List.drop_eq_nil_of_le (by rw [h.1]; exact hle), List.nil_append, h.1, ← Nat.sub_mul]
    exact h2
section
variable {P : Program} {ops : Array Oper} {rest : List Oper} {o : Oper} {a : Act} {Q : Exit → Act → World → Prop} {α : Type}
end
end Kd
namespace Kd
section
variable {P : Program} {ops : Array Oper} {rest : List Oper} {o : Oper} {a : Act} {Q : Exit → Act → World → Prop} {α : Type}
end
end Kd
theorem add_add (a : Addr) (i j : Nat) : (a.add i).add j = a.add (i + j) := by
  unfold Addr.add
  by_cases h1 : i = 0 <;> by_cases h2 : j = 0 <;> simp [h1, h2, Nat.add_assoc]
namespace Kd
section
variable {α : Type} {k : Kd α} {w : World} {A : Option Addr} {xs : List α} {m c : Nat}
theorem C_take (h : k.C w A xs.length xs) (hm : m ≤ xs.length) : k.C w A (xs.take m).length (xs.take m) := by
  have hl : (xs.take m).length = m := by rw [List.length_take]; omega
  refine ⟨rfl, by rw [hl]; have := h.2.1; omega, fun hp => ?_⟩
  obtain ⟨ad, e, hc⟩ := h.2.2 (by omega)
  refine ⟨ad, e, fun j p hj => hc j p ?_⟩
  rw [List.getElem?_take] at hj
  split at hj
  · exact hj
  · cases hj
end
end Kd
section
variable {P : Program}
end
theorem below_size {w W : World} (h : Below w.heap.size w W) : w.heap.size ≤ W.heap.size := h.size
theorem below_step {w W w2 : World} (h : Below w.heap.size w W) (k : Below W.heap.size W w2) : Below w.heap.size w w2 := below_then h h.size k
theorem ReadsInt.nil (W : World) (k : IntKind) : ReadsInt W k none ([] : List Int).length [] := ⟨rfl, by simp, fun h => absurd h (Nat.lt_irrefl 0)⟩
theorem ReadsInt.drewN {W : World} {k : IntKind} {A : Option Addr} {n : Nat} {xs : List Int} (h : ReadsInt W k A n xs) (m : Nat) : ReadsInt (W.drewN m) k A n xs := h
theorem below_set {w W : World} {g j : Nat} {v : Value} (h : Below w.heap.size w W) (hg : w.heap.size ≤ g) : Below w.heap.size w (W.setCell ⟨g, j, none⟩ v) := h.setCell hg _
theorem keep_cell {w W : World} {g : Nat} (h : KeepBut w W g none) {a : Addr} {v : Value} (hc : w.cell? a = some v) (hne : a.block ≠ g) : W.cell? a = some v := by
  have := h.2 a.block (World.block_lt_of_cell? w a hc) hne (by simp)
  simpa [World.cell?, this] using hc
theorem add_block (a : Addr) (i : Nat) : (a.add i).block = a.block := by unfold Addr.add; split <;> rfl
theorem ReadsOf.nil {α : Type} (enc : α → Value) (d : α) (W : World) : ReadsOf enc d W none ([] : List α).length [] := ⟨rfl, by simp, fun h => absurd h (Nat.lt_irrefl 0)⟩
theorem ReadsOf.drewN {α : Type} {enc : α → Value} {d : α} {W : World} {A : Option Addr} {n : Nat} {xs : List α} (h : ReadsOf enc d W A n xs) (m : Nat) : ReadsOf enc d (W.drewN m) A n xs := h
theorem ReadsInt.keep {w W : World} {k : IntKind} {A : Option Addr} {n g : Nat} {xs : List Int} (h : ReadsInt w k A n xs) (hk : KeepBut w W g none) (hf : ∀ ad, A = some ad → 0 < n → ad.block ≠ g) : ReadsInt W k A n xs :=
  ⟨h.1, h.2.1, fun hn => by
    obtain ⟨ad, e, hc⟩ := h.2.2 hn
    exact ⟨ad, e, fun j hj => keep_cell hk (hc j hj) (by rw [add_block]; exact hf ad e hn)⟩⟩
theorem ReadsOf.keep {α : Type} {enc : α → Value} {d : α} {w W : World} {A : Option Addr} {n g : Nat} {xs : List α} (h : ReadsOf enc d w A n xs) (hk : KeepBut w W g none) (hf : ∀ ad, A = some ad → 0 < n → ad.block ≠ g) : ReadsOf enc d W A n xs :=
  ⟨h.1, h.2.1, fun hn => by
    obtain ⟨ad, e, hc⟩ := h.2.2 hn
    exact ⟨ad, e, fun j hj => keep_cell hk (hc j hj) (by rw [add_block]; exact hf ad e hn)⟩⟩
theorem own_made' (W : World) (base : Nat) (e : TypeId) (k : IntKind) (m : Nat) (hb : base ≤ W.heap.size) (hm : m ≤ 9223372036854775807) :
    (W.alloc (.cells (madeCells #[.int k 0] m) e)).ownsRow base e 1 (.slice (some ⟨W.heap.size, 0, none⟩) m m) (List.replicate m (0 : Int)).length (nums k (List.replicate m 0)) := by
  have h := own_made W base e k m hb hm
  rwa [show (List.replicate m (0 : Int)).length = m by simp]
theorem own_made_of' {α : Type} {enc : α → Value} {d : α} (W : World) (base : Nat) (e : TypeId) (m : Nat) (hb : base ≤ W.heap.size) (hm : m ≤ 9223372036854775807) :
    (W.alloc (.cells (madeCells #[enc d] m) e)).ownsRow base e 1 (.slice (some ⟨W.heap.size, 0, none⟩) m m) (List.replicate m d).length (encs enc (List.replicate m d)) := by
  have h := own_made_of (enc := enc) (d := d) W base e m hb hm
  rwa [show (List.replicate m d).length = m by simp]
theorem below_drew1 {base : Nat} {w W : World} (h : Below base w W) : Below base w W.drew := h.drew
namespace Kd
section
variable {α β : Type} {d : Kd α} {d' : Kd β} {e e' base base' n : Nat} {ok ok' : Nat → Prop} {w W w1 W1 : World} {v u : Value} {xs : List α} {ys : List β} {A : Option Addr} {c : Nat}
end
section
variable {α : Type} {enc : α → Value} {h1 : ∀ x, (enc x).oneCell' = true} {w W : World} {A : Option Addr} {n g : Nat} {xs : List α}
end
end Kd
namespace Kd
section
variable {α : Type} {d : Kd α} {e base g : Nat} {ok : Nat → Prop} {w w1 : World} {v : Value} {xs : List α} {o : Obj}
end
end Kd
section
variable {P : Program} {ops : Array Oper} {rest : List Oper} {o : Oper} {a : Act} {Q : Exit → Act → World → Prop}
theorem box_event {W : World} (hgd : o.guard = none) {N : Tmp} (_hd : o.dst = some N) {cs : Array Value} {t : TypeId}
    (hrun : (execOp a.eval o).run P W = .ok (.value (.pointer (some ⟨W.heap.size, 0, none⟩))) (W.alloc (.cells cs t (0, 0))))
    (h : ∀ g, g = W.heap.size → ∀ w1, w1.heap[g]? = some (.cells cs t (0, 0)) → Below W.heap.size W w1 → wpList P ops Q rest (a.put o.dst (.pointer (some ⟨g, 0, none⟩))) w1) : wpList P ops Q (o :: rest) a W :=
  Kd.event_run hgd hrun (h _ rfl _ (blk_new W _) (below_alloc (Below.refl _ _) _))
end
namespace Kd
section
variable {α : Type} {enc : α → Value} {h1 : ∀ x, (enc x).oneCell' = true} {e base g n cap : Nat} {ok : Nat → Prop} {W : World} {xs : List α}
end
end Kd
section
variable {P : Program} {ops : Array Oper} {rest : List Oper} {o : Oper} {a : Act} {Q : Exit → Act → World → Prop}
end
namespace Kd
section
variable {α : Type} {enc : α → Value} {h1 : ∀ x, (enc x).oneCell' = true} {e base g n cap : Nat} {ok : Nat → Prop} {W : World} {xs : List α}
end
end Kd
section
variable {P : Program} {ops : Array Oper} {rest : List Oper} {o : Oper} {a : Act} {Q : Exit → Act → World → Prop} {W : World}
theorem gate_dst {N : Tmp} (_hN : o.dst = some N) (h : wpList P ops Q (o :: rest) a W) : wpList P ops Q (o :: rest) a W := h
end
section
variable {P : Program} {ops : Array Oper} {o : Oper} {a : Act} {Q : Exit → Act → World → Prop} {Kc : Act → World → Prop}
theorem event_step {W w1 : World} {v : Value} (hw : Region.wanted o (yielded ops a.tmps) = true) (hrun : (execOp a.eval o).run P W = .ok (.value v) w1) (h : Kc (a.put o.dst v) w1) : if Region.wanted o (yielded ops a.tmps) = true then Oper.wp P o a W Kc Q else Kc (a.put o.dst undef) W := by
  rw [if_pos hw]
  unfold Oper.wp
  rw [hrun]
  exact h
namespace Kd
variable {α : Type}
theorem R_lit_step (d : Kd α) {w0 W : World} (base e : Nat) (hw : Region.wanted o (yielded ops a.tmps) = true) {N : Tmp} (_hd : o.dst = some N) {xs : List α} {inner : List Value} {ok okp : Nat → Prop}
    (hrun : (execOp a.eval o).run P W = .ok (.value (.slice (some ⟨W.heap.size, 0, none⟩) xs.length xs.length)) (W.alloc (.cells inner.toArray e)))
    (hrep : Reps (d.M W base okp) d.sz xs inner) (hok : ∀ k, okp k → ok k) (hfresh : ok W.heap.size) (HB : Below base w0 W) (hbase : base ≤ W.heap.size) (hm : xs.length ≤ 9223372036854775807)
    (h : ∀ v1 w1, d.R e w1 base ok v1 xs → Below base w0 w1 → W.grownBy w1 none → (∃ b, v1.ownBlock = some b ∧ W.heap.size ≤ b) → Kc (a.put o.dst v1) w1) : if Region.wanted o (yielded ops a.tmps) = true then Oper.wp P o a W Kc Q else Kc (a.put o.dst undef) W := by
  refine event_step hw hrun (h _ _ ⟨fun k hk => ?_, inner, ?_, ?_⟩ (HB.alloc hbase _) (World.grownBy_alloc W _ none) ⟨W.heap.size, by simp [Value.ownBlock], Nat.le_refl _⟩)
  · have : W.heap.size = k := by simpa [Value.ownBlock] using hk
    subst this
    exact hfresh
  · have h2 := World.ownsRow_lit (base := base) (e := e) (size := d.sz) W inner.toArray xs.length hbase (by simpa [maxLen] using hm) (by simpa using hrep.1)
    simpa using h2
  · refine hrep.imp_ (fun p c hp => d.M_mono (fun k hk => ⟨hok k hk.1, fun he => ?_⟩) (M_below (d.M_bound hp) (below_alloc (Below.refl _ _) _)))
    have h3 : k = W.heap.size := by simpa [Value.ownBlock] using he
    have := hk.2.2.1
    omega
theorem R_append_rows_step (d : Kd α) {Rr : α → List Value → Prop} {w0 W : World} (base : Nat) (hw : Region.wanted o (yielded ops a.tmps) = true) (s x : Operand) (t e : TypeId) (z : Value) (bytes : Nat)
    (ho : o.op = .call { callee := .builtin .append, args := #[s, x], argTypes := #[t, t] })
    (ht : P.underlying t = some (.slice e)) (hinfo : (P.info? e).map (fun i => (i.zero, i.size, i.bytes)) = some (some z, d.sz, bytes)) (hz : z.cells.size = d.sz) (hs0 : 0 < d.sz) (hb0 : 0 < bytes)
    (v : Value) (xs ys : List α) (A : Option Addr) (m c : Nat) (ok okp : Nat → Prop) (hs : a.eval s = v) (hx : a.eval x = .slice A m c)
    (HO : d.R e W base ok v xs) (HR : ReadsRow Rr d.sz W A m ys) (hKM : ∀ x cs, Rr x cs → d.M W base okp x cs) (hokp : ∀ k, okp k → ok k ∧ some k ≠ v.ownBlock) (hfresh : ∀ k, W.heap.size ≤ k → ok k)
    (HB : Below base w0 W) (hbase : base ≤ W.heap.size) (hl : (xs.length + m) * bytes ≤ 140737488355328)
    (h : ∀ v1 w1, d.R e w1 base ok v1 (xs ++ ys) → Below base w0 w1 → W.grownBy w1 v.ownBlock → (v1.ownBlock = v.ownBlock ∨ ∃ b, v1.ownBlock = some b ∧ W.heap.size ≤ b) → Kc (a.put o.dst v1) w1) :
    if Region.wanted o (yielded ops a.tmps) = true then Oper.wp P o a W Kc Q else Kc (a.put o.dst undef) W := by
  obtain ⟨i0, hi, hzz⟩ := Option.map_eq_some_iff.1 hinfo
  simp only [Prod.mk.injEq] at hzz
  obtain ⟨hz0, hz1, hz2⟩ := hzz
  have hm : ys.length = m := HR.1
  have hlen : xs.length + m ≤ 140737488355328 := Nat.le_trans (Nat.le_mul_of_pos_right _ hb0) hl
  obtain ⟨hok, inner, hown, hr⟩ := HO
  have hrun : ∃ v1 w1, (Builtin.append_ #[t, t] o.type #[v, .slice A m c]).run P W = .ok v1 w1 ∧ d.R e w1 base ok v1 (xs ++ ys) ∧ W.grownBy w1 v.ownBlock ∧ (v1.ownBlock = v.ownBlock ∨ ∃ b, v1.ownBlock = some b ∧ W.heap.size ≤ b) := by
    rcases A with _ | ad
    · have h0 : m = 0 := by
        rcases Nat.eq_zero_or_pos m with h0 | h0
        · exact h0
        · obtain ⟨ad, h, _⟩ := HR.2.2 h0
          cases h
      subst h0
      obtain rfl : ys = [] := List.eq_nil_of_length_eq_zero hm
      refine ⟨v, W, ?_, by rw [List.append_nil]; exact ⟨hok, inner, hown, hr⟩, World.grownBy.refl W _, .inl rfl⟩
      rcases hown.2 with ⟨rfl, hn⟩ | ⟨g, cap, cur, rfl, _, _, hnc, _⟩
      · simp [Builtin.append_, run_underlying ht, sizeOf, typeInfo, hi, Builtin.lenOf, Builtin.firstCells]
      · simp [Builtin.append_, run_underlying ht, sizeOf, typeInfo, hi, Builtin.lenOf, Builtin.firstCells, hnc, storeCells]
    · obtain ⟨news, hnr, hnc⟩ := ReadsRow.inner_ HR
      have hnM : Reps (d.M W base okp) d.sz ys news := hnr.imp_ (fun p c hp => hKM p c hp)
      have hone : ∀ u ∈ news, u.oneCell' = true := by
        intro u hu
        obtain ⟨q, hq, rfl⟩ := List.mem_iff_getElem.1 hu
        have hql : q / d.sz < ys.length := by
          rw [Nat.div_lt_iff_lt_mul hs0]
          rw [← hnM.1]
          exact hq
        have hc := hnM.2 (q / d.sz) _ (List.getElem?_eq_getElem hql)
        refine d.K_one (d.K_of_M hc) _ ?_
        rw [List.mem_iff_getElem?]
        refine ⟨q % d.sz, ?_⟩
        rw [List.getElem?_take, if_pos (Nat.mod_lt _ hs0), List.getElem?_drop, Nat.mul_comm, Nat.div_add_mod, List.getElem?_eq_getElem hq]
      obtain ⟨v1, w1, hrun, h2, hg, _, hat⟩ := run_append_own_at (P := P) W base t o.type e i0 z d.sz bytes ht hi hz0 hz1 hz2 hz hs0 v xs.length inner hown ad m c news (by rw [hnM.1, hm]) hnc hone (by simp only [maxLen]; omega) hl hbase
      have hat' : v1.ownBlock = v.ownBlock ∨ ∃ b, v1.ownBlock = some b ∧ W.heap.size ≤ b := by
        rcases hat with hat | hat
        · exact .inl hat
        · exact .inr ⟨_, hat, Nat.le_refl _⟩
      have hne : ∀ k, some k ≠ v.ownBlock → k < W.heap.size → some k ≠ v1.ownBlock := by
        intro k hk hlt
        rcases hat' with hat | ⟨b, hb, hle⟩
        · rw [hat]; exact hk
        · rw [hb]
          intro he
          injection he with he
          omega
      have step : ∀ {q : α} {c : List Value} {o : Nat → Prop}, d.M W base o q c → (∀ k, o k → ok k ∧ some k ≠ v.ownBlock) → d.M w1 base (fun k => ok k ∧ some k ≠ v1.ownBlock) q c := by
        intro q c o hq ho
        have h1 := d.M_move (w1 := w1) (fun k hk => hg.block k hk.2.2.1 (ho k hk.1).2) (d.M_bound hq)
        exact d.M_mono (fun k hk => ⟨(ho k hk.1).1, hne k (ho k hk.1).2 hk.2.2.1⟩) h1
      refine ⟨v1, w1, hrun, ⟨fun k hk => ?_, inner ++ news, by rw [List.length_append, hm]; exact h2, reps_append (hr.imp_ (fun _ _ hq => step hq (fun _ hk => hk))) (hnM.imp_ (fun _ _ hq => step hq hokp))⟩, hg, hat'⟩
      rcases hat' with hat | ⟨b, hb, hle⟩
      · exact hok k (hat ▸ hk)
      · rw [hb] at hk
        injection hk with hk
        exact hfresh k (by omega)
  obtain ⟨v1, w1, hr1, h1, hg, hat⟩ := hrun
  rw [if_pos hw]
  unfold Oper.wp execOp
  simp only [ho, resolve, invoke, builtin, Sem.run_bind, Sem.run_pure, Result.andThen_ok, List.map_toArray, List.map_cons, List.map_nil, hs, hx, hr1]
  exact h v1 w1 h1 (HB.grown hg hbase (own_base hown)) hg hat
end Kd
end
section
variable {P : Program} {tmps : Array Value} {w : World}
end
namespace Kd
section
variable {P : Program} {α : Type}
end
section
variable {P : Program} {ops : Array Oper} {rest : List Oper} {o : Oper} {a : Act} {Q : Exit → Act → World → Prop} {Kc : Act → World → Prop} {α : Type}
end
end Kd
end Go.Proofs.YthpjpkcfepmhkaaW.PrintWords
namespace Go.Proofs.Ythpjpkcfepmhkaa.Opens
open Go.RowKit Go.Proofs.YthpjpkcfepmhkaaW.PrintWords Go.Deep
/-- Whatever reads at type t, and is within the form's reach, is of kind d, and G. -/
def Opens {α : Type} (P : Program) (w : World) (t : TypeId) (d : Kd α) (G : α → Prop) : Prop :=
  ∀ (H : Type) (enc : TypeId × Value → H) (base : Nat) (spare : Nat → Bool) (held : Bool) (fuel : Nat) (cs : List Value) (x : DataW H × List MemPlace),
    DataW.trod enc P w base spare held fuel t cs = some x → (x.1.weights P t).all (· ≤ reachBytes) = true → ∃ a, d.K w a cs ∧ G a
section
variable {P : Program} {w : World}
theorem opens_int {t : TypeId} {k : IntKind} (hu : P.underlying t = some (.int k)) : Opens P w t (Kd.int k) (fun a => (Lit.int k a).wf = true) := by
  intro H enc base spare held fuel cs x h _
  obtain ⟨n, rfl, _, hw⟩ := DataW.trod_int hu h
  exact ⟨n, rfl, hw⟩
theorem opens_string {t : TypeId} (hu : P.underlying t = some .string) : Opens P w t Kd.string (fun a => a.size ≤ 140737488351232) := by
  intro H enc base spare held fuel cs x h hw
  obtain ⟨s, rfl, rfl, _⟩ := DataW.trod_string hu h
  refine ⟨s, rfl, ?_⟩
  simp only [DataW.weights, List.all_cons, List.all_nil, Bool.and_true, decide_eq_true_eq] at hw
  rw [Array.length_toList] at hw
  exact hw
theorem weightsAll_mem {H : Type} {e : TypeId} : ∀ {l : List (DataW H)} {d : DataW H}, d ∈ l → ∀ n ∈ d.weights P e, n ∈ DataW.weightsAll P e l
  | c :: l, d, hd, n, hn => by
    simp only [DataW.weightsAll, List.mem_append]
    rcases List.mem_cons.1 hd with rfl | hd
    · exact .inl hn
    · exact .inr (weightsAll_mem hd n hn)
theorem list_of {α : Type} {p : Nat → α → Prop} : ∀ (n : Nat), (∀ i, i < n → ∃ a, p i a) → ∃ l : List α, l.length = n ∧ ∀ i a, l[i]? = some a → p i a
  | 0, _ => ⟨[], rfl, fun i a h => by simp at h⟩
  | n + 1, h => by
    obtain ⟨l, hl, hp⟩ := list_of n (fun i hi => h i (by omega))
    obtain ⟨a, ha⟩ := h n (by omega)
    refine ⟨l ++ [a], by simp [hl], fun i b hb => ?_⟩
    rcases Nat.lt_or_ge i l.length with hi | hi
    · rw [List.getElem?_append_left hi] at hb
      exact hp i b hb
    · rw [List.getElem?_append_right hi] at hb
      have h0 : i - l.length = 0 := by
        rcases Nat.eq_zero_or_pos (i - l.length) with h0 | h0
        · exact h0
        · rw [List.getElem?_eq_none (by simp; omega)] at hb; cases hb
      rw [h0] at hb
      have : a = b := by simpa using hb
      subst this
      have : i = n := by omega
      subst this
      exact ha
theorem opens_slice {α : Type} {t e : TypeId} {d : Kd α} {G : α → Prop} {B : Nat} (hu : P.underlying t = some (.slice e)) (he : Opens P w e d G) (hc : P.cellsOf e = d.sz) (hB : P.bytesOf e = B) :
    Opens P w t (Kd.slice e d) (fun l => l.length * B ≤ 140737488351232 ∧ l.length ≤ maxLen ∧ ∀ x ∈ l, G x) := by
  intro H enc base spare held fuel cs x h hw
  rcases open_slice hu h with ⟨rfl, rfl⟩ | ⟨a, len, cap, m, n, D, Pl, rfl, hb, hl, hm, hmm, rfl, hi⟩
  · exact ⟨[], ⟨none, 0, rfl, by simp, ⟨rfl, by simp, fun h => absurd h (by simp)⟩⟩, by simp, by simp, fun x hx => by cases hx⟩
  · have hlm : len ≤ m := by rw [hmm]; split <;> omega
    have hw' := hw
    simp only [DataW.weights, hu, List.all_cons, Bool.and_eq_true, decide_eq_true_eq, List.length_map, List.length_range, List.all_append] at hw'
    obtain ⟨hw1, hw2, hw3⟩ := hw'
    have hel : ∀ i, i < len → ∃ v, (∃ c, c.length = d.sz ∧ d.K w v c ∧ ∀ q u, c[q]? = some u → w.cell? (a.add (i * d.sz + q)) = some u) ∧ G v := by
      intro i hil
      obtain ⟨cs', hcs, ht⟩ := hi i (by omega)
      have hwi : ((D i).weights P e).all (· ≤ reachBytes) = true := by
        rw [List.all_eq_true]
        intro q hq
        have hmem : D i ∈ (List.range len).map D := List.mem_map.2 ⟨i, List.mem_range.2 hil, rfl⟩
        exact (List.all_eq_true.1 hw2) q (weightsAll_mem hmem q hq)
      obtain ⟨v, hK, hG⟩ := he H enc base spare held n cs' (D i, Pl i) ht hwi
      obtain ⟨_, hcl, hat⟩ := World.cells?_some hcs
      refine ⟨v, ⟨cs', by rw [hcl, hc], hK, fun q u hq => ?_⟩, hG⟩
      have hql : q < P.cellsOf e := by
        rw [← hcl]
        exact (List.getElem?_eq_some_iff.1 hq).1
      rw [← hc, ← Go.Deep.add_add, hat q hql, hq]
    obtain ⟨l, hll, hlp⟩ := list_of len hel
    refine ⟨l, ⟨some a, cap, by rw [hll], by omega, ⟨rfl, ?_, fun _ => ⟨a, rfl, fun j p hj => (hlp j p hj).1⟩⟩⟩, ?_, by omega, fun x hx => ?_⟩
    · unfold maxLen at hm; omega
    · rw [hll, ← hB]
      refine Nat.le_trans (Nat.mul_le_mul_right _ ?_) hw1
      omega
    · obtain ⟨j, hj, rfl⟩ := List.getElem_of_mem hx
      exact (hlp j _ (List.getElem?_eq_getElem hj)).2
/-- A struct's cells, part by part. -/
def Segs {H : Type} (enc : TypeId × Value → H) (P : Program) (w : World) (base : Nat) (spare : Nat → Bool) (held : Bool) (n : Nat) : List TypeId → List Value → List (DataW H × List MemPlace) → Prop
  | [], cs, xs => cs = [] ∧ xs = []
  | t :: ts, cs, xs => ∃ c r y ys, cs = c ++ r ∧ xs = y :: ys ∧ c.length = P.cellsOf t ∧ DataW.trod enc P w base spare held n t c = some y ∧ Segs enc P w base spare held n ts r ys
def OpensF {α : Type} (P : Program) (w : World) (ts : List TypeId) (d : Kd α) (G : α → Prop) : Prop :=
  ∀ (H : Type) (enc : TypeId × Value → H) (base : Nat) (spare : Nat → Bool) (held : Bool) (n : Nat) (cs : List Value) (xs : List (DataW H × List MemPlace)),
    Segs enc P w base spare held n ts cs xs → (DataW.weightsEach P ts (xs.map (·.1))).all (· ≤ reachBytes) = true → ∃ a, d.K w a cs ∧ G a
theorem opensF_one {α : Type} {t : TypeId} {d : Kd α} {G : α → Prop} (h : Opens P w t d G) : OpensF P w [t] d G := by
  intro H enc base spare held n cs xs hs hw
  obtain ⟨c, r, y, ys, rfl, rfl, _, ht, rfl, rfl⟩ := hs
  simp only [List.map_cons, List.map_nil, DataW.weightsEach, List.append_nil] at hw
  obtain ⟨a, ha, hG⟩ := h H enc base spare held n c y ht hw
  exact ⟨a, by rw [List.append_nil]; exact ha, hG⟩
theorem opensF_cons {α β : Type} {t : TypeId} {ts : List TypeId} {d : Kd α} {G : α → Prop} {d' : Kd β} {G' : β → Prop} (h : Opens P w t d G) (h' : OpensF P w ts d' G') : OpensF P w (t :: ts) (Kd.pair d d') (fun p => G p.1 ∧ G' p.2) := by
  intro H enc base spare held n cs xs hs hw
  obtain ⟨c, r, y, ys, rfl, rfl, _, ht, hr⟩ := hs
  simp only [List.map_cons, DataW.weightsEach, List.all_append, Bool.and_eq_true] at hw
  obtain ⟨a, ha, hG⟩ := h H enc base spare held n c y ht hw.1
  obtain ⟨b, hb, hG'⟩ := h' H enc base spare held n r ys hr hw.2
  exact ⟨(a, b), ⟨c, r, rfl, ha, hb⟩, hG, hG'⟩
/-- The fields' places, one behind the other. -/
def inLine (P : Program) : List Field → Nat → Nat → Bool
  | [], o, e => o == e
  | f :: fs, o, e => (f.offset == o) && inLine P fs (o + P.cellsOf f.type) e
theorem segs_of {H : Type} {enc : TypeId × Value → H} {base : Nat} {spare : Nat → Bool} {held : Bool} {n : Nat} : ∀ (fs : List Field) (o e : Nat) (cs : List Value) (xs : List (DataW H × List MemPlace)), inLine P fs o e = true → cs.length = e → xs.length = fs.length →
    (∀ (i : Nat) (f : Field), fs[i]? = some f → DataW.trod enc P w base spare held n f.type ((cs.drop f.offset).take (P.cellsOf f.type)) = xs[i]?) → Segs enc P w base spare held n (fs.map (·.type)) (cs.drop o) xs
  | [], o, e, cs, xs, hin, hcl, hxl, _ => by
    simp only [inLine, beq_iff_eq] at hin
    exact ⟨List.drop_of_length_le (by omega), List.length_eq_zero_iff.1 hxl⟩
  | f :: fs, o, e, cs, xs, hin, hcl, hxl, hf => by
    simp only [inLine, Bool.and_eq_true, beq_iff_eq] at hin
    obtain ⟨hfo, hin⟩ := hin
    match xs, hxl with
    | y :: ys, hxl =>
      have h0 := hf 0 f rfl
      have hle : o + P.cellsOf f.type ≤ e := by
        have key : ∀ (fs : List Field) (o e : Nat), inLine P fs o e = true → o ≤ e := by
          intro fs
          induction fs with
          | nil => intro o e h; simp only [inLine, beq_iff_eq] at h; omega
          | cons g gs ih => intro o e h; simp only [inLine, Bool.and_eq_true, beq_iff_eq] at h; have := ih _ _ h.2; omega
        exact key _ _ _ hin
      have ih := segs_of fs (o + P.cellsOf f.type) e cs ys hin hcl (by simpa using hxl) (fun i g hg => by
        have := hf (i + 1) g (by simpa using hg)
        simpa using this)
      refine ⟨(cs.drop o).take (P.cellsOf f.type), cs.drop (o + P.cellsOf f.type), y, ys, ?_, rfl, ?_, ?_, ih⟩
      · rw [← List.drop_drop, List.take_append_drop]
      · rw [List.length_take, List.length_drop]; exact Nat.min_eq_left (by omega)
      · rw [← hfo]; simpa using h0
theorem opens_struct {α : Type} {t : TypeId} {fs : Array Field} {d : Kd α} {G : α → Prop} (hu : P.underlying t = some (.struct fs)) (hin : inLine P fs.toList 0 (P.cellsOf t) = true) (h : OpensF P w (fs.toList.map (·.type)) d G) : Opens P w t d G := by
  intro H enc base spare held fuel cs x hx hw
  obtain ⟨xs, n, _, rfl, hcl, hxl, hf⟩ := DataW.trod_struct hu hx
  have hs := segs_of (enc := enc) (P := P) (w := w) (base := base) (spare := spare) (held := held) (n := n) fs.toList 0 (P.cellsOf t) cs xs hin hcl (by simpa using hxl) (fun i f hfi => hf i f (by simpa using hfi))
  rw [List.drop_zero] at hs
  refine h H enc base spare held n cs xs hs ?_
  simpa only [DataW.weights, hu] using hw
theorem opens_iso {α β : Type} {t : TypeId} {d : Kd α} {G : α → Prop} (f : β → α) (mk : α → β) (hfm : ∀ p, f (mk p) = p) (h : Opens P w t d G) : Opens P w t (Kd.iso d f) (fun x => G (f x)) := by
  intro H enc base spare held fuel cs x hx hw
  obtain ⟨a, ha, hG⟩ := h H enc base spare held fuel cs x hx hw
  exact ⟨mk a, by show d.K w (f (mk a)) cs; rw [hfm]; exact ha, by show G (f (mk a)); rw [hfm]; exact hG⟩
theorem Opens.imp {α : Type} {t : TypeId} {d : Kd α} {G G' : α → Prop} (h : Opens P w t d G) (hg : ∀ a, G a → G' a) : Opens P w t d G' := by
  intro H enc base spare held fuel cs x hx hw
  obtain ⟨a, ha, hG⟩ := h H enc base spare held fuel cs x hx hw
  exact ⟨a, ha, hg a hG⟩
/-- As a row has it: an argument. -/
theorem Opens.arg {α : Type} {t : TypeId} {d : Kd α} {G : α → Prop} (h : Opens P w t d G) {H : Type} {enc : TypeId × Value → H} {base : Nat} {spare : Nat → Bool} {held : Bool} {v : Value} {x : DataW H} {ps : List MemPlace} {ts : List TypeId} {ds : List (DataW H)} {j : Nat}
    (ht : DataW.Trod enc P w base spare held t v x ps) (hsz : (DataW.weightsEach P ts ds).all (· ≤ reachBytes) = true) (hts : ts[j]? = some t) (hds : ds[j]? = some x) : ∃ a, d.K w a v.cells.toList ∧ G a := by
  obtain ⟨fuel, hf⟩ := ht
  refine h H enc base spare held fuel _ (x, ps) hf ?_
  rw [List.all_eq_true]
  intro q hq
  exact (List.all_eq_true.1 hsz) q (DataW.weights_mem_each hts hds q hq)
end
end Go.Proofs.Ythpjpkcfepmhkaa.Opens
namespace Go.Proofs.YthpjpkcfepmhkaaW.PrintLast
open Go.Proofs.YthpjpkcfepmhkaaW.PrintWords (Aside0)
def needsOf (md : Region.Mode) (o : Oper) : List Nat := (o.after.toList.filter (fun e => Region.binds md e)).map (fun e => e.on)
def clashOf (md : Region.Mode) (ops : Array Oper) (i : Nat) (oi : Oper) : List Nat := (List.range ops.size).filter fun j => !(j == i) && match ops[j]? with
  | some oj => !(oj.after.any (fun e => Region.binds md e && e.on == i) || oi.apart ops oj)
  | none => false
/-- No select in it; for each operation: what must have come up before it, and what may not come up behind it if it is taken first. -/
def rtab (md : Region.Mode) (ops : Array Oper) : Bool × List (List Nat × List Nat) := (Region.noSelect ops, (List.range ops.size).map fun i => match ops[i]? with
  | some o => (needsOf md o, clashOf md ops i o)
  | none => ([], []))
def readyAt (T : List (List Nat × List Nat)) (l : List Bool) (i : Nat) : Bool := !l.getD i true && match T[i]? with
  | some r => r.1.all (fun j => l.getD j false)
  | none => false
def readyT (T : List (List Nat × List Nat)) (l : List Bool) : List Nat := (List.range T.length).filter (readyAt T l)
def freeT (T : List (List Nat × List Nat)) (l : List Bool) (i : Nat) : Bool := match T[i]? with
  | some r => r.2.all (fun j => l.getD j true)
  | none => false
def closedT (T : List (List Nat × List Nat)) (l : List Bool) : Bool := (List.range T.length).all fun j => !l.getD j false || match T[j]? with
  | some r => r.1.all (fun k => l.getD k false)
  | none => true
def reachT (T : List (List Nat × List Nat)) (i : Nat) : Nat → Nat → Bool
  | 0, _ => false
  | fuel + 1, d => match T[d]? with
    | some r => r.1.any fun j => j == i || reachT T i fuel j
    | none => false
def lastT (T : List (List Nat × List Nat)) (l : List Bool) (ds : List Nat) (i : Nat) : Bool := ds.all fun d => l.getD d true || reachT T i T.length d
section
variable {md : Region.Mode} {ops : Array Oper} {T : Bool × List (List Nat × List Nat)} {l l' li lj lk : Array Bool} {ds : List Nat} {i j k : Nat}
theorem gd (l : Array Bool) (j : Nat) (b : Bool) : l.getD j b = l.toList.getD j b := by simp [Array.getD_eq_getD_getElem?, List.getD_eq_getElem?_getD]
theorem needs_all (o : Oper) (p : Nat → Bool) : o.after.all (fun e => !Region.binds md e || p e.on) = (needsOf md o).all p := by
  unfold needsOf
  rw [← Array.all_toList]
  induction o.after.toList with
  | nil => rfl
  | cons e r ih =>
    rw [List.all_cons, ih, List.filter_cons]
    cases h : Region.binds md e <;> simp
theorem needs_any (o : Oper) (p : Nat → Bool) : o.after.any (fun e => Region.binds md e && p e.on) = (needsOf md o).any p := by
  unfold needsOf
  rw [← Array.any_toList]
  induction o.after.toList with
  | nil => rfl
  | cons e r ih =>
    rw [List.any_cons, ih, List.filter_cons]
    cases h : Region.binds md e <;> simp
theorem rtab_length : (rtab md ops).2.length = ops.size := by simp [rtab]
theorem rtab_some {o : Oper} (h : ops[i]? = some o) : (rtab md ops).2[i]? = some (needsOf md o, clashOf md ops i o) := by
  have hi := (Array.getElem?_eq_some_iff.1 h).1
  unfold rtab
  rw [List.getElem?_map, List.getElem?_range hi, Option.map_some, h]
theorem rtab_none (h : ops[i]? = none) : (rtab md ops).2[i]? = none := by
  have hi : ops.size ≤ i := Array.getElem?_eq_none_iff.1 h
  exact List.getElem?_eq_none (by rw [rtab_length]; exact hi)
theorem readyAt_eq : readyAt (rtab md ops).2 l.toList i = (!l.getD i true && ((ops[i]?).map (·.after.all fun e => !Region.binds md e || l.getD e.on false)).getD false) := by
  unfold readyAt
  rw [gd]
  cases h : ops[i]? with
  | none => rw [rtab_none h]; rfl
  | some o =>
    rw [rtab_some h]
    simp only [Option.map_some, Option.getD_some]
    rw [← needs_all]
    simp only [gd]
theorem ready_eq : Region.ready md ops l = readyT (rtab md ops).2 l.toList := by
  unfold Region.ready readyT
  rw [rtab_length]
  refine List.filter_congr (fun i _ => ?_)
  rw [readyAt_eq]
theorem free_eq : Region.free md ops l i = freeT (rtab md ops).2 l.toList i := by
  unfold Region.free freeT
  cases h : ops[i]? with
  | none => rw [rtab_none h]
  | some oi =>
    rw [rtab_some h]
    simp only [clashOf]
    rw [List.all_filter]
    congr 1
    funext j
    rw [gd]
    cases hj : ops[j]? with
    | none => cases (j == i) <;> cases (l.toList.getD j true) <;> simp
    | some oj =>
      cases (j == i) <;> cases (l.toList.getD j true) <;> cases (oj.after.any (fun e => Region.binds md e && e.on == i) || oi.apart ops oj) <;> simp_all
theorem closed_eq : Region.closedB md ops l = closedT (rtab md ops).2 l.toList := by
  unfold Region.closedB closedT
  rw [rtab_length]
  congr 1
  funext j
  rw [gd]
  cases h : ops[j]? with
  | none => rw [rtab_none h]
  | some o =>
    rw [rtab_some h]
    simp only
    rw [← needs_all]
    simp only [gd]
theorem reach_eq : ∀ (fuel d : Nat), Region.reachB md ops i fuel d = reachT (rtab md ops).2 i fuel d
  | 0, _ => rfl
  | fuel + 1, d => by
    unfold Region.reachB reachT
    cases h : ops[d]? with
    | none => rw [rtab_none h]
    | some o =>
      rw [rtab_some h]
      simp only
      rw [← needs_any]
      congr 1
      funext e
      rw [reach_eq fuel]
theorem last_eq : Region.lastB md ops l ds i = lastT (rtab md ops).2 l.toList ds i := by
  unfold Region.lastB lastT
  rw [rtab_length]
  congr 1
  funext d
  rw [gd, reach_eq]
theorem readyAt_mem (h : readyAt T.2 l.toList i = true) (hT : rtab md ops = T) : (Region.ready md ops l).contains i = true := by
  subst hT
  rw [ready_eq]
  unfold readyT
  rw [List.contains_iff_mem, List.mem_filter, List.mem_range]
  refine ⟨?_, h⟩
  unfold readyAt at h
  rw [Bool.and_eq_true] at h
  cases hq : (rtab md ops).2[i]? with
  | none => rw [hq] at h; simp at h
  | some r => exact (List.getElem?_eq_some_iff.1 hq).1
theorem set_of (h : (l.toList.set i true == l'.toList) = true) : (l.setIfInBounds i true == l') = true := by
  rw [beq_iff_eq] at h ⊢
  apply Array.ext'
  rw [Array.toList_setIfInBounds]
  exact h
def anyT (T : Bool × List (List Nat × List Nat)) (l l' : List Bool) (i : Nat) : Bool := T.1 && freeT T.2 l i && readyAt T.2 l i && (l.set i true == l')
/-- pure_'s condition out of the table. -/
theorem any_of (hT : rtab md ops = T) (h : anyT T l.toList l'.toList i = true) : anyB md ops l l' i = true := by
  simp only [anyT, Bool.and_eq_true] at h
  obtain ⟨⟨⟨h1, h2⟩, h3⟩, h4⟩ := h
  have h5 := readyAt_mem h3 hT
  have h6 := set_of h4
  subst hT
  simp only [anyB, Bool.and_eq_true]
  exact ⟨⟨⟨h1, by rw [free_eq]; exact h2⟩, h5⟩, h6⟩
def takeT (T : Bool × List (List Nat × List Nat)) (ds : List Nat) (l l' : List Bool) (i : Nat) : Bool := T.1 && freeT T.2 l i && readyAt T.2 l i && closedT T.2 l && lastT T.2 l ds i && (l.set i true == l')
/-- take_'s. -/
theorem take_of (hT : rtab md ops = T) (h : takeT T ds l.toList l'.toList i = true) : takeB md ops ds l l' i = true := by
  simp only [takeT, Bool.and_eq_true] at h
  obtain ⟨⟨⟨⟨⟨h1, h2⟩, h3⟩, h4⟩, h5⟩, h6⟩ := h
  have h7 := readyAt_mem h3 hT
  have h8 := set_of h6
  subst hT
  simp only [takeB, Bool.and_eq_true]
  exact ⟨⟨⟨⟨⟨h1, by rw [free_eq]; exact h2⟩, h7⟩, by rw [closed_eq]; exact h4⟩, by rw [last_eq]; exact h5⟩, h8⟩
/-- one_'s and last_'s. -/
theorem one_of (hT : rtab md ops = T) (h : (readyT T.2 l.toList == [i] && l.toList.set i true == l'.toList) = true) : readyB md ops l l' i = true := by
  simp only [Bool.and_eq_true] at h
  obtain ⟨h1, h2⟩ := h
  subst hT
  simp only [readyB, Bool.and_eq_true]
  exact ⟨by rw [ready_eq]; exact h1, set_of h2⟩
/-- done_'s. -/
theorem done_of (hT : rtab md ops = T) (h : (readyT T.2 l.toList == []) = true) : (Region.ready md ops l == []) = true := by
  subst hT
  rw [ready_eq]
  exact h
/-- What d waits for, as_ bits: told in the table (B), checked in one pass: each bit is a need of d, or a bit of an earlier need's. -/
def upM (B : List Nat) (d : Nat) : List Nat → Nat
  | [] => 0
  | n :: r => (2 ^ n ||| (if n < d then B.getD n 0 else 0)) ||| upM B d r
def waitsOk (T : List (List Nat × List Nat)) (B : List Nat) : Bool := (List.range T.length).all fun d => match T[d]? with
  | some r => (B.getD d 0 ||| upM B d r.1) == upM B d r.1
  | none => false
theorem upM_bit {B : List Nat} {d i : Nat} : ∀ {ns : List Nat}, (upM B d ns).testBit i = true → ∃ n ∈ ns, n = i ∨ (n < d ∧ (B.getD n 0).testBit i = true)
  | [], h => by simp [upM] at h
  | n :: r, h => by
    unfold upM at h
    rw [Nat.testBit_or, Nat.testBit_or, Bool.or_eq_true, Bool.or_eq_true] at h
    rcases h with (h | h) | h
    · rw [Nat.testBit_two_pow] at h
      exact ⟨n, List.mem_cons_self, .inl (by simpa using h)⟩
    · by_cases hn : n < d
      · rw [if_pos hn] at h
        exact ⟨n, List.mem_cons_self, .inr ⟨hn, h⟩⟩
      · rw [if_neg hn] at h
        simp at h
    · obtain ⟨m, hm, h2⟩ := upM_bit h
      exact ⟨m, List.mem_cons_of_mem _ hm, h2⟩
theorem reach_bit {T : List (List Nat × List Nat)} {B : List Nat} (hB : waitsOk T B = true) : ∀ (fuel d : Nat), d < fuel → d < T.length → (B.getD d 0).testBit i = true → reachT T i fuel d = true
  | 0, d, h, _, _ => by omega
  | fuel + 1, d, h, hd, hb => by
    have h1 := List.all_eq_true.1 hB d (List.mem_range.2 hd)
    cases hr : T[d]? with
    | none => rw [hr] at h1; simp at h1
    | some r =>
      rw [hr] at h1
      simp only [beq_iff_eq] at h1
      have h2 : (upM B d r.1).testBit i = true := by rw [← h1, Nat.testBit_or, hb, Bool.true_or]
      obtain ⟨n, hn, h3⟩ := upM_bit h2
      unfold reachT
      rw [hr]
      simp only
      rw [List.any_eq_true]
      refine ⟨n, hn, ?_⟩
      rcases h3 with rfl | ⟨h4, h5⟩
      · simp
      · rw [reach_bit hB fuel n (by omega) (by omega) h5, Bool.or_true]
def lastW (T : List (List Nat × List Nat)) (B : List Nat) (l : List Bool) (ds : List Nat) (i : Nat) : Bool := ds.all fun d => l.getD d true || (decide (d < T.length) && (B.getD d 0).testBit i)
def takeW (T : Bool × List (List Nat × List Nat)) (B : List Nat) (ds : List Nat) (l l' : List Bool) (i : Nat) : Bool := T.1 && freeT T.2 l i && readyAt T.2 l i && closedT T.2 l && lastW T.2 B l ds i && (l.set i true == l')
/-- take_'s, by the bits. -/
theorem take_ofW {B : List Nat} (hT : rtab md ops = T) (hB : waitsOk T.2 B = true) (h : takeW T B ds l.toList l'.toList i = true) : takeB md ops ds l l' i = true := by
  refine take_of hT ?_
  simp only [takeW, takeT, Bool.and_eq_true] at h ⊢
  obtain ⟨⟨⟨⟨⟨h1, h2⟩, h3⟩, h4⟩, h5⟩, h6⟩ := h
  refine ⟨⟨⟨⟨⟨h1, h2⟩, h3⟩, h4⟩, ?_⟩, h6⟩
  unfold lastW at h5
  unfold lastT
  rw [List.all_eq_true] at h5 ⊢
  intro d hd
  have h7 := h5 d hd
  rw [Bool.or_eq_true, Bool.and_eq_true, decide_eq_true_eq] at h7
  rcases h7 with h7 | ⟨h8, h9⟩
  · rw [h7, Bool.true_or]
  · rw [reach_bit hB _ d h8 h8 h9, Bool.or_true]
theorem with_tabW {P : Program} {Q : Exit → Act → World → Prop} {S : World → Prop} {n : Nat} {a : Act} {w : World} {B : List Nat} (hT : rtab md ops = T) (hB : waitsOk T.2 B = true) (h : Aside0 (rtab md ops = T) → Aside0 (waitsOk T.2 B = true) → wpAnyLast P md ops Q S ds n l a w) : wpAnyLast P md ops Q S ds n l a w := h ⟨hT⟩ ⟨hB⟩
theorem with_tab {P : Program} {Q : Exit → Act → World → Prop} {S : World → Prop} {n : Nat} {a : Act} {w : World} (hT : rtab md ops = T) (h : Aside0 (rtab md ops = T) → wpAnyLast P md ops Q S ds n l a w) : wpAnyLast P md ops Q S ds n l a w := h ⟨hT⟩
end
/-- The operations of a region, by its number. -/
def opsIn : Code → Nat → Option (Array Oper)
  | .region id ops _, k => if id == k then some ops else none
  | .seq a b, k => match opsIn a k with
    | some o => some o
    | none => opsIn b k
  | .cond _ a b, k => match opsIn a k with
    | some o => some o
    | none => opsIn b k
  | .block _ c, k => opsIn c k
  | .loop c, k => opsIn c k
  | .scope c, k => opsIn c k
  | .rangeFunc _ _ a b, k => match opsIn a k with
    | some o => some o
    | none => opsIn b k
  | _, _ => none
def opsOf (f : Func) (k : Nat) : Array Oper := ((f.body.bind fun c => opsIn c k)).getD #[]
end Go.Proofs.YthpjpkcfepmhkaaW.PrintLast
namespace Go.Proofs.YthpjpkcfepmhkaaW.PrintWords
open Go.RowKit
namespace Kd
/-- An element with its index: its blocks are those that f gives to it. -/
def tag {α : Type} (f : Nat → Nat) (d : Kd α) : Kd (α × Nat) where
  sz := d.sz
  E := d.E
  K := fun w x cs => d.K w x.1 cs
  M := fun w base ok x cs => d.M w base (fun k => ok k ∧ f k = x.2) x.1 cs
  K_len := fun h => d.K_len h
  K_one := fun h => d.K_one h
  K_below := fun hb h => d.K_below hb h
  K_of_M := fun h => d.K_of_M h
  M_mono := fun hok h => d.M_mono (fun k hk => ⟨hok k hk.1, hk.2⟩) h
  M_bound := fun h => d.M_mono (fun _ hk => ⟨⟨hk.1.1, hk.2⟩, hk.1.2⟩) (d.M_bound h)
  M_move := fun hm h => d.M_move (fun k hk => hm k hk.1) h
  M_lower := fun hb h => d.M_lower hb h
/-- The cells themselves. -/
def raw (sz : Nat) : Kd (List Value) where
  sz := sz
  E := []
  K := fun _ x cs => cs = x ∧ cs.length = sz ∧ ∀ u ∈ cs, u.oneCell' = true
  M := fun _ _ _ x cs => cs = x ∧ cs.length = sz ∧ ∀ u ∈ cs, u.oneCell' = true
  K_len := fun h => h.2.1
  K_one := fun h => h.2.2
  K_below := fun _ h => h
  K_of_M := fun h => h
  M_mono := fun _ h => h
  M_bound := fun h => h
  M_move := fun _ h => h
  M_lower := fun _ h => h
/-- A row of elements (type e) of the call's own, no two of which lead to one block. -/
def S {α : Type} (d : Kd α) (e : Nat) (w : World) (base : Nat) (ok : Nat → Prop) (v : Value) (xs : List α) : Prop := ∃ f, (tag f d).R e w base ok v xs.zipIdx
section
variable {α β : Type} {d : Kd α} {d' : Kd β} {e e' : Nat} {w w1 W : World} {base b : Nat} {ok ok' okv oku : Nat → Prop} {u v : Value} {xs : List α} {ys : List β}
/-- A row whose elements lead to nothing: its blocks are its own one. -/
theorem R_tight (hE : d.E = []) (h : d.R e w base ok v xs) : d.R e w base (fun k => some k = v.ownBlock) v xs := by
  obtain ⟨h0, inner, ho, hr⟩ := h
  refine ⟨fun k hk => hk.symm, inner, ho, hr.imp_ (fun p c hp => d.M_mono (fun k hk => ?_) (d.M_bound hp))⟩
  obtain ⟨_, _, _, q, hq, _⟩ := hk
  rw [hE] at hq
  cases hq
theorem S_nil (d : Kd α) (e : Nat) (w : World) (base : Nat) (ok : Nat → Prop) : S d e w base ok (.slice none 0 0) [] := ⟨fun _ => 0, R_nil _ _ _ _ _⟩
end
section
variable {α β : Type} {d : Kd α} {d' : Kd β} {e e' g : Nat} {w w1 W : World} {base b : Nat} {ok ok' okv oku : Nat → Prop} {u v : Value} {xs : List α} {ys : List β}
end
section
open Classical in
variable {P : Program} {ops : Array Oper} {rest : List Oper} {o : Oper} {a : Act} {Q : Exit → Act → World → Prop} {Kc : Act → World → Prop} {α : Type}
end
/-- Element i is these cells; the others are d's. -/
def gap {α : Type} (f : Nat → Nat) (d : Kd α) (i : Nat) (c : List Value) : Kd (α × Nat) where
  sz := d.sz
  E := d.E
  K := fun w x cs => (x.2 = i → cs = c ∧ cs.length = d.sz ∧ ∀ u ∈ cs, u.oneCell' = true) ∧ (x.2 ≠ i → d.K w x.1 cs)
  M := fun w base ok x cs => (x.2 = i → cs = c ∧ cs.length = d.sz ∧ ∀ u ∈ cs, u.oneCell' = true) ∧ (x.2 ≠ i → d.M w base (fun k => ok k ∧ f k = x.2) x.1 cs)
  K_len := fun {w x cs} h => by
    by_cases hx : x.2 = i
    · exact (h.1 hx).2.1
    · exact d.K_len (h.2 hx)
  K_one := fun {w x cs} h => by
    by_cases hx : x.2 = i
    · exact (h.1 hx).2.2
    · exact d.K_one (h.2 hx)
  K_below := fun hb h => ⟨h.1, fun hx => d.K_below hb (h.2 hx)⟩
  K_of_M := fun h => ⟨h.1, fun hx => d.K_of_M (h.2 hx)⟩
  M_mono := fun hok h => ⟨h.1, fun hx => d.M_mono (fun k hk => ⟨hok k hk.1, hk.2⟩) (h.2 hx)⟩
  M_bound := fun h => ⟨h.1, fun hx => d.M_mono (fun _ hk => ⟨⟨hk.1.1, hk.2⟩, hk.1.2⟩) (d.M_bound (h.2 hx))⟩
  M_move := fun hm h => ⟨h.1, fun hx => d.M_move (fun k hk => hm k hk.1) (h.2 hx)⟩
  M_lower := fun hb h => ⟨h.1, fun hx => d.M_lower hb (h.2 hx)⟩
def H {α : Type} (d : Kd α) (e : Nat) (w : World) (base : Nat) (ok : Nat → Prop) (v : Value) (xs : List α) (i : Int) (oki : Nat → Prop) (c : List Value) : Prop :=
  (∀ k, oki k → ok k) ∧ ∃ f, (gap f d i.toNat c).R e w base (fun k => ok k ∧ ¬ oki k) v xs.zipIdx
section
variable {α β : Type} {d : Kd α} {e e' g n cap : Nat} {w w1 W : World} {base : Nat} {ok ok' oki okp : Nat → Prop} {u v : Value} {xs : List α} {i : Int} {c : List Value}
open Classical in
end
section
variable {P : Program} {ops : Array Oper} {rest : List Oper} {o : Oper} {a : Act} {Q : Exit → Act → World → Prop} {α : Type}
end
end Kd
end Go.Proofs.YthpjpkcfepmhkaaW.PrintWords
namespace Go.Proofs.YthpjpkcfepmhkaaW.PrintWords
open Go.RowKit
namespace Kd
/-- What a kind reads lies in the blocks: nothing else of the world is looked at. -/
structure Heap {α : Type} (d : Kd α) : Prop where
  K : ∀ {w w1 : World} {x : α} {cs : List Value}, (∀ k, k < w.heap.size → w1.heap[k]? = w.heap[k]?) → d.K w x cs → d.K w1 x cs
theorem cell_heap {w w1 : World} (hb : ∀ k, k < w.heap.size → w1.heap[k]? = w.heap[k]?) {a : Addr} {v : Value} (h : w.cell? a = some v) : w1.cell? a = some v := by
  have := hb a.block (World.block_lt_of_cell? w a h)
  simpa [World.cell?, this] using h
theorem Heap.C {α : Type} {d : Kd α} (hd : Heap d) {w w1 : World} {A : Option Addr} {n : Nat} {xs : List α} (hb : ∀ k, k < w.heap.size → w1.heap[k]? = w.heap[k]?) (h : d.C w A n xs) : d.C w1 A n xs :=
  ⟨h.1, h.2.1, fun hn => by
    obtain ⟨ad, e, hc⟩ := h.2.2 hn
    refine ⟨ad, e, fun j p hj => ?_⟩
    obtain ⟨c, hs, hr, hcell⟩ := hc j p hj
    exact ⟨c, hs, hd.K hb hr, fun i u hu => cell_heap hb (hcell i u hu)⟩⟩
section
variable {α : Type} {d : Kd α} {e base g n c : Nat} {ok : Nat → Prop} {w w0 W : World} {A : Option Addr} {xs : List α}
end
end Kd
end Go.Proofs.YthpjpkcfepmhkaaW.PrintWords
namespace Go.Proofs.YthpjpkcfepmhkaaW.PrintWords
open Go.RowKit
def Kept (w W : World) (S : Nat → Prop) : Prop := w.heap.size ≤ W.heap.size ∧ ∀ i, i < w.heap.size → ¬ S i → W.heap[i]? = w.heap[i]?
section
variable {w W W2 : World} {S S2 S' : Nat → Prop}
theorem Kept.refl (w : World) (S : Nat → Prop) : Kept w w S := ⟨Nat.le_refl _, fun _ _ _ => rfl⟩
theorem Kept.of_below (h : Below w.heap.size w W) (S : Nat → Prop) : Kept w W S := ⟨h.size, fun i hi _ => h.block i hi⟩
theorem Kept.mono (h : Kept w W S) (hs : ∀ k, S k → S' k) : Kept w W S' := ⟨h.1, fun i hi hn => h.2 i hi (fun hk => hn (hs i hk))⟩
theorem Kept.then_ (h : Kept w W S) (k : Kept W W2 S2) (hs : ∀ k, S2 k → S k ∨ w.heap.size ≤ k) : Kept w W2 S :=
  ⟨Nat.le_trans h.1 k.1, fun i hi hn => (k.2 i (Nat.lt_of_lt_of_le hi h.1) (fun h2 => (hs i h2).elim hn (fun h3 => by omega))).trans (h.2 i hi hn)⟩
theorem Kept.of_grown {row : Option Nat} (hg : W.grownBy W2 row) (h : Kept w W S) (hr : ∀ k, row = some k → S k ∨ w.heap.size ≤ k) : Kept w W2 S :=
  h.then_ (S2 := fun k => row = some k) ⟨hg.size, fun i hi hn => hg.block i hi (fun he => hn he.symm)⟩ hr
theorem Kept.below (h : Kept w W S) (hb : Below W.heap.size W W2) : Kept w W2 S := h.then_ (Kept.of_below hb (fun _ => False)) (fun _ hk => hk.elim)
theorem Kept.alloc (h : Kept w W S) (o : Obj) : Kept w (W.alloc o) S := h.below (below_alloc (Below.refl _ _) o)
theorem Kept.drew (h : Kept w W S) : Kept w W.drew S := h
theorem Kept.drewN (h : Kept w W S) (m : Nat) : Kept w (W.drewN m) S := h
theorem Kept.setCell (h : Kept w W S) {p : Addr} (hp : S p.block ∨ w.heap.size ≤ p.block) (u : Value) : Kept w (W.setCell p u) S :=
  h.then_ (S2 := fun k => k = p.block) ⟨by simp [World.setCell], fun i _ hn => Below.heap_setCell W p u i hn⟩ (fun k hk => by rw [hk]; exact hp)
/-- Beside a state: what was written is new since. -/
theorem Kept.keep {g : Nat} (h : KeepBut w W g none) (k : Kept W W2 S2) (hs : ∀ k, S2 k → w.heap.size ≤ k) : KeepBut w W2 g none :=
  ⟨Nat.le_trans h.1 k.1, fun i hi hg hr => (k.2 i (Nat.lt_of_lt_of_le hi h.1) (fun h2 => by have := hs i h2; omega)).trans (h.2 i hi hg hr)⟩
end
namespace Kd
section
variable {α : Type} {d : Kd α} {e base n c : Nat} {ok oki S S2 : Nat → Prop} {w w0 W W1 W2 : World} {v : Value} {A : Option Addr} {xs : List α} {i : Int} {cs : List Value}
end
end Kd
end Go.Proofs.YthpjpkcfepmhkaaW.PrintWords
namespace Go.Proofs.YthpjpkcfepmhkaaW.PrintWords
open Go.RowKit
/-- P holds in W and in every world that has W's blocks of ok. -/
def Foot (P : World → Prop) (W : World) (ok : Nat → Prop) : Prop := ∀ W' : World, (∀ k, ok k → k < W.heap.size → W'.heap[k]? = W.heap[k]?) → P W'
theorem heap_lt {W W1 : World} {k : Nat} (h : W1.heap[k]? = W.heap[k]?) (hlt : k < W.heap.size) : k < W1.heap.size := by
  rw [Array.getElem?_eq_getElem hlt] at h
  exact (Array.getElem?_eq_some_iff.1 h).1
namespace Foot
variable {P Q : World → Prop} {W W1 : World} {ok ok' : Nat → Prop}
theorem now (h : Foot P W ok) : P W := h W (fun _ _ _ => rfl)
theorem mono (h : Foot P W ok) (hok : ∀ k, ok k → ok' k) : Foot P W ok' := fun W' hW => h W' (fun k hk hlt => hW k (hok k hk) hlt)
theorem bound (h : Foot P W ok) : Foot P W (fun k => ok k ∧ k < W.heap.size) := fun W' hW => h W' (fun k hk hlt => hW k ⟨hk, hlt⟩ hlt)
theorem step (h : Foot P W ok) (hm : ∀ k, ok k → k < W.heap.size → W1.heap[k]? = W.heap[k]?) : Foot P W1 ok := fun W' hW => h W' (fun k hk hlt => (hW k hk (heap_lt (hm k hk hlt) hlt)).trans (hm k hk hlt))
theorem imp (h : Foot P W ok) (hi : ∀ W', P W' → Q W') : Foot Q W ok := fun W' hW => hi W' (h W' hW)
/-- Moved, and still elder than what is new since W. -/
theorem old (h : Foot P W ok) (hb : Below W.heap.size W W1) : Foot P W1 (fun k => ok k ∧ k < W.heap.size) := (h.bound).step (fun k _ hlt => hb.block k hlt)
end Foot
namespace Kd
/-- A row that is only read: what it leads to lies in ok. -/
def F {α : Type} (d : Kd α) (W : World) (ok : Nat → Prop) (A : Option Addr) (n : Nat) (xs : List α) : Prop := Foot (fun W => d.C W A n xs) W ok
/-- An element's cells: what they lead to lies in ok. -/
def FK {α : Type} (d : Kd α) (W : World) (ok : Nat → Prop) (x : α) (c : List Value) : Prop := Foot (fun W => d.K W x c) W ok
section
variable {α β : Type} {d : Kd α} {e base n n' cc g N : Nat} {ok ok' okp S : Nat → Prop} {w w0 w1 W W1 : World} {A A' : Option Addr} {u v v1 : Value} {xs : List α} {xs' : List β} {d' : Kd β} {x : α} {c : List Value}
theorem F_nil (d : Kd α) (W : World) (ok : Nat → Prop) : F d W ok none ([] : List α).length [] := fun W' _ => C_nil d W'
theorem FK_of_M (h : d.M W base ok x c) : FK d W ok x c := fun _ hW => d.K_of_M (M_step h hW)
end
end Kd
end Go.Proofs.YthpjpkcfepmhkaaW.PrintWords
namespace Go.Proofs.YthpjpkcfepmhkaaW.PrintWords
open Go.RowKit
namespace Kd
/-- The cells one behind the other, element by element. -/
def chunks (sz : Nat) (n : Nat) (inner : List Value) : List (List Value) := (List.range n).map fun j => (inner.drop (j * sz)).take sz
theorem chunks_length (sz n : Nat) (inner : List Value) : (chunks sz n inner).length = n := by simp [chunks]
theorem chunks_at {sz n : Nat} {inner : List Value} {j : Nat} (hj : j < n) : (chunks sz n inner)[j]? = some ((inner.drop (j * sz)).take sz) := by simp [chunks, hj]
theorem chunks_get {sz n : Nat} {inner : List Value} {j : Nat} {c : List Value} (h : (chunks sz n inner)[j]? = some c) : c = (inner.drop (j * sz)).take sz := by
  have hj : j < n := by have := (List.getElem?_eq_some_iff.1 h).1; rwa [chunks_length] at this
  rw [chunks_at hj] at h
  injection h with h
  exact h.symm
theorem reps_raw {α : Type} {Rr : α → List Value → Prop} {sz : Nat} {xs : List α} {inner : List Value} (h : Reps Rr sz xs inner) (hR : ∀ x c, Rr x c → c.length = sz ∧ ∀ u ∈ c, u.oneCell' = true) : Reps (fun x cs => cs = x ∧ cs.length = sz ∧ ∀ u ∈ cs, u.oneCell' = true) sz (chunks sz xs.length inner) inner := by
  refine ⟨by rw [chunks_length]; exact h.1, fun j p hj => ?_⟩
  have hjl : j < xs.length := by have := (List.getElem?_eq_some_iff.1 hj).1; rwa [chunks_length] at this
  have hp := chunks_get hj
  exact ⟨hp.symm, hR _ _ (h.2 j _ (List.getElem?_eq_getElem hjl))⟩
section
variable {α : Type} {d : Kd α} {e base n cc g : Nat} {ok ok' okp S : Nat → Prop} {w w1 W W1 : World} {A : Option Addr} {u v v1 : Value} {xs : List α} {x : α} {c : List Value}
/-- A row of elements (type e) of the call's own; what the elements lead to is only read, and is not this row. -/
def N {α : Type} (d : Kd α) (e : Nat) (w : World) (base : Nat) (ok : Nat → Prop) (v : Value) (xs : List α) : Prop :=
  (∀ k, v.ownBlock = some k → ok k) ∧ ∃ rows : List (List Value), rows.length = xs.length ∧ (raw d.sz).R e w base (fun k => some k = v.ownBlock) v rows ∧ ∀ (j : Nat) (x : α) (c : List Value), xs[j]? = some x → rows[j]? = some c → FK d w (fun k => ok k ∧ some k ≠ v.ownBlock) x c
theorem R_N (h : d.R e w base ok v xs) : N d e w base ok v xs := by
  obtain ⟨h0, inner, ho, hr⟩ := h
  refine ⟨h0, chunks d.sz xs.length inner, chunks_length _ _ _, ⟨fun k hk => hk.symm, inner, by rw [chunks_length]; exact ho, reps_raw hr (fun x c hp => ⟨d.K_len (d.K_of_M hp), d.K_one (d.K_of_M hp)⟩)⟩, fun j x c hx hc => ?_⟩
  rw [chunks_get hc]
  exact FK_of_M (hr.2 j x hx)
theorem N_nil (d : Kd α) (e : Nat) (w : World) (base : Nat) (ok : Nat → Prop) : N d e w base ok (.slice none 0 0) [] := R_N (R_nil _ _ _ _ _)
end
end Kd
end Go.Proofs.YthpjpkcfepmhkaaW.PrintWords
namespace Go.Proofs.YthpjpkcfepmhkaaW.PrintWords
open Go.RowKit
section
variable {P : Program} {d : Nat} {xs ys : Array Value} {f : Field} {fs : List Field} {a b : Value} {r s : Bool} {w : World}
/-- The last field that counts. -/
theorem eqf_last (hn : (f.name == "_") = false) (ha : (part f.type xs f.offset).run P w = .ok a w) (hb : (part f.type ys f.offset).run P w = .ok b w) (he : (Op.equalIn d f.type a b).run P w = .ok r w) : (Op.eqFields d xs ys [f]).run P w = .ok r w := by
  have hn' : f.name ≠ "_" := by simpa using hn
  simp only [Op.eqFields, if_pos hn', Sem.run_bind, ha, hb, he, Result.andThen_ok]
  cases r <;> simp
theorem eqf_cons (hn : (f.name == "_") = false) (ha : (part f.type xs f.offset).run P w = .ok a w) (hb : (part f.type ys f.offset).run P w = .ok b w) (he : (Op.equalIn d f.type a b).run P w = .ok r w) (hr : (Op.eqFields d xs ys fs).run P w = .ok s w) : (Op.eqFields d xs ys (f :: fs)).run P w = .ok (r && s) w := by
  have hn' : f.name ≠ "_" := by simpa using hn
  rw [Op.eqFields]
  simp only [if_pos hn', Sem.run_bind, ha, hb, he, Result.andThen_ok]
  cases r
  · simp
  · simpa using hr
theorem eqA_of {t : TypeId} {fs : Array Field} (hu : P.underlying t = some (.struct fs)) (hp : P.stoodInHeld t = false) (h : (Op.eqFields d xs ys fs.toList).run P w = .ok r w) : (Op.equalIn (d + 1) t (.agg xs) (.agg ys)).run P w = .ok r w := by
  have hf : P.fieldsOf t = fs := by simp [Program.fieldsOf, hu]
  rw [run_equalIn_struct (P := P) w d t xs ys (by rw [hf]; exact hu) hp, hf]
  exact h
end
end Go.Proofs.YthpjpkcfepmhkaaW.PrintWords
namespace Go.Proofs.YthpjpkcfepmhkaaW.PrintWords
/-- One cell an element. -/
theorem Reps.one {α : Type} {R : α → List Value → Prop} {ps : List α} {cs : List Value} {p : α} {v : Value} (hp : R p [v]) (h : Reps R 1 ps cs) : Reps R 1 (p :: ps) (v :: cs) := by
  refine ⟨by simp [h.1], fun j q hq => ?_⟩
  cases j with
  | zero =>
    simp only [List.getElem?_cons_zero, Option.some.injEq] at hq
    subst hq
    simpa using hp
  | succ j =>
    simp only [List.getElem?_cons_succ] at hq
    have h1 := h.2 j q hq
    simpa [Nat.mul_one] using h1
/-- More cells an element: told apart by the cells' list. -/
theorem Reps.front {α : Type} {R : α → List Value → Prop} {size : Nat} {ps : List α} {cs c all : List Value} {p : α} (hp : R p c) (hc : c.length = size) (h : Reps R size ps cs) (ha : c ++ cs = all) : Reps R size (p :: ps) all := by
  subst ha
  refine ⟨by rw [List.length_append, hc, h.1, List.length_cons, Nat.succ_mul, Nat.add_comm], fun j q hq => ?_⟩
  cases j with
  | zero =>
    simp only [List.getElem?_cons_zero, Option.some.injEq] at hq
    subst hq
    rw [Nat.zero_mul, List.drop_zero, List.take_append_of_le_length (by omega), List.take_of_length_le (by omega)]
    exact hp
  | succ j =>
    simp only [List.getElem?_cons_succ] at hq
    have h1 := h.2 j q hq
    rw [Nat.succ_mul, List.drop_append, List.drop_of_length_le (by rw [hc]; exact Nat.le_add_left _ _), List.nil_append, hc, Nat.add_sub_cancel]
    exact h1
theorem Reps.c2 {α : Type} {R : α → List Value → Prop} {ps : List α} {cs : List Value} {p : α} {va vb : Value} (hp : R p [va, vb]) (h : Reps R 2 ps cs) : Reps R 2 (p :: ps) (va :: vb :: cs) := Reps.front hp rfl h rfl
theorem Reps.c3 {α : Type} {R : α → List Value → Prop} {ps : List α} {cs : List Value} {p : α} {va vb vc : Value} (hp : R p [va, vb, vc]) (h : Reps R 3 ps cs) : Reps R 3 (p :: ps) (va :: vb :: vc :: cs) := Reps.front hp rfl h rfl
theorem Reps.c4 {α : Type} {R : α → List Value → Prop} {ps : List α} {cs : List Value} {p : α} {va vb vc vd : Value} (hp : R p [va, vb, vc, vd]) (h : Reps R 4 ps cs) : Reps R 4 (p :: ps) (va :: vb :: vc :: vd :: cs) := Reps.front hp rfl h rfl
theorem Reps.c5 {α : Type} {R : α → List Value → Prop} {ps : List α} {cs : List Value} {p : α} {va vb vc vd ve : Value} (hp : R p [va, vb, vc, vd, ve]) (h : Reps R 5 ps cs) : Reps R 5 (p :: ps) (va :: vb :: vc :: vd :: ve :: cs) := Reps.front hp rfl h rfl
theorem Reps.c6 {α : Type} {R : α → List Value → Prop} {ps : List α} {cs : List Value} {p : α} {va vb vc vd ve vf : Value} (hp : R p [va, vb, vc, vd, ve, vf]) (h : Reps R 6 ps cs) : Reps R 6 (p :: ps) (va :: vb :: vc :: vd :: ve :: vf :: cs) := Reps.front hp rfl h rfl
theorem Reps.c7 {α : Type} {R : α → List Value → Prop} {ps : List α} {cs : List Value} {p : α} {va vb vc vd ve vf vg : Value} (hp : R p [va, vb, vc, vd, ve, vf, vg]) (h : Reps R 7 ps cs) : Reps R 7 (p :: ps) (va :: vb :: vc :: vd :: ve :: vf :: vg :: cs) := Reps.front hp rfl h rfl
theorem Reps.c8 {α : Type} {R : α → List Value → Prop} {ps : List α} {cs : List Value} {p : α} {va vb vc vd ve vf vg vh : Value} (hp : R p [va, vb, vc, vd, ve, vf, vg, vh]) (h : Reps R 8 ps cs) : Reps R 8 (p :: ps) (va :: vb :: vc :: vd :: ve :: vf :: vg :: vh :: cs) := Reps.front hp rfl h rfl
theorem Reps.c9 {α : Type} {R : α → List Value → Prop} {ps : List α} {cs : List Value} {p : α} {va vb vc vd ve vf vg vh vi : Value} (hp : R p [va, vb, vc, vd, ve, vf, vg, vh, vi]) (h : Reps R 9 ps cs) : Reps R 9 (p :: ps) (va :: vb :: vc :: vd :: ve :: vf :: vg :: vh :: vi :: cs) := Reps.front hp rfl h rfl
theorem Reps.c10 {α : Type} {R : α → List Value → Prop} {ps : List α} {cs : List Value} {p : α} {va vb vc vd ve vf vg vh vi vj : Value} (hp : R p [va, vb, vc, vd, ve, vf, vg, vh, vi, vj]) (h : Reps R 10 ps cs) : Reps R 10 (p :: ps) (va :: vb :: vc :: vd :: ve :: vf :: vg :: vh :: vi :: vj :: cs) := Reps.front hp rfl h rfl
end Go.Proofs.YthpjpkcfepmhkaaW.PrintWords
namespace Go.Proofs.YthpjpkcfepmhkaaW.PrintLast
/-- Number i is listed too. -/
def up (b : Nat → Bool) (i : Nat) : Nat → Bool := fun j => if j = i then true else b j
section
variable {P : Program} {ops : Array Oper} {Q : Exit → Act → World → Prop} {md : Region.Mode} {T : Bool × List (List Nat × List Nat)} {B : List Nat} {O : List Nat} {b : Nat → Bool} {i j n : Nat}
end
end Go.Proofs.YthpjpkcfepmhkaaW.PrintLast
namespace Go.Proofs.YthpjpkcfepmhkaaW.PrintWords
open Go.RowKit
section
variable {P : Program} {ops : Array Oper} {rest : List Oper} {o : Oper} {a : Act} {Q : Exit → Act → World → Prop} {W : World}
/-- The gate takes the guard off (hw: 'by rfl', 'by kernel_rfl': the guard's slot holds what is wanted). -/
theorem gate_guard (hw : Region.wanted o (yielded ops a.tmps) = true) (h : wpList P ops Q ({ o with guard := none } :: rest) a W) : wpList P ops Q (o :: rest) a W := by
  have h1 : Region.wanted { o with guard := none } (yielded ops a.tmps) = true := rfl
  unfold wpList at h ⊢
  rw [if_pos h1] at h
  rw [if_pos hw]
  exact h
end
end Go.Proofs.YthpjpkcfepmhkaaW.PrintWords
namespace Go.Proofs.YthpjpkcfepmhkaaW.PrintMore
open Go.RowKit Go.Proofs.YthpjpkcfepmhkaaW.PrintWords
namespace Kd
open Go.Proofs.YthpjpkcfepmhkaaW.PrintWords.Kd
end Kd
namespace Kd
open Go.Proofs.YthpjpkcfepmhkaaW.PrintWords.Kd
section
variable {α : Type} {d : Kd α} {e base g N : Nat} {ok : Nat → Prop} {W w1 : World} {u v : Value} {xs : List α}
end
end Kd
/-- 'max' and 'min' of two whole numbers. -/
theorem max2_int (k k' : IntKind) (x y : Int) : Builtin.max2 (.int k x) (.int k' y) = pure (.int k (if x < y then y else x)) := by simp only [Builtin.max2, gt_iff_lt]
theorem min2_int (k k' : IntKind) (x y : Int) : Builtin.min2 (.int k x) (.int k' y) = pure (.int k (if y < x then y else x)) := by simp only [Builtin.min2]
theorem max_two (ats : Array TypeId) (ty : TypeId) (a b : Value) : Builtin.max_ ats ty #[a, b] = (Builtin.max2 a b >>= fun s => pure s) := by simp only [Builtin.max_, List.foldlM_cons, List.foldlM_nil]
theorem min_two (ats : Array TypeId) (ty : TypeId) (a b : Value) : Builtin.min_ ats ty #[a, b] = (Builtin.min2 a b >>= fun s => pure s) := by simp only [Builtin.min_, List.foldlM_cons, List.foldlM_nil]
theorem max_three (ats : Array TypeId) (ty : TypeId) (a b c : Value) : Builtin.max_ ats ty #[a, b, c] = (Builtin.max2 a b >>= fun s => Builtin.max2 s c >>= fun s => pure s) := by simp only [Builtin.max_, List.foldlM_cons, List.foldlM_nil]
theorem min_three (ats : Array TypeId) (ty : TypeId) (a b c : Value) : Builtin.min_ ats ty #[a, b, c] = (Builtin.min2 a b >>= fun s => Builtin.min2 s c >>= fun s => pure s) := by simp only [Builtin.min_, List.foldlM_cons, List.foldlM_nil]
theorem max_four (ats : Array TypeId) (ty : TypeId) (a b c d : Value) : Builtin.max_ ats ty #[a, b, c, d] = (Builtin.max2 a b >>= fun s => Builtin.max2 s c >>= fun s => Builtin.max2 s d >>= fun s => pure s) := by simp only [Builtin.max_, List.foldlM_cons, List.foldlM_nil]
theorem min_four (ats : Array TypeId) (ty : TypeId) (a b c d : Value) : Builtin.min_ ats ty #[a, b, c, d] = (Builtin.min2 a b >>= fun s => Builtin.min2 s c >>= fun s => Builtin.min2 s d >>= fun s => pure s) := by simp only [Builtin.min_, List.foldlM_cons, List.foldlM_nil]
end Go.Proofs.YthpjpkcfepmhkaaW.PrintMore
namespace Go.Proofs.YthpjpkcfepmhkaaW.PrintWords
open Go.RowKit
section
variable {P : Program} {ops : Array Oper} {rest : List Oper} {o : Oper} {a : Act} {Q : Exit → Act → World → Prop} {W : World}
/-- The operation is a call of this function (a cheap look ahead of a dear step). -/
theorem gate_callee {f : FuncId} {as_ : Array Operand} {ts : Array TypeId} (_ho : o.op = .call { callee := .value (.func f), args := as_, argTypes := ts }) (h : wpList P ops Q (o :: rest) a W) : wpList P ops Q (o :: rest) a W := h
/-- The operation is a builtin over these places. -/
theorem gate_builtin {b : Builtin} {xs : Array Operand} {ts : Array TypeId} (_ho : o.op = .call { callee := .builtin b, args := xs, argTypes := ts }) (h : wpList P ops Q (o :: rest) a W) : wpList P ops Q (o :: rest) a W := h
end
namespace Kd
section
variable {α : Type} {d : Kd α} {e base : Nat} {ok : Nat → Prop} {W w1 : World} {v : Value} {xs : List α}
end
section
variable {α : Type} {d : Kd α} {e base g n cap : Nat} {ok oki okp : Nat → Prop} {W : World} {xs : List α} {i : Int} {c : List Value}
end
section
variable {α : Type} {d : Kd α} {e base b b' g N : Nat} {ok ok1 : Nat → Prop} {W W2 w1 : World} {u v : Value} {xs ys : List α} {S : Nat → Prop}
end
end Kd
end Go.Proofs.YthpjpkcfepmhkaaW.PrintWords
namespace Go.Proofs.YthpjpkcfepmhkaaW.PrintWords
open Go.RowKit
namespace Kd
/-- A row that is only read, told by its value: its form, its length, what it leads to (in ok). e and base say nothing; they make it as_ the others are. -/
def V {α : Type} (d : Kd α) (_e : Nat) (W : World) (_base : Nat) (ok : Nat → Prop) (v : Value) (xs : List α) : Prop := ∃ A c, v = .slice A xs.length c ∧ xs.length ≤ c ∧ F d W ok A xs.length xs
section
variable {α β : Type} {d : Kd α} {e base base' n m c g N' lo hi : Nat} {ok ok' S : Nat → Prop} {w W w1 : World} {A : Option Addr} {ad : Addr} {u v v1 : Value} {xs : List α}
theorem V_nil (d : Kd α) (e : Nat) (W : World) (base : Nat) (ok : Nat → Prop) : V d e W base ok (.slice none 0 0) [] := ⟨none, 0, rfl, Nat.le_refl _, F_nil d W ok⟩
end
end Kd
end Go.Proofs.YthpjpkcfepmhkaaW.PrintWords
namespace Go.Proofs.Ythpjpkcfepmhkaa.PAll
open Go.RowKit Go.Proofs.YthpjpkcfepmhkaaW.PrintWords Go.Proofs.YthpjpkcfepmhkaaW.PrintLast Go.Proofs.YthpjpkcfepmhkaaW.PrintMore
attribute [local go_sem] max2_int min2_int max_two min_two max_three min_three max_four min_four   -- for this text's walks alone
set_option linter.unusedVariables false
set_option linter.unusedSimpArgs false
def errW : Option Int → Value
  | none => .nilIface
  | some c => .iface 0 (.int .i64 c)
theorem errW_none : errW none = .nilIface := rfl
theorem errW_some (c : Int) : errW (some c) = .iface 0 (.int .i64 c) := rfl
theorem info3 : (Try.prog.info? 3).map (fun i => (i.zero, i.size, i.bytes)) = some (some (.int .i64 0), 1, 8) := by kernel_rfl
theorem info4 : (Try.prog.info? 4).map (fun i => (i.zero, i.size, i.bytes)) = some (some (.bool false), 1, 1) := by kernel_rfl
theorem info39 : (Try.prog.info? 39).map (fun i => (i.zero, i.size, i.bytes)) = some (some (.agg #[(.int .i64 0), (.int .i64 0)]), 2, 16) := by kernel_rfl
theorem info50 : (Try.prog.info? 50).map (fun i => (i.zero, i.size, i.bytes)) = some (some (.agg #[(.slice none 0 0), (.slice none 0 0)]), 2, 48) := by kernel_rfl
theorem info55 : (Try.prog.info? 55).map (fun i => (i.zero, i.size, i.bytes)) = some (some (.agg #[(.string ⟨#[]⟩), (.int .i64 0), (.int .i64 0), (.int .i64 0)]), 4, 40) := by kernel_rfl
theorem info68 : (Try.prog.info? 68).map (fun i => (i.zero, i.size, i.bytes)) = some (some (.agg #[(.int .i64 0), (.int .i64 0)]), 2, 16) := by kernel_rfl
-- the values' own types
structure S68 where
  f0 : Int
  f1 : Int
def z68 : S68 := ⟨(0 : Int), (0 : Int)⟩
def k68 : Kd S68 := Kd.iso (Kd.pair (Kd.int .i64) (Kd.int .i64)) (fun x : S68 => (x.f0, x.f1))
theorem k68_open {w : World} {x : S68} {cs : List Value} (h : k68.K w x cs) : cs = [.int .i64 x.f0, .int .i64 x.f1] := by
  obtain ⟨_, _, rfl, rfl, rfl⟩ := h
  exact rfl
theorem k68_mkM (w : World) (base : Nat) (ok : Nat → Prop) (x : S68)  : k68.M w base ok x [.int .i64 x.f0, .int .i64 x.f1] := ⟨[.int .i64 x.f0], [.int .i64 x.f1], rfl, rfl, rfl⟩
def rd_T68 (xs : List S68) (i : Int) : S68 := xs.getD i.toNat z68
theorem at_T68 {w : World} {A : Option Addr} {n : Nat} {xs : List S68} (h : Kd.C k68 w A n xs) (i : Int) (h0 : 0 ≤ i) (h1 : i < n) : ∃ ad , A = some ad ∧ w.cell? (ad.add (i.toNat * 2)) = some (.int .i64 (rd_T68 xs i).f0) ∧ w.cell? ⟨(ad.add (i.toNat * 2)).block, (ad.add (i.toNat * 2)).off + 1, none⟩ = some (.int .i64 (rd_T68 xs i).f1) := by
  obtain ⟨ad, c, e, _, hK, hc0⟩ := Kd.C_get h z68 i h0 h1
  have hc : ∀ j u, c[j]? = some u → w.cell? (ad.add (i.toNat * 2 + j)) = some u := hc0
  obtain rfl := k68_open hK
  exact ⟨ad, e, hc 0 _ rfl, by rw [← add_field _ _ 1 (by omega)]; exact hc 1 _ rfl⟩
structure S39 where
  f0 : Int
  f1 : Int
def z39 : S39 := ⟨(0 : Int), (0 : Int)⟩
def k39 : Kd S39 := Kd.iso (Kd.pair (Kd.int .i64) (Kd.int .i64)) (fun x : S39 => (x.f0, x.f1))
theorem k39_open {w : World} {x : S39} {cs : List Value} (h : k39.K w x cs) : cs = [.int .i64 x.f0, .int .i64 x.f1] := by
  obtain ⟨_, _, rfl, rfl, rfl⟩ := h
  exact rfl
theorem k39_mkM (w : World) (base : Nat) (ok : Nat → Prop) (x : S39)  : k39.M w base ok x [.int .i64 x.f0, .int .i64 x.f1] := ⟨[.int .i64 x.f0], [.int .i64 x.f1], rfl, rfl, rfl⟩
def rd_T39 (xs : List S39) (i : Int) : S39 := xs.getD i.toNat z39
theorem at_T39 {w : World} {A : Option Addr} {n : Nat} {xs : List S39} (h : Kd.C k39 w A n xs) (i : Int) (h0 : 0 ≤ i) (h1 : i < n) : ∃ ad , A = some ad ∧ w.cell? (ad.add (i.toNat * 2)) = some (.int .i64 (rd_T39 xs i).f0) ∧ w.cell? ⟨(ad.add (i.toNat * 2)).block, (ad.add (i.toNat * 2)).off + 1, none⟩ = some (.int .i64 (rd_T39 xs i).f1) := by
  obtain ⟨ad, c, e, _, hK, hc0⟩ := Kd.C_get h z39 i h0 h1
  have hc : ∀ j u, c[j]? = some u → w.cell? (ad.add (i.toNat * 2 + j)) = some u := hc0
  obtain rfl := k39_open hK
  exact ⟨ad, e, hc 0 _ rfl, by rw [← add_field _ _ 1 (by omega)]; exact hc 1 _ rfl⟩
structure S55 where
  f0 : ByteArray
  f1 : Int
  f2 : Int
  f3 : Int
def z55 : S55 := ⟨(⟨#[]⟩ : ByteArray), (0 : Int), (0 : Int), (0 : Int)⟩
def k55 : Kd S55 := Kd.iso (Kd.pair Kd.string (Kd.pair (Kd.int .i64) (Kd.pair (Kd.int .i64) (Kd.int .i64)))) (fun x : S55 => (x.f0, x.f1, x.f2, x.f3))
theorem k55_open {w : World} {x : S55} {cs : List Value} (h : k55.K w x cs) : cs = [.string x.f0, .int .i64 x.f1, .int .i64 x.f2, .int .i64 x.f3] := by
  obtain ⟨_, _, rfl, rfl, ⟨_, _, rfl, rfl, ⟨_, _, rfl, rfl, rfl⟩⟩⟩ := h
  exact rfl
def rd_T55 (xs : List S55) (i : Int) : S55 := xs.getD i.toNat z55
theorem at_T55 {w : World} {A : Option Addr} {n : Nat} {xs : List S55} (h : Kd.C k55 w A n xs) (i : Int) (h0 : 0 ≤ i) (h1 : i < n) : ∃ ad , A = some ad ∧ w.cell? (ad.add (i.toNat * 4)) = some (.string (rd_T55 xs i).f0) ∧ w.cell? ⟨(ad.add (i.toNat * 4)).block, (ad.add (i.toNat * 4)).off + 1, none⟩ = some (.int .i64 (rd_T55 xs i).f1) ∧ w.cell? ⟨(ad.add (i.toNat * 4)).block, (ad.add (i.toNat * 4)).off + 2, none⟩ = some (.int .i64 (rd_T55 xs i).f2) ∧ w.cell? ⟨(ad.add (i.toNat * 4)).block, (ad.add (i.toNat * 4)).off + 3, none⟩ = some (.int .i64 (rd_T55 xs i).f3) := by
  obtain ⟨ad, c, e, _, hK, hc0⟩ := Kd.C_get h z55 i h0 h1
  have hc : ∀ j u, c[j]? = some u → w.cell? (ad.add (i.toNat * 4 + j)) = some u := hc0
  obtain rfl := k55_open hK
  exact ⟨ad, e, hc 0 _ rfl, by rw [← add_field _ _ 1 (by omega)]; exact hc 1 _ rfl, by rw [← add_field _ _ 2 (by omega)]; exact hc 2 _ rfl, by rw [← add_field _ _ 3 (by omega)]; exact hc 3 _ rfl⟩
structure S50 where
  f0 : (List S55)
  f1 : (List Int)
def z50 : S50 := ⟨([] : List S55), ([] : List Int)⟩
def k50 : Kd S50 := Kd.iso (Kd.pair (Kd.slice 55 k55) (Kd.slice 5 (Kd.int .u8))) (fun x : S50 => (x.f0, x.f1))
theorem k50_open {w : World} {x : S50} {cs : List Value} (h : k50.K w x cs) : ∃ A0 c0 A1 c1, cs = [.slice A0 x.f0.length c0, .slice A1 x.f1.length c1] ∧ x.f0.length ≤ c0 ∧ k55.C w A0 x.f0.length x.f0 ∧ x.f1.length ≤ c1 ∧ (Kd.int .u8).C w A1 x.f1.length x.f1 := by
  obtain ⟨_, _, rfl, ⟨A0, c0, rfl, l0, g0⟩, ⟨A1, c1, rfl, l1, g1⟩⟩ := h
  exact ⟨A0, c0, A1, c1, rfl, l0, g0, l1, g1⟩
theorem k50_mk (w : World) (x : S50) {A0 : Option Addr} {c0 : Nat} (l0 : x.f0.length ≤ c0) (g0 : k55.C w A0 x.f0.length x.f0) {A1 : Option Addr} {c1 : Nat} (l1 : x.f1.length ≤ c1) (g1 : (Kd.int .u8).C w A1 x.f1.length x.f1) : k50.K w x [.slice A0 x.f0.length c0, .slice A1 x.f1.length c1] := ⟨[.slice A0 x.f0.length c0], [.slice A1 x.f1.length c1], rfl, ⟨A0, c0, rfl, l0, g0⟩, ⟨A1, c1, rfl, l1, g1⟩⟩
def rd_T50 (xs : List S50) (i : Int) : S50 := xs.getD i.toNat z50
theorem at_T50 {w : World} {A : Option Addr} {n : Nat} {xs : List S50} (h : Kd.C k50 w A n xs) (i : Int) (h0 : 0 ≤ i) (h1 : i < n) : ∃ ad A0 c0 A1 c1, A = some ad ∧ w.cell? (ad.add (i.toNat * 2)) = some (.slice A0 (rd_T50 xs i).f0.length c0) ∧ w.cell? ⟨(ad.add (i.toNat * 2)).block, (ad.add (i.toNat * 2)).off + 1, none⟩ = some (.slice A1 (rd_T50 xs i).f1.length c1) ∧ (rd_T50 xs i).f0.length ≤ c0 ∧ k55.C w A0 (rd_T50 xs i).f0.length (rd_T50 xs i).f0 ∧ (rd_T50 xs i).f1.length ≤ c1 ∧ (Kd.int .u8).C w A1 (rd_T50 xs i).f1.length (rd_T50 xs i).f1 := by
  obtain ⟨ad, c, e, _, hK, hc0⟩ := Kd.C_get h z50 i h0 h1
  have hc : ∀ j u, c[j]? = some u → w.cell? (ad.add (i.toNat * 2 + j)) = some u := hc0
  obtain ⟨A0, c0, A1, c1, rfl, l0, g0, l1, g1⟩ := k50_open hK
  exact ⟨ad, A0, c0, A1, c1, e, hc 0 _ rfl, by rw [← add_field _ _ 1 (by omega)]; exact hc 1 _ rfl, l0, g0, l1, g1⟩
def rd_L10 (xs : List (List S50)) (i : Int) : (List S50) := xs.getD i.toNat ([] : List S50)
theorem at_L10 {w : World} {A : Option Addr} {n : Nat} {xs : List (List S50)} (h : Kd.C (Kd.slice 50 k50) w A n xs) (i : Int) (h0 : 0 ≤ i) (h1 : i < n) : ∃ ad A0 c0, A = some ad ∧ w.cell? (ad.add i.toNat) = some (.slice A0 (rd_L10 xs i).length c0) ∧ (rd_L10 xs i).length ≤ c0 ∧ k50.C w A0 (rd_L10 xs i).length (rd_L10 xs i) := by
  obtain ⟨ad, c, e, _, hK, hc0⟩ := Kd.C_get h ([] : List S50) i h0 h1
  have hc : ∀ j u, c[j]? = some u → w.cell? (ad.add (i.toNat * 1 + j)) = some u := hc0
  obtain ⟨A0, c0, rfl, l0, g0⟩ := hK
  exact ⟨ad, A0, c0, e, by have hq := hc 0 _ rfl; rwa [Nat.mul_one, Nat.add_zero] at hq, l0, g0⟩
end Go.Proofs.Ythpjpkcfepmhkaa.PAll
namespace Go.Proofs.Ythpjpkcfepmhkaa.PAll
open Go.RowKit Go.Proofs.YthpjpkcfepmhkaaW.PrintWords Go.Proofs.Ythpjpkcfepmhkaa.Opens
/-- A symbol that came in. -/
theorem opens55 (w : World) : Opens Try.prog w 55 k55 (fun _ => True) :=
  (opens_iso (fun x : S55 => (x.f0, x.f1, x.f2, x.f3)) (fun p => ⟨p.1, p.2.1, p.2.2.1, p.2.2.2⟩) (fun _ => rfl)
    (opens_struct Try.underlying55 (by kernel_rfl)
      (opensF_cons (opens_string Try.underlying9) (opensF_cons (opens_int Try.underlying3) (opensF_cons (opens_int Try.underlying3) (opensF_one (opens_int Try.underlying3))))))).imp (fun _ _ => trivial)
theorem opens47 (w : World) : Opens Try.prog w 47 (Kd.slice 55 k55) (fun l => l.length * 40 ≤ 140737488351232 ∧ l.length ≤ maxLen ∧ ∀ x ∈ l, True) :=
  opens_slice Try.underlying47 (opens55 w) (by kernel_rfl) (by kernel_rfl)
theorem opens48 (w : World) : Opens Try.prog w 48 (Kd.slice 5 (Kd.int .u8)) (fun _ => True) :=
  (opens_slice (B := 1) Try.underlying48 (opens_int Try.underlying5) (by kernel_rfl) (by kernel_rfl)).imp (fun _ _ => trivial)
/-- An object that came in. -/
theorem opens50 (w : World) : Opens Try.prog w 50 k50 (fun _ => True) :=
  (opens_iso (fun x : S50 => (x.f0, x.f1)) (fun p => ⟨p.1, p.2⟩) (fun _ => rfl)
    (opens_struct Try.underlying50 (by kernel_rfl) (opensF_cons (opens47 w) (opensF_one (opens48 w))))).imp (fun _ _ => trivial)
theorem opens42 (w : World) : Opens Try.prog w 42 (Kd.slice 50 k50) (fun l => l.length * 48 ≤ 140737488351232 ∧ l.length ≤ maxLen ∧ ∀ x ∈ l, True) :=
  opens_slice Try.underlying42 (opens50 w) (by kernel_rfl) (by kernel_rfl)
theorem u8_lo {a : Int} (h : (Lit.int .u8 a).wf = true) : 0 ≤ a := by
  unfold Lit.wf at h
  simp only [Bool.and_eq_true, decide_eq_true_eq] at h
  have h1 : (0 : Int) ≤ a := h.1
  have h2 : a ≤ 255 := h.2
  omega
theorem u8_hi {a : Int} (h : (Lit.int .u8 a).wf = true) : a ≤ 255 := by
  unfold Lit.wf at h
  simp only [Bool.and_eq_true, decide_eq_true_eq] at h
  have h1 : (0 : Int) ≤ a := h.1
  have h2 : a ≤ 255 := h.2
  omega
end Go.Proofs.Ythpjpkcfepmhkaa.PAll
namespace Go.Proofs.Ythpjpkcfepmhkaa.PAll
open Go.RowKit Go.Proofs.YthpjpkcfepmhkaaW.PrintWords Go.Proofs.Ythpjpkcfepmhkaa.Opens
/-- Archives that came in. -/
theorem opens60 (w : World) : Opens Try.prog w 60 (Kd.slice 42 (Kd.slice 50 k50)) (fun _ => True) :=
  (opens_slice (B := 24) Try.underlying60 (opens42 w) (by kernel_rfl) (by kernel_rfl)).imp (fun _ _ => trivial)
end Go.Proofs.Ythpjpkcfepmhkaa.PAll
namespace Go.Proofs.Ythpjpkcfepmhkaa.PAll
open Go.RowKit Go.Proofs.YthpjpkcfepmhkaaW.PrintWords Go.Proofs.Ythpjpkcfepmhkaa.Opens
/-- An edge that came in (for a claim that reads archives too). -/
theorem opensE39 (w : World) : Opens Try.prog w 39 k39 (fun _ => True) :=
  (opens_iso (fun x : S39 => (x.f0, x.f1)) (fun p => ⟨p.1, p.2⟩) (fun _ => rfl)
    (opens_struct Try.underlying39 (by kernel_rfl)
      (opensF_cons (opens_int Try.underlying3) (opensF_one (opens_int Try.underlying3))))).imp (fun _ _ => trivial)
theorem opensE22 (w : World) : Opens Try.prog w 22 (Kd.slice 39 k39) (fun l => l.length * 16 ≤ 140737488351232 ∧ l.length ≤ maxLen ∧ ∀ x ∈ l, True) :=
  opens_slice Try.underlying22 (opensE39 w) (by kernel_rfl) (by kernel_rfl)
end Go.Proofs.Ythpjpkcfepmhkaa.PAll
namespace Go.Proofs.Ythpjpkcfepmhkaa.PAll
open Go.RowKit Go.Proofs.YthpjpkcfepmhkaaW.PrintWords Go.Proofs.YthpjpkcfepmhkaaW.PrintLast Go.Proofs.YthpjpkcfepmhkaaW.PrintMore
attribute [local go_sem] max2_int min2_int max_two min_two max_three min_three max_four min_four   -- for this text's walks alone
set_option linter.unusedVariables false
set_option linter.unusedSimpArgs false
-- NOT PRINTED: function 51 (closure_names)
def closure_defines.f (a0_0 : ByteArray) (a0_1 : Int) (a0_2 : Int) (a0_3 : Int) : Option (Bool) := if a0_1 = 1 then (some true) else (some (a0_1 == 2))
set_option maxHeartbeats 8000000 in
set_option maxRecDepth 100000 in
theorem closure_defines.calls (a0_0 : ByteArray) (a0_1 : Int) (a0_2 : Int) (a0_3 : Int) (r : Bool) (w : World) (h : closure_defines.f a0_0 a0_1 a0_2 a0_3 = some r) :
  Calls Try.prog 66 #[.agg #[.string a0_0, .int .i64 a0_1, .int .i64 a0_2, .int .i64 a0_3]] w fun e w' => e = .returned (.bool r) ∧ Below w.heap.size w w' := by
 have hu55 := Try.underlying55
 have HB := Aside0.mk (Below.refl w.heap.size w)
 have H : (if a0_1 = 1 then (some true) else (some (a0_1 == 2))) = some r := h
 clear h
 by_cases c2 : a0_1 = 1
 ·rw [if_pos c2] at H
  have c2b0 : (a0_1 == 1) = true := beq_iff_eq.mpr c2
  have c2b1 : (a0_1 != 1) = false := bne_eq_false_iff_eq.mpr c2
  clear c2
  obtain rfl := Option.some.inj H
  go_enter Try.func66, Try.ntmps66
  go_wp2_with (first | ((with_reducible refine gate_dst (N := 1) rfl ?_); refine box_event ?hg (N := 1) ?hd (cs := #[.string a0_0, .int .i64 a0_1, .int .i64 a0_2, .int .i64 a0_3]) (t := 55) ?hr ?_; (case hd => rfl); (case hg => rfl); (case hr => first | (go_simp; done) | (go_simp; rfl)); intro gb285 hg w3 hbox hb; have n0_ := Aside0.mk (below_step (by repeat (first | (with_reducible first | exact HB.out | apply below_alloc | apply pw_below_drewN | apply below_drew1) | exact HB.out)) hb); have n1_ := Aside0.mk (hbox); have n2_ := Aside0.mk ((by rw [hg]; exact (below_size (by repeat (first | (with_reducible first | exact HB.out | apply below_alloc | apply pw_below_drewN | apply below_drew1) | exact HB.out))) : w.heap.size ≤ gb285)); have n3_ := Aside0.mk ((by rw [hg]; exact (below_size (by repeat (first | (with_reducible first | exact HB.out | apply below_alloc | apply pw_below_drewN | apply below_drew1) | exact HB.out))) : w.heap.size ≤ gb285)); clear HB; have HB := n0_; have BK285 := n1_; have GW285 := n2_; have GE285 := n3_; clear n0_ n1_ n2_ n3_; clear hb hbox hg; have hcz4_0 : w3.cell? ⟨gb285, 0, none⟩ = some (.string a0_0) := (blk_cell BK285.out 0).trans rfl; have hcz4_1 : w3.cell? ⟨gb285, 1, none⟩ = some (.int .i64 a0_1) := (blk_cell BK285.out 1).trans rfl; have hcz4_2 : w3.cell? ⟨gb285, 2, none⟩ = some (.int .i64 a0_2) := (blk_cell BK285.out 2).trans rfl; have hcz4_3 : w3.cell? ⟨gb285, 3, none⟩ = some (.int .i64 a0_3) := (blk_cell BK285.out 3).trans rfl; have hfz4_0 := blk_frozen BK285.out 0; have hfz4_1 := blk_frozen BK285.out 1; have hfz4_2 := blk_frozen BK285.out 2; have hfz4_3 := blk_frozen BK285.out 3))
  go_ret
  exact ⟨by first | rfl | (simp [errW_none, errW_some] <;> rfl) | (simp [*, errW_none, errW_some] <;> rfl), by repeat (first | (with_reducible first | exact HB.out | apply below_alloc | apply pw_below_drewN | apply below_drew1 | refine below_set ?_ GE285.out) | exact HB.out)⟩
 ·rw [if_neg c2] at H
  have c2b0 : (a0_1 == 1) = false := beq_eq_false_iff_ne.mpr c2
  have c2b1 : (a0_1 != 1) = true := bne_iff_ne.mpr c2
  obtain rfl := Option.some.inj H
  go_enter Try.func66, Try.ntmps66
  go_wp2_with (first | ((with_reducible refine gate_dst (N := 1) rfl ?_); refine box_event ?hg (N := 1) ?hd (cs := #[.string a0_0, .int .i64 a0_1, .int .i64 a0_2, .int .i64 a0_3]) (t := 55) ?hr ?_; (case hd => rfl); (case hg => rfl); (case hr => first | (go_simp; done) | (go_simp; rfl)); intro gb285 hg w5 hbox hb; have n0_ := Aside0.mk (below_step (by repeat (first | (with_reducible first | exact HB.out | apply below_alloc | apply pw_below_drewN | apply below_drew1) | exact HB.out)) hb); have n1_ := Aside0.mk (hbox); have n2_ := Aside0.mk ((by rw [hg]; exact (below_size (by repeat (first | (with_reducible first | exact HB.out | apply below_alloc | apply pw_below_drewN | apply below_drew1) | exact HB.out))) : w.heap.size ≤ gb285)); have n3_ := Aside0.mk ((by rw [hg]; exact (below_size (by repeat (first | (with_reducible first | exact HB.out | apply below_alloc | apply pw_below_drewN | apply below_drew1) | exact HB.out))) : w.heap.size ≤ gb285)); clear HB; have HB := n0_; have BK285 := n1_; have GW285 := n2_; have GE285 := n3_; clear n0_ n1_ n2_ n3_; clear hb hbox hg; have hcz6_0 : w5.cell? ⟨gb285, 0, none⟩ = some (.string a0_0) := (blk_cell BK285.out 0).trans rfl; have hcz6_1 : w5.cell? ⟨gb285, 1, none⟩ = some (.int .i64 a0_1) := (blk_cell BK285.out 1).trans rfl; have hcz6_2 : w5.cell? ⟨gb285, 2, none⟩ = some (.int .i64 a0_2) := (blk_cell BK285.out 2).trans rfl; have hcz6_3 : w5.cell? ⟨gb285, 3, none⟩ = some (.int .i64 a0_3) := (blk_cell BK285.out 3).trans rfl; have hfz6_0 := blk_frozen BK285.out 0; have hfz6_1 := blk_frozen BK285.out 1; have hfz6_2 := blk_frozen BK285.out 2; have hfz6_3 := blk_frozen BK285.out 3))
  go_ret
  exact ⟨by first | rfl | (simp [errW_none, errW_some] <;> rfl) | (simp [*, errW_none, errW_some] <;> rfl), by repeat (first | (with_reducible first | exact HB.out | apply below_alloc | apply pw_below_drewN | apply below_drew1 | refine below_set ?_ GE285.out) | exact HB.out)⟩
-- NOT PRINTED: function 49 (closure_build)
-- NOT PRINTED: function 67 (wanted_List_queue)
-- NOT PRINTED: function 50 (wanted_List_Add)
def closure_refers.f (a0_0 : ByteArray) (a0_1 : Int) (a0_2 : Int) (a0_3 : Int) : Option (Bool) := some (a0_1 == 4)
set_option maxHeartbeats 8000000 in
set_option maxRecDepth 100000 in
theorem closure_refers.calls (a0_0 : ByteArray) (a0_1 : Int) (a0_2 : Int) (a0_3 : Int) (r : Bool) (w : World) (h : closure_refers.f a0_0 a0_1 a0_2 a0_3 = some r) :
  Calls Try.prog 52 #[.agg #[.string a0_0, .int .i64 a0_1, .int .i64 a0_2, .int .i64 a0_3]] w fun e w' => e = .returned (.bool r) ∧ Below w.heap.size w w' := by
 have hu55 := Try.underlying55
 have HB := Aside0.mk (Below.refl w.heap.size w)
 have H : (some (a0_1 == 4)) = some r := h
 clear h
 obtain rfl := Option.some.inj H
 go_enter Try.func52, Try.ntmps52
 go_wp2_with (first | ((with_reducible refine gate_dst (N := 1) rfl ?_); refine box_event ?hg (N := 1) ?hd (cs := #[.string a0_0, .int .i64 a0_1, .int .i64 a0_2, .int .i64 a0_3]) (t := 55) ?hr ?_; (case hd => rfl); (case hg => rfl); (case hr => first | (go_simp; done) | (go_simp; rfl)); intro gb286 hg w2 hbox hb; have n0_ := Aside0.mk (below_step (by repeat (first | (with_reducible first | exact HB.out | apply below_alloc | apply pw_below_drewN | apply below_drew1) | exact HB.out)) hb); have n1_ := Aside0.mk (hbox); have n2_ := Aside0.mk ((by rw [hg]; exact (below_size (by repeat (first | (with_reducible first | exact HB.out | apply below_alloc | apply pw_below_drewN | apply below_drew1) | exact HB.out))) : w.heap.size ≤ gb286)); have n3_ := Aside0.mk ((by rw [hg]; exact (below_size (by repeat (first | (with_reducible first | exact HB.out | apply below_alloc | apply pw_below_drewN | apply below_drew1) | exact HB.out))) : w.heap.size ≤ gb286)); clear HB; have HB := n0_; have BK286 := n1_; have GW286 := n2_; have GE286 := n3_; clear n0_ n1_ n2_ n3_; clear hb hbox hg; have hcz3_0 : w2.cell? ⟨gb286, 0, none⟩ = some (.string a0_0) := (blk_cell BK286.out 0).trans rfl; have hcz3_1 : w2.cell? ⟨gb286, 1, none⟩ = some (.int .i64 a0_1) := (blk_cell BK286.out 1).trans rfl; have hcz3_2 : w2.cell? ⟨gb286, 2, none⟩ = some (.int .i64 a0_2) := (blk_cell BK286.out 2).trans rfl; have hcz3_3 : w2.cell? ⟨gb286, 3, none⟩ = some (.int .i64 a0_3) := (blk_cell BK286.out 3).trans rfl; have hfz3_0 := blk_frozen BK286.out 0; have hfz3_1 := blk_frozen BK286.out 1; have hfz3_2 := blk_frozen BK286.out 2; have hfz3_3 := blk_frozen BK286.out 3))
 go_ret
 exact ⟨by first | rfl | (simp [errW_none, errW_some] <;> rfl) | (simp [*, errW_none, errW_some] <;> rfl), by repeat (first | (with_reducible first | exact HB.out | apply below_alloc | apply pw_below_drewN | apply below_drew1 | refine below_set ?_ GE286.out) | exact HB.out)⟩
-- NOT PRINTED: function 68 (wanted_List_Len)
-- NOT PRINTED: function 53 (wanted_List_Take)
-- PROVED BY HAND: function 25 (closure_Needed)
-- PROVED BY HAND: function 26 (closure_Unique)
-- NOT PRINTED: function 57 (closure_program_next)
mutual
def arlinkref06_Few.l0 : Nat → Int → List (S55) → List Int → Option (Bool)
 | 0, _, _, _ => none
 | k + 1, x3, x292000, x292001 => if x3 < (x292000.length : Int) then (arlinkref06_Few.j1 k x3 (decide (x3 ≤ 60)) x292000 x292001) else (arlinkref06_Few.j1 k x3 false x292000 x292001)
def arlinkref06_Few.j1 : Nat → Int → Bool → List (S55) → List Int → Option (Bool)
 | 0, _, _, _, _ => none
 | k + 1, x3, x12, x292000, x292001 => if x12 = true then (if 0 ≤ x3 then (if x3 < (x292000.length : Int) then (if (((rd_T55 x292000 x3).f0).size : Int) > 300 then (some false) else (arlinkref06_Few.l0 k (wrap64 (x3 + 1)) x292000 x292001)) else (none)) else (none)) else (if (x292000.length : Int) ≤ 60 then (some (decide ((x292001.length : Int) ≤ 1000))) else (some false))
end
def arlinkref06_Few.f (k : Nat) (l0_0 : List (S55)) (l0_1 : List Int) : Option (Bool) := arlinkref06_Few.l0 k 0 l0_0 l0_1
theorem arlinkref06_Few.mono_l : ∀ k, (∀ y0 y1 y2, LeO (arlinkref06_Few.l0 k y0 y1 y2) (arlinkref06_Few.l0 (k + 1) y0 y1 y2)) ∧ (∀ y0 y1 y2 y3, LeO (arlinkref06_Few.j1 k y0 y1 y2 y3) (arlinkref06_Few.j1 (k + 1) y0 y1 y2 y3))
 | 0 => ⟨fun _ _ _ r h => by simp [arlinkref06_Few.l0] at h, fun _ _ _ _ r h => by simp [arlinkref06_Few.j1] at h⟩
 | k + 1 => by
  obtain ⟨ih0, ih1⟩ := arlinkref06_Few.mono_l k
  refine ⟨?_, ?_⟩
  ·intro y0 y1 y2
   unfold arlinkref06_Few.l0
   repeat' first
   | (with_reducible exact ih0 _ _ _)
   | (with_reducible exact ih1 _ _ _ _)
   | (with_reducible exact LeO.refl _)
   | (with_reducible exact LeO.none _)
   | (with_reducible refine LeO.ite ?_ ?_)
   | (with_reducible refine LeO.bind ?_ (fun _ => ?_))
   | exact ih0 _ _ _
   | exact ih1 _ _ _ _
   | exact LeO.none _
   | refine LeO.ite ?_ ?_
   | refine LeO.bind ?_ (fun _ => ?_)
  ·intro y0 y1 y2 y3
   unfold arlinkref06_Few.j1
   repeat' first
   | (with_reducible exact ih0 _ _ _)
   | (with_reducible exact ih1 _ _ _ _)
   | (with_reducible exact LeO.refl _)
   | (with_reducible exact LeO.none _)
   | (with_reducible refine LeO.ite ?_ ?_)
   | (with_reducible refine LeO.bind ?_ (fun _ => ?_))
   | exact ih0 _ _ _
   | exact ih1 _ _ _ _
   | exact LeO.none _
   | refine LeO.ite ?_ ?_
   | refine LeO.bind ?_ (fun _ => ?_)
theorem arlinkref06_Few.mono : ∀ a0 a1 k, LeO (arlinkref06_Few.f k a0 a1) (arlinkref06_Few.f (k + 1) a0 a1) := by
 intro a0 a1 k
 obtain ⟨ih0, ih1⟩ := arlinkref06_Few.mono_l k
 unfold arlinkref06_Few.f
 repeat' first
   | (with_reducible exact ih0 _ _ _)
   | (with_reducible exact ih1 _ _ _ _)
   | (with_reducible exact LeO.refl _)
   | (with_reducible exact LeO.none _)
   | (with_reducible refine LeO.ite ?_ ?_)
   | (with_reducible refine LeO.bind ?_ (fun _ => ?_))
   | exact ih0 _ _ _
   | exact ih1 _ _ _ _
   | exact LeO.none _
   | refine LeO.ite ?_ ?_
   | refine LeO.bind ?_ (fun _ => ?_)
set_option maxHeartbeats 8000000 in
set_option maxRecDepth 100000 in
theorem arlinkref06_Few.calls (k : Nat) (A0_0 : Option Addr) (c0_0 : Nat) (l0_0 : List (S55)) (A0_1 : Option Addr) (c0_1 : Nat) (l0_1 : List Int) (r : Bool) (w : World) (hr0_0 : Kd.C k55 w A0_0 l0_0.length l0_0) (hc0_0 : l0_0.length ≤ c0_0) (hr0_1 : Kd.C (Kd.int .u8) w A0_1 l0_1.length l0_1) (hc0_1 : l0_1.length ≤ c0_1) (h : arlinkref06_Few.f k l0_0 l0_1 = some r) :
  Calls Try.prog 47 #[.agg #[.slice A0_0 l0_0.length c0_0, .slice A0_1 l0_1.length c0_1]] w fun e w' => e = .returned (.bool r) ∧ Below w.heap.size w w' := by
 have hu50 := Try.underlying50
 have HR0_0 := Aside0.mk hr0_0
 have HC0_0 := Aside0.mk hc0_0
 clear hr0_0 hc0_0
 have HR0_1 := Aside0.mk hr0_1
 have HC0_1 := Aside0.mk hc0_1
 clear hr0_1 hc0_1
 have HB := Aside0.mk (Below.refl w.heap.size w)
 have H : (arlinkref06_Few.l0 k 0 l0_0 l0_1) = some r := h
 clear h
 have H' := Aside0.mk H
 clear H
 go_enter Try.func47, Try.ntmps47
 go_wp2_with (first | ((with_reducible refine gate_dst (N := 1) rfl ?_); (try (refine gate_guard (by rfl) ?_; dsimp only)); refine box_event ?hg (N := 1) ?hd (cs := #[.slice A0_0 l0_0.length c0_0, .slice A0_1 l0_1.length c0_1]) (t := 50) ?hr ?_; (case hd => rfl); (case hg => rfl); (case hr => first | (go_simp; done) | (go_simp; rfl)); intro gb291 hg w2 hbox hb; have n0_ := Aside0.mk (below_step (by repeat (first | (with_reducible first | exact HB.out | apply below_alloc | apply pw_below_drewN | apply below_drew1) | exact HB.out)) hb); have n1_ := Aside0.mk (hbox); have n2_ := Aside0.mk ((by rw [hg]; exact (below_size (by repeat (first | (with_reducible first | exact HB.out | apply below_alloc | apply pw_below_drewN | apply below_drew1) | exact HB.out))) : w.heap.size ≤ gb291)); have n3_ := Aside0.mk ((by rw [hg]; exact (below_size (by repeat (first | (with_reducible first | exact HB.out | apply below_alloc | apply pw_below_drewN | apply below_drew1) | exact HB.out))) : w.heap.size ≤ gb291)); clear HB; have HB := n0_; have BK291 := n1_; have GW291 := n2_; have GE291 := n3_; clear n0_ n1_ n2_ n3_; clear hb hbox hg))
 go_loopg [3] k (fun kq v3 w' => ∃ (x3_1 : Int), v3 = .int .i64 x3_1 ∧ Aside0 (arlinkref06_Few.l0 kq x3_1 l0_0 l0_1 = some r) ∧ Aside0 (kq ≤ k) ∧ Aside0 (w'.heap[gb291]? = some (.cells #[(.slice A0_0 l0_0.length c0_0), (.slice A0_1 l0_1.length c0_1)] 50 (0, 0))) ∧ Aside0 (Below w.heap.size w w'))
 case atStart => exact ⟨(0), (by first | rfl | (simp; done) | (simp [*]; done)), H', ⟨Nat.le_refl _⟩, ⟨by (with_reducible repeat (first | refine blk_drewN ?_ _ | refine blk_drew ?_ | refine blk_alloc ?_ _)); exact BK291.out⟩, ⟨by repeat (first | (with_reducible first | exact HB.out | apply below_alloc | apply pw_below_drewN | apply below_drew1 | refine below_set ?_ GE291.out) | exact HB.out)⟩⟩
 case round =>
  clear H'
  try clear p2
  obtain ⟨x3_1, rfl, HA, HK1, BK291, HB⟩ := hrel
  cases gk with
  | zero => exact absurd HA.out (by simp [arlinkref06_Few.l0])
  | succ k1 =>
   have H := HA.out
   clear HA
   simp only [arlinkref06_Few.l0] at H
   have HC3 := Aside0.mk H
   clear H
   go_upto_region 2 with (fail)
   go_cut [12] (fun v12 wc => ∃ (kq : Nat) (x12_2 : Bool), v12 = .bool x12_2 ∧ Aside0 (arlinkref06_Few.j1 kq x3_1 x12_2 l0_0 l0_1 = some r) ∧ Aside0 (kq ≤ k1) ∧ Aside0 (wc.heap[gb291]? = some (.cells #[(.slice A0_0 l0_0.length c0_0), (.slice A0_1 l0_1.length c0_1)] 50 (0, 0))) ∧ Aside0 (Below w.heap.size w wc))
   case first =>
    have H := HC3.out
    clear HC3
    by_cases c4 : x3_1 < (l0_0.length : Int)
    ·rw [if_pos c4] at H
     have c4b0 : decide (x3_1 < (l0_0.length : Int)) = true := decide_eq_true c4
     clear c4
     (first | rw [c4b0] | (simp only [i64_w, i32_w]; rw [c4b0]) | skip)
     have H' := Aside0.mk H
     clear H
     have hcz5_0 : wr.cell? ⟨gb291, 0, none⟩ = some (.slice A0_0 l0_0.length c0_0) := (blk_cell BK291.out 0).trans rfl
     have hcz5_1 : wr.cell? ⟨gb291, 1, none⟩ = some (.slice A0_1 l0_1.length c0_1) := (blk_cell BK291.out 1).trans rfl
     have hfz5_0 := blk_frozen BK291.out 0
     have hfz5_1 := blk_frozen BK291.out 1
     go_wp2
     go_meet
     case rel => exact ⟨_, (decide (x3_1 ≤ 60)), (by first | rfl | (simp; done) | (simp [*]; done)), H', ⟨by have := HK1.out; first | omega | exact Nat.le_refl _⟩, ⟨by (with_reducible repeat (first | refine blk_drewN ?_ _ | refine blk_drew ?_ | refine blk_alloc ?_ _)); exact BK291.out⟩, ⟨by repeat (first | (with_reducible first | exact HB.out | apply below_alloc | apply pw_below_drewN | apply below_drew1 | refine below_set ?_ GE291.out) | exact HB.out)⟩⟩
    ·rw [if_neg c4] at H
     have c4b0 : decide (x3_1 < (l0_0.length : Int)) = false := decide_eq_false c4
     clear c4
     (first | rw [c4b0] | (simp only [i64_w, i32_w]; rw [c4b0]) | skip)
     have H' := Aside0.mk H
     clear H
     have hcz6_0 : wr.cell? ⟨gb291, 0, none⟩ = some (.slice A0_0 l0_0.length c0_0) := (blk_cell BK291.out 0).trans rfl
     have hcz6_1 : wr.cell? ⟨gb291, 1, none⟩ = some (.slice A0_1 l0_1.length c0_1) := (blk_cell BK291.out 1).trans rfl
     have hfz6_0 := blk_frozen BK291.out 0
     have hfz6_1 := blk_frozen BK291.out 1
     go_wp2
     go_meet
     case rel => exact ⟨_, (false), (by first | rfl | (simp; done) | (simp [*]; done)), H', ⟨by have := HK1.out; first | omega | exact Nat.le_refl _⟩, ⟨by (with_reducible repeat (first | refine blk_drewN ?_ _ | refine blk_drew ?_ | refine blk_alloc ?_ _)); exact BK291.out⟩, ⟨by repeat (first | (with_reducible first | exact HB.out | apply below_alloc | apply pw_below_drewN | apply below_drew1 | refine below_set ?_ GE291.out) | exact HB.out)⟩⟩
   case rest =>
    clear HC3
    try clear p2
    try clear c4
    try clear c4b0
    try clear hcz5_0
    try clear hcz5_1
    try clear hcz6_0
    try clear hcz6_1
    try clear hfz5_0
    try clear hfz5_1
    try clear hfz6_0
    try clear hfz6_1
    try clear p2
    obtain ⟨kq, x12_2, rfl, HA, HJ2, BK291, HB⟩ := hcut
    cases kq with
    | zero => exact absurd HA.out (by simp [arlinkref06_Few.j1])
    | succ kj2 =>
     have H := HA.out
     clear HA
     simp only [arlinkref06_Few.j1] at H
     by_cases c7 : x12_2 = true
     ·subst c7
      have H1 : (if 0 ≤ x3_1 then (if x3_1 < (l0_0.length : Int) then (if (((rd_T55 l0_0 x3_1).f0).size : Int) > 300 then (some false) else (arlinkref06_Few.l0 kj2 (wrap64 (x3_1 + 1)) l0_0 l0_1)) else (none)) else (none)) = some r := by rw [if_pos rfl] at H; exact H
      clear H
      have H := H1
      clear H1
      by_cases c8 : 0 ≤ x3_1
      ·rw [if_pos c8] at H
       have c8b0 : decide (0 ≤ x3_1) = true := decide_eq_true c8
       clear c8
       by_cases c9 : x3_1 < (l0_0.length : Int)
       ·rw [if_pos c9] at H
        have c9b0 : decide (x3_1 < (l0_0.length : Int)) = true := decide_eq_true c9
        clear c9
        by_cases c10 : (((rd_T55 l0_0 x3_1).f0).size : Int) > 300
        ·rw [if_pos c10] at H
         have c10b0 : decide (300 < (((rd_T55 l0_0 x3_1).f0).size : Int)) = true := decide_eq_true c10
         have c10b1 : decide (300 < ((rd_T55 l0_0 x3_1).f0).size) = true := decide_eq_true (by omega)
         clear c10
         obtain rfl := Option.some.inj H
         have hcz11_0 : wc.cell? ⟨gb291, 0, none⟩ = some (.slice A0_0 l0_0.length c0_0) := (blk_cell BK291.out 0).trans rfl
         have hcz11_1 : wc.cell? ⟨gb291, 1, none⟩ = some (.slice A0_1 l0_1.length c0_1) := (blk_cell BK291.out 1).trans rfl
         have hfz11_0 := blk_frozen BK291.out 0
         have hfz11_1 := blk_frozen BK291.out 1
         have p292 : 0 ≤ (x3_1 : Int) := of_decide_eq_true (by first | (with_reducible assumption) | assumption)
         have q292 : x3_1 < (l0_0.length : Int) := of_decide_eq_true (by first | (with_reducible assumption) | assumption)
         obtain ⟨ad292, e292, hx292_0, hx292_1, hx292_2, hx292_3⟩ := at_T55 HR0_0.out x3_1 p292 q292
         cases e292
         replace hx292_0 := (HB.out.cell (World.block_lt_of_cell? w _ hx292_0)).trans hx292_0
         replace hx292_1 := (HB.out.cell (World.block_lt_of_cell? w _ hx292_1)).trans hx292_1
         replace hx292_2 := (HB.out.cell (World.block_lt_of_cell? w _ hx292_2)).trans hx292_2
         replace hx292_3 := (HB.out.cell (World.block_lt_of_cell? w _ hx292_3)).trans hx292_3
         replace p292 := eq_true p292
         replace q292 := eq_true q292
         go_wp2
         go_ret
         exact ⟨by first | rfl | (simp [errW_none, errW_some] <;> rfl) | (simp [*, errW_none, errW_some] <;> rfl), by repeat (first | (with_reducible first | exact HB.out | apply below_alloc | apply pw_below_drewN | apply below_drew1 | refine below_set ?_ GE291.out) | exact HB.out)⟩
        ·rw [if_neg c10] at H
         have c10b0 : decide (300 < (((rd_T55 l0_0 x3_1).f0).size : Int)) = false := decide_eq_false c10
         have c10b1 : decide (300 < ((rd_T55 l0_0 x3_1).f0).size) = false := decide_eq_false (by omega)
         clear c10
         have H' := Aside0.mk H
         clear H
         have hcz12_0 : wc.cell? ⟨gb291, 0, none⟩ = some (.slice A0_0 l0_0.length c0_0) := (blk_cell BK291.out 0).trans rfl
         have hcz12_1 : wc.cell? ⟨gb291, 1, none⟩ = some (.slice A0_1 l0_1.length c0_1) := (blk_cell BK291.out 1).trans rfl
         have hfz12_0 := blk_frozen BK291.out 0
         have hfz12_1 := blk_frozen BK291.out 1
         have p292 : 0 ≤ (x3_1 : Int) := of_decide_eq_true (by first | (with_reducible assumption) | assumption)
         have q292 : x3_1 < (l0_0.length : Int) := of_decide_eq_true (by first | (with_reducible assumption) | assumption)
         obtain ⟨ad292, e292, hx292_0, hx292_1, hx292_2, hx292_3⟩ := at_T55 HR0_0.out x3_1 p292 q292
         cases e292
         replace hx292_0 := (HB.out.cell (World.block_lt_of_cell? w _ hx292_0)).trans hx292_0
         replace hx292_1 := (HB.out.cell (World.block_lt_of_cell? w _ hx292_1)).trans hx292_1
         replace hx292_2 := (HB.out.cell (World.block_lt_of_cell? w _ hx292_2)).trans hx292_2
         replace hx292_3 := (HB.out.cell (World.block_lt_of_cell? w _ hx292_3)).trans hx292_3
         replace p292 := eq_true p292
         replace q292 := eq_true q292
         go_wp2
         go_roundg kj2
         case measure => have := HK1.out; have := HJ2.out; omega
         case rel => exact ⟨(wrap64 (x3_1 + 1)), (by first | rfl | (simp; done) | (simp [*]; done)), H', ⟨by have := HK1.out; have := HJ2.out; omega⟩, ⟨by (with_reducible repeat (first | refine blk_drewN ?_ _ | refine blk_drew ?_ | refine blk_alloc ?_ _)); exact BK291.out⟩, ⟨by repeat (first | (with_reducible first | exact HB.out | apply below_alloc | apply pw_below_drewN | apply below_drew1 | refine below_set ?_ GE291.out) | exact HB.out)⟩⟩
       ·rw [if_neg c9] at H
        exact absurd H (by simp)
      ·rw [if_neg c8] at H
       exact absurd H (by simp)
     ·replace c7 := Bool.eq_false_iff.mpr c7
      subst c7
      have H1 : (if (l0_0.length : Int) ≤ 60 then (some (decide ((l0_1.length : Int) ≤ 1000))) else (some false)) = some r := by rw [if_neg (show ¬ (false = true) by decide)] at H; exact H
      clear H
      have H := H1
      clear H1
      by_cases c13 : (l0_0.length : Int) ≤ 60
      ·rw [if_pos c13] at H
       have c13b0 : decide ((l0_0.length : Int) ≤ 60) = true := decide_eq_true c13
       have c13b1 : decide (l0_0.length ≤ 60) = true := decide_eq_true (by omega)
       clear c13
       obtain rfl := Option.some.inj H
       have hcz14_0 : wc.cell? ⟨gb291, 0, none⟩ = some (.slice A0_0 l0_0.length c0_0) := (blk_cell BK291.out 0).trans rfl
       have hcz14_1 : wc.cell? ⟨gb291, 1, none⟩ = some (.slice A0_1 l0_1.length c0_1) := (blk_cell BK291.out 1).trans rfl
       have hfz14_0 := blk_frozen BK291.out 0
       have hfz14_1 := blk_frozen BK291.out 1
       go_wp2
       go_ret
       exact ⟨by first | rfl | (simp [errW_none, errW_some] <;> rfl) | (simp [*, errW_none, errW_some] <;> rfl), by repeat (first | (with_reducible first | exact HB.out | apply below_alloc | apply pw_below_drewN | apply below_drew1 | refine below_set ?_ GE291.out) | exact HB.out)⟩
      ·rw [if_neg c13] at H
       have c13b0 : decide ((l0_0.length : Int) ≤ 60) = false := decide_eq_false c13
       have c13b1 : decide (l0_0.length ≤ 60) = false := decide_eq_false (by omega)
       clear c13
       obtain rfl := Option.some.inj H
       have hcz15_0 : wc.cell? ⟨gb291, 0, none⟩ = some (.slice A0_0 l0_0.length c0_0) := (blk_cell BK291.out 0).trans rfl
       have hcz15_1 : wc.cell? ⟨gb291, 1, none⟩ = some (.slice A0_1 l0_1.length c0_1) := (blk_cell BK291.out 1).trans rfl
       have hfz15_0 := blk_frozen BK291.out 0
       have hfz15_1 := blk_frozen BK291.out 1
       go_wp2
       go_ret
       exact ⟨by first | rfl | (simp [errW_none, errW_some] <;> rfl) | (simp [*, errW_none, errW_some] <;> rfl), by repeat (first | (with_reducible first | exact HB.out | apply below_alloc | apply pw_below_drewN | apply below_drew1 | refine below_set ?_ GE291.out) | exact HB.out)⟩
def arlinkref06_Power.l0 : Nat → Int → Int → Option (Bool)
 | 0, _, _ => none
 | k + 1, x0, x3 => if x3 ≤ 65536 then (if x3 = x0 then (some true) else (arlinkref06_Power.l0 k x0 (wrap64 (2 * x3)))) else (some false)
def arlinkref06_Power.f (k : Nat) (a0 : Int) : Option (Bool) := arlinkref06_Power.l0 k a0 1
theorem arlinkref06_Power.mono_l : ∀ k, (∀ y0 y1, LeO (arlinkref06_Power.l0 k y0 y1) (arlinkref06_Power.l0 (k + 1) y0 y1))
 | 0 => fun _ _ r h => by simp [arlinkref06_Power.l0] at h
 | k + 1 => by
  have ih0 := arlinkref06_Power.mono_l k
  ·intro y0 y1
   unfold arlinkref06_Power.l0
   repeat' first
   | (with_reducible exact ih0 _ _)
   | (with_reducible exact LeO.refl _)
   | (with_reducible exact LeO.none _)
   | (with_reducible refine LeO.ite ?_ ?_)
   | (with_reducible refine LeO.bind ?_ (fun _ => ?_))
   | exact ih0 _ _
   | exact LeO.none _
   | refine LeO.ite ?_ ?_
   | refine LeO.bind ?_ (fun _ => ?_)
theorem arlinkref06_Power.mono : ∀ a0 k, LeO (arlinkref06_Power.f k a0) (arlinkref06_Power.f (k + 1) a0) := by
 intro a0 k
 have ih0 := arlinkref06_Power.mono_l k
 unfold arlinkref06_Power.f
 repeat' first
   | (with_reducible exact ih0 _ _)
   | (with_reducible exact LeO.refl _)
   | (with_reducible exact LeO.none _)
   | (with_reducible refine LeO.ite ?_ ?_)
   | (with_reducible refine LeO.bind ?_ (fun _ => ?_))
   | exact ih0 _ _
   | exact LeO.none _
   | refine LeO.ite ?_ ?_
   | refine LeO.bind ?_ (fun _ => ?_)
set_option maxHeartbeats 8000000 in
set_option maxRecDepth 100000 in
theorem arlinkref06_Power.calls (k : Nat) (a0 : Int) (r : Bool) (w : World) (h : arlinkref06_Power.f k a0 = some r) :
  Calls Try.prog 69 #[.int .i64 a0] w fun e w' => e = .returned (.bool r) ∧ Drawn0 w w' := by
 have H : (arlinkref06_Power.l0 k a0 1) = some r := h
 clear h
 have H' := Aside0.mk H
 clear H
 go_enter Try.func69, Try.ntmps69
 go_wp2
 go_loopg [3] k (fun kq v3 w' => ∃ (x3_1 : Int), v3 = .int .i64 x3_1 ∧ Aside0 (arlinkref06_Power.l0 kq a0 x3_1 = some r) ∧ Aside0 (kq ≤ k) ∧ Drawn0 w w')
 case atStart => exact ⟨(1), (by first | rfl | (simp; done) | (simp [*]; done)), H', ⟨Nat.le_refl _⟩, by repeat (first | exact Drawn0.refl _ | apply Drawn0.step)⟩
 case round =>
  clear H'
  obtain ⟨x3_1, rfl, HA, HK1, ⟨m1, rfl⟩⟩ := hrel
  cases gk with
  | zero => exact absurd HA.out (by simp [arlinkref06_Power.l0])
  | succ k1 =>
   have H := HA.out
   clear HA
   simp only [arlinkref06_Power.l0] at H
   by_cases c2 : x3_1 ≤ 65536
   ·rw [if_pos c2] at H
    have c2b0 : decide (x3_1 ≤ 65536) = true := decide_eq_true c2
    clear c2
    by_cases c3 : x3_1 = a0
    ·rw [if_pos c3] at H
     have c3b0 : (x3_1 == a0) = true := beq_iff_eq.mpr c3
     have c3b1 : (x3_1 != a0) = false := bne_eq_false_iff_eq.mpr c3
     clear c3
     obtain rfl := Option.some.inj H
     go_wp2
     go_ret
     exact ⟨by first | rfl | (simp; done) | (simp [*]; done), by repeat (first | exact Drawn0.refl _ | apply Drawn0.step)⟩
    ·rw [if_neg c3] at H
     have c3b0 : (x3_1 == a0) = false := beq_eq_false_iff_ne.mpr c3
     have c3b1 : (x3_1 != a0) = true := bne_iff_ne.mpr c3
     have H' := Aside0.mk H
     clear H
     go_wp2
     go_roundg k1
     case measure => have := HK1.out; omega
     case rel => exact ⟨(wrap64 (2 * x3_1)), (by first | rfl | (simp; done) | (simp [*]; done)), H', ⟨by have := HK1.out; omega⟩, by repeat (first | exact Drawn0.refl _ | apply Drawn0.step)⟩
   ·rw [if_neg c2] at H
    have c2b0 : decide (x3_1 ≤ 65536) = false := decide_eq_false c2
    clear c2
    obtain rfl := Option.some.inj H
    go_wp2
    go_ret
    exact ⟨by first | rfl | (simp; done) | (simp [*]; done), by repeat (first | exact Drawn0.refl _ | apply Drawn0.step)⟩
end Go.Proofs.Ythpjpkcfepmhkaa.PAll
namespace Go.Proofs.Ythpjpkcfepmhkaa.Hp
section
variable {α : Type} (d : α) (less : α → α → Bool)
def at_ (xs : List α) (i : Nat) : α := xs.getD i d
def swp (xs : List α) (i k : Nat) : List α := (xs.set i (at_ d xs k)).set k (at_ d xs i)
/-- The lesser child. -/
def kid (n : Nat) (xs : List α) (i : Nat) : Nat := if 2 * i + 2 < n ∧ less (at_ d xs (2 * i + 2)) (at_ d xs (2 * i + 1)) = true then 2 * i + 2 else 2 * i + 1
def down (n : Nat) : Nat → List α → Nat → List α
  | 0, xs, _ => xs
  | k + 1, xs, i =>
    if n ≤ 2 * i + 1 then xs else
    if less (at_ d xs (kid d less n xs i)) (at_ d xs i) = true then down n k (swp d xs i (kid d less n xs i)) (kid d less n xs i) else xs
def up : Nat → List α → Nat → List α
  | 0, xs, _ => xs
  | k + 1, xs, j =>
    if j = 0 then xs else
    if less (at_ d xs j) (at_ d xs ((j - 1) / 2)) = true then up k (swp d xs ((j - 1) / 2) j) ((j - 1) / 2) else xs
/-- Init's rounds: at i, i - 1, .., 0 (i counts one more). -/
def build (n : Nat) : Nat → List α → List α
  | 0, xs => xs
  | i + 1, xs => build n i (down d less n (n + 1) xs i)
def push (xs : List α) (x : α) : List α := up d less (xs.length + 1) (xs ++ [x]) xs.length
/-- Behind Pop's exchange and down: the last is handed back, the others stay. -/
def popped (xs : List α) : List α := down d less (xs.length - 1) (xs.length) (swp d xs 0 (xs.length - 1)) 0
def pop (xs : List α) : List α := (popped d less xs).take (xs.length - 1)
end
section
variable {α : Type} {d : α} {less : α → α → Bool}
theorem swp_length (xs : List α) (i k : Nat) : (swp d xs i k).length = xs.length := by simp [swp]
theorem at_set (xs : List α) (i j : Nat) (a : α) (hi : i < xs.length) : at_ d (xs.set i a) j = if j = i then a else at_ d xs j := by
  unfold at_
  simp only [List.getD_eq_getElem?_getD, List.getElem?_set]
  by_cases h : i = j
  · subst h; simp [hi]
  · simp [h, Ne.symm h]
theorem at_swp (xs : List α) (i k j : Nat) (hi : i < xs.length) (hk : k < xs.length) : at_ d (swp d xs i k) j = if j = k then at_ d xs i else if j = i then at_ d xs k else at_ d xs j := by
  unfold swp
  rw [at_set _ _ _ _ (by simpa using hk), at_set _ _ _ _ hi]
theorem swp_perm (xs : List α) (i k : Nat) (hi : i < xs.length) (hk : k < xs.length) : (swp d xs i k).Perm xs := by
  have h := Array.swap_perm (xs := xs.toArray) (i := i) (j := k) (by simpa using hi) (by simpa using hk)
  have h2 := h.toList
  have e : (xs.toArray.swap i k (by simpa using hi) (by simpa using hk)).toList = swp d xs i k := by
    simp [Array.swap, swp, at_, List.getD_eq_getElem?_getD, List.getElem?_eq_getElem hi, List.getElem?_eq_getElem hk]
  rw [e] at h2
  simpa using h2
/-- From place a on each one is no greater than those beneath it, within the first n. -/
def Heap (d : α) (less : α → α → Bool) (xs : List α) (n a : Nat) : Prop :=
  ∀ i j, a ≤ i → (j = 2 * i + 1 ∨ j = 2 * i + 2) → j < n → less (at_ d xs j) (at_ d xs i) = false
structure Ord (less : α → α → Bool) : Prop where
  asym : ∀ a b, less a b = true → less b a = false
  trans : ∀ a b c, less b a = false → less c b = false → less c a = false
theorem down_perm (n : Nat) : ∀ (k : Nat) (xs : List α) (i : Nat), n ≤ xs.length → i < xs.length → (down d less n k xs i).Perm xs := by
  intro k
  induction k with
  | zero => intro xs i _ _; exact List.Perm.refl _
  | succ k ih =>
    intro xs i hn hi
    simp only [down]
    split
    · exact List.Perm.refl _
    · rename_i h1
      split
      · generalize hj : kid d less n xs i = j
        have hjl : j < n := by
          rw [← hj]; unfold kid; split
          · rename_i h; exact h.1
          · omega
        exact (ih _ j (by rw [swp_length]; exact hn) (by rw [swp_length]; omega)).trans (swp_perm xs i j hi (by omega))
      · exact List.Perm.refl _
theorem down_length (n k : Nat) (xs : List α) (i : Nat) (hn : n ≤ xs.length) (hi : i < xs.length) : (down d less n k xs i).length = xs.length := (down_perm n k xs i hn hi).length_eq
theorem down_far (n : Nat) : ∀ (k : Nat) (xs : List α) (i q : Nat), n ≤ xs.length → i < xs.length → (q < i ∨ n ≤ q) → i < n ∨ q ≠ i → at_ d (down d less n k xs i) q = at_ d xs q := by
  intro k
  induction k with
  | zero => intro xs i q _ _ _ _; rfl
  | succ k ih =>
    intro xs i q hn hi hq hq2
    simp only [down]
    split
    · rfl
    · rename_i h1
      split
      · generalize hj : kid d less n xs i = j
        have hjl : j < n ∧ i < j := by
          rw [← hj]; unfold kid; split
          · rename_i h; exact ⟨h.1, by omega⟩
          · omega
        rw [ih _ j q (by rw [swp_length]; exact hn) (by rw [swp_length]; omega) (by omega) (by omega), at_swp xs i j q hi (by omega), if_neg (by omega), if_neg (by omega)]
      · rfl
/-- down makes a heap from i0 on, where all beneath it was one; on its way: all but at i. -/
theorem down_heap (ho : Ord less) (n a : Nat) : ∀ (k : Nat) (xs : List α) (i : Nat), n ≤ xs.length → i < xs.length → a ≤ i → n < k + i →
    (∀ p j, a ≤ p → p ≠ i → (j = 2 * p + 1 ∨ j = 2 * p + 2) → j < n → less (at_ d xs j) (at_ d xs p) = false) →
    (∀ p j, a ≤ p → (i = 2 * p + 1 ∨ i = 2 * p + 2) → (j = 2 * i + 1 ∨ j = 2 * i + 2) → j < n → less (at_ d xs j) (at_ d xs p) = false) →
    Heap d less (down d less n k xs i) n a := by
  intro k
  induction k with
  | zero =>
    intro xs i hn hi ha hk h1 h2 p j hp hj hjn
    by_cases e : p = i
    · omega
    · exact h1 p j hp e hj hjn
  | succ k ih =>
    intro xs i hn hi ha hk h1 h2
    simp only [down]
    split
    · rename_i hb
      intro p j hp hj hjn
      by_cases e : p = i
      · omega
      · exact h1 p j hp e hj hjn
    · rename_i hb
      generalize hj : kid d less n xs i = j
      have hjl : j < n ∧ (j = 2 * i + 1 ∨ j = 2 * i + 2) := by
        rw [← hj]; unfold kid; split
        · rename_i h; exact ⟨h.1, by omega⟩
        · omega
      -- j is the lesser child
      have hmin : ∀ q, (q = 2 * i + 1 ∨ q = 2 * i + 2) → q < n → less (at_ d xs q) (at_ d xs j) = false := by
        have irr : ∀ x, less x x = false := fun x => by
          cases h : less x x
          · rfl
          · exact absurd (ho.asym x x h) (by rw [h]; decide)
        intro q hq hqn
        by_cases hc : 2 * i + 2 < n ∧ less (at_ d xs (2 * i + 2)) (at_ d xs (2 * i + 1)) = true
        · unfold kid at hj; rw [if_pos hc] at hj
          subst hj
          rcases hq with rfl | rfl
          · exact ho.asym _ _ hc.2
          · exact irr _
        · unfold kid at hj; rw [if_neg hc] at hj
          subst hj
          rcases hq with rfl | rfl
          · exact irr _
          · cases hx : less (at_ d xs (2 * i + 2)) (at_ d xs (2 * i + 1))
            · rfl
            · exact absurd ⟨hqn, hx⟩ hc
      split
      · rename_i hlt
        have hil : i < n := by omega
        refine ih _ j (by rw [swp_length]; exact hn) (by rw [swp_length]; omega) (by omega) (by omega) ?_ ?_
        · intro p q hp hpj hq hqn
          rw [at_swp xs i j q hi (by omega), at_swp xs i j p hi (by omega)]
          by_cases hpi : p = i
          · -- the exchanged parent: xs[j] now
            subst hpi
            rw [if_neg hpj, if_pos rfl]
            by_cases hqj : q = j
            · rw [if_pos hqj]; exact ho.asym _ _ hlt
            · rw [if_neg hqj, if_neg (by omega)]; exact hmin q hq hqn
          · rw [if_neg hpj, if_neg hpi]
            by_cases hqj : q = j
            · exfalso; omega
            · rw [if_neg hqj]
              by_cases hqi : q = i
              · rw [if_pos hqi]
                -- p is i's parent: its grandchild j
                exact h2 p j hp (by omega) hjl.2 hjl.1
              · rw [if_neg hqi]; exact h1 p q hp hpi hq hqn
        · intro p q hp hjp hq hqn
          have hpi : p = i := by omega
          subst hpi
          rw [at_swp xs p j q hi (by omega), at_swp xs p j p hi (by omega), if_neg (by omega : ¬ q = j), if_neg (by omega : ¬ q = p), if_neg (by omega : ¬ p = j), if_pos rfl]
          exact h1 j q (by omega) (by omega) hq hqn
      · rename_i hlt
        have hlt' : less (at_ d xs j) (at_ d xs i) = false := by
          cases h : less (at_ d xs j) (at_ d xs i)
          · rfl
          · exact absurd h hlt
        intro p q hp hq hqn
        by_cases hpi : p = i
        · subst hpi
          exact ho.trans _ _ _ hlt' (hmin q hq hqn)
        · exact h1 p q hp hpi hq hqn
/-- The first of a heap is none of the greater. -/
theorem heap_least (ho : Ord less) {xs : List α} {n : Nat} (h : Heap d less xs n 0) : ∀ j, j < n → less (at_ d xs j) (at_ d xs 0) = false := by
  have irr : ∀ x, less x x = false := fun x => by
    cases h : less x x
    · rfl
    · exact absurd (ho.asym x x h) (by rw [h]; decide)
  intro j
  induction j using Nat.strongRecOn with
  | _ j ih =>
    intro hj
    by_cases h0 : j = 0
    · subst h0; exact irr _
    · have h1 := ih ((j - 1) / 2) (by omega) (by omega)
      have h2 := h ((j - 1) / 2) j (Nat.zero_le _) (by omega) hj
      exact ho.trans _ _ _ h1 h2
theorem popped_length (xs : List α) (h : xs ≠ []) : (popped d less xs).length = xs.length := by
  have hl : 0 < xs.length := List.length_pos_iff.2 h
  unfold popped
  rw [down_length _ _ _ _ (by rw [swp_length]; omega) (by rw [swp_length]; omega), swp_length]
theorem popped_last (xs : List α) (h : xs ≠ []) : at_ d (popped d less xs) (xs.length - 1) = at_ d xs 0 := by
  have hl : 0 < xs.length := List.length_pos_iff.2 h
  unfold popped
  by_cases h1 : xs.length = 1
  · rw [h1]
    have : down d less (1 - 1) 1 (swp d xs 0 (1 - 1)) 0 = swp d xs 0 0 := by simp [down]
    rw [this, at_swp xs 0 0 _ hl hl]
    simp
  · rw [down_far _ _ _ _ _ (by rw [swp_length]; omega) (by rw [swp_length]; omega) (by omega) (by omega), at_swp xs 0 _ _ hl (by omega), if_pos rfl]
theorem pop_spec (ho : Ord less) (xs : List α) (h : xs ≠ []) (hh : Heap d less xs xs.length 0) :
    xs.Perm (at_ d xs 0 :: pop d less xs) ∧ (pop d less xs).length = xs.length - 1 ∧ Heap d less (pop d less xs) (xs.length - 1) 0 ∧ ∀ y, y ∈ pop d less xs → less y (at_ d xs 0) = false := by
  have hl : 0 < xs.length := List.length_pos_iff.2 h
  have hpl := popped_length (d := d) (less := less) xs h
  have hlast := popped_last (d := d) (less := less) xs h
  have hperm : (popped d less xs).Perm xs := by
    unfold popped
    exact (down_perm _ _ _ _ (by rw [swp_length]; omega) (by rw [swp_length]; omega)).trans (swp_perm xs 0 _ hl (by omega))
  have hsplit : popped d less xs = pop d less xs ++ [at_ d xs 0] := by
    have e1 : popped d less xs = (popped d less xs).take (xs.length - 1) ++ (popped d less xs).drop (xs.length - 1) := (List.take_append_drop _ _).symm
    rw [e1]
    congr 1
    rw [List.drop_eq_getElem_cons (by omega), List.drop_of_length_le (by omega)]
    rw [← hlast]
    simp [at_, List.getD_eq_getElem?_getD, List.getElem?_eq_getElem (show xs.length - 1 < (popped d less xs).length by omega)]
  have hp1 : xs.Perm (at_ d xs 0 :: pop d less xs) := by
    have h2 := hperm.symm
    rw [hsplit] at h2
    exact h2.trans List.perm_append_comm
  have hplen : (pop d less xs).length = xs.length - 1 := by unfold pop; rw [List.length_take, hpl]; omega
  have hheap : Heap d less (popped d less xs) (xs.length - 1) 0 := by
    unfold popped
    by_cases h1 : xs.length = 1
    · intro i j _ _ hj; omega
    · refine down_heap ho _ 0 _ _ 0 (by rw [swp_length]; omega) (by rw [swp_length]; omega) (Nat.le_refl _) (by omega) ?_ ?_
      · intro p j _ hp0 hj hjn
        rw [at_swp xs 0 _ _ hl (by omega), at_swp xs 0 _ _ hl (by omega), if_neg (by omega), if_neg (by omega), if_neg (by omega), if_neg (by omega)]
        exact hh p j (Nat.zero_le _) hj (by omega)
      · intro p j _ hip; omega
  refine ⟨hp1, hplen, ?_, ?_⟩
  · intro i j hi hj hjn
    have e : ∀ q, q < xs.length - 1 → at_ d (pop d less xs) q = at_ d (popped d less xs) q := by
      intro q hq
      simp [pop, at_, List.getD_eq_getElem?_getD, hq]
    rw [e j hjn, e i (by omega)]
    exact hheap i j hi hj hjn
  · intro y hy
    have hy2 : y ∈ xs := hp1.symm.mem_iff.1 (List.mem_cons_of_mem _ hy)
    obtain ⟨j, hj, rfl⟩ := List.getElem_of_mem hy2
    have := heap_least ho hh j hj
    simpa [at_, List.getD_eq_getElem?_getD, List.getElem?_eq_getElem hj] using this
theorem up_perm : ∀ (k : Nat) (xs : List α) (j : Nat), j < xs.length → (up d less k xs j).Perm xs := by
  intro k
  induction k with
  | zero => intro xs j _; exact List.Perm.refl _
  | succ k ih =>
    intro xs j hj
    simp only [up]
    split
    · exact List.Perm.refl _
    · split
      · exact (ih _ _ (by rw [swp_length]; omega)).trans (swp_perm xs _ j (by omega) hj)
      · exact List.Perm.refl _
theorem up_heap (ho : Ord less) (n : Nat) : ∀ (k : Nat) (xs : List α) (j : Nat), n = xs.length → j < n → j < k →
    (∀ p q, (q = 2 * p + 1 ∨ q = 2 * p + 2) → q < n → q ≠ j → less (at_ d xs q) (at_ d xs p) = false) →
    (∀ p q, (j = 2 * p + 1 ∨ j = 2 * p + 2) → (q = 2 * j + 1 ∨ q = 2 * j + 2) → q < n → less (at_ d xs q) (at_ d xs p) = false) →
    Heap d less (up d less k xs j) n 0 := by
  intro k
  induction k with
  | zero => intro xs j _ _ hk; omega
  | succ k ih =>
    intro xs j hn hj hk h1 h2
    simp only [up]
    split
    · rename_i h0
      intro p q _ hq hqn
      exact h1 p q hq hqn (by omega)
    · rename_i h0
      split
      · rename_i hlt
        generalize hi : (j - 1) / 2 = i at hlt ⊢
        have hij : j = 2 * i + 1 ∨ j = 2 * i + 2 := by omega
        have hil : i < xs.length := by omega
        refine ih _ i (by rw [swp_length]; exact hn) (by omega) (by omega) ?_ ?_
        · intro p q hq hqn hqi
          rw [at_swp xs i j q hil (by omega), at_swp xs i j p hil (by omega)]
          by_cases hqj : q = j
          · have hpi : p = i := by omega
            subst hpi
            rw [if_pos hqj, if_neg (by omega), if_pos rfl]
            exact ho.asym _ _ hlt
          · rw [if_neg hqj, if_neg hqi]
            by_cases hpj : p = j
            · subst hpj
              rw [if_pos rfl]
              exact h2 i q hij hq hqn
            · rw [if_neg hpj]
              by_cases hpi : p = i
              · subst hpi
                rw [if_pos rfl]
                exact ho.trans _ _ _ (ho.asym _ _ hlt) (h1 p q hq hqn hqj)
              · rw [if_neg hpi]
                exact h1 p q hq hqn hqj
        · intro p q hip hq hqn
          rw [at_swp xs i j q hil (by omega), at_swp xs i j p hil (by omega), if_neg (by omega : ¬ p = j), if_neg (by omega : ¬ p = i)]
          have hpi := h1 p i hip (by omega) (by omega)
          by_cases hqj : q = j
          · rw [if_pos hqj]; exact hpi
          · rw [if_neg hqj, if_neg (by omega)]
            exact ho.trans _ _ _ hpi (h1 i q hq hqn hqj)
      · rename_i hlt
        have hlt' : less (at_ d xs j) (at_ d xs ((j - 1) / 2)) = false := by
          cases h : less (at_ d xs j) (at_ d xs ((j - 1) / 2))
          · rfl
          · exact absurd h hlt
        intro p q _ hq hqn
        by_cases hqj : q = j
        · subst hqj
          have : p = (q - 1) / 2 := by omega
          rw [this]; exact hlt'
        · exact h1 p q hq hqn hqj
theorem push_spec (ho : Ord less) (xs : List α) (x : α) (hh : Heap d less xs xs.length 0) : Heap d less (push d less xs x) (xs.length + 1) 0 ∧ (push d less xs x).Perm (x :: xs) := by
  have ha : ∀ q, q < xs.length → at_ d (xs ++ [x]) q = at_ d xs q := by
    intro q hq
    simp [at_, List.getD_eq_getElem?_getD, List.getElem?_append_left hq]
  refine ⟨?_, ?_⟩
  · unfold push
    refine up_heap ho (xs.length + 1) _ _ _ (by simp) (by omega) (by omega) ?_ ?_
    · intro p q hq hqn hqj
      rw [ha q (by omega), ha p (by omega)]
      exact hh p q (Nat.zero_le _) hq (by omega)
    · intro p q hp hq hqn; omega
  · unfold push
    exact (up_perm _ _ _ (by simp)).trans List.perm_append_comm
theorem push_length (xs : List α) (x : α) : (push d less xs x).length = xs.length + 1 := by
  unfold push
  rw [(up_perm _ _ _ (by simp)).length_eq]
  simp
end
end Go.Proofs.Ythpjpkcfepmhkaa.Hp
namespace Go.Proofs.Ythpjpkcfepmhkaa.PAll.W
open Go.RowKit Go.Proofs.YthpjpkcfepmhkaaW.PrintWords Go.Proofs.YthpjpkcfepmhkaaW.PrintLast Go.Proofs.YthpjpkcfepmhkaaW.PrintMore
set_option linter.unusedVariables false
set_option linter.unusedSimpArgs false
def less (a b : ByteArray) : Bool := Op.bytesLess a.toList b.toList
/-- The variable at the head of block g holds v, a row of one's own that reads as xs; behind it in the block: rest. -/
def HS (w : World) (base g : Nat) (rest : List Value) (v : Value) (xs : List ByteArray) : Prop := w.heap[g]? = some (.cells (v :: rest).toArray 89 (0, 0)) ∧ Kd.R Kd.string 9 w base (fun _ => True) v xs
theorem row_cell {w : World} {base b c n : Nat} {ok : Nat → Prop} {xs : List ByteArray} (h : Kd.R Kd.string 9 w base ok (.slice (some ⟨b, 0, none⟩) n c) xs) (i : Nat) (hi : i < xs.length) :
    w.cell? ⟨b, i, none⟩ = some (.string (Hp.at_ ByteArray.empty xs i)) ∧ w.frozen? ⟨b, i, none⟩ = false := by
  obtain ⟨hn, _, _⟩ := Kd.R_reads' h
  subst hn
  have := Kd.R_cell (enc := Value.string) (h1 := fun _ => rfl) ByteArray.empty h (i : Int) (Int.natCast_nonneg _) (by omega)
  simp only [Int.toNat_natCast] at this
  exact this
set_option maxHeartbeats 1000000 in
theorem less_calls (w : World) (base : Nat) (ok : Nat → Prop) (v : Value) (xs : List ByteArray) (i k : Int) (hR : Kd.R Kd.string 9 w base ok v xs) (hi0 : 0 ≤ i) (hi : i < xs.length) (hk0 : 0 ≤ k) (hk : k < xs.length) :
    Calls Try.prog 91 #[v, .int .i64 i, .int .i64 k] w fun e w' => e = .returned (.bool (less (Hp.at_ ByteArray.empty xs i.toNat) (Hp.at_ ByteArray.empty xs k.toNat))) ∧ Below w.heap.size w w' := by
  obtain ⟨b, c, rfl, hbb, hbl, _⟩ := Kd.R_form hR (by omega)
  obtain ⟨i, rfl⟩ := Int.eq_ofNat_of_zero_le hi0
  obtain ⟨k, rfl⟩ := Int.eq_ofNat_of_zero_le hk0
  simp only [Int.toNat_natCast]
  obtain ⟨h0, _⟩ := row_cell hR i (by omega)
  obtain ⟨g0, _⟩ := row_cell hR k (by omega)
  clear hR
  generalize Hp.at_ ByteArray.empty xs i = x at *
  generalize Hp.at_ ByteArray.empty xs k = y at *
  generalize xs.length = n at *
  unfold less
  go_enter Try.func91, Try.ntmps91
  go_wp2
  go_region
  all_goals go_wp2
  all_goals (go_ret; exact ⟨rfl, by repeat (first | exact Below.refl _ _ | apply below_drew | apply below_alloc)⟩)
/-- Element i of a row of one's own is written. -/
theorem row_set {w : World} {base b c n : Nat} {ok : Nat → Prop} {xs : List ByteArray} (h : Kd.R Kd.string 9 w base ok (.slice (some ⟨b, 0, none⟩) n c) xs) (i : Nat) (x : ByteArray) :
    Kd.R Kd.string 9 (w.setCell ⟨b, i, none⟩ (.string x)) base ok (.slice (some ⟨b, 0, none⟩) n c) (xs.set i x) ∧ w.grownBy (w.setCell ⟨b, i, none⟩ (.string x)) (some b) := by
  obtain ⟨hn, _, _⟩ := Kd.R_reads' h
  subst hn
  have := Kd.R_put (enc := Value.string) (h1 := fun _ => rfl) h (i : Int) x
  simp only [Int.toNat_natCast] at this
  exact this
theorem two_set {w0 w w1 w2 : World} {base g b n c : Nat} {rest : List Value} {v : Value} {ys : List ByteArray} (gr1 : w.grownBy w1 (some b)) (gr2 : w1.grownBy w2 (some b)) (r2 : Kd.R Kd.string 9 w2 base (fun _ => True) (.slice (some ⟨b, 0, none⟩) n c) ys)
    (hg : w.heap[g]? = some (.cells (v :: rest).toArray 89 (0, 0))) (hbg : g ≠ b) (hB : Below base w0 w) (hbs : base ≤ w.heap.size) (hbb : base ≤ b) :
    w2.drew.heap[g]? = some (.cells (v :: rest).toArray 89 (0, 0)) ∧ Kd.R Kd.string 9 w2.drew base (fun _ => True) (.slice (some ⟨b, 0, none⟩) n c) ys ∧ Below base w0 w2.drew ∧ KeepBut w w2.drew g (some b) := by
  have gr := World.grownBy.trans gr1 gr2
  refine ⟨?_, Kd.R_drew r2, below_drew (hB.grown gr hbs (fun k hk => by injection hk with hk; omega)), KeepBut.of_grown (w1 := w2.drew) ⟨gr.os, gr.tape, gr.output, gr.size, gr.block⟩ g⟩
  exact (gr.block g (blk_lt hg) (fun e => hbg (by injection e))).trans hg
set_option maxHeartbeats 1000000 in
theorem swap_calls (w0 w : World) (base g : Nat) (rest : List Value) (v : Value) (xs : List ByteArray) (i k : Int) (hs : HS w base g rest v xs) (hB : Below base w0 w) (hbs : base ≤ w.heap.size) (hi0 : 0 ≤ i) (hi : i < xs.length) (hk0 : 0 ≤ k) (hk : k < xs.length) :
    Calls Try.prog 92 #[v, .int .i64 i, .int .i64 k] w fun e w' => e = .returned (.tuple #[]) ∧ HS w' base g rest v (Hp.swp ByteArray.empty xs i.toNat k.toNat) ∧ Below base w0 w' ∧ KeepBut w w' g v.ownBlock := by
  obtain ⟨hg, hR⟩ := hs
  have hne := Kd.R_ne hR hg (by decide)
  obtain ⟨b, c, rfl, hbb, hbl, _⟩ := Kd.R_form hR (by omega)
  obtain ⟨i, rfl⟩ := Int.eq_ofNat_of_zero_le hi0
  obtain ⟨k, rfl⟩ := Int.eq_ofNat_of_zero_le hk0
  simp only [Int.toNat_natCast]
  obtain ⟨h0, f0⟩ := row_cell hR i (by omega)
  obtain ⟨g0, e0⟩ := row_cell hR k (by omega)
  have hfin : ∀ W, W = ((w.setCell ⟨b, i, none⟩ (.string (Hp.at_ ByteArray.empty xs k))).setCell ⟨b, k, none⟩ (.string (Hp.at_ ByteArray.empty xs i))).drew →
      HS W base g rest (.slice (some ⟨b, 0, none⟩) xs.length c) (Hp.swp ByteArray.empty xs i k) ∧ Below base w0 W ∧ KeepBut w W g (some b) := by
    intro W hW
    obtain ⟨r1, gr1⟩ := row_set hR i (Hp.at_ ByteArray.empty xs k)
    obtain ⟨r2, gr2⟩ := row_set r1 k (Hp.at_ ByteArray.empty xs i)
    have hbg : g ≠ b := fun e => hne (by rw [e]; rfl)
    subst hW
    unfold Hp.swp HS
    obtain ⟨a1, a2, a3, a4⟩ := two_set gr1 gr2 r2 hg hbg hB hbs hbb
    exact ⟨⟨a1, a2⟩, a3, a4⟩
  have HF := Lib.hid hfin
  clear hfin hR hne hg hB
  rcases Nat.lt_trichotomy i k with hik | rfl | hik
  · generalize Hp.at_ ByteArray.empty xs i = x at *
    generalize Hp.at_ ByteArray.empty xs k = y at *
    generalize Hp.swp ByteArray.empty xs i k = ys at *
    generalize xs.length = n at *
    go_enter Try.func92, Try.ntmps92
    go_wp2
    go_region
    all_goals (go_end0; exact ⟨rfl, HF.out _ rfl⟩)
  · clear g0 e0
    generalize Hp.at_ ByteArray.empty xs i = x at *
    generalize Hp.swp ByteArray.empty xs i i = ys at *
    generalize xs.length = n at *
    go_enter Try.func92, Try.ntmps92
    go_wp2
    go_region
    all_goals (go_end0; exact ⟨rfl, HF.out _ rfl⟩)
  · generalize Hp.at_ ByteArray.empty xs i = x at *
    generalize Hp.at_ ByteArray.empty xs k = y at *
    generalize Hp.swp ByteArray.empty xs i k = ys at *
    generalize xs.length = n at *
    go_enter Try.func92, Try.ntmps92
    go_wp2
    go_region
    all_goals (go_end0; exact ⟨rfl, HF.out _ rfl⟩)
theorem cell0 {w : World} {g t : Nat} {rest : List Value} {v : Value} (h : w.heap[g]? = some (.cells (v :: rest).toArray t (0, 0))) : w.cell? ⟨g, 0, none⟩ = some v ∧ w.frozen? ⟨g, 0, none⟩ = false :=
  ⟨(blk_cell h 0).trans (by simp), blk_frozen h _⟩
theorem set0 {w : World} {g t : Nat} {rest : List Value} {v : Value} (h : w.heap[g]? = some (.cells (v :: rest).toArray t (0, 0))) (u : Value) : (w.setCell ⟨g, 0, none⟩ u).heap[g]? = some (.cells (u :: rest).toArray t (0, 0)) :=
  (blk_set h 0 u).trans (by simp)
theorem HS_below {w w1 : World} {base g : Nat} {rest : List Value} {v : Value} {xs : List ByteArray} (h : HS w base g rest v xs) (hb : Below w.heap.size w w1) : HS w1 base g rest v xs :=
  ⟨(hb.block g (blk_lt h.1)).trans h.1, Kd.R_below h.2 hb⟩
theorem HS_cell {w : World} {base g : Nat} {rest : List Value} {v : Value} {xs : List ByteArray} (h : HS w base g rest v xs) : w.cell? ⟨g, 0, none⟩ = some v := (cell0 h.1).1
theorem keep_below {w w1 w2 : World} {g : Nat} {row : Option Nat} (h : KeepBut w w1 g row) (k : Below w1.heap.size w1 w2) : KeepBut w w2 g row := h.trans (KeepBut.of_below k g row) (.inl rfl)
theorem Below_size {B : Nat} {w w1 : World} (h : Below B w w1) (hB : B ≤ w.heap.size) : B ≤ w1.heap.size := by have := h.size; omega
theorem keep_none {w w1 : World} {g : Nat} {row : Option Nat} (h : KeepBut w w1 g none) : KeepBut w w1 g row := ⟨h.1, fun i hi hg _ => h.2 i hi hg (by simp)⟩
end Go.Proofs.Ythpjpkcfepmhkaa.PAll.W
namespace Go.Proofs.Ythpjpkcfepmhkaa.PAll.W
open Go.RowKit Go.Proofs.YthpjpkcfepmhkaaW.PrintWords Go.Proofs.YthpjpkcfepmhkaaW.PrintLast Go.Proofs.YthpjpkcfepmhkaaW.PrintMore
set_option linter.unusedVariables false
set_option linter.unusedSimpArgs false
theorem infoE : (Try.prog.info? 9).map (fun i => (i.zero, i.size, i.bytes)) = some (some (.string ⟨#[]⟩), 1, 16) := by kernel_rfl
theorem bind_eq_ (x : Sem Value) (f : Value → Sem (Nat × Value)) : Sem.bind x f = x >>= f := rfl
theorem pure_eq_ (x : Nat × Value) : Sem.pure x = pure x := rfl
theorem meth_Len0 (a : Addr) (w : World) : (method 234 117 (.pointer (some a)) "Len").run Try.prog w = (Sem.bind (loadVar 87 a) (fun v => Sem.pure ((90 : Nat), v))).run Try.prog w := by kernel_rfl
theorem meth_Len (g : Nat) (v : Value) (w : World) (h : w.cell? ⟨g, 0, none⟩ = some v) : (method 234 117 (.pointer (some ⟨g, 0, none⟩)) "Len").run Try.prog w = .ok (90, v) w := by
  rw [meth_Len0, bind_eq_]; simp only [pure_eq_, Sem.run_bind, Sem.run_pure]; go_simp
theorem meth_Less0 (a : Addr) (w : World) : (method 234 117 (.pointer (some a)) "Less").run Try.prog w = (Sem.bind (loadVar 87 a) (fun v => Sem.pure ((91 : Nat), v))).run Try.prog w := by kernel_rfl
theorem meth_Less (g : Nat) (v : Value) (w : World) (h : w.cell? ⟨g, 0, none⟩ = some v) : (method 234 117 (.pointer (some ⟨g, 0, none⟩)) "Less").run Try.prog w = .ok (91, v) w := by
  rw [meth_Less0, bind_eq_]; simp only [pure_eq_, Sem.run_bind, Sem.run_pure]; go_simp
theorem meth_Swap0 (a : Addr) (w : World) : (method 234 117 (.pointer (some a)) "Swap").run Try.prog w = (Sem.bind (loadVar 87 a) (fun v => Sem.pure ((92 : Nat), v))).run Try.prog w := by kernel_rfl
theorem meth_Swap (g : Nat) (v : Value) (w : World) (h : w.cell? ⟨g, 0, none⟩ = some v) : (method 234 117 (.pointer (some ⟨g, 0, none⟩)) "Swap").run Try.prog w = .ok (92, v) w := by
  rw [meth_Swap0, bind_eq_]; simp only [pure_eq_, Sem.run_bind, Sem.run_pure]; go_simp
theorem meth_Pop (a : Addr) (w : World) : (method 234 117 (.pointer (some a)) "Pop").run Try.prog w = .ok (93, .pointer (some a)) w := by kernel_rfl
theorem meth_Push (a : Addr) (w : World) : (method 234 117 (.pointer (some a)) "Push").run Try.prog w = .ok (94, .pointer (some a)) w := by kernel_rfl
set_option maxHeartbeats 1000000 in
theorem len_calls (A : Option Addr) (n c : Nat) (w : World) (hn : (n : Int) ≤ 9223372036854775807) :
    Calls Try.prog 90 #[.slice A n c] w fun e w' => e = .returned (.int .i64 n) ∧ w = w' := by
  go_enter Try.func90, Try.ntmps90
  go_wp2
  go_ret
  exact ⟨rfl, rfl⟩
set_option maxHeartbeats 1000000 in
theorem popm_calls (w0 w : World) (base g : Nat) (rest : List Value) (A : Option Addr) (n c : Nat) (xs : List ByteArray) (hs : HS w base g rest (.slice A n c) xs) (hB : Below base w0 w) (hbs : base ≤ w.heap.size) (hbg : base ≤ g) (hn : 0 < xs.length) :
    Calls Try.prog 93 #[.pointer (some ⟨g, 0, none⟩)] w fun e w' => e = .returned (.iface 9 (.string (Hp.at_ ByteArray.empty xs (xs.length - 1)))) ∧
      HS w' base g rest (.slice A (xs.length - 1) c) (xs.take (xs.length - 1)) ∧ Below base w0 w' ∧ KeepBut w w' g none := by
  obtain ⟨hg, hR⟩ := hs
  obtain ⟨hcell, hfz⟩ := cell0 hg
  obtain ⟨b, c', he, hbb, hbl, _⟩ := Kd.R_form hR hn
  injection he with he1 he2 he3
  subst he1; subst he2; subst he3
  obtain ⟨_, hnc, hC⟩ := Kd.R_reads' hR
  have hm := hC.2.1
  obtain ⟨h0, _⟩ := row_cell hR (xs.length - 1) (by omega)
  have hgl := blk_lt hg
  have hneq : g ≠ b := fun e => Kd.R_ne hR hg (by decide) (by rw [e]; rfl)
  have hT := Kd.R_take hR (m := xs.length - 1) (by omega)
  have hfin : HS (w.setCell ⟨g, 0, none⟩ (.slice (some ⟨b, 0, none⟩) (xs.length - 1) c)) base g rest (.slice (some ⟨b, 0, none⟩) (xs.length - 1) c) (xs.take (xs.length - 1)) ∧ Below base w0 (w.setCell ⟨g, 0, none⟩ (.slice (some ⟨b, 0, none⟩) (xs.length - 1) c)) ∧ KeepBut w (w.setCell ⟨g, 0, none⟩ (.slice (some ⟨b, 0, none⟩) (xs.length - 1) c)) g none :=
    ⟨⟨set0 hg _, Kd.R_set hT hg (by decide) 0 _⟩, hB.setCell hbg _, (KeepBut.refl w g none).set_ 0 _⟩
  have HF := Lib.hid hfin
  have hcut : ∀ W, (Instr.slice 87 (.slice (some ⟨b, 0, none⟩) xs.length c) none (some (.int .i64 ((xs.length : Int) - 1))) none).run Try.prog W = .ok (.slice (some ⟨b, 0, none⟩) (xs.length - 1) c) W := by
    intro W
    obtain ⟨i0, hi, _⟩ := Option.map_eq_some_iff.1 infoE
    have := cut_to (P := Try.prog) 87 9 .i64 Try.underlying87 hi (some ⟨b, 0, none⟩) xs.length c ((xs.length : Int) - 1) (by omega) (by omega) hnc W
    rw [this, show ((xs.length : Int) - 1).toNat = xs.length - 1 from by omega]
  clear hfin hT hR hg hB hC
  generalize Hp.at_ ByteArray.empty xs (xs.length - 1) = x at *
  generalize xs.take (xs.length - 1) = ys at *
  generalize xs.length = n at *
  obtain ⟨m, rfl⟩ : ∃ m, n = m + 1 := ⟨n - 1, by omega⟩
  simp only [Nat.add_sub_cancel] at *
  have hix : ((m + 1 : Nat) : Int) - 1 = (m : Int) := by omega
  rw [hix] at hcut
  clear hix
  go_enter Try.func93, Try.ntmps93
  go_wp2
  go_ret
  exact ⟨rfl, HF.out⟩
def DownPost (w0 w : World) (base g n : Nat) (rest : List Value) (v : Value) (xs : List ByteArray) (i0 : Nat) (w' : World) : Prop := HS w' base g rest v (Hp.down ByteArray.empty less n (n + 1) xs i0) ∧ Below base w0 w' ∧ KeepBut w w' g v.ownBlock
def DownEnd (w0 w : World) (base g n : Nat) (rest : List Value) (v : Value) (xs : List ByteArray) (i0 : Nat) (e : Ending) (w' : World) : Prop := ∃ r : Bool, e = .returned (.bool r) ∧ DownPost w0 w base g n rest v xs i0 w'
/-- One round of down, its three ways, each as a fact on what is left. -/
theorem down_stop {n kq i : Nat} {ys : List ByteArray} (h : n ≤ 2 * i + 1) : Hp.down ByteArray.empty less n (kq + 1) ys i = ys := by simp [Hp.down, h]
theorem down_still {n kq i j : Nat} {ys : List ByteArray} (h : ¬ n ≤ 2 * i + 1) (hj : Hp.kid ByteArray.empty less n ys i = j) (hl : less (Hp.at_ ByteArray.empty ys j) (Hp.at_ ByteArray.empty ys i) = false) : Hp.down ByteArray.empty less n (kq + 1) ys i = ys := by simp [Hp.down, h, hj, hl]
theorem down_go {n kq i j : Nat} {ys : List ByteArray} (h : ¬ n ≤ 2 * i + 1) (hj : Hp.kid ByteArray.empty less n ys i = j) (hl : less (Hp.at_ ByteArray.empty ys j) (Hp.at_ ByteArray.empty ys i) = true) : Hp.down ByteArray.empty less n (kq + 1) ys i = Hp.down ByteArray.empty less n kq (Hp.swp ByteArray.empty ys i j) j := by simp [Hp.down, h, hj, hl]
theorem kid_two {n i : Nat} {ys : List ByteArray} (h : 2 * i + 2 < n) (hl : less (Hp.at_ ByteArray.empty ys (2 * i + 2)) (Hp.at_ ByteArray.empty ys (2 * i + 1)) = true) : Hp.kid ByteArray.empty less n ys i = 2 * i + 2 := by simp [Hp.kid, h, hl]
theorem kid_one {n i : Nat} {ys : List ByteArray} (h : 2 * i + 2 < n) (hl : less (Hp.at_ ByteArray.empty ys (2 * i + 2)) (Hp.at_ ByteArray.empty ys (2 * i + 1)) = false) : Hp.kid ByteArray.empty less n ys i = 2 * i + 1 := by simp [Hp.kid, hl]
theorem kid_alone {n i : Nat} {ys : List ByteArray} (h : ¬ 2 * i + 2 < n) : Hp.kid ByteArray.empty less n ys i = 2 * i + 1 := by simp [Hp.kid, h]
/-- less as the walk asks it: the answer by name. -/
theorem less_named {W : World} {base g : Nat} {rest : List Value} {v : Value} {xs : List ByteArray} (hs : HS W base g rest v xs) (i k : Int) (a c : Nat) (ha : i = a) (hc : k = c) (hal : a < xs.length) (hcl : c < xs.length) {b : Bool} (hb : less (Hp.at_ ByteArray.empty xs a) (Hp.at_ ByteArray.empty xs c) = b) :
    Calls Try.prog 91 #[v, .int .i64 i, .int .i64 k] W fun e w' => e = .returned (.bool b) ∧ Below W.heap.size W w' := by
  subst ha; subst hc; subst hb
  exact less_calls W base (fun _ => True) v xs a c hs.2 (Int.natCast_nonneg _) (by omega) (Int.natCast_nonneg _) (by omega)
theorem swap_named {w0 W : World} {base g : Nat} {rest : List Value} {v : Value} {xs : List ByteArray} (hs : HS W base g rest v xs) (hB : Below base w0 W) (i k : Int) (a c : Nat) (ha : i = a) (hc : k = c) (hal : a < xs.length) (hcl : c < xs.length) (hbs : base ≤ W.heap.size) :
    Calls Try.prog 92 #[v, .int .i64 i, .int .i64 k] W fun e w' => e = .returned (.tuple #[]) ∧ HS w' base g rest v (Hp.swp ByteArray.empty xs a c) ∧ Below base w0 w' ∧ KeepBut W w' g v.ownBlock := by
  subst ha; subst hc
  exact swap_calls w0 W base g rest v xs a c hs hB hbs (Int.natCast_nonneg _) (by omega) (Int.natCast_nonneg _) (by omega)
set_option maxHeartbeats 8000000 in
theorem down_calls (w0 w : World) (base g : Nat) (rest : List Value) (v : Value) (xs : List ByteArray) (i0 n : Int) (hs : HS w base g rest v xs) (hB : Below base w0 w) (hbs : base ≤ w.heap.size) (h0 : 0 ≤ i0) (hi : i0 < xs.length) (hin : i0 ≤ n) (hn : n ≤ xs.length) (hl : (xs.length : Int) ≤ 1099511627776) :
    Calls Try.prog 62 #[.iface 117 (.pointer (some ⟨g, 0, none⟩)), .int .i64 i0, .int .i64 n] w (DownEnd w0 w base g n.toNat rest v xs i0.toNat) := by
  obtain ⟨i0, rfl⟩ := Int.eq_ofNat_of_zero_le h0
  obtain ⟨n, rfl⟩ := Int.eq_ofNat_of_zero_le (show 0 ≤ n by omega)
  simp only [Int.toNat_natCast]
  have HS0 := Lib.hid hs
  have HB0 := Lib.hid hB
  have hless := meth_Less g v
  have hswap := meth_Swap g v
  clear hs hB
  go_enter Try.func62, Try.ntmps62
  go_wp2
  go_loopg [7] (n + 1) (fun kq v7 w' => ∃ (i : Nat) (ys : List ByteArray), v7 = .int .i64 i ∧ Aside0 (i < xs.length ∧ i ≤ n ∧ n < kq + i ∧ ys.length = xs.length ∧ Hp.down ByteArray.empty less n kq ys i = Hp.down ByteArray.empty less n (n + 1) xs i0) ∧ Aside0 (HS w' base g rest v ys ∧ Below base w0 w' ∧ KeepBut w w' g v.ownBlock))
  case atStart => exact ⟨i0, xs, rfl, ⟨by omega, by omega, by omega, rfl, rfl⟩, HS0.out, HB0.out, KeepBut.refl _ _ _⟩
  case round =>
    obtain ⟨i, ys, rfl, HA, HW⟩ := hrel
    obtain ⟨hil, hin', hk, hyl, hd⟩ := HA.out
    obtain ⟨hsy, hby, hky⟩ := HW.out
    clear HA HW
    obtain ⟨kq, rfl⟩ : ∃ kq, gk = kq + 1 := ⟨gk - 1, by omega⟩
    have hbw : base ≤ wr.heap.size := by have := hky.1; omega
    have hcw := HS_cell hsy
    by_cases c1 : n ≤ 2 * i + 1
    · rw [down_stop c1] at hd
      have HD := Lib.hid hd
      have HW := Lib.hid (And.intro hsy (And.intro hby hky))
      clear hd hsy hby hky hyl
      go_wp2
      go_ret
      exact ⟨_, rfl, by unfold DownPost; rw [← HD.out]; exact HW.out⟩
    · have HW := Lib.hid (And.intro hsy (And.intro hby hky))
      have HD := Lib.hid hd
      have HYL := Lib.hid hyl
      clear hd hsy hby hky hyl
      by_cases c2 : 2 * i + 2 < n
      · cases hl1 : less (Hp.at_ ByteArray.empty ys (2 * i + 2)) (Hp.at_ ByteArray.empty ys (2 * i + 1)) with
        | true =>
          have HKID := Lib.hid (kid_two c2 hl1)
          have HL1 := Lib.hid hl1
          clear hl1
          go_wp2_with fail
          refine (less_named HW.out.1 _ _ (2 * i + 2) (2 * i + 1) (by omega) (by omega) (by have := HYL.out; omega) (by have := HYL.out; omega) HL1.out).mono ?_
          rintro e w1 ⟨rfl, hb1⟩
          have hs1 := HS_below HW.out.1 hb1
          have hcw1 := HS_cell hs1
          have hk1 := keep_below HW.out.2.2 hb1
          have hB1 := below_then HW.out.2.1 hbw hb1
          have hz1 := Below_size hb1 (Nat.le_refl _)
          have HW1 := Lib.hid (And.intro hs1 (And.intro hB1 hk1))
          clear hs1 hk1 hB1
          cases hl2 : less (Hp.at_ ByteArray.empty ys (2 * i + 2)) (Hp.at_ ByteArray.empty ys i) with
          | false =>
            have HR := Lib.hid ((down_still c1 HKID.out hl2).symm.trans HD.out)
            have HL2 := Lib.hid hl2
            clear hl2
            go_wp2_with fail
            refine (less_named HW1.out.1 _ _ (2 * i + 2) i (by omega) (by omega) (by have := HYL.out; omega) (by have := HYL.out; omega) HL2.out).mono ?_
            rintro e w2 ⟨rfl, hb2⟩
            have hs2 := HS_below HW1.out.1 hb2
            have hcw2 := HS_cell hs2
            have hk2 := keep_below HW1.out.2.2 hb2
            have hB2 := below_then HW1.out.2.1 (by omega) hb2
            have hz2 := Below_size hb2 (Nat.le_refl _)
            have HW2 := Lib.hid (And.intro hs2 (And.intro hB2 hk2))
            clear hs2 hk2 hB2
            go_wp2
            go_ret
            exact ⟨_, rfl, by unfold DownPost; rw [← HR.out]; exact HW2.out⟩
          | true =>
            have HR := Lib.hid ((down_go c1 HKID.out hl2).symm.trans HD.out)
            have HL2 := Lib.hid hl2
            clear hl2
            go_wp2_with fail
            refine (less_named HW1.out.1 _ _ (2 * i + 2) i (by omega) (by omega) (by have := HYL.out; omega) (by have := HYL.out; omega) HL2.out).mono ?_
            rintro e w2 ⟨rfl, hb2⟩
            have hs2 := HS_below HW1.out.1 hb2
            have hcw2 := HS_cell hs2
            have hk2 := keep_below HW1.out.2.2 hb2
            have hB2 := below_then HW1.out.2.1 (by omega) hb2
            have hz2 := Below_size hb2 (Nat.le_refl _)
            have HW2 := Lib.hid (And.intro hs2 (And.intro hB2 hk2))
            clear hs2 hk2 hB2
            go_wp2_with fail
            refine (swap_named HW2.out.1 HW2.out.2.1 _ _ i (2 * i + 2) (by omega) (by omega) (by have := HYL.out; omega) (by have := HYL.out; omega) (by omega)).mono ?_
            rintro e w3 ⟨rfl, hs3, hB3, hk3⟩
            have HW3 := Lib.hid (And.intro hs3 (And.intro hB3 (KeepBut.trans HW2.out.2.2 hk3 (.inl rfl))))
            clear hs3 hB3 hk3
            go_wp2
            go_roundg kq
            case measure => omega
            case rel => exact ⟨2 * i + 2, Hp.swp ByteArray.empty ys i (2 * i + 2), by go_num, ⟨⟨by omega, by omega, by omega, by rw [Hp.swp_length]; exact HYL.out, HR.out⟩⟩, ⟨HW3.out⟩⟩
        | false =>
          have HKID := Lib.hid (kid_one c2 hl1)
          have HL1 := Lib.hid hl1
          clear hl1
          go_wp2_with fail
          refine (less_named HW.out.1 _ _ (2 * i + 2) (2 * i + 1) (by omega) (by omega) (by have := HYL.out; omega) (by have := HYL.out; omega) HL1.out).mono ?_
          rintro e w1 ⟨rfl, hb1⟩
          have hs1 := HS_below HW.out.1 hb1
          have hcw1 := HS_cell hs1
          have hk1 := keep_below HW.out.2.2 hb1
          have hB1 := below_then HW.out.2.1 hbw hb1
          have hz1 := Below_size hb1 (Nat.le_refl _)
          have HW1 := Lib.hid (And.intro hs1 (And.intro hB1 hk1))
          clear hs1 hk1 hB1
          cases hl2 : less (Hp.at_ ByteArray.empty ys (2 * i + 1)) (Hp.at_ ByteArray.empty ys i) with
          | false =>
            have HR := Lib.hid ((down_still c1 HKID.out hl2).symm.trans HD.out)
            have HL2 := Lib.hid hl2
            clear hl2
            go_wp2_with fail
            refine (less_named HW1.out.1 _ _ (2 * i + 1) i (by omega) (by omega) (by have := HYL.out; omega) (by have := HYL.out; omega) HL2.out).mono ?_
            rintro e w2 ⟨rfl, hb2⟩
            have hs2 := HS_below HW1.out.1 hb2
            have hcw2 := HS_cell hs2
            have hk2 := keep_below HW1.out.2.2 hb2
            have hB2 := below_then HW1.out.2.1 (by omega) hb2
            have hz2 := Below_size hb2 (Nat.le_refl _)
            have HW2 := Lib.hid (And.intro hs2 (And.intro hB2 hk2))
            clear hs2 hk2 hB2
            go_wp2
            go_ret
            exact ⟨_, rfl, by unfold DownPost; rw [← HR.out]; exact HW2.out⟩
          | true =>
            have HR := Lib.hid ((down_go c1 HKID.out hl2).symm.trans HD.out)
            have HL2 := Lib.hid hl2
            clear hl2
            go_wp2_with fail
            refine (less_named HW1.out.1 _ _ (2 * i + 1) i (by omega) (by omega) (by have := HYL.out; omega) (by have := HYL.out; omega) HL2.out).mono ?_
            rintro e w2 ⟨rfl, hb2⟩
            have hs2 := HS_below HW1.out.1 hb2
            have hcw2 := HS_cell hs2
            have hk2 := keep_below HW1.out.2.2 hb2
            have hB2 := below_then HW1.out.2.1 (by omega) hb2
            have hz2 := Below_size hb2 (Nat.le_refl _)
            have HW2 := Lib.hid (And.intro hs2 (And.intro hB2 hk2))
            clear hs2 hk2 hB2
            go_wp2_with fail
            refine (swap_named HW2.out.1 HW2.out.2.1 _ _ i (2 * i + 1) (by omega) (by omega) (by have := HYL.out; omega) (by have := HYL.out; omega) (by omega)).mono ?_
            rintro e w3 ⟨rfl, hs3, hB3, hk3⟩
            have HW3 := Lib.hid (And.intro hs3 (And.intro hB3 (KeepBut.trans HW2.out.2.2 hk3 (.inl rfl))))
            clear hs3 hB3 hk3
            go_wp2
            go_roundg kq
            case measure => omega
            case rel => exact ⟨2 * i + 1, Hp.swp ByteArray.empty ys i (2 * i + 1), by go_num, ⟨⟨by omega, by omega, by omega, by rw [Hp.swp_length]; exact HYL.out, HR.out⟩⟩, ⟨HW3.out⟩⟩
      · have HKID := Lib.hid (kid_alone (ys := ys) c2)
        cases hl2 : less (Hp.at_ ByteArray.empty ys (2 * i + 1)) (Hp.at_ ByteArray.empty ys i) with
        | false =>
          have HR := Lib.hid ((down_still c1 HKID.out hl2).symm.trans HD.out)
          have HL2 := Lib.hid hl2
          clear hl2
          go_wp2_with fail
          refine (less_named HW.out.1 _ _ (2 * i + 1) i (by omega) (by omega) (by have := HYL.out; omega) (by have := HYL.out; omega) HL2.out).mono ?_
          rintro e w2 ⟨rfl, hb2⟩
          have hs2 := HS_below HW.out.1 hb2
          have hcw2 := HS_cell hs2
          have hk2 := keep_below HW.out.2.2 hb2
          have hB2 := below_then HW.out.2.1 hbw hb2
          have hz2 := Below_size hb2 (Nat.le_refl _)
          have HW2 := Lib.hid (And.intro hs2 (And.intro hB2 hk2))
          clear hs2 hk2 hB2
          go_wp2
          go_ret
          exact ⟨_, rfl, by unfold DownPost; rw [← HR.out]; exact HW2.out⟩
        | true =>
          have HR := Lib.hid ((down_go c1 HKID.out hl2).symm.trans HD.out)
          have HL2 := Lib.hid hl2
          clear hl2
          go_wp2_with fail
          refine (less_named HW.out.1 _ _ (2 * i + 1) i (by omega) (by omega) (by have := HYL.out; omega) (by have := HYL.out; omega) HL2.out).mono ?_
          rintro e w2 ⟨rfl, hb2⟩
          have hs2 := HS_below HW.out.1 hb2
          have hcw2 := HS_cell hs2
          have hk2 := keep_below HW.out.2.2 hb2
          have hB2 := below_then HW.out.2.1 hbw hb2
          have hz2 := Below_size hb2 (Nat.le_refl _)
          have HW2 := Lib.hid (And.intro hs2 (And.intro hB2 hk2))
          clear hs2 hk2 hB2
          go_wp2_with fail
          refine (swap_named HW2.out.1 HW2.out.2.1 _ _ i (2 * i + 1) (by omega) (by omega) (by have := HYL.out; omega) (by have := HYL.out; omega) (by omega)).mono ?_
          rintro e w3 ⟨rfl, hs3, hB3, hk3⟩
          have HW3 := Lib.hid (And.intro hs3 (And.intro hB3 (KeepBut.trans HW2.out.2.2 hk3 (.inl rfl))))
          clear hs3 hB3 hk3
          go_wp2
          go_roundg kq
          case measure => omega
          case rel => exact ⟨2 * i + 1, Hp.swp ByteArray.empty ys i (2 * i + 1), by go_num, ⟨⟨by omega, by omega, by omega, by rw [Hp.swp_length]; exact HYL.out, HR.out⟩⟩, ⟨HW3.out⟩⟩
end Go.Proofs.Ythpjpkcfepmhkaa.PAll.W
namespace Go.Proofs.Ythpjpkcfepmhkaa.PAll.W
open Go.RowKit Go.Proofs.YthpjpkcfepmhkaaW.PrintWords Go.Proofs.YthpjpkcfepmhkaaW.PrintLast Go.Proofs.YthpjpkcfepmhkaaW.PrintMore
set_option linter.unusedVariables false
set_option linter.unusedSimpArgs false
/-- What is told behind an append: the same row or a new one. -/
def Moved (W : World) (v v1 : Value) : Prop := v1.ownBlock = v.ownBlock ∨ ∃ b, v1.ownBlock = some b ∧ W.heap.size ≤ b
def PushPost (w0 w : World) (base g : Nat) (rest : List Value) (v : Value) (ys : List ByteArray) (w' : World) : Prop := ∃ (A : Option Addr) (c : Nat), HS w' base g rest (.slice A ys.length c) ys ∧ Below base w0 w' ∧ KeepBut w w' g v.ownBlock ∧ Moved w v (.slice A ys.length c)
def PushEnd (w0 w : World) (base g : Nat) (rest : List Value) (v : Value) (ys : List ByteArray) (e : Ending) (w' : World) : Prop := e = .returned (.tuple #[]) ∧ PushPost w0 w base g rest v ys w'
set_option maxRecDepth 100000 in
set_option maxHeartbeats 2000000 in
theorem pushm_calls (w0 w : World) (base g : Nat) (rest : List Value) (v : Value) (xs : List ByteArray) (x : ByteArray) (hs : HS w base g rest v xs) (hB : Below base w0 w) (hbs : base ≤ w.heap.size) (hbg : base ≤ g) (hl : (xs.length : Int) ≤ 1099511627776) :
    Calls Try.prog 94 #[.pointer (some ⟨g, 0, none⟩), .iface 9 (.string x)] w (PushEnd w0 w base g rest v (xs ++ [x])) := by
  obtain ⟨hg, hR⟩ := hs
  obtain ⟨hcell, hfz⟩ := cell0 hg
  have hgl := blk_lt hg
  have hta : ∀ (v : Value) (W : World), (Instr.typeAssert (.iface 9 v) 20 9 false).run Try.prog W = .ok v W := fun v W => by rfl
  have HG := Lib.hid hg
  have HR := Lib.hid hR
  have HB := Lib.hid hB
  have HNE := Lib.hid (Kd.R_ne hR hg (by decide))
  clear hg hR hB
  go_enter Try.func94, Try.ntmps94
  go_wp2
  go_region_law (rw [show (w.alloc (.cells #[.string x] 9)).drew = (w.drew).alloc (.cells [.string x].toArray 9) from rfl]; refine Kd.R_append_step Kd.string (w0 := w0) base rfl (.tmp 7) (.tmp 10) 87 9 (.string ⟨#[]⟩) 16 rfl Try.underlying87 infoE rfl (by decide) (by decide) v xs x [.string x] (fun _ => True) (fun _ => False) (by go_simp) (by go_simp) rfl (fun _ hk => hk.elim) (fun _ _ => trivial) (by (repeat (first | exact HR.out | apply Kd.R_alloc | apply Kd.R_drewN | apply Kd.R_drew))) (by (repeat (first | exact HB.out | apply below_drew))) (by (first | exact hbs | (simp; omega))) (by omega) ?_; intro v1 w1 ho hb hgr hat; obtain ⟨A1, c1, rfl⟩ := Kd.R_slice ho; have hg1 := blk_grown (blk_drew HG.out) hgr HNE.out; have hg1c := (cell0 hg1).1; have hg1z := (cell0 hg1).2; have HG1 := Lib.hid hg1; have HAP := Lib.hid (And.intro ho (And.intro hb (And.intro hgr hat))); clear ho hb hgr hat hg1)
  all_goals
    go_end0
    obtain ⟨ho, hb, hgr, hat⟩ := HAP.out
    refine ⟨rfl, A1, c1, ?_⟩
    simp only [List.length_append, List.length_singleton] at ho hat ⊢
    exact ⟨⟨set0 HG1.out _, Kd.R_set ho HG1.out (by decide) 0 _⟩, hb.setCell hbg _, (KeepBut.of_grown (w := w.drew) hgr g).set_ 0 _, hat⟩
end Go.Proofs.Ythpjpkcfepmhkaa.PAll.W
namespace Go.Proofs.Ythpjpkcfepmhkaa.PAll.W
open Go.RowKit Go.Proofs.YthpjpkcfepmhkaaW.PrintWords Go.Proofs.YthpjpkcfepmhkaaW.PrintLast Go.Proofs.YthpjpkcfepmhkaaW.PrintMore
set_option linter.unusedVariables false
set_option linter.unusedSimpArgs false
theorem down_named {w0 W : World} {base g : Nat} {rest : List Value} {v : Value} {xs : List ByteArray} (hs : HS W base g rest v xs) (hB : Below base w0 W) (i n : Int) (a m : Nat) (ha : i = a) (hm : n = m) (hal : a < xs.length) (ham : a ≤ m) (hml : m ≤ xs.length) (hbs : base ≤ W.heap.size) (hl : (xs.length : Int) ≤ 1099511627776) :
    Calls Try.prog 62 #[.iface 117 (.pointer (some ⟨g, 0, none⟩)), .int .i64 i, .int .i64 n] W (DownEnd w0 W base g m rest v xs a) := by
  subst ha; subst hm
  have := down_calls w0 W base g rest v xs (a : Int) (m : Int) hs hB hbs (Int.natCast_nonneg _) (by omega) (by omega) (by omega) hl
  simpa only [Int.toNat_natCast] using this
theorem up_stop {k : Nat} {ys : List ByteArray} : Hp.up ByteArray.empty less (k + 1) ys 0 = ys := by simp [Hp.up]
theorem up_still {k j : Nat} {ys : List ByteArray} (h : j ≠ 0) (hl : less (Hp.at_ ByteArray.empty ys j) (Hp.at_ ByteArray.empty ys ((j - 1) / 2)) = false) : Hp.up ByteArray.empty less (k + 1) ys j = ys := by simp [Hp.up, h, hl]
theorem up_go {k j : Nat} {ys : List ByteArray} (h : j ≠ 0) (hl : less (Hp.at_ ByteArray.empty ys j) (Hp.at_ ByteArray.empty ys ((j - 1) / 2)) = true) : Hp.up ByteArray.empty less (k + 1) ys j = Hp.up ByteArray.empty less k (Hp.swp ByteArray.empty ys ((j - 1) / 2) j) ((j - 1) / 2) := by simp [Hp.up, h, hl]
def UpPost (w0 w : World) (base g : Nat) (rest : List Value) (v : Value) (xs : List ByteArray) (j0 : Nat) (w' : World) : Prop := HS w' base g rest v (Hp.up ByteArray.empty less (j0 + 1) xs j0) ∧ Below base w0 w' ∧ KeepBut w w' g v.ownBlock
set_option maxHeartbeats 8000000 in
theorem up_calls (w0 w : World) (base g : Nat) (rest : List Value) (v : Value) (xs : List ByteArray) (q0 : Int) (j0 : Nat) (hq0 : q0 = j0) (hs : HS w base g rest v xs) (hB : Below base w0 w) (hbs : base ≤ w.heap.size) (hj : j0 < xs.length) (hl : (xs.length : Int) ≤ 1099511627776) :
    Calls Try.prog 61 #[.iface 117 (.pointer (some ⟨g, 0, none⟩)), .int .i64 q0] w fun e w' => e = .returned (.tuple #[]) ∧ UpPost w0 w base g rest v xs j0 w' := by
  subst hq0
  have HS0 := Lib.hid hs
  have HB0 := Lib.hid hB
  have hless := meth_Less g v
  have hswap := meth_Swap g v
  clear hs hB
  go_enter Try.func61, Try.ntmps61
  go_wp2
  go_loopg [1] (j0 + 1) (fun kq v1 w' => ∃ (j : Nat) (ys : List ByteArray), v1 = .int .i64 j ∧ Aside0 (j < xs.length ∧ j < kq ∧ ys.length = xs.length ∧ Hp.up ByteArray.empty less kq ys j = Hp.up ByteArray.empty less (j0 + 1) xs j0) ∧ Aside0 (HS w' base g rest v ys ∧ Below base w0 w' ∧ KeepBut w w' g v.ownBlock))
  case atStart => exact ⟨j0, xs, rfl, ⟨by omega, by omega, rfl, rfl⟩, HS0.out, HB0.out, KeepBut.refl _ _ _⟩
  case round =>
    obtain ⟨j, ys, rfl, HA, HW⟩ := hrel
    obtain ⟨hjl, hk, hyl, hd⟩ := HA.out
    obtain ⟨hsy, hby, hky⟩ := HW.out
    clear HA HW
    obtain ⟨kq, rfl⟩ : ∃ kq, gk = kq + 1 := ⟨gk - 1, by omega⟩
    have hbw : base ≤ wr.heap.size := by have := hky.1; omega
    have hcw := HS_cell hsy
    by_cases c1 : j = 0
    · subst c1
      rw [up_stop] at hd
      have HR := Lib.hid hd
      have HW := Lib.hid (And.intro hsy (And.intro hby hky))
      clear hd hsy hby hky hyl
      have hz : Int.tdiv (((0 : Nat) : Int) - 1) 2 = 0 := by decide
      go_wp2
      go_end0
      exact ⟨rfl, by unfold UpPost; rw [← HR.out]; exact HW.out⟩
    · have HW := Lib.hid (And.intro hsy (And.intro hby hky))
      have HD := Lib.hid hd
      have HYL := Lib.hid hyl
      clear hd hsy hby hky hyl
      obtain ⟨i, hi⟩ : ∃ i : Nat, (j - 1) / 2 = i := ⟨_, rfl⟩
      have hiq : ((j : Int) - 1) / 2 = (i : Int) := by omega
      have hij : i < j := by omega
      have HI := Lib.hid hi
      have HIQ := Lib.hid hiq
      have hne : ((((j : Int) - 1) / 2) == (j : Int)) = false := beq_eq_false_iff_ne.2 (by omega)
      have hj1 : (0 : Int) ≤ (j : Int) - 1 := by omega
      clear hi hiq
      cases hl2 : less (Hp.at_ ByteArray.empty ys j) (Hp.at_ ByteArray.empty ys i) with
      | false =>
        have HR := Lib.hid ((up_still c1 (by rw [HI.out]; exact hl2)).symm.trans HD.out)
        have HL2 := Lib.hid hl2
        clear hl2
        go_wp2_with fail
        refine (less_named HW.out.1 _ _ j i (by omega) HIQ.out (by have := HYL.out; omega) (by have := HYL.out; omega) HL2.out).mono ?_
        rintro e w2 ⟨rfl, hb2⟩
        have hs2 := HS_below HW.out.1 hb2
        have hk2 := keep_below HW.out.2.2 hb2
        have hB2 := below_then HW.out.2.1 hbw hb2
        have HW2 := Lib.hid (And.intro hs2 (And.intro hB2 hk2))
        clear hs2 hk2 hB2
        go_wp2
        go_end0
        exact ⟨rfl, by unfold UpPost; rw [← HR.out]; exact HW2.out⟩
      | true =>
        have HR := Lib.hid ((up_go c1 (by rw [HI.out]; exact hl2)).symm.trans HD.out)
        have HL2 := Lib.hid hl2
        clear hl2
        go_wp2_with fail
        refine (less_named HW.out.1 _ _ j i (by omega) HIQ.out (by have := HYL.out; omega) (by have := HYL.out; omega) HL2.out).mono ?_
        rintro e w2 ⟨rfl, hb2⟩
        have hs2 := HS_below HW.out.1 hb2
        have hcw2 := HS_cell hs2
        have hk2 := keep_below HW.out.2.2 hb2
        have hB2 := below_then HW.out.2.1 hbw hb2
        have hz2 := Below_size hb2 (Nat.le_refl _)
        have HW2 := Lib.hid (And.intro hs2 (And.intro hB2 hk2))
        clear hs2 hk2 hB2
        go_wp2_with fail
        refine (swap_named HW2.out.1 HW2.out.2.1 _ _ i j HIQ.out (by omega) (by have := HYL.out; omega) (by have := HYL.out; omega) (by omega)).mono ?_
        rintro e w3 ⟨rfl, hs3, hB3, hk3⟩
        have HW3 := Lib.hid (And.intro hs3 (And.intro hB3 (KeepBut.trans HW2.out.2.2 hk3 (.inl rfl))))
        clear hs3 hB3 hk3
        go_wp2
        go_roundg kq
        case measure => omega
        case rel => exact ⟨i, Hp.swp ByteArray.empty ys i j, by rw [HIQ.out], ⟨⟨by omega, by omega, by rw [Hp.swp_length]; exact HYL.out, by rw [← HR.out, HI.out]⟩⟩, ⟨HW3.out⟩⟩
theorem keep_moved {w w1 w2 : World} {g : Nat} {v v1 : Value} (h : KeepBut w w1 g v.ownBlock) (hm : Moved w v v1) (k : KeepBut w1 w2 g v1.ownBlock) : KeepBut w w2 g v.ownBlock :=
  h.trans k hm
set_option maxHeartbeats 4000000 in
theorem push_calls (w0 w : World) (base g : Nat) (rest : List Value) (v : Value) (xs : List ByteArray) (x : ByteArray) (hs : HS w base g rest v xs) (hB : Below base w0 w) (hbs : base ≤ w.heap.size) (hbg : base ≤ g) (hl : (xs.length : Int) < 1099511627776) :
    Calls Try.prog 41 #[.iface 117 (.pointer (some ⟨g, 0, none⟩)), .iface 9 (.string x)] w (PushEnd w0 w base g rest v (Hp.push ByteArray.empty less xs x)) := by
  have hpush := meth_Push ⟨g, 0, none⟩
  have HS0 := Lib.hid hs
  have HB0 := Lib.hid hB
  clear hs hB
  go_enter Try.func41, Try.ntmps41
  go_wp2_with fail
  refine (pushm_calls w0 w base g rest v xs x HS0.out HB0.out hbs hbg (by omega)).mono ?_
  rintro e w1 ⟨rfl, A, c, hs1, hB1, hk1, hm1⟩
  have hb1 : base ≤ w1.heap.size := by have := hk1.1; omega
  have hlen := meth_Len g (.slice A (xs ++ [x]).length c)
  have hcell := HS_cell hs1
  have hxl : (xs ++ [x]).length = xs.length + 1 := by simp
  have HXL := Lib.hid hxl
  have HW1 := Lib.hid (And.intro hs1 (And.intro hB1 (And.intro hk1 hm1)))
  clear hs1 hB1 hk1 hm1 hxl
  have hl2 : ((xs ++ [x]).length : Int) ≤ 1099511627776 := by rw [HXL.out]; omega
  have hpe : Hp.up ByteArray.empty less (xs.length + 1) (xs ++ [x]) xs.length = Hp.push ByteArray.empty less xs x := rfl
  have HPE := Lib.hid hpe
  clear hpe
  generalize xs ++ [x] = ys at *
  go_wp2_with fail
  refine (len_calls A ys.length c w1 (by omega)).mono ?_
  rintro e w1' ⟨rfl, rfl⟩
  go_wp2_with fail
  refine (up_calls w0 w1 base g rest (.slice A ys.length c) ys _ xs.length (by rw [HXL.out]; omega) HW1.out.1 HW1.out.2.1 hb1 (by rw [HXL.out]; omega) hl2).mono ?_
  rintro e w2 ⟨rfl, hu⟩
  have HU := Lib.hid hu
  clear hu
  go_wp2
  go_end0
  obtain ⟨u1, u2, u3⟩ := HU.out
  rw [HPE.out] at u1
  have hlen2 : (Hp.push ByteArray.empty less xs x).length = ys.length := by rw [Hp.push_length]; exact HXL.out.symm
  refine ⟨rfl, A, c, ?_, u2, keep_moved HW1.out.2.2.1 HW1.out.2.2.2 u3, ?_⟩
  · rw [hlen2]; exact u1
  · rw [hlen2]; exact HW1.out.2.2.2
def PopPost (w0 w : World) (base g : Nat) (rest : List Value) (A : Option Addr) (c : Nat) (xs : List ByteArray) (w' : World) : Prop := HS w' base g rest (.slice A (xs.length - 1) c) (Hp.pop ByteArray.empty less xs) ∧ Below base w0 w' ∧ KeepBut w w' g (Value.slice A xs.length c).ownBlock
theorem popped_eq {xs : List ByteArray} (hp : 0 < xs.length) : Hp.down ByteArray.empty less (xs.length - 1) (xs.length - 1 + 1) (Hp.swp ByteArray.empty xs 0 (xs.length - 1)) 0 = Hp.popped ByteArray.empty less xs := by
  unfold Hp.popped
  rw [show xs.length - 1 + 1 = xs.length from by omega]
set_option maxHeartbeats 2000000 in
theorem pop_calls (w0 w : World) (base g : Nat) (rest : List Value) (A : Option Addr) (c : Nat) (xs : List ByteArray) (hs : HS w base g rest (.slice A xs.length c) xs) (hB : Below base w0 w) (hbs : base ≤ w.heap.size) (hbg : base ≤ g) (hp : 0 < xs.length) (hl : (xs.length : Int) ≤ 1099511627776) :
    Calls Try.prog 43 #[.iface 117 (.pointer (some ⟨g, 0, none⟩))] w fun e w' => e = .returned (.iface 9 (.string (Hp.at_ ByteArray.empty xs 0))) ∧ PopPost w0 w base g rest A c xs w' := by
  have hlen := meth_Len g (.slice A xs.length c)
  have hswap := meth_Swap g (.slice A xs.length c)
  have hpop := meth_Pop ⟨g, 0, none⟩
  have hcell := HS_cell hs
  have HS0 := Lib.hid hs
  have HB0 := Lib.hid hB
  have hne : xs ≠ [] := List.length_pos_iff.1 hp
  clear hs hB
  go_enter Try.func43, Try.ntmps43
  go_wp2_with fail
  refine (len_calls A xs.length c w (by omega)).mono ?_
  rintro e w1 ⟨rfl, rfl⟩
  go_wp2_with fail
  refine (swap_named HS0.out HB0.out _ _ 0 (xs.length - 1) (by omega) (by omega) (by omega) (by omega) hbs).mono ?_
  rintro e w1 ⟨rfl, hs1, hB1, hk1⟩
  have hb1 : base ≤ w1.heap.size := by have := hk1.1; omega
  have hl1 : (Hp.swp ByteArray.empty xs 0 (xs.length - 1)).length = xs.length := Hp.swp_length _ _ _
  have hcell1 := HS_cell hs1
  have HW1 := Lib.hid (And.intro hs1 (And.intro hB1 hk1))
  have HL1 := Lib.hid hl1
  clear hs1 hB1 hk1 hl1
  go_wp2_with fail
  refine (down_named HW1.out.1 HW1.out.2.1 _ _ 0 (xs.length - 1) (by omega) (by omega) (by have := HL1.out; omega) (by omega) (by have := HL1.out; omega) hb1 (by rw [HL1.out]; exact hl)).mono ?_
  rintro e w2 ⟨r, rfl, hp2⟩
  have HP2 := Lib.hid hp2
  clear hp2
  have hb2 : base ≤ w2.heap.size := by have := HP2.out.2.2.1; omega
  have hyl : (Hp.popped ByteArray.empty less xs).length = xs.length := Hp.popped_length xs hne
  have hs2 : HS w2 base g rest (.slice A xs.length c) (Hp.popped ByteArray.empty less xs) := by
    have h := HP2.out.1
    rw [popped_eq hp] at h
    exact h
  have HYL := Lib.hid hyl
  have HS2 := Lib.hid hs2
  clear hyl hs2
  go_wp2_with fail
  refine (popm_calls w0 w2 base g rest A xs.length c (Hp.popped ByteArray.empty less xs) HS2.out HP2.out.2.1 hb2 hbg (by rw [HYL.out]; exact hp)).mono ?_
  rintro e w3 ⟨rfl, hs3, hB3, hk3⟩
  rw [HYL.out, Hp.popped_last xs hne]
  have HW3 := Lib.hid (And.intro hs3 (And.intro hB3 hk3))
  clear hs3 hB3 hk3
  go_wp2
  go_ret
  refine ⟨rfl, ?_⟩
  obtain ⟨h1, h2, h3⟩ := HW3.out
  rw [HYL.out] at h1
  exact ⟨h1, h2, KeepBut.trans (KeepBut.trans HW1.out.2.2 HP2.out.2.2 (.inl rfl)) (keep_none h3) (.inl rfl)⟩
end Go.Proofs.Ythpjpkcfepmhkaa.PAll.W
namespace Go.Proofs.Ythpjpkcfepmhkaa.PAll
open Go.RowKit Go.Proofs.YthpjpkcfepmhkaaW.PrintWords Go.Proofs.YthpjpkcfepmhkaaW.PrintLast Go.Proofs.YthpjpkcfepmhkaaW.PrintMore
set_option linter.unusedVariables false
set_option linter.unusedSimpArgs false
/-- The names of the symbols whose binding p holds of, in order. -/
def namesOf (p : Int → Bool) (l : List S55) : List ByteArray := (l.filter fun s => p s.f1).map (fun s => s.f0)
theorem namesOf_snoc (p : Int → Bool) (l : List S55) (k : Nat) (hk : k < l.length) : namesOf p (l.take (k + 1)) = if p (rd_T55 l k).f1 = true then namesOf p (l.take k) ++ [(rd_T55 l k).f0] else namesOf p (l.take k) := by
  have : rd_T55 l k = l[k] := by
    unfold rd_T55
    rw [Int.toNat_natCast, List.getD_eq_getElem?_getD, List.getElem?_eq_getElem hk]; rfl
  rw [this, List.take_succ_eq_append_getElem hk]
  unfold namesOf
  rw [List.filter_append, List.map_append, List.filter_cons]
  split
  · rfl
  · simp
theorem namesOf_len (p : Int → Bool) (l : List S55) : (namesOf p l).length ≤ l.length := by
  unfold namesOf
  rw [List.length_map]
  exact List.length_filter_le _ _
def defB (b : Int) : Bool := b == 1 || b == 2
def refB (b : Int) : Bool := b == 4
def Holds (K : Nat) (p : Int → Bool) : Prop := ∀ (s : S55) (w : World), Calls Try.prog K #[.agg #[.string s.f0, .int .i64 s.f1, .int .i64 s.f2, .int .i64 s.f3]] w fun e w' => e = .returned (.bool (p s.f1)) ∧ Below w.heap.size w w'
theorem holds_defines : Holds 66 defB := fun s w => by
  refine closure_defines.calls s.f0 s.f1 s.f2 s.f3 (defB s.f1) w ?_
  unfold closure_defines.f defB
  by_cases c : s.f1 = 1
  · rw [if_pos c, c]; rfl
  · rw [if_neg c, beq_eq_false_iff_ne.mpr c]; rfl
theorem holds_refers : Holds 52 refB := fun s w => closure_refers.calls s.f0 s.f1 s.f2 s.f3 (refB s.f1) w rfl
def NamesPost (w : World) (base : Nat) (ns : List ByteArray) (e : Ending) (w' : World) : Prop := ∃ v : Value, e = .returned v ∧ Kd.R Kd.string 9 w' base (fun _ => True) v ns ∧ Below base w w'
set_option maxRecDepth 10000 in
set_option maxHeartbeats 4000000 in
theorem names_calls66 (p : Int → Bool) (hK : Holds 66 p) (A0 : Option Addr) (c0 : Nat) (l : List S55) (A1 : Option Addr) (m c1 : Nat) (w : World) (hr : Kd.C k55 w A0 l.length l) (hl : l.length ≤ 1099511627776) :
    Calls Try.prog 51 #[.agg #[.slice A0 l.length c0, .slice A1 m c1], .func (.func 66) #[] #[]] w fun e w' => NamesPost w w.heap.size (namesOf p l) e w' := by
  have hu50 := Try.underlying50
  have hu55 := Try.underlying55
  have HR := Lib.hid hr
  have HK := Lib.hid hK
  clear hr hK
  go_enter Try.func51, Try.ntmps51
  go_wp2
  go_loopg [5, 11] l.length (fun kq v5 v11 w' => ∃ (k : Nat), v11 = .int .i64 k ∧ Aside0 (kq + k = l.length) ∧ Aside0 (Kd.R Kd.string 9 w' w.heap.size (fun _ => True) v5 (namesOf p (l.take k)) ∧ Below w.heap.size w w'))
  case atStart => exact ⟨0, rfl, ⟨by omega⟩, ⟨Kd.R_nil _ _ _ _ _, below_alloc (Below.refl _ _) _⟩⟩
  case round =>
    obtain ⟨k, rfl, HA, HS⟩ := hrel
    cases gk with
    | zero =>
      have hk : l.length ≤ k := by have := HA.out; omega
      have hkf : decide (k < l.length) = false := decide_eq_false (by omega)
      have HE := HS.out
      rw [List.take_of_length_le hk] at HE
      have HE := Lib.hid HE
      clear HS HA hk
      go_wp2
      go_ret
      exact ⟨_, rfl, HE.out⟩
    | succ kq =>
      have hk : k < l.length := by have := HA.out; omega
      obtain ⟨ad, rfl, hx0, hx1, hx2, hx3⟩ := at_T55 HR.out (k : Int) (Int.natCast_nonneg _) (by omega)
      have hB := HS.out.2
      replace hx0 := (hB.cell (World.block_lt_of_cell? w _ hx0)).trans hx0
      replace hx1 := (hB.cell (World.block_lt_of_cell? w _ hx1)).trans hx1
      replace hx2 := (hB.cell (World.block_lt_of_cell? w _ hx2)).trans hx2
      replace hx3 := (hB.cell (World.block_lt_of_cell? w _ hx3)).trans hx3
      simp only [Int.toNat_natCast] at hx0 hx1 hx2 hx3
      have HC := Lib.hid (namesOf_snoc p l k hk)
      have HL := Lib.hid (show (namesOf p (l.take k)).length ≤ k from Nat.le_trans (namesOf_len p _) (by rw [List.length_take]; omega))
      have hbs := below_size hB
      clear hB
      generalize rd_T55 l k = x at *
      generalize namesOf p (l.take k) = ns at *
      obtain ⟨x0, x1, x2, x3⟩ := x
      dsimp only at hx0 hx1 hx2 hx3
      obtain ⟨b, hb⟩ : ∃ b, p x1 = b := ⟨_, rfl⟩
      dsimp only at HC
      rw [hb] at HC
      have HPB := Lib.hid hb
      clear hb
      go_wp2_with fail
      have hnew := heap_alloc_new wr (.cells #[.string x0, .int .i64 x1, .int .i64 x2, .int .i64 x3] 55)
      have hB2 := below_alloc HS.out.2 (.cells #[.string x0, .int .i64 x1, .int .i64 x2, .int .i64 x3] 55)
      have hR2 := Kd.R_below HS.out.1 (below_alloc (Below.refl _ _) (.cells #[.string x0, .int .i64 x1, .int .i64 x2, .int .i64 x3] 55))
      clear hx0 hx1 hx2 hx3 HS
      generalize hw2 : wr.alloc (.cells #[.string x0, .int .i64 x1, .int .i64 x2, .int .i64 x3] 55) = w2 at *
      clear hw2
      have hbs2 := below_size hB2
      generalize wr.heap.size = g at *
      have HB2 := Lib.hid hB2
      have HR2 := Lib.hid hR2
      have HN := Lib.hid hnew
      clear hB2 hR2 hnew
      refine (HK.out ⟨x0, x1, x2, x3⟩ w2).mono ?_
      rintro e w3 ⟨rfl, hb3⟩
      have hn3 := blk_below HN.out hb3
      have hB3 := below_then HB2.out hbs2 hb3
      have hR3 := Kd.R_below HR2.out hb3
      have hbs3 := below_size hB3
      have hc3 := blk_cell hn3 0
      simp only [List.getElem?_toArray, List.getElem?_cons_succ, List.getElem?_cons_zero] at hc3
      have hgl := blk_lt hn3
      have HB3 := Lib.hid hB3
      have HR3 := Lib.hid hR3
      dsimp only
      rw [HPB.out]
      clear HPB
      clear hb3 hn3 hB3 hR3 HB2 HR2 HN hbs2 HK HR
      cases b with
      | false =>
        rw [if_neg (by decide)] at HC
        go_wp2
        go_roundg kq
        case measure => omega
        case rel => exact ⟨k + 1, by go_num, ⟨by have := HA.out; omega⟩, ⟨by rw [HC.out]; exact HR3.out, HB3.out⟩⟩
      | true =>
        rw [if_pos rfl] at HC
        have hlen := HL.out
        go_wp2_with (first | (at_builtin; go_must (refine Kd.R_append Kd.string (w0 := w) w.heap.size rfl (.tmp 18) (.tmp 21) 86 9 (.string ⟨#[]⟩) 16 rfl Try.underlying86 W.infoE rfl (by decide) (by decide) u5 ns x0 [.string x0] (fun _ => True) (fun _ => False) rfl ?aX ?aP (fun _ hk => hk.elim) ?aF ?aO ?aB ?aS ?aL ?_; (case aX => go_simp); (case aP => rfl); (case aF => exact fun _ _ => trivial); (case aO => exact HR3.out); (case aB => exact HB3.out); (case aS => exact hbs3); (case aL => omega); intro v1 w7 ho hb hg hat; have HE := Lib.hid (And.intro ho hb); clear ho hb hg hat)))
        go_roundg kq
        case measure => omega
        case rel => exact ⟨k + 1, by go_num, ⟨by have := HA.out; omega⟩, ⟨by rw [HC.out]; exact HE.out.1, HE.out.2⟩⟩
set_option maxRecDepth 10000 in
set_option maxHeartbeats 4000000 in
theorem names_calls52 (p : Int → Bool) (hK : Holds 52 p) (A0 : Option Addr) (c0 : Nat) (l : List S55) (A1 : Option Addr) (m c1 : Nat) (w : World) (hr : Kd.C k55 w A0 l.length l) (hl : l.length ≤ 1099511627776) :
    Calls Try.prog 51 #[.agg #[.slice A0 l.length c0, .slice A1 m c1], .func (.func 52) #[] #[]] w fun e w' => NamesPost w w.heap.size (namesOf p l) e w' := by
  have hu50 := Try.underlying50
  have hu55 := Try.underlying55
  have HR := Lib.hid hr
  have HK := Lib.hid hK
  clear hr hK
  go_enter Try.func51, Try.ntmps51
  go_wp2
  go_loopg [5, 11] l.length (fun kq v5 v11 w' => ∃ (k : Nat), v11 = .int .i64 k ∧ Aside0 (kq + k = l.length) ∧ Aside0 (Kd.R Kd.string 9 w' w.heap.size (fun _ => True) v5 (namesOf p (l.take k)) ∧ Below w.heap.size w w'))
  case atStart => exact ⟨0, rfl, ⟨by omega⟩, ⟨Kd.R_nil _ _ _ _ _, below_alloc (Below.refl _ _) _⟩⟩
  case round =>
    obtain ⟨k, rfl, HA, HS⟩ := hrel
    cases gk with
    | zero =>
      have hk : l.length ≤ k := by have := HA.out; omega
      have hkf : decide (k < l.length) = false := decide_eq_false (by omega)
      have HE := HS.out
      rw [List.take_of_length_le hk] at HE
      have HE := Lib.hid HE
      clear HS HA hk
      go_wp2
      go_ret
      exact ⟨_, rfl, HE.out⟩
    | succ kq =>
      have hk : k < l.length := by have := HA.out; omega
      obtain ⟨ad, rfl, hx0, hx1, hx2, hx3⟩ := at_T55 HR.out (k : Int) (Int.natCast_nonneg _) (by omega)
      have hB := HS.out.2
      replace hx0 := (hB.cell (World.block_lt_of_cell? w _ hx0)).trans hx0
      replace hx1 := (hB.cell (World.block_lt_of_cell? w _ hx1)).trans hx1
      replace hx2 := (hB.cell (World.block_lt_of_cell? w _ hx2)).trans hx2
      replace hx3 := (hB.cell (World.block_lt_of_cell? w _ hx3)).trans hx3
      simp only [Int.toNat_natCast] at hx0 hx1 hx2 hx3
      have HC := Lib.hid (namesOf_snoc p l k hk)
      have HL := Lib.hid (show (namesOf p (l.take k)).length ≤ k from Nat.le_trans (namesOf_len p _) (by rw [List.length_take]; omega))
      have hbs := below_size hB
      clear hB
      generalize rd_T55 l k = x at *
      generalize namesOf p (l.take k) = ns at *
      obtain ⟨x0, x1, x2, x3⟩ := x
      dsimp only at hx0 hx1 hx2 hx3
      obtain ⟨b, hb⟩ : ∃ b, p x1 = b := ⟨_, rfl⟩
      dsimp only at HC
      rw [hb] at HC
      have HPB := Lib.hid hb
      clear hb
      go_wp2_with fail
      have hnew := heap_alloc_new wr (.cells #[.string x0, .int .i64 x1, .int .i64 x2, .int .i64 x3] 55)
      have hB2 := below_alloc HS.out.2 (.cells #[.string x0, .int .i64 x1, .int .i64 x2, .int .i64 x3] 55)
      have hR2 := Kd.R_below HS.out.1 (below_alloc (Below.refl _ _) (.cells #[.string x0, .int .i64 x1, .int .i64 x2, .int .i64 x3] 55))
      clear hx0 hx1 hx2 hx3 HS
      generalize hw2 : wr.alloc (.cells #[.string x0, .int .i64 x1, .int .i64 x2, .int .i64 x3] 55) = w2 at *
      clear hw2
      have hbs2 := below_size hB2
      generalize wr.heap.size = g at *
      have HB2 := Lib.hid hB2
      have HR2 := Lib.hid hR2
      have HN := Lib.hid hnew
      clear hB2 hR2 hnew
      refine (HK.out ⟨x0, x1, x2, x3⟩ w2).mono ?_
      rintro e w3 ⟨rfl, hb3⟩
      have hn3 := blk_below HN.out hb3
      have hB3 := below_then HB2.out hbs2 hb3
      have hR3 := Kd.R_below HR2.out hb3
      have hbs3 := below_size hB3
      have hc3 := blk_cell hn3 0
      simp only [List.getElem?_toArray, List.getElem?_cons_succ, List.getElem?_cons_zero] at hc3
      have hgl := blk_lt hn3
      have HB3 := Lib.hid hB3
      have HR3 := Lib.hid hR3
      dsimp only
      rw [HPB.out]
      clear HPB
      clear hb3 hn3 hB3 hR3 HB2 HR2 HN hbs2 HK HR
      cases b with
      | false =>
        rw [if_neg (by decide)] at HC
        go_wp2
        go_roundg kq
        case measure => omega
        case rel => exact ⟨k + 1, by go_num, ⟨by have := HA.out; omega⟩, ⟨by rw [HC.out]; exact HR3.out, HB3.out⟩⟩
      | true =>
        rw [if_pos rfl] at HC
        have hlen := HL.out
        go_wp2_with (first | (at_builtin; go_must (refine Kd.R_append Kd.string (w0 := w) w.heap.size rfl (.tmp 18) (.tmp 21) 86 9 (.string ⟨#[]⟩) 16 rfl Try.underlying86 W.infoE rfl (by decide) (by decide) u5 ns x0 [.string x0] (fun _ => True) (fun _ => False) rfl ?aX ?aP (fun _ hk => hk.elim) ?aF ?aO ?aB ?aS ?aL ?_; (case aX => go_simp); (case aP => rfl); (case aF => exact fun _ _ => trivial); (case aO => exact HR3.out); (case aB => exact HB3.out); (case aS => exact hbs3); (case aL => omega); intro v1 w7 ho hb hg hat; have HE := Lib.hid (And.intro ho hb); clear ho hb hg hat)))
        go_roundg kq
        case measure => omega
        case rel => exact ⟨k + 1, by go_num, ⟨by have := HA.out; omega⟩, ⟨by rw [HC.out]; exact HE.out.1, HE.out.2⟩⟩
end Go.Proofs.Ythpjpkcfepmhkaa.PAll
namespace Go.Proofs.Ythpjpkcfepmhkaa.PAll
open Go.RowKit Go.Proofs.YthpjpkcfepmhkaaW.PrintWords Go.Proofs.YthpjpkcfepmhkaaW.PrintLast Go.Proofs.YthpjpkcfepmhkaaW.PrintMore
set_option linter.unusedVariables false
set_option linter.unusedSimpArgs false
section
variable {α : Type} {d : Kd α} {e : Nat} {w w1 W : World} {base : Nat} {v u : Value} {xs : List α}
theorem rs_grown (hE : d.E = []) (h : d.R e w base (fun _ => True) v xs) {row : Option Nat} (hg : w.grownBy w1 row) (hne : ∀ k, v.ownBlock = some k → some k ≠ row) : d.R e w1 base (fun _ => True) v xs :=
  Kd.R_mono (Kd.R_grown (Kd.R_tight hE h) hg (fun k hk => hne k hk.symm)) (fun _ _ => trivial)
theorem rs_keep (hE : d.E = []) (h : d.R e w base (fun _ => True) v xs) {g : Nat} {row : Option Nat} (hk : KeepBut w w1 g row) (hg : ∀ k, v.ownBlock = some k → k ≠ g) (hne : ∀ k, v.ownBlock = some k → some k ≠ row) : d.R e w1 base (fun _ => True) v xs :=
  Kd.R_mono (Kd.R_step (Kd.R_tight hE h) (fun k hk' hlt => hk.2 k hlt (hg k hk'.symm) (hne k hk'.symm))) (fun _ _ => trivial)
end
def Own (f : Nat → Nat) (i : Nat) (v : Value) : Prop := ∀ k, v.ownBlock = some k → f k = i
def upd (f : Nat → Nat) (n i : Nat) : Nat → Nat := fun k => if n ≤ k then i else f k
theorem Own.ne {f : Nat → Nat} {i j : Nat} {v u : Value} (h : Own f i v) (h' : Own f j u) (hij : i ≠ j) : ∀ k, v.ownBlock = some k → some k ≠ u.ownBlock := by
  intro k hk e
  have h1 := h k hk
  have h2 := h' k e.symm
  omega
theorem Own.upd {f : Nat → Nat} {i n q : Nat} {v : Value} (h : Own f i v) (hlt : ∀ k, v.ownBlock = some k → k < n) : Own (upd f n q) i v := by
  intro k hk
  unfold PAll.upd
  rw [if_neg (by have := hlt k hk; omega)]
  exact h k hk
theorem Own.moved {f : Nat → Nat} {i n : Nat} {v v1 : Value} (h : Own f i v) (hlt : ∀ k, v.ownBlock = some k → k < n) (hm : v1.ownBlock = v.ownBlock ∨ ∃ b, v1.ownBlock = some b ∧ n ≤ b) : Own (PAll.upd f n i) i v1 := by
  intro k hk
  unfold PAll.upd
  rcases hm with hm | ⟨b, hb, hle⟩
  · rw [hm] at hk
    rw [if_neg (by have := hlt k hk; omega)]
    exact h k hk
  · rw [hb] at hk
    injection hk with hk
    rw [if_pos (by omega)]
theorem Own.nil (f : Nat → Nat) (i : Nat) : Own f i (.slice none 0 0) := fun k hk => by simp [Value.ownBlock] at hk
abbrev KI : Kd Int := Kd.int .i64
structure Adj (w : World) (base : Nat) (f : Nat → Nat) (o : Nat) (v : Value) (vs : List Value) (xss : List (List Int)) : Prop where
  outer : w.ownsRow base 24 1 v vs.length vs
  len : vs.length = xss.length
  inner : ∀ j u xs, vs[j]? = some u → xss[j]? = some xs → KI.R 3 w base (fun _ => True) u xs ∧ Own f (o + j) u
section
variable {w w1 : World} {base : Nat} {f : Nat → Nat} {o : Nat} {v : Value} {vs : List Value} {xss : List (List Int)}
theorem Adj.keep (h : Adj w base f o v vs xss) {g : Nat} {row : Option Nat} (hk : KeepBut w w1 g row) (hgt : ∃ (cells : Array Value) (t : Nat), w.heap[g]? = some (.cells cells t (0, 0)) ∧ t ≠ 24 ∧ t ≠ 3) (hrow : row = none ∨ ∃ (cells : Array Value) (t : Nat) (k : Nat), row = some k ∧ w.heap[k]? = some (.cells cells t (0, 0)) ∧ t ≠ 24)
    (hne : ∀ (j : Nat) (u : Value), vs[j]? = some u → ∀ k, u.ownBlock = some k → some k ≠ row) : Adj w1 base f o v vs xss := by
  obtain ⟨gc, gt, hg, hg1, hg2⟩ := hgt
  refine ⟨?_, h.len, fun j u xs hu hx => ?_⟩
  · refine own_move h.outer (fun k hk' => ?_)
    obtain ⟨cells, hc⟩ := own_typed h.outer k hk'
    refine hk.2 k (own_lt h.outer k hk') ?_ ?_
    · rintro rfl
      rw [hc] at hg
      injection hg with hg
      injection hg with _ hg
      exact hg1 hg.symm
    · rcases hrow with hrow | ⟨rc, rt, rk, hrow, hr, hr1⟩
      · rw [hrow]; simp
      · rw [hrow]
        intro e
        injection e with e
        subst e
        rw [hc] at hr
        injection hr with hr
        injection hr with _ hr
        exact hr1 hr.symm
  · obtain ⟨hR, hO⟩ := h.inner j u xs hu hx
    refine ⟨rs_keep rfl hR hk (fun k hk' => ?_) (hne j u hu), hO⟩
    rintro rfl
    obtain ⟨cells, hc⟩ := Kd.R_typed hR k hk'
    rw [hc] at hg
    injection hg with hg
    injection hg with _ hg
    exact hg2 hg.symm
theorem Adj.below (h : Adj w base f o v vs xss) (hb : Below w.heap.size w w1) : Adj w1 base f o v vs xss :=
  ⟨pw_own_below h.outer hb, h.len, fun j u xs hu hx => ⟨Kd.R_below (h.inner j u xs hu hx).1 hb, (h.inner j u xs hu hx).2⟩⟩
/-- A row of numbers that is none of the inner ones has been written. -/
theorem Adj.grown (h : Adj w base f o v vs xss) {row : Option Nat} (hg : w.grownBy w1 row) (hrow : row = none ∨ ∃ (cells : Array Value) (t : Nat) (k : Nat), row = some k ∧ w.heap[k]? = some (.cells cells t (0, 0)) ∧ t ≠ 24) (hne : ∀ (j : Nat) (u : Value), vs[j]? = some u → ∀ k, u.ownBlock = some k → some k ≠ row) : Adj w1 base f o v vs xss := by
  refine ⟨own_move h.outer (fun k hk' => ?_), h.len, fun j u xs hu hx => ⟨rs_grown rfl (h.inner j u xs hu hx).1 hg (hne j u hu), (h.inner j u xs hu hx).2⟩⟩
  obtain ⟨cells, hc⟩ := own_typed h.outer k hk'
  refine hg.block k (own_lt h.outer k hk') ?_
  rcases hrow with hrow | ⟨rc, rt, rk, hrow, hr, hr1⟩
  · rw [hrow]; simp
  · rw [hrow]
    intro e
    injection e with e
    subst e
    rw [hc] at hr
    injection hr with hr
    injection hr with _ hr
    exact hr1 hr.symm
theorem Adj.upd (h : Adj w base f o v vs xss) {q : Nat} (n : Nat) (hn : w.heap.size ≤ n) : Adj w base (PAll.upd f n q) o v vs xss :=
  ⟨h.outer, h.len, fun j u xs hu hx => ⟨(h.inner j u xs hu hx).1, (h.inner j u xs hu hx).2.upd (fun k hk => Nat.lt_of_lt_of_le (Kd.R_lt (h.inner j u xs hu hx).1 k hk) hn)⟩⟩
/-- An inner row's header is put back, its row has been appended to. -/
theorem Adj.stored {b : Nat} {u1 : Value} {ys : List Int} {gv cap : Nat} (h : Adj w base f o (.slice (some ⟨gv, 0, none⟩) vs.length cap) vs xss) (hb : b < vs.length) (hR : KI.R 3 w base (fun _ => True) u1 ys) (hO : Own f (o + b) u1) :
    Adj (w.setCell ⟨gv, b, none⟩ u1) base f o (.slice (some ⟨gv, 0, none⟩) vs.length cap) (vs.set b u1) (xss.set b ys) := by
  obtain ⟨cells, hc⟩ := own_typed h.outer gv (by simp [Value.ownBlock])
  have hs := (h.outer.stored b u1).1
  refine ⟨by rw [List.length_set]; exact hs, by rw [List.length_set, List.length_set]; exact h.len, fun j u xs hu hx => ?_⟩
  by_cases e : j = b
  · subst e
    rw [List.getElem?_set_self hb] at hu
    rw [List.getElem?_set_self (by rw [← h.len]; exact hb)] at hx
    injection hu with hu
    injection hx with hx
    subst hu; subst hx
    exact ⟨Kd.R_set hR hc (by decide) _ _, hO⟩
  · rw [List.getElem?_set_ne (Ne.symm e)] at hu hx
    obtain ⟨h1, h2⟩ := h.inner j u xs hu hx
    exact ⟨Kd.R_set h1 hc (by decide) _ _, h2⟩
theorem Adj.form (h : Adj w base f o v vs xss) (hp : 0 < vs.length) : ∃ g cap, v = .slice (some ⟨g, 0, none⟩) vs.length cap ∧ base ≤ g ∧ g < w.heap.size := h.outer.form hp
theorem Adj.cell {gv cap : Nat} (h : Adj w base f o (.slice (some ⟨gv, 0, none⟩) vs.length cap) vs xss) (b : Nat) (hb : b < vs.length) : w.cell? ⟨gv, b, none⟩ = some (vs.getD b undef) ∧ w.frozen? ⟨gv, b, none⟩ = false := by
  constructor
  · have hc := h.outer.cells (g := gv) rfl b (vs.getD b undef) (by rw [List.getD_eq_getElem?_getD, List.getElem?_eq_getElem hb]; rfl)
    rwa [add_plain] at hc
  · obtain ⟨cells, hc⟩ := own_typed h.outer gv (by simp [Value.ownBlock])
    exact blk_frozen hc _
theorem Adj.at_ (h : Adj w base f o v vs xss) (b : Nat) (hb : b < vs.length) : KI.R 3 w base (fun _ => True) (vs.getD b undef) (xss.getD b []) ∧ Own f (o + b) (vs.getD b undef) := by
  refine h.inner b _ _ ?_ ?_
  · rw [List.getD_eq_getElem?_getD, List.getElem?_eq_getElem hb]; rfl
  · have : b < xss.length := by rw [← h.len]; exact hb
    rw [List.getD_eq_getElem?_getD, List.getElem?_eq_getElem this]; rfl
/-- What was made: all inner rows nil. -/
theorem Adj.made (w : World) (base n : Nat) (f : Nat → Nat) (o : Nat) (hb : base ≤ w.heap.size) (hn : n ≤ 1099511627776) :
    Adj (w.alloc (.cells (madeCells #[.slice none 0 0] n) 24)) base f o (.slice (some ⟨w.heap.size, 0, none⟩) n n) (List.replicate n (.slice none 0 0)) (List.replicate n []) := by
  have hl : (madeCells #[Value.slice none 0 0] n).toList = List.replicate n (.slice none 0 0) := by
    apply List.ext_getElem
    · simp [madeCells]
    · intro i h1 h2
      simp [madeCells, Nat.mod_one]
  refine ⟨?_, by simp, fun j u xs hu hx => ?_⟩
  · have h := World.ownsRow_lit (base := base) (e := 24) (size := 1) w (madeCells #[.slice none 0 0] n) n hb (by simp only [maxLen]; omega) (by simp [size_madeCells])
    rw [hl] at h
    rw [List.length_replicate]
    exact h
  · have hj := (List.getElem?_eq_some_iff.1 hu).1
    rw [List.length_replicate] at hj
    rw [List.getElem?_replicate, if_pos hj] at hu hx
    injection hu with hu
    injection hx with hx
    subst hu; subst hx
    exact ⟨Kd.R_nil _ _ _ _ _, Own.nil _ _⟩
end
end Go.Proofs.Ythpjpkcfepmhkaa.PAll
namespace Go.Proofs.Ythpjpkcfepmhkaa.PAll
open Go.RowKit Go.Proofs.YthpjpkcfepmhkaaW.PrintWords Go.Proofs.YthpjpkcfepmhkaaW.PrintLast Go.Proofs.YthpjpkcfepmhkaaW.PrintMore
open Go.Maps (Keyed IsMap)
set_option linter.unusedVariables false
set_option linter.unusedSimpArgs false
def rawR (v : Value) : Option (DataW Value × List MemPlace) := some (.held v, [])
def atOf (g : Option Value) (z : DataW Value) : DataW Value := match g with | some v => .held v | none => z
theorem atOf_held (g : Option Value) (z : Value) : atOf g (.held z) = .held (g.getD z) := by cases g <;> rfl
/-- Block b is a map (its keys' type k; lk: what a key reads as) of at most n entries; g: what stands at each key. -/
def MapV {α : Type} (lk : α → Lit) (w : World) (k b n : Nat) (g : α → Option Value) : Prop :=
  ∃ D : DataW Value, w.ownsMap Try.prog k rawR b n D ∧ ∀ a z, D.atKey (lk a) z = atOf (g a) z
def updM {α : Type} [DecidableEq α] (g : α → Option Value) (a : α) (v : Value) : α → Option Value := fun x => if x = a then some v else g x
section
variable {α : Type} {lk : α → Lit} {w w1 : World} {k b n : Nat} {g : α → Option Value}
theorem MapV.made (lk : α → Lit) (w : World) (k : Nat) : MapV lk (w.alloc (.map #[] 0)) k w.heap.size 0 (fun _ => none) :=
  ⟨.map [], World.ownsMap_made w Try.prog k rawR, fun _ _ => rfl⟩
theorem MapV.blk (h : MapV lk w k b n g) : ∃ es clock, w.heap[b]? = some (.map es clock) := by
  obtain ⟨D, ⟨es, clock, hb, _⟩, _⟩ := h
  exact ⟨es, clock, hb⟩
theorem MapV.lt (h : MapV lk w k b n g) : b < w.heap.size := by
  obtain ⟨es, clock, hb⟩ := h.blk
  exact blk_lt hb
theorem MapV.mono (h : MapV lk w k b n g) {n' : Nat} (hn : n ≤ n') : MapV lk w k b n' g := by
  obtain ⟨D, h1, h2⟩ := h
  exact ⟨D, h1.mono hn, h2⟩
theorem MapV.same (h : MapV lk w k b n g) (hb : w1.heap[b]? = w.heap[b]?) : MapV lk w1 k b n g := by
  obtain ⟨D, ⟨es, clock, hb0, r⟩, h2⟩ := h
  exact ⟨D, ⟨es, clock, hb.trans hb0, r⟩, h2⟩
theorem MapV.below {B : Nat} (h : MapV lk w k b n g) (hb : Below B w w1) (hB : b < B) : MapV lk w1 k b n g := h.same (hb.block b hB)
theorem MapV.grown (h : MapV lk w k b n g) {row : Option Nat} (hg : w.grownBy w1 row) (hne : some b ≠ row) : MapV lk w1 k b n g := h.same (hg.block b h.lt hne)
/-- A row of cells is no map. -/
theorem MapV.ne_cells (h : MapV lk w k b n g) {i t : Nat} {cs : Array Value} {f : Nat × Nat} (hi : w.heap[i]? = some (.cells cs t f)) : b ≠ i := by
  rintro rfl
  obtain ⟨es, clock, hb⟩ := h.blk
  rw [hb] at hi
  cases hi
theorem MapV.ne_row {β : Type} {d : Kd β} {e base : Nat} {ok : Nat → Prop} {v : Value} {xs : List β} (h : MapV lk w k b n g) (hR : d.R e w base ok v xs) : some b ≠ v.ownBlock := by
  intro e1
  obtain ⟨cs, hc⟩ := Kd.R_typed hR b e1.symm
  exact h.ne_cells hc rfl
theorem MapV.look (h : MapV lk w k b n g) (K : Keyed Try.prog k) {t e : Nat} (ht : Try.prog.underlying t = some (.map k e)) {z : Value} (hz : (zeroValue e).run Try.prog w = .ok z w) {key : Value} {a : α} (hkey : keyOf Try.prog k key = some (lk a)) :
    (Instr.lookup t (.map (some b)) key false).run Try.prog w = .ok ((g a).getD z) w := by
  obtain ⟨D, h1, h2⟩ := h
  obtain ⟨v, ps, hrun, hv⟩ := h1.lookup K ht hz (zd := .held z) (zp := []) rfl hkey
  have hv : (Option.some (DataW.held v, ([] : List MemPlace))) = some (atOf (g a) (.held z), ps) := by rw [← h2 a]; exact hv
  rw [atOf_held] at hv
  simp only [Option.some.injEq, Prod.mk.injEq, DataW.held.injEq] at hv
  obtain ⟨hv, _⟩ := hv
  rw [hrun, hv]
theorem MapV.store [DecidableEq α] (h : MapV lk w k b n g) (K : Keyed Try.prog k) (hinj : ∀ x y, lk x = lk y → x = y) {t e : Nat} (ht : Try.prog.underlying t = some (.map k e)) (hn : n < maxLen) {key : Value} {a : α} (hkey : keyOf Try.prog k key = some (lk a)) (val : Value) :
    ∃ w', (Instr.mapUpdate t (.map (some b)) key val).run Try.prog w = .ok () w' ∧ MapV lk w' k b (n + 1) (updM g a val) ∧ w.grownBy w' (some b) := by
  obtain ⟨D, h1, h2⟩ := h
  obtain ⟨w', hrun, h3, h4⟩ := h1.update K ht hn hkey (val := val) (d := .held val) (ps := []) rfl
  refine ⟨w', hrun, ⟨_, h3, fun x z => ?_⟩, h4⟩
  unfold updM
  by_cases e : x = a
  · subst e
    rw [if_pos rfl, Maps.atKey_put_same h1.isMap (K.key hkey)]
    rfl
  · rw [if_neg e, Maps.atKey_put_other (fun e' => e (hinj _ _ e'))]
    exact h2 x z
end
def lkS (s : ByteArray) : Lit := .string s.data.toList
def lkI (i : Int) : Lit := .int .i64 i
theorem lkS_inj (x y : ByteArray) (h : lkS x = lkS y) : x = y := by
  unfold lkS at h
  injection h with h
  obtain ⟨⟨x⟩⟩ := x
  obtain ⟨⟨y⟩⟩ := y
  have h : x = y := h
  rw [h]
theorem lkI_inj (x y : Int) (h : lkI x = lkI y) : x = y := by
  unfold lkI at h
  injection h
theorem lawS : Keyed Try.prog 9 := Maps.string_keyed Try.underlying9
theorem lawI : Keyed Try.prog 3 := Maps.int_keyed Try.underlying3
theorem keyS {s : ByteArray} (hs : s.size ≤ 9223372036854775807) : keyOf Try.prog 9 (.string s) = some (lkS s) := Go.WideMaps.keyOf_string_mk Try.underlying9 (by simpa only [maxLen] using hs)
theorem keyI {i : Int} (h0 : -9223372036854775808 ≤ i) (h1 : i ≤ 9223372036854775807) : keyOf Try.prog 3 (.int .i64 i) = some (lkI i) := by
  exact Maps.keyOf_int_mk Try.underlying3 (WalkArith.wf_i64 ⟨h0, h1⟩)
theorem zeroB (w : World) : (zeroValue 4).run Try.prog w = .ok (.bool false) w := by kernel_rfl
theorem zeroL (w : World) : (zeroValue 24).run Try.prog w = .ok (.slice none 0 0) w := by kernel_rfl
theorem MapV.held {α : Type} {lk : α → Lit} {w : World} {k b n : Nat} {g : α → Option Value} (h : MapV lk w k b n g) : ∃ D : DataW Value, w.ownsMap Try.prog k rawR b n D ∧ ∀ a z, D.atKey (lk a) z = atOf (g a) z := h
def OwnK (f : Nat → ByteArray) (s : ByteArray) (v : Value) : Prop := ∀ k, v.ownBlock = some k → f k = s
def updK (f : Nat → ByteArray) (n : Nat) (s : ByteArray) : Nat → ByteArray := fun k => if n ≤ k then s else f k
structure Grp (w : World) (base b n : Nat) (f : Nat → ByteArray) (g : ByteArray → Option Value) (zs : ByteArray → List Int) : Prop where
  map : MapV lkS w 9 b n g
  rows : ∀ s, KI.R 3 w base (fun _ => True) ((g s).getD (.slice none 0 0)) (zs s) ∧ OwnK f s ((g s).getD (.slice none 0 0))
  has : ∀ s, g s = none → zs s = []
section
variable {w w1 : World} {base b n : Nat} {f : Nat → ByteArray} {g : ByteArray → Option Value} {zs : ByteArray → List Int}
theorem Grp.made (w : World) (base : Nat) (f : Nat → ByteArray) : Grp (w.alloc (.map #[] 0)) base w.heap.size 0 f (fun _ => none) (fun _ => []) :=
  ⟨MapV.made lkS w 9, fun s => ⟨Kd.R_nil _ _ _ _ _, fun k hk => by simp [Value.ownBlock] at hk⟩, fun _ _ => rfl⟩
theorem Grp.below {B : Nat} (h : Grp w base b n f g zs) (hb : Below B w w1) (hB : w.heap.size ≤ B) : Grp w1 base b n f g zs :=
  ⟨h.map.below hb (Nat.lt_of_lt_of_le h.map.lt hB), fun s => ⟨Kd.R_step (h.rows s).1 (fun k _ hk => hb.block k (Nat.lt_of_lt_of_le hk hB)), (h.rows s).2⟩, h.has⟩
theorem Grp.alloc (h : Grp w base b n f g zs) (o : Obj) : Grp (w.alloc o) base b n f g zs := h.below (below_alloc (Below.refl _ _) o) (Nat.le_refl _)
theorem Grp.drew (h : Grp w base b n f g zs) : Grp w.drew base b n f g zs := h.below (below_drew (Below.refl _ _)) (Nat.le_refl _)
/-- One row has been appended to (its slice is v1 now, not yet put back). -/
theorem Grp.store (h : Grp w base b n f g zs) {s : ByteArray} {v1 : Value} {x : Int} (hs : s.size ≤ 9223372036854775807) (hn : n < 9223372036854775807) (hg : w.grownBy w1 ((g s).getD (.slice none 0 0)).ownBlock) (hR : KI.R 3 w1 base (fun _ => True) v1 (zs s ++ [x]))
    (hm : v1.ownBlock = ((g s).getD (.slice none 0 0)).ownBlock ∨ ∃ k, v1.ownBlock = some k ∧ w.heap.size ≤ k) :
    ∃ w2, (Instr.mapUpdate 80 (.map (some b)) (.string s) v1).run Try.prog w1 = .ok () w2 ∧ w1.grownBy w2 (some b) ∧ Grp w2 base b (n + 1) (updK f w.heap.size s) (updM g s v1) (fun y => if y = s then zs s ++ [x] else zs y) := by
  have hlt := Kd.R_lt (h.rows s).1
  have hm1 : MapV lkS w1 9 b n g := h.map.grown hg (h.map.ne_row (h.rows s).1)
  obtain ⟨w2, hrun, h3, h4⟩ := hm1.store lawS lkS_inj Try.underlying80 (by simpa only [maxLen] using hn) (keyS hs) v1
  refine ⟨w2, hrun, h4, ⟨h3, fun y => ?_, fun y hy => ?_⟩⟩
  · unfold updM
    by_cases e : y = s
    · subst e
      rw [if_pos rfl, if_pos rfl, Option.getD_some]
      refine ⟨rs_grown rfl hR h4 (fun k hk e1 => ?_), fun k hk => ?_⟩
      · obtain ⟨cs, hc⟩ := Kd.R_typed hR k hk
        exact hm1.ne_cells hc (Option.some.inj e1).symm
      · unfold updK
        rcases hm with hm | ⟨j, hj, hle⟩
        · rw [hm] at hk
          rw [if_neg (Nat.not_le.2 (hlt k hk))]
          exact (h.rows y).2 k hk
        · rw [hj] at hk
          rw [if_pos (by rw [← Option.some.inj hk]; exact hle)]
    · rw [if_neg e, if_neg e]
      obtain ⟨r1, r2⟩ := h.rows y
      have hlty := Kd.R_lt r1
      have hne : ∀ k, ((g y).getD (.slice none 0 0)).ownBlock = some k → some k ≠ ((g s).getD (.slice none 0 0)).ownBlock := fun k hk e1 => by
        have h1 := r2 k hk
        have h2 := (h.rows s).2 k e1.symm
        exact e (h1.symm.trans h2)
      have r3 := rs_grown rfl r1 hg hne
      refine ⟨rs_grown rfl r3 h4 (fun k hk e1 => ?_), fun k hk => ?_⟩
      · obtain ⟨cs, hc⟩ := Kd.R_typed r3 k hk
        exact hm1.ne_cells hc (Option.some.inj e1).symm
      · unfold updK
        rw [if_neg (Nat.not_le.2 (hlty k hk))]
        exact r2 k hk
  · unfold updM at hy
    by_cases e : y = s
    · rw [if_pos e] at hy; cases hy
    · rw [if_neg e] at hy
      rw [if_neg e]
      exact h.has y hy
theorem Grp.look (h : Grp w base b n f g zs) {s : ByteArray} (hs : s.size ≤ 9223372036854775807) :
    (Instr.lookup 80 (.map (some b)) (.string s) false).run Try.prog w = .ok ((g s).getD (.slice none 0 0)) w :=
  h.map.look lawS Try.underlying80 (zeroL w) (keyS hs)
end
instance decMemBA (s : ByteArray) (l : List ByteArray) : Decidable (s ∈ l) := decidable_of_iff (l.any (fun x => decide (x = s)) = true) (by simp)
def inG (l : List ByteArray) : ByteArray → Option Value := fun s => if s ∈ l then some (.bool true) else none
theorem inG_nil : inG [] = fun _ => none := by funext s; simp [inG]
theorem inG_snoc (l : List ByteArray) (s : ByteArray) : updM (inG l) s (.bool true) = inG (l ++ [s]) := by
  funext x
  unfold updM inG
  by_cases e : x = s
  · simp [e]
  · simp [e]
theorem inG_look {w : World} {b n : Nat} {l : List ByteArray} (h : MapV lkS w 9 b n (inG l)) {s : ByteArray} (hs : s.size ≤ 9223372036854775807) :
    (Instr.lookup 81 (.map (some b)) (.string s) false).run Try.prog w = .ok (.bool (decide (s ∈ l))) w := by
  rw [h.look lawS Try.underlying81 (zeroB w) (keyS hs)]
  unfold inG
  by_cases e : s ∈ l
  · rw [if_pos e, decide_eq_true e]; rfl
  · rw [if_neg e, decide_eq_false e]; rfl
theorem inG_store {w : World} {b n : Nat} {l : List ByteArray} (h : MapV lkS w 9 b n (inG l)) {s : ByteArray} (hs : s.size ≤ 9223372036854775807) (hn : n < 9223372036854775807) :
    ∃ w', (Instr.mapUpdate 81 (.map (some b)) (.string s) (.bool true)).run Try.prog w = .ok () w' ∧ MapV lkS w' 9 b (n + 1) (inG (l ++ [s])) ∧ w.grownBy w' (some b) := by
  obtain ⟨w', h1, h2, h3⟩ := h.store lawS lkS_inj Try.underlying81 (by simpa only [maxLen] using hn) (keyS hs) (.bool true)
  exact ⟨w', h1, by rw [← inG_snoc]; exact h2, h3⟩
def inN (l : List Int) : Int → Option Value := fun s => if s ∈ l then some (.bool true) else none
theorem inN_nil : inN [] = fun _ => none := by funext s; simp [inN]
theorem inN_snoc (l : List Int) (s : Int) : updM (inN l) s (.bool true) = inN (l ++ [s]) := by
  funext x
  unfold updM inN
  by_cases e : x = s
  · simp [e]
  · simp [e]
theorem inN_look {w : World} {b n : Nat} {l : List Int} (h : MapV lkI w 3 b n (inN l)) {s : Int} (h0 : -9223372036854775808 ≤ s) (h1 : s ≤ 9223372036854775807) :
    (Instr.lookup 85 (.map (some b)) (.int .i64 s) false).run Try.prog w = .ok (.bool (decide (s ∈ l))) w := by
  rw [h.look lawI Try.underlying85 (zeroB w) (keyI h0 h1)]
  unfold inN
  by_cases e : s ∈ l
  · rw [if_pos e, decide_eq_true e]; rfl
  · rw [if_neg e, decide_eq_false e]; rfl
theorem inN_store {w : World} {b n : Nat} {l : List Int} (h : MapV lkI w 3 b n (inN l)) {s : Int} (h0 : -9223372036854775808 ≤ s) (h1 : s ≤ 9223372036854775807) (hn : n < 9223372036854775807) :
    ∃ w', (Instr.mapUpdate 85 (.map (some b)) (.int .i64 s) (.bool true)).run Try.prog w = .ok () w' ∧ MapV lkI w' 3 b (n + 1) (inN (l ++ [s])) ∧ w.grownBy w' (some b) := by
  obtain ⟨w', h1, h2, h3⟩ := h.store lawI lkI_inj Try.underlying85 (by simpa only [maxLen] using hn) (keyI h0 h1) (.bool true)
  exact ⟨w', h1, by rw [← inN_snoc]; exact h2, h3⟩
end Go.Proofs.Ythpjpkcfepmhkaa.PAll
namespace Go.Proofs.Ythpjpkcfepmhkaa.PAll
open Go.RowKit Go.Proofs.YthpjpkcfepmhkaaW.PrintWords Go.Proofs.YthpjpkcfepmhkaaW.PrintLast Go.Proofs.YthpjpkcfepmhkaaW.PrintMore
set_option linter.unusedVariables false
set_option linter.unusedSimpArgs false
def provOf (l : List S50) : List ByteArray := l.flatMap fun o => namesOf defB o.f0
def prsOf : List S50 → Nat → List (ByteArray × Int)
  | [], _ => []
  | o :: r, i => (namesOf defB o.f0).map (fun s => (s, (i : Int))) ++ prsOf r (i + 1)
def zsOf (ps : List (ByteArray × Int)) (s : ByteArray) : List Int := (ps.filter fun p => decide (p.1 = s)).map (fun p => p.2)
/-- Few objects, with few symbols, whose names are short. -/
def smallL (l : List S50) : Bool := decide (l.length ≤ 1024) && l.all fun o => decide (o.f0.length ≤ 1024) && o.f0.all fun s => decide (s.f0.size ≤ 1048576)
theorem rd50 {l : List S50} {k : Nat} (h : k < l.length) : rd_T50 l k = l[k] := by
  unfold rd_T50
  rw [Int.toNat_natCast, List.getD_eq_getElem?_getD, List.getElem?_eq_getElem h]; rfl
theorem smallL_iff {l : List S50} : smallL l = true ↔ l.length ≤ 1024 ∧ ∀ o, o ∈ l → o.f0.length ≤ 1024 ∧ ∀ s, s ∈ o.f0 → s.f0.size ≤ 1048576 := by
  unfold smallL
  simp only [Bool.and_eq_true, decide_eq_true_eq, List.all_eq_true]
theorem names_small {l : List S50} (h : smallL l = true) (p : Int → Bool) {k : Nat} (hk : k < l.length) : (rd_T50 l k).f0.length ≤ 1024 ∧ (namesOf p (rd_T50 l k).f0).length ≤ 1024 ∧ ∀ s, s ∈ namesOf p (rd_T50 l k).f0 → s.size ≤ 1048576 := by
  obtain ⟨h1, h2⟩ := (smallL_iff.1 h).2 _ (List.getElem_mem hk)
  rw [rd50 hk]
  refine ⟨h1, Nat.le_trans (namesOf_len p _) h1, fun s hs => ?_⟩
  unfold namesOf at hs
  obtain ⟨x, hx, rfl⟩ := List.mem_map.1 hs
  exact h2 x (List.mem_filter.1 hx).1
theorem provOf_snoc {l : List S50} {k : Nat} (hk : k < l.length) : provOf (l.take (k + 1)) = provOf (l.take k) ++ namesOf defB (rd_T50 l k).f0 := by
  rw [rd50 hk, List.take_succ_eq_append_getElem hk]
  unfold provOf
  rw [List.flatMap_append]
  simp
theorem prsOf_append : ∀ (l r : List S50) (i : Nat), prsOf (l ++ r) i = prsOf l i ++ prsOf r (i + l.length)
  | [], r, i => by simp [prsOf]
  | o :: l, r, i => by
    simp only [List.cons_append, prsOf, List.length_cons]
    rw [prsOf_append l r (i + 1), List.append_assoc, Nat.add_right_comm, Nat.add_assoc]
theorem prsOf_snoc {l : List S50} {k : Nat} (hk : k < l.length) : prsOf (l.take (k + 1)) 0 = prsOf (l.take k) 0 ++ (namesOf defB (rd_T50 l k).f0).map (fun s => (s, (k : Int))) := by
  rw [rd50 hk, List.take_succ_eq_append_getElem hk, prsOf_append]
  simp only [prsOf, List.append_nil, List.length_take, Nat.zero_add]
  rw [Nat.min_eq_left (by omega)]
theorem zsOf_snoc (ps : List (ByteArray × Int)) (s : ByteArray) (x : Int) : zsOf (ps ++ [(s, x)]) = fun y => if y = s then zsOf ps s ++ [x] else zsOf ps y := by
  funext y
  unfold zsOf
  rw [List.filter_append, List.map_append]
  by_cases e : y = s
  · subst e
    rw [if_pos rfl]
    simp
  · rw [if_neg e]
    simp [Ne.symm e]
theorem flat_len {l : List S50} (h : ∀ o, o ∈ l → o.f0.length ≤ 1024) : (provOf l).length ≤ l.length * 1024 := by
  unfold provOf
  induction l with
  | nil => simp
  | cons o r ih =>
    rw [List.flatMap_cons, List.length_append, List.length_cons]
    have := ih (fun x hx => h x (List.mem_cons_of_mem _ hx))
    have := h o (List.mem_cons_self ..)
    have := namesOf_len defB o.f0
    omega
theorem prov_len {l : List S50} (h : smallL l = true) (k : Nat) : (provOf (l.take k)).length ≤ 1048576 := by
  obtain ⟨h1, h2⟩ := smallL_iff.1 h
  have := flat_len (l := l.take k) (fun o ho => (h2 o (List.mem_of_mem_take ho)).1)
  rw [List.length_take] at this
  have : min k l.length ≤ 1024 := by omega
  omega
theorem prs_len0 : ∀ (l : List S50) (i : Nat), (prsOf l i).length = (provOf l).length
  | [], _ => rfl
  | o :: l, i => by
    unfold prsOf provOf
    rw [List.flatMap_cons, List.length_append, List.length_append, List.length_map, prs_len0 l (i + 1)]
    rfl
theorem prs_len {l : List S50} (h : smallL l = true) (k : Nat) : (prsOf (l.take k) 0).length ≤ 1048576 := by
  rw [prs_len0]; exact prov_len h k
theorem zs_len (ps : List (ByteArray × Int)) (s : ByteArray) : (zsOf ps s).length ≤ ps.length := by
  unfold zsOf
  rw [List.length_map]
  exact List.length_filter_le _ _
structure BW (w wr : World) (vm : Value) (g4 bd bp gp : Nat) (f : Nat → ByteArray) (g : ByteArray → Option Value) (ps : List (ByteArray × Int)) (pv : List ByteArray) : Prop where
  B : Below w.heap.size w wr
  r : wr.heap[g4]? = some (.cells #[.slice none 0 0, .map none, .map none] 83 (0, 0))
  p : wr.heap[gp]? = some (.cells #[vm, .map (some bd), .map (some bp)] 83 (0, 0))
  grp : Grp wr w.heap.size bd ps.length f g (zsOf ps)
  prov : MapV lkS wr 9 bp pv.length (inG pv)
  h4 : w.heap.size ≤ g4
  hp : w.heap.size ≤ gp
  hd : w.heap.size ≤ bd
  hq : w.heap.size ≤ bp
  ne : bd ≠ bp
  ne4 : g4 ≠ gp
section
variable {w wr w1 : World} {vm : Value} {g4 bd bp gp : Nat} {f : Nat → ByteArray} {g : ByteArray → Option Value} {ps : List (ByteArray × Int)} {pv : List ByteArray}
theorem BW.below (h : BW w wr vm g4 bd bp gp f g ps pv) (hb : Below wr.heap.size wr w1) : BW w w1 vm g4 bd bp gp f g ps pv :=
  ⟨below_then h.B h.B.size hb, blk_below h.r hb, blk_below h.p hb, h.grp.below hb (Nat.le_refl _), h.prov.below hb h.prov.lt, h.h4, h.hp, h.hd, h.hq, h.ne, h.ne4⟩
/-- A name that is provided is put in. -/
theorem BW.put (h : BW w wr vm g4 bd bp gp f g ps pv) {s : ByteArray} (hs : s.size ≤ 1048576) (hn : pv.length ≤ 2097152) {v : Value} {ns : List ByteArray} (hR : Kd.string.R 9 wr w.heap.size (fun _ => True) v ns) :
    ∃ w', (Instr.mapUpdate 81 (.map (some bp)) (.string s) (.bool true)).run Try.prog wr = .ok () w' ∧ BW w w' vm g4 bd bp gp f g ps (pv ++ [s]) ∧ Kd.string.R 9 w' w.heap.size (fun _ => True) v ns := by
  obtain ⟨w', h1, h2, h3⟩ := inG_store h.prov (s := s) (by omega) (by omega)
  refine ⟨w', h1, ⟨h.B.grown h3 h.B.size (fun k hk => by cases hk; exact h.hq), blk_grown h.r h3 (fun e => h.prov.ne_cells h.r (Option.some.inj e).symm), blk_grown h.p h3 (fun e => h.prov.ne_cells h.p (Option.some.inj e).symm), ?_, by rw [List.length_append]; exact h2, h.h4, h.hp, h.hd, h.hq, h.ne, h.ne4⟩, rs_grown rfl hR h3 (fun k hk e => h.prov.ne_row hR (by rw [hk, ← e]))⟩
  refine ⟨h.grp.map.grown h3 (fun e => h.ne (Option.some.inj e)), fun y => ?_, h.grp.has⟩
  obtain ⟨r1, r2⟩ := h.grp.rows y
  exact ⟨rs_grown rfl r1 h3 (fun k hk e => h.prov.ne_row r1 (by rw [hk, ← e])), r2⟩
/-- A definer has been appended (w1), and its slice is put back. -/
theorem BW.group (h : BW w wr vm g4 bd bp gp f g ps pv) {s : ByteArray} {v1 : Value} {x : Int} (hs : s.size ≤ 1048576) (hn : ps.length ≤ 2097152) (hg : wr.grownBy w1 ((g s).getD (.slice none 0 0)).ownBlock) (hB : Below w.heap.size w w1) (hR : KI.R 3 w1 w.heap.size (fun _ => True) v1 (zsOf ps s ++ [x]))
    (hm : v1.ownBlock = ((g s).getD (.slice none 0 0)).ownBlock ∨ ∃ k, v1.ownBlock = some k ∧ wr.heap.size ≤ k) {v : Value} {ns : List ByteArray} (hV : Kd.string.R 9 wr w.heap.size (fun _ => True) v ns) :
    ∃ w2 f2 g2, (Instr.mapUpdate 80 (.map (some bd)) (.string s) v1).run Try.prog w1 = .ok () w2 ∧ BW w w2 vm g4 bd bp gp f2 g2 (ps ++ [(s, x)]) pv ∧ Kd.string.R 9 w2 w.heap.size (fun _ => True) v ns := by
  obtain ⟨w2, h1, h2, h3⟩ := h.grp.store (s := s) (x := x) (by omega) (by omega) hg hR hm
  have hrow := (h.grp.rows s).1
  have hty : ∀ {i t : Nat} {cs : Array Value}, wr.heap[i]? = some (.cells cs t (0, 0)) → t ≠ 3 → w2.heap[i]? = some (.cells cs t (0, 0)) := by
    intro i t cs hi ht
    have h4 := blk_grown hi hg (Kd.R_ne hrow hi (fun e => ht e.symm))
    exact blk_grown h4 h2 (fun e => (h.grp.map.grown hg (h.grp.map.ne_row hrow)).ne_cells h4 (Option.some.inj e).symm)
  refine ⟨w2, updK f wr.heap.size s, updM g s v1, h1, ⟨hB.grown h2 hB.size (fun k hk => by cases hk; exact h.hd), hty h.r (by decide), hty h.p (by decide), ?_, (h.prov.grown hg (h.prov.ne_row hrow)).grown h2 (fun e => h.ne (Option.some.inj e).symm), h.h4, h.hp, h.hd, h.hq, h.ne, h.ne4⟩, ?_⟩
  · rw [List.length_append, zsOf_snoc]
    exact h3
  · refine Kd.R_mono (Kd.R_step (Kd.R_tight rfl hV) (fun k hk _ => ?_)) (fun _ _ => trivial)
    obtain ⟨cs, hc⟩ := Kd.R_typed hV k hk.symm
    rw [hty hc (by decide), hc]
end
end Go.Proofs.Ythpjpkcfepmhkaa.PAll
