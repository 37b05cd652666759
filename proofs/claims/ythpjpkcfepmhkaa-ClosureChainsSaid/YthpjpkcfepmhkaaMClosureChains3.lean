/- Laid together by a program of this session (wip/bundle.py) out of its own texts and of the words that the kit's print.sh laid for this seat, cut to what is used. -/
import Derived.Test.YthpjpkcfepmhkaaMClosureChains2
import Derived.Maps.OwnSet
import Derived.Maps.RangeWalk
namespace Go.Proofs.Ythpjpkcfepmhkaa.PAll
open Go.RowKit Go.Proofs.YthpjpkcfepmhkaaW.PrintWords Go.Proofs.YthpjpkcfepmhkaaW.PrintLast Go.Proofs.YthpjpkcfepmhkaaW.PrintMore
open Go.Maps (Keyed IsMap)
set_option linter.unusedVariables false
set_option linter.unusedSimpArgs false
def rawR (v : Value) : Option (DataW Value × List MemPlace) := some (.held v, [])
def atOf (g : Option Value) (z : DataW Value) : DataW Value := match g with | some v => .held v | none => z
theorem atOf_held (g : Option Value) (z : Value) : atOf g (.held z) = .held (g.getD z) := by cases g <;> rfl
/-- Block b is a map (its keys' type k; lk: what a key reads as) of at most n entries; g: what stands at each key. -/
def MapV {α : Type} (lk : α → Lit) (w : World) (k b n : Nat) (g : α → Option Value) : Prop :=
  ∃ D : DataW Value, w.ownsMap Try.prog k rawR b n D ∧ ∀ a z, D.atKey (lk a) z = atOf (g a) z
def updM {α : Type} [DecidableEq α] (g : α → Option Value) (a : α) (v : Value) : α → Option Value := fun x => if x = a then some v else g x
section
variable {α : Type} {lk : α → Lit} {w w1 : World} {k b n : Nat} {g : α → Option Value}
theorem MapV.made (lk : α → Lit) (w : World) (k : Nat) : MapV lk (w.alloc (.map #[] 0)) k w.heap.size 0 (fun _ => none) :=
  ⟨.map [], World.ownsMap_made w Try.prog k rawR, fun _ _ => rfl⟩
theorem MapV.blk (h : MapV lk w k b n g) : ∃ es clock, w.heap[b]? = some (.map es clock) := by
  obtain ⟨D, ⟨es, clock, hb, _⟩, _⟩ := h
  exact ⟨es, clock, hb⟩
theorem MapV.lt (h : MapV lk w k b n g) : b < w.heap.size := by
  obtain ⟨es, clock, hb⟩ := h.blk
  exact blk_lt hb
theorem MapV.mono (h : MapV lk w k b n g) {n' : Nat} (hn : n ≤ n') : MapV lk w k b n' g := by
  obtain ⟨D, h1, h2⟩ := h
  exact ⟨D, h1.mono hn, h2⟩
theorem MapV.same (h : MapV lk w k b n g) (hb : w1.heap[b]? = w.heap[b]?) : MapV lk w1 k b n g := by
  obtain ⟨D, ⟨es, clock, hb0, r⟩, h2⟩ := h
  exact ⟨D, ⟨es, clock, hb.trans hb0, r⟩, h2⟩
theorem MapV.below {B : Nat} (h : MapV lk w k b n g) (hb : Below B w w1) (hB : b < B) : MapV lk w1 k b n g := h.same (hb.block b hB)
theorem MapV.grown (h : MapV lk w k b n g) {row : Option Nat} (hg : w.grownBy w1 row) (hne : some b ≠ row) : MapV lk w1 k b n g := h.same (hg.block b h.lt hne)
/-- A row of cells is no map. -/
theorem MapV.ne_cells (h : MapV lk w k b n g) {i t : Nat} {cs : Array Value} {f : Nat × Nat} (hi : w.heap[i]? = some (.cells cs t f)) : b ≠ i := by
  rintro rfl
  obtain ⟨es, clock, hb⟩ := h.blk
  rw [hb] at hi
  cases hi
theorem MapV.ne_row {β : Type} {d : Kd β} {e base : Nat} {ok : Nat → Prop} {v : Value} {xs : List β} (h : MapV lk w k b n g) (hR : d.R e w base ok v xs) : some b ≠ v.ownBlock := by
  intro e1
  obtain ⟨cs, hc⟩ := Kd.R_typed hR b e1.symm
  exact h.ne_cells hc rfl
theorem MapV.look (h : MapV lk w k b n g) (K : Keyed Try.prog k) {t e : Nat} (ht : Try.prog.underlying t = some (.map k e)) {z : Value} (hz : (zeroValue e).run Try.prog w = .ok z w) {key : Value} {a : α} (hkey : keyOf Try.prog k key = some (lk a)) :
    (Instr.lookup t (.map (some b)) key false).run Try.prog w = .ok ((g a).getD z) w := by
  obtain ⟨D, h1, h2⟩ := h
  obtain ⟨v, ps, hrun, hv⟩ := h1.lookup K ht hz (zd := .held z) (zp := []) rfl hkey
  have hv : (Option.some (DataW.held v, ([] : List MemPlace))) = some (atOf (g a) (.held z), ps) := by rw [← h2 a]; exact hv
  rw [atOf_held] at hv
  simp only [Option.some.injEq, Prod.mk.injEq, DataW.held.injEq] at hv
  obtain ⟨hv, _⟩ := hv
  rw [hrun, hv]
theorem MapV.look_ok (h : MapV lk w k b n g) (K : Keyed Try.prog k) {t e : Nat} (ht : Try.prog.underlying t = some (.map k e)) {z : Value} (hz : (zeroValue e).run Try.prog w = .ok z w) {key : Value} {a : α} (hkey : keyOf Try.prog k key = some (lk a)) :
    (Instr.lookup t (.map (some b)) key true).run Try.prog w = .ok (.tuple #[(g a).getD z, .bool (g a).isSome]) w := by
  obtain ⟨D, h1, h2⟩ := h
  obtain ⟨v, ps, hrun, hv⟩ := h1.look_ok K ht hz (zd := .held z) (zp := []) rfl hkey
  have hv : (Option.some (DataW.held v, ([] : List MemPlace))) = some (atOf (g a) (.held z), ps) := by rw [← h2 a]; exact hv
  rw [atOf_held] at hv
  simp only [Option.some.injEq, Prod.mk.injEq, DataW.held.injEq] at hv
  obtain ⟨hv, _⟩ := hv
  have hh : Maps.has D (lk a) = (g a).isSome := by
    cases hg : g a with
    | none => exact Maps.has_false_of_atKey (fun zd => by rw [h2, hg]; rfl)
    | some u => exact Maps.has_true_of_atKey (y := .held u) (fun zd => by rw [h2, hg]; rfl)
  rw [hrun, hv, hh]
theorem MapV.store [DecidableEq α] (h : MapV lk w k b n g) (K : Keyed Try.prog k) (hinj : ∀ x y, lk x = lk y → x = y) {t e : Nat} (ht : Try.prog.underlying t = some (.map k e)) (hn : n < maxLen) {key : Value} {a : α} (hkey : keyOf Try.prog k key = some (lk a)) (val : Value) :
    ∃ w', (Instr.mapUpdate t (.map (some b)) key val).run Try.prog w = .ok () w' ∧ MapV lk w' k b (n + 1) (updM g a val) ∧ w.grownBy w' (some b) := by
  obtain ⟨D, h1, h2⟩ := h
  obtain ⟨w', hrun, h3, h4⟩ := h1.update K ht hn hkey (val := val) (d := .held val) (ps := []) rfl
  refine ⟨w', hrun, ⟨_, h3, fun x z => ?_⟩, h4⟩
  unfold updM
  by_cases e : x = a
  · subst e
    rw [if_pos rfl, Maps.atKey_put_same h1.isMap (K.key hkey)]
    rfl
  · rw [if_neg e, Maps.atKey_put_other (fun e' => e (hinj _ _ e'))]
    exact h2 x z
end
def lkS (s : ByteArray) : Lit := .string s.data.toList
def lkI (i : Int) : Lit := .int .i64 i
theorem lkS_inj (x y : ByteArray) (h : lkS x = lkS y) : x = y := by
  unfold lkS at h
  injection h with h
  obtain ⟨⟨x⟩⟩ := x
  obtain ⟨⟨y⟩⟩ := y
  have h : x = y := h
  rw [h]
theorem lkI_inj (x y : Int) (h : lkI x = lkI y) : x = y := by
  unfold lkI at h
  injection h
theorem lawS : Keyed Try.prog 9 := Maps.string_keyed Try.underlying9
theorem lawI : Keyed Try.prog 3 := Maps.int_keyed Try.underlying3
theorem keyS {s : ByteArray} (hs : s.size ≤ 9223372036854775807) : keyOf Try.prog 9 (.string s) = some (lkS s) := Go.WideMaps.keyOf_string_mk Try.underlying9 (by simpa only [maxLen] using hs)
theorem keyI {i : Int} (h0 : -9223372036854775808 ≤ i) (h1 : i ≤ 9223372036854775807) : keyOf Try.prog 3 (.int .i64 i) = some (lkI i) := by
  exact Maps.keyOf_int_mk Try.underlying3 (WalkArith.wf_i64 ⟨h0, h1⟩)
theorem zeroB (w : World) : (zeroValue 4).run Try.prog w = .ok (.bool false) w := by kernel_rfl
theorem zeroI (w : World) : (zeroValue 3).run Try.prog w = .ok (.int .i64 0) w := by kernel_rfl
theorem zeroL (w : World) : (zeroValue 24).run Try.prog w = .ok (.slice none 0 0) w := by kernel_rfl
theorem MapV.held {α : Type} {lk : α → Lit} {w : World} {k b n : Nat} {g : α → Option Value} (h : MapV lk w k b n g) : ∃ D : DataW Value, w.ownsMap Try.prog k rawR b n D ∧ ∀ a z, D.atKey (lk a) z = atOf (g a) z := h
/-- What stands under a key is there. -/
theorem has_at {α : Type} {lk : α → Lit} {D : DataW Value} {g : α → Option Value} (h : ∀ a z, D.atKey (lk a) z = atOf (g a) z) (a : α) : Maps.has D (lk a) = (g a).isSome := by
  cases hg : g a with
  | none => exact Maps.has_false_of_atKey (fun zd => by rw [h, hg]; rfl)
  | some u => exact Maps.has_true_of_atKey (y := .held u) (fun zd => by rw [h, hg]; rfl)
def OwnK (f : Nat → ByteArray) (s : ByteArray) (v : Value) : Prop := ∀ k, v.ownBlock = some k → f k = s
def updK (f : Nat → ByteArray) (n : Nat) (s : ByteArray) : Nat → ByteArray := fun k => if n ≤ k then s else f k
structure Grp (w : World) (base b n : Nat) (f : Nat → ByteArray) (g : ByteArray → Option Value) (zs : ByteArray → List Int) : Prop where
  map : MapV lkS w 9 b n g
  rows : ∀ s, KI.R 3 w base (fun _ => True) ((g s).getD (.slice none 0 0)) (zs s) ∧ OwnK f s ((g s).getD (.slice none 0 0))
  has : ∀ s, g s = none → zs s = []
section
variable {w w1 : World} {base b n : Nat} {f : Nat → ByteArray} {g : ByteArray → Option Value} {zs : ByteArray → List Int}
theorem Grp.made (w : World) (base : Nat) (f : Nat → ByteArray) : Grp (w.alloc (.map #[] 0)) base w.heap.size 0 f (fun _ => none) (fun _ => []) :=
  ⟨MapV.made lkS w 9, fun s => ⟨Kd.R_nil _ _ _ _ _, fun k hk => by simp [Value.ownBlock] at hk⟩, fun _ _ => rfl⟩
theorem Grp.below {B : Nat} (h : Grp w base b n f g zs) (hb : Below B w w1) (hB : w.heap.size ≤ B) : Grp w1 base b n f g zs :=
  ⟨h.map.below hb (Nat.lt_of_lt_of_le h.map.lt hB), fun s => ⟨Kd.R_step (h.rows s).1 (fun k _ hk => hb.block k (Nat.lt_of_lt_of_le hk hB)), (h.rows s).2⟩, h.has⟩
theorem Grp.alloc (h : Grp w base b n f g zs) (o : Obj) : Grp (w.alloc o) base b n f g zs := h.below (below_alloc (Below.refl _ _) o) (Nat.le_refl _)
theorem Grp.drew (h : Grp w base b n f g zs) : Grp w.drew base b n f g zs := h.below (below_drew (Below.refl _ _)) (Nat.le_refl _)
/-- One row has been appended to (its slice is v1 now, not yet put back). -/
theorem Grp.store (h : Grp w base b n f g zs) {s : ByteArray} {v1 : Value} {x : Int} (hs : s.size ≤ 9223372036854775807) (hn : n < 9223372036854775807) (hg : w.grownBy w1 ((g s).getD (.slice none 0 0)).ownBlock) (hR : KI.R 3 w1 base (fun _ => True) v1 (zs s ++ [x]))
    (hm : v1.ownBlock = ((g s).getD (.slice none 0 0)).ownBlock ∨ ∃ k, v1.ownBlock = some k ∧ w.heap.size ≤ k) :
    ∃ w2, (Instr.mapUpdate 80 (.map (some b)) (.string s) v1).run Try.prog w1 = .ok () w2 ∧ w1.grownBy w2 (some b) ∧ Grp w2 base b (n + 1) (updK f w.heap.size s) (updM g s v1) (fun y => if y = s then zs s ++ [x] else zs y) := by
  have hlt := Kd.R_lt (h.rows s).1
  have hm1 : MapV lkS w1 9 b n g := h.map.grown hg (h.map.ne_row (h.rows s).1)
  obtain ⟨w2, hrun, h3, h4⟩ := hm1.store lawS lkS_inj Try.underlying80 (by simpa only [maxLen] using hn) (keyS hs) v1
  refine ⟨w2, hrun, h4, ⟨h3, fun y => ?_, fun y hy => ?_⟩⟩
  · unfold updM
    by_cases e : y = s
    · subst e
      rw [if_pos rfl, if_pos rfl, Option.getD_some]
      refine ⟨rs_grown rfl hR h4 (fun k hk e1 => ?_), fun k hk => ?_⟩
      · obtain ⟨cs, hc⟩ := Kd.R_typed hR k hk
        exact hm1.ne_cells hc (Option.some.inj e1).symm
      · unfold updK
        rcases hm with hm | ⟨j, hj, hle⟩
        · rw [hm] at hk
          rw [if_neg (Nat.not_le.2 (hlt k hk))]
          exact (h.rows y).2 k hk
        · rw [hj] at hk
          rw [if_pos (by rw [← Option.some.inj hk]; exact hle)]
    · rw [if_neg e, if_neg e]
      obtain ⟨r1, r2⟩ := h.rows y
      have hlty := Kd.R_lt r1
      have hne : ∀ k, ((g y).getD (.slice none 0 0)).ownBlock = some k → some k ≠ ((g s).getD (.slice none 0 0)).ownBlock := fun k hk e1 => by
        have h1 := r2 k hk
        have h2 := (h.rows s).2 k e1.symm
        exact e (h1.symm.trans h2)
      have r3 := rs_grown rfl r1 hg hne
      refine ⟨rs_grown rfl r3 h4 (fun k hk e1 => ?_), fun k hk => ?_⟩
      · obtain ⟨cs, hc⟩ := Kd.R_typed r3 k hk
        exact hm1.ne_cells hc (Option.some.inj e1).symm
      · unfold updK
        rw [if_neg (Nat.not_le.2 (hlty k hk))]
        exact r2 k hk
  · unfold updM at hy
    by_cases e : y = s
    · rw [if_pos e] at hy; cases hy
    · rw [if_neg e] at hy
      rw [if_neg e]
      exact h.has y hy
theorem Grp.look (h : Grp w base b n f g zs) {s : ByteArray} (hs : s.size ≤ 9223372036854775807) :
    (Instr.lookup 80 (.map (some b)) (.string s) false).run Try.prog w = .ok ((g s).getD (.slice none 0 0)) w :=
  h.map.look lawS Try.underlying80 (zeroL w) (keyS hs)
end
instance decMemBA (s : ByteArray) (l : List ByteArray) : Decidable (s ∈ l) := decidable_of_iff (l.any (fun x => decide (x = s)) = true) (by simp)
def inG (l : List ByteArray) : ByteArray → Option Value := fun s => if s ∈ l then some (.bool true) else none
theorem inG_nil : inG [] = fun _ => none := by funext s; simp [inG]
theorem inG_snoc (l : List ByteArray) (s : ByteArray) : updM (inG l) s (.bool true) = inG (l ++ [s]) := by
  funext x
  unfold updM inG
  by_cases e : x = s
  · simp [e]
  · simp [e]
theorem inG_look {w : World} {b n : Nat} {l : List ByteArray} (h : MapV lkS w 9 b n (inG l)) {s : ByteArray} (hs : s.size ≤ 9223372036854775807) :
    (Instr.lookup 81 (.map (some b)) (.string s) false).run Try.prog w = .ok (.bool (decide (s ∈ l))) w := by
  rw [h.look lawS Try.underlying81 (zeroB w) (keyS hs)]
  unfold inG
  by_cases e : s ∈ l
  · rw [if_pos e, decide_eq_true e]; rfl
  · rw [if_neg e, decide_eq_false e]; rfl
theorem inG_store {w : World} {b n : Nat} {l : List ByteArray} (h : MapV lkS w 9 b n (inG l)) {s : ByteArray} (hs : s.size ≤ 9223372036854775807) (hn : n < 9223372036854775807) :
    ∃ w', (Instr.mapUpdate 81 (.map (some b)) (.string s) (.bool true)).run Try.prog w = .ok () w' ∧ MapV lkS w' 9 b (n + 1) (inG (l ++ [s])) ∧ w.grownBy w' (some b) := by
  obtain ⟨w', h1, h2, h3⟩ := h.store lawS lkS_inj Try.underlying81 (by simpa only [maxLen] using hn) (keyS hs) (.bool true)
  exact ⟨w', h1, by rw [← inG_snoc]; exact h2, h3⟩
def inN (l : List Int) : Int → Option Value := fun s => if s ∈ l then some (.bool true) else none
theorem inN_nil : inN [] = fun _ => none := by funext s; simp [inN]
theorem inN_snoc (l : List Int) (s : Int) : updM (inN l) s (.bool true) = inN (l ++ [s]) := by
  funext x
  unfold updM inN
  by_cases e : x = s
  · simp [e]
  · simp [e]
theorem inN_look {w : World} {b n : Nat} {l : List Int} (h : MapV lkI w 3 b n (inN l)) {s : Int} (h0 : -9223372036854775808 ≤ s) (h1 : s ≤ 9223372036854775807) :
    (Instr.lookup 85 (.map (some b)) (.int .i64 s) false).run Try.prog w = .ok (.bool (decide (s ∈ l))) w := by
  rw [h.look lawI Try.underlying85 (zeroB w) (keyI h0 h1)]
  unfold inN
  by_cases e : s ∈ l
  · rw [if_pos e, decide_eq_true e]; rfl
  · rw [if_neg e, decide_eq_false e]; rfl
theorem inN_store {w : World} {b n : Nat} {l : List Int} (h : MapV lkI w 3 b n (inN l)) {s : Int} (h0 : -9223372036854775808 ≤ s) (h1 : s ≤ 9223372036854775807) (hn : n < 9223372036854775807) :
    ∃ w', (Instr.mapUpdate 85 (.map (some b)) (.int .i64 s) (.bool true)).run Try.prog w = .ok () w' ∧ MapV lkI w' 3 b (n + 1) (inN (l ++ [s])) ∧ w.grownBy w' (some b) := by
  obtain ⟨w', h1, h2, h3⟩ := h.store lawI lkI_inj Try.underlying85 (by simpa only [maxLen] using hn) (keyI h0 h1) (.bool true)
  exact ⟨w', h1, by rw [← inN_snoc]; exact h2, h3⟩
end Go.Proofs.Ythpjpkcfepmhkaa.PAll
namespace Go.Proofs.Ythpjpkcfepmhkaa.PAll
open Go.RowKit Go.Proofs.YthpjpkcfepmhkaaW.PrintWords Go.Proofs.YthpjpkcfepmhkaaW.PrintLast Go.Proofs.YthpjpkcfepmhkaaW.PrintMore
set_option linter.unusedVariables false
set_option linter.unusedSimpArgs false
def provOf (l : List S50) : List ByteArray := l.flatMap fun o => namesOf defB o.f0
def prsOf : List S50 → Nat → List (ByteArray × Int)
  | [], _ => []
  | o :: r, i => (namesOf defB o.f0).map (fun s => (s, (i : Int))) ++ prsOf r (i + 1)
def zsOf (ps : List (ByteArray × Int)) (s : ByteArray) : List Int := (ps.filter fun p => decide (p.1 = s)).map (fun p => p.2)
/-- Few objects, with few symbols, whose names are short. -/
def smallL (l : List S50) : Bool := decide (l.length ≤ 1024) && l.all fun o => decide (o.f0.length ≤ 1024) && o.f0.all fun s => decide (s.f0.size ≤ 1048576)
theorem rd50 {l : List S50} {k : Nat} (h : k < l.length) : rd_T50 l k = l[k] := by
  unfold rd_T50
  rw [Int.toNat_natCast, List.getD_eq_getElem?_getD, List.getElem?_eq_getElem h]; rfl
theorem smallL_iff {l : List S50} : smallL l = true ↔ l.length ≤ 1024 ∧ ∀ o, o ∈ l → o.f0.length ≤ 1024 ∧ ∀ s, s ∈ o.f0 → s.f0.size ≤ 1048576 := by
  unfold smallL
  simp only [Bool.and_eq_true, decide_eq_true_eq, List.all_eq_true]
theorem names_small {l : List S50} (h : smallL l = true) (p : Int → Bool) {k : Nat} (hk : k < l.length) : (rd_T50 l k).f0.length ≤ 1024 ∧ (namesOf p (rd_T50 l k).f0).length ≤ 1024 ∧ ∀ s, s ∈ namesOf p (rd_T50 l k).f0 → s.size ≤ 1048576 := by
  obtain ⟨h1, h2⟩ := (smallL_iff.1 h).2 _ (List.getElem_mem hk)
  rw [rd50 hk]
  refine ⟨h1, Nat.le_trans (namesOf_len p _) h1, fun s hs => ?_⟩
  unfold namesOf at hs
  obtain ⟨x, hx, rfl⟩ := List.mem_map.1 hs
  exact h2 x (List.mem_filter.1 hx).1
theorem provOf_snoc {l : List S50} {k : Nat} (hk : k < l.length) : provOf (l.take (k + 1)) = provOf (l.take k) ++ namesOf defB (rd_T50 l k).f0 := by
  rw [rd50 hk, List.take_succ_eq_append_getElem hk]
  unfold provOf
  rw [List.flatMap_append]
  simp
theorem prsOf_append : ∀ (l r : List S50) (i : Nat), prsOf (l ++ r) i = prsOf l i ++ prsOf r (i + l.length)
  | [], r, i => by simp [prsOf]
  | o :: l, r, i => by
    simp only [List.cons_append, prsOf, List.length_cons]
    rw [prsOf_append l r (i + 1), List.append_assoc, Nat.add_right_comm, Nat.add_assoc]
theorem prsOf_snoc {l : List S50} {k : Nat} (hk : k < l.length) : prsOf (l.take (k + 1)) 0 = prsOf (l.take k) 0 ++ (namesOf defB (rd_T50 l k).f0).map (fun s => (s, (k : Int))) := by
  rw [rd50 hk, List.take_succ_eq_append_getElem hk, prsOf_append]
  simp only [prsOf, List.append_nil, List.length_take, Nat.zero_add]
  rw [Nat.min_eq_left (by omega)]
theorem zsOf_snoc (ps : List (ByteArray × Int)) (s : ByteArray) (x : Int) : zsOf (ps ++ [(s, x)]) = fun y => if y = s then zsOf ps s ++ [x] else zsOf ps y := by
  funext y
  unfold zsOf
  rw [List.filter_append, List.map_append]
  by_cases e : y = s
  · subst e
    rw [if_pos rfl]
    simp
  · rw [if_neg e]
    simp [Ne.symm e]
theorem flat_len {l : List S50} (h : ∀ o, o ∈ l → o.f0.length ≤ 1024) : (provOf l).length ≤ l.length * 1024 := by
  unfold provOf
  induction l with
  | nil => simp
  | cons o r ih =>
    rw [List.flatMap_cons, List.length_append, List.length_cons]
    have := ih (fun x hx => h x (List.mem_cons_of_mem _ hx))
    have := h o (List.mem_cons_self ..)
    have := namesOf_len defB o.f0
    omega
theorem prov_len {l : List S50} (h : smallL l = true) (k : Nat) : (provOf (l.take k)).length ≤ 1048576 := by
  obtain ⟨h1, h2⟩ := smallL_iff.1 h
  have := flat_len (l := l.take k) (fun o ho => (h2 o (List.mem_of_mem_take ho)).1)
  rw [List.length_take] at this
  have : min k l.length ≤ 1024 := by omega
  omega
theorem prs_len0 : ∀ (l : List S50) (i : Nat), (prsOf l i).length = (provOf l).length
  | [], _ => rfl
  | o :: l, i => by
    unfold prsOf provOf
    rw [List.flatMap_cons, List.length_append, List.length_append, List.length_map, prs_len0 l (i + 1)]
    rfl
theorem prs_len {l : List S50} (h : smallL l = true) (k : Nat) : (prsOf (l.take k) 0).length ≤ 1048576 := by
  rw [prs_len0]; exact prov_len h k
theorem zs_len (ps : List (ByteArray × Int)) (s : ByteArray) : (zsOf ps s).length ≤ ps.length := by
  unfold zsOf
  rw [List.length_map]
  exact List.length_filter_le _ _
structure BW (w wr : World) (vm : Value) (g4 bd bp gp : Nat) (f : Nat → ByteArray) (g : ByteArray → Option Value) (ps : List (ByteArray × Int)) (pv : List ByteArray) : Prop where
  B : Below w.heap.size w wr
  r : wr.heap[g4]? = some (.cells #[.slice none 0 0, .map none, .map none] 83 (0, 0))
  p : wr.heap[gp]? = some (.cells #[vm, .map (some bd), .map (some bp)] 83 (0, 0))
  grp : Grp wr w.heap.size bd ps.length f g (zsOf ps)
  prov : MapV lkS wr 9 bp pv.length (inG pv)
  h4 : w.heap.size ≤ g4
  hp : w.heap.size ≤ gp
  hd : w.heap.size ≤ bd
  hq : w.heap.size ≤ bp
  ne : bd ≠ bp
  ne4 : g4 ≠ gp
section
variable {w wr w1 : World} {vm : Value} {g4 bd bp gp : Nat} {f : Nat → ByteArray} {g : ByteArray → Option Value} {ps : List (ByteArray × Int)} {pv : List ByteArray}
theorem BW.below (h : BW w wr vm g4 bd bp gp f g ps pv) (hb : Below wr.heap.size wr w1) : BW w w1 vm g4 bd bp gp f g ps pv :=
  ⟨below_then h.B h.B.size hb, blk_below h.r hb, blk_below h.p hb, h.grp.below hb (Nat.le_refl _), h.prov.below hb h.prov.lt, h.h4, h.hp, h.hd, h.hq, h.ne, h.ne4⟩
/-- A name that is provided is put in. -/
theorem BW.put (h : BW w wr vm g4 bd bp gp f g ps pv) {s : ByteArray} (hs : s.size ≤ 1048576) (hn : pv.length ≤ 2097152) {v : Value} {ns : List ByteArray} (hR : Kd.string.R 9 wr w.heap.size (fun _ => True) v ns) :
    ∃ w', (Instr.mapUpdate 81 (.map (some bp)) (.string s) (.bool true)).run Try.prog wr = .ok () w' ∧ BW w w' vm g4 bd bp gp f g ps (pv ++ [s]) ∧ Kd.string.R 9 w' w.heap.size (fun _ => True) v ns := by
  obtain ⟨w', h1, h2, h3⟩ := inG_store h.prov (s := s) (by omega) (by omega)
  refine ⟨w', h1, ⟨h.B.grown h3 h.B.size (fun k hk => by cases hk; exact h.hq), blk_grown h.r h3 (fun e => h.prov.ne_cells h.r (Option.some.inj e).symm), blk_grown h.p h3 (fun e => h.prov.ne_cells h.p (Option.some.inj e).symm), ?_, by rw [List.length_append]; exact h2, h.h4, h.hp, h.hd, h.hq, h.ne, h.ne4⟩, rs_grown rfl hR h3 (fun k hk e => h.prov.ne_row hR (by rw [hk, ← e]))⟩
  refine ⟨h.grp.map.grown h3 (fun e => h.ne (Option.some.inj e)), fun y => ?_, h.grp.has⟩
  obtain ⟨r1, r2⟩ := h.grp.rows y
  exact ⟨rs_grown rfl r1 h3 (fun k hk e => h.prov.ne_row r1 (by rw [hk, ← e])), r2⟩
/-- A definer has been appended (w1), and its slice is put back. -/
theorem BW.group (h : BW w wr vm g4 bd bp gp f g ps pv) {s : ByteArray} {v1 : Value} {x : Int} (hs : s.size ≤ 1048576) (hn : ps.length ≤ 2097152) (hg : wr.grownBy w1 ((g s).getD (.slice none 0 0)).ownBlock) (hB : Below w.heap.size w w1) (hR : KI.R 3 w1 w.heap.size (fun _ => True) v1 (zsOf ps s ++ [x]))
    (hm : v1.ownBlock = ((g s).getD (.slice none 0 0)).ownBlock ∨ ∃ k, v1.ownBlock = some k ∧ wr.heap.size ≤ k) {v : Value} {ns : List ByteArray} (hV : Kd.string.R 9 wr w.heap.size (fun _ => True) v ns) :
    ∃ w2 f2 g2, (Instr.mapUpdate 80 (.map (some bd)) (.string s) v1).run Try.prog w1 = .ok () w2 ∧ BW w w2 vm g4 bd bp gp f2 g2 (ps ++ [(s, x)]) pv ∧ Kd.string.R 9 w2 w.heap.size (fun _ => True) v ns := by
  obtain ⟨w2, h1, h2, h3⟩ := h.grp.store (s := s) (x := x) (by omega) (by omega) hg hR hm
  have hrow := (h.grp.rows s).1
  have hty : ∀ {i t : Nat} {cs : Array Value}, wr.heap[i]? = some (.cells cs t (0, 0)) → t ≠ 3 → w2.heap[i]? = some (.cells cs t (0, 0)) := by
    intro i t cs hi ht
    have h4 := blk_grown hi hg (Kd.R_ne hrow hi (fun e => ht e.symm))
    exact blk_grown h4 h2 (fun e => (h.grp.map.grown hg (h.grp.map.ne_row hrow)).ne_cells h4 (Option.some.inj e).symm)
  refine ⟨w2, updK f wr.heap.size s, updM g s v1, h1, ⟨hB.grown h2 hB.size (fun k hk => by cases hk; exact h.hd), hty h.r (by decide), hty h.p (by decide), ?_, (h.prov.grown hg (h.prov.ne_row hrow)).grown h2 (fun e => h.ne (Option.some.inj e).symm), h.h4, h.hp, h.hd, h.hq, h.ne, h.ne4⟩, ?_⟩
  · rw [List.length_append, zsOf_snoc]
    exact h3
  · refine Kd.R_mono (Kd.R_step (Kd.R_tight rfl hV) (fun k hk _ => ?_)) (fun _ _ => trivial)
    obtain ⟨cs, hc⟩ := Kd.R_typed hV k hk.symm
    rw [hty hc (by decide), hc]
end
end Go.Proofs.Ythpjpkcfepmhkaa.PAll
namespace Go.Proofs.Ythpjpkcfepmhkaa.PAll
open Go.RowKit Go.Proofs.YthpjpkcfepmhkaaW.PrintWords Go.Proofs.YthpjpkcfepmhkaaW.PrintLast Go.Proofs.YthpjpkcfepmhkaaW.PrintMore
attribute [local go_sem] max2_int min2_int max_two min_two max_three min_three max_four min_four   -- for this text's walks alone
set_option linter.unusedVariables false
set_option linter.unusedSimpArgs false
mutual
def arlinkref06_Sym.j0 : Nat → Bool → ByteArray → Int → Int → Int → Option (Bool)
 | 0, _, _, _, _, _ => none
 | k + 1, x23, x294000, x294001, x294002, x294003 => if x23 = true then (some false) else (arlinkref06_Sym.l0 k 0 x294000 x294001 x294002 x294003)
def arlinkref06_Sym.l0 : Nat → Int → ByteArray → Int → Int → Int → Option (Bool)
 | 0, _, _, _, _, _ => none
 | k + 1, x3, x294000, x294001, x294002, x294003 => if x3 < (x294000.size : Int) then (if 0 ≤ x3 then (if (bt x294000 x3) = 0 then (some false) else (arlinkref06_Sym.l0 k (wrap64 (x3 + 1)) x294000 x294001 x294002 x294003)) else (none)) else (if x294001 = 3 then ((arlinkref06_Power.f k x294003).bind fun t294 => (some t294)) else (if x294001 = 4 then (if x294002 = 0 then (some (x294003 == 0)) else (some false)) else (if x294001 = 5 then (if x294002 = 0 then (some (x294003 == 0)) else (some false)) else (if x294001 = 1 then (some (x294003 == 0)) else (if x294001 = 2 then (some (x294003 == 0)) else (some false))))))
end
def arlinkref06_Sym.f (k : Nat) (a0_0 : ByteArray) (a0_1 : Int) (a0_2 : Int) (a0_3 : Int) : Option (Bool) := if (a0_0.size : Int) = 0 then (arlinkref06_Sym.j0 k true a0_0 a0_1 a0_2 a0_3) else (if (a0_0.size : Int) > 255 then (arlinkref06_Sym.j0 k true a0_0 a0_1 a0_2 a0_3) else (if a0_2 < 0 then (arlinkref06_Sym.j0 k true a0_0 a0_1 a0_2 a0_3) else (arlinkref06_Sym.j0 k (decide (a0_2 > 4294967295)) a0_0 a0_1 a0_2 a0_3)))
set_option maxHeartbeats 8000000 in
set_option maxRecDepth 100000 in
theorem arlinkref06_Sym.calls (k : Nat) (a0_0 : ByteArray) (a0_1 : Int) (a0_2 : Int) (a0_3 : Int) (r : Bool) (w : World) (h : arlinkref06_Sym.f k a0_0 a0_1 a0_2 a0_3 = some r) :
  Calls Try.prog 64 #[.agg #[.string a0_0, .int .i64 a0_1, .int .i64 a0_2, .int .i64 a0_3]] w fun e w' => e = .returned (.bool r) ∧ Below w.heap.size w w' := by
 have hu55 := Try.underlying55
 have HB := Aside0.mk (Below.refl w.heap.size w)
 have H : (if (a0_0.size : Int) = 0 then (arlinkref06_Sym.j0 k true a0_0 a0_1 a0_2 a0_3) else (if (a0_0.size : Int) > 255 then (arlinkref06_Sym.j0 k true a0_0 a0_1 a0_2 a0_3) else (if a0_2 < 0 then (arlinkref06_Sym.j0 k true a0_0 a0_1 a0_2 a0_3) else (arlinkref06_Sym.j0 k (decide (a0_2 > 4294967295)) a0_0 a0_1 a0_2 a0_3)))) = some r := h
 clear h
 have HC2 := Aside0.mk H
 clear H
 go_enter Try.func64, Try.ntmps64
 go_upto_region 1 with (first | ((with_reducible refine gate_dst (N := 1) rfl ?_); (try (refine gate_guard (by rfl) ?_; dsimp only)); refine box_event ?hg (N := 1) ?hd (cs := #[.string a0_0, .int .i64 a0_1, .int .i64 a0_2, .int .i64 a0_3]) (t := 55) ?hr ?_; (case hd => rfl); (case hg => rfl); (case hr => first | (go_simp; done) | (go_simp; rfl)); intro gb293 hg w3 hbox hb; have n0_ := Aside0.mk (below_step (by repeat (first | (with_reducible first | exact HB.out | apply below_alloc | apply pw_below_drewN | apply below_drew1) | exact HB.out)) hb); have n1_ := Aside0.mk (hbox); have n2_ := Aside0.mk ((by rw [hg]; exact (below_size (by repeat (first | (with_reducible first | exact HB.out | apply below_alloc | apply pw_below_drewN | apply below_drew1) | exact HB.out))) : w.heap.size ≤ gb293)); have n3_ := Aside0.mk ((by rw [hg]; exact (below_size (by repeat (first | (with_reducible first | exact HB.out | apply below_alloc | apply pw_below_drewN | apply below_drew1) | exact HB.out))) : w.heap.size ≤ gb293)); clear HB; have HB := n0_; have BK293 := n1_; have GW293 := n2_; have GE293 := n3_; clear n0_ n1_ n2_ n3_; clear hb hbox hg))
 (try simp only [Act.put, List.setIfInBounds_toArray, List.set_cons_zero, List.set_cons_succ])
 go_cut [23] (fun v23 wc => ∃ (kq : Nat) (x23_1 : Bool), v23 = .bool x23_1 ∧ Aside0 (arlinkref06_Sym.j0 kq x23_1 a0_0 a0_1 a0_2 a0_3 = some r) ∧ Aside0 (kq ≤ k) ∧ Aside0 (wc.heap[gb293]? = some (.cells #[.string a0_0, .int .i64 a0_1, .int .i64 a0_2, .int .i64 a0_3] 55 (0, 0))) ∧ Aside0 (Below w.heap.size w wc))
 case first =>
  have H := HC2.out
  clear HC2
  by_cases c4 : (a0_0.size : Int) = 0
  ·rw [if_pos c4] at H
   have c4b0 : ((a0_0.size : Int) == 0) = true := beq_iff_eq.mpr c4
   have c4b1 : ((a0_0.size : Int) != 0) = false := bne_eq_false_iff_eq.mpr c4
   clear c4
   (first | rw [c4b0] | (simp only [i64_w, i32_w]; rw [c4b0]) | skip)
   have H' := Aside0.mk H
   clear H
   have hcz5_0 : w3.cell? ⟨gb293, 0, none⟩ = some (.string a0_0) := (blk_cell BK293.out 0).trans rfl
   have hcz5_1 : w3.cell? ⟨gb293, 1, none⟩ = some (.int .i64 a0_1) := (blk_cell BK293.out 1).trans rfl
   have hcz5_2 : w3.cell? ⟨gb293, 2, none⟩ = some (.int .i64 a0_2) := (blk_cell BK293.out 2).trans rfl
   have hcz5_3 : w3.cell? ⟨gb293, 3, none⟩ = some (.int .i64 a0_3) := (blk_cell BK293.out 3).trans rfl
   have hfz5_0 := blk_frozen BK293.out 0
   have hfz5_1 := blk_frozen BK293.out 1
   have hfz5_2 := blk_frozen BK293.out 2
   have hfz5_3 := blk_frozen BK293.out 3
   go_wp2
   go_meet
   case rel => exact ⟨_, (true), (by first | rfl | (simp; done) | (simp [*]; done)), H', ⟨by first | omega | exact Nat.le_refl _⟩, ⟨by (with_reducible repeat (first | refine blk_drewN ?_ _ | refine blk_drew ?_ | refine blk_alloc ?_ _)); exact BK293.out⟩, ⟨by repeat (first | (with_reducible first | exact HB.out | apply below_alloc | apply pw_below_drewN | apply below_drew1 | refine below_set ?_ GE293.out) | exact HB.out)⟩⟩
  ·rw [if_neg c4] at H
   have c4b0 : ((a0_0.size : Int) == 0) = false := beq_eq_false_iff_ne.mpr c4
   have c4b1 : ((a0_0.size : Int) != 0) = true := bne_iff_ne.mpr c4
   (first | rw [c4b0] | (simp only [i64_w, i32_w]; rw [c4b0]) | skip)
   by_cases c6 : (a0_0.size : Int) > 255
   ·rw [if_pos c6] at H
    have c6b0 : decide (255 < (a0_0.size : Int)) = true := decide_eq_true c6
    have c6b1 : decide (255 < a0_0.size) = true := decide_eq_true (by omega)
    clear c6
    have H' := Aside0.mk H
    clear H
    have hcz7_0 : w3.cell? ⟨gb293, 0, none⟩ = some (.string a0_0) := (blk_cell BK293.out 0).trans rfl
    have hcz7_1 : w3.cell? ⟨gb293, 1, none⟩ = some (.int .i64 a0_1) := (blk_cell BK293.out 1).trans rfl
    have hcz7_2 : w3.cell? ⟨gb293, 2, none⟩ = some (.int .i64 a0_2) := (blk_cell BK293.out 2).trans rfl
    have hcz7_3 : w3.cell? ⟨gb293, 3, none⟩ = some (.int .i64 a0_3) := (blk_cell BK293.out 3).trans rfl
    have hfz7_0 := blk_frozen BK293.out 0
    have hfz7_1 := blk_frozen BK293.out 1
    have hfz7_2 := blk_frozen BK293.out 2
    have hfz7_3 := blk_frozen BK293.out 3
    go_wp2
    go_meet
    case rel => exact ⟨_, (true), (by first | rfl | (simp; done) | (simp [*]; done)), H', ⟨by first | omega | exact Nat.le_refl _⟩, ⟨by (with_reducible repeat (first | refine blk_drewN ?_ _ | refine blk_drew ?_ | refine blk_alloc ?_ _)); exact BK293.out⟩, ⟨by repeat (first | (with_reducible first | exact HB.out | apply below_alloc | apply pw_below_drewN | apply below_drew1 | refine below_set ?_ GE293.out) | exact HB.out)⟩⟩
   ·rw [if_neg c6] at H
    have c6b0 : decide (255 < (a0_0.size : Int)) = false := decide_eq_false c6
    have c6b1 : decide (255 < a0_0.size) = false := decide_eq_false (by omega)
    clear c6
    by_cases c8 : a0_2 < 0
    ·rw [if_pos c8] at H
     have c8b0 : decide (a0_2 < 0) = true := decide_eq_true c8
     clear c8
     have H' := Aside0.mk H
     clear H
     have hcz9_0 : w3.cell? ⟨gb293, 0, none⟩ = some (.string a0_0) := (blk_cell BK293.out 0).trans rfl
     have hcz9_1 : w3.cell? ⟨gb293, 1, none⟩ = some (.int .i64 a0_1) := (blk_cell BK293.out 1).trans rfl
     have hcz9_2 : w3.cell? ⟨gb293, 2, none⟩ = some (.int .i64 a0_2) := (blk_cell BK293.out 2).trans rfl
     have hcz9_3 : w3.cell? ⟨gb293, 3, none⟩ = some (.int .i64 a0_3) := (blk_cell BK293.out 3).trans rfl
     have hfz9_0 := blk_frozen BK293.out 0
     have hfz9_1 := blk_frozen BK293.out 1
     have hfz9_2 := blk_frozen BK293.out 2
     have hfz9_3 := blk_frozen BK293.out 3
     go_wp2
     go_meet
     case rel => exact ⟨_, (true), (by first | rfl | (simp; done) | (simp [*]; done)), H', ⟨by first | omega | exact Nat.le_refl _⟩, ⟨by (with_reducible repeat (first | refine blk_drewN ?_ _ | refine blk_drew ?_ | refine blk_alloc ?_ _)); exact BK293.out⟩, ⟨by repeat (first | (with_reducible first | exact HB.out | apply below_alloc | apply pw_below_drewN | apply below_drew1 | refine below_set ?_ GE293.out) | exact HB.out)⟩⟩
    ·rw [if_neg c8] at H
     have c8b0 : decide (a0_2 < 0) = false := decide_eq_false c8
     clear c8
     have H' := Aside0.mk H
     clear H
     have hcz10_0 : w3.cell? ⟨gb293, 0, none⟩ = some (.string a0_0) := (blk_cell BK293.out 0).trans rfl
     have hcz10_1 : w3.cell? ⟨gb293, 1, none⟩ = some (.int .i64 a0_1) := (blk_cell BK293.out 1).trans rfl
     have hcz10_2 : w3.cell? ⟨gb293, 2, none⟩ = some (.int .i64 a0_2) := (blk_cell BK293.out 2).trans rfl
     have hcz10_3 : w3.cell? ⟨gb293, 3, none⟩ = some (.int .i64 a0_3) := (blk_cell BK293.out 3).trans rfl
     have hfz10_0 := blk_frozen BK293.out 0
     have hfz10_1 := blk_frozen BK293.out 1
     have hfz10_2 := blk_frozen BK293.out 2
     have hfz10_3 := blk_frozen BK293.out 3
     go_wp2
     go_meet
     case rel => exact ⟨_, (decide (a0_2 > 4294967295)), (by first | rfl | (simp; done) | (simp [*]; done)), H', ⟨by first | omega | exact Nat.le_refl _⟩, ⟨by (with_reducible repeat (first | refine blk_drewN ?_ _ | refine blk_drew ?_ | refine blk_alloc ?_ _)); exact BK293.out⟩, ⟨by repeat (first | (with_reducible first | exact HB.out | apply below_alloc | apply pw_below_drewN | apply below_drew1 | refine below_set ?_ GE293.out) | exact HB.out)⟩⟩
 case rest =>
  clear HC2
  try clear p2
  try clear c4
  try clear c4b0
  try clear c4b1
  try clear c6
  try clear c6b0
  try clear c6b1
  try clear c8
  try clear c8b0
  try clear hcz10_0
  try clear hcz10_1
  try clear hcz10_2
  try clear hcz10_3
  try clear hcz5_0
  try clear hcz5_1
  try clear hcz5_2
  try clear hcz5_3
  try clear hcz7_0
  try clear hcz7_1
  try clear hcz7_2
  try clear hcz7_3
  try clear hcz9_0
  try clear hcz9_1
  try clear hcz9_2
  try clear hcz9_3
  try clear hfz10_0
  try clear hfz10_1
  try clear hfz10_2
  try clear hfz10_3
  try clear hfz5_0
  try clear hfz5_1
  try clear hfz5_2
  try clear hfz5_3
  try clear hfz7_0
  try clear hfz7_1
  try clear hfz7_2
  try clear hfz7_3
  try clear hfz9_0
  try clear hfz9_1
  try clear hfz9_2
  try clear hfz9_3
  obtain ⟨kq, x23_1, rfl, HA, HJ1, BK293, HB⟩ := hcut
  cases kq with
  | zero => exact absurd HA.out (by simp [arlinkref06_Sym.j0])
  | succ kj1 =>
   have H := HA.out
   clear HA
   simp only [arlinkref06_Sym.j0] at H
   by_cases c11 : x23_1 = true
   ·subst c11
    have H1 : (some false) = some r := by rw [if_pos rfl] at H; exact H
    clear H
    have H := H1
    clear H1
    obtain rfl := Option.some.inj H
    go_wp2
    go_ret
    exact ⟨by first | rfl | (simp [errW_none, errW_some] <;> rfl) | (simp [*, errW_none, errW_some] <;> rfl), by repeat (first | (with_reducible first | exact HB.out | apply below_alloc | apply pw_below_drewN | apply below_drew1 | refine below_set ?_ GE293.out) | exact HB.out)⟩
   ·replace c11 := Bool.eq_false_iff.mpr c11
    subst c11
    have H1 : (arlinkref06_Sym.l0 kj1 0 a0_0 a0_1 a0_2 a0_3) = some r := by rw [if_neg (show ¬ (false = true) by decide)] at H; exact H
    clear H
    have H := H1
    clear H1
    have H' := Aside0.mk H
    clear H
    go_wp2
    go_loopg [3] kj1 (fun kq v3 w' => ∃ (x3_2 : Int), v3 = .int .i64 x3_2 ∧ Aside0 (arlinkref06_Sym.l0 kq x3_2 a0_0 a0_1 a0_2 a0_3 = some r) ∧ Aside0 (kq ≤ kj1) ∧ Aside0 (w'.heap[gb293]? = some (.cells #[.string a0_0, .int .i64 a0_1, .int .i64 a0_2, .int .i64 a0_3] 55 (0, 0))) ∧ Aside0 (Below w.heap.size w w'))
    case atStart => exact ⟨(0), (by first | rfl | (simp; done) | (simp [*]; done)), H', ⟨Nat.le_refl _⟩, ⟨by (with_reducible repeat (first | refine blk_drewN ?_ _ | refine blk_drew ?_ | refine blk_alloc ?_ _)); exact BK293.out⟩, ⟨by repeat (first | (with_reducible first | exact HB.out | apply below_alloc | apply pw_below_drewN | apply below_drew1 | refine below_set ?_ GE293.out) | exact HB.out)⟩⟩
    case round =>
     clear H'
     try clear c1
     try clear p2
     try clear c4
     try clear c4b0
     try clear c4b1
     try clear c6
     try clear c6b0
     try clear c6b1
     try clear c8
     try clear c8b0
     try clear c11
     try clear hcz10_0
     try clear hcz10_1
     try clear hcz10_2
     try clear hcz10_3
     try clear hcz5_0
     try clear hcz5_1
     try clear hcz5_2
     try clear hcz5_3
     try clear hcz7_0
     try clear hcz7_1
     try clear hcz7_2
     try clear hcz7_3
     try clear hcz9_0
     try clear hcz9_1
     try clear hcz9_2
     try clear hcz9_3
     try clear hfz10_0
     try clear hfz10_1
     try clear hfz10_2
     try clear hfz10_3
     try clear hfz5_0
     try clear hfz5_1
     try clear hfz5_2
     try clear hfz5_3
     try clear hfz7_0
     try clear hfz7_1
     try clear hfz7_2
     try clear hfz7_3
     try clear hfz9_0
     try clear hfz9_1
     try clear hfz9_2
     try clear hfz9_3
     try clear p2
     obtain ⟨x3_2, rfl, HA, HK2, BK293, HB⟩ := hrel
     cases gk with
     | zero => exact absurd HA.out (by simp [arlinkref06_Sym.l0])
     | succ k2 =>
      have H := HA.out
      clear HA
      simp only [arlinkref06_Sym.l0] at H
      by_cases c12 : x3_2 < (a0_0.size : Int)
      ·rw [if_pos c12] at H
       have c12b0 : decide (x3_2 < (a0_0.size : Int)) = true := decide_eq_true c12
       clear c12
       by_cases c13 : 0 ≤ x3_2
       ·rw [if_pos c13] at H
        have c13b0 : decide (0 ≤ x3_2) = true := decide_eq_true c13
        clear c13
        by_cases c15 : (bt a0_0 x3_2) = 0
        ·rw [if_pos c15] at H
         have c15b0 : ((bt a0_0 x3_2) == 0) = true := beq_iff_eq.mpr c15
         have c15b1 : ((bt a0_0 x3_2) != 0) = false := bne_eq_false_iff_eq.mpr c15
         clear c15
         obtain rfl := Option.some.inj H
         have hcz16_0 : wr.cell? ⟨gb293, 0, none⟩ = some (.string a0_0) := (blk_cell BK293.out 0).trans rfl
         have hcz16_1 : wr.cell? ⟨gb293, 1, none⟩ = some (.int .i64 a0_1) := (blk_cell BK293.out 1).trans rfl
         have hcz16_2 : wr.cell? ⟨gb293, 2, none⟩ = some (.int .i64 a0_2) := (blk_cell BK293.out 2).trans rfl
         have hcz16_3 : wr.cell? ⟨gb293, 3, none⟩ = some (.int .i64 a0_3) := (blk_cell BK293.out 3).trans rfl
         have hfz16_0 := blk_frozen BK293.out 0
         have hfz16_1 := blk_frozen BK293.out 1
         have hfz16_2 := blk_frozen BK293.out 2
         have hfz16_3 := blk_frozen BK293.out 3
         have p14 : 0 ≤ (x3_2 : Int) := of_decide_eq_true (by first | (with_reducible assumption) | assumption)
         have q14 : x3_2 < (a0_0.size : Int) := of_decide_eq_true (by first | (with_reducible assumption) | assumption)
         have hx14 := bt_at a0_0 x3_2
         replace p14 := eq_true p14
         replace q14 := eq_true q14
         go_wp2
         go_ret
         exact ⟨by first | rfl | (simp [errW_none, errW_some] <;> rfl) | (simp [*, errW_none, errW_some] <;> rfl), by repeat (first | (with_reducible first | exact HB.out | apply below_alloc | apply pw_below_drewN | apply below_drew1 | refine below_set ?_ GE293.out) | exact HB.out)⟩
        ·rw [if_neg c15] at H
         have c15b0 : ((bt a0_0 x3_2) == 0) = false := beq_eq_false_iff_ne.mpr c15
         have c15b1 : ((bt a0_0 x3_2) != 0) = true := bne_iff_ne.mpr c15
         have H' := Aside0.mk H
         clear H
         have hcz17_0 : wr.cell? ⟨gb293, 0, none⟩ = some (.string a0_0) := (blk_cell BK293.out 0).trans rfl
         have hcz17_1 : wr.cell? ⟨gb293, 1, none⟩ = some (.int .i64 a0_1) := (blk_cell BK293.out 1).trans rfl
         have hcz17_2 : wr.cell? ⟨gb293, 2, none⟩ = some (.int .i64 a0_2) := (blk_cell BK293.out 2).trans rfl
         have hcz17_3 : wr.cell? ⟨gb293, 3, none⟩ = some (.int .i64 a0_3) := (blk_cell BK293.out 3).trans rfl
         have hfz17_0 := blk_frozen BK293.out 0
         have hfz17_1 := blk_frozen BK293.out 1
         have hfz17_2 := blk_frozen BK293.out 2
         have hfz17_3 := blk_frozen BK293.out 3
         have p14 : 0 ≤ (x3_2 : Int) := of_decide_eq_true (by first | (with_reducible assumption) | assumption)
         have q14 : x3_2 < (a0_0.size : Int) := of_decide_eq_true (by first | (with_reducible assumption) | assumption)
         have hx14 := bt_at a0_0 x3_2
         replace p14 := eq_true p14
         replace q14 := eq_true q14
         go_wp2
         go_roundg k2
         case measure => have := HJ1.out; have := HK2.out; omega
         case rel => exact ⟨(wrap64 (x3_2 + 1)), (by first | rfl | (simp; done) | (simp [*]; done)), H', ⟨by have := HJ1.out; have := HK2.out; omega⟩, ⟨by (with_reducible repeat (first | refine blk_drewN ?_ _ | refine blk_drew ?_ | refine blk_alloc ?_ _)); exact BK293.out⟩, ⟨by repeat (first | (with_reducible first | exact HB.out | apply below_alloc | apply pw_below_drewN | apply below_drew1 | refine below_set ?_ GE293.out) | exact HB.out)⟩⟩
       ·rw [if_neg c13] at H
        exact absurd H (by simp)
      ·rw [if_neg c12] at H
       have c12b0 : decide (x3_2 < (a0_0.size : Int)) = false := decide_eq_false c12
       clear c12
       by_cases c18 : a0_1 = 3
       ·rw [if_pos c18] at H
        have c18b0 : (a0_1 == 3) = true := beq_iff_eq.mpr c18
        have c18b1 : (a0_1 != 3) = false := bne_eq_false_iff_eq.mpr c18
        clear c18
        replace H := Option.bind_eq_some_iff.mp H
        obtain ⟨t294, A190, H⟩ := H
        replace H : (some t294) = some r := H
        have A19 := Aside0.mk A190
        clear A190
        obtain rfl := Option.some.inj H
        have hcz20_0 : wr.cell? ⟨gb293, 0, none⟩ = some (.string a0_0) := (blk_cell BK293.out 0).trans rfl
        have hcz20_1 : wr.cell? ⟨gb293, 1, none⟩ = some (.int .i64 a0_1) := (blk_cell BK293.out 1).trans rfl
        have hcz20_2 : wr.cell? ⟨gb293, 2, none⟩ = some (.int .i64 a0_2) := (blk_cell BK293.out 2).trans rfl
        have hcz20_3 : wr.cell? ⟨gb293, 3, none⟩ = some (.int .i64 a0_3) := (blk_cell BK293.out 3).trans rfl
        have hfz20_0 := blk_frozen BK293.out 0
        have hfz20_1 := blk_frozen BK293.out 1
        have hfz20_2 := blk_frozen BK293.out 2
        have hfz20_3 := blk_frozen BK293.out 3
        go_wp2_with (first | ((with_reducible refine gate_callee (f := 69) rfl ?_); refine goesL_ (some 41) rfl rfl Try.func69 (by kernel_rfl) rfl #[.int .i64 a0_3] rfl (by (try simp only [List.map_toArray, List.map_cons, List.map_nil]); first | done | rfl | (simp only [List.length_drop, List.length_take]; rfl)) ?_; (with_reducible refine (arlinkref06_Power.calls k2 a0_3 t294 _ A19.out).mono ?_); rintro e w' ⟨rfl, ⟨nd, rfl⟩⟩; refine ⟨_, rfl, ?_⟩))
        go_ret
        exact ⟨by first | rfl | (simp [errW_none, errW_some] <;> rfl) | (simp [*, errW_none, errW_some] <;> rfl), by repeat (first | (with_reducible first | exact HB.out | apply below_alloc | apply pw_below_drewN | apply below_drew1 | refine below_set ?_ GE293.out) | exact HB.out)⟩
       ·rw [if_neg c18] at H
        have c18b0 : (a0_1 == 3) = false := beq_eq_false_iff_ne.mpr c18
        have c18b1 : (a0_1 != 3) = true := bne_iff_ne.mpr c18
        by_cases c21 : a0_1 = 4
        ·rw [if_pos c21] at H
         have c21b0 : (a0_1 == 4) = true := beq_iff_eq.mpr c21
         have c21b1 : (a0_1 != 4) = false := bne_eq_false_iff_eq.mpr c21
         clear c21
         by_cases c22 : a0_2 = 0
         ·rw [if_pos c22] at H
          have c22b0 : (a0_2 == 0) = true := beq_iff_eq.mpr c22
          have c22b1 : (a0_2 != 0) = false := bne_eq_false_iff_eq.mpr c22
          clear c22
          obtain rfl := Option.some.inj H
          have hcz23_0 : wr.cell? ⟨gb293, 0, none⟩ = some (.string a0_0) := (blk_cell BK293.out 0).trans rfl
          have hcz23_1 : wr.cell? ⟨gb293, 1, none⟩ = some (.int .i64 a0_1) := (blk_cell BK293.out 1).trans rfl
          have hcz23_2 : wr.cell? ⟨gb293, 2, none⟩ = some (.int .i64 a0_2) := (blk_cell BK293.out 2).trans rfl
          have hcz23_3 : wr.cell? ⟨gb293, 3, none⟩ = some (.int .i64 a0_3) := (blk_cell BK293.out 3).trans rfl
          have hfz23_0 := blk_frozen BK293.out 0
          have hfz23_1 := blk_frozen BK293.out 1
          have hfz23_2 := blk_frozen BK293.out 2
          have hfz23_3 := blk_frozen BK293.out 3
          go_wp2
          go_ret
          exact ⟨by first | rfl | (simp [errW_none, errW_some] <;> rfl) | (simp [*, errW_none, errW_some] <;> rfl), by repeat (first | (with_reducible first | exact HB.out | apply below_alloc | apply pw_below_drewN | apply below_drew1 | refine below_set ?_ GE293.out) | exact HB.out)⟩
         ·rw [if_neg c22] at H
          have c22b0 : (a0_2 == 0) = false := beq_eq_false_iff_ne.mpr c22
          have c22b1 : (a0_2 != 0) = true := bne_iff_ne.mpr c22
          obtain rfl := Option.some.inj H
          have hcz24_0 : wr.cell? ⟨gb293, 0, none⟩ = some (.string a0_0) := (blk_cell BK293.out 0).trans rfl
          have hcz24_1 : wr.cell? ⟨gb293, 1, none⟩ = some (.int .i64 a0_1) := (blk_cell BK293.out 1).trans rfl
          have hcz24_2 : wr.cell? ⟨gb293, 2, none⟩ = some (.int .i64 a0_2) := (blk_cell BK293.out 2).trans rfl
          have hcz24_3 : wr.cell? ⟨gb293, 3, none⟩ = some (.int .i64 a0_3) := (blk_cell BK293.out 3).trans rfl
          have hfz24_0 := blk_frozen BK293.out 0
          have hfz24_1 := blk_frozen BK293.out 1
          have hfz24_2 := blk_frozen BK293.out 2
          have hfz24_3 := blk_frozen BK293.out 3
          go_wp2
          go_ret
          exact ⟨by first | rfl | (simp [errW_none, errW_some] <;> rfl) | (simp [*, errW_none, errW_some] <;> rfl), by repeat (first | (with_reducible first | exact HB.out | apply below_alloc | apply pw_below_drewN | apply below_drew1 | refine below_set ?_ GE293.out) | exact HB.out)⟩
        ·rw [if_neg c21] at H
         have c21b0 : (a0_1 == 4) = false := beq_eq_false_iff_ne.mpr c21
         have c21b1 : (a0_1 != 4) = true := bne_iff_ne.mpr c21
         by_cases c25 : a0_1 = 5
         ·rw [if_pos c25] at H
          have c25b0 : (a0_1 == 5) = true := beq_iff_eq.mpr c25
          have c25b1 : (a0_1 != 5) = false := bne_eq_false_iff_eq.mpr c25
          clear c25
          by_cases c26 : a0_2 = 0
          ·rw [if_pos c26] at H
           have c26b0 : (a0_2 == 0) = true := beq_iff_eq.mpr c26
           have c26b1 : (a0_2 != 0) = false := bne_eq_false_iff_eq.mpr c26
           clear c26
           obtain rfl := Option.some.inj H
           have hcz27_0 : wr.cell? ⟨gb293, 0, none⟩ = some (.string a0_0) := (blk_cell BK293.out 0).trans rfl
           have hcz27_1 : wr.cell? ⟨gb293, 1, none⟩ = some (.int .i64 a0_1) := (blk_cell BK293.out 1).trans rfl
           have hcz27_2 : wr.cell? ⟨gb293, 2, none⟩ = some (.int .i64 a0_2) := (blk_cell BK293.out 2).trans rfl
           have hcz27_3 : wr.cell? ⟨gb293, 3, none⟩ = some (.int .i64 a0_3) := (blk_cell BK293.out 3).trans rfl
           have hfz27_0 := blk_frozen BK293.out 0
           have hfz27_1 := blk_frozen BK293.out 1
           have hfz27_2 := blk_frozen BK293.out 2
           have hfz27_3 := blk_frozen BK293.out 3
           go_wp2
           go_ret
           exact ⟨by first | rfl | (simp [errW_none, errW_some] <;> rfl) | (simp [*, errW_none, errW_some] <;> rfl), by repeat (first | (with_reducible first | exact HB.out | apply below_alloc | apply pw_below_drewN | apply below_drew1 | refine below_set ?_ GE293.out) | exact HB.out)⟩
          ·rw [if_neg c26] at H
           have c26b0 : (a0_2 == 0) = false := beq_eq_false_iff_ne.mpr c26
           have c26b1 : (a0_2 != 0) = true := bne_iff_ne.mpr c26
           obtain rfl := Option.some.inj H
           have hcz28_0 : wr.cell? ⟨gb293, 0, none⟩ = some (.string a0_0) := (blk_cell BK293.out 0).trans rfl
           have hcz28_1 : wr.cell? ⟨gb293, 1, none⟩ = some (.int .i64 a0_1) := (blk_cell BK293.out 1).trans rfl
           have hcz28_2 : wr.cell? ⟨gb293, 2, none⟩ = some (.int .i64 a0_2) := (blk_cell BK293.out 2).trans rfl
           have hcz28_3 : wr.cell? ⟨gb293, 3, none⟩ = some (.int .i64 a0_3) := (blk_cell BK293.out 3).trans rfl
           have hfz28_0 := blk_frozen BK293.out 0
           have hfz28_1 := blk_frozen BK293.out 1
           have hfz28_2 := blk_frozen BK293.out 2
           have hfz28_3 := blk_frozen BK293.out 3
           go_wp2
           go_ret
           exact ⟨by first | rfl | (simp [errW_none, errW_some] <;> rfl) | (simp [*, errW_none, errW_some] <;> rfl), by repeat (first | (with_reducible first | exact HB.out | apply below_alloc | apply pw_below_drewN | apply below_drew1 | refine below_set ?_ GE293.out) | exact HB.out)⟩
         ·rw [if_neg c25] at H
          have c25b0 : (a0_1 == 5) = false := beq_eq_false_iff_ne.mpr c25
          have c25b1 : (a0_1 != 5) = true := bne_iff_ne.mpr c25
          by_cases c29 : a0_1 = 1
          ·rw [if_pos c29] at H
           have c29b0 : (a0_1 == 1) = true := beq_iff_eq.mpr c29
           have c29b1 : (a0_1 != 1) = false := bne_eq_false_iff_eq.mpr c29
           clear c29
           obtain rfl := Option.some.inj H
           have hcz30_0 : wr.cell? ⟨gb293, 0, none⟩ = some (.string a0_0) := (blk_cell BK293.out 0).trans rfl
           have hcz30_1 : wr.cell? ⟨gb293, 1, none⟩ = some (.int .i64 a0_1) := (blk_cell BK293.out 1).trans rfl
           have hcz30_2 : wr.cell? ⟨gb293, 2, none⟩ = some (.int .i64 a0_2) := (blk_cell BK293.out 2).trans rfl
           have hcz30_3 : wr.cell? ⟨gb293, 3, none⟩ = some (.int .i64 a0_3) := (blk_cell BK293.out 3).trans rfl
           have hfz30_0 := blk_frozen BK293.out 0
           have hfz30_1 := blk_frozen BK293.out 1
           have hfz30_2 := blk_frozen BK293.out 2
           have hfz30_3 := blk_frozen BK293.out 3
           go_wp2
           go_ret
           exact ⟨by first | rfl | (simp [errW_none, errW_some] <;> rfl) | (simp [*, errW_none, errW_some] <;> rfl), by repeat (first | (with_reducible first | exact HB.out | apply below_alloc | apply pw_below_drewN | apply below_drew1 | refine below_set ?_ GE293.out) | exact HB.out)⟩
          ·rw [if_neg c29] at H
           have c29b0 : (a0_1 == 1) = false := beq_eq_false_iff_ne.mpr c29
           have c29b1 : (a0_1 != 1) = true := bne_iff_ne.mpr c29
           by_cases c31 : a0_1 = 2
           ·rw [if_pos c31] at H
            have c31b0 : (a0_1 == 2) = true := beq_iff_eq.mpr c31
            have c31b1 : (a0_1 != 2) = false := bne_eq_false_iff_eq.mpr c31
            clear c31
            obtain rfl := Option.some.inj H
            have hcz32_0 : wr.cell? ⟨gb293, 0, none⟩ = some (.string a0_0) := (blk_cell BK293.out 0).trans rfl
            have hcz32_1 : wr.cell? ⟨gb293, 1, none⟩ = some (.int .i64 a0_1) := (blk_cell BK293.out 1).trans rfl
            have hcz32_2 : wr.cell? ⟨gb293, 2, none⟩ = some (.int .i64 a0_2) := (blk_cell BK293.out 2).trans rfl
            have hcz32_3 : wr.cell? ⟨gb293, 3, none⟩ = some (.int .i64 a0_3) := (blk_cell BK293.out 3).trans rfl
            have hfz32_0 := blk_frozen BK293.out 0
            have hfz32_1 := blk_frozen BK293.out 1
            have hfz32_2 := blk_frozen BK293.out 2
            have hfz32_3 := blk_frozen BK293.out 3
            go_wp2
            go_ret
            exact ⟨by first | rfl | (simp [errW_none, errW_some] <;> rfl) | (simp [*, errW_none, errW_some] <;> rfl), by repeat (first | (with_reducible first | exact HB.out | apply below_alloc | apply pw_below_drewN | apply below_drew1 | refine below_set ?_ GE293.out) | exact HB.out)⟩
           ·rw [if_neg c31] at H
            have c31b0 : (a0_1 == 2) = false := beq_eq_false_iff_ne.mpr c31
            have c31b1 : (a0_1 != 2) = true := bne_iff_ne.mpr c31
            obtain rfl := Option.some.inj H
            have hcz33_0 : wr.cell? ⟨gb293, 0, none⟩ = some (.string a0_0) := (blk_cell BK293.out 0).trans rfl
            have hcz33_1 : wr.cell? ⟨gb293, 1, none⟩ = some (.int .i64 a0_1) := (blk_cell BK293.out 1).trans rfl
            have hcz33_2 : wr.cell? ⟨gb293, 2, none⟩ = some (.int .i64 a0_2) := (blk_cell BK293.out 2).trans rfl
            have hcz33_3 : wr.cell? ⟨gb293, 3, none⟩ = some (.int .i64 a0_3) := (blk_cell BK293.out 3).trans rfl
            have hfz33_0 := blk_frozen BK293.out 0
            have hfz33_1 := blk_frozen BK293.out 1
            have hfz33_2 := blk_frozen BK293.out 2
            have hfz33_3 := blk_frozen BK293.out 3
            go_wp2
            go_ret
            exact ⟨by first | rfl | (simp [errW_none, errW_some] <;> rfl) | (simp [*, errW_none, errW_some] <;> rfl), by repeat (first | (with_reducible first | exact HB.out | apply below_alloc | apply pw_below_drewN | apply below_drew1 | refine below_set ?_ GE293.out) | exact HB.out)⟩
def arlinkref06_has.l0 : Nat → List (S55) → ByteArray → Int → Option (Bool)
 | 0, _, _, _ => none
 | k + 1, x0, x1, x5 => if x5 < (x0.length : Int) then (if 0 ≤ x5 then (if ((rd_T55 x0 x5).f0).toList = x1.toList then (some true) else (arlinkref06_has.l0 k x0 x1 (wrap64 (x5 + 1)))) else (none)) else (some false)
def arlinkref06_has.f (k : Nat) (l0 : List (S55)) (a1 : ByteArray) : Option (Bool) := arlinkref06_has.l0 k l0 a1 0
set_option maxHeartbeats 8000000 in
set_option maxRecDepth 100000 in
theorem arlinkref06_has.calls (k : Nat) (A0 : Option Addr) (c0 : Nat) (l0 : List (S55)) (a1 : ByteArray) (r : Bool) (w : World) (hr0 : Kd.C k55 w A0 l0.length l0) (hc0 : l0.length ≤ c0) (h : arlinkref06_has.f k l0 a1 = some r) :
  Calls Try.prog 65 #[.slice A0 l0.length c0, .string a1] w fun e w' => e = .returned (.bool r) ∧ Drawn0 w w' := by
 have HR0 := Aside0.mk hr0
 have HC0 := Aside0.mk hc0
 clear hr0 hc0
 have H : (arlinkref06_has.l0 k l0 a1 0) = some r := h
 clear h
 have H' := Aside0.mk H
 clear H
 go_enter Try.func65, Try.ntmps65
 go_wp2
 go_loopg [5] k (fun kq v5 w' => ∃ (x5_1 : Int), v5 = .int .i64 x5_1 ∧ Aside0 (arlinkref06_has.l0 kq l0 a1 x5_1 = some r) ∧ Aside0 (kq ≤ k) ∧ Drawn0 w w')
 case atStart => exact ⟨(0), (by first | rfl | (simp; done) | (simp [*]; done)), H', ⟨Nat.le_refl _⟩, by repeat (first | exact Drawn0.refl _ | apply Drawn0.step)⟩
 case round =>
  clear H'
  try clear p2
  obtain ⟨x5_1, rfl, HA, HK1, ⟨m1, rfl⟩⟩ := hrel
  cases gk with
  | zero => exact absurd HA.out (by simp [arlinkref06_has.l0])
  | succ k1 =>
   have H := HA.out
   clear HA
   simp only [arlinkref06_has.l0] at H
   by_cases c3 : x5_1 < (l0.length : Int)
   ·rw [if_pos c3] at H
    have c3b0 : decide (x5_1 < (l0.length : Int)) = true := decide_eq_true c3
    clear c3
    by_cases c4 : 0 ≤ x5_1
    ·rw [if_pos c4] at H
     have c4b0 : decide (0 ≤ x5_1) = true := decide_eq_true c4
     clear c4
     by_cases c5 : ((rd_T55 l0 x5_1).f0).toList = a1.toList
     ·rw [if_pos c5] at H
      have c5b0 : (((rd_T55 l0 x5_1).f0).toList == a1.toList) = true := beq_iff_eq.mpr c5
      have c5b1 : (((rd_T55 l0 x5_1).f0).toList != a1.toList) = false := bne_eq_false_iff_eq.mpr c5
      clear c5
      obtain rfl := Option.some.inj H
      have p295 : 0 ≤ (x5_1 : Int) := of_decide_eq_true (by first | (with_reducible assumption) | assumption)
      have q295 : x5_1 < (l0.length : Int) := of_decide_eq_true (by first | (with_reducible assumption) | assumption)
      obtain ⟨ad295, e295, hx295_0, hx295_1, hx295_2, hx295_3⟩ := at_T55 HR0.out x5_1 p295 q295
      cases e295
      replace p295 := eq_true p295
      replace q295 := eq_true q295
      go_wp2
      go_ret
      exact ⟨by first | rfl | (simp; done) | (simp [*]; done), by repeat (first | exact Drawn0.refl _ | apply Drawn0.step)⟩
     ·rw [if_neg c5] at H
      have c5b0 : (((rd_T55 l0 x5_1).f0).toList == a1.toList) = false := beq_eq_false_iff_ne.mpr c5
      have c5b1 : (((rd_T55 l0 x5_1).f0).toList != a1.toList) = true := bne_iff_ne.mpr c5
      have H' := Aside0.mk H
      clear H
      have p295 : 0 ≤ (x5_1 : Int) := of_decide_eq_true (by first | (with_reducible assumption) | assumption)
      have q295 : x5_1 < (l0.length : Int) := of_decide_eq_true (by first | (with_reducible assumption) | assumption)
      obtain ⟨ad295, e295, hx295_0, hx295_1, hx295_2, hx295_3⟩ := at_T55 HR0.out x5_1 p295 q295
      cases e295
      replace p295 := eq_true p295
      replace q295 := eq_true q295
      go_wp2
      go_roundg k1
      case measure => have := HK1.out; omega
      case rel => exact ⟨(wrap64 (x5_1 + 1)), (by first | rfl | (simp; done) | (simp [*]; done)), H', ⟨by have := HK1.out; omega⟩, by repeat (first | exact Drawn0.refl _ | apply Drawn0.step)⟩
    ·rw [if_neg c4] at H
     exact absurd H (by simp)
   ·rw [if_neg c3] at H
    have c3b0 : decide (x5_1 < (l0.length : Int)) = false := decide_eq_false c3
    clear c3
    obtain rfl := Option.some.inj H
    go_wp2
    go_ret
    exact ⟨by first | rfl | (simp; done) | (simp [*]; done), by repeat (first | exact Drawn0.refl _ | apply Drawn0.step)⟩
end Go.Proofs.Ythpjpkcfepmhkaa.PAll
namespace Go.Proofs.Ythpjpkcfepmhkaa.PAll
open Go.RowKit Go.Proofs.YthpjpkcfepmhkaaW.PrintWords Go.Proofs.YthpjpkcfepmhkaaW.PrintLast Go.Proofs.YthpjpkcfepmhkaaW.PrintMore
attribute [local go_sem] max2_int min2_int max_two min_two max_three min_three max_four min_four   -- for this text's walks alone
set_option linter.unusedVariables false
set_option linter.unusedSimpArgs false
def arlinkref06_Valid.l0 : Nat → Int → List (S55) → List Int → Option (Bool)
 | 0, _, _, _ => none
 | k + 1, x3, x297000, x297001 => if x3 < (x297000.length : Int) then (if 0 ≤ x3 then ((arlinkref06_Sym.f k ((rd_T55 x297000 x3).f0) ((rd_T55 x297000 x3).f1) ((rd_T55 x297000 x3).f2) ((rd_T55 x297000 x3).f3)).bind fun t298 => (if t298 = true then (if x3 ≤ (x297000.length : Int) then ((arlinkref06_has.f k (x297000.take (x3 : Int).toNat) ((rd_T55 x297000 x3).f0)).bind fun t304 => (if t304 = true then (some false) else (arlinkref06_Valid.l0 k (wrap64 (x3 + 1)) x297000 x297001))) else (none)) else (some false))) else (none)) else (some (decide ((x297000.length : Int) ≤ 65536)))
def arlinkref06_Valid.f (k : Nat) (l0_0 : List (S55)) (l0_1 : List Int) : Option (Bool) := arlinkref06_Valid.l0 k 0 l0_0 l0_1
def arlinkref06_Valid.T4 : Bool × List (List Nat × List Nat) := (true, [([], []), ([0], [0]), ([], []), ([1, 2], [1, 2]), ([3], [3]), ([4], [4]), ([5], [5]), ([6, 5], [6]), ([7], [7]), ([8, 7], [7, 8]), ([7], [7]), ([9, 10, 7], [7, 9, 10]), ([7], [7]), ([12, 7], [7, 12]), ([7], [7]), ([13, 14, 7], [7, 13, 14]), ([15, 7], [7, 15]), ([16, 7], [7, 16]), ([11, 17, 7, 7], [7, 11, 17]), ([7, 18], [7, 18])])
def arlinkref06_Valid.B4 : List Nat := [0, 1, 0, 7, 15, 31, 63, 127, 255, 511, 255, 2047, 255, 4351, 255, 28927, 61695, 127231, 262143, 524287]
theorem arlinkref06_Valid.tab4 : rtab .any (opsOf Try.f48 4) = arlinkref06_Valid.T4 := by kernel_rfl
theorem arlinkref06_Valid.bits4 : waitsOk arlinkref06_Valid.T4.2 arlinkref06_Valid.B4 = true := by kernel_rfl
set_option maxHeartbeats 8000000 in
set_option maxRecDepth 100000 in
theorem arlinkref06_Valid.calls (k : Nat) (A0_0 : Option Addr) (c0_0 : Nat) (l0_0 : List (S55)) (A0_1 : Option Addr) (c0_1 : Nat) (l0_1 : List Int) (r : Bool) (w : World) (hr0_0 : Kd.C k55 w A0_0 l0_0.length l0_0) (hc0_0 : l0_0.length ≤ c0_0) (hr0_1 : Kd.C (Kd.int .u8) w A0_1 l0_1.length l0_1) (hc0_1 : l0_1.length ≤ c0_1) (h : arlinkref06_Valid.f k l0_0 l0_1 = some r) :
  Calls Try.prog 48 #[.agg #[.slice A0_0 l0_0.length c0_0, .slice A0_1 l0_1.length c0_1]] w fun e w' => e = .returned (.bool r) ∧ Below w.heap.size w w' := by
 have hu50 := Try.underlying50
 have hu55 := Try.underlying55
 have HR0_0 := Aside0.mk hr0_0
 have HC0_0 := Aside0.mk hc0_0
 clear hr0_0 hc0_0
 have HR0_1 := Aside0.mk hr0_1
 have HC0_1 := Aside0.mk hc0_1
 clear hr0_1 hc0_1
 have HB := Aside0.mk (Below.refl w.heap.size w)
 have H : (arlinkref06_Valid.l0 k 0 l0_0 l0_1) = some r := h
 clear h
 have H' := Aside0.mk H
 clear H
 go_enter Try.func48, Try.ntmps48
 go_wp2_with (first | ((with_reducible refine gate_dst (N := 1) rfl ?_); refine box_event ?hg (N := 1) ?hd (cs := #[.slice A0_0 l0_0.length c0_0, .slice A0_1 l0_1.length c0_1]) (t := 50) ?hr ?_; (case hd => rfl); (case hg => rfl); (case hr => first | (go_simp; done) | (go_simp; rfl)); intro gb296 hg w2 hbox hb; have n0_ := Aside0.mk (below_step (by repeat (first | (with_reducible first | exact HB.out | apply below_alloc | apply pw_below_drewN | apply below_drew1) | exact HB.out)) hb); have n1_ := Aside0.mk (hbox); have n2_ := Aside0.mk ((by rw [hg]; exact (below_size (by repeat (first | (with_reducible first | exact HB.out | apply below_alloc | apply pw_below_drewN | apply below_drew1) | exact HB.out))) : w.heap.size ≤ gb296)); have n3_ := Aside0.mk ((by rw [hg]; exact (below_size (by repeat (first | (with_reducible first | exact HB.out | apply below_alloc | apply pw_below_drewN | apply below_drew1) | exact HB.out))) : w.heap.size ≤ gb296)); clear HB; have HB := n0_; have BK296 := n1_; have GW296 := n2_; have GE296 := n3_; clear n0_ n1_ n2_ n3_; clear hb hbox hg))
 go_loopg [3] k (fun kq v3 w' => ∃ (x3_1 : Int), v3 = .int .i64 x3_1 ∧ Aside0 (arlinkref06_Valid.l0 kq x3_1 l0_0 l0_1 = some r) ∧ Aside0 (kq ≤ k) ∧ Aside0 (w'.heap[gb296]? = some (.cells #[(.slice A0_0 l0_0.length c0_0), (.slice A0_1 l0_1.length c0_1)] 50 (0, 0))) ∧ Aside0 (Below w.heap.size w w'))
 case atStart => exact ⟨(0), (by first | rfl | (simp; done) | (simp [*]; done)), H', ⟨Nat.le_refl _⟩, ⟨by (with_reducible repeat (first | refine blk_drewN ?_ _ | refine blk_drew ?_ | refine blk_alloc ?_ _)); exact BK296.out⟩, ⟨by repeat (first | (with_reducible first | exact HB.out | apply below_alloc | apply pw_below_drewN | apply below_drew1 | refine below_set ?_ GE296.out) | exact HB.out)⟩⟩
 case round =>
  clear H'
  try clear p2
  obtain ⟨x3_1, rfl, HA, HK1, BK296, HB⟩ := hrel
  cases gk with
  | zero => exact absurd HA.out (by simp [arlinkref06_Valid.l0])
  | succ k1 =>
   have H := HA.out
   clear HA
   simp only [arlinkref06_Valid.l0] at H
   by_cases c3 : x3_1 < (l0_0.length : Int)
   ·rw [if_pos c3] at H
    have c3b0 : decide (x3_1 < (l0_0.length : Int)) = true := decide_eq_true c3
    clear c3
    by_cases c4 : 0 ≤ x3_1
    ·rw [if_pos c4] at H
     have c4b0 : decide (0 ≤ x3_1) = true := decide_eq_true c4
     clear c4
     replace H := Option.bind_eq_some_iff.mp H
     obtain ⟨t298, A50, H⟩ := H
     replace H : (if t298 = true then (if x3_1 ≤ (l0_0.length : Int) then ((arlinkref06_has.f k1 (l0_0.take (x3_1 : Int).toNat) ((rd_T55 l0_0 x3_1).f0)).bind fun t304 => (if t304 = true then (some false) else (arlinkref06_Valid.l0 k1 (wrap64 (x3_1 + 1)) l0_0 l0_1))) else (none)) else (some false)) = some r := H
     have A5 := Aside0.mk A50
     clear A50
     by_cases c6 : t298 = true
     ·subst c6
      have H1 : (if x3_1 ≤ (l0_0.length : Int) then ((arlinkref06_has.f k1 (l0_0.take (x3_1 : Int).toNat) ((rd_T55 l0_0 x3_1).f0)).bind fun t304 => (if t304 = true then (some false) else (arlinkref06_Valid.l0 k1 (wrap64 (x3_1 + 1)) l0_0 l0_1))) else (none)) = some r := by rw [if_pos rfl] at H; exact H
      clear H
      have H := H1
      clear H1
      have c7b0 := eq_true (of_decide_eq_true (by first | (with_reducible assumption) | assumption) : 0 ≤ x3_1)
      by_cases c8 : x3_1 ≤ (l0_0.length : Int)
      ·rw [if_pos c8] at H
       have c8b0 := eq_true c8
       have c8b1 : decide (x3_1 ≤ (l0_0.length : Int)) = true := decide_eq_true c8
       clear c8
       obtain ⟨y299, hy299⟩ : ∃ y_ : List (S55), y_ = (l0_0.take (x3_1 : Int).toNat) := ⟨_, rfl⟩
       replace H : ((arlinkref06_has.f k1 y299 ((rd_T55 l0_0 x3_1).f0)).bind fun t304 => (if t304 = true then (some false) else (arlinkref06_Valid.l0 k1 (wrap64 (x3_1 + 1)) l0_0 l0_1))) = some r := by first | (rw [hy299]; with_reducible exact H) | (have H2_ := (Option.bind_some _ _).symm.trans H; rw [hy299]; with_reducible exact H2_) | (have H2_ := (Option.bind_some _ _).symm.trans H; with_reducible exact H2_) | with_reducible exact H | (rw [hy299]; exact H) | exact H
       have Ny299 := Aside0.mk hy299
       clear hy299
       replace H := Option.bind_eq_some_iff.mp H
       obtain ⟨t304, A90, H⟩ := H
       replace H : (if t304 = true then (some false) else (arlinkref06_Valid.l0 k1 (wrap64 (x3_1 + 1)) l0_0 l0_1)) = some r := H
       have A9 := Aside0.mk A90
       clear A90
       by_cases c10 : t304 = true
       ·subst c10
        have H1 : (some false) = some r := by rw [if_pos rfl] at H; exact H
        clear H
        have H := H1
        clear H1
        obtain rfl := Option.some.inj H
        have hcz11_0 : wr.cell? ⟨gb296, 0, none⟩ = some (.slice A0_0 l0_0.length c0_0) := (blk_cell BK296.out 0).trans rfl
        have hcz11_1 : wr.cell? ⟨gb296, 1, none⟩ = some (.slice A0_1 l0_1.length c0_1) := (blk_cell BK296.out 1).trans rfl
        have hfz11_0 := blk_frozen BK296.out 0
        have hfz11_1 := blk_frozen BK296.out 1
        try go_wp2
        have n0_ := Aside0.mk (blk_drew BK296.out)
        have n1_ := Aside0.mk (below_drew1 HB.out)
        clear BK296
        clear HB
        have BK296 := n0_
        have HB := n1_
        clear n0_ n1_
        have p297 : 0 ≤ (x3_1 : Int) := of_decide_eq_true (by first | (with_reducible assumption) | assumption)
        have q297 : x3_1 < (l0_0.length : Int) := of_decide_eq_true (by first | (with_reducible assumption) | assumption)
        obtain ⟨ad297, e297, hx297_0, hx297_1, hx297_2, hx297_3⟩ := at_T55 HR0_0.out x3_1 p297 q297
        have hw297_3 := hx297_3
        have hw297_2 := hx297_2
        have hw297_1 := hx297_1
        have hw297_0 := hx297_0
        cases e297
        replace hx297_0 := (HB.out.cell (World.block_lt_of_cell? w _ hx297_0)).trans hx297_0
        replace hx297_1 := (HB.out.cell (World.block_lt_of_cell? w _ hx297_1)).trans hx297_1
        replace hx297_2 := (HB.out.cell (World.block_lt_of_cell? w _ hx297_2)).trans hx297_2
        replace hx297_3 := (HB.out.cell (World.block_lt_of_cell? w _ hx297_3)).trans hx297_3
        replace p297 := eq_true p297
        replace q297 := eq_true q297
        have p303 : 0 ≤ (x3_1 : Int) := of_decide_eq_true (by first | (with_reducible assumption) | assumption)
        have q303 : x3_1 < (l0_0.length : Int) := of_decide_eq_true (by first | (with_reducible assumption) | assumption)
        obtain ⟨ad303, e303, hx303_0, hx303_1, hx303_2, hx303_3⟩ := at_T55 HR0_0.out x3_1 p303 q303
        have hw303_3 := hx303_3
        have hw303_2 := hx303_2
        have hw303_1 := hx303_1
        have hw303_0 := hx303_0
        obtain rfl : ad297 = ad303 := (by injection e303)
        replace hx303_0 := (HB.out.cell (World.block_lt_of_cell? w _ hx303_0)).trans hx303_0
        replace hx303_1 := (HB.out.cell (World.block_lt_of_cell? w _ hx303_1)).trans hx303_1
        replace hx303_2 := (HB.out.cell (World.block_lt_of_cell? w _ hx303_2)).trans hx303_2
        replace hx303_3 := (HB.out.cell (World.block_lt_of_cell? w _ hx303_3)).trans hx303_3
        replace p303 := eq_true p303
        replace q303 := eq_true q303
        refine start_ (n := 20) (S := fun w' => w'.cell? ⟨gb296, 0, none⟩ = some (.slice (some ad297) l0_0.length c0_0) ∧ w'.cell? ⟨gb296, 1, none⟩ = some (.slice A0_1 l0_1.length c0_1) ∧ w'.cell? (ad297.add ((x3_1).toNat * 4)) = some (.string ((rd_T55 l0_0 x3_1).f0)) ∧ w'.cell? ⟨(ad297.add ((x3_1).toNat * 4)).block, (ad297.add ((x3_1).toNat * 4)).off + 1, none⟩ = some (.int .i64 ((rd_T55 l0_0 x3_1).f1)) ∧ w'.cell? ⟨(ad297.add ((x3_1).toNat * 4)).block, (ad297.add ((x3_1).toNat * 4)).off + 2, none⟩ = some (.int .i64 ((rd_T55 l0_0 x3_1).f2)) ∧ w'.cell? ⟨(ad297.add ((x3_1).toNat * 4)).block, (ad297.add ((x3_1).toNat * 4)).off + 3, none⟩ = some (.int .i64 ((rd_T55 l0_0 x3_1).f3)) ∧ w'.cell? (ad297.add ((x3_1).toNat * 4)) = some (.string ((rd_T55 l0_0 x3_1).f0)) ∧ w'.cell? ⟨(ad297.add ((x3_1).toNat * 4)).block, (ad297.add ((x3_1).toNat * 4)).off + 1, none⟩ = some (.int .i64 ((rd_T55 l0_0 x3_1).f1)) ∧ w'.cell? ⟨(ad297.add ((x3_1).toNat * 4)).block, (ad297.add ((x3_1).toNat * 4)).off + 2, none⟩ = some (.int .i64 ((rd_T55 l0_0 x3_1).f2)) ∧ w'.cell? ⟨(ad297.add ((x3_1).toNat * 4)).block, (ad297.add ((x3_1).toNat * 4)).off + 3, none⟩ = some (.int .i64 ((rd_T55 l0_0 x3_1).f3))) (ds := []) #[false, false, false, false, false, false, false, false, false, false, false, false, false, false, false, false, false, false, false, false] (by kernel_rfl) rfl rfl ⟨(blk_cell BK296.out 0).trans rfl, (blk_cell BK296.out 1).trans rfl, ((HB.out.cell (World.block_lt_of_cell? w _ hw297_0)).trans hw297_0), ((HB.out.cell (World.block_lt_of_cell? w _ hw297_1)).trans hw297_1), ((HB.out.cell (World.block_lt_of_cell? w _ hw297_2)).trans hw297_2), ((HB.out.cell (World.block_lt_of_cell? w _ hw297_3)).trans hw297_3), ((HB.out.cell (World.block_lt_of_cell? w _ hw303_0)).trans hw303_0), ((HB.out.cell (World.block_lt_of_cell? w _ hw303_1)).trans hw303_1), ((HB.out.cell (World.block_lt_of_cell? w _ hw303_2)).trans hw303_2), ((HB.out.cell (World.block_lt_of_cell? w _ hw303_3)).trans hw303_3)⟩ (fun hHeld => ?_); refine with_tabW arlinkref06_Valid.tab4 arlinkref06_Valid.bits4 (fun HT_ HW_ => ?_)
        generalize wr.drew = w12 at BK296 HB hx297_0 hx297_1 hx297_2 hx297_3 hx303_0 hx303_1 hx303_2 hx303_3 hHeld ⊢
        refine pure_ (i := 0) (N := some 11) (v := ?_) (a' := ?_) #[true, false, false, false, false, false, false, false, false, false, false, false, false, false, false, false, false, false, false, false] rfl rfl (any_of HT_.out (by kernel_rfl)) (fun _ _ _ h => h) (Or.inl ⟨by rfl, ?_⟩) ?_ ?_
        rotate_left
        ·intro w'
         go_simp
         with_reducible rfl
        rotate_left
        ·simp only [Act.put, List.setIfInBounds_toArray, List.set_cons_zero, List.set_cons_succ, i64_w, i32_w]
         rfl
        refine pure_ (i := 2) (N := some 13) (v := ?_) (a' := ?_) #[true, false, true, false, false, false, false, false, false, false, false, false, false, false, false, false, false, false, false, false] rfl rfl (any_of HT_.out (by kernel_rfl)) (fun _ _ _ h => h) (Or.inl ⟨by rfl, ?_⟩) ?_ ?_
        rotate_left
        ·intro w'
         go_simp
         with_reducible rfl
        rotate_left
        ·simp only [Act.put, List.setIfInBounds_toArray, List.set_cons_zero, List.set_cons_succ, i64_w, i32_w]
         rfl
        refine take_ (i := 1) (N := some 12) (v := ?_) (a' := ?_) #[true, true, true, false, false, false, false, false, false, false, false, false, false, false, false, false, false, false, false, false] rfl rfl (take_ofW HT_.out HW_.out (by kernel_rfl)) (fun _ _ _ h => h) (Or.inl ⟨by rfl, ?_⟩) hHeld ?_ ?_
        rotate_left
        ·rintro w' ⟨s0, s1, s2, s3, s4, s5, s6, s7, s8, s9⟩
         go_simp
         with_reducible rfl
        rotate_left
        ·simp only [Act.put, List.setIfInBounds_toArray, List.set_cons_zero, List.set_cons_succ, i64_w, i32_w]
         rfl
        refine pure_ (i := 3) (N := some 14) (v := ?_) (a' := ?_) #[true, true, true, true, false, false, false, false, false, false, false, false, false, false, false, false, false, false, false, false] rfl rfl (any_of HT_.out (by kernel_rfl)) (fun _ _ _ h => h) (Or.inl ⟨by rfl, ?_⟩) ?_ ?_
        rotate_left
        ·intro w'
         go_simp
         with_reducible rfl
        rotate_left
        ·simp only [Act.put, List.setIfInBounds_toArray, List.set_cons_zero, List.set_cons_succ, i64_w, i32_w]
         rfl
        refine take_ (i := 4) (N := some 15) (v := ?_) (a' := ?_) #[true, true, true, true, true, false, false, false, false, false, false, false, false, false, false, false, false, false, false, false] rfl rfl (take_ofW HT_.out HW_.out (by kernel_rfl)) (fun _ _ _ h => h) (Or.inl ⟨by rfl, ?_⟩) hHeld ?_ ?_
        rotate_left
        ·rintro w' ⟨s0, s1, s2, s3, s4, s5, s6, s7, s8, s9⟩
         go_simp
         with_reducible rfl
        rotate_left
        ·simp only [Act.put, List.setIfInBounds_toArray, List.set_cons_zero, List.set_cons_succ, i64_w, i32_w]
         rfl
        refine one_ (i := 5) (N := some 16) #[true, true, true, true, true, true, false, false, false, false, false, false, false, false, false, false, false, false, false, false] rfl rfl (one_of HT_.out (by kernel_rfl)) (by decide) (fun K hK => ?_)
        refine goes_ Try.func64 (by kernel_rfl) rfl #[.agg #[.string ((rd_T55 l0_0 x3_1).f0), .int .i64 ((rd_T55 l0_0 x3_1).f1), .int .i64 ((rd_T55 l0_0 x3_1).f2), .int .i64 ((rd_T55 l0_0 x3_1).f3)]] (by rfl) rfl rfl (by (try simp only [List.map_toArray, List.map_cons, List.map_nil]); first | done | rfl | (simp only [List.length_drop, List.length_take]; rfl)) ?_
        with_reducible refine (arlinkref06_Sym.calls k1 ((rd_T55 l0_0 x3_1).f0) ((rd_T55 l0_0 x3_1).f1) ((rd_T55 l0_0 x3_1).f2) ((rd_T55 l0_0 x3_1).f3) true _ A5.out).mono ?_
        rintro e w13 ⟨rfl, hb⟩
        refine ⟨_, rfl, ?_⟩
        have n0_ := Aside0.mk (blk_below (g := gb296) (o := .cells #[.slice (some ad297) l0_0.length c0_0, .slice A0_1 l0_1.length c0_1] 50 (0, 0)) (by (with_reducible repeat (first | refine blk_drewN ?_ _ | refine blk_drew ?_ | refine blk_alloc ?_ _)); exact BK296.out) hb)
        have n1_ := Aside0.mk (below_step (by repeat (first | (with_reducible first | exact HB.out | apply below_alloc | apply pw_below_drewN | apply below_drew1 | refine below_set ?_ GE296.out) | exact HB.out)) hb)
        clear BK296
        clear HB
        have BK296 := n0_
        have HB := n1_
        clear n0_ n1_
        (try clear hb)
        (try clear hb2)
        (try clear hk)
        (try clear hi)
        have q14 : (x3_1 : Int) ≤ ((l0_0.length : Int) : Int) := of_decide_eq_true (by first | (with_reducible assumption) | assumption)
        obtain ⟨i014, hi014, _, hsz14, _⟩ := info_parts info55
        have hroom14 : l0_0.length ≤ c0_0 := HC0_0.out
        have hC14 : Kd.C k55 _ (some ad297) l0_0.length l0_0 := HR0_0.out
        have hcut14 := cut_to (P := Try.prog) 47 55 .i64 Try.underlying47 hi014 (some ad297) l0_0.length c0_0 x3_1 (of_decide_eq_true (by first | (with_reducible assumption) | assumption)) q14 hroom14
        have hr14 := Kd.C_take (m := (x3_1 : Int).toNat) hC14 (by omega)
        have hy14 : y299.length = (x3_1 : Int).toNat := (by rw [Ny299.out, List.length_take]; omega)
        rw [← Ny299.out] at hr14
        rw [← hy14] at hcut14
        have HR302 := Aside0.mk hr14
        have HC302 := Aside0.mk (show y299.length ≤ c0_0 from by omega)
        clear hr14 hC14 hroom14 hi014 hsz14
        have KY14 := Aside0.mk hy14
        clear hy14
        replace q14 := eq_true q14
        refine hK.out _ _ ⟨(blk_cell BK296.out 0).trans rfl, (blk_cell BK296.out 1).trans rfl, ((HB.out.cell (World.block_lt_of_cell? w _ hw297_0)).trans hw297_0), ((HB.out.cell (World.block_lt_of_cell? w _ hw297_1)).trans hw297_1), ((HB.out.cell (World.block_lt_of_cell? w _ hw297_2)).trans hw297_2), ((HB.out.cell (World.block_lt_of_cell? w _ hw297_3)).trans hw297_3), ((HB.out.cell (World.block_lt_of_cell? w _ hw303_0)).trans hw303_0), ((HB.out.cell (World.block_lt_of_cell? w _ hw303_1)).trans hw303_1), ((HB.out.cell (World.block_lt_of_cell? w _ hw303_2)).trans hw303_2), ((HB.out.cell (World.block_lt_of_cell? w _ hw303_3)).trans hw303_3)⟩ (fun hHeld => ?_)
        clear hK K
        refine norm_ (a' := ?_) ?_ ?_
        rotate_left
        ·show Act.put _ (some 16) _ = _
         simp only [Act.put, List.setIfInBounds_toArray, List.set_cons_zero, List.set_cons_succ, i64_w, i32_w]
         rfl
        refine pure_ (i := 6) (N := some 17) (v := ?_) (a' := ?_) #[true, true, true, true, true, true, true, false, false, false, false, false, false, false, false, false, false, false, false, false] rfl rfl (any_of HT_.out (by kernel_rfl)) (fun _ _ _ h => h) (Or.inl ⟨by rfl, ?_⟩) ?_ ?_
        rotate_left
        ·intro w'
         go_simp
         with_reducible rfl
        rotate_left
        ·simp only [Act.put, List.setIfInBounds_toArray, List.set_cons_zero, List.set_cons_succ, i64_w, i32_w]
         rfl
        refine pure_ (i := 7) (N := some 18) (v := ?_) (a' := ?_) #[true, true, true, true, true, true, true, true, false, false, false, false, false, false, false, false, false, false, false, false] rfl rfl (any_of HT_.out (by kernel_rfl)) (fun _ _ _ h => h) (Or.inl ⟨by rfl, ?_⟩) ?_ ?_
        rotate_left
        ·intro w'
         go_simp
         with_reducible rfl
        rotate_left
        ·simp only [Act.put, List.setIfInBounds_toArray, List.set_cons_zero, List.set_cons_succ, i64_w, i32_w]
         rfl
        refine pure_ (i := 8) (N := some 19) (v := ?_) (a' := ?_) #[true, true, true, true, true, true, true, true, true, false, false, false, false, false, false, false, false, false, false, false] rfl rfl (any_of HT_.out (by kernel_rfl)) (fun _ _ _ h => h) (Or.inl ⟨by rfl, ?_⟩) ?_ ?_
        rotate_left
        ·intro w'
         go_simp
         with_reducible rfl
        rotate_left
        ·simp only [Act.put, List.setIfInBounds_toArray, List.set_cons_zero, List.set_cons_succ, i64_w, i32_w]
         rfl
        refine pure_ (i := 10) (N := some 21) (v := ?_) (a' := ?_) #[true, true, true, true, true, true, true, true, true, false, true, false, false, false, false, false, false, false, false, false] rfl rfl (any_of HT_.out (by kernel_rfl)) (fun _ _ _ h => h) (Or.inl ⟨by rfl, ?_⟩) ?_ ?_
        rotate_left
        ·intro w'
         go_simp
         with_reducible rfl
        rotate_left
        ·simp only [Act.put, List.setIfInBounds_toArray, List.set_cons_zero, List.set_cons_succ, i64_w, i32_w]
         rfl
        refine pure_ (i := 12) (N := some 23) (v := ?_) (a' := ?_) #[true, true, true, true, true, true, true, true, true, false, true, false, true, false, false, false, false, false, false, false] rfl rfl (any_of HT_.out (by kernel_rfl)) (fun _ _ _ h => h) (Or.inl ⟨by rfl, ?_⟩) ?_ ?_
        rotate_left
        ·intro w'
         go_simp
         with_reducible rfl
        rotate_left
        ·simp only [Act.put, List.setIfInBounds_toArray, List.set_cons_zero, List.set_cons_succ, i64_w, i32_w]
         rfl
        refine pure_ (i := 14) (N := some 25) (v := ?_) (a' := ?_) #[true, true, true, true, true, true, true, true, true, false, true, false, true, false, true, false, false, false, false, false] rfl rfl (any_of HT_.out (by kernel_rfl)) (fun _ _ _ h => h) (Or.inl ⟨by rfl, ?_⟩) ?_ ?_
        rotate_left
        ·intro w'
         go_simp
         with_reducible rfl
        rotate_left
        ·simp only [Act.put, List.setIfInBounds_toArray, List.set_cons_zero, List.set_cons_succ, i64_w, i32_w]
         rfl
        refine take_ (i := 9) (N := some 20) (v := ?_) (a' := ?_) #[true, true, true, true, true, true, true, true, true, true, true, false, true, false, true, false, false, false, false, false] rfl rfl (take_ofW HT_.out HW_.out (by kernel_rfl)) (fun _ _ _ h => h) (Or.inl ⟨by rfl, ?_⟩) hHeld ?_ ?_
        rotate_left
        ·rintro w' ⟨s0, s1, s2, s3, s4, s5, s6, s7, s8, s9⟩
         go_simp
         with_reducible rfl
        rotate_left
        ·simp only [Act.put, List.setIfInBounds_toArray, List.set_cons_zero, List.set_cons_succ, i64_w, i32_w]
         rfl
        refine pure_ (i := 11) (N := some 22) (v := ?_) (a' := ?_) #[true, true, true, true, true, true, true, true, true, true, true, true, true, false, true, false, false, false, false, false] rfl rfl (any_of HT_.out (by kernel_rfl)) (fun _ _ _ h => h) (Or.inl ⟨by rfl, ?_⟩) ?_ ?_
        rotate_left
        ·intro w'
         go_simp
         with_reducible rfl
        rotate_left
        ·simp only [Act.put, List.setIfInBounds_toArray, List.set_cons_zero, List.set_cons_succ, i64_w, i32_w]
         rfl
        refine take_ (i := 13) (N := some 24) (v := ?_) (a' := ?_) #[true, true, true, true, true, true, true, true, true, true, true, true, true, true, true, false, false, false, false, false] rfl rfl (take_ofW HT_.out HW_.out (by kernel_rfl)) (fun _ _ _ h => h) (Or.inl ⟨by rfl, ?_⟩) hHeld ?_ ?_
        rotate_left
        ·rintro w' ⟨s0, s1, s2, s3, s4, s5, s6, s7, s8, s9⟩
         go_simp
         with_reducible rfl
        rotate_left
        ·simp only [Act.put, List.setIfInBounds_toArray, List.set_cons_zero, List.set_cons_succ, i64_w, i32_w]
         rfl
        refine pure_ (i := 15) (N := some 26) (v := ?_) (a' := ?_) #[true, true, true, true, true, true, true, true, true, true, true, true, true, true, true, true, false, false, false, false] rfl rfl (any_of HT_.out (by kernel_rfl)) (fun _ _ _ h => h) (Or.inl ⟨by rfl, ?_⟩) ?_ ?_
        rotate_left
        ·intro w'
         go_simp
         with_reducible rfl
        rotate_left
        ·simp only [Act.put, List.setIfInBounds_toArray, List.set_cons_zero, List.set_cons_succ, i64_w, i32_w]
         rfl
        refine pure_ (i := 16) (N := some 27) (v := ?_) (a' := ?_) #[true, true, true, true, true, true, true, true, true, true, true, true, true, true, true, true, true, false, false, false] rfl rfl (any_of HT_.out (by kernel_rfl)) (fun _ _ _ h => h) (Or.inl ⟨by rfl, ?_⟩) ?_ ?_
        rotate_left
        ·intro w'
         go_simp
         with_reducible rfl
        rotate_left
        ·simp only [Act.put, List.setIfInBounds_toArray, List.set_cons_zero, List.set_cons_succ, i64_w, i32_w]
         rfl
        refine take_ (i := 17) (N := some 28) (v := ?_) (a' := ?_) #[true, true, true, true, true, true, true, true, true, true, true, true, true, true, true, true, true, true, false, false] rfl rfl (take_ofW HT_.out HW_.out (by kernel_rfl)) (fun _ _ _ h => h) (Or.inl ⟨by rfl, ?_⟩) hHeld ?_ ?_
        rotate_left
        ·rintro w' ⟨s0, s1, s2, s3, s4, s5, s6, s7, s8, s9⟩
         go_simp
         with_reducible rfl
        rotate_left
        ·simp only [Act.put, List.setIfInBounds_toArray, List.set_cons_zero, List.set_cons_succ, i64_w, i32_w]
         rfl
        refine one_ (i := 18) (N := some 29) #[true, true, true, true, true, true, true, true, true, true, true, true, true, true, true, true, true, true, true, false] rfl rfl (one_of HT_.out (by kernel_rfl)) (by decide) (fun K hK => ?_)
        refine goes_ Try.func65 (by kernel_rfl) rfl #[.slice (some ad297) y299.length c0_0, .string ((rd_T55 l0_0 x3_1).f0)] (by rfl) rfl rfl (by (try simp only [List.map_toArray, List.map_cons, List.map_nil]); first | done | rfl | (simp only [List.length_drop, List.length_take]; rfl)) ?_
        with_reducible refine (arlinkref06_has.calls k1 _ _ y299 ((rd_T55 l0_0 x3_1).f0) true _ ?side1 ?side2 A9.out).mono ?_
        (case side1 => repeat (first | exact (Kd.C_below HR302.out HB.out) | (with_reducible refine Kd.C_alloc ?_ _) | (with_reducible refine Kd.C_drewN ?_ _) | (with_reducible refine Kd.C_drew ?_)))
        (case side2 => exact HC302.out)
        rintro e w' ⟨rfl, ⟨nd, rfl⟩⟩
        refine ⟨_, rfl, ?_⟩
        refine hK.out _ _ ⟨(blk_cell BK296.out 0).trans rfl, (blk_cell BK296.out 1).trans rfl, ((HB.out.cell (World.block_lt_of_cell? w _ hw297_0)).trans hw297_0), ((HB.out.cell (World.block_lt_of_cell? w _ hw297_1)).trans hw297_1), ((HB.out.cell (World.block_lt_of_cell? w _ hw297_2)).trans hw297_2), ((HB.out.cell (World.block_lt_of_cell? w _ hw297_3)).trans hw297_3), ((HB.out.cell (World.block_lt_of_cell? w _ hw303_0)).trans hw303_0), ((HB.out.cell (World.block_lt_of_cell? w _ hw303_1)).trans hw303_1), ((HB.out.cell (World.block_lt_of_cell? w _ hw303_2)).trans hw303_2), ((HB.out.cell (World.block_lt_of_cell? w _ hw303_3)).trans hw303_3)⟩ (fun hHeld => ?_)
        clear hK K
        refine norm_ (a' := ?_) ?_ ?_
        rotate_left
        ·show Act.put _ (some 29) _ = _
         simp only [Act.put, List.setIfInBounds_toArray, List.set_cons_zero, List.set_cons_succ, i64_w, i32_w]
         rfl
        refine pure_ (i := 19) (N := some 30) (v := ?_) (a' := ?_) #[true, true, true, true, true, true, true, true, true, true, true, true, true, true, true, true, true, true, true, true] rfl rfl (any_of HT_.out (by kernel_rfl)) (fun _ _ _ h => h) (Or.inl ⟨by rfl, ?_⟩) ?_ ?_
        rotate_left
        ·intro w'
         go_simp
         with_reducible rfl
        rotate_left
        ·simp only [Act.put, List.setIfInBounds_toArray, List.set_cons_zero, List.set_cons_succ, i64_w, i32_w]
         rfl
        refine done_ (done_of HT_.out (by kernel_rfl)) ?_
        try go_wp2
        go_ret
        exact ⟨by first | rfl | (simp [errW_none, errW_some] <;> rfl) | (simp [*, errW_none, errW_some] <;> rfl), by repeat (first | (with_reducible first | exact HB.out | apply below_alloc | apply pw_below_drewN | apply below_drew1 | refine below_set ?_ GE296.out) | exact HB.out)⟩
       ·replace c10 := Bool.eq_false_iff.mpr c10
        subst c10
        have H1 : (arlinkref06_Valid.l0 k1 (wrap64 (x3_1 + 1)) l0_0 l0_1) = some r := by rw [if_neg (show ¬ (false = true) by decide)] at H; exact H
        clear H
        have H := H1
        clear H1
        have H' := Aside0.mk H
        clear H
        have hcz15_0 : wr.cell? ⟨gb296, 0, none⟩ = some (.slice A0_0 l0_0.length c0_0) := (blk_cell BK296.out 0).trans rfl
        have hcz15_1 : wr.cell? ⟨gb296, 1, none⟩ = some (.slice A0_1 l0_1.length c0_1) := (blk_cell BK296.out 1).trans rfl
        have hfz15_0 := blk_frozen BK296.out 0
        have hfz15_1 := blk_frozen BK296.out 1
        try go_wp2
        have n0_ := Aside0.mk (blk_drew BK296.out)
        have n1_ := Aside0.mk (below_drew1 HB.out)
        clear BK296
        clear HB
        have BK296 := n0_
        have HB := n1_
        clear n0_ n1_
        have p297 : 0 ≤ (x3_1 : Int) := of_decide_eq_true (by first | (with_reducible assumption) | assumption)
        have q297 : x3_1 < (l0_0.length : Int) := of_decide_eq_true (by first | (with_reducible assumption) | assumption)
        obtain ⟨ad297, e297, hx297_0, hx297_1, hx297_2, hx297_3⟩ := at_T55 HR0_0.out x3_1 p297 q297
        have hw297_3 := hx297_3
        have hw297_2 := hx297_2
        have hw297_1 := hx297_1
        have hw297_0 := hx297_0
        cases e297
        replace hx297_0 := (HB.out.cell (World.block_lt_of_cell? w _ hx297_0)).trans hx297_0
        replace hx297_1 := (HB.out.cell (World.block_lt_of_cell? w _ hx297_1)).trans hx297_1
        replace hx297_2 := (HB.out.cell (World.block_lt_of_cell? w _ hx297_2)).trans hx297_2
        replace hx297_3 := (HB.out.cell (World.block_lt_of_cell? w _ hx297_3)).trans hx297_3
        replace p297 := eq_true p297
        replace q297 := eq_true q297
        have p303 : 0 ≤ (x3_1 : Int) := of_decide_eq_true (by first | (with_reducible assumption) | assumption)
        have q303 : x3_1 < (l0_0.length : Int) := of_decide_eq_true (by first | (with_reducible assumption) | assumption)
        obtain ⟨ad303, e303, hx303_0, hx303_1, hx303_2, hx303_3⟩ := at_T55 HR0_0.out x3_1 p303 q303
        have hw303_3 := hx303_3
        have hw303_2 := hx303_2
        have hw303_1 := hx303_1
        have hw303_0 := hx303_0
        obtain rfl : ad297 = ad303 := (by injection e303)
        replace hx303_0 := (HB.out.cell (World.block_lt_of_cell? w _ hx303_0)).trans hx303_0
        replace hx303_1 := (HB.out.cell (World.block_lt_of_cell? w _ hx303_1)).trans hx303_1
        replace hx303_2 := (HB.out.cell (World.block_lt_of_cell? w _ hx303_2)).trans hx303_2
        replace hx303_3 := (HB.out.cell (World.block_lt_of_cell? w _ hx303_3)).trans hx303_3
        replace p303 := eq_true p303
        replace q303 := eq_true q303
        refine start_ (n := 20) (S := fun w' => w'.cell? ⟨gb296, 0, none⟩ = some (.slice (some ad297) l0_0.length c0_0) ∧ w'.cell? ⟨gb296, 1, none⟩ = some (.slice A0_1 l0_1.length c0_1) ∧ w'.cell? (ad297.add ((x3_1).toNat * 4)) = some (.string ((rd_T55 l0_0 x3_1).f0)) ∧ w'.cell? ⟨(ad297.add ((x3_1).toNat * 4)).block, (ad297.add ((x3_1).toNat * 4)).off + 1, none⟩ = some (.int .i64 ((rd_T55 l0_0 x3_1).f1)) ∧ w'.cell? ⟨(ad297.add ((x3_1).toNat * 4)).block, (ad297.add ((x3_1).toNat * 4)).off + 2, none⟩ = some (.int .i64 ((rd_T55 l0_0 x3_1).f2)) ∧ w'.cell? ⟨(ad297.add ((x3_1).toNat * 4)).block, (ad297.add ((x3_1).toNat * 4)).off + 3, none⟩ = some (.int .i64 ((rd_T55 l0_0 x3_1).f3)) ∧ w'.cell? (ad297.add ((x3_1).toNat * 4)) = some (.string ((rd_T55 l0_0 x3_1).f0)) ∧ w'.cell? ⟨(ad297.add ((x3_1).toNat * 4)).block, (ad297.add ((x3_1).toNat * 4)).off + 1, none⟩ = some (.int .i64 ((rd_T55 l0_0 x3_1).f1)) ∧ w'.cell? ⟨(ad297.add ((x3_1).toNat * 4)).block, (ad297.add ((x3_1).toNat * 4)).off + 2, none⟩ = some (.int .i64 ((rd_T55 l0_0 x3_1).f2)) ∧ w'.cell? ⟨(ad297.add ((x3_1).toNat * 4)).block, (ad297.add ((x3_1).toNat * 4)).off + 3, none⟩ = some (.int .i64 ((rd_T55 l0_0 x3_1).f3))) (ds := []) #[false, false, false, false, false, false, false, false, false, false, false, false, false, false, false, false, false, false, false, false] (by kernel_rfl) rfl rfl ⟨(blk_cell BK296.out 0).trans rfl, (blk_cell BK296.out 1).trans rfl, ((HB.out.cell (World.block_lt_of_cell? w _ hw297_0)).trans hw297_0), ((HB.out.cell (World.block_lt_of_cell? w _ hw297_1)).trans hw297_1), ((HB.out.cell (World.block_lt_of_cell? w _ hw297_2)).trans hw297_2), ((HB.out.cell (World.block_lt_of_cell? w _ hw297_3)).trans hw297_3), ((HB.out.cell (World.block_lt_of_cell? w _ hw303_0)).trans hw303_0), ((HB.out.cell (World.block_lt_of_cell? w _ hw303_1)).trans hw303_1), ((HB.out.cell (World.block_lt_of_cell? w _ hw303_2)).trans hw303_2), ((HB.out.cell (World.block_lt_of_cell? w _ hw303_3)).trans hw303_3)⟩ (fun hHeld => ?_); refine with_tabW arlinkref06_Valid.tab4 arlinkref06_Valid.bits4 (fun HT_ HW_ => ?_)
        generalize wr.drew = w16 at BK296 HB hx297_0 hx297_1 hx297_2 hx297_3 hx303_0 hx303_1 hx303_2 hx303_3 hHeld ⊢
        refine pure_ (i := 0) (N := some 11) (v := ?_) (a' := ?_) #[true, false, false, false, false, false, false, false, false, false, false, false, false, false, false, false, false, false, false, false] rfl rfl (any_of HT_.out (by kernel_rfl)) (fun _ _ _ h => h) (Or.inl ⟨by rfl, ?_⟩) ?_ ?_
        rotate_left
        ·intro w'
         go_simp
         with_reducible rfl
        rotate_left
        ·simp only [Act.put, List.setIfInBounds_toArray, List.set_cons_zero, List.set_cons_succ, i64_w, i32_w]
         rfl
        refine pure_ (i := 2) (N := some 13) (v := ?_) (a' := ?_) #[true, false, true, false, false, false, false, false, false, false, false, false, false, false, false, false, false, false, false, false] rfl rfl (any_of HT_.out (by kernel_rfl)) (fun _ _ _ h => h) (Or.inl ⟨by rfl, ?_⟩) ?_ ?_
        rotate_left
        ·intro w'
         go_simp
         with_reducible rfl
        rotate_left
        ·simp only [Act.put, List.setIfInBounds_toArray, List.set_cons_zero, List.set_cons_succ, i64_w, i32_w]
         rfl
        refine take_ (i := 1) (N := some 12) (v := ?_) (a' := ?_) #[true, true, true, false, false, false, false, false, false, false, false, false, false, false, false, false, false, false, false, false] rfl rfl (take_ofW HT_.out HW_.out (by kernel_rfl)) (fun _ _ _ h => h) (Or.inl ⟨by rfl, ?_⟩) hHeld ?_ ?_
        rotate_left
        ·rintro w' ⟨s0, s1, s2, s3, s4, s5, s6, s7, s8, s9⟩
         go_simp
         with_reducible rfl
        rotate_left
        ·simp only [Act.put, List.setIfInBounds_toArray, List.set_cons_zero, List.set_cons_succ, i64_w, i32_w]
         rfl
        refine pure_ (i := 3) (N := some 14) (v := ?_) (a' := ?_) #[true, true, true, true, false, false, false, false, false, false, false, false, false, false, false, false, false, false, false, false] rfl rfl (any_of HT_.out (by kernel_rfl)) (fun _ _ _ h => h) (Or.inl ⟨by rfl, ?_⟩) ?_ ?_
        rotate_left
        ·intro w'
         go_simp
         with_reducible rfl
        rotate_left
        ·simp only [Act.put, List.setIfInBounds_toArray, List.set_cons_zero, List.set_cons_succ, i64_w, i32_w]
         rfl
        refine take_ (i := 4) (N := some 15) (v := ?_) (a' := ?_) #[true, true, true, true, true, false, false, false, false, false, false, false, false, false, false, false, false, false, false, false] rfl rfl (take_ofW HT_.out HW_.out (by kernel_rfl)) (fun _ _ _ h => h) (Or.inl ⟨by rfl, ?_⟩) hHeld ?_ ?_
        rotate_left
        ·rintro w' ⟨s0, s1, s2, s3, s4, s5, s6, s7, s8, s9⟩
         go_simp
         with_reducible rfl
        rotate_left
        ·simp only [Act.put, List.setIfInBounds_toArray, List.set_cons_zero, List.set_cons_succ, i64_w, i32_w]
         rfl
        refine one_ (i := 5) (N := some 16) #[true, true, true, true, true, true, false, false, false, false, false, false, false, false, false, false, false, false, false, false] rfl rfl (one_of HT_.out (by kernel_rfl)) (by decide) (fun K hK => ?_)
        refine goes_ Try.func64 (by kernel_rfl) rfl #[.agg #[.string ((rd_T55 l0_0 x3_1).f0), .int .i64 ((rd_T55 l0_0 x3_1).f1), .int .i64 ((rd_T55 l0_0 x3_1).f2), .int .i64 ((rd_T55 l0_0 x3_1).f3)]] (by rfl) rfl rfl (by (try simp only [List.map_toArray, List.map_cons, List.map_nil]); first | done | rfl | (simp only [List.length_drop, List.length_take]; rfl)) ?_
        with_reducible refine (arlinkref06_Sym.calls k1 ((rd_T55 l0_0 x3_1).f0) ((rd_T55 l0_0 x3_1).f1) ((rd_T55 l0_0 x3_1).f2) ((rd_T55 l0_0 x3_1).f3) true _ A5.out).mono ?_
        rintro e w17 ⟨rfl, hb⟩
        refine ⟨_, rfl, ?_⟩
        have n0_ := Aside0.mk (blk_below (g := gb296) (o := .cells #[.slice (some ad297) l0_0.length c0_0, .slice A0_1 l0_1.length c0_1] 50 (0, 0)) (by (with_reducible repeat (first | refine blk_drewN ?_ _ | refine blk_drew ?_ | refine blk_alloc ?_ _)); exact BK296.out) hb)
        have n1_ := Aside0.mk (below_step (by repeat (first | (with_reducible first | exact HB.out | apply below_alloc | apply pw_below_drewN | apply below_drew1 | refine below_set ?_ GE296.out) | exact HB.out)) hb)
        clear BK296
        clear HB
        have BK296 := n0_
        have HB := n1_
        clear n0_ n1_
        (try clear hb)
        (try clear hb2)
        (try clear hk)
        (try clear hi)
        have q18 : (x3_1 : Int) ≤ ((l0_0.length : Int) : Int) := of_decide_eq_true (by first | (with_reducible assumption) | assumption)
        obtain ⟨i018, hi018, _, hsz18, _⟩ := info_parts info55
        have hroom18 : l0_0.length ≤ c0_0 := HC0_0.out
        have hC18 : Kd.C k55 _ (some ad297) l0_0.length l0_0 := HR0_0.out
        have hcut18 := cut_to (P := Try.prog) 47 55 .i64 Try.underlying47 hi018 (some ad297) l0_0.length c0_0 x3_1 (of_decide_eq_true (by first | (with_reducible assumption) | assumption)) q18 hroom18
        have hr18 := Kd.C_take (m := (x3_1 : Int).toNat) hC18 (by omega)
        have hy18 : y299.length = (x3_1 : Int).toNat := (by rw [Ny299.out, List.length_take]; omega)
        rw [← Ny299.out] at hr18
        rw [← hy18] at hcut18
        have HR302 := Aside0.mk hr18
        have HC302 := Aside0.mk (show y299.length ≤ c0_0 from by omega)
        clear hr18 hC18 hroom18 hi018 hsz18
        have KY18 := Aside0.mk hy18
        clear hy18
        replace q18 := eq_true q18
        refine hK.out _ _ ⟨(blk_cell BK296.out 0).trans rfl, (blk_cell BK296.out 1).trans rfl, ((HB.out.cell (World.block_lt_of_cell? w _ hw297_0)).trans hw297_0), ((HB.out.cell (World.block_lt_of_cell? w _ hw297_1)).trans hw297_1), ((HB.out.cell (World.block_lt_of_cell? w _ hw297_2)).trans hw297_2), ((HB.out.cell (World.block_lt_of_cell? w _ hw297_3)).trans hw297_3), ((HB.out.cell (World.block_lt_of_cell? w _ hw303_0)).trans hw303_0), ((HB.out.cell (World.block_lt_of_cell? w _ hw303_1)).trans hw303_1), ((HB.out.cell (World.block_lt_of_cell? w _ hw303_2)).trans hw303_2), ((HB.out.cell (World.block_lt_of_cell? w _ hw303_3)).trans hw303_3)⟩ (fun hHeld => ?_)
        clear hK K
        refine norm_ (a' := ?_) ?_ ?_
        rotate_left
        ·show Act.put _ (some 16) _ = _
         simp only [Act.put, List.setIfInBounds_toArray, List.set_cons_zero, List.set_cons_succ, i64_w, i32_w]
         rfl
        refine pure_ (i := 6) (N := some 17) (v := ?_) (a' := ?_) #[true, true, true, true, true, true, true, false, false, false, false, false, false, false, false, false, false, false, false, false] rfl rfl (any_of HT_.out (by kernel_rfl)) (fun _ _ _ h => h) (Or.inl ⟨by rfl, ?_⟩) ?_ ?_
        rotate_left
        ·intro w'
         go_simp
         with_reducible rfl
        rotate_left
        ·simp only [Act.put, List.setIfInBounds_toArray, List.set_cons_zero, List.set_cons_succ, i64_w, i32_w]
         rfl
        refine pure_ (i := 7) (N := some 18) (v := ?_) (a' := ?_) #[true, true, true, true, true, true, true, true, false, false, false, false, false, false, false, false, false, false, false, false] rfl rfl (any_of HT_.out (by kernel_rfl)) (fun _ _ _ h => h) (Or.inl ⟨by rfl, ?_⟩) ?_ ?_
        rotate_left
        ·intro w'
         go_simp
         with_reducible rfl
        rotate_left
        ·simp only [Act.put, List.setIfInBounds_toArray, List.set_cons_zero, List.set_cons_succ, i64_w, i32_w]
         rfl
        refine pure_ (i := 8) (N := some 19) (v := ?_) (a' := ?_) #[true, true, true, true, true, true, true, true, true, false, false, false, false, false, false, false, false, false, false, false] rfl rfl (any_of HT_.out (by kernel_rfl)) (fun _ _ _ h => h) (Or.inl ⟨by rfl, ?_⟩) ?_ ?_
        rotate_left
        ·intro w'
         go_simp
         with_reducible rfl
        rotate_left
        ·simp only [Act.put, List.setIfInBounds_toArray, List.set_cons_zero, List.set_cons_succ, i64_w, i32_w]
         rfl
        refine pure_ (i := 10) (N := some 21) (v := ?_) (a' := ?_) #[true, true, true, true, true, true, true, true, true, false, true, false, false, false, false, false, false, false, false, false] rfl rfl (any_of HT_.out (by kernel_rfl)) (fun _ _ _ h => h) (Or.inl ⟨by rfl, ?_⟩) ?_ ?_
        rotate_left
        ·intro w'
         go_simp
         with_reducible rfl
        rotate_left
        ·simp only [Act.put, List.setIfInBounds_toArray, List.set_cons_zero, List.set_cons_succ, i64_w, i32_w]
         rfl
        refine pure_ (i := 12) (N := some 23) (v := ?_) (a' := ?_) #[true, true, true, true, true, true, true, true, true, false, true, false, true, false, false, false, false, false, false, false] rfl rfl (any_of HT_.out (by kernel_rfl)) (fun _ _ _ h => h) (Or.inl ⟨by rfl, ?_⟩) ?_ ?_
        rotate_left
        ·intro w'
         go_simp
         with_reducible rfl
        rotate_left
        ·simp only [Act.put, List.setIfInBounds_toArray, List.set_cons_zero, List.set_cons_succ, i64_w, i32_w]
         rfl
        refine pure_ (i := 14) (N := some 25) (v := ?_) (a' := ?_) #[true, true, true, true, true, true, true, true, true, false, true, false, true, false, true, false, false, false, false, false] rfl rfl (any_of HT_.out (by kernel_rfl)) (fun _ _ _ h => h) (Or.inl ⟨by rfl, ?_⟩) ?_ ?_
        rotate_left
        ·intro w'
         go_simp
         with_reducible rfl
        rotate_left
        ·simp only [Act.put, List.setIfInBounds_toArray, List.set_cons_zero, List.set_cons_succ, i64_w, i32_w]
         rfl
        refine take_ (i := 9) (N := some 20) (v := ?_) (a' := ?_) #[true, true, true, true, true, true, true, true, true, true, true, false, true, false, true, false, false, false, false, false] rfl rfl (take_ofW HT_.out HW_.out (by kernel_rfl)) (fun _ _ _ h => h) (Or.inl ⟨by rfl, ?_⟩) hHeld ?_ ?_
        rotate_left
        ·rintro w' ⟨s0, s1, s2, s3, s4, s5, s6, s7, s8, s9⟩
         go_simp
         with_reducible rfl
        rotate_left
        ·simp only [Act.put, List.setIfInBounds_toArray, List.set_cons_zero, List.set_cons_succ, i64_w, i32_w]
         rfl
        refine pure_ (i := 11) (N := some 22) (v := ?_) (a' := ?_) #[true, true, true, true, true, true, true, true, true, true, true, true, true, false, true, false, false, false, false, false] rfl rfl (any_of HT_.out (by kernel_rfl)) (fun _ _ _ h => h) (Or.inl ⟨by rfl, ?_⟩) ?_ ?_
        rotate_left
        ·intro w'
         go_simp
         with_reducible rfl
        rotate_left
        ·simp only [Act.put, List.setIfInBounds_toArray, List.set_cons_zero, List.set_cons_succ, i64_w, i32_w]
         rfl
        refine take_ (i := 13) (N := some 24) (v := ?_) (a' := ?_) #[true, true, true, true, true, true, true, true, true, true, true, true, true, true, true, false, false, false, false, false] rfl rfl (take_ofW HT_.out HW_.out (by kernel_rfl)) (fun _ _ _ h => h) (Or.inl ⟨by rfl, ?_⟩) hHeld ?_ ?_
        rotate_left
        ·rintro w' ⟨s0, s1, s2, s3, s4, s5, s6, s7, s8, s9⟩
         go_simp
         with_reducible rfl
        rotate_left
        ·simp only [Act.put, List.setIfInBounds_toArray, List.set_cons_zero, List.set_cons_succ, i64_w, i32_w]
         rfl
        refine pure_ (i := 15) (N := some 26) (v := ?_) (a' := ?_) #[true, true, true, true, true, true, true, true, true, true, true, true, true, true, true, true, false, false, false, false] rfl rfl (any_of HT_.out (by kernel_rfl)) (fun _ _ _ h => h) (Or.inl ⟨by rfl, ?_⟩) ?_ ?_
        rotate_left
        ·intro w'
         go_simp
         with_reducible rfl
        rotate_left
        ·simp only [Act.put, List.setIfInBounds_toArray, List.set_cons_zero, List.set_cons_succ, i64_w, i32_w]
         rfl
        refine pure_ (i := 16) (N := some 27) (v := ?_) (a' := ?_) #[true, true, true, true, true, true, true, true, true, true, true, true, true, true, true, true, true, false, false, false] rfl rfl (any_of HT_.out (by kernel_rfl)) (fun _ _ _ h => h) (Or.inl ⟨by rfl, ?_⟩) ?_ ?_
        rotate_left
        ·intro w'
         go_simp
         with_reducible rfl
        rotate_left
        ·simp only [Act.put, List.setIfInBounds_toArray, List.set_cons_zero, List.set_cons_succ, i64_w, i32_w]
         rfl
        refine take_ (i := 17) (N := some 28) (v := ?_) (a' := ?_) #[true, true, true, true, true, true, true, true, true, true, true, true, true, true, true, true, true, true, false, false] rfl rfl (take_ofW HT_.out HW_.out (by kernel_rfl)) (fun _ _ _ h => h) (Or.inl ⟨by rfl, ?_⟩) hHeld ?_ ?_
        rotate_left
        ·rintro w' ⟨s0, s1, s2, s3, s4, s5, s6, s7, s8, s9⟩
         go_simp
         with_reducible rfl
        rotate_left
        ·simp only [Act.put, List.setIfInBounds_toArray, List.set_cons_zero, List.set_cons_succ, i64_w, i32_w]
         rfl
        refine one_ (i := 18) (N := some 29) #[true, true, true, true, true, true, true, true, true, true, true, true, true, true, true, true, true, true, true, false] rfl rfl (one_of HT_.out (by kernel_rfl)) (by decide) (fun K hK => ?_)
        refine goes_ Try.func65 (by kernel_rfl) rfl #[.slice (some ad297) y299.length c0_0, .string ((rd_T55 l0_0 x3_1).f0)] (by rfl) rfl rfl (by (try simp only [List.map_toArray, List.map_cons, List.map_nil]); first | done | rfl | (simp only [List.length_drop, List.length_take]; rfl)) ?_
        with_reducible refine (arlinkref06_has.calls k1 _ _ y299 ((rd_T55 l0_0 x3_1).f0) false _ ?side1 ?side2 A9.out).mono ?_
        (case side1 => repeat (first | exact (Kd.C_below HR302.out HB.out) | (with_reducible refine Kd.C_alloc ?_ _) | (with_reducible refine Kd.C_drewN ?_ _) | (with_reducible refine Kd.C_drew ?_)))
        (case side2 => exact HC302.out)
        rintro e w' ⟨rfl, ⟨nd, rfl⟩⟩
        refine ⟨_, rfl, ?_⟩
        refine hK.out _ _ ⟨(blk_cell BK296.out 0).trans rfl, (blk_cell BK296.out 1).trans rfl, ((HB.out.cell (World.block_lt_of_cell? w _ hw297_0)).trans hw297_0), ((HB.out.cell (World.block_lt_of_cell? w _ hw297_1)).trans hw297_1), ((HB.out.cell (World.block_lt_of_cell? w _ hw297_2)).trans hw297_2), ((HB.out.cell (World.block_lt_of_cell? w _ hw297_3)).trans hw297_3), ((HB.out.cell (World.block_lt_of_cell? w _ hw303_0)).trans hw303_0), ((HB.out.cell (World.block_lt_of_cell? w _ hw303_1)).trans hw303_1), ((HB.out.cell (World.block_lt_of_cell? w _ hw303_2)).trans hw303_2), ((HB.out.cell (World.block_lt_of_cell? w _ hw303_3)).trans hw303_3)⟩ (fun hHeld => ?_)
        clear hK K
        refine norm_ (a' := ?_) ?_ ?_
        rotate_left
        ·show Act.put _ (some 29) _ = _
         simp only [Act.put, List.setIfInBounds_toArray, List.set_cons_zero, List.set_cons_succ, i64_w, i32_w]
         rfl
        refine pure_ (i := 19) (N := some 30) (v := ?_) (a' := ?_) #[true, true, true, true, true, true, true, true, true, true, true, true, true, true, true, true, true, true, true, true] rfl rfl (any_of HT_.out (by kernel_rfl)) (fun _ _ _ h => h) (Or.inl ⟨by rfl, ?_⟩) ?_ ?_
        rotate_left
        ·intro w'
         go_simp
         with_reducible rfl
        rotate_left
        ·simp only [Act.put, List.setIfInBounds_toArray, List.set_cons_zero, List.set_cons_succ, i64_w, i32_w]
         rfl
        refine done_ (done_of HT_.out (by kernel_rfl)) ?_
        try go_wp2
        go_roundg k1
        case measure => have := HK1.out; omega
        case rel => exact ⟨(wrap64 (x3_1 + 1)), (by first | rfl | (simp; done) | (simp [*]; done)), H', ⟨by have := HK1.out; omega⟩, ⟨by (with_reducible repeat (first | refine blk_drewN ?_ _ | refine blk_drew ?_ | refine blk_alloc ?_ _)); exact BK296.out⟩, ⟨by repeat (first | (with_reducible first | exact HB.out | apply below_alloc | apply pw_below_drewN | apply below_drew1 | refine below_set ?_ GE296.out) | exact HB.out)⟩⟩
      ·rw [if_neg c8] at H
       exact absurd H (by simp)
     ·replace c6 := Bool.eq_false_iff.mpr c6
      subst c6
      have H1 : (some false) = some r := by rw [if_neg (show ¬ (false = true) by decide)] at H; exact H
      clear H
      have H := H1
      clear H1
      obtain rfl := Option.some.inj H
      have hcz19_0 : wr.cell? ⟨gb296, 0, none⟩ = some (.slice A0_0 l0_0.length c0_0) := (blk_cell BK296.out 0).trans rfl
      have hcz19_1 : wr.cell? ⟨gb296, 1, none⟩ = some (.slice A0_1 l0_1.length c0_1) := (blk_cell BK296.out 1).trans rfl
      have hfz19_0 := blk_frozen BK296.out 0
      have hfz19_1 := blk_frozen BK296.out 1
      try go_wp2
      have n0_ := Aside0.mk (blk_drew BK296.out)
      have n1_ := Aside0.mk (below_drew1 HB.out)
      clear BK296
      clear HB
      have BK296 := n0_
      have HB := n1_
      clear n0_ n1_
      have p297 : 0 ≤ (x3_1 : Int) := of_decide_eq_true (by first | (with_reducible assumption) | assumption)
      have q297 : x3_1 < (l0_0.length : Int) := of_decide_eq_true (by first | (with_reducible assumption) | assumption)
      obtain ⟨ad297, e297, hx297_0, hx297_1, hx297_2, hx297_3⟩ := at_T55 HR0_0.out x3_1 p297 q297
      have hw297_3 := hx297_3
      have hw297_2 := hx297_2
      have hw297_1 := hx297_1
      have hw297_0 := hx297_0
      cases e297
      replace hx297_0 := (HB.out.cell (World.block_lt_of_cell? w _ hx297_0)).trans hx297_0
      replace hx297_1 := (HB.out.cell (World.block_lt_of_cell? w _ hx297_1)).trans hx297_1
      replace hx297_2 := (HB.out.cell (World.block_lt_of_cell? w _ hx297_2)).trans hx297_2
      replace hx297_3 := (HB.out.cell (World.block_lt_of_cell? w _ hx297_3)).trans hx297_3
      replace p297 := eq_true p297
      replace q297 := eq_true q297
      refine start_ (n := 20) (S := fun w' => w'.cell? ⟨gb296, 0, none⟩ = some (.slice (some ad297) l0_0.length c0_0) ∧ w'.cell? ⟨gb296, 1, none⟩ = some (.slice A0_1 l0_1.length c0_1) ∧ w'.cell? (ad297.add ((x3_1).toNat * 4)) = some (.string ((rd_T55 l0_0 x3_1).f0)) ∧ w'.cell? ⟨(ad297.add ((x3_1).toNat * 4)).block, (ad297.add ((x3_1).toNat * 4)).off + 1, none⟩ = some (.int .i64 ((rd_T55 l0_0 x3_1).f1)) ∧ w'.cell? ⟨(ad297.add ((x3_1).toNat * 4)).block, (ad297.add ((x3_1).toNat * 4)).off + 2, none⟩ = some (.int .i64 ((rd_T55 l0_0 x3_1).f2)) ∧ w'.cell? ⟨(ad297.add ((x3_1).toNat * 4)).block, (ad297.add ((x3_1).toNat * 4)).off + 3, none⟩ = some (.int .i64 ((rd_T55 l0_0 x3_1).f3))) (ds := []) #[false, false, false, false, false, false, false, false, false, false, false, false, false, false, false, false, false, false, false, false] (by kernel_rfl) rfl rfl ⟨(blk_cell BK296.out 0).trans rfl, (blk_cell BK296.out 1).trans rfl, ((HB.out.cell (World.block_lt_of_cell? w _ hw297_0)).trans hw297_0), ((HB.out.cell (World.block_lt_of_cell? w _ hw297_1)).trans hw297_1), ((HB.out.cell (World.block_lt_of_cell? w _ hw297_2)).trans hw297_2), ((HB.out.cell (World.block_lt_of_cell? w _ hw297_3)).trans hw297_3)⟩ (fun hHeld => ?_); refine with_tabW arlinkref06_Valid.tab4 arlinkref06_Valid.bits4 (fun HT_ HW_ => ?_)
      generalize wr.drew = w20 at BK296 HB hx297_0 hx297_1 hx297_2 hx297_3 hHeld ⊢
      refine pure_ (i := 0) (N := some 11) (v := ?_) (a' := ?_) #[true, false, false, false, false, false, false, false, false, false, false, false, false, false, false, false, false, false, false, false] rfl rfl (any_of HT_.out (by kernel_rfl)) (fun _ _ _ h => h) (Or.inl ⟨by rfl, ?_⟩) ?_ ?_
      rotate_left
      ·intro w'
       go_simp
       with_reducible rfl
      rotate_left
      ·simp only [Act.put, List.setIfInBounds_toArray, List.set_cons_zero, List.set_cons_succ, i64_w, i32_w]
       rfl
      refine pure_ (i := 2) (N := some 13) (v := ?_) (a' := ?_) #[true, false, true, false, false, false, false, false, false, false, false, false, false, false, false, false, false, false, false, false] rfl rfl (any_of HT_.out (by kernel_rfl)) (fun _ _ _ h => h) (Or.inl ⟨by rfl, ?_⟩) ?_ ?_
      rotate_left
      ·intro w'
       go_simp
       with_reducible rfl
      rotate_left
      ·simp only [Act.put, List.setIfInBounds_toArray, List.set_cons_zero, List.set_cons_succ, i64_w, i32_w]
       rfl
      refine take_ (i := 1) (N := some 12) (v := ?_) (a' := ?_) #[true, true, true, false, false, false, false, false, false, false, false, false, false, false, false, false, false, false, false, false] rfl rfl (take_ofW HT_.out HW_.out (by kernel_rfl)) (fun _ _ _ h => h) (Or.inl ⟨by rfl, ?_⟩) hHeld ?_ ?_
      rotate_left
      ·rintro w' ⟨s0, s1, s2, s3, s4, s5⟩
       go_simp
       with_reducible rfl
      rotate_left
      ·simp only [Act.put, List.setIfInBounds_toArray, List.set_cons_zero, List.set_cons_succ, i64_w, i32_w]
       rfl
      refine pure_ (i := 3) (N := some 14) (v := ?_) (a' := ?_) #[true, true, true, true, false, false, false, false, false, false, false, false, false, false, false, false, false, false, false, false] rfl rfl (any_of HT_.out (by kernel_rfl)) (fun _ _ _ h => h) (Or.inl ⟨by rfl, ?_⟩) ?_ ?_
      rotate_left
      ·intro w'
       go_simp
       with_reducible rfl
      rotate_left
      ·simp only [Act.put, List.setIfInBounds_toArray, List.set_cons_zero, List.set_cons_succ, i64_w, i32_w]
       rfl
      refine take_ (i := 4) (N := some 15) (v := ?_) (a' := ?_) #[true, true, true, true, true, false, false, false, false, false, false, false, false, false, false, false, false, false, false, false] rfl rfl (take_ofW HT_.out HW_.out (by kernel_rfl)) (fun _ _ _ h => h) (Or.inl ⟨by rfl, ?_⟩) hHeld ?_ ?_
      rotate_left
      ·rintro w' ⟨s0, s1, s2, s3, s4, s5⟩
       go_simp
       with_reducible rfl
      rotate_left
      ·simp only [Act.put, List.setIfInBounds_toArray, List.set_cons_zero, List.set_cons_succ, i64_w, i32_w]
       rfl
      refine one_ (i := 5) (N := some 16) #[true, true, true, true, true, true, false, false, false, false, false, false, false, false, false, false, false, false, false, false] rfl rfl (one_of HT_.out (by kernel_rfl)) (by decide) (fun K hK => ?_)
      refine goes_ Try.func64 (by kernel_rfl) rfl #[.agg #[.string ((rd_T55 l0_0 x3_1).f0), .int .i64 ((rd_T55 l0_0 x3_1).f1), .int .i64 ((rd_T55 l0_0 x3_1).f2), .int .i64 ((rd_T55 l0_0 x3_1).f3)]] (by rfl) rfl rfl (by (try simp only [List.map_toArray, List.map_cons, List.map_nil]); first | done | rfl | (simp only [List.length_drop, List.length_take]; rfl)) ?_
      with_reducible refine (arlinkref06_Sym.calls k1 ((rd_T55 l0_0 x3_1).f0) ((rd_T55 l0_0 x3_1).f1) ((rd_T55 l0_0 x3_1).f2) ((rd_T55 l0_0 x3_1).f3) false _ A5.out).mono ?_
      rintro e w21 ⟨rfl, hb⟩
      refine ⟨_, rfl, ?_⟩
      have n0_ := Aside0.mk (blk_below (g := gb296) (o := .cells #[.slice (some ad297) l0_0.length c0_0, .slice A0_1 l0_1.length c0_1] 50 (0, 0)) (by (with_reducible repeat (first | refine blk_drewN ?_ _ | refine blk_drew ?_ | refine blk_alloc ?_ _)); exact BK296.out) hb)
      have n1_ := Aside0.mk (below_step (by repeat (first | (with_reducible first | exact HB.out | apply below_alloc | apply pw_below_drewN | apply below_drew1 | refine below_set ?_ GE296.out) | exact HB.out)) hb)
      clear BK296
      clear HB
      have BK296 := n0_
      have HB := n1_
      clear n0_ n1_
      (try clear hb)
      (try clear hb2)
      (try clear hk)
      (try clear hi)
      refine hK.out _ _ ⟨(blk_cell BK296.out 0).trans rfl, (blk_cell BK296.out 1).trans rfl, ((HB.out.cell (World.block_lt_of_cell? w _ hw297_0)).trans hw297_0), ((HB.out.cell (World.block_lt_of_cell? w _ hw297_1)).trans hw297_1), ((HB.out.cell (World.block_lt_of_cell? w _ hw297_2)).trans hw297_2), ((HB.out.cell (World.block_lt_of_cell? w _ hw297_3)).trans hw297_3)⟩ (fun hHeld => ?_)
      clear hK K
      refine norm_ (a' := ?_) ?_ ?_
      rotate_left
      ·show Act.put _ (some 16) _ = _
       simp only [Act.put, List.setIfInBounds_toArray, List.set_cons_zero, List.set_cons_succ, i64_w, i32_w]
       rfl
      refine pure_ (i := 6) (N := some 17) (v := ?_) (a' := ?_) #[true, true, true, true, true, true, true, false, false, false, false, false, false, false, false, false, false, false, false, false] rfl rfl (any_of HT_.out (by kernel_rfl)) (fun _ _ _ h => h) (Or.inl ⟨by rfl, ?_⟩) ?_ ?_
      rotate_left
      ·intro w'
       go_simp
       with_reducible rfl
      rotate_left
      ·simp only [Act.put, List.setIfInBounds_toArray, List.set_cons_zero, List.set_cons_succ, i64_w, i32_w]
       rfl
      refine pure_ (i := 7) (N := some 18) (v := ?_) (a' := ?_) #[true, true, true, true, true, true, true, true, false, false, false, false, false, false, false, false, false, false, false, false] rfl rfl (any_of HT_.out (by kernel_rfl)) (fun _ _ _ h => h) (Or.inl ⟨by rfl, ?_⟩) ?_ ?_
      rotate_left
      ·intro w'
       go_simp
       with_reducible rfl
      rotate_left
      ·simp only [Act.put, List.setIfInBounds_toArray, List.set_cons_zero, List.set_cons_succ, i64_w, i32_w]
       rfl
      refine pure_ (i := 8) (N := some 19) (v := undef) (a' := ?_) #[true, true, true, true, true, true, true, true, true, false, false, false, false, false, false, false, false, false, false, false] rfl rfl (any_of HT_.out (by kernel_rfl)) (fun _ _ _ h => h) (Or.inr ⟨by rfl, rfl⟩) ?_ ?_
      rotate_left
      ·simp only [Act.put, List.setIfInBounds_toArray, List.set_cons_zero, List.set_cons_succ, i64_w, i32_w]
       rfl
      refine pure_ (i := 9) (N := some 20) (v := undef) (a' := ?_) #[true, true, true, true, true, true, true, true, true, true, false, false, false, false, false, false, false, false, false, false] rfl rfl (any_of HT_.out (by kernel_rfl)) (fun _ _ _ h => h) (Or.inr ⟨by rfl, rfl⟩) ?_ ?_
      rotate_left
      ·simp only [Act.put, List.setIfInBounds_toArray, List.set_cons_zero, List.set_cons_succ, i64_w, i32_w]
       rfl
      refine pure_ (i := 10) (N := some 21) (v := undef) (a' := ?_) #[true, true, true, true, true, true, true, true, true, true, true, false, false, false, false, false, false, false, false, false] rfl rfl (any_of HT_.out (by kernel_rfl)) (fun _ _ _ h => h) (Or.inr ⟨by rfl, rfl⟩) ?_ ?_
      rotate_left
      ·simp only [Act.put, List.setIfInBounds_toArray, List.set_cons_zero, List.set_cons_succ, i64_w, i32_w]
       rfl
      refine pure_ (i := 11) (N := some 22) (v := undef) (a' := ?_) #[true, true, true, true, true, true, true, true, true, true, true, true, false, false, false, false, false, false, false, false] rfl rfl (any_of HT_.out (by kernel_rfl)) (fun _ _ _ h => h) (Or.inr ⟨by rfl, rfl⟩) ?_ ?_
      rotate_left
      ·simp only [Act.put, List.setIfInBounds_toArray, List.set_cons_zero, List.set_cons_succ, i64_w, i32_w]
       rfl
      refine pure_ (i := 12) (N := some 23) (v := undef) (a' := ?_) #[true, true, true, true, true, true, true, true, true, true, true, true, true, false, false, false, false, false, false, false] rfl rfl (any_of HT_.out (by kernel_rfl)) (fun _ _ _ h => h) (Or.inr ⟨by rfl, rfl⟩) ?_ ?_
      rotate_left
      ·simp only [Act.put, List.setIfInBounds_toArray, List.set_cons_zero, List.set_cons_succ, i64_w, i32_w]
       rfl
      refine pure_ (i := 13) (N := some 24) (v := undef) (a' := ?_) #[true, true, true, true, true, true, true, true, true, true, true, true, true, true, false, false, false, false, false, false] rfl rfl (any_of HT_.out (by kernel_rfl)) (fun _ _ _ h => h) (Or.inr ⟨by rfl, rfl⟩) ?_ ?_
      rotate_left
      ·simp only [Act.put, List.setIfInBounds_toArray, List.set_cons_zero, List.set_cons_succ, i64_w, i32_w]
       rfl
      refine pure_ (i := 14) (N := some 25) (v := undef) (a' := ?_) #[true, true, true, true, true, true, true, true, true, true, true, true, true, true, true, false, false, false, false, false] rfl rfl (any_of HT_.out (by kernel_rfl)) (fun _ _ _ h => h) (Or.inr ⟨by rfl, rfl⟩) ?_ ?_
      rotate_left
      ·simp only [Act.put, List.setIfInBounds_toArray, List.set_cons_zero, List.set_cons_succ, i64_w, i32_w]
       rfl
      refine pure_ (i := 15) (N := some 26) (v := undef) (a' := ?_) #[true, true, true, true, true, true, true, true, true, true, true, true, true, true, true, true, false, false, false, false] rfl rfl (any_of HT_.out (by kernel_rfl)) (fun _ _ _ h => h) (Or.inr ⟨by rfl, rfl⟩) ?_ ?_
      rotate_left
      ·simp only [Act.put, List.setIfInBounds_toArray, List.set_cons_zero, List.set_cons_succ, i64_w, i32_w]
       rfl
      refine pure_ (i := 16) (N := some 27) (v := undef) (a' := ?_) #[true, true, true, true, true, true, true, true, true, true, true, true, true, true, true, true, true, false, false, false] rfl rfl (any_of HT_.out (by kernel_rfl)) (fun _ _ _ h => h) (Or.inr ⟨by rfl, rfl⟩) ?_ ?_
      rotate_left
      ·simp only [Act.put, List.setIfInBounds_toArray, List.set_cons_zero, List.set_cons_succ, i64_w, i32_w]
       rfl
      refine pure_ (i := 17) (N := some 28) (v := undef) (a' := ?_) #[true, true, true, true, true, true, true, true, true, true, true, true, true, true, true, true, true, true, false, false] rfl rfl (any_of HT_.out (by kernel_rfl)) (fun _ _ _ h => h) (Or.inr ⟨by rfl, rfl⟩) ?_ ?_
      rotate_left
      ·simp only [Act.put, List.setIfInBounds_toArray, List.set_cons_zero, List.set_cons_succ, i64_w, i32_w]
       rfl
      refine pure_ (i := 18) (N := some 29) (v := undef) (a' := ?_) #[true, true, true, true, true, true, true, true, true, true, true, true, true, true, true, true, true, true, true, false] rfl rfl (any_of HT_.out (by kernel_rfl)) (fun _ _ _ h => h) (Or.inr ⟨by rfl, rfl⟩) ?_ ?_
      rotate_left
      ·simp only [Act.put, List.setIfInBounds_toArray, List.set_cons_zero, List.set_cons_succ, i64_w, i32_w]
       rfl
      refine pure_ (i := 19) (N := some 30) (v := ?_) (a' := ?_) #[true, true, true, true, true, true, true, true, true, true, true, true, true, true, true, true, true, true, true, true] rfl rfl (any_of HT_.out (by kernel_rfl)) (fun _ _ _ h => h) (Or.inl ⟨by rfl, ?_⟩) ?_ ?_
      rotate_left
      ·intro w'
       go_simp
       with_reducible rfl
      rotate_left
      ·simp only [Act.put, List.setIfInBounds_toArray, List.set_cons_zero, List.set_cons_succ, i64_w, i32_w]
       rfl
      refine done_ (done_of HT_.out (by kernel_rfl)) ?_
      try go_wp2
      go_ret
      exact ⟨by first | rfl | (simp [errW_none, errW_some] <;> rfl) | (simp [*, errW_none, errW_some] <;> rfl), by repeat (first | (with_reducible first | exact HB.out | apply below_alloc | apply pw_below_drewN | apply below_drew1 | refine below_set ?_ GE296.out) | exact HB.out)⟩
    ·rw [if_neg c4] at H
     exact absurd H (by simp)
   ·rw [if_neg c3] at H
    have c3b0 : decide (x3_1 < (l0_0.length : Int)) = false := decide_eq_false c3
    clear c3
    obtain rfl := Option.some.inj H
    have hcz22_0 : wr.cell? ⟨gb296, 0, none⟩ = some (.slice A0_0 l0_0.length c0_0) := (blk_cell BK296.out 0).trans rfl
    have hcz22_1 : wr.cell? ⟨gb296, 1, none⟩ = some (.slice A0_1 l0_1.length c0_1) := (blk_cell BK296.out 1).trans rfl
    have hfz22_0 := blk_frozen BK296.out 0
    have hfz22_1 := blk_frozen BK296.out 1
    go_wp2
    go_ret
    exact ⟨by first | rfl | (simp [errW_none, errW_some] <;> rfl) | (simp [*, errW_none, errW_some] <;> rfl), by repeat (first | (with_reducible first | exact HB.out | apply below_alloc | apply pw_below_drewN | apply below_drew1 | refine below_set ?_ GE296.out) | exact HB.out)⟩
end Go.Proofs.Ythpjpkcfepmhkaa.PAll
namespace Go.Proofs.Ythpjpkcfepmhkaa.PAll
open Go.RowKit Go.Proofs.YthpjpkcfepmhkaaW.PrintWords Go.Proofs.YthpjpkcfepmhkaaW.PrintLast Go.Proofs.YthpjpkcfepmhkaaW.PrintMore
attribute [local go_sem] max2_int min2_int max_two min_two max_three min_three max_four min_four   -- for this text's walks alone
set_option linter.unusedVariables false
set_option linter.unusedSimpArgs false
def arlinkref14_Right.l0 : Nat → List (S50) → Int → Option (Bool)
 | 0, _, _ => none
 | k + 1, x0, x3 => if x3 < (x0.length : Int) then (if 0 ≤ x3 then (if (((rd_T50 x0 x3).f0).length : Int) > 20 then (some false) else ((arlinkref06_Few.f k ((rd_T50 x0 x3).f0) ((rd_T50 x0 x3).f1)).bind fun t307 => (if t307 = true then ((arlinkref06_Valid.f k ((rd_T50 x0 x3).f0) ((rd_T50 x0 x3).f1)).bind fun t309 => (if t309 = true then (arlinkref14_Right.l0 k x0 (wrap64 (x3 + 1))) else (some false))) else (some false)))) else (none)) else (some true)
def arlinkref14_Right.f (k : Nat) (l0 : List (S50)) : Option (Bool) := if (l0.length : Int) > 12 then (some false) else (arlinkref14_Right.l0 k l0 0)
set_option maxHeartbeats 8000000 in
set_option maxRecDepth 100000 in
theorem arlinkref14_Right.calls (k : Nat) (A0 : Option Addr) (c0 : Nat) (l0 : List (S50)) (r : Bool) (w : World) (hr0 : Kd.C k50 w A0 l0.length l0) (hc0 : l0.length ≤ c0) (h : arlinkref14_Right.f k l0 = some r) :
  Calls Try.prog 23 #[.slice A0 l0.length c0] w fun e w' => e = .returned (.bool r) ∧ Below w.heap.size w w' := by
 have hu50 := Try.underlying50
 have HR0 := Aside0.mk hr0
 have HC0 := Aside0.mk hc0
 clear hr0 hc0
 have HB := Aside0.mk (Below.refl w.heap.size w)
 have H : (if (l0.length : Int) > 12 then (some false) else (arlinkref14_Right.l0 k l0 0)) = some r := h
 clear h
 by_cases c2 : (l0.length : Int) > 12
 ·rw [if_pos c2] at H
  have c2b0 : decide (12 < (l0.length : Int)) = true := decide_eq_true c2
  have c2b1 : decide (12 < l0.length) = true := decide_eq_true (by omega)
  clear c2
  obtain rfl := Option.some.inj H
  go_enter Try.func23, Try.ntmps23
  go_wp2
  go_ret
  exact ⟨by first | rfl | (simp [errW_none, errW_some] <;> rfl) | (simp [*, errW_none, errW_some] <;> rfl), by repeat (first | (with_reducible first | exact HB.out | apply below_alloc | apply pw_below_drewN | apply below_drew1) | exact HB.out)⟩
 ·rw [if_neg c2] at H
  have c2b0 : decide (12 < (l0.length : Int)) = false := decide_eq_false c2
  have c2b1 : decide (12 < l0.length) = false := decide_eq_false (by omega)
  clear c2
  have H' := Aside0.mk H
  clear H
  go_enter Try.func23, Try.ntmps23
  go_wp2
  go_loopg [3] k (fun kq v3 w' => ∃ (x3_1 : Int), v3 = .int .i64 x3_1 ∧ Aside0 (arlinkref14_Right.l0 kq l0 x3_1 = some r) ∧ Aside0 (kq ≤ k) ∧ Aside0 (Below w.heap.size w w'))
  case atStart => exact ⟨(0), (by first | rfl | (simp; done) | (simp [*]; done)), H', ⟨Nat.le_refl _⟩, ⟨by repeat (first | (with_reducible first | exact HB.out | apply below_alloc | apply pw_below_drewN | apply below_drew1) | exact HB.out)⟩⟩
  case round =>
   clear H'
   try clear c2
   try clear c2b0
   try clear c2b1
   try clear p2
   obtain ⟨x3_1, rfl, HA, HK1, HB⟩ := hrel
   cases gk with
   | zero => exact absurd HA.out (by simp [arlinkref14_Right.l0])
   | succ k1 =>
    have H := HA.out
    clear HA
    simp only [arlinkref14_Right.l0] at H
    by_cases c3 : x3_1 < (l0.length : Int)
    ·rw [if_pos c3] at H
     have c3b0 : decide (x3_1 < (l0.length : Int)) = true := decide_eq_true c3
     clear c3
     by_cases c4 : 0 ≤ x3_1
     ·rw [if_pos c4] at H
      have c4b0 : decide (0 ≤ x3_1) = true := decide_eq_true c4
      clear c4
      by_cases c5 : (((rd_T50 l0 x3_1).f0).length : Int) > 20
      ·rw [if_pos c5] at H
       have c5b0 : decide (20 < (((rd_T50 l0 x3_1).f0).length : Int)) = true := decide_eq_true c5
       have c5b1 : decide (20 < ((rd_T50 l0 x3_1).f0).length) = true := decide_eq_true (by omega)
       clear c5
       obtain rfl := Option.some.inj H
       have p305 : 0 ≤ (x3_1 : Int) := of_decide_eq_true (by first | (with_reducible assumption) | assumption)
       have q305 : x3_1 < (l0.length : Int) := of_decide_eq_true (by first | (with_reducible assumption) | assumption)
       obtain ⟨ad305, A305_0, c305_0, A305_1, c305_1, e305, hx305_0, hx305_1, hl305_0, hi305_0, hl305_1, hi305_1⟩ := at_T50 HR0.out x3_1 p305 q305
       cases e305
       replace hx305_0 := (HB.out.cell (World.block_lt_of_cell? w _ hx305_0)).trans hx305_0
       replace hx305_1 := (HB.out.cell (World.block_lt_of_cell? w _ hx305_1)).trans hx305_1
       have HR305_0 := Aside0.mk hi305_0
       have HC305_0 := Aside0.mk hl305_0
       clear hi305_0 hl305_0
       have HR305_1 := Aside0.mk hi305_1
       have HC305_1 := Aside0.mk hl305_1
       clear hi305_1 hl305_1
       replace p305 := eq_true p305
       replace q305 := eq_true q305
       go_wp2
       go_ret
       exact ⟨by first | rfl | (simp [errW_none, errW_some] <;> rfl) | (simp [*, errW_none, errW_some] <;> rfl), by repeat (first | (with_reducible first | exact HB.out | apply below_alloc | apply pw_below_drewN | apply below_drew1) | exact HB.out)⟩
      ·rw [if_neg c5] at H
       have c5b0 : decide (20 < (((rd_T50 l0 x3_1).f0).length : Int)) = false := decide_eq_false c5
       have c5b1 : decide (20 < ((rd_T50 l0 x3_1).f0).length) = false := decide_eq_false (by omega)
       clear c5
       replace H := Option.bind_eq_some_iff.mp H
       obtain ⟨t307, A60, H⟩ := H
       replace H : (if t307 = true then ((arlinkref06_Valid.f k1 ((rd_T50 l0 x3_1).f0) ((rd_T50 l0 x3_1).f1)).bind fun t309 => (if t309 = true then (arlinkref14_Right.l0 k1 l0 (wrap64 (x3_1 + 1))) else (some false))) else (some false)) = some r := H
       have A6 := Aside0.mk A60
       clear A60
       by_cases c7 : t307 = true
       ·subst c7
        have H1 : ((arlinkref06_Valid.f k1 ((rd_T50 l0 x3_1).f0) ((rd_T50 l0 x3_1).f1)).bind fun t309 => (if t309 = true then (arlinkref14_Right.l0 k1 l0 (wrap64 (x3_1 + 1))) else (some false))) = some r := by rw [if_pos rfl] at H; exact H
        clear H
        have H := H1
        clear H1
        replace H := Option.bind_eq_some_iff.mp H
        obtain ⟨t309, A80, H⟩ := H
        replace H : (if t309 = true then (arlinkref14_Right.l0 k1 l0 (wrap64 (x3_1 + 1))) else (some false)) = some r := H
        have A8 := Aside0.mk A80
        clear A80
        by_cases c9 : t309 = true
        ·subst c9
         have H1 : (arlinkref14_Right.l0 k1 l0 (wrap64 (x3_1 + 1))) = some r := by rw [if_pos rfl] at H; exact H
         clear H
         have H := H1
         clear H1
         have H' := Aside0.mk H
         clear H
         have p305 : 0 ≤ (x3_1 : Int) := of_decide_eq_true (by first | (with_reducible assumption) | assumption)
         have q305 : x3_1 < (l0.length : Int) := of_decide_eq_true (by first | (with_reducible assumption) | assumption)
         obtain ⟨ad305, A305_0, c305_0, A305_1, c305_1, e305, hx305_0, hx305_1, hl305_0, hi305_0, hl305_1, hi305_1⟩ := at_T50 HR0.out x3_1 p305 q305
         cases e305
         replace hx305_0 := (HB.out.cell (World.block_lt_of_cell? w _ hx305_0)).trans hx305_0
         replace hx305_1 := (HB.out.cell (World.block_lt_of_cell? w _ hx305_1)).trans hx305_1
         have HR305_0 := Aside0.mk hi305_0
         have HC305_0 := Aside0.mk hl305_0
         clear hi305_0 hl305_0
         have HR305_1 := Aside0.mk hi305_1
         have HC305_1 := Aside0.mk hl305_1
         clear hi305_1 hl305_1
         replace p305 := eq_true p305
         replace q305 := eq_true q305
         have p306 : 0 ≤ (x3_1 : Int) := of_decide_eq_true (by first | (with_reducible assumption) | assumption)
         have q306 : x3_1 < (l0.length : Int) := of_decide_eq_true (by first | (with_reducible assumption) | assumption)
         obtain ⟨ad306, A306_0, c306_0, A306_1, c306_1, e306, hx306_0, hx306_1, hl306_0, hi306_0, hl306_1, hi306_1⟩ := at_T50 HR0.out x3_1 p306 q306
         obtain rfl : ad305 = ad306 := (by injection e306)
         replace hx306_0 := (HB.out.cell (World.block_lt_of_cell? w _ hx306_0)).trans hx306_0
         replace hx306_1 := (HB.out.cell (World.block_lt_of_cell? w _ hx306_1)).trans hx306_1
         have HR306_0 := Aside0.mk hi306_0
         have HC306_0 := Aside0.mk hl306_0
         clear hi306_0 hl306_0
         have HR306_1 := Aside0.mk hi306_1
         have HC306_1 := Aside0.mk hl306_1
         clear hi306_1 hl306_1
         replace p306 := eq_true p306
         replace q306 := eq_true q306
         have ea_ := Option.some.inj (hx305_0.symm.trans hx306_0)
         injection ea_ with ea_ en_ ec_
         subst ea_
         subst ec_
         clear en_
         have ea_ := Option.some.inj (hx305_1.symm.trans hx306_1)
         injection ea_ with ea_ en_ ec_
         subst ea_
         subst ec_
         clear en_
         go_wp2_with (first | (go_at_call 47; (with_reducible refine (arlinkref06_Few.calls k1 _ _ ((rd_T50 l0 x3_1).f0) _ _ ((rd_T50 l0 x3_1).f1) true _ ?side1 ?side2 ?side3 ?side4 A6.out).mono ?_); (case side1 => repeat (first | exact (Kd.C_below HR306_0.out HB.out) | (with_reducible refine Kd.C_alloc ?_ _) | (with_reducible refine Kd.C_drewN ?_ _) | (with_reducible refine Kd.C_drew ?_))); (case side2 => exact HC306_0.out); (case side3 => repeat (first | exact (Kd.C_below HR306_1.out HB.out) | (with_reducible refine Kd.C_alloc ?_ _) | (with_reducible refine Kd.C_drewN ?_ _) | (with_reducible refine Kd.C_drew ?_))); (case side4 => exact HC306_1.out); rintro e w10 ⟨rfl, hb⟩; have n0_ := Aside0.mk (below_step (by repeat (first | (with_reducible first | exact HB.out | apply below_alloc | apply pw_below_drewN | apply below_drew1) | exact HB.out)) hb); clear HB; have HB := n0_; clear n0_; (try clear hb); (try clear hb2); (try clear hk); (try clear hi); have p308 : 0 ≤ (x3_1 : Int) := of_decide_eq_true (by first | (with_reducible assumption) | assumption); have q308 : x3_1 < (l0.length : Int) := of_decide_eq_true (by first | (with_reducible assumption) | assumption); obtain ⟨ad308, A308_0, c308_0, A308_1, c308_1, e308, hx308_0, hx308_1, hl308_0, hi308_0, hl308_1, hi308_1⟩ := at_T50 HR0.out x3_1 p308 q308; obtain rfl : ad305 = ad308 := (by injection e308); replace hx308_0 := (HB.out.cell (World.block_lt_of_cell? w _ hx308_0)).trans hx308_0; replace hx308_1 := (HB.out.cell (World.block_lt_of_cell? w _ hx308_1)).trans hx308_1; have HR308_0 := Aside0.mk hi308_0; have HC308_0 := Aside0.mk hl308_0; clear hi308_0 hl308_0; have HR308_1 := Aside0.mk hi308_1; have HC308_1 := Aside0.mk hl308_1; clear hi308_1 hl308_1; replace p308 := eq_true p308; replace q308 := eq_true q308) | (go_at_call 48; (with_reducible refine (arlinkref06_Valid.calls k1 _ _ ((rd_T50 l0 x3_1).f0) _ _ ((rd_T50 l0 x3_1).f1) true _ ?side1 ?side2 ?side3 ?side4 A8.out).mono ?_); (case side1 => repeat (first | exact (Kd.C_below HR308_0.out HB.out) | (with_reducible refine Kd.C_alloc ?_ _) | (with_reducible refine Kd.C_drewN ?_ _) | (with_reducible refine Kd.C_drew ?_))); (case side2 => exact HC308_0.out); (case side3 => repeat (first | exact (Kd.C_below HR308_1.out HB.out) | (with_reducible refine Kd.C_alloc ?_ _) | (with_reducible refine Kd.C_drewN ?_ _) | (with_reducible refine Kd.C_drew ?_))); (case side4 => exact HC308_1.out); rintro e w11 ⟨rfl, hb⟩; have n0_ := Aside0.mk (below_step (by repeat (first | (with_reducible first | exact HB.out | apply below_alloc | apply pw_below_drewN | apply below_drew1) | exact HB.out)) hb); clear HB; have HB := n0_; clear n0_; (try clear hb); (try clear hb2); (try clear hk); (try clear hi)))
         go_roundg k1
         case measure => have := HK1.out; omega
         case rel => exact ⟨(wrap64 (x3_1 + 1)), (by first | rfl | (simp; done) | (simp [*]; done)), H', ⟨by have := HK1.out; omega⟩, ⟨by repeat (first | (with_reducible first | exact HB.out | apply below_alloc | apply pw_below_drewN | apply below_drew1) | exact HB.out)⟩⟩
        ·replace c9 := Bool.eq_false_iff.mpr c9
         subst c9
         have H1 : (some false) = some r := by rw [if_neg (show ¬ (false = true) by decide)] at H; exact H
         clear H
         have H := H1
         clear H1
         obtain rfl := Option.some.inj H
         have p305 : 0 ≤ (x3_1 : Int) := of_decide_eq_true (by first | (with_reducible assumption) | assumption)
         have q305 : x3_1 < (l0.length : Int) := of_decide_eq_true (by first | (with_reducible assumption) | assumption)
         obtain ⟨ad305, A305_0, c305_0, A305_1, c305_1, e305, hx305_0, hx305_1, hl305_0, hi305_0, hl305_1, hi305_1⟩ := at_T50 HR0.out x3_1 p305 q305
         cases e305
         replace hx305_0 := (HB.out.cell (World.block_lt_of_cell? w _ hx305_0)).trans hx305_0
         replace hx305_1 := (HB.out.cell (World.block_lt_of_cell? w _ hx305_1)).trans hx305_1
         have HR305_0 := Aside0.mk hi305_0
         have HC305_0 := Aside0.mk hl305_0
         clear hi305_0 hl305_0
         have HR305_1 := Aside0.mk hi305_1
         have HC305_1 := Aside0.mk hl305_1
         clear hi305_1 hl305_1
         replace p305 := eq_true p305
         replace q305 := eq_true q305
         have p306 : 0 ≤ (x3_1 : Int) := of_decide_eq_true (by first | (with_reducible assumption) | assumption)
         have q306 : x3_1 < (l0.length : Int) := of_decide_eq_true (by first | (with_reducible assumption) | assumption)
         obtain ⟨ad306, A306_0, c306_0, A306_1, c306_1, e306, hx306_0, hx306_1, hl306_0, hi306_0, hl306_1, hi306_1⟩ := at_T50 HR0.out x3_1 p306 q306
         obtain rfl : ad305 = ad306 := (by injection e306)
         replace hx306_0 := (HB.out.cell (World.block_lt_of_cell? w _ hx306_0)).trans hx306_0
         replace hx306_1 := (HB.out.cell (World.block_lt_of_cell? w _ hx306_1)).trans hx306_1
         have HR306_0 := Aside0.mk hi306_0
         have HC306_0 := Aside0.mk hl306_0
         clear hi306_0 hl306_0
         have HR306_1 := Aside0.mk hi306_1
         have HC306_1 := Aside0.mk hl306_1
         clear hi306_1 hl306_1
         replace p306 := eq_true p306
         replace q306 := eq_true q306
         have ea_ := Option.some.inj (hx305_0.symm.trans hx306_0)
         injection ea_ with ea_ en_ ec_
         subst ea_
         subst ec_
         clear en_
         have ea_ := Option.some.inj (hx305_1.symm.trans hx306_1)
         injection ea_ with ea_ en_ ec_
         subst ea_
         subst ec_
         clear en_
         go_wp2_with (first | (go_at_call 47; (with_reducible refine (arlinkref06_Few.calls k1 _ _ ((rd_T50 l0 x3_1).f0) _ _ ((rd_T50 l0 x3_1).f1) true _ ?side1 ?side2 ?side3 ?side4 A6.out).mono ?_); (case side1 => repeat (first | exact (Kd.C_below HR306_0.out HB.out) | (with_reducible refine Kd.C_alloc ?_ _) | (with_reducible refine Kd.C_drewN ?_ _) | (with_reducible refine Kd.C_drew ?_))); (case side2 => exact HC306_0.out); (case side3 => repeat (first | exact (Kd.C_below HR306_1.out HB.out) | (with_reducible refine Kd.C_alloc ?_ _) | (with_reducible refine Kd.C_drewN ?_ _) | (with_reducible refine Kd.C_drew ?_))); (case side4 => exact HC306_1.out); rintro e w12 ⟨rfl, hb⟩; have n0_ := Aside0.mk (below_step (by repeat (first | (with_reducible first | exact HB.out | apply below_alloc | apply pw_below_drewN | apply below_drew1) | exact HB.out)) hb); clear HB; have HB := n0_; clear n0_; (try clear hb); (try clear hb2); (try clear hk); (try clear hi); have p308 : 0 ≤ (x3_1 : Int) := of_decide_eq_true (by first | (with_reducible assumption) | assumption); have q308 : x3_1 < (l0.length : Int) := of_decide_eq_true (by first | (with_reducible assumption) | assumption); obtain ⟨ad308, A308_0, c308_0, A308_1, c308_1, e308, hx308_0, hx308_1, hl308_0, hi308_0, hl308_1, hi308_1⟩ := at_T50 HR0.out x3_1 p308 q308; obtain rfl : ad305 = ad308 := (by injection e308); replace hx308_0 := (HB.out.cell (World.block_lt_of_cell? w _ hx308_0)).trans hx308_0; replace hx308_1 := (HB.out.cell (World.block_lt_of_cell? w _ hx308_1)).trans hx308_1; have HR308_0 := Aside0.mk hi308_0; have HC308_0 := Aside0.mk hl308_0; clear hi308_0 hl308_0; have HR308_1 := Aside0.mk hi308_1; have HC308_1 := Aside0.mk hl308_1; clear hi308_1 hl308_1; replace p308 := eq_true p308; replace q308 := eq_true q308) | (go_at_call 48; (with_reducible refine (arlinkref06_Valid.calls k1 _ _ ((rd_T50 l0 x3_1).f0) _ _ ((rd_T50 l0 x3_1).f1) false _ ?side1 ?side2 ?side3 ?side4 A8.out).mono ?_); (case side1 => repeat (first | exact (Kd.C_below HR308_0.out HB.out) | (with_reducible refine Kd.C_alloc ?_ _) | (with_reducible refine Kd.C_drewN ?_ _) | (with_reducible refine Kd.C_drew ?_))); (case side2 => exact HC308_0.out); (case side3 => repeat (first | exact (Kd.C_below HR308_1.out HB.out) | (with_reducible refine Kd.C_alloc ?_ _) | (with_reducible refine Kd.C_drewN ?_ _) | (with_reducible refine Kd.C_drew ?_))); (case side4 => exact HC308_1.out); rintro e w13 ⟨rfl, hb⟩; have n0_ := Aside0.mk (below_step (by repeat (first | (with_reducible first | exact HB.out | apply below_alloc | apply pw_below_drewN | apply below_drew1) | exact HB.out)) hb); clear HB; have HB := n0_; clear n0_; (try clear hb); (try clear hb2); (try clear hk); (try clear hi)))
         go_ret
         exact ⟨by first | rfl | (simp [errW_none, errW_some] <;> rfl) | (simp [*, errW_none, errW_some] <;> rfl), by repeat (first | (with_reducible first | exact HB.out | apply below_alloc | apply pw_below_drewN | apply below_drew1) | exact HB.out)⟩
       ·replace c7 := Bool.eq_false_iff.mpr c7
        subst c7
        have H1 : (some false) = some r := by rw [if_neg (show ¬ (false = true) by decide)] at H; exact H
        clear H
        have H := H1
        clear H1
        obtain rfl := Option.some.inj H
        have p305 : 0 ≤ (x3_1 : Int) := of_decide_eq_true (by first | (with_reducible assumption) | assumption)
        have q305 : x3_1 < (l0.length : Int) := of_decide_eq_true (by first | (with_reducible assumption) | assumption)
        obtain ⟨ad305, A305_0, c305_0, A305_1, c305_1, e305, hx305_0, hx305_1, hl305_0, hi305_0, hl305_1, hi305_1⟩ := at_T50 HR0.out x3_1 p305 q305
        cases e305
        replace hx305_0 := (HB.out.cell (World.block_lt_of_cell? w _ hx305_0)).trans hx305_0
        replace hx305_1 := (HB.out.cell (World.block_lt_of_cell? w _ hx305_1)).trans hx305_1
        have HR305_0 := Aside0.mk hi305_0
        have HC305_0 := Aside0.mk hl305_0
        clear hi305_0 hl305_0
        have HR305_1 := Aside0.mk hi305_1
        have HC305_1 := Aside0.mk hl305_1
        clear hi305_1 hl305_1
        replace p305 := eq_true p305
        replace q305 := eq_true q305
        have p306 : 0 ≤ (x3_1 : Int) := of_decide_eq_true (by first | (with_reducible assumption) | assumption)
        have q306 : x3_1 < (l0.length : Int) := of_decide_eq_true (by first | (with_reducible assumption) | assumption)
        obtain ⟨ad306, A306_0, c306_0, A306_1, c306_1, e306, hx306_0, hx306_1, hl306_0, hi306_0, hl306_1, hi306_1⟩ := at_T50 HR0.out x3_1 p306 q306
        obtain rfl : ad305 = ad306 := (by injection e306)
        replace hx306_0 := (HB.out.cell (World.block_lt_of_cell? w _ hx306_0)).trans hx306_0
        replace hx306_1 := (HB.out.cell (World.block_lt_of_cell? w _ hx306_1)).trans hx306_1
        have HR306_0 := Aside0.mk hi306_0
        have HC306_0 := Aside0.mk hl306_0
        clear hi306_0 hl306_0
        have HR306_1 := Aside0.mk hi306_1
        have HC306_1 := Aside0.mk hl306_1
        clear hi306_1 hl306_1
        replace p306 := eq_true p306
        replace q306 := eq_true q306
        have ea_ := Option.some.inj (hx305_0.symm.trans hx306_0)
        injection ea_ with ea_ en_ ec_
        subst ea_
        subst ec_
        clear en_
        have ea_ := Option.some.inj (hx305_1.symm.trans hx306_1)
        injection ea_ with ea_ en_ ec_
        subst ea_
        subst ec_
        clear en_
        go_wp2_with (first | (go_at_call 47; (with_reducible refine (arlinkref06_Few.calls k1 _ _ ((rd_T50 l0 x3_1).f0) _ _ ((rd_T50 l0 x3_1).f1) false _ ?side1 ?side2 ?side3 ?side4 A6.out).mono ?_); (case side1 => repeat (first | exact (Kd.C_below HR306_0.out HB.out) | (with_reducible refine Kd.C_alloc ?_ _) | (with_reducible refine Kd.C_drewN ?_ _) | (with_reducible refine Kd.C_drew ?_))); (case side2 => exact HC306_0.out); (case side3 => repeat (first | exact (Kd.C_below HR306_1.out HB.out) | (with_reducible refine Kd.C_alloc ?_ _) | (with_reducible refine Kd.C_drewN ?_ _) | (with_reducible refine Kd.C_drew ?_))); (case side4 => exact HC306_1.out); rintro e w14 ⟨rfl, hb⟩; have n0_ := Aside0.mk (below_step (by repeat (first | (with_reducible first | exact HB.out | apply below_alloc | apply pw_below_drewN | apply below_drew1) | exact HB.out)) hb); clear HB; have HB := n0_; clear n0_; (try clear hb); (try clear hb2); (try clear hk); (try clear hi)))
        go_ret
        exact ⟨by first | rfl | (simp [errW_none, errW_some] <;> rfl) | (simp [*, errW_none, errW_some] <;> rfl), by repeat (first | (with_reducible first | exact HB.out | apply below_alloc | apply pw_below_drewN | apply below_drew1) | exact HB.out)⟩
     ·rw [if_neg c4] at H
      exact absurd H (by simp)
    ·rw [if_neg c3] at H
     have c3b0 : decide (x3_1 < (l0.length : Int)) = false := decide_eq_false c3
     clear c3
     obtain rfl := Option.some.inj H
     go_wp2
     go_ret
     exact ⟨by first | rfl | (simp [errW_none, errW_some] <;> rfl) | (simp [*, errW_none, errW_some] <;> rfl), by repeat (first | (with_reducible first | exact HB.out | apply below_alloc | apply pw_below_drewN | apply below_drew1) | exact HB.out)⟩
def arlinkref22_has.l0 : Nat → ByteArray → Int → Int → Int → List (S55) → List Int → Option (Bool)
 | 0, _, _, _, _, _, _ => none
 | k + 1, x1, x2, x3, x9, x311000, x311001 => if x9 < (x311000.length : Int) then (if 0 ≤ x9 then (if ((rd_T55 x311000 x9).f0).toList = x1.toList then (if ((rd_T55 x311000 x9).f1) = x2 then (some true) else (if ((rd_T55 x311000 x9).f1) = x3 then (some true) else (arlinkref22_has.l0 k x1 x2 x3 (wrap64 (x9 + 1)) x311000 x311001))) else (arlinkref22_has.l0 k x1 x2 x3 (wrap64 (x9 + 1)) x311000 x311001)) else (none)) else (some false)
def arlinkref22_has.f (k : Nat) (l0_0 : List (S55)) (l0_1 : List Int) (a1 : ByteArray) (a2 : Int) (a3 : Int) : Option (Bool) := arlinkref22_has.l0 k a1 a2 a3 0 l0_0 l0_1
set_option maxHeartbeats 8000000 in
set_option maxRecDepth 100000 in
theorem arlinkref22_has.calls (k : Nat) (A0_0 : Option Addr) (c0_0 : Nat) (l0_0 : List (S55)) (A0_1 : Option Addr) (c0_1 : Nat) (l0_1 : List Int) (a1 : ByteArray) (a2 : Int) (a3 : Int) (r : Bool) (w : World) (hr0_0 : Kd.C k55 w A0_0 l0_0.length l0_0) (hc0_0 : l0_0.length ≤ c0_0) (hr0_1 : Kd.C (Kd.int .u8) w A0_1 l0_1.length l0_1) (hc0_1 : l0_1.length ≤ c0_1) (h : arlinkref22_has.f k l0_0 l0_1 a1 a2 a3 = some r) :
  Calls Try.prog 54 #[.agg #[.slice A0_0 l0_0.length c0_0, .slice A0_1 l0_1.length c0_1], .string a1, .int .i64 a2, .int .i64 a3] w fun e w' => e = .returned (.bool r) ∧ Below w.heap.size w w' := by
 have hu50 := Try.underlying50
 have HR0_0 := Aside0.mk hr0_0
 have HC0_0 := Aside0.mk hc0_0
 clear hr0_0 hc0_0
 have HR0_1 := Aside0.mk hr0_1
 have HC0_1 := Aside0.mk hc0_1
 clear hr0_1 hc0_1
 have HB := Aside0.mk (Below.refl w.heap.size w)
 have H : (arlinkref22_has.l0 k a1 a2 a3 0 l0_0 l0_1) = some r := h
 clear h
 have H' := Aside0.mk H
 clear H
 go_enter Try.func54, Try.ntmps54
 go_wp2_with (first | ((with_reducible refine gate_dst (N := 4) rfl ?_); refine box_event ?hg (N := 4) ?hd (cs := #[.slice A0_0 l0_0.length c0_0, .slice A0_1 l0_1.length c0_1]) (t := 50) ?hr ?_; (case hd => rfl); (case hg => rfl); (case hr => first | (go_simp; done) | (go_simp; rfl)); intro gb310 hg w5 hbox hb; have n0_ := Aside0.mk (below_step (by repeat (first | (with_reducible first | exact HB.out | apply below_alloc | apply pw_below_drewN | apply below_drew1) | exact HB.out)) hb); have n1_ := Aside0.mk (hbox); have n2_ := Aside0.mk ((by rw [hg]; exact (below_size (by repeat (first | (with_reducible first | exact HB.out | apply below_alloc | apply pw_below_drewN | apply below_drew1) | exact HB.out))) : w.heap.size ≤ gb310)); have n3_ := Aside0.mk ((by rw [hg]; exact (below_size (by repeat (first | (with_reducible first | exact HB.out | apply below_alloc | apply pw_below_drewN | apply below_drew1) | exact HB.out))) : w.heap.size ≤ gb310)); clear HB; have HB := n0_; have BK310 := n1_; have GW310 := n2_; have GE310 := n3_; clear n0_ n1_ n2_ n3_; clear hb hbox hg))
 go_loopg [9] k (fun kq v9 w' => ∃ (x9_1 : Int), v9 = .int .i64 x9_1 ∧ Aside0 (arlinkref22_has.l0 kq a1 a2 a3 x9_1 l0_0 l0_1 = some r) ∧ Aside0 (kq ≤ k) ∧ Aside0 (w'.heap[gb310]? = some (.cells #[(.slice A0_0 l0_0.length c0_0), (.slice A0_1 l0_1.length c0_1)] 50 (0, 0))) ∧ Aside0 (Below w.heap.size w w'))
 case atStart => exact ⟨(0), (by first | rfl | (simp; done) | (simp [*]; done)), H', ⟨Nat.le_refl _⟩, ⟨by (with_reducible repeat (first | refine blk_drewN ?_ _ | refine blk_drew ?_ | refine blk_alloc ?_ _)); exact BK310.out⟩, ⟨by repeat (first | (with_reducible first | exact HB.out | apply below_alloc | apply pw_below_drewN | apply below_drew1 | refine below_set ?_ GE310.out) | exact HB.out)⟩⟩
 case round =>
  clear H'
  try clear p2
  try clear c5
  obtain ⟨x9_1, rfl, HA, HK1, BK310, HB⟩ := hrel
  cases gk with
  | zero => exact absurd HA.out (by simp [arlinkref22_has.l0])
  | succ k1 =>
   have H := HA.out
   clear HA
   simp only [arlinkref22_has.l0] at H
   by_cases c6 : x9_1 < (l0_0.length : Int)
   ·rw [if_pos c6] at H
    have c6b0 : decide (x9_1 < (l0_0.length : Int)) = true := decide_eq_true c6
    clear c6
    by_cases c7 : 0 ≤ x9_1
    ·rw [if_pos c7] at H
     have c7b0 : decide (0 ≤ x9_1) = true := decide_eq_true c7
     clear c7
     by_cases c8 : ((rd_T55 l0_0 x9_1).f0).toList = a1.toList
     ·rw [if_pos c8] at H
      have c8b0 : (((rd_T55 l0_0 x9_1).f0).toList == a1.toList) = true := beq_iff_eq.mpr c8
      have c8b1 : (((rd_T55 l0_0 x9_1).f0).toList != a1.toList) = false := bne_eq_false_iff_eq.mpr c8
      clear c8
      by_cases c9 : ((rd_T55 l0_0 x9_1).f1) = a2
      ·rw [if_pos c9] at H
       have c9b0 : (((rd_T55 l0_0 x9_1).f1) == a2) = true := beq_iff_eq.mpr c9
       have c9b1 : (((rd_T55 l0_0 x9_1).f1) != a2) = false := bne_eq_false_iff_eq.mpr c9
       clear c9
       obtain rfl := Option.some.inj H
       have hcz10_0 : wr.cell? ⟨gb310, 0, none⟩ = some (.slice A0_0 l0_0.length c0_0) := (blk_cell BK310.out 0).trans rfl
       have hcz10_1 : wr.cell? ⟨gb310, 1, none⟩ = some (.slice A0_1 l0_1.length c0_1) := (blk_cell BK310.out 1).trans rfl
       have hfz10_0 := blk_frozen BK310.out 0
       have hfz10_1 := blk_frozen BK310.out 1
       have p311 : 0 ≤ (x9_1 : Int) := of_decide_eq_true (by first | (with_reducible assumption) | assumption)
       have q311 : x9_1 < (l0_0.length : Int) := of_decide_eq_true (by first | (with_reducible assumption) | assumption)
       obtain ⟨ad311, e311, hx311_0, hx311_1, hx311_2, hx311_3⟩ := at_T55 HR0_0.out x9_1 p311 q311
       cases e311
       replace hx311_0 := (HB.out.cell (World.block_lt_of_cell? w _ hx311_0)).trans hx311_0
       replace hx311_1 := (HB.out.cell (World.block_lt_of_cell? w _ hx311_1)).trans hx311_1
       replace hx311_2 := (HB.out.cell (World.block_lt_of_cell? w _ hx311_2)).trans hx311_2
       replace hx311_3 := (HB.out.cell (World.block_lt_of_cell? w _ hx311_3)).trans hx311_3
       replace p311 := eq_true p311
       replace q311 := eq_true q311
       have p312 : 0 ≤ (x9_1 : Int) := of_decide_eq_true (by first | (with_reducible assumption) | assumption)
       have q312 : x9_1 < (l0_0.length : Int) := of_decide_eq_true (by first | (with_reducible assumption) | assumption)
       obtain ⟨ad312, e312, hx312_0, hx312_1, hx312_2, hx312_3⟩ := at_T55 HR0_0.out x9_1 p312 q312
       obtain rfl : ad311 = ad312 := (by injection e312)
       replace hx312_0 := (HB.out.cell (World.block_lt_of_cell? w _ hx312_0)).trans hx312_0
       replace hx312_1 := (HB.out.cell (World.block_lt_of_cell? w _ hx312_1)).trans hx312_1
       replace hx312_2 := (HB.out.cell (World.block_lt_of_cell? w _ hx312_2)).trans hx312_2
       replace hx312_3 := (HB.out.cell (World.block_lt_of_cell? w _ hx312_3)).trans hx312_3
       replace p312 := eq_true p312
       replace q312 := eq_true q312
       go_wp2
       go_ret
       exact ⟨by first | rfl | (simp [errW_none, errW_some] <;> rfl) | (simp [*, errW_none, errW_some] <;> rfl), by repeat (first | (with_reducible first | exact HB.out | apply below_alloc | apply pw_below_drewN | apply below_drew1 | refine below_set ?_ GE310.out) | exact HB.out)⟩
      ·rw [if_neg c9] at H
       have c9b0 : (((rd_T55 l0_0 x9_1).f1) == a2) = false := beq_eq_false_iff_ne.mpr c9
       have c9b1 : (((rd_T55 l0_0 x9_1).f1) != a2) = true := bne_iff_ne.mpr c9
       by_cases c11 : ((rd_T55 l0_0 x9_1).f1) = a3
       ·rw [if_pos c11] at H
        have c11b0 : (((rd_T55 l0_0 x9_1).f1) == a3) = true := beq_iff_eq.mpr c11
        have c11b1 : (((rd_T55 l0_0 x9_1).f1) != a3) = false := bne_eq_false_iff_eq.mpr c11
        clear c11
        obtain rfl := Option.some.inj H
        have hcz12_0 : wr.cell? ⟨gb310, 0, none⟩ = some (.slice A0_0 l0_0.length c0_0) := (blk_cell BK310.out 0).trans rfl
        have hcz12_1 : wr.cell? ⟨gb310, 1, none⟩ = some (.slice A0_1 l0_1.length c0_1) := (blk_cell BK310.out 1).trans rfl
        have hfz12_0 := blk_frozen BK310.out 0
        have hfz12_1 := blk_frozen BK310.out 1
        have p311 : 0 ≤ (x9_1 : Int) := of_decide_eq_true (by first | (with_reducible assumption) | assumption)
        have q311 : x9_1 < (l0_0.length : Int) := of_decide_eq_true (by first | (with_reducible assumption) | assumption)
        obtain ⟨ad311, e311, hx311_0, hx311_1, hx311_2, hx311_3⟩ := at_T55 HR0_0.out x9_1 p311 q311
        cases e311
        replace hx311_0 := (HB.out.cell (World.block_lt_of_cell? w _ hx311_0)).trans hx311_0
        replace hx311_1 := (HB.out.cell (World.block_lt_of_cell? w _ hx311_1)).trans hx311_1
        replace hx311_2 := (HB.out.cell (World.block_lt_of_cell? w _ hx311_2)).trans hx311_2
        replace hx311_3 := (HB.out.cell (World.block_lt_of_cell? w _ hx311_3)).trans hx311_3
        replace p311 := eq_true p311
        replace q311 := eq_true q311
        have p312 : 0 ≤ (x9_1 : Int) := of_decide_eq_true (by first | (with_reducible assumption) | assumption)
        have q312 : x9_1 < (l0_0.length : Int) := of_decide_eq_true (by first | (with_reducible assumption) | assumption)
        obtain ⟨ad312, e312, hx312_0, hx312_1, hx312_2, hx312_3⟩ := at_T55 HR0_0.out x9_1 p312 q312
        obtain rfl : ad311 = ad312 := (by injection e312)
        replace hx312_0 := (HB.out.cell (World.block_lt_of_cell? w _ hx312_0)).trans hx312_0
        replace hx312_1 := (HB.out.cell (World.block_lt_of_cell? w _ hx312_1)).trans hx312_1
        replace hx312_2 := (HB.out.cell (World.block_lt_of_cell? w _ hx312_2)).trans hx312_2
        replace hx312_3 := (HB.out.cell (World.block_lt_of_cell? w _ hx312_3)).trans hx312_3
        replace p312 := eq_true p312
        replace q312 := eq_true q312
        have p313 : 0 ≤ (x9_1 : Int) := of_decide_eq_true (by first | (with_reducible assumption) | assumption)
        have q313 : x9_1 < (l0_0.length : Int) := of_decide_eq_true (by first | (with_reducible assumption) | assumption)
        obtain ⟨ad313, e313, hx313_0, hx313_1, hx313_2, hx313_3⟩ := at_T55 HR0_0.out x9_1 p313 q313
        obtain rfl : ad311 = ad313 := (by injection e313)
        replace hx313_0 := (HB.out.cell (World.block_lt_of_cell? w _ hx313_0)).trans hx313_0
        replace hx313_1 := (HB.out.cell (World.block_lt_of_cell? w _ hx313_1)).trans hx313_1
        replace hx313_2 := (HB.out.cell (World.block_lt_of_cell? w _ hx313_2)).trans hx313_2
        replace hx313_3 := (HB.out.cell (World.block_lt_of_cell? w _ hx313_3)).trans hx313_3
        replace p313 := eq_true p313
        replace q313 := eq_true q313
        go_wp2
        go_ret
        exact ⟨by first | rfl | (simp [errW_none, errW_some] <;> rfl) | (simp [*, errW_none, errW_some] <;> rfl), by repeat (first | (with_reducible first | exact HB.out | apply below_alloc | apply pw_below_drewN | apply below_drew1 | refine below_set ?_ GE310.out) | exact HB.out)⟩
       ·rw [if_neg c11] at H
        have c11b0 : (((rd_T55 l0_0 x9_1).f1) == a3) = false := beq_eq_false_iff_ne.mpr c11
        have c11b1 : (((rd_T55 l0_0 x9_1).f1) != a3) = true := bne_iff_ne.mpr c11
        have H' := Aside0.mk H
        clear H
        have hcz13_0 : wr.cell? ⟨gb310, 0, none⟩ = some (.slice A0_0 l0_0.length c0_0) := (blk_cell BK310.out 0).trans rfl
        have hcz13_1 : wr.cell? ⟨gb310, 1, none⟩ = some (.slice A0_1 l0_1.length c0_1) := (blk_cell BK310.out 1).trans rfl
        have hfz13_0 := blk_frozen BK310.out 0
        have hfz13_1 := blk_frozen BK310.out 1
        have p311 : 0 ≤ (x9_1 : Int) := of_decide_eq_true (by first | (with_reducible assumption) | assumption)
        have q311 : x9_1 < (l0_0.length : Int) := of_decide_eq_true (by first | (with_reducible assumption) | assumption)
        obtain ⟨ad311, e311, hx311_0, hx311_1, hx311_2, hx311_3⟩ := at_T55 HR0_0.out x9_1 p311 q311
        cases e311
        replace hx311_0 := (HB.out.cell (World.block_lt_of_cell? w _ hx311_0)).trans hx311_0
        replace hx311_1 := (HB.out.cell (World.block_lt_of_cell? w _ hx311_1)).trans hx311_1
        replace hx311_2 := (HB.out.cell (World.block_lt_of_cell? w _ hx311_2)).trans hx311_2
        replace hx311_3 := (HB.out.cell (World.block_lt_of_cell? w _ hx311_3)).trans hx311_3
        replace p311 := eq_true p311
        replace q311 := eq_true q311
        have p312 : 0 ≤ (x9_1 : Int) := of_decide_eq_true (by first | (with_reducible assumption) | assumption)
        have q312 : x9_1 < (l0_0.length : Int) := of_decide_eq_true (by first | (with_reducible assumption) | assumption)
        obtain ⟨ad312, e312, hx312_0, hx312_1, hx312_2, hx312_3⟩ := at_T55 HR0_0.out x9_1 p312 q312
        obtain rfl : ad311 = ad312 := (by injection e312)
        replace hx312_0 := (HB.out.cell (World.block_lt_of_cell? w _ hx312_0)).trans hx312_0
        replace hx312_1 := (HB.out.cell (World.block_lt_of_cell? w _ hx312_1)).trans hx312_1
        replace hx312_2 := (HB.out.cell (World.block_lt_of_cell? w _ hx312_2)).trans hx312_2
        replace hx312_3 := (HB.out.cell (World.block_lt_of_cell? w _ hx312_3)).trans hx312_3
        replace p312 := eq_true p312
        replace q312 := eq_true q312
        have p313 : 0 ≤ (x9_1 : Int) := of_decide_eq_true (by first | (with_reducible assumption) | assumption)
        have q313 : x9_1 < (l0_0.length : Int) := of_decide_eq_true (by first | (with_reducible assumption) | assumption)
        obtain ⟨ad313, e313, hx313_0, hx313_1, hx313_2, hx313_3⟩ := at_T55 HR0_0.out x9_1 p313 q313
        obtain rfl : ad311 = ad313 := (by injection e313)
        replace hx313_0 := (HB.out.cell (World.block_lt_of_cell? w _ hx313_0)).trans hx313_0
        replace hx313_1 := (HB.out.cell (World.block_lt_of_cell? w _ hx313_1)).trans hx313_1
        replace hx313_2 := (HB.out.cell (World.block_lt_of_cell? w _ hx313_2)).trans hx313_2
        replace hx313_3 := (HB.out.cell (World.block_lt_of_cell? w _ hx313_3)).trans hx313_3
        replace p313 := eq_true p313
        replace q313 := eq_true q313
        go_wp2
        go_roundg k1
        case measure => have := HK1.out; omega
        case rel => exact ⟨(wrap64 (x9_1 + 1)), (by first | rfl | (simp; done) | (simp [*]; done)), H', ⟨by have := HK1.out; omega⟩, ⟨by (with_reducible repeat (first | refine blk_drewN ?_ _ | refine blk_drew ?_ | refine blk_alloc ?_ _)); exact BK310.out⟩, ⟨by repeat (first | (with_reducible first | exact HB.out | apply below_alloc | apply pw_below_drewN | apply below_drew1 | refine below_set ?_ GE310.out) | exact HB.out)⟩⟩
     ·rw [if_neg c8] at H
      have c8b0 : (((rd_T55 l0_0 x9_1).f0).toList == a1.toList) = false := beq_eq_false_iff_ne.mpr c8
      have c8b1 : (((rd_T55 l0_0 x9_1).f0).toList != a1.toList) = true := bne_iff_ne.mpr c8
      have H' := Aside0.mk H
      clear H
      have hcz14_0 : wr.cell? ⟨gb310, 0, none⟩ = some (.slice A0_0 l0_0.length c0_0) := (blk_cell BK310.out 0).trans rfl
      have hcz14_1 : wr.cell? ⟨gb310, 1, none⟩ = some (.slice A0_1 l0_1.length c0_1) := (blk_cell BK310.out 1).trans rfl
      have hfz14_0 := blk_frozen BK310.out 0
      have hfz14_1 := blk_frozen BK310.out 1
      have p311 : 0 ≤ (x9_1 : Int) := of_decide_eq_true (by first | (with_reducible assumption) | assumption)
      have q311 : x9_1 < (l0_0.length : Int) := of_decide_eq_true (by first | (with_reducible assumption) | assumption)
      obtain ⟨ad311, e311, hx311_0, hx311_1, hx311_2, hx311_3⟩ := at_T55 HR0_0.out x9_1 p311 q311
      cases e311
      replace hx311_0 := (HB.out.cell (World.block_lt_of_cell? w _ hx311_0)).trans hx311_0
      replace hx311_1 := (HB.out.cell (World.block_lt_of_cell? w _ hx311_1)).trans hx311_1
      replace hx311_2 := (HB.out.cell (World.block_lt_of_cell? w _ hx311_2)).trans hx311_2
      replace hx311_3 := (HB.out.cell (World.block_lt_of_cell? w _ hx311_3)).trans hx311_3
      replace p311 := eq_true p311
      replace q311 := eq_true q311
      go_wp2
      go_roundg k1
      case measure => have := HK1.out; omega
      case rel => exact ⟨(wrap64 (x9_1 + 1)), (by first | rfl | (simp; done) | (simp [*]; done)), H', ⟨by have := HK1.out; omega⟩, ⟨by (with_reducible repeat (first | refine blk_drewN ?_ _ | refine blk_drew ?_ | refine blk_alloc ?_ _)); exact BK310.out⟩, ⟨by repeat (first | (with_reducible first | exact HB.out | apply below_alloc | apply pw_below_drewN | apply below_drew1 | refine below_set ?_ GE310.out) | exact HB.out)⟩⟩
    ·rw [if_neg c7] at H
     exact absurd H (by simp)
   ·rw [if_neg c6] at H
    have c6b0 : decide (x9_1 < (l0_0.length : Int)) = false := decide_eq_false c6
    clear c6
    obtain rfl := Option.some.inj H
    have hcz15_0 : wr.cell? ⟨gb310, 0, none⟩ = some (.slice A0_0 l0_0.length c0_0) := (blk_cell BK310.out 0).trans rfl
    have hcz15_1 : wr.cell? ⟨gb310, 1, none⟩ = some (.slice A0_1 l0_1.length c0_1) := (blk_cell BK310.out 1).trans rfl
    have hfz15_0 := blk_frozen BK310.out 0
    have hfz15_1 := blk_frozen BK310.out 1
    go_wp2
    go_ret
    exact ⟨by first | rfl | (simp [errW_none, errW_some] <;> rfl) | (simp [*, errW_none, errW_some] <;> rfl), by repeat (first | (with_reducible first | exact HB.out | apply below_alloc | apply pw_below_drewN | apply below_drew1 | refine below_set ?_ GE310.out) | exact HB.out)⟩
def arlinkref22_Provided.l0 : Nat → List (S50) → ByteArray → Int → Option (Bool)
 | 0, _, _, _ => none
 | k + 1, x0, x1, x5 => if x5 < (x0.length : Int) then (if 0 ≤ x5 then ((arlinkref22_has.f k ((rd_T50 x0 x5).f0) ((rd_T50 x0 x5).f1) x1 1 2).bind fun t315 => (if t315 = true then (some true) else (arlinkref22_Provided.l0 k x0 x1 (wrap64 (x5 + 1))))) else (none)) else (some false)
def arlinkref22_Provided.f (k : Nat) (l0 : List (S50)) (a1 : ByteArray) : Option (Bool) := arlinkref22_Provided.l0 k l0 a1 0
set_option maxHeartbeats 8000000 in
set_option maxRecDepth 100000 in
theorem arlinkref22_Provided.calls (k : Nat) (A0 : Option Addr) (c0 : Nat) (l0 : List (S50)) (a1 : ByteArray) (r : Bool) (w : World) (hr0 : Kd.C k50 w A0 l0.length l0) (hc0 : l0.length ≤ c0) (h : arlinkref22_Provided.f k l0 a1 = some r) :
  Calls Try.prog 55 #[.slice A0 l0.length c0, .string a1] w fun e w' => e = .returned (.bool r) ∧ Below w.heap.size w w' := by
 have hu50 := Try.underlying50
 have HR0 := Aside0.mk hr0
 have HC0 := Aside0.mk hc0
 clear hr0 hc0
 have HB := Aside0.mk (Below.refl w.heap.size w)
 have H : (arlinkref22_Provided.l0 k l0 a1 0) = some r := h
 clear h
 have H' := Aside0.mk H
 clear H
 go_enter Try.func55, Try.ntmps55
 go_wp2
 go_loopg [5] k (fun kq v5 w' => ∃ (x5_1 : Int), v5 = .int .i64 x5_1 ∧ Aside0 (arlinkref22_Provided.l0 kq l0 a1 x5_1 = some r) ∧ Aside0 (kq ≤ k) ∧ Aside0 (Below w.heap.size w w'))
 case atStart => exact ⟨(0), (by first | rfl | (simp; done) | (simp [*]; done)), H', ⟨Nat.le_refl _⟩, ⟨by repeat (first | (with_reducible first | exact HB.out | apply below_alloc | apply pw_below_drewN | apply below_drew1) | exact HB.out)⟩⟩
 case round =>
  clear H'
  try clear p2
  obtain ⟨x5_1, rfl, HA, HK1, HB⟩ := hrel
  cases gk with
  | zero => exact absurd HA.out (by simp [arlinkref22_Provided.l0])
  | succ k1 =>
   have H := HA.out
   clear HA
   simp only [arlinkref22_Provided.l0] at H
   by_cases c3 : x5_1 < (l0.length : Int)
   ·rw [if_pos c3] at H
    have c3b0 : decide (x5_1 < (l0.length : Int)) = true := decide_eq_true c3
    clear c3
    by_cases c4 : 0 ≤ x5_1
    ·rw [if_pos c4] at H
     have c4b0 : decide (0 ≤ x5_1) = true := decide_eq_true c4
     clear c4
     replace H := Option.bind_eq_some_iff.mp H
     obtain ⟨t315, A50, H⟩ := H
     replace H : (if t315 = true then (some true) else (arlinkref22_Provided.l0 k1 l0 a1 (wrap64 (x5_1 + 1)))) = some r := H
     have A5 := Aside0.mk A50
     clear A50
     by_cases c6 : t315 = true
     ·subst c6
      have H1 : (some true) = some r := by rw [if_pos rfl] at H; exact H
      clear H
      have H := H1
      clear H1
      obtain rfl := Option.some.inj H
      have p314 : 0 ≤ (x5_1 : Int) := of_decide_eq_true (by first | (with_reducible assumption) | assumption)
      have q314 : x5_1 < (l0.length : Int) := of_decide_eq_true (by first | (with_reducible assumption) | assumption)
      obtain ⟨ad314, A314_0, c314_0, A314_1, c314_1, e314, hx314_0, hx314_1, hl314_0, hi314_0, hl314_1, hi314_1⟩ := at_T50 HR0.out x5_1 p314 q314
      cases e314
      replace hx314_0 := (HB.out.cell (World.block_lt_of_cell? w _ hx314_0)).trans hx314_0
      replace hx314_1 := (HB.out.cell (World.block_lt_of_cell? w _ hx314_1)).trans hx314_1
      have HR314_0 := Aside0.mk hi314_0
      have HC314_0 := Aside0.mk hl314_0
      clear hi314_0 hl314_0
      have HR314_1 := Aside0.mk hi314_1
      have HC314_1 := Aside0.mk hl314_1
      clear hi314_1 hl314_1
      replace p314 := eq_true p314
      replace q314 := eq_true q314
      go_wp2_with (first | ((with_reducible refine gate_callee (f := 54) rfl ?_); refine goesL_ (some 17) rfl rfl Try.func54 (by kernel_rfl) rfl #[.agg #[.slice A314_0 ((rd_T50 l0 x5_1).f0).length c314_0, .slice A314_1 ((rd_T50 l0 x5_1).f1).length c314_1], .string a1, .int .i64 1, .int .i64 2] rfl (by (try simp only [List.map_toArray, List.map_cons, List.map_nil]); first | done | rfl | (simp only [List.length_drop, List.length_take]; rfl)) ?_; (with_reducible refine (arlinkref22_has.calls k1 _ _ ((rd_T50 l0 x5_1).f0) _ _ ((rd_T50 l0 x5_1).f1) a1 1 2 true _ ?side1 ?side2 ?side3 ?side4 A5.out).mono ?_); (case side1 => repeat (first | exact (Kd.C_below HR314_0.out HB.out) | (with_reducible refine Kd.C_alloc ?_ _) | (with_reducible refine Kd.C_drewN ?_ _) | (with_reducible refine Kd.C_drew ?_))); (case side2 => exact HC314_0.out); (case side3 => repeat (first | exact (Kd.C_below HR314_1.out HB.out) | (with_reducible refine Kd.C_alloc ?_ _) | (with_reducible refine Kd.C_drewN ?_ _) | (with_reducible refine Kd.C_drew ?_))); (case side4 => exact HC314_1.out); rintro e w7 ⟨rfl, hb⟩; refine ⟨_, rfl, ?_⟩; have n0_ := Aside0.mk (below_step (by repeat (first | (with_reducible first | exact HB.out | apply below_alloc | apply pw_below_drewN | apply below_drew1) | exact HB.out)) hb); clear HB; have HB := n0_; clear n0_; (try clear hb); (try clear hb2); (try clear hk); (try clear hi)))
      go_ret
      exact ⟨by first | rfl | (simp [errW_none, errW_some] <;> rfl) | (simp [*, errW_none, errW_some] <;> rfl), by repeat (first | (with_reducible first | exact HB.out | apply below_alloc | apply pw_below_drewN | apply below_drew1) | exact HB.out)⟩
     ·replace c6 := Bool.eq_false_iff.mpr c6
      subst c6
      have H1 : (arlinkref22_Provided.l0 k1 l0 a1 (wrap64 (x5_1 + 1))) = some r := by rw [if_neg (show ¬ (false = true) by decide)] at H; exact H
      clear H
      have H := H1
      clear H1
      have H' := Aside0.mk H
      clear H
      have p314 : 0 ≤ (x5_1 : Int) := of_decide_eq_true (by first | (with_reducible assumption) | assumption)
      have q314 : x5_1 < (l0.length : Int) := of_decide_eq_true (by first | (with_reducible assumption) | assumption)
      obtain ⟨ad314, A314_0, c314_0, A314_1, c314_1, e314, hx314_0, hx314_1, hl314_0, hi314_0, hl314_1, hi314_1⟩ := at_T50 HR0.out x5_1 p314 q314
      cases e314
      replace hx314_0 := (HB.out.cell (World.block_lt_of_cell? w _ hx314_0)).trans hx314_0
      replace hx314_1 := (HB.out.cell (World.block_lt_of_cell? w _ hx314_1)).trans hx314_1
      have HR314_0 := Aside0.mk hi314_0
      have HC314_0 := Aside0.mk hl314_0
      clear hi314_0 hl314_0
      have HR314_1 := Aside0.mk hi314_1
      have HC314_1 := Aside0.mk hl314_1
      clear hi314_1 hl314_1
      replace p314 := eq_true p314
      replace q314 := eq_true q314
      go_wp2_with (first | ((with_reducible refine gate_callee (f := 54) rfl ?_); refine goesL_ (some 17) rfl rfl Try.func54 (by kernel_rfl) rfl #[.agg #[.slice A314_0 ((rd_T50 l0 x5_1).f0).length c314_0, .slice A314_1 ((rd_T50 l0 x5_1).f1).length c314_1], .string a1, .int .i64 1, .int .i64 2] rfl (by (try simp only [List.map_toArray, List.map_cons, List.map_nil]); first | done | rfl | (simp only [List.length_drop, List.length_take]; rfl)) ?_; (with_reducible refine (arlinkref22_has.calls k1 _ _ ((rd_T50 l0 x5_1).f0) _ _ ((rd_T50 l0 x5_1).f1) a1 1 2 false _ ?side1 ?side2 ?side3 ?side4 A5.out).mono ?_); (case side1 => repeat (first | exact (Kd.C_below HR314_0.out HB.out) | (with_reducible refine Kd.C_alloc ?_ _) | (with_reducible refine Kd.C_drewN ?_ _) | (with_reducible refine Kd.C_drew ?_))); (case side2 => exact HC314_0.out); (case side3 => repeat (first | exact (Kd.C_below HR314_1.out HB.out) | (with_reducible refine Kd.C_alloc ?_ _) | (with_reducible refine Kd.C_drewN ?_ _) | (with_reducible refine Kd.C_drew ?_))); (case side4 => exact HC314_1.out); rintro e w8 ⟨rfl, hb⟩; refine ⟨_, rfl, ?_⟩; have n0_ := Aside0.mk (below_step (by repeat (first | (with_reducible first | exact HB.out | apply below_alloc | apply pw_below_drewN | apply below_drew1) | exact HB.out)) hb); clear HB; have HB := n0_; clear n0_; (try clear hb); (try clear hb2); (try clear hk); (try clear hi)))
      go_roundg k1
      case measure => have := HK1.out; omega
      case rel => exact ⟨(wrap64 (x5_1 + 1)), (by first | rfl | (simp; done) | (simp [*]; done)), H', ⟨by have := HK1.out; omega⟩, ⟨by repeat (first | (with_reducible first | exact HB.out | apply below_alloc | apply pw_below_drewN | apply below_drew1) | exact HB.out)⟩⟩
    ·rw [if_neg c4] at H
     exact absurd H (by simp)
   ·rw [if_neg c3] at H
    have c3b0 : decide (x5_1 < (l0.length : Int)) = false := decide_eq_false c3
    clear c3
    obtain rfl := Option.some.inj H
    go_wp2
    go_ret
    exact ⟨by first | rfl | (simp [errW_none, errW_some] <;> rfl) | (simp [*, errW_none, errW_some] <;> rfl), by repeat (first | (with_reducible first | exact HB.out | apply below_alloc | apply pw_below_drewN | apply below_drew1) | exact HB.out)⟩
end Go.Proofs.Ythpjpkcfepmhkaa.PAll
namespace Go.Proofs.Ythpjpkcfepmhkaa.PAll
open Go.RowKit Go.Proofs.YthpjpkcfepmhkaaW.PrintWords Go.Proofs.YthpjpkcfepmhkaaW.PrintLast Go.Proofs.YthpjpkcfepmhkaaW.PrintMore
set_option linter.unusedVariables false
set_option linter.unusedSimpArgs false
theorem name_eq (a b : ByteArray) : a.toList = b.toList ↔ a = b := by
  rw [ByteArray.toList_eq, ByteArray.toList_eq]
  constructor
  · intro h
    obtain ⟨⟨a⟩⟩ := a
    obtain ⟨⟨b⟩⟩ := b
    have h : a = b := h
    rw [h]
  · rintro rfl; rfl
theorem wrS {x : Int} (h0 : -4611686018427387904 ≤ x) (h1 : x ≤ 4611686018427387904) : wrap64 x = x := by unfold wrap64; omega
theorem wrN (i : Nat) (h : i ≤ 1099511627776) : wrap64 ((i : Int) + 1) = ((i + 1 : Nat) : Int) := by rw [wrS (by omega) (by omega)]; omega
theorem rd55 {l : List S55} {i : Nat} (h : i < l.length) : rd_T55 l (i : Int) = l[i] := by
  unfold rd_T55
  rw [Int.toNat_natCast, List.getD_eq_getElem?_getD, List.getElem?_eq_getElem h]; rfl
theorem any_drop {α : Type} (p : α → Bool) (l : List α) (i : Nat) (h : i < l.length) : (l.drop i).any p = (p l[i] || (l.drop (i + 1)).any p) := by
  rw [List.drop_eq_getElem_cons h, List.any_cons]
def hasB (l : List S55) (a : ByteArray) (x y : Int) : Bool := l.any fun s => decide (s.f0 = a) && (s.f1 == x || s.f1 == y)
theorem has_loopC (l : List S55) (l1 : List Int) (a : ByteArray) (x y : Int) (hl : l.length ≤ 1099511627776) : ∀ (d i : Nat), i + d = l.length → Ev (fun k => arlinkref22_has.l0 k a x y (i : Int) l l1) (hasB (l.drop i) a x y)
  | 0, i, h => by
    rw [List.drop_of_length_le (by omega)]
    exact Ev.step (f := fun _ => some false) (fun k => by simp only [arlinkref22_has.l0]; rw [if_neg (by omega)]) (Ev.now _)
  | d + 1, i, h => by
    have hi : i < l.length := by omega
    have ih := has_loopC l l1 a x y hl d (i + 1) (by omega)
    unfold hasB at ih ⊢
    rw [any_drop _ _ _ hi]
    obtain ⟨z, hz⟩ : ∃ z, l[i] = z := ⟨_, rfl⟩
    have hr : rd_T55 l (i : Int) = z := by rw [rd55 hi, hz]
    rw [hz]
    by_cases c1 : z.f0 = a
    · rw [decide_eq_true c1, Bool.true_and]
      by_cases c2 : z.f1 = x
      · rw [beq_iff_eq.mpr c2, Bool.true_or, Bool.true_or]
        exact Ev.step (f := fun _ => some true) (fun k => by simp only [arlinkref22_has.l0]; rw [if_pos (by omega), if_pos (by omega), hr, if_pos ((name_eq _ _).2 c1), if_pos c2]) (Ev.now _)
      · rw [beq_eq_false_iff_ne.mpr c2, Bool.false_or]
        by_cases c3 : z.f1 = y
        · rw [beq_iff_eq.mpr c3, Bool.true_or]
          exact Ev.step (f := fun _ => some true) (fun k => by simp only [arlinkref22_has.l0]; rw [if_pos (by omega), if_pos (by omega), hr, if_pos ((name_eq _ _).2 c1), if_neg c2, if_pos c3]) (Ev.now _)
        · rw [beq_eq_false_iff_ne.mpr c3, Bool.false_or]
          exact Ev.step (f := fun k => arlinkref22_has.l0 k a x y ((i + 1 : Nat) : Int) l l1) (fun k => by simp only [arlinkref22_has.l0]; rw [if_pos (by omega), if_pos (by omega), hr, if_pos ((name_eq _ _).2 c1), if_neg c2, if_neg c3, wrN i (by omega)]) ih
    · rw [decide_eq_false c1, Bool.false_and, Bool.false_or]
      exact Ev.step (f := fun k => arlinkref22_has.l0 k a x y ((i + 1 : Nat) : Int) l l1) (fun k => by simp only [arlinkref22_has.l0]; rw [if_pos (by omega), if_pos (by omega), hr, if_neg (fun h => c1 ((name_eq _ _).1 h)), wrN i (by omega)]) ih
theorem has22_ev (l : List S55) (l1 : List Int) (a : ByteArray) (x y : Int) (hl : l.length ≤ 1099511627776) : Ev (fun k => arlinkref22_has.f k l l1 a x y) (hasB l a x y) := by
  have := has_loopC l l1 a x y hl l.length 0 (by omega)
  rwa [List.drop_zero] at this
theorem hasB_def {l : List S55} {a : ByteArray} : hasB l a 1 2 = true ↔ a ∈ namesOf defB l := by
  unfold hasB namesOf defB
  simp only [List.any_eq_true, Bool.and_eq_true, decide_eq_true_eq, List.mem_map, List.mem_filter]
  constructor
  · rintro ⟨s, h1, h2, h3⟩; exact ⟨s, ⟨h1, h3⟩, h2⟩
  · rintro ⟨s, ⟨h1, h3⟩, h2⟩; exact ⟨s, h1, h2, h3⟩
theorem hasB_ref {l : List S55} {a : ByteArray} : hasB l a 4 4 = true ↔ a ∈ namesOf refB l := by
  unfold hasB namesOf refB
  simp only [List.any_eq_true, Bool.and_eq_true, decide_eq_true_eq, List.mem_map, List.mem_filter, Bool.or_self]
  constructor
  · rintro ⟨s, h1, h2, h3⟩; exact ⟨s, ⟨h1, h3⟩, h2⟩
  · rintro ⟨s, ⟨h1, h3⟩, h2⟩; exact ⟨s, h1, h2, h3⟩
/-- Lists small enough for the loops. -/
def Slim (l : List S50) : Prop := l.length ≤ 1000000 ∧ ∀ o, o ∈ l → o.f0.length ≤ 1000000
theorem provided_loop (os : List S50) (a : ByteArray) (hs : Slim os) : ∀ (d i : Nat), i + d = os.length → Ev (fun k => arlinkref22_Provided.l0 k os a (i : Int)) ((os.drop i).any fun o => hasB o.f0 a 1 2)
  | 0, i, h => by
    rw [List.drop_of_length_le (by omega)]
    exact Ev.step (f := fun _ => some false) (fun k => by simp only [arlinkref22_Provided.l0]; rw [if_neg (by omega)]) (Ev.now _)
  | d + 1, i, h => by
    have hi : i < os.length := by omega
    have hl := hs.1
    have ih := provided_loop os a hs d (i + 1) (by omega)
    rw [any_drop _ _ _ hi]
    have hr : rd_T50 os (i : Int) = os[i] := rd50 hi
    have hh := has22_ev os[i].f0 os[i].f1 a 1 2 (by have := hs.2 _ (List.getElem_mem hi); omega)
    refine Ev.step (f := fun k => (arlinkref22_has.f k os[i].f0 os[i].f1 a 1 2).bind fun t => if t = true then some true else arlinkref22_Provided.l0 k os a ((i + 1 : Nat) : Int)) (fun k => by simp only [arlinkref22_Provided.l0]; rw [if_pos (by omega), if_pos (by omega), hr, wrN i (by omega)]) ?_
    refine Ev.bind hh ?_
    cases hasB os[i].f0 a 1 2 with
    | true => exact Ev.now _
    | false => exact Ev.congr (fun k => by rw [if_neg (by decide)]) ih
theorem prov_any (os : List S50) (a : ByteArray) : (os.any fun o => hasB o.f0 a 1 2) = decide (a ∈ provOf os) := by
  rw [Bool.eq_iff_iff]
  unfold provOf
  simp only [List.any_eq_true, decide_eq_true_eq, List.mem_flatMap, hasB_def]
theorem provided_ev (os : List S50) (a : ByteArray) (hs : Slim os) : Ev (fun k => arlinkref22_Provided.f k os a) (decide (a ∈ provOf os)) := by
  have := provided_loop os a hs os.length 0 (by omega)
  rwa [List.drop_zero, prov_any] at this
structure RightP (l : List S50) : Prop where
  len : l.length ≤ 12
  syms : ∀ o, o ∈ l → o.f0.length ≤ 20
  names : ∀ o, o ∈ l → ∀ s, s ∈ o.f0 → s.f0.size ≤ 255
  apart : ∀ o, o ∈ l → ∀ (i j : Nat) (hi : i < j) (hj : j < o.f0.length), o.f0[i].f0 ≠ o.f0[j].f0
theorem few_loop (l : List S55) (l1 : List Int) (hl : l.length ≤ 1000000) : ∀ (d i : Nat), i + d = l.length → ∃ b, Ev (fun k => arlinkref06_Few.l0 k (i : Int) l l1) b
  | 0, i, h => by
    refine ⟨_, Ev.step (f := fun k => arlinkref06_Few.j1 k (i : Int) false l l1) (fun k => by rw [arlinkref06_Few.l0, if_neg (by omega)]) (Ev.step (f := fun _ => if (l.length : Int) ≤ 60 then some (decide ((l1.length : Int) ≤ 1000)) else some false) (fun k => by rw [arlinkref06_Few.j1, if_neg (by decide)]) (r := if (l.length : Int) ≤ 60 then decide ((l1.length : Int) ≤ 1000) else false) ?_)⟩
    split
    · exact Ev.now _
    · exact Ev.now _
  | d + 1, i, h => by
    obtain ⟨b, hb⟩ := few_loop l l1 hl d (i + 1) (by omega)
    by_cases c : (i : Int) ≤ 60
    · by_cases c2 : (((rd_T55 l (i : Int)).f0).size : Int) > 300
      · exact ⟨false, Ev.step (f := fun k => arlinkref06_Few.j1 k (i : Int) true l l1) (fun k => by rw [arlinkref06_Few.l0, if_pos (by omega), decide_eq_true c]) (Ev.step (f := fun _ => some false) (fun k => by rw [arlinkref06_Few.j1, if_pos rfl, if_pos (by omega), if_pos (by omega), if_pos c2]) (Ev.now _))⟩
      · exact ⟨b, Ev.step (f := fun k => arlinkref06_Few.j1 k (i : Int) true l l1) (fun k => by rw [arlinkref06_Few.l0, if_pos (by omega), decide_eq_true c]) (Ev.step (f := fun k => arlinkref06_Few.l0 k ((i + 1 : Nat) : Int) l l1) (fun k => by rw [arlinkref06_Few.j1, if_pos rfl, if_pos (by omega), if_pos (by omega), if_neg c2, wrN i (by omega)]) hb)⟩
    · refine ⟨_, Ev.step (f := fun k => arlinkref06_Few.j1 k (i : Int) false l l1) (fun k => by rw [arlinkref06_Few.l0, if_pos (by omega), decide_eq_false c]) (Ev.step (f := fun _ => if (l.length : Int) ≤ 60 then some (decide ((l1.length : Int) ≤ 1000)) else some false) (fun k => by rw [arlinkref06_Few.j1, if_neg (by decide)]) (r := if (l.length : Int) ≤ 60 then decide ((l1.length : Int) ≤ 1000) else false) ?_)⟩
      split
      · exact Ev.now _
      · exact Ev.now _
theorem power_loop (a : Int) : ∀ (d : Nat) (x : Int), 1 ≤ x → x ≤ 131072 → (131072 - x).toNat ≤ d → ∃ b, Ev (fun k => arlinkref06_Power.l0 k a x) b
  | 0, x, h1, h2, h3 => ⟨false, Ev.step (f := fun _ => some false) (fun k => by rw [arlinkref06_Power.l0, if_neg (by omega)]) (Ev.now _)⟩
  | d + 1, x, h1, h2, h3 => by
    by_cases c : x ≤ 65536
    · by_cases c2 : x = a
      · exact ⟨true, Ev.step (f := fun _ => some true) (fun k => by rw [arlinkref06_Power.l0, if_pos c, if_pos c2]) (Ev.now _)⟩
      · obtain ⟨b, hb⟩ := power_loop a d (2 * x) (by omega) (by omega) (by omega)
        exact ⟨b, Ev.step (f := fun k => arlinkref06_Power.l0 k a (2 * x)) (fun k => by rw [arlinkref06_Power.l0, if_pos c, if_neg c2, wrS (by omega) (by omega)]) hb⟩
    · exact ⟨false, Ev.step (f := fun _ => some false) (fun k => by rw [arlinkref06_Power.l0, if_neg c]) (Ev.now _)⟩
theorem sym_loop (a : ByteArray) (x y z : Int) (ha : a.size ≤ 1000000) : ∀ (d i : Nat), i + d = a.size → ∃ b, Ev (fun k => arlinkref06_Sym.l0 k (i : Int) a x y z) b
  | 0, i, h => by
    obtain ⟨b, hb⟩ := power_loop z 131072 1 (by omega) (by omega) (by omega)
    have hpf : Ev (fun k => arlinkref06_Power.f k z) b := hb
    have hst : ∀ {r : Bool} {f : Nat → Option Bool}, (∀ k, (if x = 3 then ((arlinkref06_Power.f k z).bind fun t294 => (some t294)) else (if x = 4 then (if y = 0 then (some (z == 0)) else (some false)) else (if x = 5 then (if y = 0 then (some (z == 0)) else (some false)) else (if x = 1 then (some (z == 0)) else (if x = 2 then (some (z == 0)) else (some false)))))) = f k) → Ev f r → Ev (fun k => arlinkref06_Sym.l0 k (i : Int) a x y z) r := fun hf hr => Ev.step (fun k => by rw [arlinkref06_Sym.l0, if_neg (by omega)]; exact hf k) hr
    by_cases c3 : x = 3
    · exact ⟨b, hst (fun k => by rw [if_pos c3]) (Ev.bind hpf (Ev.now _))⟩
    · by_cases c4 : x = 4
      · by_cases cy : y = 0
        · exact ⟨_, hst (fun k => by rw [if_neg c3, if_pos c4, if_pos cy]) (Ev.now _)⟩
        · exact ⟨_, hst (fun k => by rw [if_neg c3, if_pos c4, if_neg cy]) (Ev.now _)⟩
      · by_cases c5 : x = 5
        · by_cases cy : y = 0
          · exact ⟨_, hst (fun k => by rw [if_neg c3, if_neg c4, if_pos c5, if_pos cy]) (Ev.now _)⟩
          · exact ⟨_, hst (fun k => by rw [if_neg c3, if_neg c4, if_pos c5, if_neg cy]) (Ev.now _)⟩
        · by_cases c1 : x = 1
          · exact ⟨_, hst (fun k => by rw [if_neg c3, if_neg c4, if_neg c5, if_pos c1]) (Ev.now _)⟩
          · by_cases c2 : x = 2
            · exact ⟨_, hst (fun k => by rw [if_neg c3, if_neg c4, if_neg c5, if_neg c1, if_pos c2]) (Ev.now _)⟩
            · exact ⟨_, hst (fun k => by rw [if_neg c3, if_neg c4, if_neg c5, if_neg c1, if_neg c2]) (Ev.now _)⟩
  | d + 1, i, h => by
    obtain ⟨b, hb⟩ := sym_loop a x y z ha d (i + 1) (by omega)
    by_cases c : bt a (i : Int) = 0
    · exact ⟨false, Ev.step (f := fun _ => some false) (fun k => by rw [arlinkref06_Sym.l0, if_pos (by omega), if_pos (by omega), if_pos c]) (Ev.now _)⟩
    · exact ⟨b, Ev.step (f := fun k => arlinkref06_Sym.l0 k ((i + 1 : Nat) : Int) a x y z) (fun k => by rw [arlinkref06_Sym.l0, if_pos (by omega), if_pos (by omega), if_neg c, wrN i (by omega)]) hb⟩
theorem sym_ev (a : ByteArray) (x y z : Int) : ∃ b, Ev (fun k => arlinkref06_Sym.f k a x y z) b ∧ (b = true → a.size ≤ 255) := by
  have hj : Ev (fun k => arlinkref06_Sym.j0 k true a x y z) false := Ev.step (f := fun _ => some false) (fun k => by rw [arlinkref06_Sym.j0, if_pos rfl]) (Ev.now _)
  unfold arlinkref06_Sym.f
  by_cases c1 : (a.size : Int) = 0
  · exact ⟨false, Ev.congr (fun k => by rw [if_pos c1]) hj, fun h => by cases h⟩
  · by_cases c2 : (a.size : Int) > 255
    · exact ⟨false, Ev.congr (fun k => by rw [if_neg c1, if_pos c2]) hj, fun h => by cases h⟩
    · by_cases c3 : y < 0
      · exact ⟨false, Ev.congr (fun k => by rw [if_neg c1, if_neg c2, if_pos c3]) hj, fun h => by cases h⟩
      · by_cases c4 : y > 4294967295
        · exact ⟨false, Ev.congr (f := fun k => arlinkref06_Sym.j0 k true a x y z) (fun k => by rw [if_neg c1, if_neg c2, if_neg c3, decide_eq_true c4]) hj, fun h => by cases h⟩
        · obtain ⟨b, hb⟩ := sym_loop a x y z (by omega) a.size 0 (by omega)
          exact ⟨b, Ev.congr (f := fun k => arlinkref06_Sym.j0 k false a x y z) (fun k => by rw [if_neg c1, if_neg c2, if_neg c3, decide_eq_false c4]) (Ev.step (f := fun k => arlinkref06_Sym.l0 k 0 a x y z) (fun k => by rw [arlinkref06_Sym.j0, if_neg (by decide)]) hb), fun _ => by omega⟩
theorem has06_loop (l : List S55) (a : ByteArray) (hl : l.length ≤ 1000000) : ∀ (d i : Nat), i + d = l.length → Ev (fun k => arlinkref06_has.l0 k l a (i : Int)) ((l.drop i).any fun s => decide (s.f0 = a))
  | 0, i, h => by
    rw [List.drop_of_length_le (by omega)]
    exact Ev.step (f := fun _ => some false) (fun k => by simp only [arlinkref06_has.l0]; rw [if_neg (by omega)]) (Ev.now _)
  | d + 1, i, h => by
    have hi : i < l.length := by omega
    have ih := has06_loop l a hl d (i + 1) (by omega)
    rw [any_drop _ _ _ hi]
    have hr : rd_T55 l (i : Int) = l[i] := rd55 hi
    by_cases c1 : l[i].f0 = a
    · rw [decide_eq_true c1, Bool.true_or]
      exact Ev.step (f := fun _ => some true) (fun k => by simp only [arlinkref06_has.l0]; rw [if_pos (by omega), if_pos (by omega), hr, if_pos ((name_eq _ _).2 c1)]) (Ev.now _)
    · rw [decide_eq_false c1, Bool.false_or]
      exact Ev.step (f := fun k => arlinkref06_has.l0 k l a ((i + 1 : Nat) : Int)) (fun k => by simp only [arlinkref06_has.l0]; rw [if_pos (by omega), if_pos (by omega), hr, if_neg (fun h => c1 ((name_eq _ _).1 h)), wrN i (by omega)]) ih
theorem has06_ev (l : List S55) (a : ByteArray) (hl : l.length ≤ 1000000) : Ev (fun k => arlinkref06_has.f k l a) (l.any fun s => decide (s.f0 = a)) := by
  have := has06_loop l a hl l.length 0 (by omega)
  rwa [List.drop_zero] at this
theorem valid_loop (l : List S55) (l1 : List Int) (hl : l.length ≤ 1000000) : ∀ (d i : Nat), i + d = l.length → ∃ b, Ev (fun k => arlinkref06_Valid.l0 k (i : Int) l l1) b ∧
    (b = true → ∀ (j : Nat) (hj : j < l.length), i ≤ j → l[j].f0.size ≤ 255 ∧ ∀ (q : Nat) (hq : q < j), l[q].f0 ≠ l[j].f0)
  | 0, i, h => ⟨_, Ev.step (f := fun _ => some (decide ((l.length : Int) ≤ 65536))) (fun k => by rw [arlinkref06_Valid.l0, if_neg (by omega)]) (Ev.now _), fun _ j hj hij => by omega⟩
  | d + 1, i, h => by
    have hi : i < l.length := by omega
    obtain ⟨b, hb, hb2⟩ := valid_loop l l1 hl d (i + 1) (by omega)
    have hr : rd_T55 l (i : Int) = l[i] := rd55 hi
    obtain ⟨c, hc, hc2⟩ := sym_ev l[i].f0 l[i].f1 l[i].f2 l[i].f3
    have hst : ∀ {r : Bool}, Ev (fun k => (arlinkref06_Sym.f k l[i].f0 l[i].f1 l[i].f2 l[i].f3).bind fun t298 => if t298 = true then (arlinkref06_has.f k (l.take i) l[i].f0).bind fun t304 => if t304 = true then some false else arlinkref06_Valid.l0 k ((i + 1 : Nat) : Int) l l1 else some false) r → Ev (fun k => arlinkref06_Valid.l0 k (i : Int) l l1) r := fun hr' =>
      Ev.step (fun k => by rw [arlinkref06_Valid.l0, if_pos (by omega), if_pos (by omega), hr, if_pos (by omega), wrN i (by omega), Int.toNat_natCast]) hr'
    cases c with
    | false => exact ⟨false, hst (Ev.bind hc (Ev.now _)), fun h => by cases h⟩
    | true =>
      have hh := has06_ev (l.take i) l[i].f0 (by rw [List.length_take]; omega)
      cases hb' : (l.take i).any (fun s => decide (s.f0 = l[i].f0)) with
      | true =>
        rw [hb'] at hh
        exact ⟨false, hst (Ev.bind hc (Ev.congr (fun k => by rw [if_pos rfl]) (Ev.bind hh (Ev.now _)))), fun h => by cases h⟩
      | false =>
        rw [hb'] at hh
        refine ⟨b, hst (Ev.bind hc (Ev.congr (fun k => by rw [if_pos rfl]) (Ev.bind hh (Ev.congr (fun k => by rw [if_neg (by decide)]) hb)))), fun h j hj hij => ?_⟩
        by_cases e : i = j
        · subst e
          refine ⟨hc2 rfl, fun q hq e2 => ?_⟩
          rw [List.any_eq_false] at hb'
          have hm : l[q] ∈ l.take i := by
            rw [List.mem_iff_getElem]
            exact ⟨q, by rw [List.length_take]; omega, by rw [List.getElem_take]⟩
          exact hb' _ hm (decide_eq_true e2)
        · exact hb2 h j hj (by omega)
theorem right_loop (l : List S50) (hl : l.length ≤ 12) : ∀ (d i : Nat), i + d = l.length → ∃ b, Ev (fun k => arlinkref14_Right.l0 k l (i : Int)) b ∧
    (b = true → ∀ (j : Nat) (hj : j < l.length), i ≤ j → l[j].f0.length ≤ 20 ∧ (∀ s, s ∈ l[j].f0 → s.f0.size ≤ 255) ∧ ∀ (p q : Nat) (hpq : p < q) (hq : q < l[j].f0.length), l[j].f0[p].f0 ≠ l[j].f0[q].f0)
  | 0, i, h => ⟨true, Ev.step (f := fun _ => some true) (fun k => by rw [arlinkref14_Right.l0, if_neg (by omega)]) (Ev.now _), fun _ j hj hij => by omega⟩
  | d + 1, i, h => by
    have hi : i < l.length := by omega
    obtain ⟨b, hb, hb2⟩ := right_loop l hl d (i + 1) (by omega)
    have hr : rd_T50 l (i : Int) = l[i] := rd50 hi
    by_cases c : ((l[i].f0).length : Int) > 20
    · exact ⟨false, Ev.step (f := fun _ => some false) (fun k => by rw [arlinkref14_Right.l0, if_pos (by omega), if_pos (by omega), hr, if_pos c]) (Ev.now _), fun h => by cases h⟩
    · obtain ⟨f, hf⟩ := few_loop l[i].f0 l[i].f1 (by omega) l[i].f0.length 0 (by omega)
      obtain ⟨v, hv, hv2⟩ := valid_loop l[i].f0 l[i].f1 (by omega) l[i].f0.length 0 (by omega)
      have hff : Ev (fun k => arlinkref06_Few.f k l[i].f0 l[i].f1) f := hf
      have hvf : Ev (fun k => arlinkref06_Valid.f k l[i].f0 l[i].f1) v := hv
      have hst : ∀ {r : Bool}, Ev (fun k => (arlinkref06_Few.f k l[i].f0 l[i].f1).bind fun t307 => if t307 = true then (arlinkref06_Valid.f k l[i].f0 l[i].f1).bind fun t309 => if t309 = true then arlinkref14_Right.l0 k l ((i + 1 : Nat) : Int) else some false else some false) r → Ev (fun k => arlinkref14_Right.l0 k l (i : Int)) r := fun hr' =>
        Ev.step (fun k => by rw [arlinkref14_Right.l0, if_pos (by omega), if_pos (by omega), hr, if_neg c, wrN i (by omega)]) hr'
      cases f with
      | false => exact ⟨false, hst (Ev.bind hff (Ev.now _)), fun h => by cases h⟩
      | true =>
        cases v with
        | false => exact ⟨false, hst (Ev.bind hff (Ev.congr (f := fun k => (arlinkref06_Valid.f k l[i].f0 l[i].f1).bind fun t309 => if t309 = true then arlinkref14_Right.l0 k l ((i + 1 : Nat) : Int) else some false) (fun k => by rw [if_pos rfl]) (Ev.bind hvf (Ev.now _)))), fun h => by cases h⟩
        | true =>
          refine ⟨b, hst (Ev.bind hff (Ev.congr (fun k => by rw [if_pos rfl]) (Ev.bind hvf (Ev.congr (fun k => by rw [if_pos rfl]) hb)))), fun h j hj hij => ?_⟩
          by_cases e : i = j
          · subst e
            refine ⟨by omega, fun s hs => ?_, fun p q hpq hq => (hv2 rfl q hq (by omega)).2 p hpq⟩
            obtain ⟨q, hq, rfl⟩ := List.getElem_of_mem hs
            exact (hv2 rfl q hq (by omega)).1
          · exact hb2 h j hj (by omega)
theorem right_ev (l : List S50) : ∃ b, Ev (fun k => arlinkref14_Right.f k l) b ∧ (b = true → RightP l) := by
  unfold arlinkref14_Right.f
  by_cases c : (l.length : Int) > 12
  · exact ⟨false, Ev.congr (fun k => by rw [if_pos c]) (Ev.now _), fun h => by cases h⟩
  · obtain ⟨b, hb, hb2⟩ := right_loop l (by omega) l.length 0 (by omega)
    refine ⟨b, Ev.congr (f := fun k => arlinkref14_Right.l0 k l ((0 : Nat) : Int)) (fun k => by rw [if_neg c]; rfl) hb, fun h => ⟨by omega, fun o ho => ?_, fun o ho => ?_, fun o ho => ?_⟩⟩
    all_goals
      obtain ⟨j, hj, rfl⟩ := List.getElem_of_mem ho
      obtain ⟨h1, h2, h3⟩ := hb2 h j hj (by omega)
    · exact h1
    · exact h2
    · exact fun p q hpq hq => h3 p q hpq hq
theorem RightP.slim {l : List S50} (h : RightP l) : Slim l := ⟨by have := h.len; omega, fun o ho => by have := h.syms o ho; omega⟩
theorem RightP.small {l : List S50} (h : RightP l) : smallL l = true := smallL_iff.2 ⟨by have := h.len; omega, fun o ho => ⟨by have := h.syms o ho; omega, fun s hs => by have := h.names o ho s hs; omega⟩⟩
end Go.Proofs.Ythpjpkcfepmhkaa.PAll
namespace Go.Proofs.Ythpjpkcfepmhkaa.PAll
open Go.RowKit Go.Proofs.YthpjpkcfepmhkaaW.PrintWords Go.Proofs.YthpjpkcfepmhkaaW.PrintLast Go.Proofs.YthpjpkcfepmhkaaW.PrintMore
attribute [local go_sem] max2_int min2_int max_two min_two max_three min_three max_four min_four   -- for this text's walks alone
set_option linter.unusedVariables false
set_option linter.unusedSimpArgs false
def arlinkref22_Leads.l0 : Nat → List (S50) → Int → List (S55) → List Int → List (S55) → List Int → Option (Bool)
 | 0, _, _, _, _, _, _ => none
 | k + 1, x0, x7, x317000, x317001, x318000, x318001 => if x7 < (x318000.length : Int) then (if 0 ≤ x7 then (if ((rd_T55 x318000 x7).f1) = 1 then ((arlinkref22_has.f k x317000 x317001 ((rd_T55 x318000 x7).f0) 4 4).bind fun t320 => (if t320 = true then ((arlinkref22_Provided.f k x0 ((rd_T55 x318000 x7).f0)).bind fun t321 => (if t321 = true then (arlinkref22_Leads.l0 k x0 (wrap64 (x7 + 1)) x317000 x317001 x318000 x318001) else (some true))) else (arlinkref22_Leads.l0 k x0 (wrap64 (x7 + 1)) x317000 x317001 x318000 x318001))) else (if ((rd_T55 x318000 x7).f1) = 2 then ((arlinkref22_has.f k x317000 x317001 ((rd_T55 x318000 x7).f0) 4 4).bind fun t322 => (if t322 = true then ((arlinkref22_Provided.f k x0 ((rd_T55 x318000 x7).f0)).bind fun t323 => (if t323 = true then (arlinkref22_Leads.l0 k x0 (wrap64 (x7 + 1)) x317000 x317001 x318000 x318001) else (some true))) else (arlinkref22_Leads.l0 k x0 (wrap64 (x7 + 1)) x317000 x317001 x318000 x318001))) else (arlinkref22_Leads.l0 k x0 (wrap64 (x7 + 1)) x317000 x317001 x318000 x318001))) else (none)) else (some false)
def arlinkref22_Leads.f (k : Nat) (l0 : List (S50)) (l1_0 : List (S55)) (l1_1 : List Int) (l2_0 : List (S55)) (l2_1 : List Int) : Option (Bool) := arlinkref22_Leads.l0 k l0 0 l1_0 l1_1 l2_0 l2_1
set_option maxHeartbeats 8000000 in
set_option maxRecDepth 100000 in
theorem arlinkref22_Leads.calls (k : Nat) (A0 : Option Addr) (c0 : Nat) (l0 : List (S50)) (A1_0 : Option Addr) (c1_0 : Nat) (l1_0 : List (S55)) (A1_1 : Option Addr) (c1_1 : Nat) (l1_1 : List Int) (A2_0 : Option Addr) (c2_0 : Nat) (l2_0 : List (S55)) (A2_1 : Option Addr) (c2_1 : Nat) (l2_1 : List Int) (r : Bool) (w : World) (hr0 : Kd.C k50 w A0 l0.length l0) (hc0 : l0.length ≤ c0) (hr1_0 : Kd.C k55 w A1_0 l1_0.length l1_0) (hc1_0 : l1_0.length ≤ c1_0) (hr1_1 : Kd.C (Kd.int .u8) w A1_1 l1_1.length l1_1) (hc1_1 : l1_1.length ≤ c1_1) (hr2_0 : Kd.C k55 w A2_0 l2_0.length l2_0) (hc2_0 : l2_0.length ≤ c2_0) (hr2_1 : Kd.C (Kd.int .u8) w A2_1 l2_1.length l2_1) (hc2_1 : l2_1.length ≤ c2_1) (h : arlinkref22_Leads.f k l0 l1_0 l1_1 l2_0 l2_1 = some r) :
  Calls Try.prog 28 #[.slice A0 l0.length c0, .agg #[.slice A1_0 l1_0.length c1_0, .slice A1_1 l1_1.length c1_1], .agg #[.slice A2_0 l2_0.length c2_0, .slice A2_1 l2_1.length c2_1]] w fun e w' => e = .returned (.bool r) ∧ Below w.heap.size w w' := by
 have hu50 := Try.underlying50
 have hu55 := Try.underlying55
 have HR0 := Aside0.mk hr0
 have HC0 := Aside0.mk hc0
 clear hr0 hc0
 have HR1_0 := Aside0.mk hr1_0
 have HC1_0 := Aside0.mk hc1_0
 clear hr1_0 hc1_0
 have HR1_1 := Aside0.mk hr1_1
 have HC1_1 := Aside0.mk hc1_1
 clear hr1_1 hc1_1
 have HR2_0 := Aside0.mk hr2_0
 have HC2_0 := Aside0.mk hc2_0
 clear hr2_0 hc2_0
 have HR2_1 := Aside0.mk hr2_1
 have HC2_1 := Aside0.mk hc2_1
 clear hr2_1 hc2_1
 have HB := Aside0.mk (Below.refl w.heap.size w)
 have H : (arlinkref22_Leads.l0 k l0 0 l1_0 l1_1 l2_0 l2_1) = some r := h
 clear h
 have H' := Aside0.mk H
 clear H
 go_enter Try.func28, Try.ntmps28
 go_wp2_with (first | ((with_reducible refine gate_dst (N := 4) rfl ?_); refine box_event ?hg (N := 4) ?hd (cs := #[.slice A1_0 l1_0.length c1_0, .slice A1_1 l1_1.length c1_1]) (t := 50) ?hr ?_; (case hd => rfl); (case hg => rfl); (case hr => first | (go_simp; done) | (go_simp; rfl)); intro gb316 hg w4 hbox hb; have n0_ := Aside0.mk (below_step (by repeat (first | (with_reducible first | exact HB.out | apply below_alloc | apply pw_below_drewN | apply below_drew1) | exact HB.out)) hb); have n1_ := Aside0.mk (hbox); have n2_ := Aside0.mk ((by rw [hg]; exact (below_size (by repeat (first | (with_reducible first | exact HB.out | apply below_alloc | apply pw_below_drewN | apply below_drew1) | exact HB.out))) : w.heap.size ≤ gb316)); have n3_ := Aside0.mk ((by rw [hg]; exact (below_size (by repeat (first | (with_reducible first | exact HB.out | apply below_alloc | apply pw_below_drewN | apply below_drew1) | exact HB.out))) : w.heap.size ≤ gb316)); clear HB; have HB := n0_; have BK316 := n1_; have GW316 := n2_; have GE316 := n3_; clear n0_ n1_ n2_ n3_; clear hb hbox hg) | ((with_reducible refine gate_dst (N := 5) rfl ?_); refine box_event ?hg (N := 5) ?hd (cs := #[.slice A2_0 l2_0.length c2_0, .slice A2_1 l2_1.length c2_1]) (t := 50) ?hr ?_; (case hd => rfl); (case hg => rfl); (case hr => first | (go_simp; done) | (go_simp; rfl)); intro gb317 hg w5 hbox hb; have n0_ := Aside0.mk (blk_below (g := gb316) (o := .cells #[.slice A1_0 l1_0.length c1_0, .slice A1_1 l1_1.length c1_1] 50 (0, 0)) (by (with_reducible repeat (first | refine blk_drewN ?_ _ | refine blk_drew ?_ | refine blk_alloc ?_ _)); exact BK316.out) hb); have n1_ := Aside0.mk (below_step (by repeat (first | (with_reducible first | exact HB.out | apply below_alloc | apply pw_below_drewN | apply below_drew1 | refine below_set ?_ GE316.out) | exact HB.out)) hb); have n2_ := Aside0.mk (hbox); have n3_ := Aside0.mk ((by rw [hg]; exact (below_size (by repeat (first | (with_reducible first | exact HB.out | apply below_alloc | apply pw_below_drewN | apply below_drew1 | refine below_set ?_ GE316.out) | exact HB.out))) : w.heap.size ≤ gb317)); have n4_ := Aside0.mk ((by rw [hg]; exact (below_size (by repeat (first | (with_reducible first | exact HB.out | apply below_alloc | apply pw_below_drewN | apply below_drew1 | refine below_set ?_ GE316.out) | exact HB.out))) : w.heap.size ≤ gb317)); have n5_ := Aside0.mk ((by rw [hg]; exact Nat.ne_of_lt (blk_lt (g := gb316) (o := .cells #[.slice A1_0 l1_0.length c1_0, .slice A1_1 l1_1.length c1_1] 50 (0, 0)) (by (with_reducible repeat (first | refine blk_drewN ?_ _ | refine blk_drew ?_ | refine blk_alloc ?_ _)); exact BK316.out)) : gb316 ≠ gb317)); have n6_ := Aside0.mk ((by rw [hg]; exact Nat.ne_of_gt (blk_lt (g := gb316) (o := .cells #[.slice A1_0 l1_0.length c1_0, .slice A1_1 l1_1.length c1_1] 50 (0, 0)) (by (with_reducible repeat (first | refine blk_drewN ?_ _ | refine blk_drew ?_ | refine blk_alloc ?_ _)); exact BK316.out)) : gb317 ≠ gb316)); clear BK316; clear HB; have BK316 := n0_; have HB := n1_; have BK317 := n2_; have GW317 := n3_; have GE317 := n4_; have NB316_317 := n5_; have NB317_316 := n6_; clear n0_ n1_ n2_ n3_ n4_ n5_ n6_; clear hb hbox hg))
 go_loopg [7] k (fun kq v7 w' => ∃ (x7_1 : Int), v7 = .int .i64 x7_1 ∧ Aside0 (arlinkref22_Leads.l0 kq l0 x7_1 l1_0 l1_1 l2_0 l2_1 = some r) ∧ Aside0 (kq ≤ k) ∧ Aside0 (w'.heap[gb316]? = some (.cells #[(.slice A1_0 l1_0.length c1_0), (.slice A1_1 l1_1.length c1_1)] 50 (0, 0))) ∧ Aside0 (w'.heap[gb317]? = some (.cells #[(.slice A2_0 l2_0.length c2_0), (.slice A2_1 l2_1.length c2_1)] 50 (0, 0))) ∧ Aside0 (Below w.heap.size w w'))
 case atStart => exact ⟨(0), (by first | rfl | (simp; done) | (simp [*]; done)), H', ⟨Nat.le_refl _⟩, ⟨by (with_reducible repeat (first | refine blk_drewN ?_ _ | refine blk_drew ?_ | refine blk_alloc ?_ _)); exact BK316.out⟩, ⟨by (with_reducible repeat (first | refine blk_drewN ?_ _ | refine blk_drew ?_ | refine blk_alloc ?_ _)); exact BK317.out⟩, ⟨by repeat (first | (with_reducible first | exact HB.out | apply below_alloc | apply pw_below_drewN | apply below_drew1 | refine below_set ?_ GE316.out | refine below_set ?_ GE317.out) | exact HB.out)⟩⟩
 case round =>
  clear H'
  try clear c1
  try clear c2
  try clear p2
  obtain ⟨x7_1, rfl, HA, HK1, BK316, BK317, HB⟩ := hrel
  cases gk with
  | zero => exact absurd HA.out (by simp [arlinkref22_Leads.l0])
  | succ k1 =>
   have H := HA.out
   clear HA
   simp only [arlinkref22_Leads.l0] at H
   by_cases c6 : x7_1 < (l2_0.length : Int)
   ·rw [if_pos c6] at H
    have c6b0 : decide (x7_1 < (l2_0.length : Int)) = true := decide_eq_true c6
    clear c6
    by_cases c7 : 0 ≤ x7_1
    ·rw [if_pos c7] at H
     have c7b0 : decide (0 ≤ x7_1) = true := decide_eq_true c7
     clear c7
     by_cases c8 : ((rd_T55 l2_0 x7_1).f1) = 1
     ·rw [if_pos c8] at H
      have c8b0 : (((rd_T55 l2_0 x7_1).f1) == 1) = true := beq_iff_eq.mpr c8
      have c8b1 : (((rd_T55 l2_0 x7_1).f1) != 1) = false := bne_eq_false_iff_eq.mpr c8
      clear c8
      replace H := Option.bind_eq_some_iff.mp H
      obtain ⟨t320, A90, H⟩ := H
      replace H : (if t320 = true then ((arlinkref22_Provided.f k1 l0 ((rd_T55 l2_0 x7_1).f0)).bind fun t321 => (if t321 = true then (arlinkref22_Leads.l0 k1 l0 (wrap64 (x7_1 + 1)) l1_0 l1_1 l2_0 l2_1) else (some true))) else (arlinkref22_Leads.l0 k1 l0 (wrap64 (x7_1 + 1)) l1_0 l1_1 l2_0 l2_1)) = some r := H
      have A9 := Aside0.mk A90
      clear A90
      by_cases c10 : t320 = true
      ·subst c10
       have H1 : ((arlinkref22_Provided.f k1 l0 ((rd_T55 l2_0 x7_1).f0)).bind fun t321 => (if t321 = true then (arlinkref22_Leads.l0 k1 l0 (wrap64 (x7_1 + 1)) l1_0 l1_1 l2_0 l2_1) else (some true))) = some r := by rw [if_pos rfl] at H; exact H
       clear H
       have H := H1
       clear H1
       replace H := Option.bind_eq_some_iff.mp H
       obtain ⟨t321, A110, H⟩ := H
       replace H : (if t321 = true then (arlinkref22_Leads.l0 k1 l0 (wrap64 (x7_1 + 1)) l1_0 l1_1 l2_0 l2_1) else (some true)) = some r := H
       have A11 := Aside0.mk A110
       clear A110
       by_cases c12 : t321 = true
       ·subst c12
        have H1 : (arlinkref22_Leads.l0 k1 l0 (wrap64 (x7_1 + 1)) l1_0 l1_1 l2_0 l2_1) = some r := by rw [if_pos rfl] at H; exact H
        clear H
        have H := H1
        clear H1
        have H' := Aside0.mk H
        clear H
        have hnb13 := NB317_316.out
        have hnc13 := NB316_317.out
        have hcz14_0 : wr.cell? ⟨gb317, 0, none⟩ = some (.slice A2_0 l2_0.length c2_0) := (blk_cell BK317.out 0).trans rfl
        have hcz14_1 : wr.cell? ⟨gb317, 1, none⟩ = some (.slice A2_1 l2_1.length c2_1) := (blk_cell BK317.out 1).trans rfl
        have hfz14_0 := blk_frozen BK317.out 0
        have hfz14_1 := blk_frozen BK317.out 1
        have p318 : 0 ≤ (x7_1 : Int) := of_decide_eq_true (by first | (with_reducible assumption) | assumption)
        have q318 : x7_1 < (l2_0.length : Int) := of_decide_eq_true (by first | (with_reducible assumption) | assumption)
        obtain ⟨ad318, e318, hx318_0, hx318_1, hx318_2, hx318_3⟩ := at_T55 HR2_0.out x7_1 p318 q318
        cases e318
        replace hx318_0 := (HB.out.cell (World.block_lt_of_cell? w _ hx318_0)).trans hx318_0
        replace hx318_1 := (HB.out.cell (World.block_lt_of_cell? w _ hx318_1)).trans hx318_1
        replace hx318_2 := (HB.out.cell (World.block_lt_of_cell? w _ hx318_2)).trans hx318_2
        replace hx318_3 := (HB.out.cell (World.block_lt_of_cell? w _ hx318_3)).trans hx318_3
        replace p318 := eq_true p318
        replace q318 := eq_true q318
        go_wp2_with (first | ((with_reducible refine gate_dst (N := 8) rfl ?_); refine box_event ?hg (N := 8) ?hd (cs := #[.string (⟨#[]⟩ : ByteArray), .int .i64 0, .int .i64 0, .int .i64 0]) (t := 55) ?hr ?_; (case hd => rfl); (case hg => rfl); (case hr => first | (go_simp; done) | (go_simp; rfl)); intro gb319 hg w15 hbox hb; have n0_ := Aside0.mk (blk_below (g := gb316) (o := .cells #[.slice A1_0 l1_0.length c1_0, .slice A1_1 l1_1.length c1_1] 50 (0, 0)) (by (with_reducible repeat (first | refine blk_drewN ?_ _ | refine blk_drew ?_ | refine blk_alloc ?_ _)); exact BK316.out) hb); have n1_ := Aside0.mk (blk_below (g := gb317) (o := .cells #[.slice (some ad318) l2_0.length c2_0, .slice A2_1 l2_1.length c2_1] 50 (0, 0)) (by (with_reducible repeat (first | refine blk_drewN ?_ _ | refine blk_drew ?_ | refine blk_alloc ?_ _)); exact BK317.out) hb); have n2_ := Aside0.mk (below_step (by repeat (first | (with_reducible first | exact HB.out | apply below_alloc | apply pw_below_drewN | apply below_drew1 | refine below_set ?_ GE316.out | refine below_set ?_ GE317.out) | exact HB.out)) hb); have n3_ := Aside0.mk (hbox); have n4_ := Aside0.mk ((by rw [hg]; exact (below_size (by repeat (first | (with_reducible first | exact HB.out | apply below_alloc | apply pw_below_drewN | apply below_drew1 | refine below_set ?_ GE316.out | refine below_set ?_ GE317.out) | exact HB.out))) : w.heap.size ≤ gb319)); have n5_ := Aside0.mk ((by rw [hg]; exact (below_size (by repeat (first | (with_reducible first | exact HB.out | apply below_alloc | apply pw_below_drewN | apply below_drew1 | refine below_set ?_ GE316.out | refine below_set ?_ GE317.out) | exact HB.out))) : w.heap.size ≤ gb319)); have n6_ := Aside0.mk ((by rw [hg]; exact Nat.ne_of_lt (blk_lt (g := gb316) (o := .cells #[.slice A1_0 l1_0.length c1_0, .slice A1_1 l1_1.length c1_1] 50 (0, 0)) (by (with_reducible repeat (first | refine blk_drewN ?_ _ | refine blk_drew ?_ | refine blk_alloc ?_ _)); exact BK316.out)) : gb316 ≠ gb319)); have n7_ := Aside0.mk ((by rw [hg]; exact Nat.ne_of_gt (blk_lt (g := gb316) (o := .cells #[.slice A1_0 l1_0.length c1_0, .slice A1_1 l1_1.length c1_1] 50 (0, 0)) (by (with_reducible repeat (first | refine blk_drewN ?_ _ | refine blk_drew ?_ | refine blk_alloc ?_ _)); exact BK316.out)) : gb319 ≠ gb316)); have n8_ := Aside0.mk ((by rw [hg]; exact Nat.ne_of_lt (blk_lt (g := gb317) (o := .cells #[.slice (some ad318) l2_0.length c2_0, .slice A2_1 l2_1.length c2_1] 50 (0, 0)) (by (with_reducible repeat (first | refine blk_drewN ?_ _ | refine blk_drew ?_ | refine blk_alloc ?_ _)); exact BK317.out)) : gb317 ≠ gb319)); have n9_ := Aside0.mk ((by rw [hg]; exact Nat.ne_of_gt (blk_lt (g := gb317) (o := .cells #[.slice (some ad318) l2_0.length c2_0, .slice A2_1 l2_1.length c2_1] 50 (0, 0)) (by (with_reducible repeat (first | refine blk_drewN ?_ _ | refine blk_drew ?_ | refine blk_alloc ?_ _)); exact BK317.out)) : gb319 ≠ gb317)); clear BK316; clear BK317; clear HB; have BK316 := n0_; have BK317 := n1_; have HB := n2_; have BK319 := n3_; have GW319 := n4_; have GE319 := n5_; have NB316_319 := n6_; have NB319_316 := n7_; have NB317_319 := n8_; have NB319_317 := n9_; clear n0_ n1_ n2_ n3_ n4_ n5_ n6_ n7_ n8_ n9_; clear hb hbox hg; have hnb16 := NB319_316.out; have hnc16 := NB316_319.out; have hnb17 := NB319_317.out; have hnc17 := NB317_319.out; have hcz18_0 : w15.cell? ⟨gb319, 0, none⟩ = some (.string (⟨#[]⟩ : ByteArray)) := (blk_cell BK319.out 0).trans rfl; have hcz18_1 : w15.cell? ⟨gb319, 1, none⟩ = some (.int .i64 0) := (blk_cell BK319.out 1).trans rfl; have hcz18_2 : w15.cell? ⟨gb319, 2, none⟩ = some (.int .i64 0) := (blk_cell BK319.out 2).trans rfl; have hcz18_3 : w15.cell? ⟨gb319, 3, none⟩ = some (.int .i64 0) := (blk_cell BK319.out 3).trans rfl; have hfz18_0 := blk_frozen BK319.out 0; have hfz18_1 := blk_frozen BK319.out 1; have hfz18_2 := blk_frozen BK319.out 2; have hfz18_3 := blk_frozen BK319.out 3; have hcz19_0 : w15.cell? ⟨gb316, 0, none⟩ = some (.slice A1_0 l1_0.length c1_0) := (blk_cell BK316.out 0).trans rfl; have hcz19_1 : w15.cell? ⟨gb316, 1, none⟩ = some (.slice A1_1 l1_1.length c1_1) := (blk_cell BK316.out 1).trans rfl; have hfz19_0 := blk_frozen BK316.out 0; have hfz19_1 := blk_frozen BK316.out 1) | (go_at_call 54; (with_reducible refine (arlinkref22_has.calls k1 _ _ l1_0 _ _ l1_1 ((rd_T55 l2_0 x7_1).f0) 4 4 true _ ?side1 ?side2 ?side3 ?side4 A9.out).mono ?_); (case side1 => exact Kd.C_below HR1_0.out (by repeat (first | (with_reducible first | exact HB.out | apply below_alloc | apply pw_below_drewN | apply below_drew1 | refine below_set ?_ GE316.out | refine below_set ?_ GE317.out | refine below_set ?_ GE319.out) | exact HB.out))); (case side2 => exact HC1_0.out); (case side3 => exact Kd.C_below HR1_1.out (by repeat (first | (with_reducible first | exact HB.out | apply below_alloc | apply pw_below_drewN | apply below_drew1 | refine below_set ?_ GE316.out | refine below_set ?_ GE317.out | refine below_set ?_ GE319.out) | exact HB.out))); (case side4 => exact HC1_1.out); rintro e w20 ⟨rfl, hb⟩; have n0_ := Aside0.mk (blk_below (g := gb316) (o := .cells #[.slice A1_0 l1_0.length c1_0, .slice A1_1 l1_1.length c1_1] 50 (0, 0)) (by (with_reducible repeat (first | refine blk_drewN ?_ _ | refine blk_drew ?_ | refine blk_alloc ?_ _)); refine blk_far ?_ NB316_319.out _; (with_reducible repeat (first | refine blk_drewN ?_ _ | refine blk_drew ?_ | refine blk_alloc ?_ _)); refine blk_far ?_ NB316_319.out _; (with_reducible repeat (first | refine blk_drewN ?_ _ | refine blk_drew ?_ | refine blk_alloc ?_ _)); refine blk_far ?_ NB316_319.out _; (with_reducible repeat (first | refine blk_drewN ?_ _ | refine blk_drew ?_ | refine blk_alloc ?_ _)); refine blk_far ?_ NB316_319.out _; (with_reducible repeat (first | refine blk_drewN ?_ _ | refine blk_drew ?_ | refine blk_alloc ?_ _)); exact BK316.out) hb); have n1_ := Aside0.mk (blk_below (g := gb317) (o := .cells #[.slice (some ad318) l2_0.length c2_0, .slice A2_1 l2_1.length c2_1] 50 (0, 0)) (by (with_reducible repeat (first | refine blk_drewN ?_ _ | refine blk_drew ?_ | refine blk_alloc ?_ _)); refine blk_far ?_ NB317_319.out _; (with_reducible repeat (first | refine blk_drewN ?_ _ | refine blk_drew ?_ | refine blk_alloc ?_ _)); refine blk_far ?_ NB317_319.out _; (with_reducible repeat (first | refine blk_drewN ?_ _ | refine blk_drew ?_ | refine blk_alloc ?_ _)); refine blk_far ?_ NB317_319.out _; (with_reducible repeat (first | refine blk_drewN ?_ _ | refine blk_drew ?_ | refine blk_alloc ?_ _)); refine blk_far ?_ NB317_319.out _; (with_reducible repeat (first | refine blk_drewN ?_ _ | refine blk_drew ?_ | refine blk_alloc ?_ _)); exact BK317.out) hb); have n2_ := Aside0.mk (blk_below (g := gb319) (o := .cells #[.string ((rd_T55 l2_0 x7_1).f0), .int .i64 ((rd_T55 l2_0 x7_1).f1), .int .i64 ((rd_T55 l2_0 x7_1).f2), .int .i64 ((rd_T55 l2_0 x7_1).f3)] 55 (0, 0)) (by (with_reducible repeat (first | refine blk_drewN ?_ _ | refine blk_drew ?_ | refine blk_alloc ?_ _)); refine blk_put (cs := #[.string ((rd_T55 l2_0 x7_1).f0), .int .i64 ((rd_T55 l2_0 x7_1).f1), .int .i64 ((rd_T55 l2_0 x7_1).f2), .int .i64 0]) ?_ 3 _ rfl; (with_reducible repeat (first | refine blk_drewN ?_ _ | refine blk_drew ?_ | refine blk_alloc ?_ _)); refine blk_put (cs := #[.string ((rd_T55 l2_0 x7_1).f0), .int .i64 ((rd_T55 l2_0 x7_1).f1), .int .i64 0, .int .i64 0]) ?_ 2 _ rfl; (with_reducible repeat (first | refine blk_drewN ?_ _ | refine blk_drew ?_ | refine blk_alloc ?_ _)); refine blk_put (cs := #[.string ((rd_T55 l2_0 x7_1).f0), .int .i64 0, .int .i64 0, .int .i64 0]) ?_ 1 _ rfl; (with_reducible repeat (first | refine blk_drewN ?_ _ | refine blk_drew ?_ | refine blk_alloc ?_ _)); refine blk_put (cs := #[.string (⟨#[]⟩ : ByteArray), .int .i64 0, .int .i64 0, .int .i64 0]) ?_ 0 _ rfl; (with_reducible repeat (first | refine blk_drewN ?_ _ | refine blk_drew ?_ | refine blk_alloc ?_ _)); exact BK319.out) hb); have n3_ := Aside0.mk (below_step (by repeat (first | (with_reducible first | exact HB.out | apply below_alloc | apply pw_below_drewN | apply below_drew1 | refine below_set ?_ GE316.out | refine below_set ?_ GE317.out | refine below_set ?_ GE319.out) | exact HB.out)) hb); clear BK316; clear BK317; clear BK319; clear HB; have BK316 := n0_; have BK317 := n1_; have BK319 := n2_; have HB := n3_; clear n0_ n1_ n2_ n3_; (try clear hb); (try clear hb2); (try clear hk); (try clear hi); have hcz21_0 : w20.cell? ⟨gb319, 0, none⟩ = some (.string ((rd_T55 l2_0 x7_1).f0)) := (blk_cell BK319.out 0).trans rfl; have hcz21_1 : w20.cell? ⟨gb319, 1, none⟩ = some (.int .i64 ((rd_T55 l2_0 x7_1).f1)) := (blk_cell BK319.out 1).trans rfl; have hcz21_2 : w20.cell? ⟨gb319, 2, none⟩ = some (.int .i64 ((rd_T55 l2_0 x7_1).f2)) := (blk_cell BK319.out 2).trans rfl; have hcz21_3 : w20.cell? ⟨gb319, 3, none⟩ = some (.int .i64 ((rd_T55 l2_0 x7_1).f3)) := (blk_cell BK319.out 3).trans rfl; have hfz21_0 := blk_frozen BK319.out 0; have hfz21_1 := blk_frozen BK319.out 1; have hfz21_2 := blk_frozen BK319.out 2; have hfz21_3 := blk_frozen BK319.out 3) | (go_at_call 55; (with_reducible refine (arlinkref22_Provided.calls k1 _ _ l0 ((rd_T55 l2_0 x7_1).f0) true _ ?side1 ?side2 A11.out).mono ?_); (case side1 => repeat (first | exact (Kd.C_below HR0.out HB.out) | (with_reducible refine Kd.C_alloc ?_ _) | (with_reducible refine Kd.C_drewN ?_ _) | (with_reducible refine Kd.C_drew ?_))); (case side2 => exact HC0.out); rintro e w22 ⟨rfl, hb⟩; have n0_ := Aside0.mk (blk_below (g := gb316) (o := .cells #[.slice A1_0 l1_0.length c1_0, .slice A1_1 l1_1.length c1_1] 50 (0, 0)) (by (with_reducible repeat (first | refine blk_drewN ?_ _ | refine blk_drew ?_ | refine blk_alloc ?_ _)); exact BK316.out) hb); have n1_ := Aside0.mk (blk_below (g := gb317) (o := .cells #[.slice (some ad318) l2_0.length c2_0, .slice A2_1 l2_1.length c2_1] 50 (0, 0)) (by (with_reducible repeat (first | refine blk_drewN ?_ _ | refine blk_drew ?_ | refine blk_alloc ?_ _)); exact BK317.out) hb); have n2_ := Aside0.mk (blk_below (g := gb319) (o := .cells #[.string ((rd_T55 l2_0 x7_1).f0), .int .i64 ((rd_T55 l2_0 x7_1).f1), .int .i64 ((rd_T55 l2_0 x7_1).f2), .int .i64 ((rd_T55 l2_0 x7_1).f3)] 55 (0, 0)) (by (with_reducible repeat (first | refine blk_drewN ?_ _ | refine blk_drew ?_ | refine blk_alloc ?_ _)); exact BK319.out) hb); have n3_ := Aside0.mk (below_step (by repeat (first | (with_reducible first | exact HB.out | apply below_alloc | apply pw_below_drewN | apply below_drew1 | refine below_set ?_ GE316.out | refine below_set ?_ GE317.out | refine below_set ?_ GE319.out) | exact HB.out)) hb); clear BK316; clear BK317; clear BK319; clear HB; have BK316 := n0_; have BK317 := n1_; have BK319 := n2_; have HB := n3_; clear n0_ n1_ n2_ n3_; (try clear hb); (try clear hb2); (try clear hk); (try clear hi)))
        go_roundg k1
        case measure => have := HK1.out; omega
        case rel => exact ⟨(wrap64 (x7_1 + 1)), (by first | rfl | (simp; done) | (simp [*]; done)), H', ⟨by have := HK1.out; omega⟩, ⟨by (with_reducible repeat (first | refine blk_drewN ?_ _ | refine blk_drew ?_ | refine blk_alloc ?_ _)); exact BK316.out⟩, ⟨by (with_reducible repeat (first | refine blk_drewN ?_ _ | refine blk_drew ?_ | refine blk_alloc ?_ _)); exact BK317.out⟩, ⟨by repeat (first | (with_reducible first | exact HB.out | apply below_alloc | apply pw_below_drewN | apply below_drew1 | refine below_set ?_ GE316.out | refine below_set ?_ GE317.out | refine below_set ?_ GE319.out) | exact HB.out)⟩⟩
       ·replace c12 := Bool.eq_false_iff.mpr c12
        subst c12
        have H1 : (some true) = some r := by rw [if_neg (show ¬ (false = true) by decide)] at H; exact H
        clear H
        have H := H1
        clear H1
        obtain rfl := Option.some.inj H
        have hnb23 := NB317_316.out
        have hnc23 := NB316_317.out
        have hcz24_0 : wr.cell? ⟨gb317, 0, none⟩ = some (.slice A2_0 l2_0.length c2_0) := (blk_cell BK317.out 0).trans rfl
        have hcz24_1 : wr.cell? ⟨gb317, 1, none⟩ = some (.slice A2_1 l2_1.length c2_1) := (blk_cell BK317.out 1).trans rfl
        have hfz24_0 := blk_frozen BK317.out 0
        have hfz24_1 := blk_frozen BK317.out 1
        have p318 : 0 ≤ (x7_1 : Int) := of_decide_eq_true (by first | (with_reducible assumption) | assumption)
        have q318 : x7_1 < (l2_0.length : Int) := of_decide_eq_true (by first | (with_reducible assumption) | assumption)
        obtain ⟨ad318, e318, hx318_0, hx318_1, hx318_2, hx318_3⟩ := at_T55 HR2_0.out x7_1 p318 q318
        cases e318
        replace hx318_0 := (HB.out.cell (World.block_lt_of_cell? w _ hx318_0)).trans hx318_0
        replace hx318_1 := (HB.out.cell (World.block_lt_of_cell? w _ hx318_1)).trans hx318_1
        replace hx318_2 := (HB.out.cell (World.block_lt_of_cell? w _ hx318_2)).trans hx318_2
        replace hx318_3 := (HB.out.cell (World.block_lt_of_cell? w _ hx318_3)).trans hx318_3
        replace p318 := eq_true p318
        replace q318 := eq_true q318
        go_wp2_with (first | ((with_reducible refine gate_dst (N := 8) rfl ?_); refine box_event ?hg (N := 8) ?hd (cs := #[.string (⟨#[]⟩ : ByteArray), .int .i64 0, .int .i64 0, .int .i64 0]) (t := 55) ?hr ?_; (case hd => rfl); (case hg => rfl); (case hr => first | (go_simp; done) | (go_simp; rfl)); intro gb319 hg w25 hbox hb; have n0_ := Aside0.mk (blk_below (g := gb316) (o := .cells #[.slice A1_0 l1_0.length c1_0, .slice A1_1 l1_1.length c1_1] 50 (0, 0)) (by (with_reducible repeat (first | refine blk_drewN ?_ _ | refine blk_drew ?_ | refine blk_alloc ?_ _)); exact BK316.out) hb); have n1_ := Aside0.mk (blk_below (g := gb317) (o := .cells #[.slice (some ad318) l2_0.length c2_0, .slice A2_1 l2_1.length c2_1] 50 (0, 0)) (by (with_reducible repeat (first | refine blk_drewN ?_ _ | refine blk_drew ?_ | refine blk_alloc ?_ _)); exact BK317.out) hb); have n2_ := Aside0.mk (below_step (by repeat (first | (with_reducible first | exact HB.out | apply below_alloc | apply pw_below_drewN | apply below_drew1 | refine below_set ?_ GE316.out | refine below_set ?_ GE317.out) | exact HB.out)) hb); have n3_ := Aside0.mk (hbox); have n4_ := Aside0.mk ((by rw [hg]; exact (below_size (by repeat (first | (with_reducible first | exact HB.out | apply below_alloc | apply pw_below_drewN | apply below_drew1 | refine below_set ?_ GE316.out | refine below_set ?_ GE317.out) | exact HB.out))) : w.heap.size ≤ gb319)); have n5_ := Aside0.mk ((by rw [hg]; exact (below_size (by repeat (first | (with_reducible first | exact HB.out | apply below_alloc | apply pw_below_drewN | apply below_drew1 | refine below_set ?_ GE316.out | refine below_set ?_ GE317.out) | exact HB.out))) : w.heap.size ≤ gb319)); have n6_ := Aside0.mk ((by rw [hg]; exact Nat.ne_of_lt (blk_lt (g := gb316) (o := .cells #[.slice A1_0 l1_0.length c1_0, .slice A1_1 l1_1.length c1_1] 50 (0, 0)) (by (with_reducible repeat (first | refine blk_drewN ?_ _ | refine blk_drew ?_ | refine blk_alloc ?_ _)); exact BK316.out)) : gb316 ≠ gb319)); have n7_ := Aside0.mk ((by rw [hg]; exact Nat.ne_of_gt (blk_lt (g := gb316) (o := .cells #[.slice A1_0 l1_0.length c1_0, .slice A1_1 l1_1.length c1_1] 50 (0, 0)) (by (with_reducible repeat (first | refine blk_drewN ?_ _ | refine blk_drew ?_ | refine blk_alloc ?_ _)); exact BK316.out)) : gb319 ≠ gb316)); have n8_ := Aside0.mk ((by rw [hg]; exact Nat.ne_of_lt (blk_lt (g := gb317) (o := .cells #[.slice (some ad318) l2_0.length c2_0, .slice A2_1 l2_1.length c2_1] 50 (0, 0)) (by (with_reducible repeat (first | refine blk_drewN ?_ _ | refine blk_drew ?_ | refine blk_alloc ?_ _)); exact BK317.out)) : gb317 ≠ gb319)); have n9_ := Aside0.mk ((by rw [hg]; exact Nat.ne_of_gt (blk_lt (g := gb317) (o := .cells #[.slice (some ad318) l2_0.length c2_0, .slice A2_1 l2_1.length c2_1] 50 (0, 0)) (by (with_reducible repeat (first | refine blk_drewN ?_ _ | refine blk_drew ?_ | refine blk_alloc ?_ _)); exact BK317.out)) : gb319 ≠ gb317)); clear BK316; clear BK317; clear HB; have BK316 := n0_; have BK317 := n1_; have HB := n2_; have BK319 := n3_; have GW319 := n4_; have GE319 := n5_; have NB316_319 := n6_; have NB319_316 := n7_; have NB317_319 := n8_; have NB319_317 := n9_; clear n0_ n1_ n2_ n3_ n4_ n5_ n6_ n7_ n8_ n9_; clear hb hbox hg; have hnb26 := NB319_316.out; have hnc26 := NB316_319.out; have hnb27 := NB319_317.out; have hnc27 := NB317_319.out; have hcz28_0 : w25.cell? ⟨gb319, 0, none⟩ = some (.string (⟨#[]⟩ : ByteArray)) := (blk_cell BK319.out 0).trans rfl; have hcz28_1 : w25.cell? ⟨gb319, 1, none⟩ = some (.int .i64 0) := (blk_cell BK319.out 1).trans rfl; have hcz28_2 : w25.cell? ⟨gb319, 2, none⟩ = some (.int .i64 0) := (blk_cell BK319.out 2).trans rfl; have hcz28_3 : w25.cell? ⟨gb319, 3, none⟩ = some (.int .i64 0) := (blk_cell BK319.out 3).trans rfl; have hfz28_0 := blk_frozen BK319.out 0; have hfz28_1 := blk_frozen BK319.out 1; have hfz28_2 := blk_frozen BK319.out 2; have hfz28_3 := blk_frozen BK319.out 3; have hcz29_0 : w25.cell? ⟨gb316, 0, none⟩ = some (.slice A1_0 l1_0.length c1_0) := (blk_cell BK316.out 0).trans rfl; have hcz29_1 : w25.cell? ⟨gb316, 1, none⟩ = some (.slice A1_1 l1_1.length c1_1) := (blk_cell BK316.out 1).trans rfl; have hfz29_0 := blk_frozen BK316.out 0; have hfz29_1 := blk_frozen BK316.out 1) | (go_at_call 54; (with_reducible refine (arlinkref22_has.calls k1 _ _ l1_0 _ _ l1_1 ((rd_T55 l2_0 x7_1).f0) 4 4 true _ ?side1 ?side2 ?side3 ?side4 A9.out).mono ?_); (case side1 => exact Kd.C_below HR1_0.out (by repeat (first | (with_reducible first | exact HB.out | apply below_alloc | apply pw_below_drewN | apply below_drew1 | refine below_set ?_ GE316.out | refine below_set ?_ GE317.out | refine below_set ?_ GE319.out) | exact HB.out))); (case side2 => exact HC1_0.out); (case side3 => exact Kd.C_below HR1_1.out (by repeat (first | (with_reducible first | exact HB.out | apply below_alloc | apply pw_below_drewN | apply below_drew1 | refine below_set ?_ GE316.out | refine below_set ?_ GE317.out | refine below_set ?_ GE319.out) | exact HB.out))); (case side4 => exact HC1_1.out); rintro e w30 ⟨rfl, hb⟩; have n0_ := Aside0.mk (blk_below (g := gb316) (o := .cells #[.slice A1_0 l1_0.length c1_0, .slice A1_1 l1_1.length c1_1] 50 (0, 0)) (by (with_reducible repeat (first | refine blk_drewN ?_ _ | refine blk_drew ?_ | refine blk_alloc ?_ _)); refine blk_far ?_ NB316_319.out _; (with_reducible repeat (first | refine blk_drewN ?_ _ | refine blk_drew ?_ | refine blk_alloc ?_ _)); refine blk_far ?_ NB316_319.out _; (with_reducible repeat (first | refine blk_drewN ?_ _ | refine blk_drew ?_ | refine blk_alloc ?_ _)); refine blk_far ?_ NB316_319.out _; (with_reducible repeat (first | refine blk_drewN ?_ _ | refine blk_drew ?_ | refine blk_alloc ?_ _)); refine blk_far ?_ NB316_319.out _; (with_reducible repeat (first | refine blk_drewN ?_ _ | refine blk_drew ?_ | refine blk_alloc ?_ _)); exact BK316.out) hb); have n1_ := Aside0.mk (blk_below (g := gb317) (o := .cells #[.slice (some ad318) l2_0.length c2_0, .slice A2_1 l2_1.length c2_1] 50 (0, 0)) (by (with_reducible repeat (first | refine blk_drewN ?_ _ | refine blk_drew ?_ | refine blk_alloc ?_ _)); refine blk_far ?_ NB317_319.out _; (with_reducible repeat (first | refine blk_drewN ?_ _ | refine blk_drew ?_ | refine blk_alloc ?_ _)); refine blk_far ?_ NB317_319.out _; (with_reducible repeat (first | refine blk_drewN ?_ _ | refine blk_drew ?_ | refine blk_alloc ?_ _)); refine blk_far ?_ NB317_319.out _; (with_reducible repeat (first | refine blk_drewN ?_ _ | refine blk_drew ?_ | refine blk_alloc ?_ _)); refine blk_far ?_ NB317_319.out _; (with_reducible repeat (first | refine blk_drewN ?_ _ | refine blk_drew ?_ | refine blk_alloc ?_ _)); exact BK317.out) hb); have n2_ := Aside0.mk (blk_below (g := gb319) (o := .cells #[.string ((rd_T55 l2_0 x7_1).f0), .int .i64 ((rd_T55 l2_0 x7_1).f1), .int .i64 ((rd_T55 l2_0 x7_1).f2), .int .i64 ((rd_T55 l2_0 x7_1).f3)] 55 (0, 0)) (by (with_reducible repeat (first | refine blk_drewN ?_ _ | refine blk_drew ?_ | refine blk_alloc ?_ _)); refine blk_put (cs := #[.string ((rd_T55 l2_0 x7_1).f0), .int .i64 ((rd_T55 l2_0 x7_1).f1), .int .i64 ((rd_T55 l2_0 x7_1).f2), .int .i64 0]) ?_ 3 _ rfl; (with_reducible repeat (first | refine blk_drewN ?_ _ | refine blk_drew ?_ | refine blk_alloc ?_ _)); refine blk_put (cs := #[.string ((rd_T55 l2_0 x7_1).f0), .int .i64 ((rd_T55 l2_0 x7_1).f1), .int .i64 0, .int .i64 0]) ?_ 2 _ rfl; (with_reducible repeat (first | refine blk_drewN ?_ _ | refine blk_drew ?_ | refine blk_alloc ?_ _)); refine blk_put (cs := #[.string ((rd_T55 l2_0 x7_1).f0), .int .i64 0, .int .i64 0, .int .i64 0]) ?_ 1 _ rfl; (with_reducible repeat (first | refine blk_drewN ?_ _ | refine blk_drew ?_ | refine blk_alloc ?_ _)); refine blk_put (cs := #[.string (⟨#[]⟩ : ByteArray), .int .i64 0, .int .i64 0, .int .i64 0]) ?_ 0 _ rfl; (with_reducible repeat (first | refine blk_drewN ?_ _ | refine blk_drew ?_ | refine blk_alloc ?_ _)); exact BK319.out) hb); have n3_ := Aside0.mk (below_step (by repeat (first | (with_reducible first | exact HB.out | apply below_alloc | apply pw_below_drewN | apply below_drew1 | refine below_set ?_ GE316.out | refine below_set ?_ GE317.out | refine below_set ?_ GE319.out) | exact HB.out)) hb); clear BK316; clear BK317; clear BK319; clear HB; have BK316 := n0_; have BK317 := n1_; have BK319 := n2_; have HB := n3_; clear n0_ n1_ n2_ n3_; (try clear hb); (try clear hb2); (try clear hk); (try clear hi); have hcz31_0 : w30.cell? ⟨gb319, 0, none⟩ = some (.string ((rd_T55 l2_0 x7_1).f0)) := (blk_cell BK319.out 0).trans rfl; have hcz31_1 : w30.cell? ⟨gb319, 1, none⟩ = some (.int .i64 ((rd_T55 l2_0 x7_1).f1)) := (blk_cell BK319.out 1).trans rfl; have hcz31_2 : w30.cell? ⟨gb319, 2, none⟩ = some (.int .i64 ((rd_T55 l2_0 x7_1).f2)) := (blk_cell BK319.out 2).trans rfl; have hcz31_3 : w30.cell? ⟨gb319, 3, none⟩ = some (.int .i64 ((rd_T55 l2_0 x7_1).f3)) := (blk_cell BK319.out 3).trans rfl; have hfz31_0 := blk_frozen BK319.out 0; have hfz31_1 := blk_frozen BK319.out 1; have hfz31_2 := blk_frozen BK319.out 2; have hfz31_3 := blk_frozen BK319.out 3) | (go_at_call 55; (with_reducible refine (arlinkref22_Provided.calls k1 _ _ l0 ((rd_T55 l2_0 x7_1).f0) false _ ?side1 ?side2 A11.out).mono ?_); (case side1 => repeat (first | exact (Kd.C_below HR0.out HB.out) | (with_reducible refine Kd.C_alloc ?_ _) | (with_reducible refine Kd.C_drewN ?_ _) | (with_reducible refine Kd.C_drew ?_))); (case side2 => exact HC0.out); rintro e w32 ⟨rfl, hb⟩; have n0_ := Aside0.mk (blk_below (g := gb316) (o := .cells #[.slice A1_0 l1_0.length c1_0, .slice A1_1 l1_1.length c1_1] 50 (0, 0)) (by (with_reducible repeat (first | refine blk_drewN ?_ _ | refine blk_drew ?_ | refine blk_alloc ?_ _)); exact BK316.out) hb); have n1_ := Aside0.mk (blk_below (g := gb317) (o := .cells #[.slice (some ad318) l2_0.length c2_0, .slice A2_1 l2_1.length c2_1] 50 (0, 0)) (by (with_reducible repeat (first | refine blk_drewN ?_ _ | refine blk_drew ?_ | refine blk_alloc ?_ _)); exact BK317.out) hb); have n2_ := Aside0.mk (blk_below (g := gb319) (o := .cells #[.string ((rd_T55 l2_0 x7_1).f0), .int .i64 ((rd_T55 l2_0 x7_1).f1), .int .i64 ((rd_T55 l2_0 x7_1).f2), .int .i64 ((rd_T55 l2_0 x7_1).f3)] 55 (0, 0)) (by (with_reducible repeat (first | refine blk_drewN ?_ _ | refine blk_drew ?_ | refine blk_alloc ?_ _)); exact BK319.out) hb); have n3_ := Aside0.mk (below_step (by repeat (first | (with_reducible first | exact HB.out | apply below_alloc | apply pw_below_drewN | apply below_drew1 | refine below_set ?_ GE316.out | refine below_set ?_ GE317.out | refine below_set ?_ GE319.out) | exact HB.out)) hb); clear BK316; clear BK317; clear BK319; clear HB; have BK316 := n0_; have BK317 := n1_; have BK319 := n2_; have HB := n3_; clear n0_ n1_ n2_ n3_; (try clear hb); (try clear hb2); (try clear hk); (try clear hi)))
        go_ret
        exact ⟨by first | rfl | (simp [errW_none, errW_some] <;> rfl) | (simp [*, errW_none, errW_some] <;> rfl), by repeat (first | (with_reducible first | exact HB.out | apply below_alloc | apply pw_below_drewN | apply below_drew1 | refine below_set ?_ GE316.out | refine below_set ?_ GE317.out | refine below_set ?_ GE319.out) | exact HB.out)⟩
      ·replace c10 := Bool.eq_false_iff.mpr c10
       subst c10
       have H1 : (arlinkref22_Leads.l0 k1 l0 (wrap64 (x7_1 + 1)) l1_0 l1_1 l2_0 l2_1) = some r := by rw [if_neg (show ¬ (false = true) by decide)] at H; exact H
       clear H
       have H := H1
       clear H1
       have H' := Aside0.mk H
       clear H
       have hnb33 := NB317_316.out
       have hnc33 := NB316_317.out
       have hcz34_0 : wr.cell? ⟨gb317, 0, none⟩ = some (.slice A2_0 l2_0.length c2_0) := (blk_cell BK317.out 0).trans rfl
       have hcz34_1 : wr.cell? ⟨gb317, 1, none⟩ = some (.slice A2_1 l2_1.length c2_1) := (blk_cell BK317.out 1).trans rfl
       have hfz34_0 := blk_frozen BK317.out 0
       have hfz34_1 := blk_frozen BK317.out 1
       have p318 : 0 ≤ (x7_1 : Int) := of_decide_eq_true (by first | (with_reducible assumption) | assumption)
       have q318 : x7_1 < (l2_0.length : Int) := of_decide_eq_true (by first | (with_reducible assumption) | assumption)
       obtain ⟨ad318, e318, hx318_0, hx318_1, hx318_2, hx318_3⟩ := at_T55 HR2_0.out x7_1 p318 q318
       cases e318
       replace hx318_0 := (HB.out.cell (World.block_lt_of_cell? w _ hx318_0)).trans hx318_0
       replace hx318_1 := (HB.out.cell (World.block_lt_of_cell? w _ hx318_1)).trans hx318_1
       replace hx318_2 := (HB.out.cell (World.block_lt_of_cell? w _ hx318_2)).trans hx318_2
       replace hx318_3 := (HB.out.cell (World.block_lt_of_cell? w _ hx318_3)).trans hx318_3
       replace p318 := eq_true p318
       replace q318 := eq_true q318
       go_wp2_with (first | ((with_reducible refine gate_dst (N := 8) rfl ?_); refine box_event ?hg (N := 8) ?hd (cs := #[.string (⟨#[]⟩ : ByteArray), .int .i64 0, .int .i64 0, .int .i64 0]) (t := 55) ?hr ?_; (case hd => rfl); (case hg => rfl); (case hr => first | (go_simp; done) | (go_simp; rfl)); intro gb319 hg w35 hbox hb; have n0_ := Aside0.mk (blk_below (g := gb316) (o := .cells #[.slice A1_0 l1_0.length c1_0, .slice A1_1 l1_1.length c1_1] 50 (0, 0)) (by (with_reducible repeat (first | refine blk_drewN ?_ _ | refine blk_drew ?_ | refine blk_alloc ?_ _)); exact BK316.out) hb); have n1_ := Aside0.mk (blk_below (g := gb317) (o := .cells #[.slice (some ad318) l2_0.length c2_0, .slice A2_1 l2_1.length c2_1] 50 (0, 0)) (by (with_reducible repeat (first | refine blk_drewN ?_ _ | refine blk_drew ?_ | refine blk_alloc ?_ _)); exact BK317.out) hb); have n2_ := Aside0.mk (below_step (by repeat (first | (with_reducible first | exact HB.out | apply below_alloc | apply pw_below_drewN | apply below_drew1 | refine below_set ?_ GE316.out | refine below_set ?_ GE317.out) | exact HB.out)) hb); have n3_ := Aside0.mk (hbox); have n4_ := Aside0.mk ((by rw [hg]; exact (below_size (by repeat (first | (with_reducible first | exact HB.out | apply below_alloc | apply pw_below_drewN | apply below_drew1 | refine below_set ?_ GE316.out | refine below_set ?_ GE317.out) | exact HB.out))) : w.heap.size ≤ gb319)); have n5_ := Aside0.mk ((by rw [hg]; exact (below_size (by repeat (first | (with_reducible first | exact HB.out | apply below_alloc | apply pw_below_drewN | apply below_drew1 | refine below_set ?_ GE316.out | refine below_set ?_ GE317.out) | exact HB.out))) : w.heap.size ≤ gb319)); have n6_ := Aside0.mk ((by rw [hg]; exact Nat.ne_of_lt (blk_lt (g := gb316) (o := .cells #[.slice A1_0 l1_0.length c1_0, .slice A1_1 l1_1.length c1_1] 50 (0, 0)) (by (with_reducible repeat (first | refine blk_drewN ?_ _ | refine blk_drew ?_ | refine blk_alloc ?_ _)); exact BK316.out)) : gb316 ≠ gb319)); have n7_ := Aside0.mk ((by rw [hg]; exact Nat.ne_of_gt (blk_lt (g := gb316) (o := .cells #[.slice A1_0 l1_0.length c1_0, .slice A1_1 l1_1.length c1_1] 50 (0, 0)) (by (with_reducible repeat (first | refine blk_drewN ?_ _ | refine blk_drew ?_ | refine blk_alloc ?_ _)); exact BK316.out)) : gb319 ≠ gb316)); have n8_ := Aside0.mk ((by rw [hg]; exact Nat.ne_of_lt (blk_lt (g := gb317) (o := .cells #[.slice (some ad318) l2_0.length c2_0, .slice A2_1 l2_1.length c2_1] 50 (0, 0)) (by (with_reducible repeat (first | refine blk_drewN ?_ _ | refine blk_drew ?_ | refine blk_alloc ?_ _)); exact BK317.out)) : gb317 ≠ gb319)); have n9_ := Aside0.mk ((by rw [hg]; exact Nat.ne_of_gt (blk_lt (g := gb317) (o := .cells #[.slice (some ad318) l2_0.length c2_0, .slice A2_1 l2_1.length c2_1] 50 (0, 0)) (by (with_reducible repeat (first | refine blk_drewN ?_ _ | refine blk_drew ?_ | refine blk_alloc ?_ _)); exact BK317.out)) : gb319 ≠ gb317)); clear BK316; clear BK317; clear HB; have BK316 := n0_; have BK317 := n1_; have HB := n2_; have BK319 := n3_; have GW319 := n4_; have GE319 := n5_; have NB316_319 := n6_; have NB319_316 := n7_; have NB317_319 := n8_; have NB319_317 := n9_; clear n0_ n1_ n2_ n3_ n4_ n5_ n6_ n7_ n8_ n9_; clear hb hbox hg; have hnb36 := NB319_316.out; have hnc36 := NB316_319.out; have hnb37 := NB319_317.out; have hnc37 := NB317_319.out; have hcz38_0 : w35.cell? ⟨gb319, 0, none⟩ = some (.string (⟨#[]⟩ : ByteArray)) := (blk_cell BK319.out 0).trans rfl; have hcz38_1 : w35.cell? ⟨gb319, 1, none⟩ = some (.int .i64 0) := (blk_cell BK319.out 1).trans rfl; have hcz38_2 : w35.cell? ⟨gb319, 2, none⟩ = some (.int .i64 0) := (blk_cell BK319.out 2).trans rfl; have hcz38_3 : w35.cell? ⟨gb319, 3, none⟩ = some (.int .i64 0) := (blk_cell BK319.out 3).trans rfl; have hfz38_0 := blk_frozen BK319.out 0; have hfz38_1 := blk_frozen BK319.out 1; have hfz38_2 := blk_frozen BK319.out 2; have hfz38_3 := blk_frozen BK319.out 3; have hcz39_0 : w35.cell? ⟨gb316, 0, none⟩ = some (.slice A1_0 l1_0.length c1_0) := (blk_cell BK316.out 0).trans rfl; have hcz39_1 : w35.cell? ⟨gb316, 1, none⟩ = some (.slice A1_1 l1_1.length c1_1) := (blk_cell BK316.out 1).trans rfl; have hfz39_0 := blk_frozen BK316.out 0; have hfz39_1 := blk_frozen BK316.out 1) | (go_at_call 54; (with_reducible refine (arlinkref22_has.calls k1 _ _ l1_0 _ _ l1_1 ((rd_T55 l2_0 x7_1).f0) 4 4 false _ ?side1 ?side2 ?side3 ?side4 A9.out).mono ?_); (case side1 => exact Kd.C_below HR1_0.out (by repeat (first | (with_reducible first | exact HB.out | apply below_alloc | apply pw_below_drewN | apply below_drew1 | refine below_set ?_ GE316.out | refine below_set ?_ GE317.out | refine below_set ?_ GE319.out) | exact HB.out))); (case side2 => exact HC1_0.out); (case side3 => exact Kd.C_below HR1_1.out (by repeat (first | (with_reducible first | exact HB.out | apply below_alloc | apply pw_below_drewN | apply below_drew1 | refine below_set ?_ GE316.out | refine below_set ?_ GE317.out | refine below_set ?_ GE319.out) | exact HB.out))); (case side4 => exact HC1_1.out); rintro e w40 ⟨rfl, hb⟩; have n0_ := Aside0.mk (blk_below (g := gb316) (o := .cells #[.slice A1_0 l1_0.length c1_0, .slice A1_1 l1_1.length c1_1] 50 (0, 0)) (by (with_reducible repeat (first | refine blk_drewN ?_ _ | refine blk_drew ?_ | refine blk_alloc ?_ _)); refine blk_far ?_ NB316_319.out _; (with_reducible repeat (first | refine blk_drewN ?_ _ | refine blk_drew ?_ | refine blk_alloc ?_ _)); refine blk_far ?_ NB316_319.out _; (with_reducible repeat (first | refine blk_drewN ?_ _ | refine blk_drew ?_ | refine blk_alloc ?_ _)); refine blk_far ?_ NB316_319.out _; (with_reducible repeat (first | refine blk_drewN ?_ _ | refine blk_drew ?_ | refine blk_alloc ?_ _)); refine blk_far ?_ NB316_319.out _; (with_reducible repeat (first | refine blk_drewN ?_ _ | refine blk_drew ?_ | refine blk_alloc ?_ _)); exact BK316.out) hb); have n1_ := Aside0.mk (blk_below (g := gb317) (o := .cells #[.slice (some ad318) l2_0.length c2_0, .slice A2_1 l2_1.length c2_1] 50 (0, 0)) (by (with_reducible repeat (first | refine blk_drewN ?_ _ | refine blk_drew ?_ | refine blk_alloc ?_ _)); refine blk_far ?_ NB317_319.out _; (with_reducible repeat (first | refine blk_drewN ?_ _ | refine blk_drew ?_ | refine blk_alloc ?_ _)); refine blk_far ?_ NB317_319.out _; (with_reducible repeat (first | refine blk_drewN ?_ _ | refine blk_drew ?_ | refine blk_alloc ?_ _)); refine blk_far ?_ NB317_319.out _; (with_reducible repeat (first | refine blk_drewN ?_ _ | refine blk_drew ?_ | refine blk_alloc ?_ _)); refine blk_far ?_ NB317_319.out _; (with_reducible repeat (first | refine blk_drewN ?_ _ | refine blk_drew ?_ | refine blk_alloc ?_ _)); exact BK317.out) hb); have n2_ := Aside0.mk (blk_below (g := gb319) (o := .cells #[.string ((rd_T55 l2_0 x7_1).f0), .int .i64 ((rd_T55 l2_0 x7_1).f1), .int .i64 ((rd_T55 l2_0 x7_1).f2), .int .i64 ((rd_T55 l2_0 x7_1).f3)] 55 (0, 0)) (by (with_reducible repeat (first | refine blk_drewN ?_ _ | refine blk_drew ?_ | refine blk_alloc ?_ _)); refine blk_put (cs := #[.string ((rd_T55 l2_0 x7_1).f0), .int .i64 ((rd_T55 l2_0 x7_1).f1), .int .i64 ((rd_T55 l2_0 x7_1).f2), .int .i64 0]) ?_ 3 _ rfl; (with_reducible repeat (first | refine blk_drewN ?_ _ | refine blk_drew ?_ | refine blk_alloc ?_ _)); refine blk_put (cs := #[.string ((rd_T55 l2_0 x7_1).f0), .int .i64 ((rd_T55 l2_0 x7_1).f1), .int .i64 0, .int .i64 0]) ?_ 2 _ rfl; (with_reducible repeat (first | refine blk_drewN ?_ _ | refine blk_drew ?_ | refine blk_alloc ?_ _)); refine blk_put (cs := #[.string ((rd_T55 l2_0 x7_1).f0), .int .i64 0, .int .i64 0, .int .i64 0]) ?_ 1 _ rfl; (with_reducible repeat (first | refine blk_drewN ?_ _ | refine blk_drew ?_ | refine blk_alloc ?_ _)); refine blk_put (cs := #[.string (⟨#[]⟩ : ByteArray), .int .i64 0, .int .i64 0, .int .i64 0]) ?_ 0 _ rfl; (with_reducible repeat (first | refine blk_drewN ?_ _ | refine blk_drew ?_ | refine blk_alloc ?_ _)); exact BK319.out) hb); have n3_ := Aside0.mk (below_step (by repeat (first | (with_reducible first | exact HB.out | apply below_alloc | apply pw_below_drewN | apply below_drew1 | refine below_set ?_ GE316.out | refine below_set ?_ GE317.out | refine below_set ?_ GE319.out) | exact HB.out)) hb); clear BK316; clear BK317; clear BK319; clear HB; have BK316 := n0_; have BK317 := n1_; have BK319 := n2_; have HB := n3_; clear n0_ n1_ n2_ n3_; (try clear hb); (try clear hb2); (try clear hk); (try clear hi)))
       go_roundg k1
       case measure => have := HK1.out; omega
       case rel => exact ⟨(wrap64 (x7_1 + 1)), (by first | rfl | (simp; done) | (simp [*]; done)), H', ⟨by have := HK1.out; omega⟩, ⟨by (with_reducible repeat (first | refine blk_drewN ?_ _ | refine blk_drew ?_ | refine blk_alloc ?_ _)); exact BK316.out⟩, ⟨by (with_reducible repeat (first | refine blk_drewN ?_ _ | refine blk_drew ?_ | refine blk_alloc ?_ _)); exact BK317.out⟩, ⟨by repeat (first | (with_reducible first | exact HB.out | apply below_alloc | apply pw_below_drewN | apply below_drew1 | refine below_set ?_ GE316.out | refine below_set ?_ GE317.out | refine below_set ?_ GE319.out) | exact HB.out)⟩⟩
     ·rw [if_neg c8] at H
      have c8b0 : (((rd_T55 l2_0 x7_1).f1) == 1) = false := beq_eq_false_iff_ne.mpr c8
      have c8b1 : (((rd_T55 l2_0 x7_1).f1) != 1) = true := bne_iff_ne.mpr c8
      by_cases c41 : ((rd_T55 l2_0 x7_1).f1) = 2
      ·rw [if_pos c41] at H
       have c41b0 : (((rd_T55 l2_0 x7_1).f1) == 2) = true := beq_iff_eq.mpr c41
       have c41b1 : (((rd_T55 l2_0 x7_1).f1) != 2) = false := bne_eq_false_iff_eq.mpr c41
       clear c41
       replace H := Option.bind_eq_some_iff.mp H
       obtain ⟨t322, A420, H⟩ := H
       replace H : (if t322 = true then ((arlinkref22_Provided.f k1 l0 ((rd_T55 l2_0 x7_1).f0)).bind fun t323 => (if t323 = true then (arlinkref22_Leads.l0 k1 l0 (wrap64 (x7_1 + 1)) l1_0 l1_1 l2_0 l2_1) else (some true))) else (arlinkref22_Leads.l0 k1 l0 (wrap64 (x7_1 + 1)) l1_0 l1_1 l2_0 l2_1)) = some r := H
       have A42 := Aside0.mk A420
       clear A420
       by_cases c43 : t322 = true
       ·subst c43
        have H1 : ((arlinkref22_Provided.f k1 l0 ((rd_T55 l2_0 x7_1).f0)).bind fun t323 => (if t323 = true then (arlinkref22_Leads.l0 k1 l0 (wrap64 (x7_1 + 1)) l1_0 l1_1 l2_0 l2_1) else (some true))) = some r := by rw [if_pos rfl] at H; exact H
        clear H
        have H := H1
        clear H1
        replace H := Option.bind_eq_some_iff.mp H
        obtain ⟨t323, A440, H⟩ := H
        replace H : (if t323 = true then (arlinkref22_Leads.l0 k1 l0 (wrap64 (x7_1 + 1)) l1_0 l1_1 l2_0 l2_1) else (some true)) = some r := H
        have A44 := Aside0.mk A440
        clear A440
        by_cases c45 : t323 = true
        ·subst c45
         have H1 : (arlinkref22_Leads.l0 k1 l0 (wrap64 (x7_1 + 1)) l1_0 l1_1 l2_0 l2_1) = some r := by rw [if_pos rfl] at H; exact H
         clear H
         have H := H1
         clear H1
         have H' := Aside0.mk H
         clear H
         have hnb46 := NB317_316.out
         have hnc46 := NB316_317.out
         have hcz47_0 : wr.cell? ⟨gb317, 0, none⟩ = some (.slice A2_0 l2_0.length c2_0) := (blk_cell BK317.out 0).trans rfl
         have hcz47_1 : wr.cell? ⟨gb317, 1, none⟩ = some (.slice A2_1 l2_1.length c2_1) := (blk_cell BK317.out 1).trans rfl
         have hfz47_0 := blk_frozen BK317.out 0
         have hfz47_1 := blk_frozen BK317.out 1
         have p318 : 0 ≤ (x7_1 : Int) := of_decide_eq_true (by first | (with_reducible assumption) | assumption)
         have q318 : x7_1 < (l2_0.length : Int) := of_decide_eq_true (by first | (with_reducible assumption) | assumption)
         obtain ⟨ad318, e318, hx318_0, hx318_1, hx318_2, hx318_3⟩ := at_T55 HR2_0.out x7_1 p318 q318
         cases e318
         replace hx318_0 := (HB.out.cell (World.block_lt_of_cell? w _ hx318_0)).trans hx318_0
         replace hx318_1 := (HB.out.cell (World.block_lt_of_cell? w _ hx318_1)).trans hx318_1
         replace hx318_2 := (HB.out.cell (World.block_lt_of_cell? w _ hx318_2)).trans hx318_2
         replace hx318_3 := (HB.out.cell (World.block_lt_of_cell? w _ hx318_3)).trans hx318_3
         replace p318 := eq_true p318
         replace q318 := eq_true q318
         go_wp2_with (first | ((with_reducible refine gate_dst (N := 8) rfl ?_); refine box_event ?hg (N := 8) ?hd (cs := #[.string (⟨#[]⟩ : ByteArray), .int .i64 0, .int .i64 0, .int .i64 0]) (t := 55) ?hr ?_; (case hd => rfl); (case hg => rfl); (case hr => first | (go_simp; done) | (go_simp; rfl)); intro gb319 hg w48 hbox hb; have n0_ := Aside0.mk (blk_below (g := gb316) (o := .cells #[.slice A1_0 l1_0.length c1_0, .slice A1_1 l1_1.length c1_1] 50 (0, 0)) (by (with_reducible repeat (first | refine blk_drewN ?_ _ | refine blk_drew ?_ | refine blk_alloc ?_ _)); exact BK316.out) hb); have n1_ := Aside0.mk (blk_below (g := gb317) (o := .cells #[.slice (some ad318) l2_0.length c2_0, .slice A2_1 l2_1.length c2_1] 50 (0, 0)) (by (with_reducible repeat (first | refine blk_drewN ?_ _ | refine blk_drew ?_ | refine blk_alloc ?_ _)); exact BK317.out) hb); have n2_ := Aside0.mk (below_step (by repeat (first | (with_reducible first | exact HB.out | apply below_alloc | apply pw_below_drewN | apply below_drew1 | refine below_set ?_ GE316.out | refine below_set ?_ GE317.out) | exact HB.out)) hb); have n3_ := Aside0.mk (hbox); have n4_ := Aside0.mk ((by rw [hg]; exact (below_size (by repeat (first | (with_reducible first | exact HB.out | apply below_alloc | apply pw_below_drewN | apply below_drew1 | refine below_set ?_ GE316.out | refine below_set ?_ GE317.out) | exact HB.out))) : w.heap.size ≤ gb319)); have n5_ := Aside0.mk ((by rw [hg]; exact (below_size (by repeat (first | (with_reducible first | exact HB.out | apply below_alloc | apply pw_below_drewN | apply below_drew1 | refine below_set ?_ GE316.out | refine below_set ?_ GE317.out) | exact HB.out))) : w.heap.size ≤ gb319)); have n6_ := Aside0.mk ((by rw [hg]; exact Nat.ne_of_lt (blk_lt (g := gb316) (o := .cells #[.slice A1_0 l1_0.length c1_0, .slice A1_1 l1_1.length c1_1] 50 (0, 0)) (by (with_reducible repeat (first | refine blk_drewN ?_ _ | refine blk_drew ?_ | refine blk_alloc ?_ _)); exact BK316.out)) : gb316 ≠ gb319)); have n7_ := Aside0.mk ((by rw [hg]; exact Nat.ne_of_gt (blk_lt (g := gb316) (o := .cells #[.slice A1_0 l1_0.length c1_0, .slice A1_1 l1_1.length c1_1] 50 (0, 0)) (by (with_reducible repeat (first | refine blk_drewN ?_ _ | refine blk_drew ?_ | refine blk_alloc ?_ _)); exact BK316.out)) : gb319 ≠ gb316)); have n8_ := Aside0.mk ((by rw [hg]; exact Nat.ne_of_lt (blk_lt (g := gb317) (o := .cells #[.slice (some ad318) l2_0.length c2_0, .slice A2_1 l2_1.length c2_1] 50 (0, 0)) (by (with_reducible repeat (first | refine blk_drewN ?_ _ | refine blk_drew ?_ | refine blk_alloc ?_ _)); exact BK317.out)) : gb317 ≠ gb319)); have n9_ := Aside0.mk ((by rw [hg]; exact Nat.ne_of_gt (blk_lt (g := gb317) (o := .cells #[.slice (some ad318) l2_0.length c2_0, .slice A2_1 l2_1.length c2_1] 50 (0, 0)) (by (with_reducible repeat (first | refine blk_drewN ?_ _ | refine blk_drew ?_ | refine blk_alloc ?_ _)); exact BK317.out)) : gb319 ≠ gb317)); clear BK316; clear BK317; clear HB; have BK316 := n0_; have BK317 := n1_; have HB := n2_; have BK319 := n3_; have GW319 := n4_; have GE319 := n5_; have NB316_319 := n6_; have NB319_316 := n7_; have NB317_319 := n8_; have NB319_317 := n9_; clear n0_ n1_ n2_ n3_ n4_ n5_ n6_ n7_ n8_ n9_; clear hb hbox hg; have hnb49 := NB319_316.out; have hnc49 := NB316_319.out; have hnb50 := NB319_317.out; have hnc50 := NB317_319.out; have hcz51_0 : w48.cell? ⟨gb319, 0, none⟩ = some (.string (⟨#[]⟩ : ByteArray)) := (blk_cell BK319.out 0).trans rfl; have hcz51_1 : w48.cell? ⟨gb319, 1, none⟩ = some (.int .i64 0) := (blk_cell BK319.out 1).trans rfl; have hcz51_2 : w48.cell? ⟨gb319, 2, none⟩ = some (.int .i64 0) := (blk_cell BK319.out 2).trans rfl; have hcz51_3 : w48.cell? ⟨gb319, 3, none⟩ = some (.int .i64 0) := (blk_cell BK319.out 3).trans rfl; have hfz51_0 := blk_frozen BK319.out 0; have hfz51_1 := blk_frozen BK319.out 1; have hfz51_2 := blk_frozen BK319.out 2; have hfz51_3 := blk_frozen BK319.out 3; have hcz52_0 : w48.cell? ⟨gb316, 0, none⟩ = some (.slice A1_0 l1_0.length c1_0) := (blk_cell BK316.out 0).trans rfl; have hcz52_1 : w48.cell? ⟨gb316, 1, none⟩ = some (.slice A1_1 l1_1.length c1_1) := (blk_cell BK316.out 1).trans rfl; have hfz52_0 := blk_frozen BK316.out 0; have hfz52_1 := blk_frozen BK316.out 1) | (go_at_call 54; (with_reducible refine (arlinkref22_has.calls k1 _ _ l1_0 _ _ l1_1 ((rd_T55 l2_0 x7_1).f0) 4 4 true _ ?side1 ?side2 ?side3 ?side4 A42.out).mono ?_); (case side1 => exact Kd.C_below HR1_0.out (by repeat (first | (with_reducible first | exact HB.out | apply below_alloc | apply pw_below_drewN | apply below_drew1 | refine below_set ?_ GE316.out | refine below_set ?_ GE317.out | refine below_set ?_ GE319.out) | exact HB.out))); (case side2 => exact HC1_0.out); (case side3 => exact Kd.C_below HR1_1.out (by repeat (first | (with_reducible first | exact HB.out | apply below_alloc | apply pw_below_drewN | apply below_drew1 | refine below_set ?_ GE316.out | refine below_set ?_ GE317.out | refine below_set ?_ GE319.out) | exact HB.out))); (case side4 => exact HC1_1.out); rintro e w53 ⟨rfl, hb⟩; have n0_ := Aside0.mk (blk_below (g := gb316) (o := .cells #[.slice A1_0 l1_0.length c1_0, .slice A1_1 l1_1.length c1_1] 50 (0, 0)) (by (with_reducible repeat (first | refine blk_drewN ?_ _ | refine blk_drew ?_ | refine blk_alloc ?_ _)); refine blk_far ?_ NB316_319.out _; (with_reducible repeat (first | refine blk_drewN ?_ _ | refine blk_drew ?_ | refine blk_alloc ?_ _)); refine blk_far ?_ NB316_319.out _; (with_reducible repeat (first | refine blk_drewN ?_ _ | refine blk_drew ?_ | refine blk_alloc ?_ _)); refine blk_far ?_ NB316_319.out _; (with_reducible repeat (first | refine blk_drewN ?_ _ | refine blk_drew ?_ | refine blk_alloc ?_ _)); refine blk_far ?_ NB316_319.out _; (with_reducible repeat (first | refine blk_drewN ?_ _ | refine blk_drew ?_ | refine blk_alloc ?_ _)); exact BK316.out) hb); have n1_ := Aside0.mk (blk_below (g := gb317) (o := .cells #[.slice (some ad318) l2_0.length c2_0, .slice A2_1 l2_1.length c2_1] 50 (0, 0)) (by (with_reducible repeat (first | refine blk_drewN ?_ _ | refine blk_drew ?_ | refine blk_alloc ?_ _)); refine blk_far ?_ NB317_319.out _; (with_reducible repeat (first | refine blk_drewN ?_ _ | refine blk_drew ?_ | refine blk_alloc ?_ _)); refine blk_far ?_ NB317_319.out _; (with_reducible repeat (first | refine blk_drewN ?_ _ | refine blk_drew ?_ | refine blk_alloc ?_ _)); refine blk_far ?_ NB317_319.out _; (with_reducible repeat (first | refine blk_drewN ?_ _ | refine blk_drew ?_ | refine blk_alloc ?_ _)); refine blk_far ?_ NB317_319.out _; (with_reducible repeat (first | refine blk_drewN ?_ _ | refine blk_drew ?_ | refine blk_alloc ?_ _)); exact BK317.out) hb); have n2_ := Aside0.mk (blk_below (g := gb319) (o := .cells #[.string ((rd_T55 l2_0 x7_1).f0), .int .i64 ((rd_T55 l2_0 x7_1).f1), .int .i64 ((rd_T55 l2_0 x7_1).f2), .int .i64 ((rd_T55 l2_0 x7_1).f3)] 55 (0, 0)) (by (with_reducible repeat (first | refine blk_drewN ?_ _ | refine blk_drew ?_ | refine blk_alloc ?_ _)); refine blk_put (cs := #[.string ((rd_T55 l2_0 x7_1).f0), .int .i64 ((rd_T55 l2_0 x7_1).f1), .int .i64 ((rd_T55 l2_0 x7_1).f2), .int .i64 0]) ?_ 3 _ rfl; (with_reducible repeat (first | refine blk_drewN ?_ _ | refine blk_drew ?_ | refine blk_alloc ?_ _)); refine blk_put (cs := #[.string ((rd_T55 l2_0 x7_1).f0), .int .i64 ((rd_T55 l2_0 x7_1).f1), .int .i64 0, .int .i64 0]) ?_ 2 _ rfl; (with_reducible repeat (first | refine blk_drewN ?_ _ | refine blk_drew ?_ | refine blk_alloc ?_ _)); refine blk_put (cs := #[.string ((rd_T55 l2_0 x7_1).f0), .int .i64 0, .int .i64 0, .int .i64 0]) ?_ 1 _ rfl; (with_reducible repeat (first | refine blk_drewN ?_ _ | refine blk_drew ?_ | refine blk_alloc ?_ _)); refine blk_put (cs := #[.string (⟨#[]⟩ : ByteArray), .int .i64 0, .int .i64 0, .int .i64 0]) ?_ 0 _ rfl; (with_reducible repeat (first | refine blk_drewN ?_ _ | refine blk_drew ?_ | refine blk_alloc ?_ _)); exact BK319.out) hb); have n3_ := Aside0.mk (below_step (by repeat (first | (with_reducible first | exact HB.out | apply below_alloc | apply pw_below_drewN | apply below_drew1 | refine below_set ?_ GE316.out | refine below_set ?_ GE317.out | refine below_set ?_ GE319.out) | exact HB.out)) hb); clear BK316; clear BK317; clear BK319; clear HB; have BK316 := n0_; have BK317 := n1_; have BK319 := n2_; have HB := n3_; clear n0_ n1_ n2_ n3_; (try clear hb); (try clear hb2); (try clear hk); (try clear hi); have hcz54_0 : w53.cell? ⟨gb319, 0, none⟩ = some (.string ((rd_T55 l2_0 x7_1).f0)) := (blk_cell BK319.out 0).trans rfl; have hcz54_1 : w53.cell? ⟨gb319, 1, none⟩ = some (.int .i64 ((rd_T55 l2_0 x7_1).f1)) := (blk_cell BK319.out 1).trans rfl; have hcz54_2 : w53.cell? ⟨gb319, 2, none⟩ = some (.int .i64 ((rd_T55 l2_0 x7_1).f2)) := (blk_cell BK319.out 2).trans rfl; have hcz54_3 : w53.cell? ⟨gb319, 3, none⟩ = some (.int .i64 ((rd_T55 l2_0 x7_1).f3)) := (blk_cell BK319.out 3).trans rfl; have hfz54_0 := blk_frozen BK319.out 0; have hfz54_1 := blk_frozen BK319.out 1; have hfz54_2 := blk_frozen BK319.out 2; have hfz54_3 := blk_frozen BK319.out 3) | (go_at_call 55; (with_reducible refine (arlinkref22_Provided.calls k1 _ _ l0 ((rd_T55 l2_0 x7_1).f0) true _ ?side1 ?side2 A44.out).mono ?_); (case side1 => repeat (first | exact (Kd.C_below HR0.out HB.out) | (with_reducible refine Kd.C_alloc ?_ _) | (with_reducible refine Kd.C_drewN ?_ _) | (with_reducible refine Kd.C_drew ?_))); (case side2 => exact HC0.out); rintro e w55 ⟨rfl, hb⟩; have n0_ := Aside0.mk (blk_below (g := gb316) (o := .cells #[.slice A1_0 l1_0.length c1_0, .slice A1_1 l1_1.length c1_1] 50 (0, 0)) (by (with_reducible repeat (first | refine blk_drewN ?_ _ | refine blk_drew ?_ | refine blk_alloc ?_ _)); exact BK316.out) hb); have n1_ := Aside0.mk (blk_below (g := gb317) (o := .cells #[.slice (some ad318) l2_0.length c2_0, .slice A2_1 l2_1.length c2_1] 50 (0, 0)) (by (with_reducible repeat (first | refine blk_drewN ?_ _ | refine blk_drew ?_ | refine blk_alloc ?_ _)); exact BK317.out) hb); have n2_ := Aside0.mk (blk_below (g := gb319) (o := .cells #[.string ((rd_T55 l2_0 x7_1).f0), .int .i64 ((rd_T55 l2_0 x7_1).f1), .int .i64 ((rd_T55 l2_0 x7_1).f2), .int .i64 ((rd_T55 l2_0 x7_1).f3)] 55 (0, 0)) (by (with_reducible repeat (first | refine blk_drewN ?_ _ | refine blk_drew ?_ | refine blk_alloc ?_ _)); exact BK319.out) hb); have n3_ := Aside0.mk (below_step (by repeat (first | (with_reducible first | exact HB.out | apply below_alloc | apply pw_below_drewN | apply below_drew1 | refine below_set ?_ GE316.out | refine below_set ?_ GE317.out | refine below_set ?_ GE319.out) | exact HB.out)) hb); clear BK316; clear BK317; clear BK319; clear HB; have BK316 := n0_; have BK317 := n1_; have BK319 := n2_; have HB := n3_; clear n0_ n1_ n2_ n3_; (try clear hb); (try clear hb2); (try clear hk); (try clear hi)))
         go_roundg k1
         case measure => have := HK1.out; omega
         case rel => exact ⟨(wrap64 (x7_1 + 1)), (by first | rfl | (simp; done) | (simp [*]; done)), H', ⟨by have := HK1.out; omega⟩, ⟨by (with_reducible repeat (first | refine blk_drewN ?_ _ | refine blk_drew ?_ | refine blk_alloc ?_ _)); exact BK316.out⟩, ⟨by (with_reducible repeat (first | refine blk_drewN ?_ _ | refine blk_drew ?_ | refine blk_alloc ?_ _)); exact BK317.out⟩, ⟨by repeat (first | (with_reducible first | exact HB.out | apply below_alloc | apply pw_below_drewN | apply below_drew1 | refine below_set ?_ GE316.out | refine below_set ?_ GE317.out | refine below_set ?_ GE319.out) | exact HB.out)⟩⟩
        ·replace c45 := Bool.eq_false_iff.mpr c45
         subst c45
         have H1 : (some true) = some r := by rw [if_neg (show ¬ (false = true) by decide)] at H; exact H
         clear H
         have H := H1
         clear H1
         obtain rfl := Option.some.inj H
         have hnb56 := NB317_316.out
         have hnc56 := NB316_317.out
         have hcz57_0 : wr.cell? ⟨gb317, 0, none⟩ = some (.slice A2_0 l2_0.length c2_0) := (blk_cell BK317.out 0).trans rfl
         have hcz57_1 : wr.cell? ⟨gb317, 1, none⟩ = some (.slice A2_1 l2_1.length c2_1) := (blk_cell BK317.out 1).trans rfl
         have hfz57_0 := blk_frozen BK317.out 0
         have hfz57_1 := blk_frozen BK317.out 1
         have p318 : 0 ≤ (x7_1 : Int) := of_decide_eq_true (by first | (with_reducible assumption) | assumption)
         have q318 : x7_1 < (l2_0.length : Int) := of_decide_eq_true (by first | (with_reducible assumption) | assumption)
         obtain ⟨ad318, e318, hx318_0, hx318_1, hx318_2, hx318_3⟩ := at_T55 HR2_0.out x7_1 p318 q318
         cases e318
         replace hx318_0 := (HB.out.cell (World.block_lt_of_cell? w _ hx318_0)).trans hx318_0
         replace hx318_1 := (HB.out.cell (World.block_lt_of_cell? w _ hx318_1)).trans hx318_1
         replace hx318_2 := (HB.out.cell (World.block_lt_of_cell? w _ hx318_2)).trans hx318_2
         replace hx318_3 := (HB.out.cell (World.block_lt_of_cell? w _ hx318_3)).trans hx318_3
         replace p318 := eq_true p318
         replace q318 := eq_true q318
         go_wp2_with (first | ((with_reducible refine gate_dst (N := 8) rfl ?_); refine box_event ?hg (N := 8) ?hd (cs := #[.string (⟨#[]⟩ : ByteArray), .int .i64 0, .int .i64 0, .int .i64 0]) (t := 55) ?hr ?_; (case hd => rfl); (case hg => rfl); (case hr => first | (go_simp; done) | (go_simp; rfl)); intro gb319 hg w58 hbox hb; have n0_ := Aside0.mk (blk_below (g := gb316) (o := .cells #[.slice A1_0 l1_0.length c1_0, .slice A1_1 l1_1.length c1_1] 50 (0, 0)) (by (with_reducible repeat (first | refine blk_drewN ?_ _ | refine blk_drew ?_ | refine blk_alloc ?_ _)); exact BK316.out) hb); have n1_ := Aside0.mk (blk_below (g := gb317) (o := .cells #[.slice (some ad318) l2_0.length c2_0, .slice A2_1 l2_1.length c2_1] 50 (0, 0)) (by (with_reducible repeat (first | refine blk_drewN ?_ _ | refine blk_drew ?_ | refine blk_alloc ?_ _)); exact BK317.out) hb); have n2_ := Aside0.mk (below_step (by repeat (first | (with_reducible first | exact HB.out | apply below_alloc | apply pw_below_drewN | apply below_drew1 | refine below_set ?_ GE316.out | refine below_set ?_ GE317.out) | exact HB.out)) hb); have n3_ := Aside0.mk (hbox); have n4_ := Aside0.mk ((by rw [hg]; exact (below_size (by repeat (first | (with_reducible first | exact HB.out | apply below_alloc | apply pw_below_drewN | apply below_drew1 | refine below_set ?_ GE316.out | refine below_set ?_ GE317.out) | exact HB.out))) : w.heap.size ≤ gb319)); have n5_ := Aside0.mk ((by rw [hg]; exact (below_size (by repeat (first | (with_reducible first | exact HB.out | apply below_alloc | apply pw_below_drewN | apply below_drew1 | refine below_set ?_ GE316.out | refine below_set ?_ GE317.out) | exact HB.out))) : w.heap.size ≤ gb319)); have n6_ := Aside0.mk ((by rw [hg]; exact Nat.ne_of_lt (blk_lt (g := gb316) (o := .cells #[.slice A1_0 l1_0.length c1_0, .slice A1_1 l1_1.length c1_1] 50 (0, 0)) (by (with_reducible repeat (first | refine blk_drewN ?_ _ | refine blk_drew ?_ | refine blk_alloc ?_ _)); exact BK316.out)) : gb316 ≠ gb319)); have n7_ := Aside0.mk ((by rw [hg]; exact Nat.ne_of_gt (blk_lt (g := gb316) (o := .cells #[.slice A1_0 l1_0.length c1_0, .slice A1_1 l1_1.length c1_1] 50 (0, 0)) (by (with_reducible repeat (first | refine blk_drewN ?_ _ | refine blk_drew ?_ | refine blk_alloc ?_ _)); exact BK316.out)) : gb319 ≠ gb316)); have n8_ := Aside0.mk ((by rw [hg]; exact Nat.ne_of_lt (blk_lt (g := gb317) (o := .cells #[.slice (some ad318) l2_0.length c2_0, .slice A2_1 l2_1.length c2_1] 50 (0, 0)) (by (with_reducible repeat (first | refine blk_drewN ?_ _ | refine blk_drew ?_ | refine blk_alloc ?_ _)); exact BK317.out)) : gb317 ≠ gb319)); have n9_ := Aside0.mk ((by rw [hg]; exact Nat.ne_of_gt (blk_lt (g := gb317) (o := .cells #[.slice (some ad318) l2_0.length c2_0, .slice A2_1 l2_1.length c2_1] 50 (0, 0)) (by (with_reducible repeat (first | refine blk_drewN ?_ _ | refine blk_drew ?_ | refine blk_alloc ?_ _)); exact BK317.out)) : gb319 ≠ gb317)); clear BK316; clear BK317; clear HB; have BK316 := n0_; have BK317 := n1_; have HB := n2_; have BK319 := n3_; have GW319 := n4_; have GE319 := n5_; have NB316_319 := n6_; have NB319_316 := n7_; have NB317_319 := n8_; have NB319_317 := n9_; clear n0_ n1_ n2_ n3_ n4_ n5_ n6_ n7_ n8_ n9_; clear hb hbox hg; have hnb59 := NB319_316.out; have hnc59 := NB316_319.out; have hnb60 := NB319_317.out; have hnc60 := NB317_319.out; have hcz61_0 : w58.cell? ⟨gb319, 0, none⟩ = some (.string (⟨#[]⟩ : ByteArray)) := (blk_cell BK319.out 0).trans rfl; have hcz61_1 : w58.cell? ⟨gb319, 1, none⟩ = some (.int .i64 0) := (blk_cell BK319.out 1).trans rfl; have hcz61_2 : w58.cell? ⟨gb319, 2, none⟩ = some (.int .i64 0) := (blk_cell BK319.out 2).trans rfl; have hcz61_3 : w58.cell? ⟨gb319, 3, none⟩ = some (.int .i64 0) := (blk_cell BK319.out 3).trans rfl; have hfz61_0 := blk_frozen BK319.out 0; have hfz61_1 := blk_frozen BK319.out 1; have hfz61_2 := blk_frozen BK319.out 2; have hfz61_3 := blk_frozen BK319.out 3; have hcz62_0 : w58.cell? ⟨gb316, 0, none⟩ = some (.slice A1_0 l1_0.length c1_0) := (blk_cell BK316.out 0).trans rfl; have hcz62_1 : w58.cell? ⟨gb316, 1, none⟩ = some (.slice A1_1 l1_1.length c1_1) := (blk_cell BK316.out 1).trans rfl; have hfz62_0 := blk_frozen BK316.out 0; have hfz62_1 := blk_frozen BK316.out 1) | (go_at_call 54; (with_reducible refine (arlinkref22_has.calls k1 _ _ l1_0 _ _ l1_1 ((rd_T55 l2_0 x7_1).f0) 4 4 true _ ?side1 ?side2 ?side3 ?side4 A42.out).mono ?_); (case side1 => exact Kd.C_below HR1_0.out (by repeat (first | (with_reducible first | exact HB.out | apply below_alloc | apply pw_below_drewN | apply below_drew1 | refine below_set ?_ GE316.out | refine below_set ?_ GE317.out | refine below_set ?_ GE319.out) | exact HB.out))); (case side2 => exact HC1_0.out); (case side3 => exact Kd.C_below HR1_1.out (by repeat (first | (with_reducible first | exact HB.out | apply below_alloc | apply pw_below_drewN | apply below_drew1 | refine below_set ?_ GE316.out | refine below_set ?_ GE317.out | refine below_set ?_ GE319.out) | exact HB.out))); (case side4 => exact HC1_1.out); rintro e w63 ⟨rfl, hb⟩; have n0_ := Aside0.mk (blk_below (g := gb316) (o := .cells #[.slice A1_0 l1_0.length c1_0, .slice A1_1 l1_1.length c1_1] 50 (0, 0)) (by (with_reducible repeat (first | refine blk_drewN ?_ _ | refine blk_drew ?_ | refine blk_alloc ?_ _)); refine blk_far ?_ NB316_319.out _; (with_reducible repeat (first | refine blk_drewN ?_ _ | refine blk_drew ?_ | refine blk_alloc ?_ _)); refine blk_far ?_ NB316_319.out _; (with_reducible repeat (first | refine blk_drewN ?_ _ | refine blk_drew ?_ | refine blk_alloc ?_ _)); refine blk_far ?_ NB316_319.out _; (with_reducible repeat (first | refine blk_drewN ?_ _ | refine blk_drew ?_ | refine blk_alloc ?_ _)); refine blk_far ?_ NB316_319.out _; (with_reducible repeat (first | refine blk_drewN ?_ _ | refine blk_drew ?_ | refine blk_alloc ?_ _)); exact BK316.out) hb); have n1_ := Aside0.mk (blk_below (g := gb317) (o := .cells #[.slice (some ad318) l2_0.length c2_0, .slice A2_1 l2_1.length c2_1] 50 (0, 0)) (by (with_reducible repeat (first | refine blk_drewN ?_ _ | refine blk_drew ?_ | refine blk_alloc ?_ _)); refine blk_far ?_ NB317_319.out _; (with_reducible repeat (first | refine blk_drewN ?_ _ | refine blk_drew ?_ | refine blk_alloc ?_ _)); refine blk_far ?_ NB317_319.out _; (with_reducible repeat (first | refine blk_drewN ?_ _ | refine blk_drew ?_ | refine blk_alloc ?_ _)); refine blk_far ?_ NB317_319.out _; (with_reducible repeat (first | refine blk_drewN ?_ _ | refine blk_drew ?_ | refine blk_alloc ?_ _)); refine blk_far ?_ NB317_319.out _; (with_reducible repeat (first | refine blk_drewN ?_ _ | refine blk_drew ?_ | refine blk_alloc ?_ _)); exact BK317.out) hb); have n2_ := Aside0.mk (blk_below (g := gb319) (o := .cells #[.string ((rd_T55 l2_0 x7_1).f0), .int .i64 ((rd_T55 l2_0 x7_1).f1), .int .i64 ((rd_T55 l2_0 x7_1).f2), .int .i64 ((rd_T55 l2_0 x7_1).f3)] 55 (0, 0)) (by (with_reducible repeat (first | refine blk_drewN ?_ _ | refine blk_drew ?_ | refine blk_alloc ?_ _)); refine blk_put (cs := #[.string ((rd_T55 l2_0 x7_1).f0), .int .i64 ((rd_T55 l2_0 x7_1).f1), .int .i64 ((rd_T55 l2_0 x7_1).f2), .int .i64 0]) ?_ 3 _ rfl; (with_reducible repeat (first | refine blk_drewN ?_ _ | refine blk_drew ?_ | refine blk_alloc ?_ _)); refine blk_put (cs := #[.string ((rd_T55 l2_0 x7_1).f0), .int .i64 ((rd_T55 l2_0 x7_1).f1), .int .i64 0, .int .i64 0]) ?_ 2 _ rfl; (with_reducible repeat (first | refine blk_drewN ?_ _ | refine blk_drew ?_ | refine blk_alloc ?_ _)); refine blk_put (cs := #[.string ((rd_T55 l2_0 x7_1).f0), .int .i64 0, .int .i64 0, .int .i64 0]) ?_ 1 _ rfl; (with_reducible repeat (first | refine blk_drewN ?_ _ | refine blk_drew ?_ | refine blk_alloc ?_ _)); refine blk_put (cs := #[.string (⟨#[]⟩ : ByteArray), .int .i64 0, .int .i64 0, .int .i64 0]) ?_ 0 _ rfl; (with_reducible repeat (first | refine blk_drewN ?_ _ | refine blk_drew ?_ | refine blk_alloc ?_ _)); exact BK319.out) hb); have n3_ := Aside0.mk (below_step (by repeat (first | (with_reducible first | exact HB.out | apply below_alloc | apply pw_below_drewN | apply below_drew1 | refine below_set ?_ GE316.out | refine below_set ?_ GE317.out | refine below_set ?_ GE319.out) | exact HB.out)) hb); clear BK316; clear BK317; clear BK319; clear HB; have BK316 := n0_; have BK317 := n1_; have BK319 := n2_; have HB := n3_; clear n0_ n1_ n2_ n3_; (try clear hb); (try clear hb2); (try clear hk); (try clear hi); have hcz64_0 : w63.cell? ⟨gb319, 0, none⟩ = some (.string ((rd_T55 l2_0 x7_1).f0)) := (blk_cell BK319.out 0).trans rfl; have hcz64_1 : w63.cell? ⟨gb319, 1, none⟩ = some (.int .i64 ((rd_T55 l2_0 x7_1).f1)) := (blk_cell BK319.out 1).trans rfl; have hcz64_2 : w63.cell? ⟨gb319, 2, none⟩ = some (.int .i64 ((rd_T55 l2_0 x7_1).f2)) := (blk_cell BK319.out 2).trans rfl; have hcz64_3 : w63.cell? ⟨gb319, 3, none⟩ = some (.int .i64 ((rd_T55 l2_0 x7_1).f3)) := (blk_cell BK319.out 3).trans rfl; have hfz64_0 := blk_frozen BK319.out 0; have hfz64_1 := blk_frozen BK319.out 1; have hfz64_2 := blk_frozen BK319.out 2; have hfz64_3 := blk_frozen BK319.out 3) | (go_at_call 55; (with_reducible refine (arlinkref22_Provided.calls k1 _ _ l0 ((rd_T55 l2_0 x7_1).f0) false _ ?side1 ?side2 A44.out).mono ?_); (case side1 => repeat (first | exact (Kd.C_below HR0.out HB.out) | (with_reducible refine Kd.C_alloc ?_ _) | (with_reducible refine Kd.C_drewN ?_ _) | (with_reducible refine Kd.C_drew ?_))); (case side2 => exact HC0.out); rintro e w65 ⟨rfl, hb⟩; have n0_ := Aside0.mk (blk_below (g := gb316) (o := .cells #[.slice A1_0 l1_0.length c1_0, .slice A1_1 l1_1.length c1_1] 50 (0, 0)) (by (with_reducible repeat (first | refine blk_drewN ?_ _ | refine blk_drew ?_ | refine blk_alloc ?_ _)); exact BK316.out) hb); have n1_ := Aside0.mk (blk_below (g := gb317) (o := .cells #[.slice (some ad318) l2_0.length c2_0, .slice A2_1 l2_1.length c2_1] 50 (0, 0)) (by (with_reducible repeat (first | refine blk_drewN ?_ _ | refine blk_drew ?_ | refine blk_alloc ?_ _)); exact BK317.out) hb); have n2_ := Aside0.mk (blk_below (g := gb319) (o := .cells #[.string ((rd_T55 l2_0 x7_1).f0), .int .i64 ((rd_T55 l2_0 x7_1).f1), .int .i64 ((rd_T55 l2_0 x7_1).f2), .int .i64 ((rd_T55 l2_0 x7_1).f3)] 55 (0, 0)) (by (with_reducible repeat (first | refine blk_drewN ?_ _ | refine blk_drew ?_ | refine blk_alloc ?_ _)); exact BK319.out) hb); have n3_ := Aside0.mk (below_step (by repeat (first | (with_reducible first | exact HB.out | apply below_alloc | apply pw_below_drewN | apply below_drew1 | refine below_set ?_ GE316.out | refine below_set ?_ GE317.out | refine below_set ?_ GE319.out) | exact HB.out)) hb); clear BK316; clear BK317; clear BK319; clear HB; have BK316 := n0_; have BK317 := n1_; have BK319 := n2_; have HB := n3_; clear n0_ n1_ n2_ n3_; (try clear hb); (try clear hb2); (try clear hk); (try clear hi)))
         go_ret
         exact ⟨by first | rfl | (simp [errW_none, errW_some] <;> rfl) | (simp [*, errW_none, errW_some] <;> rfl), by repeat (first | (with_reducible first | exact HB.out | apply below_alloc | apply pw_below_drewN | apply below_drew1 | refine below_set ?_ GE316.out | refine below_set ?_ GE317.out | refine below_set ?_ GE319.out) | exact HB.out)⟩
       ·replace c43 := Bool.eq_false_iff.mpr c43
        subst c43
        have H1 : (arlinkref22_Leads.l0 k1 l0 (wrap64 (x7_1 + 1)) l1_0 l1_1 l2_0 l2_1) = some r := by rw [if_neg (show ¬ (false = true) by decide)] at H; exact H
        clear H
        have H := H1
        clear H1
        have H' := Aside0.mk H
        clear H
        have hnb66 := NB317_316.out
        have hnc66 := NB316_317.out
        have hcz67_0 : wr.cell? ⟨gb317, 0, none⟩ = some (.slice A2_0 l2_0.length c2_0) := (blk_cell BK317.out 0).trans rfl
        have hcz67_1 : wr.cell? ⟨gb317, 1, none⟩ = some (.slice A2_1 l2_1.length c2_1) := (blk_cell BK317.out 1).trans rfl
        have hfz67_0 := blk_frozen BK317.out 0
        have hfz67_1 := blk_frozen BK317.out 1
        have p318 : 0 ≤ (x7_1 : Int) := of_decide_eq_true (by first | (with_reducible assumption) | assumption)
        have q318 : x7_1 < (l2_0.length : Int) := of_decide_eq_true (by first | (with_reducible assumption) | assumption)
        obtain ⟨ad318, e318, hx318_0, hx318_1, hx318_2, hx318_3⟩ := at_T55 HR2_0.out x7_1 p318 q318
        cases e318
        replace hx318_0 := (HB.out.cell (World.block_lt_of_cell? w _ hx318_0)).trans hx318_0
        replace hx318_1 := (HB.out.cell (World.block_lt_of_cell? w _ hx318_1)).trans hx318_1
        replace hx318_2 := (HB.out.cell (World.block_lt_of_cell? w _ hx318_2)).trans hx318_2
        replace hx318_3 := (HB.out.cell (World.block_lt_of_cell? w _ hx318_3)).trans hx318_3
        replace p318 := eq_true p318
        replace q318 := eq_true q318
        go_wp2_with (first | ((with_reducible refine gate_dst (N := 8) rfl ?_); refine box_event ?hg (N := 8) ?hd (cs := #[.string (⟨#[]⟩ : ByteArray), .int .i64 0, .int .i64 0, .int .i64 0]) (t := 55) ?hr ?_; (case hd => rfl); (case hg => rfl); (case hr => first | (go_simp; done) | (go_simp; rfl)); intro gb319 hg w68 hbox hb; have n0_ := Aside0.mk (blk_below (g := gb316) (o := .cells #[.slice A1_0 l1_0.length c1_0, .slice A1_1 l1_1.length c1_1] 50 (0, 0)) (by (with_reducible repeat (first | refine blk_drewN ?_ _ | refine blk_drew ?_ | refine blk_alloc ?_ _)); exact BK316.out) hb); have n1_ := Aside0.mk (blk_below (g := gb317) (o := .cells #[.slice (some ad318) l2_0.length c2_0, .slice A2_1 l2_1.length c2_1] 50 (0, 0)) (by (with_reducible repeat (first | refine blk_drewN ?_ _ | refine blk_drew ?_ | refine blk_alloc ?_ _)); exact BK317.out) hb); have n2_ := Aside0.mk (below_step (by repeat (first | (with_reducible first | exact HB.out | apply below_alloc | apply pw_below_drewN | apply below_drew1 | refine below_set ?_ GE316.out | refine below_set ?_ GE317.out) | exact HB.out)) hb); have n3_ := Aside0.mk (hbox); have n4_ := Aside0.mk ((by rw [hg]; exact (below_size (by repeat (first | (with_reducible first | exact HB.out | apply below_alloc | apply pw_below_drewN | apply below_drew1 | refine below_set ?_ GE316.out | refine below_set ?_ GE317.out) | exact HB.out))) : w.heap.size ≤ gb319)); have n5_ := Aside0.mk ((by rw [hg]; exact (below_size (by repeat (first | (with_reducible first | exact HB.out | apply below_alloc | apply pw_below_drewN | apply below_drew1 | refine below_set ?_ GE316.out | refine below_set ?_ GE317.out) | exact HB.out))) : w.heap.size ≤ gb319)); have n6_ := Aside0.mk ((by rw [hg]; exact Nat.ne_of_lt (blk_lt (g := gb316) (o := .cells #[.slice A1_0 l1_0.length c1_0, .slice A1_1 l1_1.length c1_1] 50 (0, 0)) (by (with_reducible repeat (first | refine blk_drewN ?_ _ | refine blk_drew ?_ | refine blk_alloc ?_ _)); exact BK316.out)) : gb316 ≠ gb319)); have n7_ := Aside0.mk ((by rw [hg]; exact Nat.ne_of_gt (blk_lt (g := gb316) (o := .cells #[.slice A1_0 l1_0.length c1_0, .slice A1_1 l1_1.length c1_1] 50 (0, 0)) (by (with_reducible repeat (first | refine blk_drewN ?_ _ | refine blk_drew ?_ | refine blk_alloc ?_ _)); exact BK316.out)) : gb319 ≠ gb316)); have n8_ := Aside0.mk ((by rw [hg]; exact Nat.ne_of_lt (blk_lt (g := gb317) (o := .cells #[.slice (some ad318) l2_0.length c2_0, .slice A2_1 l2_1.length c2_1] 50 (0, 0)) (by (with_reducible repeat (first | refine blk_drewN ?_ _ | refine blk_drew ?_ | refine blk_alloc ?_ _)); exact BK317.out)) : gb317 ≠ gb319)); have n9_ := Aside0.mk ((by rw [hg]; exact Nat.ne_of_gt (blk_lt (g := gb317) (o := .cells #[.slice (some ad318) l2_0.length c2_0, .slice A2_1 l2_1.length c2_1] 50 (0, 0)) (by (with_reducible repeat (first | refine blk_drewN ?_ _ | refine blk_drew ?_ | refine blk_alloc ?_ _)); exact BK317.out)) : gb319 ≠ gb317)); clear BK316; clear BK317; clear HB; have BK316 := n0_; have BK317 := n1_; have HB := n2_; have BK319 := n3_; have GW319 := n4_; have GE319 := n5_; have NB316_319 := n6_; have NB319_316 := n7_; have NB317_319 := n8_; have NB319_317 := n9_; clear n0_ n1_ n2_ n3_ n4_ n5_ n6_ n7_ n8_ n9_; clear hb hbox hg; have hnb69 := NB319_316.out; have hnc69 := NB316_319.out; have hnb70 := NB319_317.out; have hnc70 := NB317_319.out; have hcz71_0 : w68.cell? ⟨gb319, 0, none⟩ = some (.string (⟨#[]⟩ : ByteArray)) := (blk_cell BK319.out 0).trans rfl; have hcz71_1 : w68.cell? ⟨gb319, 1, none⟩ = some (.int .i64 0) := (blk_cell BK319.out 1).trans rfl; have hcz71_2 : w68.cell? ⟨gb319, 2, none⟩ = some (.int .i64 0) := (blk_cell BK319.out 2).trans rfl; have hcz71_3 : w68.cell? ⟨gb319, 3, none⟩ = some (.int .i64 0) := (blk_cell BK319.out 3).trans rfl; have hfz71_0 := blk_frozen BK319.out 0; have hfz71_1 := blk_frozen BK319.out 1; have hfz71_2 := blk_frozen BK319.out 2; have hfz71_3 := blk_frozen BK319.out 3; have hcz72_0 : w68.cell? ⟨gb316, 0, none⟩ = some (.slice A1_0 l1_0.length c1_0) := (blk_cell BK316.out 0).trans rfl; have hcz72_1 : w68.cell? ⟨gb316, 1, none⟩ = some (.slice A1_1 l1_1.length c1_1) := (blk_cell BK316.out 1).trans rfl; have hfz72_0 := blk_frozen BK316.out 0; have hfz72_1 := blk_frozen BK316.out 1) | (go_at_call 54; (with_reducible refine (arlinkref22_has.calls k1 _ _ l1_0 _ _ l1_1 ((rd_T55 l2_0 x7_1).f0) 4 4 false _ ?side1 ?side2 ?side3 ?side4 A42.out).mono ?_); (case side1 => exact Kd.C_below HR1_0.out (by repeat (first | (with_reducible first | exact HB.out | apply below_alloc | apply pw_below_drewN | apply below_drew1 | refine below_set ?_ GE316.out | refine below_set ?_ GE317.out | refine below_set ?_ GE319.out) | exact HB.out))); (case side2 => exact HC1_0.out); (case side3 => exact Kd.C_below HR1_1.out (by repeat (first | (with_reducible first | exact HB.out | apply below_alloc | apply pw_below_drewN | apply below_drew1 | refine below_set ?_ GE316.out | refine below_set ?_ GE317.out | refine below_set ?_ GE319.out) | exact HB.out))); (case side4 => exact HC1_1.out); rintro e w73 ⟨rfl, hb⟩; have n0_ := Aside0.mk (blk_below (g := gb316) (o := .cells #[.slice A1_0 l1_0.length c1_0, .slice A1_1 l1_1.length c1_1] 50 (0, 0)) (by (with_reducible repeat (first | refine blk_drewN ?_ _ | refine blk_drew ?_ | refine blk_alloc ?_ _)); refine blk_far ?_ NB316_319.out _; (with_reducible repeat (first | refine blk_drewN ?_ _ | refine blk_drew ?_ | refine blk_alloc ?_ _)); refine blk_far ?_ NB316_319.out _; (with_reducible repeat (first | refine blk_drewN ?_ _ | refine blk_drew ?_ | refine blk_alloc ?_ _)); refine blk_far ?_ NB316_319.out _; (with_reducible repeat (first | refine blk_drewN ?_ _ | refine blk_drew ?_ | refine blk_alloc ?_ _)); refine blk_far ?_ NB316_319.out _; (with_reducible repeat (first | refine blk_drewN ?_ _ | refine blk_drew ?_ | refine blk_alloc ?_ _)); exact BK316.out) hb); have n1_ := Aside0.mk (blk_below (g := gb317) (o := .cells #[.slice (some ad318) l2_0.length c2_0, .slice A2_1 l2_1.length c2_1] 50 (0, 0)) (by (with_reducible repeat (first | refine blk_drewN ?_ _ | refine blk_drew ?_ | refine blk_alloc ?_ _)); refine blk_far ?_ NB317_319.out _; (with_reducible repeat (first | refine blk_drewN ?_ _ | refine blk_drew ?_ | refine blk_alloc ?_ _)); refine blk_far ?_ NB317_319.out _; (with_reducible repeat (first | refine blk_drewN ?_ _ | refine blk_drew ?_ | refine blk_alloc ?_ _)); refine blk_far ?_ NB317_319.out _; (with_reducible repeat (first | refine blk_drewN ?_ _ | refine blk_drew ?_ | refine blk_alloc ?_ _)); refine blk_far ?_ NB317_319.out _; (with_reducible repeat (first | refine blk_drewN ?_ _ | refine blk_drew ?_ | refine blk_alloc ?_ _)); exact BK317.out) hb); have n2_ := Aside0.mk (blk_below (g := gb319) (o := .cells #[.string ((rd_T55 l2_0 x7_1).f0), .int .i64 ((rd_T55 l2_0 x7_1).f1), .int .i64 ((rd_T55 l2_0 x7_1).f2), .int .i64 ((rd_T55 l2_0 x7_1).f3)] 55 (0, 0)) (by (with_reducible repeat (first | refine blk_drewN ?_ _ | refine blk_drew ?_ | refine blk_alloc ?_ _)); refine blk_put (cs := #[.string ((rd_T55 l2_0 x7_1).f0), .int .i64 ((rd_T55 l2_0 x7_1).f1), .int .i64 ((rd_T55 l2_0 x7_1).f2), .int .i64 0]) ?_ 3 _ rfl; (with_reducible repeat (first | refine blk_drewN ?_ _ | refine blk_drew ?_ | refine blk_alloc ?_ _)); refine blk_put (cs := #[.string ((rd_T55 l2_0 x7_1).f0), .int .i64 ((rd_T55 l2_0 x7_1).f1), .int .i64 0, .int .i64 0]) ?_ 2 _ rfl; (with_reducible repeat (first | refine blk_drewN ?_ _ | refine blk_drew ?_ | refine blk_alloc ?_ _)); refine blk_put (cs := #[.string ((rd_T55 l2_0 x7_1).f0), .int .i64 0, .int .i64 0, .int .i64 0]) ?_ 1 _ rfl; (with_reducible repeat (first | refine blk_drewN ?_ _ | refine blk_drew ?_ | refine blk_alloc ?_ _)); refine blk_put (cs := #[.string (⟨#[]⟩ : ByteArray), .int .i64 0, .int .i64 0, .int .i64 0]) ?_ 0 _ rfl; (with_reducible repeat (first | refine blk_drewN ?_ _ | refine blk_drew ?_ | refine blk_alloc ?_ _)); exact BK319.out) hb); have n3_ := Aside0.mk (below_step (by repeat (first | (with_reducible first | exact HB.out | apply below_alloc | apply pw_below_drewN | apply below_drew1 | refine below_set ?_ GE316.out | refine below_set ?_ GE317.out | refine below_set ?_ GE319.out) | exact HB.out)) hb); clear BK316; clear BK317; clear BK319; clear HB; have BK316 := n0_; have BK317 := n1_; have BK319 := n2_; have HB := n3_; clear n0_ n1_ n2_ n3_; (try clear hb); (try clear hb2); (try clear hk); (try clear hi)))
        go_roundg k1
        case measure => have := HK1.out; omega
        case rel => exact ⟨(wrap64 (x7_1 + 1)), (by first | rfl | (simp; done) | (simp [*]; done)), H', ⟨by have := HK1.out; omega⟩, ⟨by (with_reducible repeat (first | refine blk_drewN ?_ _ | refine blk_drew ?_ | refine blk_alloc ?_ _)); exact BK316.out⟩, ⟨by (with_reducible repeat (first | refine blk_drewN ?_ _ | refine blk_drew ?_ | refine blk_alloc ?_ _)); exact BK317.out⟩, ⟨by repeat (first | (with_reducible first | exact HB.out | apply below_alloc | apply pw_below_drewN | apply below_drew1 | refine below_set ?_ GE316.out | refine below_set ?_ GE317.out | refine below_set ?_ GE319.out) | exact HB.out)⟩⟩
      ·rw [if_neg c41] at H
       have c41b0 : (((rd_T55 l2_0 x7_1).f1) == 2) = false := beq_eq_false_iff_ne.mpr c41
       have c41b1 : (((rd_T55 l2_0 x7_1).f1) != 2) = true := bne_iff_ne.mpr c41
       have H' := Aside0.mk H
       clear H
       have hnb74 := NB317_316.out
       have hnc74 := NB316_317.out
       have hcz75_0 : wr.cell? ⟨gb317, 0, none⟩ = some (.slice A2_0 l2_0.length c2_0) := (blk_cell BK317.out 0).trans rfl
       have hcz75_1 : wr.cell? ⟨gb317, 1, none⟩ = some (.slice A2_1 l2_1.length c2_1) := (blk_cell BK317.out 1).trans rfl
       have hfz75_0 := blk_frozen BK317.out 0
       have hfz75_1 := blk_frozen BK317.out 1
       have p318 : 0 ≤ (x7_1 : Int) := of_decide_eq_true (by first | (with_reducible assumption) | assumption)
       have q318 : x7_1 < (l2_0.length : Int) := of_decide_eq_true (by first | (with_reducible assumption) | assumption)
       obtain ⟨ad318, e318, hx318_0, hx318_1, hx318_2, hx318_3⟩ := at_T55 HR2_0.out x7_1 p318 q318
       cases e318
       replace hx318_0 := (HB.out.cell (World.block_lt_of_cell? w _ hx318_0)).trans hx318_0
       replace hx318_1 := (HB.out.cell (World.block_lt_of_cell? w _ hx318_1)).trans hx318_1
       replace hx318_2 := (HB.out.cell (World.block_lt_of_cell? w _ hx318_2)).trans hx318_2
       replace hx318_3 := (HB.out.cell (World.block_lt_of_cell? w _ hx318_3)).trans hx318_3
       replace p318 := eq_true p318
       replace q318 := eq_true q318
       go_wp2_with (first | ((with_reducible refine gate_dst (N := 8) rfl ?_); refine box_event ?hg (N := 8) ?hd (cs := #[.string (⟨#[]⟩ : ByteArray), .int .i64 0, .int .i64 0, .int .i64 0]) (t := 55) ?hr ?_; (case hd => rfl); (case hg => rfl); (case hr => first | (go_simp; done) | (go_simp; rfl)); intro gb319 hg w76 hbox hb; have n0_ := Aside0.mk (blk_below (g := gb316) (o := .cells #[.slice A1_0 l1_0.length c1_0, .slice A1_1 l1_1.length c1_1] 50 (0, 0)) (by (with_reducible repeat (first | refine blk_drewN ?_ _ | refine blk_drew ?_ | refine blk_alloc ?_ _)); exact BK316.out) hb); have n1_ := Aside0.mk (blk_below (g := gb317) (o := .cells #[.slice (some ad318) l2_0.length c2_0, .slice A2_1 l2_1.length c2_1] 50 (0, 0)) (by (with_reducible repeat (first | refine blk_drewN ?_ _ | refine blk_drew ?_ | refine blk_alloc ?_ _)); exact BK317.out) hb); have n2_ := Aside0.mk (below_step (by repeat (first | (with_reducible first | exact HB.out | apply below_alloc | apply pw_below_drewN | apply below_drew1 | refine below_set ?_ GE316.out | refine below_set ?_ GE317.out) | exact HB.out)) hb); have n3_ := Aside0.mk (hbox); have n4_ := Aside0.mk ((by rw [hg]; exact (below_size (by repeat (first | (with_reducible first | exact HB.out | apply below_alloc | apply pw_below_drewN | apply below_drew1 | refine below_set ?_ GE316.out | refine below_set ?_ GE317.out) | exact HB.out))) : w.heap.size ≤ gb319)); have n5_ := Aside0.mk ((by rw [hg]; exact (below_size (by repeat (first | (with_reducible first | exact HB.out | apply below_alloc | apply pw_below_drewN | apply below_drew1 | refine below_set ?_ GE316.out | refine below_set ?_ GE317.out) | exact HB.out))) : w.heap.size ≤ gb319)); have n6_ := Aside0.mk ((by rw [hg]; exact Nat.ne_of_lt (blk_lt (g := gb316) (o := .cells #[.slice A1_0 l1_0.length c1_0, .slice A1_1 l1_1.length c1_1] 50 (0, 0)) (by (with_reducible repeat (first | refine blk_drewN ?_ _ | refine blk_drew ?_ | refine blk_alloc ?_ _)); exact BK316.out)) : gb316 ≠ gb319)); have n7_ := Aside0.mk ((by rw [hg]; exact Nat.ne_of_gt (blk_lt (g := gb316) (o := .cells #[.slice A1_0 l1_0.length c1_0, .slice A1_1 l1_1.length c1_1] 50 (0, 0)) (by (with_reducible repeat (first | refine blk_drewN ?_ _ | refine blk_drew ?_ | refine blk_alloc ?_ _)); exact BK316.out)) : gb319 ≠ gb316)); have n8_ := Aside0.mk ((by rw [hg]; exact Nat.ne_of_lt (blk_lt (g := gb317) (o := .cells #[.slice (some ad318) l2_0.length c2_0, .slice A2_1 l2_1.length c2_1] 50 (0, 0)) (by (with_reducible repeat (first | refine blk_drewN ?_ _ | refine blk_drew ?_ | refine blk_alloc ?_ _)); exact BK317.out)) : gb317 ≠ gb319)); have n9_ := Aside0.mk ((by rw [hg]; exact Nat.ne_of_gt (blk_lt (g := gb317) (o := .cells #[.slice (some ad318) l2_0.length c2_0, .slice A2_1 l2_1.length c2_1] 50 (0, 0)) (by (with_reducible repeat (first | refine blk_drewN ?_ _ | refine blk_drew ?_ | refine blk_alloc ?_ _)); exact BK317.out)) : gb319 ≠ gb317)); clear BK316; clear BK317; clear HB; have BK316 := n0_; have BK317 := n1_; have HB := n2_; have BK319 := n3_; have GW319 := n4_; have GE319 := n5_; have NB316_319 := n6_; have NB319_316 := n7_; have NB317_319 := n8_; have NB319_317 := n9_; clear n0_ n1_ n2_ n3_ n4_ n5_ n6_ n7_ n8_ n9_; clear hb hbox hg; have hnb77 := NB319_316.out; have hnc77 := NB316_319.out; have hnb78 := NB319_317.out; have hnc78 := NB317_319.out; have hcz79_0 : w76.cell? ⟨gb319, 0, none⟩ = some (.string (⟨#[]⟩ : ByteArray)) := (blk_cell BK319.out 0).trans rfl; have hcz79_1 : w76.cell? ⟨gb319, 1, none⟩ = some (.int .i64 0) := (blk_cell BK319.out 1).trans rfl; have hcz79_2 : w76.cell? ⟨gb319, 2, none⟩ = some (.int .i64 0) := (blk_cell BK319.out 2).trans rfl; have hcz79_3 : w76.cell? ⟨gb319, 3, none⟩ = some (.int .i64 0) := (blk_cell BK319.out 3).trans rfl; have hfz79_0 := blk_frozen BK319.out 0; have hfz79_1 := blk_frozen BK319.out 1; have hfz79_2 := blk_frozen BK319.out 2; have hfz79_3 := blk_frozen BK319.out 3))
       go_roundg k1
       case measure => have := HK1.out; omega
       case rel => exact ⟨(wrap64 (x7_1 + 1)), (by first | rfl | (simp; done) | (simp [*]; done)), H', ⟨by have := HK1.out; omega⟩, ⟨by (with_reducible repeat (first | refine blk_drewN ?_ _ | refine blk_drew ?_ | refine blk_alloc ?_ _)); refine blk_far ?_ NB316_319.out _; (with_reducible repeat (first | refine blk_drewN ?_ _ | refine blk_drew ?_ | refine blk_alloc ?_ _)); refine blk_far ?_ NB316_319.out _; (with_reducible repeat (first | refine blk_drewN ?_ _ | refine blk_drew ?_ | refine blk_alloc ?_ _)); refine blk_far ?_ NB316_319.out _; (with_reducible repeat (first | refine blk_drewN ?_ _ | refine blk_drew ?_ | refine blk_alloc ?_ _)); refine blk_far ?_ NB316_319.out _; (with_reducible repeat (first | refine blk_drewN ?_ _ | refine blk_drew ?_ | refine blk_alloc ?_ _)); exact BK316.out⟩, ⟨by (with_reducible repeat (first | refine blk_drewN ?_ _ | refine blk_drew ?_ | refine blk_alloc ?_ _)); refine blk_far ?_ NB317_319.out _; (with_reducible repeat (first | refine blk_drewN ?_ _ | refine blk_drew ?_ | refine blk_alloc ?_ _)); refine blk_far ?_ NB317_319.out _; (with_reducible repeat (first | refine blk_drewN ?_ _ | refine blk_drew ?_ | refine blk_alloc ?_ _)); refine blk_far ?_ NB317_319.out _; (with_reducible repeat (first | refine blk_drewN ?_ _ | refine blk_drew ?_ | refine blk_alloc ?_ _)); refine blk_far ?_ NB317_319.out _; (with_reducible repeat (first | refine blk_drewN ?_ _ | refine blk_drew ?_ | refine blk_alloc ?_ _)); exact BK317.out⟩, ⟨by repeat (first | (with_reducible first | exact HB.out | apply below_alloc | apply pw_below_drewN | apply below_drew1 | refine below_set ?_ GE316.out | refine below_set ?_ GE317.out | refine below_set ?_ GE319.out) | exact HB.out)⟩⟩
    ·rw [if_neg c7] at H
     exact absurd H (by simp)
   ·rw [if_neg c6] at H
    have c6b0 : decide (x7_1 < (l2_0.length : Int)) = false := decide_eq_false c6
    clear c6
    obtain rfl := Option.some.inj H
    have hnb80 := NB317_316.out
    have hnc80 := NB316_317.out
    have hcz81_0 : wr.cell? ⟨gb317, 0, none⟩ = some (.slice A2_0 l2_0.length c2_0) := (blk_cell BK317.out 0).trans rfl
    have hcz81_1 : wr.cell? ⟨gb317, 1, none⟩ = some (.slice A2_1 l2_1.length c2_1) := (blk_cell BK317.out 1).trans rfl
    have hfz81_0 := blk_frozen BK317.out 0
    have hfz81_1 := blk_frozen BK317.out 1
    go_wp2
    go_ret
    exact ⟨by first | rfl | (simp [errW_none, errW_some] <;> rfl) | (simp [*, errW_none, errW_some] <;> rfl), by repeat (first | (with_reducible first | exact HB.out | apply below_alloc | apply pw_below_drewN | apply below_drew1 | refine below_set ?_ GE316.out | refine below_set ?_ GE317.out) | exact HB.out)⟩
end Go.Proofs.Ythpjpkcfepmhkaa.PAll
