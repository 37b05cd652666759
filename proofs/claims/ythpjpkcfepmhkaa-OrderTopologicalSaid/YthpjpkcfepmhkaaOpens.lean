/- What came in as data, laid open by its kind: for every program, whatever its types' numbers. -/
import Derived.Deep.Slices
import Derived.ChangeArms
import Derived.SizedLaws
import Derived.Test.YthpjpkcfepmhkaaWWords
namespace Go.Proofs.Ythpjpkcfepmhkaa.Opens
open Go.RowKit Go.Proofs.YthpjpkcfepmhkaaW.PrintWords Go.Deep

/-- Whatever reads at type t, and is within the form's reach, is of kind d, and G. -/
def Opens {α : Type} (P : Program) (w : World) (t : TypeId) (d : Kd α) (G : α → Prop) : Prop :=
  ∀ (H : Type) (enc : TypeId × Value → H) (base : Nat) (spare : Nat → Bool) (held : Bool) (fuel : Nat) (cs : List Value) (x : DataW H × List MemPlace),
    DataW.trod enc P w base spare held fuel t cs = some x → (x.1.weights P t).all (· ≤ reachBytes) = true → ∃ a, d.K w a cs ∧ G a

section
variable {P : Program} {w : World}
theorem opens_int {t : TypeId} {k : IntKind} (hu : P.underlying t = some (.int k)) : Opens P w t (Kd.int k) (fun a => (Lit.int k a).wf = true) := by
  intro H enc base spare held fuel cs x h _
  obtain ⟨n, rfl, _, hw⟩ := DataW.trod_int hu h
  exact ⟨n, rfl, hw⟩
theorem opens_bool {t : TypeId} (hu : P.underlying t = some .bool) : Opens P w t Kd.bool (fun _ => True) := by
  intro H enc base spare held fuel cs x h _
  obtain ⟨n, rfl, _⟩ := DataW.trod_bool hu h
  exact ⟨n, rfl, trivial⟩
theorem opens_string {t : TypeId} (hu : P.underlying t = some .string) : Opens P w t Kd.string (fun a => a.size ≤ 140737488351232) := by
  intro H enc base spare held fuel cs x h hw
  obtain ⟨s, rfl, rfl, _⟩ := DataW.trod_string hu h
  refine ⟨s, rfl, ?_⟩
  simp only [DataW.weights, List.all_cons, List.all_nil, Bool.and_true, decide_eq_true_eq] at hw
  rw [Array.length_toList] at hw
  exact hw
theorem weightsAll_mem {H : Type} {e : TypeId} : ∀ {l : List (DataW H)} {d : DataW H}, d ∈ l → ∀ n ∈ d.weights P e, n ∈ DataW.weightsAll P e l
  | c :: l, d, hd, n, hn => by
    simp only [DataW.weightsAll, List.mem_append]
    rcases List.mem_cons.1 hd with rfl | hd
    · exact .inl hn
    · exact .inr (weightsAll_mem hd n hn)
theorem list_of {α : Type} {p : Nat → α → Prop} : ∀ (n : Nat), (∀ i, i < n → ∃ a, p i a) → ∃ l : List α, l.length = n ∧ ∀ i a, l[i]? = some a → p i a
  | 0, _ => ⟨[], rfl, fun i a h => by simp at h⟩
  | n + 1, h => by
    obtain ⟨l, hl, hp⟩ := list_of n (fun i hi => h i (by omega))
    obtain ⟨a, ha⟩ := h n (by omega)
    refine ⟨l ++ [a], by simp [hl], fun i b hb => ?_⟩
    rcases Nat.lt_or_ge i l.length with hi | hi
    · rw [List.getElem?_append_left hi] at hb
      exact hp i b hb
    · rw [List.getElem?_append_right hi] at hb
      have h0 : i - l.length = 0 := by
        rcases Nat.eq_zero_or_pos (i - l.length) with h0 | h0
        · exact h0
        · rw [List.getElem?_eq_none (by simp; omega)] at hb; cases hb
      rw [h0] at hb
      have : a = b := by simpa using hb
      subst this
      have : i = n := by omega
      subst this
      exact ha
theorem opens_slice {α : Type} {t e : TypeId} {d : Kd α} {G : α → Prop} {B : Nat} (hu : P.underlying t = some (.slice e)) (he : Opens P w e d G) (hc : P.cellsOf e = d.sz) (hB : P.bytesOf e = B) :
    Opens P w t (Kd.slice e d) (fun l => l.length * B ≤ 140737488351232 ∧ l.length ≤ maxLen ∧ ∀ x ∈ l, G x) := by
  intro H enc base spare held fuel cs x h hw
  rcases open_slice hu h with ⟨rfl, rfl⟩ | ⟨a, len, cap, m, n, D, Pl, rfl, hb, hl, hm, hmm, rfl, hi⟩
  · exact ⟨[], ⟨none, 0, rfl, by simp, ⟨rfl, by simp, fun h => absurd h (by simp)⟩⟩, by simp, by simp, fun x hx => by cases hx⟩
  · have hlm : len ≤ m := by rw [hmm]; split <;> omega
    have hw' := hw
    simp only [DataW.weights, hu, List.all_cons, Bool.and_eq_true, decide_eq_true_eq, List.length_map, List.length_range, List.all_append] at hw'
    obtain ⟨hw1, hw2, hw3⟩ := hw'
    have hel : ∀ i, i < len → ∃ v, (∃ c, c.length = d.sz ∧ d.K w v c ∧ ∀ q u, c[q]? = some u → w.cell? (a.add (i * d.sz + q)) = some u) ∧ G v := by
      intro i hil
      obtain ⟨cs', hcs, ht⟩ := hi i (by omega)
      have hwi : ((D i).weights P e).all (· ≤ reachBytes) = true := by
        rw [List.all_eq_true]
        intro q hq
        have hmem : D i ∈ (List.range len).map D := List.mem_map.2 ⟨i, List.mem_range.2 hil, rfl⟩
        exact (List.all_eq_true.1 hw2) q (weightsAll_mem hmem q hq)
      obtain ⟨v, hK, hG⟩ := he H enc base spare held n cs' (D i, Pl i) ht hwi
      obtain ⟨_, hcl, hat⟩ := World.cells?_some hcs
      refine ⟨v, ⟨cs', by rw [hcl, hc], hK, fun q u hq => ?_⟩, hG⟩
      have hql : q < P.cellsOf e := by
        rw [← hcl]
        exact (List.getElem?_eq_some_iff.1 hq).1
      rw [← hc, ← Go.Deep.add_add, hat q hql, hq]
    obtain ⟨l, hll, hlp⟩ := list_of len hel
    refine ⟨l, ⟨some a, cap, by rw [hll], by omega, ⟨rfl, ?_, fun _ => ⟨a, rfl, fun j p hj => (hlp j p hj).1⟩⟩⟩, ?_, by omega, fun x hx => ?_⟩
    · unfold maxLen at hm; omega
    · rw [hll, ← hB]
      refine Nat.le_trans (Nat.mul_le_mul_right _ ?_) hw1
      omega
    · obtain ⟨j, hj, rfl⟩ := List.getElem_of_mem hx
      exact (hlp j _ (List.getElem?_eq_getElem hj)).2
/-- A struct's cells, part by part. -/
def Segs {H : Type} (enc : TypeId × Value → H) (P : Program) (w : World) (base : Nat) (spare : Nat → Bool) (held : Bool) (n : Nat) : List TypeId → List Value → List (DataW H × List MemPlace) → Prop
  | [], cs, xs => cs = [] ∧ xs = []
  | t :: ts, cs, xs => ∃ c r y ys, cs = c ++ r ∧ xs = y :: ys ∧ c.length = P.cellsOf t ∧ DataW.trod enc P w base spare held n t c = some y ∧ Segs enc P w base spare held n ts r ys
def OpensF {α : Type} (P : Program) (w : World) (ts : List TypeId) (d : Kd α) (G : α → Prop) : Prop :=
  ∀ (H : Type) (enc : TypeId × Value → H) (base : Nat) (spare : Nat → Bool) (held : Bool) (n : Nat) (cs : List Value) (xs : List (DataW H × List MemPlace)),
    Segs enc P w base spare held n ts cs xs → (DataW.weightsEach P ts (xs.map (·.1))).all (· ≤ reachBytes) = true → ∃ a, d.K w a cs ∧ G a
theorem opensF_one {α : Type} {t : TypeId} {d : Kd α} {G : α → Prop} (h : Opens P w t d G) : OpensF P w [t] d G := by
  intro H enc base spare held n cs xs hs hw
  obtain ⟨c, r, y, ys, rfl, rfl, _, ht, rfl, rfl⟩ := hs
  simp only [List.map_cons, List.map_nil, DataW.weightsEach, List.append_nil] at hw
  obtain ⟨a, ha, hG⟩ := h H enc base spare held n c y ht hw
  exact ⟨a, by rw [List.append_nil]; exact ha, hG⟩
theorem opensF_cons {α β : Type} {t : TypeId} {ts : List TypeId} {d : Kd α} {G : α → Prop} {d' : Kd β} {G' : β → Prop} (h : Opens P w t d G) (h' : OpensF P w ts d' G') : OpensF P w (t :: ts) (Kd.pair d d') (fun p => G p.1 ∧ G' p.2) := by
  intro H enc base spare held n cs xs hs hw
  obtain ⟨c, r, y, ys, rfl, rfl, _, ht, hr⟩ := hs
  simp only [List.map_cons, DataW.weightsEach, List.all_append, Bool.and_eq_true] at hw
  obtain ⟨a, ha, hG⟩ := h H enc base spare held n c y ht hw.1
  obtain ⟨b, hb, hG'⟩ := h' H enc base spare held n r ys hr hw.2
  exact ⟨(a, b), ⟨c, r, rfl, ha, hb⟩, hG, hG'⟩
/-- The fields' places, one behind the other. -/
def inLine (P : Program) : List Field → Nat → Nat → Bool
  | [], o, e => o == e
  | f :: fs, o, e => (f.offset == o) && inLine P fs (o + P.cellsOf f.type) e
theorem segs_of {H : Type} {enc : TypeId × Value → H} {base : Nat} {spare : Nat → Bool} {held : Bool} {n : Nat} : ∀ (fs : List Field) (o e : Nat) (cs : List Value) (xs : List (DataW H × List MemPlace)), inLine P fs o e = true → cs.length = e → xs.length = fs.length →
    (∀ (i : Nat) (f : Field), fs[i]? = some f → DataW.trod enc P w base spare held n f.type ((cs.drop f.offset).take (P.cellsOf f.type)) = xs[i]?) → Segs enc P w base spare held n (fs.map (·.type)) (cs.drop o) xs
  | [], o, e, cs, xs, hin, hcl, hxl, _ => by
    simp only [inLine, beq_iff_eq] at hin
    exact ⟨List.drop_of_length_le (by omega), List.length_eq_zero_iff.1 hxl⟩
  | f :: fs, o, e, cs, xs, hin, hcl, hxl, hf => by
    simp only [inLine, Bool.and_eq_true, beq_iff_eq] at hin
    obtain ⟨hfo, hin⟩ := hin
    match xs, hxl with
    | y :: ys, hxl =>
      have h0 := hf 0 f rfl
      have hle : o + P.cellsOf f.type ≤ e := by
        have key : ∀ (fs : List Field) (o e : Nat), inLine P fs o e = true → o ≤ e := by
          intro fs
          induction fs with
          | nil => intro o e h; simp only [inLine, beq_iff_eq] at h; omega
          | cons g gs ih => intro o e h; simp only [inLine, Bool.and_eq_true, beq_iff_eq] at h; have := ih _ _ h.2; omega
        exact key _ _ _ hin
      have ih := segs_of fs (o + P.cellsOf f.type) e cs ys hin hcl (by simpa using hxl) (fun i g hg => by
        have := hf (i + 1) g (by simpa using hg)
        simpa using this)
      refine ⟨(cs.drop o).take (P.cellsOf f.type), cs.drop (o + P.cellsOf f.type), y, ys, ?_, rfl, ?_, ?_, ih⟩
      · rw [← List.drop_drop, List.take_append_drop]
      · rw [List.length_take, List.length_drop]; exact Nat.min_eq_left (by omega)
      · rw [← hfo]; simpa using h0
theorem opens_struct {α : Type} {t : TypeId} {fs : Array Field} {d : Kd α} {G : α → Prop} (hu : P.underlying t = some (.struct fs)) (hin : inLine P fs.toList 0 (P.cellsOf t) = true) (h : OpensF P w (fs.toList.map (·.type)) d G) : Opens P w t d G := by
  intro H enc base spare held fuel cs x hx hw
  obtain ⟨xs, n, _, rfl, hcl, hxl, hf⟩ := DataW.trod_struct hu hx
  have hs := segs_of (enc := enc) (P := P) (w := w) (base := base) (spare := spare) (held := held) (n := n) fs.toList 0 (P.cellsOf t) cs xs hin hcl (by simpa using hxl) (fun i f hfi => hf i f (by simpa using hfi))
  rw [List.drop_zero] at hs
  refine h H enc base spare held n cs xs hs ?_
  simpa only [DataW.weights, hu] using hw
theorem opens_iso {α β : Type} {t : TypeId} {d : Kd α} {G : α → Prop} (f : β → α) (mk : α → β) (hfm : ∀ p, f (mk p) = p) (h : Opens P w t d G) : Opens P w t (Kd.iso d f) (fun x => G (f x)) := by
  intro H enc base spare held fuel cs x hx hw
  obtain ⟨a, ha, hG⟩ := h H enc base spare held fuel cs x hx hw
  exact ⟨mk a, by show d.K w (f (mk a)) cs; rw [hfm]; exact ha, by show G (f (mk a)); rw [hfm]; exact hG⟩
theorem Opens.imp {α : Type} {t : TypeId} {d : Kd α} {G G' : α → Prop} (h : Opens P w t d G) (hg : ∀ a, G a → G' a) : Opens P w t d G' := by
  intro H enc base spare held fuel cs x hx hw
  obtain ⟨a, ha, hG⟩ := h H enc base spare held fuel cs x hx hw
  exact ⟨a, ha, hg a hG⟩
/-- As a row has it: an argument. -/
theorem Opens.arg {α : Type} {t : TypeId} {d : Kd α} {G : α → Prop} (h : Opens P w t d G) {H : Type} {enc : TypeId × Value → H} {base : Nat} {spare : Nat → Bool} {held : Bool} {v : Value} {x : DataW H} {ps : List MemPlace} {ts : List TypeId} {ds : List (DataW H)} {j : Nat}
    (ht : DataW.Trod enc P w base spare held t v x ps) (hsz : (DataW.weightsEach P ts ds).all (· ≤ reachBytes) = true) (hts : ts[j]? = some t) (hds : ds[j]? = some x) : ∃ a, d.K w a v.cells.toList ∧ G a := by
  obtain ⟨fuel, hf⟩ := ht
  refine h H enc base spare held fuel _ (x, ps) hf ?_
  rw [List.all_eq_true]
  intro q hq
  exact (List.all_eq_true.1 hsz) q (DataW.weights_mem_each hts hds q hq)
end
end Go.Proofs.Ythpjpkcfepmhkaa.Opens
