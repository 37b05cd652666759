/- Laid together by a program of this session (wip/bundle.py) out of its own texts. -/
import Derived.Deep.Slices
import Derived.ChangeArms
import Derived.SizedLaws
import Derived.Test.YthpjpkcfepmhkaaWWords
import Derived.Test.YthpjpkcfepmhkaaProg
import Derived.Below
import Derived.Deep.Draws
import Derived.Deep.AppendLies
import Derived.Maps.AppendAt
import Derived.OwnWalk
import Derived.Laws.BytesArg
import Derived.Laws.MakeOwn
import Derived.Laws.OwnMore
import Derived.Deep.OwnRows
import Derived.Tactics
import Derived.Lib.ConvBytes
import Derived.Laws.Slices
import Derived.WalkKit
import Derived.KernelRfl
import Derived.RowKit3
import Derived.Deep.LoopGhost
import Derived.Deep.QuietTactic
import Derived.BigQuiet
import Derived.WideLaws
import Derived.Deep.DeepCutAuto
import Derived.Deep.CutBlock
import Derived.Deep.RegionHeld3
import Derived.Laws.Rows
import Derived.Lib.AppendStr
import Derived.ArgAppend
import Derived.Laws.IdiomCopy
import Derived.OrdersHeld
import Derived.Laws.BitsLemmas
import Derived.RowKit
import Derived.Test.YthpjpkcfepmhkaaWLast
import Derived.Test.YthpjpkcfepmhkaaWTab
import Derived.Test.YthpjpkcfepmhkaaWQPut
import Derived.Test.YthpjpkcfepmhkaaWApart
import Derived.Test.YthpjpkcfepmhkaaWArr
import Derived.Test.YthpjpkcfepmhkaaWZeros
import Derived.Test.YthpjpkcfepmhkaaWFoot
import Derived.Test.YthpjpkcfepmhkaaWKept
import Derived.Test.YthpjpkcfepmhkaaWShare
import Derived.Test.YthpjpkcfepmhkaaWN
import Derived.Test.YthpjpkcfepmhkaaWRepsOne
import Derived.Test.YthpjpkcfepmhkaaWInv
import Derived.Test.YthpjpkcfepmhkaaWGuard
import Derived.Test.YthpjpkcfepmhkaaWNEv
import Derived.Test.YthpjpkcfepmhkaaWMore
import Derived.WalkSpells
import Derived.WalkLawsBesides
import Derived.Lib.Hide
import Derived.Deep.RegionLaw
import Derived.Deep.Cut
import Derived.Deep.CutRange
import Derived.Maps.OwnSet
import Derived.Maps.RangeWalk
namespace Go.Proofs.Ythpjpkcfepmhkaa.Opens
open Go.RowKit Go.Proofs.YthpjpkcfepmhkaaW.PrintWords Go.Deep
/-- Whatever reads at type t, and is within the form's reach, is of kind d, and G. -/
def Opens {α : Type} (P : Program) (w : World) (t : TypeId) (d : Kd α) (G : α → Prop) : Prop :=
  ∀ (H : Type) (enc : TypeId × Value → H) (base : Nat) (spare : Nat → Bool) (held : Bool) (fuel : Nat) (cs : List Value) (x : DataW H × List MemPlace),
    DataW.trod enc P w base spare held fuel t cs = some x → (x.1.weights P t).all (· ≤ reachBytes) = true → ∃ a, d.K w a cs ∧ G a
section
variable {P : Program} {w : World}
theorem opens_int {t : TypeId} {k : IntKind} (hu : P.underlying t = some (.int k)) : Opens P w t (Kd.int k) (fun a => (Lit.int k a).wf = true) := by
  intro H enc base spare held fuel cs x h _
  obtain ⟨n, rfl, _, hw⟩ := DataW.trod_int hu h
  exact ⟨n, rfl, hw⟩
theorem opens_string {t : TypeId} (hu : P.underlying t = some .string) : Opens P w t Kd.string (fun a => a.size ≤ 140737488351232) := by
  intro H enc base spare held fuel cs x h hw
  obtain ⟨s, rfl, rfl, _⟩ := DataW.trod_string hu h
  refine ⟨s, rfl, ?_⟩
  simp only [DataW.weights, List.all_cons, List.all_nil, Bool.and_true, decide_eq_true_eq] at hw
  rw [Array.length_toList] at hw
  exact hw
theorem weightsAll_mem {H : Type} {e : TypeId} : ∀ {l : List (DataW H)} {d : DataW H}, d ∈ l → ∀ n ∈ d.weights P e, n ∈ DataW.weightsAll P e l
  | c :: l, d, hd, n, hn => by
    simp only [DataW.weightsAll, List.mem_append]
    rcases List.mem_cons.1 hd with rfl | hd
    · exact .inl hn
    · exact .inr (weightsAll_mem hd n hn)
theorem list_of {α : Type} {p : Nat → α → Prop} : ∀ (n : Nat), (∀ i, i < n → ∃ a, p i a) → ∃ l : List α, l.length = n ∧ ∀ i a, l[i]? = some a → p i a
  | 0, _ => ⟨[], rfl, fun i a h => by simp at h⟩
  | n + 1, h => by
    obtain ⟨l, hl, hp⟩ := list_of n (fun i hi => h i (by omega))
    obtain ⟨a, ha⟩ := h n (by omega)
    refine ⟨l ++ [a], by simp [hl], fun i b hb => ?_⟩
    rcases Nat.lt_or_ge i l.length with hi | hi
    · rw [List.getElem?_append_left hi] at hb
      exact hp i b hb
    · rw [List.getElem?_append_right hi] at hb
      have h0 : i - l.length = 0 := by
        rcases Nat.eq_zero_or_pos (i - l.length) with h0 | h0
        · exact h0
        · rw [List.getElem?_eq_none (by simp; omega)] at hb; cases hb
      rw [h0] at hb
      have : a = b := by simpa using hb
      subst this
      have : i = n := by omega
      subst this
      exact ha
theorem opens_slice {α : Type} {t e : TypeId} {d : Kd α} {G : α → Prop} {B : Nat} (hu : P.underlying t = some (.slice e)) (he : Opens P w e d G) (hc : P.cellsOf e = d.sz) (hB : P.bytesOf e = B) :
    Opens P w t (Kd.slice e d) (fun l => l.length * B ≤ 140737488351232 ∧ l.length ≤ maxLen ∧ ∀ x ∈ l, G x) := by
  intro H enc base spare held fuel cs x h hw
  rcases open_slice hu h with ⟨rfl, rfl⟩ | ⟨a, len, cap, m, n, D, Pl, rfl, hb, hl, hm, hmm, rfl, hi⟩
  · exact ⟨[], ⟨none, 0, rfl, by simp, ⟨rfl, by simp, fun h => absurd h (by simp)⟩⟩, by simp, by simp, fun x hx => by cases hx⟩
  · have hlm : len ≤ m := by rw [hmm]; split <;> omega
    have hw' := hw
    simp only [DataW.weights, hu, List.all_cons, Bool.and_eq_true, decide_eq_true_eq, List.length_map, List.length_range, List.all_append] at hw'
    obtain ⟨hw1, hw2, hw3⟩ := hw'
    have hel : ∀ i, i < len → ∃ v, (∃ c, c.length = d.sz ∧ d.K w v c ∧ ∀ q u, c[q]? = some u → w.cell? (a.add (i * d.sz + q)) = some u) ∧ G v := by
      intro i hil
      obtain ⟨cs', hcs, ht⟩ := hi i (by omega)
      have hwi : ((D i).weights P e).all (· ≤ reachBytes) = true := by
        rw [List.all_eq_true]
        intro q hq
        have hmem : D i ∈ (List.range len).map D := List.mem_map.2 ⟨i, List.mem_range.2 hil, rfl⟩
        exact (List.all_eq_true.1 hw2) q (weightsAll_mem hmem q hq)
      obtain ⟨v, hK, hG⟩ := he H enc base spare held n cs' (D i, Pl i) ht hwi
      obtain ⟨_, hcl, hat⟩ := World.cells?_some hcs
      refine ⟨v, ⟨cs', by rw [hcl, hc], hK, fun q u hq => ?_⟩, hG⟩
      have hql : q < P.cellsOf e := by
        rw [← hcl]
        exact (List.getElem?_eq_some_iff.1 hq).1
      rw [← hc, ← Go.Deep.add_add, hat q hql, hq]
    obtain ⟨l, hll, hlp⟩ := list_of len hel
    refine ⟨l, ⟨some a, cap, by rw [hll], by omega, ⟨rfl, ?_, fun _ => ⟨a, rfl, fun j p hj => (hlp j p hj).1⟩⟩⟩, ?_, by omega, fun x hx => ?_⟩
    · unfold maxLen at hm; omega
    · rw [hll, ← hB]
      refine Nat.le_trans (Nat.mul_le_mul_right _ ?_) hw1
      omega
    · obtain ⟨j, hj, rfl⟩ := List.getElem_of_mem hx
      exact (hlp j _ (List.getElem?_eq_getElem hj)).2
/-- A struct's cells, part by part. -/
def Segs {H : Type} (enc : TypeId × Value → H) (P : Program) (w : World) (base : Nat) (spare : Nat → Bool) (held : Bool) (n : Nat) : List TypeId → List Value → List (DataW H × List MemPlace) → Prop
  | [], cs, xs => cs = [] ∧ xs = []
  | t :: ts, cs, xs => ∃ c r y ys, cs = c ++ r ∧ xs = y :: ys ∧ c.length = P.cellsOf t ∧ DataW.trod enc P w base spare held n t c = some y ∧ Segs enc P w base spare held n ts r ys
def OpensF {α : Type} (P : Program) (w : World) (ts : List TypeId) (d : Kd α) (G : α → Prop) : Prop :=
  ∀ (H : Type) (enc : TypeId × Value → H) (base : Nat) (spare : Nat → Bool) (held : Bool) (n : Nat) (cs : List Value) (xs : List (DataW H × List MemPlace)),
    Segs enc P w base spare held n ts cs xs → (DataW.weightsEach P ts (xs.map (·.1))).all (· ≤ reachBytes) = true → ∃ a, d.K w a cs ∧ G a
theorem opensF_one {α : Type} {t : TypeId} {d : Kd α} {G : α → Prop} (h : Opens P w t d G) : OpensF P w [t] d G := by
  intro H enc base spare held n cs xs hs hw
  obtain ⟨c, r, y, ys, rfl, rfl, _, ht, rfl, rfl⟩ := hs
  simp only [List.map_cons, List.map_nil, DataW.weightsEach, List.append_nil] at hw
  obtain ⟨a, ha, hG⟩ := h H enc base spare held n c y ht hw
  exact ⟨a, by rw [List.append_nil]; exact ha, hG⟩
theorem opensF_cons {α β : Type} {t : TypeId} {ts : List TypeId} {d : Kd α} {G : α → Prop} {d' : Kd β} {G' : β → Prop} (h : Opens P w t d G) (h' : OpensF P w ts d' G') : OpensF P w (t :: ts) (Kd.pair d d') (fun p => G p.1 ∧ G' p.2) := by
  intro H enc base spare held n cs xs hs hw
  obtain ⟨c, r, y, ys, rfl, rfl, _, ht, hr⟩ := hs
  simp only [List.map_cons, DataW.weightsEach, List.all_append, Bool.and_eq_true] at hw
  obtain ⟨a, ha, hG⟩ := h H enc base spare held n c y ht hw.1
  obtain ⟨b, hb, hG'⟩ := h' H enc base spare held n r ys hr hw.2
  exact ⟨(a, b), ⟨c, r, rfl, ha, hb⟩, hG, hG'⟩
/-- The fields' places, one behind the other. -/
def inLine (P : Program) : List Field → Nat → Nat → Bool
  | [], o, e => o == e
  | f :: fs, o, e => (f.offset == o) && inLine P fs (o + P.cellsOf f.type) e
theorem segs_of {H : Type} {enc : TypeId × Value → H} {base : Nat} {spare : Nat → Bool} {held : Bool} {n : Nat} : ∀ (fs : List Field) (o e : Nat) (cs : List Value) (xs : List (DataW H × List MemPlace)), inLine P fs o e = true → cs.length = e → xs.length = fs.length →
    (∀ (i : Nat) (f : Field), fs[i]? = some f → DataW.trod enc P w base spare held n f.type ((cs.drop f.offset).take (P.cellsOf f.type)) = xs[i]?) → Segs enc P w base spare held n (fs.map (·.type)) (cs.drop o) xs
  | [], o, e, cs, xs, hin, hcl, hxl, _ => by
    simp only [inLine, beq_iff_eq] at hin
    exact ⟨List.drop_of_length_le (by omega), List.length_eq_zero_iff.1 hxl⟩
  | f :: fs, o, e, cs, xs, hin, hcl, hxl, hf => by
    simp only [inLine, Bool.and_eq_true, beq_iff_eq] at hin
    obtain ⟨hfo, hin⟩ := hin
    match xs, hxl with
    | y :: ys, hxl =>
      have h0 := hf 0 f rfl
      have hle : o + P.cellsOf f.type ≤ e := by
        have key : ∀ (fs : List Field) (o e : Nat), inLine P fs o e = true → o ≤ e := by
          intro fs
          induction fs with
          | nil => intro o e h; simp only [inLine, beq_iff_eq] at h; omega
          | cons g gs ih => intro o e h; simp only [inLine, Bool.and_eq_true, beq_iff_eq] at h; have := ih _ _ h.2; omega
        exact key _ _ _ hin
      have ih := segs_of fs (o + P.cellsOf f.type) e cs ys hin hcl (by simpa using hxl) (fun i g hg => by
        have := hf (i + 1) g (by simpa using hg)
        simpa using this)
      refine ⟨(cs.drop o).take (P.cellsOf f.type), cs.drop (o + P.cellsOf f.type), y, ys, ?_, rfl, ?_, ?_, ih⟩
      · rw [← List.drop_drop, List.take_append_drop]
      · rw [List.length_take, List.length_drop]; exact Nat.min_eq_left (by omega)
      · rw [← hfo]; simpa using h0
theorem opens_struct {α : Type} {t : TypeId} {fs : Array Field} {d : Kd α} {G : α → Prop} (hu : P.underlying t = some (.struct fs)) (hin : inLine P fs.toList 0 (P.cellsOf t) = true) (h : OpensF P w (fs.toList.map (·.type)) d G) : Opens P w t d G := by
  intro H enc base spare held fuel cs x hx hw
  obtain ⟨xs, n, _, rfl, hcl, hxl, hf⟩ := DataW.trod_struct hu hx
  have hs := segs_of (enc := enc) (P := P) (w := w) (base := base) (spare := spare) (held := held) (n := n) fs.toList 0 (P.cellsOf t) cs xs hin hcl (by simpa using hxl) (fun i f hfi => hf i f (by simpa using hfi))
  rw [List.drop_zero] at hs
  refine h H enc base spare held n cs xs hs ?_
  simpa only [DataW.weights, hu] using hw
theorem opens_iso {α β : Type} {t : TypeId} {d : Kd α} {G : α → Prop} (f : β → α) (mk : α → β) (hfm : ∀ p, f (mk p) = p) (h : Opens P w t d G) : Opens P w t (Kd.iso d f) (fun x => G (f x)) := by
  intro H enc base spare held fuel cs x hx hw
  obtain ⟨a, ha, hG⟩ := h H enc base spare held fuel cs x hx hw
  exact ⟨mk a, by show d.K w (f (mk a)) cs; rw [hfm]; exact ha, by show G (f (mk a)); rw [hfm]; exact hG⟩
theorem Opens.imp {α : Type} {t : TypeId} {d : Kd α} {G G' : α → Prop} (h : Opens P w t d G) (hg : ∀ a, G a → G' a) : Opens P w t d G' := by
  intro H enc base spare held fuel cs x hx hw
  obtain ⟨a, ha, hG⟩ := h H enc base spare held fuel cs x hx hw
  exact ⟨a, ha, hg a hG⟩
/-- As a row has it: an argument. -/
theorem Opens.arg {α : Type} {t : TypeId} {d : Kd α} {G : α → Prop} (h : Opens P w t d G) {H : Type} {enc : TypeId × Value → H} {base : Nat} {spare : Nat → Bool} {held : Bool} {v : Value} {x : DataW H} {ps : List MemPlace} {ts : List TypeId} {ds : List (DataW H)} {j : Nat}
    (ht : DataW.Trod enc P w base spare held t v x ps) (hsz : (DataW.weightsEach P ts ds).all (· ≤ reachBytes) = true) (hts : ts[j]? = some t) (hds : ds[j]? = some x) : ∃ a, d.K w a v.cells.toList ∧ G a := by
  obtain ⟨fuel, hf⟩ := ht
  refine h H enc base spare held fuel _ (x, ps) hf ?_
  rw [List.all_eq_true]
  intro q hq
  exact (List.all_eq_true.1 hsz) q (DataW.weights_mem_each hts hds q hq)
end
end Go.Proofs.Ythpjpkcfepmhkaa.Opens
namespace Go.Proofs.Ythpjpkcfepmhkaa.PAll
open Go.RowKit Go.Proofs.YthpjpkcfepmhkaaW.PrintWords Go.Proofs.YthpjpkcfepmhkaaW.PrintLast Go.Proofs.YthpjpkcfepmhkaaW.PrintMore
attribute [local go_sem] max2_int min2_int max_two min_two max_three min_three max_four min_four   -- for this text's walks alone
set_option linter.unusedVariables false
set_option linter.unusedSimpArgs false
def errW : Option Int → Value
  | none => .nilIface
  | some c => .iface 0 (.int .i64 c)
theorem errW_none : errW none = .nilIface := rfl
theorem errW_some (c : Int) : errW (some c) = .iface 0 (.int .i64 c) := rfl
theorem info3 : (Try.prog.info? 3).map (fun i => (i.zero, i.size, i.bytes)) = some (some (.int .i64 0), 1, 8) := by kernel_rfl
theorem info55 : (Try.prog.info? 55).map (fun i => (i.zero, i.size, i.bytes)) = some (some (.agg #[(.string ⟨#[]⟩), (.int .i64 0), (.int .i64 0), (.int .i64 0)]), 4, 40) := by kernel_rfl
structure S55 where
  f0 : ByteArray
  f1 : Int
  f2 : Int
  f3 : Int
def z55 : S55 := ⟨(⟨#[]⟩ : ByteArray), (0 : Int), (0 : Int), (0 : Int)⟩
def k55 : Kd S55 := Kd.iso (Kd.pair Kd.string (Kd.pair (Kd.int .i64) (Kd.pair (Kd.int .i64) (Kd.int .i64)))) (fun x : S55 => (x.f0, x.f1, x.f2, x.f3))
theorem k55_open {w : World} {x : S55} {cs : List Value} (h : k55.K w x cs) : cs = [.string x.f0, .int .i64 x.f1, .int .i64 x.f2, .int .i64 x.f3] := by
  obtain ⟨_, _, rfl, rfl, ⟨_, _, rfl, rfl, ⟨_, _, rfl, rfl, rfl⟩⟩⟩ := h
  exact rfl
theorem k55_mk (w : World) (x : S55)  : k55.K w x [.string x.f0, .int .i64 x.f1, .int .i64 x.f2, .int .i64 x.f3] := ⟨[.string x.f0], [.int .i64 x.f1, .int .i64 x.f2, .int .i64 x.f3], rfl, rfl, ⟨[.int .i64 x.f1], [.int .i64 x.f2, .int .i64 x.f3], rfl, rfl, ⟨[.int .i64 x.f2], [.int .i64 x.f3], rfl, rfl, rfl⟩⟩⟩
def rd_T55 (xs : List S55) (i : Int) : S55 := xs.getD i.toNat z55
theorem at_T55 {w : World} {A : Option Addr} {n : Nat} {xs : List S55} (h : Kd.C k55 w A n xs) (i : Int) (h0 : 0 ≤ i) (h1 : i < n) : ∃ ad , A = some ad ∧ w.cell? (ad.add (i.toNat * 4)) = some (.string (rd_T55 xs i).f0) ∧ w.cell? ⟨(ad.add (i.toNat * 4)).block, (ad.add (i.toNat * 4)).off + 1, none⟩ = some (.int .i64 (rd_T55 xs i).f1) ∧ w.cell? ⟨(ad.add (i.toNat * 4)).block, (ad.add (i.toNat * 4)).off + 2, none⟩ = some (.int .i64 (rd_T55 xs i).f2) ∧ w.cell? ⟨(ad.add (i.toNat * 4)).block, (ad.add (i.toNat * 4)).off + 3, none⟩ = some (.int .i64 (rd_T55 xs i).f3) := by
  obtain ⟨ad, c, e, _, hK, hc0⟩ := Kd.C_get h z55 i h0 h1
  have hc : ∀ j u, c[j]? = some u → w.cell? (ad.add (i.toNat * 4 + j)) = some u := hc0
  obtain rfl := k55_open hK
  exact ⟨ad, e, hc 0 _ rfl, by rw [← add_field _ _ 1 (by omega)]; exact hc 1 _ rfl, by rw [← add_field _ _ 2 (by omega)]; exact hc 2 _ rfl, by rw [← add_field _ _ 3 (by omega)]; exact hc 3 _ rfl⟩
structure S50 where
  f0 : (List S55)
  f1 : (List Int)
def z50 : S50 := ⟨([] : List S55), ([] : List Int)⟩
def k50 : Kd S50 := Kd.iso (Kd.pair (Kd.slice 55 k55) (Kd.slice 5 (Kd.int .u8))) (fun x : S50 => (x.f0, x.f1))
theorem k50_open {w : World} {x : S50} {cs : List Value} (h : k50.K w x cs) : ∃ A0 c0 A1 c1, cs = [.slice A0 x.f0.length c0, .slice A1 x.f1.length c1] ∧ x.f0.length ≤ c0 ∧ k55.C w A0 x.f0.length x.f0 ∧ x.f1.length ≤ c1 ∧ (Kd.int .u8).C w A1 x.f1.length x.f1 := by
  obtain ⟨_, _, rfl, ⟨A0, c0, rfl, l0, g0⟩, ⟨A1, c1, rfl, l1, g1⟩⟩ := h
  exact ⟨A0, c0, A1, c1, rfl, l0, g0, l1, g1⟩
theorem k50_mk (w : World) (x : S50) {A0 : Option Addr} {c0 : Nat} (l0 : x.f0.length ≤ c0) (g0 : k55.C w A0 x.f0.length x.f0) {A1 : Option Addr} {c1 : Nat} (l1 : x.f1.length ≤ c1) (g1 : (Kd.int .u8).C w A1 x.f1.length x.f1) : k50.K w x [.slice A0 x.f0.length c0, .slice A1 x.f1.length c1] := ⟨[.slice A0 x.f0.length c0], [.slice A1 x.f1.length c1], rfl, ⟨A0, c0, rfl, l0, g0⟩, ⟨A1, c1, rfl, l1, g1⟩⟩
def rd_T50 (xs : List S50) (i : Int) : S50 := xs.getD i.toNat z50
theorem at_T50 {w : World} {A : Option Addr} {n : Nat} {xs : List S50} (h : Kd.C k50 w A n xs) (i : Int) (h0 : 0 ≤ i) (h1 : i < n) : ∃ ad A0 c0 A1 c1, A = some ad ∧ w.cell? (ad.add (i.toNat * 2)) = some (.slice A0 (rd_T50 xs i).f0.length c0) ∧ w.cell? ⟨(ad.add (i.toNat * 2)).block, (ad.add (i.toNat * 2)).off + 1, none⟩ = some (.slice A1 (rd_T50 xs i).f1.length c1) ∧ (rd_T50 xs i).f0.length ≤ c0 ∧ k55.C w A0 (rd_T50 xs i).f0.length (rd_T50 xs i).f0 ∧ (rd_T50 xs i).f1.length ≤ c1 ∧ (Kd.int .u8).C w A1 (rd_T50 xs i).f1.length (rd_T50 xs i).f1 := by
  obtain ⟨ad, c, e, _, hK, hc0⟩ := Kd.C_get h z50 i h0 h1
  have hc : ∀ j u, c[j]? = some u → w.cell? (ad.add (i.toNat * 2 + j)) = some u := hc0
  obtain ⟨A0, c0, A1, c1, rfl, l0, g0, l1, g1⟩ := k50_open hK
  exact ⟨ad, A0, c0, A1, c1, e, hc 0 _ rfl, by rw [← add_field _ _ 1 (by omega)]; exact hc 1 _ rfl, l0, g0, l1, g1⟩
end Go.Proofs.Ythpjpkcfepmhkaa.PAll
namespace Go.Proofs.Ythpjpkcfepmhkaa.PAll
open Go.RowKit Go.Proofs.YthpjpkcfepmhkaaW.PrintWords Go.Proofs.Ythpjpkcfepmhkaa.Opens
/-- A symbol that came in. -/
theorem opens55 (w : World) : Opens Try.prog w 55 k55 (fun _ => True) :=
  (opens_iso (fun x : S55 => (x.f0, x.f1, x.f2, x.f3)) (fun p => ⟨p.1, p.2.1, p.2.2.1, p.2.2.2⟩) (fun _ => rfl)
    (opens_struct Try.underlying55 (by kernel_rfl)
      (opensF_cons (opens_string Try.underlying9) (opensF_cons (opens_int Try.underlying3) (opensF_cons (opens_int Try.underlying3) (opensF_one (opens_int Try.underlying3))))))).imp (fun _ _ => trivial)
theorem opens47 (w : World) : Opens Try.prog w 47 (Kd.slice 55 k55) (fun l => l.length * 40 ≤ 140737488351232 ∧ l.length ≤ maxLen ∧ ∀ x ∈ l, True) :=
  opens_slice Try.underlying47 (opens55 w) (by kernel_rfl) (by kernel_rfl)
theorem opens48 (w : World) : Opens Try.prog w 48 (Kd.slice 5 (Kd.int .u8)) (fun _ => True) :=
  (opens_slice (B := 1) Try.underlying48 (opens_int Try.underlying5) (by kernel_rfl) (by kernel_rfl)).imp (fun _ _ => trivial)
/-- An object that came in. -/
theorem opens50 (w : World) : Opens Try.prog w 50 k50 (fun _ => True) :=
  (opens_iso (fun x : S50 => (x.f0, x.f1)) (fun p => ⟨p.1, p.2⟩) (fun _ => rfl)
    (opens_struct Try.underlying50 (by kernel_rfl) (opensF_cons (opens47 w) (opensF_one (opens48 w))))).imp (fun _ _ => trivial)
theorem opens42 (w : World) : Opens Try.prog w 42 (Kd.slice 50 k50) (fun l => l.length * 48 ≤ 140737488351232 ∧ l.length ≤ maxLen ∧ ∀ x ∈ l, True) :=
  opens_slice Try.underlying42 (opens50 w) (by kernel_rfl) (by kernel_rfl)
end Go.Proofs.Ythpjpkcfepmhkaa.PAll
namespace Go.Proofs.Ythpjpkcfepmhkaa.PAll
open Go.RowKit Go.Proofs.YthpjpkcfepmhkaaW.PrintWords Go.Proofs.YthpjpkcfepmhkaaW.PrintLast Go.Proofs.YthpjpkcfepmhkaaW.PrintMore
attribute [local go_sem] max2_int min2_int max_two min_two max_three min_three max_four min_four   -- for this text's walks alone
set_option linter.unusedVariables false
set_option linter.unusedSimpArgs false
-- NOT PRINTED: function 51 (closure_names)
def closure_defines.f (a0_0 : ByteArray) (a0_1 : Int) (a0_2 : Int) (a0_3 : Int) : Option (Bool) := if a0_1 = 1 then (some true) else (some (a0_1 == 2))
set_option maxHeartbeats 8000000 in
set_option maxRecDepth 100000 in
theorem closure_defines.calls (a0_0 : ByteArray) (a0_1 : Int) (a0_2 : Int) (a0_3 : Int) (r : Bool) (w : World) (h : closure_defines.f a0_0 a0_1 a0_2 a0_3 = some r) :
  Calls Try.prog 66 #[.agg #[.string a0_0, .int .i64 a0_1, .int .i64 a0_2, .int .i64 a0_3]] w fun e w' => e = .returned (.bool r) ∧ Below w.heap.size w w' := by
 have hu55 := Try.underlying55
 have HB := Aside0.mk (Below.refl w.heap.size w)
 have H : (if a0_1 = 1 then (some true) else (some (a0_1 == 2))) = some r := h
 clear h
 by_cases c2 : a0_1 = 1
 ·rw [if_pos c2] at H
  have c2b0 : (a0_1 == 1) = true := beq_iff_eq.mpr c2
  have c2b1 : (a0_1 != 1) = false := bne_eq_false_iff_eq.mpr c2
  clear c2
  obtain rfl := Option.some.inj H
  go_enter Try.func66, Try.ntmps66
  go_wp2_with (first | ((with_reducible refine gate_dst (N := 1) rfl ?_); refine box_event ?hg (N := 1) ?hd (cs := #[.string a0_0, .int .i64 a0_1, .int .i64 a0_2, .int .i64 a0_3]) (t := 55) ?hr ?_; (case hd => rfl); (case hg => rfl); (case hr => first | (go_simp; done) | (go_simp; rfl)); intro gb285 hg w3 hbox hb; have n0_ := Aside0.mk (below_step (by repeat (first | (with_reducible first | exact HB.out | apply below_alloc | apply pw_below_drewN | apply below_drew1) | exact HB.out)) hb); have n1_ := Aside0.mk (hbox); have n2_ := Aside0.mk ((by rw [hg]; exact (below_size (by repeat (first | (with_reducible first | exact HB.out | apply below_alloc | apply pw_below_drewN | apply below_drew1) | exact HB.out))) : w.heap.size ≤ gb285)); have n3_ := Aside0.mk ((by rw [hg]; exact (below_size (by repeat (first | (with_reducible first | exact HB.out | apply below_alloc | apply pw_below_drewN | apply below_drew1) | exact HB.out))) : w.heap.size ≤ gb285)); clear HB; have HB := n0_; have BK285 := n1_; have GW285 := n2_; have GE285 := n3_; clear n0_ n1_ n2_ n3_; clear hb hbox hg; have hcz4_0 : w3.cell? ⟨gb285, 0, none⟩ = some (.string a0_0) := (blk_cell BK285.out 0).trans rfl; have hcz4_1 : w3.cell? ⟨gb285, 1, none⟩ = some (.int .i64 a0_1) := (blk_cell BK285.out 1).trans rfl; have hcz4_2 : w3.cell? ⟨gb285, 2, none⟩ = some (.int .i64 a0_2) := (blk_cell BK285.out 2).trans rfl; have hcz4_3 : w3.cell? ⟨gb285, 3, none⟩ = some (.int .i64 a0_3) := (blk_cell BK285.out 3).trans rfl; have hfz4_0 := blk_frozen BK285.out 0; have hfz4_1 := blk_frozen BK285.out 1; have hfz4_2 := blk_frozen BK285.out 2; have hfz4_3 := blk_frozen BK285.out 3))
  go_ret
  exact ⟨by first | rfl | (simp [errW_none, errW_some] <;> rfl) | (simp [*, errW_none, errW_some] <;> rfl), by repeat (first | (with_reducible first | exact HB.out | apply below_alloc | apply pw_below_drewN | apply below_drew1 | refine below_set ?_ GE285.out) | exact HB.out)⟩
 ·rw [if_neg c2] at H
  have c2b0 : (a0_1 == 1) = false := beq_eq_false_iff_ne.mpr c2
  have c2b1 : (a0_1 != 1) = true := bne_iff_ne.mpr c2
  obtain rfl := Option.some.inj H
  go_enter Try.func66, Try.ntmps66
  go_wp2_with (first | ((with_reducible refine gate_dst (N := 1) rfl ?_); refine box_event ?hg (N := 1) ?hd (cs := #[.string a0_0, .int .i64 a0_1, .int .i64 a0_2, .int .i64 a0_3]) (t := 55) ?hr ?_; (case hd => rfl); (case hg => rfl); (case hr => first | (go_simp; done) | (go_simp; rfl)); intro gb285 hg w5 hbox hb; have n0_ := Aside0.mk (below_step (by repeat (first | (with_reducible first | exact HB.out | apply below_alloc | apply pw_below_drewN | apply below_drew1) | exact HB.out)) hb); have n1_ := Aside0.mk (hbox); have n2_ := Aside0.mk ((by rw [hg]; exact (below_size (by repeat (first | (with_reducible first | exact HB.out | apply below_alloc | apply pw_below_drewN | apply below_drew1) | exact HB.out))) : w.heap.size ≤ gb285)); have n3_ := Aside0.mk ((by rw [hg]; exact (below_size (by repeat (first | (with_reducible first | exact HB.out | apply below_alloc | apply pw_below_drewN | apply below_drew1) | exact HB.out))) : w.heap.size ≤ gb285)); clear HB; have HB := n0_; have BK285 := n1_; have GW285 := n2_; have GE285 := n3_; clear n0_ n1_ n2_ n3_; clear hb hbox hg; have hcz6_0 : w5.cell? ⟨gb285, 0, none⟩ = some (.string a0_0) := (blk_cell BK285.out 0).trans rfl; have hcz6_1 : w5.cell? ⟨gb285, 1, none⟩ = some (.int .i64 a0_1) := (blk_cell BK285.out 1).trans rfl; have hcz6_2 : w5.cell? ⟨gb285, 2, none⟩ = some (.int .i64 a0_2) := (blk_cell BK285.out 2).trans rfl; have hcz6_3 : w5.cell? ⟨gb285, 3, none⟩ = some (.int .i64 a0_3) := (blk_cell BK285.out 3).trans rfl; have hfz6_0 := blk_frozen BK285.out 0; have hfz6_1 := blk_frozen BK285.out 1; have hfz6_2 := blk_frozen BK285.out 2; have hfz6_3 := blk_frozen BK285.out 3))
  go_ret
  exact ⟨by first | rfl | (simp [errW_none, errW_some] <;> rfl) | (simp [*, errW_none, errW_some] <;> rfl), by repeat (first | (with_reducible first | exact HB.out | apply below_alloc | apply pw_below_drewN | apply below_drew1 | refine below_set ?_ GE285.out) | exact HB.out)⟩
-- NOT PRINTED: function 49 (closure_build)
-- NOT PRINTED: function 67 (wanted_List_queue)
-- NOT PRINTED: function 50 (wanted_List_Add)
def closure_refers.f (a0_0 : ByteArray) (a0_1 : Int) (a0_2 : Int) (a0_3 : Int) : Option (Bool) := some (a0_1 == 4)
set_option maxHeartbeats 8000000 in
set_option maxRecDepth 100000 in
theorem closure_refers.calls (a0_0 : ByteArray) (a0_1 : Int) (a0_2 : Int) (a0_3 : Int) (r : Bool) (w : World) (h : closure_refers.f a0_0 a0_1 a0_2 a0_3 = some r) :
  Calls Try.prog 52 #[.agg #[.string a0_0, .int .i64 a0_1, .int .i64 a0_2, .int .i64 a0_3]] w fun e w' => e = .returned (.bool r) ∧ Below w.heap.size w w' := by
 have hu55 := Try.underlying55
 have HB := Aside0.mk (Below.refl w.heap.size w)
 have H : (some (a0_1 == 4)) = some r := h
 clear h
 obtain rfl := Option.some.inj H
 go_enter Try.func52, Try.ntmps52
 go_wp2_with (first | ((with_reducible refine gate_dst (N := 1) rfl ?_); refine box_event ?hg (N := 1) ?hd (cs := #[.string a0_0, .int .i64 a0_1, .int .i64 a0_2, .int .i64 a0_3]) (t := 55) ?hr ?_; (case hd => rfl); (case hg => rfl); (case hr => first | (go_simp; done) | (go_simp; rfl)); intro gb286 hg w2 hbox hb; have n0_ := Aside0.mk (below_step (by repeat (first | (with_reducible first | exact HB.out | apply below_alloc | apply pw_below_drewN | apply below_drew1) | exact HB.out)) hb); have n1_ := Aside0.mk (hbox); have n2_ := Aside0.mk ((by rw [hg]; exact (below_size (by repeat (first | (with_reducible first | exact HB.out | apply below_alloc | apply pw_below_drewN | apply below_drew1) | exact HB.out))) : w.heap.size ≤ gb286)); have n3_ := Aside0.mk ((by rw [hg]; exact (below_size (by repeat (first | (with_reducible first | exact HB.out | apply below_alloc | apply pw_below_drewN | apply below_drew1) | exact HB.out))) : w.heap.size ≤ gb286)); clear HB; have HB := n0_; have BK286 := n1_; have GW286 := n2_; have GE286 := n3_; clear n0_ n1_ n2_ n3_; clear hb hbox hg; have hcz3_0 : w2.cell? ⟨gb286, 0, none⟩ = some (.string a0_0) := (blk_cell BK286.out 0).trans rfl; have hcz3_1 : w2.cell? ⟨gb286, 1, none⟩ = some (.int .i64 a0_1) := (blk_cell BK286.out 1).trans rfl; have hcz3_2 : w2.cell? ⟨gb286, 2, none⟩ = some (.int .i64 a0_2) := (blk_cell BK286.out 2).trans rfl; have hcz3_3 : w2.cell? ⟨gb286, 3, none⟩ = some (.int .i64 a0_3) := (blk_cell BK286.out 3).trans rfl; have hfz3_0 := blk_frozen BK286.out 0; have hfz3_1 := blk_frozen BK286.out 1; have hfz3_2 := blk_frozen BK286.out 2; have hfz3_3 := blk_frozen BK286.out 3))
 go_ret
 exact ⟨by first | rfl | (simp [errW_none, errW_some] <;> rfl) | (simp [*, errW_none, errW_some] <;> rfl), by repeat (first | (with_reducible first | exact HB.out | apply below_alloc | apply pw_below_drewN | apply below_drew1 | refine below_set ?_ GE286.out) | exact HB.out)⟩
-- NOT PRINTED: function 68 (wanted_List_Len)
-- NOT PRINTED: function 53 (wanted_List_Take)
-- PROVED BY HAND: function 25 (closure_Needed)
-- PROVED BY HAND: function 26 (closure_Unique)
-- NOT PRINTED: function 57 (closure_program_next)
def slices_Reverse_int_int.l0 : Nat → List Int → Int → Int → Option (List Int)
 | 0, _, _, _ => none
 | k + 1, x0, x2, x3 => if x2 < x3 then (if 0 ≤ x3 then (if x3 < (x0.length : Int) then (if 0 ≤ x2 then (if x2 < (x0.length : Int) then (slices_Reverse_int_int.l0 k ((x0.set (x2 : Int).toNat (rd x0 x3)).set (x3 : Int).toNat (rd x0 x2)) (wrap64 (x2 + 1)) (wrap64 (x3 - 1))) else (none)) else (none)) else (none)) else (none)) else (some x0)
def slices_Reverse_int_int.f (k : Nat) (l0 : List Int) : Option (List Int) := slices_Reverse_int_int.l0 k l0 0 (wrap64 ((l0.length : Int) - 1))
def slices_Reverse_int_int.T3 : Bool × List (List Nat × List Nat) := (true, [([], []), ([], []), ([], []), ([], []), ([], []), ([], []), ([4, 5], [4, 5]), ([6], [6]), ([], []), ([], []), ([8, 9], [8, 9]), ([10], [10]), ([0, 1, 0, 1, 4, 5, 6, 7, 11], [0, 1]), ([12, 7, 0, 1, 4, 5, 6, 7, 11], [7, 12]), ([2, 3, 0, 1, 2, 3, 4, 5, 6, 7, 8, 9, 10, 11, 12, 13], [2, 3]), ([14, 11, 13, 0, 1, 2, 3, 4, 5, 6, 7, 8, 9, 10, 11, 12, 13], [11, 14])])
def slices_Reverse_int_int.B3 : List Nat := [0, 0, 0, 0, 0, 0, 48, 112, 0, 0, 768, 1792, 4083, 8179, 16383, 32767]
theorem slices_Reverse_int_int.tab3 : rtab .any (opsOf Try.f58 3) = slices_Reverse_int_int.T3 := by kernel_rfl
theorem slices_Reverse_int_int.bits3 : waitsOk slices_Reverse_int_int.T3.2 slices_Reverse_int_int.B3 = true := by kernel_rfl
set_option maxHeartbeats 8000000 in
set_option maxRecDepth 100000 in
theorem slices_Reverse_int_int.calls (k : Nat) (P0_ : Nat → Prop) (u9000_ : Value) (l0 : List Int) (r : List Int) (w0 w : World) (hB : Below w0.heap.size w0 w) (ho0 : Kd.R (Kd.int .i64) 3 w w0.heap.size P0_ u9000_ l0) (h : slices_Reverse_int_int.f k l0 = some r) :
  Calls Try.prog 58 #[u9000_] w fun e w' => e = .returned (.tuple #[]) ∧ Kd.R (Kd.int .i64) 3 w' w0.heap.size (fun k_ => (P0_ k_ ∨ w.heap.size ≤ k_)) u9000_ r ∧ Below w0.heap.size w0 w' ∧ Kept w w' (fun k_ => P0_ k_) := by
 have HO0 := Aside0.mk (show Kd.R (Kd.int .i64) 3 w w0.heap.size (fun k_ => (P0_ k_ ∨ w.heap.size ≤ k_)) u9000_ l0 from Kd.R_mono ho0 (fun k_ hk => (.inl hk)))
 have HK := Aside0.mk (Kept.refl w (fun k_ => P0_ k_))
 have HW0 := Aside0.mk hB.size
 have HB := Aside0.mk hB
 clear hB
 have H : (slices_Reverse_int_int.l0 k l0 0 (wrap64 ((l0.length : Int) - 1))) = some r := h
 clear h
 have H' := Aside0.mk H
 clear H
 obtain ⟨Ao2, co2, eo2⟩ := Kd.R_slice HO0.out
 subst eo2
 go_enter Try.func58, Try.ntmps58
 go_wp2
 go_loopg [2, 3] k (fun kq v2 v3 w' => ∃ (x0_1 : List Int) (x2_1 : Int) (x3_1 : Int), v2 = .int .i64 x2_1 ∧ v3 = .int .i64 x3_1 ∧ Aside0 (slices_Reverse_int_int.l0 kq x0_1 x2_1 x3_1 = some r) ∧ Aside0 (kq ≤ k) ∧ Aside0 (Kd.R (Kd.int .i64) 3 w' w0.heap.size (fun k_ => (P0_ k_ ∨ w.heap.size ≤ k_)) (.slice Ao2 l0.length co2) x0_1) ∧ Aside0 (Kept w w' (fun k_ => P0_ k_)) ∧ Aside0 (Below w0.heap.size w0 w'))
 case atStart => exact ⟨(l0), (0), (wrap64 ((l0.length : Int) - 1)), (by first | rfl | (simp; done) | (simp [*]; done)), (by first | rfl | (simp; done) | (simp [*]; done)), H', ⟨Nat.le_refl _⟩, ⟨by (with_reducible repeat (first | apply Kd.R_alloc | apply Kd.R_drewN | apply Kd.R_drew)); exact HO0.out⟩, ⟨by repeat (first | (with_reducible first | exact HK.out | apply Kept.alloc | apply Kept.drewN | apply Kept.drew) | exact HK.out)⟩, ⟨by repeat (first | (with_reducible first | exact HB.out | apply below_alloc | apply pw_below_drewN | apply below_drew1) | exact HB.out)⟩⟩
 case round =>
  clear H'
  try clear p2
  obtain ⟨x0_1, x2_1, x3_1, rfl, rfl, HA, HK1, HO_0, HK, HB⟩ := hrel
  have hl0_1 := (Kd.R_reads' HO_0.out).1
  rw [hl0_1] at HO_0
  (try simp only [hl0_1])
  cases gk with
  | zero => exact absurd HA.out (by simp [slices_Reverse_int_int.l0])
  | succ k1 =>
   have H := HA.out
   clear HA
   simp only [slices_Reverse_int_int.l0] at H
   by_cases c3 : x2_1 < x3_1
   ·rw [if_pos c3] at H
    have c3b0 : decide (x2_1 < x3_1) = true := decide_eq_true c3
    clear c3
    by_cases c4 : 0 ≤ x3_1
    ·rw [if_pos c4] at H
     have c4b0 : decide (0 ≤ x3_1) = true := decide_eq_true c4
     clear c4
     by_cases c5 : x3_1 < (x0_1.length : Int)
     ·rw [if_pos c5] at H
      have c5b0 : decide (x3_1 < (x0_1.length : Int)) = true := decide_eq_true c5
      clear c5
      by_cases c6 : 0 ≤ x2_1
      ·rw [if_pos c6] at H
       have c6b0 : decide (0 ≤ x2_1) = true := decide_eq_true c6
       clear c6
       by_cases c7 : x2_1 < (x0_1.length : Int)
       ·rw [if_pos c7] at H
        have c7b0 : decide (x2_1 < (x0_1.length : Int)) = true := decide_eq_true c7
        clear c7
        obtain ⟨y289, hy289⟩ : ∃ y_ : List Int, y_ = (x0_1.set (x2_1 : Int).toNat (rd x0_1 x3_1)) := ⟨_, rfl⟩
        replace H : (slices_Reverse_int_int.l0 k1 (y289.set (x3_1 : Int).toNat (rd x0_1 x2_1)) (wrap64 (x2_1 + 1)) (wrap64 (x3_1 - 1))) = some r := by first | (rw [hy289]; with_reducible exact H) | (have H2_ := (Option.bind_some _ _).symm.trans H; rw [hy289]; with_reducible exact H2_) | (have H2_ := (Option.bind_some _ _).symm.trans H; with_reducible exact H2_) | with_reducible exact H | (rw [hy289]; exact H) | exact H
        have Ny289 := Aside0.mk hy289
        clear hy289
        obtain ⟨y290, hy290⟩ : ∃ y_ : List Int, y_ = (y289.set (x3_1 : Int).toNat (rd x0_1 x2_1)) := ⟨_, rfl⟩
        replace H : (slices_Reverse_int_int.l0 k1 y290 (wrap64 (x2_1 + 1)) (wrap64 (x3_1 - 1))) = some r := by first | (rw [hy290]; with_reducible exact H) | (have H2_ := (Option.bind_some _ _).symm.trans H; rw [hy290]; with_reducible exact H2_) | (have H2_ := (Option.bind_some _ _).symm.trans H; with_reducible exact H2_) | with_reducible exact H | (rw [hy290]; exact H) | exact H
        have Ny290 := Aside0.mk hy290
        clear hy290
        have H' := Aside0.mk H
        clear H
        try go_wp2
        have n0_ := Aside0.mk (Kd.R_drew HO_0.out)
        have n1_ := Aside0.mk (Kept.drew HK.out)
        have n2_ := Aside0.mk (below_drew1 HB.out)
        clear HO_0
        clear HK
        clear HB
        have HO_0 := n0_
        have HK := n1_
        have HB := n2_
        clear n0_ n1_ n2_
        have p287 : 0 ≤ (x3_1 : Int) := of_decide_eq_true (by first | (with_reducible assumption) | assumption)
        have q287 : x3_1 < (x0_1.length : Int) := of_decide_eq_true (by first | (with_reducible assumption) | assumption)
        obtain ⟨ad287, e287, hx287_0⟩ := Kd.at_int (Kd.R_reads' HO_0.out).2.2 x3_1 p287 q287
        cases e287
        replace p287 := eq_true p287
        replace q287 := eq_true q287
        have p288 : 0 ≤ (x2_1 : Int) := of_decide_eq_true (by first | (with_reducible assumption) | assumption)
        have q288 : x2_1 < (x0_1.length : Int) := of_decide_eq_true (by first | (with_reducible assumption) | assumption)
        obtain ⟨ad288, e288, hx288_0⟩ := Kd.at_int (Kd.R_reads' HO_0.out).2.2 x2_1 p288 q288
        obtain rfl : ad287 = ad288 := (by injection e288)
        replace p288 := eq_true p288
        replace q288 := eq_true q288
        have p8 : 0 ≤ (x2_1 : Int) := of_decide_eq_true (by first | (with_reducible assumption) | assumption)
        have q8 : (x2_1 : Int) < ((x0_1.length : Int) : Int) := of_decide_eq_true (by first | (with_reducible assumption) | assumption)
        obtain ⟨go8, co8, eo8, gb8, gl8, cl8, HG8⟩ := Kd.R_form HO_0.out (by omega)
        (first | cases eo8 | (injection eo8 with ea_ en_ ec_; (first | subst ea_ | (injection ea_ with ea_; subst ea_)); subst ec_; clear en_))
        have GB8 := Aside0.mk gb8
        have GG8 := Aside0.mk HG8
        clear gb8 gl8 HG8
        have HMgo8 := Aside0.mk (show (P0_ go8 ∨ w.heap.size ≤ go8) from (HO_0.out.1 _ rfl))
        (first | simp only [add_plain] at hx287_0 | skip)
        (first | simp only [add_plain] at hx288_0 | skip)
        obtain ⟨hx8_0, hf8_0⟩ := Kd.R_celln 0 HO_0.out (x2_1 : Int) p8 q8
        replace p8 := eq_true p8
        replace q8 := eq_true q8
        have HP11 := Kd.R_putn HO_0.out (x2_1 : Int) (rd x0_1 x3_1)
        rw [← Ny289.out] at HP11
        have HQ11 := Aside0.mk HP11
        clear HP11
        have p9 : 0 ≤ (x3_1 : Int) := of_decide_eq_true (by first | (with_reducible assumption) | assumption)
        have q9 : (x3_1 : Int) < ((x0_1.length : Int) : Int) := of_decide_eq_true (by first | (with_reducible assumption) | assumption)
        obtain ⟨hx9_0, hf9_0⟩ := Kd.R_celln 0 HQ11.out (x3_1 : Int) p9 q9
        replace p9 := eq_true p9
        replace q9 := eq_true q9
        have HP12 := Kd.R_putn HQ11.out (x3_1 : Int) (rd x0_1 x2_1)
        rw [← Ny290.out] at HP12
        have HQ12 := Aside0.mk HP12
        clear HP12
        refine start_ (n := 16) (S := fun w' => w'.cell? ⟨go8, (x3_1).toNat, none⟩ = some (.int .i64 (rd x0_1 x3_1)) ∧ w'.cell? ⟨go8, (x2_1).toNat, none⟩ = some (.int .i64 (rd x0_1 x2_1))) (ds := [13, 15]) #[false, false, false, false, false, false, false, false, false, false, false, false, false, false, false, false] (by kernel_rfl) rfl rfl ⟨hx287_0, hx288_0⟩ (fun hHeld => ?_); refine with_tabW slices_Reverse_int_int.tab3 slices_Reverse_int_int.bits3 (fun HT_ HW_ => ?_)
        generalize wr.drew = w10 at HO_0 HK HB GG8 HQ11 HQ12 hf8_0 hf9_0 hx287_0 hx288_0 hx8_0 hx9_0 hHeld ⊢
        refine pure_ (i := 0) (N := some 14) (v := ?_) (a' := ?_) #[true, false, false, false, false, false, false, false, false, false, false, false, false, false, false, false] rfl rfl (any_of HT_.out (by kernel_rfl)) (fun _ _ _ h => h) (Or.inl ⟨by rfl, ?_⟩) ?_ ?_
        rotate_left
        ·intro w'
         go_simp
         with_reducible rfl
        rotate_left
        ·simp only [Act.put, List.setIfInBounds_toArray, List.set_cons_zero, List.set_cons_succ, i64_w, i32_w]
         rfl
        refine pure_ (i := 1) (N := some 15) (v := ?_) (a' := ?_) #[true, true, false, false, false, false, false, false, false, false, false, false, false, false, false, false] rfl rfl (any_of HT_.out (by kernel_rfl)) (fun _ _ _ h => h) (Or.inl ⟨by rfl, ?_⟩) ?_ ?_
        rotate_left
        ·intro w'
         go_simp
         with_reducible rfl
        rotate_left
        ·simp only [Act.put, List.setIfInBounds_toArray, List.set_cons_zero, List.set_cons_succ, i64_w, i32_w]
         rfl
        refine pure_ (i := 2) (N := some 16) (v := ?_) (a' := ?_) #[true, true, true, false, false, false, false, false, false, false, false, false, false, false, false, false] rfl rfl (any_of HT_.out (by kernel_rfl)) (fun _ _ _ h => h) (Or.inl ⟨by rfl, ?_⟩) ?_ ?_
        rotate_left
        ·intro w'
         go_simp
         with_reducible rfl
        rotate_left
        ·simp only [Act.put, List.setIfInBounds_toArray, List.set_cons_zero, List.set_cons_succ, i64_w, i32_w]
         rfl
        refine pure_ (i := 3) (N := some 17) (v := ?_) (a' := ?_) #[true, true, true, true, false, false, false, false, false, false, false, false, false, false, false, false] rfl rfl (any_of HT_.out (by kernel_rfl)) (fun _ _ _ h => h) (Or.inl ⟨by rfl, ?_⟩) ?_ ?_
        rotate_left
        ·intro w'
         go_simp
         with_reducible rfl
        rotate_left
        ·simp only [Act.put, List.setIfInBounds_toArray, List.set_cons_zero, List.set_cons_succ, i64_w, i32_w]
         rfl
        refine pure_ (i := 4) (N := some 18) (v := ?_) (a' := ?_) #[true, true, true, true, true, false, false, false, false, false, false, false, false, false, false, false] rfl rfl (any_of HT_.out (by kernel_rfl)) (fun _ _ _ h => h) (Or.inl ⟨by rfl, ?_⟩) ?_ ?_
        rotate_left
        ·intro w'
         go_simp
         with_reducible rfl
        rotate_left
        ·simp only [Act.put, List.setIfInBounds_toArray, List.set_cons_zero, List.set_cons_succ, i64_w, i32_w]
         rfl
        refine pure_ (i := 5) (N := some 19) (v := ?_) (a' := ?_) #[true, true, true, true, true, true, false, false, false, false, false, false, false, false, false, false] rfl rfl (any_of HT_.out (by kernel_rfl)) (fun _ _ _ h => h) (Or.inl ⟨by rfl, ?_⟩) ?_ ?_
        rotate_left
        ·intro w'
         go_simp
         with_reducible rfl
        rotate_left
        ·simp only [Act.put, List.setIfInBounds_toArray, List.set_cons_zero, List.set_cons_succ, i64_w, i32_w]
         rfl
        refine pure_ (i := 6) (N := some 20) (v := ?_) (a' := ?_) #[true, true, true, true, true, true, true, false, false, false, false, false, false, false, false, false] rfl rfl (any_of HT_.out (by kernel_rfl)) (fun _ _ _ h => h) (Or.inl ⟨by rfl, ?_⟩) ?_ ?_
        rotate_left
        ·intro w'
         go_simp
         with_reducible rfl
        rotate_left
        ·simp only [Act.put, List.setIfInBounds_toArray, List.set_cons_zero, List.set_cons_succ, i64_w, i32_w]
         rfl
        refine pure_ (i := 8) (N := some 22) (v := ?_) (a' := ?_) #[true, true, true, true, true, true, true, false, true, false, false, false, false, false, false, false] rfl rfl (any_of HT_.out (by kernel_rfl)) (fun _ _ _ h => h) (Or.inl ⟨by rfl, ?_⟩) ?_ ?_
        rotate_left
        ·intro w'
         go_simp
         with_reducible rfl
        rotate_left
        ·simp only [Act.put, List.setIfInBounds_toArray, List.set_cons_zero, List.set_cons_succ, i64_w, i32_w]
         rfl
        refine pure_ (i := 9) (N := some 23) (v := ?_) (a' := ?_) #[true, true, true, true, true, true, true, false, true, true, false, false, false, false, false, false] rfl rfl (any_of HT_.out (by kernel_rfl)) (fun _ _ _ h => h) (Or.inl ⟨by rfl, ?_⟩) ?_ ?_
        rotate_left
        ·intro w'
         go_simp
         with_reducible rfl
        rotate_left
        ·simp only [Act.put, List.setIfInBounds_toArray, List.set_cons_zero, List.set_cons_succ, i64_w, i32_w]
         rfl
        refine pure_ (i := 10) (N := some 24) (v := ?_) (a' := ?_) #[true, true, true, true, true, true, true, false, true, true, true, false, false, false, false, false] rfl rfl (any_of HT_.out (by kernel_rfl)) (fun _ _ _ h => h) (Or.inl ⟨by rfl, ?_⟩) ?_ ?_
        rotate_left
        ·intro w'
         go_simp
         with_reducible rfl
        rotate_left
        ·simp only [Act.put, List.setIfInBounds_toArray, List.set_cons_zero, List.set_cons_succ, i64_w, i32_w]
         rfl
        refine take_ (i := 7) (N := some 21) (v := ?_) (a' := ?_) #[true, true, true, true, true, true, true, true, true, true, true, false, false, false, false, false] rfl rfl (take_ofW HT_.out HW_.out (by kernel_rfl)) (fun _ _ _ h => h) (Or.inl ⟨by rfl, ?_⟩) hHeld ?_ ?_
        rotate_left
        ·rintro w' ⟨s0, s1⟩
         go_simp
         with_reducible rfl
        rotate_left
        ·simp only [Act.put, List.setIfInBounds_toArray, List.set_cons_zero, List.set_cons_succ, i64_w, i32_w]
         rfl
        refine take_ (i := 11) (N := some 25) (v := ?_) (a' := ?_) #[true, true, true, true, true, true, true, true, true, true, true, true, false, false, false, false] rfl rfl (take_ofW HT_.out HW_.out (by kernel_rfl)) (fun _ _ _ h => h) (Or.inl ⟨by rfl, ?_⟩) hHeld ?_ ?_
        rotate_left
        ·rintro w' ⟨s0, s1⟩
         go_simp
         with_reducible rfl
        rotate_left
        ·simp only [Act.put, List.setIfInBounds_toArray, List.set_cons_zero, List.set_cons_succ, i64_w, i32_w]
         rfl
        refine pure_ (i := 12) (N := some 26) (v := ?_) (a' := ?_) #[true, true, true, true, true, true, true, true, true, true, true, true, true, false, false, false] rfl rfl (any_of HT_.out (by kernel_rfl)) (fun _ _ _ h => h) (Or.inl ⟨by rfl, ?_⟩) ?_ ?_
        rotate_left
        ·intro w'
         go_simp
         with_reducible rfl
        rotate_left
        ·simp only [Act.put, List.setIfInBounds_toArray, List.set_cons_zero, List.set_cons_succ, i64_w, i32_w]
         rfl
        refine last_ (i := 13) (N := none) #[true, true, true, true, true, true, true, true, true, true, true, true, true, true, false, false] rfl rfl (one_of HT_.out (by kernel_rfl)) (by decide) (fun K hK => ?_)
        refine skip_ (w1 := ?_) (by rfl) rfl ?_ ?_
        rotate_left
        ·go_simp
         rfl
        refine hK.out _ _ ?_
        clear hK K
        refine pure_ (i := 14) (N := some 27) (v := ?_) (a' := ?_) #[true, true, true, true, true, true, true, true, true, true, true, true, true, true, true, false] rfl rfl (any_of HT_.out (by kernel_rfl)) (fun _ _ _ h => h) (Or.inl ⟨by rfl, ?_⟩) ?_ ?_
        rotate_left
        ·intro w'
         go_simp
         with_reducible rfl
        rotate_left
        ·simp only [Act.put, List.setIfInBounds_toArray, List.set_cons_zero, List.set_cons_succ, i64_w, i32_w]
         rfl
        refine last_ (i := 15) (N := none) #[true, true, true, true, true, true, true, true, true, true, true, true, true, true, true, true] rfl rfl (one_of HT_.out (by kernel_rfl)) (by decide) (fun K hK => ?_)
        refine skip_ (w1 := ?_) (by rfl) rfl ?_ ?_
        rotate_left
        ·go_simp
         rfl
        refine hK.out _ _ ?_
        clear hK K
        refine done_ (done_of HT_.out (by kernel_rfl)) ?_
        try go_wp2
        (try simp only [← hl0_1])
        go_roundg k1
        case measure => have := HK1.out; omega
        case rel => exact ⟨(y290), (wrap64 (x2_1 + 1)), (wrap64 (x3_1 - 1)), (by first | rfl | (simp; done) | (simp [*]; done)), (by first | rfl | (simp; done) | (simp [*]; done)), H', ⟨by have := HK1.out; omega⟩, ⟨by (try simp only [hl0_1]); (with_reducible repeat (first | apply Kd.R_alloc | apply Kd.R_drewN | apply Kd.R_drew)); exact HQ12.out⟩, ⟨by repeat (first | (with_reducible first | exact HK.out | apply Kept.alloc | apply Kept.drewN | apply Kept.drew | refine Kept.setCell ?_ HMgo8.out _ | refine Kept.setCell ?_ HMgo8.out _) | exact HK.out)⟩, ⟨by repeat (first | (with_reducible first | exact HB.out | apply below_alloc | apply pw_below_drewN | apply below_drew1 | refine below_set ?_ GB8.out | refine below_set ?_ GB8.out) | exact HB.out)⟩⟩
       ·rw [if_neg c7] at H
        exact absurd H (by simp)
      ·rw [if_neg c6] at H
       exact absurd H (by simp)
     ·rw [if_neg c5] at H
      exact absurd H (by simp)
    ·rw [if_neg c4] at H
     exact absurd H (by simp)
   ·rw [if_neg c3] at H
    have c3b0 : decide (x2_1 < x3_1) = false := decide_eq_false c3
    clear c3
    obtain rfl := Option.some.inj H
    go_wp2
    first | go_end0 | ((try simp only [Exit.inBlock, Exit.then]); refine bodyPost_ret (results_none rfl _ _ _) rfl ?_)
    exact ⟨by first | rfl | (simp [errW_none, errW_some] <;> rfl) | (simp [*, errW_none, errW_some] <;> rfl), (by first | exact (by (with_reducible repeat (first | apply Kd.R_alloc | apply Kd.R_drewN | apply Kd.R_drew)); exact HO_0.out) | (simp only [hl0_1]; exact (by (with_reducible repeat (first | apply Kd.R_alloc | apply Kd.R_drewN | apply Kd.R_drew)); exact HO_0.out))), by repeat (first | (with_reducible first | exact HB.out | apply below_alloc | apply pw_below_drewN | apply below_drew1) | exact HB.out), by repeat (first | (with_reducible first | exact HK.out | apply Kept.alloc | apply Kept.drewN | apply Kept.drew) | exact HK.out)⟩
-- PROVED BY HAND: function 29 (closure_Why)
-- PROVED BY HAND: function 22 (arlinklaw22_awake)
mutual
def arlinkref06_Few.l0 : Nat → Int → List (S55) → List Int → Option (Bool)
 | 0, _, _, _ => none
 | k + 1, x3, x292000, x292001 => if x3 < (x292000.length : Int) then (arlinkref06_Few.j1 k x3 (decide (x3 ≤ 60)) x292000 x292001) else (arlinkref06_Few.j1 k x3 false x292000 x292001)
def arlinkref06_Few.j1 : Nat → Int → Bool → List (S55) → List Int → Option (Bool)
 | 0, _, _, _, _ => none
 | k + 1, x3, x12, x292000, x292001 => if x12 = true then (if 0 ≤ x3 then (if x3 < (x292000.length : Int) then (if (((rd_T55 x292000 x3).f0).size : Int) > 300 then (some false) else (arlinkref06_Few.l0 k (wrap64 (x3 + 1)) x292000 x292001)) else (none)) else (none)) else (if (x292000.length : Int) ≤ 60 then (some (decide ((x292001.length : Int) ≤ 1000))) else (some false))
end
def arlinkref06_Few.f (k : Nat) (l0_0 : List (S55)) (l0_1 : List Int) : Option (Bool) := arlinkref06_Few.l0 k 0 l0_0 l0_1
set_option maxHeartbeats 8000000 in
set_option maxRecDepth 100000 in
theorem arlinkref06_Few.calls (k : Nat) (A0_0 : Option Addr) (c0_0 : Nat) (l0_0 : List (S55)) (A0_1 : Option Addr) (c0_1 : Nat) (l0_1 : List Int) (r : Bool) (w : World) (hr0_0 : Kd.C k55 w A0_0 l0_0.length l0_0) (hc0_0 : l0_0.length ≤ c0_0) (hr0_1 : Kd.C (Kd.int .u8) w A0_1 l0_1.length l0_1) (hc0_1 : l0_1.length ≤ c0_1) (h : arlinkref06_Few.f k l0_0 l0_1 = some r) :
  Calls Try.prog 47 #[.agg #[.slice A0_0 l0_0.length c0_0, .slice A0_1 l0_1.length c0_1]] w fun e w' => e = .returned (.bool r) ∧ Below w.heap.size w w' := by
 have hu50 := Try.underlying50
 have HR0_0 := Aside0.mk hr0_0
 have HC0_0 := Aside0.mk hc0_0
 clear hr0_0 hc0_0
 have HR0_1 := Aside0.mk hr0_1
 have HC0_1 := Aside0.mk hc0_1
 clear hr0_1 hc0_1
 have HB := Aside0.mk (Below.refl w.heap.size w)
 have H : (arlinkref06_Few.l0 k 0 l0_0 l0_1) = some r := h
 clear h
 have H' := Aside0.mk H
 clear H
 go_enter Try.func47, Try.ntmps47
 go_wp2_with (first | ((with_reducible refine gate_dst (N := 1) rfl ?_); (try (refine gate_guard (by rfl) ?_; dsimp only)); refine box_event ?hg (N := 1) ?hd (cs := #[.slice A0_0 l0_0.length c0_0, .slice A0_1 l0_1.length c0_1]) (t := 50) ?hr ?_; (case hd => rfl); (case hg => rfl); (case hr => first | (go_simp; done) | (go_simp; rfl)); intro gb291 hg w2 hbox hb; have n0_ := Aside0.mk (below_step (by repeat (first | (with_reducible first | exact HB.out | apply below_alloc | apply pw_below_drewN | apply below_drew1) | exact HB.out)) hb); have n1_ := Aside0.mk (hbox); have n2_ := Aside0.mk ((by rw [hg]; exact (below_size (by repeat (first | (with_reducible first | exact HB.out | apply below_alloc | apply pw_below_drewN | apply below_drew1) | exact HB.out))) : w.heap.size ≤ gb291)); have n3_ := Aside0.mk ((by rw [hg]; exact (below_size (by repeat (first | (with_reducible first | exact HB.out | apply below_alloc | apply pw_below_drewN | apply below_drew1) | exact HB.out))) : w.heap.size ≤ gb291)); clear HB; have HB := n0_; have BK291 := n1_; have GW291 := n2_; have GE291 := n3_; clear n0_ n1_ n2_ n3_; clear hb hbox hg))
 go_loopg [3] k (fun kq v3 w' => ∃ (x3_1 : Int), v3 = .int .i64 x3_1 ∧ Aside0 (arlinkref06_Few.l0 kq x3_1 l0_0 l0_1 = some r) ∧ Aside0 (kq ≤ k) ∧ Aside0 (w'.heap[gb291]? = some (.cells #[(.slice A0_0 l0_0.length c0_0), (.slice A0_1 l0_1.length c0_1)] 50 (0, 0))) ∧ Aside0 (Below w.heap.size w w'))
 case atStart => exact ⟨(0), (by first | rfl | (simp; done) | (simp [*]; done)), H', ⟨Nat.le_refl _⟩, ⟨by (with_reducible repeat (first | refine blk_drewN ?_ _ | refine blk_drew ?_ | refine blk_alloc ?_ _)); exact BK291.out⟩, ⟨by repeat (first | (with_reducible first | exact HB.out | apply below_alloc | apply pw_below_drewN | apply below_drew1 | refine below_set ?_ GE291.out) | exact HB.out)⟩⟩
 case round =>
  clear H'
  try clear p2
  obtain ⟨x3_1, rfl, HA, HK1, BK291, HB⟩ := hrel
  cases gk with
  | zero => exact absurd HA.out (by simp [arlinkref06_Few.l0])
  | succ k1 =>
   have H := HA.out
   clear HA
   simp only [arlinkref06_Few.l0] at H
   have HC3 := Aside0.mk H
   clear H
   go_upto_region 2 with (fail)
   go_cut [12] (fun v12 wc => ∃ (kq : Nat) (x12_2 : Bool), v12 = .bool x12_2 ∧ Aside0 (arlinkref06_Few.j1 kq x3_1 x12_2 l0_0 l0_1 = some r) ∧ Aside0 (kq ≤ k1) ∧ Aside0 (wc.heap[gb291]? = some (.cells #[(.slice A0_0 l0_0.length c0_0), (.slice A0_1 l0_1.length c0_1)] 50 (0, 0))) ∧ Aside0 (Below w.heap.size w wc))
   case first =>
    have H := HC3.out
    clear HC3
    by_cases c4 : x3_1 < (l0_0.length : Int)
    ·rw [if_pos c4] at H
     have c4b0 : decide (x3_1 < (l0_0.length : Int)) = true := decide_eq_true c4
     clear c4
     (first | rw [c4b0] | (simp only [i64_w, i32_w]; rw [c4b0]) | skip)
     have H' := Aside0.mk H
     clear H
     have hcz5_0 : wr.cell? ⟨gb291, 0, none⟩ = some (.slice A0_0 l0_0.length c0_0) := (blk_cell BK291.out 0).trans rfl
     have hcz5_1 : wr.cell? ⟨gb291, 1, none⟩ = some (.slice A0_1 l0_1.length c0_1) := (blk_cell BK291.out 1).trans rfl
     have hfz5_0 := blk_frozen BK291.out 0
     have hfz5_1 := blk_frozen BK291.out 1
     go_wp2
     go_meet
     case rel => exact ⟨_, (decide (x3_1 ≤ 60)), (by first | rfl | (simp; done) | (simp [*]; done)), H', ⟨by have := HK1.out; first | omega | exact Nat.le_refl _⟩, ⟨by (with_reducible repeat (first | refine blk_drewN ?_ _ | refine blk_drew ?_ | refine blk_alloc ?_ _)); exact BK291.out⟩, ⟨by repeat (first | (with_reducible first | exact HB.out | apply below_alloc | apply pw_below_drewN | apply below_drew1 | refine below_set ?_ GE291.out) | exact HB.out)⟩⟩
    ·rw [if_neg c4] at H
     have c4b0 : decide (x3_1 < (l0_0.length : Int)) = false := decide_eq_false c4
     clear c4
     (first | rw [c4b0] | (simp only [i64_w, i32_w]; rw [c4b0]) | skip)
     have H' := Aside0.mk H
     clear H
     have hcz6_0 : wr.cell? ⟨gb291, 0, none⟩ = some (.slice A0_0 l0_0.length c0_0) := (blk_cell BK291.out 0).trans rfl
     have hcz6_1 : wr.cell? ⟨gb291, 1, none⟩ = some (.slice A0_1 l0_1.length c0_1) := (blk_cell BK291.out 1).trans rfl
     have hfz6_0 := blk_frozen BK291.out 0
     have hfz6_1 := blk_frozen BK291.out 1
     go_wp2
     go_meet
     case rel => exact ⟨_, (false), (by first | rfl | (simp; done) | (simp [*]; done)), H', ⟨by have := HK1.out; first | omega | exact Nat.le_refl _⟩, ⟨by (with_reducible repeat (first | refine blk_drewN ?_ _ | refine blk_drew ?_ | refine blk_alloc ?_ _)); exact BK291.out⟩, ⟨by repeat (first | (with_reducible first | exact HB.out | apply below_alloc | apply pw_below_drewN | apply below_drew1 | refine below_set ?_ GE291.out) | exact HB.out)⟩⟩
   case rest =>
    clear HC3
    try clear p2
    try clear c4
    try clear c4b0
    try clear hcz5_0
    try clear hcz5_1
    try clear hcz6_0
    try clear hcz6_1
    try clear hfz5_0
    try clear hfz5_1
    try clear hfz6_0
    try clear hfz6_1
    try clear p2
    obtain ⟨kq, x12_2, rfl, HA, HJ2, BK291, HB⟩ := hcut
    cases kq with
    | zero => exact absurd HA.out (by simp [arlinkref06_Few.j1])
    | succ kj2 =>
     have H := HA.out
     clear HA
     simp only [arlinkref06_Few.j1] at H
     by_cases c7 : x12_2 = true
     ·subst c7
      have H1 : (if 0 ≤ x3_1 then (if x3_1 < (l0_0.length : Int) then (if (((rd_T55 l0_0 x3_1).f0).size : Int) > 300 then (some false) else (arlinkref06_Few.l0 kj2 (wrap64 (x3_1 + 1)) l0_0 l0_1)) else (none)) else (none)) = some r := by rw [if_pos rfl] at H; exact H
      clear H
      have H := H1
      clear H1
      by_cases c8 : 0 ≤ x3_1
      ·rw [if_pos c8] at H
       have c8b0 : decide (0 ≤ x3_1) = true := decide_eq_true c8
       clear c8
       by_cases c9 : x3_1 < (l0_0.length : Int)
       ·rw [if_pos c9] at H
        have c9b0 : decide (x3_1 < (l0_0.length : Int)) = true := decide_eq_true c9
        clear c9
        by_cases c10 : (((rd_T55 l0_0 x3_1).f0).size : Int) > 300
        ·rw [if_pos c10] at H
         have c10b0 : decide (300 < (((rd_T55 l0_0 x3_1).f0).size : Int)) = true := decide_eq_true c10
         have c10b1 : decide (300 < ((rd_T55 l0_0 x3_1).f0).size) = true := decide_eq_true (by omega)
         clear c10
         obtain rfl := Option.some.inj H
         have hcz11_0 : wc.cell? ⟨gb291, 0, none⟩ = some (.slice A0_0 l0_0.length c0_0) := (blk_cell BK291.out 0).trans rfl
         have hcz11_1 : wc.cell? ⟨gb291, 1, none⟩ = some (.slice A0_1 l0_1.length c0_1) := (blk_cell BK291.out 1).trans rfl
         have hfz11_0 := blk_frozen BK291.out 0
         have hfz11_1 := blk_frozen BK291.out 1
         have p292 : 0 ≤ (x3_1 : Int) := of_decide_eq_true (by first | (with_reducible assumption) | assumption)
         have q292 : x3_1 < (l0_0.length : Int) := of_decide_eq_true (by first | (with_reducible assumption) | assumption)
         obtain ⟨ad292, e292, hx292_0, hx292_1, hx292_2, hx292_3⟩ := at_T55 HR0_0.out x3_1 p292 q292
         cases e292
         replace hx292_0 := (HB.out.cell (World.block_lt_of_cell? w _ hx292_0)).trans hx292_0
         replace hx292_1 := (HB.out.cell (World.block_lt_of_cell? w _ hx292_1)).trans hx292_1
         replace hx292_2 := (HB.out.cell (World.block_lt_of_cell? w _ hx292_2)).trans hx292_2
         replace hx292_3 := (HB.out.cell (World.block_lt_of_cell? w _ hx292_3)).trans hx292_3
         replace p292 := eq_true p292
         replace q292 := eq_true q292
         go_wp2
         go_ret
         exact ⟨by first | rfl | (simp [errW_none, errW_some] <;> rfl) | (simp [*, errW_none, errW_some] <;> rfl), by repeat (first | (with_reducible first | exact HB.out | apply below_alloc | apply pw_below_drewN | apply below_drew1 | refine below_set ?_ GE291.out) | exact HB.out)⟩
        ·rw [if_neg c10] at H
         have c10b0 : decide (300 < (((rd_T55 l0_0 x3_1).f0).size : Int)) = false := decide_eq_false c10
         have c10b1 : decide (300 < ((rd_T55 l0_0 x3_1).f0).size) = false := decide_eq_false (by omega)
         clear c10
         have H' := Aside0.mk H
         clear H
         have hcz12_0 : wc.cell? ⟨gb291, 0, none⟩ = some (.slice A0_0 l0_0.length c0_0) := (blk_cell BK291.out 0).trans rfl
         have hcz12_1 : wc.cell? ⟨gb291, 1, none⟩ = some (.slice A0_1 l0_1.length c0_1) := (blk_cell BK291.out 1).trans rfl
         have hfz12_0 := blk_frozen BK291.out 0
         have hfz12_1 := blk_frozen BK291.out 1
         have p292 : 0 ≤ (x3_1 : Int) := of_decide_eq_true (by first | (with_reducible assumption) | assumption)
         have q292 : x3_1 < (l0_0.length : Int) := of_decide_eq_true (by first | (with_reducible assumption) | assumption)
         obtain ⟨ad292, e292, hx292_0, hx292_1, hx292_2, hx292_3⟩ := at_T55 HR0_0.out x3_1 p292 q292
         cases e292
         replace hx292_0 := (HB.out.cell (World.block_lt_of_cell? w _ hx292_0)).trans hx292_0
         replace hx292_1 := (HB.out.cell (World.block_lt_of_cell? w _ hx292_1)).trans hx292_1
         replace hx292_2 := (HB.out.cell (World.block_lt_of_cell? w _ hx292_2)).trans hx292_2
         replace hx292_3 := (HB.out.cell (World.block_lt_of_cell? w _ hx292_3)).trans hx292_3
         replace p292 := eq_true p292
         replace q292 := eq_true q292
         go_wp2
         go_roundg kj2
         case measure => have := HK1.out; have := HJ2.out; omega
         case rel => exact ⟨(wrap64 (x3_1 + 1)), (by first | rfl | (simp; done) | (simp [*]; done)), H', ⟨by have := HK1.out; have := HJ2.out; omega⟩, ⟨by (with_reducible repeat (first | refine blk_drewN ?_ _ | refine blk_drew ?_ | refine blk_alloc ?_ _)); exact BK291.out⟩, ⟨by repeat (first | (with_reducible first | exact HB.out | apply below_alloc | apply pw_below_drewN | apply below_drew1 | refine below_set ?_ GE291.out) | exact HB.out)⟩⟩
       ·rw [if_neg c9] at H
        exact absurd H (by simp)
      ·rw [if_neg c8] at H
       exact absurd H (by simp)
     ·replace c7 := Bool.eq_false_iff.mpr c7
      subst c7
      have H1 : (if (l0_0.length : Int) ≤ 60 then (some (decide ((l0_1.length : Int) ≤ 1000))) else (some false)) = some r := by rw [if_neg (show ¬ (false = true) by decide)] at H; exact H
      clear H
      have H := H1
      clear H1
      by_cases c13 : (l0_0.length : Int) ≤ 60
      ·rw [if_pos c13] at H
       have c13b0 : decide ((l0_0.length : Int) ≤ 60) = true := decide_eq_true c13
       have c13b1 : decide (l0_0.length ≤ 60) = true := decide_eq_true (by omega)
       clear c13
       obtain rfl := Option.some.inj H
       have hcz14_0 : wc.cell? ⟨gb291, 0, none⟩ = some (.slice A0_0 l0_0.length c0_0) := (blk_cell BK291.out 0).trans rfl
       have hcz14_1 : wc.cell? ⟨gb291, 1, none⟩ = some (.slice A0_1 l0_1.length c0_1) := (blk_cell BK291.out 1).trans rfl
       have hfz14_0 := blk_frozen BK291.out 0
       have hfz14_1 := blk_frozen BK291.out 1
       go_wp2
       go_ret
       exact ⟨by first | rfl | (simp [errW_none, errW_some] <;> rfl) | (simp [*, errW_none, errW_some] <;> rfl), by repeat (first | (with_reducible first | exact HB.out | apply below_alloc | apply pw_below_drewN | apply below_drew1 | refine below_set ?_ GE291.out) | exact HB.out)⟩
      ·rw [if_neg c13] at H
       have c13b0 : decide ((l0_0.length : Int) ≤ 60) = false := decide_eq_false c13
       have c13b1 : decide (l0_0.length ≤ 60) = false := decide_eq_false (by omega)
       clear c13
       obtain rfl := Option.some.inj H
       have hcz15_0 : wc.cell? ⟨gb291, 0, none⟩ = some (.slice A0_0 l0_0.length c0_0) := (blk_cell BK291.out 0).trans rfl
       have hcz15_1 : wc.cell? ⟨gb291, 1, none⟩ = some (.slice A0_1 l0_1.length c0_1) := (blk_cell BK291.out 1).trans rfl
       have hfz15_0 := blk_frozen BK291.out 0
       have hfz15_1 := blk_frozen BK291.out 1
       go_wp2
       go_ret
       exact ⟨by first | rfl | (simp [errW_none, errW_some] <;> rfl) | (simp [*, errW_none, errW_some] <;> rfl), by repeat (first | (with_reducible first | exact HB.out | apply below_alloc | apply pw_below_drewN | apply below_drew1 | refine below_set ?_ GE291.out) | exact HB.out)⟩
def arlinkref06_Power.l0 : Nat → Int → Int → Option (Bool)
 | 0, _, _ => none
 | k + 1, x0, x3 => if x3 ≤ 65536 then (if x3 = x0 then (some true) else (arlinkref06_Power.l0 k x0 (wrap64 (2 * x3)))) else (some false)
def arlinkref06_Power.f (k : Nat) (a0 : Int) : Option (Bool) := arlinkref06_Power.l0 k a0 1
set_option maxHeartbeats 8000000 in
set_option maxRecDepth 100000 in
theorem arlinkref06_Power.calls (k : Nat) (a0 : Int) (r : Bool) (w : World) (h : arlinkref06_Power.f k a0 = some r) :
  Calls Try.prog 69 #[.int .i64 a0] w fun e w' => e = .returned (.bool r) ∧ Drawn0 w w' := by
 have H : (arlinkref06_Power.l0 k a0 1) = some r := h
 clear h
 have H' := Aside0.mk H
 clear H
 go_enter Try.func69, Try.ntmps69
 go_wp2
 go_loopg [3] k (fun kq v3 w' => ∃ (x3_1 : Int), v3 = .int .i64 x3_1 ∧ Aside0 (arlinkref06_Power.l0 kq a0 x3_1 = some r) ∧ Aside0 (kq ≤ k) ∧ Drawn0 w w')
 case atStart => exact ⟨(1), (by first | rfl | (simp; done) | (simp [*]; done)), H', ⟨Nat.le_refl _⟩, by repeat (first | exact Drawn0.refl _ | apply Drawn0.step)⟩
 case round =>
  clear H'
  obtain ⟨x3_1, rfl, HA, HK1, ⟨m1, rfl⟩⟩ := hrel
  cases gk with
  | zero => exact absurd HA.out (by simp [arlinkref06_Power.l0])
  | succ k1 =>
   have H := HA.out
   clear HA
   simp only [arlinkref06_Power.l0] at H
   by_cases c2 : x3_1 ≤ 65536
   ·rw [if_pos c2] at H
    have c2b0 : decide (x3_1 ≤ 65536) = true := decide_eq_true c2
    clear c2
    by_cases c3 : x3_1 = a0
    ·rw [if_pos c3] at H
     have c3b0 : (x3_1 == a0) = true := beq_iff_eq.mpr c3
     have c3b1 : (x3_1 != a0) = false := bne_eq_false_iff_eq.mpr c3
     clear c3
     obtain rfl := Option.some.inj H
     go_wp2
     go_ret
     exact ⟨by first | rfl | (simp; done) | (simp [*]; done), by repeat (first | exact Drawn0.refl _ | apply Drawn0.step)⟩
    ·rw [if_neg c3] at H
     have c3b0 : (x3_1 == a0) = false := beq_eq_false_iff_ne.mpr c3
     have c3b1 : (x3_1 != a0) = true := bne_iff_ne.mpr c3
     have H' := Aside0.mk H
     clear H
     go_wp2
     go_roundg k1
     case measure => have := HK1.out; omega
     case rel => exact ⟨(wrap64 (2 * x3_1)), (by first | rfl | (simp; done) | (simp [*]; done)), H', ⟨by have := HK1.out; omega⟩, by repeat (first | exact Drawn0.refl _ | apply Drawn0.step)⟩
   ·rw [if_neg c2] at H
    have c2b0 : decide (x3_1 ≤ 65536) = false := decide_eq_false c2
    clear c2
    obtain rfl := Option.some.inj H
    go_wp2
    go_ret
    exact ⟨by first | rfl | (simp; done) | (simp [*]; done), by repeat (first | exact Drawn0.refl _ | apply Drawn0.step)⟩
end Go.Proofs.Ythpjpkcfepmhkaa.PAll
namespace Go.Proofs.Ythpjpkcfepmhkaa.Hp
section
variable {α : Type} (d : α) (less : α → α → Bool)
def at_ (xs : List α) (i : Nat) : α := xs.getD i d
def swp (xs : List α) (i k : Nat) : List α := (xs.set i (at_ d xs k)).set k (at_ d xs i)
/-- The lesser child. -/
def kid (n : Nat) (xs : List α) (i : Nat) : Nat := if 2 * i + 2 < n ∧ less (at_ d xs (2 * i + 2)) (at_ d xs (2 * i + 1)) = true then 2 * i + 2 else 2 * i + 1
def down (n : Nat) : Nat → List α → Nat → List α
  | 0, xs, _ => xs
  | k + 1, xs, i =>
    if n ≤ 2 * i + 1 then xs else
    if less (at_ d xs (kid d less n xs i)) (at_ d xs i) = true then down n k (swp d xs i (kid d less n xs i)) (kid d less n xs i) else xs
def up : Nat → List α → Nat → List α
  | 0, xs, _ => xs
  | k + 1, xs, j =>
    if j = 0 then xs else
    if less (at_ d xs j) (at_ d xs ((j - 1) / 2)) = true then up k (swp d xs ((j - 1) / 2) j) ((j - 1) / 2) else xs
/-- Init's rounds: at i, i - 1, .., 0 (i counts one more). -/
def build (n : Nat) : Nat → List α → List α
  | 0, xs => xs
  | i + 1, xs => build n i (down d less n (n + 1) xs i)
def push (xs : List α) (x : α) : List α := up d less (xs.length + 1) (xs ++ [x]) xs.length
/-- Behind Pop's exchange and down: the last is handed back, the others stay. -/
def popped (xs : List α) : List α := down d less (xs.length - 1) (xs.length) (swp d xs 0 (xs.length - 1)) 0
def pop (xs : List α) : List α := (popped d less xs).take (xs.length - 1)
end
section
variable {α : Type} {d : α} {less : α → α → Bool}
theorem swp_length (xs : List α) (i k : Nat) : (swp d xs i k).length = xs.length := by simp [swp]
theorem at_set (xs : List α) (i j : Nat) (a : α) (hi : i < xs.length) : at_ d (xs.set i a) j = if j = i then a else at_ d xs j := by
  unfold at_
  simp only [List.getD_eq_getElem?_getD, List.getElem?_set]
  by_cases h : i = j
  · subst h; simp [hi]
  · simp [h, Ne.symm h]
theorem at_swp (xs : List α) (i k j : Nat) (hi : i < xs.length) (hk : k < xs.length) : at_ d (swp d xs i k) j = if j = k then at_ d xs i else if j = i then at_ d xs k else at_ d xs j := by
  unfold swp
  rw [at_set _ _ _ _ (by simpa using hk), at_set _ _ _ _ hi]
theorem swp_perm (xs : List α) (i k : Nat) (hi : i < xs.length) (hk : k < xs.length) : (swp d xs i k).Perm xs := by
  have h := Array.swap_perm (xs := xs.toArray) (i := i) (j := k) (by simpa using hi) (by simpa using hk)
  have h2 := h.toList
  have e : (xs.toArray.swap i k (by simpa using hi) (by simpa using hk)).toList = swp d xs i k := by
    simp [Array.swap, swp, at_, List.getD_eq_getElem?_getD, List.getElem?_eq_getElem hi, List.getElem?_eq_getElem hk]
  rw [e] at h2
  simpa using h2
/-- From place a on each one is no greater than those beneath it, within the first n. -/
def Heap (d : α) (less : α → α → Bool) (xs : List α) (n a : Nat) : Prop :=
  ∀ i j, a ≤ i → (j = 2 * i + 1 ∨ j = 2 * i + 2) → j < n → less (at_ d xs j) (at_ d xs i) = false
structure Ord (less : α → α → Bool) : Prop where
  asym : ∀ a b, less a b = true → less b a = false
  trans : ∀ a b c, less b a = false → less c b = false → less c a = false
theorem down_perm (n : Nat) : ∀ (k : Nat) (xs : List α) (i : Nat), n ≤ xs.length → i < xs.length → (down d less n k xs i).Perm xs := by
  intro k
  induction k with
  | zero => intro xs i _ _; exact List.Perm.refl _
  | succ k ih =>
    intro xs i hn hi
    simp only [down]
    split
    · exact List.Perm.refl _
    · rename_i h1
      split
      · generalize hj : kid d less n xs i = j
        have hjl : j < n := by
          rw [← hj]; unfold kid; split
          · rename_i h; exact h.1
          · omega
        exact (ih _ j (by rw [swp_length]; exact hn) (by rw [swp_length]; omega)).trans (swp_perm xs i j hi (by omega))
      · exact List.Perm.refl _
theorem down_length (n k : Nat) (xs : List α) (i : Nat) (hn : n ≤ xs.length) (hi : i < xs.length) : (down d less n k xs i).length = xs.length := (down_perm n k xs i hn hi).length_eq
theorem down_far (n : Nat) : ∀ (k : Nat) (xs : List α) (i q : Nat), n ≤ xs.length → i < xs.length → (q < i ∨ n ≤ q) → i < n ∨ q ≠ i → at_ d (down d less n k xs i) q = at_ d xs q := by
  intro k
  induction k with
  | zero => intro xs i q _ _ _ _; rfl
  | succ k ih =>
    intro xs i q hn hi hq hq2
    simp only [down]
    split
    · rfl
    · rename_i h1
      split
      · generalize hj : kid d less n xs i = j
        have hjl : j < n ∧ i < j := by
          rw [← hj]; unfold kid; split
          · rename_i h; exact ⟨h.1, by omega⟩
          · omega
        rw [ih _ j q (by rw [swp_length]; exact hn) (by rw [swp_length]; omega) (by omega) (by omega), at_swp xs i j q hi (by omega), if_neg (by omega), if_neg (by omega)]
      · rfl
/-- down makes a heap from i0 on, where all beneath it was one; on its way: all but at i. -/
theorem down_heap (ho : Ord less) (n a : Nat) : ∀ (k : Nat) (xs : List α) (i : Nat), n ≤ xs.length → i < xs.length → a ≤ i → n < k + i →
    (∀ p j, a ≤ p → p ≠ i → (j = 2 * p + 1 ∨ j = 2 * p + 2) → j < n → less (at_ d xs j) (at_ d xs p) = false) →
    (∀ p j, a ≤ p → (i = 2 * p + 1 ∨ i = 2 * p + 2) → (j = 2 * i + 1 ∨ j = 2 * i + 2) → j < n → less (at_ d xs j) (at_ d xs p) = false) →
    Heap d less (down d less n k xs i) n a := by
  intro k
  induction k with
  | zero =>
    intro xs i hn hi ha hk h1 h2 p j hp hj hjn
    by_cases e : p = i
    · omega
    · exact h1 p j hp e hj hjn
  | succ k ih =>
    intro xs i hn hi ha hk h1 h2
    simp only [down]
    split
    · rename_i hb
      intro p j hp hj hjn
      by_cases e : p = i
      · omega
      · exact h1 p j hp e hj hjn
    · rename_i hb
      generalize hj : kid d less n xs i = j
      have hjl : j < n ∧ (j = 2 * i + 1 ∨ j = 2 * i + 2) := by
        rw [← hj]; unfold kid; split
        · rename_i h; exact ⟨h.1, by omega⟩
        · omega
      -- j is the lesser child
      have hmin : ∀ q, (q = 2 * i + 1 ∨ q = 2 * i + 2) → q < n → less (at_ d xs q) (at_ d xs j) = false := by
        have irr : ∀ x, less x x = false := fun x => by
          cases h : less x x
          · rfl
          · exact absurd (ho.asym x x h) (by rw [h]; decide)
        intro q hq hqn
        by_cases hc : 2 * i + 2 < n ∧ less (at_ d xs (2 * i + 2)) (at_ d xs (2 * i + 1)) = true
        · unfold kid at hj; rw [if_pos hc] at hj
          subst hj
          rcases hq with rfl | rfl
          · exact ho.asym _ _ hc.2
          · exact irr _
        · unfold kid at hj; rw [if_neg hc] at hj
          subst hj
          rcases hq with rfl | rfl
          · exact irr _
          · cases hx : less (at_ d xs (2 * i + 2)) (at_ d xs (2 * i + 1))
            · rfl
            · exact absurd ⟨hqn, hx⟩ hc
      split
      · rename_i hlt
        have hil : i < n := by omega
        refine ih _ j (by rw [swp_length]; exact hn) (by rw [swp_length]; omega) (by omega) (by omega) ?_ ?_
        · intro p q hp hpj hq hqn
          rw [at_swp xs i j q hi (by omega), at_swp xs i j p hi (by omega)]
          by_cases hpi : p = i
          · -- the exchanged parent: xs[j] now
            subst hpi
            rw [if_neg hpj, if_pos rfl]
            by_cases hqj : q = j
            · rw [if_pos hqj]; exact ho.asym _ _ hlt
            · rw [if_neg hqj, if_neg (by omega)]; exact hmin q hq hqn
          · rw [if_neg hpj, if_neg hpi]
            by_cases hqj : q = j
            · exfalso; omega
            · rw [if_neg hqj]
              by_cases hqi : q = i
              · rw [if_pos hqi]
                -- p is i's parent: its grandchild j
                exact h2 p j hp (by omega) hjl.2 hjl.1
              · rw [if_neg hqi]; exact h1 p q hp hpi hq hqn
        · intro p q hp hjp hq hqn
          have hpi : p = i := by omega
          subst hpi
          rw [at_swp xs p j q hi (by omega), at_swp xs p j p hi (by omega), if_neg (by omega : ¬ q = j), if_neg (by omega : ¬ q = p), if_neg (by omega : ¬ p = j), if_pos rfl]
          exact h1 j q (by omega) (by omega) hq hqn
      · rename_i hlt
        have hlt' : less (at_ d xs j) (at_ d xs i) = false := by
          cases h : less (at_ d xs j) (at_ d xs i)
          · rfl
          · exact absurd h hlt
        intro p q hp hq hqn
        by_cases hpi : p = i
        · subst hpi
          exact ho.trans _ _ _ hlt' (hmin q hq hqn)
        · exact h1 p q hp hpi hq hqn
/-- The first of a heap is none of the greater. -/
theorem heap_least (ho : Ord less) {xs : List α} {n : Nat} (h : Heap d less xs n 0) : ∀ j, j < n → less (at_ d xs j) (at_ d xs 0) = false := by
  have irr : ∀ x, less x x = false := fun x => by
    cases h : less x x
    · rfl
    · exact absurd (ho.asym x x h) (by rw [h]; decide)
  intro j
  induction j using Nat.strongRecOn with
  | _ j ih =>
    intro hj
    by_cases h0 : j = 0
    · subst h0; exact irr _
    · have h1 := ih ((j - 1) / 2) (by omega) (by omega)
      have h2 := h ((j - 1) / 2) j (Nat.zero_le _) (by omega) hj
      exact ho.trans _ _ _ h1 h2
theorem popped_length (xs : List α) (h : xs ≠ []) : (popped d less xs).length = xs.length := by
  have hl : 0 < xs.length := List.length_pos_iff.2 h
  unfold popped
  rw [down_length _ _ _ _ (by rw [swp_length]; omega) (by rw [swp_length]; omega), swp_length]
theorem popped_last (xs : List α) (h : xs ≠ []) : at_ d (popped d less xs) (xs.length - 1) = at_ d xs 0 := by
  have hl : 0 < xs.length := List.length_pos_iff.2 h
  unfold popped
  by_cases h1 : xs.length = 1
  · rw [h1]
    have : down d less (1 - 1) 1 (swp d xs 0 (1 - 1)) 0 = swp d xs 0 0 := by simp [down]
    rw [this, at_swp xs 0 0 _ hl hl]
    simp
  · rw [down_far _ _ _ _ _ (by rw [swp_length]; omega) (by rw [swp_length]; omega) (by omega) (by omega), at_swp xs 0 _ _ hl (by omega), if_pos rfl]
theorem pop_spec (ho : Ord less) (xs : List α) (h : xs ≠ []) (hh : Heap d less xs xs.length 0) :
    xs.Perm (at_ d xs 0 :: pop d less xs) ∧ (pop d less xs).length = xs.length - 1 ∧ Heap d less (pop d less xs) (xs.length - 1) 0 ∧ ∀ y, y ∈ pop d less xs → less y (at_ d xs 0) = false := by
  have hl : 0 < xs.length := List.length_pos_iff.2 h
  have hpl := popped_length (d := d) (less := less) xs h
  have hlast := popped_last (d := d) (less := less) xs h
  have hperm : (popped d less xs).Perm xs := by
    unfold popped
    exact (down_perm _ _ _ _ (by rw [swp_length]; omega) (by rw [swp_length]; omega)).trans (swp_perm xs 0 _ hl (by omega))
  have hsplit : popped d less xs = pop d less xs ++ [at_ d xs 0] := by
    have e1 : popped d less xs = (popped d less xs).take (xs.length - 1) ++ (popped d less xs).drop (xs.length - 1) := (List.take_append_drop _ _).symm
    rw [e1]
    congr 1
    rw [List.drop_eq_getElem_cons (by omega), List.drop_of_length_le (by omega)]
    rw [← hlast]
    simp [at_, List.getD_eq_getElem?_getD, List.getElem?_eq_getElem (show xs.length - 1 < (popped d less xs).length by omega)]
  have hp1 : xs.Perm (at_ d xs 0 :: pop d less xs) := by
    have h2 := hperm.symm
    rw [hsplit] at h2
    exact h2.trans List.perm_append_comm
  have hplen : (pop d less xs).length = xs.length - 1 := by unfold pop; rw [List.length_take, hpl]; omega
  have hheap : Heap d less (popped d less xs) (xs.length - 1) 0 := by
    unfold popped
    by_cases h1 : xs.length = 1
    · intro i j _ _ hj; omega
    · refine down_heap ho _ 0 _ _ 0 (by rw [swp_length]; omega) (by rw [swp_length]; omega) (Nat.le_refl _) (by omega) ?_ ?_
      · intro p j _ hp0 hj hjn
        rw [at_swp xs 0 _ _ hl (by omega), at_swp xs 0 _ _ hl (by omega), if_neg (by omega), if_neg (by omega), if_neg (by omega), if_neg (by omega)]
        exact hh p j (Nat.zero_le _) hj (by omega)
      · intro p j _ hip; omega
  refine ⟨hp1, hplen, ?_, ?_⟩
  · intro i j hi hj hjn
    have e : ∀ q, q < xs.length - 1 → at_ d (pop d less xs) q = at_ d (popped d less xs) q := by
      intro q hq
      simp [pop, at_, List.getD_eq_getElem?_getD, hq]
    rw [e j hjn, e i (by omega)]
    exact hheap i j hi hj hjn
  · intro y hy
    have hy2 : y ∈ xs := hp1.symm.mem_iff.1 (List.mem_cons_of_mem _ hy)
    obtain ⟨j, hj, rfl⟩ := List.getElem_of_mem hy2
    have := heap_least ho hh j hj
    simpa [at_, List.getD_eq_getElem?_getD, List.getElem?_eq_getElem hj] using this
theorem up_perm : ∀ (k : Nat) (xs : List α) (j : Nat), j < xs.length → (up d less k xs j).Perm xs := by
  intro k
  induction k with
  | zero => intro xs j _; exact List.Perm.refl _
  | succ k ih =>
    intro xs j hj
    simp only [up]
    split
    · exact List.Perm.refl _
    · split
      · exact (ih _ _ (by rw [swp_length]; omega)).trans (swp_perm xs _ j (by omega) hj)
      · exact List.Perm.refl _
theorem up_heap (ho : Ord less) (n : Nat) : ∀ (k : Nat) (xs : List α) (j : Nat), n = xs.length → j < n → j < k →
    (∀ p q, (q = 2 * p + 1 ∨ q = 2 * p + 2) → q < n → q ≠ j → less (at_ d xs q) (at_ d xs p) = false) →
    (∀ p q, (j = 2 * p + 1 ∨ j = 2 * p + 2) → (q = 2 * j + 1 ∨ q = 2 * j + 2) → q < n → less (at_ d xs q) (at_ d xs p) = false) →
    Heap d less (up d less k xs j) n 0 := by
  intro k
  induction k with
  | zero => intro xs j _ _ hk; omega
  | succ k ih =>
    intro xs j hn hj hk h1 h2
    simp only [up]
    split
    · rename_i h0
      intro p q _ hq hqn
      exact h1 p q hq hqn (by omega)
    · rename_i h0
      split
      · rename_i hlt
        generalize hi : (j - 1) / 2 = i at hlt ⊢
        have hij : j = 2 * i + 1 ∨ j = 2 * i + 2 := by omega
        have hil : i < xs.length := by omega
        refine ih _ i (by rw [swp_length]; exact hn) (by omega) (by omega) ?_ ?_
        · intro p q hq hqn hqi
          rw [at_swp xs i j q hil (by omega), at_swp xs i j p hil (by omega)]
          by_cases hqj : q = j
          · have hpi : p = i := by omega
            subst hpi
            rw [if_pos hqj, if_neg (by omega), if_pos rfl]
            exact ho.asym _ _ hlt
          · rw [if_neg hqj, if_neg hqi]
            by_cases hpj : p = j
            · subst hpj
              rw [if_pos rfl]
              exact h2 i q hij hq hqn
            · rw [if_neg hpj]
              by_cases hpi : p = i
              · subst hpi
                rw [if_pos rfl]
                exact ho.trans _ _ _ (ho.asym _ _ hlt) (h1 p q hq hqn hqj)
              · rw [if_neg hpi]
                exact h1 p q hq hqn hqj
        · intro p q hip hq hqn
          rw [at_swp xs i j q hil (by omega), at_swp xs i j p hil (by omega), if_neg (by omega : ¬ p = j), if_neg (by omega : ¬ p = i)]
          have hpi := h1 p i hip (by omega) (by omega)
          by_cases hqj : q = j
          · rw [if_pos hqj]; exact hpi
          · rw [if_neg hqj, if_neg (by omega)]
            exact ho.trans _ _ _ hpi (h1 i q hq hqn hqj)
      · rename_i hlt
        have hlt' : less (at_ d xs j) (at_ d xs ((j - 1) / 2)) = false := by
          cases h : less (at_ d xs j) (at_ d xs ((j - 1) / 2))
          · rfl
          · exact absurd h hlt
        intro p q _ hq hqn
        by_cases hqj : q = j
        · subst hqj
          have : p = (q - 1) / 2 := by omega
          rw [this]; exact hlt'
        · exact h1 p q hq hqn hqj
theorem push_spec (ho : Ord less) (xs : List α) (x : α) (hh : Heap d less xs xs.length 0) : Heap d less (push d less xs x) (xs.length + 1) 0 ∧ (push d less xs x).Perm (x :: xs) := by
  have ha : ∀ q, q < xs.length → at_ d (xs ++ [x]) q = at_ d xs q := by
    intro q hq
    simp [at_, List.getD_eq_getElem?_getD, List.getElem?_append_left hq]
  refine ⟨?_, ?_⟩
  · unfold push
    refine up_heap ho (xs.length + 1) _ _ _ (by simp) (by omega) (by omega) ?_ ?_
    · intro p q hq hqn hqj
      rw [ha q (by omega), ha p (by omega)]
      exact hh p q (Nat.zero_le _) hq (by omega)
    · intro p q hp hq hqn; omega
  · unfold push
    exact (up_perm _ _ _ (by simp)).trans List.perm_append_comm
theorem push_length (xs : List α) (x : α) : (push d less xs x).length = xs.length + 1 := by
  unfold push
  rw [(up_perm _ _ _ (by simp)).length_eq]
  simp
end
end Go.Proofs.Ythpjpkcfepmhkaa.Hp
namespace Go.Proofs.Ythpjpkcfepmhkaa.PAll.W
open Go.RowKit Go.Proofs.YthpjpkcfepmhkaaW.PrintWords Go.Proofs.YthpjpkcfepmhkaaW.PrintLast Go.Proofs.YthpjpkcfepmhkaaW.PrintMore
set_option linter.unusedVariables false
set_option linter.unusedSimpArgs false
def less (a b : ByteArray) : Bool := Op.bytesLess a.toList b.toList
/-- The variable at the head of block g holds v, a row of one's own that reads as xs; behind it in the block: rest. -/
def HS (w : World) (base g : Nat) (rest : List Value) (v : Value) (xs : List ByteArray) : Prop := w.heap[g]? = some (.cells (v :: rest).toArray 89 (0, 0)) ∧ Kd.R Kd.string 9 w base (fun _ => True) v xs
theorem row_cell {w : World} {base b c n : Nat} {ok : Nat → Prop} {xs : List ByteArray} (h : Kd.R Kd.string 9 w base ok (.slice (some ⟨b, 0, none⟩) n c) xs) (i : Nat) (hi : i < xs.length) :
    w.cell? ⟨b, i, none⟩ = some (.string (Hp.at_ ByteArray.empty xs i)) ∧ w.frozen? ⟨b, i, none⟩ = false := by
  obtain ⟨hn, _, _⟩ := Kd.R_reads' h
  subst hn
  have := Kd.R_cell (enc := Value.string) (h1 := fun _ => rfl) ByteArray.empty h (i : Int) (Int.natCast_nonneg _) (by omega)
  simp only [Int.toNat_natCast] at this
  exact this
set_option maxHeartbeats 1000000 in
theorem less_calls (w : World) (base : Nat) (ok : Nat → Prop) (v : Value) (xs : List ByteArray) (i k : Int) (hR : Kd.R Kd.string 9 w base ok v xs) (hi0 : 0 ≤ i) (hi : i < xs.length) (hk0 : 0 ≤ k) (hk : k < xs.length) :
    Calls Try.prog 91 #[v, .int .i64 i, .int .i64 k] w fun e w' => e = .returned (.bool (less (Hp.at_ ByteArray.empty xs i.toNat) (Hp.at_ ByteArray.empty xs k.toNat))) ∧ Below w.heap.size w w' := by
  obtain ⟨b, c, rfl, hbb, hbl, _⟩ := Kd.R_form hR (by omega)
  obtain ⟨i, rfl⟩ := Int.eq_ofNat_of_zero_le hi0
  obtain ⟨k, rfl⟩ := Int.eq_ofNat_of_zero_le hk0
  simp only [Int.toNat_natCast]
  obtain ⟨h0, _⟩ := row_cell hR i (by omega)
  obtain ⟨g0, _⟩ := row_cell hR k (by omega)
  clear hR
  generalize Hp.at_ ByteArray.empty xs i = x at *
  generalize Hp.at_ ByteArray.empty xs k = y at *
  generalize xs.length = n at *
  unfold less
  go_enter Try.func91, Try.ntmps91
  go_wp2
  go_region
  all_goals go_wp2
  all_goals (go_ret; exact ⟨rfl, by repeat (first | exact Below.refl _ _ | apply below_drew | apply below_alloc)⟩)
/-- Element i of a row of one's own is written. -/
theorem row_set {w : World} {base b c n : Nat} {ok : Nat → Prop} {xs : List ByteArray} (h : Kd.R Kd.string 9 w base ok (.slice (some ⟨b, 0, none⟩) n c) xs) (i : Nat) (x : ByteArray) :
    Kd.R Kd.string 9 (w.setCell ⟨b, i, none⟩ (.string x)) base ok (.slice (some ⟨b, 0, none⟩) n c) (xs.set i x) ∧ w.grownBy (w.setCell ⟨b, i, none⟩ (.string x)) (some b) := by
  obtain ⟨hn, _, _⟩ := Kd.R_reads' h
  subst hn
  have := Kd.R_put (enc := Value.string) (h1 := fun _ => rfl) h (i : Int) x
  simp only [Int.toNat_natCast] at this
  exact this
theorem two_set {w0 w w1 w2 : World} {base g b n c : Nat} {rest : List Value} {v : Value} {ys : List ByteArray} (gr1 : w.grownBy w1 (some b)) (gr2 : w1.grownBy w2 (some b)) (r2 : Kd.R Kd.string 9 w2 base (fun _ => True) (.slice (some ⟨b, 0, none⟩) n c) ys)
    (hg : w.heap[g]? = some (.cells (v :: rest).toArray 89 (0, 0))) (hbg : g ≠ b) (hB : Below base w0 w) (hbs : base ≤ w.heap.size) (hbb : base ≤ b) :
    w2.drew.heap[g]? = some (.cells (v :: rest).toArray 89 (0, 0)) ∧ Kd.R Kd.string 9 w2.drew base (fun _ => True) (.slice (some ⟨b, 0, none⟩) n c) ys ∧ Below base w0 w2.drew ∧ KeepBut w w2.drew g (some b) := by
  have gr := World.grownBy.trans gr1 gr2
  refine ⟨?_, Kd.R_drew r2, below_drew (hB.grown gr hbs (fun k hk => by injection hk with hk; omega)), KeepBut.of_grown (w1 := w2.drew) ⟨gr.os, gr.tape, gr.output, gr.size, gr.block⟩ g⟩
  exact (gr.block g (blk_lt hg) (fun e => hbg (by injection e))).trans hg
set_option maxHeartbeats 1000000 in
theorem swap_calls (w0 w : World) (base g : Nat) (rest : List Value) (v : Value) (xs : List ByteArray) (i k : Int) (hs : HS w base g rest v xs) (hB : Below base w0 w) (hbs : base ≤ w.heap.size) (hi0 : 0 ≤ i) (hi : i < xs.length) (hk0 : 0 ≤ k) (hk : k < xs.length) :
    Calls Try.prog 92 #[v, .int .i64 i, .int .i64 k] w fun e w' => e = .returned (.tuple #[]) ∧ HS w' base g rest v (Hp.swp ByteArray.empty xs i.toNat k.toNat) ∧ Below base w0 w' ∧ KeepBut w w' g v.ownBlock := by
  obtain ⟨hg, hR⟩ := hs
  have hne := Kd.R_ne hR hg (by decide)
  obtain ⟨b, c, rfl, hbb, hbl, _⟩ := Kd.R_form hR (by omega)
  obtain ⟨i, rfl⟩ := Int.eq_ofNat_of_zero_le hi0
  obtain ⟨k, rfl⟩ := Int.eq_ofNat_of_zero_le hk0
  simp only [Int.toNat_natCast]
  obtain ⟨h0, f0⟩ := row_cell hR i (by omega)
  obtain ⟨g0, e0⟩ := row_cell hR k (by omega)
  have hfin : ∀ W, W = ((w.setCell ⟨b, i, none⟩ (.string (Hp.at_ ByteArray.empty xs k))).setCell ⟨b, k, none⟩ (.string (Hp.at_ ByteArray.empty xs i))).drew →
      HS W base g rest (.slice (some ⟨b, 0, none⟩) xs.length c) (Hp.swp ByteArray.empty xs i k) ∧ Below base w0 W ∧ KeepBut w W g (some b) := by
    intro W hW
    obtain ⟨r1, gr1⟩ := row_set hR i (Hp.at_ ByteArray.empty xs k)
    obtain ⟨r2, gr2⟩ := row_set r1 k (Hp.at_ ByteArray.empty xs i)
    have hbg : g ≠ b := fun e => hne (by rw [e]; rfl)
    subst hW
    unfold Hp.swp HS
    obtain ⟨a1, a2, a3, a4⟩ := two_set gr1 gr2 r2 hg hbg hB hbs hbb
    exact ⟨⟨a1, a2⟩, a3, a4⟩
  have HF := Lib.hid hfin
  clear hfin hR hne hg hB
  rcases Nat.lt_trichotomy i k with hik | rfl | hik
  · generalize Hp.at_ ByteArray.empty xs i = x at *
    generalize Hp.at_ ByteArray.empty xs k = y at *
    generalize Hp.swp ByteArray.empty xs i k = ys at *
    generalize xs.length = n at *
    go_enter Try.func92, Try.ntmps92
    go_wp2
    go_region
    all_goals (go_end0; exact ⟨rfl, HF.out _ rfl⟩)
  · clear g0 e0
    generalize Hp.at_ ByteArray.empty xs i = x at *
    generalize Hp.swp ByteArray.empty xs i i = ys at *
    generalize xs.length = n at *
    go_enter Try.func92, Try.ntmps92
    go_wp2
    go_region
    all_goals (go_end0; exact ⟨rfl, HF.out _ rfl⟩)
  · generalize Hp.at_ ByteArray.empty xs i = x at *
    generalize Hp.at_ ByteArray.empty xs k = y at *
    generalize Hp.swp ByteArray.empty xs i k = ys at *
    generalize xs.length = n at *
    go_enter Try.func92, Try.ntmps92
    go_wp2
    go_region
    all_goals (go_end0; exact ⟨rfl, HF.out _ rfl⟩)
theorem cell0 {w : World} {g t : Nat} {rest : List Value} {v : Value} (h : w.heap[g]? = some (.cells (v :: rest).toArray t (0, 0))) : w.cell? ⟨g, 0, none⟩ = some v ∧ w.frozen? ⟨g, 0, none⟩ = false :=
  ⟨(blk_cell h 0).trans (by simp), blk_frozen h _⟩
theorem set0 {w : World} {g t : Nat} {rest : List Value} {v : Value} (h : w.heap[g]? = some (.cells (v :: rest).toArray t (0, 0))) (u : Value) : (w.setCell ⟨g, 0, none⟩ u).heap[g]? = some (.cells (u :: rest).toArray t (0, 0)) :=
  (blk_set h 0 u).trans (by simp)
theorem HS_below {w w1 : World} {base g : Nat} {rest : List Value} {v : Value} {xs : List ByteArray} (h : HS w base g rest v xs) (hb : Below w.heap.size w w1) : HS w1 base g rest v xs :=
  ⟨(hb.block g (blk_lt h.1)).trans h.1, Kd.R_below h.2 hb⟩
theorem HS_cell {w : World} {base g : Nat} {rest : List Value} {v : Value} {xs : List ByteArray} (h : HS w base g rest v xs) : w.cell? ⟨g, 0, none⟩ = some v := (cell0 h.1).1
theorem keep_below {w w1 w2 : World} {g : Nat} {row : Option Nat} (h : KeepBut w w1 g row) (k : Below w1.heap.size w1 w2) : KeepBut w w2 g row := h.trans (KeepBut.of_below k g row) (.inl rfl)
theorem Below_size {B : Nat} {w w1 : World} (h : Below B w w1) (hB : B ≤ w.heap.size) : B ≤ w1.heap.size := by have := h.size; omega
theorem keep_none {w w1 : World} {g : Nat} {row : Option Nat} (h : KeepBut w w1 g none) : KeepBut w w1 g row := ⟨h.1, fun i hi hg _ => h.2 i hi hg (by simp)⟩
end Go.Proofs.Ythpjpkcfepmhkaa.PAll.W
namespace Go.Proofs.Ythpjpkcfepmhkaa.PAll.W
open Go.RowKit Go.Proofs.YthpjpkcfepmhkaaW.PrintWords Go.Proofs.YthpjpkcfepmhkaaW.PrintLast Go.Proofs.YthpjpkcfepmhkaaW.PrintMore
set_option linter.unusedVariables false
set_option linter.unusedSimpArgs false
theorem infoE : (Try.prog.info? 9).map (fun i => (i.zero, i.size, i.bytes)) = some (some (.string ⟨#[]⟩), 1, 16) := by kernel_rfl
theorem bind_eq_ (x : Sem Value) (f : Value → Sem (Nat × Value)) : Sem.bind x f = x >>= f := rfl
theorem pure_eq_ (x : Nat × Value) : Sem.pure x = pure x := rfl
theorem meth_Len0 (a : Addr) (w : World) : (method 234 117 (.pointer (some a)) "Len").run Try.prog w = (Sem.bind (loadVar 87 a) (fun v => Sem.pure ((90 : Nat), v))).run Try.prog w := by kernel_rfl
theorem meth_Len (g : Nat) (v : Value) (w : World) (h : w.cell? ⟨g, 0, none⟩ = some v) : (method 234 117 (.pointer (some ⟨g, 0, none⟩)) "Len").run Try.prog w = .ok (90, v) w := by
  rw [meth_Len0, bind_eq_]; simp only [pure_eq_, Sem.run_bind, Sem.run_pure]; go_simp
theorem meth_Less0 (a : Addr) (w : World) : (method 234 117 (.pointer (some a)) "Less").run Try.prog w = (Sem.bind (loadVar 87 a) (fun v => Sem.pure ((91 : Nat), v))).run Try.prog w := by kernel_rfl
theorem meth_Less (g : Nat) (v : Value) (w : World) (h : w.cell? ⟨g, 0, none⟩ = some v) : (method 234 117 (.pointer (some ⟨g, 0, none⟩)) "Less").run Try.prog w = .ok (91, v) w := by
  rw [meth_Less0, bind_eq_]; simp only [pure_eq_, Sem.run_bind, Sem.run_pure]; go_simp
theorem meth_Swap0 (a : Addr) (w : World) : (method 234 117 (.pointer (some a)) "Swap").run Try.prog w = (Sem.bind (loadVar 87 a) (fun v => Sem.pure ((92 : Nat), v))).run Try.prog w := by kernel_rfl
theorem meth_Swap (g : Nat) (v : Value) (w : World) (h : w.cell? ⟨g, 0, none⟩ = some v) : (method 234 117 (.pointer (some ⟨g, 0, none⟩)) "Swap").run Try.prog w = .ok (92, v) w := by
  rw [meth_Swap0, bind_eq_]; simp only [pure_eq_, Sem.run_bind, Sem.run_pure]; go_simp
theorem meth_Pop (a : Addr) (w : World) : (method 234 117 (.pointer (some a)) "Pop").run Try.prog w = .ok (93, .pointer (some a)) w := by kernel_rfl
theorem meth_Push (a : Addr) (w : World) : (method 234 117 (.pointer (some a)) "Push").run Try.prog w = .ok (94, .pointer (some a)) w := by kernel_rfl
set_option maxHeartbeats 1000000 in
theorem len_calls (A : Option Addr) (n c : Nat) (w : World) (hn : (n : Int) ≤ 9223372036854775807) :
    Calls Try.prog 90 #[.slice A n c] w fun e w' => e = .returned (.int .i64 n) ∧ w = w' := by
  go_enter Try.func90, Try.ntmps90
  go_wp2
  go_ret
  exact ⟨rfl, rfl⟩
set_option maxHeartbeats 1000000 in
theorem popm_calls (w0 w : World) (base g : Nat) (rest : List Value) (A : Option Addr) (n c : Nat) (xs : List ByteArray) (hs : HS w base g rest (.slice A n c) xs) (hB : Below base w0 w) (hbs : base ≤ w.heap.size) (hbg : base ≤ g) (hn : 0 < xs.length) :
    Calls Try.prog 93 #[.pointer (some ⟨g, 0, none⟩)] w fun e w' => e = .returned (.iface 9 (.string (Hp.at_ ByteArray.empty xs (xs.length - 1)))) ∧
      HS w' base g rest (.slice A (xs.length - 1) c) (xs.take (xs.length - 1)) ∧ Below base w0 w' ∧ KeepBut w w' g none := by
  obtain ⟨hg, hR⟩ := hs
  obtain ⟨hcell, hfz⟩ := cell0 hg
  obtain ⟨b, c', he, hbb, hbl, _⟩ := Kd.R_form hR hn
  injection he with he1 he2 he3
  subst he1; subst he2; subst he3
  obtain ⟨_, hnc, hC⟩ := Kd.R_reads' hR
  have hm := hC.2.1
  obtain ⟨h0, _⟩ := row_cell hR (xs.length - 1) (by omega)
  have hgl := blk_lt hg
  have hneq : g ≠ b := fun e => Kd.R_ne hR hg (by decide) (by rw [e]; rfl)
  have hT := Kd.R_take hR (m := xs.length - 1) (by omega)
  have hfin : HS (w.setCell ⟨g, 0, none⟩ (.slice (some ⟨b, 0, none⟩) (xs.length - 1) c)) base g rest (.slice (some ⟨b, 0, none⟩) (xs.length - 1) c) (xs.take (xs.length - 1)) ∧ Below base w0 (w.setCell ⟨g, 0, none⟩ (.slice (some ⟨b, 0, none⟩) (xs.length - 1) c)) ∧ KeepBut w (w.setCell ⟨g, 0, none⟩ (.slice (some ⟨b, 0, none⟩) (xs.length - 1) c)) g none :=
    ⟨⟨set0 hg _, Kd.R_set hT hg (by decide) 0 _⟩, hB.setCell hbg _, (KeepBut.refl w g none).set_ 0 _⟩
  have HF := Lib.hid hfin
  have hcut : ∀ W, (Instr.slice 87 (.slice (some ⟨b, 0, none⟩) xs.length c) none (some (.int .i64 ((xs.length : Int) - 1))) none).run Try.prog W = .ok (.slice (some ⟨b, 0, none⟩) (xs.length - 1) c) W := by
    intro W
    obtain ⟨i0, hi, _⟩ := Option.map_eq_some_iff.1 infoE
    have := cut_to (P := Try.prog) 87 9 .i64 Try.underlying87 hi (some ⟨b, 0, none⟩) xs.length c ((xs.length : Int) - 1) (by omega) (by omega) hnc W
    rw [this, show ((xs.length : Int) - 1).toNat = xs.length - 1 from by omega]
  clear hfin hT hR hg hB hC
  generalize Hp.at_ ByteArray.empty xs (xs.length - 1) = x at *
  generalize xs.take (xs.length - 1) = ys at *
  generalize xs.length = n at *
  obtain ⟨m, rfl⟩ : ∃ m, n = m + 1 := ⟨n - 1, by omega⟩
  simp only [Nat.add_sub_cancel] at *
  have hix : ((m + 1 : Nat) : Int) - 1 = (m : Int) := by omega
  rw [hix] at hcut
  clear hix
  go_enter Try.func93, Try.ntmps93
  go_wp2
  go_ret
  exact ⟨rfl, HF.out⟩
def DownPost (w0 w : World) (base g n : Nat) (rest : List Value) (v : Value) (xs : List ByteArray) (i0 : Nat) (w' : World) : Prop := HS w' base g rest v (Hp.down ByteArray.empty less n (n + 1) xs i0) ∧ Below base w0 w' ∧ KeepBut w w' g v.ownBlock
def DownEnd (w0 w : World) (base g n : Nat) (rest : List Value) (v : Value) (xs : List ByteArray) (i0 : Nat) (e : Ending) (w' : World) : Prop := ∃ r : Bool, e = .returned (.bool r) ∧ DownPost w0 w base g n rest v xs i0 w'
/-- One round of down, its three ways, each as a fact on what is left. -/
theorem down_stop {n kq i : Nat} {ys : List ByteArray} (h : n ≤ 2 * i + 1) : Hp.down ByteArray.empty less n (kq + 1) ys i = ys := by simp [Hp.down, h]
theorem down_still {n kq i j : Nat} {ys : List ByteArray} (h : ¬ n ≤ 2 * i + 1) (hj : Hp.kid ByteArray.empty less n ys i = j) (hl : less (Hp.at_ ByteArray.empty ys j) (Hp.at_ ByteArray.empty ys i) = false) : Hp.down ByteArray.empty less n (kq + 1) ys i = ys := by simp [Hp.down, h, hj, hl]
theorem down_go {n kq i j : Nat} {ys : List ByteArray} (h : ¬ n ≤ 2 * i + 1) (hj : Hp.kid ByteArray.empty less n ys i = j) (hl : less (Hp.at_ ByteArray.empty ys j) (Hp.at_ ByteArray.empty ys i) = true) : Hp.down ByteArray.empty less n (kq + 1) ys i = Hp.down ByteArray.empty less n kq (Hp.swp ByteArray.empty ys i j) j := by simp [Hp.down, h, hj, hl]
theorem kid_two {n i : Nat} {ys : List ByteArray} (h : 2 * i + 2 < n) (hl : less (Hp.at_ ByteArray.empty ys (2 * i + 2)) (Hp.at_ ByteArray.empty ys (2 * i + 1)) = true) : Hp.kid ByteArray.empty less n ys i = 2 * i + 2 := by simp [Hp.kid, h, hl]
theorem kid_one {n i : Nat} {ys : List ByteArray} (h : 2 * i + 2 < n) (hl : less (Hp.at_ ByteArray.empty ys (2 * i + 2)) (Hp.at_ ByteArray.empty ys (2 * i + 1)) = false) : Hp.kid ByteArray.empty less n ys i = 2 * i + 1 := by simp [Hp.kid, hl]
theorem kid_alone {n i : Nat} {ys : List ByteArray} (h : ¬ 2 * i + 2 < n) : Hp.kid ByteArray.empty less n ys i = 2 * i + 1 := by simp [Hp.kid, h]
/-- less as the walk asks it: the answer by name. -/
theorem less_named {W : World} {base g : Nat} {rest : List Value} {v : Value} {xs : List ByteArray} (hs : HS W base g rest v xs) (i k : Int) (a c : Nat) (ha : i = a) (hc : k = c) (hal : a < xs.length) (hcl : c < xs.length) {b : Bool} (hb : less (Hp.at_ ByteArray.empty xs a) (Hp.at_ ByteArray.empty xs c) = b) :
    Calls Try.prog 91 #[v, .int .i64 i, .int .i64 k] W fun e w' => e = .returned (.bool b) ∧ Below W.heap.size W w' := by
  subst ha; subst hc; subst hb
  exact less_calls W base (fun _ => True) v xs a c hs.2 (Int.natCast_nonneg _) (by omega) (Int.natCast_nonneg _) (by omega)
theorem swap_named {w0 W : World} {base g : Nat} {rest : List Value} {v : Value} {xs : List ByteArray} (hs : HS W base g rest v xs) (hB : Below base w0 W) (i k : Int) (a c : Nat) (ha : i = a) (hc : k = c) (hal : a < xs.length) (hcl : c < xs.length) (hbs : base ≤ W.heap.size) :
    Calls Try.prog 92 #[v, .int .i64 i, .int .i64 k] W fun e w' => e = .returned (.tuple #[]) ∧ HS w' base g rest v (Hp.swp ByteArray.empty xs a c) ∧ Below base w0 w' ∧ KeepBut W w' g v.ownBlock := by
  subst ha; subst hc
  exact swap_calls w0 W base g rest v xs a c hs hB hbs (Int.natCast_nonneg _) (by omega) (Int.natCast_nonneg _) (by omega)
set_option maxHeartbeats 8000000 in
theorem down_calls (w0 w : World) (base g : Nat) (rest : List Value) (v : Value) (xs : List ByteArray) (i0 n : Int) (hs : HS w base g rest v xs) (hB : Below base w0 w) (hbs : base ≤ w.heap.size) (h0 : 0 ≤ i0) (hi : i0 < xs.length) (hin : i0 ≤ n) (hn : n ≤ xs.length) (hl : (xs.length : Int) ≤ 1099511627776) :
    Calls Try.prog 62 #[.iface 117 (.pointer (some ⟨g, 0, none⟩)), .int .i64 i0, .int .i64 n] w (DownEnd w0 w base g n.toNat rest v xs i0.toNat) := by
  obtain ⟨i0, rfl⟩ := Int.eq_ofNat_of_zero_le h0
  obtain ⟨n, rfl⟩ := Int.eq_ofNat_of_zero_le (show 0 ≤ n by omega)
  simp only [Int.toNat_natCast]
  have HS0 := Lib.hid hs
  have HB0 := Lib.hid hB
  have hless := meth_Less g v
  have hswap := meth_Swap g v
  clear hs hB
  go_enter Try.func62, Try.ntmps62
  go_wp2
  go_loopg [7] (n + 1) (fun kq v7 w' => ∃ (i : Nat) (ys : List ByteArray), v7 = .int .i64 i ∧ Aside0 (i < xs.length ∧ i ≤ n ∧ n < kq + i ∧ ys.length = xs.length ∧ Hp.down ByteArray.empty less n kq ys i = Hp.down ByteArray.empty less n (n + 1) xs i0) ∧ Aside0 (HS w' base g rest v ys ∧ Below base w0 w' ∧ KeepBut w w' g v.ownBlock))
  case atStart => exact ⟨i0, xs, rfl, ⟨by omega, by omega, by omega, rfl, rfl⟩, HS0.out, HB0.out, KeepBut.refl _ _ _⟩
  case round =>
    obtain ⟨i, ys, rfl, HA, HW⟩ := hrel
    obtain ⟨hil, hin', hk, hyl, hd⟩ := HA.out
    obtain ⟨hsy, hby, hky⟩ := HW.out
    clear HA HW
    obtain ⟨kq, rfl⟩ : ∃ kq, gk = kq + 1 := ⟨gk - 1, by omega⟩
    have hbw : base ≤ wr.heap.size := by have := hky.1; omega
    have hcw := HS_cell hsy
    by_cases c1 : n ≤ 2 * i + 1
    · rw [down_stop c1] at hd
      have HD := Lib.hid hd
      have HW := Lib.hid (And.intro hsy (And.intro hby hky))
      clear hd hsy hby hky hyl
      go_wp2
      go_ret
      exact ⟨_, rfl, by unfold DownPost; rw [← HD.out]; exact HW.out⟩
    · have HW := Lib.hid (And.intro hsy (And.intro hby hky))
      have HD := Lib.hid hd
      have HYL := Lib.hid hyl
      clear hd hsy hby hky hyl
      by_cases c2 : 2 * i + 2 < n
      · cases hl1 : less (Hp.at_ ByteArray.empty ys (2 * i + 2)) (Hp.at_ ByteArray.empty ys (2 * i + 1)) with
        | true =>
          have HKID := Lib.hid (kid_two c2 hl1)
          have HL1 := Lib.hid hl1
          clear hl1
          go_wp2_with fail
          refine (less_named HW.out.1 _ _ (2 * i + 2) (2 * i + 1) (by omega) (by omega) (by have := HYL.out; omega) (by have := HYL.out; omega) HL1.out).mono ?_
          rintro e w1 ⟨rfl, hb1⟩
          have hs1 := HS_below HW.out.1 hb1
          have hcw1 := HS_cell hs1
          have hk1 := keep_below HW.out.2.2 hb1
          have hB1 := below_then HW.out.2.1 hbw hb1
          have hz1 := Below_size hb1 (Nat.le_refl _)
          have HW1 := Lib.hid (And.intro hs1 (And.intro hB1 hk1))
          clear hs1 hk1 hB1
          cases hl2 : less (Hp.at_ ByteArray.empty ys (2 * i + 2)) (Hp.at_ ByteArray.empty ys i) with
          | false =>
            have HR := Lib.hid ((down_still c1 HKID.out hl2).symm.trans HD.out)
            have HL2 := Lib.hid hl2
            clear hl2
            go_wp2_with fail
            refine (less_named HW1.out.1 _ _ (2 * i + 2) i (by omega) (by omega) (by have := HYL.out; omega) (by have := HYL.out; omega) HL2.out).mono ?_
            rintro e w2 ⟨rfl, hb2⟩
            have hs2 := HS_below HW1.out.1 hb2
            have hcw2 := HS_cell hs2
            have hk2 := keep_below HW1.out.2.2 hb2
            have hB2 := below_then HW1.out.2.1 (by omega) hb2
            have hz2 := Below_size hb2 (Nat.le_refl _)
            have HW2 := Lib.hid (And.intro hs2 (And.intro hB2 hk2))
            clear hs2 hk2 hB2
            go_wp2
            go_ret
            exact ⟨_, rfl, by unfold DownPost; rw [← HR.out]; exact HW2.out⟩
          | true =>
            have HR := Lib.hid ((down_go c1 HKID.out hl2).symm.trans HD.out)
            have HL2 := Lib.hid hl2
            clear hl2
            go_wp2_with fail
            refine (less_named HW1.out.1 _ _ (2 * i + 2) i (by omega) (by omega) (by have := HYL.out; omega) (by have := HYL.out; omega) HL2.out).mono ?_
            rintro e w2 ⟨rfl, hb2⟩
            have hs2 := HS_below HW1.out.1 hb2
            have hcw2 := HS_cell hs2
            have hk2 := keep_below HW1.out.2.2 hb2
            have hB2 := below_then HW1.out.2.1 (by omega) hb2
            have hz2 := Below_size hb2 (Nat.le_refl _)
            have HW2 := Lib.hid (And.intro hs2 (And.intro hB2 hk2))
            clear hs2 hk2 hB2
            go_wp2_with fail
            refine (swap_named HW2.out.1 HW2.out.2.1 _ _ i (2 * i + 2) (by omega) (by omega) (by have := HYL.out; omega) (by have := HYL.out; omega) (by omega)).mono ?_
            rintro e w3 ⟨rfl, hs3, hB3, hk3⟩
            have HW3 := Lib.hid (And.intro hs3 (And.intro hB3 (KeepBut.trans HW2.out.2.2 hk3 (.inl rfl))))
            clear hs3 hB3 hk3
            go_wp2
            go_roundg kq
            case measure => omega
            case rel => exact ⟨2 * i + 2, Hp.swp ByteArray.empty ys i (2 * i + 2), by go_num, ⟨⟨by omega, by omega, by omega, by rw [Hp.swp_length]; exact HYL.out, HR.out⟩⟩, ⟨HW3.out⟩⟩
        | false =>
          have HKID := Lib.hid (kid_one c2 hl1)
          have HL1 := Lib.hid hl1
          clear hl1
          go_wp2_with fail
          refine (less_named HW.out.1 _ _ (2 * i + 2) (2 * i + 1) (by omega) (by omega) (by have := HYL.out; omega) (by have := HYL.out; omega) HL1.out).mono ?_
          rintro e w1 ⟨rfl, hb1⟩
          have hs1 := HS_below HW.out.1 hb1
          have hcw1 := HS_cell hs1
          have hk1 := keep_below HW.out.2.2 hb1
          have hB1 := below_then HW.out.2.1 hbw hb1
          have hz1 := Below_size hb1 (Nat.le_refl _)
          have HW1 := Lib.hid (And.intro hs1 (And.intro hB1 hk1))
          clear hs1 hk1 hB1
          cases hl2 : less (Hp.at_ ByteArray.empty ys (2 * i + 1)) (Hp.at_ ByteArray.empty ys i) with
          | false =>
            have HR := Lib.hid ((down_still c1 HKID.out hl2).symm.trans HD.out)
            have HL2 := Lib.hid hl2
            clear hl2
            go_wp2_with fail
            refine (less_named HW1.out.1 _ _ (2 * i + 1) i (by omega) (by omega) (by have := HYL.out; omega) (by have := HYL.out; omega) HL2.out).mono ?_
            rintro e w2 ⟨rfl, hb2⟩
            have hs2 := HS_below HW1.out.1 hb2
            have hcw2 := HS_cell hs2
            have hk2 := keep_below HW1.out.2.2 hb2
            have hB2 := below_then HW1.out.2.1 (by omega) hb2
            have hz2 := Below_size hb2 (Nat.le_refl _)
            have HW2 := Lib.hid (And.intro hs2 (And.intro hB2 hk2))
            clear hs2 hk2 hB2
            go_wp2
            go_ret
            exact ⟨_, rfl, by unfold DownPost; rw [← HR.out]; exact HW2.out⟩
          | true =>
            have HR := Lib.hid ((down_go c1 HKID.out hl2).symm.trans HD.out)
            have HL2 := Lib.hid hl2
            clear hl2
            go_wp2_with fail
            refine (less_named HW1.out.1 _ _ (2 * i + 1) i (by omega) (by omega) (by have := HYL.out; omega) (by have := HYL.out; omega) HL2.out).mono ?_
            rintro e w2 ⟨rfl, hb2⟩
            have hs2 := HS_below HW1.out.1 hb2
            have hcw2 := HS_cell hs2
            have hk2 := keep_below HW1.out.2.2 hb2
            have hB2 := below_then HW1.out.2.1 (by omega) hb2
            have hz2 := Below_size hb2 (Nat.le_refl _)
            have HW2 := Lib.hid (And.intro hs2 (And.intro hB2 hk2))
            clear hs2 hk2 hB2
            go_wp2_with fail
            refine (swap_named HW2.out.1 HW2.out.2.1 _ _ i (2 * i + 1) (by omega) (by omega) (by have := HYL.out; omega) (by have := HYL.out; omega) (by omega)).mono ?_
            rintro e w3 ⟨rfl, hs3, hB3, hk3⟩
            have HW3 := Lib.hid (And.intro hs3 (And.intro hB3 (KeepBut.trans HW2.out.2.2 hk3 (.inl rfl))))
            clear hs3 hB3 hk3
            go_wp2
            go_roundg kq
            case measure => omega
            case rel => exact ⟨2 * i + 1, Hp.swp ByteArray.empty ys i (2 * i + 1), by go_num, ⟨⟨by omega, by omega, by omega, by rw [Hp.swp_length]; exact HYL.out, HR.out⟩⟩, ⟨HW3.out⟩⟩
      · have HKID := Lib.hid (kid_alone (ys := ys) c2)
        cases hl2 : less (Hp.at_ ByteArray.empty ys (2 * i + 1)) (Hp.at_ ByteArray.empty ys i) with
        | false =>
          have HR := Lib.hid ((down_still c1 HKID.out hl2).symm.trans HD.out)
          have HL2 := Lib.hid hl2
          clear hl2
          go_wp2_with fail
          refine (less_named HW.out.1 _ _ (2 * i + 1) i (by omega) (by omega) (by have := HYL.out; omega) (by have := HYL.out; omega) HL2.out).mono ?_
          rintro e w2 ⟨rfl, hb2⟩
          have hs2 := HS_below HW.out.1 hb2
          have hcw2 := HS_cell hs2
          have hk2 := keep_below HW.out.2.2 hb2
          have hB2 := below_then HW.out.2.1 hbw hb2
          have hz2 := Below_size hb2 (Nat.le_refl _)
          have HW2 := Lib.hid (And.intro hs2 (And.intro hB2 hk2))
          clear hs2 hk2 hB2
          go_wp2
          go_ret
          exact ⟨_, rfl, by unfold DownPost; rw [← HR.out]; exact HW2.out⟩
        | true =>
          have HR := Lib.hid ((down_go c1 HKID.out hl2).symm.trans HD.out)
          have HL2 := Lib.hid hl2
          clear hl2
          go_wp2_with fail
          refine (less_named HW.out.1 _ _ (2 * i + 1) i (by omega) (by omega) (by have := HYL.out; omega) (by have := HYL.out; omega) HL2.out).mono ?_
          rintro e w2 ⟨rfl, hb2⟩
          have hs2 := HS_below HW.out.1 hb2
          have hcw2 := HS_cell hs2
          have hk2 := keep_below HW.out.2.2 hb2
          have hB2 := below_then HW.out.2.1 hbw hb2
          have hz2 := Below_size hb2 (Nat.le_refl _)
          have HW2 := Lib.hid (And.intro hs2 (And.intro hB2 hk2))
          clear hs2 hk2 hB2
          go_wp2_with fail
          refine (swap_named HW2.out.1 HW2.out.2.1 _ _ i (2 * i + 1) (by omega) (by omega) (by have := HYL.out; omega) (by have := HYL.out; omega) (by omega)).mono ?_
          rintro e w3 ⟨rfl, hs3, hB3, hk3⟩
          have HW3 := Lib.hid (And.intro hs3 (And.intro hB3 (KeepBut.trans HW2.out.2.2 hk3 (.inl rfl))))
          clear hs3 hB3 hk3
          go_wp2
          go_roundg kq
          case measure => omega
          case rel => exact ⟨2 * i + 1, Hp.swp ByteArray.empty ys i (2 * i + 1), by go_num, ⟨⟨by omega, by omega, by omega, by rw [Hp.swp_length]; exact HYL.out, HR.out⟩⟩, ⟨HW3.out⟩⟩
end Go.Proofs.Ythpjpkcfepmhkaa.PAll.W
namespace Go.Proofs.Ythpjpkcfepmhkaa.PAll.W
open Go.RowKit Go.Proofs.YthpjpkcfepmhkaaW.PrintWords Go.Proofs.YthpjpkcfepmhkaaW.PrintLast Go.Proofs.YthpjpkcfepmhkaaW.PrintMore
set_option linter.unusedVariables false
set_option linter.unusedSimpArgs false
/-- What is told behind an append: the same row or a new one. -/
def Moved (W : World) (v v1 : Value) : Prop := v1.ownBlock = v.ownBlock ∨ ∃ b, v1.ownBlock = some b ∧ W.heap.size ≤ b
def PushPost (w0 w : World) (base g : Nat) (rest : List Value) (v : Value) (ys : List ByteArray) (w' : World) : Prop := ∃ (A : Option Addr) (c : Nat), HS w' base g rest (.slice A ys.length c) ys ∧ Below base w0 w' ∧ KeepBut w w' g v.ownBlock ∧ Moved w v (.slice A ys.length c)
def PushEnd (w0 w : World) (base g : Nat) (rest : List Value) (v : Value) (ys : List ByteArray) (e : Ending) (w' : World) : Prop := e = .returned (.tuple #[]) ∧ PushPost w0 w base g rest v ys w'
set_option maxRecDepth 100000 in
set_option maxHeartbeats 2000000 in
theorem pushm_calls (w0 w : World) (base g : Nat) (rest : List Value) (v : Value) (xs : List ByteArray) (x : ByteArray) (hs : HS w base g rest v xs) (hB : Below base w0 w) (hbs : base ≤ w.heap.size) (hbg : base ≤ g) (hl : (xs.length : Int) ≤ 1099511627776) :
    Calls Try.prog 94 #[.pointer (some ⟨g, 0, none⟩), .iface 9 (.string x)] w (PushEnd w0 w base g rest v (xs ++ [x])) := by
  obtain ⟨hg, hR⟩ := hs
  obtain ⟨hcell, hfz⟩ := cell0 hg
  have hgl := blk_lt hg
  have hta : ∀ (v : Value) (W : World), (Instr.typeAssert (.iface 9 v) 20 9 false).run Try.prog W = .ok v W := fun v W => by rfl
  have HG := Lib.hid hg
  have HR := Lib.hid hR
  have HB := Lib.hid hB
  have HNE := Lib.hid (Kd.R_ne hR hg (by decide))
  clear hg hR hB
  go_enter Try.func94, Try.ntmps94
  go_wp2
  go_region_law (rw [show (w.alloc (.cells #[.string x] 9)).drew = (w.drew).alloc (.cells [.string x].toArray 9) from rfl]; refine Kd.R_append_step Kd.string (w0 := w0) base rfl (.tmp 7) (.tmp 10) 87 9 (.string ⟨#[]⟩) 16 rfl Try.underlying87 infoE rfl (by decide) (by decide) v xs x [.string x] (fun _ => True) (fun _ => False) (by go_simp) (by go_simp) rfl (fun _ hk => hk.elim) (fun _ _ => trivial) (by (repeat (first | exact HR.out | apply Kd.R_alloc | apply Kd.R_drewN | apply Kd.R_drew))) (by (repeat (first | exact HB.out | apply below_drew))) (by (first | exact hbs | (simp; omega))) (by omega) ?_; intro v1 w1 ho hb hgr hat; obtain ⟨A1, c1, rfl⟩ := Kd.R_slice ho; have hg1 := blk_grown (blk_drew HG.out) hgr HNE.out; have hg1c := (cell0 hg1).1; have hg1z := (cell0 hg1).2; have HG1 := Lib.hid hg1; have HAP := Lib.hid (And.intro ho (And.intro hb (And.intro hgr hat))); clear ho hb hgr hat hg1)
  all_goals
    go_end0
    obtain ⟨ho, hb, hgr, hat⟩ := HAP.out
    refine ⟨rfl, A1, c1, ?_⟩
    simp only [List.length_append, List.length_singleton] at ho hat ⊢
    exact ⟨⟨set0 HG1.out _, Kd.R_set ho HG1.out (by decide) 0 _⟩, hb.setCell hbg _, (KeepBut.of_grown (w := w.drew) hgr g).set_ 0 _, hat⟩
end Go.Proofs.Ythpjpkcfepmhkaa.PAll.W
namespace Go.Proofs.Ythpjpkcfepmhkaa.PAll.W
open Go.RowKit Go.Proofs.YthpjpkcfepmhkaaW.PrintWords Go.Proofs.YthpjpkcfepmhkaaW.PrintLast Go.Proofs.YthpjpkcfepmhkaaW.PrintMore
set_option linter.unusedVariables false
set_option linter.unusedSimpArgs false
theorem down_named {w0 W : World} {base g : Nat} {rest : List Value} {v : Value} {xs : List ByteArray} (hs : HS W base g rest v xs) (hB : Below base w0 W) (i n : Int) (a m : Nat) (ha : i = a) (hm : n = m) (hal : a < xs.length) (ham : a ≤ m) (hml : m ≤ xs.length) (hbs : base ≤ W.heap.size) (hl : (xs.length : Int) ≤ 1099511627776) :
    Calls Try.prog 62 #[.iface 117 (.pointer (some ⟨g, 0, none⟩)), .int .i64 i, .int .i64 n] W (DownEnd w0 W base g m rest v xs a) := by
  subst ha; subst hm
  have := down_calls w0 W base g rest v xs (a : Int) (m : Int) hs hB hbs (Int.natCast_nonneg _) (by omega) (by omega) (by omega) hl
  simpa only [Int.toNat_natCast] using this
theorem up_stop {k : Nat} {ys : List ByteArray} : Hp.up ByteArray.empty less (k + 1) ys 0 = ys := by simp [Hp.up]
theorem up_still {k j : Nat} {ys : List ByteArray} (h : j ≠ 0) (hl : less (Hp.at_ ByteArray.empty ys j) (Hp.at_ ByteArray.empty ys ((j - 1) / 2)) = false) : Hp.up ByteArray.empty less (k + 1) ys j = ys := by simp [Hp.up, h, hl]
theorem up_go {k j : Nat} {ys : List ByteArray} (h : j ≠ 0) (hl : less (Hp.at_ ByteArray.empty ys j) (Hp.at_ ByteArray.empty ys ((j - 1) / 2)) = true) : Hp.up ByteArray.empty less (k + 1) ys j = Hp.up ByteArray.empty less k (Hp.swp ByteArray.empty ys ((j - 1) / 2) j) ((j - 1) / 2) := by simp [Hp.up, h, hl]
def UpPost (w0 w : World) (base g : Nat) (rest : List Value) (v : Value) (xs : List ByteArray) (j0 : Nat) (w' : World) : Prop := HS w' base g rest v (Hp.up ByteArray.empty less (j0 + 1) xs j0) ∧ Below base w0 w' ∧ KeepBut w w' g v.ownBlock
set_option maxHeartbeats 8000000 in
theorem up_calls (w0 w : World) (base g : Nat) (rest : List Value) (v : Value) (xs : List ByteArray) (q0 : Int) (j0 : Nat) (hq0 : q0 = j0) (hs : HS w base g rest v xs) (hB : Below base w0 w) (hbs : base ≤ w.heap.size) (hj : j0 < xs.length) (hl : (xs.length : Int) ≤ 1099511627776) :
    Calls Try.prog 61 #[.iface 117 (.pointer (some ⟨g, 0, none⟩)), .int .i64 q0] w fun e w' => e = .returned (.tuple #[]) ∧ UpPost w0 w base g rest v xs j0 w' := by
  subst hq0
  have HS0 := Lib.hid hs
  have HB0 := Lib.hid hB
  have hless := meth_Less g v
  have hswap := meth_Swap g v
  clear hs hB
  go_enter Try.func61, Try.ntmps61
  go_wp2
  go_loopg [1] (j0 + 1) (fun kq v1 w' => ∃ (j : Nat) (ys : List ByteArray), v1 = .int .i64 j ∧ Aside0 (j < xs.length ∧ j < kq ∧ ys.length = xs.length ∧ Hp.up ByteArray.empty less kq ys j = Hp.up ByteArray.empty less (j0 + 1) xs j0) ∧ Aside0 (HS w' base g rest v ys ∧ Below base w0 w' ∧ KeepBut w w' g v.ownBlock))
  case atStart => exact ⟨j0, xs, rfl, ⟨by omega, by omega, rfl, rfl⟩, HS0.out, HB0.out, KeepBut.refl _ _ _⟩
  case round =>
    obtain ⟨j, ys, rfl, HA, HW⟩ := hrel
    obtain ⟨hjl, hk, hyl, hd⟩ := HA.out
    obtain ⟨hsy, hby, hky⟩ := HW.out
    clear HA HW
    obtain ⟨kq, rfl⟩ : ∃ kq, gk = kq + 1 := ⟨gk - 1, by omega⟩
    have hbw : base ≤ wr.heap.size := by have := hky.1; omega
    have hcw := HS_cell hsy
    by_cases c1 : j = 0
    · subst c1
      rw [up_stop] at hd
      have HR := Lib.hid hd
      have HW := Lib.hid (And.intro hsy (And.intro hby hky))
      clear hd hsy hby hky hyl
      have hz : Int.tdiv (((0 : Nat) : Int) - 1) 2 = 0 := by decide
      go_wp2
      go_end0
      exact ⟨rfl, by unfold UpPost; rw [← HR.out]; exact HW.out⟩
    · have HW := Lib.hid (And.intro hsy (And.intro hby hky))
      have HD := Lib.hid hd
      have HYL := Lib.hid hyl
      clear hd hsy hby hky hyl
      obtain ⟨i, hi⟩ : ∃ i : Nat, (j - 1) / 2 = i := ⟨_, rfl⟩
      have hiq : ((j : Int) - 1) / 2 = (i : Int) := by omega
      have hij : i < j := by omega
      have HI := Lib.hid hi
      have HIQ := Lib.hid hiq
      have hne : ((((j : Int) - 1) / 2) == (j : Int)) = false := beq_eq_false_iff_ne.2 (by omega)
      have hj1 : (0 : Int) ≤ (j : Int) - 1 := by omega
      clear hi hiq
      cases hl2 : less (Hp.at_ ByteArray.empty ys j) (Hp.at_ ByteArray.empty ys i) with
      | false =>
        have HR := Lib.hid ((up_still c1 (by rw [HI.out]; exact hl2)).symm.trans HD.out)
        have HL2 := Lib.hid hl2
        clear hl2
        go_wp2_with fail
        refine (less_named HW.out.1 _ _ j i (by omega) HIQ.out (by have := HYL.out; omega) (by have := HYL.out; omega) HL2.out).mono ?_
        rintro e w2 ⟨rfl, hb2⟩
        have hs2 := HS_below HW.out.1 hb2
        have hk2 := keep_below HW.out.2.2 hb2
        have hB2 := below_then HW.out.2.1 hbw hb2
        have HW2 := Lib.hid (And.intro hs2 (And.intro hB2 hk2))
        clear hs2 hk2 hB2
        go_wp2
        go_end0
        exact ⟨rfl, by unfold UpPost; rw [← HR.out]; exact HW2.out⟩
      | true =>
        have HR := Lib.hid ((up_go c1 (by rw [HI.out]; exact hl2)).symm.trans HD.out)
        have HL2 := Lib.hid hl2
        clear hl2
        go_wp2_with fail
        refine (less_named HW.out.1 _ _ j i (by omega) HIQ.out (by have := HYL.out; omega) (by have := HYL.out; omega) HL2.out).mono ?_
        rintro e w2 ⟨rfl, hb2⟩
        have hs2 := HS_below HW.out.1 hb2
        have hcw2 := HS_cell hs2
        have hk2 := keep_below HW.out.2.2 hb2
        have hB2 := below_then HW.out.2.1 hbw hb2
        have hz2 := Below_size hb2 (Nat.le_refl _)
        have HW2 := Lib.hid (And.intro hs2 (And.intro hB2 hk2))
        clear hs2 hk2 hB2
        go_wp2_with fail
        refine (swap_named HW2.out.1 HW2.out.2.1 _ _ i j HIQ.out (by omega) (by have := HYL.out; omega) (by have := HYL.out; omega) (by omega)).mono ?_
        rintro e w3 ⟨rfl, hs3, hB3, hk3⟩
        have HW3 := Lib.hid (And.intro hs3 (And.intro hB3 (KeepBut.trans HW2.out.2.2 hk3 (.inl rfl))))
        clear hs3 hB3 hk3
        go_wp2
        go_roundg kq
        case measure => omega
        case rel => exact ⟨i, Hp.swp ByteArray.empty ys i j, by rw [HIQ.out], ⟨⟨by omega, by omega, by rw [Hp.swp_length]; exact HYL.out, by rw [← HR.out, HI.out]⟩⟩, ⟨HW3.out⟩⟩
theorem keep_moved {w w1 w2 : World} {g : Nat} {v v1 : Value} (h : KeepBut w w1 g v.ownBlock) (hm : Moved w v v1) (k : KeepBut w1 w2 g v1.ownBlock) : KeepBut w w2 g v.ownBlock :=
  h.trans k hm
set_option maxHeartbeats 4000000 in
theorem push_calls (w0 w : World) (base g : Nat) (rest : List Value) (v : Value) (xs : List ByteArray) (x : ByteArray) (hs : HS w base g rest v xs) (hB : Below base w0 w) (hbs : base ≤ w.heap.size) (hbg : base ≤ g) (hl : (xs.length : Int) < 1099511627776) :
    Calls Try.prog 41 #[.iface 117 (.pointer (some ⟨g, 0, none⟩)), .iface 9 (.string x)] w (PushEnd w0 w base g rest v (Hp.push ByteArray.empty less xs x)) := by
  have hpush := meth_Push ⟨g, 0, none⟩
  have HS0 := Lib.hid hs
  have HB0 := Lib.hid hB
  clear hs hB
  go_enter Try.func41, Try.ntmps41
  go_wp2_with fail
  refine (pushm_calls w0 w base g rest v xs x HS0.out HB0.out hbs hbg (by omega)).mono ?_
  rintro e w1 ⟨rfl, A, c, hs1, hB1, hk1, hm1⟩
  have hb1 : base ≤ w1.heap.size := by have := hk1.1; omega
  have hlen := meth_Len g (.slice A (xs ++ [x]).length c)
  have hcell := HS_cell hs1
  have hxl : (xs ++ [x]).length = xs.length + 1 := by simp
  have HXL := Lib.hid hxl
  have HW1 := Lib.hid (And.intro hs1 (And.intro hB1 (And.intro hk1 hm1)))
  clear hs1 hB1 hk1 hm1 hxl
  have hl2 : ((xs ++ [x]).length : Int) ≤ 1099511627776 := by rw [HXL.out]; omega
  have hpe : Hp.up ByteArray.empty less (xs.length + 1) (xs ++ [x]) xs.length = Hp.push ByteArray.empty less xs x := rfl
  have HPE := Lib.hid hpe
  clear hpe
  generalize xs ++ [x] = ys at *
  go_wp2_with fail
  refine (len_calls A ys.length c w1 (by omega)).mono ?_
  rintro e w1' ⟨rfl, rfl⟩
  go_wp2_with fail
  refine (up_calls w0 w1 base g rest (.slice A ys.length c) ys _ xs.length (by rw [HXL.out]; omega) HW1.out.1 HW1.out.2.1 hb1 (by rw [HXL.out]; omega) hl2).mono ?_
  rintro e w2 ⟨rfl, hu⟩
  have HU := Lib.hid hu
  clear hu
  go_wp2
  go_end0
  obtain ⟨u1, u2, u3⟩ := HU.out
  rw [HPE.out] at u1
  have hlen2 : (Hp.push ByteArray.empty less xs x).length = ys.length := by rw [Hp.push_length]; exact HXL.out.symm
  refine ⟨rfl, A, c, ?_, u2, keep_moved HW1.out.2.2.1 HW1.out.2.2.2 u3, ?_⟩
  · rw [hlen2]; exact u1
  · rw [hlen2]; exact HW1.out.2.2.2
def PopPost (w0 w : World) (base g : Nat) (rest : List Value) (A : Option Addr) (c : Nat) (xs : List ByteArray) (w' : World) : Prop := HS w' base g rest (.slice A (xs.length - 1) c) (Hp.pop ByteArray.empty less xs) ∧ Below base w0 w' ∧ KeepBut w w' g (Value.slice A xs.length c).ownBlock
theorem popped_eq {xs : List ByteArray} (hp : 0 < xs.length) : Hp.down ByteArray.empty less (xs.length - 1) (xs.length - 1 + 1) (Hp.swp ByteArray.empty xs 0 (xs.length - 1)) 0 = Hp.popped ByteArray.empty less xs := by
  unfold Hp.popped
  rw [show xs.length - 1 + 1 = xs.length from by omega]
set_option maxHeartbeats 2000000 in
theorem pop_calls (w0 w : World) (base g : Nat) (rest : List Value) (A : Option Addr) (c : Nat) (xs : List ByteArray) (hs : HS w base g rest (.slice A xs.length c) xs) (hB : Below base w0 w) (hbs : base ≤ w.heap.size) (hbg : base ≤ g) (hp : 0 < xs.length) (hl : (xs.length : Int) ≤ 1099511627776) :
    Calls Try.prog 43 #[.iface 117 (.pointer (some ⟨g, 0, none⟩))] w fun e w' => e = .returned (.iface 9 (.string (Hp.at_ ByteArray.empty xs 0))) ∧ PopPost w0 w base g rest A c xs w' := by
  have hlen := meth_Len g (.slice A xs.length c)
  have hswap := meth_Swap g (.slice A xs.length c)
  have hpop := meth_Pop ⟨g, 0, none⟩
  have hcell := HS_cell hs
  have HS0 := Lib.hid hs
  have HB0 := Lib.hid hB
  have hne : xs ≠ [] := List.length_pos_iff.1 hp
  clear hs hB
  go_enter Try.func43, Try.ntmps43
  go_wp2_with fail
  refine (len_calls A xs.length c w (by omega)).mono ?_
  rintro e w1 ⟨rfl, rfl⟩
  go_wp2_with fail
  refine (swap_named HS0.out HB0.out _ _ 0 (xs.length - 1) (by omega) (by omega) (by omega) (by omega) hbs).mono ?_
  rintro e w1 ⟨rfl, hs1, hB1, hk1⟩
  have hb1 : base ≤ w1.heap.size := by have := hk1.1; omega
  have hl1 : (Hp.swp ByteArray.empty xs 0 (xs.length - 1)).length = xs.length := Hp.swp_length _ _ _
  have hcell1 := HS_cell hs1
  have HW1 := Lib.hid (And.intro hs1 (And.intro hB1 hk1))
  have HL1 := Lib.hid hl1
  clear hs1 hB1 hk1 hl1
  go_wp2_with fail
  refine (down_named HW1.out.1 HW1.out.2.1 _ _ 0 (xs.length - 1) (by omega) (by omega) (by have := HL1.out; omega) (by omega) (by have := HL1.out; omega) hb1 (by rw [HL1.out]; exact hl)).mono ?_
  rintro e w2 ⟨r, rfl, hp2⟩
  have HP2 := Lib.hid hp2
  clear hp2
  have hb2 : base ≤ w2.heap.size := by have := HP2.out.2.2.1; omega
  have hyl : (Hp.popped ByteArray.empty less xs).length = xs.length := Hp.popped_length xs hne
  have hs2 : HS w2 base g rest (.slice A xs.length c) (Hp.popped ByteArray.empty less xs) := by
    have h := HP2.out.1
    rw [popped_eq hp] at h
    exact h
  have HYL := Lib.hid hyl
  have HS2 := Lib.hid hs2
  clear hyl hs2
  go_wp2_with fail
  refine (popm_calls w0 w2 base g rest A xs.length c (Hp.popped ByteArray.empty less xs) HS2.out HP2.out.2.1 hb2 hbg (by rw [HYL.out]; exact hp)).mono ?_
  rintro e w3 ⟨rfl, hs3, hB3, hk3⟩
  rw [HYL.out, Hp.popped_last xs hne]
  have HW3 := Lib.hid (And.intro hs3 (And.intro hB3 hk3))
  clear hs3 hB3 hk3
  go_wp2
  go_ret
  refine ⟨rfl, ?_⟩
  obtain ⟨h1, h2, h3⟩ := HW3.out
  rw [HYL.out] at h1
  exact ⟨h1, h2, KeepBut.trans (KeepBut.trans HW1.out.2.2 HP2.out.2.2 (.inl rfl)) (keep_none h3) (.inl rfl)⟩
end Go.Proofs.Ythpjpkcfepmhkaa.PAll.W
namespace Go.Proofs.Ythpjpkcfepmhkaa.PAll
open Go.RowKit Go.Proofs.YthpjpkcfepmhkaaW.PrintWords Go.Proofs.YthpjpkcfepmhkaaW.PrintLast Go.Proofs.YthpjpkcfepmhkaaW.PrintMore
set_option linter.unusedVariables false
set_option linter.unusedSimpArgs false
/-- The names of the symbols whose binding p holds of, in order. -/
def namesOf (p : Int → Bool) (l : List S55) : List ByteArray := (l.filter fun s => p s.f1).map (fun s => s.f0)
theorem namesOf_snoc (p : Int → Bool) (l : List S55) (k : Nat) (hk : k < l.length) : namesOf p (l.take (k + 1)) = if p (rd_T55 l k).f1 = true then namesOf p (l.take k) ++ [(rd_T55 l k).f0] else namesOf p (l.take k) := by
  have : rd_T55 l k = l[k] := by
    unfold rd_T55
    rw [Int.toNat_natCast, List.getD_eq_getElem?_getD, List.getElem?_eq_getElem hk]; rfl
  rw [this, List.take_succ_eq_append_getElem hk]
  unfold namesOf
  rw [List.filter_append, List.map_append, List.filter_cons]
  split
  · rfl
  · simp
theorem namesOf_len (p : Int → Bool) (l : List S55) : (namesOf p l).length ≤ l.length := by
  unfold namesOf
  rw [List.length_map]
  exact List.length_filter_le _ _
def defB (b : Int) : Bool := b == 1 || b == 2
def refB (b : Int) : Bool := b == 4
def Holds (K : Nat) (p : Int → Bool) : Prop := ∀ (s : S55) (w : World), Calls Try.prog K #[.agg #[.string s.f0, .int .i64 s.f1, .int .i64 s.f2, .int .i64 s.f3]] w fun e w' => e = .returned (.bool (p s.f1)) ∧ Below w.heap.size w w'
theorem holds_defines : Holds 66 defB := fun s w => by
  refine closure_defines.calls s.f0 s.f1 s.f2 s.f3 (defB s.f1) w ?_
  unfold closure_defines.f defB
  by_cases c : s.f1 = 1
  · rw [if_pos c, c]; rfl
  · rw [if_neg c, beq_eq_false_iff_ne.mpr c]; rfl
theorem holds_refers : Holds 52 refB := fun s w => closure_refers.calls s.f0 s.f1 s.f2 s.f3 (refB s.f1) w rfl
def NamesPost (w : World) (base : Nat) (ns : List ByteArray) (e : Ending) (w' : World) : Prop := ∃ v : Value, e = .returned v ∧ Kd.R Kd.string 9 w' base (fun _ => True) v ns ∧ Below base w w'
set_option maxRecDepth 10000 in
set_option maxHeartbeats 4000000 in
theorem names_calls66 (p : Int → Bool) (hK : Holds 66 p) (A0 : Option Addr) (c0 : Nat) (l : List S55) (A1 : Option Addr) (m c1 : Nat) (w : World) (hr : Kd.C k55 w A0 l.length l) (hl : l.length ≤ 1099511627776) :
    Calls Try.prog 51 #[.agg #[.slice A0 l.length c0, .slice A1 m c1], .func (.func 66) #[] #[]] w fun e w' => NamesPost w w.heap.size (namesOf p l) e w' := by
  have hu50 := Try.underlying50
  have hu55 := Try.underlying55
  have HR := Lib.hid hr
  have HK := Lib.hid hK
  clear hr hK
  go_enter Try.func51, Try.ntmps51
  go_wp2
  go_loopg [5, 11] l.length (fun kq v5 v11 w' => ∃ (k : Nat), v11 = .int .i64 k ∧ Aside0 (kq + k = l.length) ∧ Aside0 (Kd.R Kd.string 9 w' w.heap.size (fun _ => True) v5 (namesOf p (l.take k)) ∧ Below w.heap.size w w'))
  case atStart => exact ⟨0, rfl, ⟨by omega⟩, ⟨Kd.R_nil _ _ _ _ _, below_alloc (Below.refl _ _) _⟩⟩
  case round =>
    obtain ⟨k, rfl, HA, HS⟩ := hrel
    cases gk with
    | zero =>
      have hk : l.length ≤ k := by have := HA.out; omega
      have hkf : decide (k < l.length) = false := decide_eq_false (by omega)
      have HE := HS.out
      rw [List.take_of_length_le hk] at HE
      have HE := Lib.hid HE
      clear HS HA hk
      go_wp2
      go_ret
      exact ⟨_, rfl, HE.out⟩
    | succ kq =>
      have hk : k < l.length := by have := HA.out; omega
      obtain ⟨ad, rfl, hx0, hx1, hx2, hx3⟩ := at_T55 HR.out (k : Int) (Int.natCast_nonneg _) (by omega)
      have hB := HS.out.2
      replace hx0 := (hB.cell (World.block_lt_of_cell? w _ hx0)).trans hx0
      replace hx1 := (hB.cell (World.block_lt_of_cell? w _ hx1)).trans hx1
      replace hx2 := (hB.cell (World.block_lt_of_cell? w _ hx2)).trans hx2
      replace hx3 := (hB.cell (World.block_lt_of_cell? w _ hx3)).trans hx3
      simp only [Int.toNat_natCast] at hx0 hx1 hx2 hx3
      have HC := Lib.hid (namesOf_snoc p l k hk)
      have HL := Lib.hid (show (namesOf p (l.take k)).length ≤ k from Nat.le_trans (namesOf_len p _) (by rw [List.length_take]; omega))
      have hbs := below_size hB
      clear hB
      generalize rd_T55 l k = x at *
      generalize namesOf p (l.take k) = ns at *
      obtain ⟨x0, x1, x2, x3⟩ := x
      dsimp only at hx0 hx1 hx2 hx3
      obtain ⟨b, hb⟩ : ∃ b, p x1 = b := ⟨_, rfl⟩
      dsimp only at HC
      rw [hb] at HC
      have HPB := Lib.hid hb
      clear hb
      go_wp2_with fail
      have hnew := heap_alloc_new wr (.cells #[.string x0, .int .i64 x1, .int .i64 x2, .int .i64 x3] 55)
      have hB2 := below_alloc HS.out.2 (.cells #[.string x0, .int .i64 x1, .int .i64 x2, .int .i64 x3] 55)
      have hR2 := Kd.R_below HS.out.1 (below_alloc (Below.refl _ _) (.cells #[.string x0, .int .i64 x1, .int .i64 x2, .int .i64 x3] 55))
      clear hx0 hx1 hx2 hx3 HS
      generalize hw2 : wr.alloc (.cells #[.string x0, .int .i64 x1, .int .i64 x2, .int .i64 x3] 55) = w2 at *
      clear hw2
      have hbs2 := below_size hB2
      generalize wr.heap.size = g at *
      have HB2 := Lib.hid hB2
      have HR2 := Lib.hid hR2
      have HN := Lib.hid hnew
      clear hB2 hR2 hnew
      refine (HK.out ⟨x0, x1, x2, x3⟩ w2).mono ?_
      rintro e w3 ⟨rfl, hb3⟩
      have hn3 := blk_below HN.out hb3
      have hB3 := below_then HB2.out hbs2 hb3
      have hR3 := Kd.R_below HR2.out hb3
      have hbs3 := below_size hB3
      have hc3 := blk_cell hn3 0
      simp only [List.getElem?_toArray, List.getElem?_cons_succ, List.getElem?_cons_zero] at hc3
      have hgl := blk_lt hn3
      have HB3 := Lib.hid hB3
      have HR3 := Lib.hid hR3
      dsimp only
      rw [HPB.out]
      clear HPB
      clear hb3 hn3 hB3 hR3 HB2 HR2 HN hbs2 HK HR
      cases b with
      | false =>
        rw [if_neg (by decide)] at HC
        go_wp2
        go_roundg kq
        case measure => omega
        case rel => exact ⟨k + 1, by go_num, ⟨by have := HA.out; omega⟩, ⟨by rw [HC.out]; exact HR3.out, HB3.out⟩⟩
      | true =>
        rw [if_pos rfl] at HC
        have hlen := HL.out
        go_wp2_with (first | (at_builtin; go_must (refine Kd.R_append Kd.string (w0 := w) w.heap.size rfl (.tmp 18) (.tmp 21) 86 9 (.string ⟨#[]⟩) 16 rfl Try.underlying86 W.infoE rfl (by decide) (by decide) u5 ns x0 [.string x0] (fun _ => True) (fun _ => False) rfl ?aX ?aP (fun _ hk => hk.elim) ?aF ?aO ?aB ?aS ?aL ?_; (case aX => go_simp); (case aP => rfl); (case aF => exact fun _ _ => trivial); (case aO => exact HR3.out); (case aB => exact HB3.out); (case aS => exact hbs3); (case aL => omega); intro v1 w7 ho hb hg hat; have HE := Lib.hid (And.intro ho hb); clear ho hb hg hat)))
        go_roundg kq
        case measure => omega
        case rel => exact ⟨k + 1, by go_num, ⟨by have := HA.out; omega⟩, ⟨by rw [HC.out]; exact HE.out.1, HE.out.2⟩⟩
set_option maxRecDepth 10000 in
set_option maxHeartbeats 4000000 in
theorem names_calls52 (p : Int → Bool) (hK : Holds 52 p) (A0 : Option Addr) (c0 : Nat) (l : List S55) (A1 : Option Addr) (m c1 : Nat) (w : World) (hr : Kd.C k55 w A0 l.length l) (hl : l.length ≤ 1099511627776) :
    Calls Try.prog 51 #[.agg #[.slice A0 l.length c0, .slice A1 m c1], .func (.func 52) #[] #[]] w fun e w' => NamesPost w w.heap.size (namesOf p l) e w' := by
  have hu50 := Try.underlying50
  have hu55 := Try.underlying55
  have HR := Lib.hid hr
  have HK := Lib.hid hK
  clear hr hK
  go_enter Try.func51, Try.ntmps51
  go_wp2
  go_loopg [5, 11] l.length (fun kq v5 v11 w' => ∃ (k : Nat), v11 = .int .i64 k ∧ Aside0 (kq + k = l.length) ∧ Aside0 (Kd.R Kd.string 9 w' w.heap.size (fun _ => True) v5 (namesOf p (l.take k)) ∧ Below w.heap.size w w'))
  case atStart => exact ⟨0, rfl, ⟨by omega⟩, ⟨Kd.R_nil _ _ _ _ _, below_alloc (Below.refl _ _) _⟩⟩
  case round =>
    obtain ⟨k, rfl, HA, HS⟩ := hrel
    cases gk with
    | zero =>
      have hk : l.length ≤ k := by have := HA.out; omega
      have hkf : decide (k < l.length) = false := decide_eq_false (by omega)
      have HE := HS.out
      rw [List.take_of_length_le hk] at HE
      have HE := Lib.hid HE
      clear HS HA hk
      go_wp2
      go_ret
      exact ⟨_, rfl, HE.out⟩
    | succ kq =>
      have hk : k < l.length := by have := HA.out; omega
      obtain ⟨ad, rfl, hx0, hx1, hx2, hx3⟩ := at_T55 HR.out (k : Int) (Int.natCast_nonneg _) (by omega)
      have hB := HS.out.2
      replace hx0 := (hB.cell (World.block_lt_of_cell? w _ hx0)).trans hx0
      replace hx1 := (hB.cell (World.block_lt_of_cell? w _ hx1)).trans hx1
      replace hx2 := (hB.cell (World.block_lt_of_cell? w _ hx2)).trans hx2
      replace hx3 := (hB.cell (World.block_lt_of_cell? w _ hx3)).trans hx3
      simp only [Int.toNat_natCast] at hx0 hx1 hx2 hx3
      have HC := Lib.hid (namesOf_snoc p l k hk)
      have HL := Lib.hid (show (namesOf p (l.take k)).length ≤ k from Nat.le_trans (namesOf_len p _) (by rw [List.length_take]; omega))
      have hbs := below_size hB
      clear hB
      generalize rd_T55 l k = x at *
      generalize namesOf p (l.take k) = ns at *
      obtain ⟨x0, x1, x2, x3⟩ := x
      dsimp only at hx0 hx1 hx2 hx3
      obtain ⟨b, hb⟩ : ∃ b, p x1 = b := ⟨_, rfl⟩
      dsimp only at HC
      rw [hb] at HC
      have HPB := Lib.hid hb
      clear hb
      go_wp2_with fail
      have hnew := heap_alloc_new wr (.cells #[.string x0, .int .i64 x1, .int .i64 x2, .int .i64 x3] 55)
      have hB2 := below_alloc HS.out.2 (.cells #[.string x0, .int .i64 x1, .int .i64 x2, .int .i64 x3] 55)
      have hR2 := Kd.R_below HS.out.1 (below_alloc (Below.refl _ _) (.cells #[.string x0, .int .i64 x1, .int .i64 x2, .int .i64 x3] 55))
      clear hx0 hx1 hx2 hx3 HS
      generalize hw2 : wr.alloc (.cells #[.string x0, .int .i64 x1, .int .i64 x2, .int .i64 x3] 55) = w2 at *
      clear hw2
      have hbs2 := below_size hB2
      generalize wr.heap.size = g at *
      have HB2 := Lib.hid hB2
      have HR2 := Lib.hid hR2
      have HN := Lib.hid hnew
      clear hB2 hR2 hnew
      refine (HK.out ⟨x0, x1, x2, x3⟩ w2).mono ?_
      rintro e w3 ⟨rfl, hb3⟩
      have hn3 := blk_below HN.out hb3
      have hB3 := below_then HB2.out hbs2 hb3
      have hR3 := Kd.R_below HR2.out hb3
      have hbs3 := below_size hB3
      have hc3 := blk_cell hn3 0
      simp only [List.getElem?_toArray, List.getElem?_cons_succ, List.getElem?_cons_zero] at hc3
      have hgl := blk_lt hn3
      have HB3 := Lib.hid hB3
      have HR3 := Lib.hid hR3
      dsimp only
      rw [HPB.out]
      clear HPB
      clear hb3 hn3 hB3 hR3 HB2 HR2 HN hbs2 HK HR
      cases b with
      | false =>
        rw [if_neg (by decide)] at HC
        go_wp2
        go_roundg kq
        case measure => omega
        case rel => exact ⟨k + 1, by go_num, ⟨by have := HA.out; omega⟩, ⟨by rw [HC.out]; exact HR3.out, HB3.out⟩⟩
      | true =>
        rw [if_pos rfl] at HC
        have hlen := HL.out
        go_wp2_with (first | (at_builtin; go_must (refine Kd.R_append Kd.string (w0 := w) w.heap.size rfl (.tmp 18) (.tmp 21) 86 9 (.string ⟨#[]⟩) 16 rfl Try.underlying86 W.infoE rfl (by decide) (by decide) u5 ns x0 [.string x0] (fun _ => True) (fun _ => False) rfl ?aX ?aP (fun _ hk => hk.elim) ?aF ?aO ?aB ?aS ?aL ?_; (case aX => go_simp); (case aP => rfl); (case aF => exact fun _ _ => trivial); (case aO => exact HR3.out); (case aB => exact HB3.out); (case aS => exact hbs3); (case aL => omega); intro v1 w7 ho hb hg hat; have HE := Lib.hid (And.intro ho hb); clear ho hb hg hat)))
        go_roundg kq
        case measure => omega
        case rel => exact ⟨k + 1, by go_num, ⟨by have := HA.out; omega⟩, ⟨by rw [HC.out]; exact HE.out.1, HE.out.2⟩⟩
end Go.Proofs.Ythpjpkcfepmhkaa.PAll
namespace Go.Proofs.Ythpjpkcfepmhkaa.PAll
open Go.RowKit Go.Proofs.YthpjpkcfepmhkaaW.PrintWords Go.Proofs.YthpjpkcfepmhkaaW.PrintLast Go.Proofs.YthpjpkcfepmhkaaW.PrintMore
set_option linter.unusedVariables false
set_option linter.unusedSimpArgs false
section
variable {α : Type} {d : Kd α} {e : Nat} {w w1 W : World} {base : Nat} {v u : Value} {xs : List α}
theorem rs_grown (hE : d.E = []) (h : d.R e w base (fun _ => True) v xs) {row : Option Nat} (hg : w.grownBy w1 row) (hne : ∀ k, v.ownBlock = some k → some k ≠ row) : d.R e w1 base (fun _ => True) v xs :=
  Kd.R_mono (Kd.R_grown (Kd.R_tight hE h) hg (fun k hk => hne k hk.symm)) (fun _ _ => trivial)
theorem rs_keep (hE : d.E = []) (h : d.R e w base (fun _ => True) v xs) {g : Nat} {row : Option Nat} (hk : KeepBut w w1 g row) (hg : ∀ k, v.ownBlock = some k → k ≠ g) (hne : ∀ k, v.ownBlock = some k → some k ≠ row) : d.R e w1 base (fun _ => True) v xs :=
  Kd.R_mono (Kd.R_step (Kd.R_tight hE h) (fun k hk' hlt => hk.2 k hlt (hg k hk'.symm) (hne k hk'.symm))) (fun _ _ => trivial)
end
def Own (f : Nat → Nat) (i : Nat) (v : Value) : Prop := ∀ k, v.ownBlock = some k → f k = i
theorem Own.ne {f : Nat → Nat} {i j : Nat} {v u : Value} (h : Own f i v) (h' : Own f j u) (hij : i ≠ j) : ∀ k, v.ownBlock = some k → some k ≠ u.ownBlock := by
  intro k hk e
  have h1 := h k hk
  have h2 := h' k e.symm
  omega
theorem Own.nil (f : Nat → Nat) (i : Nat) : Own f i (.slice none 0 0) := fun k hk => by simp [Value.ownBlock] at hk
abbrev KI : Kd Int := Kd.int .i64
structure Adj (w : World) (base : Nat) (f : Nat → Nat) (o : Nat) (v : Value) (vs : List Value) (xss : List (List Int)) : Prop where
  outer : w.ownsRow base 24 1 v vs.length vs
  len : vs.length = xss.length
  inner : ∀ j u xs, vs[j]? = some u → xss[j]? = some xs → KI.R 3 w base (fun _ => True) u xs ∧ Own f (o + j) u
section
variable {w w1 : World} {base : Nat} {f : Nat → Nat} {o : Nat} {v : Value} {vs : List Value} {xss : List (List Int)}
theorem Adj.below (h : Adj w base f o v vs xss) (hb : Below w.heap.size w w1) : Adj w1 base f o v vs xss :=
  ⟨pw_own_below h.outer hb, h.len, fun j u xs hu hx => ⟨Kd.R_below (h.inner j u xs hu hx).1 hb, (h.inner j u xs hu hx).2⟩⟩
/-- A row of numbers that is none of the inner ones has been written. -/
theorem Adj.grown (h : Adj w base f o v vs xss) {row : Option Nat} (hg : w.grownBy w1 row) (hrow : row = none ∨ ∃ (cells : Array Value) (t : Nat) (k : Nat), row = some k ∧ w.heap[k]? = some (.cells cells t (0, 0)) ∧ t ≠ 24) (hne : ∀ (j : Nat) (u : Value), vs[j]? = some u → ∀ k, u.ownBlock = some k → some k ≠ row) : Adj w1 base f o v vs xss := by
  refine ⟨own_move h.outer (fun k hk' => ?_), h.len, fun j u xs hu hx => ⟨rs_grown rfl (h.inner j u xs hu hx).1 hg (hne j u hu), (h.inner j u xs hu hx).2⟩⟩
  obtain ⟨cells, hc⟩ := own_typed h.outer k hk'
  refine hg.block k (own_lt h.outer k hk') ?_
  rcases hrow with hrow | ⟨rc, rt, rk, hrow, hr, hr1⟩
  · rw [hrow]; simp
  · rw [hrow]
    intro e
    injection e with e
    subst e
    rw [hc] at hr
    injection hr with hr
    injection hr with _ hr
    exact hr1 hr.symm
theorem Adj.cell {gv cap : Nat} (h : Adj w base f o (.slice (some ⟨gv, 0, none⟩) vs.length cap) vs xss) (b : Nat) (hb : b < vs.length) : w.cell? ⟨gv, b, none⟩ = some (vs.getD b undef) ∧ w.frozen? ⟨gv, b, none⟩ = false := by
  constructor
  · have hc := h.outer.cells (g := gv) rfl b (vs.getD b undef) (by rw [List.getD_eq_getElem?_getD, List.getElem?_eq_getElem hb]; rfl)
    rwa [add_plain] at hc
  · obtain ⟨cells, hc⟩ := own_typed h.outer gv (by simp [Value.ownBlock])
    exact blk_frozen hc _
theorem Adj.at_ (h : Adj w base f o v vs xss) (b : Nat) (hb : b < vs.length) : KI.R 3 w base (fun _ => True) (vs.getD b undef) (xss.getD b []) ∧ Own f (o + b) (vs.getD b undef) := by
  refine h.inner b _ _ ?_ ?_
  · rw [List.getD_eq_getElem?_getD, List.getElem?_eq_getElem hb]; rfl
  · have : b < xss.length := by rw [← h.len]; exact hb
    rw [List.getD_eq_getElem?_getD, List.getElem?_eq_getElem this]; rfl
/-- What was made: all inner rows nil. -/
theorem Adj.made (w : World) (base n : Nat) (f : Nat → Nat) (o : Nat) (hb : base ≤ w.heap.size) (hn : n ≤ 1099511627776) :
    Adj (w.alloc (.cells (madeCells #[.slice none 0 0] n) 24)) base f o (.slice (some ⟨w.heap.size, 0, none⟩) n n) (List.replicate n (.slice none 0 0)) (List.replicate n []) := by
  have hl : (madeCells #[Value.slice none 0 0] n).toList = List.replicate n (.slice none 0 0) := by
    apply List.ext_getElem
    · simp [madeCells]
    · intro i h1 h2
      simp [madeCells, Nat.mod_one]
  refine ⟨?_, by simp, fun j u xs hu hx => ?_⟩
  · have h := World.ownsRow_lit (base := base) (e := 24) (size := 1) w (madeCells #[.slice none 0 0] n) n hb (by simp only [maxLen]; omega) (by simp [size_madeCells])
    rw [hl] at h
    rw [List.length_replicate]
    exact h
  · have hj := (List.getElem?_eq_some_iff.1 hu).1
    rw [List.length_replicate] at hj
    rw [List.getElem?_replicate, if_pos hj] at hu hx
    injection hu with hu
    injection hx with hx
    subst hu; subst hx
    exact ⟨Kd.R_nil _ _ _ _ _, Own.nil _ _⟩
end
end Go.Proofs.Ythpjpkcfepmhkaa.PAll
namespace Go.Proofs.Ythpjpkcfepmhkaa.PAll
open Go.RowKit Go.Proofs.YthpjpkcfepmhkaaW.PrintWords Go.Proofs.YthpjpkcfepmhkaaW.PrintLast Go.Proofs.YthpjpkcfepmhkaaW.PrintMore
open Go.Maps (Keyed IsMap)
set_option linter.unusedVariables false
set_option linter.unusedSimpArgs false
def rawR (v : Value) : Option (DataW Value × List MemPlace) := some (.held v, [])
def atOf (g : Option Value) (z : DataW Value) : DataW Value := match g with | some v => .held v | none => z
theorem atOf_held (g : Option Value) (z : Value) : atOf g (.held z) = .held (g.getD z) := by cases g <;> rfl
/-- Block b is a map (its keys' type k; lk: what a key reads as) of at most n entries; g: what stands at each key. -/
def MapV {α : Type} (lk : α → Lit) (w : World) (k b n : Nat) (g : α → Option Value) : Prop :=
  ∃ D : DataW Value, w.ownsMap Try.prog k rawR b n D ∧ ∀ a z, D.atKey (lk a) z = atOf (g a) z
def updM {α : Type} [DecidableEq α] (g : α → Option Value) (a : α) (v : Value) : α → Option Value := fun x => if x = a then some v else g x
section
variable {α : Type} {lk : α → Lit} {w w1 : World} {k b n : Nat} {g : α → Option Value}
theorem MapV.made (lk : α → Lit) (w : World) (k : Nat) : MapV lk (w.alloc (.map #[] 0)) k w.heap.size 0 (fun _ => none) :=
  ⟨.map [], World.ownsMap_made w Try.prog k rawR, fun _ _ => rfl⟩
theorem MapV.blk (h : MapV lk w k b n g) : ∃ es clock, w.heap[b]? = some (.map es clock) := by
  obtain ⟨D, ⟨es, clock, hb, _⟩, _⟩ := h
  exact ⟨es, clock, hb⟩
theorem MapV.lt (h : MapV lk w k b n g) : b < w.heap.size := by
  obtain ⟨es, clock, hb⟩ := h.blk
  exact blk_lt hb
theorem MapV.mono (h : MapV lk w k b n g) {n' : Nat} (hn : n ≤ n') : MapV lk w k b n' g := by
  obtain ⟨D, h1, h2⟩ := h
  exact ⟨D, h1.mono hn, h2⟩
theorem MapV.same (h : MapV lk w k b n g) (hb : w1.heap[b]? = w.heap[b]?) : MapV lk w1 k b n g := by
  obtain ⟨D, ⟨es, clock, hb0, r⟩, h2⟩ := h
  exact ⟨D, ⟨es, clock, hb.trans hb0, r⟩, h2⟩
theorem MapV.below {B : Nat} (h : MapV lk w k b n g) (hb : Below B w w1) (hB : b < B) : MapV lk w1 k b n g := h.same (hb.block b hB)
theorem MapV.grown (h : MapV lk w k b n g) {row : Option Nat} (hg : w.grownBy w1 row) (hne : some b ≠ row) : MapV lk w1 k b n g := h.same (hg.block b h.lt hne)
/-- A row of cells is no map. -/
theorem MapV.ne_cells (h : MapV lk w k b n g) {i t : Nat} {cs : Array Value} {f : Nat × Nat} (hi : w.heap[i]? = some (.cells cs t f)) : b ≠ i := by
  rintro rfl
  obtain ⟨es, clock, hb⟩ := h.blk
  rw [hb] at hi
  cases hi
theorem MapV.ne_row {β : Type} {d : Kd β} {e base : Nat} {ok : Nat → Prop} {v : Value} {xs : List β} (h : MapV lk w k b n g) (hR : d.R e w base ok v xs) : some b ≠ v.ownBlock := by
  intro e1
  obtain ⟨cs, hc⟩ := Kd.R_typed hR b e1.symm
  exact h.ne_cells hc rfl
theorem MapV.look (h : MapV lk w k b n g) (K : Keyed Try.prog k) {t e : Nat} (ht : Try.prog.underlying t = some (.map k e)) {z : Value} (hz : (zeroValue e).run Try.prog w = .ok z w) {key : Value} {a : α} (hkey : keyOf Try.prog k key = some (lk a)) :
    (Instr.lookup t (.map (some b)) key false).run Try.prog w = .ok ((g a).getD z) w := by
  obtain ⟨D, h1, h2⟩ := h
  obtain ⟨v, ps, hrun, hv⟩ := h1.lookup K ht hz (zd := .held z) (zp := []) rfl hkey
  have hv : (Option.some (DataW.held v, ([] : List MemPlace))) = some (atOf (g a) (.held z), ps) := by rw [← h2 a]; exact hv
  rw [atOf_held] at hv
  simp only [Option.some.injEq, Prod.mk.injEq, DataW.held.injEq] at hv
  obtain ⟨hv, _⟩ := hv
  rw [hrun, hv]
theorem MapV.look_ok (h : MapV lk w k b n g) (K : Keyed Try.prog k) {t e : Nat} (ht : Try.prog.underlying t = some (.map k e)) {z : Value} (hz : (zeroValue e).run Try.prog w = .ok z w) {key : Value} {a : α} (hkey : keyOf Try.prog k key = some (lk a)) :
    (Instr.lookup t (.map (some b)) key true).run Try.prog w = .ok (.tuple #[(g a).getD z, .bool (g a).isSome]) w := by
  obtain ⟨D, h1, h2⟩ := h
  obtain ⟨v, ps, hrun, hv⟩ := h1.look_ok K ht hz (zd := .held z) (zp := []) rfl hkey
  have hv : (Option.some (DataW.held v, ([] : List MemPlace))) = some (atOf (g a) (.held z), ps) := by rw [← h2 a]; exact hv
  rw [atOf_held] at hv
  simp only [Option.some.injEq, Prod.mk.injEq, DataW.held.injEq] at hv
  obtain ⟨hv, _⟩ := hv
  have hh : Maps.has D (lk a) = (g a).isSome := by
    cases hg : g a with
    | none => exact Maps.has_false_of_atKey (fun zd => by rw [h2, hg]; rfl)
    | some u => exact Maps.has_true_of_atKey (y := .held u) (fun zd => by rw [h2, hg]; rfl)
  rw [hrun, hv, hh]
theorem MapV.store [DecidableEq α] (h : MapV lk w k b n g) (K : Keyed Try.prog k) (hinj : ∀ x y, lk x = lk y → x = y) {t e : Nat} (ht : Try.prog.underlying t = some (.map k e)) (hn : n < maxLen) {key : Value} {a : α} (hkey : keyOf Try.prog k key = some (lk a)) (val : Value) :
    ∃ w', (Instr.mapUpdate t (.map (some b)) key val).run Try.prog w = .ok () w' ∧ MapV lk w' k b (n + 1) (updM g a val) ∧ w.grownBy w' (some b) := by
  obtain ⟨D, h1, h2⟩ := h
  obtain ⟨w', hrun, h3, h4⟩ := h1.update K ht hn hkey (val := val) (d := .held val) (ps := []) rfl
  refine ⟨w', hrun, ⟨_, h3, fun x z => ?_⟩, h4⟩
  unfold updM
  by_cases e : x = a
  · subst e
    rw [if_pos rfl, Maps.atKey_put_same h1.isMap (K.key hkey)]
    rfl
  · rw [if_neg e, Maps.atKey_put_other (fun e' => e (hinj _ _ e'))]
    exact h2 x z
end
def lkS (s : ByteArray) : Lit := .string s.data.toList
def lkI (i : Int) : Lit := .int .i64 i
theorem lkS_inj (x y : ByteArray) (h : lkS x = lkS y) : x = y := by
  unfold lkS at h
  injection h with h
  obtain ⟨⟨x⟩⟩ := x
  obtain ⟨⟨y⟩⟩ := y
  have h : x = y := h
  rw [h]
theorem lkI_inj (x y : Int) (h : lkI x = lkI y) : x = y := by
  unfold lkI at h
  injection h
theorem lawS : Keyed Try.prog 9 := Maps.string_keyed Try.underlying9
theorem lawI : Keyed Try.prog 3 := Maps.int_keyed Try.underlying3
theorem keyS {s : ByteArray} (hs : s.size ≤ 9223372036854775807) : keyOf Try.prog 9 (.string s) = some (lkS s) := Go.WideMaps.keyOf_string_mk Try.underlying9 (by simpa only [maxLen] using hs)
theorem keyI {i : Int} (h0 : -9223372036854775808 ≤ i) (h1 : i ≤ 9223372036854775807) : keyOf Try.prog 3 (.int .i64 i) = some (lkI i) := by
  exact Maps.keyOf_int_mk Try.underlying3 (WalkArith.wf_i64 ⟨h0, h1⟩)
theorem zeroB (w : World) : (zeroValue 4).run Try.prog w = .ok (.bool false) w := by kernel_rfl
theorem zeroI (w : World) : (zeroValue 3).run Try.prog w = .ok (.int .i64 0) w := by kernel_rfl
theorem zeroL (w : World) : (zeroValue 24).run Try.prog w = .ok (.slice none 0 0) w := by kernel_rfl
theorem MapV.held {α : Type} {lk : α → Lit} {w : World} {k b n : Nat} {g : α → Option Value} (h : MapV lk w k b n g) : ∃ D : DataW Value, w.ownsMap Try.prog k rawR b n D ∧ ∀ a z, D.atKey (lk a) z = atOf (g a) z := h
/-- What stands under a key is there. -/
theorem has_at {α : Type} {lk : α → Lit} {D : DataW Value} {g : α → Option Value} (h : ∀ a z, D.atKey (lk a) z = atOf (g a) z) (a : α) : Maps.has D (lk a) = (g a).isSome := by
  cases hg : g a with
  | none => exact Maps.has_false_of_atKey (fun zd => by rw [h, hg]; rfl)
  | some u => exact Maps.has_true_of_atKey (y := .held u) (fun zd => by rw [h, hg]; rfl)
def OwnK (f : Nat → ByteArray) (s : ByteArray) (v : Value) : Prop := ∀ k, v.ownBlock = some k → f k = s
def updK (f : Nat → ByteArray) (n : Nat) (s : ByteArray) : Nat → ByteArray := fun k => if n ≤ k then s else f k
structure Grp (w : World) (base b n : Nat) (f : Nat → ByteArray) (g : ByteArray → Option Value) (zs : ByteArray → List Int) : Prop where
  map : MapV lkS w 9 b n g
  rows : ∀ s, KI.R 3 w base (fun _ => True) ((g s).getD (.slice none 0 0)) (zs s) ∧ OwnK f s ((g s).getD (.slice none 0 0))
  has : ∀ s, g s = none → zs s = []
section
variable {w w1 : World} {base b n : Nat} {f : Nat → ByteArray} {g : ByteArray → Option Value} {zs : ByteArray → List Int}
theorem Grp.made (w : World) (base : Nat) (f : Nat → ByteArray) : Grp (w.alloc (.map #[] 0)) base w.heap.size 0 f (fun _ => none) (fun _ => []) :=
  ⟨MapV.made lkS w 9, fun s => ⟨Kd.R_nil _ _ _ _ _, fun k hk => by simp [Value.ownBlock] at hk⟩, fun _ _ => rfl⟩
theorem Grp.below {B : Nat} (h : Grp w base b n f g zs) (hb : Below B w w1) (hB : w.heap.size ≤ B) : Grp w1 base b n f g zs :=
  ⟨h.map.below hb (Nat.lt_of_lt_of_le h.map.lt hB), fun s => ⟨Kd.R_step (h.rows s).1 (fun k _ hk => hb.block k (Nat.lt_of_lt_of_le hk hB)), (h.rows s).2⟩, h.has⟩
theorem Grp.alloc (h : Grp w base b n f g zs) (o : Obj) : Grp (w.alloc o) base b n f g zs := h.below (below_alloc (Below.refl _ _) o) (Nat.le_refl _)
theorem Grp.drew (h : Grp w base b n f g zs) : Grp w.drew base b n f g zs := h.below (below_drew (Below.refl _ _)) (Nat.le_refl _)
/-- One row has been appended to (its slice is v1 now, not yet put back). -/
theorem Grp.store (h : Grp w base b n f g zs) {s : ByteArray} {v1 : Value} {x : Int} (hs : s.size ≤ 9223372036854775807) (hn : n < 9223372036854775807) (hg : w.grownBy w1 ((g s).getD (.slice none 0 0)).ownBlock) (hR : KI.R 3 w1 base (fun _ => True) v1 (zs s ++ [x]))
    (hm : v1.ownBlock = ((g s).getD (.slice none 0 0)).ownBlock ∨ ∃ k, v1.ownBlock = some k ∧ w.heap.size ≤ k) :
    ∃ w2, (Instr.mapUpdate 80 (.map (some b)) (.string s) v1).run Try.prog w1 = .ok () w2 ∧ w1.grownBy w2 (some b) ∧ Grp w2 base b (n + 1) (updK f w.heap.size s) (updM g s v1) (fun y => if y = s then zs s ++ [x] else zs y) := by
  have hlt := Kd.R_lt (h.rows s).1
  have hm1 : MapV lkS w1 9 b n g := h.map.grown hg (h.map.ne_row (h.rows s).1)
  obtain ⟨w2, hrun, h3, h4⟩ := hm1.store lawS lkS_inj Try.underlying80 (by simpa only [maxLen] using hn) (keyS hs) v1
  refine ⟨w2, hrun, h4, ⟨h3, fun y => ?_, fun y hy => ?_⟩⟩
  · unfold updM
    by_cases e : y = s
    · subst e
      rw [if_pos rfl, if_pos rfl, Option.getD_some]
      refine ⟨rs_grown rfl hR h4 (fun k hk e1 => ?_), fun k hk => ?_⟩
      · obtain ⟨cs, hc⟩ := Kd.R_typed hR k hk
        exact hm1.ne_cells hc (Option.some.inj e1).symm
      · unfold updK
        rcases hm with hm | ⟨j, hj, hle⟩
        · rw [hm] at hk
          rw [if_neg (Nat.not_le.2 (hlt k hk))]
          exact (h.rows y).2 k hk
        · rw [hj] at hk
          rw [if_pos (by rw [← Option.some.inj hk]; exact hle)]
    · rw [if_neg e, if_neg e]
      obtain ⟨r1, r2⟩ := h.rows y
      have hlty := Kd.R_lt r1
      have hne : ∀ k, ((g y).getD (.slice none 0 0)).ownBlock = some k → some k ≠ ((g s).getD (.slice none 0 0)).ownBlock := fun k hk e1 => by
        have h1 := r2 k hk
        have h2 := (h.rows s).2 k e1.symm
        exact e (h1.symm.trans h2)
      have r3 := rs_grown rfl r1 hg hne
      refine ⟨rs_grown rfl r3 h4 (fun k hk e1 => ?_), fun k hk => ?_⟩
      · obtain ⟨cs, hc⟩ := Kd.R_typed r3 k hk
        exact hm1.ne_cells hc (Option.some.inj e1).symm
      · unfold updK
        rw [if_neg (Nat.not_le.2 (hlty k hk))]
        exact r2 k hk
  · unfold updM at hy
    by_cases e : y = s
    · rw [if_pos e] at hy; cases hy
    · rw [if_neg e] at hy
      rw [if_neg e]
      exact h.has y hy
theorem Grp.look (h : Grp w base b n f g zs) {s : ByteArray} (hs : s.size ≤ 9223372036854775807) :
    (Instr.lookup 80 (.map (some b)) (.string s) false).run Try.prog w = .ok ((g s).getD (.slice none 0 0)) w :=
  h.map.look lawS Try.underlying80 (zeroL w) (keyS hs)
end
instance decMemBA (s : ByteArray) (l : List ByteArray) : Decidable (s ∈ l) := decidable_of_iff (l.any (fun x => decide (x = s)) = true) (by simp)
def inG (l : List ByteArray) : ByteArray → Option Value := fun s => if s ∈ l then some (.bool true) else none
theorem inG_nil : inG [] = fun _ => none := by funext s; simp [inG]
theorem inG_snoc (l : List ByteArray) (s : ByteArray) : updM (inG l) s (.bool true) = inG (l ++ [s]) := by
  funext x
  unfold updM inG
  by_cases e : x = s
  · simp [e]
  · simp [e]
theorem inG_look {w : World} {b n : Nat} {l : List ByteArray} (h : MapV lkS w 9 b n (inG l)) {s : ByteArray} (hs : s.size ≤ 9223372036854775807) :
    (Instr.lookup 81 (.map (some b)) (.string s) false).run Try.prog w = .ok (.bool (decide (s ∈ l))) w := by
  rw [h.look lawS Try.underlying81 (zeroB w) (keyS hs)]
  unfold inG
  by_cases e : s ∈ l
  · rw [if_pos e, decide_eq_true e]; rfl
  · rw [if_neg e, decide_eq_false e]; rfl
theorem inG_store {w : World} {b n : Nat} {l : List ByteArray} (h : MapV lkS w 9 b n (inG l)) {s : ByteArray} (hs : s.size ≤ 9223372036854775807) (hn : n < 9223372036854775807) :
    ∃ w', (Instr.mapUpdate 81 (.map (some b)) (.string s) (.bool true)).run Try.prog w = .ok () w' ∧ MapV lkS w' 9 b (n + 1) (inG (l ++ [s])) ∧ w.grownBy w' (some b) := by
  obtain ⟨w', h1, h2, h3⟩ := h.store lawS lkS_inj Try.underlying81 (by simpa only [maxLen] using hn) (keyS hs) (.bool true)
  exact ⟨w', h1, by rw [← inG_snoc]; exact h2, h3⟩
def inN (l : List Int) : Int → Option Value := fun s => if s ∈ l then some (.bool true) else none
theorem inN_nil : inN [] = fun _ => none := by funext s; simp [inN]
theorem inN_snoc (l : List Int) (s : Int) : updM (inN l) s (.bool true) = inN (l ++ [s]) := by
  funext x
  unfold updM inN
  by_cases e : x = s
  · simp [e]
  · simp [e]
theorem inN_look {w : World} {b n : Nat} {l : List Int} (h : MapV lkI w 3 b n (inN l)) {s : Int} (h0 : -9223372036854775808 ≤ s) (h1 : s ≤ 9223372036854775807) :
    (Instr.lookup 85 (.map (some b)) (.int .i64 s) false).run Try.prog w = .ok (.bool (decide (s ∈ l))) w := by
  rw [h.look lawI Try.underlying85 (zeroB w) (keyI h0 h1)]
  unfold inN
  by_cases e : s ∈ l
  · rw [if_pos e, decide_eq_true e]; rfl
  · rw [if_neg e, decide_eq_false e]; rfl
theorem inN_store {w : World} {b n : Nat} {l : List Int} (h : MapV lkI w 3 b n (inN l)) {s : Int} (h0 : -9223372036854775808 ≤ s) (h1 : s ≤ 9223372036854775807) (hn : n < 9223372036854775807) :
    ∃ w', (Instr.mapUpdate 85 (.map (some b)) (.int .i64 s) (.bool true)).run Try.prog w = .ok () w' ∧ MapV lkI w' 3 b (n + 1) (inN (l ++ [s])) ∧ w.grownBy w' (some b) := by
  obtain ⟨w', h1, h2, h3⟩ := h.store lawI lkI_inj Try.underlying85 (by simpa only [maxLen] using hn) (keyI h0 h1) (.bool true)
  exact ⟨w', h1, by rw [← inN_snoc]; exact h2, h3⟩
end Go.Proofs.Ythpjpkcfepmhkaa.PAll
namespace Go.Proofs.Ythpjpkcfepmhkaa.PAll
open Go.RowKit Go.Proofs.YthpjpkcfepmhkaaW.PrintWords Go.Proofs.YthpjpkcfepmhkaaW.PrintLast Go.Proofs.YthpjpkcfepmhkaaW.PrintMore
set_option linter.unusedVariables false
set_option linter.unusedSimpArgs false
def provOf (l : List S50) : List ByteArray := l.flatMap fun o => namesOf defB o.f0
def prsOf : List S50 → Nat → List (ByteArray × Int)
  | [], _ => []
  | o :: r, i => (namesOf defB o.f0).map (fun s => (s, (i : Int))) ++ prsOf r (i + 1)
def zsOf (ps : List (ByteArray × Int)) (s : ByteArray) : List Int := (ps.filter fun p => decide (p.1 = s)).map (fun p => p.2)
/-- Few objects, with few symbols, whose names are short. -/
def smallL (l : List S50) : Bool := decide (l.length ≤ 1024) && l.all fun o => decide (o.f0.length ≤ 1024) && o.f0.all fun s => decide (s.f0.size ≤ 1048576)
theorem rd50 {l : List S50} {k : Nat} (h : k < l.length) : rd_T50 l k = l[k] := by
  unfold rd_T50
  rw [Int.toNat_natCast, List.getD_eq_getElem?_getD, List.getElem?_eq_getElem h]; rfl
theorem smallL_iff {l : List S50} : smallL l = true ↔ l.length ≤ 1024 ∧ ∀ o, o ∈ l → o.f0.length ≤ 1024 ∧ ∀ s, s ∈ o.f0 → s.f0.size ≤ 1048576 := by
  unfold smallL
  simp only [Bool.and_eq_true, decide_eq_true_eq, List.all_eq_true]
theorem names_small {l : List S50} (h : smallL l = true) (p : Int → Bool) {k : Nat} (hk : k < l.length) : (rd_T50 l k).f0.length ≤ 1024 ∧ (namesOf p (rd_T50 l k).f0).length ≤ 1024 ∧ ∀ s, s ∈ namesOf p (rd_T50 l k).f0 → s.size ≤ 1048576 := by
  obtain ⟨h1, h2⟩ := (smallL_iff.1 h).2 _ (List.getElem_mem hk)
  rw [rd50 hk]
  refine ⟨h1, Nat.le_trans (namesOf_len p _) h1, fun s hs => ?_⟩
  unfold namesOf at hs
  obtain ⟨x, hx, rfl⟩ := List.mem_map.1 hs
  exact h2 x (List.mem_filter.1 hx).1
theorem provOf_snoc {l : List S50} {k : Nat} (hk : k < l.length) : provOf (l.take (k + 1)) = provOf (l.take k) ++ namesOf defB (rd_T50 l k).f0 := by
  rw [rd50 hk, List.take_succ_eq_append_getElem hk]
  unfold provOf
  rw [List.flatMap_append]
  simp
theorem prsOf_append : ∀ (l r : List S50) (i : Nat), prsOf (l ++ r) i = prsOf l i ++ prsOf r (i + l.length)
  | [], r, i => by simp [prsOf]
  | o :: l, r, i => by
    simp only [List.cons_append, prsOf, List.length_cons]
    rw [prsOf_append l r (i + 1), List.append_assoc, Nat.add_right_comm, Nat.add_assoc]
theorem prsOf_snoc {l : List S50} {k : Nat} (hk : k < l.length) : prsOf (l.take (k + 1)) 0 = prsOf (l.take k) 0 ++ (namesOf defB (rd_T50 l k).f0).map (fun s => (s, (k : Int))) := by
  rw [rd50 hk, List.take_succ_eq_append_getElem hk, prsOf_append]
  simp only [prsOf, List.append_nil, List.length_take, Nat.zero_add]
  rw [Nat.min_eq_left (by omega)]
theorem zsOf_snoc (ps : List (ByteArray × Int)) (s : ByteArray) (x : Int) : zsOf (ps ++ [(s, x)]) = fun y => if y = s then zsOf ps s ++ [x] else zsOf ps y := by
  funext y
  unfold zsOf
  rw [List.filter_append, List.map_append]
  by_cases e : y = s
  · subst e
    rw [if_pos rfl]
    simp
  · rw [if_neg e]
    simp [Ne.symm e]
theorem flat_len {l : List S50} (h : ∀ o, o ∈ l → o.f0.length ≤ 1024) : (provOf l).length ≤ l.length * 1024 := by
  unfold provOf
  induction l with
  | nil => simp
  | cons o r ih =>
    rw [List.flatMap_cons, List.length_append, List.length_cons]
    have := ih (fun x hx => h x (List.mem_cons_of_mem _ hx))
    have := h o (List.mem_cons_self ..)
    have := namesOf_len defB o.f0
    omega
theorem prov_len {l : List S50} (h : smallL l = true) (k : Nat) : (provOf (l.take k)).length ≤ 1048576 := by
  obtain ⟨h1, h2⟩ := smallL_iff.1 h
  have := flat_len (l := l.take k) (fun o ho => (h2 o (List.mem_of_mem_take ho)).1)
  rw [List.length_take] at this
  have : min k l.length ≤ 1024 := by omega
  omega
theorem prs_len0 : ∀ (l : List S50) (i : Nat), (prsOf l i).length = (provOf l).length
  | [], _ => rfl
  | o :: l, i => by
    unfold prsOf provOf
    rw [List.flatMap_cons, List.length_append, List.length_append, List.length_map, prs_len0 l (i + 1)]
    rfl
theorem prs_len {l : List S50} (h : smallL l = true) (k : Nat) : (prsOf (l.take k) 0).length ≤ 1048576 := by
  rw [prs_len0]; exact prov_len h k
theorem zs_len (ps : List (ByteArray × Int)) (s : ByteArray) : (zsOf ps s).length ≤ ps.length := by
  unfold zsOf
  rw [List.length_map]
  exact List.length_filter_le _ _
structure BW (w wr : World) (vm : Value) (g4 bd bp gp : Nat) (f : Nat → ByteArray) (g : ByteArray → Option Value) (ps : List (ByteArray × Int)) (pv : List ByteArray) : Prop where
  B : Below w.heap.size w wr
  r : wr.heap[g4]? = some (.cells #[.slice none 0 0, .map none, .map none] 83 (0, 0))
  p : wr.heap[gp]? = some (.cells #[vm, .map (some bd), .map (some bp)] 83 (0, 0))
  grp : Grp wr w.heap.size bd ps.length f g (zsOf ps)
  prov : MapV lkS wr 9 bp pv.length (inG pv)
  h4 : w.heap.size ≤ g4
  hp : w.heap.size ≤ gp
  hd : w.heap.size ≤ bd
  hq : w.heap.size ≤ bp
  ne : bd ≠ bp
  ne4 : g4 ≠ gp
section
variable {w wr w1 : World} {vm : Value} {g4 bd bp gp : Nat} {f : Nat → ByteArray} {g : ByteArray → Option Value} {ps : List (ByteArray × Int)} {pv : List ByteArray}
theorem BW.below (h : BW w wr vm g4 bd bp gp f g ps pv) (hb : Below wr.heap.size wr w1) : BW w w1 vm g4 bd bp gp f g ps pv :=
  ⟨below_then h.B h.B.size hb, blk_below h.r hb, blk_below h.p hb, h.grp.below hb (Nat.le_refl _), h.prov.below hb h.prov.lt, h.h4, h.hp, h.hd, h.hq, h.ne, h.ne4⟩
/-- A name that is provided is put in. -/
theorem BW.put (h : BW w wr vm g4 bd bp gp f g ps pv) {s : ByteArray} (hs : s.size ≤ 1048576) (hn : pv.length ≤ 2097152) {v : Value} {ns : List ByteArray} (hR : Kd.string.R 9 wr w.heap.size (fun _ => True) v ns) :
    ∃ w', (Instr.mapUpdate 81 (.map (some bp)) (.string s) (.bool true)).run Try.prog wr = .ok () w' ∧ BW w w' vm g4 bd bp gp f g ps (pv ++ [s]) ∧ Kd.string.R 9 w' w.heap.size (fun _ => True) v ns := by
  obtain ⟨w', h1, h2, h3⟩ := inG_store h.prov (s := s) (by omega) (by omega)
  refine ⟨w', h1, ⟨h.B.grown h3 h.B.size (fun k hk => by cases hk; exact h.hq), blk_grown h.r h3 (fun e => h.prov.ne_cells h.r (Option.some.inj e).symm), blk_grown h.p h3 (fun e => h.prov.ne_cells h.p (Option.some.inj e).symm), ?_, by rw [List.length_append]; exact h2, h.h4, h.hp, h.hd, h.hq, h.ne, h.ne4⟩, rs_grown rfl hR h3 (fun k hk e => h.prov.ne_row hR (by rw [hk, ← e]))⟩
  refine ⟨h.grp.map.grown h3 (fun e => h.ne (Option.some.inj e)), fun y => ?_, h.grp.has⟩
  obtain ⟨r1, r2⟩ := h.grp.rows y
  exact ⟨rs_grown rfl r1 h3 (fun k hk e => h.prov.ne_row r1 (by rw [hk, ← e])), r2⟩
/-- A definer has been appended (w1), and its slice is put back. -/
theorem BW.group (h : BW w wr vm g4 bd bp gp f g ps pv) {s : ByteArray} {v1 : Value} {x : Int} (hs : s.size ≤ 1048576) (hn : ps.length ≤ 2097152) (hg : wr.grownBy w1 ((g s).getD (.slice none 0 0)).ownBlock) (hB : Below w.heap.size w w1) (hR : KI.R 3 w1 w.heap.size (fun _ => True) v1 (zsOf ps s ++ [x]))
    (hm : v1.ownBlock = ((g s).getD (.slice none 0 0)).ownBlock ∨ ∃ k, v1.ownBlock = some k ∧ wr.heap.size ≤ k) {v : Value} {ns : List ByteArray} (hV : Kd.string.R 9 wr w.heap.size (fun _ => True) v ns) :
    ∃ w2 f2 g2, (Instr.mapUpdate 80 (.map (some bd)) (.string s) v1).run Try.prog w1 = .ok () w2 ∧ BW w w2 vm g4 bd bp gp f2 g2 (ps ++ [(s, x)]) pv ∧ Kd.string.R 9 w2 w.heap.size (fun _ => True) v ns := by
  obtain ⟨w2, h1, h2, h3⟩ := h.grp.store (s := s) (x := x) (by omega) (by omega) hg hR hm
  have hrow := (h.grp.rows s).1
  have hty : ∀ {i t : Nat} {cs : Array Value}, wr.heap[i]? = some (.cells cs t (0, 0)) → t ≠ 3 → w2.heap[i]? = some (.cells cs t (0, 0)) := by
    intro i t cs hi ht
    have h4 := blk_grown hi hg (Kd.R_ne hrow hi (fun e => ht e.symm))
    exact blk_grown h4 h2 (fun e => (h.grp.map.grown hg (h.grp.map.ne_row hrow)).ne_cells h4 (Option.some.inj e).symm)
  refine ⟨w2, updK f wr.heap.size s, updM g s v1, h1, ⟨hB.grown h2 hB.size (fun k hk => by cases hk; exact h.hd), hty h.r (by decide), hty h.p (by decide), ?_, (h.prov.grown hg (h.prov.ne_row hrow)).grown h2 (fun e => h.ne (Option.some.inj e).symm), h.h4, h.hp, h.hd, h.hq, h.ne, h.ne4⟩, ?_⟩
  · rw [List.length_append, zsOf_snoc]
    exact h3
  · refine Kd.R_mono (Kd.R_step (Kd.R_tight rfl hV) (fun k hk _ => ?_)) (fun _ _ => trivial)
    obtain ⟨cs, hc⟩ := Kd.R_typed hV k hk.symm
    rw [hty hc (by decide), hc]
end
end Go.Proofs.Ythpjpkcfepmhkaa.PAll
namespace Go.Proofs.Ythpjpkcfepmhkaa.PAll
open Go.RowKit Go.Proofs.YthpjpkcfepmhkaaW.PrintWords Go.Proofs.YthpjpkcfepmhkaaW.PrintLast Go.Proofs.YthpjpkcfepmhkaaW.PrintMore
attribute [local go_sem] max2_int min2_int max_two min_two max_three min_three max_four min_four   -- for this text's walks alone
set_option linter.unusedVariables false
set_option linter.unusedSimpArgs false
mutual
def arlinkref06_Sym.j0 : Nat → Bool → ByteArray → Int → Int → Int → Option (Bool)
 | 0, _, _, _, _, _ => none
 | k + 1, x23, x294000, x294001, x294002, x294003 => if x23 = true then (some false) else (arlinkref06_Sym.l0 k 0 x294000 x294001 x294002 x294003)
def arlinkref06_Sym.l0 : Nat → Int → ByteArray → Int → Int → Int → Option (Bool)
 | 0, _, _, _, _, _ => none
 | k + 1, x3, x294000, x294001, x294002, x294003 => if x3 < (x294000.size : Int) then (if 0 ≤ x3 then (if (bt x294000 x3) = 0 then (some false) else (arlinkref06_Sym.l0 k (wrap64 (x3 + 1)) x294000 x294001 x294002 x294003)) else (none)) else (if x294001 = 3 then ((arlinkref06_Power.f k x294003).bind fun t294 => (some t294)) else (if x294001 = 4 then (if x294002 = 0 then (some (x294003 == 0)) else (some false)) else (if x294001 = 5 then (if x294002 = 0 then (some (x294003 == 0)) else (some false)) else (if x294001 = 1 then (some (x294003 == 0)) else (if x294001 = 2 then (some (x294003 == 0)) else (some false))))))
end
def arlinkref06_Sym.f (k : Nat) (a0_0 : ByteArray) (a0_1 : Int) (a0_2 : Int) (a0_3 : Int) : Option (Bool) := if (a0_0.size : Int) = 0 then (arlinkref06_Sym.j0 k true a0_0 a0_1 a0_2 a0_3) else (if (a0_0.size : Int) > 255 then (arlinkref06_Sym.j0 k true a0_0 a0_1 a0_2 a0_3) else (if a0_2 < 0 then (arlinkref06_Sym.j0 k true a0_0 a0_1 a0_2 a0_3) else (arlinkref06_Sym.j0 k (decide (a0_2 > 4294967295)) a0_0 a0_1 a0_2 a0_3)))
set_option maxHeartbeats 8000000 in
set_option maxRecDepth 100000 in
theorem arlinkref06_Sym.calls (k : Nat) (a0_0 : ByteArray) (a0_1 : Int) (a0_2 : Int) (a0_3 : Int) (r : Bool) (w : World) (h : arlinkref06_Sym.f k a0_0 a0_1 a0_2 a0_3 = some r) :
  Calls Try.prog 64 #[.agg #[.string a0_0, .int .i64 a0_1, .int .i64 a0_2, .int .i64 a0_3]] w fun e w' => e = .returned (.bool r) ∧ Below w.heap.size w w' := by
 have hu55 := Try.underlying55
 have HB := Aside0.mk (Below.refl w.heap.size w)
 have H : (if (a0_0.size : Int) = 0 then (arlinkref06_Sym.j0 k true a0_0 a0_1 a0_2 a0_3) else (if (a0_0.size : Int) > 255 then (arlinkref06_Sym.j0 k true a0_0 a0_1 a0_2 a0_3) else (if a0_2 < 0 then (arlinkref06_Sym.j0 k true a0_0 a0_1 a0_2 a0_3) else (arlinkref06_Sym.j0 k (decide (a0_2 > 4294967295)) a0_0 a0_1 a0_2 a0_3)))) = some r := h
 clear h
 have HC2 := Aside0.mk H
 clear H
 go_enter Try.func64, Try.ntmps64
 go_upto_region 1 with (first | ((with_reducible refine gate_dst (N := 1) rfl ?_); (try (refine gate_guard (by rfl) ?_; dsimp only)); refine box_event ?hg (N := 1) ?hd (cs := #[.string a0_0, .int .i64 a0_1, .int .i64 a0_2, .int .i64 a0_3]) (t := 55) ?hr ?_; (case hd => rfl); (case hg => rfl); (case hr => first | (go_simp; done) | (go_simp; rfl)); intro gb293 hg w3 hbox hb; have n0_ := Aside0.mk (below_step (by repeat (first | (with_reducible first | exact HB.out | apply below_alloc | apply pw_below_drewN | apply below_drew1) | exact HB.out)) hb); have n1_ := Aside0.mk (hbox); have n2_ := Aside0.mk ((by rw [hg]; exact (below_size (by repeat (first | (with_reducible first | exact HB.out | apply below_alloc | apply pw_below_drewN | apply below_drew1) | exact HB.out))) : w.heap.size ≤ gb293)); have n3_ := Aside0.mk ((by rw [hg]; exact (below_size (by repeat (first | (with_reducible first | exact HB.out | apply below_alloc | apply pw_below_drewN | apply below_drew1) | exact HB.out))) : w.heap.size ≤ gb293)); clear HB; have HB := n0_; have BK293 := n1_; have GW293 := n2_; have GE293 := n3_; clear n0_ n1_ n2_ n3_; clear hb hbox hg))
 (try simp only [Act.put, List.setIfInBounds_toArray, List.set_cons_zero, List.set_cons_succ])
 go_cut [23] (fun v23 wc => ∃ (kq : Nat) (x23_1 : Bool), v23 = .bool x23_1 ∧ Aside0 (arlinkref06_Sym.j0 kq x23_1 a0_0 a0_1 a0_2 a0_3 = some r) ∧ Aside0 (kq ≤ k) ∧ Aside0 (wc.heap[gb293]? = some (.cells #[.string a0_0, .int .i64 a0_1, .int .i64 a0_2, .int .i64 a0_3] 55 (0, 0))) ∧ Aside0 (Below w.heap.size w wc))
 case first =>
  have H := HC2.out
  clear HC2
  by_cases c4 : (a0_0.size : Int) = 0
  ·rw [if_pos c4] at H
   have c4b0 : ((a0_0.size : Int) == 0) = true := beq_iff_eq.mpr c4
   have c4b1 : ((a0_0.size : Int) != 0) = false := bne_eq_false_iff_eq.mpr c4
   clear c4
   (first | rw [c4b0] | (simp only [i64_w, i32_w]; rw [c4b0]) | skip)
   have H' := Aside0.mk H
   clear H
   have hcz5_0 : w3.cell? ⟨gb293, 0, none⟩ = some (.string a0_0) := (blk_cell BK293.out 0).trans rfl
   have hcz5_1 : w3.cell? ⟨gb293, 1, none⟩ = some (.int .i64 a0_1) := (blk_cell BK293.out 1).trans rfl
   have hcz5_2 : w3.cell? ⟨gb293, 2, none⟩ = some (.int .i64 a0_2) := (blk_cell BK293.out 2).trans rfl
   have hcz5_3 : w3.cell? ⟨gb293, 3, none⟩ = some (.int .i64 a0_3) := (blk_cell BK293.out 3).trans rfl
   have hfz5_0 := blk_frozen BK293.out 0
   have hfz5_1 := blk_frozen BK293.out 1
   have hfz5_2 := blk_frozen BK293.out 2
   have hfz5_3 := blk_frozen BK293.out 3
   go_wp2
   go_meet
   case rel => exact ⟨_, (true), (by first | rfl | (simp; done) | (simp [*]; done)), H', ⟨by first | omega | exact Nat.le_refl _⟩, ⟨by (with_reducible repeat (first | refine blk_drewN ?_ _ | refine blk_drew ?_ | refine blk_alloc ?_ _)); exact BK293.out⟩, ⟨by repeat (first | (with_reducible first | exact HB.out | apply below_alloc | apply pw_below_drewN | apply below_drew1 | refine below_set ?_ GE293.out) | exact HB.out)⟩⟩
  ·rw [if_neg c4] at H
   have c4b0 : ((a0_0.size : Int) == 0) = false := beq_eq_false_iff_ne.mpr c4
   have c4b1 : ((a0_0.size : Int) != 0) = true := bne_iff_ne.mpr c4
   (first | rw [c4b0] | (simp only [i64_w, i32_w]; rw [c4b0]) | skip)
   by_cases c6 : (a0_0.size : Int) > 255
   ·rw [if_pos c6] at H
    have c6b0 : decide (255 < (a0_0.size : Int)) = true := decide_eq_true c6
    have c6b1 : decide (255 < a0_0.size) = true := decide_eq_true (by omega)
    clear c6
    have H' := Aside0.mk H
    clear H
    have hcz7_0 : w3.cell? ⟨gb293, 0, none⟩ = some (.string a0_0) := (blk_cell BK293.out 0).trans rfl
    have hcz7_1 : w3.cell? ⟨gb293, 1, none⟩ = some (.int .i64 a0_1) := (blk_cell BK293.out 1).trans rfl
    have hcz7_2 : w3.cell? ⟨gb293, 2, none⟩ = some (.int .i64 a0_2) := (blk_cell BK293.out 2).trans rfl
    have hcz7_3 : w3.cell? ⟨gb293, 3, none⟩ = some (.int .i64 a0_3) := (blk_cell BK293.out 3).trans rfl
    have hfz7_0 := blk_frozen BK293.out 0
    have hfz7_1 := blk_frozen BK293.out 1
    have hfz7_2 := blk_frozen BK293.out 2
    have hfz7_3 := blk_frozen BK293.out 3
    go_wp2
    go_meet
    case rel => exact ⟨_, (true), (by first | rfl | (simp; done) | (simp [*]; done)), H', ⟨by first | omega | exact Nat.le_refl _⟩, ⟨by (with_reducible repeat (first | refine blk_drewN ?_ _ | refine blk_drew ?_ | refine blk_alloc ?_ _)); exact BK293.out⟩, ⟨by repeat (first | (with_reducible first | exact HB.out | apply below_alloc | apply pw_below_drewN | apply below_drew1 | refine below_set ?_ GE293.out) | exact HB.out)⟩⟩
   ·rw [if_neg c6] at H
    have c6b0 : decide (255 < (a0_0.size : Int)) = false := decide_eq_false c6
    have c6b1 : decide (255 < a0_0.size) = false := decide_eq_false (by omega)
    clear c6
    by_cases c8 : a0_2 < 0
    ·rw [if_pos c8] at H
     have c8b0 : decide (a0_2 < 0) = true := decide_eq_true c8
     clear c8
     have H' := Aside0.mk H
     clear H
     have hcz9_0 : w3.cell? ⟨gb293, 0, none⟩ = some (.string a0_0) := (blk_cell BK293.out 0).trans rfl
     have hcz9_1 : w3.cell? ⟨gb293, 1, none⟩ = some (.int .i64 a0_1) := (blk_cell BK293.out 1).trans rfl
     have hcz9_2 : w3.cell? ⟨gb293, 2, none⟩ = some (.int .i64 a0_2) := (blk_cell BK293.out 2).trans rfl
     have hcz9_3 : w3.cell? ⟨gb293, 3, none⟩ = some (.int .i64 a0_3) := (blk_cell BK293.out 3).trans rfl
     have hfz9_0 := blk_frozen BK293.out 0
     have hfz9_1 := blk_frozen BK293.out 1
     have hfz9_2 := blk_frozen BK293.out 2
     have hfz9_3 := blk_frozen BK293.out 3
     go_wp2
     go_meet
     case rel => exact ⟨_, (true), (by first | rfl | (simp; done) | (simp [*]; done)), H', ⟨by first | omega | exact Nat.le_refl _⟩, ⟨by (with_reducible repeat (first | refine blk_drewN ?_ _ | refine blk_drew ?_ | refine blk_alloc ?_ _)); exact BK293.out⟩, ⟨by repeat (first | (with_reducible first | exact HB.out | apply below_alloc | apply pw_below_drewN | apply below_drew1 | refine below_set ?_ GE293.out) | exact HB.out)⟩⟩
    ·rw [if_neg c8] at H
     have c8b0 : decide (a0_2 < 0) = false := decide_eq_false c8
     clear c8
     have H' := Aside0.mk H
     clear H
     have hcz10_0 : w3.cell? ⟨gb293, 0, none⟩ = some (.string a0_0) := (blk_cell BK293.out 0).trans rfl
     have hcz10_1 : w3.cell? ⟨gb293, 1, none⟩ = some (.int .i64 a0_1) := (blk_cell BK293.out 1).trans rfl
     have hcz10_2 : w3.cell? ⟨gb293, 2, none⟩ = some (.int .i64 a0_2) := (blk_cell BK293.out 2).trans rfl
     have hcz10_3 : w3.cell? ⟨gb293, 3, none⟩ = some (.int .i64 a0_3) := (blk_cell BK293.out 3).trans rfl
     have hfz10_0 := blk_frozen BK293.out 0
     have hfz10_1 := blk_frozen BK293.out 1
     have hfz10_2 := blk_frozen BK293.out 2
     have hfz10_3 := blk_frozen BK293.out 3
     go_wp2
     go_meet
     case rel => exact ⟨_, (decide (a0_2 > 4294967295)), (by first | rfl | (simp; done) | (simp [*]; done)), H', ⟨by first | omega | exact Nat.le_refl _⟩, ⟨by (with_reducible repeat (first | refine blk_drewN ?_ _ | refine blk_drew ?_ | refine blk_alloc ?_ _)); exact BK293.out⟩, ⟨by repeat (first | (with_reducible first | exact HB.out | apply below_alloc | apply pw_below_drewN | apply below_drew1 | refine below_set ?_ GE293.out) | exact HB.out)⟩⟩
 case rest =>
  clear HC2
  try clear p2
  try clear c4
  try clear c4b0
  try clear c4b1
  try clear c6
  try clear c6b0
  try clear c6b1
  try clear c8
  try clear c8b0
  try clear hcz10_0
  try clear hcz10_1
  try clear hcz10_2
  try clear hcz10_3
  try clear hcz5_0
  try clear hcz5_1
  try clear hcz5_2
  try clear hcz5_3
  try clear hcz7_0
  try clear hcz7_1
  try clear hcz7_2
  try clear hcz7_3
  try clear hcz9_0
  try clear hcz9_1
  try clear hcz9_2
  try clear hcz9_3
  try clear hfz10_0
  try clear hfz10_1
  try clear hfz10_2
  try clear hfz10_3
  try clear hfz5_0
  try clear hfz5_1
  try clear hfz5_2
  try clear hfz5_3
  try clear hfz7_0
  try clear hfz7_1
  try clear hfz7_2
  try clear hfz7_3
  try clear hfz9_0
  try clear hfz9_1
  try clear hfz9_2
  try clear hfz9_3
  obtain ⟨kq, x23_1, rfl, HA, HJ1, BK293, HB⟩ := hcut
  cases kq with
  | zero => exact absurd HA.out (by simp [arlinkref06_Sym.j0])
  | succ kj1 =>
   have H := HA.out
   clear HA
   simp only [arlinkref06_Sym.j0] at H
   by_cases c11 : x23_1 = true
   ·subst c11
    have H1 : (some false) = some r := by rw [if_pos rfl] at H; exact H
    clear H
    have H := H1
    clear H1
    obtain rfl := Option.some.inj H
    go_wp2
    go_ret
    exact ⟨by first | rfl | (simp [errW_none, errW_some] <;> rfl) | (simp [*, errW_none, errW_some] <;> rfl), by repeat (first | (with_reducible first | exact HB.out | apply below_alloc | apply pw_below_drewN | apply below_drew1 | refine below_set ?_ GE293.out) | exact HB.out)⟩
   ·replace c11 := Bool.eq_false_iff.mpr c11
    subst c11
    have H1 : (arlinkref06_Sym.l0 kj1 0 a0_0 a0_1 a0_2 a0_3) = some r := by rw [if_neg (show ¬ (false = true) by decide)] at H; exact H
    clear H
    have H := H1
    clear H1
    have H' := Aside0.mk H
    clear H
    go_wp2
    go_loopg [3] kj1 (fun kq v3 w' => ∃ (x3_2 : Int), v3 = .int .i64 x3_2 ∧ Aside0 (arlinkref06_Sym.l0 kq x3_2 a0_0 a0_1 a0_2 a0_3 = some r) ∧ Aside0 (kq ≤ kj1) ∧ Aside0 (w'.heap[gb293]? = some (.cells #[.string a0_0, .int .i64 a0_1, .int .i64 a0_2, .int .i64 a0_3] 55 (0, 0))) ∧ Aside0 (Below w.heap.size w w'))
    case atStart => exact ⟨(0), (by first | rfl | (simp; done) | (simp [*]; done)), H', ⟨Nat.le_refl _⟩, ⟨by (with_reducible repeat (first | refine blk_drewN ?_ _ | refine blk_drew ?_ | refine blk_alloc ?_ _)); exact BK293.out⟩, ⟨by repeat (first | (with_reducible first | exact HB.out | apply below_alloc | apply pw_below_drewN | apply below_drew1 | refine below_set ?_ GE293.out) | exact HB.out)⟩⟩
    case round =>
     clear H'
     try clear c1
     try clear p2
     try clear c4
     try clear c4b0
     try clear c4b1
     try clear c6
     try clear c6b0
     try clear c6b1
     try clear c8
     try clear c8b0
     try clear c11
     try clear hcz10_0
     try clear hcz10_1
     try clear hcz10_2
     try clear hcz10_3
     try clear hcz5_0
     try clear hcz5_1
     try clear hcz5_2
     try clear hcz5_3
     try clear hcz7_0
     try clear hcz7_1
     try clear hcz7_2
     try clear hcz7_3
     try clear hcz9_0
     try clear hcz9_1
     try clear hcz9_2
     try clear hcz9_3
     try clear hfz10_0
     try clear hfz10_1
     try clear hfz10_2
     try clear hfz10_3
     try clear hfz5_0
     try clear hfz5_1
     try clear hfz5_2
     try clear hfz5_3
     try clear hfz7_0
     try clear hfz7_1
     try clear hfz7_2
     try clear hfz7_3
     try clear hfz9_0
     try clear hfz9_1
     try clear hfz9_2
     try clear hfz9_3
     try clear p2
     obtain ⟨x3_2, rfl, HA, HK2, BK293, HB⟩ := hrel
     cases gk with
     | zero => exact absurd HA.out (by simp [arlinkref06_Sym.l0])
     | succ k2 =>
      have H := HA.out
      clear HA
      simp only [arlinkref06_Sym.l0] at H
      by_cases c12 : x3_2 < (a0_0.size : Int)
      ·rw [if_pos c12] at H
       have c12b0 : decide (x3_2 < (a0_0.size : Int)) = true := decide_eq_true c12
       clear c12
       by_cases c13 : 0 ≤ x3_2
       ·rw [if_pos c13] at H
        have c13b0 : decide (0 ≤ x3_2) = true := decide_eq_true c13
        clear c13
        by_cases c15 : (bt a0_0 x3_2) = 0
        ·rw [if_pos c15] at H
         have c15b0 : ((bt a0_0 x3_2) == 0) = true := beq_iff_eq.mpr c15
         have c15b1 : ((bt a0_0 x3_2) != 0) = false := bne_eq_false_iff_eq.mpr c15
         clear c15
         obtain rfl := Option.some.inj H
         have hcz16_0 : wr.cell? ⟨gb293, 0, none⟩ = some (.string a0_0) := (blk_cell BK293.out 0).trans rfl
         have hcz16_1 : wr.cell? ⟨gb293, 1, none⟩ = some (.int .i64 a0_1) := (blk_cell BK293.out 1).trans rfl
         have hcz16_2 : wr.cell? ⟨gb293, 2, none⟩ = some (.int .i64 a0_2) := (blk_cell BK293.out 2).trans rfl
         have hcz16_3 : wr.cell? ⟨gb293, 3, none⟩ = some (.int .i64 a0_3) := (blk_cell BK293.out 3).trans rfl
         have hfz16_0 := blk_frozen BK293.out 0
         have hfz16_1 := blk_frozen BK293.out 1
         have hfz16_2 := blk_frozen BK293.out 2
         have hfz16_3 := blk_frozen BK293.out 3
         have p14 : 0 ≤ (x3_2 : Int) := of_decide_eq_true (by first | (with_reducible assumption) | assumption)
         have q14 : x3_2 < (a0_0.size : Int) := of_decide_eq_true (by first | (with_reducible assumption) | assumption)
         have hx14 := bt_at a0_0 x3_2
         replace p14 := eq_true p14
         replace q14 := eq_true q14
         go_wp2
         go_ret
         exact ⟨by first | rfl | (simp [errW_none, errW_some] <;> rfl) | (simp [*, errW_none, errW_some] <;> rfl), by repeat (first | (with_reducible first | exact HB.out | apply below_alloc | apply pw_below_drewN | apply below_drew1 | refine below_set ?_ GE293.out) | exact HB.out)⟩
        ·rw [if_neg c15] at H
         have c15b0 : ((bt a0_0 x3_2) == 0) = false := beq_eq_false_iff_ne.mpr c15
         have c15b1 : ((bt a0_0 x3_2) != 0) = true := bne_iff_ne.mpr c15
         have H' := Aside0.mk H
         clear H
         have hcz17_0 : wr.cell? ⟨gb293, 0, none⟩ = some (.string a0_0) := (blk_cell BK293.out 0).trans rfl
         have hcz17_1 : wr.cell? ⟨gb293, 1, none⟩ = some (.int .i64 a0_1) := (blk_cell BK293.out 1).trans rfl
         have hcz17_2 : wr.cell? ⟨gb293, 2, none⟩ = some (.int .i64 a0_2) := (blk_cell BK293.out 2).trans rfl
         have hcz17_3 : wr.cell? ⟨gb293, 3, none⟩ = some (.int .i64 a0_3) := (blk_cell BK293.out 3).trans rfl
         have hfz17_0 := blk_frozen BK293.out 0
         have hfz17_1 := blk_frozen BK293.out 1
         have hfz17_2 := blk_frozen BK293.out 2
         have hfz17_3 := blk_frozen BK293.out 3
         have p14 : 0 ≤ (x3_2 : Int) := of_decide_eq_true (by first | (with_reducible assumption) | assumption)
         have q14 : x3_2 < (a0_0.size : Int) := of_decide_eq_true (by first | (with_reducible assumption) | assumption)
         have hx14 := bt_at a0_0 x3_2
         replace p14 := eq_true p14
         replace q14 := eq_true q14
         go_wp2
         go_roundg k2
         case measure => have := HJ1.out; have := HK2.out; omega
         case rel => exact ⟨(wrap64 (x3_2 + 1)), (by first | rfl | (simp; done) | (simp [*]; done)), H', ⟨by have := HJ1.out; have := HK2.out; omega⟩, ⟨by (with_reducible repeat (first | refine blk_drewN ?_ _ | refine blk_drew ?_ | refine blk_alloc ?_ _)); exact BK293.out⟩, ⟨by repeat (first | (with_reducible first | exact HB.out | apply below_alloc | apply pw_below_drewN | apply below_drew1 | refine below_set ?_ GE293.out) | exact HB.out)⟩⟩
       ·rw [if_neg c13] at H
        exact absurd H (by simp)
      ·rw [if_neg c12] at H
       have c12b0 : decide (x3_2 < (a0_0.size : Int)) = false := decide_eq_false c12
       clear c12
       by_cases c18 : a0_1 = 3
       ·rw [if_pos c18] at H
        have c18b0 : (a0_1 == 3) = true := beq_iff_eq.mpr c18
        have c18b1 : (a0_1 != 3) = false := bne_eq_false_iff_eq.mpr c18
        clear c18
        replace H := Option.bind_eq_some_iff.mp H
        obtain ⟨t294, A190, H⟩ := H
        replace H : (some t294) = some r := H
        have A19 := Aside0.mk A190
        clear A190
        obtain rfl := Option.some.inj H
        have hcz20_0 : wr.cell? ⟨gb293, 0, none⟩ = some (.string a0_0) := (blk_cell BK293.out 0).trans rfl
        have hcz20_1 : wr.cell? ⟨gb293, 1, none⟩ = some (.int .i64 a0_1) := (blk_cell BK293.out 1).trans rfl
        have hcz20_2 : wr.cell? ⟨gb293, 2, none⟩ = some (.int .i64 a0_2) := (blk_cell BK293.out 2).trans rfl
        have hcz20_3 : wr.cell? ⟨gb293, 3, none⟩ = some (.int .i64 a0_3) := (blk_cell BK293.out 3).trans rfl
        have hfz20_0 := blk_frozen BK293.out 0
        have hfz20_1 := blk_frozen BK293.out 1
        have hfz20_2 := blk_frozen BK293.out 2
        have hfz20_3 := blk_frozen BK293.out 3
        go_wp2_with (first | ((with_reducible refine gate_callee (f := 69) rfl ?_); refine goesL_ (some 41) rfl rfl Try.func69 (by kernel_rfl) rfl #[.int .i64 a0_3] rfl (by (try simp only [List.map_toArray, List.map_cons, List.map_nil]); first | done | rfl | (simp only [List.length_drop, List.length_take]; rfl)) ?_; (with_reducible refine (arlinkref06_Power.calls k2 a0_3 t294 _ A19.out).mono ?_); rintro e w' ⟨rfl, ⟨nd, rfl⟩⟩; refine ⟨_, rfl, ?_⟩))
        go_ret
        exact ⟨by first | rfl | (simp [errW_none, errW_some] <;> rfl) | (simp [*, errW_none, errW_some] <;> rfl), by repeat (first | (with_reducible first | exact HB.out | apply below_alloc | apply pw_below_drewN | apply below_drew1 | refine below_set ?_ GE293.out) | exact HB.out)⟩
       ·rw [if_neg c18] at H
        have c18b0 : (a0_1 == 3) = false := beq_eq_false_iff_ne.mpr c18
        have c18b1 : (a0_1 != 3) = true := bne_iff_ne.mpr c18
        by_cases c21 : a0_1 = 4
        ·rw [if_pos c21] at H
         have c21b0 : (a0_1 == 4) = true := beq_iff_eq.mpr c21
         have c21b1 : (a0_1 != 4) = false := bne_eq_false_iff_eq.mpr c21
         clear c21
         by_cases c22 : a0_2 = 0
         ·rw [if_pos c22] at H
          have c22b0 : (a0_2 == 0) = true := beq_iff_eq.mpr c22
          have c22b1 : (a0_2 != 0) = false := bne_eq_false_iff_eq.mpr c22
          clear c22
          obtain rfl := Option.some.inj H
          have hcz23_0 : wr.cell? ⟨gb293, 0, none⟩ = some (.string a0_0) := (blk_cell BK293.out 0).trans rfl
          have hcz23_1 : wr.cell? ⟨gb293, 1, none⟩ = some (.int .i64 a0_1) := (blk_cell BK293.out 1).trans rfl
          have hcz23_2 : wr.cell? ⟨gb293, 2, none⟩ = some (.int .i64 a0_2) := (blk_cell BK293.out 2).trans rfl
          have hcz23_3 : wr.cell? ⟨gb293, 3, none⟩ = some (.int .i64 a0_3) := (blk_cell BK293.out 3).trans rfl
          have hfz23_0 := blk_frozen BK293.out 0
          have hfz23_1 := blk_frozen BK293.out 1
          have hfz23_2 := blk_frozen BK293.out 2
          have hfz23_3 := blk_frozen BK293.out 3
          go_wp2
          go_ret
          exact ⟨by first | rfl | (simp [errW_none, errW_some] <;> rfl) | (simp [*, errW_none, errW_some] <;> rfl), by repeat (first | (with_reducible first | exact HB.out | apply below_alloc | apply pw_below_drewN | apply below_drew1 | refine below_set ?_ GE293.out) | exact HB.out)⟩
         ·rw [if_neg c22] at H
          have c22b0 : (a0_2 == 0) = false := beq_eq_false_iff_ne.mpr c22
          have c22b1 : (a0_2 != 0) = true := bne_iff_ne.mpr c22
          obtain rfl := Option.some.inj H
          have hcz24_0 : wr.cell? ⟨gb293, 0, none⟩ = some (.string a0_0) := (blk_cell BK293.out 0).trans rfl
          have hcz24_1 : wr.cell? ⟨gb293, 1, none⟩ = some (.int .i64 a0_1) := (blk_cell BK293.out 1).trans rfl
          have hcz24_2 : wr.cell? ⟨gb293, 2, none⟩ = some (.int .i64 a0_2) := (blk_cell BK293.out 2).trans rfl
          have hcz24_3 : wr.cell? ⟨gb293, 3, none⟩ = some (.int .i64 a0_3) := (blk_cell BK293.out 3).trans rfl
          have hfz24_0 := blk_frozen BK293.out 0
          have hfz24_1 := blk_frozen BK293.out 1
          have hfz24_2 := blk_frozen BK293.out 2
          have hfz24_3 := blk_frozen BK293.out 3
          go_wp2
          go_ret
          exact ⟨by first | rfl | (simp [errW_none, errW_some] <;> rfl) | (simp [*, errW_none, errW_some] <;> rfl), by repeat (first | (with_reducible first | exact HB.out | apply below_alloc | apply pw_below_drewN | apply below_drew1 | refine below_set ?_ GE293.out) | exact HB.out)⟩
        ·rw [if_neg c21] at H
         have c21b0 : (a0_1 == 4) = false := beq_eq_false_iff_ne.mpr c21
         have c21b1 : (a0_1 != 4) = true := bne_iff_ne.mpr c21
         by_cases c25 : a0_1 = 5
         ·rw [if_pos c25] at H
          have c25b0 : (a0_1 == 5) = true := beq_iff_eq.mpr c25
          have c25b1 : (a0_1 != 5) = false := bne_eq_false_iff_eq.mpr c25
          clear c25
          by_cases c26 : a0_2 = 0
          ·rw [if_pos c26] at H
           have c26b0 : (a0_2 == 0) = true := beq_iff_eq.mpr c26
           have c26b1 : (a0_2 != 0) = false := bne_eq_false_iff_eq.mpr c26
           clear c26
           obtain rfl := Option.some.inj H
           have hcz27_0 : wr.cell? ⟨gb293, 0, none⟩ = some (.string a0_0) := (blk_cell BK293.out 0).trans rfl
           have hcz27_1 : wr.cell? ⟨gb293, 1, none⟩ = some (.int .i64 a0_1) := (blk_cell BK293.out 1).trans rfl
           have hcz27_2 : wr.cell? ⟨gb293, 2, none⟩ = some (.int .i64 a0_2) := (blk_cell BK293.out 2).trans rfl
           have hcz27_3 : wr.cell? ⟨gb293, 3, none⟩ = some (.int .i64 a0_3) := (blk_cell BK293.out 3).trans rfl
           have hfz27_0 := blk_frozen BK293.out 0
           have hfz27_1 := blk_frozen BK293.out 1
           have hfz27_2 := blk_frozen BK293.out 2
           have hfz27_3 := blk_frozen BK293.out 3
           go_wp2
           go_ret
           exact ⟨by first | rfl | (simp [errW_none, errW_some] <;> rfl) | (simp [*, errW_none, errW_some] <;> rfl), by repeat (first | (with_reducible first | exact HB.out | apply below_alloc | apply pw_below_drewN | apply below_drew1 | refine below_set ?_ GE293.out) | exact HB.out)⟩
          ·rw [if_neg c26] at H
           have c26b0 : (a0_2 == 0) = false := beq_eq_false_iff_ne.mpr c26
           have c26b1 : (a0_2 != 0) = true := bne_iff_ne.mpr c26
           obtain rfl := Option.some.inj H
           have hcz28_0 : wr.cell? ⟨gb293, 0, none⟩ = some (.string a0_0) := (blk_cell BK293.out 0).trans rfl
           have hcz28_1 : wr.cell? ⟨gb293, 1, none⟩ = some (.int .i64 a0_1) := (blk_cell BK293.out 1).trans rfl
           have hcz28_2 : wr.cell? ⟨gb293, 2, none⟩ = some (.int .i64 a0_2) := (blk_cell BK293.out 2).trans rfl
           have hcz28_3 : wr.cell? ⟨gb293, 3, none⟩ = some (.int .i64 a0_3) := (blk_cell BK293.out 3).trans rfl
           have hfz28_0 := blk_frozen BK293.out 0
           have hfz28_1 := blk_frozen BK293.out 1
           have hfz28_2 := blk_frozen BK293.out 2
           have hfz28_3 := blk_frozen BK293.out 3
           go_wp2
           go_ret
           exact ⟨by first | rfl | (simp [errW_none, errW_some] <;> rfl) | (simp [*, errW_none, errW_some] <;> rfl), by repeat (first | (with_reducible first | exact HB.out | apply below_alloc | apply pw_below_drewN | apply below_drew1 | refine below_set ?_ GE293.out) | exact HB.out)⟩
         ·rw [if_neg c25] at H
          have c25b0 : (a0_1 == 5) = false := beq_eq_false_iff_ne.mpr c25
          have c25b1 : (a0_1 != 5) = true := bne_iff_ne.mpr c25
          by_cases c29 : a0_1 = 1
          ·rw [if_pos c29] at H
           have c29b0 : (a0_1 == 1) = true := beq_iff_eq.mpr c29
           have c29b1 : (a0_1 != 1) = false := bne_eq_false_iff_eq.mpr c29
           clear c29
           obtain rfl := Option.some.inj H
           have hcz30_0 : wr.cell? ⟨gb293, 0, none⟩ = some (.string a0_0) := (blk_cell BK293.out 0).trans rfl
           have hcz30_1 : wr.cell? ⟨gb293, 1, none⟩ = some (.int .i64 a0_1) := (blk_cell BK293.out 1).trans rfl
           have hcz30_2 : wr.cell? ⟨gb293, 2, none⟩ = some (.int .i64 a0_2) := (blk_cell BK293.out 2).trans rfl
           have hcz30_3 : wr.cell? ⟨gb293, 3, none⟩ = some (.int .i64 a0_3) := (blk_cell BK293.out 3).trans rfl
           have hfz30_0 := blk_frozen BK293.out 0
           have hfz30_1 := blk_frozen BK293.out 1
           have hfz30_2 := blk_frozen BK293.out 2
           have hfz30_3 := blk_frozen BK293.out 3
           go_wp2
           go_ret
           exact ⟨by first | rfl | (simp [errW_none, errW_some] <;> rfl) | (simp [*, errW_none, errW_some] <;> rfl), by repeat (first | (with_reducible first | exact HB.out | apply below_alloc | apply pw_below_drewN | apply below_drew1 | refine below_set ?_ GE293.out) | exact HB.out)⟩
          ·rw [if_neg c29] at H
           have c29b0 : (a0_1 == 1) = false := beq_eq_false_iff_ne.mpr c29
           have c29b1 : (a0_1 != 1) = true := bne_iff_ne.mpr c29
           by_cases c31 : a0_1 = 2
           ·rw [if_pos c31] at H
            have c31b0 : (a0_1 == 2) = true := beq_iff_eq.mpr c31
            have c31b1 : (a0_1 != 2) = false := bne_eq_false_iff_eq.mpr c31
            clear c31
            obtain rfl := Option.some.inj H
            have hcz32_0 : wr.cell? ⟨gb293, 0, none⟩ = some (.string a0_0) := (blk_cell BK293.out 0).trans rfl
            have hcz32_1 : wr.cell? ⟨gb293, 1, none⟩ = some (.int .i64 a0_1) := (blk_cell BK293.out 1).trans rfl
            have hcz32_2 : wr.cell? ⟨gb293, 2, none⟩ = some (.int .i64 a0_2) := (blk_cell BK293.out 2).trans rfl
            have hcz32_3 : wr.cell? ⟨gb293, 3, none⟩ = some (.int .i64 a0_3) := (blk_cell BK293.out 3).trans rfl
            have hfz32_0 := blk_frozen BK293.out 0
            have hfz32_1 := blk_frozen BK293.out 1
            have hfz32_2 := blk_frozen BK293.out 2
            have hfz32_3 := blk_frozen BK293.out 3
            go_wp2
            go_ret
            exact ⟨by first | rfl | (simp [errW_none, errW_some] <;> rfl) | (simp [*, errW_none, errW_some] <;> rfl), by repeat (first | (with_reducible first | exact HB.out | apply below_alloc | apply pw_below_drewN | apply below_drew1 | refine below_set ?_ GE293.out) | exact HB.out)⟩
           ·rw [if_neg c31] at H
            have c31b0 : (a0_1 == 2) = false := beq_eq_false_iff_ne.mpr c31
            have c31b1 : (a0_1 != 2) = true := bne_iff_ne.mpr c31
            obtain rfl := Option.some.inj H
            have hcz33_0 : wr.cell? ⟨gb293, 0, none⟩ = some (.string a0_0) := (blk_cell BK293.out 0).trans rfl
            have hcz33_1 : wr.cell? ⟨gb293, 1, none⟩ = some (.int .i64 a0_1) := (blk_cell BK293.out 1).trans rfl
            have hcz33_2 : wr.cell? ⟨gb293, 2, none⟩ = some (.int .i64 a0_2) := (blk_cell BK293.out 2).trans rfl
            have hcz33_3 : wr.cell? ⟨gb293, 3, none⟩ = some (.int .i64 a0_3) := (blk_cell BK293.out 3).trans rfl
            have hfz33_0 := blk_frozen BK293.out 0
            have hfz33_1 := blk_frozen BK293.out 1
            have hfz33_2 := blk_frozen BK293.out 2
            have hfz33_3 := blk_frozen BK293.out 3
            go_wp2
            go_ret
            exact ⟨by first | rfl | (simp [errW_none, errW_some] <;> rfl) | (simp [*, errW_none, errW_some] <;> rfl), by repeat (first | (with_reducible first | exact HB.out | apply below_alloc | apply pw_below_drewN | apply below_drew1 | refine below_set ?_ GE293.out) | exact HB.out)⟩
def arlinkref06_has.l0 : Nat → List (S55) → ByteArray → Int → Option (Bool)
 | 0, _, _, _ => none
 | k + 1, x0, x1, x5 => if x5 < (x0.length : Int) then (if 0 ≤ x5 then (if ((rd_T55 x0 x5).f0).toList = x1.toList then (some true) else (arlinkref06_has.l0 k x0 x1 (wrap64 (x5 + 1)))) else (none)) else (some false)
def arlinkref06_has.f (k : Nat) (l0 : List (S55)) (a1 : ByteArray) : Option (Bool) := arlinkref06_has.l0 k l0 a1 0
set_option maxHeartbeats 8000000 in
set_option maxRecDepth 100000 in
theorem arlinkref06_has.calls (k : Nat) (A0 : Option Addr) (c0 : Nat) (l0 : List (S55)) (a1 : ByteArray) (r : Bool) (w : World) (hr0 : Kd.C k55 w A0 l0.length l0) (hc0 : l0.length ≤ c0) (h : arlinkref06_has.f k l0 a1 = some r) :
  Calls Try.prog 65 #[.slice A0 l0.length c0, .string a1] w fun e w' => e = .returned (.bool r) ∧ Drawn0 w w' := by
 have HR0 := Aside0.mk hr0
 have HC0 := Aside0.mk hc0
 clear hr0 hc0
 have H : (arlinkref06_has.l0 k l0 a1 0) = some r := h
 clear h
 have H' := Aside0.mk H
 clear H
 go_enter Try.func65, Try.ntmps65
 go_wp2
 go_loopg [5] k (fun kq v5 w' => ∃ (x5_1 : Int), v5 = .int .i64 x5_1 ∧ Aside0 (arlinkref06_has.l0 kq l0 a1 x5_1 = some r) ∧ Aside0 (kq ≤ k) ∧ Drawn0 w w')
 case atStart => exact ⟨(0), (by first | rfl | (simp; done) | (simp [*]; done)), H', ⟨Nat.le_refl _⟩, by repeat (first | exact Drawn0.refl _ | apply Drawn0.step)⟩
 case round =>
  clear H'
  try clear p2
  obtain ⟨x5_1, rfl, HA, HK1, ⟨m1, rfl⟩⟩ := hrel
  cases gk with
  | zero => exact absurd HA.out (by simp [arlinkref06_has.l0])
  | succ k1 =>
   have H := HA.out
   clear HA
   simp only [arlinkref06_has.l0] at H
   by_cases c3 : x5_1 < (l0.length : Int)
   ·rw [if_pos c3] at H
    have c3b0 : decide (x5_1 < (l0.length : Int)) = true := decide_eq_true c3
    clear c3
    by_cases c4 : 0 ≤ x5_1
    ·rw [if_pos c4] at H
     have c4b0 : decide (0 ≤ x5_1) = true := decide_eq_true c4
     clear c4
     by_cases c5 : ((rd_T55 l0 x5_1).f0).toList = a1.toList
     ·rw [if_pos c5] at H
      have c5b0 : (((rd_T55 l0 x5_1).f0).toList == a1.toList) = true := beq_iff_eq.mpr c5
      have c5b1 : (((rd_T55 l0 x5_1).f0).toList != a1.toList) = false := bne_eq_false_iff_eq.mpr c5
      clear c5
      obtain rfl := Option.some.inj H
      have p295 : 0 ≤ (x5_1 : Int) := of_decide_eq_true (by first | (with_reducible assumption) | assumption)
      have q295 : x5_1 < (l0.length : Int) := of_decide_eq_true (by first | (with_reducible assumption) | assumption)
      obtain ⟨ad295, e295, hx295_0, hx295_1, hx295_2, hx295_3⟩ := at_T55 HR0.out x5_1 p295 q295
      cases e295
      replace p295 := eq_true p295
      replace q295 := eq_true q295
      go_wp2
      go_ret
      exact ⟨by first | rfl | (simp; done) | (simp [*]; done), by repeat (first | exact Drawn0.refl _ | apply Drawn0.step)⟩
     ·rw [if_neg c5] at H
      have c5b0 : (((rd_T55 l0 x5_1).f0).toList == a1.toList) = false := beq_eq_false_iff_ne.mpr c5
      have c5b1 : (((rd_T55 l0 x5_1).f0).toList != a1.toList) = true := bne_iff_ne.mpr c5
      have H' := Aside0.mk H
      clear H
      have p295 : 0 ≤ (x5_1 : Int) := of_decide_eq_true (by first | (with_reducible assumption) | assumption)
      have q295 : x5_1 < (l0.length : Int) := of_decide_eq_true (by first | (with_reducible assumption) | assumption)
      obtain ⟨ad295, e295, hx295_0, hx295_1, hx295_2, hx295_3⟩ := at_T55 HR0.out x5_1 p295 q295
      cases e295
      replace p295 := eq_true p295
      replace q295 := eq_true q295
      go_wp2
      go_roundg k1
      case measure => have := HK1.out; omega
      case rel => exact ⟨(wrap64 (x5_1 + 1)), (by first | rfl | (simp; done) | (simp [*]; done)), H', ⟨by have := HK1.out; omega⟩, by repeat (first | exact Drawn0.refl _ | apply Drawn0.step)⟩
    ·rw [if_neg c4] at H
     exact absurd H (by simp)
   ·rw [if_neg c3] at H
    have c3b0 : decide (x5_1 < (l0.length : Int)) = false := decide_eq_false c3
    clear c3
    obtain rfl := Option.some.inj H
    go_wp2
    go_ret
    exact ⟨by first | rfl | (simp; done) | (simp [*]; done), by repeat (first | exact Drawn0.refl _ | apply Drawn0.step)⟩
end Go.Proofs.Ythpjpkcfepmhkaa.PAll
namespace Go.Proofs.Ythpjpkcfepmhkaa.PAll
open Go.RowKit Go.Proofs.YthpjpkcfepmhkaaW.PrintWords Go.Proofs.YthpjpkcfepmhkaaW.PrintLast Go.Proofs.YthpjpkcfepmhkaaW.PrintMore
attribute [local go_sem] max2_int min2_int max_two min_two max_three min_three max_four min_four   -- for this text's walks alone
set_option linter.unusedVariables false
set_option linter.unusedSimpArgs false
def arlinkref06_Valid.l0 : Nat → Int → List (S55) → List Int → Option (Bool)
 | 0, _, _, _ => none
 | k + 1, x3, x297000, x297001 => if x3 < (x297000.length : Int) then (if 0 ≤ x3 then ((arlinkref06_Sym.f k ((rd_T55 x297000 x3).f0) ((rd_T55 x297000 x3).f1) ((rd_T55 x297000 x3).f2) ((rd_T55 x297000 x3).f3)).bind fun t298 => (if t298 = true then (if x3 ≤ (x297000.length : Int) then ((arlinkref06_has.f k (x297000.take (x3 : Int).toNat) ((rd_T55 x297000 x3).f0)).bind fun t304 => (if t304 = true then (some false) else (arlinkref06_Valid.l0 k (wrap64 (x3 + 1)) x297000 x297001))) else (none)) else (some false))) else (none)) else (some (decide ((x297000.length : Int) ≤ 65536)))
def arlinkref06_Valid.f (k : Nat) (l0_0 : List (S55)) (l0_1 : List Int) : Option (Bool) := arlinkref06_Valid.l0 k 0 l0_0 l0_1
def arlinkref06_Valid.T4 : Bool × List (List Nat × List Nat) := (true, [([], []), ([0], [0]), ([], []), ([1, 2], [1, 2]), ([3], [3]), ([4], [4]), ([5], [5]), ([6, 5], [6]), ([7], [7]), ([8, 7], [7, 8]), ([7], [7]), ([9, 10, 7], [7, 9, 10]), ([7], [7]), ([12, 7], [7, 12]), ([7], [7]), ([13, 14, 7], [7, 13, 14]), ([15, 7], [7, 15]), ([16, 7], [7, 16]), ([11, 17, 7, 7], [7, 11, 17]), ([7, 18], [7, 18])])
def arlinkref06_Valid.B4 : List Nat := [0, 1, 0, 7, 15, 31, 63, 127, 255, 511, 255, 2047, 255, 4351, 255, 28927, 61695, 127231, 262143, 524287]
theorem arlinkref06_Valid.tab4 : rtab .any (opsOf Try.f48 4) = arlinkref06_Valid.T4 := by kernel_rfl
theorem arlinkref06_Valid.bits4 : waitsOk arlinkref06_Valid.T4.2 arlinkref06_Valid.B4 = true := by kernel_rfl
set_option maxHeartbeats 8000000 in
set_option maxRecDepth 100000 in
theorem arlinkref06_Valid.calls (k : Nat) (A0_0 : Option Addr) (c0_0 : Nat) (l0_0 : List (S55)) (A0_1 : Option Addr) (c0_1 : Nat) (l0_1 : List Int) (r : Bool) (w : World) (hr0_0 : Kd.C k55 w A0_0 l0_0.length l0_0) (hc0_0 : l0_0.length ≤ c0_0) (hr0_1 : Kd.C (Kd.int .u8) w A0_1 l0_1.length l0_1) (hc0_1 : l0_1.length ≤ c0_1) (h : arlinkref06_Valid.f k l0_0 l0_1 = some r) :
  Calls Try.prog 48 #[.agg #[.slice A0_0 l0_0.length c0_0, .slice A0_1 l0_1.length c0_1]] w fun e w' => e = .returned (.bool r) ∧ Below w.heap.size w w' := by
 have hu50 := Try.underlying50
 have hu55 := Try.underlying55
 have HR0_0 := Aside0.mk hr0_0
 have HC0_0 := Aside0.mk hc0_0
 clear hr0_0 hc0_0
 have HR0_1 := Aside0.mk hr0_1
 have HC0_1 := Aside0.mk hc0_1
 clear hr0_1 hc0_1
 have HB := Aside0.mk (Below.refl w.heap.size w)
 have H : (arlinkref06_Valid.l0 k 0 l0_0 l0_1) = some r := h
 clear h
 have H' := Aside0.mk H
 clear H
 go_enter Try.func48, Try.ntmps48
 go_wp2_with (first | ((with_reducible refine gate_dst (N := 1) rfl ?_); refine box_event ?hg (N := 1) ?hd (cs := #[.slice A0_0 l0_0.length c0_0, .slice A0_1 l0_1.length c0_1]) (t := 50) ?hr ?_; (case hd => rfl); (case hg => rfl); (case hr => first | (go_simp; done) | (go_simp; rfl)); intro gb296 hg w2 hbox hb; have n0_ := Aside0.mk (below_step (by repeat (first | (with_reducible first | exact HB.out | apply below_alloc | apply pw_below_drewN | apply below_drew1) | exact HB.out)) hb); have n1_ := Aside0.mk (hbox); have n2_ := Aside0.mk ((by rw [hg]; exact (below_size (by repeat (first | (with_reducible first | exact HB.out | apply below_alloc | apply pw_below_drewN | apply below_drew1) | exact HB.out))) : w.heap.size ≤ gb296)); have n3_ := Aside0.mk ((by rw [hg]; exact (below_size (by repeat (first | (with_reducible first | exact HB.out | apply below_alloc | apply pw_below_drewN | apply below_drew1) | exact HB.out))) : w.heap.size ≤ gb296)); clear HB; have HB := n0_; have BK296 := n1_; have GW296 := n2_; have GE296 := n3_; clear n0_ n1_ n2_ n3_; clear hb hbox hg))
 go_loopg [3] k (fun kq v3 w' => ∃ (x3_1 : Int), v3 = .int .i64 x3_1 ∧ Aside0 (arlinkref06_Valid.l0 kq x3_1 l0_0 l0_1 = some r) ∧ Aside0 (kq ≤ k) ∧ Aside0 (w'.heap[gb296]? = some (.cells #[(.slice A0_0 l0_0.length c0_0), (.slice A0_1 l0_1.length c0_1)] 50 (0, 0))) ∧ Aside0 (Below w.heap.size w w'))
 case atStart => exact ⟨(0), (by first | rfl | (simp; done) | (simp [*]; done)), H', ⟨Nat.le_refl _⟩, ⟨by (with_reducible repeat (first | refine blk_drewN ?_ _ | refine blk_drew ?_ | refine blk_alloc ?_ _)); exact BK296.out⟩, ⟨by repeat (first | (with_reducible first | exact HB.out | apply below_alloc | apply pw_below_drewN | apply below_drew1 | refine below_set ?_ GE296.out) | exact HB.out)⟩⟩
 case round =>
  clear H'
  try clear p2
  obtain ⟨x3_1, rfl, HA, HK1, BK296, HB⟩ := hrel
  cases gk with
  | zero => exact absurd HA.out (by simp [arlinkref06_Valid.l0])
  | succ k1 =>
   have H := HA.out
   clear HA
   simp only [arlinkref06_Valid.l0] at H
   by_cases c3 : x3_1 < (l0_0.length : Int)
   ·rw [if_pos c3] at H
    have c3b0 : decide (x3_1 < (l0_0.length : Int)) = true := decide_eq_true c3
    clear c3
    by_cases c4 : 0 ≤ x3_1
    ·rw [if_pos c4] at H
     have c4b0 : decide (0 ≤ x3_1) = true := decide_eq_true c4
     clear c4
     replace H := Option.bind_eq_some_iff.mp H
     obtain ⟨t298, A50, H⟩ := H
     replace H : (if t298 = true then (if x3_1 ≤ (l0_0.length : Int) then ((arlinkref06_has.f k1 (l0_0.take (x3_1 : Int).toNat) ((rd_T55 l0_0 x3_1).f0)).bind fun t304 => (if t304 = true then (some false) else (arlinkref06_Valid.l0 k1 (wrap64 (x3_1 + 1)) l0_0 l0_1))) else (none)) else (some false)) = some r := H
     have A5 := Aside0.mk A50
     clear A50
     by_cases c6 : t298 = true
     ·subst c6
      have H1 : (if x3_1 ≤ (l0_0.length : Int) then ((arlinkref06_has.f k1 (l0_0.take (x3_1 : Int).toNat) ((rd_T55 l0_0 x3_1).f0)).bind fun t304 => (if t304 = true then (some false) else (arlinkref06_Valid.l0 k1 (wrap64 (x3_1 + 1)) l0_0 l0_1))) else (none)) = some r := by rw [if_pos rfl] at H; exact H
      clear H
      have H := H1
      clear H1
      have c7b0 := eq_true (of_decide_eq_true (by first | (with_reducible assumption) | assumption) : 0 ≤ x3_1)
      by_cases c8 : x3_1 ≤ (l0_0.length : Int)
      ·rw [if_pos c8] at H
       have c8b0 := eq_true c8
       have c8b1 : decide (x3_1 ≤ (l0_0.length : Int)) = true := decide_eq_true c8
       clear c8
       obtain ⟨y299, hy299⟩ : ∃ y_ : List (S55), y_ = (l0_0.take (x3_1 : Int).toNat) := ⟨_, rfl⟩
       replace H : ((arlinkref06_has.f k1 y299 ((rd_T55 l0_0 x3_1).f0)).bind fun t304 => (if t304 = true then (some false) else (arlinkref06_Valid.l0 k1 (wrap64 (x3_1 + 1)) l0_0 l0_1))) = some r := by first | (rw [hy299]; with_reducible exact H) | (have H2_ := (Option.bind_some _ _).symm.trans H; rw [hy299]; with_reducible exact H2_) | (have H2_ := (Option.bind_some _ _).symm.trans H; with_reducible exact H2_) | with_reducible exact H | (rw [hy299]; exact H) | exact H
       have Ny299 := Aside0.mk hy299
       clear hy299
       replace H := Option.bind_eq_some_iff.mp H
       obtain ⟨t304, A90, H⟩ := H
       replace H : (if t304 = true then (some false) else (arlinkref06_Valid.l0 k1 (wrap64 (x3_1 + 1)) l0_0 l0_1)) = some r := H
       have A9 := Aside0.mk A90
       clear A90
       by_cases c10 : t304 = true
       ·subst c10
        have H1 : (some false) = some r := by rw [if_pos rfl] at H; exact H
        clear H
        have H := H1
        clear H1
        obtain rfl := Option.some.inj H
        have hcz11_0 : wr.cell? ⟨gb296, 0, none⟩ = some (.slice A0_0 l0_0.length c0_0) := (blk_cell BK296.out 0).trans rfl
        have hcz11_1 : wr.cell? ⟨gb296, 1, none⟩ = some (.slice A0_1 l0_1.length c0_1) := (blk_cell BK296.out 1).trans rfl
        have hfz11_0 := blk_frozen BK296.out 0
        have hfz11_1 := blk_frozen BK296.out 1
        try go_wp2
        have n0_ := Aside0.mk (blk_drew BK296.out)
        have n1_ := Aside0.mk (below_drew1 HB.out)
        clear BK296
        clear HB
        have BK296 := n0_
        have HB := n1_
        clear n0_ n1_
        have p297 : 0 ≤ (x3_1 : Int) := of_decide_eq_true (by first | (with_reducible assumption) | assumption)
        have q297 : x3_1 < (l0_0.length : Int) := of_decide_eq_true (by first | (with_reducible assumption) | assumption)
        obtain ⟨ad297, e297, hx297_0, hx297_1, hx297_2, hx297_3⟩ := at_T55 HR0_0.out x3_1 p297 q297
        have hw297_3 := hx297_3
        have hw297_2 := hx297_2
        have hw297_1 := hx297_1
        have hw297_0 := hx297_0
        cases e297
        replace hx297_0 := (HB.out.cell (World.block_lt_of_cell? w _ hx297_0)).trans hx297_0
        replace hx297_1 := (HB.out.cell (World.block_lt_of_cell? w _ hx297_1)).trans hx297_1
        replace hx297_2 := (HB.out.cell (World.block_lt_of_cell? w _ hx297_2)).trans hx297_2
        replace hx297_3 := (HB.out.cell (World.block_lt_of_cell? w _ hx297_3)).trans hx297_3
        replace p297 := eq_true p297
        replace q297 := eq_true q297
        have p303 : 0 ≤ (x3_1 : Int) := of_decide_eq_true (by first | (with_reducible assumption) | assumption)
        have q303 : x3_1 < (l0_0.length : Int) := of_decide_eq_true (by first | (with_reducible assumption) | assumption)
        obtain ⟨ad303, e303, hx303_0, hx303_1, hx303_2, hx303_3⟩ := at_T55 HR0_0.out x3_1 p303 q303
        have hw303_3 := hx303_3
        have hw303_2 := hx303_2
        have hw303_1 := hx303_1
        have hw303_0 := hx303_0
        obtain rfl : ad297 = ad303 := (by injection e303)
        replace hx303_0 := (HB.out.cell (World.block_lt_of_cell? w _ hx303_0)).trans hx303_0
        replace hx303_1 := (HB.out.cell (World.block_lt_of_cell? w _ hx303_1)).trans hx303_1
        replace hx303_2 := (HB.out.cell (World.block_lt_of_cell? w _ hx303_2)).trans hx303_2
        replace hx303_3 := (HB.out.cell (World.block_lt_of_cell? w _ hx303_3)).trans hx303_3
        replace p303 := eq_true p303
        replace q303 := eq_true q303
        refine start_ (n := 20) (S := fun w' => w'.cell? ⟨gb296, 0, none⟩ = some (.slice (some ad297) l0_0.length c0_0) ∧ w'.cell? ⟨gb296, 1, none⟩ = some (.slice A0_1 l0_1.length c0_1) ∧ w'.cell? (ad297.add ((x3_1).toNat * 4)) = some (.string ((rd_T55 l0_0 x3_1).f0)) ∧ w'.cell? ⟨(ad297.add ((x3_1).toNat * 4)).block, (ad297.add ((x3_1).toNat * 4)).off + 1, none⟩ = some (.int .i64 ((rd_T55 l0_0 x3_1).f1)) ∧ w'.cell? ⟨(ad297.add ((x3_1).toNat * 4)).block, (ad297.add ((x3_1).toNat * 4)).off + 2, none⟩ = some (.int .i64 ((rd_T55 l0_0 x3_1).f2)) ∧ w'.cell? ⟨(ad297.add ((x3_1).toNat * 4)).block, (ad297.add ((x3_1).toNat * 4)).off + 3, none⟩ = some (.int .i64 ((rd_T55 l0_0 x3_1).f3)) ∧ w'.cell? (ad297.add ((x3_1).toNat * 4)) = some (.string ((rd_T55 l0_0 x3_1).f0)) ∧ w'.cell? ⟨(ad297.add ((x3_1).toNat * 4)).block, (ad297.add ((x3_1).toNat * 4)).off + 1, none⟩ = some (.int .i64 ((rd_T55 l0_0 x3_1).f1)) ∧ w'.cell? ⟨(ad297.add ((x3_1).toNat * 4)).block, (ad297.add ((x3_1).toNat * 4)).off + 2, none⟩ = some (.int .i64 ((rd_T55 l0_0 x3_1).f2)) ∧ w'.cell? ⟨(ad297.add ((x3_1).toNat * 4)).block, (ad297.add ((x3_1).toNat * 4)).off + 3, none⟩ = some (.int .i64 ((rd_T55 l0_0 x3_1).f3))) (ds := []) #[false, false, false, false, false, false, false, false, false, false, false, false, false, false, false, false, false, false, false, false] (by kernel_rfl) rfl rfl ⟨(blk_cell BK296.out 0).trans rfl, (blk_cell BK296.out 1).trans rfl, ((HB.out.cell (World.block_lt_of_cell? w _ hw297_0)).trans hw297_0), ((HB.out.cell (World.block_lt_of_cell? w _ hw297_1)).trans hw297_1), ((HB.out.cell (World.block_lt_of_cell? w _ hw297_2)).trans hw297_2), ((HB.out.cell (World.block_lt_of_cell? w _ hw297_3)).trans hw297_3), ((HB.out.cell (World.block_lt_of_cell? w _ hw303_0)).trans hw303_0), ((HB.out.cell (World.block_lt_of_cell? w _ hw303_1)).trans hw303_1), ((HB.out.cell (World.block_lt_of_cell? w _ hw303_2)).trans hw303_2), ((HB.out.cell (World.block_lt_of_cell? w _ hw303_3)).trans hw303_3)⟩ (fun hHeld => ?_); refine with_tabW arlinkref06_Valid.tab4 arlinkref06_Valid.bits4 (fun HT_ HW_ => ?_)
        generalize wr.drew = w12 at BK296 HB hx297_0 hx297_1 hx297_2 hx297_3 hx303_0 hx303_1 hx303_2 hx303_3 hHeld ⊢
        refine pure_ (i := 0) (N := some 11) (v := ?_) (a' := ?_) #[true, false, false, false, false, false, false, false, false, false, false, false, false, false, false, false, false, false, false, false] rfl rfl (any_of HT_.out (by kernel_rfl)) (fun _ _ _ h => h) (Or.inl ⟨by rfl, ?_⟩) ?_ ?_
        rotate_left
        ·intro w'
         go_simp
         with_reducible rfl
        rotate_left
        ·simp only [Act.put, List.setIfInBounds_toArray, List.set_cons_zero, List.set_cons_succ, i64_w, i32_w]
         rfl
        refine pure_ (i := 2) (N := some 13) (v := ?_) (a' := ?_) #[true, false, true, false, false, false, false, false, false, false, false, false, false, false, false, false, false, false, false, false] rfl rfl (any_of HT_.out (by kernel_rfl)) (fun _ _ _ h => h) (Or.inl ⟨by rfl, ?_⟩) ?_ ?_
        rotate_left
        ·intro w'
         go_simp
         with_reducible rfl
        rotate_left
        ·simp only [Act.put, List.setIfInBounds_toArray, List.set_cons_zero, List.set_cons_succ, i64_w, i32_w]
         rfl
        refine take_ (i := 1) (N := some 12) (v := ?_) (a' := ?_) #[true, true, true, false, false, false, false, false, false, false, false, false, false, false, false, false, false, false, false, false] rfl rfl (take_ofW HT_.out HW_.out (by kernel_rfl)) (fun _ _ _ h => h) (Or.inl ⟨by rfl, ?_⟩) hHeld ?_ ?_
        rotate_left
        ·rintro w' ⟨s0, s1, s2, s3, s4, s5, s6, s7, s8, s9⟩
         go_simp
         with_reducible rfl
        rotate_left
        ·simp only [Act.put, List.setIfInBounds_toArray, List.set_cons_zero, List.set_cons_succ, i64_w, i32_w]
         rfl
        refine pure_ (i := 3) (N := some 14) (v := ?_) (a' := ?_) #[true, true, true, true, false, false, false, false, false, false, false, false, false, false, false, false, false, false, false, false] rfl rfl (any_of HT_.out (by kernel_rfl)) (fun _ _ _ h => h) (Or.inl ⟨by rfl, ?_⟩) ?_ ?_
        rotate_left
        ·intro w'
         go_simp
         with_reducible rfl
        rotate_left
        ·simp only [Act.put, List.setIfInBounds_toArray, List.set_cons_zero, List.set_cons_succ, i64_w, i32_w]
         rfl
        refine take_ (i := 4) (N := some 15) (v := ?_) (a' := ?_) #[true, true, true, true, true, false, false, false, false, false, false, false, false, false, false, false, false, false, false, false] rfl rfl (take_ofW HT_.out HW_.out (by kernel_rfl)) (fun _ _ _ h => h) (Or.inl ⟨by rfl, ?_⟩) hHeld ?_ ?_
        rotate_left
        ·rintro w' ⟨s0, s1, s2, s3, s4, s5, s6, s7, s8, s9⟩
         go_simp
         with_reducible rfl
        rotate_left
        ·simp only [Act.put, List.setIfInBounds_toArray, List.set_cons_zero, List.set_cons_succ, i64_w, i32_w]
         rfl
        refine one_ (i := 5) (N := some 16) #[true, true, true, true, true, true, false, false, false, false, false, false, false, false, false, false, false, false, false, false] rfl rfl (one_of HT_.out (by kernel_rfl)) (by decide) (fun K hK => ?_)
        refine goes_ Try.func64 (by kernel_rfl) rfl #[.agg #[.string ((rd_T55 l0_0 x3_1).f0), .int .i64 ((rd_T55 l0_0 x3_1).f1), .int .i64 ((rd_T55 l0_0 x3_1).f2), .int .i64 ((rd_T55 l0_0 x3_1).f3)]] (by rfl) rfl rfl (by (try simp only [List.map_toArray, List.map_cons, List.map_nil]); first | done | rfl | (simp only [List.length_drop, List.length_take]; rfl)) ?_
        with_reducible refine (arlinkref06_Sym.calls k1 ((rd_T55 l0_0 x3_1).f0) ((rd_T55 l0_0 x3_1).f1) ((rd_T55 l0_0 x3_1).f2) ((rd_T55 l0_0 x3_1).f3) true _ A5.out).mono ?_
        rintro e w13 ⟨rfl, hb⟩
        refine ⟨_, rfl, ?_⟩
        have n0_ := Aside0.mk (blk_below (g := gb296) (o := .cells #[.slice (some ad297) l0_0.length c0_0, .slice A0_1 l0_1.length c0_1] 50 (0, 0)) (by (with_reducible repeat (first | refine blk_drewN ?_ _ | refine blk_drew ?_ | refine blk_alloc ?_ _)); exact BK296.out) hb)
        have n1_ := Aside0.mk (below_step (by repeat (first | (with_reducible first | exact HB.out | apply below_alloc | apply pw_below_drewN | apply below_drew1 | refine below_set ?_ GE296.out) | exact HB.out)) hb)
        clear BK296
        clear HB
        have BK296 := n0_
        have HB := n1_
        clear n0_ n1_
        (try clear hb)
        (try clear hb2)
        (try clear hk)
        (try clear hi)
        have q14 : (x3_1 : Int) ≤ ((l0_0.length : Int) : Int) := of_decide_eq_true (by first | (with_reducible assumption) | assumption)
        obtain ⟨i014, hi014, _, hsz14, _⟩ := info_parts info55
        have hroom14 : l0_0.length ≤ c0_0 := HC0_0.out
        have hC14 : Kd.C k55 _ (some ad297) l0_0.length l0_0 := HR0_0.out
        have hcut14 := cut_to (P := Try.prog) 47 55 .i64 Try.underlying47 hi014 (some ad297) l0_0.length c0_0 x3_1 (of_decide_eq_true (by first | (with_reducible assumption) | assumption)) q14 hroom14
        have hr14 := Kd.C_take (m := (x3_1 : Int).toNat) hC14 (by omega)
        have hy14 : y299.length = (x3_1 : Int).toNat := (by rw [Ny299.out, List.length_take]; omega)
        rw [← Ny299.out] at hr14
        rw [← hy14] at hcut14
        have HR302 := Aside0.mk hr14
        have HC302 := Aside0.mk (show y299.length ≤ c0_0 from by omega)
        clear hr14 hC14 hroom14 hi014 hsz14
        have KY14 := Aside0.mk hy14
        clear hy14
        replace q14 := eq_true q14
        refine hK.out _ _ ⟨(blk_cell BK296.out 0).trans rfl, (blk_cell BK296.out 1).trans rfl, ((HB.out.cell (World.block_lt_of_cell? w _ hw297_0)).trans hw297_0), ((HB.out.cell (World.block_lt_of_cell? w _ hw297_1)).trans hw297_1), ((HB.out.cell (World.block_lt_of_cell? w _ hw297_2)).trans hw297_2), ((HB.out.cell (World.block_lt_of_cell? w _ hw297_3)).trans hw297_3), ((HB.out.cell (World.block_lt_of_cell? w _ hw303_0)).trans hw303_0), ((HB.out.cell (World.block_lt_of_cell? w _ hw303_1)).trans hw303_1), ((HB.out.cell (World.block_lt_of_cell? w _ hw303_2)).trans hw303_2), ((HB.out.cell (World.block_lt_of_cell? w _ hw303_3)).trans hw303_3)⟩ (fun hHeld => ?_)
        clear hK K
        refine norm_ (a' := ?_) ?_ ?_
        rotate_left
        ·show Act.put _ (some 16) _ = _
         simp only [Act.put, List.setIfInBounds_toArray, List.set_cons_zero, List.set_cons_succ, i64_w, i32_w]
         rfl
        refine pure_ (i := 6) (N := some 17) (v := ?_) (a' := ?_) #[true, true, true, true, true, true, true, false, false, false, false, false, false, false, false, false, false, false, false, false] rfl rfl (any_of HT_.out (by kernel_rfl)) (fun _ _ _ h => h) (Or.inl ⟨by rfl, ?_⟩) ?_ ?_
        rotate_left
        ·intro w'
         go_simp
         with_reducible rfl
        rotate_left
        ·simp only [Act.put, List.setIfInBounds_toArray, List.set_cons_zero, List.set_cons_succ, i64_w, i32_w]
         rfl
        refine pure_ (i := 7) (N := some 18) (v := ?_) (a' := ?_) #[true, true, true, true, true, true, true, true, false, false, false, false, false, false, false, false, false, false, false, false] rfl rfl (any_of HT_.out (by kernel_rfl)) (fun _ _ _ h => h) (Or.inl ⟨by rfl, ?_⟩) ?_ ?_
        rotate_left
        ·intro w'
         go_simp
         with_reducible rfl
        rotate_left
        ·simp only [Act.put, List.setIfInBounds_toArray, List.set_cons_zero, List.set_cons_succ, i64_w, i32_w]
         rfl
        refine pure_ (i := 8) (N := some 19) (v := ?_) (a' := ?_) #[true, true, true, true, true, true, true, true, true, false, false, false, false, false, false, false, false, false, false, false] rfl rfl (any_of HT_.out (by kernel_rfl)) (fun _ _ _ h => h) (Or.inl ⟨by rfl, ?_⟩) ?_ ?_
        rotate_left
        ·intro w'
         go_simp
         with_reducible rfl
        rotate_left
        ·simp only [Act.put, List.setIfInBounds_toArray, List.set_cons_zero, List.set_cons_succ, i64_w, i32_w]
         rfl
        refine pure_ (i := 10) (N := some 21) (v := ?_) (a' := ?_) #[true, true, true, true, true, true, true, true, true, false, true, false, false, false, false, false, false, false, false, false] rfl rfl (any_of HT_.out (by kernel_rfl)) (fun _ _ _ h => h) (Or.inl ⟨by rfl, ?_⟩) ?_ ?_
        rotate_left
        ·intro w'
         go_simp
         with_reducible rfl
        rotate_left
        ·simp only [Act.put, List.setIfInBounds_toArray, List.set_cons_zero, List.set_cons_succ, i64_w, i32_w]
         rfl
        refine pure_ (i := 12) (N := some 23) (v := ?_) (a' := ?_) #[true, true, true, true, true, true, true, true, true, false, true, false, true, false, false, false, false, false, false, false] rfl rfl (any_of HT_.out (by kernel_rfl)) (fun _ _ _ h => h) (Or.inl ⟨by rfl, ?_⟩) ?_ ?_
        rotate_left
        ·intro w'
         go_simp
         with_reducible rfl
        rotate_left
        ·simp only [Act.put, List.setIfInBounds_toArray, List.set_cons_zero, List.set_cons_succ, i64_w, i32_w]
         rfl
        refine pure_ (i := 14) (N := some 25) (v := ?_) (a' := ?_) #[true, true, true, true, true, true, true, true, true, false, true, false, true, false, true, false, false, false, false, false] rfl rfl (any_of HT_.out (by kernel_rfl)) (fun _ _ _ h => h) (Or.inl ⟨by rfl, ?_⟩) ?_ ?_
        rotate_left
        ·intro w'
         go_simp
         with_reducible rfl
        rotate_left
        ·simp only [Act.put, List.setIfInBounds_toArray, List.set_cons_zero, List.set_cons_succ, i64_w, i32_w]
         rfl
        refine take_ (i := 9) (N := some 20) (v := ?_) (a' := ?_) #[true, true, true, true, true, true, true, true, true, true, true, false, true, false, true, false, false, false, false, false] rfl rfl (take_ofW HT_.out HW_.out (by kernel_rfl)) (fun _ _ _ h => h) (Or.inl ⟨by rfl, ?_⟩) hHeld ?_ ?_
        rotate_left
        ·rintro w' ⟨s0, s1, s2, s3, s4, s5, s6, s7, s8, s9⟩
         go_simp
         with_reducible rfl
        rotate_left
        ·simp only [Act.put, List.setIfInBounds_toArray, List.set_cons_zero, List.set_cons_succ, i64_w, i32_w]
         rfl
        refine pure_ (i := 11) (N := some 22) (v := ?_) (a' := ?_) #[true, true, true, true, true, true, true, true, true, true, true, true, true, false, true, false, false, false, false, false] rfl rfl (any_of HT_.out (by kernel_rfl)) (fun _ _ _ h => h) (Or.inl ⟨by rfl, ?_⟩) ?_ ?_
        rotate_left
        ·intro w'
         go_simp
         with_reducible rfl
        rotate_left
        ·simp only [Act.put, List.setIfInBounds_toArray, List.set_cons_zero, List.set_cons_succ, i64_w, i32_w]
         rfl
        refine take_ (i := 13) (N := some 24) (v := ?_) (a' := ?_) #[true, true, true, true, true, true, true, true, true, true, true, true, true, true, true, false, false, false, false, false] rfl rfl (take_ofW HT_.out HW_.out (by kernel_rfl)) (fun _ _ _ h => h) (Or.inl ⟨by rfl, ?_⟩) hHeld ?_ ?_
        rotate_left
        ·rintro w' ⟨s0, s1, s2, s3, s4, s5, s6, s7, s8, s9⟩
         go_simp
         with_reducible rfl
        rotate_left
        ·simp only [Act.put, List.setIfInBounds_toArray, List.set_cons_zero, List.set_cons_succ, i64_w, i32_w]
         rfl
        refine pure_ (i := 15) (N := some 26) (v := ?_) (a' := ?_) #[true, true, true, true, true, true, true, true, true, true, true, true, true, true, true, true, false, false, false, false] rfl rfl (any_of HT_.out (by kernel_rfl)) (fun _ _ _ h => h) (Or.inl ⟨by rfl, ?_⟩) ?_ ?_
        rotate_left
        ·intro w'
         go_simp
         with_reducible rfl
        rotate_left
        ·simp only [Act.put, List.setIfInBounds_toArray, List.set_cons_zero, List.set_cons_succ, i64_w, i32_w]
         rfl
        refine pure_ (i := 16) (N := some 27) (v := ?_) (a' := ?_) #[true, true, true, true, true, true, true, true, true, true, true, true, true, true, true, true, true, false, false, false] rfl rfl (any_of HT_.out (by kernel_rfl)) (fun _ _ _ h => h) (Or.inl ⟨by rfl, ?_⟩) ?_ ?_
        rotate_left
        ·intro w'
         go_simp
         with_reducible rfl
        rotate_left
        ·simp only [Act.put, List.setIfInBounds_toArray, List.set_cons_zero, List.set_cons_succ, i64_w, i32_w]
         rfl
        refine take_ (i := 17) (N := some 28) (v := ?_) (a' := ?_) #[true, true, true, true, true, true, true, true, true, true, true, true, true, true, true, true, true, true, false, false] rfl rfl (take_ofW HT_.out HW_.out (by kernel_rfl)) (fun _ _ _ h => h) (Or.inl ⟨by rfl, ?_⟩) hHeld ?_ ?_
        rotate_left
        ·rintro w' ⟨s0, s1, s2, s3, s4, s5, s6, s7, s8, s9⟩
         go_simp
         with_reducible rfl
        rotate_left
        ·simp only [Act.put, List.setIfInBounds_toArray, List.set_cons_zero, List.set_cons_succ, i64_w, i32_w]
         rfl
        refine one_ (i := 18) (N := some 29) #[true, true, true, true, true, true, true, true, true, true, true, true, true, true, true, true, true, true, true, false] rfl rfl (one_of HT_.out (by kernel_rfl)) (by decide) (fun K hK => ?_)
        refine goes_ Try.func65 (by kernel_rfl) rfl #[.slice (some ad297) y299.length c0_0, .string ((rd_T55 l0_0 x3_1).f0)] (by rfl) rfl rfl (by (try simp only [List.map_toArray, List.map_cons, List.map_nil]); first | done | rfl | (simp only [List.length_drop, List.length_take]; rfl)) ?_
        with_reducible refine (arlinkref06_has.calls k1 _ _ y299 ((rd_T55 l0_0 x3_1).f0) true _ ?side1 ?side2 A9.out).mono ?_
        (case side1 => repeat (first | exact (Kd.C_below HR302.out HB.out) | (with_reducible refine Kd.C_alloc ?_ _) | (with_reducible refine Kd.C_drewN ?_ _) | (with_reducible refine Kd.C_drew ?_)))
        (case side2 => exact HC302.out)
        rintro e w' ⟨rfl, ⟨nd, rfl⟩⟩
        refine ⟨_, rfl, ?_⟩
        refine hK.out _ _ ⟨(blk_cell BK296.out 0).trans rfl, (blk_cell BK296.out 1).trans rfl, ((HB.out.cell (World.block_lt_of_cell? w _ hw297_0)).trans hw297_0), ((HB.out.cell (World.block_lt_of_cell? w _ hw297_1)).trans hw297_1), ((HB.out.cell (World.block_lt_of_cell? w _ hw297_2)).trans hw297_2), ((HB.out.cell (World.block_lt_of_cell? w _ hw297_3)).trans hw297_3), ((HB.out.cell (World.block_lt_of_cell? w _ hw303_0)).trans hw303_0), ((HB.out.cell (World.block_lt_of_cell? w _ hw303_1)).trans hw303_1), ((HB.out.cell (World.block_lt_of_cell? w _ hw303_2)).trans hw303_2), ((HB.out.cell (World.block_lt_of_cell? w _ hw303_3)).trans hw303_3)⟩ (fun hHeld => ?_)
        clear hK K
        refine norm_ (a' := ?_) ?_ ?_
        rotate_left
        ·show Act.put _ (some 29) _ = _
         simp only [Act.put, List.setIfInBounds_toArray, List.set_cons_zero, List.set_cons_succ, i64_w, i32_w]
         rfl
        refine pure_ (i := 19) (N := some 30) (v := ?_) (a' := ?_) #[true, true, true, true, true, true, true, true, true, true, true, true, true, true, true, true, true, true, true, true] rfl rfl (any_of HT_.out (by kernel_rfl)) (fun _ _ _ h => h) (Or.inl ⟨by rfl, ?_⟩) ?_ ?_
        rotate_left
        ·intro w'
         go_simp
         with_reducible rfl
        rotate_left
        ·simp only [Act.put, List.setIfInBounds_toArray, List.set_cons_zero, List.set_cons_succ, i64_w, i32_w]
         rfl
        refine done_ (done_of HT_.out (by kernel_rfl)) ?_
        try go_wp2
        go_ret
        exact ⟨by first | rfl | (simp [errW_none, errW_some] <;> rfl) | (simp [*, errW_none, errW_some] <;> rfl), by repeat (first | (with_reducible first | exact HB.out | apply below_alloc | apply pw_below_drewN | apply below_drew1 | refine below_set ?_ GE296.out) | exact HB.out)⟩
       ·replace c10 := Bool.eq_false_iff.mpr c10
        subst c10
        have H1 : (arlinkref06_Valid.l0 k1 (wrap64 (x3_1 + 1)) l0_0 l0_1) = some r := by rw [if_neg (show ¬ (false = true) by decide)] at H; exact H
        clear H
        have H := H1
        clear H1
        have H' := Aside0.mk H
        clear H
        have hcz15_0 : wr.cell? ⟨gb296, 0, none⟩ = some (.slice A0_0 l0_0.length c0_0) := (blk_cell BK296.out 0).trans rfl
        have hcz15_1 : wr.cell? ⟨gb296, 1, none⟩ = some (.slice A0_1 l0_1.length c0_1) := (blk_cell BK296.out 1).trans rfl
        have hfz15_0 := blk_frozen BK296.out 0
        have hfz15_1 := blk_frozen BK296.out 1
        try go_wp2
        have n0_ := Aside0.mk (blk_drew BK296.out)
        have n1_ := Aside0.mk (below_drew1 HB.out)
        clear BK296
        clear HB
        have BK296 := n0_
        have HB := n1_
        clear n0_ n1_
        have p297 : 0 ≤ (x3_1 : Int) := of_decide_eq_true (by first | (with_reducible assumption) | assumption)
        have q297 : x3_1 < (l0_0.length : Int) := of_decide_eq_true (by first | (with_reducible assumption) | assumption)
        obtain ⟨ad297, e297, hx297_0, hx297_1, hx297_2, hx297_3⟩ := at_T55 HR0_0.out x3_1 p297 q297
        have hw297_3 := hx297_3
        have hw297_2 := hx297_2
        have hw297_1 := hx297_1
        have hw297_0 := hx297_0
        cases e297
        replace hx297_0 := (HB.out.cell (World.block_lt_of_cell? w _ hx297_0)).trans hx297_0
        replace hx297_1 := (HB.out.cell (World.block_lt_of_cell? w _ hx297_1)).trans hx297_1
        replace hx297_2 := (HB.out.cell (World.block_lt_of_cell? w _ hx297_2)).trans hx297_2
        replace hx297_3 := (HB.out.cell (World.block_lt_of_cell? w _ hx297_3)).trans hx297_3
        replace p297 := eq_true p297
        replace q297 := eq_true q297
        have p303 : 0 ≤ (x3_1 : Int) := of_decide_eq_true (by first | (with_reducible assumption) | assumption)
        have q303 : x3_1 < (l0_0.length : Int) := of_decide_eq_true (by first | (with_reducible assumption) | assumption)
        obtain ⟨ad303, e303, hx303_0, hx303_1, hx303_2, hx303_3⟩ := at_T55 HR0_0.out x3_1 p303 q303
        have hw303_3 := hx303_3
        have hw303_2 := hx303_2
        have hw303_1 := hx303_1
        have hw303_0 := hx303_0
        obtain rfl : ad297 = ad303 := (by injection e303)
        replace hx303_0 := (HB.out.cell (World.block_lt_of_cell? w _ hx303_0)).trans hx303_0
        replace hx303_1 := (HB.out.cell (World.block_lt_of_cell? w _ hx303_1)).trans hx303_1
        replace hx303_2 := (HB.out.cell (World.block_lt_of_cell? w _ hx303_2)).trans hx303_2
        replace hx303_3 := (HB.out.cell (World.block_lt_of_cell? w _ hx303_3)).trans hx303_3
        replace p303 := eq_true p303
        replace q303 := eq_true q303
        refine start_ (n := 20) (S := fun w' => w'.cell? ⟨gb296, 0, none⟩ = some (.slice (some ad297) l0_0.length c0_0) ∧ w'.cell? ⟨gb296, 1, none⟩ = some (.slice A0_1 l0_1.length c0_1) ∧ w'.cell? (ad297.add ((x3_1).toNat * 4)) = some (.string ((rd_T55 l0_0 x3_1).f0)) ∧ w'.cell? ⟨(ad297.add ((x3_1).toNat * 4)).block, (ad297.add ((x3_1).toNat * 4)).off + 1, none⟩ = some (.int .i64 ((rd_T55 l0_0 x3_1).f1)) ∧ w'.cell? ⟨(ad297.add ((x3_1).toNat * 4)).block, (ad297.add ((x3_1).toNat * 4)).off + 2, none⟩ = some (.int .i64 ((rd_T55 l0_0 x3_1).f2)) ∧ w'.cell? ⟨(ad297.add ((x3_1).toNat * 4)).block, (ad297.add ((x3_1).toNat * 4)).off + 3, none⟩ = some (.int .i64 ((rd_T55 l0_0 x3_1).f3)) ∧ w'.cell? (ad297.add ((x3_1).toNat * 4)) = some (.string ((rd_T55 l0_0 x3_1).f0)) ∧ w'.cell? ⟨(ad297.add ((x3_1).toNat * 4)).block, (ad297.add ((x3_1).toNat * 4)).off + 1, none⟩ = some (.int .i64 ((rd_T55 l0_0 x3_1).f1)) ∧ w'.cell? ⟨(ad297.add ((x3_1).toNat * 4)).block, (ad297.add ((x3_1).toNat * 4)).off + 2, none⟩ = some (.int .i64 ((rd_T55 l0_0 x3_1).f2)) ∧ w'.cell? ⟨(ad297.add ((x3_1).toNat * 4)).block, (ad297.add ((x3_1).toNat * 4)).off + 3, none⟩ = some (.int .i64 ((rd_T55 l0_0 x3_1).f3))) (ds := []) #[false, false, false, false, false, false, false, false, false, false, false, false, false, false, false, false, false, false, false, false] (by kernel_rfl) rfl rfl ⟨(blk_cell BK296.out 0).trans rfl, (blk_cell BK296.out 1).trans rfl, ((HB.out.cell (World.block_lt_of_cell? w _ hw297_0)).trans hw297_0), ((HB.out.cell (World.block_lt_of_cell? w _ hw297_1)).trans hw297_1), ((HB.out.cell (World.block_lt_of_cell? w _ hw297_2)).trans hw297_2), ((HB.out.cell (World.block_lt_of_cell? w _ hw297_3)).trans hw297_3), ((HB.out.cell (World.block_lt_of_cell? w _ hw303_0)).trans hw303_0), ((HB.out.cell (World.block_lt_of_cell? w _ hw303_1)).trans hw303_1), ((HB.out.cell (World.block_lt_of_cell? w _ hw303_2)).trans hw303_2), ((HB.out.cell (World.block_lt_of_cell? w _ hw303_3)).trans hw303_3)⟩ (fun hHeld => ?_); refine with_tabW arlinkref06_Valid.tab4 arlinkref06_Valid.bits4 (fun HT_ HW_ => ?_)
        generalize wr.drew = w16 at BK296 HB hx297_0 hx297_1 hx297_2 hx297_3 hx303_0 hx303_1 hx303_2 hx303_3 hHeld ⊢
        refine pure_ (i := 0) (N := some 11) (v := ?_) (a' := ?_) #[true, false, false, false, false, false, false, false, false, false, false, false, false, false, false, false, false, false, false, false] rfl rfl (any_of HT_.out (by kernel_rfl)) (fun _ _ _ h => h) (Or.inl ⟨by rfl, ?_⟩) ?_ ?_
        rotate_left
        ·intro w'
         go_simp
         with_reducible rfl
        rotate_left
        ·simp only [Act.put, List.setIfInBounds_toArray, List.set_cons_zero, List.set_cons_succ, i64_w, i32_w]
         rfl
        refine pure_ (i := 2) (N := some 13) (v := ?_) (a' := ?_) #[true, false, true, false, false, false, false, false, false, false, false, false, false, false, false, false, false, false, false, false] rfl rfl (any_of HT_.out (by kernel_rfl)) (fun _ _ _ h => h) (Or.inl ⟨by rfl, ?_⟩) ?_ ?_
        rotate_left
        ·intro w'
         go_simp
         with_reducible rfl
        rotate_left
        ·simp only [Act.put, List.setIfInBounds_toArray, List.set_cons_zero, List.set_cons_succ, i64_w, i32_w]
         rfl
        refine take_ (i := 1) (N := some 12) (v := ?_) (a' := ?_) #[true, true, true, false, false, false, false, false, false, false, false, false, false, false, false, false, false, false, false, false] rfl rfl (take_ofW HT_.out HW_.out (by kernel_rfl)) (fun _ _ _ h => h) (Or.inl ⟨by rfl, ?_⟩) hHeld ?_ ?_
        rotate_left
        ·rintro w' ⟨s0, s1, s2, s3, s4, s5, s6, s7, s8, s9⟩
         go_simp
         with_reducible rfl
        rotate_left
        ·simp only [Act.put, List.setIfInBounds_toArray, List.set_cons_zero, List.set_cons_succ, i64_w, i32_w]
         rfl
        refine pure_ (i := 3) (N := some 14) (v := ?_) (a' := ?_) #[true, true, true, true, false, false, false, false, false, false, false, false, false, false, false, false, false, false, false, false] rfl rfl (any_of HT_.out (by kernel_rfl)) (fun _ _ _ h => h) (Or.inl ⟨by rfl, ?_⟩) ?_ ?_
        rotate_left
        ·intro w'
         go_simp
         with_reducible rfl
        rotate_left
        ·simp only [Act.put, List.setIfInBounds_toArray, List.set_cons_zero, List.set_cons_succ, i64_w, i32_w]
         rfl
        refine take_ (i := 4) (N := some 15) (v := ?_) (a' := ?_) #[true, true, true, true, true, false, false, false, false, false, false, false, false, false, false, false, false, false, false, false] rfl rfl (take_ofW HT_.out HW_.out (by kernel_rfl)) (fun _ _ _ h => h) (Or.inl ⟨by rfl, ?_⟩) hHeld ?_ ?_
        rotate_left
        ·rintro w' ⟨s0, s1, s2, s3, s4, s5, s6, s7, s8, s9⟩
         go_simp
         with_reducible rfl
        rotate_left
        ·simp only [Act.put, List.setIfInBounds_toArray, List.set_cons_zero, List.set_cons_succ, i64_w, i32_w]
         rfl
        refine one_ (i := 5) (N := some 16) #[true, true, true, true, true, true, false, false, false, false, false, false, false, false, false, false, false, false, false, false] rfl rfl (one_of HT_.out (by kernel_rfl)) (by decide) (fun K hK => ?_)
        refine goes_ Try.func64 (by kernel_rfl) rfl #[.agg #[.string ((rd_T55 l0_0 x3_1).f0), .int .i64 ((rd_T55 l0_0 x3_1).f1), .int .i64 ((rd_T55 l0_0 x3_1).f2), .int .i64 ((rd_T55 l0_0 x3_1).f3)]] (by rfl) rfl rfl (by (try simp only [List.map_toArray, List.map_cons, List.map_nil]); first | done | rfl | (simp only [List.length_drop, List.length_take]; rfl)) ?_
        with_reducible refine (arlinkref06_Sym.calls k1 ((rd_T55 l0_0 x3_1).f0) ((rd_T55 l0_0 x3_1).f1) ((rd_T55 l0_0 x3_1).f2) ((rd_T55 l0_0 x3_1).f3) true _ A5.out).mono ?_
        rintro e w17 ⟨rfl, hb⟩
        refine ⟨_, rfl, ?_⟩
        have n0_ := Aside0.mk (blk_below (g := gb296) (o := .cells #[.slice (some ad297) l0_0.length c0_0, .slice A0_1 l0_1.length c0_1] 50 (0, 0)) (by (with_reducible repeat (first | refine blk_drewN ?_ _ | refine blk_drew ?_ | refine blk_alloc ?_ _)); exact BK296.out) hb)
        have n1_ := Aside0.mk (below_step (by repeat (first | (with_reducible first | exact HB.out | apply below_alloc | apply pw_below_drewN | apply below_drew1 | refine below_set ?_ GE296.out) | exact HB.out)) hb)
        clear BK296
        clear HB
        have BK296 := n0_
        have HB := n1_
        clear n0_ n1_
        (try clear hb)
        (try clear hb2)
        (try clear hk)
        (try clear hi)
        have q18 : (x3_1 : Int) ≤ ((l0_0.length : Int) : Int) := of_decide_eq_true (by first | (with_reducible assumption) | assumption)
        obtain ⟨i018, hi018, _, hsz18, _⟩ := info_parts info55
        have hroom18 : l0_0.length ≤ c0_0 := HC0_0.out
        have hC18 : Kd.C k55 _ (some ad297) l0_0.length l0_0 := HR0_0.out
        have hcut18 := cut_to (P := Try.prog) 47 55 .i64 Try.underlying47 hi018 (some ad297) l0_0.length c0_0 x3_1 (of_decide_eq_true (by first | (with_reducible assumption) | assumption)) q18 hroom18
        have hr18 := Kd.C_take (m := (x3_1 : Int).toNat) hC18 (by omega)
        have hy18 : y299.length = (x3_1 : Int).toNat := (by rw [Ny299.out, List.length_take]; omega)
        rw [← Ny299.out] at hr18
        rw [← hy18] at hcut18
        have HR302 := Aside0.mk hr18
        have HC302 := Aside0.mk (show y299.length ≤ c0_0 from by omega)
        clear hr18 hC18 hroom18 hi018 hsz18
        have KY18 := Aside0.mk hy18
        clear hy18
        replace q18 := eq_true q18
        refine hK.out _ _ ⟨(blk_cell BK296.out 0).trans rfl, (blk_cell BK296.out 1).trans rfl, ((HB.out.cell (World.block_lt_of_cell? w _ hw297_0)).trans hw297_0), ((HB.out.cell (World.block_lt_of_cell? w _ hw297_1)).trans hw297_1), ((HB.out.cell (World.block_lt_of_cell? w _ hw297_2)).trans hw297_2), ((HB.out.cell (World.block_lt_of_cell? w _ hw297_3)).trans hw297_3), ((HB.out.cell (World.block_lt_of_cell? w _ hw303_0)).trans hw303_0), ((HB.out.cell (World.block_lt_of_cell? w _ hw303_1)).trans hw303_1), ((HB.out.cell (World.block_lt_of_cell? w _ hw303_2)).trans hw303_2), ((HB.out.cell (World.block_lt_of_cell? w _ hw303_3)).trans hw303_3)⟩ (fun hHeld => ?_)
        clear hK K
        refine norm_ (a' := ?_) ?_ ?_
        rotate_left
        ·show Act.put _ (some 16) _ = _
         simp only [Act.put, List.setIfInBounds_toArray, List.set_cons_zero, List.set_cons_succ, i64_w, i32_w]
         rfl
        refine pure_ (i := 6) (N := some 17) (v := ?_) (a' := ?_) #[true, true, true, true, true, true, true, false, false, false, false, false, false, false, false, false, false, false, false, false] rfl rfl (any_of HT_.out (by kernel_rfl)) (fun _ _ _ h => h) (Or.inl ⟨by rfl, ?_⟩) ?_ ?_
        rotate_left
        ·intro w'
         go_simp
         with_reducible rfl
        rotate_left
        ·simp only [Act.put, List.setIfInBounds_toArray, List.set_cons_zero, List.set_cons_succ, i64_w, i32_w]
         rfl
        refine pure_ (i := 7) (N := some 18) (v := ?_) (a' := ?_) #[true, true, true, true, true, true, true, true, false, false, false, false, false, false, false, false, false, false, false, false] rfl rfl (any_of HT_.out (by kernel_rfl)) (fun _ _ _ h => h) (Or.inl ⟨by rfl, ?_⟩) ?_ ?_
        rotate_left
        ·intro w'
         go_simp
         with_reducible rfl
        rotate_left
        ·simp only [Act.put, List.setIfInBounds_toArray, List.set_cons_zero, List.set_cons_succ, i64_w, i32_w]
         rfl
        refine pure_ (i := 8) (N := some 19) (v := ?_) (a' := ?_) #[true, true, true, true, true, true, true, true, true, false, false, false, false, false, false, false, false, false, false, false] rfl rfl (any_of HT_.out (by kernel_rfl)) (fun _ _ _ h => h) (Or.inl ⟨by rfl, ?_⟩) ?_ ?_
        rotate_left
        ·intro w'
         go_simp
         with_reducible rfl
        rotate_left
        ·simp only [Act.put, List.setIfInBounds_toArray, List.set_cons_zero, List.set_cons_succ, i64_w, i32_w]
         rfl
        refine pure_ (i := 10) (N := some 21) (v := ?_) (a' := ?_) #[true, true, true, true, true, true, true, true, true, false, true, false, false, false, false, false, false, false, false, false] rfl rfl (any_of HT_.out (by kernel_rfl)) (fun _ _ _ h => h) (Or.inl ⟨by rfl, ?_⟩) ?_ ?_
        rotate_left
        ·intro w'
         go_simp
         with_reducible rfl
        rotate_left
        ·simp only [Act.put, List.setIfInBounds_toArray, List.set_cons_zero, List.set_cons_succ, i64_w, i32_w]
         rfl
        refine pure_ (i := 12) (N := some 23) (v := ?_) (a' := ?_) #[true, true, true, true, true, true, true, true, true, false, true, false, true, false, false, false, false, false, false, false] rfl rfl (any_of HT_.out (by kernel_rfl)) (fun _ _ _ h => h) (Or.inl ⟨by rfl, ?_⟩) ?_ ?_
        rotate_left
        ·intro w'
         go_simp
         with_reducible rfl
        rotate_left
        ·simp only [Act.put, List.setIfInBounds_toArray, List.set_cons_zero, List.set_cons_succ, i64_w, i32_w]
         rfl
        refine pure_ (i := 14) (N := some 25) (v := ?_) (a' := ?_) #[true, true, true, true, true, true, true, true, true, false, true, false, true, false, true, false, false, false, false, false] rfl rfl (any_of HT_.out (by kernel_rfl)) (fun _ _ _ h => h) (Or.inl ⟨by rfl, ?_⟩) ?_ ?_
        rotate_left
        ·intro w'
         go_simp
         with_reducible rfl
        rotate_left
        ·simp only [Act.put, List.setIfInBounds_toArray, List.set_cons_zero, List.set_cons_succ, i64_w, i32_w]
         rfl
        refine take_ (i := 9) (N := some 20) (v := ?_) (a' := ?_) #[true, true, true, true, true, true, true, true, true, true, true, false, true, false, true, false, false, false, false, false] rfl rfl (take_ofW HT_.out HW_.out (by kernel_rfl)) (fun _ _ _ h => h) (Or.inl ⟨by rfl, ?_⟩) hHeld ?_ ?_
        rotate_left
        ·rintro w' ⟨s0, s1, s2, s3, s4, s5, s6, s7, s8, s9⟩
         go_simp
         with_reducible rfl
        rotate_left
        ·simp only [Act.put, List.setIfInBounds_toArray, List.set_cons_zero, List.set_cons_succ, i64_w, i32_w]
         rfl
        refine pure_ (i := 11) (N := some 22) (v := ?_) (a' := ?_) #[true, true, true, true, true, true, true, true, true, true, true, true, true, false, true, false, false, false, false, false] rfl rfl (any_of HT_.out (by kernel_rfl)) (fun _ _ _ h => h) (Or.inl ⟨by rfl, ?_⟩) ?_ ?_
        rotate_left
        ·intro w'
         go_simp
         with_reducible rfl
        rotate_left
        ·simp only [Act.put, List.setIfInBounds_toArray, List.set_cons_zero, List.set_cons_succ, i64_w, i32_w]
         rfl
        refine take_ (i := 13) (N := some 24) (v := ?_) (a' := ?_) #[true, true, true, true, true, true, true, true, true, true, true, true, true, true, true, false, false, false, false, false] rfl rfl (take_ofW HT_.out HW_.out (by kernel_rfl)) (fun _ _ _ h => h) (Or.inl ⟨by rfl, ?_⟩) hHeld ?_ ?_
        rotate_left
        ·rintro w' ⟨s0, s1, s2, s3, s4, s5, s6, s7, s8, s9⟩
         go_simp
         with_reducible rfl
        rotate_left
        ·simp only [Act.put, List.setIfInBounds_toArray, List.set_cons_zero, List.set_cons_succ, i64_w, i32_w]
         rfl
        refine pure_ (i := 15) (N := some 26) (v := ?_) (a' := ?_) #[true, true, true, true, true, true, true, true, true, true, true, true, true, true, true, true, false, false, false, false] rfl rfl (any_of HT_.out (by kernel_rfl)) (fun _ _ _ h => h) (Or.inl ⟨by rfl, ?_⟩) ?_ ?_
        rotate_left
        ·intro w'
         go_simp
         with_reducible rfl
        rotate_left
        ·simp only [Act.put, List.setIfInBounds_toArray, List.set_cons_zero, List.set_cons_succ, i64_w, i32_w]
         rfl
        refine pure_ (i := 16) (N := some 27) (v := ?_) (a' := ?_) #[true, true, true, true, true, true, true, true, true, true, true, true, true, true, true, true, true, false, false, false] rfl rfl (any_of HT_.out (by kernel_rfl)) (fun _ _ _ h => h) (Or.inl ⟨by rfl, ?_⟩) ?_ ?_
        rotate_left
        ·intro w'
         go_simp
         with_reducible rfl
        rotate_left
        ·simp only [Act.put, List.setIfInBounds_toArray, List.set_cons_zero, List.set_cons_succ, i64_w, i32_w]
         rfl
        refine take_ (i := 17) (N := some 28) (v := ?_) (a' := ?_) #[true, true, true, true, true, true, true, true, true, true, true, true, true, true, true, true, true, true, false, false] rfl rfl (take_ofW HT_.out HW_.out (by kernel_rfl)) (fun _ _ _ h => h) (Or.inl ⟨by rfl, ?_⟩) hHeld ?_ ?_
        rotate_left
        ·rintro w' ⟨s0, s1, s2, s3, s4, s5, s6, s7, s8, s9⟩
         go_simp
         with_reducible rfl
        rotate_left
        ·simp only [Act.put, List.setIfInBounds_toArray, List.set_cons_zero, List.set_cons_succ, i64_w, i32_w]
         rfl
        refine one_ (i := 18) (N := some 29) #[true, true, true, true, true, true, true, true, true, true, true, true, true, true, true, true, true, true, true, false] rfl rfl (one_of HT_.out (by kernel_rfl)) (by decide) (fun K hK => ?_)
        refine goes_ Try.func65 (by kernel_rfl) rfl #[.slice (some ad297) y299.length c0_0, .string ((rd_T55 l0_0 x3_1).f0)] (by rfl) rfl rfl (by (try simp only [List.map_toArray, List.map_cons, List.map_nil]); first | done | rfl | (simp only [List.length_drop, List.length_take]; rfl)) ?_
        with_reducible refine (arlinkref06_has.calls k1 _ _ y299 ((rd_T55 l0_0 x3_1).f0) false _ ?side1 ?side2 A9.out).mono ?_
        (case side1 => repeat (first | exact (Kd.C_below HR302.out HB.out) | (with_reducible refine Kd.C_alloc ?_ _) | (with_reducible refine Kd.C_drewN ?_ _) | (with_reducible refine Kd.C_drew ?_)))
        (case side2 => exact HC302.out)
        rintro e w' ⟨rfl, ⟨nd, rfl⟩⟩
        refine ⟨_, rfl, ?_⟩
        refine hK.out _ _ ⟨(blk_cell BK296.out 0).trans rfl, (blk_cell BK296.out 1).trans rfl, ((HB.out.cell (World.block_lt_of_cell? w _ hw297_0)).trans hw297_0), ((HB.out.cell (World.block_lt_of_cell? w _ hw297_1)).trans hw297_1), ((HB.out.cell (World.block_lt_of_cell? w _ hw297_2)).trans hw297_2), ((HB.out.cell (World.block_lt_of_cell? w _ hw297_3)).trans hw297_3), ((HB.out.cell (World.block_lt_of_cell? w _ hw303_0)).trans hw303_0), ((HB.out.cell (World.block_lt_of_cell? w _ hw303_1)).trans hw303_1), ((HB.out.cell (World.block_lt_of_cell? w _ hw303_2)).trans hw303_2), ((HB.out.cell (World.block_lt_of_cell? w _ hw303_3)).trans hw303_3)⟩ (fun hHeld => ?_)
        clear hK K
        refine norm_ (a' := ?_) ?_ ?_
        rotate_left
        ·show Act.put _ (some 29) _ = _
         simp only [Act.put, List.setIfInBounds_toArray, List.set_cons_zero, List.set_cons_succ, i64_w, i32_w]
         rfl
        refine pure_ (i := 19) (N := some 30) (v := ?_) (a' := ?_) #[true, true, true, true, true, true, true, true, true, true, true, true, true, true, true, true, true, true, true, true] rfl rfl (any_of HT_.out (by kernel_rfl)) (fun _ _ _ h => h) (Or.inl ⟨by rfl, ?_⟩) ?_ ?_
        rotate_left
        ·intro w'
         go_simp
         with_reducible rfl
        rotate_left
        ·simp only [Act.put, List.setIfInBounds_toArray, List.set_cons_zero, List.set_cons_succ, i64_w, i32_w]
         rfl
        refine done_ (done_of HT_.out (by kernel_rfl)) ?_
        try go_wp2
        go_roundg k1
        case measure => have := HK1.out; omega
        case rel => exact ⟨(wrap64 (x3_1 + 1)), (by first | rfl | (simp; done) | (simp [*]; done)), H', ⟨by have := HK1.out; omega⟩, ⟨by (with_reducible repeat (first | refine blk_drewN ?_ _ | refine blk_drew ?_ | refine blk_alloc ?_ _)); exact BK296.out⟩, ⟨by repeat (first | (with_reducible first | exact HB.out | apply below_alloc | apply pw_below_drewN | apply below_drew1 | refine below_set ?_ GE296.out) | exact HB.out)⟩⟩
      ·rw [if_neg c8] at H
       exact absurd H (by simp)
     ·replace c6 := Bool.eq_false_iff.mpr c6
      subst c6
      have H1 : (some false) = some r := by rw [if_neg (show ¬ (false = true) by decide)] at H; exact H
      clear H
      have H := H1
      clear H1
      obtain rfl := Option.some.inj H
      have hcz19_0 : wr.cell? ⟨gb296, 0, none⟩ = some (.slice A0_0 l0_0.length c0_0) := (blk_cell BK296.out 0).trans rfl
      have hcz19_1 : wr.cell? ⟨gb296, 1, none⟩ = some (.slice A0_1 l0_1.length c0_1) := (blk_cell BK296.out 1).trans rfl
      have hfz19_0 := blk_frozen BK296.out 0
      have hfz19_1 := blk_frozen BK296.out 1
      try go_wp2
      have n0_ := Aside0.mk (blk_drew BK296.out)
      have n1_ := Aside0.mk (below_drew1 HB.out)
      clear BK296
      clear HB
      have BK296 := n0_
      have HB := n1_
      clear n0_ n1_
      have p297 : 0 ≤ (x3_1 : Int) := of_decide_eq_true (by first | (with_reducible assumption) | assumption)
      have q297 : x3_1 < (l0_0.length : Int) := of_decide_eq_true (by first | (with_reducible assumption) | assumption)
      obtain ⟨ad297, e297, hx297_0, hx297_1, hx297_2, hx297_3⟩ := at_T55 HR0_0.out x3_1 p297 q297
      have hw297_3 := hx297_3
      have hw297_2 := hx297_2
      have hw297_1 := hx297_1
      have hw297_0 := hx297_0
      cases e297
      replace hx297_0 := (HB.out.cell (World.block_lt_of_cell? w _ hx297_0)).trans hx297_0
      replace hx297_1 := (HB.out.cell (World.block_lt_of_cell? w _ hx297_1)).trans hx297_1
      replace hx297_2 := (HB.out.cell (World.block_lt_of_cell? w _ hx297_2)).trans hx297_2
      replace hx297_3 := (HB.out.cell (World.block_lt_of_cell? w _ hx297_3)).trans hx297_3
      replace p297 := eq_true p297
      replace q297 := eq_true q297
      refine start_ (n := 20) (S := fun w' => w'.cell? ⟨gb296, 0, none⟩ = some (.slice (some ad297) l0_0.length c0_0) ∧ w'.cell? ⟨gb296, 1, none⟩ = some (.slice A0_1 l0_1.length c0_1) ∧ w'.cell? (ad297.add ((x3_1).toNat * 4)) = some (.string ((rd_T55 l0_0 x3_1).f0)) ∧ w'.cell? ⟨(ad297.add ((x3_1).toNat * 4)).block, (ad297.add ((x3_1).toNat * 4)).off + 1, none⟩ = some (.int .i64 ((rd_T55 l0_0 x3_1).f1)) ∧ w'.cell? ⟨(ad297.add ((x3_1).toNat * 4)).block, (ad297.add ((x3_1).toNat * 4)).off + 2, none⟩ = some (.int .i64 ((rd_T55 l0_0 x3_1).f2)) ∧ w'.cell? ⟨(ad297.add ((x3_1).toNat * 4)).block, (ad297.add ((x3_1).toNat * 4)).off + 3, none⟩ = some (.int .i64 ((rd_T55 l0_0 x3_1).f3))) (ds := []) #[false, false, false, false, false, false, false, false, false, false, false, false, false, false, false, false, false, false, false, false] (by kernel_rfl) rfl rfl ⟨(blk_cell BK296.out 0).trans rfl, (blk_cell BK296.out 1).trans rfl, ((HB.out.cell (World.block_lt_of_cell? w _ hw297_0)).trans hw297_0), ((HB.out.cell (World.block_lt_of_cell? w _ hw297_1)).trans hw297_1), ((HB.out.cell (World.block_lt_of_cell? w _ hw297_2)).trans hw297_2), ((HB.out.cell (World.block_lt_of_cell? w _ hw297_3)).trans hw297_3)⟩ (fun hHeld => ?_); refine with_tabW arlinkref06_Valid.tab4 arlinkref06_Valid.bits4 (fun HT_ HW_ => ?_)
      generalize wr.drew = w20 at BK296 HB hx297_0 hx297_1 hx297_2 hx297_3 hHeld ⊢
      refine pure_ (i := 0) (N := some 11) (v := ?_) (a' := ?_) #[true, false, false, false, false, false, false, false, false, false, false, false, false, false, false, false, false, false, false, false] rfl rfl (any_of HT_.out (by kernel_rfl)) (fun _ _ _ h => h) (Or.inl ⟨by rfl, ?_⟩) ?_ ?_
      rotate_left
      ·intro w'
       go_simp
       with_reducible rfl
      rotate_left
      ·simp only [Act.put, List.setIfInBounds_toArray, List.set_cons_zero, List.set_cons_succ, i64_w, i32_w]
       rfl
      refine pure_ (i := 2) (N := some 13) (v := ?_) (a' := ?_) #[true, false, true, false, false, false, false, false, false, false, false, false, false, false, false, false, false, false, false, false] rfl rfl (any_of HT_.out (by kernel_rfl)) (fun _ _ _ h => h) (Or.inl ⟨by rfl, ?_⟩) ?_ ?_
      rotate_left
      ·intro w'
       go_simp
       with_reducible rfl
      rotate_left
      ·simp only [Act.put, List.setIfInBounds_toArray, List.set_cons_zero, List.set_cons_succ, i64_w, i32_w]
       rfl
      refine take_ (i := 1) (N := some 12) (v := ?_) (a' := ?_) #[true, true, true, false, false, false, false, false, false, false, false, false, false, false, false, false, false, false, false, false] rfl rfl (take_ofW HT_.out HW_.out (by kernel_rfl)) (fun _ _ _ h => h) (Or.inl ⟨by rfl, ?_⟩) hHeld ?_ ?_
      rotate_left
      ·rintro w' ⟨s0, s1, s2, s3, s4, s5⟩
       go_simp
       with_reducible rfl
      rotate_left
      ·simp only [Act.put, List.setIfInBounds_toArray, List.set_cons_zero, List.set_cons_succ, i64_w, i32_w]
       rfl
      refine pure_ (i := 3) (N := some 14) (v := ?_) (a' := ?_) #[true, true, true, true, false, false, false, false, false, false, false, false, false, false, false, false, false, false, false, false] rfl rfl (any_of HT_.out (by kernel_rfl)) (fun _ _ _ h => h) (Or.inl ⟨by rfl, ?_⟩) ?_ ?_
      rotate_left
      ·intro w'
       go_simp
       with_reducible rfl
      rotate_left
      ·simp only [Act.put, List.setIfInBounds_toArray, List.set_cons_zero, List.set_cons_succ, i64_w, i32_w]
       rfl
      refine take_ (i := 4) (N := some 15) (v := ?_) (a' := ?_) #[true, true, true, true, true, false, false, false, false, false, false, false, false, false, false, false, false, false, false, false] rfl rfl (take_ofW HT_.out HW_.out (by kernel_rfl)) (fun _ _ _ h => h) (Or.inl ⟨by rfl, ?_⟩) hHeld ?_ ?_
      rotate_left
      ·rintro w' ⟨s0, s1, s2, s3, s4, s5⟩
       go_simp
       with_reducible rfl
      rotate_left
      ·simp only [Act.put, List.setIfInBounds_toArray, List.set_cons_zero, List.set_cons_succ, i64_w, i32_w]
       rfl
      refine one_ (i := 5) (N := some 16) #[true, true, true, true, true, true, false, false, false, false, false, false, false, false, false, false, false, false, false, false] rfl rfl (one_of HT_.out (by kernel_rfl)) (by decide) (fun K hK => ?_)
      refine goes_ Try.func64 (by kernel_rfl) rfl #[.agg #[.string ((rd_T55 l0_0 x3_1).f0), .int .i64 ((rd_T55 l0_0 x3_1).f1), .int .i64 ((rd_T55 l0_0 x3_1).f2), .int .i64 ((rd_T55 l0_0 x3_1).f3)]] (by rfl) rfl rfl (by (try simp only [List.map_toArray, List.map_cons, List.map_nil]); first | done | rfl | (simp only [List.length_drop, List.length_take]; rfl)) ?_
      with_reducible refine (arlinkref06_Sym.calls k1 ((rd_T55 l0_0 x3_1).f0) ((rd_T55 l0_0 x3_1).f1) ((rd_T55 l0_0 x3_1).f2) ((rd_T55 l0_0 x3_1).f3) false _ A5.out).mono ?_
      rintro e w21 ⟨rfl, hb⟩
      refine ⟨_, rfl, ?_⟩
      have n0_ := Aside0.mk (blk_below (g := gb296) (o := .cells #[.slice (some ad297) l0_0.length c0_0, .slice A0_1 l0_1.length c0_1] 50 (0, 0)) (by (with_reducible repeat (first | refine blk_drewN ?_ _ | refine blk_drew ?_ | refine blk_alloc ?_ _)); exact BK296.out) hb)
      have n1_ := Aside0.mk (below_step (by repeat (first | (with_reducible first | exact HB.out | apply below_alloc | apply pw_below_drewN | apply below_drew1 | refine below_set ?_ GE296.out) | exact HB.out)) hb)
      clear BK296
      clear HB
      have BK296 := n0_
      have HB := n1_
      clear n0_ n1_
      (try clear hb)
      (try clear hb2)
      (try clear hk)
      (try clear hi)
      refine hK.out _ _ ⟨(blk_cell BK296.out 0).trans rfl, (blk_cell BK296.out 1).trans rfl, ((HB.out.cell (World.block_lt_of_cell? w _ hw297_0)).trans hw297_0), ((HB.out.cell (World.block_lt_of_cell? w _ hw297_1)).trans hw297_1), ((HB.out.cell (World.block_lt_of_cell? w _ hw297_2)).trans hw297_2), ((HB.out.cell (World.block_lt_of_cell? w _ hw297_3)).trans hw297_3)⟩ (fun hHeld => ?_)
      clear hK K
      refine norm_ (a' := ?_) ?_ ?_
      rotate_left
      ·show Act.put _ (some 16) _ = _
       simp only [Act.put, List.setIfInBounds_toArray, List.set_cons_zero, List.set_cons_succ, i64_w, i32_w]
       rfl
      refine pure_ (i := 6) (N := some 17) (v := ?_) (a' := ?_) #[true, true, true, true, true, true, true, false, false, false, false, false, false, false, false, false, false, false, false, false] rfl rfl (any_of HT_.out (by kernel_rfl)) (fun _ _ _ h => h) (Or.inl ⟨by rfl, ?_⟩) ?_ ?_
      rotate_left
      ·intro w'
       go_simp
       with_reducible rfl
      rotate_left
      ·simp only [Act.put, List.setIfInBounds_toArray, List.set_cons_zero, List.set_cons_succ, i64_w, i32_w]
       rfl
      refine pure_ (i := 7) (N := some 18) (v := ?_) (a' := ?_) #[true, true, true, true, true, true, true, true, false, false, false, false, false, false, false, false, false, false, false, false] rfl rfl (any_of HT_.out (by kernel_rfl)) (fun _ _ _ h => h) (Or.inl ⟨by rfl, ?_⟩) ?_ ?_
      rotate_left
      ·intro w'
       go_simp
       with_reducible rfl
      rotate_left
      ·simp only [Act.put, List.setIfInBounds_toArray, List.set_cons_zero, List.set_cons_succ, i64_w, i32_w]
       rfl
      refine pure_ (i := 8) (N := some 19) (v := undef) (a' := ?_) #[true, true, true, true, true, true, true, true, true, false, false, false, false, false, false, false, false, false, false, false] rfl rfl (any_of HT_.out (by kernel_rfl)) (fun _ _ _ h => h) (Or.inr ⟨by rfl, rfl⟩) ?_ ?_
      rotate_left
      ·simp only [Act.put, List.setIfInBounds_toArray, List.set_cons_zero, List.set_cons_succ, i64_w, i32_w]
       rfl
      refine pure_ (i := 9) (N := some 20) (v := undef) (a' := ?_) #[true, true, true, true, true, true, true, true, true, true, false, false, false, false, false, false, false, false, false, false] rfl rfl (any_of HT_.out (by kernel_rfl)) (fun _ _ _ h => h) (Or.inr ⟨by rfl, rfl⟩) ?_ ?_
      rotate_left
      ·simp only [Act.put, List.setIfInBounds_toArray, List.set_cons_zero, List.set_cons_succ, i64_w, i32_w]
       rfl
      refine pure_ (i := 10) (N := some 21) (v := undef) (a' := ?_) #[true, true, true, true, true, true, true, true, true, true, true, false, false, false, false, false, false, false, false, false] rfl rfl (any_of HT_.out (by kernel_rfl)) (fun _ _ _ h => h) (Or.inr ⟨by rfl, rfl⟩) ?_ ?_
      rotate_left
      ·simp only [Act.put, List.setIfInBounds_toArray, List.set_cons_zero, List.set_cons_succ, i64_w, i32_w]
       rfl
      refine pure_ (i := 11) (N := some 22) (v := undef) (a' := ?_) #[true, true, true, true, true, true, true, true, true, true, true, true, false, false, false, false, false, false, false, false] rfl rfl (any_of HT_.out (by kernel_rfl)) (fun _ _ _ h => h) (Or.inr ⟨by rfl, rfl⟩) ?_ ?_
      rotate_left
      ·simp only [Act.put, List.setIfInBounds_toArray, List.set_cons_zero, List.set_cons_succ, i64_w, i32_w]
       rfl
      refine pure_ (i := 12) (N := some 23) (v := undef) (a' := ?_) #[true, true, true, true, true, true, true, true, true, true, true, true, true, false, false, false, false, false, false, false] rfl rfl (any_of HT_.out (by kernel_rfl)) (fun _ _ _ h => h) (Or.inr ⟨by rfl, rfl⟩) ?_ ?_
      rotate_left
      ·simp only [Act.put, List.setIfInBounds_toArray, List.set_cons_zero, List.set_cons_succ, i64_w, i32_w]
       rfl
      refine pure_ (i := 13) (N := some 24) (v := undef) (a' := ?_) #[true, true, true, true, true, true, true, true, true, true, true, true, true, true, false, false, false, false, false, false] rfl rfl (any_of HT_.out (by kernel_rfl)) (fun _ _ _ h => h) (Or.inr ⟨by rfl, rfl⟩) ?_ ?_
      rotate_left
      ·simp only [Act.put, List.setIfInBounds_toArray, List.set_cons_zero, List.set_cons_succ, i64_w, i32_w]
       rfl
      refine pure_ (i := 14) (N := some 25) (v := undef) (a' := ?_) #[true, true, true, true, true, true, true, true, true, true, true, true, true, true, true, false, false, false, false, false] rfl rfl (any_of HT_.out (by kernel_rfl)) (fun _ _ _ h => h) (Or.inr ⟨by rfl, rfl⟩) ?_ ?_
      rotate_left
      ·simp only [Act.put, List.setIfInBounds_toArray, List.set_cons_zero, List.set_cons_succ, i64_w, i32_w]
       rfl
      refine pure_ (i := 15) (N := some 26) (v := undef) (a' := ?_) #[true, true, true, true, true, true, true, true, true, true, true, true, true, true, true, true, false, false, false, false] rfl rfl (any_of HT_.out (by kernel_rfl)) (fun _ _ _ h => h) (Or.inr ⟨by rfl, rfl⟩) ?_ ?_
      rotate_left
      ·simp only [Act.put, List.setIfInBounds_toArray, List.set_cons_zero, List.set_cons_succ, i64_w, i32_w]
       rfl
      refine pure_ (i := 16) (N := some 27) (v := undef) (a' := ?_) #[true, true, true, true, true, true, true, true, true, true, true, true, true, true, true, true, true, false, false, false] rfl rfl (any_of HT_.out (by kernel_rfl)) (fun _ _ _ h => h) (Or.inr ⟨by rfl, rfl⟩) ?_ ?_
      rotate_left
      ·simp only [Act.put, List.setIfInBounds_toArray, List.set_cons_zero, List.set_cons_succ, i64_w, i32_w]
       rfl
      refine pure_ (i := 17) (N := some 28) (v := undef) (a' := ?_) #[true, true, true, true, true, true, true, true, true, true, true, true, true, true, true, true, true, true, false, false] rfl rfl (any_of HT_.out (by kernel_rfl)) (fun _ _ _ h => h) (Or.inr ⟨by rfl, rfl⟩) ?_ ?_
      rotate_left
      ·simp only [Act.put, List.setIfInBounds_toArray, List.set_cons_zero, List.set_cons_succ, i64_w, i32_w]
       rfl
      refine pure_ (i := 18) (N := some 29) (v := undef) (a' := ?_) #[true, true, true, true, true, true, true, true, true, true, true, true, true, true, true, true, true, true, true, false] rfl rfl (any_of HT_.out (by kernel_rfl)) (fun _ _ _ h => h) (Or.inr ⟨by rfl, rfl⟩) ?_ ?_
      rotate_left
      ·simp only [Act.put, List.setIfInBounds_toArray, List.set_cons_zero, List.set_cons_succ, i64_w, i32_w]
       rfl
      refine pure_ (i := 19) (N := some 30) (v := ?_) (a' := ?_) #[true, true, true, true, true, true, true, true, true, true, true, true, true, true, true, true, true, true, true, true] rfl rfl (any_of HT_.out (by kernel_rfl)) (fun _ _ _ h => h) (Or.inl ⟨by rfl, ?_⟩) ?_ ?_
      rotate_left
      ·intro w'
       go_simp
       with_reducible rfl
      rotate_left
      ·simp only [Act.put, List.setIfInBounds_toArray, List.set_cons_zero, List.set_cons_succ, i64_w, i32_w]
       rfl
      refine done_ (done_of HT_.out (by kernel_rfl)) ?_
      try go_wp2
      go_ret
      exact ⟨by first | rfl | (simp [errW_none, errW_some] <;> rfl) | (simp [*, errW_none, errW_some] <;> rfl), by repeat (first | (with_reducible first | exact HB.out | apply below_alloc | apply pw_below_drewN | apply below_drew1 | refine below_set ?_ GE296.out) | exact HB.out)⟩
    ·rw [if_neg c4] at H
     exact absurd H (by simp)
   ·rw [if_neg c3] at H
    have c3b0 : decide (x3_1 < (l0_0.length : Int)) = false := decide_eq_false c3
    clear c3
    obtain rfl := Option.some.inj H
    have hcz22_0 : wr.cell? ⟨gb296, 0, none⟩ = some (.slice A0_0 l0_0.length c0_0) := (blk_cell BK296.out 0).trans rfl
    have hcz22_1 : wr.cell? ⟨gb296, 1, none⟩ = some (.slice A0_1 l0_1.length c0_1) := (blk_cell BK296.out 1).trans rfl
    have hfz22_0 := blk_frozen BK296.out 0
    have hfz22_1 := blk_frozen BK296.out 1
    go_wp2
    go_ret
    exact ⟨by first | rfl | (simp [errW_none, errW_some] <;> rfl) | (simp [*, errW_none, errW_some] <;> rfl), by repeat (first | (with_reducible first | exact HB.out | apply below_alloc | apply pw_below_drewN | apply below_drew1 | refine below_set ?_ GE296.out) | exact HB.out)⟩
end Go.Proofs.Ythpjpkcfepmhkaa.PAll
