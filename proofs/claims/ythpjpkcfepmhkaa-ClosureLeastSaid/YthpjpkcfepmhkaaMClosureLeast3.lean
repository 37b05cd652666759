/- Laid together by a program of this session (wip/bundle.py) out of its own texts. -/
import Derived.Test.YthpjpkcfepmhkaaMClosureLeast2
import Derived.Deep.DeepCutAuto
import Derived.Deep.CutBlock
import Derived.Deep.RegionWith
import Derived.Sort.KeysCollected
import Derived.Test.YthpjpkcfepmhkaaWTab
import Derived.Outline
namespace Go.Proofs.Ythpjpkcfepmhkaa.PAll
open Go.RowKit Go.Proofs.YthpjpkcfepmhkaaW.PrintWords Go.Proofs.YthpjpkcfepmhkaaW.PrintLast Go.Proofs.YthpjpkcfepmhkaaW.PrintMore
set_option linter.unusedVariables false
set_option linter.unusedSimpArgs false

/-! ### What Why computes: bf: each member that was met, with the one before it; q: the queue -/
def lookB : List (Int × Int) → Int → Option Int
  | [], _ => none
  | (a, b) :: r, i => if a = i then some b else lookB r i
theorem lookB_snoc {i x : Int} : ∀ {bf : List (Int × Int)}, lookB bf i = none → ∀ y, lookB (bf ++ [(i, x)]) y = if y = i then some x else lookB bf y
  | [], _, y => by
    simp only [List.nil_append, lookB]
    by_cases e : i = y
    · rw [if_pos e, if_pos e.symm]
    · rw [if_neg e, if_neg (fun h => e h.symm)]
  | (a, b) :: r, h, y => by
    simp only [List.cons_append, lookB] at h ⊢
    by_cases e : a = i
    · rw [if_pos e] at h; cases h
    · rw [if_neg e] at h
      rw [lookB_snoc h y]
      by_cases e2 : a = y
      · rw [if_pos e2, if_pos e2, if_neg (fun h => e (e2.trans h))]
      · rw [if_neg e2, if_neg e2]
def bgW (bf : List (Int × Int)) : Int → Option Value := fun i => (lookB bf i).map (Value.int .i64)
theorem bgW_nil : bgW [] = fun _ => none := rfl
theorem bgW_snoc {bf : List (Int × Int)} {i x : Int} (h : lookB bf i = none) : updM (bgW bf) i (.int .i64 x) = bgW (bf ++ [(i, x)]) := by
  funext y
  unfold updM bgW
  rw [lookB_snoc h]
  by_cases e : y = i
  · rw [if_pos e, if_pos e]; rfl
  · rw [if_neg e, if_neg e]
def visitW : List Int → Int → List (Int × Int) → List Int → Option (List (Int × Int) × List Int)
  | [], _, bf, q => some (bf, q)
  | i :: r, x, bf, q => if (lookB bf i).isSome = true then visitW r x bf q else if bf.length ≤ 1048576 ∧ q.length ≤ 1048576 then visitW r x (bf ++ [(i, x)]) (q ++ [i]) else none
theorem visitW_step {i : Int} {r : List Int} {x : Int} {bf : List (Int × Int)} {q : List Int} {a : List (Int × Int) × List Int} (h : visitW (i :: r) x bf q = some a) :
    ((lookB bf i).isSome = true ∧ visitW r x bf q = some a) ∨ (lookB bf i = none ∧ bf.length ≤ 1048576 ∧ q.length ≤ 1048576 ∧ visitW r x (bf ++ [(i, x)]) (q ++ [i]) = some a) := by
  simp only [visitW] at h
  by_cases c : (lookB bf i).isSome = true
  · rw [if_pos c] at h; exact .inl ⟨c, h⟩
  · rw [if_neg c] at h
    by_cases d : bf.length ≤ 1048576 ∧ q.length ≤ 1048576
    · rw [if_pos d] at h
      exact .inr ⟨by cases hl : lookB bf i with | none => rfl | some z => rw [hl] at c; exact absurd rfl c, d.1, d.2, h⟩
    · rw [if_neg d] at h; cases h

/-! ### The world in Why: w1: the world behind build -/
structure YW (w1 wr : World) (vm : Value) (bd bp g8 g9 g10 bb : Nat) (qv : Value) (q : List Int) (bf : List (Int × Int)) : Prop where
  B : Below w1.heap.size w1 wr
  p : wr.heap[g8]? = some (.cells #[vm, .map (some bd), .map (some bp)] 83 (0, 0))
  cb : wr.heap[g9]? = some (.cells #[.map (some bb)] 97 (0, 0))
  cq : wr.heap[g10]? = some (.cells #[qv] 24 (0, 0))
  bf : MapV lkI wr 3 bb bf.length (bgW bf)
  q : KI.Q 3 wr w1.heap.size (fun _ => True) qv q
  h8 : w1.heap.size ≤ g8
  h9 : w1.heap.size ≤ g9
  h10 : w1.heap.size ≤ g10
  hb : w1.heap.size ≤ bb
section
variable {w1 wr w2 : World} {vm : Value} {bd bp g8 g9 g10 bb : Nat} {qv : Value} {q : List Int} {bf : List (Int × Int)}
theorem YW.below (h : YW w1 wr vm bd bp g8 g9 g10 bb qv q bf) (hb : Below wr.heap.size wr w2) : YW w1 w2 vm bd bp g8 g9 g10 bb qv q bf :=
  ⟨below_then h.B h.B.size hb, blk_below h.p hb, blk_below h.cb hb, blk_below h.cq hb, h.bf.below hb h.bf.lt, Kd.Q_below h.q hb, h.h8, h.h9, h.h10, h.hb⟩
theorem Qmap_ne {w : World} {k b n base e : Nat} {g : Int → Option Value} {ok : Nat → Prop} {v : Value} {xs : List Int} (h : MapV lkI w k b n g) (hR : KI.Q e w base ok v xs) : some b ≠ v.ownBlock := by
  intro e1
  obtain ⟨cs, hc⟩ := Kd.Q_typed hR b e1.symm
  exact h.ne_cells hc rfl
/-- A member is met. -/
theorem YW.mark (h : YW w1 wr vm bd bp g8 g9 g10 bb qv q bf) {i : Nat} {x : Int} (hi : i < 1048576) (hl : lookB bf (i : Int) = none) (hn : bf.length ≤ 1048576) {u : Value} {ls : List Int} {nb : Nat} (hR : KI.R 3 wr nb (fun _ => True) u ls) :
    ∃ w', (Instr.mapUpdate 97 (.map (some bb)) (.int .i64 (i : Int)) (.int .i64 x)).run Try.prog wr = .ok () w' ∧ YW w1 w' vm bd bp g8 g9 g10 bb qv q (bf ++ [((i : Int), x)]) ∧ KI.R 3 w' nb (fun _ => True) u ls := by
  obtain ⟨w', h1, h2, h3⟩ := h.bf.store lawI lkI_inj Try.underlying97 (by simp only [maxLen]; omega) (keyI (i := (i : Int)) (by omega) (by omega)) (.int .i64 x)
  rw [bgW_snoc hl] at h2
  have hc : ∀ {j t : Nat} {cs : Array Value}, wr.heap[j]? = some (.cells cs t (0, 0)) → w'.heap[j]? = some (.cells cs t (0, 0)) := fun hj => blk_grown hj h3 (fun e => h.bf.ne_cells hj (Option.some.inj e).symm)
  exact ⟨w', h1, ⟨h.B.grown h3 h.B.size (fun k hk => by cases hk; exact h.hb), hc h.p, hc h.cb, hc h.cq, by rw [List.length_append]; exact h2, Kd.Q_grown1 h.q rfl h3 (Qmap_ne h.bf h.q), h.h8, h.h9, h.h10, h.hb⟩, rs_grown rfl hR h3 (fun k hk e => h.bf.ne_row hR (by rw [hk, ← e]))⟩
/-- The queue has been appended to, and is put back. -/
theorem YW.push (h : YW w1 wr vm bd bp g8 g9 g10 bb qv q bf) {v1 : Value} {ys : List Int} (hg : wr.grownBy w2 qv.ownBlock) (hQ : KI.Q 3 w2 w1.heap.size (fun _ => True) v1 ys) (hB : Below w1.heap.size w1 w2) :
    YW w1 (w2.setCell ⟨g10, 0, none⟩ v1) vm bd bp g8 g9 g10 bb v1 ys bf ∧ w2.cell? ⟨g10, 0, none⟩ = some qv ∧ w2.frozen? ⟨g10, 0, none⟩ = false ∧ g10 < w2.heap.size := by
  have hc : ∀ {j t : Nat} {cs : Array Value}, wr.heap[j]? = some (.cells cs t (0, 0)) → t ≠ 3 → w2.heap[j]? = some (.cells cs t (0, 0)) := fun hj ht => blk_grown hj hg (fun e => by
    obtain ⟨cs', hc'⟩ := Kd.Q_typed h.q _ e.symm
    rw [hj] at hc'
    cases hc'
    exact ht rfl)
  have hcq := hc h.cq (by decide)
  have hcp := hc h.p (by decide)
  have hcb := hc h.cb (by decide)
  have hm := h.bf.grown hg (Qmap_ne h.bf h.q)
  refine ⟨⟨hB.setCell h.h10 _, blk_far hcp (blk_ne hcp hcq (by decide)) v1, blk_far hcb (blk_ne hcb hcq (by decide)) v1, blk_set hcq 0 v1, ?_, Kd.Q_set hQ hcq (by decide) 0 v1, h.h8, h.h9, h.h10, h.hb⟩, (blk_cell hcq 0).trans (by simp), blk_frozen hcq 0, blk_lt hcq⟩
  exact hm.same (Below.heap_setCell _ _ _ _ (fun e => hm.ne_cells hcq e))
theorem YW.start (w1 : World) (vm : Value) (bd bp : Nat) : YW w1 ((((w1.alloc (.cells #[vm, .map (some bd), .map (some bp)] 83)).alloc (.map #[] 0)).alloc (.cells #[.map (some (w1.heap.size + 1))] 97)).alloc (.cells #[.slice none 0 0] 24)) vm bd bp w1.heap.size (w1.heap.size + 1 + 1) (w1.heap.size + 1 + 1 + 1) (w1.heap.size + 1) (.slice none 0 0) [] [] := by
  have z1 : (w1.alloc (.cells #[vm, .map (some bd), .map (some bp)] 83)).heap.size = w1.heap.size + 1 := by go_simp
  have b1 := below_alloc (Below.refl w1.heap.size w1) (.cells #[vm, .map (some bd), .map (some bp)] 83)
  have r1 := heap_alloc_new w1 (.cells #[vm, .map (some bd), .map (some bp)] 83)
  generalize w1.alloc (.cells #[vm, .map (some bd), .map (some bp)] 83) = w2 at *
  have z2 : (w2.alloc (.map #[] 0)).heap.size = w1.heap.size + 1 + 1 := by rw [← z1]; go_simp
  have b2 := below_alloc (Below.refl w2.heap.size w2) (.map #[] 0)
  have m2 := MapV.made lkI w2 3
  rw [z1] at m2
  generalize w2.alloc (.map #[] 0) = w3 at *
  have z3 : (w3.alloc (.cells #[.map (some (w1.heap.size + 1))] 97)).heap.size = w1.heap.size + 1 + 1 + 1 := by rw [← z2]; go_simp
  have b3 := below_alloc (Below.refl w3.heap.size w3) (.cells #[.map (some (w1.heap.size + 1))] 97)
  have r3 := heap_alloc_new w3 (.cells #[.map (some (w1.heap.size + 1))] 97)
  rw [z2] at r3
  generalize w3.alloc (.cells #[.map (some (w1.heap.size + 1))] 97) = w4 at *
  have b4 := below_alloc (Below.refl w4.heap.size w4) (.cells #[.slice none 0 0] 24)
  have r4 := heap_alloc_new w4 (.cells #[.slice none 0 0] 24)
  rw [z3] at r4
  generalize w4.alloc (.cells #[.slice none 0 0] 24) = w5 at *
  exact ⟨below_then (below_then (below_then b1 (by omega) b2) (by omega) b3) (by omega) b4, blk_below (blk_below (blk_below r1 b2) b3) b4, blk_below r3 b4, r4, by rw [bgW_nil]; exact (m2.below b3 m2.lt).below b4 (m2.below b3 m2.lt).lt, Kd.Q_nil _ _ _ _ _, by omega, by omega, by omega, by omega⟩
end
def VisitEnd (w1 : World) (vm : Value) (bd bp g8 g9 g10 bb : Nat) (q : List Int) (bf : List (Int × Int)) (w' : World) : Prop := ∃ qv, YW w1 w' vm bd bp g8 g9 g10 bb qv q bf

set_option maxRecDepth 10000 in
set_option maxHeartbeats 4000000 in
theorem visitW_calls (w1 : World) (vm : Value) (bd bp g8 g9 g10 bb N : Nat) (qv : Value) (q q2 : List Int) (bf bf2 : List (Int × Int)) (x : Int) (w : World) (u : Value) (ls : List Int) (nb : Nat) (hN : N ≤ 1024) (hw : YW w1 w vm bd bp g8 g9 g10 bb qv q bf) (hR : KI.R 3 w nb (fun _ => True) u ls)
    (hne : ∀ k, u.ownBlock = some k → some k ≠ qv.ownBlock) (hin : ∀ i, i ∈ ls → ∃ j : Nat, j < N ∧ i = (j : Int)) (h : visitW ls x bf q = some (bf2, q2)) :
    Calls Try.prog 56 #[u, .int .i64 x, .pointer (some ⟨g9, 0, none⟩), .pointer (some ⟨g10, 0, none⟩)] w fun e w' => e = .returned (.tuple #[]) ∧ VisitEnd w1 vm bd bp g8 g9 g10 bb q2 bf2 w' := by
  obtain ⟨Au, cu, rfl⟩ := Kd.R_slice hR
  have hll : ls.length ≤ 9223372036854775807 := (Kd.R_reads' hR).2.2.2.1
  have HW := Lib.hid (And.intro hw (And.intro hR hne))
  have HIN := Lib.hid hin
  have HV := Lib.hid h
  clear hw hR hne hin h
  go_enter Try.func56, Try.ntmps56
  go_wp2
  go_loopg [12] ls.length (fun kq v12 w' => ∃ (j : Nat) (qv : Value) (q : List Int) (bf : List (Int × Int)), v12 = .int .i64 j ∧ Aside0 (kq + j = ls.length ∧ visitW (ls.drop j) x bf q = some (bf2, q2)) ∧ Aside0 (YW w1 w' vm bd bp g8 g9 g10 bb qv q bf ∧ KI.R 3 w' nb (fun _ => True) (.slice Au ls.length cu) ls ∧ ∀ k, (Value.slice Au ls.length cu).ownBlock = some k → some k ≠ qv.ownBlock))
  case atStart => exact ⟨0, qv, q, bf, rfl, ⟨by omega, HV.out⟩, ⟨HW.out⟩⟩
  case round =>
    clear HW HV
    obtain ⟨j, qv, q, bf, rfl, HJ, HW⟩ := hrel
    cases gk with
    | zero =>
      have hj : ls.length ≤ j := by have := HJ.out.1; omega
      have hkf : decide (j < ls.length) = false := decide_eq_false (by omega)
      have hv := HJ.out.2
      rw [List.drop_eq_nil_of_le hj] at hv
      simp only [visitW, Option.some.injEq, Prod.mk.injEq] at hv
      obtain ⟨rfl, rfl⟩ := hv
      clear HJ hj
      go_wp2
      go_end0
      exact ⟨rfl, qv, HW.out.1⟩
    | succ jq =>
      have hj : j < ls.length := by have := HJ.out.1; omega
      obtain ⟨b, c', he, _, hbl, _⟩ := Kd.R_form HW.out.2.1 (by omega)
      injection he with he1 he2 he3
      subst he1
      obtain ⟨hyc, _⟩ := R.row_cell HW.out.2.1 j hj
      obtain ⟨i, hi, hie⟩ := HIN.out ls[j] (List.getElem_mem hj)
      have hyd : Hp.at_ (0 : Int) ls j = (i : Int) := by
        unfold Hp.at_
        rw [List.getD_eq_getElem?_getD, List.getElem?_eq_getElem hj]
        exact hie
      rw [hyd] at hyc
      have hv := HJ.out.2
      rw [List.drop_eq_getElem_cons hj, hie] at hv
      have hlk := HW.out.1.bf.look_ok lawI Try.underlying97 (zeroI _) (keyI (i := (i : Int)) (by omega) (by omega))
      have hcb := blk_cell HW.out.1.cb 0
      have hcq := blk_cell HW.out.1.cq 0
      simp only [List.getElem?_toArray, List.getElem?_cons_succ, List.getElem?_cons_zero] at hcb hcq
      have hbl9 := blk_lt HW.out.1.cb
      have hbl10 := blk_lt HW.out.1.cq
      have hso : (bgW bf (i : Int)).isSome = (lookB bf (i : Int)).isSome := by unfold bgW; cases lookB bf (i : Int) <;> rfl
      rw [hso] at hlk
      generalize (bgW bf (i : Int)).getD (.int .i64 0) = z at hlk
      clear he2 he3 hyd hie hso
      rcases visitW_step hv with ⟨hsm, hv2⟩ | ⟨hsm, hf1, hf2, hv2⟩
      · rw [hsm] at hlk
        have HV2 := Lib.hid hv2
        clear hv hsm hv2
        go_wp2
        go_roundg jq
        case measure => omega
        case rel => exact ⟨j + 1, qv, q, bf, by go_num, ⟨by have := HJ.out.1; omega, HV2.out⟩, ⟨HW.out⟩⟩
      · obtain ⟨w5, hrun, hy5, hr5⟩ := HW.out.1.mark (i := i) (x := x) (by omega) hsm hf1 HW.out.2.1
        rw [hsm] at hlk
        have HV2 := Lib.hid hv2
        have H5 := Lib.hid (And.intro hy5 (And.intro hr5 HW.out.2.2))
        have hcq5 := blk_cell H5.out.1.cq 0
        simp only [List.getElem?_toArray, List.getElem?_cons_succ, List.getElem?_cons_zero] at hcq5
        have hbs5 := below_size H5.out.1.B
        have hbl5 := blk_lt H5.out.1.cq
        clear hv hsm hv2 hy5 hr5 HW hf1
        have hlk2 : (Instr.lookup 97 (.map (some bb)) (.int .i64 (i : Int)) true).run Try.prog wr = .ok (.tuple #[z, .bool false]) wr := hlk
        clear hlk
        go_wp2_with (first | (at_builtin; go_must (refine Kd.Q_append KI (w0 := w1) w1.heap.size rfl (.tmp 27) (.tmp 29) 24 3 (.int .i64 0) 8 rfl Try.underlying24 info3 rfl (by decide) (by decide) qv q (i : Int) [.int .i64 (i : Int)] (fun _ => True) (fun _ => False) rfl ?aX ?aP (fun _ hk => hk.elim) ?aF ?aO ?aB ?aS ?aL ?_; (case aX => go_simp); (case aP => rfl); (case aF => exact fun _ _ => trivial); (case aO => exact H5.out.1.q); (case aB => exact H5.out.1.B); (case aS => exact hbs5); (case aL => omega); intro v1 w7 ho hb hg hat; obtain ⟨A1, c1, rfl, _⟩ := Kd.Q_slice ho; obtain ⟨hy7, hc7, hz7, hl7⟩ := H5.out.1.push hg ho hb; have hr7 := rs_grown rfl H5.out.2.1 hg H5.out.2.2; have hne7 : ∀ k, (Value.slice (some ⟨b, 0, none⟩) ls.length cu).ownBlock = some k → some k ≠ (Value.slice A1 (q ++ [(i : Int)]).length c1).ownBlock := (fun k hk e => (by rcases hat with hat | ⟨m, hat, hle⟩; exact H5.out.2.2 k hk (e.trans hat); rw [hat] at e; have e := Option.some.inj e; have := Kd.R_lt H5.out.2.1 k hk; omega)); have hr8 := Kd.R_set hr7 (show w7.heap[g10]? = some (.cells #[qv] 24 (0, 0)) from blk_grown H5.out.1.cq hg (fun e => (by obtain ⟨cs', hc'⟩ := Kd.Q_typed H5.out.1.q _ e.symm; rw [H5.out.1.cq] at hc'; cases hc'))) (by decide) 0 (.slice A1 (q ++ [(i : Int)]).length c1); have H7 := Lib.hid (And.intro hy7 (And.intro hr8 hne7)); simp only [List.length_append, List.length_singleton] at H7; clear ho hb hg hat hy7 hr7 hr8 hne7)))
        go_roundg jq
        case measure => omega
        case rel => exact ⟨j + 1, _, q ++ [(i : Int)], bf ++ [((i : Int), x)], by go_num, ⟨by have := HJ.out.1; omega, HV2.out⟩, ⟨H7.out⟩⟩
end Go.Proofs.Ythpjpkcfepmhkaa.PAll
namespace Go.Proofs.Ythpjpkcfepmhkaa.PAll
open Go.RowKit Go.Proofs.YthpjpkcfepmhkaaW.PrintWords Go.Proofs.YthpjpkcfepmhkaaW.PrintLast Go.Proofs.YthpjpkcfepmhkaaW.PrintMore
set_option linter.unusedVariables false
set_option linter.unusedSimpArgs false

def seedW (pv : List ByteArray) (ps : List (ByteArray × Int)) : List S50 → List (Int × Int) → List Int → Option (List (Int × Int) × List Int)
  | [], bf, q => some (bf, q)
  | o :: r, bf, q => (visitW (nextOf pv ps (namesOf refB o.f0)) (-1) bf q).bind fun a => seedW pv ps r a.1 a.2
def loopW (pv : List ByteArray) (ps : List (ByteArray × Int)) (ms : List S50) : Nat → List (Int × Int) → List Int → Option (List (Int × Int))
  | 0, _, _ => none
  | k + 1, bf, q => if q.length = 0 then some bf else
      if 0 ≤ q.getD 0 0 ∧ q.getD 0 0 < ms.length ∧ q.length ≤ 1048576 then
        (visitW (nextOf pv ps (namesOf refB (rd_T50 ms (q.getD 0 0)).f0)) (q.getD 0 0) bf (q.drop 1)).bind fun a => loopW pv ps ms k a.1 a.2
      else none
def chainW (bf : List (Int × Int)) : Nat → Int → List Int → Option (List Int)
  | 0, _, _ => none
  | k + 1, i, out => if i < 0 then some out else if out.length ≤ 1048576 ∧ i ≤ 1048576 then chainW bf k ((lookB bf i).getD 0) (out ++ [i]) else none
def i64B (a : Int) : Bool := decide (-9223372036854775808 ≤ a) && decide (a ≤ 9223372036854775807)
def whyEnd (bf : List (Int × Int)) (a : Int) : Option (List Int × Bool) :=
  match lookB bf a with
  | none => some ([], false)
  | some _ => (chainW bf 1048576 a []).bind fun out => some (out.reverse, true)
def closure_Why.f (os ms : List S50) (a : Int) : Option (List Int × Bool) :=
  if smallL os = true ∧ smallL ms = true ∧ i64B a = true then
    (seedW (provOf os) (prsOf ms 0) os [] []).bind fun z => (loopW (provOf os) (prsOf ms 0) ms 1048576 z.1 z.2).bind fun bf => whyEnd bf a
  else none
theorem why_open {os ms : List S50} {a : Int} {r : List Int × Bool} (h : closure_Why.f os ms a = some r) : smallL os = true ∧ smallL ms = true ∧ i64B a = true ∧
    ∃ bf1 q1 bf2, seedW (provOf os) (prsOf ms 0) os [] [] = some (bf1, q1) ∧ loopW (provOf os) (prsOf ms 0) ms 1048576 bf1 q1 = some bf2 ∧ whyEnd bf2 a = some r := by
  unfold closure_Why.f at h
  by_cases c : smallL os = true ∧ smallL ms = true ∧ i64B a = true
  · rw [if_pos c, Option.bind_eq_some_iff] at h
    obtain ⟨⟨bf1, q1⟩, h1, h2⟩ := h
    rw [Option.bind_eq_some_iff] at h2
    obtain ⟨bf2, h3, h4⟩ := h2
    exact ⟨c.1, c.2.1, c.2.2, bf1, q1, bf2, h1, h3, h4⟩
  · rw [if_neg c] at h
    cases h
theorem whyEnd_cases {bf : List (Int × Int)} {a : Int} {r : List Int × Bool} (h : whyEnd bf a = some r) : (lookB bf a = none ∧ r = ([], false)) ∨ ∃ x out, lookB bf a = some x ∧ chainW bf 1048576 a [] = some out ∧ r = (out.reverse, true) := by
  unfold whyEnd at h
  cases hl : lookB bf a with
  | none =>
    rw [hl] at h
    exact .inl ⟨rfl, (Option.some.inj h).symm⟩
  | some x =>
    rw [hl] at h
    simp only [Option.bind_eq_some_iff] at h
    obtain ⟨out, h1, h2⟩ := h
    exact .inr ⟨x, out, rfl, h1, (Option.some.inj h2).symm⟩
theorem loopW_cases {pv : List ByteArray} {ps : List (ByteArray × Int)} {ms : List S50} {k : Nat} {bf bf2 : List (Int × Int)} {q : List Int} (h : loopW pv ps ms (k + 1) bf q = some bf2) :
    (q = [] ∧ bf = bf2) ∨ ∃ (i : Nat) (q' : List Int) (bf3 : List (Int × Int)) (q3 : List Int), q = (i : Int) :: q' ∧ i < ms.length ∧ q'.length ≤ 1048576 ∧ visitW (nextOf pv ps (namesOf refB (rd_T50 ms (i : Int)).f0)) (i : Int) bf q' = some (bf3, q3) ∧ loopW pv ps ms k bf3 q3 = some bf2 := by
  simp only [loopW] at h
  cases q with
  | nil => exact .inl ⟨rfl, Option.some.inj h⟩
  | cons i q' =>
    rw [if_neg (by simp)] at h
    by_cases c : 0 ≤ (i :: q').getD 0 0 ∧ (i :: q').getD 0 0 < ms.length ∧ (i :: q').length ≤ 1048576
    · rw [if_pos c, Option.bind_eq_some_iff] at h
      obtain ⟨⟨bf3, q3⟩, h1, h2⟩ := h
      obtain ⟨c1, c2, c3⟩ := c
      have c1 : 0 ≤ i := c1
      have c2 : i < ms.length := c2
      obtain ⟨n, rfl⟩ := Int.eq_ofNat_of_zero_le c1
      exact .inr ⟨n, q', bf3, q3, rfl, by omega, by rw [List.length_cons] at c3; omega, h1, h2⟩
    · rw [if_neg c] at h
      cases h
theorem next_in {l : List S50} {pv : List ByteArray} {ns : List ByteArray} {i : Int} (h : i ∈ nextOf pv (prsOf l 0) ns) : ∃ j : Nat, j < l.length ∧ i = (j : Int) := by
  unfold nextOf at h
  obtain ⟨s, _, hs⟩ := List.mem_flatMap.1 h
  by_cases c : s ∈ pv
  · rw [if_pos c] at hs; cases hs
  · rw [if_neg c] at hs
    exact zs_in hs

/-! ### slices.Reverse -/
theorem wrapS {x : Int} (h0 : -4611686018427387904 ≤ x) (h1 : x ≤ 4611686018427387904) : wrap64 x = x := by unfold wrap64; omega
theorem setL_get {ws : List Int} {k i : Nat} {x : Int} (hk : k < ws.length) : (ws.set k x).getD i 0 = if i = k then x else ws.getD i 0 := by
  by_cases e : i = k
  · subst e
    rw [List.getD_eq_getElem?_getD, List.getElem?_set_self hk, if_pos rfl]; rfl
  · rw [List.getD_eq_getElem?_getD, List.getElem?_set_ne (Ne.symm e), if_neg e, ← List.getD_eq_getElem?_getD]
theorem rev_loop (xs : List Int) (hn : xs.length ≤ 1099511627776) : ∀ (d i : Nat) (ys : List Int), xs.length ≤ d + 2 * i → ys.length = xs.length → i ≤ xs.length → (∀ p, p < xs.length → ys.getD p 0 = if p < i ∨ xs.length ≤ p + i then xs.getD (xs.length - 1 - p) 0 else xs.getD p 0) →
    ∃ k, slices_Reverse_int_int.l0 k ys (i : Int) ((xs.length : Int) - 1 - (i : Int)) = some xs.reverse := by
  have hend : ∀ (i : Nat) (ys : List Int), xs.length ≤ 2 * i + 1 → ys.length = xs.length → (∀ p, p < xs.length → ys.getD p 0 = if p < i ∨ xs.length ≤ p + i then xs.getD (xs.length - 1 - p) 0 else xs.getD p 0) → ys = xs.reverse := by
    intro i ys hi hl hp
    refine List.ext_getElem (by rw [List.length_reverse]; exact hl) (fun p h1 h2 => ?_)
    have h3 := hp p (by omega)
    have h4 : ys.getD p 0 = xs.getD (xs.length - 1 - p) 0 := by
      rw [h3]
      by_cases c : p < i ∨ xs.length ≤ p + i
      · rw [if_pos c]
      · rw [if_neg c]
        have : xs.length - 1 - p = p := by omega
        rw [this]
    rw [List.getElem_reverse]
    rw [List.getD_eq_getElem?_getD, List.getElem?_eq_getElem h1, List.getD_eq_getElem?_getD, List.getElem?_eq_getElem (show xs.length - 1 - p < xs.length by omega)] at h4
    exact h4
  intro d
  induction d with
  | zero =>
    intro i ys hd hl hi hp
    refine ⟨1, ?_⟩
    simp only [slices_Reverse_int_int.l0]
    rw [if_neg (by omega), hend i ys (by omega) hl hp]
  | succ d ih =>
    intro i ys hd hl hi hp
    by_cases c : 2 * i + 1 < xs.length
    · have hr1 : rd ys ((xs.length : Int) - 1 - (i : Int)) = xs.getD (xs.length - 1 - i) 0 := by
        unfold rd
        have e : ((xs.length : Int) - 1 - (i : Int)).toNat = xs.length - 1 - i := by omega
        rw [e, hp _ (by omega), if_neg (by omega)]
      have hr2 : rd ys (i : Int) = xs.getD i 0 := by
        unfold rd
        rw [Int.toNat_natCast, hp _ (by omega), if_neg (by omega)]
      have et : ((xs.length : Int) - 1 - (i : Int)).toNat = xs.length - 1 - i := by omega
      obtain ⟨k, hk⟩ := ih (i + 1) ((ys.set i (xs.getD (xs.length - 1 - i) 0)).set (xs.length - 1 - i) (xs.getD i 0)) (by omega) (by rw [List.length_set, List.length_set]; exact hl) (by omega) (fun p hpl => by
        rw [setL_get (by rw [List.length_set]; omega), setL_get (by omega), hp p hpl]
        by_cases e1 : p = xs.length - 1 - i
        · rw [if_pos e1, if_pos (by omega), e1]
          congr 1
          omega
        · rw [if_neg e1]
          by_cases e2 : p = i
          · rw [if_pos e2, if_pos (by omega), e2]
          · rw [if_neg e2]
            by_cases e3 : p < i ∨ xs.length ≤ p + i
            · rw [if_pos e3, if_pos (by omega)]
            · rw [if_neg e3, if_neg (by omega)])
      refine ⟨k + 1, ?_⟩
      simp only [slices_Reverse_int_int.l0]
      rw [if_pos (by omega), if_pos (by omega), if_pos (by omega), if_pos (by omega), if_pos (by omega), hr1, hr2, et, Int.toNat_natCast, wrapS (x := (i : Int) + 1) (by omega) (by omega), wrapS (x := (xs.length : Int) - 1 - (i : Int) - 1) (by omega) (by omega)]
      have e4 : (i : Int) + 1 = ((i + 1 : Nat) : Int) := by omega
      have e5 : (xs.length : Int) - 1 - (i : Int) - 1 = (xs.length : Int) - 1 - ((i + 1 : Nat) : Int) := by omega
      rw [e4, e5]
      exact hk
    · refine ⟨1, ?_⟩
      simp only [slices_Reverse_int_int.l0]
      rw [if_neg (by omega), hend i ys (by omega) hl hp]
theorem reverse_f (xs : List Int) (hn : xs.length ≤ 1099511627776) : ∃ k, slices_Reverse_int_int.f k xs = some xs.reverse := by
  obtain ⟨k, hk⟩ := rev_loop xs hn xs.length 0 xs (by omega) rfl (by omega) (fun p hp => by rw [if_neg (by omega)])
  refine ⟨k, ?_⟩
  unfold slices_Reverse_int_int.f
  rw [wrapS (by omega) (by omega)]
  have : (xs.length : Int) - 1 - ((0 : Nat) : Int) = (xs.length : Int) - 1 := by omega
  rw [this] at hk
  exact hk
end Go.Proofs.Ythpjpkcfepmhkaa.PAll
namespace Go.Proofs.Ythpjpkcfepmhkaa.PAll
open Go.RowKit Go.Proofs.YthpjpkcfepmhkaaW.PrintWords Go.Proofs.YthpjpkcfepmhkaaW.PrintLast Go.Proofs.YthpjpkcfepmhkaaW.PrintMore
set_option linter.unusedVariables false
set_option linter.unusedSimpArgs false

def WhyEnd (w : World) (r1 : List Int) (r2 : Bool) (e : Ending) (w' : World) : Prop := ∃ v0_ : Value, e = .returned (.tuple #[v0_, .bool r2]) ∧ Kd.R (Kd.int .i64) 3 w' w.heap.size (fun _ => True) v0_ r1 ∧ Below w.heap.size w w'
theorem YW.pop {w1 wr : World} {vm : Value} {bd bp g8 g9 g10 bb : Nat} {A : Option Addr} {i : Int} {q : List Int} {bf : List (Int × Int)} {n c : Nat} (h : YW w1 wr vm bd bp g8 g9 g10 bb (.slice A n c) (i :: q) bf) :
    YW w1 (wr.setCell ⟨g10, 0, none⟩ (.slice (if c = 1 then A else A.map (·.add (1 * 1))) (n - 1) (c - 1))) vm bd bp g8 g9 g10 bb (.slice (if c = 1 then A else A.map (·.add (1 * 1))) (n - 1) (c - 1)) q bf := by
  have hQ := Kd.Q_drop (k := 1) h.q (by simp)
  exact (h.push (World.grownBy.refl wr _) hQ h.B).1

theorem chainW_cases {bf : List (Int × Int)} {k : Nat} {i : Int} {out r : List Int} (h : chainW bf (k + 1) i out = some r) : (i < 0 ∧ out = r) ∨ (0 ≤ i ∧ i ≤ 1048576 ∧ out.length ≤ 1048576 ∧ chainW bf k ((lookB bf i).getD 0) (out ++ [i]) = some r) := by
  simp only [chainW] at h
  by_cases c : i < 0
  · rw [if_pos c] at h
    exact .inl ⟨c, Option.some.inj h⟩
  · rw [if_neg c] at h
    by_cases d : out.length ≤ 1048576 ∧ i ≤ 1048576
    · rw [if_pos d] at h
      exact .inr ⟨by omega, d.2, d.1, h⟩
    · rw [if_neg d] at h
      cases h
theorem chainW_len {bf : List (Int × Int)} {r : List Int} : ∀ {k : Nat} {i : Int} {out : List Int}, chainW bf k i out = some r → out.length ≤ 1048577 → r.length ≤ 1048577
  | 0, i, out, h, _ => by cases h
  | k + 1, i, out, h, hl => by
    rcases chainW_cases h with ⟨_, h2⟩ | ⟨_, _, h3, h4⟩
    · rw [← h2]; exact hl
    · exact chainW_len h4 (by rw [List.length_append, List.length_singleton]; omega)
set_option maxRecDepth 10000 in
set_option maxHeartbeats 16000000 in
theorem why_calls (A0 : Option Addr) (c0 : Nat) (l0 : List S50) (A1 : Option Addr) (c1 : Nat) (l1 : List S50) (a : Int) (r1 : List Int) (r2 : Bool) (w : World) (hr0 : Kd.C k50 w A0 l0.length l0) (hr1 : Kd.C k50 w A1 l1.length l1) (h : closure_Why.f l0 l1 a = some (r1, r2)) :
    Calls Try.prog 29 #[.slice A0 l0.length c0, .slice A1 l1.length c1, .int .i64 a] w fun e w' => WhyEnd w r1 r2 e w' := by
  obtain ⟨s0, s1, ha, bf1, q1, bf2, hseed, hrun, hres⟩ := why_open h
  have hu50 := Try.underlying50
  have hu83 := Try.underlying83
  have hmm := @run_makeMap Try.prog
  have HR0 := Lib.hid hr0
  have HR1 := Lib.hid hr1
  have hl0 := (smallL_iff.1 s0).1
  have hl1 := (smallL_iff.1 s1).1
  have HPL := Lib.hid (show (prsOf l1 0).length ≤ 1048576 from by have := prs_len s1 l1.length; rwa [List.take_length] at this)
  have HPI := Lib.hid (fun ns i (h : i ∈ nextOf (provOf l0) (prsOf l1 0) ns) => next_in h)
  have S0 := Lib.hid s0
  have S1 := Lib.hid s1
  have HSEED := Lib.hid hseed
  have HRUN := Lib.hid hrun
  have HRES := Lib.hid hres
  have HKA := Lib.hid (show keyOf Try.prog 3 (.int .i64 a) = some (lkI a) from by
    unfold i64B at ha
    simp only [Bool.and_eq_true, decide_eq_true_eq] at ha
    exact keyI ha.1 ha.2)
  clear hr0 hr1 s0 s1 h hseed hrun hres ha
  go_enter Try.func29, Try.ntmps29
  go_wp2_with fail
  refine (build_calls A0 c0 l0 A1 c1 l1 w HR0.out HR1.out S0.out S1.out).mono ?_
  rintro e w1 ⟨bd, bp, f, g, rfl, hB1, hG1, hV1, hbd, hbp⟩
  have HB1 := Lib.hid hB1
  have HG1 := Lib.hid hG1
  have HV1 := Lib.hid hV1
  have hs1 := below_size hB1
  clear hB1 hG1 hV1 hbd hbp
  generalize provOf l0 = pv at *
  generalize prsOf l1 0 = ps at *
  go_wp2
  have HW0 := Lib.hid (YW.start w1 (.slice A1 l1.length c1) bd bp)
  generalize (((w1.alloc (.cells #[.slice A1 l1.length c1, .map (some bd), .map (some bp)] 83)).alloc (.map #[] 0)).alloc (.cells #[.map (some (w1.heap.size + 1))] 97)).alloc (.cells #[.slice none 0 0] 24) = wa at *
  clear hmm
  go_loopg [26] l0.length (fun kq v26 w' => ∃ (k : Nat) (qv : Value) (q : List Int) (bf : List (Int × Int)), v26 = .int .i64 k ∧ Aside0 (kq + k = l0.length ∧ seedW pv ps (l0.drop k) bf q = some (bf1, q1)) ∧ Aside0 (YW w1 w' (.slice A1 l1.length c1) bd bp w1.heap.size (w1.heap.size + 1 + 1) (w1.heap.size + 1 + 1 + 1) (w1.heap.size + 1) qv q bf))
  case atStart => exact ⟨0, _, _, _, rfl, ⟨by omega, HSEED.out⟩, ⟨HW0.out⟩⟩
  case round =>
    clear HW0 HSEED
    obtain ⟨k, qv, q, bf, rfl, HA, HS⟩ := hrel
    cases gk with
    | zero =>
      have hk : l0.length ≤ k := by have := HA.out.1; omega
      have hkf : decide (k < l0.length) = false := decide_eq_false (by omega)
      have hsd := HA.out.2
      rw [List.drop_eq_nil_of_le hk] at hsd
      simp only [seedW, Option.some.injEq, Prod.mk.injEq] at hsd
      obtain ⟨rfl, rfl⟩ := hsd
      clear HA hk HR0 S0 hl0
      go_wp2
      go_loopg [] 1048576 (fun kq w' => ∃ (qv : Value) (q : List Int) (bf : List (Int × Int)), Aside0 (loopW pv ps l1 kq bf q = some bf2) ∧ Aside0 (YW w1 w' (.slice A1 l1.length c1) bd bp w1.heap.size (w1.heap.size + 1 + 1) (w1.heap.size + 1 + 1 + 1) (w1.heap.size + 1) qv q bf))
      case atStart => exact ⟨qv, q, bf, ⟨HRUN.out⟩, ⟨HS.out⟩⟩
      case round =>
        clear HS HRUN
        obtain ⟨qv, q, bf, HL, HS⟩ := hrel
        cases gk with
        | zero =>
          exfalso
          have := HL.out
          simp [loopW] at this
        | succ kq =>
          have hcq := blk_cell HS.out.cq 0
          simp only [List.getElem?_toArray, List.getElem?_cons_succ, List.getElem?_cons_zero] at hcq
          rcases loopW_cases HL.out with ⟨rfl, rfl⟩ | ⟨i, q', bf3, q3, rfl, hi, hql, hvis, hloop⟩
          · obtain ⟨Aq, cq, rfl, _⟩ := Kd.Q_slice HS.out.q
            have hcb := blk_cell HS.out.cb 0
            simp only [List.getElem?_toArray, List.getElem?_cons_succ, List.getElem?_cons_zero] at hcb
            have hlk := HS.out.bf.look_ok lawI Try.underlying97 (zeroI _) HKA.out
            have hso : (bgW bf a).isSome = (lookB bf a).isSome := by unfold bgW; cases lookB bf a <;> rfl
            rw [hso] at hlk
            generalize (bgW bf a).getD (.int .i64 0) = z at hlk
            have hbw := below_then HB1.out hs1 HS.out.B
            have HB := Lib.hid (And.intro HS.out.cb (And.intro HS.out.bf hbw))
            have hgl9 := blk_lt HS.out.cb
            have hbs := below_size hbw
            clear hso HL hbw HS
            rcases whyEnd_cases HRES.out with ⟨hn, hr⟩ | ⟨x, out1, hn, hch, hr⟩
            · rw [hn] at hlk
              have hlk2 : (Instr.lookup 97 (.map (some (w1.heap.size + 1))) (.int .i64 a) true).run Try.prog wr = .ok (.tuple #[z, .bool false]) wr := hlk
              injection hr with hra hrb
              subst hra
              subst hrb
              clear hn hlk
              go_wp2
              go_ret2
              exact ⟨_, rfl, Kd.R_nil _ _ _ _ _, HB.out.2.2⟩
            · rw [hn] at hlk
              have hlk2 : (Instr.lookup 97 (.map (some (w1.heap.size + 1))) (.int .i64 a) true).run Try.prog wr = .ok (.tuple #[z, .bool true]) wr := hlk
              injection hr with hra hrb
              subst hra
              subst hrb
              have HCH := Lib.hid hch
              have HCL := Lib.hid (show out1.length ≤ 1099511627776 from Nat.le_trans (chainW_len hch (by simp)) (by omega))
              clear hn hlk hch
              go_wp2
              go_loopg [17, 18] 1048576 (fun kq v17 v18 w' => ∃ (i : Int) (out : List Int), v18 = .int .i64 i ∧ Aside0 (chainW bf kq i out = some out1) ∧ Aside0 (w'.heap[w1.heap.size + 1 + 1]? = some (.cells #[.map (some (w1.heap.size + 1))] 97 (0, 0)) ∧ MapV lkI w' 3 (w1.heap.size + 1) bf.length (bgW bf) ∧ Below w.heap.size w w' ∧ KI.R 3 w' w.heap.size (fun _ => True) v17 out))
              case atStart => exact ⟨a, [], rfl, ⟨HCH.out⟩, ⟨HB.out.1, HB.out.2.1, HB.out.2.2, Kd.R_nil _ _ _ _ _⟩⟩
              case round =>
                clear HCH HB hcb hgl9 hbs hlk2 hcq
                obtain ⟨i, out, rfl, HCH, HB⟩ := hrel
                cases gk with
                | zero =>
                  exfalso
                  have := HCH.out
                  simp [chainW] at this
                | succ iq =>
                  have hbs := below_size HB.out.2.2.1
                  rcases chainW_cases HCH.out with ⟨hi, rfl⟩ | ⟨hi0, hi1, hol, hch⟩
                  · have hge : ¬ (0 ≤ i) := by omega
                    obtain ⟨kr, hkr⟩ := reverse_f out HCL.out
                    have HKR := Lib.hid hkr
                    clear hkr HCH
                    go_wp2_with fail
                    refine (slices_Reverse_int_int.calls kr (fun _ => True) u17 out out.reverse w wr HB.out.2.2.1 HB.out.2.2.2 HKR.out).mono ?_
                    rintro e w9 ⟨rfl, hR9, hB9, _⟩
                    have HE := Lib.hid (And.intro (Kd.R_mono (ok' := fun _ => True) hR9 (fun _ _ => trivial)) hB9)
                    clear hR9 hB9
                    go_wp2
                    go_ret2
                    exact ⟨u17, rfl, HE.out⟩
                  · have HCH2 := Lib.hid hch
                    have hcb := blk_cell HB.out.1 0
                    simp only [List.getElem?_toArray, List.getElem?_cons_succ, List.getElem?_cons_zero] at hcb
                    have hgl9 := blk_lt HB.out.1
                    clear hch HCH
                    go_wp2_with (first | (at_builtin; go_must (refine Kd.R_append KI (w0 := w) w.heap.size rfl (.tmp 67) (.tmp 69) 24 3 (.int .i64 0) 8 rfl Try.underlying24 info3 rfl (by decide) (by decide) u17 out i [.int .i64 i] (fun _ => True) (fun _ => False) rfl ?aX ?aP (fun _ hk => hk.elim) ?aF ?aO ?aB ?aS ?aL ?_; (case aX => go_simp); (case aP => rfl); (case aF => exact fun _ _ => trivial); (case aO => exact HB.out.2.2.2); (case aB => exact HB.out.2.2.1); (case aS => exact hbs); (case aL => omega); intro v1 w7 ho hb hg hat; have hcb7 := blk_grown HB.out.1 hg (Kd.R_ne HB.out.2.2.2 HB.out.1 (by decide)); have hm7 := HB.out.2.1.grown hg (HB.out.2.1.ne_row HB.out.2.2.2); have hlk7 := hm7.look lawI Try.underlying97 (zeroI _) (keyI (i := i) (by omega) (by omega)); have hgv : (bgW bf i).getD (.int .i64 0) = .int .i64 ((lookB bf i).getD 0) := (by unfold bgW; cases lookB bf i <;> rfl); rw [hgv] at hlk7; have hc7 := blk_cell hcb7 0; simp only [List.getElem?_toArray, List.getElem?_cons_succ, List.getElem?_cons_zero] at hc7; have hl7 := blk_lt hcb7; have HE := Lib.hid (And.intro hcb7 (And.intro hm7 (And.intro hb ho))); clear ho hb hg hat hcb7 hm7 hgv)))
                    go_roundg iq
                    case measure => omega
                    case rel => exact ⟨_, out ++ [i], rfl, ⟨HCH2.out⟩, ⟨HE.out⟩⟩
          · obtain ⟨gq, oq, cq, hqv, hgq, _, _⟩ := Kd.Q_form HS.out.q (by simp)
            subst hqv
            have hq0 := (Kd.Q_cell (0 : Int) HS.out.q (0 : Int) (by omega) (by simp only [List.length_cons]; omega)).1
            have hq0 : wr.cell? ⟨gq, oq, none⟩ = some (.int .i64 (i : Int)) := hq0
            obtain ⟨i0, hi0, _, hsz0, _⟩ := info_parts info3
            have hcut := cut_from (P := Try.prog) 24 3 .i64 Try.underlying24 hi0 1 hsz0 (some ⟨gq, oq, none⟩) (((i : Int) :: q').length) cq 1 (by omega) (by simp only [List.length_cons]; omega)
            have hcut : ∀ W : World, (Instr.slice 24 (.slice (some ⟨gq, oq, none⟩) (((i : Int) :: q').length) cq) (some (.int .i64 1)) none none).run Try.prog W = .ok (.slice (if cq = 1 then (some ⟨gq, oq, none⟩ : Option Addr) else (some ⟨gq, oq, none⟩ : Option Addr).map (·.add (1 * 1))) (((i : Int) :: q').length - 1) (cq - 1)) W := hcut
            have hpop := HS.out.pop
            generalize (if cq = 1 then (some ⟨gq, oq, none⟩ : Option Addr) else (some ⟨gq, oq, none⟩ : Option Addr).map (·.add (1 * 1))) = Aq' at hcut hpop
            generalize cq - 1 = cq' at hcut hpop
            simp only [List.length_cons, Nat.add_sub_cancel] at hcut hpop hcq
            have HP := Lib.hid hpop
            have HV := Lib.hid (And.intro hvis hloop)
            have hgl10 := blk_lt HS.out.cq
            have hzf := blk_frozen HS.out.cq 0
            clear hpop hvis hloop HL hi0 hsz0 HS
            obtain ⟨ad, B0, d0, B1, d1, hA1e, hx0, hx1, hle0, hC0, hle1, hC1⟩ := at_T50 HR1.out (i : Int) (Int.natCast_nonneg _) (by omega)
            subst hA1e
            have HN := Lib.hid (names_small S1.out refB hi)
            go_wp2
            generalize wr.setCell ⟨w1.heap.size + 1 + 1 + 1, 0, none⟩ (.slice Aq' q'.length cq') = w5 at *
            have H5 := Lib.hid (HP.out.below (below_drew (Below.refl _ _)))
            have hB := below_then HB1.out hs1 H5.out.B
            have hB5 := below_then HB1.out hs1 HP.out.B
            have hx0' := (hB5.cell (World.block_lt_of_cell? w _ hx0)).trans hx0
            have hx1' := (hB5.cell (World.block_lt_of_cell? w _ hx1)).trans hx1
            replace hx0 := (hB.cell (World.block_lt_of_cell? w _ hx0)).trans hx0
            replace hx1 := (hB.cell (World.block_lt_of_cell? w _ hx1)).trans hx1
            simp only [Int.toNat_natCast] at hx0 hx1 hx0' hx1'
            have HX := Lib.hid (Kd.C_below hC0 hB)
            have p0 := blk_cell HP.out.p 0
            have p1 := blk_cell HP.out.p 1
            have p2 := blk_cell HP.out.p 2
            have p0' := blk_cell H5.out.p 0
            have p1' := blk_cell H5.out.p 1
            have p2' := blk_cell H5.out.p 2
            simp only [List.getElem?_toArray, List.getElem?_cons_succ, List.getElem?_cons_zero] at p0 p1 p2 p0' p1' p2'
            have pl := blk_lt H5.out.p
            clear hB hB5 hC0 hC1 hle0 hle1 hcq hq0 hgl10 hzf hcut HP
            generalize rd_T50 l1 i = x at *
            obtain ⟨x0, x1⟩ := x
            dsimp only at hx0 hx1 hx0' hx1' HX HN HV
            go_region_with (first | (go_at_call 57; refine (next_calls (.slice (some ad) l1.length c1) bd bp w.heap.size ps.length pv.length f g ps pv B0 d0 x0 B1 x1.length d1 w5.drew (HG1.out.below H5.out.B (Nat.le_refl _)) (HV1.out.below H5.out.B HV1.out.lt) HX.out HN.out.1 HN.out.2.2 HPL.out).mono ?_; rintro e w6 ⟨u, rfl, hR, hb6⟩; have HR6 := Lib.hid hR; have HNE := Lib.hid (show ∀ k, u.ownBlock = some k → some k ≠ (Value.slice Aq' q'.length cq').ownBlock from fun k hk e => (by have := Kd.R_base hR k hk; have := Kd.Q_lt H5.out.q k e.symm; omega)); have HW6 := Lib.hid (H5.out.below hb6); clear hR hb6) | (go_at_call 56; refine (visitW_calls w1 (.slice (some ad) l1.length c1) bd bp w1.heap.size (w1.heap.size + 1 + 1) (w1.heap.size + 1 + 1 + 1) (w1.heap.size + 1) l1.length (.slice Aq' q'.length cq') q' q3 bf bf3 (i : Int) w6 u (nextOf pv ps (namesOf refB x0)) w5.drew.heap.size hl1 HW6.out HR6.out HNE.out (HPI.out _) HV.out.1).mono ?_; rintro e w7 ⟨rfl, qv', hy⟩; have HW7 := Lib.hid hy; clear hy))
            all_goals go_wp2
            all_goals (go_roundg kq; (case measure => omega); (case rel => exact ⟨qv', q3, bf3, ⟨HV.out.2⟩, ⟨HW7.out⟩⟩))
    | succ kq =>
      have hk : k < l0.length := by have := HA.out.1; omega
      obtain ⟨ad, B0, d0, B1, d1, rfl, hx0, hx1, hle0, hC0, hle1, hC1⟩ := at_T50 HR0.out (k : Int) (Int.natCast_nonneg _) (by omega)
      have hB := below_then HB1.out hs1 HS.out.B
      replace hx0 := (hB.cell (World.block_lt_of_cell? w _ hx0)).trans hx0
      replace hx1 := (hB.cell (World.block_lt_of_cell? w _ hx1)).trans hx1
      simp only [Int.toNat_natCast] at hx0 hx1
      have HN := Lib.hid (names_small S0.out refB hk)
      have hsd := HA.out.2
      rw [List.drop_eq_getElem_cons hk, ← rd50 hk] at hsd
      simp only [seedW, Option.bind_eq_some_iff] at hsd
      obtain ⟨⟨bf3, q3⟩, hv1, hv2⟩ := hsd
      have HX := Lib.hid (Kd.C_below hC0 hB)
      have HF := Lib.hid (And.intro hv1 hv2)
      clear hB hC1 hle0 hle1 hC0 hv1 hv2
      generalize rd_T50 l0 k = x at *
      obtain ⟨x0, x1⟩ := x
      dsimp only at hx0 hx1 HX HN HF
      have p0 := blk_cell HS.out.p 0
      have p1 := blk_cell HS.out.p 1
      have p2 := blk_cell HS.out.p 2
      simp only [List.getElem?_toArray, List.getElem?_cons_succ, List.getElem?_cons_zero] at p0 p1 p2
      have pl := blk_lt HS.out.p
      go_wp2_with fail
      have hBW2 := HS.out.below (below_alloc (Below.refl _ _) (.cells #[.slice B0 x0.length d0, .slice B1 x1.length d1] 50))
      have hC2 := Kd.C_below HX.out (below_alloc (Below.refl _ _) (.cells #[.slice B0 x0.length d0, .slice B1 x1.length d1] 50))
      clear hx0 hx1 HS HX p0 p1 p2 pl
      generalize wr.alloc (.cells #[.slice B0 x0.length d0, .slice B1 x1.length d1] 50) = w2 at *
      have HW2 := Lib.hid hBW2
      clear hBW2
      refine (next_calls (.slice A1 l1.length c1) bd bp w.heap.size ps.length pv.length f g ps pv B0 d0 x0 B1 x1.length d1 w2 (HG1.out.below HW2.out.B (Nat.le_refl _)) (HV1.out.below HW2.out.B HV1.out.lt) hC2 HN.out.1 HN.out.2.2 HPL.out).mono ?_
      rintro e w3 ⟨u, rfl, hR, hb3⟩
      have hW3 := HW2.out.below hb3
      have hne : ∀ k, u.ownBlock = some k → some k ≠ qv.ownBlock := fun k hk e => by
        have := Kd.R_base hR k hk
        have := Kd.Q_lt HW2.out.q k e.symm
        omega
      have HR3 := Lib.hid hR
      have HW3 := Lib.hid hW3
      have HNE := Lib.hid hne
      clear hR hb3 hC2 HW2 hW3 hne
      go_wp2_with fail
      refine (visitW_calls w1 (.slice A1 l1.length c1) bd bp w1.heap.size (w1.heap.size + 1 + 1) (w1.heap.size + 1 + 1 + 1) (w1.heap.size + 1) l1.length qv q q3 bf bf3 (-1) w3 u (nextOf pv ps (namesOf refB x0)) w2.heap.size hl1 HW3.out HR3.out HNE.out (HPI.out _) HF.out.1).mono ?_
      rintro e w4 ⟨rfl, qv', hy⟩
      have HW4 := Lib.hid hy
      clear hy HW3 HR3 HNE
      go_wp2
      go_roundg kq
      case measure => omega
      case rel => exact ⟨k + 1, qv', q3, bf3, by go_num, ⟨by have := HA.out.1; omega, HF.out.2⟩, ⟨HW4.out⟩⟩
theorem closure_Why.calls (A0 : Option Addr) (c0 : Nat) (l0 : List S50) (A1 : Option Addr) (c1 : Nat) (l1 : List S50) (a2 : Int) (r1 : List Int) (r2 : Bool) (w : World) (hr0 : Kd.C k50 w A0 l0.length l0) (hc0 : l0.length ≤ c0) (hr1 : Kd.C k50 w A1 l1.length l1) (hc1 : l1.length ≤ c1) (h : closure_Why.f l0 l1 a2 = some (r1, r2)) :
    Calls Try.prog 29 #[.slice A0 l0.length c0, .slice A1 l1.length c1, .int .i64 a2] w fun e w' => ∃ v0_ : Value, e = .returned (.tuple #[v0_, .bool r2]) ∧ Kd.R (Kd.int .i64) 3 w' w.heap.size (fun _ => True) v0_ r1 ∧ Below w.heap.size w w' :=
  (why_calls A0 c0 l0 A1 c1 l1 a2 r1 r2 w hr0 hr1 h).mono fun e w' h => h
end Go.Proofs.Ythpjpkcfepmhkaa.PAll
namespace Go.Proofs.Ythpjpkcfepmhkaa.PAll
open Go.RowKit Go.Proofs.YthpjpkcfepmhkaaW.PrintWords Go.Proofs.YthpjpkcfepmhkaaW.PrintLast Go.Proofs.YthpjpkcfepmhkaaW.PrintMore
set_option linter.unusedVariables false
set_option linter.unusedSimpArgs false

def uniqB (ps : List (ByteArray × Int)) : Bool := ps.all fun p => decide ((zsOf ps p.1).length ≤ 1)
def closure_Unique.f (ms : List S50) : Option Bool := if smallL ms = true then some (uniqB (prsOf ms 0)) else none
theorem uniqB_false {ps : List (ByteArray × Int)} {s : ByteArray} (h : 1 < (zsOf ps s).length) : uniqB ps = false := by
  unfold uniqB
  rw [List.all_eq_false]
  obtain ⟨i, hi⟩ := List.exists_mem_of_length_pos (show 0 < (zsOf ps s).length by omega)
  unfold zsOf at hi
  obtain ⟨p, hp, _⟩ := List.mem_map.1 hi
  obtain ⟨h1, h2⟩ := List.mem_filter.1 hp
  refine ⟨p, h1, ?_⟩
  rw [of_decide_eq_true h2]
  simp only [decide_eq_true_eq]
  omega
theorem zs_pos {ps : List (ByteArray × Int)} {p : ByteArray × Int} (h : p ∈ ps) : zsOf ps p.1 ≠ [] := by
  unfold zsOf
  intro e
  have : p.2 ∈ (ps.filter fun q => decide (q.1 = p.1)).map (fun q => q.2) := List.mem_map.2 ⟨p, List.mem_filter.2 ⟨h, by simp⟩, rfl⟩
  rw [e] at this
  cases this
theorem uniqB_true {ps : List (ByteArray × Int)} {g : ByteArray → Option Value} (hn : ∀ s, g s = none → zsOf ps s = []) (h : ∀ s v, g s = some v → (zsOf ps s).length ≤ 1) : uniqB ps = true := by
  unfold uniqB
  rw [List.all_eq_true]
  intro p hp
  rw [decide_eq_true_eq]
  cases hg : g p.1 with
  | none => exact absurd (hn _ hg) (zs_pos hp)
  | some v => exact h _ v hg
theorem atOf_inj {g : Option Value} {c : Value} (h : ∀ z, atOf g z = .held c) : g = some c := by
  cases g with
  | none => have := h .nil; cases this
  | some v =>
    have := h .nil
    injection this with this
    rw [this]
theorem none_C (w : World) : Kd.C k50 w none ([] : List S50).length [] := ⟨rfl, by simp, fun h => absurd h (by simp)⟩
def UniqueEnd (w : World) (r : Bool) (e : Ending) (w' : World) : Prop := e = .returned (.bool r) ∧ Below w.heap.size w w'

set_option maxRecDepth 10000 in
set_option maxHeartbeats 8000000 in
theorem unique_calls (A0 : Option Addr) (c0 : Nat) (l0 : List S50) (r : Bool) (w : World) (hr0 : Kd.C k50 w A0 l0.length l0) (h : closure_Unique.f l0 = some r) :
    Calls Try.prog 26 #[.slice A0 l0.length c0] w fun e w' => UniqueEnd w r e w' := by
  have hsm : smallL l0 = true := by
    unfold closure_Unique.f at h
    by_cases c : smallL l0 = true
    · exact c
    · rw [if_neg c] at h; cases h
  have hres : r = uniqB (prsOf l0 0) := by
    unfold closure_Unique.f at h
    rw [if_pos hsm] at h
    exact (Option.some.inj h).symm
  have hfl : ∀ (x a b : Value) (W : World), (Instr.field 83 (.agg #[x, a, b]) 1).run Try.prog W = .ok a W := fun x a b W => by kernel_rfl
  have HR0 := Lib.hid hr0
  have S0 := Lib.hid hsm
  have HRES := Lib.hid hres
  clear hr0 h hsm hres
  go_enter Try.func26, Try.ntmps26
  go_wp2_with fail
  refine (build_calls none 0 [] A0 c0 l0 w (none_C w) HR0.out rfl S0.out).mono ?_
  rintro e w1 ⟨bd, bp, f, g, rfl, hB1, hG1, hV1, hbd, hbp⟩
  generalize prsOf l0 0 = ps at *
  obtain ⟨D, hD1, hD2⟩ := hG1.map
  have HB1 := Lib.hid hB1
  have HG1 := Lib.hid hG1
  have HD := Lib.hid hD2
  have hs1 := below_size hB1
  clear hB1 hG1 hV1 hbd hbp hD2
  go_wp2_with (at_range; refine wpList_range_own _ rfl _ 80 rfl 9 24 lawS Try.underlying80 rawR bd ps.length D rfl hD1 ?_; intro w2 hrg hg2 hs2; have HRG := Lib.hid hrg; have HB2 := Lib.hid (show Below w1.heap.size w1 w2 from ⟨hg2.os, hg2.tape, hg2.output, hg2.size, fun i hi => hg2.block i hi (by simp)⟩); clear hrg hg2 hs2)
  (try go_frame)
  clear hD1
  go_loopg [] ((Maps.size D) + 1) (fun kq w' => ∃ (left : Lit → Bool) (cnt : Nat), Aside0 (cnt < kq) ∧ Aside0 (w'.ranges Try.prog 9 rawR bd w1.heap.size ps.length D left cnt ∧ Below w1.heap.size w1 w') ∧ Aside0 (∀ s v, g s = some v → left (lkS s) = false → (zsOf ps s).length ≤ 1))
  case atStart => exact ⟨_, _, ⟨Nat.lt_succ_self _⟩, ⟨HRG.out, HB2.out⟩, ⟨fun s v hs hl => by rw [has_at HD.out, hs] at hl; cases hl⟩⟩
  case round =>
    clear HRG HB2
    obtain ⟨left, cnt, HC, HS, HL⟩ := hrel
    cases gk with
    | zero => exact absurd HC.out (by omega)
    | succ kq =>
      have hrg := HS.out.1
      go_wp2_with (at_next; refine wpList_next_ranges _ rfl _ rfl 9 lawS rawR Value.string id (fun key kl hkey => by obtain ⟨x, hx, _⟩ := Maps.keyOf_str Try.underlying9 hkey; exact ⟨⟨x.toArray⟩, hx⟩) (fun v y hv => ⟨v, rfl⟩) bd w1.heap.size ps.length D left cnt rfl hrg ?_ ?_)
      · intro hc0 hl0
        have hu : uniqB ps = true := uniqB_true HG1.out.has (fun s v hs => HL.out s v hs (hl0 _))
        have HU := Lib.hid hu
        clear hc0 hl0 hrg hu
        go_wp2
        go_ret
        refine ⟨?_, below_then HB1.out hs1 HS.out.2⟩
        rw [HRES.out, HU.out]; rfl
      · intro x c kl d pl w2 cnt2 hkey hlk hv hat hrg2 hlt hg2 hs2 hen
        have hkl : kl = lkS x := by
          obtain ⟨y, hy, rfl, _⟩ := Maps.keyOf_str Try.underlying9 hkey
          unfold encStr at hy
          injection hy with hy
          rw [hy]
          rfl
        have hd : d = .held c := by
          unfold rawR at hv
          injection hv with hv
          injection hv with hv _
          exact hv.symm
        have hgx : g x = some c := atOf_inj (fun z => by rw [← HD.out x z, ← hkl, hat z, hd])
        have hrow := (HG1.out.rows x).1
        rw [hgx, Option.getD_some] at hrow
        obtain ⟨Ac, cc, rfl⟩ := Kd.R_slice hrow
        have hzl : (zsOf ps x).length ≤ 9223372036854775807 := (Kd.R_reads' hrow).2.2.2.1
        have HK := Lib.hid (And.intro hkl hgx)
        have HR2 := Lib.hid (And.intro hrg2 (And.intro hlt (HS.out.2.grown hg2 HS.out.2.size (fun k hk => by cases hk; exact Nat.le_refl _))))
        clear hkey hlk hv hat hrg2 hlt hg2 hs2 hkl hd hgx hrow hrg
        by_cases h1 : 1 < (zsOf ps x).length
        · have HU := Lib.hid (uniqB_false h1)
          have h1' : (1 : Int) < ((zsOf ps x).length : Int) := by omega
          go_wp2
          go_ret
          refine ⟨?_, below_then HB1.out hs1 HR2.out.2.2⟩
          rw [HRES.out, HU.out]; rfl
        · have h1' : ¬ (1 : Int) < ((zsOf ps x).length : Int) := by omega
          have HN := Lib.hid h1
          go_wp2
          go_roundg kq
          case measure => omega
          case rel =>
            refine ⟨_, cnt2, ⟨?_⟩, ⟨HR2.out.1, HR2.out.2.2⟩, ⟨fun s v hs hl => ?_⟩⟩
            · have := HC.out; have := HR2.out.2.1; omega
            · by_cases e : left (lkS s) = false
              · exact HL.out s v hs e
              · have e : left (lkS s) = true := by simpa using e
                rw [e, Bool.true_and, HK.out.1] at hl
                have hsk : (lkS s).sameKey (lkS x) = true := by simpa using hl
                have := lkS_inj _ _ (WideAt.sameKey_eq hsk)
                rw [this]
                have := HN.out
                omega
theorem closure_Unique.calls (A0 : Option Addr) (c0 : Nat) (l0 : List S50) (r : Bool) (w : World) (hr0 : Kd.C k50 w A0 l0.length l0) (hc0 : l0.length ≤ c0) (h : closure_Unique.f l0 = some r) :
    Calls Try.prog 26 #[.slice A0 l0.length c0] w fun e w' => e = .returned (.bool r) ∧ Below w.heap.size w w' :=
  (unique_calls A0 c0 l0 r w hr0 h).mono fun e w' h => h
end Go.Proofs.Ythpjpkcfepmhkaa.PAll
namespace Go.Proofs.Ythpjpkcfepmhkaa.PAll
open Go.RowKit Go.Proofs.YthpjpkcfepmhkaaW.PrintWords Go.Proofs.YthpjpkcfepmhkaaW.PrintLast Go.Proofs.YthpjpkcfepmhkaaW.PrintMore
attribute [local go_sem] max2_int min2_int max_two min_two max_three min_three max_four min_four   -- for this text's walks alone
set_option linter.unusedVariables false
set_option linter.unusedSimpArgs false

/-! ### arlinkref04_Numbers: function 17 -/
def arlinkref04_Numbers.l0 : Nat → List Int → List Int → Int → Option (Bool)
 | 0, _, _, _ => none
 | k + 1, x0, x1, x5 => if x5 < (x0.length : Int) then (if 0 ≤ x5 then (if x5 < (x1.length : Int) then (if (rd x0 x5) = (rd x1 x5) then (arlinkref04_Numbers.l0 k x0 x1 (wrap64 (x5 + 1))) else (some false)) else (none)) else (none)) else (some true)
def arlinkref04_Numbers.f (k : Nat) (l0 : List Int) (l1 : List Int) : Option (Bool) := if (l0.length : Int) = (l1.length : Int) then (arlinkref04_Numbers.l0 k l0 l1 0) else (some false)
theorem arlinkref04_Numbers.mono_l : ∀ k, (∀ y0 y1 y2, LeO (arlinkref04_Numbers.l0 k y0 y1 y2) (arlinkref04_Numbers.l0 (k + 1) y0 y1 y2))
 | 0 => fun _ _ _ r h => by simp [arlinkref04_Numbers.l0] at h
 | k + 1 => by
  have ih0 := arlinkref04_Numbers.mono_l k
  ·intro y0 y1 y2
   unfold arlinkref04_Numbers.l0
   repeat' first
   | (with_reducible exact ih0 _ _ _)
   | (with_reducible exact LeO.refl _)
   | (with_reducible exact LeO.none _)
   | (with_reducible refine LeO.ite ?_ ?_)
   | (with_reducible refine LeO.bind ?_ (fun _ => ?_))
   | exact ih0 _ _ _
   | exact LeO.none _
   | refine LeO.ite ?_ ?_
   | refine LeO.bind ?_ (fun _ => ?_)
theorem arlinkref04_Numbers.mono : ∀ a0 a1 k, LeO (arlinkref04_Numbers.f k a0 a1) (arlinkref04_Numbers.f (k + 1) a0 a1) := by
 intro a0 a1 k
 have ih0 := arlinkref04_Numbers.mono_l k
 unfold arlinkref04_Numbers.f
 repeat' first
   | (with_reducible exact ih0 _ _ _)
   | (with_reducible exact LeO.refl _)
   | (with_reducible exact LeO.none _)
   | (with_reducible refine LeO.ite ?_ ?_)
   | (with_reducible refine LeO.bind ?_ (fun _ => ?_))
   | exact ih0 _ _ _
   | exact LeO.none _
   | refine LeO.ite ?_ ?_
   | refine LeO.bind ?_ (fun _ => ?_)
set_option maxHeartbeats 8000000 in
set_option maxRecDepth 100000 in
theorem arlinkref04_Numbers.calls (k : Nat) (A0 : Option Addr) (c0 : Nat) (l0 : List Int) (A1 : Option Addr) (c1 : Nat) (l1 : List Int) (r : Bool) (w : World) (hr0 : Kd.C (Kd.int .i64) w A0 l0.length l0) (hc0 : l0.length ≤ c0) (hr1 : Kd.C (Kd.int .i64) w A1 l1.length l1) (hc1 : l1.length ≤ c1) (h : arlinkref04_Numbers.f k l0 l1 = some r) :
  Calls Try.prog 17 #[.slice A0 l0.length c0, .slice A1 l1.length c1] w fun e w' => e = .returned (.bool r) ∧ Drawn0 w w' := by
 have HR0 := Aside0.mk hr0
 have HC0 := Aside0.mk hc0
 clear hr0 hc0
 have HR1 := Aside0.mk hr1
 have HC1 := Aside0.mk hc1
 clear hr1 hc1
 have H : (if (l0.length : Int) = (l1.length : Int) then (arlinkref04_Numbers.l0 k l0 l1 0) else (some false)) = some r := h
 clear h
 by_cases c3 : (l0.length : Int) = (l1.length : Int)
 ·rw [if_pos c3] at H
  have c3b0 : ((l0.length : Int) == (l1.length : Int)) = true := beq_iff_eq.mpr c3
  have c3b1 : ((l0.length : Int) != (l1.length : Int)) = false := bne_eq_false_iff_eq.mpr c3
  have c3b2 : (l0.length == l1.length) = true := by first | simpa using c3 | (simp at c3 ⊢; omega)
  clear c3
  have H' := Aside0.mk H
  clear H
  go_enter Try.func17, Try.ntmps17
  go_wp2
  repeat (go_quiet (fail); try go_wp2)
  go_loopg [5] k (fun kq v5 w' => ∃ (x5_1 : Int), v5 = .int .i64 x5_1 ∧ Aside0 (arlinkref04_Numbers.l0 kq l0 l1 x5_1 = some r) ∧ Aside0 (kq ≤ k) ∧ Drawn0 w w')
  case atStart => exact ⟨(0), (by first | rfl | (simp; done) | (simp [*]; done)), H', ⟨Nat.le_refl _⟩, by repeat (first | exact Drawn0.refl _ | apply Drawn0.step)⟩
  case round =>
   clear H'
   try clear c1
   try clear p2
   try clear c3
   try clear c3b0
   try clear c3b1
   try clear c3b2
   obtain ⟨x5_1, rfl, HA, HK1, ⟨m1, rfl⟩⟩ := hrel
   cases gk with
   | zero => exact absurd HA.out (by simp [arlinkref04_Numbers.l0])
   | succ k1 =>
    have H := HA.out
    clear HA
    simp only [arlinkref04_Numbers.l0] at H
    by_cases c4 : x5_1 < (l0.length : Int)
    ·rw [if_pos c4] at H
     have c4b0 : decide (x5_1 < (l0.length : Int)) = true := decide_eq_true c4
     clear c4
     by_cases c5 : 0 ≤ x5_1
     ·rw [if_pos c5] at H
      have c5b0 : decide (0 ≤ x5_1) = true := decide_eq_true c5
      clear c5
      by_cases c6 : x5_1 < (l1.length : Int)
      ·rw [if_pos c6] at H
       have c6b0 : decide (x5_1 < (l1.length : Int)) = true := decide_eq_true c6
       clear c6
       by_cases c7 : (rd l0 x5_1) = (rd l1 x5_1)
       ·rw [if_pos c7] at H
        have c7b0 : ((rd l0 x5_1) == (rd l1 x5_1)) = true := beq_iff_eq.mpr c7
        have c7b1 : ((rd l0 x5_1) != (rd l1 x5_1)) = false := bne_eq_false_iff_eq.mpr c7
        clear c7
        have H' := Aside0.mk H
        clear H
        have p103 : 0 ≤ (x5_1 : Int) := of_decide_eq_true (by first | (with_reducible assumption) | assumption)
        have q103 : x5_1 < (l0.length : Int) := of_decide_eq_true (by first | (with_reducible assumption) | assumption)
        obtain ⟨ad103, e103, hx103_0⟩ := Kd.at_int HR0.out x5_1 p103 q103
        cases e103
        replace p103 := eq_true p103
        replace q103 := eq_true q103
        have p104 : 0 ≤ (x5_1 : Int) := of_decide_eq_true (by first | (with_reducible assumption) | assumption)
        have q104 : x5_1 < (l1.length : Int) := of_decide_eq_true (by first | (with_reducible assumption) | assumption)
        obtain ⟨ad104, e104, hx104_0⟩ := Kd.at_int HR1.out x5_1 p104 q104
        cases e104
        replace p104 := eq_true p104
        replace q104 := eq_true q104
        go_wp2
        repeat (go_quiet (fail); try go_wp2)
        go_roundg k1
        case measure => have := HK1.out; omega
        case rel => exact ⟨(wrap64 (x5_1 + 1)), (by first | rfl | (simp; done) | (simp [*]; done)), H', ⟨by have := HK1.out; omega⟩, by repeat (first | exact Drawn0.refl _ | apply Drawn0.step)⟩
       ·rw [if_neg c7] at H
        have c7b0 : ((rd l0 x5_1) == (rd l1 x5_1)) = false := beq_eq_false_iff_ne.mpr c7
        have c7b1 : ((rd l0 x5_1) != (rd l1 x5_1)) = true := bne_iff_ne.mpr c7
        obtain rfl := Option.some.inj H
        have p103 : 0 ≤ (x5_1 : Int) := of_decide_eq_true (by first | (with_reducible assumption) | assumption)
        have q103 : x5_1 < (l0.length : Int) := of_decide_eq_true (by first | (with_reducible assumption) | assumption)
        obtain ⟨ad103, e103, hx103_0⟩ := Kd.at_int HR0.out x5_1 p103 q103
        cases e103
        replace p103 := eq_true p103
        replace q103 := eq_true q103
        have p104 : 0 ≤ (x5_1 : Int) := of_decide_eq_true (by first | (with_reducible assumption) | assumption)
        have q104 : x5_1 < (l1.length : Int) := of_decide_eq_true (by first | (with_reducible assumption) | assumption)
        obtain ⟨ad104, e104, hx104_0⟩ := Kd.at_int HR1.out x5_1 p104 q104
        cases e104
        replace p104 := eq_true p104
        replace q104 := eq_true q104
        go_wp2
        repeat (go_quiet (fail); try go_wp2)
        go_ret
        exact ⟨by first | rfl | (simp; done) | (simp [*]; done), by repeat (first | exact Drawn0.refl _ | apply Drawn0.step)⟩
      ·rw [if_neg c6] at H
       exact absurd H (by simp)
     ·rw [if_neg c5] at H
      exact absurd H (by simp)
    ·rw [if_neg c4] at H
     have c4b0 : decide (x5_1 < (l0.length : Int)) = false := decide_eq_false c4
     clear c4
     obtain rfl := Option.some.inj H
     go_wp2
     repeat (go_quiet (fail); try go_wp2)
     go_ret
     exact ⟨by first | rfl | (simp; done) | (simp [*]; done), by repeat (first | exact Drawn0.refl _ | apply Drawn0.step)⟩
 ·rw [if_neg c3] at H
  have c3b0 : ((l0.length : Int) == (l1.length : Int)) = false := beq_eq_false_iff_ne.mpr c3
  have c3b1 : ((l0.length : Int) != (l1.length : Int)) = true := bne_iff_ne.mpr c3
  have c3b2 : (l0.length == l1.length) = false := by first | simpa using c3 | (simp at c3 ⊢; omega)
  obtain rfl := Option.some.inj H
  go_enter Try.func17, Try.ntmps17
  go_wp2
  repeat (go_quiet (fail); try go_wp2)
  go_ret
  exact ⟨by first | rfl | (simp; done) | (simp [*]; done), by repeat (first | exact Drawn0.refl _ | apply Drawn0.step)⟩

-- NOT PRINTED: function 46 (order_reach)

-- PROVED BY HAND: function 18 (order_Cycle)

end Go.Proofs.Ythpjpkcfepmhkaa.PAll
namespace Go.Proofs.Ythpjpkcfepmhkaa.PAll
open Go.RowKit Go.Proofs.YthpjpkcfepmhkaaW.PrintWords Go.Proofs.YthpjpkcfepmhkaaW.PrintLast Go.Proofs.YthpjpkcfepmhkaaW.PrintMore
set_option linter.unusedVariables false
set_option linter.unusedSimpArgs false

def nF : ByteArray := ⟨#[102]⟩
def nG : ByteArray := ⟨#[103]⟩
def oA : List S50 := [⟨[⟨nF, 4, 0, 0⟩], []⟩]
def m1A : S50 := ⟨[⟨nG, 2, 0, 0⟩], []⟩
def mA : List S50 := [⟨[⟨nF, 1, 0, 0⟩, ⟨nG, 4, 0, 0⟩], []⟩, m1A, ⟨[], []⟩]
theorem awake_why1 : closure_Why.f oA mA 1 = some ([0, 1], true) := by kernel_rfl
theorem awake_why2 : closure_Why.f oA mA 2 = some ([], false) := by kernel_rfl
theorem awake_why3 : closure_Why.f oA mA 3 = some ([], false) := by kernel_rfl
theorem awake_needed : closure_Needed.f oA mA = some [0, 1] := by kernel_rfl
theorem awake_uniq1 : closure_Unique.f mA = some true := by kernel_rfl
theorem awake_uniq2 : closure_Unique.f [m1A, m1A] = some false := by kernel_rfl
theorem awake_numbers : arlinkref04_Numbers.f 5 [0, 1] [0, 1] = some true := by kernel_rfl
def arlinklaw22_awake.f : Option Bool := some true

theorem C_blk {α : Type} (d : Kd α) {w : World} {g t : Nat} {xs : List α} {inner : List Value} (hb : w.heap[g]? = some (.cells inner.toArray t (0, 0))) (hr : Reps (d.K w) d.sz xs inner) (hm : xs.length ≤ 9223372036854775807) : d.C w (some ⟨g, 0, none⟩) xs.length xs := by
  refine ⟨rfl, hm, fun h0 => ⟨_, rfl, fun j p hj => ⟨(inner.drop (j * d.sz)).take d.sz, d.K_len (hr.2 j p hj), hr.2 j p hj, fun i u hu => ?_⟩⟩⟩
  rw [add_plain, blk_cell hb]
  rw [List.getElem?_take] at hu
  split at hu
  · rw [List.getElem?_drop] at hu
    rw [List.getElem?_toArray]
    exact hu
  · cases hu
theorem nil_C {α : Type} (d : Kd α) (w : World) : d.C w none ([] : List α).length [] := ⟨rfl, by simp, fun h => absurd h (by simp)⟩
structure AWk (w W : World) (b0 b1 b2 b3 b4 : Nat) : Prop where
  B : Below w.heap.size w W
  h0 : W.heap[b0]? = some (.cells #[.string ⟨#[102]⟩, .int .i64 4, .int .i64 0, .int .i64 0] 55 (0, 0))
  h1 : W.heap[b1]? = some (.cells #[.slice (some ⟨b0, 0, none⟩) 1 1, .slice none 0 0] 50 (0, 0))
  h2 : W.heap[b2]? = some (.cells #[.string ⟨#[102]⟩, .int .i64 1, .int .i64 0, .int .i64 0, .string ⟨#[103]⟩, .int .i64 4, .int .i64 0, .int .i64 0] 55 (0, 0))
  h3 : W.heap[b3]? = some (.cells #[.string ⟨#[103]⟩, .int .i64 2, .int .i64 0, .int .i64 0] 55 (0, 0))
  h4 : W.heap[b4]? = some (.cells #[.slice (some ⟨b2, 0, none⟩) 2 2, .slice none 0 0, .slice (some ⟨b3, 0, none⟩) 1 1, .slice none 0 0, .slice none 0 0, .slice none 0 0] 50 (0, 0))
section
variable {w W W' : World} {b0 b1 b2 b3 b4 : Nat}
theorem AWk.below (h : AWk w W b0 b1 b2 b3 b4) (hb : Below W.heap.size W W') : AWk w W' b0 b1 b2 b3 b4 :=
  ⟨below_then h.B h.B.size hb, blk_below h.h0 hb, blk_below h.h1 hb, blk_below h.h2 hb, blk_below h.h3 hb, blk_below h.h4 hb⟩
theorem AWk.o (h : AWk w W b0 b1 b2 b3 b4) : Kd.C k50 W (some ⟨b1, 0, none⟩) oA.length oA := by
  have s0 : Kd.C k55 W (some ⟨b0, 0, none⟩) _ [⟨nF, 4, 0, 0⟩] := C_blk k55 (inner := [.string nF, .int .i64 4, .int .i64 0, .int .i64 0]) h.h0 ((Reps.none (k55.K W) 4).snoc (k55_mk W ⟨nF, 4, 0, 0⟩) rfl) (by simp)
  exact C_blk k50 (xs := oA) (inner := [.slice (some ⟨b0, 0, none⟩) 1 1, .slice none 0 0]) h.h1 ((Reps.none (k50.K W) 2).snoc (k50_mk W ⟨[⟨nF, 4, 0, 0⟩], []⟩ (c0 := 1) (c1 := 0) (Nat.le_refl _) s0 (Nat.le_refl _) (nil_C _ W)) rfl) (by simp [oA])
theorem AWk.s3 (h : AWk w W b0 b1 b2 b3 b4) : k50.K W m1A [.slice (some ⟨b3, 0, none⟩) 1 1, .slice none 0 0] := by
  have s0 : Kd.C k55 W (some ⟨b3, 0, none⟩) _ [⟨nG, 2, 0, 0⟩] := C_blk k55 (inner := [.string nG, .int .i64 2, .int .i64 0, .int .i64 0]) h.h3 ((Reps.none (k55.K W) 4).snoc (k55_mk W ⟨nG, 2, 0, 0⟩) rfl) (by simp)
  exact k50_mk W m1A (c0 := 1) (c1 := 0) (Nat.le_refl _) s0 (Nat.le_refl _) (nil_C _ W)
theorem AWk.m (h : AWk w W b0 b1 b2 b3 b4) : Kd.C k50 W (some ⟨b4, 0, none⟩) mA.length mA := by
  have r2 := ((Reps.none (k55.K W) 4).snoc (k55_mk W ⟨nF, 1, 0, 0⟩) rfl).snoc (k55_mk W ⟨nG, 4, 0, 0⟩) rfl
  have s0 : Kd.C k55 W (some ⟨b2, 0, none⟩) ([⟨nF, 1, 0, 0⟩, ⟨nG, 4, 0, 0⟩] : List S55).length [⟨nF, 1, 0, 0⟩, ⟨nG, 4, 0, 0⟩] := by
    refine C_blk (t := 55) k55 ?_ r2 (by simp)
    exact h.h2
  have r4 := (((Reps.none (k50.K W) 2).snoc (k50_mk W ⟨[⟨nF, 1, 0, 0⟩, ⟨nG, 4, 0, 0⟩], []⟩ (c0 := 2) (c1 := 0) (Nat.le_refl _) s0 (Nat.le_refl _) (nil_C _ W)) rfl).snoc h.s3 rfl).snoc (k50_mk W ⟨[], []⟩ (c0 := 0) (c1 := 0) (Nat.le_refl _) (nil_C k55 W) (Nat.le_refl _) (nil_C _ W)) rfl
  refine C_blk (t := 50) k50 (xs := mA) ?_ r4 (by simp [mA])
  exact h.h4
theorem AWk.two (h : AWk w W b0 b1 b2 b3 b4) {g : Nat} (hg : W.heap[g]? = some (.cells #[.slice (some ⟨b3, 0, none⟩) 1 1, .slice none 0 0, .slice (some ⟨b3, 0, none⟩) 1 1, .slice none 0 0] 50 (0, 0))) : Kd.C k50 W (some ⟨g, 0, none⟩) [m1A, m1A].length [m1A, m1A] := by
  have r := ((Reps.none (k50.K W) 2).snoc h.s3 rfl).snoc h.s3 rfl
  refine C_blk (t := 50) k50 (xs := [m1A, m1A]) ?_ r (by simp)
  exact hg
end
theorem two_C {W : World} {g : Nat} (hg : W.heap[g]? = some (.cells #[.int .i64 0, .int .i64 1] 3 (0, 0))) : KI.C W (some ⟨g, 0, none⟩) ([0, 1] : List Int).length [0, 1] := by
  have r := ((Reps.none (KI.K W) 1).snoc (p := (0 : Int)) (c := [.int .i64 0]) rfl rfl).snoc (p := (1 : Int)) (c := [.int .i64 1]) rfl rfl
  refine C_blk (t := 3) KI (xs := [0, 1]) ?_ r (by simp)
  exact hg
theorem AWk.start (w : World) : AWk w (((((w.alloc (.cells #[.string ⟨#[102]⟩, .int .i64 4, .int .i64 0, .int .i64 0] 55)).alloc (.cells #[.slice (some ⟨w.heap.size, 0, none⟩) 1 1, .slice none 0 0] 50)).alloc
      (.cells #[.string ⟨#[102]⟩, .int .i64 1, .int .i64 0, .int .i64 0, .string ⟨#[103]⟩, .int .i64 4, .int .i64 0, .int .i64 0] 55)).alloc (.cells #[.string ⟨#[103]⟩, .int .i64 2, .int .i64 0, .int .i64 0] 55)).alloc
      (.cells #[.slice (some ⟨w.heap.size + 1 + 1, 0, none⟩) 2 2, .slice none 0 0, .slice (some ⟨w.heap.size + 1 + 1 + 1, 0, none⟩) 1 1, .slice none 0 0, .slice none 0 0, .slice none 0 0] 50)) w.heap.size (w.heap.size + 1) (w.heap.size + 1 + 1) (w.heap.size + 1 + 1 + 1) (w.heap.size + 1 + 1 + 1 + 1) := by
  have key : ∀ (W : World) (n : Nat) (o : Obj), W.heap.size = n → (W.alloc o).heap.size = n + 1 ∧ (W.alloc o).heap[n]? = some o := by
    rintro W n o rfl
    exact ⟨by go_simp, heap_alloc_new W o⟩
  obtain ⟨z1, r1⟩ := key w _ (.cells #[.string ⟨#[102]⟩, .int .i64 4, .int .i64 0, .int .i64 0] 55) rfl
  have B1 := below_alloc (Below.refl w.heap.size w) (.cells #[.string ⟨#[102]⟩, .int .i64 4, .int .i64 0, .int .i64 0] 55)
  generalize w.alloc (.cells #[.string ⟨#[102]⟩, .int .i64 4, .int .i64 0, .int .i64 0] 55) = w1 at *
  obtain ⟨z2, r2⟩ := key w1 _ (.cells #[.slice (some ⟨w.heap.size, 0, none⟩) 1 1, .slice none 0 0] 50) z1
  have B2 := below_alloc (Below.refl w1.heap.size w1) (.cells #[.slice (some ⟨w.heap.size, 0, none⟩) 1 1, .slice none 0 0] 50)
  generalize w1.alloc (.cells #[.slice (some ⟨w.heap.size, 0, none⟩) 1 1, .slice none 0 0] 50) = w2 at *
  obtain ⟨z3, r3⟩ := key w2 _ (.cells #[.string ⟨#[102]⟩, .int .i64 1, .int .i64 0, .int .i64 0, .string ⟨#[103]⟩, .int .i64 4, .int .i64 0, .int .i64 0] 55) z2
  have B3 := below_alloc (Below.refl w2.heap.size w2) (.cells #[.string ⟨#[102]⟩, .int .i64 1, .int .i64 0, .int .i64 0, .string ⟨#[103]⟩, .int .i64 4, .int .i64 0, .int .i64 0] 55)
  generalize w2.alloc (.cells #[.string ⟨#[102]⟩, .int .i64 1, .int .i64 0, .int .i64 0, .string ⟨#[103]⟩, .int .i64 4, .int .i64 0, .int .i64 0] 55) = w3 at *
  obtain ⟨z4, r4⟩ := key w3 _ (.cells #[.string ⟨#[103]⟩, .int .i64 2, .int .i64 0, .int .i64 0] 55) z3
  have B4 := below_alloc (Below.refl w3.heap.size w3) (.cells #[.string ⟨#[103]⟩, .int .i64 2, .int .i64 0, .int .i64 0] 55)
  generalize w3.alloc (.cells #[.string ⟨#[103]⟩, .int .i64 2, .int .i64 0, .int .i64 0] 55) = w4 at *
  obtain ⟨z5, r5⟩ := key w4 _ (.cells #[.slice (some ⟨w.heap.size + 1 + 1, 0, none⟩) 2 2, .slice none 0 0, .slice (some ⟨w.heap.size + 1 + 1 + 1, 0, none⟩) 1 1, .slice none 0 0, .slice none 0 0, .slice none 0 0] 50) z4
  have B5 := below_alloc (Below.refl w4.heap.size w4) (.cells #[.slice (some ⟨w.heap.size + 1 + 1, 0, none⟩) 2 2, .slice none 0 0, .slice (some ⟨w.heap.size + 1 + 1 + 1, 0, none⟩) 1 1, .slice none 0 0, .slice none 0 0, .slice none 0 0] 50)
  generalize w4.alloc (.cells #[.slice (some ⟨w.heap.size + 1 + 1, 0, none⟩) 2 2, .slice none 0 0, .slice (some ⟨w.heap.size + 1 + 1 + 1, 0, none⟩) 1 1, .slice none 0 0, .slice none 0 0, .slice none 0 0] 50) = w5 at *
  exact ⟨below_then (below_then (below_then (below_then B1 (by omega) B2) (by omega) B3) (by omega) B4) (by omega) B5, blk_below (blk_below (blk_below (blk_below r1 B2) B3) B4) B5, blk_below (blk_below (blk_below r2 B3) B4) B5, blk_below (blk_below r3 B4) B5, blk_below r4 B5, r5⟩

theorem need22 (b1 b4 : Nat) (W : World) (ho : Kd.C k50 W (some ⟨b1, 0, none⟩) oA.length oA) (hm : Kd.C k50 W (some ⟨b4, 0, none⟩) mA.length mA) :
    Calls Try.prog 25 #[.slice (some ⟨b1, 0, none⟩) 1 1, .slice (some ⟨b4, 0, none⟩) 3 3] W fun e w' => ∃ (A : Option Addr) (c : Nat), e = .returned (.slice A 2 c) ∧ KI.R 3 w' W.heap.size (fun _ => True) (.slice A 2 c) [0, 1] ∧ Below W.heap.size W w' :=
  (closure_Needed.calls (some ⟨b1, 0, none⟩) 1 oA (some ⟨b4, 0, none⟩) 3 mA [0, 1] W ho (Nat.le_refl _) hm (Nat.le_refl _) awake_needed).mono fun e w' ⟨v, h1, h2, h3⟩ => by
    obtain ⟨A, c, rfl⟩ := Kd.R_slice h2
    exact ⟨A, c, h1, h2, h3⟩
theorem num22 (A : Option Addr) (c g : Nat) (base : Nat) (W : World) (hR : KI.R 3 W base (fun _ => True) (.slice A 2 c) [0, 1]) (hg : W.heap[g]? = some (.cells #[.int .i64 0, .int .i64 1] 3 (0, 0))) :
    Calls Try.prog 17 #[.slice A 2 c, .slice (some ⟨g, 0, none⟩) 2 2] W fun e w' => e = .returned (.bool true) ∧ Below W.heap.size W w' :=
  (arlinkref04_Numbers.calls 5 A c [0, 1] (some ⟨g, 0, none⟩) 2 [0, 1] true W (Kd.R_reads' hR).2.2 (Kd.R_reads' hR).2.1 (two_C hg) (Nat.le_refl _) awake_numbers).mono fun e w' ⟨h1, h2⟩ => ⟨h1, h2.below⟩
theorem uniq22 (b4 : Nat) (W : World) (hm : Kd.C k50 W (some ⟨b4, 0, none⟩) mA.length mA) : Calls Try.prog 26 #[.slice (some ⟨b4, 0, none⟩) 3 3] W fun e w' => e = .returned (.bool true) ∧ Below W.heap.size W w' :=
  closure_Unique.calls (some ⟨b4, 0, none⟩) 3 mA true W hm (Nat.le_refl _) awake_uniq1
theorem uniq22' (g : Nat) (W : World) (hm : Kd.C k50 W (some ⟨g, 0, none⟩) [m1A, m1A].length [m1A, m1A]) : Calls Try.prog 26 #[.slice (some ⟨g, 0, none⟩) 2 2] W fun e w' => e = .returned (.bool false) ∧ Below W.heap.size W w' :=
  closure_Unique.calls (some ⟨g, 0, none⟩) 2 [m1A, m1A] false W hm (Nat.le_refl _) awake_uniq2
theorem AWk.cells {w W : World} {b0 b1 b2 b3 b4 : Nat} (h : AWk w W b0 b1 b2 b3 b4) : W.cell? ⟨b4, 2, none⟩ = some (.slice (some ⟨b3, 0, none⟩) 1 1) ∧ W.cell? ⟨b4, 3, none⟩ = some (.slice none 0 0) :=
  ⟨(blk_cell h.h4 2).trans rfl, (blk_cell h.h4 3).trans rfl⟩
def awake22_T : Bool × List (List Nat × List Nat) := (true, [([], []), ([], []), ([0, 1], [0, 1]), ([], []), ([2, 3, 2], [2, 3]), ([4, 4], [4]), ([5], [5]), ([5], [5]), ([6, 7, 5, 5], [5, 6, 7]), ([5, 8], [5, 8]), ([9, 8], [9]), ([10], [10]), ([10, 11], [10, 11]), ([12, 10], [12]), ([13], [13]), ([14, 13], [13, 14]), ([13, 15], [13, 15]), ([16, 13], [16]), ([17], [17]), ([18, 17], [17, 18]), ([17, 19], [17, 19]), ([20, 17], [20]), ([21], [21]), ([22, 21, 21], [21, 22]), ([21, 23], [21, 23]), ([24, 23], [24]), ([25], [25]), ([26, 25], [25, 26]), ([27, 25], [25, 27]), ([25], [25]), ([29, 25], [25, 29]), ([30, 25], [25, 30]), ([28, 31, 25], [25, 28, 31]), ([32, 25, 25], [25, 32]), ([33, 25], [25, 33]), ([25, 34], [25, 34]), ([35, 33, 0, 1, 2, 3, 4, 5, 6, 7, 8, 9, 10, 11, 12, 13, 14, 15, 16, 17, 18, 19, 20, 21, 22, 23, 24, 25, 26, 27, 28, 29, 30, 31, 32, 33, 34, 35], [35])])
theorem awake22_tab : rtab .any (opsOf Try.f22 6) = awake22_T := by kernel_rfl
set_option maxRecDepth 10000 in
set_option maxHeartbeats 400000000 in
theorem awake22_calls (w : World) : Calls Try.prog 22 #[] w fun e w' => e = .returned (.bool true) ∧ Below w.heap.size w w' := by
  go_enter Try.func22, Try.ntmps22
  go_wp2_with fail
  have HA := Lib.hid (AWk.start w)
  generalize w.heap.size + 1 + 1 + 1 + 1 = b4 at *
  generalize w.heap.size + 1 + 1 + 1 = b3 at *
  generalize w.heap.size + 1 + 1 = b2 at *
  generalize w.heap.size + 1 = b1 at *
  generalize ((((w.alloc (.cells #[.string ⟨#[102]⟩, .int .i64 4, .int .i64 0, .int .i64 0] 55)).alloc (.cells #[.slice (some ⟨w.heap.size, 0, none⟩) 1 1, .slice none 0 0] 50)).alloc
      (.cells #[.string ⟨#[102]⟩, .int .i64 1, .int .i64 0, .int .i64 0, .string ⟨#[103]⟩, .int .i64 4, .int .i64 0, .int .i64 0] 55)).alloc (.cells #[.string ⟨#[103]⟩, .int .i64 2, .int .i64 0, .int .i64 0] 55)).alloc
      (.cells #[.slice (some ⟨b2, 0, none⟩) 2 2, .slice none 0 0, .slice (some ⟨b3, 0, none⟩) 1 1, .slice none 0 0, .slice none 0 0, .slice none 0 0] 50) = w1 at *
  refine (closure_Why.calls (some ⟨b1, 0, none⟩) 1 oA (some ⟨b4, 0, none⟩) 3 mA 1 [0, 1] true w1 HA.out.o (Nat.le_refl _) HA.out.m (Nat.le_refl _) awake_why1).mono ?_
  rintro e w2 ⟨v1, rfl, hR1, hb1⟩
  obtain ⟨Aa, ca, rfl⟩ := Kd.R_slice hR1
  have HA2 := Lib.hid (HA.out.below hb1)
  have HR2 := Lib.hid (Kd.R_lower hR1 (below_size HA.out.B))
  clear HA hR1 hb1
  go_wp2_with fail
  refine (closure_Why.calls (some ⟨b1, 0, none⟩) 1 oA (some ⟨b4, 0, none⟩) 3 mA 2 [] false w2 HA2.out.o (Nat.le_refl _) HA2.out.m (Nat.le_refl _) awake_why2).mono ?_
  rintro e w3 ⟨v2, rfl, _, hb2⟩
  have HA3 := Lib.hid (HA2.out.below hb2)
  have HR3 := Lib.hid (Kd.R_below HR2.out hb2)
  clear HA2 HR2 hb2
  go_wp2_with fail
  refine (closure_Why.calls (some ⟨b1, 0, none⟩) 1 oA (some ⟨b4, 0, none⟩) 3 mA 3 [] false w3 HA3.out.o (Nat.le_refl _) HA3.out.m (Nat.le_refl _) awake_why3).mono ?_
  rintro e w4 ⟨v3, rfl, _, hb3⟩
  have HA4 := Lib.hid (HA3.out.below hb3)
  have HR4 := Lib.hid (Kd.R_below HR3.out hb3)
  clear HA3 HR3 hb3
  go_wp2
  have HA0 := Lib.hid (HA4.out.below (below_drew (Below.refl _ _)))
  have HR0 := Lib.hid (Kd.R_below HR4.out (below_drew (Below.refl _ _)))
  clear HA4 HR4
  refine start_ (n := 37) (S := fun w' => w'.cell? ⟨b4, 2, none⟩ = some (.slice (some ⟨b3, 0, none⟩) 1 1) ∧ w'.cell? ⟨b4, 3, none⟩ = some (.slice none 0 0)) (ds := []) #[false, false, false, false, false, false, false, false, false, false, false, false, false, false, false, false, false, false, false, false, false, false, false, false, false, false, false, false, false, false, false, false, false, false, false, false, false] (by kernel_rfl) rfl rfl HA0.out.cells (fun hHeld => ?_); refine with_tab awake22_tab (fun HT_ => ?_)
  generalize w4.drew = w5 at HA0 HR0 hHeld ⊢
  refine pure_ (i := 0) (N := some 40) (v := ?_) (a' := ?_) #[true, false, false, false, false, false, false, false, false, false, false, false, false, false, false, false, false, false, false, false, false, false, false, false, false, false, false, false, false, false, false, false, false, false, false, false, false] rfl rfl (any_of HT_.out (by kernel_rfl)) (fun _ _ _ h => h) (Or.inl ⟨by rfl, ?_⟩) ?_ ?_
  rotate_left
  · intro w'
    go_simp
    with_reducible rfl
  rotate_left
  · simp only [Act.put, List.setIfInBounds_toArray, List.set_cons_zero, List.set_cons_succ, i64_w, i32_w]
    rfl
  refine pure_ (i := 1) (N := some 41) (v := ?_) (a' := ?_) #[true, true, false, false, false, false, false, false, false, false, false, false, false, false, false, false, false, false, false, false, false, false, false, false, false, false, false, false, false, false, false, false, false, false, false, false, false] rfl rfl (any_of HT_.out (by kernel_rfl)) (fun _ _ _ h => h) (Or.inl ⟨by rfl, ?_⟩) ?_ ?_
  rotate_left
  · intro w'
    go_simp
    with_reducible rfl
  rotate_left
  · simp only [Act.put, List.setIfInBounds_toArray, List.set_cons_zero, List.set_cons_succ, i64_w, i32_w]
    rfl
  refine join_ (σ := Option Addr × Nat × Nat) 33 #[true, true, true, true, false, false, false, false, false, false, false, false, false, false, false, false, false, false, false, false, false, false, false, false, false, false, false, false, false, false, false, false, false, false, false, false, false] (fun s_ => [(42, .slice s_.1 2 s_.2.1), (43, .slice (some ⟨s_.2.2, 0, none⟩) 2 2)]) (fun s_ w' => AWk w w' w.heap.size b1 b2 b3 b4 ∧ KI.R 3 w' w.heap.size (fun _ => True) (.slice Aa 2 ca) [0, 1] ∧ (∃ base, KI.R 3 w' base (fun _ => True) (.slice s_.1 2 s_.2.1) [0, 1]) ∧ w'.heap[s_.2.2]? = some (.cells #[.int .i64 0, .int .i64 1] 3)) ?_ ?_
  rotate_left
  · intro hCont
    refine two_ (i := 2) (j := 3) (Ni := some 42) (Nj := some 43) #[true, true, true, false, false, false, false, false, false, false, false, false, false, false, false, false, false, false, false, false, false, false, false, false, false, false, false, false, false, false, false, false, false, false, false, false, false] #[true, true, false, true, false, false, false, false, false, false, false, false, false, false, false, false, false, false, false, false, false, false, false, false, false, false, false, false, false, false, false, false, false, false, false, false, false] rfl rfl rfl rfl (two_of HT_.out (by kernel_rfl)) (by decide) (by decide) (fun K hK => ?_) (fun K hK => ?_)
    · skip
      refine goes_ Try.func25 (by kernel_rfl) rfl #[.slice (some ⟨b1, 0, none⟩) 1 1, .slice (some ⟨b4, 0, none⟩) 3 3] (by rfl) rfl rfl (by (try simp only [List.map_toArray, List.map_cons, List.map_nil]); first | done | rfl) ?_
      refine (need22 b1 b4 _ HA0.out.o HA0.out.m).mono ?_
      rintro e w6 ⟨Av, cv, rfl, hR, hb⟩
      refine ⟨_, rfl, ?_⟩
      have HA6 := Lib.hid (HA0.out.below hb)
      have HR6 := Lib.hid (Kd.R_below HR0.out hb)
      have HV6 := Lib.hid hR
      clear hR hb HA0 HR0
      refine hK.out _ _ HA6.out.cells (fun hHeld => ?_)
      clear hK K
      refine norm_ (a' := ?_) ?_ ?_
      rotate_left
      · show Act.put _ (some 42) _ = _
        simp only [Act.put, List.setIfInBounds_toArray, List.set_cons_zero, List.set_cons_succ, i64_w, i32_w]
        rfl
      refine one_ (i := 3) (N := some 43) #[true, true, true, true, false, false, false, false, false, false, false, false, false, false, false, false, false, false, false, false, false, false, false, false, false, false, false, false, false, false, false, false, false, false, false, false, false] rfl rfl (one_of HT_.out (by kernel_rfl)) (by decide) (fun K hK => ?_)
      refine value_ (w1 := ?_) (v := ?_) (by rfl) rfl ?_ ?_
      rotate_left 2
      · go_simp
        constructor
        · rfl
        · rfl
      have HA7 := Lib.hid (HA6.out.below (below_alloc (Below.refl _ _) (.cells #[.int .i64 0, .int .i64 1] 3)))
      refine hK.out _ _ HA7.out.cells (fun hHeld => ?_)
      clear hK K
      refine norm_ (a' := ?_) ?_ ?_
      rotate_left
      · show Act.put _ (some 43) _ = _
        simp only [Act.put, List.setIfInBounds_toArray, List.set_cons_zero, List.set_cons_succ, i64_w, i32_w]
        rfl
      exact norm_ (by simp only [putAll, Act.put, List.setIfInBounds_toArray, List.set_cons_zero, List.set_cons_succ]) (hCont (Av, cv, w6.heap.size) _ ⟨HA7.out, Kd.R_alloc HR6.out _, ⟨_, Kd.R_alloc HV6.out _⟩, heap_alloc_new w6 _⟩)
    · skip
      refine value_ (w1 := ?_) (v := ?_) (by rfl) rfl ?_ ?_
      rotate_left 2
      · go_simp
        constructor
        · rfl
        · rfl
      have HL0 := Lib.hid (heap_alloc_new w5 (.cells #[.int .i64 0, .int .i64 1] 3))
      have HA6 := Lib.hid (HA0.out.below (below_alloc (Below.refl _ _) (.cells #[.int .i64 0, .int .i64 1] 3)))
      have HR6 := Lib.hid (Kd.R_alloc HR0.out (.cells #[.int .i64 0, .int .i64 1] 3))
      refine hK.out _ _ HA6.out.cells (fun hHeld => ?_)
      clear hK K
      refine norm_ (a' := ?_) ?_ ?_
      rotate_left
      · show Act.put _ (some 43) _ = _
        simp only [Act.put, List.setIfInBounds_toArray, List.set_cons_zero, List.set_cons_succ, i64_w, i32_w]
        rfl
      refine one_ (i := 2) (N := some 42) #[true, true, true, true, false, false, false, false, false, false, false, false, false, false, false, false, false, false, false, false, false, false, false, false, false, false, false, false, false, false, false, false, false, false, false, false, false] rfl rfl (one_of HT_.out (by kernel_rfl)) (by decide) (fun K hK => ?_)
      refine goes_ Try.func25 (by kernel_rfl) rfl #[.slice (some ⟨b1, 0, none⟩) 1 1, .slice (some ⟨b4, 0, none⟩) 3 3] (by rfl) rfl rfl (by (try simp only [List.map_toArray, List.map_cons, List.map_nil]); first | done | rfl) ?_
      refine (need22 b1 b4 _ HA6.out.o HA6.out.m).mono ?_
      rintro e w7 ⟨Av, cv, rfl, hR, hb⟩
      refine ⟨_, rfl, ?_⟩
      have HA7 := Lib.hid (HA6.out.below hb)
      have HR7 := Lib.hid (Kd.R_below HR6.out hb)
      have HV7 := Lib.hid hR
      have HL7 := Lib.hid (blk_below HL0.out hb)
      clear hR hb HA0 HR0 HL0
      refine hK.out _ _ HA7.out.cells (fun hHeld => ?_)
      clear hK K
      refine norm_ (a' := ?_) ?_ ?_
      rotate_left
      · show Act.put _ (some 42) _ = _
        simp only [Act.put, List.setIfInBounds_toArray, List.set_cons_zero, List.set_cons_succ, i64_w, i32_w]
        rfl
      exact norm_ (by simp only [putAll, Act.put, List.setIfInBounds_toArray, List.set_cons_zero, List.set_cons_succ]) (hCont (Av, cv, w5.heap.size) _ ⟨HA7.out, HR7.out, ⟨_, HV7.out⟩, HL7.out⟩)
  rintro ⟨Av, cv, gl⟩ w8 ⟨hA, hR, ⟨base, hV⟩, hL⟩
  have HA8 := Lib.hid hA; have HR8 := Lib.hid hR; have HV8 := Lib.hid hV; have HL8 := Lib.hid hL; have hHeld := hA.cells
  clear hA hR hV hL HA0 HR0
  refine norm_ (a' := ?_) ?_ ?_
  rotate_left
  · simp only [putAll, Act.put, List.setIfInBounds_toArray, List.set_cons_zero, List.set_cons_succ]
    rfl
  refine one_ (i := 4) (N := some 44) #[true, true, true, true, true, false, false, false, false, false, false, false, false, false, false, false, false, false, false, false, false, false, false, false, false, false, false, false, false, false, false, false, false, false, false, false, false] rfl rfl (one_of HT_.out (by kernel_rfl)) (by decide) (fun K hK => ?_)
  refine goes_ Try.func17 (by kernel_rfl) rfl #[.slice Av 2 cv, .slice (some ⟨gl, 0, none⟩) 2 2] (by rfl) rfl rfl (by (try simp only [List.map_toArray, List.map_cons, List.map_nil]); first | done | rfl) ?_
  refine (num22 Av cv gl base w8 HV8.out HL8.out).mono ?_
  rintro e w9 ⟨rfl, hb⟩
  refine ⟨_, rfl, ?_⟩
  have HA9 := Lib.hid (HA8.out.below hb)
  have HR9 := Lib.hid (Kd.R_below HR8.out hb)
  clear hb HA8 HR8 HV8 HL8
  refine hK.out _ _ HA9.out.cells (fun hHeld => ?_)
  clear hK K
  refine norm_ (a' := ?_) ?_ ?_
  rotate_left
  · show Act.put _ (some 44) _ = _
    simp only [Act.put, List.setIfInBounds_toArray, List.set_cons_zero, List.set_cons_succ, i64_w, i32_w]
    rfl
  refine pure_ (i := 5) (N := some 45) (v := ?_) (a' := ?_) #[true, true, true, true, true, true, false, false, false, false, false, false, false, false, false, false, false, false, false, false, false, false, false, false, false, false, false, false, false, false, false, false, false, false, false, false, false] rfl rfl (any_of HT_.out (by kernel_rfl)) (fun _ _ _ h => h) (Or.inl ⟨by rfl, ?_⟩) ?_ ?_
  rotate_left
  · intro w'
    go_simp
    with_reducible rfl
  rotate_left
  · simp only [Act.put, List.setIfInBounds_toArray, List.set_cons_zero, List.set_cons_succ, i64_w, i32_w]
    rfl
  refine pure_ (i := 6) (N := some 46) (v := ?_) (a' := ?_) #[true, true, true, true, true, true, true, false, false, false, false, false, false, false, false, false, false, false, false, false, false, false, false, false, false, false, false, false, false, false, false, false, false, false, false, false, false] rfl rfl (any_of HT_.out (by kernel_rfl)) (fun _ _ _ h => h) (Or.inl ⟨by rfl, ?_⟩) ?_ ?_
  rotate_left
  · intro w'
    go_simp
    with_reducible rfl
  rotate_left
  · simp only [Act.put, List.setIfInBounds_toArray, List.set_cons_zero, List.set_cons_succ, i64_w, i32_w]
    rfl
  refine one_ (i := 7) (N := some 47) #[true, true, true, true, true, true, true, true, false, false, false, false, false, false, false, false, false, false, false, false, false, false, false, false, false, false, false, false, false, false, false, false, false, false, false, false, false] rfl rfl (one_of HT_.out (by kernel_rfl)) (by decide) (fun K hK => ?_)
  refine value_ (w1 := ?_) (v := ?_) (by rfl) rfl ?_ ?_
  rotate_left 2
  · go_simp
    constructor
    · rfl
    · rfl
  have HL9 := Lib.hid (heap_alloc_new w9 (.cells #[.int .i64 0, .int .i64 1] 3))
  have HA10 := Lib.hid (HA9.out.below (below_alloc (Below.refl _ _) (.cells #[.int .i64 0, .int .i64 1] 3)))
  have HR10 := Lib.hid (Kd.R_alloc HR9.out (.cells #[.int .i64 0, .int .i64 1] 3))
  refine hK.out _ _ HA10.out.cells (fun hHeld => ?_)
  clear hK K
  refine norm_ (a' := ?_) ?_ ?_
  rotate_left
  · show Act.put _ (some 47) _ = _
    simp only [Act.put, List.setIfInBounds_toArray, List.set_cons_zero, List.set_cons_succ, i64_w, i32_w]
    rfl
  refine one_ (i := 8) (N := some 48) #[true, true, true, true, true, true, true, true, true, false, false, false, false, false, false, false, false, false, false, false, false, false, false, false, false, false, false, false, false, false, false, false, false, false, false, false, false] rfl rfl (one_of HT_.out (by kernel_rfl)) (by decide) (fun K hK => ?_)
  refine goes_ Try.func17 (by kernel_rfl) rfl #[.slice Aa 2 ca, .slice (some ⟨w9.heap.size, 0, none⟩) 2 2] (by rfl) rfl rfl (by (try simp only [List.map_toArray, List.map_cons, List.map_nil]); first | done | rfl) ?_
  refine (num22 Aa ca w9.heap.size _ _ HR10.out HL9.out).mono ?_
  rintro e w11 ⟨rfl, hb⟩
  refine ⟨_, rfl, ?_⟩
  have HA11 := Lib.hid (HA10.out.below hb)
  clear hb HA9 HR9 HA10 HR10 HL9
  refine hK.out _ _ HA11.out.cells (fun hHeld => ?_)
  clear hK K
  refine norm_ (a' := ?_) ?_ ?_
  rotate_left
  · show Act.put _ (some 48) _ = _
    simp only [Act.put, List.setIfInBounds_toArray, List.set_cons_zero, List.set_cons_succ, i64_w, i32_w]
    rfl
  refine pure_ (i := 9) (N := some 49) (v := ?_) (a' := ?_) #[true, true, true, true, true, true, true, true, true, true, false, false, false, false, false, false, false, false, false, false, false, false, false, false, false, false, false, false, false, false, false, false, false, false, false, false, false] rfl rfl (any_of HT_.out (by kernel_rfl)) (fun _ _ _ h => h) (Or.inl ⟨by rfl, ?_⟩) ?_ ?_
  rotate_left
  · intro w'
    go_simp
    with_reducible rfl
  rotate_left
  · simp only [Act.put, List.setIfInBounds_toArray, List.set_cons_zero, List.set_cons_succ, i64_w, i32_w]
    rfl
  refine pure_ (i := 10) (N := some 50) (v := ?_) (a' := ?_) #[true, true, true, true, true, true, true, true, true, true, true, false, false, false, false, false, false, false, false, false, false, false, false, false, false, false, false, false, false, false, false, false, false, false, false, false, false] rfl rfl (any_of HT_.out (by kernel_rfl)) (fun _ _ _ h => h) (Or.inl ⟨by rfl, ?_⟩) ?_ ?_
  rotate_left
  · intro w'
    go_simp
    with_reducible rfl
  rotate_left
  · simp only [Act.put, List.setIfInBounds_toArray, List.set_cons_zero, List.set_cons_succ, i64_w, i32_w]
    rfl
  refine pure_ (i := 11) (N := some 51) (v := ?_) (a' := ?_) #[true, true, true, true, true, true, true, true, true, true, true, true, false, false, false, false, false, false, false, false, false, false, false, false, false, false, false, false, false, false, false, false, false, false, false, false, false] rfl rfl (any_of HT_.out (by kernel_rfl)) (fun _ _ _ h => h) (Or.inl ⟨by rfl, ?_⟩) ?_ ?_
  rotate_left
  · intro w'
    go_simp
    with_reducible rfl
  rotate_left
  · simp only [Act.put, List.setIfInBounds_toArray, List.set_cons_zero, List.set_cons_succ, i64_w, i32_w]
    rfl
  refine pure_ (i := 12) (N := some 52) (v := ?_) (a' := ?_) #[true, true, true, true, true, true, true, true, true, true, true, true, true, false, false, false, false, false, false, false, false, false, false, false, false, false, false, false, false, false, false, false, false, false, false, false, false] rfl rfl (any_of HT_.out (by kernel_rfl)) (fun _ _ _ h => h) (Or.inl ⟨by rfl, ?_⟩) ?_ ?_
  rotate_left
  · intro w'
    go_simp
    with_reducible rfl
  rotate_left
  · simp only [Act.put, List.setIfInBounds_toArray, List.set_cons_zero, List.set_cons_succ, i64_w, i32_w]
    rfl
  refine pure_ (i := 13) (N := some 53) (v := ?_) (a' := ?_) #[true, true, true, true, true, true, true, true, true, true, true, true, true, true, false, false, false, false, false, false, false, false, false, false, false, false, false, false, false, false, false, false, false, false, false, false, false] rfl rfl (any_of HT_.out (by kernel_rfl)) (fun _ _ _ h => h) (Or.inl ⟨by rfl, ?_⟩) ?_ ?_
  rotate_left
  · intro w'
    go_simp
    with_reducible rfl
  rotate_left
  · simp only [Act.put, List.setIfInBounds_toArray, List.set_cons_zero, List.set_cons_succ, i64_w, i32_w]
    rfl
  refine pure_ (i := 14) (N := some 54) (v := ?_) (a' := ?_) #[true, true, true, true, true, true, true, true, true, true, true, true, true, true, true, false, false, false, false, false, false, false, false, false, false, false, false, false, false, false, false, false, false, false, false, false, false] rfl rfl (any_of HT_.out (by kernel_rfl)) (fun _ _ _ h => h) (Or.inl ⟨by rfl, ?_⟩) ?_ ?_
  rotate_left
  · intro w'
    go_simp
    with_reducible rfl
  rotate_left
  · simp only [Act.put, List.setIfInBounds_toArray, List.set_cons_zero, List.set_cons_succ, i64_w, i32_w]
    rfl
  refine pure_ (i := 15) (N := some 55) (v := ?_) (a' := ?_) #[true, true, true, true, true, true, true, true, true, true, true, true, true, true, true, true, false, false, false, false, false, false, false, false, false, false, false, false, false, false, false, false, false, false, false, false, false] rfl rfl (any_of HT_.out (by kernel_rfl)) (fun _ _ _ h => h) (Or.inl ⟨by rfl, ?_⟩) ?_ ?_
  rotate_left
  · intro w'
    go_simp
    with_reducible rfl
  rotate_left
  · simp only [Act.put, List.setIfInBounds_toArray, List.set_cons_zero, List.set_cons_succ, i64_w, i32_w]
    rfl
  refine pure_ (i := 16) (N := some 56) (v := ?_) (a' := ?_) #[true, true, true, true, true, true, true, true, true, true, true, true, true, true, true, true, true, false, false, false, false, false, false, false, false, false, false, false, false, false, false, false, false, false, false, false, false] rfl rfl (any_of HT_.out (by kernel_rfl)) (fun _ _ _ h => h) (Or.inl ⟨by rfl, ?_⟩) ?_ ?_
  rotate_left
  · intro w'
    go_simp
    with_reducible rfl
  rotate_left
  · simp only [Act.put, List.setIfInBounds_toArray, List.set_cons_zero, List.set_cons_succ, i64_w, i32_w]
    rfl
  refine pure_ (i := 17) (N := some 57) (v := ?_) (a' := ?_) #[true, true, true, true, true, true, true, true, true, true, true, true, true, true, true, true, true, true, false, false, false, false, false, false, false, false, false, false, false, false, false, false, false, false, false, false, false] rfl rfl (any_of HT_.out (by kernel_rfl)) (fun _ _ _ h => h) (Or.inl ⟨by rfl, ?_⟩) ?_ ?_
  rotate_left
  · intro w'
    go_simp
    with_reducible rfl
  rotate_left
  · simp only [Act.put, List.setIfInBounds_toArray, List.set_cons_zero, List.set_cons_succ, i64_w, i32_w]
    rfl
  refine pure_ (i := 18) (N := some 58) (v := ?_) (a' := ?_) #[true, true, true, true, true, true, true, true, true, true, true, true, true, true, true, true, true, true, true, false, false, false, false, false, false, false, false, false, false, false, false, false, false, false, false, false, false] rfl rfl (any_of HT_.out (by kernel_rfl)) (fun _ _ _ h => h) (Or.inl ⟨by rfl, ?_⟩) ?_ ?_
  rotate_left
  · intro w'
    go_simp
    with_reducible rfl
  rotate_left
  · simp only [Act.put, List.setIfInBounds_toArray, List.set_cons_zero, List.set_cons_succ, i64_w, i32_w]
    rfl
  refine pure_ (i := 19) (N := some 59) (v := ?_) (a' := ?_) #[true, true, true, true, true, true, true, true, true, true, true, true, true, true, true, true, true, true, true, true, false, false, false, false, false, false, false, false, false, false, false, false, false, false, false, false, false] rfl rfl (any_of HT_.out (by kernel_rfl)) (fun _ _ _ h => h) (Or.inl ⟨by rfl, ?_⟩) ?_ ?_
  rotate_left
  · intro w'
    go_simp
    with_reducible rfl
  rotate_left
  · simp only [Act.put, List.setIfInBounds_toArray, List.set_cons_zero, List.set_cons_succ, i64_w, i32_w]
    rfl
  refine pure_ (i := 20) (N := some 60) (v := ?_) (a' := ?_) #[true, true, true, true, true, true, true, true, true, true, true, true, true, true, true, true, true, true, true, true, true, false, false, false, false, false, false, false, false, false, false, false, false, false, false, false, false] rfl rfl (any_of HT_.out (by kernel_rfl)) (fun _ _ _ h => h) (Or.inl ⟨by rfl, ?_⟩) ?_ ?_
  rotate_left
  · intro w'
    go_simp
    with_reducible rfl
  rotate_left
  · simp only [Act.put, List.setIfInBounds_toArray, List.set_cons_zero, List.set_cons_succ, i64_w, i32_w]
    rfl
  refine pure_ (i := 21) (N := some 61) (v := ?_) (a' := ?_) #[true, true, true, true, true, true, true, true, true, true, true, true, true, true, true, true, true, true, true, true, true, true, false, false, false, false, false, false, false, false, false, false, false, false, false, false, false] rfl rfl (any_of HT_.out (by kernel_rfl)) (fun _ _ _ h => h) (Or.inl ⟨by rfl, ?_⟩) ?_ ?_
  rotate_left
  · intro w'
    go_simp
    with_reducible rfl
  rotate_left
  · simp only [Act.put, List.setIfInBounds_toArray, List.set_cons_zero, List.set_cons_succ, i64_w, i32_w]
    rfl
  refine pure_ (i := 22) (N := some 62) (v := ?_) (a' := ?_) #[true, true, true, true, true, true, true, true, true, true, true, true, true, true, true, true, true, true, true, true, true, true, true, false, false, false, false, false, false, false, false, false, false, false, false, false, false] rfl rfl (any_of HT_.out (by kernel_rfl)) (fun _ _ _ h => h) (Or.inl ⟨by rfl, ?_⟩) ?_ ?_
  rotate_left
  · intro w'
    go_simp
    with_reducible rfl
  rotate_left
  · simp only [Act.put, List.setIfInBounds_toArray, List.set_cons_zero, List.set_cons_succ, i64_w, i32_w]
    rfl
  refine one_ (i := 23) (N := some 63) #[true, true, true, true, true, true, true, true, true, true, true, true, true, true, true, true, true, true, true, true, true, true, true, true, false, false, false, false, false, false, false, false, false, false, false, false, false] rfl rfl (one_of HT_.out (by kernel_rfl)) (by decide) (fun K hK => ?_)
  refine goes_ Try.func26 (by kernel_rfl) rfl #[.slice (some ⟨b4, 0, none⟩) 3 3] (by rfl) rfl rfl (by (try simp only [List.map_toArray, List.map_cons, List.map_nil]); first | done | rfl) ?_
  refine (uniq22 b4 _ HA11.out.m).mono ?_
  rintro e w12 ⟨rfl, hb⟩
  refine ⟨_, rfl, ?_⟩
  have HA12 := Lib.hid (HA11.out.below hb)
  clear hb HA11
  refine hK.out _ _ HA12.out.cells (fun hHeld => ?_)
  clear hK K
  refine norm_ (a' := ?_) ?_ ?_
  rotate_left
  · show Act.put _ (some 63) _ = _
    simp only [Act.put, List.setIfInBounds_toArray, List.set_cons_zero, List.set_cons_succ, i64_w, i32_w]
    rfl
  refine pure_ (i := 24) (N := some 64) (v := ?_) (a' := ?_) #[true, true, true, true, true, true, true, true, true, true, true, true, true, true, true, true, true, true, true, true, true, true, true, true, true, false, false, false, false, false, false, false, false, false, false, false, false] rfl rfl (any_of HT_.out (by kernel_rfl)) (fun _ _ _ h => h) (Or.inl ⟨by rfl, ?_⟩) ?_ ?_
  rotate_left
  · intro w'
    go_simp
    with_reducible rfl
  rotate_left
  · simp only [Act.put, List.setIfInBounds_toArray, List.set_cons_zero, List.set_cons_succ, i64_w, i32_w]
    rfl
  refine pure_ (i := 25) (N := some 65) (v := ?_) (a' := ?_) #[true, true, true, true, true, true, true, true, true, true, true, true, true, true, true, true, true, true, true, true, true, true, true, true, true, true, false, false, false, false, false, false, false, false, false, false, false] rfl rfl (any_of HT_.out (by kernel_rfl)) (fun _ _ _ h => h) (Or.inl ⟨by rfl, ?_⟩) ?_ ?_
  rotate_left
  · intro w'
    go_simp
    with_reducible rfl
  rotate_left
  · simp only [Act.put, List.setIfInBounds_toArray, List.set_cons_zero, List.set_cons_succ, i64_w, i32_w]
    rfl
  refine pure_ (i := 26) (N := some 66) (v := ?_) (a' := ?_) #[true, true, true, true, true, true, true, true, true, true, true, true, true, true, true, true, true, true, true, true, true, true, true, true, true, true, true, false, false, false, false, false, false, false, false, false, false] rfl rfl (any_of HT_.out (by kernel_rfl)) (fun _ _ _ h => h) (Or.inl ⟨by rfl, ?_⟩) ?_ ?_
  rotate_left
  · intro w'
    go_simp
    with_reducible rfl
  rotate_left
  · simp only [Act.put, List.setIfInBounds_toArray, List.set_cons_zero, List.set_cons_succ, i64_w, i32_w]
    rfl
  refine pure_ (i := 29) (N := some 69) (v := ?_) (a' := ?_) #[true, true, true, true, true, true, true, true, true, true, true, true, true, true, true, true, true, true, true, true, true, true, true, true, true, true, true, false, false, true, false, false, false, false, false, false, false] rfl rfl (any_of HT_.out (by kernel_rfl)) (fun _ _ _ h => h) (Or.inl ⟨by rfl, ?_⟩) ?_ ?_
  rotate_left
  · intro w'
    go_simp
    with_reducible rfl
  rotate_left
  · simp only [Act.put, List.setIfInBounds_toArray, List.set_cons_zero, List.set_cons_succ, i64_w, i32_w]
    rfl
  refine pure_ (i := 27) (N := some 67) (v := ?_) (a' := ?_) #[true, true, true, true, true, true, true, true, true, true, true, true, true, true, true, true, true, true, true, true, true, true, true, true, true, true, true, true, false, true, false, false, false, false, false, false, false] rfl rfl (any_of HT_.out (by kernel_rfl)) (fun _ _ _ h => h) (Or.inl ⟨by rfl, ?_⟩) ?_ ?_
  rotate_left
  · intro w'
    go_simp
    with_reducible rfl
  rotate_left
  · simp only [Act.put, List.setIfInBounds_toArray, List.set_cons_zero, List.set_cons_succ, i64_w, i32_w]
    rfl
  refine pure_ (i := 30) (N := some 70) (v := ?_) (a' := ?_) #[true, true, true, true, true, true, true, true, true, true, true, true, true, true, true, true, true, true, true, true, true, true, true, true, true, true, true, true, false, true, true, false, false, false, false, false, false] rfl rfl (any_of HT_.out (by kernel_rfl)) (fun _ _ _ h => h) (Or.inl ⟨by rfl, ?_⟩) ?_ ?_
  rotate_left
  · intro w'
    go_simp
    with_reducible rfl
  rotate_left
  · simp only [Act.put, List.setIfInBounds_toArray, List.set_cons_zero, List.set_cons_succ, i64_w, i32_w]
    rfl
  refine take_ (i := 28) (N := some 68) (v := ?_) (a' := ?_) #[true, true, true, true, true, true, true, true, true, true, true, true, true, true, true, true, true, true, true, true, true, true, true, true, true, true, true, true, true, true, true, false, false, false, false, false, false] rfl rfl (take_of HT_.out (by kernel_rfl)) (fun _ _ _ h => h) (Or.inl ⟨by rfl, ?_⟩) hHeld ?_ ?_
  rotate_left
  · rintro w' ⟨s0, s1⟩
    go_simp
    with_reducible rfl
  rotate_left
  · simp only [Act.put, List.setIfInBounds_toArray, List.set_cons_zero, List.set_cons_succ, i64_w, i32_w]
    rfl
  refine take_ (i := 31) (N := some 71) (v := ?_) (a' := ?_) #[true, true, true, true, true, true, true, true, true, true, true, true, true, true, true, true, true, true, true, true, true, true, true, true, true, true, true, true, true, true, true, true, false, false, false, false, false] rfl rfl (take_of HT_.out (by kernel_rfl)) (fun _ _ _ h => h) (Or.inl ⟨by rfl, ?_⟩) hHeld ?_ ?_
  rotate_left
  · rintro w' ⟨s0, s1⟩
    go_simp
    with_reducible rfl
  rotate_left
  · simp only [Act.put, List.setIfInBounds_toArray, List.set_cons_zero, List.set_cons_succ, i64_w, i32_w]
    rfl
  refine one_ (i := 32) (N := some 72) #[true, true, true, true, true, true, true, true, true, true, true, true, true, true, true, true, true, true, true, true, true, true, true, true, true, true, true, true, true, true, true, true, true, false, false, false, false] rfl rfl (one_of HT_.out (by kernel_rfl)) (by decide) (fun K hK => ?_)
  refine value_ (w1 := ?_) (v := ?_) (by rfl) rfl ?_ ?_
  rotate_left 2
  · go_simp
    constructor
    · rfl
    · rfl
  have HL12 := Lib.hid (heap_alloc_new w12 (.cells #[.slice (some ⟨b3, 0, none⟩) 1 1, .slice none 0 0, .slice (some ⟨b3, 0, none⟩) 1 1, .slice none 0 0] 50))
  have HA13 := Lib.hid (HA12.out.below (below_alloc (Below.refl _ _) (.cells #[.slice (some ⟨b3, 0, none⟩) 1 1, .slice none 0 0, .slice (some ⟨b3, 0, none⟩) 1 1, .slice none 0 0] 50)))
  refine hK.out _ _ HA13.out.cells (fun hHeld => ?_)
  clear hK K
  refine norm_ (a' := ?_) ?_ ?_
  rotate_left
  · show Act.put _ (some 72) _ = _
    simp only [Act.put, List.setIfInBounds_toArray, List.set_cons_zero, List.set_cons_succ, i64_w, i32_w]
    rfl
  refine one_ (i := 33) (N := some 73) #[true, true, true, true, true, true, true, true, true, true, true, true, true, true, true, true, true, true, true, true, true, true, true, true, true, true, true, true, true, true, true, true, true, true, false, false, false] rfl rfl (one_of HT_.out (by kernel_rfl)) (by decide) (fun K hK => ?_)
  refine goes_ Try.func26 (by kernel_rfl) rfl #[.slice (some ⟨w12.heap.size, 0, none⟩) 2 2] (by rfl) rfl rfl (by (try simp only [List.map_toArray, List.map_cons, List.map_nil]); first | done | rfl) ?_
  refine (uniq22' w12.heap.size _ (HA13.out.two HL12.out)).mono ?_
  rintro e w14 ⟨rfl, hb⟩
  refine ⟨_, rfl, ?_⟩
  have HA14 := Lib.hid (HA13.out.below hb)
  clear hb HA12 HA13 HL12
  refine hK.out _ _ HA14.out.cells (fun hHeld => ?_)
  clear hK K
  refine norm_ (a' := ?_) ?_ ?_
  rotate_left
  · show Act.put _ (some 73) _ = _
    simp only [Act.put, List.setIfInBounds_toArray, List.set_cons_zero, List.set_cons_succ, i64_w, i32_w]
    rfl
  refine pure_ (i := 34) (N := some 74) (v := ?_) (a' := ?_) #[true, true, true, true, true, true, true, true, true, true, true, true, true, true, true, true, true, true, true, true, true, true, true, true, true, true, true, true, true, true, true, true, true, true, true, false, false] rfl rfl (any_of HT_.out (by kernel_rfl)) (fun _ _ _ h => h) (Or.inl ⟨by rfl, ?_⟩) ?_ ?_
  rotate_left
  · intro w'
    go_simp
    with_reducible rfl
  rotate_left
  · simp only [Act.put, List.setIfInBounds_toArray, List.set_cons_zero, List.set_cons_succ, i64_w, i32_w]
    rfl
  refine pure_ (i := 35) (N := some 75) (v := ?_) (a' := ?_) #[true, true, true, true, true, true, true, true, true, true, true, true, true, true, true, true, true, true, true, true, true, true, true, true, true, true, true, true, true, true, true, true, true, true, true, true, false] rfl rfl (any_of HT_.out (by kernel_rfl)) (fun _ _ _ h => h) (Or.inl ⟨by rfl, ?_⟩) ?_ ?_
  rotate_left
  · intro w'
    go_simp
    with_reducible rfl
  rotate_left
  · simp only [Act.put, List.setIfInBounds_toArray, List.set_cons_zero, List.set_cons_succ, i64_w, i32_w]
    rfl
  refine pure_ (i := 36) (N := some 0) (v := ?_) (a' := ?_) #[true, true, true, true, true, true, true, true, true, true, true, true, true, true, true, true, true, true, true, true, true, true, true, true, true, true, true, true, true, true, true, true, true, true, true, true, true] rfl rfl (any_of HT_.out (by kernel_rfl)) (fun _ _ _ h => h) (Or.inl ⟨by rfl, ?_⟩) ?_ ?_
  rotate_left
  · intro w'
    go_simp
    with_reducible rfl
  rotate_left
  · simp only [Act.put, List.setIfInBounds_toArray, List.set_cons_zero, List.set_cons_succ, i64_w, i32_w]
    rfl
  refine done_ (done_of HT_.out (by kernel_rfl)) ?_
  try go_wp2
  go_ret
  exact ⟨rfl, HA14.out.B⟩
theorem arlinklaw22_awake.calls (r : Bool) (w : World) (h : arlinklaw22_awake.f = some r) : Calls Try.prog 22 #[] w fun e w' => e = .returned (.bool r) ∧ Below w.heap.size w w' := by
  obtain rfl := Option.some.inj h
  exact awake22_calls w
end Go.Proofs.Ythpjpkcfepmhkaa.PAll
