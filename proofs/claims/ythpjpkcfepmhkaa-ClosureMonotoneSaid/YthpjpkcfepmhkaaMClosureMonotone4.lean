/- Laid together by a program of this session (wip/bundle.py) out of its own texts and of the words that the kit's print.sh laid for this seat, cut to what is used. -/
import Derived.Test.YthpjpkcfepmhkaaMClosureMonotone3
import Derived.Deep.CutBlock
import Derived.Deep.RegionWith
import Derived.Sort.KeysCollected
import Derived.Outline
namespace Go.Proofs.Ythpjpkcfepmhkaa.PAll
open Go.RowKit Go.Proofs.YthpjpkcfepmhkaaW.PrintWords Go.Proofs.YthpjpkcfepmhkaaW.PrintLast Go.Proofs.YthpjpkcfepmhkaaW.PrintMore
set_option linter.unusedVariables false
set_option linter.unusedSimpArgs false
def seedW (pv : List ByteArray) (ps : List (ByteArray × Int)) : List S50 → List (Int × Int) → List Int → Option (List (Int × Int) × List Int)
  | [], bf, q => some (bf, q)
  | o :: r, bf, q => (visitW (nextOf pv ps (namesOf refB o.f0)) (-1) bf q).bind fun a => seedW pv ps r a.1 a.2
def loopW (pv : List ByteArray) (ps : List (ByteArray × Int)) (ms : List S50) : Nat → List (Int × Int) → List Int → Option (List (Int × Int))
  | 0, _, _ => none
  | k + 1, bf, q => if q.length = 0 then some bf else
      if 0 ≤ q.getD 0 0 ∧ q.getD 0 0 < ms.length ∧ q.length ≤ 1048576 then
        (visitW (nextOf pv ps (namesOf refB (rd_T50 ms (q.getD 0 0)).f0)) (q.getD 0 0) bf (q.drop 1)).bind fun a => loopW pv ps ms k a.1 a.2
      else none
def chainW (bf : List (Int × Int)) : Nat → Int → List Int → Option (List Int)
  | 0, _, _ => none
  | k + 1, i, out => if i < 0 then some out else if out.length ≤ 1048576 ∧ i ≤ 1048576 then chainW bf k ((lookB bf i).getD 0) (out ++ [i]) else none
def i64B (a : Int) : Bool := decide (-9223372036854775808 ≤ a) && decide (a ≤ 9223372036854775807)
def whyEnd (bf : List (Int × Int)) (a : Int) : Option (List Int × Bool) :=
  match lookB bf a with
  | none => some ([], false)
  | some _ => (chainW bf 1048576 a []).bind fun out => some (out.reverse, true)
def closure_Why.f (os ms : List S50) (a : Int) : Option (List Int × Bool) :=
  if smallL os = true ∧ smallL ms = true ∧ i64B a = true then
    (seedW (provOf os) (prsOf ms 0) os [] []).bind fun z => (loopW (provOf os) (prsOf ms 0) ms 1048576 z.1 z.2).bind fun bf => whyEnd bf a
  else none
theorem why_open {os ms : List S50} {a : Int} {r : List Int × Bool} (h : closure_Why.f os ms a = some r) : smallL os = true ∧ smallL ms = true ∧ i64B a = true ∧
    ∃ bf1 q1 bf2, seedW (provOf os) (prsOf ms 0) os [] [] = some (bf1, q1) ∧ loopW (provOf os) (prsOf ms 0) ms 1048576 bf1 q1 = some bf2 ∧ whyEnd bf2 a = some r := by
  unfold closure_Why.f at h
  by_cases c : smallL os = true ∧ smallL ms = true ∧ i64B a = true
  · rw [if_pos c, Option.bind_eq_some_iff] at h
    obtain ⟨⟨bf1, q1⟩, h1, h2⟩ := h
    rw [Option.bind_eq_some_iff] at h2
    obtain ⟨bf2, h3, h4⟩ := h2
    exact ⟨c.1, c.2.1, c.2.2, bf1, q1, bf2, h1, h3, h4⟩
  · rw [if_neg c] at h
    cases h
theorem whyEnd_cases {bf : List (Int × Int)} {a : Int} {r : List Int × Bool} (h : whyEnd bf a = some r) : (lookB bf a = none ∧ r = ([], false)) ∨ ∃ x out, lookB bf a = some x ∧ chainW bf 1048576 a [] = some out ∧ r = (out.reverse, true) := by
  unfold whyEnd at h
  cases hl : lookB bf a with
  | none =>
    rw [hl] at h
    exact .inl ⟨rfl, (Option.some.inj h).symm⟩
  | some x =>
    rw [hl] at h
    simp only [Option.bind_eq_some_iff] at h
    obtain ⟨out, h1, h2⟩ := h
    exact .inr ⟨x, out, rfl, h1, (Option.some.inj h2).symm⟩
theorem loopW_cases {pv : List ByteArray} {ps : List (ByteArray × Int)} {ms : List S50} {k : Nat} {bf bf2 : List (Int × Int)} {q : List Int} (h : loopW pv ps ms (k + 1) bf q = some bf2) :
    (q = [] ∧ bf = bf2) ∨ ∃ (i : Nat) (q' : List Int) (bf3 : List (Int × Int)) (q3 : List Int), q = (i : Int) :: q' ∧ i < ms.length ∧ q'.length ≤ 1048576 ∧ visitW (nextOf pv ps (namesOf refB (rd_T50 ms (i : Int)).f0)) (i : Int) bf q' = some (bf3, q3) ∧ loopW pv ps ms k bf3 q3 = some bf2 := by
  simp only [loopW] at h
  cases q with
  | nil => exact .inl ⟨rfl, Option.some.inj h⟩
  | cons i q' =>
    rw [if_neg (by simp)] at h
    by_cases c : 0 ≤ (i :: q').getD 0 0 ∧ (i :: q').getD 0 0 < ms.length ∧ (i :: q').length ≤ 1048576
    · rw [if_pos c, Option.bind_eq_some_iff] at h
      obtain ⟨⟨bf3, q3⟩, h1, h2⟩ := h
      obtain ⟨c1, c2, c3⟩ := c
      have c1 : 0 ≤ i := c1
      have c2 : i < ms.length := c2
      obtain ⟨n, rfl⟩ := Int.eq_ofNat_of_zero_le c1
      exact .inr ⟨n, q', bf3, q3, rfl, by omega, by rw [List.length_cons] at c3; omega, h1, h2⟩
    · rw [if_neg c] at h
      cases h
theorem next_in {l : List S50} {pv : List ByteArray} {ns : List ByteArray} {i : Int} (h : i ∈ nextOf pv (prsOf l 0) ns) : ∃ j : Nat, j < l.length ∧ i = (j : Int) := by
  unfold nextOf at h
  obtain ⟨s, _, hs⟩ := List.mem_flatMap.1 h
  by_cases c : s ∈ pv
  · rw [if_pos c] at hs; cases hs
  · rw [if_neg c] at hs
    exact zs_in hs
theorem wrapS {x : Int} (h0 : -4611686018427387904 ≤ x) (h1 : x ≤ 4611686018427387904) : wrap64 x = x := by unfold wrap64; omega
theorem setL_get {ws : List Int} {k i : Nat} {x : Int} (hk : k < ws.length) : (ws.set k x).getD i 0 = if i = k then x else ws.getD i 0 := by
  by_cases e : i = k
  · subst e
    rw [List.getD_eq_getElem?_getD, List.getElem?_set_self hk, if_pos rfl]; rfl
  · rw [List.getD_eq_getElem?_getD, List.getElem?_set_ne (Ne.symm e), if_neg e, ← List.getD_eq_getElem?_getD]
theorem rev_loop (xs : List Int) (hn : xs.length ≤ 1099511627776) : ∀ (d i : Nat) (ys : List Int), xs.length ≤ d + 2 * i → ys.length = xs.length → i ≤ xs.length → (∀ p, p < xs.length → ys.getD p 0 = if p < i ∨ xs.length ≤ p + i then xs.getD (xs.length - 1 - p) 0 else xs.getD p 0) →
    ∃ k, slices_Reverse_int_int.l0 k ys (i : Int) ((xs.length : Int) - 1 - (i : Int)) = some xs.reverse := by
  have hend : ∀ (i : Nat) (ys : List Int), xs.length ≤ 2 * i + 1 → ys.length = xs.length → (∀ p, p < xs.length → ys.getD p 0 = if p < i ∨ xs.length ≤ p + i then xs.getD (xs.length - 1 - p) 0 else xs.getD p 0) → ys = xs.reverse := by
    intro i ys hi hl hp
    refine List.ext_getElem (by rw [List.length_reverse]; exact hl) (fun p h1 h2 => ?_)
    have h3 := hp p (by omega)
    have h4 : ys.getD p 0 = xs.getD (xs.length - 1 - p) 0 := by
      rw [h3]
      by_cases c : p < i ∨ xs.length ≤ p + i
      · rw [if_pos c]
      · rw [if_neg c]
        have : xs.length - 1 - p = p := by omega
        rw [this]
    rw [List.getElem_reverse]
    rw [List.getD_eq_getElem?_getD, List.getElem?_eq_getElem h1, List.getD_eq_getElem?_getD, List.getElem?_eq_getElem (show xs.length - 1 - p < xs.length by omega)] at h4
    exact h4
  intro d
  induction d with
  | zero =>
    intro i ys hd hl hi hp
    refine ⟨1, ?_⟩
    simp only [slices_Reverse_int_int.l0]
    rw [if_neg (by omega), hend i ys (by omega) hl hp]
  | succ d ih =>
    intro i ys hd hl hi hp
    by_cases c : 2 * i + 1 < xs.length
    · have hr1 : rd ys ((xs.length : Int) - 1 - (i : Int)) = xs.getD (xs.length - 1 - i) 0 := by
        unfold rd
        have e : ((xs.length : Int) - 1 - (i : Int)).toNat = xs.length - 1 - i := by omega
        rw [e, hp _ (by omega), if_neg (by omega)]
      have hr2 : rd ys (i : Int) = xs.getD i 0 := by
        unfold rd
        rw [Int.toNat_natCast, hp _ (by omega), if_neg (by omega)]
      have et : ((xs.length : Int) - 1 - (i : Int)).toNat = xs.length - 1 - i := by omega
      obtain ⟨k, hk⟩ := ih (i + 1) ((ys.set i (xs.getD (xs.length - 1 - i) 0)).set (xs.length - 1 - i) (xs.getD i 0)) (by omega) (by rw [List.length_set, List.length_set]; exact hl) (by omega) (fun p hpl => by
        rw [setL_get (by rw [List.length_set]; omega), setL_get (by omega), hp p hpl]
        by_cases e1 : p = xs.length - 1 - i
        · rw [if_pos e1, if_pos (by omega), e1]
          congr 1
          omega
        · rw [if_neg e1]
          by_cases e2 : p = i
          · rw [if_pos e2, if_pos (by omega), e2]
          · rw [if_neg e2]
            by_cases e3 : p < i ∨ xs.length ≤ p + i
            · rw [if_pos e3, if_pos (by omega)]
            · rw [if_neg e3, if_neg (by omega)])
      refine ⟨k + 1, ?_⟩
      simp only [slices_Reverse_int_int.l0]
      rw [if_pos (by omega), if_pos (by omega), if_pos (by omega), if_pos (by omega), if_pos (by omega), hr1, hr2, et, Int.toNat_natCast, wrapS (x := (i : Int) + 1) (by omega) (by omega), wrapS (x := (xs.length : Int) - 1 - (i : Int) - 1) (by omega) (by omega)]
      have e4 : (i : Int) + 1 = ((i + 1 : Nat) : Int) := by omega
      have e5 : (xs.length : Int) - 1 - (i : Int) - 1 = (xs.length : Int) - 1 - ((i + 1 : Nat) : Int) := by omega
      rw [e4, e5]
      exact hk
    · refine ⟨1, ?_⟩
      simp only [slices_Reverse_int_int.l0]
      rw [if_neg (by omega), hend i ys (by omega) hl hp]
theorem reverse_f (xs : List Int) (hn : xs.length ≤ 1099511627776) : ∃ k, slices_Reverse_int_int.f k xs = some xs.reverse := by
  obtain ⟨k, hk⟩ := rev_loop xs hn xs.length 0 xs (by omega) rfl (by omega) (fun p hp => by rw [if_neg (by omega)])
  refine ⟨k, ?_⟩
  unfold slices_Reverse_int_int.f
  rw [wrapS (by omega) (by omega)]
  have : (xs.length : Int) - 1 - ((0 : Nat) : Int) = (xs.length : Int) - 1 := by omega
  rw [this] at hk
  exact hk
end Go.Proofs.Ythpjpkcfepmhkaa.PAll
namespace Go.Proofs.Ythpjpkcfepmhkaa.PAll
open Go.RowKit Go.Proofs.YthpjpkcfepmhkaaW.PrintWords Go.Proofs.YthpjpkcfepmhkaaW.PrintLast Go.Proofs.YthpjpkcfepmhkaaW.PrintMore
set_option linter.unusedVariables false
set_option linter.unusedSimpArgs false
def WhyEnd (w : World) (r1 : List Int) (r2 : Bool) (e : Ending) (w' : World) : Prop := ∃ v0_ : Value, e = .returned (.tuple #[v0_, .bool r2]) ∧ Kd.R (Kd.int .i64) 3 w' w.heap.size (fun _ => True) v0_ r1 ∧ Below w.heap.size w w'
theorem YW.pop {w1 wr : World} {vm : Value} {bd bp g8 g9 g10 bb : Nat} {A : Option Addr} {i : Int} {q : List Int} {bf : List (Int × Int)} {n c : Nat} (h : YW w1 wr vm bd bp g8 g9 g10 bb (.slice A n c) (i :: q) bf) :
    YW w1 (wr.setCell ⟨g10, 0, none⟩ (.slice (if c = 1 then A else A.map (·.add (1 * 1))) (n - 1) (c - 1))) vm bd bp g8 g9 g10 bb (.slice (if c = 1 then A else A.map (·.add (1 * 1))) (n - 1) (c - 1)) q bf := by
  have hQ := Kd.Q_drop (k := 1) h.q (by simp)
  exact (h.push (World.grownBy.refl wr _) hQ h.B).1
theorem chainW_cases {bf : List (Int × Int)} {k : Nat} {i : Int} {out r : List Int} (h : chainW bf (k + 1) i out = some r) : (i < 0 ∧ out = r) ∨ (0 ≤ i ∧ i ≤ 1048576 ∧ out.length ≤ 1048576 ∧ chainW bf k ((lookB bf i).getD 0) (out ++ [i]) = some r) := by
  simp only [chainW] at h
  by_cases c : i < 0
  · rw [if_pos c] at h
    exact .inl ⟨c, Option.some.inj h⟩
  · rw [if_neg c] at h
    by_cases d : out.length ≤ 1048576 ∧ i ≤ 1048576
    · rw [if_pos d] at h
      exact .inr ⟨by omega, d.2, d.1, h⟩
    · rw [if_neg d] at h
      cases h
theorem chainW_len {bf : List (Int × Int)} {r : List Int} : ∀ {k : Nat} {i : Int} {out : List Int}, chainW bf k i out = some r → out.length ≤ 1048577 → r.length ≤ 1048577
  | 0, i, out, h, _ => by cases h
  | k + 1, i, out, h, hl => by
    rcases chainW_cases h with ⟨_, h2⟩ | ⟨_, _, h3, h4⟩
    · rw [← h2]; exact hl
    · exact chainW_len h4 (by rw [List.length_append, List.length_singleton]; omega)
set_option maxRecDepth 10000 in
set_option maxHeartbeats 16000000 in
theorem why_calls (A0 : Option Addr) (c0 : Nat) (l0 : List S50) (A1 : Option Addr) (c1 : Nat) (l1 : List S50) (a : Int) (r1 : List Int) (r2 : Bool) (w : World) (hr0 : Kd.C k50 w A0 l0.length l0) (hr1 : Kd.C k50 w A1 l1.length l1) (h : closure_Why.f l0 l1 a = some (r1, r2)) :
    Calls Try.prog 29 #[.slice A0 l0.length c0, .slice A1 l1.length c1, .int .i64 a] w fun e w' => WhyEnd w r1 r2 e w' := by
  obtain ⟨s0, s1, ha, bf1, q1, bf2, hseed, hrun, hres⟩ := why_open h
  have hu50 := Try.underlying50
  have hu83 := Try.underlying83
  have hmm := @run_makeMap Try.prog
  have HR0 := Lib.hid hr0
  have HR1 := Lib.hid hr1
  have hl0 := (smallL_iff.1 s0).1
  have hl1 := (smallL_iff.1 s1).1
  have HPL := Lib.hid (show (prsOf l1 0).length ≤ 1048576 from by have := prs_len s1 l1.length; rwa [List.take_length] at this)
  have HPI := Lib.hid (fun ns i (h : i ∈ nextOf (provOf l0) (prsOf l1 0) ns) => next_in h)
  have S0 := Lib.hid s0
  have S1 := Lib.hid s1
  have HSEED := Lib.hid hseed
  have HRUN := Lib.hid hrun
  have HRES := Lib.hid hres
  have HKA := Lib.hid (show keyOf Try.prog 3 (.int .i64 a) = some (lkI a) from by
    unfold i64B at ha
    simp only [Bool.and_eq_true, decide_eq_true_eq] at ha
    exact keyI ha.1 ha.2)
  clear hr0 hr1 s0 s1 h hseed hrun hres ha
  go_enter Try.func29, Try.ntmps29
  go_wp2_with fail
  refine (build_calls A0 c0 l0 A1 c1 l1 w HR0.out HR1.out S0.out S1.out).mono ?_
  rintro e w1 ⟨bd, bp, f, g, rfl, hB1, hG1, hV1, hbd, hbp⟩
  have HB1 := Lib.hid hB1
  have HG1 := Lib.hid hG1
  have HV1 := Lib.hid hV1
  have hs1 := below_size hB1
  clear hB1 hG1 hV1 hbd hbp
  generalize provOf l0 = pv at *
  generalize prsOf l1 0 = ps at *
  go_wp2
  have HW0 := Lib.hid (YW.start w1 (.slice A1 l1.length c1) bd bp)
  generalize (((w1.alloc (.cells #[.slice A1 l1.length c1, .map (some bd), .map (some bp)] 83)).alloc (.map #[] 0)).alloc (.cells #[.map (some (w1.heap.size + 1))] 97)).alloc (.cells #[.slice none 0 0] 24) = wa at *
  clear hmm
  go_loopg [26] l0.length (fun kq v26 w' => ∃ (k : Nat) (qv : Value) (q : List Int) (bf : List (Int × Int)), v26 = .int .i64 k ∧ Aside0 (kq + k = l0.length ∧ seedW pv ps (l0.drop k) bf q = some (bf1, q1)) ∧ Aside0 (YW w1 w' (.slice A1 l1.length c1) bd bp w1.heap.size (w1.heap.size + 1 + 1) (w1.heap.size + 1 + 1 + 1) (w1.heap.size + 1) qv q bf))
  case atStart => exact ⟨0, _, _, _, rfl, ⟨by omega, HSEED.out⟩, ⟨HW0.out⟩⟩
  case round =>
    clear HW0 HSEED
    obtain ⟨k, qv, q, bf, rfl, HA, HS⟩ := hrel
    cases gk with
    | zero =>
      have hk : l0.length ≤ k := by have := HA.out.1; omega
      have hkf : decide (k < l0.length) = false := decide_eq_false (by omega)
      have hsd := HA.out.2
      rw [List.drop_eq_nil_of_le hk] at hsd
      simp only [seedW, Option.some.injEq, Prod.mk.injEq] at hsd
      obtain ⟨rfl, rfl⟩ := hsd
      clear HA hk HR0 S0 hl0
      go_wp2
      go_loopg [] 1048576 (fun kq w' => ∃ (qv : Value) (q : List Int) (bf : List (Int × Int)), Aside0 (loopW pv ps l1 kq bf q = some bf2) ∧ Aside0 (YW w1 w' (.slice A1 l1.length c1) bd bp w1.heap.size (w1.heap.size + 1 + 1) (w1.heap.size + 1 + 1 + 1) (w1.heap.size + 1) qv q bf))
      case atStart => exact ⟨qv, q, bf, ⟨HRUN.out⟩, ⟨HS.out⟩⟩
      case round =>
        clear HS HRUN
        obtain ⟨qv, q, bf, HL, HS⟩ := hrel
        cases gk with
        | zero =>
          exfalso
          have := HL.out
          simp [loopW] at this
        | succ kq =>
          have hcq := blk_cell HS.out.cq 0
          simp only [List.getElem?_toArray, List.getElem?_cons_succ, List.getElem?_cons_zero] at hcq
          rcases loopW_cases HL.out with ⟨rfl, rfl⟩ | ⟨i, q', bf3, q3, rfl, hi, hql, hvis, hloop⟩
          · obtain ⟨Aq, cq, rfl, _⟩ := Kd.Q_slice HS.out.q
            have hcb := blk_cell HS.out.cb 0
            simp only [List.getElem?_toArray, List.getElem?_cons_succ, List.getElem?_cons_zero] at hcb
            have hlk := HS.out.bf.look_ok lawI Try.underlying97 (zeroI _) HKA.out
            have hso : (bgW bf a).isSome = (lookB bf a).isSome := by unfold bgW; cases lookB bf a <;> rfl
            rw [hso] at hlk
            generalize (bgW bf a).getD (.int .i64 0) = z at hlk
            have hbw := below_then HB1.out hs1 HS.out.B
            have HB := Lib.hid (And.intro HS.out.cb (And.intro HS.out.bf hbw))
            have hgl9 := blk_lt HS.out.cb
            have hbs := below_size hbw
            clear hso HL hbw HS
            rcases whyEnd_cases HRES.out with ⟨hn, hr⟩ | ⟨x, out1, hn, hch, hr⟩
            · rw [hn] at hlk
              have hlk2 : (Instr.lookup 97 (.map (some (w1.heap.size + 1))) (.int .i64 a) true).run Try.prog wr = .ok (.tuple #[z, .bool false]) wr := hlk
              injection hr with hra hrb
              subst hra
              subst hrb
              clear hn hlk
              go_wp2
              go_ret2
              exact ⟨_, rfl, Kd.R_nil _ _ _ _ _, HB.out.2.2⟩
            · rw [hn] at hlk
              have hlk2 : (Instr.lookup 97 (.map (some (w1.heap.size + 1))) (.int .i64 a) true).run Try.prog wr = .ok (.tuple #[z, .bool true]) wr := hlk
              injection hr with hra hrb
              subst hra
              subst hrb
              have HCH := Lib.hid hch
              have HCL := Lib.hid (show out1.length ≤ 1099511627776 from Nat.le_trans (chainW_len hch (by simp)) (by omega))
              clear hn hlk hch
              go_wp2
              go_loopg [17, 18] 1048576 (fun kq v17 v18 w' => ∃ (i : Int) (out : List Int), v18 = .int .i64 i ∧ Aside0 (chainW bf kq i out = some out1) ∧ Aside0 (w'.heap[w1.heap.size + 1 + 1]? = some (.cells #[.map (some (w1.heap.size + 1))] 97 (0, 0)) ∧ MapV lkI w' 3 (w1.heap.size + 1) bf.length (bgW bf) ∧ Below w.heap.size w w' ∧ KI.R 3 w' w.heap.size (fun _ => True) v17 out))
              case atStart => exact ⟨a, [], rfl, ⟨HCH.out⟩, ⟨HB.out.1, HB.out.2.1, HB.out.2.2, Kd.R_nil _ _ _ _ _⟩⟩
              case round =>
                clear HCH HB hcb hgl9 hbs hlk2 hcq
                obtain ⟨i, out, rfl, HCH, HB⟩ := hrel
                cases gk with
                | zero =>
                  exfalso
                  have := HCH.out
                  simp [chainW] at this
                | succ iq =>
                  have hbs := below_size HB.out.2.2.1
                  rcases chainW_cases HCH.out with ⟨hi, rfl⟩ | ⟨hi0, hi1, hol, hch⟩
                  · have hge : ¬ (0 ≤ i) := by omega
                    obtain ⟨kr, hkr⟩ := reverse_f out HCL.out
                    have HKR := Lib.hid hkr
                    clear hkr HCH
                    go_wp2_with fail
                    refine (slices_Reverse_int_int.calls kr (fun _ => True) u17 out out.reverse w wr HB.out.2.2.1 HB.out.2.2.2 HKR.out).mono ?_
                    rintro e w9 ⟨rfl, hR9, hB9, _⟩
                    have HE := Lib.hid (And.intro (Kd.R_mono (ok' := fun _ => True) hR9 (fun _ _ => trivial)) hB9)
                    clear hR9 hB9
                    go_wp2
                    go_ret2
                    exact ⟨u17, rfl, HE.out⟩
                  · have HCH2 := Lib.hid hch
                    have hcb := blk_cell HB.out.1 0
                    simp only [List.getElem?_toArray, List.getElem?_cons_succ, List.getElem?_cons_zero] at hcb
                    have hgl9 := blk_lt HB.out.1
                    clear hch HCH
                    go_wp2_with (first | (at_builtin; go_must (refine Kd.R_append KI (w0 := w) w.heap.size rfl (.tmp 67) (.tmp 69) 24 3 (.int .i64 0) 8 rfl Try.underlying24 info3 rfl (by decide) (by decide) u17 out i [.int .i64 i] (fun _ => True) (fun _ => False) rfl ?aX ?aP (fun _ hk => hk.elim) ?aF ?aO ?aB ?aS ?aL ?_; (case aX => go_simp); (case aP => rfl); (case aF => exact fun _ _ => trivial); (case aO => exact HB.out.2.2.2); (case aB => exact HB.out.2.2.1); (case aS => exact hbs); (case aL => omega); intro v1 w7 ho hb hg hat; have hcb7 := blk_grown HB.out.1 hg (Kd.R_ne HB.out.2.2.2 HB.out.1 (by decide)); have hm7 := HB.out.2.1.grown hg (HB.out.2.1.ne_row HB.out.2.2.2); have hlk7 := hm7.look lawI Try.underlying97 (zeroI _) (keyI (i := i) (by omega) (by omega)); have hgv : (bgW bf i).getD (.int .i64 0) = .int .i64 ((lookB bf i).getD 0) := (by unfold bgW; cases lookB bf i <;> rfl); rw [hgv] at hlk7; have hc7 := blk_cell hcb7 0; simp only [List.getElem?_toArray, List.getElem?_cons_succ, List.getElem?_cons_zero] at hc7; have hl7 := blk_lt hcb7; have HE := Lib.hid (And.intro hcb7 (And.intro hm7 (And.intro hb ho))); clear ho hb hg hat hcb7 hm7 hgv)))
                    go_roundg iq
                    case measure => omega
                    case rel => exact ⟨_, out ++ [i], rfl, ⟨HCH2.out⟩, ⟨HE.out⟩⟩
          · obtain ⟨gq, oq, cq, hqv, hgq, _, _⟩ := Kd.Q_form HS.out.q (by simp)
            subst hqv
            have hq0 := (Kd.Q_cell (0 : Int) HS.out.q (0 : Int) (by omega) (by simp only [List.length_cons]; omega)).1
            have hq0 : wr.cell? ⟨gq, oq, none⟩ = some (.int .i64 (i : Int)) := hq0
            obtain ⟨i0, hi0, _, hsz0, _⟩ := info_parts info3
            have hcut := cut_from (P := Try.prog) 24 3 .i64 Try.underlying24 hi0 1 hsz0 (some ⟨gq, oq, none⟩) (((i : Int) :: q').length) cq 1 (by omega) (by simp only [List.length_cons]; omega)
            have hcut : ∀ W : World, (Instr.slice 24 (.slice (some ⟨gq, oq, none⟩) (((i : Int) :: q').length) cq) (some (.int .i64 1)) none none).run Try.prog W = .ok (.slice (if cq = 1 then (some ⟨gq, oq, none⟩ : Option Addr) else (some ⟨gq, oq, none⟩ : Option Addr).map (·.add (1 * 1))) (((i : Int) :: q').length - 1) (cq - 1)) W := hcut
            have hpop := HS.out.pop
            generalize (if cq = 1 then (some ⟨gq, oq, none⟩ : Option Addr) else (some ⟨gq, oq, none⟩ : Option Addr).map (·.add (1 * 1))) = Aq' at hcut hpop
            generalize cq - 1 = cq' at hcut hpop
            simp only [List.length_cons, Nat.add_sub_cancel] at hcut hpop hcq
            have HP := Lib.hid hpop
            have HV := Lib.hid (And.intro hvis hloop)
            have hgl10 := blk_lt HS.out.cq
            have hzf := blk_frozen HS.out.cq 0
            clear hpop hvis hloop HL hi0 hsz0 HS
            obtain ⟨ad, B0, d0, B1, d1, hA1e, hx0, hx1, hle0, hC0, hle1, hC1⟩ := at_T50 HR1.out (i : Int) (Int.natCast_nonneg _) (by omega)
            subst hA1e
            have HN := Lib.hid (names_small S1.out refB hi)
            go_wp2
            generalize wr.setCell ⟨w1.heap.size + 1 + 1 + 1, 0, none⟩ (.slice Aq' q'.length cq') = w5 at *
            have H5 := Lib.hid (HP.out.below (below_drew (Below.refl _ _)))
            have hB := below_then HB1.out hs1 H5.out.B
            have hB5 := below_then HB1.out hs1 HP.out.B
            have hx0' := (hB5.cell (World.block_lt_of_cell? w _ hx0)).trans hx0
            have hx1' := (hB5.cell (World.block_lt_of_cell? w _ hx1)).trans hx1
            replace hx0 := (hB.cell (World.block_lt_of_cell? w _ hx0)).trans hx0
            replace hx1 := (hB.cell (World.block_lt_of_cell? w _ hx1)).trans hx1
            simp only [Int.toNat_natCast] at hx0 hx1 hx0' hx1'
            have HX := Lib.hid (Kd.C_below hC0 hB)
            have p0 := blk_cell HP.out.p 0
            have p1 := blk_cell HP.out.p 1
            have p2 := blk_cell HP.out.p 2
            have p0' := blk_cell H5.out.p 0
            have p1' := blk_cell H5.out.p 1
            have p2' := blk_cell H5.out.p 2
            simp only [List.getElem?_toArray, List.getElem?_cons_succ, List.getElem?_cons_zero] at p0 p1 p2 p0' p1' p2'
            have pl := blk_lt H5.out.p
            clear hB hB5 hC0 hC1 hle0 hle1 hcq hq0 hgl10 hzf hcut HP
            generalize rd_T50 l1 i = x at *
            obtain ⟨x0, x1⟩ := x
            dsimp only at hx0 hx1 hx0' hx1' HX HN HV
            go_region_with (first | (go_at_call 57; refine (next_calls (.slice (some ad) l1.length c1) bd bp w.heap.size ps.length pv.length f g ps pv B0 d0 x0 B1 x1.length d1 w5.drew (HG1.out.below H5.out.B (Nat.le_refl _)) (HV1.out.below H5.out.B HV1.out.lt) HX.out HN.out.1 HN.out.2.2 HPL.out).mono ?_; rintro e w6 ⟨u, rfl, hR, hb6⟩; have HR6 := Lib.hid hR; have HNE := Lib.hid (show ∀ k, u.ownBlock = some k → some k ≠ (Value.slice Aq' q'.length cq').ownBlock from fun k hk e => (by have := Kd.R_base hR k hk; have := Kd.Q_lt H5.out.q k e.symm; omega)); have HW6 := Lib.hid (H5.out.below hb6); clear hR hb6) | (go_at_call 56; refine (visitW_calls w1 (.slice (some ad) l1.length c1) bd bp w1.heap.size (w1.heap.size + 1 + 1) (w1.heap.size + 1 + 1 + 1) (w1.heap.size + 1) l1.length (.slice Aq' q'.length cq') q' q3 bf bf3 (i : Int) w6 u (nextOf pv ps (namesOf refB x0)) w5.drew.heap.size hl1 HW6.out HR6.out HNE.out (HPI.out _) HV.out.1).mono ?_; rintro e w7 ⟨rfl, qv', hy⟩; have HW7 := Lib.hid hy; clear hy))
            all_goals go_wp2
            all_goals (go_roundg kq; (case measure => omega); (case rel => exact ⟨qv', q3, bf3, ⟨HV.out.2⟩, ⟨HW7.out⟩⟩))
    | succ kq =>
      have hk : k < l0.length := by have := HA.out.1; omega
      obtain ⟨ad, B0, d0, B1, d1, rfl, hx0, hx1, hle0, hC0, hle1, hC1⟩ := at_T50 HR0.out (k : Int) (Int.natCast_nonneg _) (by omega)
      have hB := below_then HB1.out hs1 HS.out.B
      replace hx0 := (hB.cell (World.block_lt_of_cell? w _ hx0)).trans hx0
      replace hx1 := (hB.cell (World.block_lt_of_cell? w _ hx1)).trans hx1
      simp only [Int.toNat_natCast] at hx0 hx1
      have HN := Lib.hid (names_small S0.out refB hk)
      have hsd := HA.out.2
      rw [List.drop_eq_getElem_cons hk, ← rd50 hk] at hsd
      simp only [seedW, Option.bind_eq_some_iff] at hsd
      obtain ⟨⟨bf3, q3⟩, hv1, hv2⟩ := hsd
      have HX := Lib.hid (Kd.C_below hC0 hB)
      have HF := Lib.hid (And.intro hv1 hv2)
      clear hB hC1 hle0 hle1 hC0 hv1 hv2
      generalize rd_T50 l0 k = x at *
      obtain ⟨x0, x1⟩ := x
      dsimp only at hx0 hx1 HX HN HF
      have p0 := blk_cell HS.out.p 0
      have p1 := blk_cell HS.out.p 1
      have p2 := blk_cell HS.out.p 2
      simp only [List.getElem?_toArray, List.getElem?_cons_succ, List.getElem?_cons_zero] at p0 p1 p2
      have pl := blk_lt HS.out.p
      go_wp2_with fail
      have hBW2 := HS.out.below (below_alloc (Below.refl _ _) (.cells #[.slice B0 x0.length d0, .slice B1 x1.length d1] 50))
      have hC2 := Kd.C_below HX.out (below_alloc (Below.refl _ _) (.cells #[.slice B0 x0.length d0, .slice B1 x1.length d1] 50))
      clear hx0 hx1 HS HX p0 p1 p2 pl
      generalize wr.alloc (.cells #[.slice B0 x0.length d0, .slice B1 x1.length d1] 50) = w2 at *
      have HW2 := Lib.hid hBW2
      clear hBW2
      refine (next_calls (.slice A1 l1.length c1) bd bp w.heap.size ps.length pv.length f g ps pv B0 d0 x0 B1 x1.length d1 w2 (HG1.out.below HW2.out.B (Nat.le_refl _)) (HV1.out.below HW2.out.B HV1.out.lt) hC2 HN.out.1 HN.out.2.2 HPL.out).mono ?_
      rintro e w3 ⟨u, rfl, hR, hb3⟩
      have hW3 := HW2.out.below hb3
      have hne : ∀ k, u.ownBlock = some k → some k ≠ qv.ownBlock := fun k hk e => by
        have := Kd.R_base hR k hk
        have := Kd.Q_lt HW2.out.q k e.symm
        omega
      have HR3 := Lib.hid hR
      have HW3 := Lib.hid hW3
      have HNE := Lib.hid hne
      clear hR hb3 hC2 HW2 hW3 hne
      go_wp2_with fail
      refine (visitW_calls w1 (.slice A1 l1.length c1) bd bp w1.heap.size (w1.heap.size + 1 + 1) (w1.heap.size + 1 + 1 + 1) (w1.heap.size + 1) l1.length qv q q3 bf bf3 (-1) w3 u (nextOf pv ps (namesOf refB x0)) w2.heap.size hl1 HW3.out HR3.out HNE.out (HPI.out _) HF.out.1).mono ?_
      rintro e w4 ⟨rfl, qv', hy⟩
      have HW4 := Lib.hid hy
      clear hy HW3 HR3 HNE
      go_wp2
      go_roundg kq
      case measure => omega
      case rel => exact ⟨k + 1, qv', q3, bf3, by go_num, ⟨by have := HA.out.1; omega, HF.out.2⟩, ⟨HW4.out⟩⟩
theorem closure_Why.calls (A0 : Option Addr) (c0 : Nat) (l0 : List S50) (A1 : Option Addr) (c1 : Nat) (l1 : List S50) (a2 : Int) (r1 : List Int) (r2 : Bool) (w : World) (hr0 : Kd.C k50 w A0 l0.length l0) (hc0 : l0.length ≤ c0) (hr1 : Kd.C k50 w A1 l1.length l1) (hc1 : l1.length ≤ c1) (h : closure_Why.f l0 l1 a2 = some (r1, r2)) :
    Calls Try.prog 29 #[.slice A0 l0.length c0, .slice A1 l1.length c1, .int .i64 a2] w fun e w' => ∃ v0_ : Value, e = .returned (.tuple #[v0_, .bool r2]) ∧ Kd.R (Kd.int .i64) 3 w' w.heap.size (fun _ => True) v0_ r1 ∧ Below w.heap.size w w' :=
  (why_calls A0 c0 l0 A1 c1 l1 a2 r1 r2 w hr0 hr1 h).mono fun e w' h => h
end Go.Proofs.Ythpjpkcfepmhkaa.PAll
namespace Go.Proofs.Ythpjpkcfepmhkaa.PAll
open Go.RowKit Go.Proofs.YthpjpkcfepmhkaaW.PrintWords Go.Proofs.YthpjpkcfepmhkaaW.PrintLast Go.Proofs.YthpjpkcfepmhkaaW.PrintMore
set_option linter.unusedVariables false
set_option linter.unusedSimpArgs false
def uniqB (ps : List (ByteArray × Int)) : Bool := ps.all fun p => decide ((zsOf ps p.1).length ≤ 1)
def closure_Unique.f (ms : List S50) : Option Bool := if smallL ms = true then some (uniqB (prsOf ms 0)) else none
theorem uniqB_false {ps : List (ByteArray × Int)} {s : ByteArray} (h : 1 < (zsOf ps s).length) : uniqB ps = false := by
  unfold uniqB
  rw [List.all_eq_false]
  obtain ⟨i, hi⟩ := List.exists_mem_of_length_pos (show 0 < (zsOf ps s).length by omega)
  unfold zsOf at hi
  obtain ⟨p, hp, _⟩ := List.mem_map.1 hi
  obtain ⟨h1, h2⟩ := List.mem_filter.1 hp
  refine ⟨p, h1, ?_⟩
  rw [of_decide_eq_true h2]
  simp only [decide_eq_true_eq]
  omega
theorem zs_pos {ps : List (ByteArray × Int)} {p : ByteArray × Int} (h : p ∈ ps) : zsOf ps p.1 ≠ [] := by
  unfold zsOf
  intro e
  have : p.2 ∈ (ps.filter fun q => decide (q.1 = p.1)).map (fun q => q.2) := List.mem_map.2 ⟨p, List.mem_filter.2 ⟨h, by simp⟩, rfl⟩
  rw [e] at this
  cases this
theorem uniqB_true {ps : List (ByteArray × Int)} {g : ByteArray → Option Value} (hn : ∀ s, g s = none → zsOf ps s = []) (h : ∀ s v, g s = some v → (zsOf ps s).length ≤ 1) : uniqB ps = true := by
  unfold uniqB
  rw [List.all_eq_true]
  intro p hp
  rw [decide_eq_true_eq]
  cases hg : g p.1 with
  | none => exact absurd (hn _ hg) (zs_pos hp)
  | some v => exact h _ v hg
theorem atOf_inj {g : Option Value} {c : Value} (h : ∀ z, atOf g z = .held c) : g = some c := by
  cases g with
  | none => have := h .nil; cases this
  | some v =>
    have := h .nil
    injection this with this
    rw [this]
theorem none_C (w : World) : Kd.C k50 w none ([] : List S50).length [] := ⟨rfl, by simp, fun h => absurd h (by simp)⟩
def UniqueEnd (w : World) (r : Bool) (e : Ending) (w' : World) : Prop := e = .returned (.bool r) ∧ Below w.heap.size w w'
set_option maxRecDepth 10000 in
set_option maxHeartbeats 8000000 in
theorem unique_calls (A0 : Option Addr) (c0 : Nat) (l0 : List S50) (r : Bool) (w : World) (hr0 : Kd.C k50 w A0 l0.length l0) (h : closure_Unique.f l0 = some r) :
    Calls Try.prog 26 #[.slice A0 l0.length c0] w fun e w' => UniqueEnd w r e w' := by
  have hsm : smallL l0 = true := by
    unfold closure_Unique.f at h
    by_cases c : smallL l0 = true
    · exact c
    · rw [if_neg c] at h; cases h
  have hres : r = uniqB (prsOf l0 0) := by
    unfold closure_Unique.f at h
    rw [if_pos hsm] at h
    exact (Option.some.inj h).symm
  have hfl : ∀ (x a b : Value) (W : World), (Instr.field 83 (.agg #[x, a, b]) 1).run Try.prog W = .ok a W := fun x a b W => by kernel_rfl
  have HR0 := Lib.hid hr0
  have S0 := Lib.hid hsm
  have HRES := Lib.hid hres
  clear hr0 h hsm hres
  go_enter Try.func26, Try.ntmps26
  go_wp2_with fail
  refine (build_calls none 0 [] A0 c0 l0 w (none_C w) HR0.out rfl S0.out).mono ?_
  rintro e w1 ⟨bd, bp, f, g, rfl, hB1, hG1, hV1, hbd, hbp⟩
  generalize prsOf l0 0 = ps at *
  obtain ⟨D, hD1, hD2⟩ := hG1.map
  have HB1 := Lib.hid hB1
  have HG1 := Lib.hid hG1
  have HD := Lib.hid hD2
  have hs1 := below_size hB1
  clear hB1 hG1 hV1 hbd hbp hD2
  go_wp2_with (at_range; refine wpList_range_own _ rfl _ 80 rfl 9 24 lawS Try.underlying80 rawR bd ps.length D rfl hD1 ?_; intro w2 hrg hg2 hs2; have HRG := Lib.hid hrg; have HB2 := Lib.hid (show Below w1.heap.size w1 w2 from ⟨hg2.os, hg2.tape, hg2.output, hg2.size, fun i hi => hg2.block i hi (by simp)⟩); clear hrg hg2 hs2)
  (try go_frame)
  clear hD1
  go_loopg [] ((Maps.size D) + 1) (fun kq w' => ∃ (left : Lit → Bool) (cnt : Nat), Aside0 (cnt < kq) ∧ Aside0 (w'.ranges Try.prog 9 rawR bd w1.heap.size ps.length D left cnt ∧ Below w1.heap.size w1 w') ∧ Aside0 (∀ s v, g s = some v → left (lkS s) = false → (zsOf ps s).length ≤ 1))
  case atStart => exact ⟨_, _, ⟨Nat.lt_succ_self _⟩, ⟨HRG.out, HB2.out⟩, ⟨fun s v hs hl => by rw [has_at HD.out, hs] at hl; cases hl⟩⟩
  case round =>
    clear HRG HB2
    obtain ⟨left, cnt, HC, HS, HL⟩ := hrel
    cases gk with
    | zero => exact absurd HC.out (by omega)
    | succ kq =>
      have hrg := HS.out.1
      go_wp2_with (at_next; refine wpList_next_ranges _ rfl _ rfl 9 lawS rawR Value.string id (fun key kl hkey => by obtain ⟨x, hx, _⟩ := Maps.keyOf_str Try.underlying9 hkey; exact ⟨⟨x.toArray⟩, hx⟩) (fun v y hv => ⟨v, rfl⟩) bd w1.heap.size ps.length D left cnt rfl hrg ?_ ?_)
      · intro hc0 hl0
        have hu : uniqB ps = true := uniqB_true HG1.out.has (fun s v hs => HL.out s v hs (hl0 _))
        have HU := Lib.hid hu
        clear hc0 hl0 hrg hu
        go_wp2
        go_ret
        refine ⟨?_, below_then HB1.out hs1 HS.out.2⟩
        rw [HRES.out, HU.out]; rfl
      · intro x c kl d pl w2 cnt2 hkey hlk hv hat hrg2 hlt hg2 hs2 hen
        have hkl : kl = lkS x := by
          obtain ⟨y, hy, rfl, _⟩ := Maps.keyOf_str Try.underlying9 hkey
          unfold encStr at hy
          injection hy with hy
          rw [hy]
          rfl
        have hd : d = .held c := by
          unfold rawR at hv
          injection hv with hv
          injection hv with hv _
          exact hv.symm
        have hgx : g x = some c := atOf_inj (fun z => by rw [← HD.out x z, ← hkl, hat z, hd])
        have hrow := (HG1.out.rows x).1
        rw [hgx, Option.getD_some] at hrow
        obtain ⟨Ac, cc, rfl⟩ := Kd.R_slice hrow
        have hzl : (zsOf ps x).length ≤ 9223372036854775807 := (Kd.R_reads' hrow).2.2.2.1
        have HK := Lib.hid (And.intro hkl hgx)
        have HR2 := Lib.hid (And.intro hrg2 (And.intro hlt (HS.out.2.grown hg2 HS.out.2.size (fun k hk => by cases hk; exact Nat.le_refl _))))
        clear hkey hlk hv hat hrg2 hlt hg2 hs2 hkl hd hgx hrow hrg
        by_cases h1 : 1 < (zsOf ps x).length
        · have HU := Lib.hid (uniqB_false h1)
          have h1' : (1 : Int) < ((zsOf ps x).length : Int) := by omega
          go_wp2
          go_ret
          refine ⟨?_, below_then HB1.out hs1 HR2.out.2.2⟩
          rw [HRES.out, HU.out]; rfl
        · have h1' : ¬ (1 : Int) < ((zsOf ps x).length : Int) := by omega
          have HN := Lib.hid h1
          go_wp2
          go_roundg kq
          case measure => omega
          case rel =>
            refine ⟨_, cnt2, ⟨?_⟩, ⟨HR2.out.1, HR2.out.2.2⟩, ⟨fun s v hs hl => ?_⟩⟩
            · have := HC.out; have := HR2.out.2.1; omega
            · by_cases e : left (lkS s) = false
              · exact HL.out s v hs e
              · have e : left (lkS s) = true := by simpa using e
                rw [e, Bool.true_and, HK.out.1] at hl
                have hsk : (lkS s).sameKey (lkS x) = true := by simpa using hl
                have := lkS_inj _ _ (WideAt.sameKey_eq hsk)
                rw [this]
                have := HN.out
                omega
theorem closure_Unique.calls (A0 : Option Addr) (c0 : Nat) (l0 : List S50) (r : Bool) (w : World) (hr0 : Kd.C k50 w A0 l0.length l0) (hc0 : l0.length ≤ c0) (h : closure_Unique.f l0 = some r) :
    Calls Try.prog 26 #[.slice A0 l0.length c0] w fun e w' => e = .returned (.bool r) ∧ Below w.heap.size w w' :=
  (unique_calls A0 c0 l0 r w hr0 h).mono fun e w' h => h
end Go.Proofs.Ythpjpkcfepmhkaa.PAll
namespace Go.Proofs.Ythpjpkcfepmhkaa.PAll
open Go.RowKit Go.Proofs.YthpjpkcfepmhkaaW.PrintWords Go.Proofs.YthpjpkcfepmhkaaW.PrintLast Go.Proofs.YthpjpkcfepmhkaaW.PrintMore
attribute [local go_sem] max2_int min2_int max_two min_two max_three min_three max_four min_four   -- for this text's walks alone
set_option linter.unusedVariables false
set_option linter.unusedSimpArgs false
def arlinkref04_Numbers.l0 : Nat → List Int → List Int → Int → Option (Bool)
 | 0, _, _, _ => none
 | k + 1, x0, x1, x5 => if x5 < (x0.length : Int) then (if 0 ≤ x5 then (if x5 < (x1.length : Int) then (if (rd x0 x5) = (rd x1 x5) then (arlinkref04_Numbers.l0 k x0 x1 (wrap64 (x5 + 1))) else (some false)) else (none)) else (none)) else (some true)
def arlinkref04_Numbers.f (k : Nat) (l0 : List Int) (l1 : List Int) : Option (Bool) := if (l0.length : Int) = (l1.length : Int) then (arlinkref04_Numbers.l0 k l0 l1 0) else (some false)
set_option maxHeartbeats 8000000 in
set_option maxRecDepth 100000 in
theorem arlinkref04_Numbers.calls (k : Nat) (A0 : Option Addr) (c0 : Nat) (l0 : List Int) (A1 : Option Addr) (c1 : Nat) (l1 : List Int) (r : Bool) (w : World) (hr0 : Kd.C (Kd.int .i64) w A0 l0.length l0) (hc0 : l0.length ≤ c0) (hr1 : Kd.C (Kd.int .i64) w A1 l1.length l1) (hc1 : l1.length ≤ c1) (h : arlinkref04_Numbers.f k l0 l1 = some r) :
  Calls Try.prog 17 #[.slice A0 l0.length c0, .slice A1 l1.length c1] w fun e w' => e = .returned (.bool r) ∧ Drawn0 w w' := by
 have HR0 := Aside0.mk hr0
 have HC0 := Aside0.mk hc0
 clear hr0 hc0
 have HR1 := Aside0.mk hr1
 have HC1 := Aside0.mk hc1
 clear hr1 hc1
 have H : (if (l0.length : Int) = (l1.length : Int) then (arlinkref04_Numbers.l0 k l0 l1 0) else (some false)) = some r := h
 clear h
 by_cases c3 : (l0.length : Int) = (l1.length : Int)
 ·rw [if_pos c3] at H
  have c3b0 : ((l0.length : Int) == (l1.length : Int)) = true := beq_iff_eq.mpr c3
  have c3b1 : ((l0.length : Int) != (l1.length : Int)) = false := bne_eq_false_iff_eq.mpr c3
  have c3b2 : (l0.length == l1.length) = true := by first | simpa using c3 | (simp at c3 ⊢; omega)
  clear c3
  have H' := Aside0.mk H
  clear H
  go_enter Try.func17, Try.ntmps17
  go_wp2
  repeat (go_quiet (fail); try go_wp2)
  go_loopg [5] k (fun kq v5 w' => ∃ (x5_1 : Int), v5 = .int .i64 x5_1 ∧ Aside0 (arlinkref04_Numbers.l0 kq l0 l1 x5_1 = some r) ∧ Aside0 (kq ≤ k) ∧ Drawn0 w w')
  case atStart => exact ⟨(0), (by first | rfl | (simp; done) | (simp [*]; done)), H', ⟨Nat.le_refl _⟩, by repeat (first | exact Drawn0.refl _ | apply Drawn0.step)⟩
  case round =>
   clear H'
   try clear c1
   try clear p2
   try clear c3
   try clear c3b0
   try clear c3b1
   try clear c3b2
   obtain ⟨x5_1, rfl, HA, HK1, ⟨m1, rfl⟩⟩ := hrel
   cases gk with
   | zero => exact absurd HA.out (by simp [arlinkref04_Numbers.l0])
   | succ k1 =>
    have H := HA.out
    clear HA
    simp only [arlinkref04_Numbers.l0] at H
    by_cases c4 : x5_1 < (l0.length : Int)
    ·rw [if_pos c4] at H
     have c4b0 : decide (x5_1 < (l0.length : Int)) = true := decide_eq_true c4
     clear c4
     by_cases c5 : 0 ≤ x5_1
     ·rw [if_pos c5] at H
      have c5b0 : decide (0 ≤ x5_1) = true := decide_eq_true c5
      clear c5
      by_cases c6 : x5_1 < (l1.length : Int)
      ·rw [if_pos c6] at H
       have c6b0 : decide (x5_1 < (l1.length : Int)) = true := decide_eq_true c6
       clear c6
       by_cases c7 : (rd l0 x5_1) = (rd l1 x5_1)
       ·rw [if_pos c7] at H
        have c7b0 : ((rd l0 x5_1) == (rd l1 x5_1)) = true := beq_iff_eq.mpr c7
        have c7b1 : ((rd l0 x5_1) != (rd l1 x5_1)) = false := bne_eq_false_iff_eq.mpr c7
        clear c7
        have H' := Aside0.mk H
        clear H
        have p103 : 0 ≤ (x5_1 : Int) := of_decide_eq_true (by first | (with_reducible assumption) | assumption)
        have q103 : x5_1 < (l0.length : Int) := of_decide_eq_true (by first | (with_reducible assumption) | assumption)
        obtain ⟨ad103, e103, hx103_0⟩ := Kd.at_int HR0.out x5_1 p103 q103
        cases e103
        replace p103 := eq_true p103
        replace q103 := eq_true q103
        have p104 : 0 ≤ (x5_1 : Int) := of_decide_eq_true (by first | (with_reducible assumption) | assumption)
        have q104 : x5_1 < (l1.length : Int) := of_decide_eq_true (by first | (with_reducible assumption) | assumption)
        obtain ⟨ad104, e104, hx104_0⟩ := Kd.at_int HR1.out x5_1 p104 q104
        cases e104
        replace p104 := eq_true p104
        replace q104 := eq_true q104
        go_wp2
        repeat (go_quiet (fail); try go_wp2)
        go_roundg k1
        case measure => have := HK1.out; omega
        case rel => exact ⟨(wrap64 (x5_1 + 1)), (by first | rfl | (simp; done) | (simp [*]; done)), H', ⟨by have := HK1.out; omega⟩, by repeat (first | exact Drawn0.refl _ | apply Drawn0.step)⟩
       ·rw [if_neg c7] at H
        have c7b0 : ((rd l0 x5_1) == (rd l1 x5_1)) = false := beq_eq_false_iff_ne.mpr c7
        have c7b1 : ((rd l0 x5_1) != (rd l1 x5_1)) = true := bne_iff_ne.mpr c7
        obtain rfl := Option.some.inj H
        have p103 : 0 ≤ (x5_1 : Int) := of_decide_eq_true (by first | (with_reducible assumption) | assumption)
        have q103 : x5_1 < (l0.length : Int) := of_decide_eq_true (by first | (with_reducible assumption) | assumption)
        obtain ⟨ad103, e103, hx103_0⟩ := Kd.at_int HR0.out x5_1 p103 q103
        cases e103
        replace p103 := eq_true p103
        replace q103 := eq_true q103
        have p104 : 0 ≤ (x5_1 : Int) := of_decide_eq_true (by first | (with_reducible assumption) | assumption)
        have q104 : x5_1 < (l1.length : Int) := of_decide_eq_true (by first | (with_reducible assumption) | assumption)
        obtain ⟨ad104, e104, hx104_0⟩ := Kd.at_int HR1.out x5_1 p104 q104
        cases e104
        replace p104 := eq_true p104
        replace q104 := eq_true q104
        go_wp2
        repeat (go_quiet (fail); try go_wp2)
        go_ret
        exact ⟨by first | rfl | (simp; done) | (simp [*]; done), by repeat (first | exact Drawn0.refl _ | apply Drawn0.step)⟩
      ·rw [if_neg c6] at H
       exact absurd H (by simp)
     ·rw [if_neg c5] at H
      exact absurd H (by simp)
    ·rw [if_neg c4] at H
     have c4b0 : decide (x5_1 < (l0.length : Int)) = false := decide_eq_false c4
     clear c4
     obtain rfl := Option.some.inj H
     go_wp2
     repeat (go_quiet (fail); try go_wp2)
     go_ret
     exact ⟨by first | rfl | (simp; done) | (simp [*]; done), by repeat (first | exact Drawn0.refl _ | apply Drawn0.step)⟩
 ·rw [if_neg c3] at H
  have c3b0 : ((l0.length : Int) == (l1.length : Int)) = false := beq_eq_false_iff_ne.mpr c3
  have c3b1 : ((l0.length : Int) != (l1.length : Int)) = true := bne_iff_ne.mpr c3
  have c3b2 : (l0.length == l1.length) = false := by first | simpa using c3 | (simp at c3 ⊢; omega)
  obtain rfl := Option.some.inj H
  go_enter Try.func17, Try.ntmps17
  go_wp2
  repeat (go_quiet (fail); try go_wp2)
  go_ret
  exact ⟨by first | rfl | (simp; done) | (simp [*]; done), by repeat (first | exact Drawn0.refl _ | apply Drawn0.step)⟩
-- NOT PRINTED: function 46 (order_reach)
-- PROVED BY HAND: function 18 (order_Cycle)
end Go.Proofs.Ythpjpkcfepmhkaa.PAll
namespace Go.Proofs.Ythpjpkcfepmhkaa.PAll
open Go.RowKit Go.Proofs.YthpjpkcfepmhkaaW.PrintWords Go.Proofs.YthpjpkcfepmhkaaW.PrintLast Go.Proofs.YthpjpkcfepmhkaaW.PrintMore
set_option linter.unusedVariables false
set_option linter.unusedSimpArgs false
def nF : ByteArray := ⟨#[102]⟩
def nG : ByteArray := ⟨#[103]⟩
def oA : List S50 := [⟨[⟨nF, 4, 0, 0⟩], []⟩]
def m1A : S50 := ⟨[⟨nG, 2, 0, 0⟩], []⟩
def mA : List S50 := [⟨[⟨nF, 1, 0, 0⟩, ⟨nG, 4, 0, 0⟩], []⟩, m1A, ⟨[], []⟩]
theorem awake_why1 : closure_Why.f oA mA 1 = some ([0, 1], true) := by kernel_rfl
theorem awake_why2 : closure_Why.f oA mA 2 = some ([], false) := by kernel_rfl
theorem awake_why3 : closure_Why.f oA mA 3 = some ([], false) := by kernel_rfl
theorem awake_needed : closure_Needed.f oA mA = some [0, 1] := by kernel_rfl
theorem awake_uniq1 : closure_Unique.f mA = some true := by kernel_rfl
theorem awake_uniq2 : closure_Unique.f [m1A, m1A] = some false := by kernel_rfl
theorem awake_numbers : arlinkref04_Numbers.f 5 [0, 1] [0, 1] = some true := by kernel_rfl
def arlinklaw22_awake.f : Option Bool := some true
theorem C_blk {α : Type} (d : Kd α) {w : World} {g t : Nat} {xs : List α} {inner : List Value} (hb : w.heap[g]? = some (.cells inner.toArray t (0, 0))) (hr : Reps (d.K w) d.sz xs inner) (hm : xs.length ≤ 9223372036854775807) : d.C w (some ⟨g, 0, none⟩) xs.length xs := by
  refine ⟨rfl, hm, fun h0 => ⟨_, rfl, fun j p hj => ⟨(inner.drop (j * d.sz)).take d.sz, d.K_len (hr.2 j p hj), hr.2 j p hj, fun i u hu => ?_⟩⟩⟩
  rw [add_plain, blk_cell hb]
  rw [List.getElem?_take] at hu
  split at hu
  · rw [List.getElem?_drop] at hu
    rw [List.getElem?_toArray]
    exact hu
  · cases hu
theorem nil_C {α : Type} (d : Kd α) (w : World) : d.C w none ([] : List α).length [] := ⟨rfl, by simp, fun h => absurd h (by simp)⟩
structure AWk (w W : World) (b0 b1 b2 b3 b4 : Nat) : Prop where
  B : Below w.heap.size w W
  h0 : W.heap[b0]? = some (.cells #[.string ⟨#[102]⟩, .int .i64 4, .int .i64 0, .int .i64 0] 55 (0, 0))
  h1 : W.heap[b1]? = some (.cells #[.slice (some ⟨b0, 0, none⟩) 1 1, .slice none 0 0] 50 (0, 0))
  h2 : W.heap[b2]? = some (.cells #[.string ⟨#[102]⟩, .int .i64 1, .int .i64 0, .int .i64 0, .string ⟨#[103]⟩, .int .i64 4, .int .i64 0, .int .i64 0] 55 (0, 0))
  h3 : W.heap[b3]? = some (.cells #[.string ⟨#[103]⟩, .int .i64 2, .int .i64 0, .int .i64 0] 55 (0, 0))
  h4 : W.heap[b4]? = some (.cells #[.slice (some ⟨b2, 0, none⟩) 2 2, .slice none 0 0, .slice (some ⟨b3, 0, none⟩) 1 1, .slice none 0 0, .slice none 0 0, .slice none 0 0] 50 (0, 0))
section
variable {w W W' : World} {b0 b1 b2 b3 b4 : Nat}
theorem AWk.below (h : AWk w W b0 b1 b2 b3 b4) (hb : Below W.heap.size W W') : AWk w W' b0 b1 b2 b3 b4 :=
  ⟨below_then h.B h.B.size hb, blk_below h.h0 hb, blk_below h.h1 hb, blk_below h.h2 hb, blk_below h.h3 hb, blk_below h.h4 hb⟩
theorem AWk.o (h : AWk w W b0 b1 b2 b3 b4) : Kd.C k50 W (some ⟨b1, 0, none⟩) oA.length oA := by
  have s0 : Kd.C k55 W (some ⟨b0, 0, none⟩) _ [⟨nF, 4, 0, 0⟩] := C_blk k55 (inner := [.string nF, .int .i64 4, .int .i64 0, .int .i64 0]) h.h0 ((Reps.none (k55.K W) 4).snoc (k55_mk W ⟨nF, 4, 0, 0⟩) rfl) (by simp)
  exact C_blk k50 (xs := oA) (inner := [.slice (some ⟨b0, 0, none⟩) 1 1, .slice none 0 0]) h.h1 ((Reps.none (k50.K W) 2).snoc (k50_mk W ⟨[⟨nF, 4, 0, 0⟩], []⟩ (c0 := 1) (c1 := 0) (Nat.le_refl _) s0 (Nat.le_refl _) (nil_C _ W)) rfl) (by simp [oA])
theorem AWk.s3 (h : AWk w W b0 b1 b2 b3 b4) : k50.K W m1A [.slice (some ⟨b3, 0, none⟩) 1 1, .slice none 0 0] := by
  have s0 : Kd.C k55 W (some ⟨b3, 0, none⟩) _ [⟨nG, 2, 0, 0⟩] := C_blk k55 (inner := [.string nG, .int .i64 2, .int .i64 0, .int .i64 0]) h.h3 ((Reps.none (k55.K W) 4).snoc (k55_mk W ⟨nG, 2, 0, 0⟩) rfl) (by simp)
  exact k50_mk W m1A (c0 := 1) (c1 := 0) (Nat.le_refl _) s0 (Nat.le_refl _) (nil_C _ W)
theorem AWk.m (h : AWk w W b0 b1 b2 b3 b4) : Kd.C k50 W (some ⟨b4, 0, none⟩) mA.length mA := by
  have r2 := ((Reps.none (k55.K W) 4).snoc (k55_mk W ⟨nF, 1, 0, 0⟩) rfl).snoc (k55_mk W ⟨nG, 4, 0, 0⟩) rfl
  have s0 : Kd.C k55 W (some ⟨b2, 0, none⟩) ([⟨nF, 1, 0, 0⟩, ⟨nG, 4, 0, 0⟩] : List S55).length [⟨nF, 1, 0, 0⟩, ⟨nG, 4, 0, 0⟩] := by
    refine C_blk (t := 55) k55 ?_ r2 (by simp)
    exact h.h2
  have r4 := (((Reps.none (k50.K W) 2).snoc (k50_mk W ⟨[⟨nF, 1, 0, 0⟩, ⟨nG, 4, 0, 0⟩], []⟩ (c0 := 2) (c1 := 0) (Nat.le_refl _) s0 (Nat.le_refl _) (nil_C _ W)) rfl).snoc h.s3 rfl).snoc (k50_mk W ⟨[], []⟩ (c0 := 0) (c1 := 0) (Nat.le_refl _) (nil_C k55 W) (Nat.le_refl _) (nil_C _ W)) rfl
  refine C_blk (t := 50) k50 (xs := mA) ?_ r4 (by simp [mA])
  exact h.h4
theorem AWk.two (h : AWk w W b0 b1 b2 b3 b4) {g : Nat} (hg : W.heap[g]? = some (.cells #[.slice (some ⟨b3, 0, none⟩) 1 1, .slice none 0 0, .slice (some ⟨b3, 0, none⟩) 1 1, .slice none 0 0] 50 (0, 0))) : Kd.C k50 W (some ⟨g, 0, none⟩) [m1A, m1A].length [m1A, m1A] := by
  have r := ((Reps.none (k50.K W) 2).snoc h.s3 rfl).snoc h.s3 rfl
  refine C_blk (t := 50) k50 (xs := [m1A, m1A]) ?_ r (by simp)
  exact hg
end
theorem two_C {W : World} {g : Nat} (hg : W.heap[g]? = some (.cells #[.int .i64 0, .int .i64 1] 3 (0, 0))) : KI.C W (some ⟨g, 0, none⟩) ([0, 1] : List Int).length [0, 1] := by
  have r := ((Reps.none (KI.K W) 1).snoc (p := (0 : Int)) (c := [.int .i64 0]) rfl rfl).snoc (p := (1 : Int)) (c := [.int .i64 1]) rfl rfl
  refine C_blk (t := 3) KI (xs := [0, 1]) ?_ r (by simp)
  exact hg
theorem AWk.start (w : World) : AWk w (((((w.alloc (.cells #[.string ⟨#[102]⟩, .int .i64 4, .int .i64 0, .int .i64 0] 55)).alloc (.cells #[.slice (some ⟨w.heap.size, 0, none⟩) 1 1, .slice none 0 0] 50)).alloc
      (.cells #[.string ⟨#[102]⟩, .int .i64 1, .int .i64 0, .int .i64 0, .string ⟨#[103]⟩, .int .i64 4, .int .i64 0, .int .i64 0] 55)).alloc (.cells #[.string ⟨#[103]⟩, .int .i64 2, .int .i64 0, .int .i64 0] 55)).alloc
      (.cells #[.slice (some ⟨w.heap.size + 1 + 1, 0, none⟩) 2 2, .slice none 0 0, .slice (some ⟨w.heap.size + 1 + 1 + 1, 0, none⟩) 1 1, .slice none 0 0, .slice none 0 0, .slice none 0 0] 50)) w.heap.size (w.heap.size + 1) (w.heap.size + 1 + 1) (w.heap.size + 1 + 1 + 1) (w.heap.size + 1 + 1 + 1 + 1) := by
  have key : ∀ (W : World) (n : Nat) (o : Obj), W.heap.size = n → (W.alloc o).heap.size = n + 1 ∧ (W.alloc o).heap[n]? = some o := by
    rintro W n o rfl
    exact ⟨by go_simp, heap_alloc_new W o⟩
  obtain ⟨z1, r1⟩ := key w _ (.cells #[.string ⟨#[102]⟩, .int .i64 4, .int .i64 0, .int .i64 0] 55) rfl
  have B1 := below_alloc (Below.refl w.heap.size w) (.cells #[.string ⟨#[102]⟩, .int .i64 4, .int .i64 0, .int .i64 0] 55)
  generalize w.alloc (.cells #[.string ⟨#[102]⟩, .int .i64 4, .int .i64 0, .int .i64 0] 55) = w1 at *
  obtain ⟨z2, r2⟩ := key w1 _ (.cells #[.slice (some ⟨w.heap.size, 0, none⟩) 1 1, .slice none 0 0] 50) z1
  have B2 := below_alloc (Below.refl w1.heap.size w1) (.cells #[.slice (some ⟨w.heap.size, 0, none⟩) 1 1, .slice none 0 0] 50)
  generalize w1.alloc (.cells #[.slice (some ⟨w.heap.size, 0, none⟩) 1 1, .slice none 0 0] 50) = w2 at *
  obtain ⟨z3, r3⟩ := key w2 _ (.cells #[.string ⟨#[102]⟩, .int .i64 1, .int .i64 0, .int .i64 0, .string ⟨#[103]⟩, .int .i64 4, .int .i64 0, .int .i64 0] 55) z2
  have B3 := below_alloc (Below.refl w2.heap.size w2) (.cells #[.string ⟨#[102]⟩, .int .i64 1, .int .i64 0, .int .i64 0, .string ⟨#[103]⟩, .int .i64 4, .int .i64 0, .int .i64 0] 55)
  generalize w2.alloc (.cells #[.string ⟨#[102]⟩, .int .i64 1, .int .i64 0, .int .i64 0, .string ⟨#[103]⟩, .int .i64 4, .int .i64 0, .int .i64 0] 55) = w3 at *
  obtain ⟨z4, r4⟩ := key w3 _ (.cells #[.string ⟨#[103]⟩, .int .i64 2, .int .i64 0, .int .i64 0] 55) z3
  have B4 := below_alloc (Below.refl w3.heap.size w3) (.cells #[.string ⟨#[103]⟩, .int .i64 2, .int .i64 0, .int .i64 0] 55)
  generalize w3.alloc (.cells #[.string ⟨#[103]⟩, .int .i64 2, .int .i64 0, .int .i64 0] 55) = w4 at *
  obtain ⟨z5, r5⟩ := key w4 _ (.cells #[.slice (some ⟨w.heap.size + 1 + 1, 0, none⟩) 2 2, .slice none 0 0, .slice (some ⟨w.heap.size + 1 + 1 + 1, 0, none⟩) 1 1, .slice none 0 0, .slice none 0 0, .slice none 0 0] 50) z4
  have B5 := below_alloc (Below.refl w4.heap.size w4) (.cells #[.slice (some ⟨w.heap.size + 1 + 1, 0, none⟩) 2 2, .slice none 0 0, .slice (some ⟨w.heap.size + 1 + 1 + 1, 0, none⟩) 1 1, .slice none 0 0, .slice none 0 0, .slice none 0 0] 50)
  generalize w4.alloc (.cells #[.slice (some ⟨w.heap.size + 1 + 1, 0, none⟩) 2 2, .slice none 0 0, .slice (some ⟨w.heap.size + 1 + 1 + 1, 0, none⟩) 1 1, .slice none 0 0, .slice none 0 0, .slice none 0 0] 50) = w5 at *
  exact ⟨below_then (below_then (below_then (below_then B1 (by omega) B2) (by omega) B3) (by omega) B4) (by omega) B5, blk_below (blk_below (blk_below (blk_below r1 B2) B3) B4) B5, blk_below (blk_below (blk_below r2 B3) B4) B5, blk_below (blk_below r3 B4) B5, blk_below r4 B5, r5⟩
theorem need22 (b1 b4 : Nat) (W : World) (ho : Kd.C k50 W (some ⟨b1, 0, none⟩) oA.length oA) (hm : Kd.C k50 W (some ⟨b4, 0, none⟩) mA.length mA) :
    Calls Try.prog 25 #[.slice (some ⟨b1, 0, none⟩) 1 1, .slice (some ⟨b4, 0, none⟩) 3 3] W fun e w' => ∃ (A : Option Addr) (c : Nat), e = .returned (.slice A 2 c) ∧ KI.R 3 w' W.heap.size (fun _ => True) (.slice A 2 c) [0, 1] ∧ Below W.heap.size W w' :=
  (closure_Needed.calls (some ⟨b1, 0, none⟩) 1 oA (some ⟨b4, 0, none⟩) 3 mA [0, 1] W ho (Nat.le_refl _) hm (Nat.le_refl _) awake_needed).mono fun e w' ⟨v, h1, h2, h3⟩ => by
    obtain ⟨A, c, rfl⟩ := Kd.R_slice h2
    exact ⟨A, c, h1, h2, h3⟩
theorem num22 (A : Option Addr) (c g : Nat) (base : Nat) (W : World) (hR : KI.R 3 W base (fun _ => True) (.slice A 2 c) [0, 1]) (hg : W.heap[g]? = some (.cells #[.int .i64 0, .int .i64 1] 3 (0, 0))) :
    Calls Try.prog 17 #[.slice A 2 c, .slice (some ⟨g, 0, none⟩) 2 2] W fun e w' => e = .returned (.bool true) ∧ Below W.heap.size W w' :=
  (arlinkref04_Numbers.calls 5 A c [0, 1] (some ⟨g, 0, none⟩) 2 [0, 1] true W (Kd.R_reads' hR).2.2 (Kd.R_reads' hR).2.1 (two_C hg) (Nat.le_refl _) awake_numbers).mono fun e w' ⟨h1, h2⟩ => ⟨h1, h2.below⟩
theorem uniq22 (b4 : Nat) (W : World) (hm : Kd.C k50 W (some ⟨b4, 0, none⟩) mA.length mA) : Calls Try.prog 26 #[.slice (some ⟨b4, 0, none⟩) 3 3] W fun e w' => e = .returned (.bool true) ∧ Below W.heap.size W w' :=
  closure_Unique.calls (some ⟨b4, 0, none⟩) 3 mA true W hm (Nat.le_refl _) awake_uniq1
theorem uniq22' (g : Nat) (W : World) (hm : Kd.C k50 W (some ⟨g, 0, none⟩) [m1A, m1A].length [m1A, m1A]) : Calls Try.prog 26 #[.slice (some ⟨g, 0, none⟩) 2 2] W fun e w' => e = .returned (.bool false) ∧ Below W.heap.size W w' :=
  closure_Unique.calls (some ⟨g, 0, none⟩) 2 [m1A, m1A] false W hm (Nat.le_refl _) awake_uniq2
theorem AWk.cells {w W : World} {b0 b1 b2 b3 b4 : Nat} (h : AWk w W b0 b1 b2 b3 b4) : W.cell? ⟨b4, 2, none⟩ = some (.slice (some ⟨b3, 0, none⟩) 1 1) ∧ W.cell? ⟨b4, 3, none⟩ = some (.slice none 0 0) :=
  ⟨(blk_cell h.h4 2).trans rfl, (blk_cell h.h4 3).trans rfl⟩
def awake22_T : Bool × List (List Nat × List Nat) := (true, [([], []), ([], []), ([0, 1], [0, 1]), ([], []), ([2, 3, 2], [2, 3]), ([4, 4], [4]), ([5], [5]), ([5], [5]), ([6, 7, 5, 5], [5, 6, 7]), ([5, 8], [5, 8]), ([9, 8], [9]), ([10], [10]), ([10, 11], [10, 11]), ([12, 10], [12]), ([13], [13]), ([14, 13], [13, 14]), ([13, 15], [13, 15]), ([16, 13], [16]), ([17], [17]), ([18, 17], [17, 18]), ([17, 19], [17, 19]), ([20, 17], [20]), ([21], [21]), ([22, 21, 21], [21, 22]), ([21, 23], [21, 23]), ([24, 23], [24]), ([25], [25]), ([26, 25], [25, 26]), ([27, 25], [25, 27]), ([25], [25]), ([29, 25], [25, 29]), ([30, 25], [25, 30]), ([28, 31, 25], [25, 28, 31]), ([32, 25, 25], [25, 32]), ([33, 25], [25, 33]), ([25, 34], [25, 34]), ([35, 33, 0, 1, 2, 3, 4, 5, 6, 7, 8, 9, 10, 11, 12, 13, 14, 15, 16, 17, 18, 19, 20, 21, 22, 23, 24, 25, 26, 27, 28, 29, 30, 31, 32, 33, 34, 35], [35])])
theorem awake22_tab : rtab .any (opsOf Try.f22 6) = awake22_T := by kernel_rfl
set_option maxRecDepth 10000 in
set_option maxHeartbeats 400000000 in
theorem awake22_calls (w : World) : Calls Try.prog 22 #[] w fun e w' => e = .returned (.bool true) ∧ Below w.heap.size w w' := by
  go_enter Try.func22, Try.ntmps22
  go_wp2_with fail
  have HA := Lib.hid (AWk.start w)
  generalize w.heap.size + 1 + 1 + 1 + 1 = b4 at *
  generalize w.heap.size + 1 + 1 + 1 = b3 at *
  generalize w.heap.size + 1 + 1 = b2 at *
  generalize w.heap.size + 1 = b1 at *
  generalize ((((w.alloc (.cells #[.string ⟨#[102]⟩, .int .i64 4, .int .i64 0, .int .i64 0] 55)).alloc (.cells #[.slice (some ⟨w.heap.size, 0, none⟩) 1 1, .slice none 0 0] 50)).alloc
      (.cells #[.string ⟨#[102]⟩, .int .i64 1, .int .i64 0, .int .i64 0, .string ⟨#[103]⟩, .int .i64 4, .int .i64 0, .int .i64 0] 55)).alloc (.cells #[.string ⟨#[103]⟩, .int .i64 2, .int .i64 0, .int .i64 0] 55)).alloc
      (.cells #[.slice (some ⟨b2, 0, none⟩) 2 2, .slice none 0 0, .slice (some ⟨b3, 0, none⟩) 1 1, .slice none 0 0, .slice none 0 0, .slice none 0 0] 50) = w1 at *
  refine (closure_Why.calls (some ⟨b1, 0, none⟩) 1 oA (some ⟨b4, 0, none⟩) 3 mA 1 [0, 1] true w1 HA.out.o (Nat.le_refl _) HA.out.m (Nat.le_refl _) awake_why1).mono ?_
  rintro e w2 ⟨v1, rfl, hR1, hb1⟩
  obtain ⟨Aa, ca, rfl⟩ := Kd.R_slice hR1
  have HA2 := Lib.hid (HA.out.below hb1)
  have HR2 := Lib.hid (Kd.R_lower hR1 (below_size HA.out.B))
  clear HA hR1 hb1
  go_wp2_with fail
  refine (closure_Why.calls (some ⟨b1, 0, none⟩) 1 oA (some ⟨b4, 0, none⟩) 3 mA 2 [] false w2 HA2.out.o (Nat.le_refl _) HA2.out.m (Nat.le_refl _) awake_why2).mono ?_
  rintro e w3 ⟨v2, rfl, _, hb2⟩
  have HA3 := Lib.hid (HA2.out.below hb2)
  have HR3 := Lib.hid (Kd.R_below HR2.out hb2)
  clear HA2 HR2 hb2
  go_wp2_with fail
  refine (closure_Why.calls (some ⟨b1, 0, none⟩) 1 oA (some ⟨b4, 0, none⟩) 3 mA 3 [] false w3 HA3.out.o (Nat.le_refl _) HA3.out.m (Nat.le_refl _) awake_why3).mono ?_
  rintro e w4 ⟨v3, rfl, _, hb3⟩
  have HA4 := Lib.hid (HA3.out.below hb3)
  have HR4 := Lib.hid (Kd.R_below HR3.out hb3)
  clear HA3 HR3 hb3
  go_wp2
  have HA0 := Lib.hid (HA4.out.below (below_drew (Below.refl _ _)))
  have HR0 := Lib.hid (Kd.R_below HR4.out (below_drew (Below.refl _ _)))
  clear HA4 HR4
  refine start_ (n := 37) (S := fun w' => w'.cell? ⟨b4, 2, none⟩ = some (.slice (some ⟨b3, 0, none⟩) 1 1) ∧ w'.cell? ⟨b4, 3, none⟩ = some (.slice none 0 0)) (ds := []) #[false, false, false, false, false, false, false, false, false, false, false, false, false, false, false, false, false, false, false, false, false, false, false, false, false, false, false, false, false, false, false, false, false, false, false, false, false] (by kernel_rfl) rfl rfl HA0.out.cells (fun hHeld => ?_); refine with_tab awake22_tab (fun HT_ => ?_)
  generalize w4.drew = w5 at HA0 HR0 hHeld ⊢
  refine pure_ (i := 0) (N := some 40) (v := ?_) (a' := ?_) #[true, false, false, false, false, false, false, false, false, false, false, false, false, false, false, false, false, false, false, false, false, false, false, false, false, false, false, false, false, false, false, false, false, false, false, false, false] rfl rfl (any_of HT_.out (by kernel_rfl)) (fun _ _ _ h => h) (Or.inl ⟨by rfl, ?_⟩) ?_ ?_
  rotate_left
  · intro w'
    go_simp
    with_reducible rfl
  rotate_left
  · simp only [Act.put, List.setIfInBounds_toArray, List.set_cons_zero, List.set_cons_succ, i64_w, i32_w]
    rfl
  refine pure_ (i := 1) (N := some 41) (v := ?_) (a' := ?_) #[true, true, false, false, false, false, false, false, false, false, false, false, false, false, false, false, false, false, false, false, false, false, false, false, false, false, false, false, false, false, false, false, false, false, false, false, false] rfl rfl (any_of HT_.out (by kernel_rfl)) (fun _ _ _ h => h) (Or.inl ⟨by rfl, ?_⟩) ?_ ?_
  rotate_left
  · intro w'
    go_simp
    with_reducible rfl
  rotate_left
  · simp only [Act.put, List.setIfInBounds_toArray, List.set_cons_zero, List.set_cons_succ, i64_w, i32_w]
    rfl
  refine join_ (σ := Option Addr × Nat × Nat) 33 #[true, true, true, true, false, false, false, false, false, false, false, false, false, false, false, false, false, false, false, false, false, false, false, false, false, false, false, false, false, false, false, false, false, false, false, false, false] (fun s_ => [(42, .slice s_.1 2 s_.2.1), (43, .slice (some ⟨s_.2.2, 0, none⟩) 2 2)]) (fun s_ w' => AWk w w' w.heap.size b1 b2 b3 b4 ∧ KI.R 3 w' w.heap.size (fun _ => True) (.slice Aa 2 ca) [0, 1] ∧ (∃ base, KI.R 3 w' base (fun _ => True) (.slice s_.1 2 s_.2.1) [0, 1]) ∧ w'.heap[s_.2.2]? = some (.cells #[.int .i64 0, .int .i64 1] 3)) ?_ ?_
  rotate_left
  · intro hCont
    refine two_ (i := 2) (j := 3) (Ni := some 42) (Nj := some 43) #[true, true, true, false, false, false, false, false, false, false, false, false, false, false, false, false, false, false, false, false, false, false, false, false, false, false, false, false, false, false, false, false, false, false, false, false, false] #[true, true, false, true, false, false, false, false, false, false, false, false, false, false, false, false, false, false, false, false, false, false, false, false, false, false, false, false, false, false, false, false, false, false, false, false, false] rfl rfl rfl rfl (two_of HT_.out (by kernel_rfl)) (by decide) (by decide) (fun K hK => ?_) (fun K hK => ?_)
    · skip
      refine goes_ Try.func25 (by kernel_rfl) rfl #[.slice (some ⟨b1, 0, none⟩) 1 1, .slice (some ⟨b4, 0, none⟩) 3 3] (by rfl) rfl rfl (by (try simp only [List.map_toArray, List.map_cons, List.map_nil]); first | done | rfl) ?_
      refine (need22 b1 b4 _ HA0.out.o HA0.out.m).mono ?_
      rintro e w6 ⟨Av, cv, rfl, hR, hb⟩
      refine ⟨_, rfl, ?_⟩
      have HA6 := Lib.hid (HA0.out.below hb)
      have HR6 := Lib.hid (Kd.R_below HR0.out hb)
      have HV6 := Lib.hid hR
      clear hR hb HA0 HR0
      refine hK.out _ _ HA6.out.cells (fun hHeld => ?_)
      clear hK K
      refine norm_ (a' := ?_) ?_ ?_
      rotate_left
      · show Act.put _ (some 42) _ = _
        simp only [Act.put, List.setIfInBounds_toArray, List.set_cons_zero, List.set_cons_succ, i64_w, i32_w]
        rfl
      refine one_ (i := 3) (N := some 43) #[true, true, true, true, false, false, false, false, false, false, false, false, false, false, false, false, false, false, false, false, false, false, false, false, false, false, false, false, false, false, false, false, false, false, false, false, false] rfl rfl (one_of HT_.out (by kernel_rfl)) (by decide) (fun K hK => ?_)
      refine value_ (w1 := ?_) (v := ?_) (by rfl) rfl ?_ ?_
      rotate_left 2
      · go_simp
        constructor
        · rfl
        · rfl
      have HA7 := Lib.hid (HA6.out.below (below_alloc (Below.refl _ _) (.cells #[.int .i64 0, .int .i64 1] 3)))
      refine hK.out _ _ HA7.out.cells (fun hHeld => ?_)
      clear hK K
      refine norm_ (a' := ?_) ?_ ?_
      rotate_left
      · show Act.put _ (some 43) _ = _
        simp only [Act.put, List.setIfInBounds_toArray, List.set_cons_zero, List.set_cons_succ, i64_w, i32_w]
        rfl
      exact norm_ (by simp only [putAll, Act.put, List.setIfInBounds_toArray, List.set_cons_zero, List.set_cons_succ]) (hCont (Av, cv, w6.heap.size) _ ⟨HA7.out, Kd.R_alloc HR6.out _, ⟨_, Kd.R_alloc HV6.out _⟩, heap_alloc_new w6 _⟩)
    · skip
      refine value_ (w1 := ?_) (v := ?_) (by rfl) rfl ?_ ?_
      rotate_left 2
      · go_simp
        constructor
        · rfl
        · rfl
      have HL0 := Lib.hid (heap_alloc_new w5 (.cells #[.int .i64 0, .int .i64 1] 3))
      have HA6 := Lib.hid (HA0.out.below (below_alloc (Below.refl _ _) (.cells #[.int .i64 0, .int .i64 1] 3)))
      have HR6 := Lib.hid (Kd.R_alloc HR0.out (.cells #[.int .i64 0, .int .i64 1] 3))
      refine hK.out _ _ HA6.out.cells (fun hHeld => ?_)
      clear hK K
      refine norm_ (a' := ?_) ?_ ?_
      rotate_left
      · show Act.put _ (some 43) _ = _
        simp only [Act.put, List.setIfInBounds_toArray, List.set_cons_zero, List.set_cons_succ, i64_w, i32_w]
        rfl
      refine one_ (i := 2) (N := some 42) #[true, true, true, true, false, false, false, false, false, false, false, false, false, false, false, false, false, false, false, false, false, false, false, false, false, false, false, false, false, false, false, false, false, false, false, false, false] rfl rfl (one_of HT_.out (by kernel_rfl)) (by decide) (fun K hK => ?_)
      refine goes_ Try.func25 (by kernel_rfl) rfl #[.slice (some ⟨b1, 0, none⟩) 1 1, .slice (some ⟨b4, 0, none⟩) 3 3] (by rfl) rfl rfl (by (try simp only [List.map_toArray, List.map_cons, List.map_nil]); first | done | rfl) ?_
      refine (need22 b1 b4 _ HA6.out.o HA6.out.m).mono ?_
      rintro e w7 ⟨Av, cv, rfl, hR, hb⟩
      refine ⟨_, rfl, ?_⟩
      have HA7 := Lib.hid (HA6.out.below hb)
      have HR7 := Lib.hid (Kd.R_below HR6.out hb)
      have HV7 := Lib.hid hR
      have HL7 := Lib.hid (blk_below HL0.out hb)
      clear hR hb HA0 HR0 HL0
      refine hK.out _ _ HA7.out.cells (fun hHeld => ?_)
      clear hK K
      refine norm_ (a' := ?_) ?_ ?_
      rotate_left
      · show Act.put _ (some 42) _ = _
        simp only [Act.put, List.setIfInBounds_toArray, List.set_cons_zero, List.set_cons_succ, i64_w, i32_w]
        rfl
      exact norm_ (by simp only [putAll, Act.put, List.setIfInBounds_toArray, List.set_cons_zero, List.set_cons_succ]) (hCont (Av, cv, w5.heap.size) _ ⟨HA7.out, HR7.out, ⟨_, HV7.out⟩, HL7.out⟩)
  rintro ⟨Av, cv, gl⟩ w8 ⟨hA, hR, ⟨base, hV⟩, hL⟩
  have HA8 := Lib.hid hA; have HR8 := Lib.hid hR; have HV8 := Lib.hid hV; have HL8 := Lib.hid hL; have hHeld := hA.cells
  clear hA hR hV hL HA0 HR0
  refine norm_ (a' := ?_) ?_ ?_
  rotate_left
  · simp only [putAll, Act.put, List.setIfInBounds_toArray, List.set_cons_zero, List.set_cons_succ]
    rfl
  refine one_ (i := 4) (N := some 44) #[true, true, true, true, true, false, false, false, false, false, false, false, false, false, false, false, false, false, false, false, false, false, false, false, false, false, false, false, false, false, false, false, false, false, false, false, false] rfl rfl (one_of HT_.out (by kernel_rfl)) (by decide) (fun K hK => ?_)
  refine goes_ Try.func17 (by kernel_rfl) rfl #[.slice Av 2 cv, .slice (some ⟨gl, 0, none⟩) 2 2] (by rfl) rfl rfl (by (try simp only [List.map_toArray, List.map_cons, List.map_nil]); first | done | rfl) ?_
  refine (num22 Av cv gl base w8 HV8.out HL8.out).mono ?_
  rintro e w9 ⟨rfl, hb⟩
  refine ⟨_, rfl, ?_⟩
  have HA9 := Lib.hid (HA8.out.below hb)
  have HR9 := Lib.hid (Kd.R_below HR8.out hb)
  clear hb HA8 HR8 HV8 HL8
  refine hK.out _ _ HA9.out.cells (fun hHeld => ?_)
  clear hK K
  refine norm_ (a' := ?_) ?_ ?_
  rotate_left
  · show Act.put _ (some 44) _ = _
    simp only [Act.put, List.setIfInBounds_toArray, List.set_cons_zero, List.set_cons_succ, i64_w, i32_w]
    rfl
  refine pure_ (i := 5) (N := some 45) (v := ?_) (a' := ?_) #[true, true, true, true, true, true, false, false, false, false, false, false, false, false, false, false, false, false, false, false, false, false, false, false, false, false, false, false, false, false, false, false, false, false, false, false, false] rfl rfl (any_of HT_.out (by kernel_rfl)) (fun _ _ _ h => h) (Or.inl ⟨by rfl, ?_⟩) ?_ ?_
  rotate_left
  · intro w'
    go_simp
    with_reducible rfl
  rotate_left
  · simp only [Act.put, List.setIfInBounds_toArray, List.set_cons_zero, List.set_cons_succ, i64_w, i32_w]
    rfl
  refine pure_ (i := 6) (N := some 46) (v := ?_) (a' := ?_) #[true, true, true, true, true, true, true, false, false, false, false, false, false, false, false, false, false, false, false, false, false, false, false, false, false, false, false, false, false, false, false, false, false, false, false, false, false] rfl rfl (any_of HT_.out (by kernel_rfl)) (fun _ _ _ h => h) (Or.inl ⟨by rfl, ?_⟩) ?_ ?_
  rotate_left
  · intro w'
    go_simp
    with_reducible rfl
  rotate_left
  · simp only [Act.put, List.setIfInBounds_toArray, List.set_cons_zero, List.set_cons_succ, i64_w, i32_w]
    rfl
  refine one_ (i := 7) (N := some 47) #[true, true, true, true, true, true, true, true, false, false, false, false, false, false, false, false, false, false, false, false, false, false, false, false, false, false, false, false, false, false, false, false, false, false, false, false, false] rfl rfl (one_of HT_.out (by kernel_rfl)) (by decide) (fun K hK => ?_)
  refine value_ (w1 := ?_) (v := ?_) (by rfl) rfl ?_ ?_
  rotate_left 2
  · go_simp
    constructor
    · rfl
    · rfl
  have HL9 := Lib.hid (heap_alloc_new w9 (.cells #[.int .i64 0, .int .i64 1] 3))
  have HA10 := Lib.hid (HA9.out.below (below_alloc (Below.refl _ _) (.cells #[.int .i64 0, .int .i64 1] 3)))
  have HR10 := Lib.hid (Kd.R_alloc HR9.out (.cells #[.int .i64 0, .int .i64 1] 3))
  refine hK.out _ _ HA10.out.cells (fun hHeld => ?_)
  clear hK K
  refine norm_ (a' := ?_) ?_ ?_
  rotate_left
  · show Act.put _ (some 47) _ = _
    simp only [Act.put, List.setIfInBounds_toArray, List.set_cons_zero, List.set_cons_succ, i64_w, i32_w]
    rfl
  refine one_ (i := 8) (N := some 48) #[true, true, true, true, true, true, true, true, true, false, false, false, false, false, false, false, false, false, false, false, false, false, false, false, false, false, false, false, false, false, false, false, false, false, false, false, false] rfl rfl (one_of HT_.out (by kernel_rfl)) (by decide) (fun K hK => ?_)
  refine goes_ Try.func17 (by kernel_rfl) rfl #[.slice Aa 2 ca, .slice (some ⟨w9.heap.size, 0, none⟩) 2 2] (by rfl) rfl rfl (by (try simp only [List.map_toArray, List.map_cons, List.map_nil]); first | done | rfl) ?_
  refine (num22 Aa ca w9.heap.size _ _ HR10.out HL9.out).mono ?_
  rintro e w11 ⟨rfl, hb⟩
  refine ⟨_, rfl, ?_⟩
  have HA11 := Lib.hid (HA10.out.below hb)
  clear hb HA9 HR9 HA10 HR10 HL9
  refine hK.out _ _ HA11.out.cells (fun hHeld => ?_)
  clear hK K
  refine norm_ (a' := ?_) ?_ ?_
  rotate_left
  · show Act.put _ (some 48) _ = _
    simp only [Act.put, List.setIfInBounds_toArray, List.set_cons_zero, List.set_cons_succ, i64_w, i32_w]
    rfl
  refine pure_ (i := 9) (N := some 49) (v := ?_) (a' := ?_) #[true, true, true, true, true, true, true, true, true, true, false, false, false, false, false, false, false, false, false, false, false, false, false, false, false, false, false, false, false, false, false, false, false, false, false, false, false] rfl rfl (any_of HT_.out (by kernel_rfl)) (fun _ _ _ h => h) (Or.inl ⟨by rfl, ?_⟩) ?_ ?_
  rotate_left
  · intro w'
    go_simp
    with_reducible rfl
  rotate_left
  · simp only [Act.put, List.setIfInBounds_toArray, List.set_cons_zero, List.set_cons_succ, i64_w, i32_w]
    rfl
  refine pure_ (i := 10) (N := some 50) (v := ?_) (a' := ?_) #[true, true, true, true, true, true, true, true, true, true, true, false, false, false, false, false, false, false, false, false, false, false, false, false, false, false, false, false, false, false, false, false, false, false, false, false, false] rfl rfl (any_of HT_.out (by kernel_rfl)) (fun _ _ _ h => h) (Or.inl ⟨by rfl, ?_⟩) ?_ ?_
  rotate_left
  · intro w'
    go_simp
    with_reducible rfl
  rotate_left
  · simp only [Act.put, List.setIfInBounds_toArray, List.set_cons_zero, List.set_cons_succ, i64_w, i32_w]
    rfl
  refine pure_ (i := 11) (N := some 51) (v := ?_) (a' := ?_) #[true, true, true, true, true, true, true, true, true, true, true, true, false, false, false, false, false, false, false, false, false, false, false, false, false, false, false, false, false, false, false, false, false, false, false, false, false] rfl rfl (any_of HT_.out (by kernel_rfl)) (fun _ _ _ h => h) (Or.inl ⟨by rfl, ?_⟩) ?_ ?_
  rotate_left
  · intro w'
    go_simp
    with_reducible rfl
  rotate_left
  · simp only [Act.put, List.setIfInBounds_toArray, List.set_cons_zero, List.set_cons_succ, i64_w, i32_w]
    rfl
  refine pure_ (i := 12) (N := some 52) (v := ?_) (a' := ?_) #[true, true, true, true, true, true, true, true, true, true, true, true, true, false, false, false, false, false, false, false, false, false, false, false, false, false, false, false, false, false, false, false, false, false, false, false, false] rfl rfl (any_of HT_.out (by kernel_rfl)) (fun _ _ _ h => h) (Or.inl ⟨by rfl, ?_⟩) ?_ ?_
  rotate_left
  · intro w'
    go_simp
    with_reducible rfl
  rotate_left
  · simp only [Act.put, List.setIfInBounds_toArray, List.set_cons_zero, List.set_cons_succ, i64_w, i32_w]
    rfl
  refine pure_ (i := 13) (N := some 53) (v := ?_) (a' := ?_) #[true, true, true, true, true, true, true, true, true, true, true, true, true, true, false, false, false, false, false, false, false, false, false, false, false, false, false, false, false, false, false, false, false, false, false, false, false] rfl rfl (any_of HT_.out (by kernel_rfl)) (fun _ _ _ h => h) (Or.inl ⟨by rfl, ?_⟩) ?_ ?_
  rotate_left
  · intro w'
    go_simp
    with_reducible rfl
  rotate_left
  · simp only [Act.put, List.setIfInBounds_toArray, List.set_cons_zero, List.set_cons_succ, i64_w, i32_w]
    rfl
  refine pure_ (i := 14) (N := some 54) (v := ?_) (a' := ?_) #[true, true, true, true, true, true, true, true, true, true, true, true, true, true, true, false, false, false, false, false, false, false, false, false, false, false, false, false, false, false, false, false, false, false, false, false, false] rfl rfl (any_of HT_.out (by kernel_rfl)) (fun _ _ _ h => h) (Or.inl ⟨by rfl, ?_⟩) ?_ ?_
  rotate_left
  · intro w'
    go_simp
    with_reducible rfl
  rotate_left
  · simp only [Act.put, List.setIfInBounds_toArray, List.set_cons_zero, List.set_cons_succ, i64_w, i32_w]
    rfl
  refine pure_ (i := 15) (N := some 55) (v := ?_) (a' := ?_) #[true, true, true, true, true, true, true, true, true, true, true, true, true, true, true, true, false, false, false, false, false, false, false, false, false, false, false, false, false, false, false, false, false, false, false, false, false] rfl rfl (any_of HT_.out (by kernel_rfl)) (fun _ _ _ h => h) (Or.inl ⟨by rfl, ?_⟩) ?_ ?_
  rotate_left
  · intro w'
    go_simp
    with_reducible rfl
  rotate_left
  · simp only [Act.put, List.setIfInBounds_toArray, List.set_cons_zero, List.set_cons_succ, i64_w, i32_w]
    rfl
  refine pure_ (i := 16) (N := some 56) (v := ?_) (a' := ?_) #[true, true, true, true, true, true, true, true, true, true, true, true, true, true, true, true, true, false, false, false, false, false, false, false, false, false, false, false, false, false, false, false, false, false, false, false, false] rfl rfl (any_of HT_.out (by kernel_rfl)) (fun _ _ _ h => h) (Or.inl ⟨by rfl, ?_⟩) ?_ ?_
  rotate_left
  · intro w'
    go_simp
    with_reducible rfl
  rotate_left
  · simp only [Act.put, List.setIfInBounds_toArray, List.set_cons_zero, List.set_cons_succ, i64_w, i32_w]
    rfl
  refine pure_ (i := 17) (N := some 57) (v := ?_) (a' := ?_) #[true, true, true, true, true, true, true, true, true, true, true, true, true, true, true, true, true, true, false, false, false, false, false, false, false, false, false, false, false, false, false, false, false, false, false, false, false] rfl rfl (any_of HT_.out (by kernel_rfl)) (fun _ _ _ h => h) (Or.inl ⟨by rfl, ?_⟩) ?_ ?_
  rotate_left
  · intro w'
    go_simp
    with_reducible rfl
  rotate_left
  · simp only [Act.put, List.setIfInBounds_toArray, List.set_cons_zero, List.set_cons_succ, i64_w, i32_w]
    rfl
  refine pure_ (i := 18) (N := some 58) (v := ?_) (a' := ?_) #[true, true, true, true, true, true, true, true, true, true, true, true, true, true, true, true, true, true, true, false, false, false, false, false, false, false, false, false, false, false, false, false, false, false, false, false, false] rfl rfl (any_of HT_.out (by kernel_rfl)) (fun _ _ _ h => h) (Or.inl ⟨by rfl, ?_⟩) ?_ ?_
  rotate_left
  · intro w'
    go_simp
    with_reducible rfl
  rotate_left
  · simp only [Act.put, List.setIfInBounds_toArray, List.set_cons_zero, List.set_cons_succ, i64_w, i32_w]
    rfl
  refine pure_ (i := 19) (N := some 59) (v := ?_) (a' := ?_) #[true, true, true, true, true, true, true, true, true, true, true, true, true, true, true, true, true, true, true, true, false, false, false, false, false, false, false, false, false, false, false, false, false, false, false, false, false] rfl rfl (any_of HT_.out (by kernel_rfl)) (fun _ _ _ h => h) (Or.inl ⟨by rfl, ?_⟩) ?_ ?_
  rotate_left
  · intro w'
    go_simp
    with_reducible rfl
  rotate_left
  · simp only [Act.put, List.setIfInBounds_toArray, List.set_cons_zero, List.set_cons_succ, i64_w, i32_w]
    rfl
  refine pure_ (i := 20) (N := some 60) (v := ?_) (a' := ?_) #[true, true, true, true, true, true, true, true, true, true, true, true, true, true, true, true, true, true, true, true, true, false, false, false, false, false, false, false, false, false, false, false, false, false, false, false, false] rfl rfl (any_of HT_.out (by kernel_rfl)) (fun _ _ _ h => h) (Or.inl ⟨by rfl, ?_⟩) ?_ ?_
  rotate_left
  · intro w'
    go_simp
    with_reducible rfl
  rotate_left
  · simp only [Act.put, List.setIfInBounds_toArray, List.set_cons_zero, List.set_cons_succ, i64_w, i32_w]
    rfl
  refine pure_ (i := 21) (N := some 61) (v := ?_) (a' := ?_) #[true, true, true, true, true, true, true, true, true, true, true, true, true, true, true, true, true, true, true, true, true, true, false, false, false, false, false, false, false, false, false, false, false, false, false, false, false] rfl rfl (any_of HT_.out (by kernel_rfl)) (fun _ _ _ h => h) (Or.inl ⟨by rfl, ?_⟩) ?_ ?_
  rotate_left
  · intro w'
    go_simp
    with_reducible rfl
  rotate_left
  · simp only [Act.put, List.setIfInBounds_toArray, List.set_cons_zero, List.set_cons_succ, i64_w, i32_w]
    rfl
  refine pure_ (i := 22) (N := some 62) (v := ?_) (a' := ?_) #[true, true, true, true, true, true, true, true, true, true, true, true, true, true, true, true, true, true, true, true, true, true, true, false, false, false, false, false, false, false, false, false, false, false, false, false, false] rfl rfl (any_of HT_.out (by kernel_rfl)) (fun _ _ _ h => h) (Or.inl ⟨by rfl, ?_⟩) ?_ ?_
  rotate_left
  · intro w'
    go_simp
    with_reducible rfl
  rotate_left
  · simp only [Act.put, List.setIfInBounds_toArray, List.set_cons_zero, List.set_cons_succ, i64_w, i32_w]
    rfl
  refine one_ (i := 23) (N := some 63) #[true, true, true, true, true, true, true, true, true, true, true, true, true, true, true, true, true, true, true, true, true, true, true, true, false, false, false, false, false, false, false, false, false, false, false, false, false] rfl rfl (one_of HT_.out (by kernel_rfl)) (by decide) (fun K hK => ?_)
  refine goes_ Try.func26 (by kernel_rfl) rfl #[.slice (some ⟨b4, 0, none⟩) 3 3] (by rfl) rfl rfl (by (try simp only [List.map_toArray, List.map_cons, List.map_nil]); first | done | rfl) ?_
  refine (uniq22 b4 _ HA11.out.m).mono ?_
  rintro e w12 ⟨rfl, hb⟩
  refine ⟨_, rfl, ?_⟩
  have HA12 := Lib.hid (HA11.out.below hb)
  clear hb HA11
  refine hK.out _ _ HA12.out.cells (fun hHeld => ?_)
  clear hK K
  refine norm_ (a' := ?_) ?_ ?_
  rotate_left
  · show Act.put _ (some 63) _ = _
    simp only [Act.put, List.setIfInBounds_toArray, List.set_cons_zero, List.set_cons_succ, i64_w, i32_w]
    rfl
  refine pure_ (i := 24) (N := some 64) (v := ?_) (a' := ?_) #[true, true, true, true, true, true, true, true, true, true, true, true, true, true, true, true, true, true, true, true, true, true, true, true, true, false, false, false, false, false, false, false, false, false, false, false, false] rfl rfl (any_of HT_.out (by kernel_rfl)) (fun _ _ _ h => h) (Or.inl ⟨by rfl, ?_⟩) ?_ ?_
  rotate_left
  · intro w'
    go_simp
    with_reducible rfl
  rotate_left
  · simp only [Act.put, List.setIfInBounds_toArray, List.set_cons_zero, List.set_cons_succ, i64_w, i32_w]
    rfl
  refine pure_ (i := 25) (N := some 65) (v := ?_) (a' := ?_) #[true, true, true, true, true, true, true, true, true, true, true, true, true, true, true, true, true, true, true, true, true, true, true, true, true, true, false, false, false, false, false, false, false, false, false, false, false] rfl rfl (any_of HT_.out (by kernel_rfl)) (fun _ _ _ h => h) (Or.inl ⟨by rfl, ?_⟩) ?_ ?_
  rotate_left
  · intro w'
    go_simp
    with_reducible rfl
  rotate_left
  · simp only [Act.put, List.setIfInBounds_toArray, List.set_cons_zero, List.set_cons_succ, i64_w, i32_w]
    rfl
  refine pure_ (i := 26) (N := some 66) (v := ?_) (a' := ?_) #[true, true, true, true, true, true, true, true, true, true, true, true, true, true, true, true, true, true, true, true, true, true, true, true, true, true, true, false, false, false, false, false, false, false, false, false, false] rfl rfl (any_of HT_.out (by kernel_rfl)) (fun _ _ _ h => h) (Or.inl ⟨by rfl, ?_⟩) ?_ ?_
  rotate_left
  · intro w'
    go_simp
    with_reducible rfl
  rotate_left
  · simp only [Act.put, List.setIfInBounds_toArray, List.set_cons_zero, List.set_cons_succ, i64_w, i32_w]
    rfl
  refine pure_ (i := 29) (N := some 69) (v := ?_) (a' := ?_) #[true, true, true, true, true, true, true, true, true, true, true, true, true, true, true, true, true, true, true, true, true, true, true, true, true, true, true, false, false, true, false, false, false, false, false, false, false] rfl rfl (any_of HT_.out (by kernel_rfl)) (fun _ _ _ h => h) (Or.inl ⟨by rfl, ?_⟩) ?_ ?_
  rotate_left
  · intro w'
    go_simp
    with_reducible rfl
  rotate_left
  · simp only [Act.put, List.setIfInBounds_toArray, List.set_cons_zero, List.set_cons_succ, i64_w, i32_w]
    rfl
  refine pure_ (i := 27) (N := some 67) (v := ?_) (a' := ?_) #[true, true, true, true, true, true, true, true, true, true, true, true, true, true, true, true, true, true, true, true, true, true, true, true, true, true, true, true, false, true, false, false, false, false, false, false, false] rfl rfl (any_of HT_.out (by kernel_rfl)) (fun _ _ _ h => h) (Or.inl ⟨by rfl, ?_⟩) ?_ ?_
  rotate_left
  · intro w'
    go_simp
    with_reducible rfl
  rotate_left
  · simp only [Act.put, List.setIfInBounds_toArray, List.set_cons_zero, List.set_cons_succ, i64_w, i32_w]
    rfl
  refine pure_ (i := 30) (N := some 70) (v := ?_) (a' := ?_) #[true, true, true, true, true, true, true, true, true, true, true, true, true, true, true, true, true, true, true, true, true, true, true, true, true, true, true, true, false, true, true, false, false, false, false, false, false] rfl rfl (any_of HT_.out (by kernel_rfl)) (fun _ _ _ h => h) (Or.inl ⟨by rfl, ?_⟩) ?_ ?_
  rotate_left
  · intro w'
    go_simp
    with_reducible rfl
  rotate_left
  · simp only [Act.put, List.setIfInBounds_toArray, List.set_cons_zero, List.set_cons_succ, i64_w, i32_w]
    rfl
  refine take_ (i := 28) (N := some 68) (v := ?_) (a' := ?_) #[true, true, true, true, true, true, true, true, true, true, true, true, true, true, true, true, true, true, true, true, true, true, true, true, true, true, true, true, true, true, true, false, false, false, false, false, false] rfl rfl (take_of HT_.out (by kernel_rfl)) (fun _ _ _ h => h) (Or.inl ⟨by rfl, ?_⟩) hHeld ?_ ?_
  rotate_left
  · rintro w' ⟨s0, s1⟩
    go_simp
    with_reducible rfl
  rotate_left
  · simp only [Act.put, List.setIfInBounds_toArray, List.set_cons_zero, List.set_cons_succ, i64_w, i32_w]
    rfl
  refine take_ (i := 31) (N := some 71) (v := ?_) (a' := ?_) #[true, true, true, true, true, true, true, true, true, true, true, true, true, true, true, true, true, true, true, true, true, true, true, true, true, true, true, true, true, true, true, true, false, false, false, false, false] rfl rfl (take_of HT_.out (by kernel_rfl)) (fun _ _ _ h => h) (Or.inl ⟨by rfl, ?_⟩) hHeld ?_ ?_
  rotate_left
  · rintro w' ⟨s0, s1⟩
    go_simp
    with_reducible rfl
  rotate_left
  · simp only [Act.put, List.setIfInBounds_toArray, List.set_cons_zero, List.set_cons_succ, i64_w, i32_w]
    rfl
  refine one_ (i := 32) (N := some 72) #[true, true, true, true, true, true, true, true, true, true, true, true, true, true, true, true, true, true, true, true, true, true, true, true, true, true, true, true, true, true, true, true, true, false, false, false, false] rfl rfl (one_of HT_.out (by kernel_rfl)) (by decide) (fun K hK => ?_)
  refine value_ (w1 := ?_) (v := ?_) (by rfl) rfl ?_ ?_
  rotate_left 2
  · go_simp
    constructor
    · rfl
    · rfl
  have HL12 := Lib.hid (heap_alloc_new w12 (.cells #[.slice (some ⟨b3, 0, none⟩) 1 1, .slice none 0 0, .slice (some ⟨b3, 0, none⟩) 1 1, .slice none 0 0] 50))
  have HA13 := Lib.hid (HA12.out.below (below_alloc (Below.refl _ _) (.cells #[.slice (some ⟨b3, 0, none⟩) 1 1, .slice none 0 0, .slice (some ⟨b3, 0, none⟩) 1 1, .slice none 0 0] 50)))
  refine hK.out _ _ HA13.out.cells (fun hHeld => ?_)
  clear hK K
  refine norm_ (a' := ?_) ?_ ?_
  rotate_left
  · show Act.put _ (some 72) _ = _
    simp only [Act.put, List.setIfInBounds_toArray, List.set_cons_zero, List.set_cons_succ, i64_w, i32_w]
    rfl
  refine one_ (i := 33) (N := some 73) #[true, true, true, true, true, true, true, true, true, true, true, true, true, true, true, true, true, true, true, true, true, true, true, true, true, true, true, true, true, true, true, true, true, true, false, false, false] rfl rfl (one_of HT_.out (by kernel_rfl)) (by decide) (fun K hK => ?_)
  refine goes_ Try.func26 (by kernel_rfl) rfl #[.slice (some ⟨w12.heap.size, 0, none⟩) 2 2] (by rfl) rfl rfl (by (try simp only [List.map_toArray, List.map_cons, List.map_nil]); first | done | rfl) ?_
  refine (uniq22' w12.heap.size _ (HA13.out.two HL12.out)).mono ?_
  rintro e w14 ⟨rfl, hb⟩
  refine ⟨_, rfl, ?_⟩
  have HA14 := Lib.hid (HA13.out.below hb)
  clear hb HA12 HA13 HL12
  refine hK.out _ _ HA14.out.cells (fun hHeld => ?_)
  clear hK K
  refine norm_ (a' := ?_) ?_ ?_
  rotate_left
  · show Act.put _ (some 73) _ = _
    simp only [Act.put, List.setIfInBounds_toArray, List.set_cons_zero, List.set_cons_succ, i64_w, i32_w]
    rfl
  refine pure_ (i := 34) (N := some 74) (v := ?_) (a' := ?_) #[true, true, true, true, true, true, true, true, true, true, true, true, true, true, true, true, true, true, true, true, true, true, true, true, true, true, true, true, true, true, true, true, true, true, true, false, false] rfl rfl (any_of HT_.out (by kernel_rfl)) (fun _ _ _ h => h) (Or.inl ⟨by rfl, ?_⟩) ?_ ?_
  rotate_left
  · intro w'
    go_simp
    with_reducible rfl
  rotate_left
  · simp only [Act.put, List.setIfInBounds_toArray, List.set_cons_zero, List.set_cons_succ, i64_w, i32_w]
    rfl
  refine pure_ (i := 35) (N := some 75) (v := ?_) (a' := ?_) #[true, true, true, true, true, true, true, true, true, true, true, true, true, true, true, true, true, true, true, true, true, true, true, true, true, true, true, true, true, true, true, true, true, true, true, true, false] rfl rfl (any_of HT_.out (by kernel_rfl)) (fun _ _ _ h => h) (Or.inl ⟨by rfl, ?_⟩) ?_ ?_
  rotate_left
  · intro w'
    go_simp
    with_reducible rfl
  rotate_left
  · simp only [Act.put, List.setIfInBounds_toArray, List.set_cons_zero, List.set_cons_succ, i64_w, i32_w]
    rfl
  refine pure_ (i := 36) (N := some 0) (v := ?_) (a' := ?_) #[true, true, true, true, true, true, true, true, true, true, true, true, true, true, true, true, true, true, true, true, true, true, true, true, true, true, true, true, true, true, true, true, true, true, true, true, true] rfl rfl (any_of HT_.out (by kernel_rfl)) (fun _ _ _ h => h) (Or.inl ⟨by rfl, ?_⟩) ?_ ?_
  rotate_left
  · intro w'
    go_simp
    with_reducible rfl
  rotate_left
  · simp only [Act.put, List.setIfInBounds_toArray, List.set_cons_zero, List.set_cons_succ, i64_w, i32_w]
    rfl
  refine done_ (done_of HT_.out (by kernel_rfl)) ?_
  try go_wp2
  go_ret
  exact ⟨rfl, HA14.out.B⟩
theorem arlinklaw22_awake.calls (r : Bool) (w : World) (h : arlinklaw22_awake.f = some r) : Calls Try.prog 22 #[] w fun e w' => e = .returned (.bool r) ∧ Below w.heap.size w w' := by
  obtain rfl := Option.some.inj h
  exact awake22_calls w
end Go.Proofs.Ythpjpkcfepmhkaa.PAll
namespace Go.Proofs.Ythpjpkcfepmhkaa.PAll
open Go.RowKit Go.Proofs.YthpjpkcfepmhkaaW.PrintWords Go.Proofs.YthpjpkcfepmhkaaW.PrintLast Go.Proofs.YthpjpkcfepmhkaaW.PrintMore
set_option linter.unusedVariables false
set_option linter.unusedSimpArgs false
theorem rdN {o : List Int} {i : Nat} (h : i < o.length) : rd o (i : Int) = o[i] := by
  unfold rd
  rw [Int.toNat_natCast, List.getD_eq_getElem?_getD, List.getElem?_eq_getElem h]; rfl
theorem pickN_sorted (nd : List Int) (k : Nat) : (pickN nd k).Pairwise (· < ·) := by
  unfold pickN
  refine List.Pairwise.filter _ ?_
  rw [List.pairwise_map]
  exact (List.pairwise_lt_range).imp (fun h => by omega)
section
variable {os ms : List S50} {r : Bool}
end
end Go.Proofs.Ythpjpkcfepmhkaa.PAll
namespace Go.Proofs.Ythpjpkcfepmhkaa.PAll
open Go.RowKit Go.Proofs.YthpjpkcfepmhkaaW.PrintWords Go.Proofs.YthpjpkcfepmhkaaW.PrintLast Go.Proofs.YthpjpkcfepmhkaaW.PrintMore
attribute [local go_sem] max2_int min2_int max_two min_two max_three min_three max_four min_four   -- for this text's walks alone
set_option linter.unusedVariables false
set_option linter.unusedSimpArgs false
def arlinklaw22_in.l0 : Nat → List Int → Int → Int → Option (Bool)
 | 0, _, _, _ => none
 | k + 1, x0, x1, x5 => if x5 < (x0.length : Int) then (if 0 ≤ x5 then (if (rd x0 x5) = x1 then (some true) else (arlinklaw22_in.l0 k x0 x1 (wrap64 (x5 + 1)))) else (none)) else (some false)
def arlinklaw22_in.f (k : Nat) (l0 : List Int) (a1 : Int) : Option (Bool) := arlinklaw22_in.l0 k l0 a1 0
set_option maxHeartbeats 8000000 in
set_option maxRecDepth 100000 in
theorem arlinklaw22_in.calls (k : Nat) (A0 : Option Addr) (c0 : Nat) (l0 : List Int) (a1 : Int) (r : Bool) (w : World) (hr0 : Kd.C (Kd.int .i64) w A0 l0.length l0) (hc0 : l0.length ≤ c0) (h : arlinklaw22_in.f k l0 a1 = some r) :
  Calls Try.prog 30 #[.slice A0 l0.length c0, .int .i64 a1] w fun e w' => e = .returned (.bool r) ∧ Drawn0 w w' := by
 have HR0 := Aside0.mk hr0
 have HC0 := Aside0.mk hc0
 clear hr0 hc0
 have H : (arlinklaw22_in.l0 k l0 a1 0) = some r := h
 clear h
 have H' := Aside0.mk H
 clear H
 go_enter Try.func30, Try.ntmps30
 go_wp2
 go_loopg [5] k (fun kq v5 w' => ∃ (x5_1 : Int), v5 = .int .i64 x5_1 ∧ Aside0 (arlinklaw22_in.l0 kq l0 a1 x5_1 = some r) ∧ Aside0 (kq ≤ k) ∧ Drawn0 w w')
 case atStart => exact ⟨(0), (by first | rfl | (simp; done) | (simp [*]; done)), H', ⟨Nat.le_refl _⟩, by repeat (first | exact Drawn0.refl _ | apply Drawn0.step)⟩
 case round =>
  clear H'
  try clear p2
  obtain ⟨x5_1, rfl, HA, HK1, ⟨m1, rfl⟩⟩ := hrel
  cases gk with
  | zero => exact absurd HA.out (by simp [arlinklaw22_in.l0])
  | succ k1 =>
   have H := HA.out
   clear HA
   simp only [arlinklaw22_in.l0] at H
   by_cases c3 : x5_1 < (l0.length : Int)
   ·rw [if_pos c3] at H
    have c3b0 : decide (x5_1 < (l0.length : Int)) = true := decide_eq_true c3
    clear c3
    by_cases c4 : 0 ≤ x5_1
    ·rw [if_pos c4] at H
     have c4b0 : decide (0 ≤ x5_1) = true := decide_eq_true c4
     clear c4
     by_cases c5 : (rd l0 x5_1) = a1
     ·rw [if_pos c5] at H
      have c5b0 : ((rd l0 x5_1) == a1) = true := beq_iff_eq.mpr c5
      have c5b1 : ((rd l0 x5_1) != a1) = false := bne_eq_false_iff_eq.mpr c5
      clear c5
      obtain rfl := Option.some.inj H
      have p413 : 0 ≤ (x5_1 : Int) := of_decide_eq_true (by first | (with_reducible assumption) | assumption)
      have q413 : x5_1 < (l0.length : Int) := of_decide_eq_true (by first | (with_reducible assumption) | assumption)
      obtain ⟨ad413, e413, hx413_0⟩ := Kd.at_int HR0.out x5_1 p413 q413
      cases e413
      replace p413 := eq_true p413
      replace q413 := eq_true q413
      go_wp2
      go_ret
      exact ⟨by first | rfl | (simp; done) | (simp [*]; done), by repeat (first | exact Drawn0.refl _ | apply Drawn0.step)⟩
     ·rw [if_neg c5] at H
      have c5b0 : ((rd l0 x5_1) == a1) = false := beq_eq_false_iff_ne.mpr c5
      have c5b1 : ((rd l0 x5_1) != a1) = true := bne_iff_ne.mpr c5
      have H' := Aside0.mk H
      clear H
      have p413 : 0 ≤ (x5_1 : Int) := of_decide_eq_true (by first | (with_reducible assumption) | assumption)
      have q413 : x5_1 < (l0.length : Int) := of_decide_eq_true (by first | (with_reducible assumption) | assumption)
      obtain ⟨ad413, e413, hx413_0⟩ := Kd.at_int HR0.out x5_1 p413 q413
      cases e413
      replace p413 := eq_true p413
      replace q413 := eq_true q413
      go_wp2
      go_roundg k1
      case measure => have := HK1.out; omega
      case rel => exact ⟨(wrap64 (x5_1 + 1)), (by first | rfl | (simp; done) | (simp [*]; done)), H', ⟨by have := HK1.out; omega⟩, by repeat (first | exact Drawn0.refl _ | apply Drawn0.step)⟩
    ·rw [if_neg c4] at H
     exact absurd H (by simp)
   ·rw [if_neg c3] at H
    have c3b0 : decide (x5_1 < (l0.length : Int)) = false := decide_eq_false c3
    clear c3
    obtain rfl := Option.some.inj H
    go_wp2
    go_ret
    exact ⟨by first | rfl | (simp; done) | (simp [*]; done), by repeat (first | exact Drawn0.refl _ | apply Drawn0.step)⟩
-- NOT PRINTED: function 9 (arlinklaw22_ClosureMonotone)
end Go.Proofs.Ythpjpkcfepmhkaa.PAll
namespace Go.Proofs.Ythpjpkcfepmhkaa.PAll
open Go.RowKit Go.Proofs.YthpjpkcfepmhkaaW.PrintWords Go.Proofs.YthpjpkcfepmhkaaW.PrintLast Go.Proofs.YthpjpkcfepmhkaaW.PrintMore
set_option linter.unusedVariables false
set_option linter.unusedSimpArgs false
/-- Objects as the two raw slices that they are: for lists of the call's own whose elements lead to what came in. -/
def kW : Kd (Value × Value) where
  sz := 2
  E := []
  K := fun _ x cs => cs = [x.1, x.2] ∧ x.1.oneCell' = true ∧ x.2.oneCell' = true
  M := fun _ _ _ x cs => cs = [x.1, x.2] ∧ x.1.oneCell' = true ∧ x.2.oneCell' = true
  K_len := by rintro w x cs ⟨rfl, _⟩; rfl
  K_one := by
    rintro w x cs ⟨rfl, h1, h2⟩ u hu
    simp only [List.mem_cons, List.not_mem_nil, or_false] at hu
    rcases hu with rfl | rfl
    · exact h1
    · exact h2
  K_below := fun _ h => h
  K_of_M := fun h => h
  M_mono := fun _ h => h
  M_bound := fun h => h
  M_move := fun _ h => h
  M_lower := fun _ h => h
theorem kW_reps (W : World) (base : Nat) (ok : Nat → Prop) {a b : Value} (ha : a.oneCell' = true) (hb : b.oneCell' = true) : Reps (kW.M W base ok) kW.sz [(a, b)] [a, b] :=
  (Reps.none (kW.M W base ok) 2).snoc (p := (a, b)) (c := [a, b]) ⟨rfl, ha, hb⟩ rfl
/-- The raw slices read as the objects. -/
def Rep (w : World) (xs : List S50) (ys : List (Value × Value)) : Prop := xs.length = ys.length ∧ ∀ (i : Nat) (x : S50) (y : Value × Value), xs[i]? = some x → ys[i]? = some y → k50.K w x [y.1, y.2] ∧ y.1.oneCell' = true ∧ y.2.oneCell' = true
section
variable {w w1 : World} {xs xs' : List S50} {ys ys' : List (Value × Value)}
theorem Rep.below (h : Rep w xs ys) (hb : Below w.heap.size w w1) : Rep w1 xs ys := ⟨h.1, fun i x y hx hy => ⟨k50.K_below hb (h.2 i x y hx hy).1, (h.2 i x y hx hy).2⟩⟩
theorem Rep.nil (w : World) : Rep w [] [] := ⟨rfl, fun i x y hx => by simp at hx⟩
theorem Rep.app (h : Rep w xs ys) (h' : Rep w xs' ys') : Rep w (xs ++ xs') (ys ++ ys') := by
  refine ⟨by rw [List.length_append, List.length_append, h.1, h'.1], fun i x y hx hy => ?_⟩
  rcases Nat.lt_or_ge i xs.length with c | c
  · rw [List.getElem?_append_left c] at hx
    rw [List.getElem?_append_left (by rw [← h.1]; exact c)] at hy
    exact h.2 i x y hx hy
  · rw [List.getElem?_append_right c] at hx
    rw [List.getElem?_append_right (by rw [← h.1]; exact c), ← h.1] at hy
    exact h'.2 _ x y hx hy
theorem Rep.drop (h : Rep w xs ys) (m : Nat) : Rep w (xs.drop m) (ys.drop m) := ⟨by rw [List.length_drop, List.length_drop, h.1], fun i x y hx hy => by
  rw [List.getElem?_drop] at hx hy
  exact h.2 _ x y hx hy⟩
theorem Rep.take (h : Rep w xs ys) (m : Nat) : Rep w (xs.take m) (ys.take m) := ⟨by rw [List.length_take, List.length_take, h.1], fun i x y hx hy => by
  rw [List.getElem?_take] at hx hy
  split at hx
  · rename_i c
    rw [if_pos c] at hy
    exact h.2 _ x y hx hy
  · cases hx⟩
theorem Rep.one {x : S50} {A0 A1 : Option Addr} {c0 c1 : Nat} (l0 : x.f0.length ≤ c0) (g0 : k55.C w A0 x.f0.length x.f0) (l1 : x.f1.length ≤ c1) (g1 : (Kd.int .u8).C w A1 x.f1.length x.f1) :
    Rep w [x] [(.slice A0 x.f0.length c0, .slice A1 x.f1.length c1)] := ⟨rfl, fun i z y hz hy => by
  cases i with
  | zero =>
    cases hz
    cases hy
    exact ⟨k50_mk w x l0 g0 l1 g1, rfl, rfl⟩
  | succ i => simp at hz⟩
theorem raw_list {α β : Type} {p : Nat → α → β → Prop} : ∀ (xs : List α), (∀ i x, xs[i]? = some x → ∃ y, p i x y) → ∃ ys : List β, xs.length = ys.length ∧ ∀ i x y, xs[i]? = some x → ys[i]? = some y → p i x y := by
  intro xs
  induction xs generalizing p with
  | nil => exact fun _ => ⟨[], rfl, fun i x y hx => by simp at hx⟩
  | cons a xs ih =>
    intro h
    obtain ⟨b, hb⟩ := h 0 a rfl
    obtain ⟨ys, h1, h2⟩ := ih (p := fun i => p (i + 1)) (fun i x hx => h (i + 1) x hx)
    refine ⟨b :: ys, by simp [h1], fun i x y hx hy => ?_⟩
    cases i with
    | zero => cases hx; cases hy; exact hb
    | succ i => exact h2 i x y hx hy
/-- What came in, as raw slices. -/
theorem raws {A : Option Addr} {n : Nat} (h : Kd.C k50 w A n xs) : ∃ ys, Kd.C kW w A ys.length ys ∧ Rep w xs ys := by
  obtain ⟨h1, h2, h3⟩ := h
  by_cases c : xs = []
  · subst c
    exact ⟨[], ⟨rfl, by simp, fun h => absurd h (by simp)⟩, Rep.nil w⟩
  · obtain ⟨a, ha, hj⟩ := h3 (by have := List.length_pos_iff.2 c; omega)
    obtain ⟨ys, h4, h5⟩ := raw_list (p := fun i x (y : Value × Value) => (k50.K w x [y.1, y.2] ∧ y.1.oneCell' = true ∧ y.2.oneCell' = true) ∧ ∀ (q : Nat) u, [y.1, y.2][q]? = some u → w.cell? (a.add (i * 2 + q)) = some u) xs (fun i x hx => by
      obtain ⟨cs, hl, hK, hc⟩ := hj i x hx
      obtain ⟨A0, c0, A1, c1, rfl, _⟩ := k50_open hK
      exact ⟨(.slice A0 x.f0.length c0, .slice A1 x.f1.length c1), ⟨hK, rfl, rfl⟩, hc⟩)
    refine ⟨ys, ⟨rfl, by rw [← h4]; omega, fun _ => ⟨a, ha, fun j y hy => ?_⟩⟩, h4, fun i x y hx hy => (h5 i x y hx hy).1⟩
    have hlt : j < xs.length := by rw [h4]; exact (List.getElem?_eq_some_iff.1 hy).1
    obtain ⟨h6, h7⟩ := h5 j xs[j] y (List.getElem?_eq_getElem hlt) hy
    exact ⟨[y.1, y.2], rfl, ⟨rfl, h6.2⟩, h7⟩
/-- .. and back. -/
theorem unraw {A : Option Addr} (h : Kd.C kW w A ys.length ys) (hr : Rep w xs ys) : Kd.C k50 w A xs.length xs := by
  obtain ⟨h1, h2, h3⟩ := h
  refine ⟨rfl, by rw [hr.1]; exact h2, fun hp => ?_⟩
  obtain ⟨a, ha, hj⟩ := h3 (by rw [← hr.1]; exact hp)
  refine ⟨a, ha, fun j x hx => ?_⟩
  have hlt : j < ys.length := by rw [← hr.1]; exact (List.getElem?_eq_some_iff.1 hx).1
  obtain ⟨cs, hl, ⟨rfl, _⟩, hc⟩ := hj j ys[j] (List.getElem?_eq_getElem hlt)
  exact ⟨_, rfl, (hr.2 j x _ hx (List.getElem?_eq_getElem hlt)).1, hc⟩
end
end Go.Proofs.Ythpjpkcfepmhkaa.PAll
namespace Go.Proofs.Ythpjpkcfepmhkaa.PAll
open Go.RowKit Go.Proofs.YthpjpkcfepmhkaaW.PrintWords Go.Proofs.YthpjpkcfepmhkaaW.PrintLast Go.Proofs.YthpjpkcfepmhkaaW.PrintMore
set_option linter.unusedVariables false
set_option linter.unusedSimpArgs false
/-- What the law's answers are. -/
structure MonoIn (k : Nat) (os ms : List S50) (x : S50) (b0 b1 b2 : Bool) : Prop where
  r0 : arlinkref14_Right.f k os = some b0
  r1 : arlinkref14_Right.f k ms = some b1
  r2 : arlinkref14_Right.f k [x] = some b2
structure MonoGo (k : Nat) (os ms : List S50) (x : S50) (a3 : Int) (t : Nat) (tu : List S50) (l m n : List Int) : Prop where
  et : ms.drop t ++ ms.take t = tu
  n1 : closure_Needed.f os ms = some l
  n2 : closure_Needed.f (os ++ [x]) ms = some m
  n3 : closure_Needed.f os tu = some n
  tk : Int.tmod (wrap64 a3) (ms.length : Int) = (t : Int)
  tl : t < ms.length
  ol : os.length ≤ 12
  ml : ms.length ≤ 12
  ll : l.length ≤ 12
  len : n.length = l.length
  inm : ∀ i : Nat, i < l.length → arlinklaw22_in.f k m (rd l (i : Int)) = some true
  inn : ∀ i : Nat, i < l.length → arlinklaw22_in.f k n (Int.tmod (wrap64 (wrap64 (rd l (i : Int) - (t : Int)) + (ms.length : Int))) (ms.length : Int)) = some true
/-- The world of the law: what came in, and the box of the further object. -/
structure MW (w W : World) (A0 : Option Addr) (c0 : Nat) (os : List S50) (A1 : Option Addr) (c1 : Nat) (ms : List S50) (AS : Option Addr) (cS : Nat) (AB : Option Addr) (cB : Nat) (x : S50) (g6 : Nat) : Prop where
  B : Below w.heap.size w W
  o : Kd.C k50 W A0 os.length os
  oc : os.length ≤ c0
  m : Kd.C k50 W A1 ms.length ms
  mc : ms.length ≤ c1
  s : k55.C W AS x.f0.length x.f0
  sc : x.f0.length ≤ cS
  b : (Kd.int .u8).C W AB x.f1.length x.f1
  bc : x.f1.length ≤ cB
  h6 : W.heap[g6]? = some (.cells #[.slice AS x.f0.length cS, .slice AB x.f1.length cB] 50 (0, 0))
section
variable {w W W' : World} {A0 A1 AS AB : Option Addr} {c0 c1 cS cB g6 : Nat} {os ms : List S50} {x : S50}
theorem MW.below (h : MW w W A0 c0 os A1 c1 ms AS cS AB cB x g6) (hb : Below W.heap.size W W') : MW w W' A0 c0 os A1 c1 ms AS cS AB cB x g6 :=
  ⟨below_then h.B h.B.size hb, Kd.C_below h.o hb, h.oc, Kd.C_below h.m hb, h.mc, Kd.C_below h.s hb, h.sc, Kd.C_below h.b hb, h.bc, blk_below h.h6 hb⟩
theorem MW.cells (h : MW w W A0 c0 os A1 c1 ms AS cS AB cB x g6) : W.cell? ⟨g6, 0, none⟩ = some (.slice AS x.f0.length cS) ∧ W.cell? ⟨g6, 1, none⟩ = some (.slice AB x.f1.length cB) :=
  ⟨(blk_cell h.h6 0).trans rfl, (blk_cell h.h6 1).trans rfl⟩
theorem MW.one (h : MW w W A0 c0 os A1 c1 ms AS cS AB cB x g6) {g : Nat} (hg : W.heap[g]? = some (.cells #[.slice AS x.f0.length cS, .slice AB x.f1.length cB] 50 (0, 0))) : Kd.C k50 W (some ⟨g, 0, none⟩) [x].length [x] :=
  C_blk k50 (xs := [x]) (inner := [.slice AS x.f0.length cS, .slice AB x.f1.length cB]) hg ((Reps.none (k50.K W) 2).snoc (k50_mk W x h.sc h.s h.bc h.b) rfl) (by simp)
end
def mono_T9 : Bool × List (List Nat × List Nat) := (true, [([], []), ([], []), ([0, 1], [0, 1]), ([], []), ([3], [3]), ([2, 4, 2], [2, 4]), ([], []), ([5, 6, 5], [5, 6]), ([7, 7, 0, 1, 2, 3, 4, 5, 6, 7], [7])])
theorem mono_tab9 : rtab .any (opsOf Try.f9 9) = mono_T9 := by kernel_rfl
def mono_T11 : Bool × List (List Nat × List Nat) := (true, [([], []), ([], []), ([], []), ([1, 2], [1, 2]), ([0, 3], [0, 3]), ([], []), ([], []), ([5, 6], [5, 6]), ([4, 7, 4], [4, 7]), ([8, 8, 0, 1, 2, 3, 4, 5, 6, 7, 8], [8])])
theorem mono_tab11 : rtab .any (opsOf Try.f9 11) = mono_T11 := by kernel_rfl
set_option maxRecDepth 10000 in
set_option maxHeartbeats 400000000 in
theorem mono_calls (k : Nat) (A0 : Option Addr) (c0 : Nat) (os : List S50) (A1 : Option Addr) (c1 : Nat) (ms : List S50) (AS : Option Addr) (cS : Nat) (AB : Option Addr) (cB : Nat) (x : S50) (a3 : Int) (b0 b1 b2 : Bool) (w : World)
    (hr0 : Kd.C k50 w A0 os.length os) (hc0 : os.length ≤ c0) (hr1 : Kd.C k50 w A1 ms.length ms) (hc1 : ms.length ≤ c1) (hs : k55.C w AS x.f0.length x.f0) (hsc : x.f0.length ≤ cS) (hbo : (Kd.int .u8).C w AB x.f1.length x.f1) (hbc : x.f1.length ≤ cB)
    (hI : MonoIn k os ms x b0 b1 b2) (hG : b0 = true → b1 = true → b2 = true → ms.length ≠ 0 → (∀ j : Nat, j < x.f0.length → (rd_T55 x.f0 (j : Int)).f1 ≠ 1 ∧ (rd_T55 x.f0 (j : Int)).f1 ≠ 2) → ∃ t tu l m n, MonoGo k os ms x a3 t tu l m n) :
    Calls Try.prog 9 #[.slice A0 os.length c0, .slice A1 ms.length c1, .agg #[.slice AS x.f0.length cS, .slice AB x.f1.length cB], .int .u8 a3] w fun e w' => e = .returned (.bool true) ∧ Below w.heap.size w w' := by
  go_enter Try.func9, Try.ntmps9
  go_wp2_with fail
  have hbl := below_alloc (Below.refl w.heap.size w) (.cells #[.slice AS x.f0.length cS, .slice AB x.f1.length cB] 50)
  have HM := Lib.hid (show MW w (w.alloc (.cells #[.slice AS x.f0.length cS, .slice AB x.f1.length cB] 50)) A0 c0 os A1 c1 ms AS cS AB cB x w.heap.size from
    ⟨hbl, Kd.C_below hr0 hbl, hc0, Kd.C_below hr1 hbl, hc1, Kd.C_below hs hbl, hsc, Kd.C_below hbo hbl, hbc, heap_alloc_new w _⟩)
  clear hbl hr0 hc0 hr1 hc1 hs hsc hbo hbc
  generalize w.alloc (.cells #[.slice AS x.f0.length cS, .slice AB x.f1.length cB] 50) = w1 at HM ⊢
  generalize w.heap.size = g6 at HM ⊢
  refine (arlinklaw22_awake.calls true _ rfl).mono ?_
  rintro e w2 ⟨rfl, hb⟩
  have HM2 := Lib.hid (HM.out.below hb)
  clear HM hb
  go_wp2_with fail
  refine (arlinkref14_Right.calls k A0 c0 os b0 w2 HM2.out.o HM2.out.oc hI.r0).mono ?_
  rintro e w3 ⟨rfl, hb⟩
  have HM3 := Lib.hid (HM2.out.below hb)
  clear HM2 hb
  cases b0 with
  | false =>
    go_wp2_with fail
    refine (arlinklaw22_awake.calls true _ rfl).mono ?_
    rintro e we ⟨rfl, hbe⟩
    go_wp2
    go_ret
    exact ⟨rfl, below_then HM3.out.B (below_size HM3.out.B) hbe⟩
  | true =>
    go_wp2_with fail
    refine (arlinkref14_Right.calls k A1 c1 ms b1 w3 HM3.out.m HM3.out.mc hI.r1).mono ?_
    rintro e w4 ⟨rfl, hb⟩
    have HM4 := Lib.hid (HM3.out.below hb)
    clear HM3 hb
    cases b1 with
    | false =>
      go_wp2_with fail
      refine (arlinklaw22_awake.calls true _ rfl).mono ?_
      rintro e we ⟨rfl, hbe⟩
      go_wp2
      go_ret
      exact ⟨rfl, below_then HM4.out.B (below_size HM4.out.B) hbe⟩
    | true =>
      obtain ⟨q0, q1⟩ := HM4.out.cells
      go_wp2_with fail
      have hbl := below_alloc (Below.refl w4.heap.size w4) (.cells #[.slice AS x.f0.length cS, .slice AB x.f1.length cB] 50)
      have HM5 := Lib.hid (HM4.out.below hbl)
      refine (arlinkref14_Right.calls k (some ⟨w4.heap.size, 0, none⟩) 1 [x] b2 _ (HM5.out.one (heap_alloc_new w4 _)) (Nat.le_refl _) hI.r2).mono ?_
      rintro e w6 ⟨rfl, hb⟩
      have HM6 := Lib.hid (HM5.out.below hb)
      clear HM4 HM5 hb hbl q0 q1
      cases b2 with
      | false =>
        go_wp2_with fail
        refine (arlinklaw22_awake.calls true _ rfl).mono ?_
        rintro e we ⟨rfl, hbe⟩
        go_wp2
        go_ret
        exact ⟨rfl, below_then HM6.out.B (below_size HM6.out.B) hbe⟩
      | true =>
        by_cases hne : ms.length = 0
        · rw [hne]
          go_wp2_with fail
          refine (arlinklaw22_awake.calls true _ rfl).mono ?_
          rintro e we ⟨rfl, hbe⟩
          go_wp2
          go_ret
          exact ⟨rfl, below_then HM6.out.B (below_size HM6.out.B) hbe⟩
        · go_wp2_with fail
          have hlen := HM6.out.s.2.1
          go_loopg [9] (x.f0.length + 1) (fun kq v9 w' => ∃ i : Nat, v9 = .int .i64 (i : Int) ∧ Aside0 (i + kq = x.f0.length + 1 ∧ i ≤ x.f0.length ∧ ∀ j : Nat, j < i → (rd_T55 x.f0 (j : Int)).f1 ≠ 1 ∧ (rd_T55 x.f0 (j : Int)).f1 ≠ 2) ∧ w' = w6)
          case atStart => exact ⟨0, rfl, ⟨by omega, by omega, fun j hj => by omega⟩, rfl⟩
          case round =>
            obtain ⟨i, rfl, HA, rfl⟩ := hrel
            obtain ⟨a1, a2, a3'⟩ := HA.out
            obtain ⟨q0, q1⟩ := HM6.out.cells
            by_cases c : (i : Int) < (x.f0.length : Int)
            · have c' : decide ((i : Int) < (x.f0.length : Int)) = true := decide_eq_true c
              obtain ⟨ad, e, y0, y1, y2, y3⟩ := at_T55 HM6.out.s (i : Int) (by omega) c
              subst e
              simp only [Int.toNat_natCast] at y0 y1 y2 y3
              have p0 : (0 ≤ (i : Int)) = True := eq_true (by omega)
              have p1 : ((i : Int) < (x.f0.length : Int)) = True := eq_true c
              have hiN := Aside0.mk (show i < x.f0.length from by omega)
              clear c
              by_cases d1 : (rd_T55 x.f0 (i : Int)).f1 = 1
              · have d1' : ((rd_T55 x.f0 (i : Int)).f1 == 1) = true := beq_iff_eq.mpr d1
                go_wp2
                go_ret
                exact ⟨rfl, HM6.out.B⟩
              · have d1' : ((rd_T55 x.f0 (i : Int)).f1 == 1) = false := beq_eq_false_iff_ne.mpr d1
                by_cases d2 : (rd_T55 x.f0 (i : Int)).f1 = 2
                · have d2' : ((rd_T55 x.f0 (i : Int)).f1 == 2) = true := beq_iff_eq.mpr d2
                  go_wp2
                  go_ret
                  exact ⟨rfl, HM6.out.B⟩
                · have d2' : ((rd_T55 x.f0 (i : Int)).f1 == 2) = false := beq_eq_false_iff_ne.mpr d2
                  go_wp2
                  go_roundg (gk - 1)
                  case measure => omega
                  case rel => exact ⟨i + 1, by rw [show wrap64 ((i : Int) + 1) = ((i + 1 : Nat) : Int) from by have := hiN.out; unfold wrap64; omega], ⟨by omega, by have := hiN.out; omega, fun j hj => by
                    by_cases e : j = i
                    · subst e; exact ⟨d1, d2⟩
                    · exact a3' j (by omega)⟩, rfl⟩
            · have c' : decide ((i : Int) < (x.f0.length : Int)) = false := decide_eq_false c
              have hi : i = x.f0.length := by omega
              have hnd := Aside0.mk (show ∀ j : Nat, j < x.f0.length → (rd_T55 x.f0 (j : Int)).f1 ≠ 1 ∧ (rd_T55 x.f0 (j : Int)).f1 ≠ 2 from fun j hj => a3' j (by omega))
              clear HA a1 a2 a3'
              obtain ⟨t, tu, l, m, n, hg⟩ := hG (by simp) (by simp) (by simp) hne hnd.out
              have HG := Lib.hid hg
              clear hg hG
              go_wp2_with fail
              clear hnd q0 q1 c c' hlen
              refine (closure_Needed.calls A0 c0 os A1 c1 ms l _ HM6.out.o HM6.out.oc HM6.out.m HM6.out.mc HG.out.n1).mono ?_
              rintro e w7 ⟨vl, rfl, hR, hb⟩
              have HM7 := Lib.hid (HM6.out.below hb)
              have HL7 := Lib.hid (Kd.R_lower hR (below_size HM6.out.B))
              clear HM6 hR hb
              go_wp2_with fail
              have HM0 := Lib.hid (HM7.out.below (below_drew (Below.refl _ _)))
              have HL0 := Lib.hid (Kd.R_below HL7.out (below_drew (Below.refl _ _)))
              clear HM7 HL7
              refine start_ (n := 9) (S := fun w' => w'.cell? ⟨g6, 0, none⟩ = some (.slice AS x.f0.length cS) ∧ w'.cell? ⟨g6, 1, none⟩ = some (.slice AB x.f1.length cB)) (ds := []) #[false, false, false, false, false, false, false, false, false] (by kernel_rfl) rfl rfl HM0.out.cells (fun hHeld => ?_); refine with_tab mono_tab9 (fun HT_ => ?_)
              generalize w7.drew = w8 at HM0 HL0 hHeld ⊢
              obtain ⟨yo, hyo, hro⟩ := raws HM0.out.o
              rw [← hro.1] at hyo
              have HY := Lib.hid hyo
              have HRo := Lib.hid hro
              have HRx := Lib.hid (Rep.one (w := w8) HM0.out.sc HM0.out.s HM0.out.bc HM0.out.b)
              have HOL := Lib.hid HG.out.ol
              clear hyo hro
              have HB := Lib.hid (Below.refl w8.heap.size w8)
              refine pure_ (i := 1) (N := some 67) (v := ?_) (a' := ?_) #[false, true, false, false, false, false, false, false, false] rfl rfl (any_of HT_.out (by kernel_rfl)) (fun _ _ _ h => h) (Or.inl ⟨by rfl, ?_⟩) ?_ ?_
              rotate_left
              · intro w'
                go_simp
                with_reducible rfl
              rotate_left
              · simp only [Act.put, List.setIfInBounds_toArray, List.set_cons_zero, List.set_cons_succ, i64_w, i32_w]
                rfl
              refine take_ (i := 3) (N := some 69) (v := ?_) (a' := ?_) #[false, true, false, true, false, false, false, false, false] rfl rfl (take_of HT_.out (by kernel_rfl)) (fun _ _ _ h => h) (Or.inl ⟨by rfl, ?_⟩) hHeld ?_ ?_
              rotate_left
              · rintro w' ⟨s0, s1⟩
                go_simp
                with_reducible rfl
              rotate_left
              · simp only [Act.put, List.setIfInBounds_toArray, List.set_cons_zero, List.set_cons_succ, i64_w, i32_w]
                rfl
              refine pure_ (i := 6) (N := some 72) (v := ?_) (a' := ?_) #[false, true, false, true, false, false, true, false, false] rfl rfl (any_of HT_.out (by kernel_rfl)) (fun _ _ _ h => h) (Or.inl ⟨by rfl, ?_⟩) ?_ ?_
              rotate_left
              · intro w'
                go_simp
                with_reducible rfl
              rotate_left
              · simp only [Act.put, List.setIfInBounds_toArray, List.set_cons_zero, List.set_cons_succ, i64_w, i32_w]
                rfl
              refine join_ (σ := Value × Value × Value) 3 #[true, true, true, true, true, false, true, false, false] (fun s_ => [(66, s_.1), (68, s_.2.1), (70, s_.2.2)]) (fun s_ w' => Below w8.heap.size w8 w' ∧ kW.R 50 w' w8.heap.size (fun _ => True) s_.2.1 yo ∧ kW.R 50 w' w8.heap.size (fun _ => True) s_.2.2 [(.slice AS x.f0.length cS, .slice AB x.f1.length cB)]) ?_ ?_
              rotate_left
              · intro hCont
                refine two_ (i := 0) (j := 4) (Ni := some 66) (Nj := some 70) #[true, true, false, true, false, false, true, false, false] #[false, true, false, true, true, false, true, false, false] rfl rfl rfl rfl (two_of HT_.out (by kernel_rfl)) (by decide) (by decide) (fun K hK => ?_) (fun K hK => ?_)
                · skip
                  refine Kd.R_lit_step kW _ 50 ?hg (N := 66) ?hd (xs := ([] : List (Value × Value))) (inner := []) (ok := fun _ => True) (okp := fun _ => True) ?hr ?hp (fun _ hk => hk) trivial (Below.refl _ _) (Nat.le_refl _) (by simp) ?_; (case hd => rfl); (case hg => rfl); (case hr => first | (go_simp; done) | (go_simp; rfl)); (case hp => exact (Reps.none _ _))
                  intro v66 w9 ho hb hg_ hnew_
                  have H66 := Lib.hid ho
                  have HB1 := Lib.hid hb
                  clear HB
                  have HB := HB1
                  clear ho hb hg_ hnew_ HB1
                  refine hK.out _ _ (HM0.out.below HB.out).cells (fun hHeld => ?_)
                  clear hK K
                  refine norm_ (a' := ?_) ?_ ?_
                  rotate_left
                  · show Act.put _ (some 66) _ = _
                    simp only [Act.put, List.setIfInBounds_toArray, List.set_cons_zero, List.set_cons_succ, i64_w, i32_w]
                    rfl
                  refine two_ (i := 2) (j := 4) (Ni := some 68) (Nj := some 70) #[true, true, true, true, false, false, true, false, false] #[true, true, false, true, true, false, true, false, false] rfl rfl rfl rfl (two_of HT_.out (by kernel_rfl)) (by decide) (by decide) (fun K hK => ?_) (fun K hK => ?_)
                  · skip
                    refine Kd.R_append_rows_step kW (w0 := w8) w8.heap.size (by rfl) (.tmp 66) (.tmp 67) 42 50 (.agg #[(.slice none 0 0), (.slice none 0 0)]) 48 rfl Try.underlying42 info50 rfl (by decide) (by omega) v66 [] yo _ _ _ (fun _ => True) (fun _ => False) rfl rfl H66.out (Kd.C_below HY.out HB.out) (fun _ _ h => h) (fun _ h => h.elim) (fun _ _ => trivial) HB.out HB.out.size (by have := HOL.out; simp only [List.length_nil]; omega) ?_
                    intro v68 wn ho hb hg hat
                    have H68 := Lib.hid ho
                    have HB1 := Lib.hid hb
                    clear HB H66
                    have HB := HB1
                    clear ho hb hg hat HB1
                    refine hK.out _ _ (HM0.out.below HB.out).cells (fun hHeld => ?_)
                    clear hK K
                    refine norm_ (a' := ?_) ?_ ?_
                    rotate_left
                    · show Act.put _ (some 68) _ = _
                      simp only [Act.put, List.setIfInBounds_toArray, List.set_cons_zero, List.set_cons_succ, i64_w, i32_w]
                      rfl
                    refine one_ (i := 4) (N := some 70) #[true, true, true, true, true, false, true, false, false] rfl rfl (one_of HT_.out (by kernel_rfl)) (by decide) (fun K hK => ?_)
                    refine Kd.R_lit_step kW _ 50 ?hg (N := 70) ?hd (xs := ([(.slice AS x.f0.length cS, .slice AB x.f1.length cB)] : List (Value × Value))) (inner := [.slice AS x.f0.length cS, .slice AB x.f1.length cB]) (ok := fun _ => True) (okp := fun _ => True) ?hr ?hp (fun _ hk => hk) trivial (Below.refl _ _) (Nat.le_refl _) (by simp) ?_; (case hd => rfl); (case hg => rfl); (case hr => first | (go_simp; done) | (go_simp; rfl)); (case hp => exact (kW_reps _ _ _ rfl rfl))
                    intro v70 wm ho hb hg_ hnew_
                    have H70 := Lib.hid (Kd.R_lower ho HB.out.size)
                    have H68' := Lib.hid (Kd.R_below H68.out hb)
                    have HB1 := Lib.hid (below_step HB.out hb)
                    clear HB H68
                    have HB := HB1
                    have H68 := H68'
                    clear ho hb hg_ hnew_ HB1 H68'
                    refine hK.out _ _ (HM0.out.below HB.out).cells (fun hHeld => ?_)
                    clear hK K
                    refine norm_ (a' := ?_) ?_ ?_
                    rotate_left
                    · show Act.put _ (some 70) _ = _
                      simp only [Act.put, List.setIfInBounds_toArray, List.set_cons_zero, List.set_cons_succ, i64_w, i32_w]
                      rfl
                    exact norm_ (by simp only [putAll, Act.put, List.setIfInBounds_toArray, List.set_cons_zero, List.set_cons_succ]) (hCont (v66, v68, v70) _ ⟨HB.out, H68.out, H70.out⟩)
                  · skip
                    refine Kd.R_lit_step kW _ 50 ?hg (N := 70) ?hd (xs := ([(.slice AS x.f0.length cS, .slice AB x.f1.length cB)] : List (Value × Value))) (inner := [.slice AS x.f0.length cS, .slice AB x.f1.length cB]) (ok := fun _ => True) (okp := fun _ => True) ?hr ?hp (fun _ hk => hk) trivial (Below.refl _ _) (Nat.le_refl _) (by simp) ?_; (case hd => rfl); (case hg => rfl); (case hr => first | (go_simp; done) | (go_simp; rfl)); (case hp => exact (kW_reps _ _ _ rfl rfl))
                    intro v70 wm ho hb hg_ hnew_
                    have HE := Lib.hid (Kd.R_elder H66.out ho hb).1
                    have H70 := Lib.hid (Kd.R_lower ho HB.out.size)
                    have H66' := Lib.hid (Kd.R_below H66.out hb)
                    have HB1 := Lib.hid (below_step HB.out hb)
                    clear HB H66
                    have HB := HB1
                    have H66 := H66'
                    clear ho hb hg_ hnew_ HB1 H66'
                    refine hK.out _ _ (HM0.out.below HB.out).cells (fun hHeld => ?_)
                    clear hK K
                    refine norm_ (a' := ?_) ?_ ?_
                    rotate_left
                    · show Act.put _ (some 70) _ = _
                      simp only [Act.put, List.setIfInBounds_toArray, List.set_cons_zero, List.set_cons_succ, i64_w, i32_w]
                      rfl
                    refine one_ (i := 2) (N := some 68) #[true, true, true, true, true, false, true, false, false] rfl rfl (one_of HT_.out (by kernel_rfl)) (by decide) (fun K hK => ?_)
                    refine Kd.R_append_rows_step kW (w0 := w8) w8.heap.size (by rfl) (.tmp 66) (.tmp 67) 42 50 (.agg #[(.slice none 0 0), (.slice none 0 0)]) 48 rfl Try.underlying42 info50 rfl (by decide) (by omega) v66 [] yo _ _ _ (fun _ => True) (fun _ => False) rfl rfl H66.out (Kd.C_below HY.out HB.out) (fun _ _ h => h) (fun _ h => h.elim) (fun _ _ => trivial) HB.out HB.out.size (by have := HOL.out; simp only [List.length_nil]; omega) ?_
                    intro v68 wn ho hb hg hat
                    have H68 := Lib.hid ho
                    have H70' := Lib.hid (Kd.R_grown2 H70.out rfl hg (fun k hk => (HE.out k hk).2))
                    have HB1 := Lib.hid hb
                    clear HB H66 H70
                    have HB := HB1
                    have H70 := H70'
                    clear ho hb hg hat HB1 H70' HE
                    refine hK.out _ _ (HM0.out.below HB.out).cells (fun hHeld => ?_)
                    clear hK K
                    refine norm_ (a' := ?_) ?_ ?_
                    rotate_left
                    · show Act.put _ (some 68) _ = _
                      simp only [Act.put, List.setIfInBounds_toArray, List.set_cons_zero, List.set_cons_succ, i64_w, i32_w]
                      rfl
                    exact norm_ (by simp only [putAll, Act.put, List.setIfInBounds_toArray, List.set_cons_zero, List.set_cons_succ]) (hCont (v66, v68, v70) _ ⟨HB.out, H68.out, H70.out⟩)
                · skip
                  refine Kd.R_lit_step kW _ 50 ?hg (N := 70) ?hd (xs := ([(.slice AS x.f0.length cS, .slice AB x.f1.length cB)] : List (Value × Value))) (inner := [.slice AS x.f0.length cS, .slice AB x.f1.length cB]) (ok := fun _ => True) (okp := fun _ => True) ?hr ?hp (fun _ hk => hk) trivial (Below.refl _ _) (Nat.le_refl _) (by simp) ?_; (case hd => rfl); (case hg => rfl); (case hr => first | (go_simp; done) | (go_simp; rfl)); (case hp => exact (kW_reps _ _ _ rfl rfl))
                  intro v70 wm ho hb hg_ hnew_
                  have H70 := Lib.hid ho
                  have HB1 := Lib.hid hb
                  clear HB
                  have HB := HB1
                  clear ho hb hg_ hnew_ HB1
                  refine hK.out _ _ (HM0.out.below HB.out).cells (fun hHeld => ?_)
                  clear hK K
                  refine norm_ (a' := ?_) ?_ ?_
                  rotate_left
                  · show Act.put _ (some 70) _ = _
                    simp only [Act.put, List.setIfInBounds_toArray, List.set_cons_zero, List.set_cons_succ, i64_w, i32_w]
                    rfl
                  refine one_ (i := 0) (N := some 66) #[true, true, false, true, true, false, true, false, false] rfl rfl (one_of HT_.out (by kernel_rfl)) (by decide) (fun K hK => ?_)
                  refine Kd.R_lit_step kW _ 50 ?hg (N := 66) ?hd (xs := ([] : List (Value × Value))) (inner := []) (ok := fun _ => True) (okp := fun _ => True) ?hr ?hp (fun _ hk => hk) trivial (Below.refl _ _) (Nat.le_refl _) (by simp) ?_; (case hd => rfl); (case hg => rfl); (case hr => first | (go_simp; done) | (go_simp; rfl)); (case hp => exact (Reps.none _ _))
                  intro v66 w9 ho hb hg_ hnew_
                  have HE := Lib.hid (Kd.R_elder H70.out ho hb).1
                  have H66 := Lib.hid (Kd.R_lower ho HB.out.size)
                  have H70' := Lib.hid (Kd.R_below H70.out hb)
                  have HB1 := Lib.hid (below_step HB.out hb)
                  clear HB H70
                  have HB := HB1
                  have H70 := H70'
                  clear ho hb hg_ hnew_ HB1 H70'
                  refine hK.out _ _ (HM0.out.below HB.out).cells (fun hHeld => ?_)
                  clear hK K
                  refine norm_ (a' := ?_) ?_ ?_
                  rotate_left
                  · show Act.put _ (some 66) _ = _
                    simp only [Act.put, List.setIfInBounds_toArray, List.set_cons_zero, List.set_cons_succ, i64_w, i32_w]
                    rfl
                  refine one_ (i := 2) (N := some 68) #[true, true, true, true, true, false, true, false, false] rfl rfl (one_of HT_.out (by kernel_rfl)) (by decide) (fun K hK => ?_)
                  refine Kd.R_append_rows_step kW (w0 := w8) w8.heap.size (by rfl) (.tmp 66) (.tmp 67) 42 50 (.agg #[(.slice none 0 0), (.slice none 0 0)]) 48 rfl Try.underlying42 info50 rfl (by decide) (by omega) v66 [] yo _ _ _ (fun _ => True) (fun _ => False) rfl rfl H66.out (Kd.C_below HY.out HB.out) (fun _ _ h => h) (fun _ h => h.elim) (fun _ _ => trivial) HB.out HB.out.size (by have := HOL.out; simp only [List.length_nil]; omega) ?_
                  intro v68 wn ho hb hg hat
                  have H68 := Lib.hid ho
                  have H70' := Lib.hid (Kd.R_grown2 H70.out rfl hg (fun k hk e_ => (HE.out k e_.symm).2 hk.symm))
                  have HB1 := Lib.hid hb
                  clear HB H66 H70
                  have HB := HB1
                  have H70 := H70'
                  clear ho hb hg hat HB1 H70' HE
                  refine hK.out _ _ (HM0.out.below HB.out).cells (fun hHeld => ?_)
                  clear hK K
                  refine norm_ (a' := ?_) ?_ ?_
                  rotate_left
                  · show Act.put _ (some 68) _ = _
                    simp only [Act.put, List.setIfInBounds_toArray, List.set_cons_zero, List.set_cons_succ, i64_w, i32_w]
                    rfl
                  exact norm_ (by simp only [putAll, Act.put, List.setIfInBounds_toArray, List.set_cons_zero, List.set_cons_succ]) (hCont (v66, v68, v70) _ ⟨HB.out, H68.out, H70.out⟩)
              rintro ⟨v66, v68, v70⟩ w9 ⟨hB, h68, h70⟩
              have HB1 := Lib.hid hB; have H68 := Lib.hid h68; have H70 := Lib.hid h70
              clear hB h68 h70 HB
              have HB := HB1
              clear HB1
              have hHeld := (HM0.out.below HB.out).cells
              refine norm_ (a' := ?_) ?_ ?_
              rotate_left
              · simp only [putAll, Act.put, List.setIfInBounds_toArray, List.set_cons_zero, List.set_cons_succ]
                rfl
              obtain ⟨A70, c70, e70⟩ := Kd.R_slice H70.out
              subst e70
              refine one_ (i := 5) (N := some 71) #[true, true, true, true, true, true, true, false, false] rfl rfl (one_of HT_.out (by kernel_rfl)) (by decide) (fun K hK => ?_)
              refine Kd.R_append_rows_step kW (w0 := w8) w8.heap.size (by rfl) (.tmp 68) (.tmp 70) 42 50 (.agg #[(.slice none 0 0), (.slice none 0 0)]) 48 rfl Try.underlying42 info50 rfl (by decide) (by omega) v68 yo [(.slice AS x.f0.length cS, .slice AB x.f1.length cB)] A70 _ c70 (fun _ => True) (fun _ => False) rfl rfl H68.out (Kd.R_reads' H70.out).2.2 (fun _ _ h => h) (fun _ h => h.elim) (fun _ _ => trivial) HB.out HB.out.size (by have := HOL.out; have := HRo.out.1; simp only [List.length_cons, List.length_nil]; omega) ?_
              intro v71 w10 ho hb hg hat
              have HRe := Lib.hid ((HRo.out.app HRx.out).below hb)
              have hle := HRe.out.1
              obtain ⟨A71, c71, e71⟩ : ∃ A c, v71 = .slice A (os ++ [x]).length c := by
                obtain ⟨A, c, h⟩ := Kd.R_slice ho
                exact ⟨A, c, by rw [h, hle]⟩
              subst e71
              have hrm := (Kd.R_reads' ho).2.1
              have hcc := (Kd.R_reads' ho).2.2
              have HC71 := Lib.hid (unraw hcc HRe.out)
              have HR71 := Lib.hid hrm
              have HB1 := Lib.hid hb
              clear HB H68 H70 HRe hle hrm hcc ho hb hg hat
              have HB := HB1
              clear HB1
              refine hK.out _ _ (HM0.out.below HB.out).cells (fun hHeld => ?_)
              clear hK K
              refine norm_ (a' := ?_) ?_ ?_
              rotate_left
              · show Act.put _ (some 71) _ = _
                simp only [Act.put, List.setIfInBounds_toArray, List.set_cons_zero, List.set_cons_succ, i64_w, i32_w]
                rfl
              refine one_ (i := 7) (N := some 73) #[true, true, true, true, true, true, true, true, false] rfl rfl (one_of HT_.out (by kernel_rfl)) (by decide) (fun K hK => ?_)
              refine goes_ Try.func25 (by kernel_rfl) rfl #[.slice A71 (os ++ [x]).length c71, .slice A1 ms.length c1] (by rfl) rfl rfl (by (try simp only [List.map_toArray, List.map_cons, List.map_nil]); first | done | rfl) ?_
              refine (closure_Needed.calls A71 c71 (os ++ [x]) A1 c1 ms m w10 HC71.out HR71.out (HM0.out.below HB.out).m (HM0.out.below HB.out).mc HG.out.n2).mono ?_
              rintro e w11 ⟨vm, rfl, hR, hb⟩
              refine ⟨_, rfl, ?_⟩
              have Hm := Lib.hid (Kd.R_lower hR HB.out.size)
              have HB1 := Lib.hid (below_step HB.out hb)
              clear HB hR hb HC71 HR71
              have HB := HB1
              clear HB1
              refine hK.out _ _ (HM0.out.below HB.out).cells (fun hHeld => ?_)
              clear hK K
              refine norm_ (a' := ?_) ?_ ?_
              rotate_left
              · show Act.put _ (some 73) _ = _
                simp only [Act.put, List.setIfInBounds_toArray, List.set_cons_zero, List.set_cons_succ, i64_w, i32_w]
                rfl
              refine pure_ (i := 8) (N := some 11) (v := ?_) (a' := ?_) #[true, true, true, true, true, true, true, true, true] rfl rfl (any_of HT_.out (by kernel_rfl)) (fun _ _ _ h => h) (Or.inl ⟨by rfl, ?_⟩) ?_ ?_
              rotate_left
              · intro w'
                go_simp
                with_reducible rfl
              rotate_left
              · simp only [Act.put, List.setIfInBounds_toArray, List.set_cons_zero, List.set_cons_succ, i64_w, i32_w]
                rfl
              refine done_ (done_of HT_.out (by kernel_rfl)) ?_
              have HM11 := Lib.hid (HM0.out.below HB.out)
              have HL11 := Lib.hid (Kd.R_below HL0.out HB.out)
              clear HM0 HL0 HY HRo HRx HOL HT_ hHeld
              go_wp2_with fail
              rw [HG.out.tk]
              have HM0 := Lib.hid (HM11.out.below (below_drew (Below.refl _ _)))
              have HL0 := Lib.hid (Kd.R_below HL11.out (below_drew (Below.refl _ _)))
              have Hm0 := Lib.hid (Kd.R_below Hm.out (below_drew (Below.refl _ _)))
              clear HM11 HL11 Hm
              refine start_ (n := 10) (S := fun _ => True) (ds := []) #[false, false, false, false, false, false, false, false, false, false] (by kernel_rfl) rfl rfl trivial (fun hHeld => ?_); refine with_tab mono_tab11 (fun HT_ => ?_)
              generalize w11.drew = w12 at HM0 HL0 Hm0 ⊢
              obtain ⟨ym, hym, hrm⟩ := raws HM0.out.m
              have HY := Lib.hid hym
              have HRm := Lib.hid hrm
              have HOL := Lib.hid HG.out.ml
              have HTL := Lib.hid HG.out.tl
              obtain ⟨ii, hii, _, hsz, _⟩ := info_parts info50
              have hcf := cut_from (P := Try.prog) 42 50 .i64 Try.underlying42 hii 2 hsz A1 ms.length c1 (t : Int) (by omega) (by have := HTL.out; omega)
              have hct := cut_to (P := Try.prog) 42 50 .i64 Try.underlying42 hii A1 ms.length c1 (t : Int) (by omega) (by have := HTL.out; omega) HM0.out.mc
              rw [Int.toNat_natCast] at hcf hct
              obtain ⟨AD, hAD⟩ : ∃ AD, (if c1 = t then A1 else A1.map fun z => z.add (t * 2)) = AD := ⟨_, rfl⟩
              rw [hAD] at hcf
              have HD := Lib.hid (show kW.C w12 AD (ym.drop t).length (ym.drop t) from by
                have := Kd.C_drop (m := t) (c := c1) HY.out (by have := HTL.out; have := hrm.1; omega) (by have := HM0.out.mc; have := hrm.1; omega)
                rw [← hAD]; exact this)
              have HT := Lib.hid (show kW.C w12 A1 (ym.take t).length (ym.take t) from Kd.C_take (m := t) HY.out (by have := HTL.out; have := hrm.1; omega))
              have hdl : (ym.drop t).length = ms.length - t := by rw [List.length_drop, ← hrm.1]
              have htl : (ym.take t).length = t := by rw [List.length_take, ← hrm.1]; have := HTL.out; omega
              rw [hdl] at HD
              rw [htl] at HT
              have HDL := Lib.hid hdl
              have HTLn := Lib.hid htl
              clear hym hrm hii hsz hAD hdl htl
              have HB := Lib.hid (Below.refl w12.heap.size w12)
              refine pure_ (i := 1) (N := some 80) (v := ?_) (a' := ?_) #[false, true, false, false, false, false, false, false, false, false] rfl rfl (any_of HT_.out (by kernel_rfl)) (fun _ _ _ h => h) (Or.inl ⟨by rfl, ?_⟩) ?_ ?_
              rotate_left
              · intro w'
                go_simp
                with_reducible rfl
              rotate_left
              · simp only [Act.put, List.setIfInBounds_toArray, List.set_cons_zero, List.set_cons_succ, i64_w, i32_w]
                rfl
              refine pure_ (i := 2) (N := some 81) (v := ?_) (a' := ?_) #[false, true, true, false, false, false, false, false, false, false] rfl rfl (any_of HT_.out (by kernel_rfl)) (fun _ _ _ h => h) (Or.inl ⟨by rfl, ?_⟩) ?_ ?_
              rotate_left
              · intro w'
                go_simp
                with_reducible rfl
              rotate_left
              · simp only [Act.put, List.setIfInBounds_toArray, List.set_cons_zero, List.set_cons_succ, i64_w, i32_w]
                rfl
              refine pure_ (i := 3) (N := some 82) (v := ?_) (a' := ?_) #[false, true, true, true, false, false, false, false, false, false] rfl rfl (any_of HT_.out (by kernel_rfl)) (fun _ _ _ h => h) (Or.inl ⟨by rfl, ?_⟩) ?_ ?_
              rotate_left
              · intro w'
                have := hcf w'
                first | (go_simp; rw [this]; first | done | rfl) | (go_simp; first | done | rfl)
              rotate_left
              · simp only [Act.put, List.setIfInBounds_toArray, List.set_cons_zero, List.set_cons_succ, i64_w, i32_w]
                rfl
              refine pure_ (i := 5) (N := some 84) (v := ?_) (a' := ?_) #[false, true, true, true, false, true, false, false, false, false] rfl rfl (any_of HT_.out (by kernel_rfl)) (fun _ _ _ h => h) (Or.inl ⟨by rfl, ?_⟩) ?_ ?_
              rotate_left
              · intro w'
                go_simp
                with_reducible rfl
              rotate_left
              · simp only [Act.put, List.setIfInBounds_toArray, List.set_cons_zero, List.set_cons_succ, i64_w, i32_w]
                rfl
              refine pure_ (i := 6) (N := some 85) (v := ?_) (a' := ?_) #[false, true, true, true, false, true, true, false, false, false] rfl rfl (any_of HT_.out (by kernel_rfl)) (fun _ _ _ h => h) (Or.inl ⟨by rfl, ?_⟩) ?_ ?_
              rotate_left
              · intro w'
                go_simp
                with_reducible rfl
              rotate_left
              · simp only [Act.put, List.setIfInBounds_toArray, List.set_cons_zero, List.set_cons_succ, i64_w, i32_w]
                rfl
              refine pure_ (i := 7) (N := some 86) (v := ?_) (a' := ?_) #[false, true, true, true, false, true, true, true, false, false] rfl rfl (any_of HT_.out (by kernel_rfl)) (fun _ _ _ h => h) (Or.inl ⟨by rfl, ?_⟩) ?_ ?_
              rotate_left
              · intro w'
                have := hct w'
                first | (go_simp; rw [this]; first | done | rfl) | (go_simp; first | done | rfl)
              rotate_left
              · simp only [Act.put, List.setIfInBounds_toArray, List.set_cons_zero, List.set_cons_succ, i64_w, i32_w]
                rfl
              refine one_ (i := 0) (N := some 79) #[true, true, true, true, false, true, true, true, false, false] rfl rfl (one_of HT_.out (by kernel_rfl)) (by decide) (fun K hK => ?_)
              refine Kd.R_lit_step kW _ 50 ?hg (N := 79) ?hd (xs := ([] : List (Value × Value))) (inner := []) (ok := fun _ => True) (okp := fun _ => True) ?hr ?hp (fun _ hk => hk) trivial (Below.refl _ _) (Nat.le_refl _) (by simp) ?_; (case hd => rfl); (case hg => rfl); (case hr => first | (go_simp; done) | (go_simp; rfl)); (case hp => exact (Reps.none _ _))
              intro v79 w13 ho hb hg_ hnew_
              have H79 := Lib.hid ho
              have HB1 := Lib.hid hb
              clear HB
              have HB := HB1
              clear ho hb hg_ hnew_ HB1 hcf hct
              refine hK.out _ _ trivial (fun hHeld => ?_)
              clear hK K
              refine norm_ (a' := ?_) ?_ ?_
              rotate_left
              · show Act.put _ (some 79) _ = _
                simp only [Act.put, List.setIfInBounds_toArray, List.set_cons_zero, List.set_cons_succ, i64_w, i32_w]
                rfl
              refine one_ (i := 4) (N := some 83) #[true, true, true, true, true, true, true, true, false, false] rfl rfl (one_of HT_.out (by kernel_rfl)) (by decide) (fun K hK => ?_)
              refine Kd.R_append_rows_step kW (w0 := w12) w12.heap.size (by rfl) (.tmp 79) (.tmp 82) 42 50 (.agg #[(.slice none 0 0), (.slice none 0 0)]) 48 rfl Try.underlying42 info50 rfl (by decide) (by omega) v79 [] (ym.drop t) _ _ _ (fun _ => True) (fun _ => False) rfl rfl H79.out (Kd.C_below HD.out HB.out) (fun _ _ h => h) (fun _ h => h.elim) (fun _ _ => trivial) HB.out HB.out.size (by have := HOL.out; simp only [List.length_nil]; omega) ?_
              intro v83 w14 ho hb hg hat
              have H83 := Lib.hid ho
              have HB1 := Lib.hid hb
              clear HB H79
              have HB := HB1
              clear ho hb hg hat HB1
              refine hK.out _ _ trivial (fun hHeld => ?_)
              clear hK K
              refine norm_ (a' := ?_) ?_ ?_
              rotate_left
              · show Act.put _ (some 83) _ = _
                simp only [Act.put, List.setIfInBounds_toArray, List.set_cons_zero, List.set_cons_succ, i64_w, i32_w]
                rfl
              refine one_ (i := 8) (N := some 87) #[true, true, true, true, true, true, true, true, true, false] rfl rfl (one_of HT_.out (by kernel_rfl)) (by decide) (fun K hK => ?_)
              refine Kd.R_append_rows_step kW (w0 := w12) w12.heap.size (by rfl) (.tmp 83) (.tmp 86) 42 50 (.agg #[(.slice none 0 0), (.slice none 0 0)]) 48 rfl Try.underlying42 info50 rfl (by decide) (by omega) v83 (ym.drop t) (ym.take t) _ _ _ (fun _ => True) (fun _ => False) rfl rfl H83.out (Kd.C_below HT.out HB.out) (fun _ _ h => h) (fun _ h => h.elim) (fun _ _ => trivial) HB.out HB.out.size (by have := HOL.out; have := HTL.out; have := HDL.out; omega) ?_
              intro v87 w15 ho hb hg hat
              have HRe := Lib.hid (show Rep w15 tu (ym.drop t ++ ym.take t) from by rw [← HG.out.et]; exact ((HRm.out.drop t).app (HRm.out.take t)).below hb)
              have hle := HRe.out.1
              obtain ⟨A13, c13, e13⟩ : ∃ A c, v87 = .slice A tu.length c := by
                obtain ⟨A, c, h⟩ := Kd.R_slice ho
                exact ⟨A, c, by rw [h, hle]⟩
              subst e13
              have hrm := (Kd.R_reads' ho).2.1
              have hcc := (Kd.R_reads' ho).2.2
              have HC13 := Lib.hid (unraw hcc HRe.out)
              have HR13 := Lib.hid hrm
              have HB1 := Lib.hid hb
              clear HB H83 HRe hle hrm hcc ho hb hg hat
              have HB := HB1
              clear HB1
              refine hK.out _ _ trivial (fun hHeld => ?_)
              clear hK K
              refine norm_ (a' := ?_) ?_ ?_
              rotate_left
              · show Act.put _ (some 87) _ = _
                simp only [Act.put, List.setIfInBounds_toArray, List.set_cons_zero, List.set_cons_succ, i64_w, i32_w]
                rfl
              refine pure_ (i := 9) (N := some 13) (v := ?_) (a' := ?_) #[true, true, true, true, true, true, true, true, true, true] rfl rfl (any_of HT_.out (by kernel_rfl)) (fun _ _ _ h => h) (Or.inl ⟨by rfl, ?_⟩) ?_ ?_
              rotate_left
              · intro w'
                go_simp
                with_reducible rfl
              rotate_left
              · simp only [Act.put, List.setIfInBounds_toArray, List.set_cons_zero, List.set_cons_succ, i64_w, i32_w]
                rfl
              refine done_ (done_of HT_.out (by kernel_rfl)) ?_
              have HM15 := Lib.hid (HM0.out.below HB.out)
              have HL15 := Lib.hid (Kd.R_below HL0.out HB.out)
              have Hm15 := Lib.hid (Kd.R_below Hm0.out HB.out)
              clear HM0 HL0 Hm0 HY HRm HOL HD HT HDL HTLn HT_ hHeld HB
              go_wp2_with fail
              refine (closure_Needed.calls A0 c0 os A13 c13 tu n w15 HM15.out.o HM15.out.oc HC13.out HR13.out HG.out.n3).mono ?_
              rintro e w16 ⟨vn, rfl, hR, hb⟩
              have HM16 := Lib.hid (HM15.out.below hb)
              have HL16 := Lib.hid (Kd.R_below HL15.out hb)
              have Hm16 := Lib.hid (Kd.R_below Hm15.out hb)
              obtain ⟨An, cn, rfl⟩ := Kd.R_slice hR
              obtain ⟨Al, cl, rfl⟩ := Kd.R_slice HL16.out
              obtain ⟨Am, cm, rfl⟩ := Kd.R_slice Hm16.out
              have HLC := Lib.hid (Kd.R_reads' HL16.out).2
              have HmC := Lib.hid (Kd.R_reads' Hm16.out).2
              have HnC := Lib.hid (Kd.R_reads' hR).2
              clear HM15 HL15 Hm15 HC13 HR13 HL16 Hm16 hR hb
              have hnl : n.length = l.length := HG.out.len
              rw [hnl]
              have hbn : ((l.length : Int) != (l.length : Int)) = false := bne_self_eq_false ..
              go_wp2_with fail
              clear hnl hbn
              have hll := Lib.hid HG.out.ll
              go_loopg [15] (l.length + 1) (fun kq v15 w' => ∃ i : Nat, v15 = .int .i64 (i : Int) ∧ Aside0 (i + kq = l.length + 1 ∧ i ≤ l.length) ∧ Aside0 (Below w16.heap.size w16 w'))
              case atStart => exact ⟨0, rfl, ⟨by omega, by omega⟩, ⟨Below.refl _ _⟩⟩
              case round =>
                obtain ⟨i, rfl, HA, HBw⟩ := hrel
                by_cases c : (i : Int) < (l.length : Int)
                · have c' : decide ((i : Int) < (l.length : Int)) = true := decide_eq_true c
                  have hin := HG.out.inm i (by omega)
                  have hinn := HG.out.inn i (by omega)
                  obtain ⟨ad, e, y0⟩ := Kd.at_int (Kd.C_below HLC.out.2 HBw.out) (i : Int) (by omega) c
                  subst e
                  simp only [Int.toNat_natCast] at y0
                  have p0 : (0 ≤ (i : Int)) = True := eq_true (by omega)
                  have p1 : ((i : Int) < (l.length : Int)) = True := eq_true c
                  have hiN := Aside0.mk (show i < l.length from by omega)
                  have hin' := Lib.hid hin
                  have hinn' := Lib.hid hinn
                  clear c hin hinn
                  go_wp2_with fail
                  refine (arlinklaw22_in.calls k Am cm m (rd l (i : Int)) true _ (Kd.C_below HmC.out.2 HBw.out) HmC.out.1 hin'.out).mono ?_
                  rintro e wa ⟨rfl, hd⟩
                  have HBa := Aside0.mk (below_step HBw.out hd.below)
                  clear HBw hd y0
                  obtain ⟨ad2, e, y0⟩ := Kd.at_int (Kd.C_below HLC.out.2 HBa.out) (i : Int) (by omega) (by have := hiN.out; omega)
                  obtain rfl : ad = ad2 := (by injection e)
                  clear e
                  simp only [Int.toNat_natCast] at y0
                  go_wp2_with fail
                  have hin2 := arlinklaw22_in.calls k An cn n _ true wa (Kd.C_below HnC.out.2 HBa.out) HnC.out.1 hinn'.out
                  rw [HG.out.len] at hin2
                  refine hin2.mono ?_
                  rintro e wb ⟨rfl, hd⟩
                  have HBb := Aside0.mk (below_step HBa.out hd.below)
                  clear HBa hd y0 hin2
                  go_wp2
                  go_roundg (gk - 1)
                  case measure => have := HA.out; have := hiN.out; omega
                  case rel => exact ⟨i + 1, by rw [show wrap64 ((i : Int) + 1) = ((i + 1 : Nat) : Int) from by have := hiN.out; have := hll.out; unfold wrap64; omega], ⟨by have := HA.out; have := hiN.out; omega, by have := hiN.out; omega⟩, HBb⟩
                · have c' : decide ((i : Int) < (l.length : Int)) = false := decide_eq_false c
                  have c2 : decide (i < l.length) = false := decide_eq_false (by omega)
                  have c3 : ¬ i < l.length := by omega
                  clear c
                  go_wp2
                  go_ret
                  exact ⟨rfl, below_then HM16.out.B (below_size HM16.out.B) HBw.out⟩
end Go.Proofs.Ythpjpkcfepmhkaa.PAll
namespace Go.Proofs.Ythpjpkcfepmhkaa.PAll
open Go.RowKit Go.Proofs.YthpjpkcfepmhkaaW.PrintWords Go.Proofs.YthpjpkcfepmhkaaW.PrintLast Go.Proofs.YthpjpkcfepmhkaaW.PrintMore
set_option linter.unusedVariables false
set_option linter.unusedSimpArgs false
theorem in_loop (l : List Int) (a : Int) (hl : l.length ≤ 1000000) : ∀ (d i : Nat), i + d = l.length → ∀ k, d < k → arlinklaw22_in.l0 k l a (i : Int) = some (decide (a ∈ l.drop i))
  | 0, i, h, k, hk => by
    obtain ⟨k, rfl⟩ : ∃ k', k = k' + 1 := ⟨k - 1, by omega⟩
    rw [arlinklaw22_in.l0, if_neg (by omega), List.drop_of_length_le (by omega)]; simp
  | d + 1, i, h, k, hk => by
    obtain ⟨k, rfl⟩ : ∃ k', k = k' + 1 := ⟨k - 1, by omega⟩
    have hi : i < l.length := by omega
    have key : (a ∈ l.drop i) ↔ (a = l[i] ∨ a ∈ l.drop (i + 1)) := by rw [List.drop_eq_getElem_cons hi, List.mem_cons]
    rw [arlinklaw22_in.l0, if_pos (by omega), if_pos (by omega), rdN hi, wrN i (by omega), in_loop l a hl d (i + 1) (by omega) k (by omega)]
    by_cases e : l[i] = a
    · rw [if_pos e, decide_eq_true (key.2 (.inl e.symm))]
    · rw [if_neg e]
      congr 1
      rw [decide_eq_decide, key]
      exact ⟨.inr, fun h => h.resolve_left (fun h => e h.symm)⟩
theorem in_ok {l : List Int} {a : Int} (hl : l.length ≤ 1000) {k : Nat} (hk : 2000 ≤ k) (h : a ∈ l) : arlinklaw22_in.f k l a = some true := by
  have := in_loop l a (by omega) l.length 0 (by omega) k (by omega)
  rw [List.drop_zero, decide_eq_true h] at this
  exact this
theorem sub_lenI : ∀ (a b : List Int), a.Nodup → (∀ s, s ∈ a → s ∈ b) → a.length ≤ b.length
  | [], b, _, _ => by simp
  | x :: a, b, hn, h => by
    rw [List.nodup_cons] at hn
    have hx := h x (List.mem_cons_self ..)
    have h1 := sub_lenI a (b.filter fun y => !decide (y = x)) hn.2 (fun s hs => List.mem_filter.2 ⟨h s (List.mem_cons_of_mem _ hs), by
      have : s ≠ x := fun e => hn.1 (by rw [← e]; exact hs)
      simp [this]⟩)
    have h2 : (b.filter fun y => !decide (y = x)).length < b.length := List.length_filter_lt_length_iff_exists.2 ⟨x, hx, by simp⟩
    rw [List.length_cons]
    omega
/-- Needed of lists that are few, with few symbols. -/
theorem needed_few {os ms : List S50} (hlo : os.length ≤ 100) (hlm : ms.length ≤ 100) (ho : ∀ o, o ∈ os ++ ms → o.f0.length ≤ 20 ∧ ∀ s, s ∈ o.f0 → s.f0.size ≤ 255) : ∃ nd, closure_Needed.f os ms = some (pickN nd ms.length) ∧ ∀ q : Nat, q < ms.length → ((q : Int) ∈ nd ↔ Rch os ms q) := by
  have hsm : ∀ l : List S50, l.length ≤ 100 → (∀ o, o ∈ l → o ∈ os ++ ms) → smallL l = true := fun l h1 h2 =>
    smallL_iff.2 ⟨by omega, fun o h => ⟨by have := (ho o (h2 o h)).1; omega, fun s hs => by have := (ho o (h2 o h)).2 s hs; omega⟩⟩
  refine needed_ok (hsm os hlo (fun o h => List.mem_append_left _ h)) (hsm ms hlm (fun o h => List.mem_append_right _ h)) ?_ (fun s hs => ?_)
  · have key : ∀ l : List S50, (∀ o, o ∈ l → o.f0.length ≤ 20) → (l.flatMap fun o => namesOf refB o.f0).length ≤ l.length * 20 := by
      intro l
      induction l with
      | nil => intro _; simp
      | cons o l ih =>
        intro h
        rw [List.flatMap_cons, List.length_append, List.length_cons]
        have h1 := ih (fun x hx => h x (List.mem_cons_of_mem _ hx))
        have h2 := h o (List.mem_cons_self ..)
        have h3 := namesOf_len refB o.f0
        omega
    have h1 := key (os ++ ms) (fun o h => (ho o h).1)
    rw [List.length_append] at h1
    unfold allRefs
    omega
  · unfold allRefs at hs
    obtain ⟨o, h1, h2⟩ := List.mem_flatMap.1 hs
    unfold namesOf at h2
    obtain ⟨x, hx, rfl⟩ := List.mem_map.1 h2
    have := (ho o h1).2 x (List.mem_filter.1 hx).1
    omega
theorem prov_more {os : List S50} {x : S50} (hx : ∀ j : Nat, j < x.f0.length → (rd_T55 x.f0 (j : Int)).f1 ≠ 1 ∧ (rd_T55 x.f0 (j : Int)).f1 ≠ 2) : provOf (os ++ [x]) = provOf os := by
  unfold provOf
  rw [List.flatMap_append]
  have : namesOf defB x.f0 = [] := by
    unfold namesOf
    rw [List.filter_eq_nil_iff.2 (fun s hs => ?_)]
    · rfl
    · obtain ⟨j, hj, rfl⟩ := List.getElem_of_mem hs
      have := hx j hj
      rw [rd55 hj] at this
      unfold defB
      simp [this.1, this.2]
  simp [this]
theorem rch_more {os ms : List S50} {x : S50} (hp : provOf (os ++ [x]) = provOf os) {q : Nat} (h : Rch os ms q) : Rch (os ++ [x]) ms q := by
  have hl : ∀ {o m}, LeadsP os o m → LeadsP (os ++ [x]) o m := fun ⟨s, h1, h2, h3⟩ => ⟨s, h1, h2, by rw [hp]; exact h3⟩
  induction h with
  | base q o hq ho h => exact .base q o hq (List.mem_append_left _ ho) (hl h)
  | step k q _ hq h ih => exact .step k q ih hq (hl h)
theorem rch_map {os ms ms' : List S50} (σ : Nat → Nat) (hσ : ∀ q, q < ms.length → σ q < ms'.length ∧ rd_T50 ms' (σ q : Int) = rd_T50 ms (q : Int)) {q : Nat} (h : Rch os ms q) : Rch os ms' (σ q) := by
  induction h with
  | base q o hq ho h => exact .base _ o (hσ q hq).1 ho (by rw [(hσ q hq).2]; exact h)
  | step k q hk hq h ih => exact .step _ _ ih (hσ q hq).1 (by rw [(hσ q hq).2, (hσ k hk.lt).2]; exact h)
/-- Where a member lies behind a turn, and where it lay. -/
def sgT (N t q : Nat) : Nat := if t ≤ q then q - t else q + N - t
def taT (N t p : Nat) : Nat := if p + t < N then p + t else p + t - N
theorem sgT_mod {N t q : Nat} (ht : t < N) (hq : q < N) : (q + N - t) % N = sgT N t q := by
  unfold sgT
  split
  · rw [show q + N - t = (q - t) + N from by omega, Nat.add_mod_right, Nat.mod_eq_of_lt (by omega)]
  · rw [Nat.mod_eq_of_lt (by omega)]
theorem turn_rd {ms : List S50} {t q : Nat} (ht : t < ms.length) (hq : q < ms.length) : rd_T50 (ms.drop t ++ ms.take t) ((sgT ms.length t q : Nat) : Int) = rd_T50 ms (q : Int) := by
  unfold rd_T50
  rw [Int.toNat_natCast, Int.toNat_natCast, List.getD_eq_getElem?_getD, List.getD_eq_getElem?_getD]
  congr 1
  unfold sgT
  split
  · rw [List.getElem?_append_left (by rw [List.length_drop]; omega), List.getElem?_drop]
    congr 1
    omega
  · rw [List.getElem?_append_right (by rw [List.length_drop]; omega), List.length_drop, List.getElem?_take, if_pos (by omega)]
    congr 1
    omega
theorem turn_len {ms : List S50} {t : Nat} (ht : t < ms.length) : (ms.drop t ++ ms.take t).length = ms.length := by
  rw [List.length_append, List.length_drop, List.length_take]; omega
theorem nodup_map_on {f : Int → Int} {l : List Int} (hn : l.Nodup) (hf : ∀ a, a ∈ l → ∀ b, b ∈ l → f a = f b → a = b) : (l.map f).Nodup := by
  rw [List.nodup_iff_pairwise_ne, List.pairwise_map]
  exact hn.imp_of_mem (fun {a b} ha hb hab h => hab (hf a ha b hb h))
theorem pickN_nodup (nd : List Int) (k : Nat) : (pickN nd k).Nodup := (pickN_sorted nd k).imp (fun h => by omega)
theorem mono_main (os ms : List S50) (x : S50) (a3 : Int) (h0 : 0 ≤ a3) (h1 : a3 ≤ 255) : ∃ k b0 b1 b2, MonoIn k os ms x b0 b1 b2 ∧
    (b0 = true → b1 = true → b2 = true → ms.length ≠ 0 → (∀ j : Nat, j < x.f0.length → (rd_T55 x.f0 (j : Int)).f1 ≠ 1 ∧ (rd_T55 x.f0 (j : Int)).f1 ≠ 2) → ∃ t tu l m n, MonoGo k os ms x a3 t tu l m n) := by
  obtain ⟨b0, ⟨K0, r0⟩, p0⟩ := right_ev os
  obtain ⟨b1, ⟨K1, r1⟩, p1⟩ := right_ev ms
  obtain ⟨b2, ⟨K2, r2⟩, p2⟩ := right_ev [x]
  refine ⟨K0 + K1 + K2 + 2000, b0, b1, b2, ⟨r0 _ (by omega), r1 _ (by omega), r2 _ (by omega)⟩, fun e0 e1 e2 hne hnd => ?_⟩
  have ho := p0 e0
  have hm := p1 e1
  have hx := p2 e2
  have hol := ho.len
  have hml := hm.len
  have hmO : ∀ o, o ∈ os → o.f0.length ≤ 20 ∧ ∀ s, s ∈ o.f0 → s.f0.size ≤ 255 := fun o h => ⟨ho.syms o h, ho.names o h⟩
  have hmM : ∀ o, o ∈ ms → o.f0.length ≤ 20 ∧ ∀ s, s ∈ o.f0 → s.f0.size ≤ 255 := fun o h => ⟨hm.syms o h, hm.names o h⟩
  have hmX : ∀ o, o ∈ [x] → o.f0.length ≤ 20 ∧ ∀ s, s ∈ o.f0 → s.f0.size ≤ 255 := fun o h => ⟨hx.syms o h, hx.names o h⟩
  obtain ⟨nd, n1, q1⟩ := ho.needed hm
  obtain ⟨nm, n2, q2⟩ := needed_few (os := os ++ [x]) (ms := ms) (by simp; omega) (by omega) (fun o h => by
    rcases List.mem_append.1 h with h | h
    · rcases List.mem_append.1 h with h | h
      · exact hmO o h
      · exact hmX o h
    · exact hmM o h)
  obtain ⟨a, rfl⟩ : ∃ a : Nat, a3 = (a : Int) := ⟨a3.toNat, by omega⟩
  obtain ⟨t, ht⟩ : ∃ t, a % ms.length = t := ⟨_, rfl⟩
  have htl : t < ms.length := by rw [← ht]; exact Nat.mod_lt _ (by omega)
  obtain ⟨tu, htu⟩ : ∃ tu, ms.drop t ++ ms.take t = tu := ⟨_, rfl⟩
  have htul : tu.length = ms.length := by rw [← htu]; exact turn_len htl
  have hmT : ∀ o, o ∈ tu → o ∈ ms := fun o h => by
    rw [← htu] at h
    rcases List.mem_append.1 h with h | h
    · exact List.mem_of_mem_drop h
    · exact List.mem_of_mem_take h
  obtain ⟨nn, n3, q3⟩ := needed_few (os := os) (ms := tu) (by omega) (by omega) (fun o h => by
    rcases List.mem_append.1 h with h | h
    · exact hmO o h
    · exact hmM o (hmT o h))
  rw [htul] at n3 q3
  have hsg : ∀ q, q < ms.length → sgT ms.length t q < ms.length := fun q hq => by unfold sgT; split <;> omega
  have hta : ∀ p, p < ms.length → taT ms.length t p < ms.length ∧ sgT ms.length t (taT ms.length t p) = p := fun p hp => by
    unfold taT sgT
    split
    · rename_i c
      exact ⟨c, by rw [if_pos (by omega)]; omega⟩
    · rename_i c
      exact ⟨by omega, by rw [if_neg (by omega)]; omega⟩
  have hinj : ∀ p, p < ms.length → ∀ q, q < ms.length → sgT ms.length t p = sgT ms.length t q → p = q := fun p hp q hq h => by
    unfold sgT at h
    split at h <;> split at h <;> omega
  have hto : ∀ q, q < ms.length → (Rch os tu (sgT ms.length t q) ↔ Rch os ms q) := by
    intro q hq
    constructor
    · intro h
      have := rch_map (ms := tu) (ms' := ms) (taT ms.length t) (fun p hp => by
        rw [htul] at hp
        obtain ⟨b1, b2⟩ := hta p hp
        refine ⟨b1, ?_⟩
        have := turn_rd htl b1
        rw [b2, htu] at this
        exact this.symm) h
      have e : taT ms.length t (sgT ms.length t q) = q := hinj _ (hta _ (hsg q hq)).1 _ hq (hta _ (hsg q hq)).2
      rw [e] at this
      exact this
    · exact rch_map (sgT ms.length t) (fun q hq => ⟨by rw [htul]; exact hsg q hq, by rw [← htu]; exact turn_rd htl hq⟩)
  have hmemL : ∀ v, v ∈ pickN nd ms.length → ∃ q : Nat, v = (q : Int) ∧ q < ms.length ∧ Rch os ms q := fun v hv => by
    obtain ⟨q, hq, rfl, h⟩ := (pickN_mem _ _ _).1 hv
    exact ⟨q, rfl, hq, (q1 q hq).1 h⟩
  have hL : ∀ q, q < ms.length → Rch os ms q → (q : Int) ∈ pickN nd ms.length := fun q hq h => (pickN_mem _ _ _).2 ⟨q, hq, rfl, (q1 q hq).2 h⟩
  have hNN : ∀ q, q < ms.length → Rch os tu q → (q : Int) ∈ pickN nn ms.length := fun q hq h => (pickN_mem _ _ _).2 ⟨q, hq, rfl, (q3 q hq).2 h⟩
  have hlen : (pickN nn ms.length).length = (pickN nd ms.length).length := by
    refine Nat.le_antisymm ?_ ?_
    · have := sub_lenI ((pickN nn ms.length).map fun v => ((taT ms.length t v.toNat : Nat) : Int)) (pickN nd ms.length) (nodup_map_on (pickN_nodup _ _) (fun v hv u hu h => by
        obtain ⟨p, hp, rfl, _⟩ := (pickN_mem _ _ _).1 hv
        obtain ⟨q, hq, rfl, _⟩ := (pickN_mem _ _ _).1 hu
        simp only [Int.toNat_natCast] at h
        have h' : taT ms.length t p = taT ms.length t q := by omega
        have := (hta p hp).2
        rw [h', (hta q hq).2] at this
        omega)) (fun v hv => by
        obtain ⟨u, hu, rfl⟩ := List.mem_map.1 hv
        obtain ⟨p, hp, rfl, h⟩ := (pickN_mem _ _ _).1 hu
        rw [Int.toNat_natCast]
        obtain ⟨b1, b2⟩ := hta p hp
        refine hL _ b1 ((hto _ b1).1 ?_)
        rw [b2]
        exact (q3 p hp).1 h)
      rwa [List.length_map] at this
    · have := sub_lenI ((pickN nd ms.length).map fun v => ((sgT ms.length t v.toNat : Nat) : Int)) (pickN nn ms.length) (nodup_map_on (pickN_nodup _ _) (fun v hv u hu h => by
        obtain ⟨p, hp, rfl, _⟩ := (pickN_mem _ _ _).1 hv
        obtain ⟨q, hq, rfl, _⟩ := (pickN_mem _ _ _).1 hu
        simp only [Int.toNat_natCast] at h
        have := hinj p hp q hq (by omega)
        omega)) (fun v hv => by
        obtain ⟨u, hu, rfl⟩ := List.mem_map.1 hv
        obtain ⟨p, rfl, hp, h⟩ := hmemL u hu
        rw [Int.toNat_natCast]
        exact hNN _ (hsg p hp) ((hto p hp).2 h))
      rwa [List.length_map] at this
  have hll := pickN_len nd ms.length
  have hlm := pickN_len nm ms.length
  have hln := pickN_len nn ms.length
  refine ⟨t, tu, _, _, _, ⟨htu, n1, n2, n3, ?_, htl, hol, hml, by omega, hlen, fun i hi => ?_, fun i hi => ?_⟩⟩
  · rw [wrS (by omega) (by omega), ← ht]
    rfl
  · rw [rdN hi]
    obtain ⟨q, e, hq, h⟩ := hmemL _ (List.getElem_mem hi)
    rw [e]
    exact in_ok (by omega) (by omega) ((pickN_mem _ _ _).2 ⟨q, hq, rfl, (q2 q hq).2 (rch_more (prov_more hnd) h)⟩)
  · rw [rdN hi]
    obtain ⟨q, e, hq, h⟩ := hmemL _ (List.getElem_mem hi)
    rw [e, wrS (x := (q : Int) - t) (by omega) (by omega), wrS (by omega) (by omega)]
    have e2 : Int.tmod ((q : Int) - t + (ms.length : Int)) (ms.length : Int) = ((sgT ms.length t q : Nat) : Int) := by
      rw [show (q : Int) - t + (ms.length : Int) = ((q + ms.length - t : Nat) : Int) from by omega, ← sgT_mod htl hq]
      rfl
    rw [e2]
    exact in_ok (by omega) (by omega) (hNN _ (hsg q hq) ((hto q hq).2 h))
def arlinklaw22_ClosureMonotone.f (k : Nat) : Option Bool := some true
theorem closureMonotone_ev : Ev (fun k => arlinklaw22_ClosureMonotone.f k) true := Ev.now _
theorem arlinklaw22_ClosureMonotone.calls (k : Nat) (A0 : Option Addr) (c0 : Nat) (os : List S50) (A1 : Option Addr) (c1 : Nat) (ms : List S50) (AS : Option Addr) (cS : Nat) (AB : Option Addr) (cB : Nat) (x : S50) (a3 : Int) (r : Bool) (w : World)
    (hr0 : Kd.C k50 w A0 os.length os) (hc0 : os.length ≤ c0) (hr1 : Kd.C k50 w A1 ms.length ms) (hc1 : ms.length ≤ c1) (hs : k55.C w AS x.f0.length x.f0) (hsc : x.f0.length ≤ cS) (hbo : (Kd.int .u8).C w AB x.f1.length x.f1) (hbc : x.f1.length ≤ cB)
    (h0 : 0 ≤ a3) (h1 : a3 ≤ 255) (h : arlinklaw22_ClosureMonotone.f k = some r) :
    Calls Try.prog 9 #[.slice A0 os.length c0, .slice A1 ms.length c1, .agg #[.slice AS x.f0.length cS, .slice AB x.f1.length cB], .int .u8 a3] w fun e w' => e = .returned (.bool r) ∧ Below w.heap.size w w' := by
  obtain rfl := Option.some.inj h
  obtain ⟨K, b0, b1, b2, hI, hG⟩ := mono_main os ms x a3 h0 h1
  exact mono_calls K A0 c0 os A1 c1 ms AS cS AB cB x a3 b0 b1 b2 w hr0 hc0 hr1 hc1 hs hsc hbo hbc hI hG
end Go.Proofs.Ythpjpkcfepmhkaa.PAll
