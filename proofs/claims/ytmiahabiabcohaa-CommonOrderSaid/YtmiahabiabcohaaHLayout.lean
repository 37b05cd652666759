import Derived.Test.YtmiahabiabcohaaHHeap3
import Derived.Test.YtmiahabiabcohaaHPlacer
import Derived.Test.YtmiahabiabcohaaBytes
namespace Go.Proofs.Ytmiahabiabcohaa.PAll
open Go.RowKit Go.Proofs.YtmiahabiabcohaaW.PrintWords Go.Proofs.YtmiahabiabcohaaW.PrintLast Go.Proofs.YtmiahabiabcohaaW.PrintMore
attribute [local go_sem] max2_int min2_int max_two min_two
set_option linter.unusedVariables false
set_option linter.unusedSimpArgs false

/-- The common ones. -/
def commons (l : List S40) : List S40 := l.filter fun x => x.f1 == 3
/-- What the heap hands back, one behind the other. -/
def drained : Nat → List S40 → List S40
  | 0, _ => []
  | k + 1, xs => if xs.length = 0 then [] else Hp.at_ z40 xs 0 :: drained k (Hp.pop z40 lessS xs)
def lay : List S40 → Int → Int → List S32 → List S32 × Int × Int
  | [], e, a, acc => (acc, e, a)
  | x :: r, e, a, acc => lay r (placed e x + x.f2) (mx a x.f3) (acc ++ [⟨x.f0, placed e x, x.f2⟩])
/-- Few, and those that are placed are of sizes and alignments within their bounds. -/
def fitting (l : List S40) : Bool := decide (l.length ≤ 100) && (commons l).all fun x => decide (0 ≤ x.f2) && decide (x.f2 ≤ 4294967295) && decide (1 ≤ x.f3) && decide (x.f3 ≤ 65536)
def common_Layout.f (l : List S40) : Option (List S32 × Int × Int) := if fitting l = true then some (lay (drained (commons l).length (Hp.init z40 lessS (commons l))) 0 1 []) else none

theorem commons_take_succ (l : List S40) (k : Nat) (h : k < l.length) : commons (l.take (k + 1)) = commons (l.take k) ++ if (Hp.at_ z40 l k).f1 == 3 then [Hp.at_ z40 l k] else [] := by
  unfold commons
  rw [List.take_succ_eq_append_getElem h, List.filter_append]
  congr 1
  simp [Hp.at_, List.getD_eq_getElem?_getD, List.getElem?_eq_getElem h, List.filter_cons]
theorem commons_le (l : List S40) (k : Nat) : (commons (l.take k)).length ≤ l.length := Nat.le_trans (List.length_filter_le _ _) (by rw [List.length_take]; omega)

def fits (x : S40) : Prop := 0 ≤ x.f2 ∧ x.f2 ≤ 4294967295 ∧ 1 ≤ x.f3 ∧ x.f3 ≤ 65536
/-- What holds at the head of Layout's second loop: kq symbols are still to be placed. -/
structure LayInv (kq : Nat) (ys : List S40) (e a : Int) (acc : List S32) (r : List S32 × Int × Int) : Prop where
  len : ys.length = kq
  few : acc.length + kq ≤ 100
  e0 : 0 ≤ e
  e1 : e ≤ 8589934592 * acc.length
  a0 : 1 ≤ a
  a1 : a ≤ 65536
  all : ∀ x, x ∈ ys → fits x
  heap : Hp.Heap z40 lessS ys kq 0
  res : lay (drained kq ys) e a acc = r
theorem lessS_true {a b : S40} : lessS a b = true ↔ b.f3 < a.f3 ∨ a.f3 = b.f3 ∧ (b.f2 < a.f2 ∨ a.f2 = b.f2 ∧ Op.bytesLess a.f0.toList b.f0.toList = true) := by
  unfold lessS
  by_cases h1 : a.f3 = b.f3
  · by_cases h2 : a.f2 = b.f2
    · simp [h1, h2]
    · simp [h1, h2]
  · simp [h1]
theorem lessS_false {a b : S40} : lessS a b = false ↔ a.f3 < b.f3 ∨ a.f3 = b.f3 ∧ (a.f2 < b.f2 ∨ a.f2 = b.f2 ∧ Op.bytesLess a.f0.toList b.f0.toList = false) := by
  unfold lessS
  by_cases h1 : a.f3 = b.f3
  · by_cases h2 : a.f2 = b.f2
    · simp [h1, h2]
    · simp [h1, h2]; omega
  · simp [h1]; omega
theorem lessS_ord : Hp.Ord lessS := by
  refine ⟨fun a b h => ?_, fun a b c h1 h2 => ?_⟩
  · rw [lessS_true] at h
    rw [lessS_false]
    rcases h with h | ⟨h, h' | ⟨h', h''⟩⟩
    · exact .inl h
    · exact .inr ⟨h.symm, .inl h'⟩
    · exact .inr ⟨h.symm, .inr ⟨h'.symm, Bytes.asym _ _ h''⟩⟩
  · rw [lessS_false] at h1 h2 ⊢
    rcases h1 with h1 | ⟨h1, h1' | ⟨h1', h1''⟩⟩ <;> rcases h2 with h2 | ⟨h2, h2' | ⟨h2', h2''⟩⟩
    all_goals first
      | exact .inl (by omega)
      | exact .inr ⟨by omega, .inl (by omega)⟩
      | exact .inr ⟨by omega, .inr ⟨by omega, Bytes.neg_trans _ _ _ h1'' h2''⟩⟩
theorem lay_start {l : List S40} {r : List S32 × Int × Int} (hf : fitting l = true) (h : common_Layout.f l = some r) : LayInv (commons l).length (Hp.init z40 lessS (commons l)) 0 1 [] r := by
  obtain ⟨h1, h2⟩ := Hp.init_spec (d := z40) lessS_ord (commons l)
  have hf' := hf
  unfold fitting at hf'
  simp only [Bool.and_eq_true, decide_eq_true_eq] at hf'
  have hr : lay (drained (commons l).length (Hp.init z40 lessS (commons l))) 0 1 [] = r := by
    unfold common_Layout.f at h
    rw [if_pos hf] at h
    exact Option.some.inj h
  refine ⟨h2.length_eq, ?_, by omega, by simp, by omega, by omega, ?_, h1, hr⟩
  · have := List.length_filter_le (fun x : S40 => x.f1 == 3) l
    have h3 : (commons l).length ≤ l.length := this
    simp only [List.length_nil]
    omega
  · intro x hx
    have hx' := h2.mem_iff.1 hx
    have := (List.all_eq_true.1 hf'.2) x hx'
    simp only [Bool.and_eq_true, decide_eq_true_eq] at this
    exact ⟨this.1.1.1, this.1.1.2, this.1.2, this.2⟩
theorem mx_cases {kq : Nat} {ys : List S40} {e a b m : Int} {acc : List S32} {r : List S32 × Int × Int} (h : LayInv kq ys e (mx a b) acc r) (hm : (m = a ∧ b ≤ a) ∨ (m = b ∧ a < b)) : LayInv kq ys e m acc r := by
  have : mx a b = m := by
    unfold mx
    split <;> omega
  rwa [this] at h

theorem info32 : (Try.prog.info? 32).map (fun i => (i.zero, i.size, i.bytes)) = some (some (.agg #[(.string ⟨#[]⟩), (.int .i64 0), (.int .i64 0)]), 3, 32) := by kernel_rfl
theorem k32_any (w : World) (base : Nat) (ok : Nat → Prop) (x : S32) : k32.M w base ok x [.string x.f0, .int .i64 x.f1, .int .i64 x.f2] := k32_mkM w base ok x
theorem at_mem {ys : List S40} (h : 0 < ys.length) : Hp.at_ z40 ys 0 ∈ ys := by
  unfold Hp.at_
  rw [List.getD_eq_getElem?_getD, List.getElem?_eq_getElem h]
  exact List.getElem_mem h
theorem placed_lo (e : Int) (x : S40) (he : 0 ≤ e) (ha : 1 ≤ x.f3) : e ≤ placed e x := by
  unfold placed
  have h1 := Int.mul_ediv_add_emod (e + x.f3 - 1) x.f3
  have h2 := Int.emod_lt_of_pos (e + x.f3 - 1) (show 0 < x.f3 by omega)
  rw [Int.mul_comm] at h1
  omega
theorem placed_hi (e : Int) (x : S40) (he : 0 ≤ e) (ha : 1 ≤ x.f3) : placed e x ≤ e + x.f3 - 1 := by
  unfold placed
  have h1 := Int.mul_ediv_add_emod (e + x.f3 - 1) x.f3
  have h2 := Int.emod_nonneg (e + x.f3 - 1) (show x.f3 ≠ 0 by omega)
  rw [Int.mul_comm] at h1
  omega
theorem lay_next {kq : Nat} {ys : List S40} {e a : Int} {acc : List S32} {r : List S32 × Int × Int} (h : LayInv (kq + 1) ys e a acc r) (hy : 0 < ys.length) :
    LayInv kq (Hp.pop z40 lessS ys) (placed e (Hp.at_ z40 ys 0) + (Hp.at_ z40 ys 0).f2) (mx a (Hp.at_ z40 ys 0).f3) (acc ++ [⟨(Hp.at_ z40 ys 0).f0, placed e (Hp.at_ z40 ys 0), (Hp.at_ z40 ys 0).f2⟩]) r := by
  obtain ⟨p1, p2, p3, p4⟩ := Hp.pop_spec (d := z40) lessS_ord ys (List.length_pos_iff.1 hy) (by rw [h.len]; exact h.heap)
  have hx := h.all _ (at_mem hy)
  have hlo := placed_lo e (Hp.at_ z40 ys 0) h.e0 hx.2.2.1
  have hhi := placed_hi e (Hp.at_ z40 ys 0) h.e0 hx.2.2.1
  obtain ⟨f1, f2, f3, f4⟩ := hx
  have e0 := h.e0
  have e1 := h.e1
  have a0 := h.a0
  have a1 := h.a1
  have hl := h.len
  have hfew := h.few
  refine ⟨by omega, by rw [List.length_append, List.length_singleton]; omega, by omega, by rw [List.length_append, List.length_singleton]; omega, ?_, ?_, ?_, ?_, ?_⟩
  · unfold mx; split <;> omega
  · unfold mx; split <;> omega
  · intro x hx
    exact h.all x (p1.mem_iff.2 (List.mem_cons_of_mem _ hx))
  · have := p3
    rw [h.len] at this
    exact this
  · have := h.res
    simp only [drained] at this
    rw [if_neg (by omega)] at this
    simpa only [lay] using this

theorem R_keep2 {α : Type} {d : Kd α} {e : Nat} {w w1 : World} {base : Nat} {ok : Nat → Prop} {v : Value} {xs : List α} {g tg tr : Nat} {cs : Array Value} {row : Option Nat} (h : d.R e w base ok v xs) (hk : KeepBut w w1 g row) (hg : w.heap[g]? = some (.cells cs tg (0, 0))) (ht : ∀ q, q ∈ e :: d.E → q ≠ tg) (hrow : ∀ b, row = some b → ∃ cs' : Array Value, w.heap[b]? = some (.cells cs' tr (0, 0))) (hr : ∀ q, q ∈ e :: d.E → q ≠ tr) : d.R e w1 base ok v xs := by
  refine Kd.R_mono (Kd.R_move (Kd.R_bound h) (fun k hk' => ?_)) (fun _ h' => h'.1)
  obtain ⟨_, _, hlt, q, hq, cells, hc⟩ := hk'
  refine hk.2 k hlt ?_ ?_
  · rintro rfl
    rw [hc] at hg
    injection hg with hg
    injection hg with _ hg
    exact ht q hq hg
  · intro e
    obtain ⟨cs', hc'⟩ := hrow k e.symm
    rw [hc] at hc'
    injection hc' with hc'
    injection hc' with _ hc'
    exact hr q hq hc'
theorem row_typed {α : Type} {d : Kd α} {e : Nat} {w : World} {base : Nat} {ok : Nat → Prop} {v : Value} {xs : List α} (h : d.R e w base ok v xs) : ∀ b, v.ownBlock = some b → ∃ cs' : Array Value, w.heap[b]? = some (.cells cs' e (0, 0)) := by
  obtain ⟨inner, ho⟩ := Kd.R_own h
  exact own_typed ho

def LayEnd (w : World) (r1 : List S32) (r2 r3 : Int) (e : Ending) (w' : World) : Prop := ∃ v0_ : Value, e = .returned (.tuple #[v0_, .int .i64 r2, .int .i64 r3]) ∧ Kd.R k32 32 w' w.heap.size (fun _ => True) v0_ r1 ∧ Below w.heap.size w w'

set_option maxHeartbeats 8000000 in
theorem common_Layout.calls0 (A0 : Option Addr) (c0 : Nat) (l0 : List S40) (r1 : List S32) (r2 : Int) (r3 : Int) (w : World) (hr0 : Kd.C k40 w A0 l0.length l0) (hc0 : l0.length ≤ c0) (h : common_Layout.f l0 = some (r1, r2, r3)) :
    Calls Try.prog 10 #[.slice A0 l0.length c0] w fun e w' => LayEnd w r1 r2 r3 e w' := by
  have hfit : fitting l0 = true := by
    unfold common_Layout.f at h
    split at h
    · assumption
    · cases h
  have hlen : l0.length ≤ 100 := by
    unfold fitting at hfit
    simp only [Bool.and_eq_true, decide_eq_true_eq] at hfit
    exact hfit.1
  have HF := Lib.hid hfit
  have H := Lib.hid h
  have HR0 := Lib.hid hr0
  clear hfit h hr0 hc0
  go_enter Try.func10, Try.ntmps10
  go_wp2
  go_loopg [14] l0.length (fun kq v14 w' => ∃ (k : Nat) (v : Value), v14 = .int .i64 k ∧ Aside0 (kq + k = l0.length) ∧ Aside0 (HS w' w.heap.size w.heap.size v (commons (l0.take k)) ∧ Below w.heap.size w w'))
  case atStart =>
    exact ⟨0, .slice none 0 0, rfl, ⟨by omega⟩, ⟨⟨heap_alloc_new w _, by simpa [commons] using Kd.R_nil _ _ _ _ _⟩, below_alloc (Below.refl _ _) _⟩⟩
  case round =>
    obtain ⟨k, v, rfl, HA, HW⟩ := hrel
    cases gk with
    | zero =>
      have hk : l0.length ≤ k := by have := HA.out; omega
      have hcm : commons (l0.take k) = commons l0 := by rw [List.take_of_length_le hk]
      have hcl : (commons l0).length ≤ 100 := Nat.le_trans (List.length_filter_le _ _) hlen
      have HW0 := Lib.hid HW.out
      rw [hcm] at HW0
      clear HW hcm HA
      go_wp2_with fail
      refine (init_calls w wr w.heap.size w.heap.size v (commons l0) HW0.out.1 HW0.out.2 HW0.out.2.size (by omega)).mono ?_
      rintro e w1 ⟨rfl, hi⟩
      have HI := Lib.hid hi
      clear hi
      have hsz1 := HI.out.2.1.size
      go_wp2_with fail
      refine (placer_calls w1).mono ?_
      rintro e w2 ⟨rfl, hw2⟩
      have hge2 : w2.heap[w1.heap.size]? = some (.cells #[.int .i64 0] 3 (0, 0)) := by rw [hw2]; exact heap_alloc_new _ _
      have hs2 : HS w2 w.heap.size w.heap.size v (Hp.init z40 lessS (commons l0)) := by rw [hw2]; exact HS_below HI.out.1 (below_alloc (Below.refl _ _) _)
      have hB2 : Below w.heap.size w w2 := by rw [hw2]; exact below_alloc HI.out.2.1 _
      have HW2 := Lib.hid (And.intro hs2 (And.intro hge2 hB2))
      clear hw2 hge2 hs2 hB2
      generalize w1.heap.size = ge at *
      obtain ⟨A, c, rfl⟩ := Kd.R_slice HW2.out.1.2
      have HST := Lib.hid (lay_start HF.out H.out)
      go_wp2_with fail
      go_loopg [2, 3, 4] (commons l0).length (fun kq v2 v3 v4 w' => ∃ (ys : List S40) (A : Option Addr) (c : Nat) (acc : List S32) (e a : Int), v3 = .int .i64 e ∧ v4 = .int .i64 a ∧ Aside0 (LayInv kq ys e a acc (r1, r2, r3)) ∧ Aside0 (HS w' w.heap.size w.heap.size (.slice A ys.length c) ys ∧ w'.heap[ge]? = some (.cells #[.int .i64 e] 3 (0, 0)) ∧ Kd.R k32 32 w' w.heap.size (fun _ => True) v2 acc ∧ Below w.heap.size w w'))
      case atStart => exact ⟨_, A, c, [], 0, 1, rfl, rfl, ⟨HST.out⟩, ⟨HW2.out.1, HW2.out.2.1, Kd.R_nil _ _ _ _ _, HW2.out.2.2⟩⟩
      case round =>
        obtain ⟨ys, A, c, acc, e, a, rfl, rfl, HV, HU⟩ := hrel
        have hyl := HV.out.len
        have hyl100 := HV.out.few
        have hcell := HS_cell HU.out.1
        cases gk with
        | zero =>
          have HLN := Lib.hid hyl
          have hys0 : ys.length ≤ 0 := by omega
          clear hyl
          go_wp2_with fail
          refine (len_calls A ys.length c _ (by omega)).mono ?_
          rintro e' w3 ⟨rfl, rfl⟩
          have hres : (acc, e, a) = (r1, r2, r3) := HV.out.res
          simp only [Prod.mk.injEq] at hres
          obtain ⟨rfl, rfl, rfl⟩ := hres
          go_wp2
          go_ret3
          exact ⟨_, rfl, HU.out.2.2.1, HU.out.2.2.2⟩
        | succ kq =>
          have hys0 : 0 < ys.length := by omega
          have hfx : fits (Hp.at_ z40 ys 0) := HV.out.all _ (at_mem hys0)
          have HN := Lib.hid (lay_next HV.out hys0)
          have HLN := Lib.hid hyl
          have he0 := HV.out.e0
          have he1 : e ≤ 858993459200 := by have := HV.out.e1; have := HV.out.few; omega
          have hplo := placed_lo e (Hp.at_ z40 ys 0) he0 hfx.2.2.1
          have hphi := placed_hi e (Hp.at_ z40 ys 0) he0 hfx.2.2.1
          obtain ⟨hf1, hf2, hf3, hf4⟩ := hfx
          have hacc := HV.out.few
          have hbsz : w.heap.size ≤ wr.heap.size := HU.out.2.2.2.size
          have hy100 : ys.length ≤ 100 := by omega
          clear hyl
          go_wp2_with fail
          refine (len_calls A ys.length c _ (by omega)).mono ?_
          rintro e' w3 ⟨rfl, rfl⟩
          go_wp2_with fail
          refine (pop_calls w wr w.heap.size w.heap.size A c ys HU.out.1 HU.out.2.2.2 hbsz (Nat.le_refl _) hys0 (by omega)).mono ?_
          rintro e' w4 ⟨rfl, hp4⟩
          have HP4 := Lib.hid hp4
          have hge4 : w4.heap[ge]? = some (.cells #[.int .i64 e] 3 (0, 0)) := hp4.2.2.blk HU.out.2.1 (blk_ne HU.out.2.1 HU.out.1.1 (by decide)) (Kd.R_ne HU.out.1.2 HU.out.2.1 (by decide))
          have hR4 := R_keep2 HU.out.2.2.1 hp4.2.2 HU.out.1.1 (by decide) (row_typed HU.out.1.2) (by decide)
          have HGE4 := Lib.hid hge4
          have HR4 := Lib.hid hR4
          clear hp4 hge4 hR4
          unfold agg40
          have hta : ∀ (v : Value) (W : World), (Instr.typeAssert (.iface 40 v) 20 40 true).run Try.prog W = .ok (.tuple #[v, .bool true]) W := fun v W => by rfl
          generalize Hp.at_ z40 ys 0 = x at *
          have hsz4 := HP4.out.2.2.1
          go_wp2_with fail
          refine (placer1_calls w (w4.alloc (.cells #[.string x.f0, .int .i64 x.f1, .int .i64 x.f2, .int .i64 x.f3, .int .i64 x.f4] 40)) w.heap.size ge e x (blk_alloc HGE4.out _) (below_alloc HP4.out.2.1 _) (below_size (below_alloc HP4.out.2.1 _)) (by omega) he0 (by omega) hf3 hf4 hf1 hf2 (by omega) (by omega)).mono ?_
          rintro e' w5 ⟨rfl, hge5, hk5, hB5⟩
          have hx5 : w5.heap[w4.heap.size]? = some (.cells #[.string x.f0, .int .i64 x.f1, .int .i64 x.f2, .int .i64 x.f3, .int .i64 x.f4] 40 (0, 0)) := hk5.blk (heap_alloc_new w4 _) (by have := blk_lt HGE4.out; omega) (by simp)
          have hR5 := R_keep2 (Kd.R_alloc HR4.out _) hk5 (blk_alloc HGE4.out _) (by decide) (tr := 0) (fun _ h => by cases h) (by decide)
          have hs5 : HS w5 w.heap.size w.heap.size (.slice A (ys.length - 1) c) (Hp.pop z40 lessS ys) :=
            ⟨hk5.blk (blk_alloc HP4.out.1.1 _) (blk_ne HP4.out.1.1 HGE4.out (by decide)) (by simp), R_keep2 (Kd.R_alloc HP4.out.1.2 _) hk5 (blk_alloc HGE4.out _) (by decide) (tr := 0) (fun _ h => by cases h) (by decide)⟩
          have hx5c : ∀ i, w5.cell? ⟨w4.heap.size, i, none⟩ = #[.string x.f0, .int .i64 x.f1, .int .i64 x.f2, .int .i64 x.f3, .int .i64 x.f4][i]? := fun i => blk_cell hx5 i
          have hx5l := blk_lt hx5
          have HS5 := Lib.hid hs5
          have HR5 := Lib.hid hR5
          have HGE5 := Lib.hid hge5
          have HB5 := Lib.hid hB5
          have hb5z := below_size hB5
          have HX5 := Lib.hid hx5
          clear hx5 hR5 hs5 hge5 hk5 hB5 hta hx5c
          go_wp2_with (first | (at_builtin; go_must (refine Kd.R_append k32 (w0 := w) w.heap.size rfl (.tmp 41) (.tmp 43) 25 32 (.agg #[(.string ⟨#[]⟩), (.int .i64 0), (.int .i64 0)]) 32 rfl Try.underlying25 info32 rfl (by decide) (by decide) u2 acc (⟨x.f0, placed e x, x.f2⟩ : S32) [.string x.f0, .int .i64 (placed e x), .int .i64 x.f2] (fun _ => True) (fun _ => False) rfl ?aX ?aP (fun _ hk => hk.elim) ?aF ?aO ?aB ?aS ?aL ?_; (case aX => go_simp); (case aP => exact k32_any _ _ _ ⟨x.f0, placed e x, x.f2⟩); (case aF => exact fun _ _ => trivial); (case aO => exact Kd.R_alloc HR5.out _); (case aB => exact below_alloc HB5.out _); (case aS => exact below_size (below_alloc HB5.out _)); (case aL => omega); intro v1 w6 ho hb hg hat; have HAP := Lib.hid (And.intro ho hb); have hs6 : HS w6 w.heap.size w.heap.size (.slice A (ys.length - 1) c) (Hp.pop z40 lessS ys) := ⟨blk_grown (blk_alloc HS5.out.1 _) hg (Kd.R_ne HR5.out HS5.out.1 (by decide)), Kd.R_over (Kd.R_alloc HS5.out.2 _) (Kd.R_alloc HR5.out _) (by decide) hg⟩; have HS6 := Lib.hid hs6; have HGE6 := Lib.hid (blk_grown (blk_alloc HGE5.out _) hg (Kd.R_ne HR5.out HGE5.out (by decide))); have hx6 := blk_grown (blk_alloc HX5.out _) hg (Kd.R_ne HR5.out HX5.out (by decide)); have hy6 := blk_grown (heap_alloc_new w5 _) hg (Kd.fresh_ok HR5.out _ (Nat.le_refl _)); have hx6c := blk_cell hx6 3; have hy6c := blk_cell hy6 1; have hy6d := blk_cell hy6 2; simp only [List.getElem?_toArray, List.getElem?_cons_succ, List.getElem?_cons_zero] at hx6c hy6c hy6d; clear ho hb hg hat hs6 hx6 hy6)))
          have hpl : ys.length - 1 = (Hp.pop z40 lessS ys).length := by have := HN.out.len; have := HLN.out; omega
          have HPL := Lib.hid hpl
          clear hpl
          go_region
          all_goals go_wp2
          all_goals
            go_roundg kq
            case measure => omega
            case rel =>
              refine ⟨Hp.pop z40 lessS ys, A, c, acc ++ [⟨x.f0, placed e x, x.f2⟩], _, _, rfl, rfl, ⟨?_⟩, ⟨?_⟩⟩
              · exact mx_cases HN.out (by omega)
              · exact ⟨by rw [← HPL.out]; exact HS_below HS6.out (below_drew (Below.refl _ _)), blk_drew HGE6.out, Kd.R_drew HAP.out.1, below_drew HAP.out.2⟩
    | succ kq =>
      have hk : k < l0.length := by have := HA.out; omega
      obtain ⟨ad, rfl, hx0, hx1, hx2, hx3, hx4⟩ := at_T40 HR0.out (k : Int) (Int.natCast_nonneg _) (by omega)
      have hB := HW.out.2
      replace hx0 := (hB.cell (World.block_lt_of_cell? w _ hx0)).trans hx0
      replace hx1 := (hB.cell (World.block_lt_of_cell? w _ hx1)).trans hx1
      replace hx2 := (hB.cell (World.block_lt_of_cell? w _ hx2)).trans hx2
      replace hx3 := (hB.cell (World.block_lt_of_cell? w _ hx3)).trans hx3
      replace hx4 := (hB.cell (World.block_lt_of_cell? w _ hx4)).trans hx4
      simp only [Int.toNat_natCast] at hx0 hx1 hx2 hx3 hx4
      have hrd : rd_T40 l0 k = Hp.at_ z40 l0 k := rfl
      have hgc := HS_cell HW.out.1
      have hgz := (cell_of_blk HW.out.1.1).2
      have hgl := blk_lt HW.out.1.1
      rw [hrd] at hx0 hx1 hx2 hx3 hx4
      have HC := Lib.hid (commons_take_succ l0 k hk)
      clear hB hrd
      generalize Hp.at_ z40 l0 k = x at *
      cases hbind : (x.f1 == 3) with
      | false =>
        have hcm : commons (l0.take (k + 1)) = commons (l0.take k) := by rw [HC.out, hbind]; simp
        have HCM := Lib.hid hcm
        clear hcm
        go_wp2
        go_roundg kq
        case measure => omega
        case rel => exact ⟨k + 1, v, by go_num, ⟨by have := HA.out; omega⟩, ⟨by rw [HCM.out]; exact HS_below HW.out.1 (below_alloc (Below.refl _ _) _), below_alloc HW.out.2 _⟩⟩
      | true =>
        have hcm : commons (l0.take (k + 1)) = commons (l0.take k) ++ [x] := by rw [HC.out, hbind]; simp
        have HCM := Lib.hid hcm
        have hcl := commons_le l0 k
        clear hcm
        generalize commons (l0.take k) = xs at *
        go_wp2_with (first | (at_builtin; go_must (refine Kd.R_append k40 (w0 := w) w.heap.size rfl (.tmp 21) (.tmp 23) 43 40 (.agg #[(.string ⟨#[]⟩), (.int .i64 0), (.int .i64 0), (.int .i64 0), (.int .i64 0)]) 48 rfl Try.underlying43 info40 rfl (by decide) (by decide) v xs x [.string x.f0, .int .i64 x.f1, .int .i64 x.f2, .int .i64 x.f3, .int .i64 x.f4] (fun _ => True) (fun _ => False) rfl ?aX ?aP (fun _ hk => hk.elim) ?aF ?aO ?aB ?aS ?aL ?_; (case aX => go_simp); (case aP => exact k40_any _ _ _ x); (case aF => exact fun _ _ => trivial); (case aO => exact Kd.R_alloc HW.out.1.2 _); (case aB => exact below_alloc HW.out.2 _); (case aS => exact below_size (below_alloc HW.out.2 _)); (case aL => omega); intro v1 w1 ho hb hg hat; obtain ⟨A1, c1, rfl⟩ := Kd.R_slice ho; have HAP := Lib.hid (And.intro ho (And.intro hb hg)); have hg1 := blk_grown (blk_alloc HW.out.1.1 _) hg (Kd.R_ne HW.out.1.2 HW.out.1.1 (by decide)); have hg1c := (cell_of_blk hg1).1; have hg1z := (cell_of_blk hg1).2; have hg1l := blk_lt hg1; have HG1 := Lib.hid hg1; clear ho hb hg hat hg1)))
        go_roundg kq
        case measure => omega
        case rel =>
          obtain ⟨ho, hb, hg⟩ := HAP.out
          simp only [List.length_append, List.length_singleton] at ho
          refine ⟨k + 1, .slice A1 (xs.length + 1) c1, by go_num, ⟨by have := HA.out; omega⟩, ⟨?_, hb.setCell (Nat.le_refl _) _⟩⟩
          rw [HCM.out]
          exact ⟨one_setCell HG1.out, Kd.R_set ho HG1.out (by decide) 0 _⟩

theorem common_Layout.calls (A0 : Option Addr) (c0 : Nat) (l0 : List S40) (r1 : List S32) (r2 : Int) (r3 : Int) (w : World) (hr0 : Kd.C k40 w A0 l0.length l0) (hc0 : l0.length ≤ c0) (h : common_Layout.f l0 = some (r1, r2, r3)) :
    Calls Try.prog 10 #[.slice A0 l0.length c0] w fun e w' => ∃ v0_ : Value, e = .returned (.tuple #[v0_, .int .i64 r2, .int .i64 r3]) ∧ Kd.R k32 32 w' w.heap.size (fun _ => True) v0_ r1 ∧ Below w.heap.size w w' :=
  (common_Layout.calls0 A0 c0 l0 r1 r2 r3 w hr0 hc0 h).mono fun e w' h => h
end Go.Proofs.Ytmiahabiabcohaa.PAll
