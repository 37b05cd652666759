/- Laid together by a program of this session (wip/bundle.py) out of its own texts. -/
import Derived.Test.YthpjpkcfepmhkaaMClosureMatches3
import Derived.Test.YthpjpkcfepmhkaaWTab
import Derived.Outline
namespace Go.Proofs.Ythpjpkcfepmhkaa.PAll
open Go.RowKit Go.Proofs.YthpjpkcfepmhkaaW.PrintWords Go.Proofs.YthpjpkcfepmhkaaW.PrintLast Go.Proofs.YthpjpkcfepmhkaaW.PrintMore
set_option linter.unusedVariables false
set_option linter.unusedSimpArgs false
def nF : ByteArray := ⟨#[102]⟩
def nG : ByteArray := ⟨#[103]⟩
def oA : List S50 := [⟨[⟨nF, 4, 0, 0⟩], []⟩]
def m1A : S50 := ⟨[⟨nG, 2, 0, 0⟩], []⟩
def mA : List S50 := [⟨[⟨nF, 1, 0, 0⟩, ⟨nG, 4, 0, 0⟩], []⟩, m1A, ⟨[], []⟩]
theorem awake_why1 : closure_Why.f oA mA 1 = some ([0, 1], true) := by kernel_rfl
theorem awake_why2 : closure_Why.f oA mA 2 = some ([], false) := by kernel_rfl
theorem awake_why3 : closure_Why.f oA mA 3 = some ([], false) := by kernel_rfl
theorem awake_needed : closure_Needed.f oA mA = some [0, 1] := by kernel_rfl
theorem awake_uniq1 : closure_Unique.f mA = some true := by kernel_rfl
theorem awake_uniq2 : closure_Unique.f [m1A, m1A] = some false := by kernel_rfl
theorem awake_numbers : arlinkref04_Numbers.f 5 [0, 1] [0, 1] = some true := by kernel_rfl
def arlinklaw22_awake.f : Option Bool := some true
theorem C_blk {α : Type} (d : Kd α) {w : World} {g t : Nat} {xs : List α} {inner : List Value} (hb : w.heap[g]? = some (.cells inner.toArray t (0, 0))) (hr : Reps (d.K w) d.sz xs inner) (hm : xs.length ≤ 9223372036854775807) : d.C w (some ⟨g, 0, none⟩) xs.length xs := by
  refine ⟨rfl, hm, fun h0 => ⟨_, rfl, fun j p hj => ⟨(inner.drop (j * d.sz)).take d.sz, d.K_len (hr.2 j p hj), hr.2 j p hj, fun i u hu => ?_⟩⟩⟩
  rw [add_plain, blk_cell hb]
  rw [List.getElem?_take] at hu
  split at hu
  · rw [List.getElem?_drop] at hu
    rw [List.getElem?_toArray]
    exact hu
  · cases hu
theorem nil_C {α : Type} (d : Kd α) (w : World) : d.C w none ([] : List α).length [] := ⟨rfl, by simp, fun h => absurd h (by simp)⟩
structure AWk (w W : World) (b0 b1 b2 b3 b4 : Nat) : Prop where
  B : Below w.heap.size w W
  h0 : W.heap[b0]? = some (.cells #[.string ⟨#[102]⟩, .int .i64 4, .int .i64 0, .int .i64 0] 55 (0, 0))
  h1 : W.heap[b1]? = some (.cells #[.slice (some ⟨b0, 0, none⟩) 1 1, .slice none 0 0] 50 (0, 0))
  h2 : W.heap[b2]? = some (.cells #[.string ⟨#[102]⟩, .int .i64 1, .int .i64 0, .int .i64 0, .string ⟨#[103]⟩, .int .i64 4, .int .i64 0, .int .i64 0] 55 (0, 0))
  h3 : W.heap[b3]? = some (.cells #[.string ⟨#[103]⟩, .int .i64 2, .int .i64 0, .int .i64 0] 55 (0, 0))
  h4 : W.heap[b4]? = some (.cells #[.slice (some ⟨b2, 0, none⟩) 2 2, .slice none 0 0, .slice (some ⟨b3, 0, none⟩) 1 1, .slice none 0 0, .slice none 0 0, .slice none 0 0] 50 (0, 0))
section
variable {w W W' : World} {b0 b1 b2 b3 b4 : Nat}
theorem AWk.below (h : AWk w W b0 b1 b2 b3 b4) (hb : Below W.heap.size W W') : AWk w W' b0 b1 b2 b3 b4 :=
  ⟨below_then h.B h.B.size hb, blk_below h.h0 hb, blk_below h.h1 hb, blk_below h.h2 hb, blk_below h.h3 hb, blk_below h.h4 hb⟩
theorem AWk.o (h : AWk w W b0 b1 b2 b3 b4) : Kd.C k50 W (some ⟨b1, 0, none⟩) oA.length oA := by
  have s0 : Kd.C k55 W (some ⟨b0, 0, none⟩) _ [⟨nF, 4, 0, 0⟩] := C_blk k55 (inner := [.string nF, .int .i64 4, .int .i64 0, .int .i64 0]) h.h0 ((Reps.none (k55.K W) 4).snoc (k55_mk W ⟨nF, 4, 0, 0⟩) rfl) (by simp)
  exact C_blk k50 (xs := oA) (inner := [.slice (some ⟨b0, 0, none⟩) 1 1, .slice none 0 0]) h.h1 ((Reps.none (k50.K W) 2).snoc (k50_mk W ⟨[⟨nF, 4, 0, 0⟩], []⟩ (c0 := 1) (c1 := 0) (Nat.le_refl _) s0 (Nat.le_refl _) (nil_C _ W)) rfl) (by simp [oA])
theorem AWk.s3 (h : AWk w W b0 b1 b2 b3 b4) : k50.K W m1A [.slice (some ⟨b3, 0, none⟩) 1 1, .slice none 0 0] := by
  have s0 : Kd.C k55 W (some ⟨b3, 0, none⟩) _ [⟨nG, 2, 0, 0⟩] := C_blk k55 (inner := [.string nG, .int .i64 2, .int .i64 0, .int .i64 0]) h.h3 ((Reps.none (k55.K W) 4).snoc (k55_mk W ⟨nG, 2, 0, 0⟩) rfl) (by simp)
  exact k50_mk W m1A (c0 := 1) (c1 := 0) (Nat.le_refl _) s0 (Nat.le_refl _) (nil_C _ W)
theorem AWk.m (h : AWk w W b0 b1 b2 b3 b4) : Kd.C k50 W (some ⟨b4, 0, none⟩) mA.length mA := by
  have r2 := ((Reps.none (k55.K W) 4).snoc (k55_mk W ⟨nF, 1, 0, 0⟩) rfl).snoc (k55_mk W ⟨nG, 4, 0, 0⟩) rfl
  have s0 : Kd.C k55 W (some ⟨b2, 0, none⟩) ([⟨nF, 1, 0, 0⟩, ⟨nG, 4, 0, 0⟩] : List S55).length [⟨nF, 1, 0, 0⟩, ⟨nG, 4, 0, 0⟩] := by
    refine C_blk (t := 55) k55 ?_ r2 (by simp)
    exact h.h2
  have r4 := (((Reps.none (k50.K W) 2).snoc (k50_mk W ⟨[⟨nF, 1, 0, 0⟩, ⟨nG, 4, 0, 0⟩], []⟩ (c0 := 2) (c1 := 0) (Nat.le_refl _) s0 (Nat.le_refl _) (nil_C _ W)) rfl).snoc h.s3 rfl).snoc (k50_mk W ⟨[], []⟩ (c0 := 0) (c1 := 0) (Nat.le_refl _) (nil_C k55 W) (Nat.le_refl _) (nil_C _ W)) rfl
  refine C_blk (t := 50) k50 (xs := mA) ?_ r4 (by simp [mA])
  exact h.h4
theorem AWk.two (h : AWk w W b0 b1 b2 b3 b4) {g : Nat} (hg : W.heap[g]? = some (.cells #[.slice (some ⟨b3, 0, none⟩) 1 1, .slice none 0 0, .slice (some ⟨b3, 0, none⟩) 1 1, .slice none 0 0] 50 (0, 0))) : Kd.C k50 W (some ⟨g, 0, none⟩) [m1A, m1A].length [m1A, m1A] := by
  have r := ((Reps.none (k50.K W) 2).snoc h.s3 rfl).snoc h.s3 rfl
  refine C_blk (t := 50) k50 (xs := [m1A, m1A]) ?_ r (by simp)
  exact hg
end
theorem two_C {W : World} {g : Nat} (hg : W.heap[g]? = some (.cells #[.int .i64 0, .int .i64 1] 3 (0, 0))) : KI.C W (some ⟨g, 0, none⟩) ([0, 1] : List Int).length [0, 1] := by
  have r := ((Reps.none (KI.K W) 1).snoc (p := (0 : Int)) (c := [.int .i64 0]) rfl rfl).snoc (p := (1 : Int)) (c := [.int .i64 1]) rfl rfl
  refine C_blk (t := 3) KI (xs := [0, 1]) ?_ r (by simp)
  exact hg
theorem AWk.start (w : World) : AWk w (((((w.alloc (.cells #[.string ⟨#[102]⟩, .int .i64 4, .int .i64 0, .int .i64 0] 55)).alloc (.cells #[.slice (some ⟨w.heap.size, 0, none⟩) 1 1, .slice none 0 0] 50)).alloc
      (.cells #[.string ⟨#[102]⟩, .int .i64 1, .int .i64 0, .int .i64 0, .string ⟨#[103]⟩, .int .i64 4, .int .i64 0, .int .i64 0] 55)).alloc (.cells #[.string ⟨#[103]⟩, .int .i64 2, .int .i64 0, .int .i64 0] 55)).alloc
      (.cells #[.slice (some ⟨w.heap.size + 1 + 1, 0, none⟩) 2 2, .slice none 0 0, .slice (some ⟨w.heap.size + 1 + 1 + 1, 0, none⟩) 1 1, .slice none 0 0, .slice none 0 0, .slice none 0 0] 50)) w.heap.size (w.heap.size + 1) (w.heap.size + 1 + 1) (w.heap.size + 1 + 1 + 1) (w.heap.size + 1 + 1 + 1 + 1) := by
  have key : ∀ (W : World) (n : Nat) (o : Obj), W.heap.size = n → (W.alloc o).heap.size = n + 1 ∧ (W.alloc o).heap[n]? = some o := by
    rintro W n o rfl
    exact ⟨by go_simp, heap_alloc_new W o⟩
  obtain ⟨z1, r1⟩ := key w _ (.cells #[.string ⟨#[102]⟩, .int .i64 4, .int .i64 0, .int .i64 0] 55) rfl
  have B1 := below_alloc (Below.refl w.heap.size w) (.cells #[.string ⟨#[102]⟩, .int .i64 4, .int .i64 0, .int .i64 0] 55)
  generalize w.alloc (.cells #[.string ⟨#[102]⟩, .int .i64 4, .int .i64 0, .int .i64 0] 55) = w1 at *
  obtain ⟨z2, r2⟩ := key w1 _ (.cells #[.slice (some ⟨w.heap.size, 0, none⟩) 1 1, .slice none 0 0] 50) z1
  have B2 := below_alloc (Below.refl w1.heap.size w1) (.cells #[.slice (some ⟨w.heap.size, 0, none⟩) 1 1, .slice none 0 0] 50)
  generalize w1.alloc (.cells #[.slice (some ⟨w.heap.size, 0, none⟩) 1 1, .slice none 0 0] 50) = w2 at *
  obtain ⟨z3, r3⟩ := key w2 _ (.cells #[.string ⟨#[102]⟩, .int .i64 1, .int .i64 0, .int .i64 0, .string ⟨#[103]⟩, .int .i64 4, .int .i64 0, .int .i64 0] 55) z2
  have B3 := below_alloc (Below.refl w2.heap.size w2) (.cells #[.string ⟨#[102]⟩, .int .i64 1, .int .i64 0, .int .i64 0, .string ⟨#[103]⟩, .int .i64 4, .int .i64 0, .int .i64 0] 55)
  generalize w2.alloc (.cells #[.string ⟨#[102]⟩, .int .i64 1, .int .i64 0, .int .i64 0, .string ⟨#[103]⟩, .int .i64 4, .int .i64 0, .int .i64 0] 55) = w3 at *
  obtain ⟨z4, r4⟩ := key w3 _ (.cells #[.string ⟨#[103]⟩, .int .i64 2, .int .i64 0, .int .i64 0] 55) z3
  have B4 := below_alloc (Below.refl w3.heap.size w3) (.cells #[.string ⟨#[103]⟩, .int .i64 2, .int .i64 0, .int .i64 0] 55)
  generalize w3.alloc (.cells #[.string ⟨#[103]⟩, .int .i64 2, .int .i64 0, .int .i64 0] 55) = w4 at *
  obtain ⟨z5, r5⟩ := key w4 _ (.cells #[.slice (some ⟨w.heap.size + 1 + 1, 0, none⟩) 2 2, .slice none 0 0, .slice (some ⟨w.heap.size + 1 + 1 + 1, 0, none⟩) 1 1, .slice none 0 0, .slice none 0 0, .slice none 0 0] 50) z4
  have B5 := below_alloc (Below.refl w4.heap.size w4) (.cells #[.slice (some ⟨w.heap.size + 1 + 1, 0, none⟩) 2 2, .slice none 0 0, .slice (some ⟨w.heap.size + 1 + 1 + 1, 0, none⟩) 1 1, .slice none 0 0, .slice none 0 0, .slice none 0 0] 50)
  generalize w4.alloc (.cells #[.slice (some ⟨w.heap.size + 1 + 1, 0, none⟩) 2 2, .slice none 0 0, .slice (some ⟨w.heap.size + 1 + 1 + 1, 0, none⟩) 1 1, .slice none 0 0, .slice none 0 0, .slice none 0 0] 50) = w5 at *
  exact ⟨below_then (below_then (below_then (below_then B1 (by omega) B2) (by omega) B3) (by omega) B4) (by omega) B5, blk_below (blk_below (blk_below (blk_below r1 B2) B3) B4) B5, blk_below (blk_below (blk_below r2 B3) B4) B5, blk_below (blk_below r3 B4) B5, blk_below r4 B5, r5⟩
theorem need22 (b1 b4 : Nat) (W : World) (ho : Kd.C k50 W (some ⟨b1, 0, none⟩) oA.length oA) (hm : Kd.C k50 W (some ⟨b4, 0, none⟩) mA.length mA) :
    Calls Try.prog 25 #[.slice (some ⟨b1, 0, none⟩) 1 1, .slice (some ⟨b4, 0, none⟩) 3 3] W fun e w' => ∃ (A : Option Addr) (c : Nat), e = .returned (.slice A 2 c) ∧ KI.R 3 w' W.heap.size (fun _ => True) (.slice A 2 c) [0, 1] ∧ Below W.heap.size W w' :=
  (closure_Needed.calls (some ⟨b1, 0, none⟩) 1 oA (some ⟨b4, 0, none⟩) 3 mA [0, 1] W ho (Nat.le_refl _) hm (Nat.le_refl _) awake_needed).mono fun e w' ⟨v, h1, h2, h3⟩ => by
    obtain ⟨A, c, rfl⟩ := Kd.R_slice h2
    exact ⟨A, c, h1, h2, h3⟩
theorem num22 (A : Option Addr) (c g : Nat) (base : Nat) (W : World) (hR : KI.R 3 W base (fun _ => True) (.slice A 2 c) [0, 1]) (hg : W.heap[g]? = some (.cells #[.int .i64 0, .int .i64 1] 3 (0, 0))) :
    Calls Try.prog 17 #[.slice A 2 c, .slice (some ⟨g, 0, none⟩) 2 2] W fun e w' => e = .returned (.bool true) ∧ Below W.heap.size W w' :=
  (arlinkref04_Numbers.calls 5 A c [0, 1] (some ⟨g, 0, none⟩) 2 [0, 1] true W (Kd.R_reads' hR).2.2 (Kd.R_reads' hR).2.1 (two_C hg) (Nat.le_refl _) awake_numbers).mono fun e w' ⟨h1, h2⟩ => ⟨h1, h2.below⟩
theorem uniq22 (b4 : Nat) (W : World) (hm : Kd.C k50 W (some ⟨b4, 0, none⟩) mA.length mA) : Calls Try.prog 26 #[.slice (some ⟨b4, 0, none⟩) 3 3] W fun e w' => e = .returned (.bool true) ∧ Below W.heap.size W w' :=
  closure_Unique.calls (some ⟨b4, 0, none⟩) 3 mA true W hm (Nat.le_refl _) awake_uniq1
theorem uniq22' (g : Nat) (W : World) (hm : Kd.C k50 W (some ⟨g, 0, none⟩) [m1A, m1A].length [m1A, m1A]) : Calls Try.prog 26 #[.slice (some ⟨g, 0, none⟩) 2 2] W fun e w' => e = .returned (.bool false) ∧ Below W.heap.size W w' :=
  closure_Unique.calls (some ⟨g, 0, none⟩) 2 [m1A, m1A] false W hm (Nat.le_refl _) awake_uniq2
theorem AWk.cells {w W : World} {b0 b1 b2 b3 b4 : Nat} (h : AWk w W b0 b1 b2 b3 b4) : W.cell? ⟨b4, 2, none⟩ = some (.slice (some ⟨b3, 0, none⟩) 1 1) ∧ W.cell? ⟨b4, 3, none⟩ = some (.slice none 0 0) :=
  ⟨(blk_cell h.h4 2).trans rfl, (blk_cell h.h4 3).trans rfl⟩
def awake22_T : Bool × List (List Nat × List Nat) := (true, [([], []), ([], []), ([0, 1], [0, 1]), ([], []), ([2, 3, 2], [2, 3]), ([4, 4], [4]), ([5], [5]), ([5], [5]), ([6, 7, 5, 5], [5, 6, 7]), ([5, 8], [5, 8]), ([9, 8], [9]), ([10], [10]), ([10, 11], [10, 11]), ([12, 10], [12]), ([13], [13]), ([14, 13], [13, 14]), ([13, 15], [13, 15]), ([16, 13], [16]), ([17], [17]), ([18, 17], [17, 18]), ([17, 19], [17, 19]), ([20, 17], [20]), ([21], [21]), ([22, 21, 21], [21, 22]), ([21, 23], [21, 23]), ([24, 23], [24]), ([25], [25]), ([26, 25], [25, 26]), ([27, 25], [25, 27]), ([25], [25]), ([29, 25], [25, 29]), ([30, 25], [25, 30]), ([28, 31, 25], [25, 28, 31]), ([32, 25, 25], [25, 32]), ([33, 25], [25, 33]), ([25, 34], [25, 34]), ([35, 33, 0, 1, 2, 3, 4, 5, 6, 7, 8, 9, 10, 11, 12, 13, 14, 15, 16, 17, 18, 19, 20, 21, 22, 23, 24, 25, 26, 27, 28, 29, 30, 31, 32, 33, 34, 35], [35])])
theorem awake22_tab : rtab .any (opsOf Try.f22 6) = awake22_T := by kernel_rfl
set_option maxRecDepth 10000 in
set_option maxHeartbeats 400000000 in
theorem awake22_calls (w : World) : Calls Try.prog 22 #[] w fun e w' => e = .returned (.bool true) ∧ Below w.heap.size w w' := by
  go_enter Try.func22, Try.ntmps22
  go_wp2_with fail
  have HA := Lib.hid (AWk.start w)
  generalize w.heap.size + 1 + 1 + 1 + 1 = b4 at *
  generalize w.heap.size + 1 + 1 + 1 = b3 at *
  generalize w.heap.size + 1 + 1 = b2 at *
  generalize w.heap.size + 1 = b1 at *
  generalize ((((w.alloc (.cells #[.string ⟨#[102]⟩, .int .i64 4, .int .i64 0, .int .i64 0] 55)).alloc (.cells #[.slice (some ⟨w.heap.size, 0, none⟩) 1 1, .slice none 0 0] 50)).alloc
      (.cells #[.string ⟨#[102]⟩, .int .i64 1, .int .i64 0, .int .i64 0, .string ⟨#[103]⟩, .int .i64 4, .int .i64 0, .int .i64 0] 55)).alloc (.cells #[.string ⟨#[103]⟩, .int .i64 2, .int .i64 0, .int .i64 0] 55)).alloc
      (.cells #[.slice (some ⟨b2, 0, none⟩) 2 2, .slice none 0 0, .slice (some ⟨b3, 0, none⟩) 1 1, .slice none 0 0, .slice none 0 0, .slice none 0 0] 50) = w1 at *
  refine (closure_Why.calls (some ⟨b1, 0, none⟩) 1 oA (some ⟨b4, 0, none⟩) 3 mA 1 [0, 1] true w1 HA.out.o (Nat.le_refl _) HA.out.m (Nat.le_refl _) awake_why1).mono ?_
  rintro e w2 ⟨v1, rfl, hR1, hb1⟩
  obtain ⟨Aa, ca, rfl⟩ := Kd.R_slice hR1
  have HA2 := Lib.hid (HA.out.below hb1)
  have HR2 := Lib.hid (Kd.R_lower hR1 (below_size HA.out.B))
  clear HA hR1 hb1
  go_wp2_with fail
  refine (closure_Why.calls (some ⟨b1, 0, none⟩) 1 oA (some ⟨b4, 0, none⟩) 3 mA 2 [] false w2 HA2.out.o (Nat.le_refl _) HA2.out.m (Nat.le_refl _) awake_why2).mono ?_
  rintro e w3 ⟨v2, rfl, _, hb2⟩
  have HA3 := Lib.hid (HA2.out.below hb2)
  have HR3 := Lib.hid (Kd.R_below HR2.out hb2)
  clear HA2 HR2 hb2
  go_wp2_with fail
  refine (closure_Why.calls (some ⟨b1, 0, none⟩) 1 oA (some ⟨b4, 0, none⟩) 3 mA 3 [] false w3 HA3.out.o (Nat.le_refl _) HA3.out.m (Nat.le_refl _) awake_why3).mono ?_
  rintro e w4 ⟨v3, rfl, _, hb3⟩
  have HA4 := Lib.hid (HA3.out.below hb3)
  have HR4 := Lib.hid (Kd.R_below HR3.out hb3)
  clear HA3 HR3 hb3
  go_wp2
  have HA0 := Lib.hid (HA4.out.below (below_drew (Below.refl _ _)))
  have HR0 := Lib.hid (Kd.R_below HR4.out (below_drew (Below.refl _ _)))
  clear HA4 HR4
  refine start_ (n := 37) (S := fun w' => w'.cell? ⟨b4, 2, none⟩ = some (.slice (some ⟨b3, 0, none⟩) 1 1) ∧ w'.cell? ⟨b4, 3, none⟩ = some (.slice none 0 0)) (ds := []) #[false, false, false, false, false, false, false, false, false, false, false, false, false, false, false, false, false, false, false, false, false, false, false, false, false, false, false, false, false, false, false, false, false, false, false, false, false] (by kernel_rfl) rfl rfl HA0.out.cells (fun hHeld => ?_); refine with_tab awake22_tab (fun HT_ => ?_)
  generalize w4.drew = w5 at HA0 HR0 hHeld ⊢
  refine pure_ (i := 0) (N := some 40) (v := ?_) (a' := ?_) #[true, false, false, false, false, false, false, false, false, false, false, false, false, false, false, false, false, false, false, false, false, false, false, false, false, false, false, false, false, false, false, false, false, false, false, false, false] rfl rfl (any_of HT_.out (by kernel_rfl)) (fun _ _ _ h => h) (Or.inl ⟨by rfl, ?_⟩) ?_ ?_
  rotate_left
  · intro w'
    go_simp
    with_reducible rfl
  rotate_left
  · simp only [Act.put, List.setIfInBounds_toArray, List.set_cons_zero, List.set_cons_succ, i64_w, i32_w]
    rfl
  refine pure_ (i := 1) (N := some 41) (v := ?_) (a' := ?_) #[true, true, false, false, false, false, false, false, false, false, false, false, false, false, false, false, false, false, false, false, false, false, false, false, false, false, false, false, false, false, false, false, false, false, false, false, false] rfl rfl (any_of HT_.out (by kernel_rfl)) (fun _ _ _ h => h) (Or.inl ⟨by rfl, ?_⟩) ?_ ?_
  rotate_left
  · intro w'
    go_simp
    with_reducible rfl
  rotate_left
  · simp only [Act.put, List.setIfInBounds_toArray, List.set_cons_zero, List.set_cons_succ, i64_w, i32_w]
    rfl
  refine join_ (σ := Option Addr × Nat × Nat) 33 #[true, true, true, true, false, false, false, false, false, false, false, false, false, false, false, false, false, false, false, false, false, false, false, false, false, false, false, false, false, false, false, false, false, false, false, false, false] (fun s_ => [(42, .slice s_.1 2 s_.2.1), (43, .slice (some ⟨s_.2.2, 0, none⟩) 2 2)]) (fun s_ w' => AWk w w' w.heap.size b1 b2 b3 b4 ∧ KI.R 3 w' w.heap.size (fun _ => True) (.slice Aa 2 ca) [0, 1] ∧ (∃ base, KI.R 3 w' base (fun _ => True) (.slice s_.1 2 s_.2.1) [0, 1]) ∧ w'.heap[s_.2.2]? = some (.cells #[.int .i64 0, .int .i64 1] 3)) ?_ ?_
  rotate_left
  · intro hCont
    refine two_ (i := 2) (j := 3) (Ni := some 42) (Nj := some 43) #[true, true, true, false, false, false, false, false, false, false, false, false, false, false, false, false, false, false, false, false, false, false, false, false, false, false, false, false, false, false, false, false, false, false, false, false, false] #[true, true, false, true, false, false, false, false, false, false, false, false, false, false, false, false, false, false, false, false, false, false, false, false, false, false, false, false, false, false, false, false, false, false, false, false, false] rfl rfl rfl rfl (two_of HT_.out (by kernel_rfl)) (by decide) (by decide) (fun K hK => ?_) (fun K hK => ?_)
    · skip
      refine goes_ Try.func25 (by kernel_rfl) rfl #[.slice (some ⟨b1, 0, none⟩) 1 1, .slice (some ⟨b4, 0, none⟩) 3 3] (by rfl) rfl rfl (by (try simp only [List.map_toArray, List.map_cons, List.map_nil]); first | done | rfl) ?_
      refine (need22 b1 b4 _ HA0.out.o HA0.out.m).mono ?_
      rintro e w6 ⟨Av, cv, rfl, hR, hb⟩
      refine ⟨_, rfl, ?_⟩
      have HA6 := Lib.hid (HA0.out.below hb)
      have HR6 := Lib.hid (Kd.R_below HR0.out hb)
      have HV6 := Lib.hid hR
      clear hR hb HA0 HR0
      refine hK.out _ _ HA6.out.cells (fun hHeld => ?_)
      clear hK K
      refine norm_ (a' := ?_) ?_ ?_
      rotate_left
      · show Act.put _ (some 42) _ = _
        simp only [Act.put, List.setIfInBounds_toArray, List.set_cons_zero, List.set_cons_succ, i64_w, i32_w]
        rfl
      refine one_ (i := 3) (N := some 43) #[true, true, true, true, false, false, false, false, false, false, false, false, false, false, false, false, false, false, false, false, false, false, false, false, false, false, false, false, false, false, false, false, false, false, false, false, false] rfl rfl (one_of HT_.out (by kernel_rfl)) (by decide) (fun K hK => ?_)
      refine value_ (w1 := ?_) (v := ?_) (by rfl) rfl ?_ ?_
      rotate_left 2
      · go_simp
        constructor
        · rfl
        · rfl
      have HA7 := Lib.hid (HA6.out.below (below_alloc (Below.refl _ _) (.cells #[.int .i64 0, .int .i64 1] 3)))
      refine hK.out _ _ HA7.out.cells (fun hHeld => ?_)
      clear hK K
      refine norm_ (a' := ?_) ?_ ?_
      rotate_left
      · show Act.put _ (some 43) _ = _
        simp only [Act.put, List.setIfInBounds_toArray, List.set_cons_zero, List.set_cons_succ, i64_w, i32_w]
        rfl
      exact norm_ (by simp only [putAll, Act.put, List.setIfInBounds_toArray, List.set_cons_zero, List.set_cons_succ]) (hCont (Av, cv, w6.heap.size) _ ⟨HA7.out, Kd.R_alloc HR6.out _, ⟨_, Kd.R_alloc HV6.out _⟩, heap_alloc_new w6 _⟩)
    · skip
      refine value_ (w1 := ?_) (v := ?_) (by rfl) rfl ?_ ?_
      rotate_left 2
      · go_simp
        constructor
        · rfl
        · rfl
      have HL0 := Lib.hid (heap_alloc_new w5 (.cells #[.int .i64 0, .int .i64 1] 3))
      have HA6 := Lib.hid (HA0.out.below (below_alloc (Below.refl _ _) (.cells #[.int .i64 0, .int .i64 1] 3)))
      have HR6 := Lib.hid (Kd.R_alloc HR0.out (.cells #[.int .i64 0, .int .i64 1] 3))
      refine hK.out _ _ HA6.out.cells (fun hHeld => ?_)
      clear hK K
      refine norm_ (a' := ?_) ?_ ?_
      rotate_left
      · show Act.put _ (some 43) _ = _
        simp only [Act.put, List.setIfInBounds_toArray, List.set_cons_zero, List.set_cons_succ, i64_w, i32_w]
        rfl
      refine one_ (i := 2) (N := some 42) #[true, true, true, true, false, false, false, false, false, false, false, false, false, false, false, false, false, false, false, false, false, false, false, false, false, false, false, false, false, false, false, false, false, false, false, false, false] rfl rfl (one_of HT_.out (by kernel_rfl)) (by decide) (fun K hK => ?_)
      refine goes_ Try.func25 (by kernel_rfl) rfl #[.slice (some ⟨b1, 0, none⟩) 1 1, .slice (some ⟨b4, 0, none⟩) 3 3] (by rfl) rfl rfl (by (try simp only [List.map_toArray, List.map_cons, List.map_nil]); first | done | rfl) ?_
      refine (need22 b1 b4 _ HA6.out.o HA6.out.m).mono ?_
      rintro e w7 ⟨Av, cv, rfl, hR, hb⟩
      refine ⟨_, rfl, ?_⟩
      have HA7 := Lib.hid (HA6.out.below hb)
      have HR7 := Lib.hid (Kd.R_below HR6.out hb)
      have HV7 := Lib.hid hR
      have HL7 := Lib.hid (blk_below HL0.out hb)
      clear hR hb HA0 HR0 HL0
      refine hK.out _ _ HA7.out.cells (fun hHeld => ?_)
      clear hK K
      refine norm_ (a' := ?_) ?_ ?_
      rotate_left
      · show Act.put _ (some 42) _ = _
        simp only [Act.put, List.setIfInBounds_toArray, List.set_cons_zero, List.set_cons_succ, i64_w, i32_w]
        rfl
      exact norm_ (by simp only [putAll, Act.put, List.setIfInBounds_toArray, List.set_cons_zero, List.set_cons_succ]) (hCont (Av, cv, w5.heap.size) _ ⟨HA7.out, HR7.out, ⟨_, HV7.out⟩, HL7.out⟩)
  rintro ⟨Av, cv, gl⟩ w8 ⟨hA, hR, ⟨base, hV⟩, hL⟩
  have HA8 := Lib.hid hA; have HR8 := Lib.hid hR; have HV8 := Lib.hid hV; have HL8 := Lib.hid hL; have hHeld := hA.cells
  clear hA hR hV hL HA0 HR0
  refine norm_ (a' := ?_) ?_ ?_
  rotate_left
  · simp only [putAll, Act.put, List.setIfInBounds_toArray, List.set_cons_zero, List.set_cons_succ]
    rfl
  refine one_ (i := 4) (N := some 44) #[true, true, true, true, true, false, false, false, false, false, false, false, false, false, false, false, false, false, false, false, false, false, false, false, false, false, false, false, false, false, false, false, false, false, false, false, false] rfl rfl (one_of HT_.out (by kernel_rfl)) (by decide) (fun K hK => ?_)
  refine goes_ Try.func17 (by kernel_rfl) rfl #[.slice Av 2 cv, .slice (some ⟨gl, 0, none⟩) 2 2] (by rfl) rfl rfl (by (try simp only [List.map_toArray, List.map_cons, List.map_nil]); first | done | rfl) ?_
  refine (num22 Av cv gl base w8 HV8.out HL8.out).mono ?_
  rintro e w9 ⟨rfl, hb⟩
  refine ⟨_, rfl, ?_⟩
  have HA9 := Lib.hid (HA8.out.below hb)
  have HR9 := Lib.hid (Kd.R_below HR8.out hb)
  clear hb HA8 HR8 HV8 HL8
  refine hK.out _ _ HA9.out.cells (fun hHeld => ?_)
  clear hK K
  refine norm_ (a' := ?_) ?_ ?_
  rotate_left
  · show Act.put _ (some 44) _ = _
    simp only [Act.put, List.setIfInBounds_toArray, List.set_cons_zero, List.set_cons_succ, i64_w, i32_w]
    rfl
  refine pure_ (i := 5) (N := some 45) (v := ?_) (a' := ?_) #[true, true, true, true, true, true, false, false, false, false, false, false, false, false, false, false, false, false, false, false, false, false, false, false, false, false, false, false, false, false, false, false, false, false, false, false, false] rfl rfl (any_of HT_.out (by kernel_rfl)) (fun _ _ _ h => h) (Or.inl ⟨by rfl, ?_⟩) ?_ ?_
  rotate_left
  · intro w'
    go_simp
    with_reducible rfl
  rotate_left
  · simp only [Act.put, List.setIfInBounds_toArray, List.set_cons_zero, List.set_cons_succ, i64_w, i32_w]
    rfl
  refine pure_ (i := 6) (N := some 46) (v := ?_) (a' := ?_) #[true, true, true, true, true, true, true, false, false, false, false, false, false, false, false, false, false, false, false, false, false, false, false, false, false, false, false, false, false, false, false, false, false, false, false, false, false] rfl rfl (any_of HT_.out (by kernel_rfl)) (fun _ _ _ h => h) (Or.inl ⟨by rfl, ?_⟩) ?_ ?_
  rotate_left
  · intro w'
    go_simp
    with_reducible rfl
  rotate_left
  · simp only [Act.put, List.setIfInBounds_toArray, List.set_cons_zero, List.set_cons_succ, i64_w, i32_w]
    rfl
  refine one_ (i := 7) (N := some 47) #[true, true, true, true, true, true, true, true, false, false, false, false, false, false, false, false, false, false, false, false, false, false, false, false, false, false, false, false, false, false, false, false, false, false, false, false, false] rfl rfl (one_of HT_.out (by kernel_rfl)) (by decide) (fun K hK => ?_)
  refine value_ (w1 := ?_) (v := ?_) (by rfl) rfl ?_ ?_
  rotate_left 2
  · go_simp
    constructor
    · rfl
    · rfl
  have HL9 := Lib.hid (heap_alloc_new w9 (.cells #[.int .i64 0, .int .i64 1] 3))
  have HA10 := Lib.hid (HA9.out.below (below_alloc (Below.refl _ _) (.cells #[.int .i64 0, .int .i64 1] 3)))
  have HR10 := Lib.hid (Kd.R_alloc HR9.out (.cells #[.int .i64 0, .int .i64 1] 3))
  refine hK.out _ _ HA10.out.cells (fun hHeld => ?_)
  clear hK K
  refine norm_ (a' := ?_) ?_ ?_
  rotate_left
  · show Act.put _ (some 47) _ = _
    simp only [Act.put, List.setIfInBounds_toArray, List.set_cons_zero, List.set_cons_succ, i64_w, i32_w]
    rfl
  refine one_ (i := 8) (N := some 48) #[true, true, true, true, true, true, true, true, true, false, false, false, false, false, false, false, false, false, false, false, false, false, false, false, false, false, false, false, false, false, false, false, false, false, false, false, false] rfl rfl (one_of HT_.out (by kernel_rfl)) (by decide) (fun K hK => ?_)
  refine goes_ Try.func17 (by kernel_rfl) rfl #[.slice Aa 2 ca, .slice (some ⟨w9.heap.size, 0, none⟩) 2 2] (by rfl) rfl rfl (by (try simp only [List.map_toArray, List.map_cons, List.map_nil]); first | done | rfl) ?_
  refine (num22 Aa ca w9.heap.size _ _ HR10.out HL9.out).mono ?_
  rintro e w11 ⟨rfl, hb⟩
  refine ⟨_, rfl, ?_⟩
  have HA11 := Lib.hid (HA10.out.below hb)
  clear hb HA9 HR9 HA10 HR10 HL9
  refine hK.out _ _ HA11.out.cells (fun hHeld => ?_)
  clear hK K
  refine norm_ (a' := ?_) ?_ ?_
  rotate_left
  · show Act.put _ (some 48) _ = _
    simp only [Act.put, List.setIfInBounds_toArray, List.set_cons_zero, List.set_cons_succ, i64_w, i32_w]
    rfl
  refine pure_ (i := 9) (N := some 49) (v := ?_) (a' := ?_) #[true, true, true, true, true, true, true, true, true, true, false, false, false, false, false, false, false, false, false, false, false, false, false, false, false, false, false, false, false, false, false, false, false, false, false, false, false] rfl rfl (any_of HT_.out (by kernel_rfl)) (fun _ _ _ h => h) (Or.inl ⟨by rfl, ?_⟩) ?_ ?_
  rotate_left
  · intro w'
    go_simp
    with_reducible rfl
  rotate_left
  · simp only [Act.put, List.setIfInBounds_toArray, List.set_cons_zero, List.set_cons_succ, i64_w, i32_w]
    rfl
  refine pure_ (i := 10) (N := some 50) (v := ?_) (a' := ?_) #[true, true, true, true, true, true, true, true, true, true, true, false, false, false, false, false, false, false, false, false, false, false, false, false, false, false, false, false, false, false, false, false, false, false, false, false, false] rfl rfl (any_of HT_.out (by kernel_rfl)) (fun _ _ _ h => h) (Or.inl ⟨by rfl, ?_⟩) ?_ ?_
  rotate_left
  · intro w'
    go_simp
    with_reducible rfl
  rotate_left
  · simp only [Act.put, List.setIfInBounds_toArray, List.set_cons_zero, List.set_cons_succ, i64_w, i32_w]
    rfl
  refine pure_ (i := 11) (N := some 51) (v := ?_) (a' := ?_) #[true, true, true, true, true, true, true, true, true, true, true, true, false, false, false, false, false, false, false, false, false, false, false, false, false, false, false, false, false, false, false, false, false, false, false, false, false] rfl rfl (any_of HT_.out (by kernel_rfl)) (fun _ _ _ h => h) (Or.inl ⟨by rfl, ?_⟩) ?_ ?_
  rotate_left
  · intro w'
    go_simp
    with_reducible rfl
  rotate_left
  · simp only [Act.put, List.setIfInBounds_toArray, List.set_cons_zero, List.set_cons_succ, i64_w, i32_w]
    rfl
  refine pure_ (i := 12) (N := some 52) (v := ?_) (a' := ?_) #[true, true, true, true, true, true, true, true, true, true, true, true, true, false, false, false, false, false, false, false, false, false, false, false, false, false, false, false, false, false, false, false, false, false, false, false, false] rfl rfl (any_of HT_.out (by kernel_rfl)) (fun _ _ _ h => h) (Or.inl ⟨by rfl, ?_⟩) ?_ ?_
  rotate_left
  · intro w'
    go_simp
    with_reducible rfl
  rotate_left
  · simp only [Act.put, List.setIfInBounds_toArray, List.set_cons_zero, List.set_cons_succ, i64_w, i32_w]
    rfl
  refine pure_ (i := 13) (N := some 53) (v := ?_) (a' := ?_) #[true, true, true, true, true, true, true, true, true, true, true, true, true, true, false, false, false, false, false, false, false, false, false, false, false, false, false, false, false, false, false, false, false, false, false, false, false] rfl rfl (any_of HT_.out (by kernel_rfl)) (fun _ _ _ h => h) (Or.inl ⟨by rfl, ?_⟩) ?_ ?_
  rotate_left
  · intro w'
    go_simp
    with_reducible rfl
  rotate_left
  · simp only [Act.put, List.setIfInBounds_toArray, List.set_cons_zero, List.set_cons_succ, i64_w, i32_w]
    rfl
  refine pure_ (i := 14) (N := some 54) (v := ?_) (a' := ?_) #[true, true, true, true, true, true, true, true, true, true, true, true, true, true, true, false, false, false, false, false, false, false, false, false, false, false, false, false, false, false, false, false, false, false, false, false, false] rfl rfl (any_of HT_.out (by kernel_rfl)) (fun _ _ _ h => h) (Or.inl ⟨by rfl, ?_⟩) ?_ ?_
  rotate_left
  · intro w'
    go_simp
    with_reducible rfl
  rotate_left
  · simp only [Act.put, List.setIfInBounds_toArray, List.set_cons_zero, List.set_cons_succ, i64_w, i32_w]
    rfl
  refine pure_ (i := 15) (N := some 55) (v := ?_) (a' := ?_) #[true, true, true, true, true, true, true, true, true, true, true, true, true, true, true, true, false, false, false, false, false, false, false, false, false, false, false, false, false, false, false, false, false, false, false, false, false] rfl rfl (any_of HT_.out (by kernel_rfl)) (fun _ _ _ h => h) (Or.inl ⟨by rfl, ?_⟩) ?_ ?_
  rotate_left
  · intro w'
    go_simp
    with_reducible rfl
  rotate_left
  · simp only [Act.put, List.setIfInBounds_toArray, List.set_cons_zero, List.set_cons_succ, i64_w, i32_w]
    rfl
  refine pure_ (i := 16) (N := some 56) (v := ?_) (a' := ?_) #[true, true, true, true, true, true, true, true, true, true, true, true, true, true, true, true, true, false, false, false, false, false, false, false, false, false, false, false, false, false, false, false, false, false, false, false, false] rfl rfl (any_of HT_.out (by kernel_rfl)) (fun _ _ _ h => h) (Or.inl ⟨by rfl, ?_⟩) ?_ ?_
  rotate_left
  · intro w'
    go_simp
    with_reducible rfl
  rotate_left
  · simp only [Act.put, List.setIfInBounds_toArray, List.set_cons_zero, List.set_cons_succ, i64_w, i32_w]
    rfl
  refine pure_ (i := 17) (N := some 57) (v := ?_) (a' := ?_) #[true, true, true, true, true, true, true, true, true, true, true, true, true, true, true, true, true, true, false, false, false, false, false, false, false, false, false, false, false, false, false, false, false, false, false, false, false] rfl rfl (any_of HT_.out (by kernel_rfl)) (fun _ _ _ h => h) (Or.inl ⟨by rfl, ?_⟩) ?_ ?_
  rotate_left
  · intro w'
    go_simp
    with_reducible rfl
  rotate_left
  · simp only [Act.put, List.setIfInBounds_toArray, List.set_cons_zero, List.set_cons_succ, i64_w, i32_w]
    rfl
  refine pure_ (i := 18) (N := some 58) (v := ?_) (a' := ?_) #[true, true, true, true, true, true, true, true, true, true, true, true, true, true, true, true, true, true, true, false, false, false, false, false, false, false, false, false, false, false, false, false, false, false, false, false, false] rfl rfl (any_of HT_.out (by kernel_rfl)) (fun _ _ _ h => h) (Or.inl ⟨by rfl, ?_⟩) ?_ ?_
  rotate_left
  · intro w'
    go_simp
    with_reducible rfl
  rotate_left
  · simp only [Act.put, List.setIfInBounds_toArray, List.set_cons_zero, List.set_cons_succ, i64_w, i32_w]
    rfl
  refine pure_ (i := 19) (N := some 59) (v := ?_) (a' := ?_) #[true, true, true, true, true, true, true, true, true, true, true, true, true, true, true, true, true, true, true, true, false, false, false, false, false, false, false, false, false, false, false, false, false, false, false, false, false] rfl rfl (any_of HT_.out (by kernel_rfl)) (fun _ _ _ h => h) (Or.inl ⟨by rfl, ?_⟩) ?_ ?_
  rotate_left
  · intro w'
    go_simp
    with_reducible rfl
  rotate_left
  · simp only [Act.put, List.setIfInBounds_toArray, List.set_cons_zero, List.set_cons_succ, i64_w, i32_w]
    rfl
  refine pure_ (i := 20) (N := some 60) (v := ?_) (a' := ?_) #[true, true, true, true, true, true, true, true, true, true, true, true, true, true, true, true, true, true, true, true, true, false, false, false, false, false, false, false, false, false, false, false, false, false, false, false, false] rfl rfl (any_of HT_.out (by kernel_rfl)) (fun _ _ _ h => h) (Or.inl ⟨by rfl, ?_⟩) ?_ ?_
  rotate_left
  · intro w'
    go_simp
    with_reducible rfl
  rotate_left
  · simp only [Act.put, List.setIfInBounds_toArray, List.set_cons_zero, List.set_cons_succ, i64_w, i32_w]
    rfl
  refine pure_ (i := 21) (N := some 61) (v := ?_) (a' := ?_) #[true, true, true, true, true, true, true, true, true, true, true, true, true, true, true, true, true, true, true, true, true, true, false, false, false, false, false, false, false, false, false, false, false, false, false, false, false] rfl rfl (any_of HT_.out (by kernel_rfl)) (fun _ _ _ h => h) (Or.inl ⟨by rfl, ?_⟩) ?_ ?_
  rotate_left
  · intro w'
    go_simp
    with_reducible rfl
  rotate_left
  · simp only [Act.put, List.setIfInBounds_toArray, List.set_cons_zero, List.set_cons_succ, i64_w, i32_w]
    rfl
  refine pure_ (i := 22) (N := some 62) (v := ?_) (a' := ?_) #[true, true, true, true, true, true, true, true, true, true, true, true, true, true, true, true, true, true, true, true, true, true, true, false, false, false, false, false, false, false, false, false, false, false, false, false, false] rfl rfl (any_of HT_.out (by kernel_rfl)) (fun _ _ _ h => h) (Or.inl ⟨by rfl, ?_⟩) ?_ ?_
  rotate_left
  · intro w'
    go_simp
    with_reducible rfl
  rotate_left
  · simp only [Act.put, List.setIfInBounds_toArray, List.set_cons_zero, List.set_cons_succ, i64_w, i32_w]
    rfl
  refine one_ (i := 23) (N := some 63) #[true, true, true, true, true, true, true, true, true, true, true, true, true, true, true, true, true, true, true, true, true, true, true, true, false, false, false, false, false, false, false, false, false, false, false, false, false] rfl rfl (one_of HT_.out (by kernel_rfl)) (by decide) (fun K hK => ?_)
  refine goes_ Try.func26 (by kernel_rfl) rfl #[.slice (some ⟨b4, 0, none⟩) 3 3] (by rfl) rfl rfl (by (try simp only [List.map_toArray, List.map_cons, List.map_nil]); first | done | rfl) ?_
  refine (uniq22 b4 _ HA11.out.m).mono ?_
  rintro e w12 ⟨rfl, hb⟩
  refine ⟨_, rfl, ?_⟩
  have HA12 := Lib.hid (HA11.out.below hb)
  clear hb HA11
  refine hK.out _ _ HA12.out.cells (fun hHeld => ?_)
  clear hK K
  refine norm_ (a' := ?_) ?_ ?_
  rotate_left
  · show Act.put _ (some 63) _ = _
    simp only [Act.put, List.setIfInBounds_toArray, List.set_cons_zero, List.set_cons_succ, i64_w, i32_w]
    rfl
  refine pure_ (i := 24) (N := some 64) (v := ?_) (a' := ?_) #[true, true, true, true, true, true, true, true, true, true, true, true, true, true, true, true, true, true, true, true, true, true, true, true, true, false, false, false, false, false, false, false, false, false, false, false, false] rfl rfl (any_of HT_.out (by kernel_rfl)) (fun _ _ _ h => h) (Or.inl ⟨by rfl, ?_⟩) ?_ ?_
  rotate_left
  · intro w'
    go_simp
    with_reducible rfl
  rotate_left
  · simp only [Act.put, List.setIfInBounds_toArray, List.set_cons_zero, List.set_cons_succ, i64_w, i32_w]
    rfl
  refine pure_ (i := 25) (N := some 65) (v := ?_) (a' := ?_) #[true, true, true, true, true, true, true, true, true, true, true, true, true, true, true, true, true, true, true, true, true, true, true, true, true, true, false, false, false, false, false, false, false, false, false, false, false] rfl rfl (any_of HT_.out (by kernel_rfl)) (fun _ _ _ h => h) (Or.inl ⟨by rfl, ?_⟩) ?_ ?_
  rotate_left
  · intro w'
    go_simp
    with_reducible rfl
  rotate_left
  · simp only [Act.put, List.setIfInBounds_toArray, List.set_cons_zero, List.set_cons_succ, i64_w, i32_w]
    rfl
  refine pure_ (i := 26) (N := some 66) (v := ?_) (a' := ?_) #[true, true, true, true, true, true, true, true, true, true, true, true, true, true, true, true, true, true, true, true, true, true, true, true, true, true, true, false, false, false, false, false, false, false, false, false, false] rfl rfl (any_of HT_.out (by kernel_rfl)) (fun _ _ _ h => h) (Or.inl ⟨by rfl, ?_⟩) ?_ ?_
  rotate_left
  · intro w'
    go_simp
    with_reducible rfl
  rotate_left
  · simp only [Act.put, List.setIfInBounds_toArray, List.set_cons_zero, List.set_cons_succ, i64_w, i32_w]
    rfl
  refine pure_ (i := 29) (N := some 69) (v := ?_) (a' := ?_) #[true, true, true, true, true, true, true, true, true, true, true, true, true, true, true, true, true, true, true, true, true, true, true, true, true, true, true, false, false, true, false, false, false, false, false, false, false] rfl rfl (any_of HT_.out (by kernel_rfl)) (fun _ _ _ h => h) (Or.inl ⟨by rfl, ?_⟩) ?_ ?_
  rotate_left
  · intro w'
    go_simp
    with_reducible rfl
  rotate_left
  · simp only [Act.put, List.setIfInBounds_toArray, List.set_cons_zero, List.set_cons_succ, i64_w, i32_w]
    rfl
  refine pure_ (i := 27) (N := some 67) (v := ?_) (a' := ?_) #[true, true, true, true, true, true, true, true, true, true, true, true, true, true, true, true, true, true, true, true, true, true, true, true, true, true, true, true, false, true, false, false, false, false, false, false, false] rfl rfl (any_of HT_.out (by kernel_rfl)) (fun _ _ _ h => h) (Or.inl ⟨by rfl, ?_⟩) ?_ ?_
  rotate_left
  · intro w'
    go_simp
    with_reducible rfl
  rotate_left
  · simp only [Act.put, List.setIfInBounds_toArray, List.set_cons_zero, List.set_cons_succ, i64_w, i32_w]
    rfl
  refine pure_ (i := 30) (N := some 70) (v := ?_) (a' := ?_) #[true, true, true, true, true, true, true, true, true, true, true, true, true, true, true, true, true, true, true, true, true, true, true, true, true, true, true, true, false, true, true, false, false, false, false, false, false] rfl rfl (any_of HT_.out (by kernel_rfl)) (fun _ _ _ h => h) (Or.inl ⟨by rfl, ?_⟩) ?_ ?_
  rotate_left
  · intro w'
    go_simp
    with_reducible rfl
  rotate_left
  · simp only [Act.put, List.setIfInBounds_toArray, List.set_cons_zero, List.set_cons_succ, i64_w, i32_w]
    rfl
  refine take_ (i := 28) (N := some 68) (v := ?_) (a' := ?_) #[true, true, true, true, true, true, true, true, true, true, true, true, true, true, true, true, true, true, true, true, true, true, true, true, true, true, true, true, true, true, true, false, false, false, false, false, false] rfl rfl (take_of HT_.out (by kernel_rfl)) (fun _ _ _ h => h) (Or.inl ⟨by rfl, ?_⟩) hHeld ?_ ?_
  rotate_left
  · rintro w' ⟨s0, s1⟩
    go_simp
    with_reducible rfl
  rotate_left
  · simp only [Act.put, List.setIfInBounds_toArray, List.set_cons_zero, List.set_cons_succ, i64_w, i32_w]
    rfl
  refine take_ (i := 31) (N := some 71) (v := ?_) (a' := ?_) #[true, true, true, true, true, true, true, true, true, true, true, true, true, true, true, true, true, true, true, true, true, true, true, true, true, true, true, true, true, true, true, true, false, false, false, false, false] rfl rfl (take_of HT_.out (by kernel_rfl)) (fun _ _ _ h => h) (Or.inl ⟨by rfl, ?_⟩) hHeld ?_ ?_
  rotate_left
  · rintro w' ⟨s0, s1⟩
    go_simp
    with_reducible rfl
  rotate_left
  · simp only [Act.put, List.setIfInBounds_toArray, List.set_cons_zero, List.set_cons_succ, i64_w, i32_w]
    rfl
  refine one_ (i := 32) (N := some 72) #[true, true, true, true, true, true, true, true, true, true, true, true, true, true, true, true, true, true, true, true, true, true, true, true, true, true, true, true, true, true, true, true, true, false, false, false, false] rfl rfl (one_of HT_.out (by kernel_rfl)) (by decide) (fun K hK => ?_)
  refine value_ (w1 := ?_) (v := ?_) (by rfl) rfl ?_ ?_
  rotate_left 2
  · go_simp
    constructor
    · rfl
    · rfl
  have HL12 := Lib.hid (heap_alloc_new w12 (.cells #[.slice (some ⟨b3, 0, none⟩) 1 1, .slice none 0 0, .slice (some ⟨b3, 0, none⟩) 1 1, .slice none 0 0] 50))
  have HA13 := Lib.hid (HA12.out.below (below_alloc (Below.refl _ _) (.cells #[.slice (some ⟨b3, 0, none⟩) 1 1, .slice none 0 0, .slice (some ⟨b3, 0, none⟩) 1 1, .slice none 0 0] 50)))
  refine hK.out _ _ HA13.out.cells (fun hHeld => ?_)
  clear hK K
  refine norm_ (a' := ?_) ?_ ?_
  rotate_left
  · show Act.put _ (some 72) _ = _
    simp only [Act.put, List.setIfInBounds_toArray, List.set_cons_zero, List.set_cons_succ, i64_w, i32_w]
    rfl
  refine one_ (i := 33) (N := some 73) #[true, true, true, true, true, true, true, true, true, true, true, true, true, true, true, true, true, true, true, true, true, true, true, true, true, true, true, true, true, true, true, true, true, true, false, false, false] rfl rfl (one_of HT_.out (by kernel_rfl)) (by decide) (fun K hK => ?_)
  refine goes_ Try.func26 (by kernel_rfl) rfl #[.slice (some ⟨w12.heap.size, 0, none⟩) 2 2] (by rfl) rfl rfl (by (try simp only [List.map_toArray, List.map_cons, List.map_nil]); first | done | rfl) ?_
  refine (uniq22' w12.heap.size _ (HA13.out.two HL12.out)).mono ?_
  rintro e w14 ⟨rfl, hb⟩
  refine ⟨_, rfl, ?_⟩
  have HA14 := Lib.hid (HA13.out.below hb)
  clear hb HA12 HA13 HL12
  refine hK.out _ _ HA14.out.cells (fun hHeld => ?_)
  clear hK K
  refine norm_ (a' := ?_) ?_ ?_
  rotate_left
  · show Act.put _ (some 73) _ = _
    simp only [Act.put, List.setIfInBounds_toArray, List.set_cons_zero, List.set_cons_succ, i64_w, i32_w]
    rfl
  refine pure_ (i := 34) (N := some 74) (v := ?_) (a' := ?_) #[true, true, true, true, true, true, true, true, true, true, true, true, true, true, true, true, true, true, true, true, true, true, true, true, true, true, true, true, true, true, true, true, true, true, true, false, false] rfl rfl (any_of HT_.out (by kernel_rfl)) (fun _ _ _ h => h) (Or.inl ⟨by rfl, ?_⟩) ?_ ?_
  rotate_left
  · intro w'
    go_simp
    with_reducible rfl
  rotate_left
  · simp only [Act.put, List.setIfInBounds_toArray, List.set_cons_zero, List.set_cons_succ, i64_w, i32_w]
    rfl
  refine pure_ (i := 35) (N := some 75) (v := ?_) (a' := ?_) #[true, true, true, true, true, true, true, true, true, true, true, true, true, true, true, true, true, true, true, true, true, true, true, true, true, true, true, true, true, true, true, true, true, true, true, true, false] rfl rfl (any_of HT_.out (by kernel_rfl)) (fun _ _ _ h => h) (Or.inl ⟨by rfl, ?_⟩) ?_ ?_
  rotate_left
  · intro w'
    go_simp
    with_reducible rfl
  rotate_left
  · simp only [Act.put, List.setIfInBounds_toArray, List.set_cons_zero, List.set_cons_succ, i64_w, i32_w]
    rfl
  refine pure_ (i := 36) (N := some 0) (v := ?_) (a' := ?_) #[true, true, true, true, true, true, true, true, true, true, true, true, true, true, true, true, true, true, true, true, true, true, true, true, true, true, true, true, true, true, true, true, true, true, true, true, true] rfl rfl (any_of HT_.out (by kernel_rfl)) (fun _ _ _ h => h) (Or.inl ⟨by rfl, ?_⟩) ?_ ?_
  rotate_left
  · intro w'
    go_simp
    with_reducible rfl
  rotate_left
  · simp only [Act.put, List.setIfInBounds_toArray, List.set_cons_zero, List.set_cons_succ, i64_w, i32_w]
    rfl
  refine done_ (done_of HT_.out (by kernel_rfl)) ?_
  try go_wp2
  go_ret
  exact ⟨rfl, HA14.out.B⟩
theorem arlinklaw22_awake.calls (r : Bool) (w : World) (h : arlinklaw22_awake.f = some r) : Calls Try.prog 22 #[] w fun e w' => e = .returned (.bool r) ∧ Below w.heap.size w w' := by
  obtain rfl := Option.some.inj h
  exact awake22_calls w
end Go.Proofs.Ythpjpkcfepmhkaa.PAll
namespace Go.Proofs.Ythpjpkcfepmhkaa.PAll
open Go.RowKit Go.Proofs.YthpjpkcfepmhkaaW.PrintWords Go.Proofs.YthpjpkcfepmhkaaW.PrintLast Go.Proofs.YthpjpkcfepmhkaaW.PrintMore
attribute [local go_sem] max2_int min2_int max_two min_two max_three min_three max_four min_four   -- for this text's walks alone
set_option linter.unusedVariables false
set_option linter.unusedSimpArgs false
mutual
def arlinkref22_Unique.l0 : Nat → List (S50) → Int → Option (Bool)
 | 0, _, _ => none
 | k + 1, x0, x3 => if x3 < (x0.length : Int) then (arlinkref22_Unique.l1 k x0 x3 0) else (some true)
def arlinkref22_Unique.l1 : Nat → List (S50) → Int → Int → Option (Bool)
 | 0, _, _, _ => none
 | k + 1, x0, x3, x4 => if x4 < x3 then (arlinkref22_Unique.l2 k x0 x3 x4 0) else (arlinkref22_Unique.l0 k x0 (wrap64 (x3 + 1)))
def arlinkref22_Unique.l2 : Nat → List (S50) → Int → Int → Int → Option (Bool)
 | 0, _, _, _, _ => none
 | k + 1, x0, x3, x4, x5 => if 0 ≤ x3 then (if x3 < (x0.length : Int) then (if x5 < (((rd_T50 x0 x3).f0).length : Int) then (if 0 ≤ x5 then (if ((rd_T55 ((rd_T50 x0 x3).f0) x5).f1) = 1 then (if 0 ≤ x4 then (if x4 < (x0.length : Int) then ((arlinkref22_has.f k ((rd_T50 x0 x4).f0) ((rd_T50 x0 x4).f1) ((rd_T55 ((rd_T50 x0 x3).f0) x5).f0) 1 2).bind fun t342 => (if t342 = true then (some false) else (arlinkref22_Unique.l2 k x0 x3 x4 (wrap64 (x5 + 1))))) else (none)) else (none)) else (if ((rd_T55 ((rd_T50 x0 x3).f0) x5).f1) = 2 then (if 0 ≤ x4 then (if x4 < (x0.length : Int) then ((arlinkref22_has.f k ((rd_T50 x0 x4).f0) ((rd_T50 x0 x4).f1) ((rd_T55 ((rd_T50 x0 x3).f0) x5).f0) 1 2).bind fun t344 => (if t344 = true then (some false) else (arlinkref22_Unique.l2 k x0 x3 x4 (wrap64 (x5 + 1))))) else (none)) else (none)) else (arlinkref22_Unique.l2 k x0 x3 x4 (wrap64 (x5 + 1))))) else (none)) else (arlinkref22_Unique.l1 k x0 x3 (wrap64 (x4 + 1)))) else (none)) else (none)
end
def arlinkref22_Unique.f (k : Nat) (l0 : List (S50)) : Option (Bool) := arlinkref22_Unique.l0 k l0 0
def arlinkref22_Unique.T11 : Bool × List (List Nat × List Nat) := (true, [([], []), ([0], [0]), ([1], [1]), ([2], [2]), ([3], [3]), ([4, 3], [3, 4]), ([5, 3], [3, 5]), ([3, 6], [3, 6]), ([7, 3], [7]), ([8], [8]), ([8], [8]), ([9, 10, 8], [8, 9, 10]), ([11, 8], [8, 11]), ([8], [8]), ([13, 8], [8, 13]), ([12, 14, 8, 8], [8, 12, 14]), ([8, 15], [8, 15])])
def arlinkref22_Unique.B11 : List Nat := [0, 1, 3, 7, 15, 31, 63, 127, 255, 511, 511, 2047, 4095, 511, 8703, 32767, 65535]
theorem arlinkref22_Unique.tab11 : rtab .any (opsOf Try.f27 11) = arlinkref22_Unique.T11 := by kernel_rfl
theorem arlinkref22_Unique.bits11 : waitsOk arlinkref22_Unique.T11.2 arlinkref22_Unique.B11 = true := by kernel_rfl
set_option maxHeartbeats 8000000 in
set_option maxRecDepth 100000 in
theorem arlinkref22_Unique.calls (k : Nat) (A0 : Option Addr) (c0 : Nat) (l0 : List (S50)) (r : Bool) (w : World) (hr0 : Kd.C k50 w A0 l0.length l0) (hc0 : l0.length ≤ c0) (h : arlinkref22_Unique.f k l0 = some r) :
  Calls Try.prog 27 #[.slice A0 l0.length c0] w fun e w' => e = .returned (.bool r) ∧ Below w.heap.size w w' := by
 have hu55 := Try.underlying55
 have hu50 := Try.underlying50
 have HR0 := Aside0.mk hr0
 have HC0 := Aside0.mk hc0
 clear hr0 hc0
 have HB := Aside0.mk (Below.refl w.heap.size w)
 have H : (arlinkref22_Unique.l0 k l0 0) = some r := h
 clear h
 have H' := Aside0.mk H
 clear H
 go_enter Try.func27, Try.ntmps27
 go_wp2
 go_loopg [3] k (fun kq v3 w' => ∃ (x3_1 : Int), v3 = .int .i64 x3_1 ∧ Aside0 (arlinkref22_Unique.l0 kq l0 x3_1 = some r) ∧ Aside0 (kq ≤ k) ∧ Aside0 (Below w.heap.size w w'))
 case atStart => exact ⟨(0), (by first | rfl | (simp; done) | (simp [*]; done)), H', ⟨Nat.le_refl _⟩, ⟨by repeat (first | (with_reducible first | exact HB.out | apply below_alloc | apply pw_below_drewN | apply below_drew1) | exact HB.out)⟩⟩
 case round =>
  clear H'
  obtain ⟨x3_1, rfl, HA, HK1, HB⟩ := hrel
  cases gk with
  | zero => exact absurd HA.out (by simp [arlinkref22_Unique.l0])
  | succ k1 =>
   have H := HA.out
   clear HA
   simp only [arlinkref22_Unique.l0] at H
   by_cases c2 : x3_1 < (l0.length : Int)
   ·rw [if_pos c2] at H
    have c2b0 : decide (x3_1 < (l0.length : Int)) = true := decide_eq_true c2
    clear c2
    have H' := Aside0.mk H
    clear H
    go_wp2
    go_loopg [4] k1 (fun kq v4 w' => ∃ (x4_2 : Int), v4 = .int .i64 x4_2 ∧ Aside0 (arlinkref22_Unique.l1 kq l0 x3_1 x4_2 = some r) ∧ Aside0 (kq ≤ k1) ∧ Aside0 (Below w.heap.size w w'))
    case atStart => exact ⟨(0), (by first | rfl | (simp; done) | (simp [*]; done)), H', ⟨Nat.le_refl _⟩, ⟨by repeat (first | (with_reducible first | exact HB.out | apply below_alloc | apply pw_below_drewN | apply below_drew1) | exact HB.out)⟩⟩
    case round =>
     clear H'
     try clear c2
     try clear c2b0
     try clear p2
     obtain ⟨x4_2, rfl, HA, HK2, HB⟩ := hrel
     cases gk with
     | zero => exact absurd HA.out (by simp [arlinkref22_Unique.l1])
     | succ k2 =>
      have H := HA.out
      clear HA
      simp only [arlinkref22_Unique.l1] at H
      by_cases c3 : x4_2 < x3_1
      ·rw [if_pos c3] at H
       have c3b0 : decide (x4_2 < x3_1) = true := decide_eq_true c3
       clear c3
       have H' := Aside0.mk H
       clear H
       go_wp2
       go_loopg [5] k2 (fun kq v5 w' => ∃ (x5_3 : Int), v5 = .int .i64 x5_3 ∧ Aside0 (arlinkref22_Unique.l2 kq l0 x3_1 x4_2 x5_3 = some r) ∧ Aside0 (kq ≤ k2) ∧ Aside0 (Below w.heap.size w w'))
       case atStart => exact ⟨(0), (by first | rfl | (simp; done) | (simp [*]; done)), H', ⟨Nat.le_refl _⟩, ⟨by repeat (first | (with_reducible first | exact HB.out | apply below_alloc | apply pw_below_drewN | apply below_drew1) | exact HB.out)⟩⟩
       case round =>
        clear H'
        try clear c2
        try clear c2b0
        try clear p2
        try clear c3
        try clear c3b0
        try clear p2
        obtain ⟨x5_3, rfl, HA, HK3, HB⟩ := hrel
        cases gk with
        | zero => exact absurd HA.out (by simp [arlinkref22_Unique.l2])
        | succ k3 =>
         have H := HA.out
         clear HA
         simp only [arlinkref22_Unique.l2] at H
         by_cases c4 : 0 ≤ x3_1
         ·rw [if_pos c4] at H
          have c4b0 : decide (0 ≤ x3_1) = true := decide_eq_true c4
          clear c4
          by_cases c5 : x3_1 < (l0.length : Int)
          ·rw [if_pos c5] at H
           have c5b0 : decide (x3_1 < (l0.length : Int)) = true := decide_eq_true c5
           clear c5
           by_cases c6 : x5_3 < (((rd_T50 l0 x3_1).f0).length : Int)
           ·rw [if_pos c6] at H
            have c6b0 : decide (x5_3 < (((rd_T50 l0 x3_1).f0).length : Int)) = true := decide_eq_true c6
            clear c6
            by_cases c7 : 0 ≤ x5_3
            ·rw [if_pos c7] at H
             have c7b0 : decide (0 ≤ x5_3) = true := decide_eq_true c7
             clear c7
             by_cases c8 : ((rd_T55 ((rd_T50 l0 x3_1).f0) x5_3).f1) = 1
             ·rw [if_pos c8] at H
              have c8b0 : (((rd_T55 ((rd_T50 l0 x3_1).f0) x5_3).f1) == 1) = true := beq_iff_eq.mpr c8
              have c8b1 : (((rd_T55 ((rd_T50 l0 x3_1).f0) x5_3).f1) != 1) = false := bne_eq_false_iff_eq.mpr c8
              clear c8
              by_cases c9 : 0 ≤ x4_2
              ·rw [if_pos c9] at H
               have c9b0 : decide (0 ≤ x4_2) = true := decide_eq_true c9
               clear c9
               by_cases c10 : x4_2 < (l0.length : Int)
               ·rw [if_pos c10] at H
                have c10b0 : decide (x4_2 < (l0.length : Int)) = true := decide_eq_true c10
                clear c10
                replace H := Option.bind_eq_some_iff.mp H
                obtain ⟨t342, A110, H⟩ := H
                replace H : (if t342 = true then (some false) else (arlinkref22_Unique.l2 k3 l0 x3_1 x4_2 (wrap64 (x5_3 + 1)))) = some r := H
                have A11 := Aside0.mk A110
                clear A110
                by_cases c12 : t342 = true
                ·subst c12
                 have H1 : (some false) = some r := by rw [if_pos rfl] at H; exact H
                 clear H
                 have H := H1
                 clear H1
                 obtain rfl := Option.some.inj H
                 have p337 : 0 ≤ (x3_1 : Int) := of_decide_eq_true (by first | (with_reducible assumption) | assumption)
                 have q337 : x3_1 < (l0.length : Int) := of_decide_eq_true (by first | (with_reducible assumption) | assumption)
                 obtain ⟨ad337, A337_0, c337_0, A337_1, c337_1, e337, hx337_0, hx337_1, hl337_0, hi337_0, hl337_1, hi337_1⟩ := at_T50 HR0.out x3_1 p337 q337
                 cases e337
                 replace hx337_0 := (HB.out.cell (World.block_lt_of_cell? w _ hx337_0)).trans hx337_0
                 replace hx337_1 := (HB.out.cell (World.block_lt_of_cell? w _ hx337_1)).trans hx337_1
                 have HR337_0 := Aside0.mk hi337_0
                 have HC337_0 := Aside0.mk hl337_0
                 clear hi337_0 hl337_0
                 have HR337_1 := Aside0.mk hi337_1
                 have HC337_1 := Aside0.mk hl337_1
                 clear hi337_1 hl337_1
                 replace p337 := eq_true p337
                 replace q337 := eq_true q337
                 have p338 : 0 ≤ (x3_1 : Int) := of_decide_eq_true (by first | (with_reducible assumption) | assumption)
                 have q338 : x3_1 < (l0.length : Int) := of_decide_eq_true (by first | (with_reducible assumption) | assumption)
                 obtain ⟨ad338, A338_0, c338_0, A338_1, c338_1, e338, hx338_0, hx338_1, hl338_0, hi338_0, hl338_1, hi338_1⟩ := at_T50 HR0.out x3_1 p338 q338
                 obtain rfl : ad337 = ad338 := (by injection e338)
                 replace hx338_0 := (HB.out.cell (World.block_lt_of_cell? w _ hx338_0)).trans hx338_0
                 replace hx338_1 := (HB.out.cell (World.block_lt_of_cell? w _ hx338_1)).trans hx338_1
                 have HR338_0 := Aside0.mk hi338_0
                 have HC338_0 := Aside0.mk hl338_0
                 clear hi338_0 hl338_0
                 have HR338_1 := Aside0.mk hi338_1
                 have HC338_1 := Aside0.mk hl338_1
                 clear hi338_1 hl338_1
                 replace p338 := eq_true p338
                 replace q338 := eq_true q338
                 have ea_ := Option.some.inj (hx337_0.symm.trans hx338_0)
                 injection ea_ with ea_ en_ ec_
                 subst ea_
                 subst ec_
                 clear en_
                 have ea_ := Option.some.inj (hx337_1.symm.trans hx338_1)
                 injection ea_ with ea_ en_ ec_
                 subst ea_
                 subst ec_
                 clear en_
                 have p339 : 0 ≤ (x5_3 : Int) := of_decide_eq_true (by first | (with_reducible assumption) | assumption)
                 have q339 : x5_3 < (((rd_T50 l0 x3_1).f0).length : Int) := of_decide_eq_true (by first | (with_reducible assumption) | assumption)
                 obtain ⟨ad339, e339, hx339_0, hx339_1, hx339_2, hx339_3⟩ := at_T55 HR338_0.out x5_3 p339 q339
                 cases e339
                 replace hx339_0 := (HB.out.cell (World.block_lt_of_cell? w _ hx339_0)).trans hx339_0
                 replace hx339_1 := (HB.out.cell (World.block_lt_of_cell? w _ hx339_1)).trans hx339_1
                 replace hx339_2 := (HB.out.cell (World.block_lt_of_cell? w _ hx339_2)).trans hx339_2
                 replace hx339_3 := (HB.out.cell (World.block_lt_of_cell? w _ hx339_3)).trans hx339_3
                 replace p339 := eq_true p339
                 replace q339 := eq_true q339
                 try go_wp2_with (first | ((with_reducible refine gate_dst (N := 6) rfl ?_); refine box_event ?hg (N := 6) ?hd (cs := #[.string (⟨#[]⟩ : ByteArray), .int .i64 0, .int .i64 0, .int .i64 0]) (t := 55) ?hr ?_; (case hd => rfl); (case hg => rfl); (case hr => first | (go_simp; done) | (go_simp; rfl)); intro gb340 hg w13 hbox hb; have n0_ := Aside0.mk (below_step (by repeat (first | (with_reducible first | exact HB.out | apply below_alloc | apply pw_below_drewN | apply below_drew1) | exact HB.out)) hb); have n1_ := Aside0.mk (hbox); have n2_ := Aside0.mk ((by rw [hg]; exact (below_size (by repeat (first | (with_reducible first | exact HB.out | apply below_alloc | apply pw_below_drewN | apply below_drew1) | exact HB.out))) : w.heap.size ≤ gb340)); have n3_ := Aside0.mk ((by rw [hg]; exact (below_size (by repeat (first | (with_reducible first | exact HB.out | apply below_alloc | apply pw_below_drewN | apply below_drew1) | exact HB.out))) : w.heap.size ≤ gb340)); clear HB; have HB := n0_; have BK340 := n1_; have GW340 := n2_; have GE340 := n3_; clear n0_ n1_ n2_ n3_; clear hb hbox hg; have hcz14_0 : w13.cell? ⟨gb340, 0, none⟩ = some (.string (⟨#[]⟩ : ByteArray)) := (blk_cell BK340.out 0).trans rfl; have hcz14_1 : w13.cell? ⟨gb340, 1, none⟩ = some (.int .i64 0) := (blk_cell BK340.out 1).trans rfl; have hcz14_2 : w13.cell? ⟨gb340, 2, none⟩ = some (.int .i64 0) := (blk_cell BK340.out 2).trans rfl; have hcz14_3 : w13.cell? ⟨gb340, 3, none⟩ = some (.int .i64 0) := (blk_cell BK340.out 3).trans rfl; have hfz14_0 := blk_frozen BK340.out 0; have hfz14_1 := blk_frozen BK340.out 1; have hfz14_2 := blk_frozen BK340.out 2; have hfz14_3 := blk_frozen BK340.out 3))
                 have n0_ : Aside0 (((((w13.setCell ⟨gb340, 0, none⟩ (.string ((rd_T55 ((rd_T50 l0 x3_1).f0) x5_3).f0))).setCell ⟨gb340, 1, none⟩ (.int .i64 ((rd_T55 ((rd_T50 l0 x3_1).f0) x5_3).f1))).setCell ⟨gb340, 2, none⟩ (.int .i64 ((rd_T55 ((rd_T50 l0 x3_1).f0) x5_3).f2))).setCell ⟨gb340, 3, none⟩ (.int .i64 ((rd_T55 ((rd_T50 l0 x3_1).f0) x5_3).f3))).heap[gb340]? = some (.cells #[.string ((rd_T55 ((rd_T50 l0 x3_1).f0) x5_3).f0), .int .i64 ((rd_T55 ((rd_T50 l0 x3_1).f0) x5_3).f1), .int .i64 ((rd_T55 ((rd_T50 l0 x3_1).f0) x5_3).f2), .int .i64 ((rd_T55 ((rd_T50 l0 x3_1).f0) x5_3).f3)] 55 (0, 0))) := ⟨by (with_reducible repeat (first | refine blk_drewN ?_ _ | refine blk_drew ?_ | refine blk_alloc ?_ _)); refine blk_put (cs := #[.string ((rd_T55 ((rd_T50 l0 x3_1).f0) x5_3).f0), .int .i64 ((rd_T55 ((rd_T50 l0 x3_1).f0) x5_3).f1), .int .i64 ((rd_T55 ((rd_T50 l0 x3_1).f0) x5_3).f2), .int .i64 0]) ?_ 3 _ rfl; (with_reducible repeat (first | refine blk_drewN ?_ _ | refine blk_drew ?_ | refine blk_alloc ?_ _)); refine blk_put (cs := #[.string ((rd_T55 ((rd_T50 l0 x3_1).f0) x5_3).f0), .int .i64 ((rd_T55 ((rd_T50 l0 x3_1).f0) x5_3).f1), .int .i64 0, .int .i64 0]) ?_ 2 _ rfl; (with_reducible repeat (first | refine blk_drewN ?_ _ | refine blk_drew ?_ | refine blk_alloc ?_ _)); refine blk_put (cs := #[.string ((rd_T55 ((rd_T50 l0 x3_1).f0) x5_3).f0), .int .i64 0, .int .i64 0, .int .i64 0]) ?_ 1 _ rfl; (with_reducible repeat (first | refine blk_drewN ?_ _ | refine blk_drew ?_ | refine blk_alloc ?_ _)); refine blk_put (cs := #[.string (⟨#[]⟩ : ByteArray), .int .i64 0, .int .i64 0, .int .i64 0]) ?_ 0 _ rfl; (with_reducible repeat (first | refine blk_drewN ?_ _ | refine blk_drew ?_ | refine blk_alloc ?_ _)); exact BK340.out⟩
                 have n1_ : Aside0 (Below w.heap.size w ((((w13.setCell ⟨gb340, 0, none⟩ (.string ((rd_T55 ((rd_T50 l0 x3_1).f0) x5_3).f0))).setCell ⟨gb340, 1, none⟩ (.int .i64 ((rd_T55 ((rd_T50 l0 x3_1).f0) x5_3).f1))).setCell ⟨gb340, 2, none⟩ (.int .i64 ((rd_T55 ((rd_T50 l0 x3_1).f0) x5_3).f2))).setCell ⟨gb340, 3, none⟩ (.int .i64 ((rd_T55 ((rd_T50 l0 x3_1).f0) x5_3).f3)))) := ⟨by repeat (first | (with_reducible first | exact HB.out | apply below_alloc | apply pw_below_drewN | apply below_drew1 | refine below_set ?_ GE340.out) | exact HB.out)⟩
                 (try clear BK340)
                 (try clear HB)
                 generalize ((((w13.setCell ⟨gb340, 0, none⟩ (.string ((rd_T55 ((rd_T50 l0 x3_1).f0) x5_3).f0))).setCell ⟨gb340, 1, none⟩ (.int .i64 ((rd_T55 ((rd_T50 l0 x3_1).f0) x5_3).f1))).setCell ⟨gb340, 2, none⟩ (.int .i64 ((rd_T55 ((rd_T50 l0 x3_1).f0) x5_3).f2))).setCell ⟨gb340, 3, none⟩ (.int .i64 ((rd_T55 ((rd_T50 l0 x3_1).f0) x5_3).f3))) = w15 at n0_ n1_ ⊢
                 have BK340 := n0_
                 have HB := n1_
                 clear n0_ n1_
                 have n0_ := Aside0.mk (blk_drew BK340.out)
                 have n1_ := Aside0.mk (below_drew1 HB.out)
                 clear BK340
                 clear HB
                 have BK340 := n0_
                 have HB := n1_
                 clear n0_ n1_
                 have p341 : 0 ≤ (x4_2 : Int) := of_decide_eq_true (by first | (with_reducible assumption) | assumption)
                 have q341 : x4_2 < (l0.length : Int) := of_decide_eq_true (by first | (with_reducible assumption) | assumption)
                 obtain ⟨ad341, A341_0, c341_0, A341_1, c341_1, e341, hx341_0, hx341_1, hl341_0, hi341_0, hl341_1, hi341_1⟩ := at_T50 HR0.out x4_2 p341 q341
                 have hw341_1 := hx341_1
                 have hw341_0 := hx341_0
                 obtain rfl : ad337 = ad341 := (by injection e341)
                 replace hx341_0 := (HB.out.cell (World.block_lt_of_cell? w _ hx341_0)).trans hx341_0
                 replace hx341_1 := (HB.out.cell (World.block_lt_of_cell? w _ hx341_1)).trans hx341_1
                 have HR341_0 := Aside0.mk hi341_0
                 have HC341_0 := Aside0.mk hl341_0
                 clear hi341_0 hl341_0
                 have HR341_1 := Aside0.mk hi341_1
                 have HC341_1 := Aside0.mk hl341_1
                 clear hi341_1 hl341_1
                 replace p341 := eq_true p341
                 replace q341 := eq_true q341
                 refine start_ (n := 17) (S := fun w' => w'.cell? ⟨gb340, 0, none⟩ = some (.string ((rd_T55 ((rd_T50 l0 x3_1).f0) x5_3).f0)) ∧ w'.cell? ⟨gb340, 1, none⟩ = some (.int .i64 ((rd_T55 ((rd_T50 l0 x3_1).f0) x5_3).f1)) ∧ w'.cell? ⟨gb340, 2, none⟩ = some (.int .i64 ((rd_T55 ((rd_T50 l0 x3_1).f0) x5_3).f2)) ∧ w'.cell? ⟨gb340, 3, none⟩ = some (.int .i64 ((rd_T55 ((rd_T50 l0 x3_1).f0) x5_3).f3)) ∧ w'.cell? (ad337.add ((x4_2).toNat * 2)) = some (.slice A341_0 ((rd_T50 l0 x4_2).f0).length c341_0) ∧ w'.cell? ⟨(ad337.add ((x4_2).toNat * 2)).block, (ad337.add ((x4_2).toNat * 2)).off + 1, none⟩ = some (.slice A341_1 ((rd_T50 l0 x4_2).f1).length c341_1)) (ds := []) #[false, false, false, false, false, false, false, false, false, false, false, false, false, false, false, false, false] (by kernel_rfl) rfl rfl ⟨(blk_cell BK340.out 0).trans rfl, (blk_cell BK340.out 1).trans rfl, (blk_cell BK340.out 2).trans rfl, (blk_cell BK340.out 3).trans rfl, ((HB.out.cell (World.block_lt_of_cell? w _ hw341_0)).trans hw341_0), ((HB.out.cell (World.block_lt_of_cell? w _ hw341_1)).trans hw341_1)⟩ (fun hHeld => ?_); refine with_tabW arlinkref22_Unique.tab11 arlinkref22_Unique.bits11 (fun HT_ HW_ => ?_)
                 generalize w15.drew = w16 at BK340 HB HR341_0 HR341_1 hx341_0 hx341_1 hHeld ⊢
                 refine pure_ (i := 0) (N := some 36) (v := ?_) (a' := ?_) #[true, false, false, false, false, false, false, false, false, false, false, false, false, false, false, false, false] rfl rfl (any_of HT_.out (by kernel_rfl)) (fun _ _ _ h => h) (Or.inl ⟨by rfl, ?_⟩) ?_ ?_
                 rotate_left
                 ·intro w'
                  go_simp
                  with_reducible rfl
                 rotate_left
                 ·simp only [Act.put, List.setIfInBounds_toArray, List.set_cons_zero, List.set_cons_succ, i64_w, i32_w]
                  rfl
                 refine take_ (i := 1) (N := some 37) (v := ?_) (a' := ?_) #[true, true, false, false, false, false, false, false, false, false, false, false, false, false, false, false, false] rfl rfl (take_ofW HT_.out HW_.out (by kernel_rfl)) (fun _ _ _ h => h) (Or.inl ⟨by rfl, ?_⟩) hHeld ?_ ?_
                 rotate_left
                 ·rintro w' ⟨s0, s1, s2, s3, s4, s5⟩
                  go_simp
                  with_reducible rfl
                 rotate_left
                 ·simp only [Act.put, List.setIfInBounds_toArray, List.set_cons_zero, List.set_cons_succ, i64_w, i32_w]
                  rfl
                 refine pure_ (i := 2) (N := some 38) (v := ?_) (a' := ?_) #[true, true, true, false, false, false, false, false, false, false, false, false, false, false, false, false, false] rfl rfl (any_of HT_.out (by kernel_rfl)) (fun _ _ _ h => h) (Or.inl ⟨by rfl, ?_⟩) ?_ ?_
                 rotate_left
                 ·intro w'
                  go_simp
                  with_reducible rfl
                 rotate_left
                 ·simp only [Act.put, List.setIfInBounds_toArray, List.set_cons_zero, List.set_cons_succ, i64_w, i32_w]
                  rfl
                 refine pure_ (i := 3) (N := some 39) (v := ?_) (a' := ?_) #[true, true, true, true, false, false, false, false, false, false, false, false, false, false, false, false, false] rfl rfl (any_of HT_.out (by kernel_rfl)) (fun _ _ _ h => h) (Or.inl ⟨by rfl, ?_⟩) ?_ ?_
                 rotate_left
                 ·intro w'
                  go_simp
                  with_reducible rfl
                 rotate_left
                 ·simp only [Act.put, List.setIfInBounds_toArray, List.set_cons_zero, List.set_cons_succ, i64_w, i32_w]
                  rfl
                 refine pure_ (i := 4) (N := some 40) (v := undef) (a' := ?_) #[true, true, true, true, true, false, false, false, false, false, false, false, false, false, false, false, false] rfl rfl (any_of HT_.out (by kernel_rfl)) (fun _ _ _ h => h) (Or.inr ⟨by rfl, rfl⟩) ?_ ?_
                 rotate_left
                 ·simp only [Act.put, List.setIfInBounds_toArray, List.set_cons_zero, List.set_cons_succ, i64_w, i32_w]
                  rfl
                 refine pure_ (i := 5) (N := some 41) (v := undef) (a' := ?_) #[true, true, true, true, true, true, false, false, false, false, false, false, false, false, false, false, false] rfl rfl (any_of HT_.out (by kernel_rfl)) (fun _ _ _ h => h) (Or.inr ⟨by rfl, rfl⟩) ?_ ?_
                 rotate_left
                 ·simp only [Act.put, List.setIfInBounds_toArray, List.set_cons_zero, List.set_cons_succ, i64_w, i32_w]
                  rfl
                 refine pure_ (i := 6) (N := some 42) (v := undef) (a' := ?_) #[true, true, true, true, true, true, true, false, false, false, false, false, false, false, false, false, false] rfl rfl (any_of HT_.out (by kernel_rfl)) (fun _ _ _ h => h) (Or.inr ⟨by rfl, rfl⟩) ?_ ?_
                 rotate_left
                 ·simp only [Act.put, List.setIfInBounds_toArray, List.set_cons_zero, List.set_cons_succ, i64_w, i32_w]
                  rfl
                 refine pure_ (i := 7) (N := some 43) (v := ?_) (a' := ?_) #[true, true, true, true, true, true, true, true, false, false, false, false, false, false, false, false, false] rfl rfl (any_of HT_.out (by kernel_rfl)) (fun _ _ _ h => h) (Or.inl ⟨by rfl, ?_⟩) ?_ ?_
                 rotate_left
                 ·intro w'
                  go_simp
                  with_reducible rfl
                 rotate_left
                 ·simp only [Act.put, List.setIfInBounds_toArray, List.set_cons_zero, List.set_cons_succ, i64_w, i32_w]
                  rfl
                 refine pure_ (i := 8) (N := some 44) (v := ?_) (a' := ?_) #[true, true, true, true, true, true, true, true, true, false, false, false, false, false, false, false, false] rfl rfl (any_of HT_.out (by kernel_rfl)) (fun _ _ _ h => h) (Or.inl ⟨by rfl, ?_⟩) ?_ ?_
                 rotate_left
                 ·intro w'
                  go_simp
                  with_reducible rfl
                 rotate_left
                 ·simp only [Act.put, List.setIfInBounds_toArray, List.set_cons_zero, List.set_cons_succ, i64_w, i32_w]
                  rfl
                 refine pure_ (i := 9) (N := some 45) (v := ?_) (a' := ?_) #[true, true, true, true, true, true, true, true, true, true, false, false, false, false, false, false, false] rfl rfl (any_of HT_.out (by kernel_rfl)) (fun _ _ _ h => h) (Or.inl ⟨by rfl, ?_⟩) ?_ ?_
                 rotate_left
                 ·intro w'
                  go_simp
                  with_reducible rfl
                 rotate_left
                 ·simp only [Act.put, List.setIfInBounds_toArray, List.set_cons_zero, List.set_cons_succ, i64_w, i32_w]
                  rfl
                 refine pure_ (i := 10) (N := some 46) (v := ?_) (a' := ?_) #[true, true, true, true, true, true, true, true, true, true, true, false, false, false, false, false, false] rfl rfl (any_of HT_.out (by kernel_rfl)) (fun _ _ _ h => h) (Or.inl ⟨by rfl, ?_⟩) ?_ ?_
                 rotate_left
                 ·intro w'
                  go_simp
                  with_reducible rfl
                 rotate_left
                 ·simp only [Act.put, List.setIfInBounds_toArray, List.set_cons_zero, List.set_cons_succ, i64_w, i32_w]
                  rfl
                 refine pure_ (i := 11) (N := some 47) (v := ?_) (a' := ?_) #[true, true, true, true, true, true, true, true, true, true, true, true, false, false, false, false, false] rfl rfl (any_of HT_.out (by kernel_rfl)) (fun _ _ _ h => h) (Or.inl ⟨by rfl, ?_⟩) ?_ ?_
                 rotate_left
                 ·intro w'
                  go_simp
                  with_reducible rfl
                 rotate_left
                 ·simp only [Act.put, List.setIfInBounds_toArray, List.set_cons_zero, List.set_cons_succ, i64_w, i32_w]
                  rfl
                 refine pure_ (i := 13) (N := some 49) (v := ?_) (a' := ?_) #[true, true, true, true, true, true, true, true, true, true, true, true, false, true, false, false, false] rfl rfl (any_of HT_.out (by kernel_rfl)) (fun _ _ _ h => h) (Or.inl ⟨by rfl, ?_⟩) ?_ ?_
                 rotate_left
                 ·intro w'
                  go_simp
                  with_reducible rfl
                 rotate_left
                 ·simp only [Act.put, List.setIfInBounds_toArray, List.set_cons_zero, List.set_cons_succ, i64_w, i32_w]
                  rfl
                 refine take_ (i := 12) (N := some 48) (v := ?_) (a' := ?_) #[true, true, true, true, true, true, true, true, true, true, true, true, true, true, false, false, false] rfl rfl (take_ofW HT_.out HW_.out (by kernel_rfl)) (fun _ _ _ h => h) (Or.inl ⟨by rfl, ?_⟩) hHeld ?_ ?_
                 rotate_left
                 ·rintro w' ⟨s0, s1, s2, s3, s4, s5⟩
                  go_simp
                  with_reducible rfl
                 rotate_left
                 ·simp only [Act.put, List.setIfInBounds_toArray, List.set_cons_zero, List.set_cons_succ, i64_w, i32_w]
                  rfl
                 refine take_ (i := 14) (N := some 50) (v := ?_) (a' := ?_) #[true, true, true, true, true, true, true, true, true, true, true, true, true, true, true, false, false] rfl rfl (take_ofW HT_.out HW_.out (by kernel_rfl)) (fun _ _ _ h => h) (Or.inl ⟨by rfl, ?_⟩) hHeld ?_ ?_
                 rotate_left
                 ·rintro w' ⟨s0, s1, s2, s3, s4, s5⟩
                  go_simp
                  with_reducible rfl
                 rotate_left
                 ·simp only [Act.put, List.setIfInBounds_toArray, List.set_cons_zero, List.set_cons_succ, i64_w, i32_w]
                  rfl
                 refine one_ (i := 15) (N := some 51) #[true, true, true, true, true, true, true, true, true, true, true, true, true, true, true, true, false] rfl rfl (one_of HT_.out (by kernel_rfl)) (by decide) (fun K hK => ?_)
                 refine goes_ Try.func54 (by kernel_rfl) rfl #[.agg #[.slice A341_0 ((rd_T50 l0 x4_2).f0).length c341_0, .slice A341_1 ((rd_T50 l0 x4_2).f1).length c341_1], .string ((rd_T55 ((rd_T50 l0 x3_1).f0) x5_3).f0), .int .i64 1, .int .i64 2] (by rfl) rfl rfl (by (try simp only [List.map_toArray, List.map_cons, List.map_nil]); first | done | rfl | (simp only [List.length_drop, List.length_take]; rfl)) ?_
                 with_reducible refine (arlinkref22_has.calls k3 _ _ ((rd_T50 l0 x4_2).f0) _ _ ((rd_T50 l0 x4_2).f1) ((rd_T55 ((rd_T50 l0 x3_1).f0) x5_3).f0) 1 2 true _ ?side1 ?side2 ?side3 ?side4 A11.out).mono ?_
                 (case side1 => repeat (first | exact (Kd.C_below HR341_0.out HB.out) | (with_reducible refine Kd.C_alloc ?_ _) | (with_reducible refine Kd.C_drewN ?_ _) | (with_reducible refine Kd.C_drew ?_)))
                 (case side2 => exact HC341_0.out)
                 (case side3 => repeat (first | exact (Kd.C_below HR341_1.out HB.out) | (with_reducible refine Kd.C_alloc ?_ _) | (with_reducible refine Kd.C_drewN ?_ _) | (with_reducible refine Kd.C_drew ?_)))
                 (case side4 => exact HC341_1.out)
                 rintro e w17 ⟨rfl, hb⟩
                 refine ⟨_, rfl, ?_⟩
                 have n0_ := Aside0.mk (blk_below (g := gb340) (o := .cells #[.string ((rd_T55 ((rd_T50 l0 x3_1).f0) x5_3).f0), .int .i64 ((rd_T55 ((rd_T50 l0 x3_1).f0) x5_3).f1), .int .i64 ((rd_T55 ((rd_T50 l0 x3_1).f0) x5_3).f2), .int .i64 ((rd_T55 ((rd_T50 l0 x3_1).f0) x5_3).f3)] 55 (0, 0)) (by (with_reducible repeat (first | refine blk_drewN ?_ _ | refine blk_drew ?_ | refine blk_alloc ?_ _)); exact BK340.out) hb)
                 have n1_ := Aside0.mk (below_step (by repeat (first | (with_reducible first | exact HB.out | apply below_alloc | apply pw_below_drewN | apply below_drew1 | refine below_set ?_ GE340.out) | exact HB.out)) hb)
                 clear BK340
                 clear HB
                 have BK340 := n0_
                 have HB := n1_
                 clear n0_ n1_
                 (try clear hb)
                 (try clear hb2)
                 (try clear hk)
                 (try clear hi)
                 refine hK.out _ _ ⟨(blk_cell BK340.out 0).trans rfl, (blk_cell BK340.out 1).trans rfl, (blk_cell BK340.out 2).trans rfl, (blk_cell BK340.out 3).trans rfl, ((HB.out.cell (World.block_lt_of_cell? w _ hw341_0)).trans hw341_0), ((HB.out.cell (World.block_lt_of_cell? w _ hw341_1)).trans hw341_1)⟩ (fun hHeld => ?_)
                 clear hK K
                 refine norm_ (a' := ?_) ?_ ?_
                 rotate_left
                 ·show Act.put _ (some 51) _ = _
                  simp only [Act.put, List.setIfInBounds_toArray, List.set_cons_zero, List.set_cons_succ, i64_w, i32_w]
                  rfl
                 refine pure_ (i := 16) (N := some 52) (v := ?_) (a' := ?_) #[true, true, true, true, true, true, true, true, true, true, true, true, true, true, true, true, true] rfl rfl (any_of HT_.out (by kernel_rfl)) (fun _ _ _ h => h) (Or.inl ⟨by rfl, ?_⟩) ?_ ?_
                 rotate_left
                 ·intro w'
                  go_simp
                  with_reducible rfl
                 rotate_left
                 ·simp only [Act.put, List.setIfInBounds_toArray, List.set_cons_zero, List.set_cons_succ, i64_w, i32_w]
                  rfl
                 refine done_ (done_of HT_.out (by kernel_rfl)) ?_
                 try go_wp2
                 go_ret
                 exact ⟨by first | rfl | (simp [errW_none, errW_some] <;> rfl) | (simp [*, errW_none, errW_some] <;> rfl), by repeat (first | (with_reducible first | exact HB.out | apply below_alloc | apply pw_below_drewN | apply below_drew1 | refine below_set ?_ GE340.out) | exact HB.out)⟩
                ·replace c12 := Bool.eq_false_iff.mpr c12
                 subst c12
                 have H1 : (arlinkref22_Unique.l2 k3 l0 x3_1 x4_2 (wrap64 (x5_3 + 1))) = some r := by rw [if_neg (show ¬ (false = true) by decide)] at H; exact H
                 clear H
                 have H := H1
                 clear H1
                 have H' := Aside0.mk H
                 clear H
                 have p337 : 0 ≤ (x3_1 : Int) := of_decide_eq_true (by first | (with_reducible assumption) | assumption)
                 have q337 : x3_1 < (l0.length : Int) := of_decide_eq_true (by first | (with_reducible assumption) | assumption)
                 obtain ⟨ad337, A337_0, c337_0, A337_1, c337_1, e337, hx337_0, hx337_1, hl337_0, hi337_0, hl337_1, hi337_1⟩ := at_T50 HR0.out x3_1 p337 q337
                 cases e337
                 replace hx337_0 := (HB.out.cell (World.block_lt_of_cell? w _ hx337_0)).trans hx337_0
                 replace hx337_1 := (HB.out.cell (World.block_lt_of_cell? w _ hx337_1)).trans hx337_1
                 have HR337_0 := Aside0.mk hi337_0
                 have HC337_0 := Aside0.mk hl337_0
                 clear hi337_0 hl337_0
                 have HR337_1 := Aside0.mk hi337_1
                 have HC337_1 := Aside0.mk hl337_1
                 clear hi337_1 hl337_1
                 replace p337 := eq_true p337
                 replace q337 := eq_true q337
                 have p338 : 0 ≤ (x3_1 : Int) := of_decide_eq_true (by first | (with_reducible assumption) | assumption)
                 have q338 : x3_1 < (l0.length : Int) := of_decide_eq_true (by first | (with_reducible assumption) | assumption)
                 obtain ⟨ad338, A338_0, c338_0, A338_1, c338_1, e338, hx338_0, hx338_1, hl338_0, hi338_0, hl338_1, hi338_1⟩ := at_T50 HR0.out x3_1 p338 q338
                 obtain rfl : ad337 = ad338 := (by injection e338)
                 replace hx338_0 := (HB.out.cell (World.block_lt_of_cell? w _ hx338_0)).trans hx338_0
                 replace hx338_1 := (HB.out.cell (World.block_lt_of_cell? w _ hx338_1)).trans hx338_1
                 have HR338_0 := Aside0.mk hi338_0
                 have HC338_0 := Aside0.mk hl338_0
                 clear hi338_0 hl338_0
                 have HR338_1 := Aside0.mk hi338_1
                 have HC338_1 := Aside0.mk hl338_1
                 clear hi338_1 hl338_1
                 replace p338 := eq_true p338
                 replace q338 := eq_true q338
                 have ea_ := Option.some.inj (hx337_0.symm.trans hx338_0)
                 injection ea_ with ea_ en_ ec_
                 subst ea_
                 subst ec_
                 clear en_
                 have ea_ := Option.some.inj (hx337_1.symm.trans hx338_1)
                 injection ea_ with ea_ en_ ec_
                 subst ea_
                 subst ec_
                 clear en_
                 have p339 : 0 ≤ (x5_3 : Int) := of_decide_eq_true (by first | (with_reducible assumption) | assumption)
                 have q339 : x5_3 < (((rd_T50 l0 x3_1).f0).length : Int) := of_decide_eq_true (by first | (with_reducible assumption) | assumption)
                 obtain ⟨ad339, e339, hx339_0, hx339_1, hx339_2, hx339_3⟩ := at_T55 HR338_0.out x5_3 p339 q339
                 cases e339
                 replace hx339_0 := (HB.out.cell (World.block_lt_of_cell? w _ hx339_0)).trans hx339_0
                 replace hx339_1 := (HB.out.cell (World.block_lt_of_cell? w _ hx339_1)).trans hx339_1
                 replace hx339_2 := (HB.out.cell (World.block_lt_of_cell? w _ hx339_2)).trans hx339_2
                 replace hx339_3 := (HB.out.cell (World.block_lt_of_cell? w _ hx339_3)).trans hx339_3
                 replace p339 := eq_true p339
                 replace q339 := eq_true q339
                 try go_wp2_with (first | ((with_reducible refine gate_dst (N := 6) rfl ?_); refine box_event ?hg (N := 6) ?hd (cs := #[.string (⟨#[]⟩ : ByteArray), .int .i64 0, .int .i64 0, .int .i64 0]) (t := 55) ?hr ?_; (case hd => rfl); (case hg => rfl); (case hr => first | (go_simp; done) | (go_simp; rfl)); intro gb340 hg w18 hbox hb; have n0_ := Aside0.mk (below_step (by repeat (first | (with_reducible first | exact HB.out | apply below_alloc | apply pw_below_drewN | apply below_drew1) | exact HB.out)) hb); have n1_ := Aside0.mk (hbox); have n2_ := Aside0.mk ((by rw [hg]; exact (below_size (by repeat (first | (with_reducible first | exact HB.out | apply below_alloc | apply pw_below_drewN | apply below_drew1) | exact HB.out))) : w.heap.size ≤ gb340)); have n3_ := Aside0.mk ((by rw [hg]; exact (below_size (by repeat (first | (with_reducible first | exact HB.out | apply below_alloc | apply pw_below_drewN | apply below_drew1) | exact HB.out))) : w.heap.size ≤ gb340)); clear HB; have HB := n0_; have BK340 := n1_; have GW340 := n2_; have GE340 := n3_; clear n0_ n1_ n2_ n3_; clear hb hbox hg; have hcz19_0 : w18.cell? ⟨gb340, 0, none⟩ = some (.string (⟨#[]⟩ : ByteArray)) := (blk_cell BK340.out 0).trans rfl; have hcz19_1 : w18.cell? ⟨gb340, 1, none⟩ = some (.int .i64 0) := (blk_cell BK340.out 1).trans rfl; have hcz19_2 : w18.cell? ⟨gb340, 2, none⟩ = some (.int .i64 0) := (blk_cell BK340.out 2).trans rfl; have hcz19_3 : w18.cell? ⟨gb340, 3, none⟩ = some (.int .i64 0) := (blk_cell BK340.out 3).trans rfl; have hfz19_0 := blk_frozen BK340.out 0; have hfz19_1 := blk_frozen BK340.out 1; have hfz19_2 := blk_frozen BK340.out 2; have hfz19_3 := blk_frozen BK340.out 3))
                 have n0_ : Aside0 (((((w18.setCell ⟨gb340, 0, none⟩ (.string ((rd_T55 ((rd_T50 l0 x3_1).f0) x5_3).f0))).setCell ⟨gb340, 1, none⟩ (.int .i64 ((rd_T55 ((rd_T50 l0 x3_1).f0) x5_3).f1))).setCell ⟨gb340, 2, none⟩ (.int .i64 ((rd_T55 ((rd_T50 l0 x3_1).f0) x5_3).f2))).setCell ⟨gb340, 3, none⟩ (.int .i64 ((rd_T55 ((rd_T50 l0 x3_1).f0) x5_3).f3))).heap[gb340]? = some (.cells #[.string ((rd_T55 ((rd_T50 l0 x3_1).f0) x5_3).f0), .int .i64 ((rd_T55 ((rd_T50 l0 x3_1).f0) x5_3).f1), .int .i64 ((rd_T55 ((rd_T50 l0 x3_1).f0) x5_3).f2), .int .i64 ((rd_T55 ((rd_T50 l0 x3_1).f0) x5_3).f3)] 55 (0, 0))) := ⟨by (with_reducible repeat (first | refine blk_drewN ?_ _ | refine blk_drew ?_ | refine blk_alloc ?_ _)); refine blk_put (cs := #[.string ((rd_T55 ((rd_T50 l0 x3_1).f0) x5_3).f0), .int .i64 ((rd_T55 ((rd_T50 l0 x3_1).f0) x5_3).f1), .int .i64 ((rd_T55 ((rd_T50 l0 x3_1).f0) x5_3).f2), .int .i64 0]) ?_ 3 _ rfl; (with_reducible repeat (first | refine blk_drewN ?_ _ | refine blk_drew ?_ | refine blk_alloc ?_ _)); refine blk_put (cs := #[.string ((rd_T55 ((rd_T50 l0 x3_1).f0) x5_3).f0), .int .i64 ((rd_T55 ((rd_T50 l0 x3_1).f0) x5_3).f1), .int .i64 0, .int .i64 0]) ?_ 2 _ rfl; (with_reducible repeat (first | refine blk_drewN ?_ _ | refine blk_drew ?_ | refine blk_alloc ?_ _)); refine blk_put (cs := #[.string ((rd_T55 ((rd_T50 l0 x3_1).f0) x5_3).f0), .int .i64 0, .int .i64 0, .int .i64 0]) ?_ 1 _ rfl; (with_reducible repeat (first | refine blk_drewN ?_ _ | refine blk_drew ?_ | refine blk_alloc ?_ _)); refine blk_put (cs := #[.string (⟨#[]⟩ : ByteArray), .int .i64 0, .int .i64 0, .int .i64 0]) ?_ 0 _ rfl; (with_reducible repeat (first | refine blk_drewN ?_ _ | refine blk_drew ?_ | refine blk_alloc ?_ _)); exact BK340.out⟩
                 have n1_ : Aside0 (Below w.heap.size w ((((w18.setCell ⟨gb340, 0, none⟩ (.string ((rd_T55 ((rd_T50 l0 x3_1).f0) x5_3).f0))).setCell ⟨gb340, 1, none⟩ (.int .i64 ((rd_T55 ((rd_T50 l0 x3_1).f0) x5_3).f1))).setCell ⟨gb340, 2, none⟩ (.int .i64 ((rd_T55 ((rd_T50 l0 x3_1).f0) x5_3).f2))).setCell ⟨gb340, 3, none⟩ (.int .i64 ((rd_T55 ((rd_T50 l0 x3_1).f0) x5_3).f3)))) := ⟨by repeat (first | (with_reducible first | exact HB.out | apply below_alloc | apply pw_below_drewN | apply below_drew1 | refine below_set ?_ GE340.out) | exact HB.out)⟩
                 (try clear BK340)
                 (try clear HB)
                 generalize ((((w18.setCell ⟨gb340, 0, none⟩ (.string ((rd_T55 ((rd_T50 l0 x3_1).f0) x5_3).f0))).setCell ⟨gb340, 1, none⟩ (.int .i64 ((rd_T55 ((rd_T50 l0 x3_1).f0) x5_3).f1))).setCell ⟨gb340, 2, none⟩ (.int .i64 ((rd_T55 ((rd_T50 l0 x3_1).f0) x5_3).f2))).setCell ⟨gb340, 3, none⟩ (.int .i64 ((rd_T55 ((rd_T50 l0 x3_1).f0) x5_3).f3))) = w20 at n0_ n1_ ⊢
                 have BK340 := n0_
                 have HB := n1_
                 clear n0_ n1_
                 have n0_ := Aside0.mk (blk_drew BK340.out)
                 have n1_ := Aside0.mk (below_drew1 HB.out)
                 clear BK340
                 clear HB
                 have BK340 := n0_
                 have HB := n1_
                 clear n0_ n1_
                 have p341 : 0 ≤ (x4_2 : Int) := of_decide_eq_true (by first | (with_reducible assumption) | assumption)
                 have q341 : x4_2 < (l0.length : Int) := of_decide_eq_true (by first | (with_reducible assumption) | assumption)
                 obtain ⟨ad341, A341_0, c341_0, A341_1, c341_1, e341, hx341_0, hx341_1, hl341_0, hi341_0, hl341_1, hi341_1⟩ := at_T50 HR0.out x4_2 p341 q341
                 have hw341_1 := hx341_1
                 have hw341_0 := hx341_0
                 obtain rfl : ad337 = ad341 := (by injection e341)
                 replace hx341_0 := (HB.out.cell (World.block_lt_of_cell? w _ hx341_0)).trans hx341_0
                 replace hx341_1 := (HB.out.cell (World.block_lt_of_cell? w _ hx341_1)).trans hx341_1
                 have HR341_0 := Aside0.mk hi341_0
                 have HC341_0 := Aside0.mk hl341_0
                 clear hi341_0 hl341_0
                 have HR341_1 := Aside0.mk hi341_1
                 have HC341_1 := Aside0.mk hl341_1
                 clear hi341_1 hl341_1
                 replace p341 := eq_true p341
                 replace q341 := eq_true q341
                 refine start_ (n := 17) (S := fun w' => w'.cell? ⟨gb340, 0, none⟩ = some (.string ((rd_T55 ((rd_T50 l0 x3_1).f0) x5_3).f0)) ∧ w'.cell? ⟨gb340, 1, none⟩ = some (.int .i64 ((rd_T55 ((rd_T50 l0 x3_1).f0) x5_3).f1)) ∧ w'.cell? ⟨gb340, 2, none⟩ = some (.int .i64 ((rd_T55 ((rd_T50 l0 x3_1).f0) x5_3).f2)) ∧ w'.cell? ⟨gb340, 3, none⟩ = some (.int .i64 ((rd_T55 ((rd_T50 l0 x3_1).f0) x5_3).f3)) ∧ w'.cell? (ad337.add ((x4_2).toNat * 2)) = some (.slice A341_0 ((rd_T50 l0 x4_2).f0).length c341_0) ∧ w'.cell? ⟨(ad337.add ((x4_2).toNat * 2)).block, (ad337.add ((x4_2).toNat * 2)).off + 1, none⟩ = some (.slice A341_1 ((rd_T50 l0 x4_2).f1).length c341_1)) (ds := []) #[false, false, false, false, false, false, false, false, false, false, false, false, false, false, false, false, false] (by kernel_rfl) rfl rfl ⟨(blk_cell BK340.out 0).trans rfl, (blk_cell BK340.out 1).trans rfl, (blk_cell BK340.out 2).trans rfl, (blk_cell BK340.out 3).trans rfl, ((HB.out.cell (World.block_lt_of_cell? w _ hw341_0)).trans hw341_0), ((HB.out.cell (World.block_lt_of_cell? w _ hw341_1)).trans hw341_1)⟩ (fun hHeld => ?_); refine with_tabW arlinkref22_Unique.tab11 arlinkref22_Unique.bits11 (fun HT_ HW_ => ?_)
                 generalize w20.drew = w21 at BK340 HB HR341_0 HR341_1 hx341_0 hx341_1 hHeld ⊢
                 refine pure_ (i := 0) (N := some 36) (v := ?_) (a' := ?_) #[true, false, false, false, false, false, false, false, false, false, false, false, false, false, false, false, false] rfl rfl (any_of HT_.out (by kernel_rfl)) (fun _ _ _ h => h) (Or.inl ⟨by rfl, ?_⟩) ?_ ?_
                 rotate_left
                 ·intro w'
                  go_simp
                  with_reducible rfl
                 rotate_left
                 ·simp only [Act.put, List.setIfInBounds_toArray, List.set_cons_zero, List.set_cons_succ, i64_w, i32_w]
                  rfl
                 refine take_ (i := 1) (N := some 37) (v := ?_) (a' := ?_) #[true, true, false, false, false, false, false, false, false, false, false, false, false, false, false, false, false] rfl rfl (take_ofW HT_.out HW_.out (by kernel_rfl)) (fun _ _ _ h => h) (Or.inl ⟨by rfl, ?_⟩) hHeld ?_ ?_
                 rotate_left
                 ·rintro w' ⟨s0, s1, s2, s3, s4, s5⟩
                  go_simp
                  with_reducible rfl
                 rotate_left
                 ·simp only [Act.put, List.setIfInBounds_toArray, List.set_cons_zero, List.set_cons_succ, i64_w, i32_w]
                  rfl
                 refine pure_ (i := 2) (N := some 38) (v := ?_) (a' := ?_) #[true, true, true, false, false, false, false, false, false, false, false, false, false, false, false, false, false] rfl rfl (any_of HT_.out (by kernel_rfl)) (fun _ _ _ h => h) (Or.inl ⟨by rfl, ?_⟩) ?_ ?_
                 rotate_left
                 ·intro w'
                  go_simp
                  with_reducible rfl
                 rotate_left
                 ·simp only [Act.put, List.setIfInBounds_toArray, List.set_cons_zero, List.set_cons_succ, i64_w, i32_w]
                  rfl
                 refine pure_ (i := 3) (N := some 39) (v := ?_) (a' := ?_) #[true, true, true, true, false, false, false, false, false, false, false, false, false, false, false, false, false] rfl rfl (any_of HT_.out (by kernel_rfl)) (fun _ _ _ h => h) (Or.inl ⟨by rfl, ?_⟩) ?_ ?_
                 rotate_left
                 ·intro w'
                  go_simp
                  with_reducible rfl
                 rotate_left
                 ·simp only [Act.put, List.setIfInBounds_toArray, List.set_cons_zero, List.set_cons_succ, i64_w, i32_w]
                  rfl
                 refine pure_ (i := 4) (N := some 40) (v := undef) (a' := ?_) #[true, true, true, true, true, false, false, false, false, false, false, false, false, false, false, false, false] rfl rfl (any_of HT_.out (by kernel_rfl)) (fun _ _ _ h => h) (Or.inr ⟨by rfl, rfl⟩) ?_ ?_
                 rotate_left
                 ·simp only [Act.put, List.setIfInBounds_toArray, List.set_cons_zero, List.set_cons_succ, i64_w, i32_w]
                  rfl
                 refine pure_ (i := 5) (N := some 41) (v := undef) (a' := ?_) #[true, true, true, true, true, true, false, false, false, false, false, false, false, false, false, false, false] rfl rfl (any_of HT_.out (by kernel_rfl)) (fun _ _ _ h => h) (Or.inr ⟨by rfl, rfl⟩) ?_ ?_
                 rotate_left
                 ·simp only [Act.put, List.setIfInBounds_toArray, List.set_cons_zero, List.set_cons_succ, i64_w, i32_w]
                  rfl
                 refine pure_ (i := 6) (N := some 42) (v := undef) (a' := ?_) #[true, true, true, true, true, true, true, false, false, false, false, false, false, false, false, false, false] rfl rfl (any_of HT_.out (by kernel_rfl)) (fun _ _ _ h => h) (Or.inr ⟨by rfl, rfl⟩) ?_ ?_
                 rotate_left
                 ·simp only [Act.put, List.setIfInBounds_toArray, List.set_cons_zero, List.set_cons_succ, i64_w, i32_w]
                  rfl
                 refine pure_ (i := 7) (N := some 43) (v := ?_) (a' := ?_) #[true, true, true, true, true, true, true, true, false, false, false, false, false, false, false, false, false] rfl rfl (any_of HT_.out (by kernel_rfl)) (fun _ _ _ h => h) (Or.inl ⟨by rfl, ?_⟩) ?_ ?_
                 rotate_left
                 ·intro w'
                  go_simp
                  with_reducible rfl
                 rotate_left
                 ·simp only [Act.put, List.setIfInBounds_toArray, List.set_cons_zero, List.set_cons_succ, i64_w, i32_w]
                  rfl
                 refine pure_ (i := 8) (N := some 44) (v := ?_) (a' := ?_) #[true, true, true, true, true, true, true, true, true, false, false, false, false, false, false, false, false] rfl rfl (any_of HT_.out (by kernel_rfl)) (fun _ _ _ h => h) (Or.inl ⟨by rfl, ?_⟩) ?_ ?_
                 rotate_left
                 ·intro w'
                  go_simp
                  with_reducible rfl
                 rotate_left
                 ·simp only [Act.put, List.setIfInBounds_toArray, List.set_cons_zero, List.set_cons_succ, i64_w, i32_w]
                  rfl
                 refine pure_ (i := 9) (N := some 45) (v := ?_) (a' := ?_) #[true, true, true, true, true, true, true, true, true, true, false, false, false, false, false, false, false] rfl rfl (any_of HT_.out (by kernel_rfl)) (fun _ _ _ h => h) (Or.inl ⟨by rfl, ?_⟩) ?_ ?_
                 rotate_left
                 ·intro w'
                  go_simp
                  with_reducible rfl
                 rotate_left
                 ·simp only [Act.put, List.setIfInBounds_toArray, List.set_cons_zero, List.set_cons_succ, i64_w, i32_w]
                  rfl
                 refine pure_ (i := 10) (N := some 46) (v := ?_) (a' := ?_) #[true, true, true, true, true, true, true, true, true, true, true, false, false, false, false, false, false] rfl rfl (any_of HT_.out (by kernel_rfl)) (fun _ _ _ h => h) (Or.inl ⟨by rfl, ?_⟩) ?_ ?_
                 rotate_left
                 ·intro w'
                  go_simp
                  with_reducible rfl
                 rotate_left
                 ·simp only [Act.put, List.setIfInBounds_toArray, List.set_cons_zero, List.set_cons_succ, i64_w, i32_w]
                  rfl
                 refine pure_ (i := 11) (N := some 47) (v := ?_) (a' := ?_) #[true, true, true, true, true, true, true, true, true, true, true, true, false, false, false, false, false] rfl rfl (any_of HT_.out (by kernel_rfl)) (fun _ _ _ h => h) (Or.inl ⟨by rfl, ?_⟩) ?_ ?_
                 rotate_left
                 ·intro w'
                  go_simp
                  with_reducible rfl
                 rotate_left
                 ·simp only [Act.put, List.setIfInBounds_toArray, List.set_cons_zero, List.set_cons_succ, i64_w, i32_w]
                  rfl
                 refine pure_ (i := 13) (N := some 49) (v := ?_) (a' := ?_) #[true, true, true, true, true, true, true, true, true, true, true, true, false, true, false, false, false] rfl rfl (any_of HT_.out (by kernel_rfl)) (fun _ _ _ h => h) (Or.inl ⟨by rfl, ?_⟩) ?_ ?_
                 rotate_left
                 ·intro w'
                  go_simp
                  with_reducible rfl
                 rotate_left
                 ·simp only [Act.put, List.setIfInBounds_toArray, List.set_cons_zero, List.set_cons_succ, i64_w, i32_w]
                  rfl
                 refine take_ (i := 12) (N := some 48) (v := ?_) (a' := ?_) #[true, true, true, true, true, true, true, true, true, true, true, true, true, true, false, false, false] rfl rfl (take_ofW HT_.out HW_.out (by kernel_rfl)) (fun _ _ _ h => h) (Or.inl ⟨by rfl, ?_⟩) hHeld ?_ ?_
                 rotate_left
                 ·rintro w' ⟨s0, s1, s2, s3, s4, s5⟩
                  go_simp
                  with_reducible rfl
                 rotate_left
                 ·simp only [Act.put, List.setIfInBounds_toArray, List.set_cons_zero, List.set_cons_succ, i64_w, i32_w]
                  rfl
                 refine take_ (i := 14) (N := some 50) (v := ?_) (a' := ?_) #[true, true, true, true, true, true, true, true, true, true, true, true, true, true, true, false, false] rfl rfl (take_ofW HT_.out HW_.out (by kernel_rfl)) (fun _ _ _ h => h) (Or.inl ⟨by rfl, ?_⟩) hHeld ?_ ?_
                 rotate_left
                 ·rintro w' ⟨s0, s1, s2, s3, s4, s5⟩
                  go_simp
                  with_reducible rfl
                 rotate_left
                 ·simp only [Act.put, List.setIfInBounds_toArray, List.set_cons_zero, List.set_cons_succ, i64_w, i32_w]
                  rfl
                 refine one_ (i := 15) (N := some 51) #[true, true, true, true, true, true, true, true, true, true, true, true, true, true, true, true, false] rfl rfl (one_of HT_.out (by kernel_rfl)) (by decide) (fun K hK => ?_)
                 refine goes_ Try.func54 (by kernel_rfl) rfl #[.agg #[.slice A341_0 ((rd_T50 l0 x4_2).f0).length c341_0, .slice A341_1 ((rd_T50 l0 x4_2).f1).length c341_1], .string ((rd_T55 ((rd_T50 l0 x3_1).f0) x5_3).f0), .int .i64 1, .int .i64 2] (by rfl) rfl rfl (by (try simp only [List.map_toArray, List.map_cons, List.map_nil]); first | done | rfl | (simp only [List.length_drop, List.length_take]; rfl)) ?_
                 with_reducible refine (arlinkref22_has.calls k3 _ _ ((rd_T50 l0 x4_2).f0) _ _ ((rd_T50 l0 x4_2).f1) ((rd_T55 ((rd_T50 l0 x3_1).f0) x5_3).f0) 1 2 false _ ?side1 ?side2 ?side3 ?side4 A11.out).mono ?_
                 (case side1 => repeat (first | exact (Kd.C_below HR341_0.out HB.out) | (with_reducible refine Kd.C_alloc ?_ _) | (with_reducible refine Kd.C_drewN ?_ _) | (with_reducible refine Kd.C_drew ?_)))
                 (case side2 => exact HC341_0.out)
                 (case side3 => repeat (first | exact (Kd.C_below HR341_1.out HB.out) | (with_reducible refine Kd.C_alloc ?_ _) | (with_reducible refine Kd.C_drewN ?_ _) | (with_reducible refine Kd.C_drew ?_)))
                 (case side4 => exact HC341_1.out)
                 rintro e w22 ⟨rfl, hb⟩
                 refine ⟨_, rfl, ?_⟩
                 have n0_ := Aside0.mk (blk_below (g := gb340) (o := .cells #[.string ((rd_T55 ((rd_T50 l0 x3_1).f0) x5_3).f0), .int .i64 ((rd_T55 ((rd_T50 l0 x3_1).f0) x5_3).f1), .int .i64 ((rd_T55 ((rd_T50 l0 x3_1).f0) x5_3).f2), .int .i64 ((rd_T55 ((rd_T50 l0 x3_1).f0) x5_3).f3)] 55 (0, 0)) (by (with_reducible repeat (first | refine blk_drewN ?_ _ | refine blk_drew ?_ | refine blk_alloc ?_ _)); exact BK340.out) hb)
                 have n1_ := Aside0.mk (below_step (by repeat (first | (with_reducible first | exact HB.out | apply below_alloc | apply pw_below_drewN | apply below_drew1 | refine below_set ?_ GE340.out) | exact HB.out)) hb)
                 clear BK340
                 clear HB
                 have BK340 := n0_
                 have HB := n1_
                 clear n0_ n1_
                 (try clear hb)
                 (try clear hb2)
                 (try clear hk)
                 (try clear hi)
                 refine hK.out _ _ ⟨(blk_cell BK340.out 0).trans rfl, (blk_cell BK340.out 1).trans rfl, (blk_cell BK340.out 2).trans rfl, (blk_cell BK340.out 3).trans rfl, ((HB.out.cell (World.block_lt_of_cell? w _ hw341_0)).trans hw341_0), ((HB.out.cell (World.block_lt_of_cell? w _ hw341_1)).trans hw341_1)⟩ (fun hHeld => ?_)
                 clear hK K
                 refine norm_ (a' := ?_) ?_ ?_
                 rotate_left
                 ·show Act.put _ (some 51) _ = _
                  simp only [Act.put, List.setIfInBounds_toArray, List.set_cons_zero, List.set_cons_succ, i64_w, i32_w]
                  rfl
                 refine pure_ (i := 16) (N := some 52) (v := ?_) (a' := ?_) #[true, true, true, true, true, true, true, true, true, true, true, true, true, true, true, true, true] rfl rfl (any_of HT_.out (by kernel_rfl)) (fun _ _ _ h => h) (Or.inl ⟨by rfl, ?_⟩) ?_ ?_
                 rotate_left
                 ·intro w'
                  go_simp
                  with_reducible rfl
                 rotate_left
                 ·simp only [Act.put, List.setIfInBounds_toArray, List.set_cons_zero, List.set_cons_succ, i64_w, i32_w]
                  rfl
                 refine done_ (done_of HT_.out (by kernel_rfl)) ?_
                 try go_wp2
                 go_roundg k3
                 case measure => have := HK1.out; have := HK2.out; have := HK3.out; omega
                 case rel => exact ⟨(wrap64 (x5_3 + 1)), (by first | rfl | (simp; done) | (simp [*]; done)), H', ⟨by have := HK1.out; have := HK2.out; have := HK3.out; omega⟩, ⟨by repeat (first | (with_reducible first | exact HB.out | apply below_alloc | apply pw_below_drewN | apply below_drew1 | refine below_set ?_ GE340.out) | exact HB.out)⟩⟩
               ·rw [if_neg c10] at H
                exact absurd H (by simp)
              ·rw [if_neg c9] at H
               exact absurd H (by simp)
             ·rw [if_neg c8] at H
              have c8b0 : (((rd_T55 ((rd_T50 l0 x3_1).f0) x5_3).f1) == 1) = false := beq_eq_false_iff_ne.mpr c8
              have c8b1 : (((rd_T55 ((rd_T50 l0 x3_1).f0) x5_3).f1) != 1) = true := bne_iff_ne.mpr c8
              by_cases c23 : ((rd_T55 ((rd_T50 l0 x3_1).f0) x5_3).f1) = 2
              ·rw [if_pos c23] at H
               have c23b0 : (((rd_T55 ((rd_T50 l0 x3_1).f0) x5_3).f1) == 2) = true := beq_iff_eq.mpr c23
               have c23b1 : (((rd_T55 ((rd_T50 l0 x3_1).f0) x5_3).f1) != 2) = false := bne_eq_false_iff_eq.mpr c23
               clear c23
               by_cases c24 : 0 ≤ x4_2
               ·rw [if_pos c24] at H
                have c24b0 : decide (0 ≤ x4_2) = true := decide_eq_true c24
                clear c24
                by_cases c25 : x4_2 < (l0.length : Int)
                ·rw [if_pos c25] at H
                 have c25b0 : decide (x4_2 < (l0.length : Int)) = true := decide_eq_true c25
                 clear c25
                 replace H := Option.bind_eq_some_iff.mp H
                 obtain ⟨t344, A260, H⟩ := H
                 replace H : (if t344 = true then (some false) else (arlinkref22_Unique.l2 k3 l0 x3_1 x4_2 (wrap64 (x5_3 + 1)))) = some r := H
                 have A26 := Aside0.mk A260
                 clear A260
                 by_cases c27 : t344 = true
                 ·subst c27
                  have H1 : (some false) = some r := by rw [if_pos rfl] at H; exact H
                  clear H
                  have H := H1
                  clear H1
                  obtain rfl := Option.some.inj H
                  have p337 : 0 ≤ (x3_1 : Int) := of_decide_eq_true (by first | (with_reducible assumption) | assumption)
                  have q337 : x3_1 < (l0.length : Int) := of_decide_eq_true (by first | (with_reducible assumption) | assumption)
                  obtain ⟨ad337, A337_0, c337_0, A337_1, c337_1, e337, hx337_0, hx337_1, hl337_0, hi337_0, hl337_1, hi337_1⟩ := at_T50 HR0.out x3_1 p337 q337
                  cases e337
                  replace hx337_0 := (HB.out.cell (World.block_lt_of_cell? w _ hx337_0)).trans hx337_0
                  replace hx337_1 := (HB.out.cell (World.block_lt_of_cell? w _ hx337_1)).trans hx337_1
                  have HR337_0 := Aside0.mk hi337_0
                  have HC337_0 := Aside0.mk hl337_0
                  clear hi337_0 hl337_0
                  have HR337_1 := Aside0.mk hi337_1
                  have HC337_1 := Aside0.mk hl337_1
                  clear hi337_1 hl337_1
                  replace p337 := eq_true p337
                  replace q337 := eq_true q337
                  have p338 : 0 ≤ (x3_1 : Int) := of_decide_eq_true (by first | (with_reducible assumption) | assumption)
                  have q338 : x3_1 < (l0.length : Int) := of_decide_eq_true (by first | (with_reducible assumption) | assumption)
                  obtain ⟨ad338, A338_0, c338_0, A338_1, c338_1, e338, hx338_0, hx338_1, hl338_0, hi338_0, hl338_1, hi338_1⟩ := at_T50 HR0.out x3_1 p338 q338
                  obtain rfl : ad337 = ad338 := (by injection e338)
                  replace hx338_0 := (HB.out.cell (World.block_lt_of_cell? w _ hx338_0)).trans hx338_0
                  replace hx338_1 := (HB.out.cell (World.block_lt_of_cell? w _ hx338_1)).trans hx338_1
                  have HR338_0 := Aside0.mk hi338_0
                  have HC338_0 := Aside0.mk hl338_0
                  clear hi338_0 hl338_0
                  have HR338_1 := Aside0.mk hi338_1
                  have HC338_1 := Aside0.mk hl338_1
                  clear hi338_1 hl338_1
                  replace p338 := eq_true p338
                  replace q338 := eq_true q338
                  have ea_ := Option.some.inj (hx337_0.symm.trans hx338_0)
                  injection ea_ with ea_ en_ ec_
                  subst ea_
                  subst ec_
                  clear en_
                  have ea_ := Option.some.inj (hx337_1.symm.trans hx338_1)
                  injection ea_ with ea_ en_ ec_
                  subst ea_
                  subst ec_
                  clear en_
                  have p339 : 0 ≤ (x5_3 : Int) := of_decide_eq_true (by first | (with_reducible assumption) | assumption)
                  have q339 : x5_3 < (((rd_T50 l0 x3_1).f0).length : Int) := of_decide_eq_true (by first | (with_reducible assumption) | assumption)
                  obtain ⟨ad339, e339, hx339_0, hx339_1, hx339_2, hx339_3⟩ := at_T55 HR338_0.out x5_3 p339 q339
                  cases e339
                  replace hx339_0 := (HB.out.cell (World.block_lt_of_cell? w _ hx339_0)).trans hx339_0
                  replace hx339_1 := (HB.out.cell (World.block_lt_of_cell? w _ hx339_1)).trans hx339_1
                  replace hx339_2 := (HB.out.cell (World.block_lt_of_cell? w _ hx339_2)).trans hx339_2
                  replace hx339_3 := (HB.out.cell (World.block_lt_of_cell? w _ hx339_3)).trans hx339_3
                  replace p339 := eq_true p339
                  replace q339 := eq_true q339
                  try go_wp2_with (first | ((with_reducible refine gate_dst (N := 6) rfl ?_); refine box_event ?hg (N := 6) ?hd (cs := #[.string (⟨#[]⟩ : ByteArray), .int .i64 0, .int .i64 0, .int .i64 0]) (t := 55) ?hr ?_; (case hd => rfl); (case hg => rfl); (case hr => first | (go_simp; done) | (go_simp; rfl)); intro gb340 hg w28 hbox hb; have n0_ := Aside0.mk (below_step (by repeat (first | (with_reducible first | exact HB.out | apply below_alloc | apply pw_below_drewN | apply below_drew1) | exact HB.out)) hb); have n1_ := Aside0.mk (hbox); have n2_ := Aside0.mk ((by rw [hg]; exact (below_size (by repeat (first | (with_reducible first | exact HB.out | apply below_alloc | apply pw_below_drewN | apply below_drew1) | exact HB.out))) : w.heap.size ≤ gb340)); have n3_ := Aside0.mk ((by rw [hg]; exact (below_size (by repeat (first | (with_reducible first | exact HB.out | apply below_alloc | apply pw_below_drewN | apply below_drew1) | exact HB.out))) : w.heap.size ≤ gb340)); clear HB; have HB := n0_; have BK340 := n1_; have GW340 := n2_; have GE340 := n3_; clear n0_ n1_ n2_ n3_; clear hb hbox hg; have hcz29_0 : w28.cell? ⟨gb340, 0, none⟩ = some (.string (⟨#[]⟩ : ByteArray)) := (blk_cell BK340.out 0).trans rfl; have hcz29_1 : w28.cell? ⟨gb340, 1, none⟩ = some (.int .i64 0) := (blk_cell BK340.out 1).trans rfl; have hcz29_2 : w28.cell? ⟨gb340, 2, none⟩ = some (.int .i64 0) := (blk_cell BK340.out 2).trans rfl; have hcz29_3 : w28.cell? ⟨gb340, 3, none⟩ = some (.int .i64 0) := (blk_cell BK340.out 3).trans rfl; have hfz29_0 := blk_frozen BK340.out 0; have hfz29_1 := blk_frozen BK340.out 1; have hfz29_2 := blk_frozen BK340.out 2; have hfz29_3 := blk_frozen BK340.out 3))
                  have n0_ : Aside0 (((((w28.setCell ⟨gb340, 0, none⟩ (.string ((rd_T55 ((rd_T50 l0 x3_1).f0) x5_3).f0))).setCell ⟨gb340, 1, none⟩ (.int .i64 ((rd_T55 ((rd_T50 l0 x3_1).f0) x5_3).f1))).setCell ⟨gb340, 2, none⟩ (.int .i64 ((rd_T55 ((rd_T50 l0 x3_1).f0) x5_3).f2))).setCell ⟨gb340, 3, none⟩ (.int .i64 ((rd_T55 ((rd_T50 l0 x3_1).f0) x5_3).f3))).heap[gb340]? = some (.cells #[.string ((rd_T55 ((rd_T50 l0 x3_1).f0) x5_3).f0), .int .i64 ((rd_T55 ((rd_T50 l0 x3_1).f0) x5_3).f1), .int .i64 ((rd_T55 ((rd_T50 l0 x3_1).f0) x5_3).f2), .int .i64 ((rd_T55 ((rd_T50 l0 x3_1).f0) x5_3).f3)] 55 (0, 0))) := ⟨by (with_reducible repeat (first | refine blk_drewN ?_ _ | refine blk_drew ?_ | refine blk_alloc ?_ _)); refine blk_put (cs := #[.string ((rd_T55 ((rd_T50 l0 x3_1).f0) x5_3).f0), .int .i64 ((rd_T55 ((rd_T50 l0 x3_1).f0) x5_3).f1), .int .i64 ((rd_T55 ((rd_T50 l0 x3_1).f0) x5_3).f2), .int .i64 0]) ?_ 3 _ rfl; (with_reducible repeat (first | refine blk_drewN ?_ _ | refine blk_drew ?_ | refine blk_alloc ?_ _)); refine blk_put (cs := #[.string ((rd_T55 ((rd_T50 l0 x3_1).f0) x5_3).f0), .int .i64 ((rd_T55 ((rd_T50 l0 x3_1).f0) x5_3).f1), .int .i64 0, .int .i64 0]) ?_ 2 _ rfl; (with_reducible repeat (first | refine blk_drewN ?_ _ | refine blk_drew ?_ | refine blk_alloc ?_ _)); refine blk_put (cs := #[.string ((rd_T55 ((rd_T50 l0 x3_1).f0) x5_3).f0), .int .i64 0, .int .i64 0, .int .i64 0]) ?_ 1 _ rfl; (with_reducible repeat (first | refine blk_drewN ?_ _ | refine blk_drew ?_ | refine blk_alloc ?_ _)); refine blk_put (cs := #[.string (⟨#[]⟩ : ByteArray), .int .i64 0, .int .i64 0, .int .i64 0]) ?_ 0 _ rfl; (with_reducible repeat (first | refine blk_drewN ?_ _ | refine blk_drew ?_ | refine blk_alloc ?_ _)); exact BK340.out⟩
                  have n1_ : Aside0 (Below w.heap.size w ((((w28.setCell ⟨gb340, 0, none⟩ (.string ((rd_T55 ((rd_T50 l0 x3_1).f0) x5_3).f0))).setCell ⟨gb340, 1, none⟩ (.int .i64 ((rd_T55 ((rd_T50 l0 x3_1).f0) x5_3).f1))).setCell ⟨gb340, 2, none⟩ (.int .i64 ((rd_T55 ((rd_T50 l0 x3_1).f0) x5_3).f2))).setCell ⟨gb340, 3, none⟩ (.int .i64 ((rd_T55 ((rd_T50 l0 x3_1).f0) x5_3).f3)))) := ⟨by repeat (first | (with_reducible first | exact HB.out | apply below_alloc | apply pw_below_drewN | apply below_drew1 | refine below_set ?_ GE340.out) | exact HB.out)⟩
                  (try clear BK340)
                  (try clear HB)
                  generalize ((((w28.setCell ⟨gb340, 0, none⟩ (.string ((rd_T55 ((rd_T50 l0 x3_1).f0) x5_3).f0))).setCell ⟨gb340, 1, none⟩ (.int .i64 ((rd_T55 ((rd_T50 l0 x3_1).f0) x5_3).f1))).setCell ⟨gb340, 2, none⟩ (.int .i64 ((rd_T55 ((rd_T50 l0 x3_1).f0) x5_3).f2))).setCell ⟨gb340, 3, none⟩ (.int .i64 ((rd_T55 ((rd_T50 l0 x3_1).f0) x5_3).f3))) = w30 at n0_ n1_ ⊢
                  have BK340 := n0_
                  have HB := n1_
                  clear n0_ n1_
                  have n0_ := Aside0.mk (blk_drew BK340.out)
                  have n1_ := Aside0.mk (below_drew1 HB.out)
                  clear BK340
                  clear HB
                  have BK340 := n0_
                  have HB := n1_
                  clear n0_ n1_
                  have p343 : 0 ≤ (x4_2 : Int) := of_decide_eq_true (by first | (with_reducible assumption) | assumption)
                  have q343 : x4_2 < (l0.length : Int) := of_decide_eq_true (by first | (with_reducible assumption) | assumption)
                  obtain ⟨ad343, A343_0, c343_0, A343_1, c343_1, e343, hx343_0, hx343_1, hl343_0, hi343_0, hl343_1, hi343_1⟩ := at_T50 HR0.out x4_2 p343 q343
                  have hw343_1 := hx343_1
                  have hw343_0 := hx343_0
                  obtain rfl : ad337 = ad343 := (by injection e343)
                  replace hx343_0 := (HB.out.cell (World.block_lt_of_cell? w _ hx343_0)).trans hx343_0
                  replace hx343_1 := (HB.out.cell (World.block_lt_of_cell? w _ hx343_1)).trans hx343_1
                  have HR343_0 := Aside0.mk hi343_0
                  have HC343_0 := Aside0.mk hl343_0
                  clear hi343_0 hl343_0
                  have HR343_1 := Aside0.mk hi343_1
                  have HC343_1 := Aside0.mk hl343_1
                  clear hi343_1 hl343_1
                  replace p343 := eq_true p343
                  replace q343 := eq_true q343
                  refine start_ (n := 17) (S := fun w' => w'.cell? ⟨gb340, 0, none⟩ = some (.string ((rd_T55 ((rd_T50 l0 x3_1).f0) x5_3).f0)) ∧ w'.cell? ⟨gb340, 1, none⟩ = some (.int .i64 ((rd_T55 ((rd_T50 l0 x3_1).f0) x5_3).f1)) ∧ w'.cell? ⟨gb340, 2, none⟩ = some (.int .i64 ((rd_T55 ((rd_T50 l0 x3_1).f0) x5_3).f2)) ∧ w'.cell? ⟨gb340, 3, none⟩ = some (.int .i64 ((rd_T55 ((rd_T50 l0 x3_1).f0) x5_3).f3)) ∧ w'.cell? (ad337.add ((x4_2).toNat * 2)) = some (.slice A343_0 ((rd_T50 l0 x4_2).f0).length c343_0) ∧ w'.cell? ⟨(ad337.add ((x4_2).toNat * 2)).block, (ad337.add ((x4_2).toNat * 2)).off + 1, none⟩ = some (.slice A343_1 ((rd_T50 l0 x4_2).f1).length c343_1)) (ds := []) #[false, false, false, false, false, false, false, false, false, false, false, false, false, false, false, false, false] (by kernel_rfl) rfl rfl ⟨(blk_cell BK340.out 0).trans rfl, (blk_cell BK340.out 1).trans rfl, (blk_cell BK340.out 2).trans rfl, (blk_cell BK340.out 3).trans rfl, ((HB.out.cell (World.block_lt_of_cell? w _ hw343_0)).trans hw343_0), ((HB.out.cell (World.block_lt_of_cell? w _ hw343_1)).trans hw343_1)⟩ (fun hHeld => ?_); refine with_tabW arlinkref22_Unique.tab11 arlinkref22_Unique.bits11 (fun HT_ HW_ => ?_)
                  generalize w30.drew = w31 at BK340 HB HR343_0 HR343_1 hx343_0 hx343_1 hHeld ⊢
                  refine pure_ (i := 0) (N := some 36) (v := ?_) (a' := ?_) #[true, false, false, false, false, false, false, false, false, false, false, false, false, false, false, false, false] rfl rfl (any_of HT_.out (by kernel_rfl)) (fun _ _ _ h => h) (Or.inl ⟨by rfl, ?_⟩) ?_ ?_
                  rotate_left
                  ·intro w'
                   go_simp
                   with_reducible rfl
                  rotate_left
                  ·simp only [Act.put, List.setIfInBounds_toArray, List.set_cons_zero, List.set_cons_succ, i64_w, i32_w]
                   rfl
                  refine take_ (i := 1) (N := some 37) (v := ?_) (a' := ?_) #[true, true, false, false, false, false, false, false, false, false, false, false, false, false, false, false, false] rfl rfl (take_ofW HT_.out HW_.out (by kernel_rfl)) (fun _ _ _ h => h) (Or.inl ⟨by rfl, ?_⟩) hHeld ?_ ?_
                  rotate_left
                  ·rintro w' ⟨s0, s1, s2, s3, s4, s5⟩
                   go_simp
                   with_reducible rfl
                  rotate_left
                  ·simp only [Act.put, List.setIfInBounds_toArray, List.set_cons_zero, List.set_cons_succ, i64_w, i32_w]
                   rfl
                  refine pure_ (i := 2) (N := some 38) (v := ?_) (a' := ?_) #[true, true, true, false, false, false, false, false, false, false, false, false, false, false, false, false, false] rfl rfl (any_of HT_.out (by kernel_rfl)) (fun _ _ _ h => h) (Or.inl ⟨by rfl, ?_⟩) ?_ ?_
                  rotate_left
                  ·intro w'
                   go_simp
                   with_reducible rfl
                  rotate_left
                  ·simp only [Act.put, List.setIfInBounds_toArray, List.set_cons_zero, List.set_cons_succ, i64_w, i32_w]
                   rfl
                  refine pure_ (i := 3) (N := some 39) (v := ?_) (a' := ?_) #[true, true, true, true, false, false, false, false, false, false, false, false, false, false, false, false, false] rfl rfl (any_of HT_.out (by kernel_rfl)) (fun _ _ _ h => h) (Or.inl ⟨by rfl, ?_⟩) ?_ ?_
                  rotate_left
                  ·intro w'
                   go_simp
                   with_reducible rfl
                  rotate_left
                  ·simp only [Act.put, List.setIfInBounds_toArray, List.set_cons_zero, List.set_cons_succ, i64_w, i32_w]
                   rfl
                  refine pure_ (i := 4) (N := some 40) (v := ?_) (a' := ?_) #[true, true, true, true, true, false, false, false, false, false, false, false, false, false, false, false, false] rfl rfl (any_of HT_.out (by kernel_rfl)) (fun _ _ _ h => h) (Or.inl ⟨by rfl, ?_⟩) ?_ ?_
                  rotate_left
                  ·intro w'
                   go_simp
                   with_reducible rfl
                  rotate_left
                  ·simp only [Act.put, List.setIfInBounds_toArray, List.set_cons_zero, List.set_cons_succ, i64_w, i32_w]
                   rfl
                  refine take_ (i := 5) (N := some 41) (v := ?_) (a' := ?_) #[true, true, true, true, true, true, false, false, false, false, false, false, false, false, false, false, false] rfl rfl (take_ofW HT_.out HW_.out (by kernel_rfl)) (fun _ _ _ h => h) (Or.inl ⟨by rfl, ?_⟩) hHeld ?_ ?_
                  rotate_left
                  ·rintro w' ⟨s0, s1, s2, s3, s4, s5⟩
                   go_simp
                   with_reducible rfl
                  rotate_left
                  ·simp only [Act.put, List.setIfInBounds_toArray, List.set_cons_zero, List.set_cons_succ, i64_w, i32_w]
                   rfl
                  refine pure_ (i := 6) (N := some 42) (v := ?_) (a' := ?_) #[true, true, true, true, true, true, true, false, false, false, false, false, false, false, false, false, false] rfl rfl (any_of HT_.out (by kernel_rfl)) (fun _ _ _ h => h) (Or.inl ⟨by rfl, ?_⟩) ?_ ?_
                  rotate_left
                  ·intro w'
                   go_simp
                   with_reducible rfl
                  rotate_left
                  ·simp only [Act.put, List.setIfInBounds_toArray, List.set_cons_zero, List.set_cons_succ, i64_w, i32_w]
                   rfl
                  refine pure_ (i := 7) (N := some 43) (v := ?_) (a' := ?_) #[true, true, true, true, true, true, true, true, false, false, false, false, false, false, false, false, false] rfl rfl (any_of HT_.out (by kernel_rfl)) (fun _ _ _ h => h) (Or.inl ⟨by rfl, ?_⟩) ?_ ?_
                  rotate_left
                  ·intro w'
                   go_simp
                   with_reducible rfl
                  rotate_left
                  ·simp only [Act.put, List.setIfInBounds_toArray, List.set_cons_zero, List.set_cons_succ, i64_w, i32_w]
                   rfl
                  refine pure_ (i := 8) (N := some 44) (v := ?_) (a' := ?_) #[true, true, true, true, true, true, true, true, true, false, false, false, false, false, false, false, false] rfl rfl (any_of HT_.out (by kernel_rfl)) (fun _ _ _ h => h) (Or.inl ⟨by rfl, ?_⟩) ?_ ?_
                  rotate_left
                  ·intro w'
                   go_simp
                   with_reducible rfl
                  rotate_left
                  ·simp only [Act.put, List.setIfInBounds_toArray, List.set_cons_zero, List.set_cons_succ, i64_w, i32_w]
                   rfl
                  refine pure_ (i := 9) (N := some 45) (v := ?_) (a' := ?_) #[true, true, true, true, true, true, true, true, true, true, false, false, false, false, false, false, false] rfl rfl (any_of HT_.out (by kernel_rfl)) (fun _ _ _ h => h) (Or.inl ⟨by rfl, ?_⟩) ?_ ?_
                  rotate_left
                  ·intro w'
                   go_simp
                   with_reducible rfl
                  rotate_left
                  ·simp only [Act.put, List.setIfInBounds_toArray, List.set_cons_zero, List.set_cons_succ, i64_w, i32_w]
                   rfl
                  refine pure_ (i := 10) (N := some 46) (v := ?_) (a' := ?_) #[true, true, true, true, true, true, true, true, true, true, true, false, false, false, false, false, false] rfl rfl (any_of HT_.out (by kernel_rfl)) (fun _ _ _ h => h) (Or.inl ⟨by rfl, ?_⟩) ?_ ?_
                  rotate_left
                  ·intro w'
                   go_simp
                   with_reducible rfl
                  rotate_left
                  ·simp only [Act.put, List.setIfInBounds_toArray, List.set_cons_zero, List.set_cons_succ, i64_w, i32_w]
                   rfl
                  refine pure_ (i := 11) (N := some 47) (v := ?_) (a' := ?_) #[true, true, true, true, true, true, true, true, true, true, true, true, false, false, false, false, false] rfl rfl (any_of HT_.out (by kernel_rfl)) (fun _ _ _ h => h) (Or.inl ⟨by rfl, ?_⟩) ?_ ?_
                  rotate_left
                  ·intro w'
                   go_simp
                   with_reducible rfl
                  rotate_left
                  ·simp only [Act.put, List.setIfInBounds_toArray, List.set_cons_zero, List.set_cons_succ, i64_w, i32_w]
                   rfl
                  refine pure_ (i := 13) (N := some 49) (v := ?_) (a' := ?_) #[true, true, true, true, true, true, true, true, true, true, true, true, false, true, false, false, false] rfl rfl (any_of HT_.out (by kernel_rfl)) (fun _ _ _ h => h) (Or.inl ⟨by rfl, ?_⟩) ?_ ?_
                  rotate_left
                  ·intro w'
                   go_simp
                   with_reducible rfl
                  rotate_left
                  ·simp only [Act.put, List.setIfInBounds_toArray, List.set_cons_zero, List.set_cons_succ, i64_w, i32_w]
                   rfl
                  refine take_ (i := 12) (N := some 48) (v := ?_) (a' := ?_) #[true, true, true, true, true, true, true, true, true, true, true, true, true, true, false, false, false] rfl rfl (take_ofW HT_.out HW_.out (by kernel_rfl)) (fun _ _ _ h => h) (Or.inl ⟨by rfl, ?_⟩) hHeld ?_ ?_
                  rotate_left
                  ·rintro w' ⟨s0, s1, s2, s3, s4, s5⟩
                   go_simp
                   with_reducible rfl
                  rotate_left
                  ·simp only [Act.put, List.setIfInBounds_toArray, List.set_cons_zero, List.set_cons_succ, i64_w, i32_w]
                   rfl
                  refine take_ (i := 14) (N := some 50) (v := ?_) (a' := ?_) #[true, true, true, true, true, true, true, true, true, true, true, true, true, true, true, false, false] rfl rfl (take_ofW HT_.out HW_.out (by kernel_rfl)) (fun _ _ _ h => h) (Or.inl ⟨by rfl, ?_⟩) hHeld ?_ ?_
                  rotate_left
                  ·rintro w' ⟨s0, s1, s2, s3, s4, s5⟩
                   go_simp
                   with_reducible rfl
                  rotate_left
                  ·simp only [Act.put, List.setIfInBounds_toArray, List.set_cons_zero, List.set_cons_succ, i64_w, i32_w]
                   rfl
                  refine one_ (i := 15) (N := some 51) #[true, true, true, true, true, true, true, true, true, true, true, true, true, true, true, true, false] rfl rfl (one_of HT_.out (by kernel_rfl)) (by decide) (fun K hK => ?_)
                  refine goes_ Try.func54 (by kernel_rfl) rfl #[.agg #[.slice A343_0 ((rd_T50 l0 x4_2).f0).length c343_0, .slice A343_1 ((rd_T50 l0 x4_2).f1).length c343_1], .string ((rd_T55 ((rd_T50 l0 x3_1).f0) x5_3).f0), .int .i64 1, .int .i64 2] (by rfl) rfl rfl (by (try simp only [List.map_toArray, List.map_cons, List.map_nil]); first | done | rfl | (simp only [List.length_drop, List.length_take]; rfl)) ?_
                  with_reducible refine (arlinkref22_has.calls k3 _ _ ((rd_T50 l0 x4_2).f0) _ _ ((rd_T50 l0 x4_2).f1) ((rd_T55 ((rd_T50 l0 x3_1).f0) x5_3).f0) 1 2 true _ ?side1 ?side2 ?side3 ?side4 A26.out).mono ?_
                  (case side1 => repeat (first | exact (Kd.C_below HR343_0.out HB.out) | (with_reducible refine Kd.C_alloc ?_ _) | (with_reducible refine Kd.C_drewN ?_ _) | (with_reducible refine Kd.C_drew ?_)))
                  (case side2 => exact HC343_0.out)
                  (case side3 => repeat (first | exact (Kd.C_below HR343_1.out HB.out) | (with_reducible refine Kd.C_alloc ?_ _) | (with_reducible refine Kd.C_drewN ?_ _) | (with_reducible refine Kd.C_drew ?_)))
                  (case side4 => exact HC343_1.out)
                  rintro e w32 ⟨rfl, hb⟩
                  refine ⟨_, rfl, ?_⟩
                  have n0_ := Aside0.mk (blk_below (g := gb340) (o := .cells #[.string ((rd_T55 ((rd_T50 l0 x3_1).f0) x5_3).f0), .int .i64 ((rd_T55 ((rd_T50 l0 x3_1).f0) x5_3).f1), .int .i64 ((rd_T55 ((rd_T50 l0 x3_1).f0) x5_3).f2), .int .i64 ((rd_T55 ((rd_T50 l0 x3_1).f0) x5_3).f3)] 55 (0, 0)) (by (with_reducible repeat (first | refine blk_drewN ?_ _ | refine blk_drew ?_ | refine blk_alloc ?_ _)); exact BK340.out) hb)
                  have n1_ := Aside0.mk (below_step (by repeat (first | (with_reducible first | exact HB.out | apply below_alloc | apply pw_below_drewN | apply below_drew1 | refine below_set ?_ GE340.out) | exact HB.out)) hb)
                  clear BK340
                  clear HB
                  have BK340 := n0_
                  have HB := n1_
                  clear n0_ n1_
                  (try clear hb)
                  (try clear hb2)
                  (try clear hk)
                  (try clear hi)
                  refine hK.out _ _ ⟨(blk_cell BK340.out 0).trans rfl, (blk_cell BK340.out 1).trans rfl, (blk_cell BK340.out 2).trans rfl, (blk_cell BK340.out 3).trans rfl, ((HB.out.cell (World.block_lt_of_cell? w _ hw343_0)).trans hw343_0), ((HB.out.cell (World.block_lt_of_cell? w _ hw343_1)).trans hw343_1)⟩ (fun hHeld => ?_)
                  clear hK K
                  refine norm_ (a' := ?_) ?_ ?_
                  rotate_left
                  ·show Act.put _ (some 51) _ = _
                   simp only [Act.put, List.setIfInBounds_toArray, List.set_cons_zero, List.set_cons_succ, i64_w, i32_w]
                   rfl
                  refine pure_ (i := 16) (N := some 52) (v := ?_) (a' := ?_) #[true, true, true, true, true, true, true, true, true, true, true, true, true, true, true, true, true] rfl rfl (any_of HT_.out (by kernel_rfl)) (fun _ _ _ h => h) (Or.inl ⟨by rfl, ?_⟩) ?_ ?_
                  rotate_left
                  ·intro w'
                   go_simp
                   with_reducible rfl
                  rotate_left
                  ·simp only [Act.put, List.setIfInBounds_toArray, List.set_cons_zero, List.set_cons_succ, i64_w, i32_w]
                   rfl
                  refine done_ (done_of HT_.out (by kernel_rfl)) ?_
                  try go_wp2
                  go_ret
                  exact ⟨by first | rfl | (simp [errW_none, errW_some] <;> rfl) | (simp [*, errW_none, errW_some] <;> rfl), by repeat (first | (with_reducible first | exact HB.out | apply below_alloc | apply pw_below_drewN | apply below_drew1 | refine below_set ?_ GE340.out) | exact HB.out)⟩
                 ·replace c27 := Bool.eq_false_iff.mpr c27
                  subst c27
                  have H1 : (arlinkref22_Unique.l2 k3 l0 x3_1 x4_2 (wrap64 (x5_3 + 1))) = some r := by rw [if_neg (show ¬ (false = true) by decide)] at H; exact H
                  clear H
                  have H := H1
                  clear H1
                  have H' := Aside0.mk H
                  clear H
                  have p337 : 0 ≤ (x3_1 : Int) := of_decide_eq_true (by first | (with_reducible assumption) | assumption)
                  have q337 : x3_1 < (l0.length : Int) := of_decide_eq_true (by first | (with_reducible assumption) | assumption)
                  obtain ⟨ad337, A337_0, c337_0, A337_1, c337_1, e337, hx337_0, hx337_1, hl337_0, hi337_0, hl337_1, hi337_1⟩ := at_T50 HR0.out x3_1 p337 q337
                  cases e337
                  replace hx337_0 := (HB.out.cell (World.block_lt_of_cell? w _ hx337_0)).trans hx337_0
                  replace hx337_1 := (HB.out.cell (World.block_lt_of_cell? w _ hx337_1)).trans hx337_1
                  have HR337_0 := Aside0.mk hi337_0
                  have HC337_0 := Aside0.mk hl337_0
                  clear hi337_0 hl337_0
                  have HR337_1 := Aside0.mk hi337_1
                  have HC337_1 := Aside0.mk hl337_1
                  clear hi337_1 hl337_1
                  replace p337 := eq_true p337
                  replace q337 := eq_true q337
                  have p338 : 0 ≤ (x3_1 : Int) := of_decide_eq_true (by first | (with_reducible assumption) | assumption)
                  have q338 : x3_1 < (l0.length : Int) := of_decide_eq_true (by first | (with_reducible assumption) | assumption)
                  obtain ⟨ad338, A338_0, c338_0, A338_1, c338_1, e338, hx338_0, hx338_1, hl338_0, hi338_0, hl338_1, hi338_1⟩ := at_T50 HR0.out x3_1 p338 q338
                  obtain rfl : ad337 = ad338 := (by injection e338)
                  replace hx338_0 := (HB.out.cell (World.block_lt_of_cell? w _ hx338_0)).trans hx338_0
                  replace hx338_1 := (HB.out.cell (World.block_lt_of_cell? w _ hx338_1)).trans hx338_1
                  have HR338_0 := Aside0.mk hi338_0
                  have HC338_0 := Aside0.mk hl338_0
                  clear hi338_0 hl338_0
                  have HR338_1 := Aside0.mk hi338_1
                  have HC338_1 := Aside0.mk hl338_1
                  clear hi338_1 hl338_1
                  replace p338 := eq_true p338
                  replace q338 := eq_true q338
                  have ea_ := Option.some.inj (hx337_0.symm.trans hx338_0)
                  injection ea_ with ea_ en_ ec_
                  subst ea_
                  subst ec_
                  clear en_
                  have ea_ := Option.some.inj (hx337_1.symm.trans hx338_1)
                  injection ea_ with ea_ en_ ec_
                  subst ea_
                  subst ec_
                  clear en_
                  have p339 : 0 ≤ (x5_3 : Int) := of_decide_eq_true (by first | (with_reducible assumption) | assumption)
                  have q339 : x5_3 < (((rd_T50 l0 x3_1).f0).length : Int) := of_decide_eq_true (by first | (with_reducible assumption) | assumption)
                  obtain ⟨ad339, e339, hx339_0, hx339_1, hx339_2, hx339_3⟩ := at_T55 HR338_0.out x5_3 p339 q339
                  cases e339
                  replace hx339_0 := (HB.out.cell (World.block_lt_of_cell? w _ hx339_0)).trans hx339_0
                  replace hx339_1 := (HB.out.cell (World.block_lt_of_cell? w _ hx339_1)).trans hx339_1
                  replace hx339_2 := (HB.out.cell (World.block_lt_of_cell? w _ hx339_2)).trans hx339_2
                  replace hx339_3 := (HB.out.cell (World.block_lt_of_cell? w _ hx339_3)).trans hx339_3
                  replace p339 := eq_true p339
                  replace q339 := eq_true q339
                  try go_wp2_with (first | ((with_reducible refine gate_dst (N := 6) rfl ?_); refine box_event ?hg (N := 6) ?hd (cs := #[.string (⟨#[]⟩ : ByteArray), .int .i64 0, .int .i64 0, .int .i64 0]) (t := 55) ?hr ?_; (case hd => rfl); (case hg => rfl); (case hr => first | (go_simp; done) | (go_simp; rfl)); intro gb340 hg w33 hbox hb; have n0_ := Aside0.mk (below_step (by repeat (first | (with_reducible first | exact HB.out | apply below_alloc | apply pw_below_drewN | apply below_drew1) | exact HB.out)) hb); have n1_ := Aside0.mk (hbox); have n2_ := Aside0.mk ((by rw [hg]; exact (below_size (by repeat (first | (with_reducible first | exact HB.out | apply below_alloc | apply pw_below_drewN | apply below_drew1) | exact HB.out))) : w.heap.size ≤ gb340)); have n3_ := Aside0.mk ((by rw [hg]; exact (below_size (by repeat (first | (with_reducible first | exact HB.out | apply below_alloc | apply pw_below_drewN | apply below_drew1) | exact HB.out))) : w.heap.size ≤ gb340)); clear HB; have HB := n0_; have BK340 := n1_; have GW340 := n2_; have GE340 := n3_; clear n0_ n1_ n2_ n3_; clear hb hbox hg; have hcz34_0 : w33.cell? ⟨gb340, 0, none⟩ = some (.string (⟨#[]⟩ : ByteArray)) := (blk_cell BK340.out 0).trans rfl; have hcz34_1 : w33.cell? ⟨gb340, 1, none⟩ = some (.int .i64 0) := (blk_cell BK340.out 1).trans rfl; have hcz34_2 : w33.cell? ⟨gb340, 2, none⟩ = some (.int .i64 0) := (blk_cell BK340.out 2).trans rfl; have hcz34_3 : w33.cell? ⟨gb340, 3, none⟩ = some (.int .i64 0) := (blk_cell BK340.out 3).trans rfl; have hfz34_0 := blk_frozen BK340.out 0; have hfz34_1 := blk_frozen BK340.out 1; have hfz34_2 := blk_frozen BK340.out 2; have hfz34_3 := blk_frozen BK340.out 3))
                  have n0_ : Aside0 (((((w33.setCell ⟨gb340, 0, none⟩ (.string ((rd_T55 ((rd_T50 l0 x3_1).f0) x5_3).f0))).setCell ⟨gb340, 1, none⟩ (.int .i64 ((rd_T55 ((rd_T50 l0 x3_1).f0) x5_3).f1))).setCell ⟨gb340, 2, none⟩ (.int .i64 ((rd_T55 ((rd_T50 l0 x3_1).f0) x5_3).f2))).setCell ⟨gb340, 3, none⟩ (.int .i64 ((rd_T55 ((rd_T50 l0 x3_1).f0) x5_3).f3))).heap[gb340]? = some (.cells #[.string ((rd_T55 ((rd_T50 l0 x3_1).f0) x5_3).f0), .int .i64 ((rd_T55 ((rd_T50 l0 x3_1).f0) x5_3).f1), .int .i64 ((rd_T55 ((rd_T50 l0 x3_1).f0) x5_3).f2), .int .i64 ((rd_T55 ((rd_T50 l0 x3_1).f0) x5_3).f3)] 55 (0, 0))) := ⟨by (with_reducible repeat (first | refine blk_drewN ?_ _ | refine blk_drew ?_ | refine blk_alloc ?_ _)); refine blk_put (cs := #[.string ((rd_T55 ((rd_T50 l0 x3_1).f0) x5_3).f0), .int .i64 ((rd_T55 ((rd_T50 l0 x3_1).f0) x5_3).f1), .int .i64 ((rd_T55 ((rd_T50 l0 x3_1).f0) x5_3).f2), .int .i64 0]) ?_ 3 _ rfl; (with_reducible repeat (first | refine blk_drewN ?_ _ | refine blk_drew ?_ | refine blk_alloc ?_ _)); refine blk_put (cs := #[.string ((rd_T55 ((rd_T50 l0 x3_1).f0) x5_3).f0), .int .i64 ((rd_T55 ((rd_T50 l0 x3_1).f0) x5_3).f1), .int .i64 0, .int .i64 0]) ?_ 2 _ rfl; (with_reducible repeat (first | refine blk_drewN ?_ _ | refine blk_drew ?_ | refine blk_alloc ?_ _)); refine blk_put (cs := #[.string ((rd_T55 ((rd_T50 l0 x3_1).f0) x5_3).f0), .int .i64 0, .int .i64 0, .int .i64 0]) ?_ 1 _ rfl; (with_reducible repeat (first | refine blk_drewN ?_ _ | refine blk_drew ?_ | refine blk_alloc ?_ _)); refine blk_put (cs := #[.string (⟨#[]⟩ : ByteArray), .int .i64 0, .int .i64 0, .int .i64 0]) ?_ 0 _ rfl; (with_reducible repeat (first | refine blk_drewN ?_ _ | refine blk_drew ?_ | refine blk_alloc ?_ _)); exact BK340.out⟩
                  have n1_ : Aside0 (Below w.heap.size w ((((w33.setCell ⟨gb340, 0, none⟩ (.string ((rd_T55 ((rd_T50 l0 x3_1).f0) x5_3).f0))).setCell ⟨gb340, 1, none⟩ (.int .i64 ((rd_T55 ((rd_T50 l0 x3_1).f0) x5_3).f1))).setCell ⟨gb340, 2, none⟩ (.int .i64 ((rd_T55 ((rd_T50 l0 x3_1).f0) x5_3).f2))).setCell ⟨gb340, 3, none⟩ (.int .i64 ((rd_T55 ((rd_T50 l0 x3_1).f0) x5_3).f3)))) := ⟨by repeat (first | (with_reducible first | exact HB.out | apply below_alloc | apply pw_below_drewN | apply below_drew1 | refine below_set ?_ GE340.out) | exact HB.out)⟩
                  (try clear BK340)
                  (try clear HB)
                  generalize ((((w33.setCell ⟨gb340, 0, none⟩ (.string ((rd_T55 ((rd_T50 l0 x3_1).f0) x5_3).f0))).setCell ⟨gb340, 1, none⟩ (.int .i64 ((rd_T55 ((rd_T50 l0 x3_1).f0) x5_3).f1))).setCell ⟨gb340, 2, none⟩ (.int .i64 ((rd_T55 ((rd_T50 l0 x3_1).f0) x5_3).f2))).setCell ⟨gb340, 3, none⟩ (.int .i64 ((rd_T55 ((rd_T50 l0 x3_1).f0) x5_3).f3))) = w35 at n0_ n1_ ⊢
                  have BK340 := n0_
                  have HB := n1_
                  clear n0_ n1_
                  have n0_ := Aside0.mk (blk_drew BK340.out)
                  have n1_ := Aside0.mk (below_drew1 HB.out)
                  clear BK340
                  clear HB
                  have BK340 := n0_
                  have HB := n1_
                  clear n0_ n1_
                  have p343 : 0 ≤ (x4_2 : Int) := of_decide_eq_true (by first | (with_reducible assumption) | assumption)
                  have q343 : x4_2 < (l0.length : Int) := of_decide_eq_true (by first | (with_reducible assumption) | assumption)
                  obtain ⟨ad343, A343_0, c343_0, A343_1, c343_1, e343, hx343_0, hx343_1, hl343_0, hi343_0, hl343_1, hi343_1⟩ := at_T50 HR0.out x4_2 p343 q343
                  have hw343_1 := hx343_1
                  have hw343_0 := hx343_0
                  obtain rfl : ad337 = ad343 := (by injection e343)
                  replace hx343_0 := (HB.out.cell (World.block_lt_of_cell? w _ hx343_0)).trans hx343_0
                  replace hx343_1 := (HB.out.cell (World.block_lt_of_cell? w _ hx343_1)).trans hx343_1
                  have HR343_0 := Aside0.mk hi343_0
                  have HC343_0 := Aside0.mk hl343_0
                  clear hi343_0 hl343_0
                  have HR343_1 := Aside0.mk hi343_1
                  have HC343_1 := Aside0.mk hl343_1
                  clear hi343_1 hl343_1
                  replace p343 := eq_true p343
                  replace q343 := eq_true q343
                  refine start_ (n := 17) (S := fun w' => w'.cell? ⟨gb340, 0, none⟩ = some (.string ((rd_T55 ((rd_T50 l0 x3_1).f0) x5_3).f0)) ∧ w'.cell? ⟨gb340, 1, none⟩ = some (.int .i64 ((rd_T55 ((rd_T50 l0 x3_1).f0) x5_3).f1)) ∧ w'.cell? ⟨gb340, 2, none⟩ = some (.int .i64 ((rd_T55 ((rd_T50 l0 x3_1).f0) x5_3).f2)) ∧ w'.cell? ⟨gb340, 3, none⟩ = some (.int .i64 ((rd_T55 ((rd_T50 l0 x3_1).f0) x5_3).f3)) ∧ w'.cell? (ad337.add ((x4_2).toNat * 2)) = some (.slice A343_0 ((rd_T50 l0 x4_2).f0).length c343_0) ∧ w'.cell? ⟨(ad337.add ((x4_2).toNat * 2)).block, (ad337.add ((x4_2).toNat * 2)).off + 1, none⟩ = some (.slice A343_1 ((rd_T50 l0 x4_2).f1).length c343_1)) (ds := []) #[false, false, false, false, false, false, false, false, false, false, false, false, false, false, false, false, false] (by kernel_rfl) rfl rfl ⟨(blk_cell BK340.out 0).trans rfl, (blk_cell BK340.out 1).trans rfl, (blk_cell BK340.out 2).trans rfl, (blk_cell BK340.out 3).trans rfl, ((HB.out.cell (World.block_lt_of_cell? w _ hw343_0)).trans hw343_0), ((HB.out.cell (World.block_lt_of_cell? w _ hw343_1)).trans hw343_1)⟩ (fun hHeld => ?_); refine with_tabW arlinkref22_Unique.tab11 arlinkref22_Unique.bits11 (fun HT_ HW_ => ?_)
                  generalize w35.drew = w36 at BK340 HB HR343_0 HR343_1 hx343_0 hx343_1 hHeld ⊢
                  refine pure_ (i := 0) (N := some 36) (v := ?_) (a' := ?_) #[true, false, false, false, false, false, false, false, false, false, false, false, false, false, false, false, false] rfl rfl (any_of HT_.out (by kernel_rfl)) (fun _ _ _ h => h) (Or.inl ⟨by rfl, ?_⟩) ?_ ?_
                  rotate_left
                  ·intro w'
                   go_simp
                   with_reducible rfl
                  rotate_left
                  ·simp only [Act.put, List.setIfInBounds_toArray, List.set_cons_zero, List.set_cons_succ, i64_w, i32_w]
                   rfl
                  refine take_ (i := 1) (N := some 37) (v := ?_) (a' := ?_) #[true, true, false, false, false, false, false, false, false, false, false, false, false, false, false, false, false] rfl rfl (take_ofW HT_.out HW_.out (by kernel_rfl)) (fun _ _ _ h => h) (Or.inl ⟨by rfl, ?_⟩) hHeld ?_ ?_
                  rotate_left
                  ·rintro w' ⟨s0, s1, s2, s3, s4, s5⟩
                   go_simp
                   with_reducible rfl
                  rotate_left
                  ·simp only [Act.put, List.setIfInBounds_toArray, List.set_cons_zero, List.set_cons_succ, i64_w, i32_w]
                   rfl
                  refine pure_ (i := 2) (N := some 38) (v := ?_) (a' := ?_) #[true, true, true, false, false, false, false, false, false, false, false, false, false, false, false, false, false] rfl rfl (any_of HT_.out (by kernel_rfl)) (fun _ _ _ h => h) (Or.inl ⟨by rfl, ?_⟩) ?_ ?_
                  rotate_left
                  ·intro w'
                   go_simp
                   with_reducible rfl
                  rotate_left
                  ·simp only [Act.put, List.setIfInBounds_toArray, List.set_cons_zero, List.set_cons_succ, i64_w, i32_w]
                   rfl
                  refine pure_ (i := 3) (N := some 39) (v := ?_) (a' := ?_) #[true, true, true, true, false, false, false, false, false, false, false, false, false, false, false, false, false] rfl rfl (any_of HT_.out (by kernel_rfl)) (fun _ _ _ h => h) (Or.inl ⟨by rfl, ?_⟩) ?_ ?_
                  rotate_left
                  ·intro w'
                   go_simp
                   with_reducible rfl
                  rotate_left
                  ·simp only [Act.put, List.setIfInBounds_toArray, List.set_cons_zero, List.set_cons_succ, i64_w, i32_w]
                   rfl
                  refine pure_ (i := 4) (N := some 40) (v := ?_) (a' := ?_) #[true, true, true, true, true, false, false, false, false, false, false, false, false, false, false, false, false] rfl rfl (any_of HT_.out (by kernel_rfl)) (fun _ _ _ h => h) (Or.inl ⟨by rfl, ?_⟩) ?_ ?_
                  rotate_left
                  ·intro w'
                   go_simp
                   with_reducible rfl
                  rotate_left
                  ·simp only [Act.put, List.setIfInBounds_toArray, List.set_cons_zero, List.set_cons_succ, i64_w, i32_w]
                   rfl
                  refine take_ (i := 5) (N := some 41) (v := ?_) (a' := ?_) #[true, true, true, true, true, true, false, false, false, false, false, false, false, false, false, false, false] rfl rfl (take_ofW HT_.out HW_.out (by kernel_rfl)) (fun _ _ _ h => h) (Or.inl ⟨by rfl, ?_⟩) hHeld ?_ ?_
                  rotate_left
                  ·rintro w' ⟨s0, s1, s2, s3, s4, s5⟩
                   go_simp
                   with_reducible rfl
                  rotate_left
                  ·simp only [Act.put, List.setIfInBounds_toArray, List.set_cons_zero, List.set_cons_succ, i64_w, i32_w]
                   rfl
                  refine pure_ (i := 6) (N := some 42) (v := ?_) (a' := ?_) #[true, true, true, true, true, true, true, false, false, false, false, false, false, false, false, false, false] rfl rfl (any_of HT_.out (by kernel_rfl)) (fun _ _ _ h => h) (Or.inl ⟨by rfl, ?_⟩) ?_ ?_
                  rotate_left
                  ·intro w'
                   go_simp
                   with_reducible rfl
                  rotate_left
                  ·simp only [Act.put, List.setIfInBounds_toArray, List.set_cons_zero, List.set_cons_succ, i64_w, i32_w]
                   rfl
                  refine pure_ (i := 7) (N := some 43) (v := ?_) (a' := ?_) #[true, true, true, true, true, true, true, true, false, false, false, false, false, false, false, false, false] rfl rfl (any_of HT_.out (by kernel_rfl)) (fun _ _ _ h => h) (Or.inl ⟨by rfl, ?_⟩) ?_ ?_
                  rotate_left
                  ·intro w'
                   go_simp
                   with_reducible rfl
                  rotate_left
                  ·simp only [Act.put, List.setIfInBounds_toArray, List.set_cons_zero, List.set_cons_succ, i64_w, i32_w]
                   rfl
                  refine pure_ (i := 8) (N := some 44) (v := ?_) (a' := ?_) #[true, true, true, true, true, true, true, true, true, false, false, false, false, false, false, false, false] rfl rfl (any_of HT_.out (by kernel_rfl)) (fun _ _ _ h => h) (Or.inl ⟨by rfl, ?_⟩) ?_ ?_
                  rotate_left
                  ·intro w'
                   go_simp
                   with_reducible rfl
                  rotate_left
                  ·simp only [Act.put, List.setIfInBounds_toArray, List.set_cons_zero, List.set_cons_succ, i64_w, i32_w]
                   rfl
                  refine pure_ (i := 9) (N := some 45) (v := ?_) (a' := ?_) #[true, true, true, true, true, true, true, true, true, true, false, false, false, false, false, false, false] rfl rfl (any_of HT_.out (by kernel_rfl)) (fun _ _ _ h => h) (Or.inl ⟨by rfl, ?_⟩) ?_ ?_
                  rotate_left
                  ·intro w'
                   go_simp
                   with_reducible rfl
                  rotate_left
                  ·simp only [Act.put, List.setIfInBounds_toArray, List.set_cons_zero, List.set_cons_succ, i64_w, i32_w]
                   rfl
                  refine pure_ (i := 10) (N := some 46) (v := ?_) (a' := ?_) #[true, true, true, true, true, true, true, true, true, true, true, false, false, false, false, false, false] rfl rfl (any_of HT_.out (by kernel_rfl)) (fun _ _ _ h => h) (Or.inl ⟨by rfl, ?_⟩) ?_ ?_
                  rotate_left
                  ·intro w'
                   go_simp
                   with_reducible rfl
                  rotate_left
                  ·simp only [Act.put, List.setIfInBounds_toArray, List.set_cons_zero, List.set_cons_succ, i64_w, i32_w]
                   rfl
                  refine pure_ (i := 11) (N := some 47) (v := ?_) (a' := ?_) #[true, true, true, true, true, true, true, true, true, true, true, true, false, false, false, false, false] rfl rfl (any_of HT_.out (by kernel_rfl)) (fun _ _ _ h => h) (Or.inl ⟨by rfl, ?_⟩) ?_ ?_
                  rotate_left
                  ·intro w'
                   go_simp
                   with_reducible rfl
                  rotate_left
                  ·simp only [Act.put, List.setIfInBounds_toArray, List.set_cons_zero, List.set_cons_succ, i64_w, i32_w]
                   rfl
                  refine pure_ (i := 13) (N := some 49) (v := ?_) (a' := ?_) #[true, true, true, true, true, true, true, true, true, true, true, true, false, true, false, false, false] rfl rfl (any_of HT_.out (by kernel_rfl)) (fun _ _ _ h => h) (Or.inl ⟨by rfl, ?_⟩) ?_ ?_
                  rotate_left
                  ·intro w'
                   go_simp
                   with_reducible rfl
                  rotate_left
                  ·simp only [Act.put, List.setIfInBounds_toArray, List.set_cons_zero, List.set_cons_succ, i64_w, i32_w]
                   rfl
                  refine take_ (i := 12) (N := some 48) (v := ?_) (a' := ?_) #[true, true, true, true, true, true, true, true, true, true, true, true, true, true, false, false, false] rfl rfl (take_ofW HT_.out HW_.out (by kernel_rfl)) (fun _ _ _ h => h) (Or.inl ⟨by rfl, ?_⟩) hHeld ?_ ?_
                  rotate_left
                  ·rintro w' ⟨s0, s1, s2, s3, s4, s5⟩
                   go_simp
                   with_reducible rfl
                  rotate_left
                  ·simp only [Act.put, List.setIfInBounds_toArray, List.set_cons_zero, List.set_cons_succ, i64_w, i32_w]
                   rfl
                  refine take_ (i := 14) (N := some 50) (v := ?_) (a' := ?_) #[true, true, true, true, true, true, true, true, true, true, true, true, true, true, true, false, false] rfl rfl (take_ofW HT_.out HW_.out (by kernel_rfl)) (fun _ _ _ h => h) (Or.inl ⟨by rfl, ?_⟩) hHeld ?_ ?_
                  rotate_left
                  ·rintro w' ⟨s0, s1, s2, s3, s4, s5⟩
                   go_simp
                   with_reducible rfl
                  rotate_left
                  ·simp only [Act.put, List.setIfInBounds_toArray, List.set_cons_zero, List.set_cons_succ, i64_w, i32_w]
                   rfl
                  refine one_ (i := 15) (N := some 51) #[true, true, true, true, true, true, true, true, true, true, true, true, true, true, true, true, false] rfl rfl (one_of HT_.out (by kernel_rfl)) (by decide) (fun K hK => ?_)
                  refine goes_ Try.func54 (by kernel_rfl) rfl #[.agg #[.slice A343_0 ((rd_T50 l0 x4_2).f0).length c343_0, .slice A343_1 ((rd_T50 l0 x4_2).f1).length c343_1], .string ((rd_T55 ((rd_T50 l0 x3_1).f0) x5_3).f0), .int .i64 1, .int .i64 2] (by rfl) rfl rfl (by (try simp only [List.map_toArray, List.map_cons, List.map_nil]); first | done | rfl | (simp only [List.length_drop, List.length_take]; rfl)) ?_
                  with_reducible refine (arlinkref22_has.calls k3 _ _ ((rd_T50 l0 x4_2).f0) _ _ ((rd_T50 l0 x4_2).f1) ((rd_T55 ((rd_T50 l0 x3_1).f0) x5_3).f0) 1 2 false _ ?side1 ?side2 ?side3 ?side4 A26.out).mono ?_
                  (case side1 => repeat (first | exact (Kd.C_below HR343_0.out HB.out) | (with_reducible refine Kd.C_alloc ?_ _) | (with_reducible refine Kd.C_drewN ?_ _) | (with_reducible refine Kd.C_drew ?_)))
                  (case side2 => exact HC343_0.out)
                  (case side3 => repeat (first | exact (Kd.C_below HR343_1.out HB.out) | (with_reducible refine Kd.C_alloc ?_ _) | (with_reducible refine Kd.C_drewN ?_ _) | (with_reducible refine Kd.C_drew ?_)))
                  (case side4 => exact HC343_1.out)
                  rintro e w37 ⟨rfl, hb⟩
                  refine ⟨_, rfl, ?_⟩
                  have n0_ := Aside0.mk (blk_below (g := gb340) (o := .cells #[.string ((rd_T55 ((rd_T50 l0 x3_1).f0) x5_3).f0), .int .i64 ((rd_T55 ((rd_T50 l0 x3_1).f0) x5_3).f1), .int .i64 ((rd_T55 ((rd_T50 l0 x3_1).f0) x5_3).f2), .int .i64 ((rd_T55 ((rd_T50 l0 x3_1).f0) x5_3).f3)] 55 (0, 0)) (by (with_reducible repeat (first | refine blk_drewN ?_ _ | refine blk_drew ?_ | refine blk_alloc ?_ _)); exact BK340.out) hb)
                  have n1_ := Aside0.mk (below_step (by repeat (first | (with_reducible first | exact HB.out | apply below_alloc | apply pw_below_drewN | apply below_drew1 | refine below_set ?_ GE340.out) | exact HB.out)) hb)
                  clear BK340
                  clear HB
                  have BK340 := n0_
                  have HB := n1_
                  clear n0_ n1_
                  (try clear hb)
                  (try clear hb2)
                  (try clear hk)
                  (try clear hi)
                  refine hK.out _ _ ⟨(blk_cell BK340.out 0).trans rfl, (blk_cell BK340.out 1).trans rfl, (blk_cell BK340.out 2).trans rfl, (blk_cell BK340.out 3).trans rfl, ((HB.out.cell (World.block_lt_of_cell? w _ hw343_0)).trans hw343_0), ((HB.out.cell (World.block_lt_of_cell? w _ hw343_1)).trans hw343_1)⟩ (fun hHeld => ?_)
                  clear hK K
                  refine norm_ (a' := ?_) ?_ ?_
                  rotate_left
                  ·show Act.put _ (some 51) _ = _
                   simp only [Act.put, List.setIfInBounds_toArray, List.set_cons_zero, List.set_cons_succ, i64_w, i32_w]
                   rfl
                  refine pure_ (i := 16) (N := some 52) (v := ?_) (a' := ?_) #[true, true, true, true, true, true, true, true, true, true, true, true, true, true, true, true, true] rfl rfl (any_of HT_.out (by kernel_rfl)) (fun _ _ _ h => h) (Or.inl ⟨by rfl, ?_⟩) ?_ ?_
                  rotate_left
                  ·intro w'
                   go_simp
                   with_reducible rfl
                  rotate_left
                  ·simp only [Act.put, List.setIfInBounds_toArray, List.set_cons_zero, List.set_cons_succ, i64_w, i32_w]
                   rfl
                  refine done_ (done_of HT_.out (by kernel_rfl)) ?_
                  try go_wp2
                  go_roundg k3
                  case measure => have := HK1.out; have := HK2.out; have := HK3.out; omega
                  case rel => exact ⟨(wrap64 (x5_3 + 1)), (by first | rfl | (simp; done) | (simp [*]; done)), H', ⟨by have := HK1.out; have := HK2.out; have := HK3.out; omega⟩, ⟨by repeat (first | (with_reducible first | exact HB.out | apply below_alloc | apply pw_below_drewN | apply below_drew1 | refine below_set ?_ GE340.out) | exact HB.out)⟩⟩
                ·rw [if_neg c25] at H
                 exact absurd H (by simp)
               ·rw [if_neg c24] at H
                exact absurd H (by simp)
              ·rw [if_neg c23] at H
               have c23b0 : (((rd_T55 ((rd_T50 l0 x3_1).f0) x5_3).f1) == 2) = false := beq_eq_false_iff_ne.mpr c23
               have c23b1 : (((rd_T55 ((rd_T50 l0 x3_1).f0) x5_3).f1) != 2) = true := bne_iff_ne.mpr c23
               have H' := Aside0.mk H
               clear H
               have p337 : 0 ≤ (x3_1 : Int) := of_decide_eq_true (by first | (with_reducible assumption) | assumption)
               have q337 : x3_1 < (l0.length : Int) := of_decide_eq_true (by first | (with_reducible assumption) | assumption)
               obtain ⟨ad337, A337_0, c337_0, A337_1, c337_1, e337, hx337_0, hx337_1, hl337_0, hi337_0, hl337_1, hi337_1⟩ := at_T50 HR0.out x3_1 p337 q337
               cases e337
               replace hx337_0 := (HB.out.cell (World.block_lt_of_cell? w _ hx337_0)).trans hx337_0
               replace hx337_1 := (HB.out.cell (World.block_lt_of_cell? w _ hx337_1)).trans hx337_1
               have HR337_0 := Aside0.mk hi337_0
               have HC337_0 := Aside0.mk hl337_0
               clear hi337_0 hl337_0
               have HR337_1 := Aside0.mk hi337_1
               have HC337_1 := Aside0.mk hl337_1
               clear hi337_1 hl337_1
               replace p337 := eq_true p337
               replace q337 := eq_true q337
               have p338 : 0 ≤ (x3_1 : Int) := of_decide_eq_true (by first | (with_reducible assumption) | assumption)
               have q338 : x3_1 < (l0.length : Int) := of_decide_eq_true (by first | (with_reducible assumption) | assumption)
               obtain ⟨ad338, A338_0, c338_0, A338_1, c338_1, e338, hx338_0, hx338_1, hl338_0, hi338_0, hl338_1, hi338_1⟩ := at_T50 HR0.out x3_1 p338 q338
               obtain rfl : ad337 = ad338 := (by injection e338)
               replace hx338_0 := (HB.out.cell (World.block_lt_of_cell? w _ hx338_0)).trans hx338_0
               replace hx338_1 := (HB.out.cell (World.block_lt_of_cell? w _ hx338_1)).trans hx338_1
               have HR338_0 := Aside0.mk hi338_0
               have HC338_0 := Aside0.mk hl338_0
               clear hi338_0 hl338_0
               have HR338_1 := Aside0.mk hi338_1
               have HC338_1 := Aside0.mk hl338_1
               clear hi338_1 hl338_1
               replace p338 := eq_true p338
               replace q338 := eq_true q338
               have ea_ := Option.some.inj (hx337_0.symm.trans hx338_0)
               injection ea_ with ea_ en_ ec_
               subst ea_
               subst ec_
               clear en_
               have ea_ := Option.some.inj (hx337_1.symm.trans hx338_1)
               injection ea_ with ea_ en_ ec_
               subst ea_
               subst ec_
               clear en_
               have p339 : 0 ≤ (x5_3 : Int) := of_decide_eq_true (by first | (with_reducible assumption) | assumption)
               have q339 : x5_3 < (((rd_T50 l0 x3_1).f0).length : Int) := of_decide_eq_true (by first | (with_reducible assumption) | assumption)
               obtain ⟨ad339, e339, hx339_0, hx339_1, hx339_2, hx339_3⟩ := at_T55 HR338_0.out x5_3 p339 q339
               cases e339
               replace hx339_0 := (HB.out.cell (World.block_lt_of_cell? w _ hx339_0)).trans hx339_0
               replace hx339_1 := (HB.out.cell (World.block_lt_of_cell? w _ hx339_1)).trans hx339_1
               replace hx339_2 := (HB.out.cell (World.block_lt_of_cell? w _ hx339_2)).trans hx339_2
               replace hx339_3 := (HB.out.cell (World.block_lt_of_cell? w _ hx339_3)).trans hx339_3
               replace p339 := eq_true p339
               replace q339 := eq_true q339
               try go_wp2_with (first | ((with_reducible refine gate_dst (N := 6) rfl ?_); refine box_event ?hg (N := 6) ?hd (cs := #[.string (⟨#[]⟩ : ByteArray), .int .i64 0, .int .i64 0, .int .i64 0]) (t := 55) ?hr ?_; (case hd => rfl); (case hg => rfl); (case hr => first | (go_simp; done) | (go_simp; rfl)); intro gb340 hg w38 hbox hb; have n0_ := Aside0.mk (below_step (by repeat (first | (with_reducible first | exact HB.out | apply below_alloc | apply pw_below_drewN | apply below_drew1) | exact HB.out)) hb); have n1_ := Aside0.mk (hbox); have n2_ := Aside0.mk ((by rw [hg]; exact (below_size (by repeat (first | (with_reducible first | exact HB.out | apply below_alloc | apply pw_below_drewN | apply below_drew1) | exact HB.out))) : w.heap.size ≤ gb340)); have n3_ := Aside0.mk ((by rw [hg]; exact (below_size (by repeat (first | (with_reducible first | exact HB.out | apply below_alloc | apply pw_below_drewN | apply below_drew1) | exact HB.out))) : w.heap.size ≤ gb340)); clear HB; have HB := n0_; have BK340 := n1_; have GW340 := n2_; have GE340 := n3_; clear n0_ n1_ n2_ n3_; clear hb hbox hg; have hcz39_0 : w38.cell? ⟨gb340, 0, none⟩ = some (.string (⟨#[]⟩ : ByteArray)) := (blk_cell BK340.out 0).trans rfl; have hcz39_1 : w38.cell? ⟨gb340, 1, none⟩ = some (.int .i64 0) := (blk_cell BK340.out 1).trans rfl; have hcz39_2 : w38.cell? ⟨gb340, 2, none⟩ = some (.int .i64 0) := (blk_cell BK340.out 2).trans rfl; have hcz39_3 : w38.cell? ⟨gb340, 3, none⟩ = some (.int .i64 0) := (blk_cell BK340.out 3).trans rfl; have hfz39_0 := blk_frozen BK340.out 0; have hfz39_1 := blk_frozen BK340.out 1; have hfz39_2 := blk_frozen BK340.out 2; have hfz39_3 := blk_frozen BK340.out 3))
               have n0_ : Aside0 (((((w38.setCell ⟨gb340, 0, none⟩ (.string ((rd_T55 ((rd_T50 l0 x3_1).f0) x5_3).f0))).setCell ⟨gb340, 1, none⟩ (.int .i64 ((rd_T55 ((rd_T50 l0 x3_1).f0) x5_3).f1))).setCell ⟨gb340, 2, none⟩ (.int .i64 ((rd_T55 ((rd_T50 l0 x3_1).f0) x5_3).f2))).setCell ⟨gb340, 3, none⟩ (.int .i64 ((rd_T55 ((rd_T50 l0 x3_1).f0) x5_3).f3))).heap[gb340]? = some (.cells #[.string ((rd_T55 ((rd_T50 l0 x3_1).f0) x5_3).f0), .int .i64 ((rd_T55 ((rd_T50 l0 x3_1).f0) x5_3).f1), .int .i64 ((rd_T55 ((rd_T50 l0 x3_1).f0) x5_3).f2), .int .i64 ((rd_T55 ((rd_T50 l0 x3_1).f0) x5_3).f3)] 55 (0, 0))) := ⟨by (with_reducible repeat (first | refine blk_drewN ?_ _ | refine blk_drew ?_ | refine blk_alloc ?_ _)); refine blk_put (cs := #[.string ((rd_T55 ((rd_T50 l0 x3_1).f0) x5_3).f0), .int .i64 ((rd_T55 ((rd_T50 l0 x3_1).f0) x5_3).f1), .int .i64 ((rd_T55 ((rd_T50 l0 x3_1).f0) x5_3).f2), .int .i64 0]) ?_ 3 _ rfl; (with_reducible repeat (first | refine blk_drewN ?_ _ | refine blk_drew ?_ | refine blk_alloc ?_ _)); refine blk_put (cs := #[.string ((rd_T55 ((rd_T50 l0 x3_1).f0) x5_3).f0), .int .i64 ((rd_T55 ((rd_T50 l0 x3_1).f0) x5_3).f1), .int .i64 0, .int .i64 0]) ?_ 2 _ rfl; (with_reducible repeat (first | refine blk_drewN ?_ _ | refine blk_drew ?_ | refine blk_alloc ?_ _)); refine blk_put (cs := #[.string ((rd_T55 ((rd_T50 l0 x3_1).f0) x5_3).f0), .int .i64 0, .int .i64 0, .int .i64 0]) ?_ 1 _ rfl; (with_reducible repeat (first | refine blk_drewN ?_ _ | refine blk_drew ?_ | refine blk_alloc ?_ _)); refine blk_put (cs := #[.string (⟨#[]⟩ : ByteArray), .int .i64 0, .int .i64 0, .int .i64 0]) ?_ 0 _ rfl; (with_reducible repeat (first | refine blk_drewN ?_ _ | refine blk_drew ?_ | refine blk_alloc ?_ _)); exact BK340.out⟩
               have n1_ : Aside0 (Below w.heap.size w ((((w38.setCell ⟨gb340, 0, none⟩ (.string ((rd_T55 ((rd_T50 l0 x3_1).f0) x5_3).f0))).setCell ⟨gb340, 1, none⟩ (.int .i64 ((rd_T55 ((rd_T50 l0 x3_1).f0) x5_3).f1))).setCell ⟨gb340, 2, none⟩ (.int .i64 ((rd_T55 ((rd_T50 l0 x3_1).f0) x5_3).f2))).setCell ⟨gb340, 3, none⟩ (.int .i64 ((rd_T55 ((rd_T50 l0 x3_1).f0) x5_3).f3)))) := ⟨by repeat (first | (with_reducible first | exact HB.out | apply below_alloc | apply pw_below_drewN | apply below_drew1 | refine below_set ?_ GE340.out) | exact HB.out)⟩
               (try clear BK340)
               (try clear HB)
               generalize ((((w38.setCell ⟨gb340, 0, none⟩ (.string ((rd_T55 ((rd_T50 l0 x3_1).f0) x5_3).f0))).setCell ⟨gb340, 1, none⟩ (.int .i64 ((rd_T55 ((rd_T50 l0 x3_1).f0) x5_3).f1))).setCell ⟨gb340, 2, none⟩ (.int .i64 ((rd_T55 ((rd_T50 l0 x3_1).f0) x5_3).f2))).setCell ⟨gb340, 3, none⟩ (.int .i64 ((rd_T55 ((rd_T50 l0 x3_1).f0) x5_3).f3))) = w40 at n0_ n1_ ⊢
               have BK340 := n0_
               have HB := n1_
               clear n0_ n1_
               have n0_ := Aside0.mk (blk_drew BK340.out)
               have n1_ := Aside0.mk (below_drew1 HB.out)
               clear BK340
               clear HB
               have BK340 := n0_
               have HB := n1_
               clear n0_ n1_
               refine start_ (n := 17) (S := fun w' => w'.cell? ⟨gb340, 0, none⟩ = some (.string ((rd_T55 ((rd_T50 l0 x3_1).f0) x5_3).f0)) ∧ w'.cell? ⟨gb340, 1, none⟩ = some (.int .i64 ((rd_T55 ((rd_T50 l0 x3_1).f0) x5_3).f1)) ∧ w'.cell? ⟨gb340, 2, none⟩ = some (.int .i64 ((rd_T55 ((rd_T50 l0 x3_1).f0) x5_3).f2)) ∧ w'.cell? ⟨gb340, 3, none⟩ = some (.int .i64 ((rd_T55 ((rd_T50 l0 x3_1).f0) x5_3).f3))) (ds := []) #[false, false, false, false, false, false, false, false, false, false, false, false, false, false, false, false, false] (by kernel_rfl) rfl rfl ⟨(blk_cell BK340.out 0).trans rfl, (blk_cell BK340.out 1).trans rfl, (blk_cell BK340.out 2).trans rfl, (blk_cell BK340.out 3).trans rfl⟩ (fun hHeld => ?_); refine with_tabW arlinkref22_Unique.tab11 arlinkref22_Unique.bits11 (fun HT_ HW_ => ?_)
               generalize w40.drew = w41 at BK340 HB hHeld ⊢
               refine pure_ (i := 0) (N := some 36) (v := ?_) (a' := ?_) #[true, false, false, false, false, false, false, false, false, false, false, false, false, false, false, false, false] rfl rfl (any_of HT_.out (by kernel_rfl)) (fun _ _ _ h => h) (Or.inl ⟨by rfl, ?_⟩) ?_ ?_
               rotate_left
               ·intro w'
                go_simp
                with_reducible rfl
               rotate_left
               ·simp only [Act.put, List.setIfInBounds_toArray, List.set_cons_zero, List.set_cons_succ, i64_w, i32_w]
                rfl
               refine take_ (i := 1) (N := some 37) (v := ?_) (a' := ?_) #[true, true, false, false, false, false, false, false, false, false, false, false, false, false, false, false, false] rfl rfl (take_ofW HT_.out HW_.out (by kernel_rfl)) (fun _ _ _ h => h) (Or.inl ⟨by rfl, ?_⟩) hHeld ?_ ?_
               rotate_left
               ·rintro w' ⟨s0, s1, s2, s3⟩
                go_simp
                with_reducible rfl
               rotate_left
               ·simp only [Act.put, List.setIfInBounds_toArray, List.set_cons_zero, List.set_cons_succ, i64_w, i32_w]
                rfl
               refine pure_ (i := 2) (N := some 38) (v := ?_) (a' := ?_) #[true, true, true, false, false, false, false, false, false, false, false, false, false, false, false, false, false] rfl rfl (any_of HT_.out (by kernel_rfl)) (fun _ _ _ h => h) (Or.inl ⟨by rfl, ?_⟩) ?_ ?_
               rotate_left
               ·intro w'
                go_simp
                with_reducible rfl
               rotate_left
               ·simp only [Act.put, List.setIfInBounds_toArray, List.set_cons_zero, List.set_cons_succ, i64_w, i32_w]
                rfl
               refine pure_ (i := 3) (N := some 39) (v := ?_) (a' := ?_) #[true, true, true, true, false, false, false, false, false, false, false, false, false, false, false, false, false] rfl rfl (any_of HT_.out (by kernel_rfl)) (fun _ _ _ h => h) (Or.inl ⟨by rfl, ?_⟩) ?_ ?_
               rotate_left
               ·intro w'
                go_simp
                with_reducible rfl
               rotate_left
               ·simp only [Act.put, List.setIfInBounds_toArray, List.set_cons_zero, List.set_cons_succ, i64_w, i32_w]
                rfl
               refine pure_ (i := 4) (N := some 40) (v := ?_) (a' := ?_) #[true, true, true, true, true, false, false, false, false, false, false, false, false, false, false, false, false] rfl rfl (any_of HT_.out (by kernel_rfl)) (fun _ _ _ h => h) (Or.inl ⟨by rfl, ?_⟩) ?_ ?_
               rotate_left
               ·intro w'
                go_simp
                with_reducible rfl
               rotate_left
               ·simp only [Act.put, List.setIfInBounds_toArray, List.set_cons_zero, List.set_cons_succ, i64_w, i32_w]
                rfl
               refine take_ (i := 5) (N := some 41) (v := ?_) (a' := ?_) #[true, true, true, true, true, true, false, false, false, false, false, false, false, false, false, false, false] rfl rfl (take_ofW HT_.out HW_.out (by kernel_rfl)) (fun _ _ _ h => h) (Or.inl ⟨by rfl, ?_⟩) hHeld ?_ ?_
               rotate_left
               ·rintro w' ⟨s0, s1, s2, s3⟩
                go_simp
                with_reducible rfl
               rotate_left
               ·simp only [Act.put, List.setIfInBounds_toArray, List.set_cons_zero, List.set_cons_succ, i64_w, i32_w]
                rfl
               refine pure_ (i := 6) (N := some 42) (v := ?_) (a' := ?_) #[true, true, true, true, true, true, true, false, false, false, false, false, false, false, false, false, false] rfl rfl (any_of HT_.out (by kernel_rfl)) (fun _ _ _ h => h) (Or.inl ⟨by rfl, ?_⟩) ?_ ?_
               rotate_left
               ·intro w'
                go_simp
                with_reducible rfl
               rotate_left
               ·simp only [Act.put, List.setIfInBounds_toArray, List.set_cons_zero, List.set_cons_succ, i64_w, i32_w]
                rfl
               refine pure_ (i := 7) (N := some 43) (v := ?_) (a' := ?_) #[true, true, true, true, true, true, true, true, false, false, false, false, false, false, false, false, false] rfl rfl (any_of HT_.out (by kernel_rfl)) (fun _ _ _ h => h) (Or.inl ⟨by rfl, ?_⟩) ?_ ?_
               rotate_left
               ·intro w'
                go_simp
                with_reducible rfl
               rotate_left
               ·simp only [Act.put, List.setIfInBounds_toArray, List.set_cons_zero, List.set_cons_succ, i64_w, i32_w]
                rfl
               refine pure_ (i := 8) (N := some 44) (v := ?_) (a' := ?_) #[true, true, true, true, true, true, true, true, true, false, false, false, false, false, false, false, false] rfl rfl (any_of HT_.out (by kernel_rfl)) (fun _ _ _ h => h) (Or.inl ⟨by rfl, ?_⟩) ?_ ?_
               rotate_left
               ·intro w'
                go_simp
                with_reducible rfl
               rotate_left
               ·simp only [Act.put, List.setIfInBounds_toArray, List.set_cons_zero, List.set_cons_succ, i64_w, i32_w]
                rfl
               refine pure_ (i := 9) (N := some 45) (v := undef) (a' := ?_) #[true, true, true, true, true, true, true, true, true, true, false, false, false, false, false, false, false] rfl rfl (any_of HT_.out (by kernel_rfl)) (fun _ _ _ h => h) (Or.inr ⟨by rfl, rfl⟩) ?_ ?_
               rotate_left
               ·simp only [Act.put, List.setIfInBounds_toArray, List.set_cons_zero, List.set_cons_succ, i64_w, i32_w]
                rfl
               refine pure_ (i := 10) (N := some 46) (v := undef) (a' := ?_) #[true, true, true, true, true, true, true, true, true, true, true, false, false, false, false, false, false] rfl rfl (any_of HT_.out (by kernel_rfl)) (fun _ _ _ h => h) (Or.inr ⟨by rfl, rfl⟩) ?_ ?_
               rotate_left
               ·simp only [Act.put, List.setIfInBounds_toArray, List.set_cons_zero, List.set_cons_succ, i64_w, i32_w]
                rfl
               refine pure_ (i := 11) (N := some 47) (v := undef) (a' := ?_) #[true, true, true, true, true, true, true, true, true, true, true, true, false, false, false, false, false] rfl rfl (any_of HT_.out (by kernel_rfl)) (fun _ _ _ h => h) (Or.inr ⟨by rfl, rfl⟩) ?_ ?_
               rotate_left
               ·simp only [Act.put, List.setIfInBounds_toArray, List.set_cons_zero, List.set_cons_succ, i64_w, i32_w]
                rfl
               refine pure_ (i := 12) (N := some 48) (v := undef) (a' := ?_) #[true, true, true, true, true, true, true, true, true, true, true, true, true, false, false, false, false] rfl rfl (any_of HT_.out (by kernel_rfl)) (fun _ _ _ h => h) (Or.inr ⟨by rfl, rfl⟩) ?_ ?_
               rotate_left
               ·simp only [Act.put, List.setIfInBounds_toArray, List.set_cons_zero, List.set_cons_succ, i64_w, i32_w]
                rfl
               refine pure_ (i := 13) (N := some 49) (v := undef) (a' := ?_) #[true, true, true, true, true, true, true, true, true, true, true, true, true, true, false, false, false] rfl rfl (any_of HT_.out (by kernel_rfl)) (fun _ _ _ h => h) (Or.inr ⟨by rfl, rfl⟩) ?_ ?_
               rotate_left
               ·simp only [Act.put, List.setIfInBounds_toArray, List.set_cons_zero, List.set_cons_succ, i64_w, i32_w]
                rfl
               refine pure_ (i := 14) (N := some 50) (v := undef) (a' := ?_) #[true, true, true, true, true, true, true, true, true, true, true, true, true, true, true, false, false] rfl rfl (any_of HT_.out (by kernel_rfl)) (fun _ _ _ h => h) (Or.inr ⟨by rfl, rfl⟩) ?_ ?_
               rotate_left
               ·simp only [Act.put, List.setIfInBounds_toArray, List.set_cons_zero, List.set_cons_succ, i64_w, i32_w]
                rfl
               refine pure_ (i := 15) (N := some 51) (v := undef) (a' := ?_) #[true, true, true, true, true, true, true, true, true, true, true, true, true, true, true, true, false] rfl rfl (any_of HT_.out (by kernel_rfl)) (fun _ _ _ h => h) (Or.inr ⟨by rfl, rfl⟩) ?_ ?_
               rotate_left
               ·simp only [Act.put, List.setIfInBounds_toArray, List.set_cons_zero, List.set_cons_succ, i64_w, i32_w]
                rfl
               refine pure_ (i := 16) (N := some 52) (v := ?_) (a' := ?_) #[true, true, true, true, true, true, true, true, true, true, true, true, true, true, true, true, true] rfl rfl (any_of HT_.out (by kernel_rfl)) (fun _ _ _ h => h) (Or.inl ⟨by rfl, ?_⟩) ?_ ?_
               rotate_left
               ·intro w'
                go_simp
                with_reducible rfl
               rotate_left
               ·simp only [Act.put, List.setIfInBounds_toArray, List.set_cons_zero, List.set_cons_succ, i64_w, i32_w]
                rfl
               refine done_ (done_of HT_.out (by kernel_rfl)) ?_
               try go_wp2
               go_roundg k3
               case measure => have := HK1.out; have := HK2.out; have := HK3.out; omega
               case rel => exact ⟨(wrap64 (x5_3 + 1)), (by first | rfl | (simp; done) | (simp [*]; done)), H', ⟨by have := HK1.out; have := HK2.out; have := HK3.out; omega⟩, ⟨by repeat (first | (with_reducible first | exact HB.out | apply below_alloc | apply pw_below_drewN | apply below_drew1 | refine below_set ?_ GE340.out) | exact HB.out)⟩⟩
            ·rw [if_neg c7] at H
             exact absurd H (by simp)
           ·rw [if_neg c6] at H
            have c6b0 : decide (x5_3 < (((rd_T50 l0 x3_1).f0).length : Int)) = false := decide_eq_false c6
            clear c6
            have H' := Aside0.mk H
            clear H
            have p337 : 0 ≤ (x3_1 : Int) := of_decide_eq_true (by first | (with_reducible assumption) | assumption)
            have q337 : x3_1 < (l0.length : Int) := of_decide_eq_true (by first | (with_reducible assumption) | assumption)
            obtain ⟨ad337, A337_0, c337_0, A337_1, c337_1, e337, hx337_0, hx337_1, hl337_0, hi337_0, hl337_1, hi337_1⟩ := at_T50 HR0.out x3_1 p337 q337
            cases e337
            replace hx337_0 := (HB.out.cell (World.block_lt_of_cell? w _ hx337_0)).trans hx337_0
            replace hx337_1 := (HB.out.cell (World.block_lt_of_cell? w _ hx337_1)).trans hx337_1
            have HR337_0 := Aside0.mk hi337_0
            have HC337_0 := Aside0.mk hl337_0
            clear hi337_0 hl337_0
            have HR337_1 := Aside0.mk hi337_1
            have HC337_1 := Aside0.mk hl337_1
            clear hi337_1 hl337_1
            replace p337 := eq_true p337
            replace q337 := eq_true q337
            go_wp2
            go_roundg k3
            case measure => have := HK1.out; have := HK2.out; have := HK3.out; omega
            case rel => exact ⟨(wrap64 (x4_2 + 1)), (by first | rfl | (simp; done) | (simp [*]; done)), H', ⟨by have := HK1.out; have := HK2.out; have := HK3.out; omega⟩, ⟨by repeat (first | (with_reducible first | exact HB.out | apply below_alloc | apply pw_below_drewN | apply below_drew1) | exact HB.out)⟩⟩
          ·rw [if_neg c5] at H
           exact absurd H (by simp)
         ·rw [if_neg c4] at H
          exact absurd H (by simp)
      ·rw [if_neg c3] at H
       have c3b0 : decide (x4_2 < x3_1) = false := decide_eq_false c3
       clear c3
       have H' := Aside0.mk H
       clear H
       go_wp2
       go_roundg k2
       case measure => have := HK1.out; have := HK2.out; omega
       case rel => exact ⟨(wrap64 (x3_1 + 1)), (by first | rfl | (simp; done) | (simp [*]; done)), H', ⟨by have := HK1.out; have := HK2.out; omega⟩, ⟨by repeat (first | (with_reducible first | exact HB.out | apply below_alloc | apply pw_below_drewN | apply below_drew1) | exact HB.out)⟩⟩
   ·rw [if_neg c2] at H
    have c2b0 : decide (x3_1 < (l0.length : Int)) = false := decide_eq_false c2
    clear c2
    obtain rfl := Option.some.inj H
    go_wp2
    go_ret
    exact ⟨by first | rfl | (simp [errW_none, errW_some] <;> rfl) | (simp [*, errW_none, errW_some] <;> rfl), by repeat (first | (with_reducible first | exact HB.out | apply below_alloc | apply pw_below_drewN | apply below_drew1) | exact HB.out)⟩
end Go.Proofs.Ythpjpkcfepmhkaa.PAll
namespace Go.Proofs.Ythpjpkcfepmhkaa.PAll
open Go.RowKit Go.Proofs.YthpjpkcfepmhkaaW.PrintWords Go.Proofs.YthpjpkcfepmhkaaW.PrintLast Go.Proofs.YthpjpkcfepmhkaaW.PrintMore
attribute [local go_sem] max2_int min2_int max_two min_two max_three min_three max_four min_four   -- for this text's walks alone
set_option linter.unusedVariables false
set_option linter.unusedSimpArgs false
mutual
def arlinklaw22_ClosureMatchesReference.j0 : Nat → List (S50) → List (S50) → Bool → Option (Bool)
 | 0, _, _, _ => none
 | k + 1, x0, x1, x19 => if x19 = true then ((arlinklaw22_awake.f).bind fun t348 => (some t348)) else ((arlinkref22_Needed.f k x0 x1).bind fun t349 => (arlinklaw22_ClosureMatchesReference.l0 k x0 x1 t349 ([] : List Int) 0))
def arlinklaw22_ClosureMatchesReference.l0 : Nat → List (S50) → List (S50) → List Int → List Int → Int → Option (Bool)
 | 0, _, _, _, _, _ => none
 | k + 1, x0, x1, x5, x6, x7 => if x7 < (x5.length : Int) then (if 0 ≤ x7 then (if (rd x5 x7) > 0 then (if x6.length < 17592186044416 then (arlinklaw22_ClosureMatchesReference.l0 k x0 x1 x5 (x6 ++ [x7]) (wrap64 (x7 + 1))) else (none)) else (arlinklaw22_ClosureMatchesReference.l0 k x0 x1 x5 x6 (wrap64 (x7 + 1)))) else (none)) else ((closure_Needed.f x0 x1).bind fun t356 => ((arlinkref04_Numbers.f k t356 x6).bind fun t359 => (if t359 = true then ((closure_Unique.f x1).bind fun t360 => ((arlinkref22_Unique.f k x1).bind fun t361 => (some (t360 == t361)))) else (some false))))
end
def arlinklaw22_ClosureMatchesReference.f (k : Nat) (l0 : List (S50)) (l1 : List (S50)) : Option (Bool) := (arlinklaw22_awake.f).bind fun t345 => (if t345 = true then ((arlinkref14_Right.f k l0).bind fun t346 => (if t346 = true then ((arlinkref14_Right.f k l1).bind fun t347 => (arlinklaw22_ClosureMatchesReference.j0 k l0 l1 (!t347))) else (arlinklaw22_ClosureMatchesReference.j0 k l0 l1 true))) else (arlinklaw22_ClosureMatchesReference.j0 k l0 l1 true))
set_option maxHeartbeats 8000000 in
set_option maxRecDepth 100000 in
theorem arlinklaw22_ClosureMatchesReference.calls (k : Nat) (A0 : Option Addr) (c0 : Nat) (l0 : List (S50)) (A1 : Option Addr) (c1 : Nat) (l1 : List (S50)) (r : Bool) (w : World) (hr0 : Kd.C k50 w A0 l0.length l0) (hc0 : l0.length ≤ c0) (hr1 : Kd.C k50 w A1 l1.length l1) (hc1 : l1.length ≤ c1) (h : arlinklaw22_ClosureMatchesReference.f k l0 l1 = some r) :
  Calls Try.prog 6 #[.slice A0 l0.length c0, .slice A1 l1.length c1] w fun e w' => e = .returned (.bool r) ∧ Below w.heap.size w w' := by
 have HR0 := Aside0.mk hr0
 have HC0 := Aside0.mk hc0
 clear hr0 hc0
 have HR1 := Aside0.mk hr1
 have HC1 := Aside0.mk hc1
 clear hr1 hc1
 have HB := Aside0.mk (Below.refl w.heap.size w)
 have H : ((arlinklaw22_awake.f).bind fun t345 => (if t345 = true then ((arlinkref14_Right.f k l0).bind fun t346 => (if t346 = true then ((arlinkref14_Right.f k l1).bind fun t347 => (arlinklaw22_ClosureMatchesReference.j0 k l0 l1 (!t347))) else (arlinklaw22_ClosureMatchesReference.j0 k l0 l1 true))) else (arlinklaw22_ClosureMatchesReference.j0 k l0 l1 true))) = some r := h
 clear h
 have HC3 := Aside0.mk H
 clear H
 go_enter Try.func6, Try.ntmps6
 go_upto_region 1 with (fail)
 go_cut [19] (fun v19 wc => ∃ (kq : Nat) (x19_2 : Bool), v19 = .bool x19_2 ∧ Aside0 (arlinklaw22_ClosureMatchesReference.j0 kq l0 l1 x19_2 = some r) ∧ Aside0 (kq ≤ k) ∧ Aside0 (Below w.heap.size w wc))
 case first =>
  have H := HC3.out
  clear HC3
  replace H := Option.bind_eq_some_iff.mp H
  obtain ⟨t345, A40, H⟩ := H
  replace H : (if t345 = true then ((arlinkref14_Right.f k l0).bind fun t346 => (if t346 = true then ((arlinkref14_Right.f k l1).bind fun t347 => (arlinklaw22_ClosureMatchesReference.j0 k l0 l1 (!t347))) else (arlinklaw22_ClosureMatchesReference.j0 k l0 l1 true))) else (arlinklaw22_ClosureMatchesReference.j0 k l0 l1 true)) = some r := H
  have A4 := Aside0.mk A40
  clear A40
  by_cases c5 : t345 = true
  ·subst c5
   have H1 : ((arlinkref14_Right.f k l0).bind fun t346 => (if t346 = true then ((arlinkref14_Right.f k l1).bind fun t347 => (arlinklaw22_ClosureMatchesReference.j0 k l0 l1 (!t347))) else (arlinklaw22_ClosureMatchesReference.j0 k l0 l1 true))) = some r := by rw [if_pos rfl] at H; exact H
   clear H
   have H := H1
   clear H1
   replace H := Option.bind_eq_some_iff.mp H
   obtain ⟨t346, A60, H⟩ := H
   replace H : (if t346 = true then ((arlinkref14_Right.f k l1).bind fun t347 => (arlinklaw22_ClosureMatchesReference.j0 k l0 l1 (!t347))) else (arlinklaw22_ClosureMatchesReference.j0 k l0 l1 true)) = some r := H
   have A6 := Aside0.mk A60
   clear A60
   by_cases c7 : t346 = true
   ·subst c7
    have H1 : ((arlinkref14_Right.f k l1).bind fun t347 => (arlinklaw22_ClosureMatchesReference.j0 k l0 l1 (!t347))) = some r := by rw [if_pos rfl] at H; exact H
    clear H
    have H := H1
    clear H1
    replace H := Option.bind_eq_some_iff.mp H
    obtain ⟨t347, A80, H⟩ := H
    replace H : (arlinklaw22_ClosureMatchesReference.j0 k l0 l1 (!t347)) = some r := H
    have A8 := Aside0.mk A80
    clear A80
    have H' := Aside0.mk H
    clear H
    go_wp2_with (first | ((with_reducible refine gate_callee (f := 22) rfl ?_); refine goesL_ (some 8) rfl rfl Try.func22 (by kernel_rfl) rfl #[] rfl (by (try simp only [List.map_toArray, List.map_cons, List.map_nil]); first | done | rfl | (simp only [List.length_drop, List.length_take]; rfl)) ?_; (with_reducible refine (arlinklaw22_awake.calls  true _ A4.out).mono ?_); rintro e w9 ⟨rfl, hb⟩; refine ⟨_, rfl, ?_⟩; have n0_ := Aside0.mk (below_step (by repeat (first | (with_reducible first | exact HB.out | apply below_alloc | apply pw_below_drewN | apply below_drew1) | exact HB.out)) hb); clear HB; have HB := n0_; clear n0_; (try clear hb); (try clear hb2); (try clear hk); (try clear hi)) | (go_at_call 23; (with_reducible refine (arlinkref14_Right.calls k _ _ l0 true _ ?side1 ?side2 A6.out).mono ?_); (case side1 => repeat (first | exact (Kd.C_below HR0.out HB.out) | (with_reducible refine Kd.C_alloc ?_ _) | (with_reducible refine Kd.C_drewN ?_ _) | (with_reducible refine Kd.C_drew ?_))); (case side2 => exact HC0.out); rintro e w10 ⟨rfl, hb⟩; have n0_ := Aside0.mk (below_step (by repeat (first | (with_reducible first | exact HB.out | apply below_alloc | apply pw_below_drewN | apply below_drew1) | exact HB.out)) hb); clear HB; have HB := n0_; clear n0_; (try clear hb); (try clear hb2); (try clear hk); (try clear hi)) | (go_at_call 23; (with_reducible refine (arlinkref14_Right.calls k _ _ l1 t347 _ ?side1 ?side2 A8.out).mono ?_); (case side1 => repeat (first | exact (Kd.C_below HR1.out HB.out) | (with_reducible refine Kd.C_alloc ?_ _) | (with_reducible refine Kd.C_drewN ?_ _) | (with_reducible refine Kd.C_drew ?_))); (case side2 => exact HC1.out); rintro e w11 ⟨rfl, hb⟩; have n0_ := Aside0.mk (below_step (by repeat (first | (with_reducible first | exact HB.out | apply below_alloc | apply pw_below_drewN | apply below_drew1) | exact HB.out)) hb); clear HB; have HB := n0_; clear n0_; (try clear hb); (try clear hb2); (try clear hk); (try clear hi)))
    go_meet
    case rel => exact ⟨_, (!t347), (by first | rfl | (simp; done) | (simp [*]; done)), H', ⟨by first | omega | exact Nat.le_refl _⟩, ⟨by repeat (first | (with_reducible first | exact HB.out | apply below_alloc | apply pw_below_drewN | apply below_drew1) | exact HB.out)⟩⟩
   ·replace c7 := Bool.eq_false_iff.mpr c7
    subst c7
    have H1 : (arlinklaw22_ClosureMatchesReference.j0 k l0 l1 true) = some r := by rw [if_neg (show ¬ (false = true) by decide)] at H; exact H
    clear H
    have H := H1
    clear H1
    have H' := Aside0.mk H
    clear H
    go_wp2_with (first | ((with_reducible refine gate_callee (f := 22) rfl ?_); refine goesL_ (some 8) rfl rfl Try.func22 (by kernel_rfl) rfl #[] rfl (by (try simp only [List.map_toArray, List.map_cons, List.map_nil]); first | done | rfl | (simp only [List.length_drop, List.length_take]; rfl)) ?_; (with_reducible refine (arlinklaw22_awake.calls  true _ A4.out).mono ?_); rintro e w12 ⟨rfl, hb⟩; refine ⟨_, rfl, ?_⟩; have n0_ := Aside0.mk (below_step (by repeat (first | (with_reducible first | exact HB.out | apply below_alloc | apply pw_below_drewN | apply below_drew1) | exact HB.out)) hb); clear HB; have HB := n0_; clear n0_; (try clear hb); (try clear hb2); (try clear hk); (try clear hi)) | (go_at_call 23; (with_reducible refine (arlinkref14_Right.calls k _ _ l0 false _ ?side1 ?side2 A6.out).mono ?_); (case side1 => repeat (first | exact (Kd.C_below HR0.out HB.out) | (with_reducible refine Kd.C_alloc ?_ _) | (with_reducible refine Kd.C_drewN ?_ _) | (with_reducible refine Kd.C_drew ?_))); (case side2 => exact HC0.out); rintro e w13 ⟨rfl, hb⟩; have n0_ := Aside0.mk (below_step (by repeat (first | (with_reducible first | exact HB.out | apply below_alloc | apply pw_below_drewN | apply below_drew1) | exact HB.out)) hb); clear HB; have HB := n0_; clear n0_; (try clear hb); (try clear hb2); (try clear hk); (try clear hi)))
    go_meet
    case rel => exact ⟨_, (true), (by first | rfl | (simp; done) | (simp [*]; done)), H', ⟨by first | omega | exact Nat.le_refl _⟩, ⟨by repeat (first | (with_reducible first | exact HB.out | apply below_alloc | apply pw_below_drewN | apply below_drew1) | exact HB.out)⟩⟩
  ·replace c5 := Bool.eq_false_iff.mpr c5
   subst c5
   have H1 : (arlinklaw22_ClosureMatchesReference.j0 k l0 l1 true) = some r := by rw [if_neg (show ¬ (false = true) by decide)] at H; exact H
   clear H
   have H := H1
   clear H1
   have H' := Aside0.mk H
   clear H
   go_wp2_with (first | ((with_reducible refine gate_callee (f := 22) rfl ?_); refine goesL_ (some 8) rfl rfl Try.func22 (by kernel_rfl) rfl #[] rfl (by (try simp only [List.map_toArray, List.map_cons, List.map_nil]); first | done | rfl | (simp only [List.length_drop, List.length_take]; rfl)) ?_; (with_reducible refine (arlinklaw22_awake.calls  false _ A4.out).mono ?_); rintro e w14 ⟨rfl, hb⟩; refine ⟨_, rfl, ?_⟩; have n0_ := Aside0.mk (below_step (by repeat (first | (with_reducible first | exact HB.out | apply below_alloc | apply pw_below_drewN | apply below_drew1) | exact HB.out)) hb); clear HB; have HB := n0_; clear n0_; (try clear hb); (try clear hb2); (try clear hk); (try clear hi)))
   go_meet
   case rel => exact ⟨_, (true), (by first | rfl | (simp; done) | (simp [*]; done)), H', ⟨by first | omega | exact Nat.le_refl _⟩, ⟨by repeat (first | (with_reducible first | exact HB.out | apply below_alloc | apply pw_below_drewN | apply below_drew1) | exact HB.out)⟩⟩
 case rest =>
  clear HC3
  try clear c1
  try clear c2
  try clear p2
  try clear c5
  try clear c6
  try clear c7
  obtain ⟨kq, x19_2, rfl, HA, HJ2, HB⟩ := hcut
  cases kq with
  | zero => exact absurd HA.out (by simp [arlinklaw22_ClosureMatchesReference.j0])
  | succ kj2 =>
   have H := HA.out
   clear HA
   simp only [arlinklaw22_ClosureMatchesReference.j0] at H
   by_cases c15 : x19_2 = true
   ·subst c15
    have H1 : ((arlinklaw22_awake.f).bind fun t348 => (some t348)) = some r := by rw [if_pos rfl] at H; exact H
    clear H
    have H := H1
    clear H1
    replace H := Option.bind_eq_some_iff.mp H
    obtain ⟨t348, A160, H⟩ := H
    replace H : (some t348) = some r := H
    have A16 := Aside0.mk A160
    clear A160
    obtain rfl := Option.some.inj H
    go_wp2_with (first | ((with_reducible refine gate_callee (f := 22) rfl ?_); refine goesL_ (some 20) rfl rfl Try.func22 (by kernel_rfl) rfl #[] rfl (by (try simp only [List.map_toArray, List.map_cons, List.map_nil]); first | done | rfl | (simp only [List.length_drop, List.length_take]; rfl)) ?_; (with_reducible refine (arlinklaw22_awake.calls  t348 _ A16.out).mono ?_); rintro e w17 ⟨rfl, hb⟩; refine ⟨_, rfl, ?_⟩; have n0_ := Aside0.mk (below_step (by repeat (first | (with_reducible first | exact HB.out | apply below_alloc | apply pw_below_drewN | apply below_drew1) | exact HB.out)) hb); clear HB; have HB := n0_; clear n0_; (try clear hb); (try clear hb2); (try clear hk); (try clear hi)))
    go_ret
    exact ⟨by first | rfl | (simp [errW_none, errW_some] <;> rfl) | (simp [*, errW_none, errW_some] <;> rfl), by repeat (first | (with_reducible first | exact HB.out | apply below_alloc | apply pw_below_drewN | apply below_drew1) | exact HB.out)⟩
   ·replace c15 := Bool.eq_false_iff.mpr c15
    subst c15
    have H1 : ((arlinkref22_Needed.f kj2 l0 l1).bind fun t349 => (arlinklaw22_ClosureMatchesReference.l0 kj2 l0 l1 t349 ([] : List Int) 0)) = some r := by rw [if_neg (show ¬ (false = true) by decide)] at H; exact H
    clear H
    have H := H1
    clear H1
    replace H := Option.bind_eq_some_iff.mp H
    obtain ⟨t349, A180, H⟩ := H
    replace H : (arlinklaw22_ClosureMatchesReference.l0 kj2 l0 l1 t349 ([] : List Int) 0) = some r := H
    have A18 := Aside0.mk A180
    clear A180
    have H' := Aside0.mk H
    clear H
    go_wp2_with (first | ((with_reducible refine gate_callee (f := 24) rfl ?_); refine goesL_ (some 23) rfl rfl Try.func24 (by kernel_rfl) rfl #[.slice A0 l0.length c0, .slice A1 l1.length c1] rfl (by (try simp only [List.map_toArray, List.map_cons, List.map_nil]); first | done | rfl | (simp only [List.length_drop, List.length_take]; rfl)) ?_; (with_reducible refine (arlinkref22_Needed.calls kj2 _ _ l0 _ _ l1 t349 _ ?side1 ?side2 ?side3 ?side4 A18.out).mono ?_); (case side1 => repeat (first | exact (Kd.C_below HR0.out HB.out) | (with_reducible refine Kd.C_alloc ?_ _) | (with_reducible refine Kd.C_drewN ?_ _) | (with_reducible refine Kd.C_drew ?_))); (case side2 => exact HC0.out); (case side3 => repeat (first | exact (Kd.C_below HR1.out HB.out) | (with_reducible refine Kd.C_alloc ?_ _) | (with_reducible refine Kd.C_drewN ?_ _) | (with_reducible refine Kd.C_drew ?_))); (case side4 => exact HC1.out); rintro e w19 ⟨v350, rfl, ho0, hb⟩; refine ⟨_, rfl, ?_⟩; have n0_ := Aside0.mk (Kd.R_lower ho0 (below_size (by repeat (first | (with_reducible first | exact HB.out | apply below_alloc | apply pw_below_drewN | apply below_drew1) | exact HB.out)))); have n1_ := Aside0.mk (below_step (by repeat (first | (with_reducible first | exact HB.out | apply below_alloc | apply pw_below_drewN | apply below_drew1) | exact HB.out)) hb); clear HB; have HO351 := n0_; have HB := n1_; clear n0_ n1_; (try clear hb); (try clear hb2); (try clear hk); (try clear hi); (try clear ho0)))
    go_loopg [6, 7] kj2 (fun kq v6 v7 w' => ∃ (x6_2 : List Int) (x7_2 : Int), v7 = .int .i64 x7_2 ∧ Aside0 (arlinklaw22_ClosureMatchesReference.l0 kq l0 l1 t349 x6_2 x7_2 = some r) ∧ Aside0 (kq ≤ kj2) ∧ Aside0 (Kd.R (Kd.int .i64) 3 w' w.heap.size (fun k_ => some k_ ≠ (v6 : Value).ownBlock) v350 t349) ∧ Aside0 (Kd.R (Kd.int .i64) 3 w' w.heap.size (fun k_ => some k_ ≠ (v350 : Value).ownBlock) v6 x6_2) ∧ Aside0 (Below w.heap.size w w'))
    case atStart => exact ⟨(([] : List Int)), (0), (by first | rfl | (simp; done) | (simp [*]; done)), H', ⟨Nat.le_refl _⟩, ⟨by (with_reducible repeat (first | apply Kd.R_alloc | apply Kd.R_drewN | apply Kd.R_drew)); exact Kd.R_mono HO351.out (fun _ hk => (by simp [Value.ownBlock]))⟩, ⟨by first | exact Kd.R_nil _ _ _ _ _ | exact Kd.N_nil _ _ _ _ _ | exact Kd.V_nil _ _ _ _ _ | exact Kd.Q_nil _ _ _ _ _ | exact Kd.S_nil _ _ _ _ _⟩, ⟨by repeat (first | (with_reducible first | exact HB.out | apply below_alloc | apply pw_below_drewN | apply below_drew1) | exact HB.out)⟩⟩
    case round =>
     clear H'
     try clear c1
     try clear c2
     try clear p2
     try clear c5
     try clear c6
     try clear c7
     try clear c15
     try clear p2
     obtain ⟨x6_2, x7_2, rfl, HA, HK2, HO_5, HO_6, HB⟩ := hrel
     cases gk with
     | zero => exact absurd HA.out (by simp [arlinklaw22_ClosureMatchesReference.l0])
     | succ k2 =>
      have H := HA.out
      clear HA
      simp only [arlinklaw22_ClosureMatchesReference.l0] at H
      by_cases c20 : x7_2 < (t349.length : Int)
      ·rw [if_pos c20] at H
       have c20b0 : decide (x7_2 < (t349.length : Int)) = true := decide_eq_true c20
       clear c20
       by_cases c21 : 0 ≤ x7_2
       ·rw [if_pos c21] at H
        have c21b0 : decide (0 ≤ x7_2) = true := decide_eq_true c21
        clear c21
        by_cases c22 : (rd t349 x7_2) > 0
        ·rw [if_pos c22] at H
         have c22b0 : decide (0 < (rd t349 x7_2)) = true := decide_eq_true c22
         clear c22
         by_cases c23 : x6_2.length < 17592186044416
         ·rw [if_pos c23] at H
          have LMc23 := Aside0.mk c23
          clear c23
          obtain ⟨y353, hy353⟩ : ∃ y_ : List Int, y_ = (x6_2 ++ [x7_2]) := ⟨_, rfl⟩
          replace H : (arlinklaw22_ClosureMatchesReference.l0 k2 l0 l1 t349 y353 (wrap64 (x7_2 + 1))) = some r := by first | (rw [hy353]; with_reducible exact H) | (have H2_ := (Option.bind_some _ _).symm.trans H; rw [hy353]; with_reducible exact H2_) | (have H2_ := (Option.bind_some _ _).symm.trans H; with_reducible exact H2_) | with_reducible exact H | (rw [hy353]; exact H) | exact H
          have Ny353 := Aside0.mk hy353
          clear hy353
          have H' := Aside0.mk H
          clear H
          obtain ⟨Ao24, co24, eo24⟩ := Kd.R_slice HO_5.out
          subst eo24
          have p352 : 0 ≤ (x7_2 : Int) := of_decide_eq_true (by first | (with_reducible assumption) | assumption)
          have q352 : x7_2 < (t349.length : Int) := of_decide_eq_true (by first | (with_reducible assumption) | assumption)
          obtain ⟨ad352, e352, hx352_0⟩ := Kd.at_int (Kd.R_reads' HO_5.out).2.2 x7_2 p352 q352
          cases e352
          replace p352 := eq_true p352
          replace q352 := eq_true q352
          go_wp2_with (first | ((with_reducible refine gate_builtin (b := .append) (xs := #[.tmp 35, .tmp 37]) rfl ?_); at_builtin; refine Kd.R_append (Kd.int .i64) (w0 := w) w.heap.size rfl (.tmp 35) (.tmp 37) 24 3 (.int .i64 0) 8 rfl Try.underlying24 info3 rfl (by decide) (by omega) u6 x6_2 x7_2 [.int .i64 x7_2] (fun k_ => some k_ ≠ (.slice (some ad352) t349.length co24 : Value).ownBlock) (fun _ => False) rfl rfl ?aP (fun _ hk => hk.elim) ?aF ?aO ?aB ?aS ?aL ?_; (case aP => exact rfl); (case aB => exact (by repeat (first | (with_reducible first | exact HB.out | apply below_alloc | apply pw_below_drewN | apply below_drew1) | exact HB.out))); (case aF => exact (fun k_ hk => Kd.fresh' (Kd.R_lt (by (with_reducible repeat (first | apply Kd.R_alloc | apply Kd.R_drewN | apply Kd.R_drew)); exact HO_5.out)) k_ hk)); (case aO => exact (by (with_reducible repeat (first | apply Kd.R_alloc | apply Kd.R_drewN | apply Kd.R_drew)); exact HO_6.out)); (case aS => exact (below_size (by repeat (first | (with_reducible first | exact HB.out | apply below_alloc | apply pw_below_drewN | apply below_drew1) | exact HB.out)))); (case aL => have := LMc23.out; omega); intro v354 w25 ho hb hg hat; rw [← Ny353.out] at ho; have n0_ := Aside0.mk (Kd.R_after (ok := (fun _ => True)) (by (with_reducible repeat (first | apply Kd.R_alloc | apply Kd.R_drewN | apply Kd.R_drew)); exact Kd.R_mono HO_5.out (fun _ hk => ⟨trivial, hk⟩)) hg hat); have n1_ := Aside0.mk (hb); have n2_ := Aside0.mk (ho); clear HO_5; clear HB; clear HO_6; have HO_5 := n0_; have HB := n1_; have HO355 := n2_; clear n0_ n1_ n2_; clear ho hb hg hat))
          go_roundg k2
          case measure => have := HJ2.out; have := HK2.out; omega
          case rel => exact ⟨(y353), (wrap64 (x7_2 + 1)), (by first | rfl | (simp; done) | (simp [*]; done)), H', ⟨by have := HJ2.out; have := HK2.out; omega⟩, ⟨by (with_reducible repeat (first | apply Kd.R_alloc | apply Kd.R_drewN | apply Kd.R_drew)); exact Kd.R_mono HO_5.out (fun _ hk => hk.2)⟩, ⟨by (with_reducible repeat (first | apply Kd.R_alloc | apply Kd.R_drewN | apply Kd.R_drew)); exact HO355.out⟩, ⟨by repeat (first | (with_reducible first | exact HB.out | apply below_alloc | apply pw_below_drewN | apply below_drew1) | exact HB.out)⟩⟩
         ·rw [if_neg c23] at H
          exact absurd H (by simp)
        ·rw [if_neg c22] at H
         have c22b0 : decide (0 < (rd t349 x7_2)) = false := decide_eq_false c22
         clear c22
         have H' := Aside0.mk H
         clear H
         obtain ⟨Ao26, co26, eo26⟩ := Kd.R_slice HO_5.out
         subst eo26
         have p352 : 0 ≤ (x7_2 : Int) := of_decide_eq_true (by first | (with_reducible assumption) | assumption)
         have q352 : x7_2 < (t349.length : Int) := of_decide_eq_true (by first | (with_reducible assumption) | assumption)
         obtain ⟨ad352, e352, hx352_0⟩ := Kd.at_int (Kd.R_reads' HO_5.out).2.2 x7_2 p352 q352
         cases e352
         replace p352 := eq_true p352
         replace q352 := eq_true q352
         go_wp2
         go_roundg k2
         case measure => have := HJ2.out; have := HK2.out; omega
         case rel => exact ⟨(x6_2), (wrap64 (x7_2 + 1)), (by first | rfl | (simp; done) | (simp [*]; done)), H', ⟨by have := HJ2.out; have := HK2.out; omega⟩, ⟨by (with_reducible repeat (first | apply Kd.R_alloc | apply Kd.R_drewN | apply Kd.R_drew)); exact HO_5.out⟩, ⟨by (with_reducible repeat (first | apply Kd.R_alloc | apply Kd.R_drewN | apply Kd.R_drew)); exact HO_6.out⟩, ⟨by repeat (first | (with_reducible first | exact HB.out | apply below_alloc | apply pw_below_drewN | apply below_drew1) | exact HB.out)⟩⟩
       ·rw [if_neg c21] at H
        exact absurd H (by simp)
      ·rw [if_neg c20] at H
       have c20b0 : decide (x7_2 < (t349.length : Int)) = false := decide_eq_false c20
       clear c20
       replace H := Option.bind_eq_some_iff.mp H
       obtain ⟨t356, A270, H⟩ := H
       replace H : ((arlinkref04_Numbers.f k2 t356 x6_2).bind fun t359 => (if t359 = true then ((closure_Unique.f l1).bind fun t360 => ((arlinkref22_Unique.f k2 l1).bind fun t361 => (some (t360 == t361)))) else (some false))) = some r := H
       have A27 := Aside0.mk A270
       clear A270
       replace H := Option.bind_eq_some_iff.mp H
       obtain ⟨t359, A280, H⟩ := H
       replace H : (if t359 = true then ((closure_Unique.f l1).bind fun t360 => ((arlinkref22_Unique.f k2 l1).bind fun t361 => (some (t360 == t361)))) else (some false)) = some r := H
       have A28 := Aside0.mk A280
       clear A280
       by_cases c29 : t359 = true
       ·subst c29
        have H1 : ((closure_Unique.f l1).bind fun t360 => ((arlinkref22_Unique.f k2 l1).bind fun t361 => (some (t360 == t361)))) = some r := by rw [if_pos rfl] at H; exact H
        clear H
        have H := H1
        clear H1
        replace H := Option.bind_eq_some_iff.mp H
        obtain ⟨t360, A300, H⟩ := H
        replace H : ((arlinkref22_Unique.f k2 l1).bind fun t361 => (some (t360 == t361))) = some r := H
        have A30 := Aside0.mk A300
        clear A300
        replace H := Option.bind_eq_some_iff.mp H
        obtain ⟨t361, A310, H⟩ := H
        replace H : (some (t360 == t361)) = some r := H
        have A31 := Aside0.mk A310
        clear A310
        obtain rfl := Option.some.inj H
        obtain ⟨Ao32, co32, eo32⟩ := Kd.R_slice HO_5.out
        subst eo32
        go_wp2_with (first | ((with_reducible refine gate_callee (f := 25) rfl ?_); refine goesL_ (some 41) rfl rfl Try.func25 (by kernel_rfl) rfl #[.slice A0 l0.length c0, .slice A1 l1.length c1] rfl (by (try simp only [List.map_toArray, List.map_cons, List.map_nil]); first | done | rfl | (simp only [List.length_drop, List.length_take]; rfl)) ?_; (with_reducible refine (closure_Needed.calls _ _ l0 _ _ l1 t356 _ ?side1 ?side2 ?side3 ?side4 A27.out).mono ?_); (case side1 => repeat (first | exact (Kd.C_below HR0.out HB.out) | (with_reducible refine Kd.C_alloc ?_ _) | (with_reducible refine Kd.C_drewN ?_ _) | (with_reducible refine Kd.C_drew ?_))); (case side2 => exact HC0.out); (case side3 => repeat (first | exact (Kd.C_below HR1.out HB.out) | (with_reducible refine Kd.C_alloc ?_ _) | (with_reducible refine Kd.C_drewN ?_ _) | (with_reducible refine Kd.C_drew ?_))); (case side4 => exact HC1.out); rintro e w33 ⟨v357, rfl, ho0, hb⟩; refine ⟨_, rfl, ?_⟩; have n0_ := Aside0.mk (Kd.R_elder' (by (with_reducible repeat (first | apply Kd.R_alloc | apply Kd.R_drewN | apply Kd.R_drew)); exact HO_5.out) (Kd.R_base ho0) hb); have n1_ := Aside0.mk (Kd.R_elder' (by (with_reducible repeat (first | apply Kd.R_alloc | apply Kd.R_drewN | apply Kd.R_drew)); exact HO_6.out) (Kd.R_base ho0) hb); have n2_ := Aside0.mk (Kd.R_lower (Kd.R_new' (Kd.R_new' ho0 (Kd.R_lt (by (with_reducible repeat (first | apply Kd.R_alloc | apply Kd.R_drewN | apply Kd.R_drew)); exact HO_5.out))) (Kd.R_lt (by (with_reducible repeat (first | apply Kd.R_alloc | apply Kd.R_drewN | apply Kd.R_drew)); exact HO_6.out))) (below_size (by repeat (first | (with_reducible first | exact HB.out | apply below_alloc | apply pw_below_drewN | apply below_drew1) | exact HB.out)))); have n3_ := Aside0.mk (below_step (by repeat (first | (with_reducible first | exact HB.out | apply below_alloc | apply pw_below_drewN | apply below_drew1) | exact HB.out)) hb); clear HO_5; clear HO_6; clear HB; have HO_5 := n0_; have HO_6 := n1_; have HO358 := n2_; have HB := n3_; clear n0_ n1_ n2_ n3_; (try clear hb); (try clear hb2); (try clear hk); (try clear hi); (try clear ho0); obtain ⟨Ao34, co34, eo34⟩ := Kd.R_slice HO358.out; subst eo34; obtain ⟨Ao35, co35, eo35⟩ := Kd.R_slice HO_6.out; subst eo35) | ((with_reducible refine gate_callee (f := 17) rfl ?_); refine goesL_ (some 43) rfl rfl Try.func17 (by kernel_rfl) rfl #[.slice Ao34 t356.length co34, .slice Ao35 x6_2.length co35] rfl (by (try simp only [List.map_toArray, List.map_cons, List.map_nil]); first | done | rfl | (simp only [List.length_drop, List.length_take]; rfl)) ?_; (with_reducible refine (arlinkref04_Numbers.calls k2 _ _ t356 _ _ x6_2 true _ ?side1 ?side2 ?side3 ?side4 A28.out).mono ?_); (case side1 => repeat (first | exact (Kd.R_reads' HO358.out).2.2 | (with_reducible refine Kd.C_alloc ?_ _) | (with_reducible refine Kd.C_drewN ?_ _) | (with_reducible refine Kd.C_drew ?_))); (case side2 => exact (Kd.R_reads' HO358.out).2.1); (case side3 => repeat (first | exact (Kd.R_reads' HO_6.out).2.2 | (with_reducible refine Kd.C_alloc ?_ _) | (with_reducible refine Kd.C_drewN ?_ _) | (with_reducible refine Kd.C_drew ?_))); (case side4 => exact (Kd.R_reads' HO_6.out).2.1); rintro e w' ⟨rfl, ⟨nd, rfl⟩⟩; refine ⟨_, rfl, ?_⟩) | (go_at_call 26; (with_reducible refine (closure_Unique.calls _ _ l1 t360 _ ?side1 ?side2 A30.out).mono ?_); (case side1 => repeat (first | exact (Kd.C_below HR1.out (by repeat (first | (with_reducible first | exact HB.out | apply below_alloc | apply pw_below_drewN | apply below_drew1) | exact HB.out))) | (with_reducible refine Kd.C_alloc ?_ _) | (with_reducible refine Kd.C_drewN ?_ _) | (with_reducible refine Kd.C_drew ?_))); (case side2 => exact HC1.out); rintro e w36 ⟨rfl, hb⟩; have n0_ := Aside0.mk (Kd.R_below (by (with_reducible repeat (first | apply Kd.R_alloc | apply Kd.R_drewN | apply Kd.R_drew)); exact HO_5.out) hb); have n1_ := Aside0.mk (Kd.R_below (by (with_reducible repeat (first | apply Kd.R_alloc | apply Kd.R_drewN | apply Kd.R_drew)); exact HO_6.out) hb); have n2_ := Aside0.mk (Kd.R_below (by (with_reducible repeat (first | apply Kd.R_alloc | apply Kd.R_drewN | apply Kd.R_drew)); exact HO358.out) hb); have n3_ := Aside0.mk (below_step (by repeat (first | (with_reducible first | exact HB.out | apply below_alloc | apply pw_below_drewN | apply below_drew1) | exact HB.out)) hb); clear HO_5; clear HO_6; clear HO358; clear HB; have HO_5 := n0_; have HO_6 := n1_; have HO358 := n2_; have HB := n3_; clear n0_ n1_ n2_ n3_; (try clear hb); (try clear hb2); (try clear hk); (try clear hi)) | (go_at_call 27; (with_reducible refine (arlinkref22_Unique.calls k2 _ _ l1 t361 _ ?side1 ?side2 A31.out).mono ?_); (case side1 => repeat (first | exact (Kd.C_below HR1.out HB.out) | (with_reducible refine Kd.C_alloc ?_ _) | (with_reducible refine Kd.C_drewN ?_ _) | (with_reducible refine Kd.C_drew ?_))); (case side2 => exact HC1.out); rintro e w37 ⟨rfl, hb⟩; have n0_ := Aside0.mk (Kd.R_below (by (with_reducible repeat (first | apply Kd.R_alloc | apply Kd.R_drewN | apply Kd.R_drew)); exact HO_5.out) hb); have n1_ := Aside0.mk (Kd.R_below (by (with_reducible repeat (first | apply Kd.R_alloc | apply Kd.R_drewN | apply Kd.R_drew)); exact HO_6.out) hb); have n2_ := Aside0.mk (Kd.R_below (by (with_reducible repeat (first | apply Kd.R_alloc | apply Kd.R_drewN | apply Kd.R_drew)); exact HO358.out) hb); have n3_ := Aside0.mk (below_step (by repeat (first | (with_reducible first | exact HB.out | apply below_alloc | apply pw_below_drewN | apply below_drew1) | exact HB.out)) hb); clear HO_5; clear HO_6; clear HO358; clear HB; have HO_5 := n0_; have HO_6 := n1_; have HO358 := n2_; have HB := n3_; clear n0_ n1_ n2_ n3_; (try clear hb); (try clear hb2); (try clear hk); (try clear hi)))
        go_ret
        exact ⟨by first | rfl | (simp [errW_none, errW_some] <;> rfl) | (simp [*, errW_none, errW_some] <;> rfl), by repeat (first | (with_reducible first | exact HB.out | apply below_alloc | apply pw_below_drewN | apply below_drew1) | exact HB.out)⟩
       ·replace c29 := Bool.eq_false_iff.mpr c29
        subst c29
        have H1 : (some false) = some r := by rw [if_neg (show ¬ (false = true) by decide)] at H; exact H
        clear H
        have H := H1
        clear H1
        obtain rfl := Option.some.inj H
        obtain ⟨Ao38, co38, eo38⟩ := Kd.R_slice HO_5.out
        subst eo38
        go_wp2_with (first | ((with_reducible refine gate_callee (f := 25) rfl ?_); refine goesL_ (some 41) rfl rfl Try.func25 (by kernel_rfl) rfl #[.slice A0 l0.length c0, .slice A1 l1.length c1] rfl (by (try simp only [List.map_toArray, List.map_cons, List.map_nil]); first | done | rfl | (simp only [List.length_drop, List.length_take]; rfl)) ?_; (with_reducible refine (closure_Needed.calls _ _ l0 _ _ l1 t356 _ ?side1 ?side2 ?side3 ?side4 A27.out).mono ?_); (case side1 => repeat (first | exact (Kd.C_below HR0.out HB.out) | (with_reducible refine Kd.C_alloc ?_ _) | (with_reducible refine Kd.C_drewN ?_ _) | (with_reducible refine Kd.C_drew ?_))); (case side2 => exact HC0.out); (case side3 => repeat (first | exact (Kd.C_below HR1.out HB.out) | (with_reducible refine Kd.C_alloc ?_ _) | (with_reducible refine Kd.C_drewN ?_ _) | (with_reducible refine Kd.C_drew ?_))); (case side4 => exact HC1.out); rintro e w39 ⟨v357, rfl, ho0, hb⟩; refine ⟨_, rfl, ?_⟩; have n0_ := Aside0.mk (Kd.R_elder' (by (with_reducible repeat (first | apply Kd.R_alloc | apply Kd.R_drewN | apply Kd.R_drew)); exact HO_5.out) (Kd.R_base ho0) hb); have n1_ := Aside0.mk (Kd.R_elder' (by (with_reducible repeat (first | apply Kd.R_alloc | apply Kd.R_drewN | apply Kd.R_drew)); exact HO_6.out) (Kd.R_base ho0) hb); have n2_ := Aside0.mk (Kd.R_lower (Kd.R_new' (Kd.R_new' ho0 (Kd.R_lt (by (with_reducible repeat (first | apply Kd.R_alloc | apply Kd.R_drewN | apply Kd.R_drew)); exact HO_5.out))) (Kd.R_lt (by (with_reducible repeat (first | apply Kd.R_alloc | apply Kd.R_drewN | apply Kd.R_drew)); exact HO_6.out))) (below_size (by repeat (first | (with_reducible first | exact HB.out | apply below_alloc | apply pw_below_drewN | apply below_drew1) | exact HB.out)))); have n3_ := Aside0.mk (below_step (by repeat (first | (with_reducible first | exact HB.out | apply below_alloc | apply pw_below_drewN | apply below_drew1) | exact HB.out)) hb); clear HO_5; clear HO_6; clear HB; have HO_5 := n0_; have HO_6 := n1_; have HO358 := n2_; have HB := n3_; clear n0_ n1_ n2_ n3_; (try clear hb); (try clear hb2); (try clear hk); (try clear hi); (try clear ho0); obtain ⟨Ao40, co40, eo40⟩ := Kd.R_slice HO358.out; subst eo40; obtain ⟨Ao41, co41, eo41⟩ := Kd.R_slice HO_6.out; subst eo41) | ((with_reducible refine gate_callee (f := 17) rfl ?_); refine goesL_ (some 43) rfl rfl Try.func17 (by kernel_rfl) rfl #[.slice Ao40 t356.length co40, .slice Ao41 x6_2.length co41] rfl (by (try simp only [List.map_toArray, List.map_cons, List.map_nil]); first | done | rfl | (simp only [List.length_drop, List.length_take]; rfl)) ?_; (with_reducible refine (arlinkref04_Numbers.calls k2 _ _ t356 _ _ x6_2 false _ ?side1 ?side2 ?side3 ?side4 A28.out).mono ?_); (case side1 => repeat (first | exact (Kd.R_reads' HO358.out).2.2 | (with_reducible refine Kd.C_alloc ?_ _) | (with_reducible refine Kd.C_drewN ?_ _) | (with_reducible refine Kd.C_drew ?_))); (case side2 => exact (Kd.R_reads' HO358.out).2.1); (case side3 => repeat (first | exact (Kd.R_reads' HO_6.out).2.2 | (with_reducible refine Kd.C_alloc ?_ _) | (with_reducible refine Kd.C_drewN ?_ _) | (with_reducible refine Kd.C_drew ?_))); (case side4 => exact (Kd.R_reads' HO_6.out).2.1); rintro e w' ⟨rfl, ⟨nd, rfl⟩⟩; refine ⟨_, rfl, ?_⟩))
        go_ret
        exact ⟨by first | rfl | (simp [errW_none, errW_some] <;> rfl) | (simp [*, errW_none, errW_some] <;> rfl), by repeat (first | (with_reducible first | exact HB.out | apply below_alloc | apply pw_below_drewN | apply below_drew1) | exact HB.out)⟩
end Go.Proofs.Ythpjpkcfepmhkaa.PAll
namespace Go.Proofs.Ythpjpkcfepmhkaa.PAll
open Go.RowKit Go.Proofs.YthpjpkcfepmhkaaW.PrintWords Go.Proofs.YthpjpkcfepmhkaaW.PrintLast Go.Proofs.YthpjpkcfepmhkaaW.PrintMore
set_option linter.unusedVariables false
set_option linter.unusedSimpArgs false
def clB (ms : List S50) (i k : Nat) : Bool := (rd_T50 ms (i : Int)).f0.any fun s => defB s.f1 && hasB (rd_T50 ms (k : Int)).f0 s.f0 1 2
theorem clB_iff {ms : List S50} {i k : Nat} : clB ms i k = true ↔ ∃ s, s ∈ namesOf defB (rd_T50 ms (i : Int)).f0 ∧ s ∈ namesOf defB (rd_T50 ms (k : Int)).f0 := by
  unfold clB
  simp only [List.any_eq_true, Bool.and_eq_true, hasB_def]
  constructor
  · rintro ⟨s, h1, h2, h3⟩
    exact ⟨s.f0, List.mem_map.2 ⟨s, List.mem_filter.2 ⟨h1, h2⟩, rfl⟩, h3⟩
  · rintro ⟨n, h1, h3⟩
    obtain ⟨s, hs, rfl⟩ := List.mem_map.1 h1
    obtain ⟨h5, h6⟩ := List.mem_filter.1 hs
    exact ⟨s, h5, h6, h3⟩
section
variable {ms : List S50} {r : Bool}
theorem un_l2 (sm : Slim ms) {i k : Nat} (hi : i < ms.length) (hk : k < ms.length) (hend : Ev (fun n => arlinkref22_Unique.l1 n ms (i : Int) ((k + 1 : Nat) : Int)) r) :
    ∀ (d j : Nat), j + d = (rd_T50 ms (i : Int)).f0.length → Ev (fun n => arlinkref22_Unique.l2 n ms (i : Int) (k : Int) (j : Int)) (!(((rd_T50 ms (i : Int)).f0.drop j).any fun s => defB s.f1 && hasB (rd_T50 ms (k : Int)).f0 s.f0 1 2) && r)
  | 0, j, h => by
    have hl := sm.1
    rw [List.drop_of_length_le (by omega), List.any_nil, Bool.not_false, Bool.true_and]
    exact Ev.step (fun n => by simp only [arlinkref22_Unique.l2]; rw [if_pos (by omega), if_pos (by omega), if_neg (by omega), wrN k (by omega)]) hend
  | d + 1, j, h => by
    have hl := sm.1
    have hj : j < (rd_T50 ms (i : Int)).f0.length := by omega
    have hjl : (rd_T50 ms (i : Int)).f0.length ≤ 1000000 := by rw [rd50 hi]; exact sm.2 _ (List.getElem_mem hi)
    have hkl : (rd_T50 ms (k : Int)).f0.length ≤ 1000000 := by rw [rd50 hk]; exact sm.2 _ (List.getElem_mem hk)
    have ih := un_l2 sm hi hk hend d (j + 1) (by omega)
    rw [any_drop _ _ _ hj]
    obtain ⟨z, hz⟩ : ∃ z, (rd_T50 ms (i : Int)).f0[j] = z := ⟨_, rfl⟩
    have hr : rd_T55 (rd_T50 ms (i : Int)).f0 (j : Int) = z := by rw [rd55 hj, hz]
    rw [hz]
    have hh := has22_ev (rd_T50 ms (k : Int)).f0 (rd_T50 ms (k : Int)).f1 z.f0 1 2 (by omega)
    have body : Ev (fun n => (arlinkref22_has.f n (rd_T50 ms (k : Int)).f0 (rd_T50 ms (k : Int)).f1 z.f0 1 2).bind fun t => if t = true then some false else arlinkref22_Unique.l2 n ms (i : Int) (k : Int) ((j + 1 : Nat) : Int))
        (!(hasB (rd_T50 ms (k : Int)).f0 z.f0 1 2 || ((rd_T50 ms (i : Int)).f0.drop (j + 1)).any fun s => defB s.f1 && hasB (rd_T50 ms (k : Int)).f0 s.f0 1 2) && r) := by
      refine Ev.bind hh ?_
      cases hasB (rd_T50 ms (k : Int)).f0 z.f0 1 2 with
      | true => exact Ev.now _
      | false => exact Ev.congr (fun n => by rw [if_neg (by decide)]) ih
    by_cases c1 : z.f1 = 1
    · have hd : defB z.f1 = true := by rw [c1]; rfl
      rw [hd, Bool.true_and]
      exact Ev.step (fun n => by rw [arlinkref22_Unique.l2, if_pos (by omega), if_pos (by omega), if_pos (by omega), if_pos (by omega), hr, if_pos c1, if_pos (by omega), if_pos (by omega), wrN j (by omega)]) body
    · by_cases c2 : z.f1 = 2
      · have hd : defB z.f1 = true := by rw [c2]; rfl
        rw [hd, Bool.true_and]
        exact Ev.step (fun n => by rw [arlinkref22_Unique.l2, if_pos (by omega), if_pos (by omega), if_pos (by omega), if_pos (by omega), hr, if_neg c1, if_pos c2, if_pos (by omega), if_pos (by omega), wrN j (by omega)]) body
      · have hd : defB z.f1 = false := by unfold defB; rw [beq_eq_false_iff_ne.mpr c1, beq_eq_false_iff_ne.mpr c2]; rfl
        rw [hd, Bool.false_and, Bool.false_or]
        exact Ev.step (fun n => by rw [arlinkref22_Unique.l2, if_pos (by omega), if_pos (by omega), if_pos (by omega), if_pos (by omega), hr, if_neg c1, if_neg c2, wrN j (by omega)]) ih
theorem un_l1 (sm : Slim ms) {i : Nat} (hi : i < ms.length) (hend : Ev (fun n => arlinkref22_Unique.l0 n ms ((i + 1 : Nat) : Int)) r) :
    ∀ (d k : Nat), k + d = i → Ev (fun n => arlinkref22_Unique.l1 n ms (i : Int) (k : Int)) (!(((List.range i).drop k).any fun t => clB ms i t) && r)
  | 0, k, h => by
    have hl := sm.1
    rw [List.drop_of_length_le (by simp; omega), List.any_nil, Bool.not_false, Bool.true_and]
    exact Ev.step (fun n => by simp only [arlinkref22_Unique.l1]; rw [if_neg (by omega), wrN i (by omega)]) hend
  | d + 1, k, h => by
    have ih := un_l1 sm hi hend d (k + 1) (by omega)
    rw [any_drop _ _ _ (by rw [List.length_range]; omega), List.getElem_range]
    have := un_l2 sm hi (k := k) (by omega) ih (rd_T50 ms (i : Int)).f0.length 0 (by omega)
    rw [List.drop_zero] at this
    refine Ev.step (f := fun n => arlinkref22_Unique.l2 n ms (i : Int) (k : Int) ((0 : Nat) : Int)) (fun n => by simp only [arlinkref22_Unique.l1]; rw [if_pos (by omega)]; rfl) ?_
    have e : (!(clB ms i k || ((List.range i).drop (k + 1)).any fun t => clB ms i t) && r) = (!(clB ms i k) && (!(((List.range i).drop (k + 1)).any fun t => clB ms i t) && r)) := by
      cases clB ms i k <;> simp
    rw [e]
    exact this
theorem un_l0 (sm : Slim ms) : ∀ (d i : Nat), i + d = ms.length → Ev (fun n => arlinkref22_Unique.l0 n ms (i : Int)) (!(((List.range ms.length).drop i).any fun t => (List.range t).any fun u => clB ms t u))
  | 0, i, h => by
    rw [List.drop_of_length_le (by simp; omega), List.any_nil, Bool.not_false]
    exact Ev.step (f := fun _ => some true) (fun n => by simp only [arlinkref22_Unique.l0]; rw [if_neg (by omega)]) (Ev.now _)
  | d + 1, i, h => by
    have ih := un_l0 sm d (i + 1) (by omega)
    rw [any_drop _ _ _ (by rw [List.length_range]; omega), List.getElem_range, Bool.not_or]
    have := un_l1 sm (i := i) (by omega) ih i 0 (by omega)
    rw [List.drop_zero] at this
    exact Ev.step (f := fun n => arlinkref22_Unique.l1 n ms (i : Int) ((0 : Nat) : Int)) (fun n => by simp only [arlinkref22_Unique.l0]; rw [if_pos (by omega)]; rfl) this
theorem refUnique_ev (sm : Slim ms) : Ev (fun n => arlinkref22_Unique.f n ms) (!((List.range ms.length).any fun t => (List.range t).any fun u => clB ms t u)) := by
  have := un_l0 sm ms.length 0 (by omega)
  rwa [List.drop_zero] at this
end
theorem names_nodup {l : List S55} {p : Int → Bool} (h : ∀ (i j : Nat) (hi : i < j) (hj : j < l.length), l[i].f0 ≠ l[j].f0) : (namesOf p l).Nodup := by
  unfold namesOf
  have h1 : (l.map fun s => s.f0).Nodup := by
    rw [List.nodup_iff_pairwise_ne, List.pairwise_map, List.pairwise_iff_getElem]
    exact fun i j hi hj hij => h i j hij hj
  exact h1.sublist (List.filter_sublist.map _)
theorem zsOf_append (a b : List (ByteArray × Int)) (s : ByteArray) : zsOf (a ++ b) s = zsOf a s ++ zsOf b s := by
  unfold zsOf
  rw [List.filter_append, List.map_append]
theorem zsOf_own (i : Int) (s : ByteArray) : ∀ {ns : List ByteArray}, ns.Nodup → (zsOf (ns.map fun t => (t, i)) s).length ≤ 1 ∧ ∀ x, x ∈ zsOf (ns.map fun t => (t, i)) s → x = i
  | [], _ => ⟨by simp [zsOf], fun x hx => by simp [zsOf] at hx⟩
  | n :: ns, h => by
    rw [List.nodup_cons] at h
    obtain ⟨h1, h2⟩ := zsOf_own i s h.2
    have hz : zsOf ((n :: ns).map fun t => (t, i)) s = (if n = s then [i] else []) ++ zsOf (ns.map fun t => (t, i)) s := by
      unfold zsOf
      rw [List.map_cons, List.filter_cons]
      by_cases e : n = s
      · rw [if_pos (by simp [e]), if_pos e]; rfl
      · rw [if_neg (by simp [e]), if_neg e]; rfl
    rw [hz]
    by_cases e : n = s
    · rw [if_pos e]
      have h0 : zsOf (ns.map fun t => (t, i)) s = [] := by
        unfold zsOf
        rw [List.filter_eq_nil_iff.2 (fun p hp => ?_)]
        · rfl
        · obtain ⟨t, ht, rfl⟩ := List.mem_map.1 hp
          have : t ≠ s := fun e2 => h.1 (by rw [e, ← e2]; exact ht)
          simp [this]
      rw [h0]
      exact ⟨by simp, fun x hx => by simpa using hx⟩
    · rw [if_neg e, List.nil_append]
      exact ⟨h1, h2⟩
theorem zs_nodup (s : ByteArray) : ∀ (l : List S50) (i : Nat), (∀ o, o ∈ l → (namesOf defB o.f0).Nodup) → (zsOf (prsOf l i) s).Nodup ∧ ∀ x, x ∈ zsOf (prsOf l i) s → (i : Int) ≤ x
  | [], i, _ => ⟨by simp [prsOf, zsOf], fun x hx => by simp [prsOf, zsOf] at hx⟩
  | o :: r, i, h => by
    obtain ⟨h1, h2⟩ := zs_nodup s r (i + 1) (fun x hx => h x (List.mem_cons_of_mem _ hx))
    obtain ⟨h3, h4⟩ := zsOf_own (i : Int) s (h o (List.mem_cons_self ..))
    unfold prsOf
    rw [zsOf_append]
    refine ⟨List.nodup_append.2 ⟨?_, h1, fun a ha b hb => ?_⟩, fun x hx => ?_⟩
    · cases hz : zsOf ((namesOf defB o.f0).map fun t => (t, (i : Int))) s with
      | nil => simp
      | cons a l =>
        rw [hz] at h3
        cases l with
        | nil => simp
        | cons b l => simp at h3
    · have := h4 a ha
      have := h2 b hb
      omega
    · rcases List.mem_append.1 hx with hx | hx
      · rw [h4 x hx]; exact Int.le_refl _
      · have := h2 x hx; omega
theorem uniq_eq {ms : List S50} (h : RightP ms) : uniqB (prsOf ms 0) = !((List.range ms.length).any fun t => (List.range t).any fun u => clB ms t u) := by
  have hnd : ∀ o, o ∈ ms → (namesOf defB o.f0).Nodup := fun o ho => names_nodup (h.apart o ho)
  rw [Bool.eq_iff_iff, Bool.not_eq_true']
  constructor
  · intro hu
    rw [List.any_eq_false]
    intro t ht hc
    obtain ⟨u, hu1, hu2⟩ := List.any_eq_true.1 hc
    rw [List.mem_range] at ht hu1
    obtain ⟨s, h1, h2⟩ := clB_iff.1 hu2
    have m1 : (t : Int) ∈ zsOf (prsOf ms 0) s := zs_mem.2 ⟨t, ht, rfl, h1⟩
    have m2 : (u : Int) ∈ zsOf (prsOf ms 0) s := zs_mem.2 ⟨u, by omega, rfl, h2⟩
    have hp : (s, (t : Int)) ∈ prsOf ms 0 := (prs_mem ms 0 s (t : Int)).2 ⟨t, ht, by omega, by rw [← rd50 ht]; exact h1⟩
    have hl : (zsOf (prsOf ms 0) s).length ≤ 1 := of_decide_eq_true ((List.all_eq_true.1 hu) _ hp)
    cases hz : zsOf (prsOf ms 0) s with
    | nil => rw [hz] at m1; simp at m1
    | cons a l =>
      rw [hz] at m1 m2 hl
      cases l with
      | nil =>
        rw [List.mem_singleton] at m1 m2
        omega
      | cons b l => simp at hl
  · intro hu
    unfold uniqB
    rw [List.all_eq_true]
    rintro ⟨s, x⟩ hp
    refine decide_eq_true ?_
    show (zsOf (prsOf ms 0) s).length ≤ 1
    obtain ⟨hn, _⟩ := zs_nodup s ms 0 hnd
    have hm : ∀ y, y ∈ zsOf (prsOf ms 0) s → ∃ q : Nat, q < ms.length ∧ y = (q : Int) ∧ s ∈ namesOf defB (rd_T50 ms q).f0 := fun y hy => zs_mem.1 hy
    cases hz : zsOf (prsOf ms 0) s with
    | nil => simp
    | cons a l =>
      cases l with
      | nil => simp
      | cons b l =>
        exfalso
        rw [hz] at hn hm
        obtain ⟨p, hp1, rfl, hp3⟩ := hm a (by simp)
        obtain ⟨q, hq1, rfl, hq3⟩ := hm b (by simp)
        have hne : p ≠ q := by
          rintro rfl
          simp at hn
        rw [List.any_eq_false] at hu
        rcases Nat.lt_or_gt_of_ne hne with hlt | hlt
        · exact hu q (List.mem_range.2 hq1) (List.any_eq_true.2 ⟨p, List.mem_range.2 hlt, clB_iff.2 ⟨s, hq3, hp3⟩⟩)
        · exact hu p (List.mem_range.2 hp1) (List.any_eq_true.2 ⟨q, List.mem_range.2 hlt, clB_iff.2 ⟨s, hp3, hq3⟩⟩)
theorem numbers22_loop (a : List Int) (hl : a.length ≤ 1000000) : ∀ (d i : Nat), i + d = a.length → Ev (fun k => arlinkref04_Numbers.l0 k a a (i : Int)) true
  | 0, i, h => Ev.step (f := fun _ => some true) (fun k => by simp only [arlinkref04_Numbers.l0]; rw [if_neg (by omega)]) (Ev.now _)
  | d + 1, i, h => Ev.step (f := fun k => arlinkref04_Numbers.l0 k a a ((i + 1 : Nat) : Int)) (fun k => by simp only [arlinkref04_Numbers.l0]; rw [if_pos (by omega), if_pos (by omega), if_pos (by omega), if_true, wrN i (by omega)]) (numbers22_loop a hl d (i + 1) (by omega))
theorem numbers22_same (a : List Int) (hl : a.length ≤ 1000000) : Ev (fun k => arlinkref04_Numbers.f k a a) true := by
  unfold arlinkref04_Numbers.f
  exact Ev.congr (f := fun k => arlinkref04_Numbers.l0 k a a ((0 : Nat) : Int)) (fun k => by rw [if_pos rfl]; rfl) (numbers22_loop a hl a.length 0 (by omega))
theorem match_l0 {os ms : List S50} {L nd : List Int} (hL : L.length = ms.length) (hl : ms.length ≤ 1000000) (hm : ∀ q, q < ms.length → (0 < rd L (q : Int) ↔ (q : Int) ∈ nd)) {r : Bool}
    (hend : (∀ k, arlinklaw22_ClosureMatchesReference.l0 (k + 1) os ms L (pickN nd ms.length) (ms.length : Int) = ((closure_Needed.f os ms).bind fun t356 => ((arlinkref04_Numbers.f k t356 (pickN nd ms.length)).bind fun t359 => (if t359 = true then ((closure_Unique.f ms).bind fun t360 => ((arlinkref22_Unique.f k ms).bind fun t361 => (some (t360 == t361)))) else (some false))))) → Ev (fun k => arlinklaw22_ClosureMatchesReference.l0 k os ms L (pickN nd ms.length) (ms.length : Int)) r) :
    ∀ (d i : Nat), i + d = ms.length → Ev (fun k => arlinklaw22_ClosureMatchesReference.l0 k os ms L (pickN nd i) (i : Int)) r
  | 0, i, h => by
    have : i = ms.length := by omega
    subst this
    exact hend (fun k => by simp only [arlinklaw22_ClosureMatchesReference.l0]; rw [if_neg (by omega)])
  | d + 1, i, h => by
    have ih := match_l0 hL hl hm hend d (i + 1) (by omega)
    have hlen := pickN_len nd i
    rw [pickN_succ] at ih
    by_cases c : (i : Int) ∈ nd
    · rw [if_pos c] at ih
      exact Ev.step (fun k => by
        simp only [arlinklaw22_ClosureMatchesReference.l0]
        rw [if_pos (by omega), if_pos (by omega), if_pos (show rd L (i : Int) > 0 from (hm i (by omega)).2 c), if_pos (by omega), wrN i (by omega)]) ih
    · rw [if_neg c] at ih
      exact Ev.step (fun k => by
        simp only [arlinklaw22_ClosureMatchesReference.l0]
        rw [if_pos (by omega), if_pos (by omega), if_neg (fun h => c ((hm i (by omega)).1 h)), wrN i (by omega)]) ih
theorem awake22_ev' : Ev (fun _ : Nat => arlinklaw22_awake.f) true := Ev.now _
theorem closureMatches_ev (os ms : List S50) : Ev (fun k => arlinklaw22_ClosureMatchesReference.f k os ms) true := by
  have hj : Ev (fun k => arlinklaw22_ClosureMatchesReference.j0 k os ms true) true := Ev.step (f := fun k => arlinklaw22_awake.f.bind fun t => some t) (fun k => by simp only [arlinklaw22_ClosureMatchesReference.j0]; rfl) (Ev.bind awake22_ev' (Ev.now _))
  unfold arlinklaw22_ClosureMatchesReference.f
  refine Ev.bind awake22_ev' (Ev.congr (fun k => by rw [if_pos rfl]) ?_)
  obtain ⟨b, hb, hbP⟩ := right_ev os
  refine Ev.bind hb ?_
  cases b with
  | false => exact Ev.congr (fun k => by rw [if_neg (by decide)]) hj
  | true =>
    refine Ev.congr (fun k => by rw [if_pos rfl]) ?_
    obtain ⟨c, hc, hcP⟩ := right_ev ms
    refine Ev.bind hc ?_
    cases c with
    | false => exact hj
    | true =>
      have ho := hbP rfl
      have hm := hcP rfl
      have hml := hm.len
      obtain ⟨nd, hnd, hmem⟩ := ho.needed hm
      obtain ⟨L, ⟨hL, hLq⟩, hE⟩ := refNeeded_ev ho.slim hm.slim
      have hq : ∀ q, q < ms.length → (0 < rd L (q : Int) ↔ (q : Int) ∈ nd) := by
        intro q hq
        rw [hmem q hq]
        rcases hLq q hq with ⟨m, h1, h2, h3⟩ | ⟨h1, h2⟩
        · exact ⟨fun _ => h3.1.rch, fun _ => by omega⟩
        · exact ⟨fun h => by omega, fun h => absurd h h2⟩
      refine Ev.step (f := fun k => (arlinkref22_Needed.f k os ms).bind fun t => arlinklaw22_ClosureMatchesReference.l0 k os ms t ([] : List Int) 0) (fun k => by simp only [arlinklaw22_ClosureMatchesReference.j0, Bool.not_true]; rw [if_neg (by decide)]) (Ev.bind hE ?_)
      refine match_l0 (nd := nd) hL (by omega) hq (fun hst => Ev.step hst ?_) ms.length 0 (by omega)
      refine Ev.bind (Ev.congr (fun k => hnd) (Ev.now _)) (Ev.bind (numbers22_same _ (by have := pickN_len nd ms.length; omega)) (Ev.congr (fun k => by rw [if_pos rfl]) ?_))
      have hu : Ev (fun _ : Nat => closure_Unique.f ms) (uniqB (prsOf ms 0)) := Ev.congr (f := fun _ => some (uniqB (prsOf ms 0))) (fun k => by unfold closure_Unique.f; rw [if_pos hm.small]) (Ev.now _)
      refine Ev.bind hu (Ev.bind (refUnique_ev hm.slim) ?_)
      rw [uniq_eq hm, beq_self_eq_true]
      exact Ev.now _
end Go.Proofs.Ythpjpkcfepmhkaa.PAll
