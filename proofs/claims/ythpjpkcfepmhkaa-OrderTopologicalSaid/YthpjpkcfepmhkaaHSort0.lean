import Derived.Test.YthpjpkcfepmhkaaHR4
import Derived.Test.YthpjpkcfepmhkaaHRows
namespace Go.Proofs.Ythpjpkcfepmhkaa.PAll
open Go.RowKit Go.Proofs.YthpjpkcfepmhkaaW.PrintWords Go.Proofs.YthpjpkcfepmhkaaW.PrintLast Go.Proofs.YthpjpkcfepmhkaaW.PrintMore
set_option linter.unusedVariables false
set_option linter.unusedSimpArgs false

def edgeIn (n : Int) (e : S68) : Bool := decide (0 ≤ e.f0) && decide (e.f0 < n) && decide (0 ≤ e.f1) && decide (e.f1 < n)
def validS (n : Int) (l : List S68) : Bool := l.all (edgeIn n) && decide (0 ≤ n) && decide (n ≤ 65536)
theorem edgeIn_iff {n : Int} {e : S68} : edgeIn n e = true ↔ 0 ≤ e.f0 ∧ e.f0 < n ∧ 0 ≤ e.f1 ∧ e.f1 < n := by
  unfold edgeIn
  simp only [Bool.and_eq_true, decide_eq_true_eq, and_assoc]
theorem validS_not {n : Int} {l : List S68} (k : Nat) (hk : k < l.length) (h : edgeIn n (rd_T68 l k) = false) : validS n l = false := by
  unfold validS
  have : l.all (edgeIn n) = false := by
    rw [List.all_eq_false]
    refine ⟨rd_T68 l k, ?_, by rw [h]; decide⟩
    unfold rd_T68
    rw [Int.toNat_natCast, List.getD_eq_getElem?_getD, List.getElem?_eq_getElem hk]
    exact List.getElem_mem hk
  rw [this]; rfl
theorem all_take_succ {n : Int} {l : List S68} (k : Nat) (hk : k < l.length) (h : (l.take k).all (edgeIn n) = true) (h1 : edgeIn n (rd_T68 l k) = true) : (l.take (k + 1)).all (edgeIn n) = true := by
  rw [List.take_succ_eq_append_getElem hk, List.all_append, h]
  have : rd_T68 l k = l[k] := by
    unfold rd_T68
    rw [Int.toNat_natCast, List.getD_eq_getElem?_getD, List.getElem?_eq_getElem hk]; rfl
  rw [this] at h1
  simp [h1]

set_option maxHeartbeats 4000000 in
theorem valid_calls (n : Int) (A1 : Option Addr) (c1 : Nat) (l1 : List S68) (w : World) (hr1 : Kd.C k68 w A1 l1.length l1) (hl : l1.length ≤ 1099511627776) :
    Calls Try.prog 40 #[.int .i64 n, .slice A1 l1.length c1] w fun e w' => e = .returned (.bool (validS n l1)) ∧ Below w.heap.size w w' := by
  have HR1 := Lib.hid hr1
  clear hr1
  go_enter Try.func40, Try.ntmps40
  go_wp2
  go_loopg [9] l1.length (fun kq v9 w' => ∃ (k : Nat), v9 = .int .i64 k ∧ Aside0 (kq + k = l1.length ∧ (l1.take k).all (edgeIn n) = true) ∧ Aside0 (Below w.heap.size w w'))
  case atStart => exact ⟨0, rfl, ⟨by omega, by simp⟩, ⟨Below.refl _ _⟩⟩
  case round =>
    obtain ⟨k, rfl, HA, HW⟩ := hrel
    cases gk with
    | zero =>
      have hk : l1.length ≤ k := by have := HA.out.1; omega
      have hv : validS n l1 = (decide (0 ≤ n) && decide (n ≤ 65536)) := by
        have h := HA.out.2
        rw [List.take_of_length_le hk] at h
        unfold validS
        rw [h]; simp
      have HV := Lib.hid hv
      clear hv HA
      by_cases h0 : 0 ≤ n
      · by_cases h1 : n ≤ 65536
        all_goals (go_wp2; go_ret; exact ⟨by rw [HV.out]; simp [h0, h1], HW.out⟩)
      · go_wp2
        go_ret
        exact ⟨by rw [HV.out, show decide (0 ≤ n) = false from decide_eq_false (by omega), Bool.false_and]; rfl, HW.out⟩
    | succ kq =>
      have hk : k < l1.length := by have := HA.out.1; omega
      obtain ⟨ad, rfl, hx0, hx1⟩ := at_T68 HR1.out (k : Int) (Int.natCast_nonneg _) (by omega)
      have hB := HW.out
      replace hx0 := (hB.cell (World.block_lt_of_cell? w _ hx0)).trans hx0
      replace hx1 := (hB.cell (World.block_lt_of_cell? w _ hx1)).trans hx1
      simp only [Int.toNat_natCast] at hx0 hx1
      have HC := Lib.hid (all_take_succ (n := n) k hk HA.out.2)
      have HN := Lib.hid (validS_not (n := n) k hk)
      clear hB
      generalize rd_T68 l1 k = x at *
      have hfalse : (¬ (0 ≤ x.f0 ∧ x.f0 < n ∧ 0 ≤ x.f1 ∧ x.f1 < n)) → validS n l1 = false := fun h => HN.out (by rw [Bool.eq_false_iff]; exact fun h' => h (edgeIn_iff.1 h'))
      have HFL := Lib.hid hfalse
      clear hfalse HN
      by_cases c1 : x.f0 < 0
      · have c1' : decide (x.f0 < 0) = true := decide_eq_true c1
        go_wp2
        go_ret
        exact ⟨by rw [HFL.out (by omega)]; rfl, by repeat (first | exact HW.out | apply below_alloc | apply below_drew)⟩
      · by_cases c2 : x.f0 < n
        · by_cases c3 : x.f1 < 0
          · go_wp2
            go_ret
            exact ⟨by rw [HFL.out (by omega)]; rfl, by repeat (first | exact HW.out | apply below_alloc | apply below_drew)⟩
          · by_cases c4 : x.f1 < n
            · go_wp2
              go_roundg kq
              case measure => omega
              case rel => exact ⟨k + 1, by go_num, ⟨by have := HA.out.1; omega, HC.out (edgeIn_iff.2 ⟨by omega, c2, by omega, c4⟩)⟩, ⟨below_alloc HW.out _⟩⟩
            · go_wp2
              go_ret
              exact ⟨by rw [HFL.out (by omega)]; rfl, by repeat (first | exact HW.out | apply below_alloc | apply below_drew)⟩
        · go_wp2
          go_ret
          exact ⟨by rw [HFL.out (by omega)]; rfl, by repeat (first | exact HW.out | apply below_alloc | apply below_drew)⟩
end Go.Proofs.Ythpjpkcfepmhkaa.PAll
