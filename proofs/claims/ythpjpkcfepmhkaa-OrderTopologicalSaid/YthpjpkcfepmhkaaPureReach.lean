import Derived.Test.YthpjpkcfepmhkaaPureRef
import Derived.Test.YthpjpkcfepmhkaaPureCycle2
import Derived.Test.YthpjpkcfepmhkaaPAllx5
namespace Go.Proofs.Ythpjpkcfepmhkaa.PAll
open Go.RowKit Go.Proofs.YthpjpkcfepmhkaaW.PrintWords Go.Proofs.YthpjpkcfepmhkaaW.PrintLast Go.Proofs.YthpjpkcfepmhkaaW.PrintMore
set_option linter.unusedVariables false
set_option linter.unusedSimpArgs false

theorem idx_lt {i j N : Nat} (hi : i < N) (hj : j < N) : i * N + j < N * N := by
  have h1 : (i + 1) * N ≤ N * N := Nat.mul_le_mul_right N hi
  rw [Nat.add_mul, Nat.one_mul] at h1
  omega
theorem idx_inj {i j i' j' N : Nat} (hj : j < N) (hj' : j' < N) (h : i * N + j = i' * N + j') : i = i' ∧ j = j' := by
  have h1 : (i * N + j) / N = i := by
    rw [Nat.mul_comm, Nat.mul_add_div (by omega), Nat.div_eq_of_lt hj, Nat.add_zero]
  have h2 : (i' * N + j') / N = i' := by
    rw [Nat.mul_comm, Nat.mul_add_div (by omega), Nat.div_eq_of_lt hj', Nat.add_zero]
  have e : i = i' := by rw [← h1, ← h2, h]
  subst e
  exact ⟨rfl, by omega⟩
theorem sq_le {N : Nat} (hN : N ≤ 1000) : N * N ≤ 1000000 := Nat.mul_le_mul hN hN
theorem widx {i j N : Nat} (hi : i < N) (hj : j < N) (hN : N ≤ 1000) : wrap64 (wrap64 ((i : Int) * (N : Int)) + (j : Int)) = ((i * N + j : Nat) : Int) := by
  have h1 := idx_lt hi hj
  have h2 := sq_le hN
  rw [← Int.natCast_mul]
  generalize i * N = m at *
  generalize N * N = q at *
  rw [wrap_small (x := (m : Int)) (by omega) (by omega), wrap_small (by omega) (by omega)]
  omega

def P (E : List S68) : Nat → Nat → Nat → Prop
  | 0, a, b => Ed E a b
  | k + 1, a, b => P E k a b ∨ (P E k a k ∧ P E k k b)
inductive Wk (E : List S68) (k : Nat) : Nat → Nat → Prop where
  | one (i j : Nat) : Ed E i j → Wk E k i j
  | cons (i c j : Nat) : Ed E i c → c < k → Wk E k c j → Wk E k i j
theorem Wk.mono {E : List S68} {k i j : Nat} (h : Wk E k i j) : Wk E (k + 1) i j := by
  induction h with
  | one i j h => exact .one _ _ h
  | cons i c j h hc _ ih => exact .cons _ _ _ h (by omega) ih
theorem Wk.via {E : List S68} {k i c j : Nat} (h : Wk E k i c) (hc : c < k) (h2 : Wk E k c j) : Wk E k i j := by
  induction h with
  | one i c h => exact .cons _ _ _ h hc h2
  | cons i d c h hd _ ih => exact .cons _ _ _ h hd (ih hc h2)
theorem P_ed {E : List S68} {i j : Nat} (h : Ed E i j) : ∀ k, P E k i j
  | 0 => h
  | k + 1 => .inl (P_ed h k)
theorem Wk_P {E : List S68} : ∀ k i j, Wk E k i j ↔ P E k i j
  | 0, i, j => by
    constructor
    · intro h
      cases h with
      | one _ _ h => exact h
      | cons _ c _ _ hc _ => omega
    · exact fun h => .one _ _ h
  | k + 1, i, j => by
    have IH := Wk_P (E := E) k
    constructor
    · intro h
      induction h with
      | one i j h => exact P_ed h (k + 1)
      | cons i c j h hc _ ih =>
        have step : ∀ b, c < k → P E k c b → P E k i b := fun b hc hp => (IH i b).1 (.cons _ _ _ h hc ((IH c b).2 hp))
        by_cases e : c = k
        · subst e
          rcases ih with ih | ⟨_, ih⟩
          · exact .inr ⟨P_ed h c, ih⟩
          · exact .inr ⟨P_ed h c, ih⟩
        · rcases ih with ih | ⟨ih1, ih2⟩
          · exact .inl (step j (by omega) ih)
          · exact .inr ⟨step k (by omega) ih1, ih2⟩
    · rintro (h | ⟨h1, h2⟩)
      · exact ((IH i j).2 h).mono
      · exact ((IH i k).2 h1).mono.via (by omega) ((IH k j).2 h2).mono
theorem walk_P {E : List S68} {N : Nat} (hw : Within N E) {i j : Nat} (h : Walk E i j) : P E N i j := by
  rw [← Wk_P]
  induction h with
  | one i j h => exact .one _ _ h
  | cons i c j h _ ih =>
    have h' := h
    obtain ⟨e, he, _, h2⟩ := h'
    have := (hw e he).2.2.2
    exact .cons _ _ _ h (by omega) ih

def M (N : Nat) (r : List Bool) (i j : Nat) : Prop := r.getD (i * N + j) false = true
structure WI (E : List S68) (N k a b : Nat) (r : List Bool) : Prop where
  len : r.length = N * N
  sound : ∀ i j, i < N → j < N → M N r i j → Walk E i j
  base : ∀ i j, i < N → j < N → P E k i j → M N r i j
  done : ∀ i j, i < N → j < N → (i < a ∨ i = a ∧ j < b) → P E k i k → P E k k j → M N r i j
theorem WI.next {E : List S68} {N k a b : Nat} {r : List Bool} (h : WI E N k a b r) (ha : a < N) (hb : b < N) (hk : k < N) (hno : ¬ (M N r a k ∧ M N r k b)) : WI E N k a (b + 1) r := by
  refine ⟨h.len, h.sound, h.base, fun i j hi hj hlt h1 h2 => ?_⟩
  by_cases e : i = a ∧ j = b
  · obtain ⟨rfl, rfl⟩ := e
    exact absurd ⟨h.base _ _ hi hk h1, h.base _ _ hk hj h2⟩ hno
  · exact h.done i j hi hj (by omega) h1 h2
theorem WI.put {E : List S68} {N k a b : Nat} {r : List Bool} (h : WI E N k a b r) (ha : a < N) (hb : b < N) (hk : k < N) (h1 : M N r a k) (h2 : M N r k b) : WI E N k a (b + 1) (r.set (a * N + b) true) := by
  have hidx := idx_lt ha hb
  have hm : ∀ i j, M N r i j → M N (r.set (a * N + b) true) i j := by
    intro i j hm
    unfold M at hm ⊢
    rw [setB (by rw [h.len]; exact hidx)]
    split
    · rfl
    · exact hm
  have hs : M N (r.set (a * N + b) true) a b := by
    unfold M
    rw [setB (by rw [h.len]; exact hidx), if_pos rfl]
  refine ⟨by rw [List.length_set]; exact h.len, fun i j hi hj hij => ?_, fun i j hi hj hp => hm i j (h.base i j hi hj hp), fun i j hi hj hlt p1 p2 => ?_⟩
  · unfold M at hij
    rw [setB (by rw [h.len]; exact hidx)] at hij
    split at hij
    · rename_i e
      obtain ⟨rfl, rfl⟩ := idx_inj hj hb e
      exact (h.sound _ _ ha hk h1).trans (h.sound _ _ hk hb h2)
    · exact h.sound i j hi hj hij
  · by_cases e : i = a ∧ j = b
    · obtain ⟨rfl, rfl⟩ := e
      exact hs
    · exact hm i j (h.done i j hi hj (by omega) p1 p2)

theorem rdB {r : List Bool} {i : Nat} : rdOf false r (i : Int) = r.getD i false := by
  unfold rdOf
  rw [Int.toNat_natCast]
section
variable {E : List S68} {N : Nat}
theorem reaches_l3 (hN : N ≤ 1000) (k a : Nat) (hk : k < N) (ha : a < N) {Q : List Bool → Prop} (hend : ∀ r, WI E N k (a + 1) 0 r → ∃ R, Ev (fun f => arlinkref23_Reaches.l2 f (N : Int) r (k : Int) ((a + 1 : Nat) : Int)) R ∧ Q R) :
    ∀ (d b : Nat) (r : List Bool), b + d = N → WI E N k a b r → ∃ R, Ev (fun f => arlinkref23_Reaches.l3 f (N : Int) r (k : Int) (a : Int) (b : Int)) R ∧ Q R
  | 0, b, r, hb, h => by
    obtain ⟨R, h1, h2⟩ := hend r ⟨h.len, h.sound, h.base, fun i j hi hj hlt p1 p2 => h.done i j hi hj (by omega) p1 p2⟩
    refine ⟨R, Ev.step (f := fun f => arlinkref23_Reaches.l2 f (N : Int) r (k : Int) ((a + 1 : Nat) : Int)) (fun f => ?_) h1, h2⟩
    simp only [arlinkref23_Reaches.l3]
    rw [if_neg (by omega), wrap_nat a (by omega)]
  | d + 1, b, r, hb, h => by
    have hbN : b < N := by omega
    have hl := h.len
    have X1 := Lib.hid (widx ha hk hN)
    have X2 := Lib.hid (widx hk hbN hN)
    have X3 := Lib.hid (widx ha hbN hN)
    have y1 := idx_lt ha hk
    have y2 := idx_lt hk hbN
    have y3 := idx_lt ha hbN
    have HWW := Lib.hid (wrap_nat b (by omega))
    have HP : r.getD (a * N + k) false = true → r.getD (k * N + b) false = true → WI E N k a (b + 1) (r.set (a * N + b) true) := fun c1 c2 => h.put ha hbN hk c1 c2
    have HN : ¬ (r.getD (a * N + k) false = true ∧ r.getD (k * N + b) false = true) → WI E N k a (b + 1) r := fun c => h.next ha hbN hk c
    have ih := fun r => reaches_l3 hN k a hk ha hend d (b + 1) r (by omega)
    clear h hend
    rw [← hl] at y1 y2 y3
    clear hl
    obtain ⟨m1, e1⟩ : ∃ m, a * N + k = m := ⟨_, rfl⟩
    obtain ⟨m2, e2⟩ : ∃ m, k * N + b = m := ⟨_, rfl⟩
    obtain ⟨m3, e3⟩ : ∃ m, a * N + b = m := ⟨_, rfl⟩
    rw [e1] at X1 y1 HP HN
    rw [e2] at X2 y2 HP HN
    rw [e3] at X3 y3 HP
    clear e1 e2 e3
    have hbN' : (b : Int) < (N : Int) := by omega
    have z1 : (0 : Int) ≤ (m1 : Int) ∧ (m1 : Int) < (r.length : Int) := by omega
    have z2 : (0 : Int) ≤ (m2 : Int) ∧ (m2 : Int) < (r.length : Int) := by omega
    have z3 : (0 : Int) ≤ (m3 : Int) ∧ (m3 : Int) < (r.length : Int) := by omega
    have hw := HWW.out
    have x1 := X1.out
    have x2 := X2.out
    have x3 := X3.out
    by_cases c1 : r.getD m1 false = true
    · by_cases c2 : r.getD m2 false = true
      · obtain ⟨R, h1, h2⟩ := ih _ (HP c1 c2)
        refine ⟨R, Ev.step (f := fun f => arlinkref23_Reaches.l3 f (N : Int) (r.set m3 true) (k : Int) (a : Int) ((b + 1 : Nat) : Int)) (fun f => ?_) h1, h2⟩
        rw [arlinkref23_Reaches.l3, if_pos hbN']
        simp only [x1, x2, x3, hw, rdB, Int.toNat_natCast]
        rw [if_pos z1.1, if_pos z1.2, if_pos c1, if_pos z2.1, if_pos z2.2, if_pos c2, if_pos z3.1, if_pos z3.2]
      · obtain ⟨R, h1, h2⟩ := ih _ (HN (fun h => c2 h.2))
        refine ⟨R, Ev.step (f := fun f => arlinkref23_Reaches.l3 f (N : Int) r (k : Int) (a : Int) ((b + 1 : Nat) : Int)) (fun f => ?_) h1, h2⟩
        rw [arlinkref23_Reaches.l3, if_pos hbN']
        simp only [x1, x2, hw, rdB]
        rw [if_pos z1.1, if_pos z1.2, if_pos c1, if_pos z2.1, if_pos z2.2, if_neg c2]
    · obtain ⟨R, h1, h2⟩ := ih _ (HN (fun h => c1 h.1))
      refine ⟨R, Ev.step (f := fun f => arlinkref23_Reaches.l3 f (N : Int) r (k : Int) (a : Int) ((b + 1 : Nat) : Int)) (fun f => ?_) h1, h2⟩
      rw [arlinkref23_Reaches.l3, if_pos hbN']
      simp only [x1, hw, rdB]
      rw [if_pos z1.1, if_pos z1.2, if_neg c1]
theorem reaches_l2 (hN : N ≤ 1000) (k : Nat) (hk : k < N) {Q : List Bool → Prop} (hend : ∀ r, WI E N (k + 1) 0 0 r → ∃ R, Ev (fun f => arlinkref23_Reaches.l1 f (N : Int) r ((k + 1 : Nat) : Int)) R ∧ Q R) :
    ∀ (d a : Nat) (r : List Bool), a + d = N → WI E N k a 0 r → ∃ R, Ev (fun f => arlinkref23_Reaches.l2 f (N : Int) r (k : Int) (a : Int)) R ∧ Q R
  | 0, a, r, ha, h => by
    obtain ⟨R, h1, h2⟩ := hend r ⟨h.len, h.sound, fun i j hi hj hp => by
      rcases hp with hp | ⟨p1, p2⟩
      · exact h.base i j hi hj hp
      · exact h.done i j hi hj (by omega) p1 p2, fun i j hi hj hlt => by omega⟩
    refine ⟨R, Ev.step (f := fun f => arlinkref23_Reaches.l1 f (N : Int) r ((k + 1 : Nat) : Int)) (fun f => ?_) h1, h2⟩
    simp only [arlinkref23_Reaches.l2]
    rw [if_neg (by omega), wrap_nat k (by omega)]
  | d + 1, a, r, ha, h => by
    obtain ⟨R, h1, h2⟩ := reaches_l3 hN k a hk (by omega) (fun r hr => reaches_l2 hN k hk hend d (a + 1) r (by omega) hr) N 0 r (by omega) h
    refine ⟨R, Ev.step (f := fun f => arlinkref23_Reaches.l3 f (N : Int) r (k : Int) (a : Int) 0) (fun f => ?_) h1, h2⟩
    simp only [arlinkref23_Reaches.l2]
    rw [if_pos (by omega)]
theorem reaches_l1 (hN : N ≤ 1000) : ∀ (d k : Nat) (r : List Bool), k + d = N → WI E N k 0 0 r → ∃ R, Ev (fun f => arlinkref23_Reaches.l1 f (N : Int) r (k : Int)) R ∧ WI E N N 0 0 R
  | 0, k, r, hk, h => by
    have : k = N := by omega
    subst this
    exact ⟨r, Ev.step (f := fun _ => some r) (fun f => by simp only [arlinkref23_Reaches.l1]; rw [if_neg (by omega)]) (Ev.now _), h⟩
  | d + 1, k, r, hk, h => by
    obtain ⟨R, h1, h2⟩ := reaches_l2 hN k (by omega) (fun r hr => reaches_l1 hN d (k + 1) r (by omega) hr) N 0 r (by omega) h
    refine ⟨R, Ev.step (f := fun f => arlinkref23_Reaches.l2 f (N : Int) r (k : Int) 0) (fun f => ?_) h1, h2⟩
    simp only [arlinkref23_Reaches.l1]
    rw [if_pos (by omega)]
end
theorem reaches_l0 (l : List S39) (N : Nat) (hN : N ≤ 1000) (hw : Within N (fw l)) (hl : l.length ≤ 1099511627776) : ∀ (d i : Nat) (r : List Bool), i + d = l.length → r.length = N * N → (∀ a b, a < N → b < N → (M N r a b ↔ Ed (fw (l.take i)) a b)) →
    ∃ R, Ev (fun f => arlinkref23_Reaches.l0 f (N : Int) l r (i : Int)) R ∧ WI (fw l) N N 0 0 R
  | 0, i, r, hi, hr, hm => by
    rw [List.take_of_length_le (by omega)] at hm
    obtain ⟨R, h1, h2⟩ := reaches_l1 (E := fw l) hN N 0 r (by omega) ⟨hr, fun a b ha hb h => .one _ _ ((hm a b ha hb).1 h), fun a b ha hb h => (hm a b ha hb).2 h, fun a b ha hb h => by omega⟩
    refine ⟨R, Ev.step (f := fun f => arlinkref23_Reaches.l1 f (N : Int) r 0) (fun f => ?_) h1, h2⟩
    simp only [arlinkref23_Reaches.l0]
    rw [if_neg (by omega)]
  | d + 1, i, r, hi, hr, hm => by
    have hil : i < l.length := by omega
    obtain ⟨x, hx⟩ : ∃ x, l[i] = x := ⟨_, rfl⟩
    have hrd : rd_T39 l (i : Int) = x := by rw [rd39 hil, hx]
    have hxm : (⟨x.f0, x.f1⟩ : S68) ∈ fw l := fw_mem.2 ⟨i, hil, by rw [hrd]⟩
    have hwx := hw _ hxm
    obtain ⟨x0, x1⟩ := x
    have w0 : 0 ≤ x0 := hwx.1
    have w1 : x0 < (N : Int) := hwx.2.1
    have w2 : 0 ≤ x1 := hwx.2.2.1
    have w3 : x1 < (N : Int) := hwx.2.2.2
    clear hwx
    obtain ⟨p, rfl⟩ := Int.eq_ofNat_of_zero_le w0
    obtain ⟨q, rfl⟩ := Int.eq_ofNat_of_zero_le w2
    have hp : p < N := by omega
    have hq : q < N := by omega
    have hidx := idx_lt hp hq
    have htk : fw (l.take (i + 1)) = fw (l.take i) ++ [⟨(p : Int), (q : Int)⟩] := by
      rw [List.take_succ_eq_append_getElem hil, hx]
      unfold fw
      rw [List.map_append]
      rfl
    obtain ⟨R, h1, h2⟩ := reaches_l0 l N hN hw hl d (i + 1) (r.set (p * N + q) true) (by omega) (by rw [List.length_set]; exact hr) (fun a b ha hb => by
      unfold M
      rw [setB (by omega), htk]
      have hE : Ed (fw (l.take i) ++ [⟨(p : Int), (q : Int)⟩]) a b ↔ Ed (fw (l.take i)) a b ∨ (p = a ∧ q = b) := by
        unfold Ed
        constructor
        · rintro ⟨e, he, h1, h2⟩
          rcases List.mem_append.1 he with he | he
          · exact .inl ⟨e, he, h1, h2⟩
          · rw [List.mem_singleton] at he
            subst he
            dsimp only at h1 h2
            exact .inr ⟨by omega, by omega⟩
        · rintro (⟨e, he, h1, h2⟩ | ⟨rfl, rfl⟩)
          · exact ⟨e, List.mem_append_left _ he, h1, h2⟩
          · exact ⟨_, List.mem_append_right _ (List.mem_singleton.2 rfl), rfl, rfl⟩
      rw [hE]
      by_cases e : a * N + b = p * N + q
      · obtain ⟨rfl, rfl⟩ := idx_inj hb hq e
        rw [if_pos e]
        exact ⟨fun _ => .inr ⟨rfl, rfl⟩, fun _ => rfl⟩
      · rw [if_neg e]
        have := hm a b ha hb
        unfold M at this
        rw [this]
        exact ⟨.inl, fun h => h.resolve_right (fun ⟨h1, h2⟩ => e (by rw [h1, h2]))⟩)
    refine ⟨R, Ev.step (f := fun f => arlinkref23_Reaches.l0 f (N : Int) l (r.set (p * N + q) true) ((i + 1 : Nat) : Int)) (fun f => ?_) h1, h2⟩
    simp only [arlinkref23_Reaches.l0]
    rw [hrd]
    dsimp only
    rw [widx hp hq hN, wrap_nat i (by omega), Int.toNat_natCast, if_pos (by omega), if_pos (by omega), if_pos (by omega), if_pos (by omega)]
/-- What Reaches hands back. -/
theorem reaches_ev (l : List S39) (N : Nat) (hN : N ≤ 1000) (hw : Within N (fw l)) (hl : l.length ≤ 1099511627776) : ∃ R, Ev (fun f => arlinkref23_Reaches.f f (N : Int) l) R ∧ R.length = N * N ∧ ∀ i j, i < N → j < N → (R.getD (i * N + j) false = true ↔ Walk (fw l) i j) := by
  obtain ⟨R, h1, h2⟩ := reaches_l0 l N hN hw hl l.length 0 (List.replicate (N * N) false) (by omega) (by simp) (fun a b ha hb => by
    unfold M
    rw [List.getD_eq_getElem?_getD, List.getElem?_replicate]
    have : ¬ Ed (fw (l.take 0)) a b := by rintro ⟨e, he, _⟩; simp [fw] at he
    constructor
    · split
      · intro h; simp at h
      · intro h; simp at h
    · exact fun h => absurd h this)
  refine ⟨R, ?_, h2.len, fun i j hi hj => ⟨h2.sound i j hi hj, fun h => h2.base i j hi hj (walk_P hw h)⟩⟩
  have hsq := sq_le hN
  have hwr : wrap64 ((N : Int) * (N : Int)) = ((N * N : Nat) : Int) := by
    rw [← Int.natCast_mul]
    generalize N * N = q at *
    exact wrap_small (by omega) (by omega)
  refine Ev.congr (f := fun f => arlinkref23_Reaches.l0 f (N : Int) l (List.replicate (N * N) false) 0) (fun f => ?_) h1
  unfold arlinkref23_Reaches.f
  rw [hwr, Int.toNat_natCast, if_pos (by omega), if_pos (by omega)]
end Go.Proofs.Ythpjpkcfepmhkaa.PAll
