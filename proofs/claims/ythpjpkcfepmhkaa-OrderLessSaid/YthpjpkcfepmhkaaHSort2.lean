import Derived.Test.YthpjpkcfepmhkaaHSort1
import Derived.Deep.Cut
import Derived.Deep.CutRange
import Derived.Deep.DeepCutAuto
namespace Go.Proofs.Ythpjpkcfepmhkaa.PAll
open Go.RowKit Go.Proofs.YthpjpkcfepmhkaaW.PrintWords Go.Proofs.YthpjpkcfepmhkaaW.PrintLast Go.Proofs.YthpjpkcfepmhkaaW.PrintMore
set_option linter.unusedVariables false
set_option linter.unusedSimpArgs false

/-! ### What Sort computes -/
def addEdge (after : List (List Int)) (e : S68) : List (List Int) := after.set e.f0.toNat (after.getD e.f0.toNat [] ++ [e.f1])
def incW (ws : List Int) (e : S68) : List Int := ws.set e.f1.toNat (wrap64 (ws.getD e.f1.toNat 0 + 1))
def afterOf (N : Nat) (l : List S68) : List (List Int) := l.foldl addEdge (List.replicate N [])
def waitsOf (N : Nat) (l : List S68) : List Int := l.foldl incW (List.replicate N 0)
def seed (ws : List Int) (k : Nat) : List Int := (List.range k).foldl (fun h i => if ws.getD i 0 = 0 then Hp.push (0 : Int) R.less h (i : Int) else h) []
def decW (ws : List Int) (k : Nat) : List Int := ws.set k (wrap64 (ws.getD k 0 - 1))
def relax : List Int → List Int → List Int → Option (List Int × List Int)
  | [], ws, h => some (ws, h)
  | k :: ks, ws, h => if 0 ≤ k ∧ k < ws.length ∧ h.length < 1099511627776 then relax ks (decW ws k.toNat) (if (decW ws k.toNat).getD k.toNat 0 = 0 then Hp.push (0 : Int) R.less h k else h) else none
def runS (after : List (List Int)) (N : Nat) : Nat → List Int → List Int → List Int → Option (List Int)
  | 0, _, _, _ => none
  | k + 1, ws, h, out => if h.length = 0 then some out else
      if 0 ≤ Hp.at_ (0 : Int) h 0 ∧ Hp.at_ (0 : Int) h 0 < N ∧ out.length < 1099511627776 ∧ h.length ≤ 1099511627776 then
        (relax (after.getD (Hp.at_ (0 : Int) h 0).toNat []) ws (Hp.pop (0 : Int) R.less h)).bind fun r => runS after N k r.1 r.2 (out ++ [Hp.at_ (0 : Int) h 0])
      else none
def order_Sort.f (n : Int) (l : List S68) : Option (List Int × Int) :=
  if l.length ≤ 1099511627776 then
    if validS n l = true then
      (runS (afterOf n.toNat l) n.toNat (n.toNat + 1) (waitsOf n.toNat l) (seed (waitsOf n.toNat l) n.toNat) []).bind fun out => some (if (out.length : Int) < n then ([], 18) else (out, 0))
    else some ([], 13)
  else none

def SortEnd (w : World) (r1 : List Int) (r2 : Int) (e : Ending) (w' : World) : Prop := ∃ v0_ : Value, e = .returned (.tuple #[v0_, .int .i64 r2]) ∧ Kd.R (Kd.int .i64) 3 w' w.heap.size (fun _ => True) v0_ r1 ∧ Below w.heap.size w w'

theorem take_foldl {β : Type} (g : β → S68 → β) (z : β) (l : List S68) (k : Nat) (hk : k < l.length) : (l.take (k + 1)).foldl g z = g ((l.take k).foldl g z) (rd_T68 l k) := by
  rw [List.take_succ_eq_append_getElem hk, List.foldl_append]
  have : rd_T68 l k = l[k] := by
    unfold rd_T68
    rw [Int.toNat_natCast, List.getD_eq_getElem?_getD, List.getElem?_eq_getElem hk]; rfl
  rw [this]; rfl
theorem valid_at {n : Int} {l : List S68} (h : validS n l = true) (k : Nat) (hk : k < l.length) : edgeIn n (rd_T68 l k) = true := by
  unfold validS at h
  simp only [Bool.and_eq_true, List.all_eq_true] at h
  refine h.1.1 _ ?_
  unfold rd_T68
  rw [Int.toNat_natCast, List.getD_eq_getElem?_getD, List.getElem?_eq_getElem hk]
  exact List.getElem_mem hk
theorem made0 (w : World) (base N : Nat) (hb : base ≤ w.heap.size) (hn : N ≤ 65536) : KI.R 3 (w.alloc (.cells (madeCells #[.int .i64 0] N) 3)) base (fun _ => True) (.slice (some ⟨w.heap.size, 0, none⟩) N N) (List.replicate N 0) := by
  have h := own_made' w base 3 .i64 N hb (by omega)
  exact Kd.R_of_own (enc := Value.int .i64) (h1 := fun _ => rfl) h (fun _ _ => trivial)
theorem made_aw1 (w1 : World) (base N : Nat) (hb : base ≤ w1.heap.size) (hn : (N : Int) ≤ 65536) : ∃ f, AW ((w1.alloc (.cells (madeCells #[.slice none 0 0] N) 24)).alloc (.cells (madeCells #[.int .i64 0] N) 3)).drew base f N w1.heap.size (w1.heap.size + 1) (List.replicate N (.slice none 0 0)) (List.replicate N []) (List.replicate N 0) := by
  have hB2 := below_alloc (Below.refl (w1.alloc (.cells (madeCells #[.slice none 0 0] N) 24)).heap.size (w1.alloc (.cells (madeCells #[.slice none 0 0] N) 24))) (.cells (madeCells #[.int .i64 0] N) 3)
  have hs : (w1.alloc (.cells (madeCells #[.slice none 0 0] N) 24)).heap.size = w1.heap.size + 1 := by go_simp
  refine ⟨fun _ => N, AW.below ⟨(Adj.made w1 base N _ 0 hb (by omega)).below hB2, by simp, ?_, by simp, fun k hk => rfl⟩ (below_drew (Below.refl _ _))⟩
  have := made0 (w1.alloc (.cells (madeCells #[.slice none 0 0] N) 24)) base N (by omega) (by omega)
  rwa [hs] at this
theorem made_aw2 (w1 : World) (base N : Nat) (hb : base ≤ w1.heap.size) (hn : (N : Int) ≤ 65536) : ∃ f, AW ((w1.alloc (.cells (madeCells #[.int .i64 0] N) 3)).alloc (.cells (madeCells #[.slice none 0 0] N) 24)).drew base f N (w1.heap.size + 1) w1.heap.size (List.replicate N (.slice none 0 0)) (List.replicate N []) (List.replicate N 0) := by
  have hB2 := below_alloc (Below.refl (w1.alloc (.cells (madeCells #[.int .i64 0] N) 3)).heap.size (w1.alloc (.cells (madeCells #[.int .i64 0] N) 3))) (.cells (madeCells #[.slice none 0 0] N) 24)
  have hs : (w1.alloc (.cells (madeCells #[.int .i64 0] N) 3)).heap.size = w1.heap.size + 1 := by go_simp
  refine ⟨fun _ => N, AW.below ⟨?_, by simp, Kd.R_below (made0 w1 base N hb (by omega)) hB2, by simp, fun k hk => rfl⟩ (below_drew (Below.refl _ _))⟩
  have := Adj.made (w1.alloc (.cells (madeCells #[.int .i64 0] N) 3)) base N (fun _ => N) 0 (by omega) (by omega)
  rwa [hs] at this
theorem addEdge_len (l : List S68) : ∀ (z : List (List Int)) (b : Nat), ((l.foldl addEdge z).getD b []).length ≤ (z.getD b []).length + l.length := by
  induction l with
  | nil => intro z b; simp
  | cons e r ih =>
    intro z b
    rw [List.foldl_cons, List.length_cons]
    refine Nat.le_trans (ih _ b) ?_
    have : ((addEdge z e).getD b []).length ≤ (z.getD b []).length + 1 := by
      unfold addEdge
      by_cases hb : e.f0.toNat = b
      · subst hb
        by_cases hl : e.f0.toNat < z.length
        · rw [List.getD_eq_getElem?_getD, List.getElem?_set_self hl]
          simp
        · rw [List.getD_eq_getElem?_getD, List.getElem?_eq_none (by rw [List.length_set]; omega)]
          simp
      · rw [List.getD_eq_getElem?_getD, List.getElem?_set_ne hb, ← List.getD_eq_getElem?_getD]
        omega
    omega
theorem edge_step {w w3 w4 : World} {f : Nat → Nat} {N gv gw b : Nat} {vs : List Value} {xss : List (List Int)} {ws : List Int} {u u1 : Value} {zs : List Int} (h : AW w3 w.heap.size f N gv gw vs xss ws) (hb : b < N) (hu : vs.getD b undef = u) (hg : w3.drew.grownBy w4 u.ownBlock)
    (ho : KI.R 3 w4 w.heap.size (fun _ => True) u1 zs) (hB : Below w.heap.size w w4) (hm : u1.ownBlock = u.ownBlock ∨ ∃ k, u1.ownBlock = some k ∧ w3.drew.heap.size ≤ k) (hgv : w.heap.size ≤ gv) :
    ∃ f' vs', AW (w4.setCell ⟨gv, b, none⟩ u1) w.heap.size f' N gv gw vs' (xss.set b zs) ws ∧ Below w.heap.size w (w4.setCell ⟨gv, b, none⟩ u1) ∧ w4.cell? ⟨gv, b, none⟩ = some u ∧ w4.frozen? ⟨gv, b, none⟩ = false ∧ gv < w4.heap.size := by
  subst hu
  have h3 : AW w3.drew w.heap.size f N gv gw vs xss ws := h.below (below_drew (Below.refl _ _))
  refine ⟨_, _, h3.edge hb hg ho hm, hB.setCell hgv _, ?_⟩
  obtain ⟨hRb, hOb⟩ := h3.at_ b hb
  have houter : w4.ownsRow w.heap.size 24 1 (.slice (some ⟨gv, 0, none⟩) N N) vs.length vs := by
    refine own_move h3.adj.outer (fun k hk' => ?_)
    obtain ⟨cells, hc⟩ := own_typed h3.adj.outer k hk'
    refine hg.block k (own_lt h3.adj.outer k hk') ?_
    intro e
    obtain ⟨cs, hc2⟩ := Kd.R_typed hRb k e.symm
    rw [hc] at hc2
    injection hc2 with hc2
    injection hc2 with _ hc2
    exact absurd hc2 (by decide)
  obtain ⟨cells, hc⟩ := own_typed houter gv (by simp [Value.ownBlock])
  have hcc := houter.cells (g := gv) rfl b (vs.getD b undef) (getD_some (by rw [h.nv]; exact hb))
  rw [add_plain] at hcc
  exact ⟨hcc, blk_frozen hc _, own_lt houter gv (by simp [Value.ownBlock])⟩
theorem edge_kept {w3 w4 : World} {base ge : Nat} {f : Nat → Nat} {N gv gw b : Nat} {vs : List Value} {xss : List (List Int)} {ws : List Int} {u1 : Value} {cs : Array Value} (h : AW w3 base f N gv gw vs xss ws) (h3 : w3.heap[ge]? = some (.cells cs 68 (0, 0))) (hc : w4.heap[ge]? = some (.cells cs 68 (0, 0))) : (w4.setCell ⟨gv, b, none⟩ u1).heap[ge]? = some (.cells cs 68 (0, 0)) := by
  obtain ⟨cells, ho⟩ := own_typed h.adj.outer gv (by simp [Value.ownBlock])
  rw [Go.heap_setCell_other _ _ _ _ (show ge ≠ gv from ?_)]
  · exact hc
  · rintro rfl
    rw [h3] at ho
    injection ho with ho
    injection ho with _ ho
    exact absurd ho (by decide)
theorem sort_valid {N : Nat} {l : List S68} {r1 : List Int} {r2 : Int} (h : order_Sort.f (N : Int) l = some (r1, r2)) (hl : l.length ≤ 1099511627776) (hv : validS (N : Int) l = true) :
    ∃ out, runS (afterOf N l) N (N + 1) (waitsOf N l) (seed (waitsOf N l) N) [] = some out ∧ (r1, r2) = (if (out.length : Int) < (N : Int) then ([], 18) else (out, 0)) := by
  unfold order_Sort.f at h
  rw [if_pos hl, if_pos hv, Option.bind_eq_some_iff] at h
  obtain ⟨out, h1, h2⟩ := h
  rw [Int.toNat_natCast] at h1
  exact ⟨out, h1, (Option.some.inj h2).symm⟩
theorem ST.start {w w3 : World} {f : Nat → Nat} {N gv gw : Nat} {vs : List Value} {xss : List (List Int)} {ws : List Int} (h : AW w3 w.heap.size f N gv gw vs xss ws) (hB : Below w.heap.size w w3) :
    ∃ f', ST w (w3.alloc (.cells #[.slice none 0 0] 71)) w.heap.size f' N gv gw w3.heap.size vs xss ws (.slice none 0 0) (seed ws 0) (.slice none 0 0) [] :=
  ⟨f, h.below (below_alloc (Below.refl _ _) _), ⟨heap_alloc_new w3 _, Kd.R_nil _ _ _ _ _⟩, Own.nil _ _, Kd.R_nil _ _ _ _ _, Own.nil _ _, below_alloc hB _, below_size hB⟩
theorem seed_succ (ws : List Int) (k : Nat) : seed ws (k + 1) = if ws.getD k 0 = 0 then Hp.push (0 : Int) R.less (seed ws k) (k : Int) else seed ws k := by
  unfold seed
  rw [List.range_succ, List.foldl_append]
  rfl
theorem seed_len (ws : List Int) : ∀ k, (seed ws k).length ≤ k
  | 0 => by simp [seed]
  | k + 1 => by
    rw [seed_succ]
    have := seed_len ws k
    split
    · rw [Hp.push_length]; omega
    · omega
theorem R_len {w : World} {base : Nat} {A : Option Addr} {n c : Nat} {xs : List Int} (h : KI.R 3 w base (fun _ => True) (.slice A n c) xs) : xs.length ≤ 9223372036854775807 := by
  exact (Kd.R_reads' h).2.2.2.1
theorem info24 : (Try.prog.info? 24).map (fun i => (i.zero, i.size, i.bytes)) = some (some (.slice none 0 0), 1, 24) := by kernel_rfl

set_option maxRecDepth 10000 in
set_option maxHeartbeats 8000000 in
theorem order_Sort.calls0 (n : Int) (A1 : Option Addr) (c1 : Nat) (l1 : List S68) (r1 : List Int) (r2 : Int) (w : World) (hr1 : Kd.C k68 w A1 l1.length l1) (hc1 : l1.length ≤ c1) (h : order_Sort.f n l1 = some (r1, r2)) :
    Calls Try.prog 14 #[.int .i64 n, .slice A1 l1.length c1] w fun e w' => SortEnd w r1 r2 e w' := by
  have hl : l1.length ≤ 1099511627776 := by
    unfold order_Sort.f at h
    split at h
    · assumption
    · cases h
  have HR1 := Lib.hid hr1
  have H := Lib.hid h
  clear hr1 h
  go_enter Try.func14, Try.ntmps14
  go_wp2_with fail
  refine (valid_calls n A1 c1 l1 w HR1.out hl).mono ?_
  rintro e w1 ⟨rfl, hB1⟩
  have HB1 := Lib.hid hB1
  have hz1 := below_size hB1
  clear hB1
  cases hv : validS n l1 with
  | false =>
    have hres : r1 = [] ∧ r2 = 13 := by
      have h := H.out
      unfold order_Sort.f at h
      rw [if_pos hl, hv] at h
      simp only [Bool.false_eq_true, if_false, Option.some.injEq, Prod.mk.injEq] at h
      exact ⟨h.1.symm, h.2.symm⟩
    obtain ⟨rfl, rfl⟩ := hres
    go_wp2
    go_ret2
    exact ⟨_, rfl, Kd.R_nil _ _ _ _ _, HB1.out⟩
  | true =>
    have hn : 0 ≤ n ∧ n ≤ 65536 := by
      unfold validS at hv
      simp only [Bool.and_eq_true, decide_eq_true_eq] at hv
      exact ⟨hv.1.2, hv.2⟩
    obtain ⟨hn0, hn1⟩ := hn
    obtain ⟨N, rfl⟩ := Int.eq_ofNat_of_zero_le hn0
    have HV := Lib.hid hv
    have hm1 := print_make_of (P := Try.prog) 70 24 (.slice none 0 0) 24 Try.underlying70 info24 rfl (by decide) N (by omega)
    have hm2 := print_make_of (P := Try.prog) 24 3 (.int .i64 0) 8 Try.underlying24 R.infoE rfl (by decide) N (by omega)
    clear hv
    have HMA := Lib.hid (And.intro (made_aw1 w1 w.heap.size N hz1 hn1) (made_aw2 w1 w.heap.size N hz1 hn1))
    go_wp2
    go_cut [6, 7] (fun v6 v7 wx => ∃ (gv gw : Nat) (f : Nat → Nat), v6 = .slice (some ⟨gv, 0, none⟩) N N ∧ v7 = .slice (some ⟨gw, 0, none⟩) N N ∧ w.heap.size ≤ gv ∧ w.heap.size ≤ gw ∧ Aside0 (AW wx w.heap.size f N gv gw (List.replicate N (.slice none 0 0)) (List.replicate N []) (List.replicate N 0)) ∧ Aside0 (Below w.heap.size w wx))
    case first =>
      go_region
      all_goals (go_wp2; go_meet)
      · obtain ⟨f, hf⟩ := HMA.out.1
        exact ⟨_, _, f, rfl, rfl, by omega, by omega, ⟨hf⟩, ⟨below_drew (below_alloc (below_alloc HB1.out _) _)⟩⟩
      · obtain ⟨f, hf⟩ := HMA.out.2
        exact ⟨_, _, f, rfl, rfl, by omega, by omega, ⟨hf⟩, ⟨below_drew (below_alloc (below_alloc HB1.out _) _)⟩⟩
    case rest =>
      obtain ⟨gv, gw, f0, rfl, rfl, hgv, hgw, HA, HB⟩ := hcut
      clear hm1 hm2 hz1 HB1 HMA
      go_wp2
      go_loopg [27] l1.length (fun kq v27 w' => ∃ (k : Nat) (f : Nat → Nat) (vs : List Value), v27 = .int .i64 k ∧ Aside0 (kq + k = l1.length) ∧ Aside0 (AW w' w.heap.size f N gv gw vs ((l1.take k).foldl addEdge (List.replicate N [])) ((l1.take k).foldl incW (List.replicate N 0)) ∧ Below w.heap.size w w'))
      case atStart => exact ⟨0, f0, _, rfl, ⟨by omega⟩, ⟨HA.out, HB.out⟩⟩
      case round =>
        clear HA HB
        obtain ⟨k, f, vs, rfl, HA, HW⟩ := hrel
        cases gk with
        | zero =>
          have hk : l1.length ≤ k := by have := HA.out; omega
          have hxs : (l1.take k).foldl addEdge (List.replicate N []) = afterOf N l1 ∧ (l1.take k).foldl incW (List.replicate N 0) = waitsOf N l1 := by
            rw [List.take_of_length_le hk]; exact ⟨rfl, rfl⟩
          rw [hxs.1, hxs.2] at HW
          have hrun := sort_valid H.out hl HV.out
          have HRUN := Lib.hid hrun
          clear hxs HA hrun H
          generalize afterOf N l1 = xss at *
          generalize waitsOf N l1 = ws at *
          have hkf : decide (k < l1.length) = false := decide_eq_false (by omega)
          clear hk
          go_wp2_with fail
          have HST := Lib.hid (ST.start HW.out.1 HW.out.2)
          clear HW
          generalize hw3 : wr.alloc (.cells #[.slice none 0 0] 71) = w3 at *
          clear hw3
          generalize wr.heap.size = g at *
          go_loopg [53] N (fun kq v53 w' => ∃ (k : Nat) (f : Nat → Nat) (v : Value), v53 = .int .i64 k ∧ Aside0 (kq + k = N) ∧ Aside0 (ST w w' w.heap.size f N gv gw g vs xss ws v (seed ws k) (.slice none 0 0) []))
          case atStart =>
            obtain ⟨f', h'⟩ := HST.out
            exact ⟨0, f', _, rfl, ⟨by omega⟩, ⟨h'⟩⟩
          case round =>
            clear HST
            obtain ⟨k, f, v, rfl, HA, HS⟩ := hrel
            have hsl := seed_len ws k
            cases gk with
            | zero =>
              have hkN : k = N := by have := HA.out; omega
              subst hkN
              obtain ⟨out, hout, hres⟩ := HRUN.out
              have HRES := Lib.hid hres
              have HOUT := Lib.hid hout
              clear HRUN hout hres hsl
              generalize hh0 : seed ws k = h0 at *
              clear hh0
              go_wp2_with fail
              have HS0 := Lib.hid HS.out
              clear HS HA
              go_loopg [12] (k + 1) (fun kq v12 w' => ∃ (f : Nat → Nat) (ws1 : List Int) (v : Value) (xs out1 : List Int), Aside0 (runS xss k kq ws1 xs out1 = some out) ∧ Aside0 (ST w w' w.heap.size f k gv gw g vs xss ws1 v xs v12 out1))
              case atStart => exact ⟨f, ws, v, h0, [], ⟨HOUT.out⟩, ⟨HS0.out⟩⟩
              case round =>
                clear HS0 HOUT
                obtain ⟨f, ws1, v, xs, out1, HA, HS⟩ := hrel
                cases gk with
                | zero => exact absurd HA.out (by simp [runS])
                | succ kq =>
                  have hA := HA.out
                  simp only [runS] at hA
                  obtain ⟨A, c, rfl⟩ := Kd.R_slice HS.out.hs.2
                  have hcell := R.HS_cell HS.out.hs
                  have hbs := below_size HS.out.B
                  by_cases hx0 : xs.length = 0
                  · rw [if_pos hx0] at hA
                    have hx1 : xs.length ≤ 0 := by omega
                    clear hx0
                    have hout : out1 = out := Option.some.inj hA
                    subst hout
                    clear hA
                    go_wp2_with fail
                    refine (R.len_calls A xs.length c _ (by omega)).mono ?_
                    rintro e' w5 ⟨rfl, rfl⟩
                    obtain ⟨Ao, co, rfl⟩ := Kd.R_slice HS.out.out
                    have hlo := (Kd.R_reads' HS.out.out).2.1
                    by_cases hlt : (out1.length : Int) < (k : Int)
                    · have hr : r1 = [] ∧ r2 = 18 := by
                        have h := HRES.out
                        rw [if_pos hlt] at h
                        exact ⟨congrArg Prod.fst h, congrArg Prod.snd h⟩
                      obtain ⟨rfl, rfl⟩ := hr
                      go_wp2
                      go_ret2
                      exact ⟨_, rfl, Kd.R_nil _ _ _ _ _, HS.out.B⟩
                    · have hr : r1 = out1 ∧ r2 = 0 := by
                        have h := HRES.out
                        rw [if_neg hlt] at h
                        exact ⟨congrArg Prod.fst h, congrArg Prod.snd h⟩
                      obtain ⟨rfl, rfl⟩ := hr
                      go_wp2
                      go_ret2
                      exact ⟨_, rfl, HS.out.out, HS.out.B⟩
                  · rw [if_neg hx0] at hA
                    obtain ⟨i, hi⟩ : ∃ i, Hp.at_ (0 : Int) xs 0 = i := ⟨_, rfl⟩
                    rw [hi] at hA
                    have HI := Lib.hid hi
                    clear hi
                    split at hA
                    · rename_i hg
                      obtain ⟨hg0, hg1, hg2, hg3⟩ := hg
                      obtain ⟨i, rfl⟩ := Int.eq_ofNat_of_zero_le hg0
                      rw [Option.bind_eq_some_iff] at hA
                      obtain ⟨⟨ws2, h2⟩, hA1, hA2⟩ := hA
                      rw [Int.toNat_natCast] at hA1
                      dsimp only at hA2
                      obtain ⟨ys, hys⟩ : ∃ ys, xss.getD i [] = ys := ⟨_, rfl⟩
                      rw [hys] at hA1
                      have HYS := Lib.hid hys
                      clear hys
                      have HA1 := Lib.hid hA1
                      have HA2 := Lib.hid hA2
                      clear hA1 hA2 HA
                      have hp0 : 0 < xs.length := by omega
                      have hik : i < k := by omega
                      go_wp2_with fail
                      refine (R.len_calls A xs.length c _ (by omega)).mono ?_
                      rintro e' w5 ⟨rfl, rfl⟩
                      go_wp2_with fail
                      refine (R.pop_calls w wr w.heap.size g [] A c xs HS.out.hs HS.out.B hbs HS.out.base_g hp0 (by omega)).mono ?_
                      rintro e' w6 ⟨rfl, hp⟩
                      obtain ⟨f6, v6, hst⟩ := HS.out.pop hp
                      have HS6 := Lib.hid hst
                      clear hp hst HS hcell
                      rw [HI.out]
                      have hta : ∀ (v : Value) (W : World), (Instr.typeAssert (.iface 3 v) 20 3 true).run Try.prog W = .ok (.tuple #[v, .bool true]) W := fun v W => by rfl
                      go_wp2_with (first | (at_builtin; go_must (refine Kd.R_append KI (w0 := w) w.heap.size rfl (.tmp 75) (.tmp 77) 24 3 (.int .i64 0) 8 rfl Try.underlying24 R.infoE rfl (by decide) (by decide) u12 out1 (i : Int) [.int .i64 (i : Int)] (fun _ => True) (fun _ => False) rfl ?aX ?aP (fun _ hk => hk.elim) ?aF ?aO ?aB ?aS ?aL ?_; (case aX => go_simp); (case aP => rfl); (case aF => exact fun _ _ => trivial); (case aO => exact HS6.out.out); (case aB => exact HS6.out.B); (case aS => exact below_size HS6.out.B); (case aL => omega); intro v1 w7 ho hb hg hat; obtain ⟨f7, hst⟩ := HS6.out.app hg ho hb hat; have HS7 := Lib.hid hst; obtain ⟨hgc, hgz⟩ := hst.aw.cell i hik; obtain ⟨hRi, hOi⟩ := hst.aw.at_ i hik; rw [HYS.out] at hRi; obtain ⟨Ai, ci, hui⟩ := Kd.R_slice hRi; rw [hui] at hgc hRi; have HRI := Lib.hid hRi; have HUI := Lib.hid hui; clear hRi hOi hui ho hb hg hat hst)))
                      have hyl : ys.length ≤ 9223372036854775807 := R_len HRI.out
                      clear HS6 HRI
                      go_loopg [84] ys.length (fun kq v84 w' => ∃ (j : Nat) (f : Nat → Nat) (ws3 : List Int) (v : Value) (h3 : List Int), v84 = .int .i64 j ∧ Aside0 (kq + j = ys.length ∧ relax (ys.drop j) ws3 h3 = some (ws2, h2)) ∧ Aside0 (ST w w' w.heap.size f k gv gw g vs xss ws3 v h3 v1 (out1 ++ [(i : Int)])))
                      case atStart => exact ⟨0, f7, ws1, v6, _, rfl, ⟨by omega, HA1.out⟩, ⟨HS7.out⟩⟩
                      case round =>
                        clear HS7 HA1
                        obtain ⟨j, f, ws3, v, h3, rfl, HJ, HS⟩ := hrel
                        cases gk with
                        | zero =>
                          have hj : ys.length ≤ j := by have := HJ.out.1; omega
                          have hr := HJ.out.2
                          rw [List.drop_eq_nil_of_le hj] at hr
                          simp only [relax, Option.some.injEq, Prod.mk.injEq] at hr
                          obtain ⟨rfl, rfl⟩ := hr
                          clear HJ
                          go_wp2
                          go_roundg kq
                          case measure => omega
                          case rel => exact ⟨f, ws3, v, h3, out1 ++ [(i : Int)], ⟨by rw [← HI.out]; rw [← HI.out] at HA2; exact HA2.out⟩, ⟨HS.out⟩⟩
                        | succ jq =>
                          have hj : j < ys.length := by have := HJ.out.1; omega
                          have hr := HJ.out.2
                          rw [List.drop_eq_getElem_cons hj] at hr
                          simp only [relax] at hr
                          split at hr
                          · rename_i hg
                            obtain ⟨hg0, hg1, hg2⟩ := hg
                            obtain ⟨d, hd⟩ := Int.eq_ofNat_of_zero_le hg0
                            rw [hd] at hr hg1
                            rw [Int.toNat_natCast] at hr
                            have hRi := (HS.out.aw.at_ i hik).1
                            rw [HYS.out, HUI.out] at hRi
                            obtain ⟨b, c', he, _, hbl, _⟩ := Kd.R_form hRi (by omega)
                            injection he with he1 he2 he3
                            subst he1
                            obtain ⟨hyc, _⟩ := R.row_cell hRi j hj
                            have hyd : Hp.at_ (0 : Int) ys j = (d : Int) := by
                              unfold Hp.at_
                              rw [List.getD_eq_getElem?_getD, List.getElem?_eq_getElem hj]
                              exact hd
                            rw [hyd] at hyc
                            have hdk : d < k := by have := HS.out.aw.nw; omega
                            obtain ⟨hwc, hwz⟩ := HS.out.aw.wcell d hdk
                            have hwl := HS.out.aw.waits_lt
                            have hbs := below_size HS.out.B
                            obtain ⟨q, hq⟩ : ∃ q, ws3.getD d 0 = q := ⟨_, rfl⟩
                            rw [hq] at hwc
                            have hdec : decW ws3 d = ws3.set d (wrap64 (q - 1)) := by unfold decW; rw [hq]
                            have hget : (ws3.set d (wrap64 (q - 1))).getD d 0 = wrap64 (q - 1) := by
                              rw [List.getD_eq_getElem?_getD, List.getElem?_set_self (by omega)]; rfl
                            rw [hdec, hget] at hr
                            have HS8 := Lib.hid (HS.out.wait hdk (wrap64 (q - 1)) hgw hbs)
                            have HR8 := Lib.hid hr
                            clear hRi he2 he3 hyd hq hdec hget hr hd hg0
                            obtain ⟨p, hwq⟩ : ∃ p, wrap64 (q - 1) = p := ⟨_, rfl⟩
                            rw [hwq] at HS8 HR8
                            by_cases hp : p = 0
                            · subst hp
                              rw [if_pos rfl] at HR8
                              go_wp2_with fail
                              refine (R.push_calls w (wr.setCell ⟨gw, d, none⟩ (.int .i64 0)) w.heap.size g [] v h3 (d : Int) HS8.out.hs HS8.out.B (below_size HS8.out.B) HS8.out.base_g (by omega)).mono ?_
                              rintro e w9 ⟨rfl, hpp⟩
                              obtain ⟨f9, v9, hst⟩ := HS8.out.push hpp
                              have HS9 := Lib.hid hst
                              clear hpp hst
                              go_wp2
                              go_roundg jq
                              case measure => omega
                              case rel => exact ⟨j + 1, f9, _, v9, _, by go_num, ⟨by have := HJ.out.1; omega, HR8.out⟩, ⟨HS9.out⟩⟩
                            · rw [if_neg hp] at HR8
                              go_wp2
                              go_roundg jq
                              case measure => omega
                              case rel => exact ⟨j + 1, f, _, v, _, by go_num, ⟨by have := HJ.out.1; omega, HR8.out⟩, ⟨HS8.out⟩⟩
                          · cases hr
                    · cases hA
            | succ kq =>
              have hkN : k < N := by have := HA.out; omega
              obtain ⟨hwc, hwz⟩ := HS.out.aw.wcell k hkN
              have hbs := below_size HS.out.B
              have HSC := Lib.hid (seed_succ ws k)
              obtain ⟨q, hq⟩ : ∃ q, ws.getD k 0 = q := ⟨_, rfl⟩
              rw [hq] at hwc
              have HQ := Lib.hid hq
              clear hq
              by_cases hq0 : q = 0
              · subst hq0
                have hsc : seed ws (k + 1) = Hp.push (0 : Int) R.less (seed ws k) (k : Int) := by rw [HSC.out, if_pos HQ.out]
                have HSC := Lib.hid hsc
                clear hsc
                go_wp2_with fail
                refine (R.push_calls w wr w.heap.size g [] v (seed ws k) (k : Int) HS.out.hs HS.out.B hbs HS.out.base_g (by omega)).mono ?_
                rintro e w4 ⟨rfl, hp⟩
                obtain ⟨f', v', hst⟩ := HS.out.push hp
                have HS4 := Lib.hid hst
                clear hp hst
                go_wp2
                go_roundg kq
                case measure => omega
                case rel => exact ⟨k + 1, f', v', by go_num, ⟨by have := HA.out; omega⟩, ⟨by rw [HSC.out]; exact HS4.out⟩⟩
              · have hsc : seed ws (k + 1) = seed ws k := by rw [HSC.out, if_neg (by rw [HQ.out]; exact hq0)]
                have HSC := Lib.hid hsc
                clear hsc
                go_wp2
                go_roundg kq
                case measure => omega
                case rel => exact ⟨k + 1, f, v, by go_num, ⟨by have := HA.out; omega⟩, ⟨by rw [HSC.out]; exact HS.out⟩⟩
        | succ kq =>
          have hk : k < l1.length := by have := HA.out; omega
          obtain ⟨ad, rfl, hx0, hx1⟩ := at_T68 HR1.out (k : Int) (Int.natCast_nonneg _) (by omega)
          have hB := HW.out.2
          replace hx0 := (hB.cell (World.block_lt_of_cell? w _ hx0)).trans hx0
          replace hx1 := (hB.cell (World.block_lt_of_cell? w _ hx1)).trans hx1
          simp only [Int.toNat_natCast] at hx0 hx1
          have hxin := edgeIn_iff.1 (valid_at HV.out k hk)
          have HL := Lib.hid (fun b => (show (((l1.take k).foldl addEdge (List.replicate N [])).getD b []).length ≤ k from by
            have h1 := addEdge_len (l1.take k) (List.replicate N []) b
            have h2 : ((List.replicate N ([] : List Int)).getD b []).length = 0 := by
              rw [List.getD_eq_getElem?_getD, List.getElem?_replicate]
              split <;> rfl
            rw [List.length_take] at h1
            omega))
          have HC := Lib.hid (And.intro (take_foldl addEdge (List.replicate N []) l1 k hk) (take_foldl incW (List.replicate N 0) l1 k hk))
          clear hB
          generalize rd_T68 l1 k = x at *
          generalize (l1.take k).foldl addEdge (List.replicate N []) = xss at *
          generalize (l1.take k).foldl incW (List.replicate N 0) = ws at *
          obtain ⟨x0, x1⟩ := x
          obtain ⟨hxa, hxb, hxc, hxd⟩ := hxin
          obtain ⟨b, rfl⟩ := Int.eq_ofNat_of_zero_le hxa
          obtain ⟨d, rfl⟩ := Int.eq_ofNat_of_zero_le hxc
          dsimp only at hxb hxd
          have hbN : b < N := by omega
          have hdN : d < N := by omega
          dsimp only at hx0 hx1
          go_wp2
          have hed := heap_alloc_new wr (.cells #[.int .i64 (b : Int), .int .i64 (d : Int)] 68)
          have haw := HW.out.1.below (below_alloc (Below.refl _ _) (.cells #[.int .i64 (b : Int), .int .i64 (d : Int)] 68))
          have hB3 := below_alloc HW.out.2 (.cells #[.int .i64 (b : Int), .int .i64 (d : Int)] 68)
          clear HW hx0 hx1
          generalize wr.alloc (.cells #[.int .i64 (b : Int), .int .i64 (d : Int)] 68) = w3 at *
          generalize wr.heap.size = ge at *
          have he0 := blk_cell hed 0
          have he1 := blk_cell hed 1
          have hel := blk_lt hed
          simp only [List.getElem?_toArray, List.getElem?_cons_succ, List.getElem?_cons_zero] at he0 he1
          have hs3 := below_size hB3
          have HAW := Lib.hid haw
          have HB3 := Lib.hid hB3
          have HED := Lib.hid hed
          clear haw hB3 hed
          go_cut [] (fun wx => ∃ (f' : Nat → Nat) (vs' : List Value), Aside0 (AW wx w.heap.size f' N gv gw vs' (xss.set b (xss.getD b [] ++ [(d : Int)])) ws ∧ Below w.heap.size w wx ∧ wx.heap[ge]? = some (.cells #[.int .i64 (b : Int), .int .i64 (d : Int)] 68 (0, 0))))
          case first =>
            have haw := HAW.out
            obtain ⟨hgc, hgz⟩ := haw.cell b hbN
            have hgl := haw.outer_lt
            have HU := Lib.hid (haw.at_ b hbN)
            clear haw
            have hyl := HL.out b
            clear HL
            generalize hu : vs.getD b undef = u at *
            have HUE := Lib.hid hu
            clear hu
            generalize xss.getD b [] = ys at *
            go_region_law (rw [show (w3.alloc (.cells #[.int .i64 (d : Int)] 3)).drew = (w3.drew).alloc (.cells [.int .i64 (d : Int)].toArray 3) from rfl]; refine Kd.R_append_step KI (w0 := w) w.heap.size rfl (.tmp 38) (.tmp 41) 24 3 (.int .i64 0) 8 rfl Try.underlying24 R.infoE rfl (by decide) (by decide) u ys (d : Int) [.int .i64 (d : Int)] (fun _ => True) (fun _ => False) (by go_simp) (by go_simp) rfl (fun _ hk => hk.elim) (fun _ _ => trivial) (by (repeat (first | exact HU.out.1 | apply Kd.R_alloc | apply Kd.R_drewN | apply Kd.R_drew))) (by (repeat (first | exact HB3.out | apply below_drew))) (by (first | exact hs3 | (simp; omega))) (by omega) ?_; intro v1 w4 ho hb hgr hat; obtain ⟨A1, c1, rfl⟩ := Kd.R_slice ho; simp only [List.length_append, List.length_singleton] at ho hat; obtain ⟨f1, vs1, hst1, hst2, hst3, hst4, hst5⟩ := edge_step HAW.out hbN HUE.out hgr ho hb hat hgv; have hed4 := blk_grown (blk_drew HED.out) hgr (Kd.R_ne HU.out.1 HED.out (by decide)); have hee0 := blk_cell hed4 0; have hee1 := blk_cell hed4 1; have heel := blk_lt hed4; simp only [List.getElem?_toArray, List.getElem?_cons_succ, List.getElem?_cons_zero] at hee0 hee1; have HED4 := Lib.hid (edge_kept (b := b) (u1 := .slice A1 (ys.length + 1) c1) HAW.out HED.out hed4); have HST := Lib.hid (And.intro hst1 hst2); clear ho hb hgr hat hst1 hst2 hed4)
            all_goals (go_wp2; go_meet)
            all_goals exact ⟨f1, vs1, ⟨HST.out.1, HST.out.2, HED4.out⟩⟩
          case rest =>
            obtain ⟨f1, vs1, HX⟩ := hcut
            clear HAW HB3 HED hel hs3 he0 he1 HL
            obtain ⟨haw, hB4, hed⟩ := HX.out
            have he0 := blk_cell hed 0
            have he1 := blk_cell hed 1
            have hel := blk_lt hed
            simp only [List.getElem?_toArray, List.getElem?_cons_succ, List.getElem?_cons_zero] at he0 he1
            obtain ⟨hwc, hwz⟩ := haw.wcell d hdN
            have hwl := haw.waits_lt
            clear haw hB4 hed
            obtain ⟨q, hq⟩ : ∃ q, ws.getD d 0 = q := ⟨_, rfl⟩
            rw [hq] at hwc
            have HQ := Lib.hid hq
            clear hq
            go_wp2
            go_roundg kq
            case measure => omega
            case rel =>
              refine ⟨k + 1, f1, vs1, by go_num, ⟨by have := HA.out; omega⟩, ⟨?_, HX.out.2.1.setCell hgw _⟩⟩
              rw [HC.out.1, HC.out.2]
              unfold addEdge incW
              simp only [Int.toNat_natCast]
              rw [HQ.out]
              exact (HX.out.1.wait hdN _).1
end Go.Proofs.Ythpjpkcfepmhkaa.PAll
