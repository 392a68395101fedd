/- Lists that are the same: slices.Equal, equalInts, equalSlots. When a plan is well formed, as the program looks at it; alpha.Valid. -/
import Derived.Test.YtonkbjdeaneicaaKpc02
import Derived.Test.YtonkbjdeaneicaaKpc09
namespace Go.Proofs.Ytonkbjdeaneicaa
open Go.RowKit Pln Classical

theorem drewN_below {w wr : World} (h : Below w.heap.size w wr) (n : Nat) : Below w.heap.size w (wr.drewN n) := ⟨h.os, h.tape, h.output, h.size, h.block⟩
noncomputable def eqB {α : Type} (xs ys : List α) : Bool := decide (xs = ys)
theorem eqB_ne {α : Type} {xs ys : List α} (h : xs ≠ ys) : eqB xs ys = false := by simp only [eqB, decide_eq_false_iff_not]; exact h
theorem eqB_eq {α : Type} {xs ys : List α} (h : xs = ys) : eqB xs ys = true := by simp only [eqB, decide_eq_true_eq]; exact h
theorem list_eq {α : Type} {xs ys : List α} (hl : xs.length = ys.length) (h : ∀ i, i < xs.length → xs[i]? = ys[i]?) : xs = ys := by
  apply List.ext_getElem? 
  intro i
  rcases Nat.lt_or_ge i xs.length with h1 | h1
  · exact h i h1
  · rw [List.getElem?_eq_none h1, List.getElem?_eq_none (by omega)]
theorem neq_slt_same (s : Slt) (w : World) : (binOp .neq 50 (.agg #[.bool s.v, .int .i64 s.n]) (.agg #[.bool s.v, .int .i64 s.n])).run Try.prog w = .ok (.bool false) w := by
  simp [go_sem]
theorem neq_slt_diff {s t : Slt} (h : s ≠ t) (w : World) : (binOp .neq 50 (.agg #[.bool s.v, .int .i64 s.n]) (.agg #[.bool t.v, .int .i64 t.n])).run Try.prog w = .ok (.bool true) w := by
  obtain ⟨a, b⟩ := s
  obtain ⟨c, d⟩ := t
  have h' : ¬ (a = c ∧ b = d) := fun ⟨h1, h2⟩ => h (by rw [h1, h2])
  simp [go_sem]
  by_cases h1 : a = c
  · by_cases h2 : b = d
    · exact absurd ⟨h1, h2⟩ h'
    · simp [h1, h2]
  · simp [h1]

set_option maxRecDepth 100000 in
theorem equalW {F G : Nat → Prop} (va vb : Value) (xs ys : List Int) (w : World) (ha : RSl F w 1 EInt va xs) (hb : RSl G w 1 EInt vb ys) :
    Calls Try.prog 63 #[va, vb] w fun e w' => e = .returned (.bool (eqB xs ys)) ∧ Below w.heap.size w w' := by
  obtain ⟨A, ca, rfl⟩ := ha.form
  obtain ⟨B, cb, rfl⟩ := hb.form
  have hm := ha.len
  have hm2 := hb.len
  unfold maxLen at hm hm2
  have HA := Lib.hid ha
  have HB := Lib.hid hb
  clear ha hb
  by_cases hl : xs.length = ys.length
  · have HL := Lib.hid hl
    have hl2 : ((xs.length : Int) != (ys.length : Int)) = false := by simp; omega
    clear hl
    go_enter Try.func63, Try.ntmps63
    go_wp2
    go_loopw [13] (fun i wr => ∃ k : Nat, i = .int .i64 k ∧ k ≤ xs.length ∧ (∀ i, i < k → xs[i]? = ys[i]?) ∧ Below w.heap.size w wr) (fun i _ => xs.length - (intOf i).toNat)
    case atStart => exact ⟨0, rfl, Nat.zero_le _, fun i h => by omega, Below.refl _ _⟩
    case round =>
      obtain ⟨k, rfl, hk, hq, hbl⟩ := hrel
      by_cases hkn : k < xs.length
      · obtain ⟨x, hx⟩ : ∃ x, xs[k]? = some x := ⟨_, List.getElem?_eq_getElem hkn⟩
        obtain ⟨y, hy⟩ : ∃ y, ys[k]? = some y := ⟨_, List.getElem?_eq_getElem (by have := HL.out; omega)⟩
        obtain ⟨b1, o1, rfl, _, _, cs1, ⟨rfl, _⟩, hc1⟩ := (HA.out.keep (Kp.of_below hbl)).at hx
        obtain ⟨b2, o2, rfl, _, _, cs2, ⟨rfl, _⟩, hc2⟩ := (HB.out.keep (Kp.of_below hbl)).at hy
        have d1 := hc1 0 _ rfl
        have d2 := hc2 0 _ rfl
        simp only [Nat.add_zero, Nat.mul_one] at d1 d2
        have e1 : (0 : Int) ≤ (k : Int) := by omega
        have e2 : (k : Int) < (xs.length : Int) := by omega
        have e3 : (k : Int) < (ys.length : Int) := by have := HL.out; omega
        have HX := Lib.hid hx
        have HY := Lib.hid hy
        have HQ := Lib.hid hq
        have HK := Lib.hid hkn
        have HBL := Lib.hid hbl
        clear hc1 hc2 hx hy hq hkn hbl
        by_cases hxy : x = y
        · subst hxy
          have hne : (x != x) = false := by simp
          have HQ2 := Lib.hid (show ∀ i, i < k + 1 → xs[i]? = ys[i]? from fun i hi => by
            rcases Nat.lt_or_ge i k with h1 | h1
            · exact HQ.out i h1
            · rw [show i = k by omega, HX.out, HY.out])
          go_wp2
          go_quiet (fail)
          have HB2 := Lib.hid (drewN_below HBL.out nq)
          go_wp2
          exact ⟨⟨k + 1, by go_num, HK.out, HQ2.out, HB2.out⟩, by simp [intOf]; have := HK.out; omega⟩
        · have hne : (x != y) = true := by simpa using hxy
          have HF := Lib.hid (eqB_ne (xs := xs) (ys := ys) (fun e => hxy (by
            have h1 := HX.out
            rw [e, HY.out] at h1
            exact (Option.some.inj h1).symm)))
          clear hxy
          go_wp2
          go_quiet (fail)
          have HB2 := Lib.hid (drewN_below HBL.out nq)
          go_wp2
          go_ret
          exact ⟨ret_bool HF.out.symm, HB2.out⟩
      · obtain rfl : k = xs.length := by omega
        have HF := Lib.hid (eqB_eq (list_eq HL.out hq))
        clear hq
        go_wp2
        go_ret
        exact ⟨ret_bool HF.out.symm, hbl⟩
  · have HF := Lib.hid (eqB_ne (xs := xs) (ys := ys) (fun e => hl (by rw [e])))
    have hl2 : ((xs.length : Int) != (ys.length : Int)) = true := by simp; omega
    clear hl
    go_enter Try.func63, Try.ntmps63
    go_wp2
    go_ret
    exact ⟨ret_bool HF.out.symm, Below.refl _ _⟩

set_option maxRecDepth 100000 in
theorem equalIntsW {F G : Nat → Prop} (va vb : Value) (xs ys : List Int) (w : World) (ha : RSl F w 1 EInt va xs) (hb : RSl G w 1 EInt vb ys) :
    Calls Try.prog 19 #[va, vb] w fun e w' => e = .returned (.bool (eqB xs ys)) ∧ Below w.heap.size w w' := by
  obtain ⟨A, ca, rfl⟩ := ha.form
  obtain ⟨B, cb, rfl⟩ := hb.form
  have hm := ha.len
  have hm2 := hb.len
  unfold maxLen at hm hm2
  have HA := Lib.hid ha
  have HB := Lib.hid hb
  clear ha hb
  by_cases hl : xs.length = ys.length
  · have HL := Lib.hid hl
    have hl2 : ((xs.length : Int) != (ys.length : Int)) = false := by simp; omega
    clear hl
    go_enter Try.func19, Try.ntmps19
    go_wp2
    go_loopw [5] (fun i wr => ∃ k : Nat, i = .int .i64 k ∧ k ≤ xs.length ∧ (∀ i, i < k → xs[i]? = ys[i]?) ∧ Below w.heap.size w wr) (fun i _ => xs.length - (intOf i).toNat)
    case atStart => exact ⟨0, rfl, Nat.zero_le _, fun i h => by omega, Below.refl _ _⟩
    case round =>
      obtain ⟨k, rfl, hk, hq, hbl⟩ := hrel
      by_cases hkn : k < xs.length
      · obtain ⟨x, hx⟩ : ∃ x, xs[k]? = some x := ⟨_, List.getElem?_eq_getElem hkn⟩
        obtain ⟨y, hy⟩ : ∃ y, ys[k]? = some y := ⟨_, List.getElem?_eq_getElem (by have := HL.out; omega)⟩
        obtain ⟨b1, o1, rfl, _, _, cs1, ⟨rfl, _⟩, hc1⟩ := (HA.out.keep (Kp.of_below hbl)).at hx
        obtain ⟨b2, o2, rfl, _, _, cs2, ⟨rfl, _⟩, hc2⟩ := (HB.out.keep (Kp.of_below hbl)).at hy
        have d1 := hc1 0 _ rfl
        have d2 := hc2 0 _ rfl
        simp only [Nat.add_zero, Nat.mul_one] at d1 d2
        have e1 : (0 : Int) ≤ (k : Int) := by omega
        have e2 : (k : Int) < (xs.length : Int) := by omega
        have e3 : (k : Int) < (ys.length : Int) := by have := HL.out; omega
        have HX := Lib.hid hx
        have HY := Lib.hid hy
        have HQ := Lib.hid hq
        have HK := Lib.hid hkn
        have HBL := Lib.hid hbl
        clear hc1 hc2 hx hy hq hkn hbl
        by_cases hxy : x = y
        · subst hxy
          have hne : (x != x) = false := by simp
          have HQ2 := Lib.hid (show ∀ i, i < k + 1 → xs[i]? = ys[i]? from fun i hi => by
            rcases Nat.lt_or_ge i k with h1 | h1
            · exact HQ.out i h1
            · rw [show i = k by omega, HX.out, HY.out])
          go_wp2
          go_quiet (fail)
          have HB2 := Lib.hid (drewN_below HBL.out nq)
          go_wp2
          exact ⟨⟨k + 1, by go_num, HK.out, HQ2.out, HB2.out⟩, by simp [intOf]; have := HK.out; omega⟩
        · have hne : (x != y) = true := by simpa using hxy
          have HF := Lib.hid (eqB_ne (xs := xs) (ys := ys) (fun e => hxy (by
            have h1 := HX.out
            rw [e, HY.out] at h1
            exact (Option.some.inj h1).symm)))
          clear hxy
          go_wp2
          go_quiet (fail)
          have HB2 := Lib.hid (drewN_below HBL.out nq)
          go_wp2
          go_ret
          exact ⟨ret_bool HF.out.symm, HB2.out⟩
      · obtain rfl : k = xs.length := by omega
        have HF := Lib.hid (eqB_eq (list_eq HL.out hq))
        clear hq
        go_wp2
        go_ret
        exact ⟨ret_bool HF.out.symm, hbl⟩
  · have HF := Lib.hid (eqB_ne (xs := xs) (ys := ys) (fun e => hl (by rw [e])))
    have hl2 : ((xs.length : Int) != (ys.length : Int)) = true := by simp; omega
    clear hl
    go_enter Try.func19, Try.ntmps19
    go_wp2
    go_ret
    exact ⟨ret_bool HF.out.symm, Below.refl _ _⟩

set_option maxRecDepth 100000 in
theorem equalSlotsW {F G : Nat → Prop} (va vb : Value) (xs ys : List Slt) (w : World) (ha : RSl F w 2 ESlt va xs) (hb : RSl G w 2 ESlt vb ys) :
    Calls Try.prog 58 #[va, vb] w fun e w' => e = .returned (.bool (eqB xs ys)) ∧ Below w.heap.size w w' := by
  obtain ⟨A, ca, rfl⟩ := ha.form
  obtain ⟨B, cb, rfl⟩ := hb.form
  have hm := ha.len
  have hm2 := hb.len
  unfold maxLen at hm hm2
  have HA := Lib.hid ha
  have HB := Lib.hid hb
  clear ha hb
  by_cases hl : xs.length = ys.length
  · have HL := Lib.hid hl
    have hl2 : ((xs.length : Int) != (ys.length : Int)) = false := by simp; omega
    clear hl
    go_enter Try.func58, Try.ntmps58
    go_wp2
    go_loopw [5] (fun i wr => ∃ k : Nat, i = .int .i64 k ∧ k ≤ xs.length ∧ (∀ i, i < k → xs[i]? = ys[i]?) ∧ Below w.heap.size w wr) (fun i _ => xs.length - (intOf i).toNat)
    case atStart => exact ⟨0, rfl, Nat.zero_le _, fun i h => by omega, Below.refl _ _⟩
    case round =>
      obtain ⟨k, rfl, hk, hq, hbl⟩ := hrel
      by_cases hkn : k < xs.length
      · obtain ⟨x, hx⟩ : ∃ x, xs[k]? = some x := ⟨_, List.getElem?_eq_getElem hkn⟩
        obtain ⟨y, hy⟩ : ∃ y, ys[k]? = some y := ⟨_, List.getElem?_eq_getElem (by have := HL.out; omega)⟩
        obtain ⟨b1, o1, rfl, _, _, cs1, ⟨rfl, _⟩, hc1⟩ := (HA.out.keep (Kp.of_below hbl)).at hx
        obtain ⟨b2, o2, rfl, _, _, cs2, ⟨rfl, _⟩, hc2⟩ := (HB.out.keep (Kp.of_below hbl)).at hy
        have d1 := hc1 0 _ rfl
        have d2 := hc2 0 _ rfl
        have d3 := hc1 1 _ rfl
        have d4 := hc2 1 _ rfl
        simp only [Nat.add_zero] at d1 d2
        have e1 : (0 : Int) ≤ (k : Int) := by omega
        have e2 : (k : Int) < (xs.length : Int) := by omega
        have e3 : (k : Int) < (ys.length : Int) := by have := HL.out; omega
        have HX := Lib.hid hx
        have HY := Lib.hid hy
        have HQ := Lib.hid hq
        have HK := Lib.hid hkn
        have HBL := Lib.hid hbl
        clear hc1 hc2 hx hy hq hkn hbl
        by_cases hxy : x = y
        · subst hxy
          have hne := fun W => neq_slt_same x W
          have HQ2 := Lib.hid (show ∀ i, i < k + 1 → xs[i]? = ys[i]? from fun i hi => by
            rcases Nat.lt_or_ge i k with h1 | h1
            · exact HQ.out i h1
            · rw [show i = k by omega, HX.out, HY.out])
          go_wp2
          go_quiet (fail)
          have HB2 := Lib.hid (drewN_below HBL.out nq)
          go_wp2
          exact ⟨⟨k + 1, by go_num, HK.out, HQ2.out, HB2.out⟩, by simp [intOf]; have := HK.out; omega⟩
        · have hne := fun W => neq_slt_diff hxy W
          have HF := Lib.hid (eqB_ne (xs := xs) (ys := ys) (fun e => hxy (by
            have h1 := HX.out
            rw [e, HY.out] at h1
            exact (Option.some.inj h1).symm)))
          clear hxy
          go_wp2
          go_quiet (fail)
          have HB2 := Lib.hid (drewN_below HBL.out nq)
          go_wp2
          go_ret
          exact ⟨ret_bool HF.out.symm, HB2.out⟩
      · obtain rfl : k = xs.length := by omega
        have HF := Lib.hid (eqB_eq (list_eq HL.out hq))
        clear hq
        go_wp2
        go_ret
        exact ⟨ret_bool HF.out.symm, hbl⟩
  · have HF := Lib.hid (eqB_ne (xs := xs) (ys := ys) (fun e => hl (by rw [e])))
    have hl2 : ((xs.length : Int) != (ys.length : Int)) = true := by simp; omega
    clear hl
    go_enter Try.func58, Try.ntmps58
    go_wp2
    go_ret
    exact ⟨ret_bool HF.out.symm, Below.refl _ _⟩
end Go.Proofs.Ytonkbjdeaneicaa

namespace Go.Proofs.Ytonkbjdeaneicaa.Pln
open Classical

/-- A shape that a pattern can have: place i. -/
def validAt (s : Shp) (i : Nat) : Prop := ∀ c, s.cells[i]? = some c → c < 0 → ∃ j : Nat, (j : Int) = -1 - c ∧ j ≤ i ∧ s.cells[j]? = some c
def validS (s : Shp) : Prop := 0 ≤ s.pred ∧ ∀ i, i < s.cells.length → validAt s i
/-- The shapes: each valid, of at most 8 places, none twice. -/
def shapeAt (al : List Shp) (i : Nat) : Prop := ∀ s, al[i]? = some s → validS s ∧ s.cells.length ≤ 8 ∧ ∀ k, k < i → al[k]? ≠ some s
/-- The nodes need the shapes in their order: the next new one behind the first nodes. -/
noncomputable def needF (m : Nat) (x : Option Nat) (n : Nd) : Option Nat := match x with
  | none => none
  | some q => if n.kind = 1 ∨ n.kind = 3 then (if 0 ≤ n.alpha ∧ n.alpha ≤ (q : Int) ∧ n.alpha < (m : Int) then (if n.alpha = (q : Int) then some (q + 1) else some q) else none) else some q
noncomputable def needs (m : Nat) (ns : List Nd) : Option Nat := ns.foldl (needF m) (some 0)
def shapesP (al : List Shp) (ns : List Nd) : Prop := (∀ i, i < al.length → shapeAt al i) ∧ needs al.length ns = some al.length
theorem needs_none (m : Nat) (ns : List Nd) : ns.foldl (needF m) none = none := by
  induction ns with
  | nil => rfl
  | cons n r ih => exact ih
theorem needs_take {m : Nat} {ns : List Nd} {k : Nat} {n : Nd} (h : ns[k]? = some n) : needs m (ns.take (k + 1)) = needF m (needs m (ns.take k)) n := by
  unfold needs
  rw [List.take_add_one, h, List.foldl_append]
  rfl
theorem needs_stop {m : Nat} {ns : List Nd} {k : Nat} (h : needs m (ns.take k) = none) : needs m ns = none := by
  unfold needs at h ⊢
  rw [← List.take_append_drop k ns, List.foldl_append, h, needs_none]
theorem needs_le (m : Nat) : ∀ (ns : List Nd) (q q' : Nat), ns.foldl (needF m) (some q) = some q' → q' ≤ q + ns.length
  | [], q, q', h => by
    simp only [List.foldl_nil, Option.some.injEq] at h
    subst h
    exact Nat.le_refl _
  | n :: r, q, q', h => by
    rw [List.foldl_cons] at h
    cases hx : needF m (some q) n with
    | none => rw [hx, needs_none] at h; cases h
    | some a =>
      rw [hx] at h
      have h1 := needs_le m r a q' h
      have h2 : a ≤ q + 1 := by
        unfold needF at hx
        simp only at hx
        split at hx
        · split at hx
          · split at hx
            · injection hx with hx; omega
            · injection hx with hx; omega
          · cases hx
        · injection hx with hx; omega
      simp only [List.length_cons]
      omega
end Go.Proofs.Ytonkbjdeaneicaa.Pln
namespace Go.Proofs.Ytonkbjdeaneicaa
open Go.RowKit Pln Classical Go.Maps

theorem box_cellL {w wr : World} {cs : Array Value} {T : TypeId} (hb : Below (w.heap.size + 1) (w.alloc (.cells cs T)) wr) (j : Nat) {u : Value} (hu : cs.toList[j]? = some u) : wr.cell? ⟨w.heap.size, j, none⟩ = some u :=
  box_cell hb j u (by rw [← Array.getElem?_toList]; exact hu)

set_option maxRecDepth 200000 in
set_option maxHeartbeats 4000000 in
theorem validW {F : Nat → Prop} (s : Shp) (v : Value) (W : World) (h : RSl F W 1 EInt v s.cells) :
    Calls Try.prog 62 #[.agg #[.int .i64 s.pred, v]] W fun e W' => e = .returned (.bool (decide (validS s))) ∧ Below W.heap.size W W' := by
  obtain ⟨A, c, rfl⟩ := h.form
  have hm := h.len
  unfold maxLen at hm
  have H := Lib.hid h
  clear h
  obtain ⟨R, hR⟩ : ∃ R, decide (validS s) = R := ⟨_, rfl⟩
  rw [hR]
  have HR := Lib.hid hR
  clear hR
  go_enter Try.func62, Try.ntmps62
  by_cases h0 : s.pred < 0
  · have HF := Lib.hid (show R = false by rw [← HR.out]; exact decide_eq_false (fun h => by have := h.1; omega))
    go_wp2
    go_ret
    exact ⟨by rw [HF.out]; rfl, (Below.refl _ _).alloc (Nat.le_refl _) _⟩
  · go_wp2
    go_loopw [12] (fun iv wr => ∃ i : Nat, iv = .int .i64 i ∧ i ≤ s.cells.length ∧ (∀ k, k < i → validAt s k) ∧ Below (W.heap.size + 1) (W.alloc (.cells #[.int .i64 s.pred, .slice A s.cells.length c] 79)) wr) (fun i _ => s.cells.length - (intOf i).toNat)
    case atStart => exact ⟨0, rfl, Nat.zero_le _, fun k hk => by omega, Below.refl _ _⟩
    case round =>
      obtain ⟨i, rfl, hi, hV, hb⟩ := hrel
      by_cases hin : i < s.cells.length
      · obtain ⟨x, hx⟩ : ∃ x, s.cells[i]? = some x := ⟨_, List.getElem?_eq_getElem hin⟩
        obtain ⟨b, o, rfl, -, hbl, cs, ⟨rfl, hok⟩, hc⟩ := RSl.at H.out hx
        have hlo := hok.lo
        have c0 := ((box_below hb).cell (p := ⟨b, o + i * 1 + 0, none⟩) hbl).trans (hc 0 _ rfl)
        simp only [Nat.add_zero, Nat.mul_one] at c0
        have y1 := box_cellL hb 1 rfl
        have e1 : (0 : Int) ≤ (i : Int) := by omega
        have e2 : (i : Int) < (s.cells.length : Int) := by omega
        have HI := Lib.hid hin
        have HB := Lib.hid hb
        by_cases hx0 : x < 0
        · obtain ⟨j, hj⟩ : ∃ j : Nat, (j : Int) = -1 - x := ⟨(-1 - x).toNat, by omega⟩
          have e5 : IntKind.i64.wrap (-1 - x) = (j : Int) := by rw [IntWalk.i64_in _ (by omega)]; exact hj.symm
          have e5' : -1 - x = (j : Int) := hj.symm
          have e6 : (0 : Int) ≤ (j : Int) := by omega
          have e7 : ¬ (j : Int) < 0 := by omega
          by_cases hji : j ≤ i
          · obtain ⟨y, hy⟩ : ∃ y, s.cells[j]? = some y := ⟨_, List.getElem?_eq_getElem (by omega)⟩
            obtain ⟨b', o', hA', -, -, cs, ⟨rfl, -⟩, hc2⟩ := RSl.at H.out hy
            simp only [Option.some.injEq, Addr.mk.injEq, and_true] at hA'
            obtain ⟨rfl, rfl⟩ := hA'
            have c1 := ((box_below hb).cell (p := ⟨b, o + j * 1 + 0, none⟩) hbl).trans (hc2 0 _ rfl)
            simp only [Nat.add_zero, Nat.mul_one] at c1
            have e8 : ¬ (i : Int) < (j : Int) := by omega
            have e9 : (j : Int) < (s.cells.length : Int) := by omega
            by_cases hyx : y = x
            · subst hyx
              have HV := Lib.hid (show ∀ k, k < i + 1 → validAt s k from fun k hk => by
                by_cases e : k = i
                · subst e
                  intro c hc _
                  rw [hx] at hc
                  injection hc with hc
                  subst hc
                  exact ⟨j, hj, hji, hy⟩
                · exact hV k (by omega))
              clear hV hc hc2 hx hy hb hj hin hok hji
              go_wp2
              exact ⟨⟨i + 1, by go_num, HI.out, HV.out, HB.out⟩, by simp [intOf]; have := HI.out; omega⟩
            · have HF := Lib.hid (show R = false by
                rw [← HR.out]
                exact decide_eq_false (fun h => by
                  obtain ⟨j', h1, _, h3⟩ := h.2 i hin x hx hx0
                  have : j' = j := by omega
                  subst this
                  rw [hy] at h3
                  exact hyx (Option.some.inj h3)))
              clear hV hc hc2 hx hy hb hj hin hok hji
              go_wp2
              go_ret
              exact ⟨by rw [HF.out]; rfl, box_below HB.out⟩
          · have e8 : (i : Int) < (j : Int) := by omega
            have HF := Lib.hid (show R = false by
              rw [← HR.out]
              exact decide_eq_false (fun h => by
                obtain ⟨j', h1, h2, _⟩ := h.2 i hin x hx hx0
                omega))
            clear hV hc hx hb hj hin hok hji
            go_wp2
            go_ret
            exact ⟨by rw [HF.out]; rfl, box_below HB.out⟩
        · have HV := Lib.hid (show ∀ k, k < i + 1 → validAt s k from fun k hk => by
            by_cases e : k = i
            · subst e
              intro c hc h0
              rw [hx] at hc
              injection hc with hc
              omega
            · exact hV k (by omega))
          clear hV hc hx hb hin hok
          go_wp2
          exact ⟨⟨i + 1, by go_num, HI.out, HV.out, HB.out⟩, by simp [intOf]; have := HI.out; omega⟩
      · obtain rfl : i = s.cells.length := by omega
        have HF := Lib.hid (show R = true by rw [← HR.out]; exact decide_eq_true ⟨by omega, hV⟩)
        have HB := Lib.hid hb
        clear hV hb hin
        go_wp2
        go_ret
        exact ⟨by rw [HF.out]; rfl, box_below HB.out⟩
end Go.Proofs.Ytonkbjdeaneicaa
