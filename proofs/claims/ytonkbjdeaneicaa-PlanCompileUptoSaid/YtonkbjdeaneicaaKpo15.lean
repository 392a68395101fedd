/- When a plan is well formed, as the program looks at it; alpha.Valid. What a node says of its pattern, place by place. No program in sight. The reference's small functions: pattern, slots, first, equalInts, equalShape. -/
import Derived.Test.YtonkbjdeaneicaaKpo02
import Derived.Test.YtonkbjdeaneicaaKpo03
import Derived.Test.YtonkbjdeaneicaaKpo09
import Derived.Deep.Cut
namespace Go.Proofs.Ytonkbjdeaneicaa.Pln
open Classical

/-- A shape that a pattern can have: place i. -/
def validAt (s : Shp) (i : Nat) : Prop := ∀ c, s.cells[i]? = some c → c < 0 → ∃ j : Nat, (j : Int) = -1 - c ∧ j ≤ i ∧ s.cells[j]? = some c
def validS (s : Shp) : Prop := 0 ≤ s.pred ∧ ∀ i, i < s.cells.length → validAt s i
/-- The shapes: each valid, of at most 8 places, none twice. -/
def shapeAt (al : List Shp) (i : Nat) : Prop := ∀ s, al[i]? = some s → validS s ∧ s.cells.length ≤ 8 ∧ ∀ k, k < i → al[k]? ≠ some s
/-- The nodes need the shapes in their order: the next new one behind the first nodes. -/
noncomputable def needF (m : Nat) (x : Option Nat) (n : Nd) : Option Nat := match x with
  | none => none
  | some q => if n.kind = 1 ∨ n.kind = 3 then (if 0 ≤ n.alpha ∧ n.alpha ≤ (q : Int) ∧ n.alpha < (m : Int) then (if n.alpha = (q : Int) then some (q + 1) else some q) else none) else some q
noncomputable def needs (m : Nat) (ns : List Nd) : Option Nat := ns.foldl (needF m) (some 0)
def shapesP (al : List Shp) (ns : List Nd) : Prop := (∀ i, i < al.length → shapeAt al i) ∧ needs al.length ns = some al.length
theorem needs_none (m : Nat) (ns : List Nd) : ns.foldl (needF m) none = none := by
  induction ns with
  | nil => rfl
  | cons n r ih => exact ih
theorem needs_take {m : Nat} {ns : List Nd} {k : Nat} {n : Nd} (h : ns[k]? = some n) : needs m (ns.take (k + 1)) = needF m (needs m (ns.take k)) n := by
  unfold needs
  rw [List.take_add_one, h, List.foldl_append]
  rfl
theorem needs_stop {m : Nat} {ns : List Nd} {k : Nat} (h : needs m (ns.take k) = none) : needs m ns = none := by
  unfold needs at h ⊢
  rw [← List.take_append_drop k ns, List.foldl_append, h, needs_none]
theorem needs_le (m : Nat) : ∀ (ns : List Nd) (q q' : Nat), ns.foldl (needF m) (some q) = some q' → q' ≤ q + ns.length
  | [], q, q', h => by
    simp only [List.foldl_nil, Option.some.injEq] at h
    subst h
    exact Nat.le_refl _
  | n :: r, q, q', h => by
    rw [List.foldl_cons] at h
    cases hx : needF m (some q) n with
    | none => rw [hx, needs_none] at h; cases h
    | some a =>
      rw [hx] at h
      have h1 := needs_le m r a q' h
      have h2 : a ≤ q + 1 := by
        unfold needF at hx
        simp only at hx
        split at hx
        · split at hx
          · split at hx
            · injection hx with hx; omega
            · injection hx with hx; omega
          · cases hx
        · injection hx with hx; omega
      simp only [List.length_cons]
      omega
end Go.Proofs.Ytonkbjdeaneicaa.Pln
namespace Go.Proofs.Ytonkbjdeaneicaa
open Go.RowKit Pln Classical Go.Maps

theorem box_cellL {w wr : World} {cs : Array Value} {T : TypeId} (hb : Below (w.heap.size + 1) (w.alloc (.cells cs T)) wr) (j : Nat) {u : Value} (hu : cs.toList[j]? = some u) : wr.cell? ⟨w.heap.size, j, none⟩ = some u :=
  box_cell hb j u (by rw [← Array.getElem?_toList]; exact hu)

set_option maxRecDepth 200000 in
set_option maxHeartbeats 4000000 in
theorem validW {F : Nat → Prop} (s : Shp) (v : Value) (W : World) (h : RSl F W 1 EInt v s.cells) :
    Calls Try.prog 62 #[.agg #[.int .i64 s.pred, v]] W fun e W' => e = .returned (.bool (decide (validS s))) ∧ Below W.heap.size W W' := by
  obtain ⟨A, c, rfl⟩ := h.form
  have hm := h.len
  unfold maxLen at hm
  have H := Lib.hid h
  clear h
  obtain ⟨R, hR⟩ : ∃ R, decide (validS s) = R := ⟨_, rfl⟩
  rw [hR]
  have HR := Lib.hid hR
  clear hR
  go_enter Try.func62, Try.ntmps62
  by_cases h0 : s.pred < 0
  · have HF := Lib.hid (show R = false by rw [← HR.out]; exact decide_eq_false (fun h => by have := h.1; omega))
    go_wp2
    go_ret
    exact ⟨by rw [HF.out]; rfl, (Below.refl _ _).alloc (Nat.le_refl _) _⟩
  · go_wp2
    go_loopw [12] (fun iv wr => ∃ i : Nat, iv = .int .i64 i ∧ i ≤ s.cells.length ∧ (∀ k, k < i → validAt s k) ∧ Below (W.heap.size + 1) (W.alloc (.cells #[.int .i64 s.pred, .slice A s.cells.length c] 79)) wr) (fun i _ => s.cells.length - (intOf i).toNat)
    case atStart => exact ⟨0, rfl, Nat.zero_le _, fun k hk => by omega, Below.refl _ _⟩
    case round =>
      obtain ⟨i, rfl, hi, hV, hb⟩ := hrel
      by_cases hin : i < s.cells.length
      · obtain ⟨x, hx⟩ : ∃ x, s.cells[i]? = some x := ⟨_, List.getElem?_eq_getElem hin⟩
        obtain ⟨b, o, rfl, -, hbl, cs, ⟨rfl, hok⟩, hc⟩ := RSl.at H.out hx
        have hlo := hok.lo
        have c0 := ((box_below hb).cell (p := ⟨b, o + i * 1 + 0, none⟩) hbl).trans (hc 0 _ rfl)
        simp only [Nat.add_zero, Nat.mul_one] at c0
        have y1 := box_cellL hb 1 rfl
        have e1 : (0 : Int) ≤ (i : Int) := by omega
        have e2 : (i : Int) < (s.cells.length : Int) := by omega
        have HI := Lib.hid hin
        have HB := Lib.hid hb
        by_cases hx0 : x < 0
        · obtain ⟨j, hj⟩ : ∃ j : Nat, (j : Int) = -1 - x := ⟨(-1 - x).toNat, by omega⟩
          have e5 : IntKind.i64.wrap (-1 - x) = (j : Int) := by rw [IntWalk.i64_in _ (by omega)]; exact hj.symm
          have e5' : -1 - x = (j : Int) := hj.symm
          have e6 : (0 : Int) ≤ (j : Int) := by omega
          have e7 : ¬ (j : Int) < 0 := by omega
          by_cases hji : j ≤ i
          · obtain ⟨y, hy⟩ : ∃ y, s.cells[j]? = some y := ⟨_, List.getElem?_eq_getElem (by omega)⟩
            obtain ⟨b', o', hA', -, -, cs, ⟨rfl, -⟩, hc2⟩ := RSl.at H.out hy
            simp only [Option.some.injEq, Addr.mk.injEq, and_true] at hA'
            obtain ⟨rfl, rfl⟩ := hA'
            have c1 := ((box_below hb).cell (p := ⟨b, o + j * 1 + 0, none⟩) hbl).trans (hc2 0 _ rfl)
            simp only [Nat.add_zero, Nat.mul_one] at c1
            have e8 : ¬ (i : Int) < (j : Int) := by omega
            have e9 : (j : Int) < (s.cells.length : Int) := by omega
            by_cases hyx : y = x
            · subst hyx
              have HV := Lib.hid (show ∀ k, k < i + 1 → validAt s k from fun k hk => by
                by_cases e : k = i
                · subst e
                  intro c hc _
                  rw [hx] at hc
                  injection hc with hc
                  subst hc
                  exact ⟨j, hj, hji, hy⟩
                · exact hV k (by omega))
              clear hV hc hc2 hx hy hb hj hin hok hji
              go_wp2
              exact ⟨⟨i + 1, by go_num, HI.out, HV.out, HB.out⟩, by simp [intOf]; have := HI.out; omega⟩
            · have HF := Lib.hid (show R = false by
                rw [← HR.out]
                exact decide_eq_false (fun h => by
                  obtain ⟨j', h1, _, h3⟩ := h.2 i hin x hx hx0
                  have : j' = j := by omega
                  subst this
                  rw [hy] at h3
                  exact hyx (Option.some.inj h3)))
              clear hV hc hc2 hx hy hb hj hin hok hji
              go_wp2
              go_ret
              exact ⟨by rw [HF.out]; rfl, box_below HB.out⟩
          · have e8 : (i : Int) < (j : Int) := by omega
            have HF := Lib.hid (show R = false by
              rw [← HR.out]
              exact decide_eq_false (fun h => by
                obtain ⟨j', h1, h2, _⟩ := h.2 i hin x hx hx0
                omega))
            clear hV hc hx hb hj hin hok hji
            go_wp2
            go_ret
            exact ⟨by rw [HF.out]; rfl, box_below HB.out⟩
        · have HV := Lib.hid (show ∀ k, k < i + 1 → validAt s k from fun k hk => by
            by_cases e : k = i
            · subst e
              intro c hc h0
              rw [hx] at hc
              injection hc with hc
              omega
            · exact hV k (by omega))
          clear hV hc hx hb hin hok
          go_wp2
          exact ⟨⟨i + 1, by go_num, HI.out, HV.out, HB.out⟩, by simp [intOf]; have := HI.out; omega⟩
      · obtain rfl : i = s.cells.length := by omega
        have HF := Lib.hid (show R = true by rw [← HR.out]; exact decide_eq_true ⟨by omega, hV⟩)
        have HB := Lib.hid hb
        clear hV hb hin
        go_wp2
        go_ret
        exact ⟨by rw [HF.out]; rfl, box_below HB.out⟩
end Go.Proofs.Ytonkbjdeaneicaa

namespace Go.Proofs.Ytonkbjdeaneicaa.Pln
open Classical

theorem linksK_pre (args : List Slt) (w : Int) (i : Nat) : ∀ d, ∃ r, linksK args w (i + d) = linksK args w i ++ r
  | 0 => ⟨[], by simp⟩
  | d + 1 => by
    obtain ⟨r, h⟩ := linksK_pre args w i d
    exact ⟨r ++ linkAt args w (i + d), by rw [← Nat.add_assoc, linksK_succ, h, List.append_assoc]⟩
theorem newK_pre (args : List Slt) (w : Int) (i : Nat) : ∀ d, ∃ r, newK args w (i + d) = newK args w i ++ r
  | 0 => ⟨[], by simp⟩
  | d + 1 => by
    obtain ⟨r, h⟩ := newK_pre args w i d
    exact ⟨r ++ newAt args w (i + d), by rw [← Nat.add_assoc, newK_succ, h, List.append_assoc]⟩
theorem linksK_at {args : List Slt} {w : Int} {i k : Nat} {x : Int × Int} (h : linkAt args w i = [x]) (hk : i < k) : (linksK args w k)[(linksK args w i).length]? = some x := by
  obtain ⟨r, hr⟩ := linksK_pre args w (i + 1) (k - (i + 1))
  rw [show i + 1 + (k - (i + 1)) = k by omega, linksK_succ, h, List.append_assoc] at hr
  rw [hr, List.getElem?_append_right (Nat.le_refl _), Nat.sub_self]
  rfl
theorem newK_at {args : List Slt} {w : Int} {i k : Nat} {x : Int} (h : newAt args w i = [x]) (hk : i < k) : (newK args w k)[(newK args w i).length]? = some x := by
  obtain ⟨r, hr⟩ := newK_pre args w (i + 1) (k - (i + 1))
  rw [show i + 1 + (k - (i + 1)) = k by omega, newK_succ, h, List.append_assoc] at hr
  rw [hr, List.getElem?_append_right (Nat.le_refl _), Nat.sub_self]
  rfl
theorem linkAt_one (args : List Slt) (w : Int) (i : Nat) : (linkAt args w i).length ≤ 1 := by
  unfold linkAt
  split
  · split <;> simp
  · simp
theorem newAt_one (args : List Slt) (w : Int) (i : Nat) : (newAt args w i).length ≤ 1 := by
  unfold newAt
  split
  · split <;> simp
  · simp
theorem linksK_le (args : List Slt) (w : Int) : ∀ k, (linksK args w k).length ≤ k
  | 0 => by simp [linksK_zero]
  | k + 1 => by
    rw [linksK_succ, List.length_append]
    have h1 := linksK_le args w k
    have h2 := linkAt_one args w k
    omega
theorem newK_le (args : List Slt) (w : Int) : ∀ k, (newK args w k).length ≤ k
  | 0 => by simp [newK_zero]
  | k + 1 => by
    rw [newK_succ, List.length_append]
    have h1 := newK_le args w k
    have h2 := newAt_one args w k
    omega
section
variable {args : List Slt} {w : Nat} {i : Nat} {s : Slt}
/-- A constant's place. -/
theorem place_const (h : args[i]? = some s) (hv : s.v = false) : cellF args s = s.n ∧ linkAt args w i = [] ∧ newAt args w i = [] := by
  refine ⟨by unfold cellF; rw [hv]; rfl, ?_, ?_⟩
  · unfold linkAt; simp only [h]; rw [if_neg (by rw [hv]; intro h; exact absurd h.1 (by decide))]
  · unfold newAt; simp only [h]; rw [if_neg (by rw [hv]; intro h; exact absurd h.1 (by decide))]
/-- A variable's place. -/
theorem place_var (h : args[i]? = some s) (hv : s.v = true) : cellF args s = -1 - (firstV args s.n : Int) ∧ firstV args s.n ≤ i ∧ args[firstV args s.n]? = some s := by
  have hle := firstV_le h hv
  refine ⟨by unfold cellF; rw [hv]; rfl, hle, ?_⟩
  rw [firstV_at (Nat.lt_of_le_of_lt hle (List.getElem?_eq_some_iff.1 h).1), ← slt_var hv]
theorem place_again (h : args[i]? = some s) (hj : firstV args s.n < i) : linkAt args w i = [] ∧ newAt args w i = [] := by
  refine ⟨?_, ?_⟩
  · unfold linkAt; simp only [h]; rw [if_neg (by intro h; have := h.2.1; omega)]
  · unfold newAt; simp only [h]; rw [if_neg (by intro h; have := h.2.1; omega)]
theorem place_first (h : args[i]? = some s) (hv : s.v = true) (hj : firstV args s.n = i) : ∀ k, k < i → ∀ t, args[k]? = some t → t ≠ s := by
  intro k hk t ht e
  subst e
  refine firstV_first k (by rw [hj]; exact hk) ?_
  rw [ht]
  exact congrArg some (slt_var hv)
theorem place_link (h : args[i]? = some s) (hv : s.v = true) (hj : firstV args s.n = i) (hw : s.n < (w : Int)) : linkAt args w i = [((i : Int), s.n)] ∧ newAt args w i = [] := by
  refine ⟨?_, ?_⟩
  · unfold linkAt; simp only [h]; rw [if_pos ⟨hv, hj, hw⟩]
  · unfold newAt; simp only [h]; rw [if_neg (by intro h; exact h.2.2 hw)]
theorem place_new (ok : okA args w) (h : args[i]? = some s) (hv : s.v = true) (hj : firstV args s.n = i) (hw : ¬ s.n < (w : Int)) : linkAt args w i = [] ∧ newAt args w i = [(i : Int)] ∧ s.n = (w : Int) + (newK args w i).length := by
  refine ⟨?_, ?_, ?_⟩
  · unfold linkAt; simp only [h]; rw [if_neg (by intro h; exact hw h.2.2)]
  · unfold newAt; simp only [h]; rw [if_pos ⟨hv, hj, hw⟩]
  · rw [fresh_at ok h hv hj hw]
    have := new_count ok i (Nat.le_of_lt (List.getElem?_eq_some_iff.1 h).1)
    omega
end
end Go.Proofs.Ytonkbjdeaneicaa.Pln

namespace Go.Proofs.Ytonkbjdeaneicaa
open Go.RowKit Pln Classical Go.Maps

set_option maxRecDepth 100000 in
theorem requalIntsW {F G : Nat → Prop} (va vb : Value) (xs ys : List Int) (w : World) (ha : RSl F w 1 EInt va xs) (hb : RSl G w 1 EInt vb ys) :
    Calls Try.prog 33 #[va, vb] w fun e w' => e = .returned (.bool (eqB xs ys)) ∧ Below w.heap.size w w' := by
  obtain ⟨A, ca, rfl⟩ := ha.form
  obtain ⟨B, cb, rfl⟩ := hb.form
  have hm := ha.len
  have hm2 := hb.len
  unfold maxLen at hm hm2
  have HA := Lib.hid ha
  have HB := Lib.hid hb
  clear ha hb
  by_cases hl : xs.length = ys.length
  · have HL := Lib.hid hl
    have hl2 : ((xs.length : Int) != (ys.length : Int)) = false := by simp; omega
    clear hl
    go_enter Try.func33, Try.ntmps33
    go_wp2
    go_loopw [5] (fun i wr => ∃ k : Nat, i = .int .i64 k ∧ k ≤ xs.length ∧ (∀ i, i < k → xs[i]? = ys[i]?) ∧ Below w.heap.size w wr) (fun i _ => xs.length - (intOf i).toNat)
    case atStart => exact ⟨0, rfl, Nat.zero_le _, fun i h => by omega, Below.refl _ _⟩
    case round =>
      obtain ⟨k, rfl, hk, hq, hbl⟩ := hrel
      by_cases hkn : k < xs.length
      · obtain ⟨x, hx⟩ : ∃ x, xs[k]? = some x := ⟨_, List.getElem?_eq_getElem hkn⟩
        obtain ⟨y, hy⟩ : ∃ y, ys[k]? = some y := ⟨_, List.getElem?_eq_getElem (by have := HL.out; omega)⟩
        obtain ⟨b1, o1, rfl, _, _, cs1, ⟨rfl, _⟩, hc1⟩ := (HA.out.keep (Kp.of_below hbl)).at hx
        obtain ⟨b2, o2, rfl, _, _, cs2, ⟨rfl, _⟩, hc2⟩ := (HB.out.keep (Kp.of_below hbl)).at hy
        have d1 := hc1 0 _ rfl
        have d2 := hc2 0 _ rfl
        simp only [Nat.add_zero, Nat.mul_one] at d1 d2
        have e1 : (0 : Int) ≤ (k : Int) := by omega
        have e2 : (k : Int) < (xs.length : Int) := by omega
        have e3 : (k : Int) < (ys.length : Int) := by have := HL.out; omega
        have HX := Lib.hid hx
        have HY := Lib.hid hy
        have HQ := Lib.hid hq
        have HK := Lib.hid hkn
        have HBL := Lib.hid hbl
        clear hc1 hc2 hx hy hq hkn hbl
        by_cases hxy : x = y
        · subst hxy
          have hne : (x != x) = false := by simp
          have HQ2 := Lib.hid (show ∀ i, i < k + 1 → xs[i]? = ys[i]? from fun i hi => by
            rcases Nat.lt_or_ge i k with h1 | h1
            · exact HQ.out i h1
            · rw [show i = k by omega, HX.out, HY.out])
          go_wp2
          go_quiet (fail)
          have HB2 := Lib.hid (drewN_below HBL.out nq)
          go_wp2
          exact ⟨⟨k + 1, by go_num, HK.out, HQ2.out, HB2.out⟩, by simp [intOf]; have := HK.out; omega⟩
        · have hne : (x != y) = true := by simpa using hxy
          have HF := Lib.hid (eqB_ne (xs := xs) (ys := ys) (fun e => hxy (by
            have h1 := HX.out
            rw [e, HY.out] at h1
            exact (Option.some.inj h1).symm)))
          clear hxy
          go_wp2
          go_quiet (fail)
          have HB2 := Lib.hid (drewN_below HBL.out nq)
          go_wp2
          go_ret
          exact ⟨ret_bool HF.out.symm, HB2.out⟩
      · obtain rfl : k = xs.length := by omega
        have HF := Lib.hid (eqB_eq (list_eq HL.out hq))
        clear hq
        go_wp2
        go_ret
        exact ⟨ret_bool HF.out.symm, hbl⟩
  · have HF := Lib.hid (eqB_ne (xs := xs) (ys := ys) (fun e => hl (by rw [e])))
    have hl2 : ((xs.length : Int) != (ys.length : Int)) = true := by simp; omega
    clear hl
    go_enter Try.func33, Try.ntmps33
    go_wp2
    go_ret
    exact ⟨ret_bool HF.out.symm, Below.refl _ _⟩

set_option maxRecDepth 100000 in
theorem rpatternW {F : Nat → Prop} (p : Pat) (v : Value) (w : World) (h : RSl F w 2 ESlt v p.args) :
    Calls Try.prog 45 #[.agg #[.int .i64 p.pred, v]] w fun e w' => e = .returned (.bool (decide (0 ≤ p.pred ∧ p.args.length ≤ 8))) ∧ Below w.heap.size w w' := by
  obtain ⟨A, c, rfl⟩ := h.form
  clear h
  obtain ⟨R, hR⟩ : ∃ R, decide (0 ≤ p.pred ∧ p.args.length ≤ 8) = R := ⟨_, rfl⟩
  rw [hR]
  have HR := Lib.hid hR
  clear hR
  go_enter Try.func45, Try.ntmps45
  by_cases h1 : 0 ≤ p.pred
  · by_cases h2 : p.args.length ≤ 8
    · have e1 : (p.args.length : Int) ≤ 8 := by omega
      have HF := Lib.hid (show R = true by rw [← HR.out]; exact decide_eq_true ⟨h1, h2⟩)
      go_wp2
      go_ret
      exact ⟨by rw [HF.out]; rfl, (Below.refl _ _).alloc (Nat.le_refl _) _⟩
    · have e1 : ¬ (p.args.length : Int) ≤ 8 := by omega
      have HF := Lib.hid (show R = false by rw [← HR.out]; exact decide_eq_false (fun h => h2 h.2))
      go_wp2
      go_ret
      exact ⟨by rw [HF.out]; rfl, (Below.refl _ _).alloc (Nat.le_refl _) _⟩
  · have HF := Lib.hid (show R = false by rw [← HR.out]; exact decide_eq_false (fun h => h1 h.1))
    go_wp2
    go_ret
    exact ⟨by rw [HF.out]; rfl, (Below.refl _ _).alloc (Nat.le_refl _) _⟩

set_option maxRecDepth 100000 in
set_option maxHeartbeats 4000000 in
theorem rslotsW {F : Nat → Prop} (xs : List Slt) (v : Value) (wd : Nat) (w : World) (h : RSl F w 2 ESlt v xs) :
    Calls Try.prog 46 #[v, .int .i64 (wd : Int)] w fun e w' => e = .returned (.bool (decide (∀ s ∈ xs, belowP wd s))) ∧ Below w.heap.size w w' := by
  obtain ⟨A, c, rfl⟩ := h.form
  have hm := h.len
  unfold maxLen at hm
  have H := Lib.hid h
  clear h
  obtain ⟨R, hR⟩ : ∃ R, decide (∀ s ∈ xs, belowP wd s) = R := ⟨_, rfl⟩
  rw [hR]
  have HR := Lib.hid hR
  clear hR
  go_enter Try.func46, Try.ntmps46
  go_wp2
  go_loopw [5] (fun i wr => ∃ k : Nat, i = .int .i64 k ∧ k ≤ xs.length ∧ (∀ s ∈ xs.take k, belowP wd s) ∧ wr = w) (fun i _ => xs.length - (intOf i).toNat)
  case atStart => exact ⟨0, rfl, Nat.zero_le _, by simp, rfl⟩
  case round =>
    obtain ⟨k, rfl, hk, hq, rfl⟩ := hrel
    by_cases hkn : k < xs.length
    · obtain ⟨s, hs⟩ : ∃ s, xs[k]? = some s := ⟨_, List.getElem?_eq_getElem hkn⟩
      obtain ⟨b, o, rfl, -, -, cs, ⟨rfl, -⟩, hc⟩ := RSl.at H.out hs
      have d0 := hc 0 _ rfl
      have d1 := hc 1 _ rfl
      simp only [Nat.add_zero] at d0
      have e1 : (0 : Int) ≤ (k : Int) := by omega
      have e2 : (k : Int) < (xs.length : Int) := by omega
      have HK := Lib.hid hkn
      have YES := Lib.hid (show belowP wd s → ∀ t ∈ xs.take (k + 1), belowP wd t from fun h t ht => by
        rw [List.take_add_one, hs] at ht
        rcases List.mem_append.1 ht with ht | ht
        · exact hq t ht
        · simp at ht; rw [ht]; exact h)
      have NO := Lib.hid (show ¬ belowP wd s → R = false from fun h => by
        rw [← HR.out]
        exact decide_eq_false (fun h2 => h (h2 s (List.mem_of_getElem? hs))))
      clear hc hs hq hkn
      obtain ⟨sv, sn⟩ := s
      simp only at d0 d1
      by_cases h0 : sn < 0
      · have HF := Lib.hid (NO.out (fun h => by have := h.1; simp only at this; omega))
        go_wp2
        go_ret
        exact ⟨by rw [HF.out]; rfl, Below.refl _ _⟩
      · cases sv with
        | false =>
          have HY := Lib.hid (YES.out ⟨by simp only; omega, fun h => by cases h⟩)
          go_wp2
          exact ⟨⟨k + 1, by go_num, HK.out, HY.out, trivial⟩, by simp [intOf]; have := HK.out; omega⟩
        | true =>
          by_cases h1 : sn < (wd : Int)
          · have e3 : ¬ (wd : Int) ≤ sn := by omega
            have HY := Lib.hid (YES.out ⟨by simp only; omega, fun _ => h1⟩)
            go_wp2
            exact ⟨⟨k + 1, by go_num, HK.out, HY.out, trivial⟩, by simp [intOf]; have := HK.out; omega⟩
          · have e3 : (wd : Int) ≤ sn := by omega
            have HF := Lib.hid (NO.out (fun h => h1 (h.2 rfl)))
            go_wp2
            go_ret
            exact ⟨by rw [HF.out]; rfl, Below.refl _ _⟩
    · obtain rfl : k = xs.length := by omega
      rw [List.take_length] at hq
      have HF := Lib.hid (show R = true by rw [← HR.out]; exact decide_eq_true hq)
      clear hq hkn
      go_wp2
      go_ret
      exact ⟨by rw [HF.out]; rfl, Below.refl _ _⟩

set_option maxRecDepth 100000 in
set_option maxHeartbeats 4000000 in
theorem rfirstW {F : Nat → Prop} (p : Pat) (v : Value) (n : Int) (w : World) (h : RSl F w 2 ESlt v p.args) (hf : firstV p.args n < p.args.length) :
    Calls Try.prog 48 #[.agg #[.int .i64 p.pred, v], .int .i64 n] w fun e w' => e = .returned (.int .i64 (firstV p.args n : Nat)) ∧ Below w.heap.size w w' := by
  obtain ⟨A, c, rfl⟩ := h.form
  have hm := h.len
  unfold maxLen at hm
  have H := Lib.hid h
  have hat := firstV_at hf
  have hno := firstV_first (args := p.args) (n := n)
  obtain ⟨q, hq⟩ : ∃ q, firstV p.args n = q := ⟨_, rfl⟩
  rw [hq] at hf hat hno ⊢
  have HA := Lib.hid hat
  have HNO := Lib.hid hno
  clear h hq hat hno
  go_enter Try.func48, Try.ntmps48
  go_wp2
  go_loopw [5] (fun i wr => ∃ k : Nat, i = .int .i64 k ∧ k ≤ q ∧ Below (w.heap.size + 1) (w.alloc (.cells #[.int .i64 p.pred, .slice A p.args.length c] 34)) wr) (fun i _ => q - (intOf i).toNat)
  case atStart => exact ⟨0, rfl, Nat.zero_le _, Below.refl _ _⟩
  case round =>
    obtain ⟨k, rfl, hk, hb⟩ := hrel
    obtain ⟨s, hs⟩ : ∃ s, p.args[k]? = some s := ⟨_, List.getElem?_eq_getElem (by omega)⟩
    obtain ⟨b, o, rfl, -, hbl, cs, ⟨rfl, -⟩, hc⟩ := RSl.at H.out hs
    have d0 := ((box_below hb).cell (p := ⟨b, o + k * 2 + 0, none⟩) hbl).trans (hc 0 _ rfl)
    have d1 := ((box_below hb).cell (p := ⟨b, o + k * 2 + 1, none⟩) hbl).trans (hc 1 _ rfl)
    simp only [Nat.add_zero] at d0
    have y1 := box_cellL hb 1 rfl
    have e1 : (0 : Int) ≤ (k : Int) := by omega
    have e2 : (k : Int) < (p.args.length : Int) := by omega
    have HB := Lib.hid hb
    have HS := Lib.hid hs
    clear hc hs hb
    by_cases hkq : k < q
    · have hne := HNO.out k hkq
      rw [HS.out] at hne
      obtain ⟨sv, sn⟩ := s
      simp only at d0 d1
      cases sv with
      | false =>
        clear hne
        go_wp2
        exact ⟨⟨k + 1, by go_num, hkq, HB.out⟩, by simp [intOf]; omega⟩
      | true =>
        have hsn : ¬ sn = n := fun h => hne (by rw [h])
        have hsn2 : (sn == n) = false := by simpa using hsn
        clear hne
        go_wp2
        exact ⟨⟨k + 1, by go_num, hkq, HB.out⟩, by simp [intOf]; omega⟩
    · obtain rfl : k = q := by omega
      have hs2 := HS.out
      rw [HA.out] at hs2
      have hs3 := Option.some.inj hs2
      subst hs3
      simp only at d0 d1
      clear hs2 hkq
      go_wp2
      go_ret
      exact ⟨rfl, box_below HB.out⟩

set_option maxRecDepth 100000 in
set_option maxHeartbeats 4000000 in
theorem requalShapeW {F G : Nat → Prop} (a b : Shp) (va vb : Value) (w : World) (ha : RSl F w 1 EInt va a.cells) (hb : RSl G w 1 EInt vb b.cells) :
    Calls Try.prog 34 #[.agg #[.int .i64 a.pred, va], .agg #[.int .i64 b.pred, vb]] w fun e w' => e = .returned (.bool (decide (a = b))) ∧ Below w.heap.size w w' := by
  have b2 : Below w.heap.size w ((w.alloc (.cells #[.int .i64 a.pred, va] 79)).alloc (.cells #[.int .i64 b.pred, vb] 79)) := ((Below.refl _ _).alloc (Nat.le_refl _) _).alloc (by simp) _
  have EQ := Lib.hid (requalIntsW va vb a.cells b.cells _ (ha.keep (Kp.of_below b2)) (hb.keep (Kp.of_below b2)))
  have HB2 := Lib.hid b2
  obtain ⟨A, ca, rfl⟩ := ha.form
  obtain ⟨B, cb, rfl⟩ := hb.form
  clear ha hb b2
  obtain ⟨R, hR⟩ : ∃ R, decide (a = b) = R := ⟨_, rfl⟩
  rw [hR]
  have HR := Lib.hid hR
  clear hR
  go_enter Try.func34, Try.ntmps34
  by_cases hp : a.pred = b.pred
  · have HF := Lib.hid (show R = eqB a.cells b.cells from by
      rw [← HR.out]
      obtain ⟨ap, ac⟩ := a
      obtain ⟨bp, bc⟩ := b
      simp only at hp
      subst hp
      unfold eqB
      exact decide_eq_decide.2 (by simp))
    have hpd : (a.pred == b.pred) = true := by simp [hp]
    clear hp
    go_wp2_with fail
    refine EQ.out.mono ?_
    rintro e w2 ⟨rfl, hb2⟩
    have HB := Lib.hid (HB2.out.trans (hb2.mono HB2.out.size))
    clear hb2 EQ
    go_wp2
    go_ret
    exact ⟨by rw [HF.out]; rfl, HB.out⟩
  · have HF := Lib.hid (show R = false by rw [← HR.out]; exact decide_eq_false (fun h => hp (by rw [h])))
    have hp2 : (a.pred == b.pred) = false := by simpa using hp
    go_wp2
    go_ret
    exact ⟨by rw [HF.out]; rfl, HB2.out⟩
end Go.Proofs.Ytonkbjdeaneicaa
