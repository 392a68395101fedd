/- The Agenda laws' own helpers: mod, Same, acts, four. The walks. The Agenda laws' own helpers: acts (the same lists?), made (an act out of any). The walks. The opening of arguments: lists of numbers, lists of acts; how long they may be. -/
import Derived.Test.YtjgigcnjgblekaaDoorKaq03
import Derived.Test.YtjgigcnjgblekaaDoorKaq04
import Derived.Test.YtjgigcnjgblekaaDoorKaq20
namespace Go.Proofs.YtjgigcnjgblekaaDoor
open Go Go.RowKit Go.Maps Classical

theorem tmod_emod {k n : Int} (h : 0 < n) : (if k.tmod n < 0 then k.tmod n + n else k.tmod n) = modZ k n := by
  unfold modZ
  have h1 := Int.tmod_eq_emod (a := k) (b := n)
  have h2 := Int.emod_nonneg k (show n ≠ 0 by omega)
  have h3 := Int.emod_lt_of_pos k h
  have h4 : (n.natAbs : Int) = n := by omega
  split at h1 <;> split <;> omega
set_option maxRecDepth 100000 in
theorem modW (k n : Int) (hn : 0 < n) (hk : i64ok k) (hn2 : n ≤ 4611686018427387904) (w : World) :
    Calls Tryd.prog 11 #[.int .i64 k, .int .i64 n] w fun e w' => e = .returned (.int .i64 (modZ k n)) ∧ w = w' := by
  have ht := tmod_emod (k := k) hn
  obtain ⟨R, hR⟩ : ∃ R, modZ k n = R := ⟨_, rfl⟩
  obtain ⟨r, hr⟩ : ∃ r, k.tmod n = r := ⟨_, rfl⟩
  have hlo := hk.lo
  have b1 : -n < r ∧ r < n := by
    have h1 := Int.tmod_eq_emod (a := k) (b := n)
    have h2 := Int.emod_nonneg k (show n ≠ 0 by omega)
    have h3 := Int.emod_lt_of_pos k hn
    have h4 : (n.natAbs : Int) = n := by omega
    rw [hr] at h1
    split at h1 <;> omega
  rw [hR, hr] at ht
  rw [hR]
  have HT := Lib.hid ht
  have hne : ¬ n = 0 := by omega
  have hw : IntKind.i64.wrap (k.tmod n) = r := by rw [hr, IntKind.wrap_i64]; omega
  clear ht hR
  by_cases h0 : r < 0
  · have HR := Lib.hid (HT.out.symm.trans (if_pos h0))
    go_enter Tryd.func11, Tryd.ntmps11
    go_wp2
    go_ret
    exact ⟨ret_i64A (by rw [HR.out]), rfl⟩
  · have HR := Lib.hid (HT.out.symm.trans (if_neg h0))
    go_enter Tryd.func11, Tryd.ntmps11
    go_wp2
    go_ret
    exact ⟨ret_i64A (by rw [HR.out]), rfl⟩
theorem fourW (w : World) : Calls Tryd.prog 8 #[] w (fun e w' => ∃ v, e = .returned v ∧ RSl (fun b => w.heap.size ≤ b) w' 3 ECst v [⟨2, 0, ⟨#[98]⟩⟩, ⟨2, 0, ⟨#[97]⟩⟩, ⟨1, 9, ⟨#[]⟩⟩, ⟨3, 0, ⟨#[]⟩⟩] ∧ Below w.heap.size w w') := by
  go_enter Tryd.func8, Tryd.ntmps8
  go_wp2
  go_ret
  refine ⟨_, rfl, RSl.of_cst (B := w.heap.size) ⟨by simp [cstVs], .inr ⟨w.heap.size, 4, _, rfl, Nat.le_refl _, heap_alloc_new w _, by simp, by unfold maxLen; decide, by simp, by simp [cstVs]⟩⟩ (fun b hb => ?_), (Below.refl _ _).alloc (Nat.le_refl _) _⟩
  have : w.heap.size = b := by simpa [Value.ownBlock] using hb
  omega
set_option maxRecDepth 100000 in
set_option maxHeartbeats 4000000 in
theorem sameW {F F' : Nat → Prop} (a : Ac) (v1 v2 : Value) (w : World) (h1 : RSl F w 1 EInt v1 a.sub) (h2 : RSl F' w 1 EInt v2 a.sub) :
    Calls Tryd.prog 35 #[.agg #[.int .i64 a.rule, v1], .agg #[.int .i64 a.rule, v2]] w fun e w' => e = .returned (.bool true) ∧ Below w.heap.size w w' := by
  obtain ⟨A1, c1, rfl⟩ := h1.form
  obtain ⟨A2, c2, rfl⟩ := h2.form
  have hm := h1.len
  unfold maxLen at hm
  obtain ⟨w0, hw0⟩ : ∃ w0, w0 = (w.alloc (.cells #[.int .i64 a.rule, .slice A1 a.sub.length c1] 30)).alloc (.cells #[.int .i64 a.rule, .slice A2 a.sub.length c2] 30) := ⟨_, rfl⟩
  have hx0 : Below (w.heap.size + 1) (w.alloc (.cells #[.int .i64 a.rule, .slice A1 a.sub.length c1] 30)) w0 := by rw [hw0]; exact (Below.refl _ _).alloc (by simp) _
  have hsz0 : w0.heap.size = w.heap.size + 1 + 1 := by rw [hw0]; simp
  have hb0 := box_belowD hx0
  have y0 : w0.cell? ⟨w.heap.size + 1, 0, none⟩ = some (.int .i64 a.rule) := by
    rw [hw0]; simp
  have y1 : w0.cell? ⟨w.heap.size + 1, 1, none⟩ = some (.slice A2 a.sub.length c2) := by
    rw [hw0]; simp
  have BX := Lib.hid (fun (W : World) (hW : Below w0.heap.size w0 W) => (show W.cell? ⟨w.heap.size, 0, none⟩ = some (.int .i64 a.rule) ∧ W.cell? ⟨w.heap.size, 1, none⟩ = some (.slice A1 a.sub.length c1) ∧ W.cell? ⟨w.heap.size + 1, 0, none⟩ = some (.int .i64 a.rule) ∧ W.cell? ⟨w.heap.size + 1, 1, none⟩ = some (.slice A2 a.sub.length c2) from
    ⟨(hW.cell (p := ⟨w.heap.size, 0, none⟩) (by show w.heap.size < w0.heap.size; omega)).trans (box_cellD hx0 0 rfl), (hW.cell (p := ⟨w.heap.size, 1, none⟩) (by show w.heap.size < w0.heap.size; omega)).trans (box_cellD hx0 1 rfl),
     (hW.cell (p := ⟨w.heap.size + 1, 0, none⟩) (by show w.heap.size + 1 < w0.heap.size; omega)).trans y0, (hW.cell (p := ⟨w.heap.size + 1, 1, none⟩) (by show w.heap.size + 1 < w0.heap.size; omega)).trans y1⟩))
  have H1 := Lib.hid (h1.keep (Kp.of_below hb0))
  have H2 := Lib.hid (h2.keep (Kp.of_below hb0))
  have HB := Lib.hid hb0
  have E0 := Lib.hid (Below.refl w0.heap.size w0)
  obtain ⟨x0, x1, x2, x3⟩ := BX.out w0 E0.out
  have hee : (a.rule == a.rule) = true := by simp
  have hll : ((a.sub.length : Int) == (a.sub.length : Int)) = true := by simp
  clear h1 h2 hx0 hb0 y0 y1
  go_enter Tryd.func35, Tryd.ntmps35
  go_upto_region 1 with fail
  rw [← hw0]
  clear hw0
  go_wp2
  go_loopw [5] (fun i wr => ∃ k : Nat, i = .int .i64 (k : Int) ∧ k ≤ a.sub.length ∧ Below w0.heap.size w0 wr) (fun i _ => a.sub.length - (intOf i).toNat)
  case atStart => exact ⟨0, rfl, Nat.zero_le _, E0.out⟩
  case round =>
    obtain ⟨k, rfl, hk, hb⟩ := hrel
    obtain ⟨x0, x1, x2, x3⟩ := BX.out wr hb
    have HBW := Lib.hid hb
    by_cases hkn : k < a.sub.length
    · obtain ⟨s, hs⟩ : ∃ s, a.sub[k]? = some s := ⟨_, List.getElem?_eq_getElem hkn⟩
      obtain ⟨b, off, rfl, _, _, cs, ⟨rfl, hok⟩, hc⟩ := (H1.out.keep (Kp.of_below hb)).at hs
      obtain ⟨b', off', rfl, _, _, cs', ⟨rfl, hok'⟩, hc'⟩ := (H2.out.keep (Kp.of_below hb)).at hs
      have d0 := hc 0 _ rfl
      have d1 := hc' 0 _ rfl
      simp only [Nat.add_zero, Nat.mul_one] at d0 d1
      have e1 : (0 : Int) ≤ (k : Int) := by omega
      have e2 : (k : Int) < (a.sub.length : Int) := by omega
      have DN := Lib.hid (fun q => below_drewNA hb q)
      clear hc hc' hs hb hok hok'
      go_wp2_with fail
      go_quiet (fail)
      go_wp2
      exact ⟨⟨k + 1, by go_num, by omega, DN.out _⟩, by simp [intOf]; omega⟩
    · obtain rfl : k = a.sub.length := by omega
      clear hb
      go_wp2
      go_ret
      exact ⟨rfl, HB.out.trans (HBW.out.mono HB.out.size)⟩
end Go.Proofs.YtjgigcnjgblekaaDoor

namespace Go.Proofs.YtjgigcnjgblekaaDoor
open Go Go.RowKit Go.Maps Classical

/-- An act's cells. -/
def EAc (F : Nat → Prop) (w : World) (cs : List Value) (a : Ac) : Prop := ∃ sv, cs = [.int .i64 a.rule, sv] ∧ i64ok a.rule ∧ RSl F w 1 EInt sv a.sub
theorem EAc.kp {F F' : Nat → Prop} {w w' : World} {cs : List Value} {a : Ac} (h : EAc F w cs a) (hk : Kp F w w') (hF : ∀ b, b < w.heap.size → F b → F' b) : EAc F' w' cs a := by
  obtain ⟨sv, h1, h2, h3⟩ := h
  exact ⟨sv, h1, h2, h3.kp hk hF (fun _ _ h => h)⟩
theorem EAc.all {F F' : Nat → Prop} {w w' : World} {n : Nat} {v : Value} {l : List Ac} (h : RSl F w n (EAc F w) v l) (hk : Kp F w w') (hF : ∀ b, b < w.heap.size → F b → F' b) : RSl F' w' n (EAc F' w') v l :=
  h.kp hk hF (fun _ _ hc => hc.kp hk hF)
theorem Zs.rsl {B : Nat} {w : World} {v : Value} {zs : List (Ac × Value)} (h : Zs B w v zs) : RSl (fun b => B ≤ b) w 2 (EAc (fun b => B ≤ b) w) v (zs.map Prod.fst) := by
  refine RSl.of_own h.row (by simp) (fun b hb => (ownBlock_cells h.row hb).1) (fun i a ha => ?_)
  rw [List.getElem?_map, Option.map_eq_some_iff] at ha
  obtain ⟨z, hz, rfl⟩ := ha
  have hm := List.mem_of_getElem? hz
  obtain ⟨h1, h2⟩ := h.sub z hm
  refine ⟨_, ⟨z.2, rfl, h2.rule, h1.rsl (fun b hb => (ownBlock_cells h1 hb).1) h2.sub⟩, fun j u hu => ?_⟩
  obtain ⟨q1, q2⟩ := zCells_at hz
  match j with
  | 0 => simp only [List.getElem?_cons_zero, Option.some.injEq] at hu; rw [Nat.add_zero, q1, hu]
  | 1 => simp only [List.getElem?_cons_succ, List.getElem?_cons_zero, Option.some.injEq] at hu; rw [q2, hu]
  | j + 2 => simp at hu
set_option maxRecDepth 100000 in
set_option maxHeartbeats 4000000 in
theorem actsW {F F' : Nat → Prop} (v1 v2 : Value) (l : List Ac) (w : World) (h1 : RSl F w 2 (EAc F w) v1 l) (h2 : RSl F' w 2 (EAc F' w) v2 l) :
    Calls Tryd.prog 13 #[v1, v2] w fun e w' => e = .returned (.bool true) ∧ Below w.heap.size w w' := by
  obtain ⟨A1, c1, rfl⟩ := h1.form
  obtain ⟨A2, c2, rfl⟩ := h2.form
  have hm := h1.len
  unfold maxLen at hm
  have H1 := Lib.hid h1
  have H2 := Lib.hid h2
  have hll : ((l.length : Int) == (l.length : Int)) = true := by simp
  have E0 := Lib.hid (Below.refl w.heap.size w)
  clear h1 h2
  go_enter Tryd.func13, Tryd.ntmps13
  go_wp2
  go_loopw [5] (fun i wr => ∃ k : Nat, i = .int .i64 (k : Int) ∧ k ≤ l.length ∧ Below w.heap.size w wr) (fun i _ => l.length - (intOf i).toNat)
  case atStart => exact ⟨0, rfl, Nat.zero_le _, E0.out⟩
  case round =>
    obtain ⟨k, rfl, hk, hb⟩ := hrel
    have HB := Lib.hid hb
    by_cases hkn : k < l.length
    · obtain ⟨a, ha⟩ : ∃ a, l[k]? = some a := ⟨_, List.getElem?_eq_getElem hkn⟩
      obtain ⟨b, off, rfl, _, hbs, cs, ⟨sv, rfl, hok, hsv⟩, hc⟩ := (EAc.all H1.out (Kp.of_below hb) (fun _ _ h => h)).at ha
      obtain ⟨b', off', rfl, _, hbs', cs', ⟨sv', rfl, hok', hsv'⟩, hc'⟩ := (EAc.all H2.out (Kp.of_below hb) (fun _ _ h => h)).at ha
      obtain ⟨A3, c3, rfl⟩ := hsv.form
      obtain ⟨A4, c4, rfl⟩ := hsv'.form
      have d0 := hc 0 _ rfl
      have d1 := hc 1 _ rfl
      have e0 := hc' 0 _ rfl
      have e1 := hc' 1 _ rfl
      simp only [Nat.add_zero] at d0 e0
      have NE : Nonempty (Pt (Below wr.heap.size wr)) := ⟨⟨wr, Below.refl _ _⟩⟩
      have p0 := fun p : Pt (Below wr.heap.size wr) => (p.property.cell (p := ⟨b, off + k * 2, none⟩) hbs).trans d0
      have p1 := fun p : Pt (Below wr.heap.size wr) => (p.property.cell (p := ⟨b, off + k * 2 + 1, none⟩) hbs).trans d1
      have p2 := fun p : Pt (Below wr.heap.size wr) => (p.property.cell (p := ⟨b', off' + k * 2, none⟩) hbs').trans e0
      have p3 := fun p : Pt (Below wr.heap.size wr) => (p.property.cell (p := ⟨b', off' + k * 2 + 1, none⟩) hbs').trans e1
      have CC := Lib.hid (fun p : Pt (Below wr.heap.size wr) => sameW a (.slice A3 a.sub.length c3) (.slice A4 a.sub.length c4) p.val (hsv.keep (Kp.of_below p.property)) (hsv'.keep (Kp.of_below p.property)))
      have i1 : (0 : Int) ≤ (k : Int) := by omega
      have i2 : (k : Int) < (l.length : Int) := by omega
      clear hb ha hok hok' hsv hsv' hc hc' d0 d1 e0 e1
      go_wp2_with fail
      refine wp_region_class (S := Below wr.heap.size wr) (Below.refl _ _).drew (by kernel_rfl) (by kernel_rfl) ?_
      repeat (go_big_quiet_step (first | (go_at_call 35; refine (CC.out _).mono ?_; rintro e w' ⟨rfl, hbel⟩; exact ⟨rfl, ⟨w', below_stepA (Pt.property _) hbel⟩, rfl⟩)))
      refine wpQuiet_nil ?_
      rintro W2 ⟨⟨W2, hW⟩, rfl⟩
      have HW := Lib.hid (HB.out.trans (Below.mono hW HB.out.size))
      clear p0 p1 p2 p3 CC hW
      go_wp2
      exact ⟨⟨k + 1, by go_num, by omega, HW.out⟩, by simp [intOf]; omega⟩
    · obtain rfl : k = l.length := by omega
      clear hb
      go_wp2
      go_ret
      exact ⟨rfl, HB.out⟩
end Go.Proofs.YtjgigcnjgblekaaDoor

namespace Go.Proofs.YtjgigcnjgblekaaDoor
open Go.ChangeShapes Go.WideShapes Go.ChangeAt Go.RowKit Go.Deep

section
variable {H : Type} {enc : TypeId × Value → H} {P : Program} {w : World} {base : Nat} {spare : Nat → Bool} {held : Bool}
theorem open_rsl0 {α : Type} {t e : TypeId} {fuel : Nat} {v : Value} {x : DataW H × List MemPlace} {sz : Nat} {E : List Value → α → Prop}
    (ht : P.underlying t = some (.slice e)) (hC : P.cellsOf e = sz) (hsz : 0 < sz)
    (hel : ∀ (fuel : Nat) (cs : List Value) (x : DataW H × List MemPlace), DataW.trod enc P w base spare held fuel e cs = some x → ∃ a, E cs a)
    (h : DataW.trod enc P w base spare held fuel t [v] = some x) : ∃ xs : List α, RSl (fun b => b < w.heap.size) w sz E v xs := by
  rcases open_slice ht h with ⟨hv, _⟩ | ⟨a, len, cap, m, n, D, Pl, hv, hb, hl, hm, hmm, hx, hi⟩
  · simp only [List.cons.injEq, and_true] at hv
    subst hv
    exact ⟨[], RSl.nil⟩
  · simp only [List.cons.injEq, and_true] at hv
    subst hv
    have hml : len ≤ m := by rw [hmm]; split <;> omega
    have hq : ∀ i, i < len → ∃ a' : α, ∃ cs, E cs a' ∧ cs.length = sz ∧ ∀ j u, cs[j]? = some u → w.cell? ((a.add (i * sz)).add j) = some u := by
      intro i hil
      obtain ⟨cs', hc, ht'⟩ := hi i (by omega)
      rw [hC] at hc
      obtain ⟨a', hE⟩ := hel _ _ _ ht'
      obtain ⟨_, hcl, hat⟩ := World.cells?_some hc
      refine ⟨a', cs', hE, hcl, fun j u hu => ?_⟩
      have hj : j < sz := by
        have := (List.getElem?_eq_some_iff.1 hu).1
        omega
      rw [hat j hj, hu]
    rcases Nat.eq_zero_or_pos len with h0 | hpos
    · subst h0
      exact ⟨[], ⟨some a, cap, rfl, Nat.zero_le _, hm, fun h => (by cases h), .inl rfl⟩⟩
    · have hne : ∃ _ : α, True := by obtain ⟨a', _⟩ := hq 0 hpos; exact ⟨a', trivial⟩
      obtain ⟨dflt, _⟩ := hne
      have hch : ∃ f : Nat → α, ∀ i, i < len → ∃ cs, E cs (f i) ∧ cs.length = sz ∧ ∀ j u, cs[j]? = some u → w.cell? ((a.add (i * sz)).add j) = some u := by
        refine ⟨fun i => if hil : i < len then (hq i hil).choose else dflt, fun i hil => ?_⟩
        simp only [dif_pos hil]
        exact (hq i hil).choose_spec
      obtain ⟨f, hf⟩ := hch
      obtain ⟨b, off, spot⟩ := a
      obtain ⟨cs0, _, hl0, hc0⟩ := hf 0 hpos
      have h00 := hc0 0 (cs0[0]'(by omega)) (List.getElem?_eq_getElem _)
      have hspot : spot = none := by
        have := World.cell?_spot h00
        simpa [Addr.add] using this
      subst hspot
      have hblt : b < w.heap.size := by
        have := World.block_lt_of_cell? w _ h00
        rwa [rd_add, rd_add] at this
      refine ⟨(List.range len).map f, ⟨some ⟨b, off, none⟩, cap, by simp, by simpa using hl, hm, (fun h => by cases h), .inr ⟨b, off, rfl, hblt, hblt, ?_⟩⟩⟩
      intro i y hy
      have hil : i < len := by
        have := (List.getElem?_eq_some_iff.1 hy).1
        simpa using this
      have hx' : f i = y := by simpa [List.getElem?_map, List.getElem?_range hil] using hy
      subst hx'
      obtain ⟨cs, h1, h2, h3⟩ := hf i hil
      refine ⟨cs, h1, fun j u hu => ?_⟩
      have := h3 j u hu
      rw [rd_add, rd_add] at this
      exact this
/-- How long a list may be that can be read. -/
theorem len_reach {t e : TypeId} {fuel : Nat} {A : Option Addr} {n c bytes : Nat} {x : DataW H × List MemPlace} (ht : P.underlying t = some (.slice e)) (hB : P.bytesOf e = bytes) (h : DataW.trod enc P w base spare held fuel t [.slice A n c] = some x) (hR : InReach P t x.1) : n * bytes ≤ 140737488351232 := by
  rcases open_slice ht h with ⟨hv, _⟩ | ⟨a, len, cap, m, k, D, Pl, hv, hb, hl, hm, hmm, hx, hi⟩
  · simp only [List.cons.injEq, and_true, Value.slice.injEq] at hv
    rw [hv.2.1]; simp
  · simp only [List.cons.injEq, and_true, Value.slice.injEq] at hv
    rw [hx] at hR
    obtain ⟨hR1, _⟩ := reach_slice ht hR
    rw [hB] at hR1
    simp only [List.length_map, List.length_range, reachBytes] at hR1
    rw [hv.2.1]
    exact Nat.le_trans (Nat.mul_le_mul_right _ (by omega)) hR1
end
theorem list_twoA {α : Type} {l : List α} (h : l.length = 2) : ∃ a b, l = [a, b] := by
  match l, h with
  | [a, b], _ => exact ⟨a, b, rfl⟩
theorem cIntR : Tryd.prog.cellsOf 3 = 1 := by kernel_rfl
theorem cActR : Tryd.prog.cellsOf 30 = 2 := by kernel_rfl
theorem cSInt : Tryd.prog.cellsOf 22 = 1 := by kernel_rfl
theorem bIntR : Tryd.prog.bytesOf 3 = 8 := by kernel_rfl
theorem bActR : Tryd.prog.bytesOf 30 = 32 := by kernel_rfl
section
variable {H : Type} {enc : TypeId × Value → H} {w : World} {base fuel : Nat} {spare : Nat → Bool} {held : Bool} {x : DataW H × List MemPlace} {cs : List Value} {v : Value}
theorem open_intE (h : DataW.trod enc Tryd.prog w base spare held fuel 3 cs = some x) : ∃ n : Int, EInt cs n := by
  obtain ⟨k, hk, _, wk⟩ := DataW.trod_int Tryd.underlying3 h
  exact ⟨k, hk, wk⟩
theorem open_intsE (h : DataW.trod enc Tryd.prog w base spare held fuel 22 [v] = some x) : ∃ xs : List Int, RSl (fun b => b < w.heap.size) w 1 EInt v xs :=
  open_rsl0 Tryd.underlying22 cIntR (by decide) (fun _ _ _ h => open_intE h) h
theorem open_actE (h : DataW.trod enc Tryd.prog w base spare held fuel 30 cs = some x) : ∃ a : Ac, EAc (fun b => b < w.heap.size) w cs a := by
  obtain ⟨ys, n, _, _, hlen, hyl, hf⟩ := DataW.trod_struct Tryd.underlying30 h
  rw [cActR] at hlen
  obtain ⟨a, b, rfl⟩ := list_twoA hlen
  obtain ⟨y0, y1, rfl⟩ := list_twoA (show ys.length = 2 from hyl)
  have g0 := hf 0 _ rfl
  change DataW.trod enc Tryd.prog w base spare held n 3 (List.take (Tryd.prog.cellsOf 3) (List.drop 0 [a, b])) = some y0 at g0
  rw [cIntR] at g0
  have g1 := hf 1 _ rfl
  change DataW.trod enc Tryd.prog w base spare held n 22 (List.take (Tryd.prog.cellsOf 22) (List.drop 1 [a, b])) = some y1 at g1
  rw [cSInt] at g1
  simp only [List.drop_zero, List.take_succ_cons, List.take_zero, List.drop_succ_cons] at g0 g1
  obtain ⟨k, hk, wk⟩ := open_intE g0
  simp only [List.cons.injEq, and_true] at hk
  subst hk
  obtain ⟨xs, r1⟩ := open_intsE g1
  exact ⟨⟨k, xs⟩, b, rfl, wk, r1⟩
theorem open_actsE (h : DataW.trod enc Tryd.prog w base spare held fuel 23 [v] = some x) : ∃ xs : List Ac, RSl (fun b => b < w.heap.size) w 2 (EAc (fun b => b < w.heap.size) w) v xs :=
  open_rsl0 Tryd.underlying23 cActR (by decide) (fun _ _ _ h => open_actE h) h
end
end Go.Proofs.YtjgigcnjgblekaaDoor
