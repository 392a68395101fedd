/- When a plan is well formed, as the program looks at it; alpha.Valid. shapesRight. placesRight. -/
import Derived.Test.YtonkbjdeaneicaaDoorKpa06
import Derived.Test.YtonkbjdeaneicaaDoorKpa12
import Derived.Deep.Cut
namespace Go.Proofs.YtonkbjdeaneicaaDoor.Pln
open Classical

/-- A shape that a pattern can have: place i. -/
def validAt (s : Shp) (i : Nat) : Prop := ∀ c, s.cells[i]? = some c → c < 0 → ∃ j : Nat, (j : Int) = -1 - c ∧ j ≤ i ∧ s.cells[j]? = some c
def validS (s : Shp) : Prop := 0 ≤ s.pred ∧ ∀ i, i < s.cells.length → validAt s i
/-- The shapes: each valid, of at most 8 places, none twice. -/
def shapeAt (al : List Shp) (i : Nat) : Prop := ∀ s, al[i]? = some s → validS s ∧ s.cells.length ≤ 8 ∧ ∀ k, k < i → al[k]? ≠ some s
/-- The nodes need the shapes in their order: the next new one behind the first nodes. -/
noncomputable def needF (m : Nat) (x : Option Nat) (n : Nd) : Option Nat := match x with
  | none => none
  | some q => if n.kind = 1 ∨ n.kind = 3 then (if 0 ≤ n.alpha ∧ n.alpha ≤ (q : Int) ∧ n.alpha < (m : Int) then (if n.alpha = (q : Int) then some (q + 1) else some q) else none) else some q
noncomputable def needs (m : Nat) (ns : List Nd) : Option Nat := ns.foldl (needF m) (some 0)
def shapesP (al : List Shp) (ns : List Nd) : Prop := (∀ i, i < al.length → shapeAt al i) ∧ needs al.length ns = some al.length
theorem needs_none (m : Nat) (ns : List Nd) : ns.foldl (needF m) none = none := by
  induction ns with
  | nil => rfl
  | cons n r ih => exact ih
theorem needs_take {m : Nat} {ns : List Nd} {k : Nat} {n : Nd} (h : ns[k]? = some n) : needs m (ns.take (k + 1)) = needF m (needs m (ns.take k)) n := by
  unfold needs
  rw [List.take_add_one, h, List.foldl_append]
  rfl
theorem needs_stop {m : Nat} {ns : List Nd} {k : Nat} (h : needs m (ns.take k) = none) : needs m ns = none := by
  unfold needs at h ⊢
  rw [← List.take_append_drop k ns, List.foldl_append, h, needs_none]
theorem needs_le (m : Nat) : ∀ (ns : List Nd) (q q' : Nat), ns.foldl (needF m) (some q) = some q' → q' ≤ q + ns.length
  | [], q, q', h => by
    simp only [List.foldl_nil, Option.some.injEq] at h
    subst h
    exact Nat.le_refl _
  | n :: r, q, q', h => by
    rw [List.foldl_cons] at h
    cases hx : needF m (some q) n with
    | none => rw [hx, needs_none] at h; cases h
    | some a =>
      rw [hx] at h
      have h1 := needs_le m r a q' h
      have h2 : a ≤ q + 1 := by
        unfold needF at hx
        simp only at hx
        split at hx
        · split at hx
          · split at hx
            · injection hx with hx; omega
            · injection hx with hx; omega
          · cases hx
        · injection hx with hx; omega
      simp only [List.length_cons]
      omega
end Go.Proofs.YtonkbjdeaneicaaDoor.Pln
namespace Go.Proofs.YtonkbjdeaneicaaDoor
open Go.RowKit Pln Classical Go.Maps

theorem box_cellL {w wr : World} {cs : Array Value} {T : TypeId} (hb : Below (w.heap.size + 1) (w.alloc (.cells cs T)) wr) (j : Nat) {u : Value} (hu : cs.toList[j]? = some u) : wr.cell? ⟨w.heap.size, j, none⟩ = some u :=
  box_cell hb j u (by rw [← Array.getElem?_toList]; exact hu)

set_option maxRecDepth 200000 in
set_option maxHeartbeats 4000000 in
theorem validW {F : Nat → Prop} (s : Shp) (v : Value) (W : World) (h : RSl F W 1 EInt v s.cells) :
    Calls Tryd.prog 60 #[.agg #[.int .i64 s.pred, v]] W fun e W' => e = .returned (.bool (decide (validS s))) ∧ Below W.heap.size W W' := by
  obtain ⟨A, c, rfl⟩ := h.form
  have hm := h.len
  unfold maxLen at hm
  have H := Lib.hid h
  clear h
  obtain ⟨R, hR⟩ : ∃ R, decide (validS s) = R := ⟨_, rfl⟩
  rw [hR]
  have HR := Lib.hid hR
  clear hR
  go_enter Tryd.func60, Tryd.ntmps60
  by_cases h0 : s.pred < 0
  · have HF := Lib.hid (show R = false by rw [← HR.out]; exact decide_eq_false (fun h => by have := h.1; omega))
    go_wp2
    go_ret
    exact ⟨by rw [HF.out]; rfl, (Below.refl _ _).alloc (Nat.le_refl _) _⟩
  · go_wp2
    go_loopw [12] (fun iv wr => ∃ i : Nat, iv = .int .i64 i ∧ i ≤ s.cells.length ∧ (∀ k, k < i → validAt s k) ∧ Below (W.heap.size + 1) (W.alloc (.cells #[.int .i64 s.pred, .slice A s.cells.length c] 54)) wr) (fun i _ => s.cells.length - (intOf i).toNat)
    case atStart => exact ⟨0, rfl, Nat.zero_le _, fun k hk => by omega, Below.refl _ _⟩
    case round =>
      obtain ⟨i, rfl, hi, hV, hb⟩ := hrel
      by_cases hin : i < s.cells.length
      · obtain ⟨x, hx⟩ : ∃ x, s.cells[i]? = some x := ⟨_, List.getElem?_eq_getElem hin⟩
        obtain ⟨b, o, rfl, -, hbl, cs, ⟨rfl, hok⟩, hc⟩ := RSl.at H.out hx
        have hlo := hok.lo
        have c0 := ((box_below hb).cell (p := ⟨b, o + i * 1 + 0, none⟩) hbl).trans (hc 0 _ rfl)
        simp only [Nat.add_zero, Nat.mul_one] at c0
        have y1 := box_cellL hb 1 rfl
        have e1 : (0 : Int) ≤ (i : Int) := by omega
        have e2 : (i : Int) < (s.cells.length : Int) := by omega
        have HI := Lib.hid hin
        have HB := Lib.hid hb
        by_cases hx0 : x < 0
        · obtain ⟨j, hj⟩ : ∃ j : Nat, (j : Int) = -1 - x := ⟨(-1 - x).toNat, by omega⟩
          have e5 : IntKind.i64.wrap (-1 - x) = (j : Int) := by rw [IntWalk.i64_in _ (by omega)]; exact hj.symm
          have e5' : -1 - x = (j : Int) := hj.symm
          have e6 : (0 : Int) ≤ (j : Int) := by omega
          have e7 : ¬ (j : Int) < 0 := by omega
          by_cases hji : j ≤ i
          · obtain ⟨y, hy⟩ : ∃ y, s.cells[j]? = some y := ⟨_, List.getElem?_eq_getElem (by omega)⟩
            obtain ⟨b', o', hA', -, -, cs, ⟨rfl, -⟩, hc2⟩ := RSl.at H.out hy
            simp only [Option.some.injEq, Addr.mk.injEq, and_true] at hA'
            obtain ⟨rfl, rfl⟩ := hA'
            have c1 := ((box_below hb).cell (p := ⟨b, o + j * 1 + 0, none⟩) hbl).trans (hc2 0 _ rfl)
            simp only [Nat.add_zero, Nat.mul_one] at c1
            have e8 : ¬ (i : Int) < (j : Int) := by omega
            have e9 : (j : Int) < (s.cells.length : Int) := by omega
            by_cases hyx : y = x
            · subst hyx
              have HV := Lib.hid (show ∀ k, k < i + 1 → validAt s k from fun k hk => by
                by_cases e : k = i
                · subst e
                  intro c hc _
                  rw [hx] at hc
                  injection hc with hc
                  subst hc
                  exact ⟨j, hj, hji, hy⟩
                · exact hV k (by omega))
              clear hV hc hc2 hx hy hb hj hin hok hji
              go_wp2
              exact ⟨⟨i + 1, by go_num, HI.out, HV.out, HB.out⟩, by simp [intOf]; have := HI.out; omega⟩
            · have HF := Lib.hid (show R = false by
                rw [← HR.out]
                exact decide_eq_false (fun h => by
                  obtain ⟨j', h1, _, h3⟩ := h.2 i hin x hx hx0
                  have : j' = j := by omega
                  subst this
                  rw [hy] at h3
                  exact hyx (Option.some.inj h3)))
              clear hV hc hc2 hx hy hb hj hin hok hji
              go_wp2
              go_ret
              exact ⟨by rw [HF.out]; rfl, box_below HB.out⟩
          · have e8 : (i : Int) < (j : Int) := by omega
            have HF := Lib.hid (show R = false by
              rw [← HR.out]
              exact decide_eq_false (fun h => by
                obtain ⟨j', h1, h2, _⟩ := h.2 i hin x hx hx0
                omega))
            clear hV hc hx hb hj hin hok hji
            go_wp2
            go_ret
            exact ⟨by rw [HF.out]; rfl, box_below HB.out⟩
        · have HV := Lib.hid (show ∀ k, k < i + 1 → validAt s k from fun k hk => by
            by_cases e : k = i
            · subst e
              intro c hc h0
              rw [hx] at hc
              injection hc with hc
              omega
            · exact hV k (by omega))
          clear hV hc hx hb hin hok
          go_wp2
          exact ⟨⟨i + 1, by go_num, HI.out, HV.out, HB.out⟩, by simp [intOf]; have := HI.out; omega⟩
      · obtain rfl : i = s.cells.length := by omega
        have HF := Lib.hid (show R = true by rw [← HR.out]; exact decide_eq_true ⟨by omega, hV⟩)
        have HB := Lib.hid hb
        clear hV hb hin
        go_wp2
        go_ret
        exact ⟨by rw [HF.out]; rfl, box_below HB.out⟩
end Go.Proofs.YtonkbjdeaneicaaDoor

namespace Go.Proofs.YtonkbjdeaneicaaDoor
open Go.RowKit Pln Classical Go.Maps

theorem rboxL {w : World} {b : Nat} {cs : Array Value} {T : TypeId} (hb : w.heap[b]? = some (.cells cs T (0, 0))) (j : Nat) {u : Value} (hu : cs.toList[j]? = some u) : w.cell? ⟨b, j, none⟩ = some u :=
  (cell_of_row _ _ j _ _ _ hb).trans (by rw [← Array.getElem?_toList]; exact hu)
theorem run_cutS (A : Option Addr) (l c n : Nat) (h : n ≤ l) (hc : l ≤ c) (W : World) : (Instr.slice 22 (.slice A l c) none (some (.int .i64 (n : Int))) none).run Tryd.prog W = .ok (.slice A n c) W := by
  rw [run_slice_h (t := 22) (ht := by kernel_rfl) (h0 := by omega) (h2 := by omega)]
  have hs : (sizeOf (Tryd.prog.elem 22)).run Tryd.prog W = .ok 2 W := by kernel_rfl
  rw [hs]
  have e : (if c = 0 then A else A.map (fun a => a.add (0 * 2))) = A := by
    split
    · rfl
    · cases A <;> simp [Addr.add]
  simp only [Result.andThen, sliced, Int.toNat_natCast, Nat.sub_zero, e]
theorem RSl.cap {α : Type} {F : Nat → Prop} {w : World} {sz : Nat} {E : List Value → α → Prop} {A : Option Addr} {n c : Nat} {xs : List α} (h : RSl F w sz E (.slice A n c) xs) : n = xs.length ∧ n ≤ c := by
  obtain ⟨A', c', h1, h2, _⟩ := h
  simp only [Value.slice.injEq] at h1
  obtain ⟨rfl, rfl, rfl⟩ := h1
  exact ⟨rfl, h2⟩
/-- Element i, its cells to be read in a later world. -/
theorem RSl.rd {α : Type} {F : Nat → Prop} {W : World} {sz : Nat} {E : List Value → α → Prop} {A : Option Addr} {n c : Nat} {xs : List α} (h : RSl F W sz E (.slice A n c) xs) {i : Nat} {x : α} (hx : xs[i]? = some x) :
    ∃ b off cs, A = some ⟨b, off, none⟩ ∧ E cs x ∧ ∀ (w : World), Below W.heap.size W w → ∀ j u, cs[j]? = some u → w.cell? ⟨b, off + i * sz + j, none⟩ = some u := by
  obtain ⟨b, off, h1, _, h2, cs, h3, h4⟩ := RSl.at h hx
  exact ⟨b, off, cs, h1, h3, fun w hw j u hu => (hw.cell (p := ⟨b, off + i * sz + j, none⟩) h2).trans (h4 j u hu)⟩

set_option maxRecDepth 200000 in
set_option maxHeartbeats 8000000 in
theorem shapesW {F : Nat → Prop} (W : World) (av nv ev : Value) (al : List Shp) (ns : List Nd) (hA : RSl F W 2 (EShp F W) av al) (hN : RSl F W 11 (ENode F W) nv ns) :
    Calls Tryd.prog 38 #[.agg #[av, nv, ev]] W fun e W' => e = .returned (.bool (decide (shapesP al ns))) ∧ Below W.heap.size W W' := by
  obtain ⟨Aa, ca, rfl⟩ := hA.form
  obtain ⟨An, cn, rfl⟩ := hN.form
  have hm := hA.len
  have hm2 := hN.len
  unfold maxLen at hm hm2
  have hcap := hA.cap.2
  have H := Lib.hid hA
  have HN := Lib.hid hN
  clear hA hN
  obtain ⟨R, hR⟩ : ∃ R, decide (shapesP al ns) = R := ⟨_, rfl⟩
  rw [hR]
  have HR := Lib.hid hR
  clear hR
  go_enter Tryd.func38, Tryd.ntmps38
  go_wp2
  go_loopw [13] (fun iv wr => ∃ i : Nat, iv = .int .i64 i ∧ i ≤ al.length ∧ (∀ k, k < i → shapeAt al k) ∧ Below (W.heap.size + 1) (W.alloc (.cells #[.slice Aa al.length ca, .slice An ns.length cn, ev] 26)) wr) (fun i _ => al.length - (intOf i).toNat)
  case atStart => exact ⟨0, rfl, Nat.zero_le _, fun k hk => by omega, Below.refl _ _⟩
  case round =>
    obtain ⟨i, rfl, hi, hV, hb⟩ := hrel
    by_cases hin : i < al.length
    · obtain ⟨s, hs⟩ : ∃ s, al[i]? = some s := ⟨_, List.getElem?_eq_getElem hin⟩
      obtain ⟨b, o, cs, rfl, ⟨sv, rfl, sok, hsv⟩, hc⟩ := H.out.rd hs
      obtain ⟨As, cc, rfl⟩ := hsv.form
      have c0 := hc wr (box_below hb) 0 _ rfl
      have c1 := hc wr (box_below hb) 1 _ rfl
      simp only [Nat.add_zero] at c0
      have hsl := hsv.len
      unfold maxLen at hsl
      have e1 : (0 : Int) ≤ (i : Int) := by omega
      have e2 : (i : Int) < (al.length : Int) := by omega
      obtain ⟨wa, hwa⟩ : ∃ wa, wa = wr.alloc (.cells #[.int .i64 s.pred, .slice As s.cells.length cc] 54) := ⟨_, rfl⟩
      have hrow : wa.heap[wr.heap.size]? = some (.cells #[.int .i64 s.pred, .slice As s.cells.length cc] 54 (0, 0)) := by rw [hwa]; exact heap_alloc_new wr _
      have hba := box_step hb (show Below wr.heap.size wr wa by rw [hwa]; exact (Below.refl _ _).alloc (Nat.le_refl _) _)
      have HSV := Lib.hid (fun (w' : World) (hw' : Below W.heap.size W w') => hsv.keep (Kp.of_below hw'))
      have z0 := rboxL hrow 0 rfl
      have z1 := rboxL hrow 1 rfl
      have VW := Lib.hid (validW s _ wa (HSV.out wa (box_below hba)))
      have HI := Lib.hid hin
      have HROW := Lib.hid hrow
      have HBA := Lib.hid hba
      have HS := Lib.hid hs
      have HV := Lib.hid hV
      clear hc hs hin hrow hb hba hsv hV
      go_upto_region 4 with fail
      rw [← hwa]
      clear hwa c0 c1
      go_wp2_with fail
      refine VW.out.mono ?_
      rintro e w2 ⟨rfl, hb2⟩
      have hB2 := box_step HBA.out hb2
      have hrow2 := (hb2.block _ (lt_of_heap HROW.out)).trans HROW.out
      have z0 := rboxL hrow2 0 rfl
      have z1 := rboxL hrow2 1 rfl
      have y0 := box_cellL hB2 0 rfl
      have HB2 := Lib.hid hB2
      have HROW2 := Lib.hid hrow2
      clear hb2 VW hB2 hrow2
      by_cases hv : validS s
      · have hvd : decide (validS s) = true := decide_eq_true hv
        rw [hvd]
        have HVS := Lib.hid hv
        clear hvd hv
        by_cases h8 : s.cells.length ≤ 8
        · have e3 : ¬ (8 : Int) < (s.cells.length : Int) := by omega
          have hcut := run_cutS (some ⟨b, o, none⟩) al.length ca i (by omega) hcap
          have H8 := Lib.hid h8
          clear h8
          go_wp2_with fail
          obtain ⟨wo, rfl⟩ : ∃ wo : World, wo = wr := ⟨_, rfl⟩
          clear y0 z0 z1 hcut
          go_loopw [32] (fun kv wr => ∃ k : Nat, kv = .int .i64 k ∧ k ≤ i ∧ (∀ q, q < k → al[q]? ≠ some s) ∧ Below w2.heap.size w2 wr) (fun k _ => i - (intOf k).toNat)
          case atStart => exact ⟨0, rfl, Nat.zero_le _, fun q hq => by omega, Below.refl _ _⟩
          case round =>
            obtain ⟨k, rfl, hk, hD, hq⟩ := hrel
            by_cases hki : k < i
            · obtain ⟨t, ht⟩ : ∃ t, al[k]? = some t := ⟨_, List.getElem?_eq_getElem (by have := HI.out; omega)⟩
              obtain ⟨b', o', cs, hA', ⟨tv, rfl, tok, htv⟩, hc⟩ := H.out.rd ht
              simp only [Option.some.injEq, Addr.mk.injEq, and_true] at hA'
              obtain ⟨rfl, rfl⟩ := hA'
              obtain ⟨At, ct, rfl⟩ := htv.form
              have hbq := box_step HB2.out hq
              have c0 := hc wr (box_below hbq) 0 _ rfl
              have c1 := hc wr (box_below hbq) 1 _ rfl
              simp only [Nat.add_zero] at c0
              have e4 : (0 : Int) ≤ (k : Int) := by omega
              have e5 : (k : Int) < (i : Int) := by omega
              obtain ⟨wb, hwb⟩ : ∃ wb, wb = wr.alloc (.cells #[.int .i64 t.pred, .slice At t.cells.length ct] 54) := ⟨_, rfl⟩
              have hqb : Below w2.heap.size w2 wb := by rw [hwb]; exact hq.alloc hq.size _
              have hrow : wb.heap[wr.heap.size]? = some (.cells #[.int .i64 t.pred, .slice At t.cells.length ct] 54 (0, 0)) := by rw [hwb]; exact heap_alloc_new wr _
              have hrow2 := (hqb.block _ (lt_of_heap HROW2.out)).trans HROW2.out
              have x0 := rboxL hrow 0 rfl
              have x1 := rboxL hrow 1 rfl
              have z0 := rboxL hrow2 0 rfl
              have z1 := rboxL hrow2 1 rfl
              have EQ := Lib.hid (equalW _ _ _ _ wb (htv.keep (Kp.of_below (box_below (box_step HB2.out hqb)))) (HSV.out wb (box_below (box_step HB2.out hqb))))
              have HQB := Lib.hid hqb
              have HK := Lib.hid hki
              have HT := Lib.hid ht
              have HD := Lib.hid hD
              clear hc ht hq hbq hqb hrow hrow2 hki htv hD
              go_upto_region 9 with fail
              rw [← hwb]
              clear hwb c0 c1
              by_cases hp : t.pred = s.pred
              · rw [hp] at x0
                go_wp2_with fail
                refine EQ.out.mono ?_
                rintro e w3 ⟨rfl, hb3⟩
                have HB3 := Lib.hid (HQB.out.trans (hb3.mono HQB.out.size))
                clear hb3 EQ
                by_cases hcs : t.cells = s.cells
                · have hts : t = s := by cases t; cases s; simp only at hp hcs; rw [hp, hcs]
                  have HF := Lib.hid (show R = false by
                    rw [← HR.out]
                    exact decide_eq_false (fun h => (h.1 i HI.out s HS.out).2.2 k HK.out (by rw [HT.out, hts])))
                  rw [eqB_eq hcs]
                  clear hts hcs hp
                  go_wp2
                  go_ret
                  exact ⟨by rw [HF.out]; rfl, box_below (box_step HB2.out HB3.out)⟩
                · rw [eqB_ne hcs]
                  have HD2 := Lib.hid (show ∀ q, q < k + 1 → al[q]? ≠ some s from fun q hq he => by
                    by_cases e : q = k
                    · subst e
                      rw [HT.out] at he
                      exact hcs (by rw [Option.some.inj he])
                    · exact HD.out q (by omega) he)
                  clear hcs hp
                  go_wp2
                  exact ⟨⟨k + 1, by go_num, HK.out, HD2.out, HB3.out⟩, by simp [intOf]; have := HK.out; omega⟩
              · have HD2 := Lib.hid (show ∀ q, q < k + 1 → al[q]? ≠ some s from fun q hq he => by
                  by_cases e : q = k
                  · subst e
                    rw [HT.out] at he
                    exact hp (by rw [Option.some.inj he])
                  · exact HD.out q (by omega) he)
                clear EQ
                go_wp2
                exact ⟨⟨k + 1, by go_num, HK.out, HD2.out, HQB.out⟩, by simp [intOf]; have := HK.out; omega⟩
            · have hke : i = k := by omega
              subst hke
              have HV2 := Lib.hid (show ∀ k, k < i + 1 → shapeAt al k from fun k hk => by
                by_cases e : k = i
                · subst e
                  intro t ht
                  rw [HS.out] at ht
                  injection ht with ht
                  subst ht
                  exact ⟨HVS.out, H8.out, hD⟩
                · exact HV.out k (by omega))
              have HB3 := Lib.hid (box_step HB2.out hq)
              clear hD hq hki
              go_wp2
              exact ⟨⟨i + 1, by go_num, HI.out, HV2.out, HB3.out⟩, by simp [intOf]; have := HI.out; omega⟩
        · have e3 : (8 : Int) < (s.cells.length : Int) := by omega
          have HF := Lib.hid (show R = false by
            rw [← HR.out]
            exact decide_eq_false (fun h => h8 (h.1 i HI.out s HS.out).2.1))
          clear h8
          go_wp2
          go_ret
          exact ⟨by rw [HF.out]; rfl, box_below HB2.out⟩
      · have hvd : decide (validS s) = false := decide_eq_false hv
        rw [hvd]
        have HF := Lib.hid (show R = false by
          rw [← HR.out]
          exact decide_eq_false (fun h => hv (h.1 i HI.out s HS.out).1))
        clear hvd hv
        go_wp2
        go_ret
        exact ⟨by rw [HF.out]; rfl, box_below HB2.out⟩
    · obtain rfl : i = al.length := by omega
      have HV := Lib.hid hV
      have HB := Lib.hid hb
      have y1 := box_cellL hb 1 rfl
      clear hV hb hin
      go_wp2
      clear y1
      go_loopw [7, 53] (fun qv iv wr => ∃ i q : Nat, iv = .int .i64 i ∧ qv = .int .i64 q ∧ i ≤ ns.length ∧ needs al.length (ns.take i) = some q ∧ Below (W.heap.size + 1) (W.alloc (.cells #[.slice Aa al.length ca, .slice An ns.length cn, ev] 26)) wr) (fun _ i _ => ns.length - (intOf i).toNat)
      case atStart => exact ⟨0, 0, rfl, rfl, Nat.zero_le _, rfl, HB.out⟩
      case round =>
        obtain ⟨i, q, rfl, rfl, hi, hq, hb⟩ := hrel
        clear HB
        have hql : q ≤ i := by
          have := needs_le _ _ _ _ hq
          rw [List.length_take] at this
          omega
        have y0 := box_cellL hb 0 rfl
        by_cases hin : i < ns.length
        · obtain ⟨n, hn⟩ : ∃ n, ns[i]? = some n := ⟨_, List.getElem?_eq_getElem hin⟩
          obtain ⟨b, o, cs, rfl, ⟨lv, mv, hE⟩, hc⟩ := HN.out.rd hn
          have hcs := hE.cells
          subst hcs
          obtain ⟨Al, cl, rfl⟩ := hE.links.form
          obtain ⟨Am, cm, rfl⟩ := hE.new.form
          have cc := hc wr (box_below hb)
          have c0 := cc 0 _ rfl
          have c1 := cc 1 _ rfl
          have c2 := cc 2 _ rfl
          have c3 := cc 3 _ rfl
          have c4 := cc 4 _ rfl
          have c5 := cc 5 _ rfl
          have c6 := cc 6 _ rfl
          have c7 := cc 7 _ rfl
          have c8 := cc 8 _ rfl
          have c9 := cc 9 _ rfl
          have c10 := cc 10 _ rfl
          simp only [Nat.add_zero] at c0
          have e1 : (0 : Int) ≤ (i : Int) := by omega
          have e2 : (i : Int) < (ns.length : Int) := by omega
          have hnext := needs_take (m := al.length) hn
          rw [hq] at hnext
          obtain ⟨kd, hkd⟩ : ∃ kd, n.kind = kd := ⟨_, rfl⟩
          obtain ⟨ap, hap⟩ : ∃ ap, n.alpha = ap := ⟨_, rfl⟩
          have hal64 := hE.ok.2.2.1.lo
          rw [hap] at hal64 c2
          rw [hkd] at c0
          obtain ⟨wa, hwa⟩ : ∃ wa, wa = wr.alloc (.cells #[.int .i64 kd, .int .i64 n.parent, .int .i64 ap, .slice Al n.links.length cl, .slice Am n.new.length cm, .int .i64 n.test.op, .bool n.test.l.v, .int .i64 n.test.l.n, .bool n.test.r.v, .int .i64 n.test.r.n, .int .i64 n.width] 40) := ⟨_, rfl⟩
          have hrow : wa.heap[wr.heap.size]? = some (.cells #[.int .i64 kd, .int .i64 n.parent, .int .i64 ap, .slice Al n.links.length cl, .slice Am n.new.length cm, .int .i64 n.test.op, .bool n.test.l.v, .int .i64 n.test.l.n, .bool n.test.r.v, .int .i64 n.test.r.n, .int .i64 n.width] 40 (0, 0)) := by rw [hwa]; exact heap_alloc_new wr _
          have hba := box_step hb (show Below wr.heap.size wr wa by rw [hwa]; exact (Below.refl _ _).alloc (Nat.le_refl _) _)
          have z0 := rboxL hrow 0 rfl
          have z2 := rboxL hrow 2 rfl
          have yy := box_cellL hba 0 rfl
          have HI := Lib.hid hin
          have HBA := Lib.hid hba
          have HX := Lib.hid hnext
          have HSTOP := Lib.hid (show needs al.length (ns.take (i + 1)) = none → R = false from fun h => by
            rw [← HR.out]
            exact decide_eq_false (fun h2 => by have := needs_stop h; rw [h2.2] at this; cases this))
          unfold needF at HX
          simp only [hkd, hap] at HX
          clear hkd hap
          clear cc hc
          go_upto_region 17 with fail
          rw [← hwa]
          clear hwa c0 c1 c2 c3 c4 c5 c6 c7 c8 c9 c10 hE hn hq hrow hb hba y0 hin hnext
          by_cases hk : kd = 1 ∨ kd = 3
          · rw [if_pos hk] at HX
            by_cases h1 : 0 ≤ ap
            · by_cases h2 : ap ≤ (q : Int)
              · by_cases h3 : ap < (al.length : Int)
                · rw [if_pos ⟨h1, h2, h3⟩] at HX
                  have e3 : ¬ ap < 0 := by omega
                  have e4 : ¬ (q : Int) < ap := by omega
                  have e5 : ¬ (al.length : Int) ≤ ap := by omega
                  by_cases h4 : ap = (q : Int)
                  · rw [if_pos h4] at HX
                    subst h4
                    clear e3
                    rcases hk with rfl | rfl
                    · go_wp2
                      exact ⟨⟨i + 1, q + 1, by go_num, by go_num, HI.out, HX.out, HBA.out⟩, by simp [intOf]; have := HI.out; omega⟩
                    · go_wp2
                      exact ⟨⟨i + 1, q + 1, by go_num, by go_num, HI.out, HX.out, HBA.out⟩, by simp [intOf]; have := HI.out; omega⟩
                  · rw [if_neg h4] at HX
                    rcases hk with rfl | rfl
                    · go_wp2
                      exact ⟨⟨i + 1, q, by go_num, rfl, HI.out, HX.out, HBA.out⟩, by simp [intOf]; have := HI.out; omega⟩
                    · go_wp2
                      exact ⟨⟨i + 1, q, by go_num, rfl, HI.out, HX.out, HBA.out⟩, by simp [intOf]; have := HI.out; omega⟩
                · rw [if_neg (fun h => h3 h.2.2)] at HX
                  have e3 : ¬ ap < 0 := by omega
                  have e4 : ¬ (q : Int) < ap := by omega
                  have e5 : (al.length : Int) ≤ ap := by omega
                  have HF := Lib.hid (HSTOP.out HX.out)
                  clear h3
                  rcases hk with rfl | rfl
                  · go_wp2
                    go_ret
                    exact ⟨by rw [HF.out]; rfl, box_below HBA.out⟩
                  · go_wp2
                    go_ret
                    exact ⟨by rw [HF.out]; rfl, box_below HBA.out⟩
              · rw [if_neg (fun h => h2 h.2.1)] at HX
                have e3 : ¬ ap < 0 := by omega
                have e4 : (q : Int) < ap := by omega
                have HF := Lib.hid (HSTOP.out HX.out)
                clear h2
                rcases hk with rfl | rfl
                · go_wp2
                  go_ret
                  exact ⟨by rw [HF.out]; rfl, box_below HBA.out⟩
                · go_wp2
                  go_ret
                  exact ⟨by rw [HF.out]; rfl, box_below HBA.out⟩
            · rw [if_neg (fun h => h1 h.1)] at HX
              have e3 : ap < 0 := by omega
              have HF := Lib.hid (HSTOP.out HX.out)
              clear h1
              rcases hk with rfl | rfl
              · go_wp2
                go_ret
                exact ⟨by rw [HF.out]; rfl, box_below HBA.out⟩
              · go_wp2
                go_ret
                exact ⟨by rw [HF.out]; rfl, box_below HBA.out⟩
          · rw [if_neg hk] at HX
            have k1 : ¬ kd = 1 := fun h => hk (.inl h)
            have k3 : ¬ kd = 3 := fun h => hk (.inr h)
            have k1b : (kd == 1) = false := by simpa using k1
            have k3b : (kd == 3) = false := by simpa using k3
            have k1c : decide (kd = 1) = false := by simpa using k1
            have k3c : decide (kd = 3) = false := by simpa using k3
            have k1d : (kd != 1) = true := by simpa using k1
            have k3d : (kd != 3) = true := by simpa using k3
            clear hk
            go_wp2
            exact ⟨⟨i + 1, q, by go_num, rfl, HI.out, HX.out, HBA.out⟩, by simp [intOf]; have := HI.out; omega⟩
        · obtain rfl : i = ns.length := by omega
          rw [List.take_length] at hq
          have HB := Lib.hid (box_below hb)
          clear hb hin
          by_cases he : q = al.length
          · have HF := Lib.hid (show R = true by
              rw [← HR.out]
              exact decide_eq_true ⟨HV.out, by rw [hq, he]⟩)
            subst he
            clear hq
            go_wp2
            go_ret
            exact ⟨by rw [HF.out]; simp, HB.out⟩
          · have HF := Lib.hid (show R = false by
              rw [← HR.out]
              exact decide_eq_false (fun h => he (by
                have := h.2
                rw [hq] at this
                exact Option.some.inj this)))
            have e3 : ¬ (q : Int) = (al.length : Int) := by omega
            clear hq he
            go_wp2
            go_ret
            exact ⟨by rw [HF.out]; simp [e3], HB.out⟩
end Go.Proofs.YtonkbjdeaneicaaDoor

namespace Go.Proofs.YtonkbjdeaneicaaDoor.Pln
open Classical

/-- The one ahead of place k, or -1. -/
def lastF {α : Type} (f : α → Int) (l : List α) : Nat → Int
  | 0 => -1
  | k + 1 => match l[k]? with | some x => f x | none => -1
def linkOk (m : Nat) (w : Int) (l : List (Int × Int)) (k : Nat) : Prop := ∀ x, l[k]? = some x → lastF Prod.fst l k < x.1 ∧ x.1 < (m : Int) ∧ 0 ≤ x.2 ∧ x.2 < w ∧ ∀ q, q < k → ∀ y, l[q]? = some y → y.2 ≠ x.2
def newOk (m : Nat) (l : List Int) (k : Nat) : Prop := ∀ x, l[k]? = some x → lastF id l k < x ∧ x < (m : Int)
/-- Each free place stands once, in the links or among the new ones. -/
def cellOk (cells pl : List Int) (i : Nat) : Prop := ∀ c, cells[i]? = some c → (pl.count (i : Int) : Int) = if c = -1 - (i : Int) then 1 else 0
def placesP (cells : List Int) (n : Nd) (w : Int) : Prop :=
  (n.test = noTst ∧ n.width = w + (n.new.length : Int) ∧ n.width ≤ 16) ∧ (∀ k, k < n.links.length → linkOk cells.length w n.links k) ∧ (∀ k, k < n.new.length → newOk cells.length n.new k) ∧
    ∀ i, i < cells.length → cellOk cells (n.links.map Prod.fst ++ n.new) i
theorem lastF_next {α : Type} {f : α → Int} {l : List α} {k : Nat} {x : α} (h : l[k]? = some x) : lastF f l (k + 1) = f x := by
  simp [lastF, h]
theorem last_link {m : Nat} {w : Int} {l : List (Int × Int)} : ∀ k, k ≤ l.length → (∀ q, q < k → linkOk m w l q) → -1 ≤ lastF Prod.fst l k
  | 0, _, _ => by simp [lastF]
  | k + 1, hk, h => by
    have ih := last_link k (by omega) (fun q hq => h q (by omega))
    have hx : l[k]? = some l[k] := List.getElem?_eq_getElem (by omega)
    rw [lastF_next hx]
    have := (h k (by omega) _ hx).1
    omega
theorem last_new {m : Nat} {l : List Int} : ∀ k, k ≤ l.length → (∀ q, q < k → newOk m l q) → -1 ≤ lastF id l k
  | 0, _, _ => by simp [lastF]
  | k + 1, hk, h => by
    have ih := last_new k (by omega) (fun q hq => h q (by omega))
    have hx : l[k]? = some l[k] := List.getElem?_eq_getElem (by omega)
    rw [lastF_next hx]
    have := (h k (by omega) _ hx).1
    simp only [id]
    omega
theorem last_link_ge {m : Nat} {w : Int} {l : List (Int × Int)} : ∀ k, k ≤ l.length → (∀ q, q < k → linkOk m w l q) → (k : Int) - 1 ≤ lastF Prod.fst l k
  | 0, _, _ => by simp [lastF]
  | k + 1, hk, h => by
    have ih := last_link_ge k (by omega) (fun q hq => h q (by omega))
    have hx : l[k]? = some l[k] := List.getElem?_eq_getElem (by omega)
    rw [lastF_next hx]
    have := (h k (by omega) _ hx).1
    omega
theorem links_len {m : Nat} {w : Int} {l : List (Int × Int)} (h : ∀ q, q < l.length → linkOk m w l q) : l.length ≤ m := by
  rcases Nat.eq_zero_or_pos l.length with h0 | h0
  · omega
  · have h1 := last_link_ge (l.length - 1) (by omega) (fun q hq => h q (by omega))
    have hx : l[l.length - 1]? = some (l[l.length - 1]'(by omega)) := List.getElem?_eq_getElem (by omega)
    obtain ⟨h2, h3, _⟩ := h (l.length - 1) (by omega) _ hx
    omega
theorem last_new_ge {m : Nat} {l : List Int} : ∀ k, k ≤ l.length → (∀ q, q < k → newOk m l q) → (k : Int) - 1 ≤ lastF id l k
  | 0, _, _ => by simp [lastF]
  | k + 1, hk, h => by
    have ih := last_new_ge k (by omega) (fun q hq => h q (by omega))
    have hx : l[k]? = some l[k] := List.getElem?_eq_getElem (by omega)
    rw [lastF_next hx]
    have := (h k (by omega) _ hx).1
    simp only [id]
    omega
theorem new_len {m : Nat} {l : List Int} (h : ∀ q, q < l.length → newOk m l q) : l.length ≤ m := by
  rcases Nat.eq_zero_or_pos l.length with h0 | h0
  · omega
  · have h1 := last_new_ge (l.length - 1) (by omega) (fun q hq => h q (by omega))
    have hx : l[l.length - 1]? = some (l[l.length - 1]'(by omega)) := List.getElem?_eq_getElem (by omega)
    obtain ⟨h2, h3⟩ := h (l.length - 1) (by omega) _ hx
    omega
/-- What the two arrays hold. -/
def tmL (pl : List Int) : List Value := (List.range 8).map fun (p : Nat) => .int .i64 (pl.count (p : Int) : Int)
noncomputable def hdL (vs : List Int) : List Value := (List.range 16).map fun (v : Nat) => .bool (decide ((v : Int) ∈ vs))
theorem tmL_at (pl : List Int) {p : Nat} (hp : p < 8) : (tmL pl)[p]? = some (.int .i64 (pl.count (p : Int) : Int)) := by
  unfold tmL; rw [List.getElem?_map, List.getElem?_range hp]; rfl
theorem hdL_at (vs : List Int) {v : Nat} (hv : v < 16) : (hdL vs)[v]? = some (.bool (decide ((v : Int) ∈ vs))) := by
  unfold hdL; rw [List.getElem?_map, List.getElem?_range hv]; rfl
theorem tmL_len (pl : List Int) : (tmL pl).length = 8 := by simp [tmL]
theorem hdL_len (vs : List Int) : (hdL vs).length = 16 := by simp [hdL]
theorem tmL_put (pl : List Int) {p : Nat} (hp : p < 8) : tmL (pl ++ [(p : Int)]) = (tmL pl).set p (.int .i64 ((pl.count (p : Int) : Int) + 1)) := by
  apply List.ext_getElem?
  intro i
  by_cases hi : i < 8
  · rw [tmL_at _ hi]
    by_cases e : p = i
    · subst e
      rw [List.getElem?_set_self (by rw [tmL_len]; exact hp), List.count_append]
      simp
    · rw [List.getElem?_set_ne e, tmL_at _ hi, List.count_append]
      have : ¬ (p : Int) = (i : Int) := by omega
      simp [List.count_singleton, this]
  · rw [List.getElem?_eq_none (by rw [tmL_len]; omega), List.getElem?_eq_none (by rw [List.length_set, tmL_len]; omega)]
theorem hdL_put (vs : List Int) {v : Nat} (hv : v < 16) : hdL (vs ++ [(v : Int)]) = (hdL vs).set v (.bool true) := by
  apply List.ext_getElem?
  intro i
  by_cases hi : i < 16
  · rw [hdL_at _ hi]
    by_cases e : v = i
    · subst e
      rw [List.getElem?_set_self (by rw [hdL_len]; exact hv)]
      simp
    · rw [List.getElem?_set_ne e, hdL_at _ hi]
      have : ¬ (i : Int) = (v : Int) := by omega
      simp [this]
  · rw [List.getElem?_eq_none (by rw [hdL_len]; omega), List.getElem?_eq_none (by rw [List.length_set, hdL_len]; omega)]
end Go.Proofs.YtonkbjdeaneicaaDoor.Pln
namespace Go.Proofs.YtonkbjdeaneicaaDoor
open Go.RowKit Pln Classical Go.Maps

/-- An array of the call's own. -/
def Arr (w : World) (T : Nat) (e : TypeId) (xs : List Value) : Prop := w.ownsRow 0 e 1 (.slice (some ⟨T, 0, none⟩) xs.length xs.length) xs.length xs
section
variable {w w' : World} {T : Nat} {e : TypeId} {xs : List Value}
theorem Arr.cell (h : Arr w T e xs) {i : Nat} {v : Value} (hi : xs[i]? = some v) : w.cell? ⟨T, i, none⟩ = some v := by
  have hlt := (List.getElem?_eq_some_iff.1 hi).1
  have := World.ownsRow.cellAt (show w.ownsRow 0 e 1 (.slice (some ⟨T, 0, none⟩) xs.length xs.length) xs.length xs from h) i (by omega)
  rw [this, hi]
theorem Arr.frozen (h : Arr w T e xs) (i : Nat) : w.frozen? ⟨T, i, none⟩ = false :=
  World.ownsRow.frozenAt (show w.ownsRow 0 e 1 (.slice (some ⟨T, 0, none⟩) xs.length xs.length) xs.length xs from h) i
theorem Arr.lt (h : Arr w T e xs) : T < w.heap.size := (ownBlock_cells h rfl).2.1
theorem Arr.put (h : Arr w T e xs) (j : Nat) (v : Value) : Arr (w.setCell ⟨T, j, none⟩ v) T e (xs.set j v) ∧ Turns [T] w (w.setCell ⟨T, j, none⟩ v) := by
  obtain ⟨h1, h2⟩ := World.ownsRow.stored (show w.ownsRow 0 e 1 (.slice (some ⟨T, 0, none⟩) xs.length xs.length) xs.length xs from h) j v
  refine ⟨?_, by simpa using Turns.of_grown h2⟩
  unfold Arr
  rw [List.length_set]
  exact h1
theorem Arr.turns (h : Arr w T e xs) {S : List Nat} (ht : Turns S w w') (hs : T ∉ S) : Arr w' T e xs :=
  ownsRow_turns h ht (fun b hb => by
    have : T = b := by simpa [Value.ownBlock] using hb
    rw [← this]; exact hs)
theorem Arr.step (h : Arr w T e xs) (hb : Below w.heap.size w w') : Arr w' T e xs := h.turns (Turns.of_below (S := []) hb) (by simp)
theorem Arr.new (w : World) (e : TypeId) (cs : Array Value) (hm : cs.size ≤ maxLen) : Arr (w.alloc (.cells cs e)) w.heap.size e cs.toList := by
  have h := World.ownsRow_lit (base := 0) (e := e) (size := 1) w cs cs.size (Nat.zero_le _) hm (by rw [Nat.mul_one])
  unfold Arr
  rw [Array.length_toList]
  exact h
end
end Go.Proofs.YtonkbjdeaneicaaDoor
