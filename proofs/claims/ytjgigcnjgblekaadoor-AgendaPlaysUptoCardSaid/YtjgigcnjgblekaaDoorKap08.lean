/- What a condition on the agenda rows' three variables gives: the table of powers. Words for slices that are read: cells from a place on; a slice that holds a list; the opening of a slice argument whose elements are constants. The opening of arguments, with the form's own reach: strings and slices are no longer than a process can address. -/
import Derived.Test.YtjgigcnjgblekaaDoorKap01
import Derived.Test.YtjgigcnjgblekaaDoorKap05
import Derived.Test.YtjgigcnjgblekaaDoorKap07
import Derived.LaidMore
import Derived.Lib.LaidTab
import Derived.MakeChecks
import Derived.Stop.LaidErr
import Derived.Test.YtjgigcnjgblekaaDoorRows
namespace Go.Proofs.YtjgigcnjgblekaaDoor
open Go.RowKit Go.ChangeShapes

theorem gTabA : Tryd.prog.globalNamed "internal/strconv.uint64pow10" = some 0 := by kernel_rfl
theorem tTabA : (Tryd.prog.globals[0]?).map (·.type) = some 145 := by kernel_rfl
theorem cellsUA : Tryd.prog.cellsOf 122 = 1 := by kernel_rfl
theorem cellsTA : Tryd.prog.cellsOf 145 = 20 := by kernel_rfl
/-- What the condition gives the walks. -/
theorem of_laidA {W : World} (h : laidMet Tryd.prog Rows.agendaOrderlessRow.laid W) : Tab W := by
  obtain ⟨ps, ⟨g2, t2, cs2, f2, p2, q2, hg2, ht2, hv2, hd2, _, _⟩, _, _⟩ := h.tail.tail
  obtain rfl := Option.some.inj (gTabA.symm.trans hg2)
  obtain rfl := Option.some.inj (tTabA.symm.trans ht2)
  unfold Tab Lib.TabIs
  have hd : DataW.trod _ Tryd.prog W 0 _ false f2 145 cs2.toList = some (Lib.tabData .u64 Lib.pow10Tab, p2) := hd2
  rw [hv2, ← Lib.cells_of_tab Tryd.underlying145 Tryd.underlying122 cellsUA cellsTA hd]
theorem of_laidAH {W : World} (h : laidMetH Tryd.prog Rows.agendaOrderlessRow.laid W) : Tab W := by
  rw [MakeChecks.laidMetH_plain _ _ _ (by kernel_rfl)] at h
  exact of_laidA h
theorem door_metA (os : Os) (args : Array Value) : laidMetH Tryd.prog Rows.agendaOrderlessRow.laid ((World.doorLaid Tryd.prog 4000 os).forCall (fun _ _ => 0) ⟨#[], args, []⟩).memory :=
  laidMetH_of_parts3 (fuel := 8) (laidMet_of_run' 8 (by kernel_rfl) (by kernel_rfl)) (by kernel_rfl) (by kernel_rfl)
end Go.Proofs.YtjgigcnjgblekaaDoor

namespace Go.Proofs.YtjgigcnjgblekaaDoor
open Go.ChangeShapes Go.WideShapes Go.ChangeAt Go.RowKit Go.Deep

theorem below_step {w W w' : World} (h : Below w.heap.size w W) (h2 : Below W.heap.size W w') : Below w.heap.size w w' := h.trans (h2.mono h.size)

theorem block_add (a : Addr) (n : Nat) : (a.add n).block = a.block := by unfold Addr.add; split <;> rfl
theorem add_add' (a : Addr) (i j : Nat) : (a.add i).add j = a.add (i + j) := by
  unfold Addr.add
  by_cases hi : i = 0 <;> by_cases hj : j = 0 <;> simp [hi, hj, Nat.add_assoc]
theorem add_none (b off n : Nat) : (Addr.add ⟨b, off, none⟩ n) = ⟨b, off + n, none⟩ := by
  unfold Addr.add
  by_cases h : n = 0 <;> simp [h]

/-- The cells cs lie in block b from place o on. -/
def CsAt (w : World) (b o : Nat) (cs : List Value) : Prop := ∀ j u, cs[j]? = some u → w.cell? ⟨b, o + j, none⟩ = some u
theorem CsAt.below {w w' : World} {B b o : Nat} {cs : List Value} (h : CsAt w b o cs) (hb : Below B w w') (hlt : b < B) : CsAt w' b o cs :=
  fun j u hu => (hb.cell (p := ⟨b, o + j, none⟩) hlt).trans (h j u hu)

/-- A slice at address A with the elements xs, each of sz cells, in a block below B. -/
def SlAt {α : Type} (w : World) (B sz : Nat) (enc : α → List Value) (A : Option Addr) (xs : List α) : Prop :=
  xs = [] ∨ ∃ b off, A = some ⟨b, off, none⟩ ∧ b < B ∧ ∀ i x, xs[i]? = some x → CsAt w b (off + i * sz) (enc x)

theorem SlAt.below {α : Type} {w w' : World} {B sz : Nat} {enc : α → List Value} {A : Option Addr} {xs : List α} (h : SlAt w B sz enc A xs) {B' : Nat} (hb : Below B' w w') (hB : B ≤ B') : SlAt w' B sz enc A xs := by
  rcases h with h | ⟨b, off, hA, hlt, hc⟩
  · exact .inl h
  · exact .inr ⟨b, off, hA, hlt, fun i x hx => (hc i x hx).below hb (by omega)⟩
theorem SlAt.form {α : Type} {w : World} {B sz : Nat} {enc : α → List Value} {A : Option Addr} {xs : List α} (h : SlAt w B sz enc A xs) (hne : 0 < xs.length) :
    ∃ b off, A = some ⟨b, off, none⟩ ∧ b < B ∧ ∀ i x, xs[i]? = some x → CsAt w b (off + i * sz) (enc x) := by
  rcases h with rfl | h
  · simp at hne
  · exact h

/-- A constant's cells. -/
def Cst.cells (c : Cst) : List Value := [.int .i64 c.k, .int .i64 c.n, .string c.s]
def Cst.ok (c : Cst) : Prop := (Lit.int .i64 c.k).wf = true ∧ (Lit.int .i64 c.n).wf = true ∧ c.s.size ≤ maxLen

section
variable {H : Type} {enc : TypeId × Value → H} {P : Program} {w : World} {base : Nat} {spare : Nat → Bool} {held : Bool}

theorem spot_none {w : World} {a : Addr} {v : Value} (h : w.cell? a = some v) : a.spot = none := World.cell?_spot h

/-- The three cells of a constant. -/
theorem open_cst {e : TypeId} {f0 f1 f2 : Field} {fuel : Nat} {cs : List Value} {x : DataW H × List MemPlace} (he : P.underlying e = some (.struct #[f0, f1, f2])) (hone : oneCellFields P #[f0, f1, f2] = true)
    (h0 : P.underlying f0.type = some (.int .i64)) (h1 : P.underlying f1.type = some (.int .i64)) (h2 : P.underlying f2.type = some .string) (hC : P.cellsOf e = 3)
    (h : DataW.trod enc P w base spare held fuel e cs = some x) : ∃ c : Cst, c.ok ∧ cs = c.cells := by
  obtain ⟨ys, n, _, _, hlen, _, hf⟩ := DataW.trod_struct he h
  obtain ⟨o0, k0⟩ := hone_of hone 0 f0 rfl
  obtain ⟨o1, k1⟩ := hone_of hone 1 f1 rfl
  obtain ⟨o2, k2⟩ := hone_of hone 2 f2 rfl
  have g0 := hf 0 f0 rfl
  have g1 := hf 1 f1 rfl
  have g2 := hf 2 f2 rfl
  rw [o0, k0] at g0; rw [o1, k1] at g1; rw [o2, k2] at g2
  rw [hC] at hlen
  obtain ⟨a, b, c, rfl⟩ : ∃ a b c, cs = [a, b, c] := by
    match cs, hlen with
    | [a, b, c], _ => exact ⟨a, b, c, rfl⟩
  simp only [List.drop_zero, List.take_succ_cons, List.take_zero, List.drop_succ_cons] at g0 g1 g2
  have y0 : ∃ y, ys[0]? = some y := by cases hy : ys[0]? with | none => (have := List.getElem?_eq_none_iff.1 hy; simp_all) | some y => exact ⟨y, rfl⟩
  have y1 : ∃ y, ys[1]? = some y := by cases hy : ys[1]? with | none => (have := List.getElem?_eq_none_iff.1 hy; simp_all) | some y => exact ⟨y, rfl⟩
  have y2 : ∃ y, ys[2]? = some y := by cases hy : ys[2]? with | none => (have := List.getElem?_eq_none_iff.1 hy; simp_all) | some y => exact ⟨y, rfl⟩
  obtain ⟨y0, e0⟩ := y0; obtain ⟨y1, e1⟩ := y1; obtain ⟨y2, e2⟩ := y2
  rw [e0] at g0; rw [e1] at g1; rw [e2] at g2
  obtain ⟨k, hk, _, wk⟩ := DataW.trod_int h0 g0
  obtain ⟨m, hm, _, wm⟩ := DataW.trod_int h1 g1
  obtain ⟨s, hs, _, ws⟩ := DataW.trod_string h2 g2
  simp only [List.cons.injEq, and_true] at hk hm hs
  subst hk; subst hm; subst hs
  exact ⟨⟨k, m, s⟩, ⟨wk, wm, ws⟩, rfl⟩

/-- A slice argument, each element of a known make. -/
theorem open_sl {α : Type} {t e : TypeId} {fuel : Nat} {v : Value} {x : DataW H × List MemPlace} {sz : Nat} {cells : α → List Value} {ok : α → Prop} (ht : P.underlying t = some (.slice e)) (hC : P.cellsOf e = sz) (hsz : 0 < sz)
    (hcells : ∀ a, (cells a).length = sz)
    (hel : ∀ (fuel : Nat) (cs : List Value) (x : DataW H × List MemPlace), DataW.trod enc P w base spare held fuel e cs = some x → ∃ a, ok a ∧ cs = cells a)
    (h : DataW.trod enc P w base spare held fuel t [v] = some x) :
    ∃ (A : Option Addr) (cap : Nat) (xs : List α), v = .slice A xs.length cap ∧ xs.length ≤ cap ∧ cap ≤ maxLen ∧ (∀ a ∈ xs, ok a) ∧ SlAt w w.heap.size sz cells A xs := by
  rcases open_slice ht h with ⟨hv, _⟩ | ⟨a, len, cap, m, n, D, Pl, hv, hb, hl, hm, hmm, hx, hi⟩
  · simp only [List.cons.injEq, and_true] at hv
    subst hv
    exact ⟨none, 0, [], rfl, Nat.le_refl _, Nat.zero_le _, by simp, .inl rfl⟩
  · simp only [List.cons.injEq, and_true] at hv
    subst hv
    have hml : len ≤ m := by rw [hmm]; split <;> omega
    have hq : ∀ i, i < len → ∃ a' : α, ok a' ∧ ∀ j u, (cells a')[j]? = some u → w.cell? ((a.add (i * sz)).add j) = some u := by
      intro i hil
      obtain ⟨cs', hc, ht'⟩ := hi i (by omega)
      rw [hC] at hc
      obtain ⟨a', hok, rfl⟩ := hel _ _ _ ht'
      obtain ⟨_, hcl, hat⟩ := World.cells?_some hc
      refine ⟨a', hok, fun j u hu => ?_⟩
      have hj : j < sz := by
        have := (List.getElem?_eq_some_iff.1 hu).1
        rw [hcells] at this; exact this
      rw [hat j hj, hu]
    rcases Nat.eq_zero_or_pos len with h0 | hpos
    · subst h0
      exact ⟨some a, cap, [], rfl, Nat.zero_le _, hm, by simp, .inl rfl⟩
    · have hne : ∃ _ : α, True := by obtain ⟨a', _, _⟩ := hq 0 hpos; exact ⟨a', trivial⟩
      obtain ⟨dflt, _⟩ := hne
      have hch : ∃ f : Nat → α, ∀ i, i < len → ok (f i) ∧ ∀ j u, (cells (f i))[j]? = some u → w.cell? ((a.add (i * sz)).add j) = some u := by
        refine ⟨fun i => if hil : i < len then (hq i hil).choose else dflt, fun i hil => ?_⟩
        simp only [dif_pos hil]
        exact (hq i hil).choose_spec
      obtain ⟨f, hf⟩ := hch
      obtain ⟨b, off, spot⟩ := a
      have hspot : spot = none := by
        have h0 := (hf 0 hpos).2 0 ((cells (f 0))[0]'(by rw [hcells]; exact hsz)) (List.getElem?_eq_getElem _)
        have := spot_none h0
        simpa [Addr.add] using this
      subst hspot
      have hblt : b < w.heap.size := by
        have h0 := (hf 0 hpos).2 0 ((cells (f 0))[0]'(by rw [hcells]; exact hsz)) (List.getElem?_eq_getElem _)
        have := World.block_lt_of_cell? w _ h0
        rwa [block_add, block_add] at this
      refine ⟨some ⟨b, off, none⟩, cap, (List.range len).map f, by simp, by simpa using hl, hm, ?_, .inr ⟨b, off, rfl, hblt, ?_⟩⟩
      · intro a' ha'
        obtain ⟨i, hi', rfl⟩ := List.mem_map.1 ha'
        exact (hf i (List.mem_range.1 hi')).1
      · intro i x hx j u hu
        have hil : i < len := by
          have := (List.getElem?_eq_some_iff.1 hx).1
          simpa using this
        have hx' : f i = x := by simpa [List.getElem?_map, List.getElem?_range hil] using hx
        subst hx'
        have := (hf i hil).2 j u hu
        rw [add_add', add_none] at this
        rw [← this]
        simp [Nat.add_assoc]
end
end Go.Proofs.YtjgigcnjgblekaaDoor

namespace Go.Proofs.YtjgigcnjgblekaaDoor
open Go.ChangeShapes Go.WideShapes Go.ChangeAt Go.RowKit Go.Deep

/-- Within the reach. -/
def InReach {H : Type} (P : Program) (t : TypeId) (d : DataW H) : Prop := ∀ n ∈ d.weights P t, n ≤ reachBytes
def Cst.okR (c : Cst) : Prop := c.ok ∧ c.s.size ≤ 140737488351232

section
variable {H : Type} {enc : TypeId × Value → H} {P : Program} {w : World} {base : Nat} {spare : Nat → Bool} {held : Bool}

theorem reach_each {ts : List TypeId} {ds : List (DataW H)} (h : (DataW.weightsEach P ts ds).all (· ≤ reachBytes) = true) {j : Nat} {t : TypeId} {d : DataW H} (ht : ts[j]? = some t) (hd : ds[j]? = some d) : InReach P t d := by
  intro n hn
  have := List.all_eq_true.1 h n (DataW.weights_mem_each ht hd n hn)
  simpa using this
theorem reach_all {e : TypeId} : ∀ {l : List (DataW H)} {d : DataW H} {n : Nat}, d ∈ l → n ∈ d.weights P e → n ∈ DataW.weightsAll P e l
  | d0 :: l, d, n, hd, hn => by
    simp only [DataW.weightsAll, List.mem_append]
    rcases List.mem_cons.1 hd with rfl | h
    · exact .inl hn
    · exact .inr (reach_all h hn)
theorem reach_slice {t e : TypeId} {elems sp : List (DataW H)} (ht : P.underlying t = some (.slice e)) (h : InReach P t (.slice elems sp)) :
    (elems.length + sp.length) * P.bytesOf e ≤ reachBytes ∧ ∀ d ∈ elems, InReach P e d := by
  unfold InReach at h
  simp only [DataW.weights, ht] at h
  refine ⟨h _ (List.mem_cons_self ..), fun d hd n hn => h n (List.mem_cons_of_mem _ (List.mem_append_left _ (reach_all hd hn)))⟩
theorem reach_struct {t : TypeId} {fs : Array Field} {parts : List (DataW H)} (ht : P.underlying t = some (.struct fs)) (h : InReach P t (.agg parts)) {j : Nat} {f : Field} {d : DataW H} (hf : fs[j]? = some f) (hd : parts[j]? = some d) : InReach P f.type d := by
  intro n hn
  refine h n ?_
  simp only [DataW.weights, ht]
  exact DataW.weights_mem_each (j := j) (t := f.type) (by rw [List.getElem?_map, Array.getElem?_toList, hf]; rfl) hd n hn
theorem reach_string {t : TypeId} {bytes : List UInt8} (h : InReach (H := H) P t (.lit (.string bytes))) : bytes.length ≤ 140737488351232 := by
  have := h bytes.length (by simp [DataW.weights])
  simpa [reachBytes] using this

/-- The three cells of a constant. -/
theorem open_cstR {e : TypeId} {f0 f1 f2 : Field} {fuel : Nat} {cs : List Value} {x : DataW H × List MemPlace} (he : P.underlying e = some (.struct #[f0, f1, f2])) (hone : oneCellFields P #[f0, f1, f2] = true)
    (h0 : P.underlying f0.type = some (.int .i64)) (h1 : P.underlying f1.type = some (.int .i64)) (h2 : P.underlying f2.type = some .string) (hC : P.cellsOf e = 3)
    (h : DataW.trod enc P w base spare held fuel e cs = some x) (hR : InReach P e x.1) : ∃ c : Cst, c.okR ∧ cs = c.cells := by
  obtain ⟨c, hok, hcs⟩ := open_cst he hone h0 h1 h2 hC h
  refine ⟨c, ⟨hok, ?_⟩, hcs⟩
  obtain ⟨ys, n, _, hx, hlen, hyl, hf⟩ := DataW.trod_struct he h
  obtain ⟨o2, k2⟩ := hone_of hone 2 f2 rfl
  have g2 := hf 2 f2 rfl
  rw [o2, k2, hcs] at g2
  simp only [Cst.cells, List.take_succ_cons, List.take_zero, List.drop_succ_cons, List.drop_zero] at g2
  have y2 : ∃ y, ys[2]? = some y := by
    have hl : 2 < ys.length := by rw [hyl]; show 2 < 3; decide
    exact ⟨ys[2], List.getElem?_eq_getElem hl⟩
  obtain ⟨y2, e2⟩ := y2
  rw [e2] at g2
  obtain ⟨s, hs, hy, _⟩ := DataW.trod_string h2 g2
  simp only [List.cons.injEq, and_true, Value.string.injEq] at hs
  rw [hx] at hR
  have := reach_struct he hR (j := 2) (f := f2) (d := y2.1) rfl (by rw [List.getElem?_map, e2]; rfl)
  rw [hy] at this
  have hb := reach_string this
  rw [← hs] at hb
  have e3 : c.s.data.toList.length = c.s.size := by rw [Array.length_toList]; rfl
  omega

/-- A slice argument, each element of a known make. -/
theorem open_slR {α : Type} {t e : TypeId} {fuel : Nat} {v : Value} {x : DataW H × List MemPlace} {sz bytes : Nat} {cells : α → List Value} {ok : α → Prop} (ht : P.underlying t = some (.slice e)) (hC : P.cellsOf e = sz) (hB : P.bytesOf e = bytes) (hsz : 0 < sz)
    (hcells : ∀ a, (cells a).length = sz)
    (hel : ∀ (fuel : Nat) (cs : List Value) (x : DataW H × List MemPlace), DataW.trod enc P w base spare held fuel e cs = some x → InReach P e x.1 → ∃ a, ok a ∧ cs = cells a)
    (h : DataW.trod enc P w base spare held fuel t [v] = some x) (hR : InReach P t x.1) :
    ∃ (A : Option Addr) (cap : Nat) (xs : List α), v = .slice A xs.length cap ∧ xs.length ≤ cap ∧ cap ≤ maxLen ∧ xs.length * bytes ≤ 140737488351232 ∧ (∀ a ∈ xs, ok a) ∧ SlAt w w.heap.size sz cells A xs := by
  rcases open_slice ht h with ⟨hv, _⟩ | ⟨a, len, cap, m, n, D, Pl, hv, hb, hl, hm, hmm, hx, hi⟩
  · simp only [List.cons.injEq, and_true] at hv
    subst hv
    exact ⟨none, 0, [], rfl, Nat.le_refl _, Nat.zero_le _, by simp, by simp, .inl rfl⟩
  · simp only [List.cons.injEq, and_true] at hv
    subst hv
    rw [hx] at hR
    obtain ⟨hR1, hR2⟩ := reach_slice ht hR
    rw [hB] at hR1
    have hlb : len * bytes ≤ 140737488351232 := by
      simp only [List.length_map, List.length_range, reachBytes] at hR1
      exact Nat.le_trans (Nat.mul_le_mul_right _ (by omega)) hR1
    have hml : len ≤ m := by rw [hmm]; split <;> omega
    have hq : ∀ i, i < len → ∃ a' : α, ok a' ∧ ∀ j u, (cells a')[j]? = some u → w.cell? ((a.add (i * sz)).add j) = some u := by
      intro i hil
      obtain ⟨cs', hc, ht'⟩ := hi i (by omega)
      rw [hC] at hc
      obtain ⟨a', hok, rfl⟩ := hel _ _ _ ht' (hR2 _ (List.mem_map.2 ⟨i, List.mem_range.2 hil, rfl⟩))
      obtain ⟨_, hcl, hat⟩ := World.cells?_some hc
      refine ⟨a', hok, fun j u hu => ?_⟩
      have hj : j < sz := by
        have := (List.getElem?_eq_some_iff.1 hu).1
        rw [hcells] at this; exact this
      rw [hat j hj, hu]
    rcases Nat.eq_zero_or_pos len with h0 | hpos
    · subst h0
      exact ⟨some a, cap, [], rfl, Nat.zero_le _, hm, by simp, by simp, .inl rfl⟩
    · have hne : ∃ _ : α, True := by obtain ⟨a', _, _⟩ := hq 0 hpos; exact ⟨a', trivial⟩
      obtain ⟨dflt, _⟩ := hne
      have hch : ∃ f : Nat → α, ∀ i, i < len → ok (f i) ∧ ∀ j u, (cells (f i))[j]? = some u → w.cell? ((a.add (i * sz)).add j) = some u := by
        refine ⟨fun i => if hil : i < len then (hq i hil).choose else dflt, fun i hil => ?_⟩
        simp only [dif_pos hil]
        exact (hq i hil).choose_spec
      obtain ⟨f, hf⟩ := hch
      obtain ⟨b, off, spot⟩ := a
      have hspot : spot = none := by
        have h0 := (hf 0 hpos).2 0 ((cells (f 0))[0]'(by rw [hcells]; exact hsz)) (List.getElem?_eq_getElem _)
        have := spot_none h0
        simpa [Addr.add] using this
      subst hspot
      have hblt : b < w.heap.size := by
        have h0 := (hf 0 hpos).2 0 ((cells (f 0))[0]'(by rw [hcells]; exact hsz)) (List.getElem?_eq_getElem _)
        have := World.block_lt_of_cell? w _ h0
        rwa [block_add, block_add] at this
      refine ⟨some ⟨b, off, none⟩, cap, (List.range len).map f, by simp, by simpa using hl, hm, by simpa using hlb, ?_, .inr ⟨b, off, rfl, hblt, ?_⟩⟩
      · intro a' ha'
        obtain ⟨i, hi', rfl⟩ := List.mem_map.1 ha'
        exact (hf i (List.mem_range.1 hi')).1
      · intro i x hx j u hu
        have hil : i < len := by
          have := (List.getElem?_eq_some_iff.1 hx).1
          simpa using this
        have hx' : f i = x := by simpa [List.getElem?_map, List.getElem?_range hil] using hx
        subst hx'
        have := (hf i hil).2 j u hu
        rw [add_add', add_none] at this
        rw [← this]
        simp [Nat.add_assoc]
end
end Go.Proofs.YtjgigcnjgblekaaDoor
