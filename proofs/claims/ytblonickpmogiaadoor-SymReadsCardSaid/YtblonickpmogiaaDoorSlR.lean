/- The opening of arguments, with the form's own reach: strings and slices are no longer than a process can address. -/
import Derived.Test.YtblonickpmogiaaDoorSl
namespace Go.Proofs.YtblonickpmogiaaDoor
open Go.ChangeShapes Go.WideShapes Go.ChangeAt Go.RowKit Go.Deep

/-- Within the reach. -/
def InReach {H : Type} (P : Program) (t : TypeId) (d : DataW H) : Prop := ∀ n ∈ d.weights P t, n ≤ reachBytes
def Cst.okR (c : Cst) : Prop := c.ok ∧ c.s.size ≤ 140737488351232

section
variable {H : Type} {enc : TypeId × Value → H} {P : Program} {w : World} {base : Nat} {spare : Nat → Bool} {held : Bool}

theorem reach_each {ts : List TypeId} {ds : List (DataW H)} (h : (DataW.weightsEach P ts ds).all (· ≤ reachBytes) = true) {j : Nat} {t : TypeId} {d : DataW H} (ht : ts[j]? = some t) (hd : ds[j]? = some d) : InReach P t d := by
  intro n hn
  have := List.all_eq_true.1 h n (DataW.weights_mem_each ht hd n hn)
  simpa using this
theorem reach_all {e : TypeId} : ∀ {l : List (DataW H)} {d : DataW H} {n : Nat}, d ∈ l → n ∈ d.weights P e → n ∈ DataW.weightsAll P e l
  | d0 :: l, d, n, hd, hn => by
    simp only [DataW.weightsAll, List.mem_append]
    rcases List.mem_cons.1 hd with rfl | h
    · exact .inl hn
    · exact .inr (reach_all h hn)
theorem reach_slice {t e : TypeId} {elems sp : List (DataW H)} (ht : P.underlying t = some (.slice e)) (h : InReach P t (.slice elems sp)) :
    (elems.length + sp.length) * P.bytesOf e ≤ reachBytes ∧ ∀ d ∈ elems, InReach P e d := by
  unfold InReach at h
  simp only [DataW.weights, ht] at h
  refine ⟨h _ (List.mem_cons_self ..), fun d hd n hn => h n (List.mem_cons_of_mem _ (List.mem_append_left _ (reach_all hd hn)))⟩
theorem reach_struct {t : TypeId} {fs : Array Field} {parts : List (DataW H)} (ht : P.underlying t = some (.struct fs)) (h : InReach P t (.agg parts)) {j : Nat} {f : Field} {d : DataW H} (hf : fs[j]? = some f) (hd : parts[j]? = some d) : InReach P f.type d := by
  intro n hn
  refine h n ?_
  simp only [DataW.weights, ht]
  exact DataW.weights_mem_each (j := j) (t := f.type) (by rw [List.getElem?_map, Array.getElem?_toList, hf]; rfl) hd n hn
theorem reach_string {t : TypeId} {bytes : List UInt8} (h : InReach (H := H) P t (.lit (.string bytes))) : bytes.length ≤ 140737488351232 := by
  have := h bytes.length (by simp [DataW.weights])
  simpa [reachBytes] using this

/-- The three cells of a constant. -/
theorem open_cstR {e : TypeId} {f0 f1 f2 : Field} {fuel : Nat} {cs : List Value} {x : DataW H × List MemPlace} (he : P.underlying e = some (.struct #[f0, f1, f2])) (hone : oneCellFields P #[f0, f1, f2] = true)
    (h0 : P.underlying f0.type = some (.int .i64)) (h1 : P.underlying f1.type = some (.int .i64)) (h2 : P.underlying f2.type = some .string) (hC : P.cellsOf e = 3)
    (h : DataW.trod enc P w base spare held fuel e cs = some x) (hR : InReach P e x.1) : ∃ c : Cst, c.okR ∧ cs = c.cells := by
  obtain ⟨c, hok, hcs⟩ := open_cst he hone h0 h1 h2 hC h
  refine ⟨c, ⟨hok, ?_⟩, hcs⟩
  obtain ⟨ys, n, _, hx, hlen, hyl, hf⟩ := DataW.trod_struct he h
  obtain ⟨o2, k2⟩ := hone_of hone 2 f2 rfl
  have g2 := hf 2 f2 rfl
  rw [o2, k2, hcs] at g2
  simp only [Cst.cells, List.take_succ_cons, List.take_zero, List.drop_succ_cons, List.drop_zero] at g2
  have y2 : ∃ y, ys[2]? = some y := by
    have hl : 2 < ys.length := by rw [hyl]; show 2 < 3; decide
    exact ⟨ys[2], List.getElem?_eq_getElem hl⟩
  obtain ⟨y2, e2⟩ := y2
  rw [e2] at g2
  obtain ⟨s, hs, hy, _⟩ := DataW.trod_string h2 g2
  simp only [List.cons.injEq, and_true, Value.string.injEq] at hs
  rw [hx] at hR
  have := reach_struct he hR (j := 2) (f := f2) (d := y2.1) rfl (by rw [List.getElem?_map, e2]; rfl)
  rw [hy] at this
  have hb := reach_string this
  rw [← hs] at hb
  have e3 : c.s.data.toList.length = c.s.size := by rw [Array.length_toList]; rfl
  omega

/-- A slice argument, each element of a known make. -/
theorem open_slR {α : Type} {t e : TypeId} {fuel : Nat} {v : Value} {x : DataW H × List MemPlace} {sz bytes : Nat} {cells : α → List Value} {ok : α → Prop} (ht : P.underlying t = some (.slice e)) (hC : P.cellsOf e = sz) (hB : P.bytesOf e = bytes) (hsz : 0 < sz)
    (hcells : ∀ a, (cells a).length = sz)
    (hel : ∀ (fuel : Nat) (cs : List Value) (x : DataW H × List MemPlace), DataW.trod enc P w base spare held fuel e cs = some x → InReach P e x.1 → ∃ a, ok a ∧ cs = cells a)
    (h : DataW.trod enc P w base spare held fuel t [v] = some x) (hR : InReach P t x.1) :
    ∃ (A : Option Addr) (cap : Nat) (xs : List α), v = .slice A xs.length cap ∧ xs.length ≤ cap ∧ cap ≤ maxLen ∧ xs.length * bytes ≤ 140737488351232 ∧ (∀ a ∈ xs, ok a) ∧ SlAt w w.heap.size sz cells A xs := by
  rcases open_slice ht h with ⟨hv, _⟩ | ⟨a, len, cap, m, n, D, Pl, hv, hb, hl, hm, hmm, hx, hi⟩
  · simp only [List.cons.injEq, and_true] at hv
    subst hv
    exact ⟨none, 0, [], rfl, Nat.le_refl _, Nat.zero_le _, by simp, by simp, .inl rfl⟩
  · simp only [List.cons.injEq, and_true] at hv
    subst hv
    rw [hx] at hR
    obtain ⟨hR1, hR2⟩ := reach_slice ht hR
    rw [hB] at hR1
    have hlb : len * bytes ≤ 140737488351232 := by
      simp only [List.length_map, List.length_range, reachBytes] at hR1
      exact Nat.le_trans (Nat.mul_le_mul_right _ (by omega)) hR1
    have hml : len ≤ m := by rw [hmm]; split <;> omega
    have hq : ∀ i, i < len → ∃ a' : α, ok a' ∧ ∀ j u, (cells a')[j]? = some u → w.cell? ((a.add (i * sz)).add j) = some u := by
      intro i hil
      obtain ⟨cs', hc, ht'⟩ := hi i (by omega)
      rw [hC] at hc
      obtain ⟨a', hok, rfl⟩ := hel _ _ _ ht' (hR2 _ (List.mem_map.2 ⟨i, List.mem_range.2 hil, rfl⟩))
      obtain ⟨_, hcl, hat⟩ := World.cells?_some hc
      refine ⟨a', hok, fun j u hu => ?_⟩
      have hj : j < sz := by
        have := (List.getElem?_eq_some_iff.1 hu).1
        rw [hcells] at this; exact this
      rw [hat j hj, hu]
    rcases Nat.eq_zero_or_pos len with h0 | hpos
    · subst h0
      exact ⟨some a, cap, [], rfl, Nat.zero_le _, hm, by simp, by simp, .inl rfl⟩
    · have hne : ∃ _ : α, True := by obtain ⟨a', _, _⟩ := hq 0 hpos; exact ⟨a', trivial⟩
      obtain ⟨dflt, _⟩ := hne
      have hch : ∃ f : Nat → α, ∀ i, i < len → ok (f i) ∧ ∀ j u, (cells (f i))[j]? = some u → w.cell? ((a.add (i * sz)).add j) = some u := by
        refine ⟨fun i => if hil : i < len then (hq i hil).choose else dflt, fun i hil => ?_⟩
        simp only [dif_pos hil]
        exact (hq i hil).choose_spec
      obtain ⟨f, hf⟩ := hch
      obtain ⟨b, off, spot⟩ := a
      have hspot : spot = none := by
        have h0 := (hf 0 hpos).2 0 ((cells (f 0))[0]'(by rw [hcells]; exact hsz)) (List.getElem?_eq_getElem _)
        have := spot_none h0
        simpa [Addr.add] using this
      subst hspot
      have hblt : b < w.heap.size := by
        have h0 := (hf 0 hpos).2 0 ((cells (f 0))[0]'(by rw [hcells]; exact hsz)) (List.getElem?_eq_getElem _)
        have := World.block_lt_of_cell? w _ h0
        rwa [block_add, block_add] at this
      refine ⟨some ⟨b, off, none⟩, cap, (List.range len).map f, by simp, by simpa using hl, hm, by simpa using hlb, ?_, .inr ⟨b, off, rfl, hblt, ?_⟩⟩
      · intro a' ha'
        obtain ⟨i, hi', rfl⟩ := List.mem_map.1 ha'
        exact (hf i (List.mem_range.1 hi')).1
      · intro i x hx j u hu
        have hil : i < len := by
          have := (List.getElem?_eq_some_iff.1 hx).1
          simpa using this
        have hx' : f i = x := by simpa [List.getElem?_map, List.getElem?_range hil] using hx
        subst hx'
        have := (hf i hil).2 j u hu
        rw [add_add', add_none] at this
        rw [← this]
        simp [Nat.add_assoc]
end
end Go.Proofs.YtblonickpmogiaaDoor
