/- `joined` of the law package: lists appended whole, marks in lists. -/
import Derived.Test.YtonkbjdeaneicaaKpo20
namespace Go.Proofs.Ytonkbjdeaneicaa
open Go Go.RowKit

section
variable {P : Program}
theorem run_append_rows (w : World) (t ty : TypeId) (base lo : Nat) (e : TypeId) (i : TypeInfo) (z : Value) (size bytes : Nat) (ht : P.underlying t = some (.slice e)) (hi : P.info? e = some i) (hz : i.zero = some z)
    (hsize : i.size = size) (hby : i.bytes = bytes) (hzs : z.cells.size = size) (hsz : 0 < size)
    (v : Value) (n : Nat) (xs : List Value) (hown : w.ownsRow base e size v n xs) (u : Value) (m : Nat) (news : List Value) (hu : w.ownsRow lo e size u m news) (h1 : ∀ u ∈ news, u.oneCell' = true)
    (hn : n ≤ 400000000) (hm : m ≤ 400000000) (hb : bytes ≤ 1000) (hbase : base ≤ w.heap.size) :
    ∃ v' w', (Builtin.append_ #[t, t] ty #[v, u]).run P w = .ok v' w' ∧ w'.ownsRow base e size v' (n + m) (xs ++ news) ∧ w.grownBy w' v.ownBlock ∧ (v'.ownBlock = v.ownBlock ∨ v'.ownBlock = some w.heap.size) := by
  have h63 : n + m ≤ maxLen := by unfold maxLen; omega
  have hbytes : (n + m) * bytes ≤ 140737488355328 := Nat.le_trans (Nat.mul_le_mul (show n + m ≤ 800000000 by omega) hb) (by decide)
  rcases hu.2 with ⟨rfl, rfl⟩ | ⟨g, cap, cur, rfl, _, _, _, _, _, _⟩
  · have hn0 : news = [] := List.eq_nil_of_length_eq_zero (by simpa using hu.1)
    subst hn0
    refine ⟨v, w, ?_, by simpa using hown, ⟨rfl, rfl, rfl, Nat.le_refl _, fun _ _ _ => rfl⟩, .inl rfl⟩
    rcases hown.2 with ⟨rfl, rfl⟩ | ⟨g, cap, cur, rfl, _, _, hnc, _⟩
    · simp [Builtin.append_, run_underlying ht, sizeOf, typeInfo, hi, Builtin.lenOf, Builtin.firstCells, loadCells, loadCellsFrom]
    · simp [Builtin.append_, run_underlying ht, sizeOf, typeInfo, hi, Builtin.lenOf, Builtin.firstCells, loadCells, loadCellsFrom, storeCells, hnc]
  · obtain ⟨v', w', hr, h2, h3, _, h5⟩ := run_append_own_at (P := P) w base t ty e i z size bytes ht hi hz hsize hby hzs hsz v n xs hown ⟨g, 0, none⟩ m cap news hu.1 (hu.cells (g := g) rfl) h1 h63 hbytes hbase
    exact ⟨v', w', hr, h2, h3, h5⟩
theorem step_append_rows {w : World} {ops : Array Oper} {o : Oper} {a : Act} {K : Act → World → Prop} {Q : Exit → Act → World → Prop} {E : Prop} {base lo : Nat} {e : TypeId} {size n m : Nat} {v u : Value} {xs news : List Value}
    (hown : w.ownsRow base e size v n xs) (hu : w.ownsRow lo e size u m news) (hgd : o.guard = none) (s x : Operand) (t : TypeId)
    (ho : o.op = .call { callee := .builtin .append, args := #[s, x], argTypes := #[t, t] }) {z : Value} {bytes : Nat} (ht : P.underlying t = some (.slice e)) (hi : (P.info? e).map (fun i => (i.zero, i.size, i.bytes)) = some (some z, size, bytes))
    (hzs : z.cells.size = size) (hsz : 0 < size) (hs : a.eval s = v) (hx : a.eval x = u) (h1 : ∀ u ∈ news, u.oneCell' = true)
    (hn : n ≤ 400000000) (hm : m ≤ 400000000) (hb : bytes ≤ 1000) (hbase : base ≤ w.heap.size)
    (k : ∀ v' w', w'.ownsRow base e size v' (n + m) (xs ++ news) → Turns v.ownBlock.toList w w' → K (a.put o.dst v') w') :
    if Region.wanted o (yielded ops a.tmps) = true then Oper.wp P o a w.drew K Q else E := by
  have hw : Region.wanted o (yielded ops a.tmps) = true := by simp [Region.wanted, hgd]
  rw [if_pos hw]
  obtain ⟨i0, hi0, hz0, hz1, hz2⟩ := info_parts hi
  have T0 : Turns ([] : List Nat) w w.drew := (Turns.refl [] w).drew
  obtain ⟨v', w', hr, h2, h3, _⟩ := run_append_rows (P := P) w.drew t o.type base lo e i0 z size bytes ht hi0 hz0 hz1 hz2 hzs hsz v n xs (ownsRow_turns hown T0 (fun _ _ => by simp)) u m news (ownsRow_turns hu T0 (fun _ _ => by simp)) h1 hn hm hb (by simpa using hbase)
  unfold Oper.wp execOp
  simp only [ho, resolve, invoke, builtin, Sem.run_bind, Sem.run_pure, Result.andThen_ok, List.map_toArray, List.map_cons, List.map_nil, hs, hx, hr]
  exact k v' w' h2 ((T0.mono (by simp)).trans (Turns.of_grown h3) (fun x hx => .inl hx))
theorem step_append_raw {w : World} {ops : Array Oper} {o : Oper} {a : Act} {K : Act → World → Prop} {Q : Exit → Act → World → Prop} {E : Prop} {B : Nat} {e : TypeId} {size n : Nat} {v : Value} {xs : List Value}
    (h0 : w.ownsRow B e size v n xs) (hgd : o.guard = none) (s q : Operand) (t : TypeId)
    (ho : o.op = .call { callee := .builtin .append, args := #[s, q], argTypes := #[t, t] }) {z : Value} {bytes c H : Nat} (ht : P.underlying t = some (.slice e)) (hi : (P.info? e).map (fun i => (i.zero, i.size, i.bytes)) = some (some z, size, bytes))
    (hzs : z.cells.size = size) (hsz : 0 < size) (hs : a.eval s = v) (ncs : Array Value) (T : TypeId) (hq : a.eval q = .slice (some ⟨H, 0, none⟩) 1 c) (hH : w.heap.size = H)
    (hln : ncs.toList.length = size) (hone : ∀ u ∈ ncs.toList, u.oneCell' = true) (hn : n ≤ 400000000) (hb : bytes ≤ 1000) (hB : B ≤ w.heap.size)
    (k : ∀ g cap w', w'.ownsRow B e size (.slice (some ⟨g, 0, none⟩) (n + 1) cap) (n + 1) (xs ++ ncs.toList) → Turns v.ownBlock.toList w w' →
      K (a.put o.dst (.slice (some ⟨g, 0, none⟩) (n + 1) cap)) w') : if Region.wanted o (yielded ops a.tmps) = true then Oper.wp P o a (w.alloc (.cells ncs T)).drew K Q else E := by
  subst hH
  obtain ⟨i0, hi0, hz0, hz1, hz2⟩ := info_parts hi
  have hbl : Below w.heap.size w (w.alloc (.cells ncs T)).drew := ((Below.refl w.heap.size w).alloc (Nat.le_refl _) (.cells ncs T)).drew
  have h1 := ownsRow_turns h0 (Turns.of_below (S := []) hbl) (fun _ _ => by simp)
  have hby : (n + 1) * bytes ≤ 140737488355328 := Nat.le_trans (Nat.mul_le_mul (show n + 1 ≤ 800000000 by omega) hb) (by decide)
  refine step_append_lies (w.alloc (.cells ncs T)).drew hgd s q t ho B e i0 z size bytes ht hi0 hz0 hz1 hz2 hzs hsz v n xs hs h1 ⟨w.heap.size, 0, none⟩ 1 c ncs.toList hq (by rw [hln, Nat.one_mul]) ?_ hone (by decide) (by unfold maxLen; omega) hby (by simp; omega) _ rfl ?_
  · exact World.news_of_block (heap_alloc_new w (.cells ncs T))
  · intro g cap w' hown hgrow _ _
    exact k g cap w' hown (((((Turns.refl [] w).alloc (.cells ncs T)).drew).mono (by simp)).trans (Turns.of_grown hgrow) (fun x hx => .inl hx))
end

/-- v's row has room for n elements; the first k carry the mark c. -/
def Mk (w : World) (v : Value) (T : TypeId) (sz n k : Nat) (c : Int) : Prop :=
  ∀ b, v.ownBlock = some b → ∃ cur, w.heap[b]? = some (.cells cur T (0, 0)) ∧ n * sz ≤ cur.size ∧ ∀ j, j < k → cur[j * sz]? = some (.int .i64 c)
section
variable {w w' : World} {v : Value} {T : TypeId} {sz n k : Nat} {c : Int}
theorem Mk.start {lo : Nat} {xs : List Value} (h : w.ownsRow lo T sz v n xs) : Mk w v T sz n 0 c := by
  intro b hb
  rcases h.2 with ⟨rfl, _⟩ | ⟨g, cap, cur, rfl, _, hg, hnc, _, hcs, _⟩
  · simp [Value.ownBlock] at hb
  · obtain rfl : g = b := by simpa [Value.ownBlock] using hb
    exact ⟨cur, hg, by rw [hcs]; exact Nat.mul_le_mul_right _ hnc, fun j hj => by omega⟩
theorem Mk.keep (h : Mk w v T sz n k c) (hb : ∀ b, v.ownBlock = some b → w'.heap[b]? = w.heap[b]?) : Mk w' v T sz n k c := by
  intro b e
  obtain ⟨cur, h1, h2, h3⟩ := h b e
  exact ⟨cur, (hb b e).trans h1, h2, h3⟩
theorem Mk.lt (h : Mk w v T sz n k c) {b : Nat} (hb : v.ownBlock = some b) : b < w.heap.size := by
  obtain ⟨cur, h1, _⟩ := h b hb
  exact lt_of_heap h1
theorem Mk.fz (h : Mk w v T sz n k c) {b : Nat} (hb : v.ownBlock = some b) (o : Nat) : w.frozen? ⟨b, o, none⟩ = false := by
  obtain ⟨cur, h1, _⟩ := h b hb
  exact frozen_of_row _ _ _ _ _ h1
theorem Mk.is (h : Mk w v T sz n k c) {b : Nat} (hb : v.ownBlock = some b) {o : Nat} (ho : o < n * sz) : ∃ u, w.cell? ⟨b, o, none⟩ = some u := by
  obtain ⟨cur, h1, h2, _⟩ := h b hb
  exact ⟨cur[o]'(by omega), (cell_of_row _ _ o _ _ _ h1).trans (Array.getElem?_eq_getElem (by omega))⟩
theorem Mk.at (h : Mk w v T sz n k c) {b : Nat} (hb : v.ownBlock = some b) {j : Nat} (hj : j < k) : w.cell? ⟨b, j * sz, none⟩ = some (.int .i64 c) := by
  obtain ⟨cur, h1, _, h3⟩ := h b hb
  exact (cell_of_row _ _ _ _ _ _ h1).trans (h3 j hj)
theorem Mk.head (h : Mk w v T sz n k c) {b : Nat} (hb : v.ownBlock = some b) (hk : k < n) (h0 : 0 < sz) : Mk (w.setCell ⟨b, k * sz, none⟩ (.int .i64 c)) v T sz n (k + 1) c := by
  intro b' e
  obtain rfl : b' = b := by rw [hb] at e; exact (Option.some.inj e).symm
  obtain ⟨cur, h1, h2, h3⟩ := h b' hb
  have hlt : k * sz < cur.size := Nat.lt_of_lt_of_le (Nat.mul_lt_mul_of_pos_right hk h0) h2
  refine ⟨_, heap_setCell_same _ _ _ _ _ _ h1, by simpa using h2, fun j hj => ?_⟩
  by_cases e : j = k
  · rw [e, Array.getElem?_setIfInBounds_self_of_lt hlt]
  · rw [Array.getElem?_setIfInBounds_ne (fun x => e (Nat.eq_of_mul_eq_mul_right h0 x).symm)]
    exact h3 j (by omega)
theorem Mk.rest (h : Mk w v T sz n k c) {b : Nat} (hb : v.ownBlock = some b) (q : Nat) {d : Nat} (h0 : 0 < d) (hd : d < sz) (u : Value) : Mk (w.setCell ⟨b, q * sz + d, none⟩ u) v T sz n k c := by
  intro b' e
  obtain rfl : b' = b := by rw [hb] at e; exact (Option.some.inj e).symm
  obtain ⟨cur, h1, h2, h3⟩ := h b' hb
  refine ⟨_, heap_setCell_same _ _ _ _ _ _ h1, by simpa using h2, fun j hj => ?_⟩
  rw [Array.getElem?_setIfInBounds_ne (fun x => ?_)]
  · exact h3 j hj
  · have e1 := congrArg (· % sz) x
    simp only [Nat.mul_add_mod', Nat.mul_mod_left, Nat.mod_eq_of_lt hd] at e1
    omega
end
/-- The lists that came in, with marks on the first ones. -/
structure JO (w : World) (A N : Nat → Value) (la ln ka kn : Nat → Nat) : Prop where
  a : ∀ i, i < 3 → Mk w (A i) 79 2 (la i) (ka i) (-1 - (i : Int))
  n : ∀ i, i < 3 → Mk w (N i) 54 11 (ln i) (kn i) (-1 - (i : Int))
/-- No two of them share a row. -/
structure JAp (A N : Nat → Value) : Prop where
  a : ∀ i j b, i < 3 → j < 3 → (A i).ownBlock = some b → (A j).ownBlock = some b → i = j
  n : ∀ i j b, i < 3 → j < 3 → (N i).ownBlock = some b → (N j).ownBlock = some b → i = j
section
variable {w w' : World} {A N : Nat → Value} {la ln ka kn ka' kn' : Nat → Nat}
theorem JO.keep (h : JO w A N la ln ka kn) (ha : ∀ i b, i < 3 → (A i).ownBlock = some b → w'.heap[b]? = w.heap[b]?) (hn : ∀ i b, i < 3 → (N i).ownBlock = some b → w'.heap[b]? = w.heap[b]?) : JO w' A N la ln ka kn :=
  ⟨fun i hi => (h.a i hi).keep (fun b hb => ha i b hi hb), fun i hi => (h.n i hi).keep (fun b hb => hn i b hi hb)⟩
theorem JO.congr (h : JO w A N la ln ka kn) (ha : ∀ i, i < 3 → ka' i = ka i) (hn : ∀ i, i < 3 → kn' i = kn i) : JO w A N la ln ka' kn' :=
  ⟨fun i hi => by rw [ha i hi]; exact h.a i hi, fun i hi => by rw [hn i hi]; exact h.n i hi⟩
theorem JO.ne (h : JO w A N la ln ka kn) {i j b : Nat} (hi : i < 3) (hj : j < 3) (ha : (A i).ownBlock = some b) : (N j).ownBlock ≠ some b := by
  intro hn
  obtain ⟨c1, h1, _⟩ := h.a i hi b ha
  obtain ⟨c2, h2, _⟩ := h.n j hj b hn
  rw [h1] at h2
  simp at h2
theorem other_block {w : World} {b b' o : Nat} {u : Value} (h : b' ≠ b) : (w.setCell ⟨b, o, none⟩ u).heap[b']? = w.heap[b']? := Below.heap_setCell w ⟨b, o, none⟩ u b' h
theorem JO.headA (h : JO w A N la ln ka kn) (hp : JAp A N) {i b j : Nat} (hi : i < 3) (hb : (A i).ownBlock = some b) (hj : ka i = j) (hk : j < la i) (h1 : ka' i = j + 1) (h2 : ∀ q, q ≠ i → ka' q = ka q) : JO (w.setCell ⟨b, j * 2, none⟩ (.int .i64 (-1 - (i : Int)))) A N la ln ka' kn := by
  subst hj
  refine ⟨fun q hq => ?_, fun q hq => ?_⟩
  · by_cases e : q = i
    · subst e; rw [h1]; exact (h.a q hq).head hb hk (by decide)
    · rw [h2 q e]
      exact (h.a q hq).keep (fun b' hb' => other_block (fun x => e (hp.a q i b hq hi (x ▸ hb') hb)))
  · exact (h.n q hq).keep (fun b' hb' => other_block (fun x => h.ne hi hq hb (x ▸ hb')))
theorem JO.restA (h : JO w A N la ln ka kn) (hp : JAp A N) {i b : Nat} (hi : i < 3) (hb : (A i).ownBlock = some b) (q : Nat) {d : Nat} (h0 : 0 < d) (hd : d < 2) (u : Value) : JO (w.setCell ⟨b, q * 2 + d, none⟩ u) A N la ln ka kn := by
  refine ⟨fun q hq => ?_, fun q hq => ?_⟩
  · by_cases e : q = i
    · subst e; exact (h.a q hq).rest hb _ h0 hd u
    · exact (h.a q hq).keep (fun b' hb' => other_block (fun x => e (hp.a q i b hq hi (x ▸ hb') hb)))
  · exact (h.n q hq).keep (fun b' hb' => other_block (fun x => h.ne hi hq hb (x ▸ hb')))
theorem JO.headN (h : JO w A N la ln ka kn) (hp : JAp A N) {i b j : Nat} (hi : i < 3) (hb : (N i).ownBlock = some b) (hj : kn i = j) (hk : j < ln i) (h1 : kn' i = j + 1) (h2 : ∀ q, q ≠ i → kn' q = kn q) : JO (w.setCell ⟨b, j * 11, none⟩ (.int .i64 (-1 - (i : Int)))) A N la ln ka kn' := by
  subst hj
  refine ⟨fun q hq => ?_, fun q hq => ?_⟩
  · exact (h.a q hq).keep (fun b' hb' => other_block (fun x => h.ne hq hi (x ▸ hb') hb))
  · by_cases e : q = i
    · subst e; rw [h1]; exact (h.n q hq).head hb hk (by decide)
    · rw [h2 q e]
      exact (h.n q hq).keep (fun b' hb' => other_block (fun x => e (hp.n q i b hq hi (x ▸ hb') hb)))
theorem JO.restN (h : JO w A N la ln ka kn) (hp : JAp A N) {i b : Nat} (hi : i < 3) (hb : (N i).ownBlock = some b) (q : Nat) {d : Nat} (h0 : 0 < d) (hd : d < 11) (u : Value) : JO (w.setCell ⟨b, q * 11 + d, none⟩ u) A N la ln ka kn := by
  refine ⟨fun q hq => ?_, fun q hq => ?_⟩
  · exact (h.a q hq).keep (fun b' hb' => other_block (fun x => h.ne hq hi (x ▸ hb') hb))
  · by_cases e : q = i
    · subst e; exact (h.n q hq).rest hb _ h0 hd u
    · exact (h.n q hq).keep (fun b' hb' => other_block (fun x => e (hp.n q i b hq hi (x ▸ hb') hb)))
end
/-- The six blocks. -/
def jS (A N : Nat → Value) : List Nat := (A 0).ownBlock.toList ++ ((A 1).ownBlock.toList ++ ((A 2).ownBlock.toList ++ ((N 0).ownBlock.toList ++ ((N 1).ownBlock.toList ++ (N 2).ownBlock.toList))))
theorem jS_a {A N : Nat → Value} {i b : Nat} (hi : i < 3) (h : (A i).ownBlock = some b) : b ∈ jS A N := by
  have : i = 0 ∨ i = 1 ∨ i = 2 := by omega
  rcases this with rfl | rfl | rfl <;> simp [jS, h]
theorem jS_n {A N : Nat → Value} {i b : Nat} (hi : i < 3) (h : (N i).ownBlock = some b) : b ∈ jS A N := by
  have : i = 0 ∨ i = 1 ∨ i = 2 := by omega
  rcases this with rfl | rfl | rfl <;> simp [jS, h]
theorem jS_cases {A N : Nat → Value} {b : Nat} (h : b ∈ jS A N) : (∃ i, i < 3 ∧ (A i).ownBlock = some b) ∨ (∃ i, i < 3 ∧ (N i).ownBlock = some b) := by
  simp only [jS, List.mem_append, Option.mem_toList] at h
  rcases h with h | h | h | h | h | h
  · exact .inl ⟨0, by decide, h⟩
  · exact .inl ⟨1, by decide, h⟩
  · exact .inl ⟨2, by decide, h⟩
  · exact .inr ⟨0, by decide, h⟩
  · exact .inr ⟨1, by decide, h⟩
  · exact .inr ⟨2, by decide, h⟩
/-- The boxes of `joined`, and the plan that grows. -/
structure JB (W : World) (A N E : Nat → Value) (w : World) (pa pn : Value) (ma mn : Nat) (ya yn : List Value) : Prop where
  sz : W.heap.size + 1 + 1 + 1 + 1 + 1 + 1 ≤ w.heap.size
  b6 : w.heap[W.heap.size + 1 + 1 + 1]? = some (.cells #[.slice none 0 0, .slice none 0 0, .slice none 0 0] 27 (0, 0))
  b7 : w.heap[W.heap.size + 1 + 1 + 1 + 1]? = some (.cells #[pa, pn, .slice none 0 0] 27 (0, 0))
  b8 : w.heap[W.heap.size + 1 + 1 + 1 + 1 + 1]? = some (.cells #[A 0, N 0, E 0, A 1, N 1, E 1, A 2, N 2, E 2] 84 (0, 0))
  pa : w.ownsRow (W.heap.size + 1 + 1 + 1 + 1 + 1 + 1) 79 2 pa ma ya
  pn : w.ownsRow (W.heap.size + 1 + 1 + 1 + 1 + 1 + 1) 54 11 pn mn yn
section
variable {W w w' w3 : World} {A N E : Nat → Value} {pa pn pa' pn' : Value} {ma mn ma' mn' : Nat} {ya yn ya' yn' : List Value}
theorem JB.turns (h : JB W A N E w pa pn ma mn ya yn) {S : List Nat} (ht : Turns S w w') (hS : ∀ b ∈ S, b < W.heap.size) : JB W A N E w' pa pn ma mn ya yn := by
  have hs := ht.size
  have hsz := h.sz
  have far : ∀ b, W.heap.size ≤ b → b ∉ S := fun b hb hm => by have := hS b hm; omega
  refine ⟨Nat.le_trans hsz hs, (ht.block _ (by omega) (far _ (by omega))).trans h.b6, (ht.block _ (by omega) (far _ (by omega))).trans h.b7, (ht.block _ (by omega) (far _ (by omega))).trans h.b8, ?_, ?_⟩
  · exact ownsRow_turns h.pa ht (fun b hb => far b (by have := (ownBlock_cells h.pa hb).1; omega))
  · exact ownsRow_turns h.pn ht (fun b hb => far b (by have := (ownBlock_cells h.pn hb).1; omega))
theorem JB.at8 (h : JB W A N E w pa pn ma mn ya yn) {k : Nat} (hk : k < 3) : w.cell? ⟨W.heap.size + 1 + 1 + 1 + 1 + 1, k * 3, none⟩ = some (A k) ∧ w.cell? ⟨W.heap.size + 1 + 1 + 1 + 1 + 1, k * 3 + 1, none⟩ = some (N k) ∧ w.cell? ⟨W.heap.size + 1 + 1 + 1 + 1 + 1, k * 3 + 2, none⟩ = some (E k) := by
  have : k = 0 ∨ k = 1 ∨ k = 2 := by omega
  rcases this with rfl | rfl | rfl
  · exact ⟨(cell_of_row _ _ 0 _ _ _ h.b8).trans rfl, (cell_of_row _ _ 1 _ _ _ h.b8).trans rfl, (cell_of_row _ _ 2 _ _ _ h.b8).trans rfl⟩
  · exact ⟨(cell_of_row _ _ 3 _ _ _ h.b8).trans rfl, (cell_of_row _ _ 4 _ _ _ h.b8).trans rfl, (cell_of_row _ _ 5 _ _ _ h.b8).trans rfl⟩
  · exact ⟨(cell_of_row _ _ 6 _ _ _ h.b8).trans rfl, (cell_of_row _ _ 7 _ _ _ h.b8).trans rfl, (cell_of_row _ _ 8 _ _ _ h.b8).trans rfl⟩
theorem JB.at7 (h : JB W A N E w pa pn ma mn ya yn) : w.cell? ⟨W.heap.size + 1 + 1 + 1 + 1, 0, none⟩ = some pa ∧ w.cell? ⟨W.heap.size + 1 + 1 + 1 + 1, 1, none⟩ = some pn ∧ w.cell? ⟨W.heap.size + 1 + 1 + 1 + 1, 2, none⟩ = some (.slice none 0 0) :=
  ⟨(cell_of_row _ _ 0 _ _ _ h.b7).trans rfl, (cell_of_row _ _ 1 _ _ _ h.b7).trans rfl, (cell_of_row _ _ 2 _ _ _ h.b7).trans rfl⟩
theorem JB.at6 (h : JB W A N E w pa pn ma mn ya yn) : w.cell? ⟨W.heap.size + 1 + 1 + 1, 0, none⟩ = some (.slice none 0 0) ∧ w.cell? ⟨W.heap.size + 1 + 1 + 1, 1, none⟩ = some (.slice none 0 0) ∧ w.cell? ⟨W.heap.size + 1 + 1 + 1, 2, none⟩ = some (.slice none 0 0) :=
  ⟨(cell_of_row _ _ 0 _ _ _ h.b6).trans rfl, (cell_of_row _ _ 1 _ _ _ h.b6).trans rfl, (cell_of_row _ _ 2 _ _ _ h.b6).trans rfl⟩
theorem JB.ne (h : JB W A N E w pa pn ma mn ya yn) {b : Nat} (ha : pa.ownBlock = some b) : pn.ownBlock ≠ some b := by
  intro hn
  obtain ⟨_, _, c1, h1⟩ := ownBlock_cells h.pa ha
  obtain ⟨_, _, c2, h2⟩ := ownBlock_cells h.pn hn
  rw [h1] at h2
  simp at h2
theorem JB.growA (h : JB W A N E w pa pn ma mn ya yn) (ho : w3.ownsRow (W.heap.size + 1 + 1 + 1 + 1 + 1 + 1) 79 2 pa' ma' ya') (ht : Turns pa.ownBlock.toList w w3) : JB W A N E (w3.setCell ⟨W.heap.size + 1 + 1 + 1 + 1, 0, none⟩ pa') pa' pn ma' mn ya' yn := by
  have hs := ht.size
  have hsz := h.sz
  have mem : ∀ {b : Nat}, b ∈ pa.ownBlock.toList → pa.ownBlock = some b := fun hb => by simpa using hb
  have far : ∀ b, b < W.heap.size + 1 + 1 + 1 + 1 + 1 + 1 → b ∉ pa.ownBlock.toList := fun b hb hm => by have := (ownBlock_cells h.pa (mem hm)).1; omega
  have T : Turns [W.heap.size + 1 + 1 + 1 + 1] w3 (w3.setCell ⟨W.heap.size + 1 + 1 + 1 + 1, 0, none⟩ pa') := (Turns.refl _ _).setCell (.inl (by simp)) _
  have e7 := (ht.block _ (show W.heap.size + 1 + 1 + 1 + 1 < w.heap.size by omega) (far _ (by omega))).trans h.b7
  refine ⟨by simp; omega, ?_, ?_, ?_, ?_, ?_⟩
  · exact (other_block (by omega)).trans ((ht.block _ (by omega) (far _ (by omega))).trans h.b6)
  · have := heap_setCell_same _ _ 0 _ _ pa' e7
    simpa using this
  · exact (other_block (by omega)).trans ((ht.block _ (by omega) (far _ (by omega))).trans h.b8)
  · exact ownsRow_turns ho T (fun b hb => by have := (ownBlock_cells ho hb).1; simp only [List.mem_singleton]; omega)
  · exact ownsRow_turns (ownsRow_turns h.pn ht (fun b hb hm => h.ne (mem hm) hb)) T (fun b hb => by have := (ownBlock_cells h.pn hb).1; simp only [List.mem_singleton]; omega)
theorem JB.growN (h : JB W A N E w pa pn ma mn ya yn) (ho : w3.ownsRow (W.heap.size + 1 + 1 + 1 + 1 + 1 + 1) 54 11 pn' mn' yn') (ht : Turns pn.ownBlock.toList w w3) : JB W A N E (w3.setCell ⟨W.heap.size + 1 + 1 + 1 + 1, 1, none⟩ pn') pa pn' ma mn' ya yn' := by
  have hs := ht.size
  have hsz := h.sz
  have mem : ∀ {b : Nat}, b ∈ pn.ownBlock.toList → pn.ownBlock = some b := fun hb => by simpa using hb
  have far : ∀ b, b < W.heap.size + 1 + 1 + 1 + 1 + 1 + 1 → b ∉ pn.ownBlock.toList := fun b hb hm => by have := (ownBlock_cells h.pn (mem hm)).1; omega
  have T : Turns [W.heap.size + 1 + 1 + 1 + 1] w3 (w3.setCell ⟨W.heap.size + 1 + 1 + 1 + 1, 1, none⟩ pn') := (Turns.refl _ _).setCell (.inl (by simp)) _
  have e7 := (ht.block _ (show W.heap.size + 1 + 1 + 1 + 1 < w.heap.size by omega) (far _ (by omega))).trans h.b7
  refine ⟨by simp; omega, ?_, ?_, ?_, ?_, ?_⟩
  · exact (other_block (by omega)).trans ((ht.block _ (by omega) (far _ (by omega))).trans h.b6)
  · have := heap_setCell_same _ _ 1 _ _ pn' e7
    simpa using this
  · exact (other_block (by omega)).trans ((ht.block _ (by omega) (far _ (by omega))).trans h.b8)
  · exact ownsRow_turns (ownsRow_turns h.pa ht (fun b hb hm => h.ne hb (mem hm))) T (fun b hb => by have := (ownBlock_cells h.pa hb).1; simp only [List.mem_singleton]; omega)
  · exact ownsRow_turns ho T (fun b hb => by have := (ownBlock_cells ho hb).1; simp only [List.mem_singleton]; omega)
end
theorem jb_start (W : World) (A N E : Nat → Value) (p0 p1 p2 : Array Value) : JB W A N E ((((((W.alloc (.cells p0 27)).alloc (.cells p1 27)).alloc (.cells p2 27)).alloc (.cells #[.slice none 0 0, .slice none 0 0, .slice none 0 0] 27)).alloc (.cells #[.slice none 0 0, .slice none 0 0, .slice none 0 0] 27)).alloc
    (.cells #[A 0, N 0, E 0, A 1, N 1, E 1, A 2, N 2, E 2] 84)) (.slice none 0 0) (.slice none 0 0) 0 0 [] [] := by
  refine ⟨by simp, ?_, ?_, ?_, World.ownsRow_nil _ _ _ _, World.ownsRow_nil _ _ _ _⟩
  · rw [Below.heap_alloc _ _ _ (by simp), Below.heap_alloc _ _ _ (by simp)]
    have := heap_alloc_new (((W.alloc (.cells p0 27)).alloc (.cells p1 27)).alloc (.cells p2 27)) (.cells #[.slice none 0 0, .slice none 0 0, .slice none 0 0] 27)
    simpa using this
  · rw [Below.heap_alloc _ _ _ (by simp)]
    have := heap_alloc_new ((((W.alloc (.cells p0 27)).alloc (.cells p1 27)).alloc (.cells p2 27)).alloc (.cells #[.slice none 0 0, .slice none 0 0, .slice none 0 0] 27)) (.cells #[.slice none 0 0, .slice none 0 0, .slice none 0 0] 27)
    simpa using this
  · have := heap_alloc_new (((((W.alloc (.cells p0 27)).alloc (.cells p1 27)).alloc (.cells p2 27)).alloc (.cells #[.slice none 0 0, .slice none 0 0, .slice none 0 0] 27)).alloc (.cells #[.slice none 0 0, .slice none 0 0, .slice none 0 0] 27)) (.cells #[A 0, N 0, E 0, A 1, N 1, E 1, A 2, N 2, E 2] 84)
    simpa using this
theorem JB.step {W w w' : World} {A N E : Nat → Value} {pa pn : Value} {ma mn : Nat} {ya yn : List Value} (h : JB W A N E w pa pn ma mn ya yn) (hb : Below w.heap.size w w') : JB W A N E w' pa pn ma mn ya yn := h.turns (Turns.of_below (S := []) hb) (by simp)
theorem JB.afterA {W w w3 : World} {A N E : Nat → Value} {pa pn : Value} {ma mn : Nat} {ya yn : List Value} (h : JB W A N E w pa pn ma mn ya yn) (ht : Turns pa.ownBlock.toList w w3) : w3.cell? ⟨W.heap.size + 1 + 1 + 1 + 1, 0, none⟩ = some pa ∧ w3.frozen? ⟨W.heap.size + 1 + 1 + 1 + 1, 0, none⟩ = false := by
  have hsz := h.sz
  have e7 := (ht.block _ (show W.heap.size + 1 + 1 + 1 + 1 < w.heap.size by omega) (fun hm => by
    have h1 : pa.ownBlock = some (W.heap.size + 1 + 1 + 1 + 1) := by simpa only [Option.mem_toList] using hm
    have := (ownBlock_cells h.pa h1).1
    omega)).trans h.b7
  exact ⟨(cell_of_row _ _ 0 _ _ _ e7).trans rfl, frozen_of_row _ _ _ _ _ e7⟩
theorem JB.afterN {W w w3 : World} {A N E : Nat → Value} {pa pn : Value} {ma mn : Nat} {ya yn : List Value} (h : JB W A N E w pa pn ma mn ya yn) (ht : Turns pn.ownBlock.toList w w3) : w3.cell? ⟨W.heap.size + 1 + 1 + 1 + 1, 1, none⟩ = some pn ∧ w3.frozen? ⟨W.heap.size + 1 + 1 + 1 + 1, 1, none⟩ = false := by
  have hsz := h.sz
  have e7 := (ht.block _ (show W.heap.size + 1 + 1 + 1 + 1 < w.heap.size by omega) (fun hm => by
    have h1 : pn.ownBlock = some (W.heap.size + 1 + 1 + 1 + 1) := by simpa only [Option.mem_toList] using hm
    have := (ownBlock_cells h.pn h1).1
    omega)).trans h.b7
  exact ⟨(cell_of_row _ _ 1 _ _ _ e7).trans rfl, frozen_of_row _ _ _ _ _ e7⟩
/-- A step of the growing plan: what lay ahead of the call stays. -/
theorem jb_far {W w w3 : World} {v u : Value} {o : Nat} {e : TypeId} {sz n : Nat} {xs : List Value} (hv : w.ownsRow (W.heap.size + 1 + 1 + 1 + 1 + 1 + 1) e sz v n xs) (ht : Turns v.ownBlock.toList w w3) (hs : W.heap.size ≤ w.heap.size) : Below W.heap.size w (w3.setCell ⟨W.heap.size + 1 + 1 + 1 + 1, o, none⟩ u) := by
  refine (ht.below hs (fun b hb => ?_)).setCell (by simp; omega) u
  have hb : v.ownBlock = some b := by simpa using hb
  have := (ownBlock_cells hv hb).1
  omega
theorem own_form {w : World} {lo : Nat} {e : TypeId} {sz n : Nat} {v : Value} {xs : List Value} (h : w.ownsRow lo e sz v n xs) : ∃ a c, v = .slice a n c := by
  rcases h.2 with ⟨rfl, rfl⟩ | ⟨g, cap, cur, rfl, _⟩
  · exact ⟨_, _, rfl⟩
  · exact ⟨_, _, rfl⟩
def sumN (f : Nat → Nat) : Nat → Nat | 0 => 0 | k + 1 => sumN f k + f k
def catL (f : Nat → List Value) : Nat → List Value | 0 => [] | k + 1 => catL f k ++ f k
/-- The node that keeps a plan's ends. -/
def endNd (v : Value) : List Value := [.int .i64 0, .int .i64 0, .int .i64 0, .slice none 0 0, v, .int .i64 0, .bool false, .int .i64 0, .bool false, .int .i64 0, .int .i64 0]
end Go.Proofs.Ytonkbjdeaneicaa
