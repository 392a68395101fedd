/- The library's sort at acts, by a method value: the row, the comparison, an exchange. Over this program. insertionSortCmpFunc by a method value: the walk. order2, median, medianAdjacent, choosePivot by a method value: the walks. -/
import Derived.Test.YtjgigcnjgblekaaDoorKaq10
import Derived.BigRegion
import Derived.Sort.AssemblyPlain
import Derived.Sort.WalkA
import Derived.Sort.WalkA6
import Derived.Sort.WalkC
namespace Go.Proofs.YtjgigcnjgblekaaDoor
open Go Go.RowKit Go.Sort Classical

/-- What is sorted: how an element stands, the comparison, the receiver's block, the row's block, its length, its room, the world in which the sort began. -/
structure SEnv (α : Type) where
  r : α → Int
  A : α → Option Addr
  l : α → Nat
  c : α → Nat
  cf : α → α → Int
  p : Nat
  b : Nat
  n : Nat
  cap : Nat
  w : World
section
variable {α : Type} [Inhabited α]
def SEnv.e0 (E : SEnv α) (x : α) : Value := .int .i64 (E.r x)
def SEnv.e1 (E : SEnv α) (x : α) : Value := .slice (E.A x) (E.l x) (E.c x)
def SEnv.lt (E : SEnv α) : α → α → Bool := fun x y => decide (E.cf x y < 0)
/-- The row holds d; nothing else has turned. -/
structure SW (E : SEnv α) (d : Array α) (W : World) : Prop where
  len : d.size = E.n
  row : ∃ cur, W.heap[E.b]? = some (.cells cur 30 (0, 0)) ∧ cur.size = E.cap * 2 ∧ ∀ j, j < E.n → cur[j * 2]? = some (E.e0 d[j]!) ∧ cur[j * 2 + 1]? = some (E.e1 d[j]!)
  turns : Turns [E.b] E.w W
/-- The comparison's contract. -/
def SC (E : SEnv α) : Prop := ∀ x y W, Turns [E.b] E.w W → Calls Tryd.prog 57 #[.pointer (some ⟨E.p, 0, none⟩), .agg #[.int .i64 (E.r x), .slice (E.A x) (E.l x) (E.c x)], .agg #[.int .i64 (E.r y), .slice (E.A y) (E.l y) (E.c y)]] W fun e w' => e = .returned (.int .i64 (E.cf x y)) ∧ Below W.heap.size W w'
variable {E : SEnv α} {d : Array α} {W W' : World}
theorem SW.lt (h : SW E d W) : E.b < W.heap.size := by
  obtain ⟨cur, h1, _⟩ := h.row
  exact lt_of_heap h1
theorem SW.step (h : SW E d W) (hb : Below W.heap.size W W') : SW E d W' := by
  obtain ⟨cur, h1, h2⟩ := h.row
  exact ⟨h.len, ⟨cur, (hb.block _ h.lt).trans h1, h2⟩, h.turns.trans (S' := []) (Turns.of_below hb) (fun x hx => by simp at hx)⟩
theorem SW.drew (h : SW E d W) : SW E d W.drew := h.step (Below.refl _ _).drew
theorem SW.c0 (h : SW E d W) {i : Nat} (hi : i < E.n) : W.cell? ⟨E.b, i * 2, none⟩ = some (.int .i64 (E.r d[i]!)) := by
  obtain ⟨cur, h1, _, h2⟩ := h.row
  exact (cell_of_row _ _ _ _ _ _ h1).trans (h2 i hi).1
theorem SW.c1 (h : SW E d W) {i : Nat} (hi : i < E.n) : W.cell? ⟨E.b, i * 2 + 1, none⟩ = some (.slice (E.A d[i]!) (E.l d[i]!) (E.c d[i]!)) := by
  obtain ⟨cur, h1, _, h2⟩ := h.row
  exact (cell_of_row _ _ _ _ _ _ h1).trans (h2 i hi).2
theorem SW.fz (h : SW E d W) (o : Nat) : W.frozen? ⟨E.b, o, none⟩ = false := by
  obtain ⟨cur, h1, _⟩ := h.row
  exact frozen_of_row _ _ _ _ _ h1
theorem swp_size (d : Array α) (i j : Nat) : (swp d i j).size = d.size := by simp [swp]
theorem swp_at (d : Array α) (i j k : Nat) (hi : i < d.size) (hj : j < d.size) (hk : k < d.size) : (swp d i j)[k]! = if k = j then d[i]! else if k = i then d[j]! else d[k]! := by
  have h : (swp d i j)[k]? = some (if k = j then d[i]! else if k = i then d[j]! else d[k]!) := by
    unfold swp
    rw [Array.getElem?_setIfInBounds, Array.size_setIfInBounds]
    by_cases e1 : k = j
    · subst e1
      rw [if_pos rfl, if_pos hk, if_pos rfl]
    · rw [if_neg (fun h => e1 h.symm), if_neg e1, Array.getElem?_setIfInBounds]
      by_cases e2 : k = i
      · subst e2
        rw [if_pos rfl, if_pos hk, if_pos rfl]
      · rw [if_neg (fun h => e2 h.symm), if_neg e2, Array.getElem?_eq_getElem hk, getElem!_pos d k hk]
  rw [getElem!_def, h]
/-- An exchange. -/
theorem SW.swap (h : SW E d W) {i j : Nat} (hi : i < E.n) (hj : j < E.n) :
    SW E (swp d i j) ((((W.setCell ⟨E.b, i * 2, none⟩ (.int .i64 (E.r d[j]!))).setCell ⟨E.b, i * 2 + 1, none⟩ (.slice (E.A d[j]!) (E.l d[j]!) (E.c d[j]!))).setCell ⟨E.b, j * 2, none⟩ (.int .i64 (E.r d[i]!))).setCell ⟨E.b, j * 2 + 1, none⟩ (.slice (E.A d[i]!) (E.l d[i]!) (E.c d[i]!))) := by
  obtain ⟨cur, h1, h2, h3⟩ := h.row
  have hl := h.len
  refine ⟨by rw [swp_size, hl], ⟨_, heap_setCell_same _ _ (j * 2 + 1) _ _ _ (heap_setCell_same _ _ (j * 2) _ _ _ (heap_setCell_same _ _ (i * 2 + 1) _ _ _ (heap_setCell_same _ _ (i * 2) _ _ _ h1))), by simpa using h2, fun k hk => ?_⟩,
    h.turns.trans (S' := [E.b]) ((((Turns.refl _ _).setCell (.inl (by simp)) _).setCell (.inl (by simp)) _).setCell (.inl (by simp)) _ |>.setCell (.inl (by simp)) _) (fun x hx => .inl hx)⟩
  have hik : i * 2 + 1 < cur.size := (Array.getElem?_eq_some_iff.1 (h3 i hi).2).1
  have hjk : j * 2 + 1 < cur.size := (Array.getElem?_eq_some_iff.1 (h3 j hj).2).1
  obtain ⟨k0, k1⟩ := h3 k hk
  have key := swp_at d i j k (by omega) (by omega) (by omega)
  generalize (swp d i j)[k]! = u at key ⊢
  have hkk : k * 2 + 1 < cur.size := (Array.getElem?_eq_some_iff.1 k1).1
  simp only [Array.getElem?_setIfInBounds, Array.size_setIfInBounds]
  by_cases e1 : k = j
  · rw [if_pos e1] at key
    subst e1
    rw [key]
    refine ⟨?_, ?_⟩ <;> (repeat (first | rw [if_pos (by omega)] | rw [if_neg (by omega)])) <;> rfl
  · rw [if_neg e1] at key
    by_cases e2 : k = i
    · rw [if_pos e2] at key
      subst e2
      rw [key]
      refine ⟨?_, ?_⟩ <;> (repeat (first | rw [if_pos (by omega)] | rw [if_neg (by omega)])) <;> rfl
    · rw [if_neg e2] at key
      rw [key]
      refine ⟨?_, ?_⟩ <;> (repeat (first | rw [if_pos (by omega)] | rw [if_neg (by omega)]))
      · exact k0
      · exact k1
/-- What lies there in the midst of an exchange. -/
theorem SW.mid (h : SW E d W) {i j : Nat} (hi : i < E.n) (hj : j < E.n) (v0 v1 v2 : Value) :
    (∃ u, (W.setCell ⟨E.b, i * 2, none⟩ v0).cell? ⟨E.b, i * 2 + 1, none⟩ = some u) ∧ (∃ u, ((W.setCell ⟨E.b, i * 2, none⟩ v0).setCell ⟨E.b, i * 2 + 1, none⟩ v1).cell? ⟨E.b, j * 2, none⟩ = some u) ∧
    (∃ u, (((W.setCell ⟨E.b, i * 2, none⟩ v0).setCell ⟨E.b, i * 2 + 1, none⟩ v1).setCell ⟨E.b, j * 2, none⟩ v2).cell? ⟨E.b, j * 2 + 1, none⟩ = some u) ∧
    (∀ o, (W.setCell ⟨E.b, i * 2, none⟩ v0).frozen? ⟨E.b, o, none⟩ = false) ∧ (∀ o, ((W.setCell ⟨E.b, i * 2, none⟩ v0).setCell ⟨E.b, i * 2 + 1, none⟩ v1).frozen? ⟨E.b, o, none⟩ = false) ∧
    (∀ o, (((W.setCell ⟨E.b, i * 2, none⟩ v0).setCell ⟨E.b, i * 2 + 1, none⟩ v1).setCell ⟨E.b, j * 2, none⟩ v2).frozen? ⟨E.b, o, none⟩ = false) := by
  obtain ⟨cur, h1, h2, h3⟩ := h.row
  have hik : i * 2 + 1 < cur.size := (Array.getElem?_eq_some_iff.1 (h3 i hi).2).1
  have hjk : j * 2 + 1 < cur.size := (Array.getElem?_eq_some_iff.1 (h3 j hj).2).1
  have r1 := heap_setCell_same _ _ (i * 2) _ _ v0 h1
  have r2 := heap_setCell_same _ _ (i * 2 + 1) _ _ v1 r1
  have r3 := heap_setCell_same _ _ (j * 2) _ _ v2 r2
  have get : ∀ (X : World) (cs : Array Value) (o : Nat), X.heap[E.b]? = some (.cells cs 30 (0, 0)) → o < cs.size → ∃ u, X.cell? ⟨E.b, o, none⟩ = some u := fun X cs o hX ho => ⟨_, (cell_of_row _ _ _ _ _ _ hX).trans (Array.getElem?_eq_getElem ho)⟩
  exact ⟨get _ _ _ r1 (by simpa using hik), get _ _ _ r2 (by simp; omega), get _ _ _ r3 (by simpa using hjk), fun o => frozen_of_row _ _ _ _ _ r1, fun o => frozen_of_row _ _ _ _ _ r2, fun o => frozen_of_row _ _ _ _ _ r3⟩
/-- An exchange with itself. -/
theorem SW.self (h : SW E d W) {i : Nat} (hi : i < E.n) : swp d i i = d := by
  have := h.len
  apply Array.ext_getElem?
  intro k
  unfold swp
  rw [Array.getElem?_setIfInBounds, Array.size_setIfInBounds]
  by_cases e : i = k
  · subst e
    rw [if_pos rfl, if_pos (by omega), Array.getElem?_eq_getElem (by omega), getElem!_pos d i (by omega)]
  · rw [if_neg e, Array.getElem?_setIfInBounds, if_neg e]
end
end Go.Proofs.YtjgigcnjgblekaaDoor

namespace Go.Proofs.YtjgigcnjgblekaaDoor
open Go Go.RowKit Go.Sort Classical

theorem below_stepA {w W w' : World} (h : Below w.heap.size w W) (h2 : Below W.heap.size W w') : Below w.heap.size w w' := h.trans (h2.mono h.size)
section
variable {α : Type} [Inhabited α] {E : SEnv α} {d : Array α} {W W' : World}
omit [Inhabited α] in
theorem SEnv.lt_t (E : SEnv α) {x y : α} (h : E.cf x y < 0) : E.lt x y = true := decide_eq_true h
omit [Inhabited α] in
theorem SEnv.lt_f (E : SEnv α) {x y : α} (h : ¬ E.cf x y < 0) : E.lt x y = false := decide_eq_false h
set_option maxRecDepth 100000 in
set_option maxHeartbeats 4000000 in
theorem insW (HC : SC E) (a b : Nat) (d : Array α) (W : World) (h : SW E d W) (hab : a ≤ b) (hb : b ≤ E.n) (hn : E.n ≤ 1000000000000000) :
    Calls Tryd.prog 78 #[.slice (some ⟨E.b, 0, none⟩) E.n E.cap, .int .i64 (a : Int), .int .i64 (b : Int), .func (.func 57) #[.pointer (some ⟨E.p, 0, none⟩)] #[]] W fun e w' => e = .returned (.tuple #[]) ∧ SW E (insertionSort E.lt d a b) w' := by
  have HCH := Lib.hid HC
  have HH := Lib.hid h
  clear HC h
  go_enter Tryd.func78, Tryd.ntmps78
  go_wp2
  go_loopw [8] (fun i wr => ∃ (k : Nat) (dk : Array α), i = .int .i64 (k : Int) ∧ a < k ∧ k ≤ b + 1 ∧ SW E dk wr ∧ Hid (insOuter E.lt a b k dk = insOuter E.lt a b (a + 1) d)) (fun i _ => b + 1 - (intOf i).toNat)
  case atStart => exact ⟨a + 1, d, by go_num, by omega, by omega, HH.out, Lib.hid rfl⟩
  case round =>
    obtain ⟨k, dk, rfl, hak, hkb, hs, HO⟩ := hrel
    by_cases hkn : k < b
    · have e1 : (k : Int) < (b : Int) := by omega
      have HS := Lib.hid hs
      clear hs
      go_wp2
      go_loopw [9] (fun i wr => ∃ (j : Nat) (dj : Array α), i = .int .i64 (j : Int) ∧ a ≤ j ∧ j ≤ k ∧ SW E dj wr ∧ Hid (insInner E.lt a j dj = insInner E.lt a k dk)) (fun i _ => (intOf i).toNat)
      case atStart => exact ⟨k, dk, rfl, by omega, Nat.le_refl _, HS.out, Lib.hid rfl⟩
      case round =>
        obtain ⟨j, dj, rfl, haj, hjk, hs, HI⟩ := hrel
        have OUT := Lib.hid (fun (hx : j ≤ a ∨ E.lt dj[j]! dj[j - 1]! = false) => (show insOuter E.lt a b (k + 1) dj = insOuter E.lt a b (a + 1) d by
          rw [← HO.out, insOuter_go _ _ _ _ _ hkn, ← HI.out, insInner_stop _ _ _ _ hx]))
        by_cases hja : a < j
        · obtain ⟨q, rfl⟩ : ∃ q, j = q + 1 := ⟨j - 1, by omega⟩
          have NE : Nonempty (Pt (Below wr.heap.size wr)) := ⟨⟨wr, Below.refl _ _⟩⟩
          have p0 := fun p : Pt (Below wr.heap.size wr) => (hs.step p.property).c0 (i := q + 1) (by omega)
          have p1 := fun p : Pt (Below wr.heap.size wr) => (hs.step p.property).c1 (i := q + 1) (by omega)
          have p2 := fun p : Pt (Below wr.heap.size wr) => (hs.step p.property).c0 (i := q) (by omega)
          have p3 := fun p : Pt (Below wr.heap.size wr) => (hs.step p.property).c1 (i := q) (by omega)
          have CC := Lib.hid (fun p : Pt (Below wr.heap.size wr) => HCH.out dj[q + 1]! dj[q]! p.val (hs.step p.property).turns)
          have HS := Lib.hid hs
          have GO := Lib.hid (insInner_go E.lt a (q + 1) dj (by omega))
          simp only [Nat.add_sub_cancel] at OUT GO
          obtain ⟨x, hx⟩ : ∃ x, dj[q + 1]! = x := ⟨_, rfl⟩
          obtain ⟨y, hy⟩ : ∃ y, dj[q]! = y := ⟨_, rfl⟩
          rw [hx, hy] at CC OUT GO
          rw [hx] at p0 p1
          rw [hy] at p2 p3
          have HX := Lib.hid (And.intro hx hy)
          have i1 : (a : Int) < (q : Int) + 1 := by omega
          have i2 : (q : Int) + 1 < (E.n : Int) := by omega
          have i3 : (0 : Int) ≤ (q : Int) + 1 := by omega
          have i4 : (q : Int) < (E.n : Int) := by omega
          have i5 : ((q : Int) + 1).toNat = q + 1 := by omega
          have i6 : IntKind.i64.wrap (q : Int) = (q : Int) := by rw [IntKind.wrap_i64]; omega
          clear hs hx hy
          by_cases hl : E.cf x y < 0
          · go_wp2_with fail
            refine wp_region_class (S := Below wr.heap.size wr) (Below.refl _ _).drew (by kernel_rfl) (by kernel_rfl) ?_
            repeat (go_big_quiet_step (first | (go_at_call 57; refine (CC.out _).mono ?_; rintro e w' ⟨rfl, hbel⟩; exact ⟨rfl, ⟨w', below_stepA (Pt.property _) hbel⟩, rfl⟩)))
            refine wpQuiet_nil ?_
            rintro W2 ⟨⟨_, hW⟩, rfl⟩
            have HS2 := Lib.hid (HS.out.step hW)
            clear p0 p1 p2 p3 CC hW
            obtain ⟨w2, hw2⟩ : ∃ w2, w2 = W2 := ⟨_, rfl⟩
            rw [← hw2] at HS2
            rw [← hw2]
            clear hw2
            have z0 := HS2.out.c0 (i := q + 1) (by omega)
            have z1 := HS2.out.c1 (i := q + 1) (by omega)
            have z2 := HS2.out.c0 (i := q) (by omega)
            have z3 := HS2.out.c1 (i := q) (by omega)
            have fz := HS2.out.fz
            have hsw := HS2.out.swap (i := q + 1) (j := q) (by omega) (by omega)
            rw [HX.out.1] at z0 z1 hsw
            rw [HX.out.2] at z2 z3 hsw
            obtain ⟨⟨u1, m1⟩, ⟨u2, m2⟩, ⟨u3, m3⟩, f1, f2, f3⟩ := HS2.out.mid (i := q + 1) (j := q) (by omega) (by omega) (.int .i64 (E.r y)) (.slice (E.A y) (E.l y) (E.c y)) (.int .i64 (E.r x))
            have HSW := Lib.hid hsw.drew
            clear hsw
            go_wp2_with fail
            go_big_region
            go_wp2
            exact ⟨⟨q, _, by go_num, by omega, by omega, HSW.out, Lib.hid ((GO.out (E.lt_t hl)).symm.trans HI.out)⟩, by simp [intOf]⟩
          · have HOU := Lib.hid (OUT.out (.inr (E.lt_f hl)))
            go_wp2_with fail
            refine wp_region_class (S := Below wr.heap.size wr) (Below.refl _ _).drew (by kernel_rfl) (by kernel_rfl) ?_
            repeat (go_big_quiet_step (first | (go_at_call 57; refine (CC.out _).mono ?_; rintro e w' ⟨rfl, hbel⟩; exact ⟨rfl, ⟨w', below_stepA (Pt.property _) hbel⟩, rfl⟩)))
            refine wpQuiet_nil ?_
            rintro W2 ⟨⟨_, hW⟩, rfl⟩
            have HS2 := Lib.hid (HS.out.step hW)
            clear p0 p1 p2 p3 CC hW
            go_wp2
            exact ⟨⟨k + 1, _, by go_num, by omega, by omega, HS2.out, HOU⟩, by simp [intOf]; omega⟩
        · have HOU := Lib.hid (OUT.out (.inl (by omega)))
          have i1 : ¬ (a : Int) < (j : Int) := by omega
          have HS2 := Lib.hid (fun q => hs.step (((Turns.refl [] wr).drewN q).below (Nat.le_refl _) (fun x hx => by simp at hx)))
          clear hs
          go_wp2_with fail
          go_quiet (fail)
          go_wp2
          exact ⟨⟨k + 1, _, by go_num, by omega, by omega, HS2.out _, HOU⟩, by simp [intOf]; omega⟩
    · have HR := Lib.hid (show dk = insertionSort E.lt d a b by
        rw [insertionSort, ← HO.out, insOuter, if_neg hkn])
      have HS := Lib.hid hs
      clear hs
      go_wp2
      go_end0
      refine ⟨rfl, ?_⟩
      rw [← HR.out]
      exact HS.out
end
end Go.Proofs.YtjgigcnjgblekaaDoor

namespace Go.Proofs.YtjgigcnjgblekaaDoor
open Go Go.RowKit Go.Sort Classical

section
variable {α : Type} [Inhabited α] {E : SEnv α} {d : Array α} {W W' : World}
theorem SW.other (h : SW E d W) {q o : Nat} (h1 : q ≠ E.b) (h2 : E.w.heap.size ≤ q) (v : Value) : SW E d (W.setCell ⟨q, o, none⟩ v) := by
  obtain ⟨cur, r1, r2⟩ := h.row
  refine ⟨h.len, ⟨cur, ?_, r2⟩, h.turns.setCell (.inr h2) v⟩
  rw [Below.heap_setCell _ _ _ _ (fun e => h1 e.symm)]
  exact r1
/-- A count in a box. -/
def Sq (q : Nat) (s : Nat) (W : World) : Prop := W.heap[q]? = some (.cells #[.int .i64 (s : Int)] 3 (0, 0))
theorem Sq.step {q s : Nat} (h : Sq q s W) (hb : Below W.heap.size W W') : Sq q s W' := (hb.block _ (lt_of_heap h)).trans h
theorem Sq.set {q s t : Nat} (h : Sq q s W) : Sq q t (W.setCell ⟨q, 0, none⟩ (.int .i64 (t : Int))) := by
  have := heap_setCell_same _ _ 0 _ _ (.int .i64 (t : Int)) h
  unfold Sq
  rw [this]
  rfl
theorem ret_two {a b c e : Int} (h1 : a = c) (h2 : b = e) : Ending.returned (.tuple #[.int .i64 a, .int .i64 b]) = .returned (.tuple #[.int .i64 c, .int .i64 e]) := by rw [h1, h2]
set_option maxRecDepth 100000 in
set_option maxHeartbeats 4000000 in
theorem order2W (HC : SC E) (a b q s : Nat) (d : Array α) (W : World) (h : SW E d W) (ha : a < E.n) (hb : b < E.n) (hs : Sq q s W) (hq1 : q ≠ E.b) (hq2 : E.w.heap.size ≤ q) (hsm : s ≤ 1000) :
    Calls Tryd.prog 104 #[.slice (some ⟨E.b, 0, none⟩) E.n E.cap, .int .i64 (a : Int), .int .i64 (b : Int), .pointer (some ⟨q, 0, none⟩), .func (.func 57) #[.pointer (some ⟨E.p, 0, none⟩)] #[]] W
      fun e w' => e = .returned (.tuple #[.int .i64 ((order2 E.lt d a b s).1 : Int), .int .i64 ((order2 E.lt d a b s).2.1 : Int)]) ∧ SW E d w' ∧ Sq q (order2 E.lt d a b s).2.2 w' := by
  have NE : Nonempty (Pt (Below W.heap.size W)) := ⟨⟨W, Below.refl _ _⟩⟩
  have p0 := fun p : Pt (Below W.heap.size W) => (h.step p.property).c0 (i := b) hb
  have p1 := fun p : Pt (Below W.heap.size W) => (h.step p.property).c1 (i := b) hb
  have p2 := fun p : Pt (Below W.heap.size W) => (h.step p.property).c0 (i := a) ha
  have p3 := fun p : Pt (Below W.heap.size W) => (h.step p.property).c1 (i := a) ha
  have CC := Lib.hid (fun p : Pt (Below W.heap.size W) => HC d[b]! d[a]! p.val (h.step p.property).turns)
  have HS := Lib.hid h
  have HQ := Lib.hid hs
  obtain ⟨R, hR⟩ : ∃ R, order2 E.lt d a b s = R := ⟨_, rfl⟩
  rw [hR]
  unfold order2 at hR
  obtain ⟨x, hx⟩ : ∃ x, d[b]! = x := ⟨_, rfl⟩
  obtain ⟨y, hy⟩ : ∃ y, d[a]! = y := ⟨_, rfl⟩
  rw [hx, hy] at CC hR
  rw [hx] at p0 p1
  rw [hy] at p2 p3
  have i1 : (a : Int) < (E.n : Int) := by omega
  have i2 : (b : Int) < (E.n : Int) := by omega
  have i3 : (0 : Int) ≤ (a : Int) := by omega
  have i4 : (0 : Int) ≤ (b : Int) := by omega
  clear hs h hx hy
  by_cases hl : E.cf x y < 0
  · rw [if_pos (E.lt_t hl)] at hR
    have HR := Lib.hid hR
    clear hR
    go_enter Tryd.func104, Tryd.ntmps104
    go_wp2_with fail
    refine wp_region_class (S := Below W.heap.size W) (Below.refl _ _).drew (by kernel_rfl) (by kernel_rfl) ?_
    repeat (go_big_quiet_step (first | (go_at_call 57; refine (CC.out _).mono ?_; rintro e w' ⟨rfl, hbel⟩; exact ⟨rfl, ⟨w', below_stepA (Pt.property _) hbel⟩, rfl⟩)))
    refine wpQuiet_nil ?_
    rintro W2 ⟨⟨_, hW⟩, rfl⟩
    have HS2 := Lib.hid (HS.out.step hW)
    have HQ2 := Lib.hid (HQ.out.step hW)
    clear p0 p1 p2 p3 CC hW NE
    obtain ⟨w2, hw2⟩ : ∃ w2, w2 = W2 := ⟨_, rfl⟩
    rw [← hw2] at HS2 HQ2
    rw [← hw2]
    clear hw2
    have c0 := cell_of_row _ _ 0 _ _ _ HQ2.out
    have fz := frozen_of_row _ _ 0 _ _ HQ2.out
    have HQ3 := Lib.hid (Sq.set (t := s + 1) HQ2.out)
    have HS3 := Lib.hid (HS2.out.other (o := 0) hq1 hq2 (.int .i64 ((s + 1 : Nat) : Int)))
    rw [show ((s + 1 : Nat) : Int) = (s : Int) + 1 by omega] at HQ3 HS3
    go_wp2
    go_ret2
    rw [← HR.out]
    exact ⟨rfl, HS3.out, HQ3.out⟩
  · rw [if_neg (by rw [E.lt_f hl]; decide)] at hR
    have HR := Lib.hid hR
    clear hR
    go_enter Tryd.func104, Tryd.ntmps104
    go_wp2_with fail
    refine wp_region_class (S := Below W.heap.size W) (Below.refl _ _).drew (by kernel_rfl) (by kernel_rfl) ?_
    repeat (go_big_quiet_step (first | (go_at_call 57; refine (CC.out _).mono ?_; rintro e w' ⟨rfl, hbel⟩; exact ⟨rfl, ⟨w', below_stepA (Pt.property _) hbel⟩, rfl⟩)))
    refine wpQuiet_nil ?_
    rintro W2 ⟨⟨_, hW⟩, rfl⟩
    have HS2 := Lib.hid (HS.out.step hW)
    have HQ2 := Lib.hid (HQ.out.step hW)
    clear p0 p1 p2 p3 CC hW NE
    go_wp2
    go_ret2
    rw [← HR.out]
    exact ⟨rfl, HS2.out, HQ2.out⟩
theorem order2_le (lt : α → α → Bool) (d : Array α) (a b s : Nat) : (order2 lt d a b s).2.2 ≤ s + 1 ∧ ((order2 lt d a b s).1 = a ∨ (order2 lt d a b s).1 = b) ∧ ((order2 lt d a b s).2.1 = a ∨ (order2 lt d a b s).2.1 = b) := by
  unfold order2
  split <;> simp
set_option maxRecDepth 100000 in
set_option maxHeartbeats 4000000 in
theorem medianW (HC : SC E) (a b c q s : Nat) (d : Array α) (W : World) (h : SW E d W) (ha : a < E.n) (hb : b < E.n) (hc : c < E.n) (hs : Sq q s W) (hq1 : q ≠ E.b) (hq2 : E.w.heap.size ≤ q) (hsm : s ≤ 900) :
    Calls Tryd.prog 96 #[.slice (some ⟨E.b, 0, none⟩) E.n E.cap, .int .i64 (a : Int), .int .i64 (b : Int), .int .i64 (c : Int), .pointer (some ⟨q, 0, none⟩), .func (.func 57) #[.pointer (some ⟨E.p, 0, none⟩)] #[]] W
      fun e w' => e = .returned (.int .i64 ((median E.lt d a b c s).1 : Int)) ∧ SW E d w' ∧ Sq q (median E.lt d a b c s).2 w' := by
  unfold median
  obtain ⟨r1, h1⟩ : ∃ r, order2 E.lt d a b s = r := ⟨_, rfl⟩
  obtain ⟨b1, b2, b3⟩ := order2_le E.lt d a b s
  have O1 := order2W HC a b q s d W h ha hb hs hq1 hq2 (by omega)
  rw [h1] at b1 b2 b3 O1 ⊢
  obtain ⟨r2, h2⟩ : ∃ r, order2 E.lt d r1.2.1 c r1.2.2 = r := ⟨_, rfl⟩
  obtain ⟨c1, c2, c3⟩ := order2_le E.lt d r1.2.1 c r1.2.2
  have O2 := Lib.hid (fun W (hW : SW E d W) (hsW : Sq q r1.2.2 W) => order2W HC r1.2.1 c q r1.2.2 d W hW (by omega) hc hsW hq1 hq2 (by omega))
  rw [h2] at c1 c2 c3 O2
  simp only [h2]
  obtain ⟨r3, h3⟩ : ∃ r, order2 E.lt d r1.1 r2.1 r2.2.2 = r := ⟨_, rfl⟩
  have O3 := Lib.hid (fun W (hW : SW E d W) (hsW : Sq q r2.2.2 W) => order2W HC r1.1 r2.1 q r2.2.2 d W hW (by omega) (by omega) hsW hq1 hq2 (by omega))
  rw [h3] at O3
  simp only [h3]
  have O1 := Lib.hid O1
  clear h hs b1 b2 b3 c1 c2 c3 h1 h2 h3 ha hb hc
  go_enter Tryd.func96, Tryd.ntmps96
  go_wp2_with fail
  refine O1.out.mono ?_
  rintro e w1 ⟨rfl, hs1, hq3⟩
  have C2 := Lib.hid (O2.out w1 hs1 hq3)
  clear hs1 hq3
  go_wp2_with fail
  refine C2.out.mono ?_
  rintro e w2 ⟨rfl, hs1, hq3⟩
  have C3 := Lib.hid (O3.out w2 hs1 hq3)
  clear hs1 hq3
  go_wp2_with fail
  refine C3.out.mono ?_
  rintro e w3 ⟨rfl, hs1, hq3⟩
  have HF := Lib.hid (And.intro hs1 hq3)
  clear hs1 hq3
  go_wp2
  go_ret
  exact ⟨rfl, HF.out⟩
theorem median_le (lt : α → α → Bool) (d : Array α) (a b c s : Nat) : (median lt d a b c s).2 ≤ s + 3 ∧ ((median lt d a b c s).1 = a ∨ (median lt d a b c s).1 = b ∨ (median lt d a b c s).1 = c) := by
  unfold median
  obtain ⟨a1, a2, a3⟩ := order2_le lt d a b s
  obtain ⟨b1, b2, b3⟩ := order2_le lt d (order2 lt d a b s).2.1 c (order2 lt d a b s).2.2
  obtain ⟨c1, c2, c3⟩ := order2_le lt d (order2 lt d a b s).1 (order2 lt d (order2 lt d a b s).2.1 c (order2 lt d a b s).2.2).1 (order2 lt d (order2 lt d a b s).2.1 c (order2 lt d a b s).2.2).2.2
  refine ⟨?_, ?_⟩
  · show (order2 _ _ _ _ _).2.2 ≤ _
    omega
  · show (order2 _ _ _ _ _).2.1 = a ∨ (order2 _ _ _ _ _).2.1 = b ∨ (order2 _ _ _ _ _).2.1 = c
    omega
set_option maxRecDepth 100000 in
theorem medianAdjW (HC : SC E) (a q s : Nat) (d : Array α) (W : World) (h : SW E d W) (ha : 1 ≤ a) (hb : a + 1 < E.n) (hn : E.n ≤ 1000000000000000) (hs : Sq q s W) (hq1 : q ≠ E.b) (hq2 : E.w.heap.size ≤ q) (hsm : s ≤ 900) :
    Calls Tryd.prog 95 #[.slice (some ⟨E.b, 0, none⟩) E.n E.cap, .int .i64 (a : Int), .pointer (some ⟨q, 0, none⟩), .func (.func 57) #[.pointer (some ⟨E.p, 0, none⟩)] #[]] W
      fun e w' => e = .returned (.int .i64 ((medianAdjacent E.lt d a s).1 : Int)) ∧ SW E d w' ∧ Sq q (medianAdjacent E.lt d a s).2 w' := by
  unfold medianAdjacent
  have O1 := medianW HC (a - 1) a (a + 1) q s d W h (by omega) (by omega) hb hs hq1 hq2 hsm
  obtain ⟨r, hr⟩ : ∃ r, median E.lt d (a - 1) a (a + 1) s = r := ⟨_, rfl⟩
  rw [hr] at O1 ⊢
  rw [show ((a - 1 : Nat) : Int) = (a : Int) - 1 by omega, show ((a + 1 : Nat) : Int) = (a : Int) + 1 by omega] at O1
  have O1 := Lib.hid O1
  clear h hs hr
  go_enter Tryd.func95, Tryd.ntmps95
  go_wp2_with fail
  refine O1.out.mono ?_
  rintro e w1 ⟨rfl, hs1, hq3⟩
  have HF := Lib.hid (And.intro hs1 hq3)
  clear hs1 hq3
  go_wp2
  go_ret
  exact ⟨rfl, HF.out⟩
end
end Go.Proofs.YtjgigcnjgblekaaDoor
