/- compare: the order of acts, as the sort calls it. The library's sort at acts, by a method value: the row, the comparison, an exchange. Over this program. insertionSortCmpFunc by a method value: the walk. -/
import Derived.Test.YtjgigcnjgblekaaDoorKap11
import Derived.BigRegion
import Derived.Sort.AssemblyPlain
import Derived.Sort.WalkA
import Derived.Sort.WalkA6
import Derived.Sort.WalkC
namespace Go.Proofs.YtjgigcnjgblekaaDoor
open Go Go.RowKit Go.Sort Classical

set_option maxRecDepth 100000 in
set_option maxHeartbeats 4000000 in
theorem compareW {F : Nat → Prop} (w : World) (p c : Nat) (A : Option Addr) (cs : List Cst) (v1 v2 : Value) (a b : Ac) (hp : w.cell? ⟨p, 1, none⟩ = some (.slice A cs.length c)) (hpl : p < w.heap.size) (hc : RSl F w 3 ECst (.slice A cs.length c) cs)
    (h1 : RSl F w 1 EInt v1 a.sub) (h2 : RSl F w 1 EInt v2 b.sub) (hl : ∀ i ∈ a.sub, 0 ≤ i ∧ i < (cs.length : Int)) (hm : ∀ i ∈ b.sub, 0 ≤ i ∧ i < (cs.length : Int)) :
    Calls Tryd.prog 57 #[.pointer (some ⟨p, 0, none⟩), .agg #[.int .i64 a.rule, v1], .agg #[.int .i64 b.rule, v2]] w fun e w' => e = .returned (.int .i64 (cmpA cs a b)) ∧ GrowD w w' := by
  obtain ⟨A1, c1, rfl⟩ := h1.form
  obtain ⟨A2, c2, rfl⟩ := h2.form
  obtain ⟨w0, hw0⟩ : ∃ w0, w0 = (w.alloc (.cells #[.int .i64 a.rule, .slice A1 a.sub.length c1] 30)).alloc (.cells #[.int .i64 b.rule, .slice A2 b.sub.length c2] 30) := ⟨_, rfl⟩
  have hg0 : GrowD w w0 := by rw [hw0]; exact ((GrowD.refl w).alloc _).alloc _
  have hx0 : Below (w.heap.size + 1) (w.alloc (.cells #[.int .i64 a.rule, .slice A1 a.sub.length c1] 30)) w0 := by rw [hw0]; exact (Below.refl _ _).alloc (by simp) _
  have hsz0 : w0.heap.size = w.heap.size + 1 + 1 := by rw [hw0]; simp
  have y0 : w0.cell? ⟨w.heap.size + 1, 0, none⟩ = some (.int .i64 b.rule) := by
    rw [hw0]; simp
  have y1 : w0.cell? ⟨w.heap.size + 1, 1, none⟩ = some (.slice A2 b.sub.length c2) := by
    rw [hw0]; simp
  have x0 := box_cellD hx0 0 rfl
  have x1 := box_cellD hx0 1 rfl
  have SC := Lib.hid (fun (W : World) (h : GrowD w0 W) => (show W.cell? ⟨w.heap.size, 0, none⟩ = some (.int .i64 a.rule) ∧ W.cell? ⟨w.heap.size, 1, none⟩ = some (.slice A1 a.sub.length c1) ∧ W.cell? ⟨w.heap.size + 1, 0, none⟩ = some (.int .i64 b.rule) ∧ W.cell? ⟨w.heap.size + 1, 1, none⟩ = some (.slice A2 b.sub.length c2) from
    ⟨(h.cell (a := ⟨w.heap.size, 0, none⟩) (by show w.heap.size < _; omega)).trans x0, (h.cell (a := ⟨w.heap.size, 1, none⟩) (by show w.heap.size < _; omega)).trans x1, (h.cell (a := ⟨w.heap.size + 1, 0, none⟩) (by show w.heap.size + 1 < _; omega)).trans y0, (h.cell (a := ⟨w.heap.size + 1, 1, none⟩) (by show w.heap.size + 1 < _; omega)).trans y1⟩))
  have D0 : GrowD w0 w0.drew := (GrowD.refl w0).drew
  unfold cmpA
  obtain ⟨u1, hu1⟩ : ∃ u, cmpI a.rule b.rule = u := ⟨_, rfl⟩
  obtain ⟨u2, hu2⟩ : ∃ u, cmpLx (cmpId cs) a.sub b.sub = u := ⟨_, rfl⟩
  have C1 := Lib.hid (fun W => hu1 ▸ cmp_int a.rule b.rule W)
  have C2 := Lib.hid (fun (W : World) (h : GrowD w0 W) => hu2 ▸ compareFuncW (F := F) W p c A cs (.slice A1 a.sub.length c1) (.slice A2 b.sub.length c2) a.sub b.sub (((hg0.trans h).cell (a := ⟨p, 1, none⟩) hpl).trans hp) (Nat.lt_of_lt_of_le hpl (hg0.trans h).below.size) (hc.keep (Kp.of_below (hg0.trans h).below))
    (h1.keep (Kp.of_below (hg0.trans h).below)) (h2.keep (Kp.of_below (hg0.trans h).below)) hl hm)
  rw [hu1, hu2]
  have ft := first_two u1 u2
  obtain ⟨R, hR⟩ : ∃ R, (if u1 = 0 then u2 else u1) = R := ⟨_, rfl⟩
  rw [hR] at ft ⊢
  have FT := Lib.hid ft
  have HG0 := Lib.hid hg0
  clear ft hR hu1 hu2 hp hc h1 h2 hl hm hg0 hx0
  go_enter Tryd.func57, Tryd.ntmps57
  go_upto_region 1 with fail
  rw [← hw0]
  clear hw0
  clear x0 x1 y0 y1
  go_region_held3 (fun w' : World => w'.cell? ⟨w.heap.size, 0, none⟩ = some (.int .i64 a.rule) ∧ w'.cell? ⟨w.heap.size, 1, none⟩ = some (.slice A1 a.sub.length c1) ∧ w'.cell? ⟨w.heap.size + 1, 0, none⟩ = some (.int .i64 b.rule) ∧ w'.cell? ⟨w.heap.size + 1, 1, none⟩ = some (.slice A2 b.sub.length c2))
    (first | with_reducible exact SC.out _ D0 | with_reducible exact SC.out _ G1 | go_keep)
    (first
      | (go_at_call 72; refine (C2.out _ D0).mono ?_; rintro e w' ⟨rfl, hg⟩; have G1 := GrowD.trans D0 hg; clear hg)
      | (go_at_call 71; refine (C1.out _).mono ?_; rintro e w' ⟨rfl, rfl⟩)
      | (go_at_call 70; refine (or_int _ 0 2 _ [u1, u2] _ rfl (by decide) ?_).mono ?_; exact two_ints _ _ (by simp) u1 u2 _; rintro e w' ⟨rfl, rfl⟩))
  all_goals
    go_wp2
    go_ret
    refine ⟨ret_i64A FT.out, GrowD.trans HG0.out ?_⟩
    repeat (first | exact GrowD.refl _ | exact G1 | refine GrowD.drew ?_ | refine GrowD.alloc ?_ _ )
end Go.Proofs.YtjgigcnjgblekaaDoor

namespace Go.Proofs.YtjgigcnjgblekaaDoor
open Go Go.RowKit Go.Sort Classical

/-- What is sorted: how an element stands, the comparison, the receiver's block, the row's block, its length, its room, the world in which the sort began. -/
structure SEnv (α : Type) where
  r : α → Int
  A : α → Option Addr
  l : α → Nat
  c : α → Nat
  cf : α → α → Int
  p : Nat
  b : Nat
  n : Nat
  cap : Nat
  w : World
section
variable {α : Type} [Inhabited α]
def SEnv.e0 (E : SEnv α) (x : α) : Value := .int .i64 (E.r x)
def SEnv.e1 (E : SEnv α) (x : α) : Value := .slice (E.A x) (E.l x) (E.c x)
def SEnv.lt (E : SEnv α) : α → α → Bool := fun x y => decide (E.cf x y < 0)
/-- The row holds d; nothing else has turned. -/
structure SW (E : SEnv α) (d : Array α) (W : World) : Prop where
  len : d.size = E.n
  row : ∃ cur, W.heap[E.b]? = some (.cells cur 30 (0, 0)) ∧ cur.size = E.cap * 2 ∧ ∀ j, j < E.n → cur[j * 2]? = some (E.e0 d[j]!) ∧ cur[j * 2 + 1]? = some (E.e1 d[j]!)
  turns : Turns [E.b] E.w W
/-- The comparison's contract. -/
def SC (E : SEnv α) : Prop := ∀ x y W, Turns [E.b] E.w W → Calls Tryd.prog 57 #[.pointer (some ⟨E.p, 0, none⟩), .agg #[.int .i64 (E.r x), .slice (E.A x) (E.l x) (E.c x)], .agg #[.int .i64 (E.r y), .slice (E.A y) (E.l y) (E.c y)]] W fun e w' => e = .returned (.int .i64 (E.cf x y)) ∧ Below W.heap.size W w'
variable {E : SEnv α} {d : Array α} {W W' : World}
theorem SW.lt (h : SW E d W) : E.b < W.heap.size := by
  obtain ⟨cur, h1, _⟩ := h.row
  exact lt_of_heap h1
theorem SW.step (h : SW E d W) (hb : Below W.heap.size W W') : SW E d W' := by
  obtain ⟨cur, h1, h2⟩ := h.row
  exact ⟨h.len, ⟨cur, (hb.block _ h.lt).trans h1, h2⟩, h.turns.trans (S' := []) (Turns.of_below hb) (fun x hx => by simp at hx)⟩
theorem SW.drew (h : SW E d W) : SW E d W.drew := h.step (Below.refl _ _).drew
theorem SW.c0 (h : SW E d W) {i : Nat} (hi : i < E.n) : W.cell? ⟨E.b, i * 2, none⟩ = some (.int .i64 (E.r d[i]!)) := by
  obtain ⟨cur, h1, _, h2⟩ := h.row
  exact (cell_of_row _ _ _ _ _ _ h1).trans (h2 i hi).1
theorem SW.c1 (h : SW E d W) {i : Nat} (hi : i < E.n) : W.cell? ⟨E.b, i * 2 + 1, none⟩ = some (.slice (E.A d[i]!) (E.l d[i]!) (E.c d[i]!)) := by
  obtain ⟨cur, h1, _, h2⟩ := h.row
  exact (cell_of_row _ _ _ _ _ _ h1).trans (h2 i hi).2
theorem SW.fz (h : SW E d W) (o : Nat) : W.frozen? ⟨E.b, o, none⟩ = false := by
  obtain ⟨cur, h1, _⟩ := h.row
  exact frozen_of_row _ _ _ _ _ h1
theorem swp_size (d : Array α) (i j : Nat) : (swp d i j).size = d.size := by simp [swp]
theorem swp_at (d : Array α) (i j k : Nat) (hi : i < d.size) (hj : j < d.size) (hk : k < d.size) : (swp d i j)[k]! = if k = j then d[i]! else if k = i then d[j]! else d[k]! := by
  have h : (swp d i j)[k]? = some (if k = j then d[i]! else if k = i then d[j]! else d[k]!) := by
    unfold swp
    rw [Array.getElem?_setIfInBounds, Array.size_setIfInBounds]
    by_cases e1 : k = j
    · subst e1
      rw [if_pos rfl, if_pos hk, if_pos rfl]
    · rw [if_neg (fun h => e1 h.symm), if_neg e1, Array.getElem?_setIfInBounds]
      by_cases e2 : k = i
      · subst e2
        rw [if_pos rfl, if_pos hk, if_pos rfl]
      · rw [if_neg (fun h => e2 h.symm), if_neg e2, Array.getElem?_eq_getElem hk, getElem!_pos d k hk]
  rw [getElem!_def, h]
/-- An exchange. -/
theorem SW.swap (h : SW E d W) {i j : Nat} (hi : i < E.n) (hj : j < E.n) :
    SW E (swp d i j) ((((W.setCell ⟨E.b, i * 2, none⟩ (.int .i64 (E.r d[j]!))).setCell ⟨E.b, i * 2 + 1, none⟩ (.slice (E.A d[j]!) (E.l d[j]!) (E.c d[j]!))).setCell ⟨E.b, j * 2, none⟩ (.int .i64 (E.r d[i]!))).setCell ⟨E.b, j * 2 + 1, none⟩ (.slice (E.A d[i]!) (E.l d[i]!) (E.c d[i]!))) := by
  obtain ⟨cur, h1, h2, h3⟩ := h.row
  have hl := h.len
  refine ⟨by rw [swp_size, hl], ⟨_, heap_setCell_same _ _ (j * 2 + 1) _ _ _ (heap_setCell_same _ _ (j * 2) _ _ _ (heap_setCell_same _ _ (i * 2 + 1) _ _ _ (heap_setCell_same _ _ (i * 2) _ _ _ h1))), by simpa using h2, fun k hk => ?_⟩,
    h.turns.trans (S' := [E.b]) ((((Turns.refl _ _).setCell (.inl (by simp)) _).setCell (.inl (by simp)) _).setCell (.inl (by simp)) _ |>.setCell (.inl (by simp)) _) (fun x hx => .inl hx)⟩
  have hik : i * 2 + 1 < cur.size := (Array.getElem?_eq_some_iff.1 (h3 i hi).2).1
  have hjk : j * 2 + 1 < cur.size := (Array.getElem?_eq_some_iff.1 (h3 j hj).2).1
  obtain ⟨k0, k1⟩ := h3 k hk
  have key := swp_at d i j k (by omega) (by omega) (by omega)
  generalize (swp d i j)[k]! = u at key ⊢
  have hkk : k * 2 + 1 < cur.size := (Array.getElem?_eq_some_iff.1 k1).1
  simp only [Array.getElem?_setIfInBounds, Array.size_setIfInBounds]
  by_cases e1 : k = j
  · rw [if_pos e1] at key
    subst e1
    rw [key]
    refine ⟨?_, ?_⟩ <;> (repeat (first | rw [if_pos (by omega)] | rw [if_neg (by omega)])) <;> rfl
  · rw [if_neg e1] at key
    by_cases e2 : k = i
    · rw [if_pos e2] at key
      subst e2
      rw [key]
      refine ⟨?_, ?_⟩ <;> (repeat (first | rw [if_pos (by omega)] | rw [if_neg (by omega)])) <;> rfl
    · rw [if_neg e2] at key
      rw [key]
      refine ⟨?_, ?_⟩ <;> (repeat (first | rw [if_pos (by omega)] | rw [if_neg (by omega)]))
      · exact k0
      · exact k1
/-- What lies there in the midst of an exchange. -/
theorem SW.mid (h : SW E d W) {i j : Nat} (hi : i < E.n) (hj : j < E.n) (v0 v1 v2 : Value) :
    (∃ u, (W.setCell ⟨E.b, i * 2, none⟩ v0).cell? ⟨E.b, i * 2 + 1, none⟩ = some u) ∧ (∃ u, ((W.setCell ⟨E.b, i * 2, none⟩ v0).setCell ⟨E.b, i * 2 + 1, none⟩ v1).cell? ⟨E.b, j * 2, none⟩ = some u) ∧
    (∃ u, (((W.setCell ⟨E.b, i * 2, none⟩ v0).setCell ⟨E.b, i * 2 + 1, none⟩ v1).setCell ⟨E.b, j * 2, none⟩ v2).cell? ⟨E.b, j * 2 + 1, none⟩ = some u) ∧
    (∀ o, (W.setCell ⟨E.b, i * 2, none⟩ v0).frozen? ⟨E.b, o, none⟩ = false) ∧ (∀ o, ((W.setCell ⟨E.b, i * 2, none⟩ v0).setCell ⟨E.b, i * 2 + 1, none⟩ v1).frozen? ⟨E.b, o, none⟩ = false) ∧
    (∀ o, (((W.setCell ⟨E.b, i * 2, none⟩ v0).setCell ⟨E.b, i * 2 + 1, none⟩ v1).setCell ⟨E.b, j * 2, none⟩ v2).frozen? ⟨E.b, o, none⟩ = false) := by
  obtain ⟨cur, h1, h2, h3⟩ := h.row
  have hik : i * 2 + 1 < cur.size := (Array.getElem?_eq_some_iff.1 (h3 i hi).2).1
  have hjk : j * 2 + 1 < cur.size := (Array.getElem?_eq_some_iff.1 (h3 j hj).2).1
  have r1 := heap_setCell_same _ _ (i * 2) _ _ v0 h1
  have r2 := heap_setCell_same _ _ (i * 2 + 1) _ _ v1 r1
  have r3 := heap_setCell_same _ _ (j * 2) _ _ v2 r2
  have get : ∀ (X : World) (cs : Array Value) (o : Nat), X.heap[E.b]? = some (.cells cs 30 (0, 0)) → o < cs.size → ∃ u, X.cell? ⟨E.b, o, none⟩ = some u := fun X cs o hX ho => ⟨_, (cell_of_row _ _ _ _ _ _ hX).trans (Array.getElem?_eq_getElem ho)⟩
  exact ⟨get _ _ _ r1 (by simpa using hik), get _ _ _ r2 (by simp; omega), get _ _ _ r3 (by simpa using hjk), fun o => frozen_of_row _ _ _ _ _ r1, fun o => frozen_of_row _ _ _ _ _ r2, fun o => frozen_of_row _ _ _ _ _ r3⟩
/-- An exchange with itself. -/
theorem SW.self (h : SW E d W) {i : Nat} (hi : i < E.n) : swp d i i = d := by
  have := h.len
  apply Array.ext_getElem?
  intro k
  unfold swp
  rw [Array.getElem?_setIfInBounds, Array.size_setIfInBounds]
  by_cases e : i = k
  · subst e
    rw [if_pos rfl, if_pos (by omega), Array.getElem?_eq_getElem (by omega), getElem!_pos d i (by omega)]
  · rw [if_neg e, Array.getElem?_setIfInBounds, if_neg e]
end
end Go.Proofs.YtjgigcnjgblekaaDoor

namespace Go.Proofs.YtjgigcnjgblekaaDoor
open Go Go.RowKit Go.Sort Classical

theorem below_stepA {w W w' : World} (h : Below w.heap.size w W) (h2 : Below W.heap.size W w') : Below w.heap.size w w' := h.trans (h2.mono h.size)
section
variable {α : Type} [Inhabited α] {E : SEnv α} {d : Array α} {W W' : World}
omit [Inhabited α] in
theorem SEnv.lt_t (E : SEnv α) {x y : α} (h : E.cf x y < 0) : E.lt x y = true := decide_eq_true h
omit [Inhabited α] in
theorem SEnv.lt_f (E : SEnv α) {x y : α} (h : ¬ E.cf x y < 0) : E.lt x y = false := decide_eq_false h
set_option maxRecDepth 100000 in
set_option maxHeartbeats 4000000 in
theorem insW (HC : SC E) (a b : Nat) (d : Array α) (W : World) (h : SW E d W) (hab : a ≤ b) (hb : b ≤ E.n) (hn : E.n ≤ 1000000000000000) :
    Calls Tryd.prog 78 #[.slice (some ⟨E.b, 0, none⟩) E.n E.cap, .int .i64 (a : Int), .int .i64 (b : Int), .func (.func 57) #[.pointer (some ⟨E.p, 0, none⟩)] #[]] W fun e w' => e = .returned (.tuple #[]) ∧ SW E (insertionSort E.lt d a b) w' := by
  have HCH := Lib.hid HC
  have HH := Lib.hid h
  clear HC h
  go_enter Tryd.func78, Tryd.ntmps78
  go_wp2
  go_loopw [8] (fun i wr => ∃ (k : Nat) (dk : Array α), i = .int .i64 (k : Int) ∧ a < k ∧ k ≤ b + 1 ∧ SW E dk wr ∧ Hid (insOuter E.lt a b k dk = insOuter E.lt a b (a + 1) d)) (fun i _ => b + 1 - (intOf i).toNat)
  case atStart => exact ⟨a + 1, d, by go_num, by omega, by omega, HH.out, Lib.hid rfl⟩
  case round =>
    obtain ⟨k, dk, rfl, hak, hkb, hs, HO⟩ := hrel
    by_cases hkn : k < b
    · have e1 : (k : Int) < (b : Int) := by omega
      have HS := Lib.hid hs
      clear hs
      go_wp2
      go_loopw [9] (fun i wr => ∃ (j : Nat) (dj : Array α), i = .int .i64 (j : Int) ∧ a ≤ j ∧ j ≤ k ∧ SW E dj wr ∧ Hid (insInner E.lt a j dj = insInner E.lt a k dk)) (fun i _ => (intOf i).toNat)
      case atStart => exact ⟨k, dk, rfl, by omega, Nat.le_refl _, HS.out, Lib.hid rfl⟩
      case round =>
        obtain ⟨j, dj, rfl, haj, hjk, hs, HI⟩ := hrel
        have OUT := Lib.hid (fun (hx : j ≤ a ∨ E.lt dj[j]! dj[j - 1]! = false) => (show insOuter E.lt a b (k + 1) dj = insOuter E.lt a b (a + 1) d by
          rw [← HO.out, insOuter_go _ _ _ _ _ hkn, ← HI.out, insInner_stop _ _ _ _ hx]))
        by_cases hja : a < j
        · obtain ⟨q, rfl⟩ : ∃ q, j = q + 1 := ⟨j - 1, by omega⟩
          have NE : Nonempty (Pt (Below wr.heap.size wr)) := ⟨⟨wr, Below.refl _ _⟩⟩
          have p0 := fun p : Pt (Below wr.heap.size wr) => (hs.step p.property).c0 (i := q + 1) (by omega)
          have p1 := fun p : Pt (Below wr.heap.size wr) => (hs.step p.property).c1 (i := q + 1) (by omega)
          have p2 := fun p : Pt (Below wr.heap.size wr) => (hs.step p.property).c0 (i := q) (by omega)
          have p3 := fun p : Pt (Below wr.heap.size wr) => (hs.step p.property).c1 (i := q) (by omega)
          have CC := Lib.hid (fun p : Pt (Below wr.heap.size wr) => HCH.out dj[q + 1]! dj[q]! p.val (hs.step p.property).turns)
          have HS := Lib.hid hs
          have GO := Lib.hid (insInner_go E.lt a (q + 1) dj (by omega))
          simp only [Nat.add_sub_cancel] at OUT GO
          obtain ⟨x, hx⟩ : ∃ x, dj[q + 1]! = x := ⟨_, rfl⟩
          obtain ⟨y, hy⟩ : ∃ y, dj[q]! = y := ⟨_, rfl⟩
          rw [hx, hy] at CC OUT GO
          rw [hx] at p0 p1
          rw [hy] at p2 p3
          have HX := Lib.hid (And.intro hx hy)
          have i1 : (a : Int) < (q : Int) + 1 := by omega
          have i2 : (q : Int) + 1 < (E.n : Int) := by omega
          have i3 : (0 : Int) ≤ (q : Int) + 1 := by omega
          have i4 : (q : Int) < (E.n : Int) := by omega
          have i5 : ((q : Int) + 1).toNat = q + 1 := by omega
          have i6 : IntKind.i64.wrap (q : Int) = (q : Int) := by rw [IntKind.wrap_i64]; omega
          clear hs hx hy
          by_cases hl : E.cf x y < 0
          · go_wp2_with fail
            refine wp_region_class (S := Below wr.heap.size wr) (Below.refl _ _).drew (by kernel_rfl) (by kernel_rfl) ?_
            repeat (go_big_quiet_step (first | (go_at_call 57; refine (CC.out _).mono ?_; rintro e w' ⟨rfl, hbel⟩; exact ⟨rfl, ⟨w', below_stepA (Pt.property _) hbel⟩, rfl⟩)))
            refine wpQuiet_nil ?_
            rintro W2 ⟨⟨_, hW⟩, rfl⟩
            have HS2 := Lib.hid (HS.out.step hW)
            clear p0 p1 p2 p3 CC hW
            obtain ⟨w2, hw2⟩ : ∃ w2, w2 = W2 := ⟨_, rfl⟩
            rw [← hw2] at HS2
            rw [← hw2]
            clear hw2
            have z0 := HS2.out.c0 (i := q + 1) (by omega)
            have z1 := HS2.out.c1 (i := q + 1) (by omega)
            have z2 := HS2.out.c0 (i := q) (by omega)
            have z3 := HS2.out.c1 (i := q) (by omega)
            have fz := HS2.out.fz
            have hsw := HS2.out.swap (i := q + 1) (j := q) (by omega) (by omega)
            rw [HX.out.1] at z0 z1 hsw
            rw [HX.out.2] at z2 z3 hsw
            obtain ⟨⟨u1, m1⟩, ⟨u2, m2⟩, ⟨u3, m3⟩, f1, f2, f3⟩ := HS2.out.mid (i := q + 1) (j := q) (by omega) (by omega) (.int .i64 (E.r y)) (.slice (E.A y) (E.l y) (E.c y)) (.int .i64 (E.r x))
            have HSW := Lib.hid hsw.drew
            clear hsw
            go_wp2_with fail
            go_big_region
            go_wp2
            exact ⟨⟨q, _, by go_num, by omega, by omega, HSW.out, Lib.hid ((GO.out (E.lt_t hl)).symm.trans HI.out)⟩, by simp [intOf]⟩
          · have HOU := Lib.hid (OUT.out (.inr (E.lt_f hl)))
            go_wp2_with fail
            refine wp_region_class (S := Below wr.heap.size wr) (Below.refl _ _).drew (by kernel_rfl) (by kernel_rfl) ?_
            repeat (go_big_quiet_step (first | (go_at_call 57; refine (CC.out _).mono ?_; rintro e w' ⟨rfl, hbel⟩; exact ⟨rfl, ⟨w', below_stepA (Pt.property _) hbel⟩, rfl⟩)))
            refine wpQuiet_nil ?_
            rintro W2 ⟨⟨_, hW⟩, rfl⟩
            have HS2 := Lib.hid (HS.out.step hW)
            clear p0 p1 p2 p3 CC hW
            go_wp2
            exact ⟨⟨k + 1, _, by go_num, by omega, by omega, HS2.out, HOU⟩, by simp [intOf]; omega⟩
        · have HOU := Lib.hid (OUT.out (.inl (by omega)))
          have i1 : ¬ (a : Int) < (j : Int) := by omega
          have HS2 := Lib.hid (fun q => hs.step (((Turns.refl [] wr).drewN q).below (Nat.le_refl _) (fun x hx => by simp at hx)))
          clear hs
          go_wp2_with fail
          go_quiet (fail)
          go_wp2
          exact ⟨⟨k + 1, _, by go_num, by omega, by omega, HS2.out _, HOU⟩, by simp [intOf]; omega⟩
    · have HR := Lib.hid (show dk = insertionSort E.lt d a b by
        rw [insertionSort, ← HO.out, insOuter, if_neg hkn])
      have HS := Lib.hid hs
      clear hs
      go_wp2
      go_end0
      refine ⟨rfl, ?_⟩
      rw [← HR.out]
      exact HS.out
end
end Go.Proofs.YtjgigcnjgblekaaDoor
