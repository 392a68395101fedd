/- ahead, times, told. -/
import Derived.Test.YtblonickpmogiaaSymSort
import Derived.Test.YtblonickpmogiaaClass
import Derived.Deep.QuietTactic
import Derived.BigQuiet
import Derived.IntWalk
import Derived.Deep.RegionHeld3
import Derived.Deep.DrawnRows
namespace Go.Proofs.Ytblonickpmogiaa
open Go.RowKit
attribute [local go_sem ↓] Go.wp_at_zero Go.wp_at_succ

/-- a comes ahead of b, as the law's own function has it. -/
def aheadB (a b : Cst) : Bool := if a.k = b.k then (if a.n = b.n then Go.Op.bytesLess a.s.toList b.s.toList else decide (a.n < b.n)) else decide (a.k < b.k)
theorem aheadB_iff {a b : Cst} : aheadB a b = true ↔ aheadC a b := by
  unfold aheadB aheadC
  split
  · split
    · simp_all
    · simp_all
  · simp_all

set_option maxRecDepth 100000 in
set_option maxHeartbeats 4000000 in
theorem aheadW (a b : Cst) (w : World) : Calls Try.prog 42 #[.agg #[.int .i64 a.k, .int .i64 a.n, .string a.s], .agg #[.int .i64 b.k, .int .i64 b.n, .string b.s]] w fun e w' => e = .returned (.bool (aheadB a b)) ∧ Below w.heap.size w w' := by
  obtain ⟨ak, an, ax⟩ := a
  obtain ⟨bk, bn, bx⟩ := b
  unfold aheadB
  by_cases h1 : ak = bk
  · subst h1
    by_cases h2 : an = bn
    · subst h2
      go_enter Try.func42, Try.ntmps42
      go_wp2
      go_ret
      exact ⟨by simp, ((Below.refl _ _).alloc (Nat.le_refl _) _).alloc (by simp) _⟩
    · have h2' : (an == bn) = false := by simpa using h2
      go_enter Try.func42, Try.ntmps42
      go_wp2
      go_ret
      exact ⟨by simp, ((Below.refl _ _).alloc (Nat.le_refl _) _).alloc (by simp) _⟩
  · have h1' : (ak == bk) = false := by simpa using h1
    go_enter Try.func42, Try.ntmps42
    go_wp2
    go_ret
    exact ⟨by simp, ((Below.refl _ _).alloc (Nat.le_refl _) _).alloc (by simp) _⟩

/-- Two constants the same, as the model compares them. -/
def sameB (a b : Cst) : Bool := a.k == b.k && (a.n == b.n && a.s.toList == b.s.toList)

/-- '==' of two constants. -/
theorem eql_cst (a b : Cst) (w : World) : (binOp .eql 27 (.agg #[.int .i64 a.k, .int .i64 a.n, .string a.s]) (.agg #[.int .i64 b.k, .int .i64 b.n, .string b.s])).run Try.prog w = .ok (.bool (sameB a b)) w := by
  obtain ⟨ak, an, ax⟩ := a
  obtain ⟨bk, bn, bx⟩ := b
  unfold sameB
  by_cases h1 : ak = bk
  · by_cases h2 : an = bn
    · subst h1; subst h2
      rcases hx : (ax.toList == bx.toList) with _ | _
      · simp at hx
        simp [go_sem, hx]
      · simp at hx
        simp [go_sem, hx]
    · simp [go_sem, h1, h2]
  · simp [go_sem, h1]

set_option maxRecDepth 100000 in
set_option maxHeartbeats 4000000 in
/-- How often c stands in a list. -/
theorem timesW (A : Option Addr) (ca : Nat) (xs : List Cst) (c : Cst) (w : World) (hA : SlAt w w.heap.size 3 Cst.cells A xs) (hlen : xs.length * 32 ≤ 140737488355328) :
    Calls Try.prog 78 #[.slice A xs.length ca, .agg #[.int .i64 c.k, .int .i64 c.n, .string c.s]] w fun e w' => e = .returned (.int .i64 (xs.countP fun x => sameB x c)) ∧ Below w.heap.size w w' := by
  obtain ⟨ck, cn, cx⟩ := c
  have hB1 := (Below.refl w.heap.size w).alloc (Nat.le_refl _) (.cells #[.int .i64 ck, .int .i64 cn, .string cx] 27)
  have c0 : (w.alloc (.cells #[.int .i64 ck, .int .i64 cn, .string cx] 27)).heap[w.heap.size]? = some (.cells #[.int .i64 ck, .int .i64 cn, .string cx] 27 (0, 0)) := heap_alloc_new w _
  obtain ⟨W1, hW1⟩ : ∃ W1, W1 = w.alloc (.cells #[.int .i64 ck, .int .i64 cn, .string cx] 27) := ⟨_, rfl⟩
  rw [← hW1] at hB1 c0
  have HB := Lib.hid hB1
  have HC := Lib.hid c0
  go_enter Try.func78, Try.ntmps78
  go_wp2
  rw [← hW1]
  clear hW1 hB1 c0
  go_loopw [5, 6] (fun n i wr => ∃ k : Nat, i = .int .i64 k ∧ k ≤ xs.length ∧ n = .int .i64 ((xs.take k).countP fun x => sameB x ⟨ck, cn, cx⟩) ∧ Below W1.heap.size W1 wr) (fun n i _ => xs.length - (intOf i).toNat)
  case atStart => exact ⟨0, rfl, Nat.zero_le _, rfl, Below.refl _ _⟩
  case round =>
    obtain ⟨i, rfl, hi, rfl, hb⟩ := hrel
    by_cases hin : i < xs.length
    · obtain ⟨b, off, rfl, hblt, hc⟩ := hA.form (by omega)
      have hci := ((hc i xs[i] (List.getElem?_eq_getElem hin)).below HB.out hblt).below hb (Nat.lt_of_lt_of_le hblt HB.out.size)
      have E := Lib.hid (show (xs.take (i + 1)).countP (fun x => sameB x ⟨ck, cn, cx⟩) = (xs.take i).countP (fun x => sameB x ⟨ck, cn, cx⟩) + (if sameB xs[i] ⟨ck, cn, cx⟩ then 1 else 0) by
        rw [List.take_add_one, List.getElem?_eq_getElem hin, List.countP_append]; simp [List.countP_cons])
      have HX := HC.out
      obtain ⟨a, ha⟩ : ∃ a, a = xs[i] := ⟨_, rfl⟩
      rw [← ha] at hci E
      obtain ⟨ak, an, ax⟩ := a
      have a0 := hci 0 _ rfl; have a1 := hci 1 _ rfl; have a2 := hci 2 _ rfl
      have hX := (hb.block w.heap.size (lt_of_heap HX)).trans HX
      have d0 := cell_of_row wr w.heap.size 0 _ _ _ hX; have d1 := cell_of_row wr w.heap.size 1 _ _ _ hX; have d2 := cell_of_row wr w.heap.size 2 _ _ _ hX
      simp only [Nat.add_zero] at a0
      simp only [List.getElem?_toArray, List.getElem?_cons_zero, List.getElem?_cons_succ] at d0 d1 d2
      have hii : (0 : Int) ≤ (i : Int) := by omega
      have hin' : (i : Int) < (xs.length : Int) := by omega
      have HBd := Lib.hid hb
      clear hc hci ha hb hX HX hA
      obtain ⟨N, hN⟩ : ∃ N, N = (xs.take i).countP (fun x => sameB x ⟨ck, cn, cx⟩) := ⟨_, rfl⟩
      have hNi : N ≤ i := by rw [hN]; exact Nat.le_trans List.countP_le_length (by simp; omega)
      rw [← hN] at E ⊢
      clear hN
      have hq := fun W => eql_cst ⟨ak, an, ax⟩ ⟨ck, cn, cx⟩ W
      obtain ⟨y, hy⟩ : ∃ y, y = sameB ⟨ak, an, ax⟩ ⟨ck, cn, cx⟩ := ⟨_, rfl⟩
      rw [← hy] at hq E
      clear hy
      have hNN : (0 : Int) ≤ (N : Int) := by omega
      go_wp2
      go_quiet (fail)
      rcases y with _ | _
      · go_wp2
        exact ⟨⟨i + 1, by go_num, by omega, by rw [E.out]; simp, below_drewN HBd.out _⟩, by simp [intOf]; omega⟩
      · go_wp2
        exact ⟨⟨i + 1, by go_num, by omega, by rw [E.out]; simp, below_drewN HBd.out _⟩, by simp [intOf]; omega⟩
    · obtain rfl : i = xs.length := by omega
      clear hA
      rw [List.take_length]
      go_wp2
      go_ret
      exact ⟨by simp, HB.out.trans (hb.mono HB.out.size)⟩

theorem sameB_iff {a b : Cst} : sameB a b = true ↔ a = b := by
  obtain ⟨ak, an, ax⟩ := a
  obtain ⟨bk, bn, bx⟩ := b
  unfold sameB
  simp only [Bool.and_eq_true, beq_iff_eq, Cst.mk.injEq]
  constructor
  · rintro ⟨h1, h2, h3⟩; exact ⟨h1, h2, toList_inj h3⟩
  · rintro ⟨h1, h2, h3⟩; exact ⟨h1, h2, by rw [h3]⟩
/-- Three cells of a list's element. -/
def At3 (w : World) (b o : Nat) (c : Cst) : Prop := w.cell? ⟨b, o, none⟩ = some (.int .i64 c.k) ∧ w.cell? ⟨b, o + 1, none⟩ = some (.int .i64 c.n) ∧ w.cell? ⟨b, o + 2, none⟩ = some (.string c.s)
theorem CsAt.at3 {w : World} {b o : Nat} {c : Cst} (h : CsAt w b o c.cells) : At3 w b o c := ⟨h 0 _ rfl, h 1 _ rfl, h 2 _ rfl⟩
theorem sl_now {w W : World} {A : Option Addr} {xs : List Cst} (h : SlAt w w.heap.size 3 Cst.cells A xs) (hb : Below w.heap.size w W) : SlAt W W.heap.size 3 Cst.cells A xs := by
  rcases h with h | ⟨b, off, hA, hlt, hc⟩
  · exact .inl h
  · exact .inr ⟨b, off, hA, Nat.lt_of_lt_of_le hlt hb.size, fun i x hx => (hc i x hx).below hb hlt⟩
theorem keepT1 {w w1 w2 : World} {b o : Nat} {x y z : Value} (hlt : b < w.heap.size) (h0 : w1.cell? ⟨b, o, none⟩ = some x) (h1 : w1.cell? ⟨b, o + 1, none⟩ = some y) (h2 : w1.cell? ⟨b, o + 2, none⟩ = some z) (hb : Below w.heap.size w w1) (hbel : Below w1.heap.size w1 w2) :
    w2.cell? ⟨b, o, none⟩ = some x ∧ w2.cell? ⟨b, o + 1, none⟩ = some y ∧ w2.cell? ⟨b, o + 2, none⟩ = some z ∧ Below w.heap.size w w2 := by
  have h : b < w1.heap.size := Nat.lt_of_lt_of_le hlt hb.size
  exact ⟨(hbel.cell (p := ⟨b, o, none⟩) h).trans h0, (hbel.cell (p := ⟨b, o + 1, none⟩) h).trans h1, (hbel.cell (p := ⟨b, o + 2, none⟩) h).trans h2, hb.trans (hbel.mono hb.size)⟩
theorem keepT2 {w w1 w2 : World} {b o q : Nat} {x y z x' y' z' : Value} (hlt : b < w.heap.size) (h0 : w1.cell? ⟨b, o, none⟩ = some x) (h1 : w1.cell? ⟨b, o + 1, none⟩ = some y) (h2 : w1.cell? ⟨b, o + 2, none⟩ = some z)
    (g0 : w1.cell? ⟨b, q, none⟩ = some x') (g1 : w1.cell? ⟨b, q + 1, none⟩ = some y') (g2 : w1.cell? ⟨b, q + 2, none⟩ = some z') (hb : Below w.heap.size w w1) (hbel : Below w1.heap.size w1 w2) :
    w2.cell? ⟨b, o, none⟩ = some x ∧ w2.cell? ⟨b, o + 1, none⟩ = some y ∧ w2.cell? ⟨b, o + 2, none⟩ = some z ∧ w2.cell? ⟨b, q, none⟩ = some x' ∧ w2.cell? ⟨b, q + 1, none⟩ = some y' ∧ w2.cell? ⟨b, q + 2, none⟩ = some z' ∧ Below w.heap.size w w2 := by
  obtain ⟨a1, a2, a3, _⟩ := keepT1 hlt h0 h1 h2 hb hbel
  exact ⟨a1, a2, a3, keepT1 hlt g0 g1 g2 hb hbel⟩
theorem sd_ahead {xs : List Cst} (h : Sd xs) {j : Nat} (h1 : j + 1 < xs.length) : aheadB xs[j + 1] xs[j] = false := by
  have := List.pairwise_iff_getElem.1 h j (j + 1) (by omega) h1 (by omega)
  simp only [leC, decide_eq_true_eq] at this
  rw [Bool.eq_false_iff]
  intro ha
  have h2 := cmpC_lt.2 (aheadB_iff.1 ha)
  have h3 := cmpC_neg xs[j] xs[j + 1]
  omega
theorem countP_perm {xs ys : List Cst} (h : xs.Perm ys) (c : Cst) : xs.countP (fun x => sameB x c) = ys.countP (fun x => sameB x c) := h.countP_eq _

set_option maxRecDepth 100000 in
set_option maxHeartbeats 4000000 in
/-- A list in order, of the same ones: 'told' says so. -/
theorem toldW (A B : Option Addr) (ca cb : Nat) (xs ys : List Cst) (w : World) (hA : SlAt w w.heap.size 3 Cst.cells A xs) (hB : SlAt w w.heap.size 3 Cst.cells B ys) (hs : Sd xs) (hp : xs.Perm ys) (hlen : xs.length * 32 ≤ 140737488355328) :
    Calls Try.prog 34 #[.slice A xs.length ca, .slice B ys.length cb] w fun e w' => e = .returned (.bool true) ∧ Below w.heap.size w w' := by
  have hl : ys.length = xs.length := hp.length_eq.symm
  rw [hl]
  have NE : Nonempty (Pt (Below w.heap.size w)) := ⟨⟨w, Below.refl _ _⟩⟩
  go_enter Try.func34, Try.ntmps34
  go_wp2
  go_loopw [5] (fun i wr => ∃ k : Nat, i = .int .i64 k ∧ k ≤ xs.length ∧ Below w.heap.size w wr) (fun i _ => xs.length - (intOf i).toNat)
  case atStart => exact ⟨0, rfl, Nat.zero_le _, Below.refl _ _⟩
  case round =>
    obtain ⟨i, rfl, hi, hb⟩ := hrel
    by_cases hin : i < xs.length
    · obtain ⟨b, off, rfl, hblt, hc⟩ := hA.form (by omega)
      have HT := Lib.hid (fun (W : World) (hW : Below w.heap.size w W) (X : Option Addr) (cx : Nat) (hX : (X = some ⟨b, off, none⟩ ∧ cx = ca) ∨ (X = B ∧ cx = cb)) => (show Calls Try.prog 78 #[.slice X xs.length cx, .agg #[.int .i64 xs[i].k, .int .i64 xs[i].n, .string xs[i].s]] W fun e w' => e = .returned (.int .i64 (xs.countP fun x => sameB x xs[i])) ∧ Below W.heap.size W w' by
        rcases hX with ⟨rfl, rfl⟩ | ⟨rfl, rfl⟩
        · exact timesW _ _ xs xs[i] W (sl_now hA hW) hlen
        · have h := timesW X cx ys xs[i] W (sl_now hB hW) (by rw [hl]; exact hlen)
          rw [hl, countP_perm hp.symm] at h
          exact h))
      have hci := (hc i xs[i] (List.getElem?_eq_getElem hin)).at3
      obtain ⟨⟨ak, an, ax⟩, ha⟩ : ∃ a, a = xs[i] := ⟨_, rfl⟩
      have hii : (0 : Int) ≤ (i : Int) := by omega
      have hin' : (i : Int) < (xs.length : Int) := by omega
      have hlen' : (xs.length : Int) ≤ 4398046511104 := by omega
      rw [← ha] at hci HT
      obtain ⟨N, hN⟩ : ∃ N, N = xs.countP (fun x => sameB x ⟨ak, an, ax⟩) := ⟨_, rfl⟩
      rw [← hN] at HT
      obtain ⟨k0, k1, k2⟩ := hci
      have p0 := fun p : Pt (Below w.heap.size w) => (p.property.cell (p := ⟨b, off + i * 3, none⟩) hblt).trans k0
      have p1 := fun p : Pt (Below w.heap.size w) => (p.property.cell (p := ⟨b, off + i * 3 + 1, none⟩) hblt).trans k1
      have p2 := fun p : Pt (Below w.heap.size w) => (p.property.cell (p := ⟨b, off + i * 3 + 2, none⟩) hblt).trans k2
      have HD := Lib.hid hb.drew
      by_cases h0 : (0 : Int) < (i : Int)
      · obtain ⟨j, hj⟩ : ∃ j, i = j + 1 := ⟨i - 1, by omega⟩
        have hcj := (hc j xs[j] (List.getElem?_eq_getElem (by omega))).at3
        have HA := Lib.hid (fun W => aheadW xs[i] (xs[j]'(by omega)) W)
        have hah : aheadB xs[i] (xs[j]'(by omega)) = false := by subst hj; exact sd_ahead hs (by omega)
        rw [hah] at HA
        have e1 : IntKind.i64.wrap ((i : Int) - 1) = (j : Int) := by rw [IntWalk.i64_in _ (by omega)]; omega
        have hjj : (0 : Int) ≤ (j : Int) := by omega
        have hjn' : (j : Int) < (xs.length : Int) := by omega
        obtain ⟨⟨bk, bn, bx⟩, hbj⟩ : ∃ a, a = xs[j] := ⟨_, rfl⟩
        rw [← ha] at HA
        rw [← hbj] at hcj HA
        obtain ⟨l0, l1, l2⟩ := hcj
        have p3 := fun p : Pt (Below w.heap.size w) => (p.property.cell (p := ⟨b, off + j * 3, none⟩) hblt).trans l0
        have p4 := fun p : Pt (Below w.heap.size w) => (p.property.cell (p := ⟨b, off + j * 3 + 1, none⟩) hblt).trans l1
        have p5 := fun p : Pt (Below w.heap.size w) => (p.property.cell (p := ⟨b, off + j * 3 + 2, none⟩) hblt).trans l2
        have HIN := Lib.hid hin
        have hip : 0 < i := by omega
        clear ha hN hc hA hB hp hs hb k0 k1 k2 l0 l1 l2 hbj hj hah hin hi
        go_wp2
        refine wp_region_class (S := Below w.heap.size w) HD.out (by kernel_rfl) (by kernel_rfl) ?_
        repeat (go_big_quiet_step (first
          | (go_at_call 42; refine (HA.out _).mono ?_; rintro e w' ⟨rfl, hbel⟩; exact ⟨rfl, ⟨w', below_step (Pt.property _) hbel⟩, rfl⟩)
          | (go_at_call 78; refine (HT.out _ (Pt.property _) _ _ (by first | exact .inl ⟨rfl, rfl⟩ | exact .inr ⟨rfl, rfl⟩)).mono ?_; rintro e w' ⟨rfl, hbel⟩; exact ⟨rfl, ⟨w', below_step (Pt.property _) hbel⟩, rfl⟩)))
        refine wpQuiet_nil ?_
        rintro _ ⟨⟨W, hW⟩, rfl⟩
        have HF := Lib.hid hW
        clear p0 p1 p2 p3 p4 p5 NE hW
        go_wp2
        exact ⟨⟨i + 1, by go_num, HIN.out, HF.out⟩, by simp [intOf]; have := HIN.out; omega⟩
      · have hi0 : i = 0 := by omega
        subst hi0
        have HIN := Lib.hid hin
        clear ha hN hc hA hB hp hs hb k0 k1 k2 hin hi h0
        simp only [Nat.zero_mul, Nat.add_zero] at p0 p1 p2
        go_wp2
        refine wp_region_class (S := Below w.heap.size w) HD.out (by kernel_rfl) (by kernel_rfl) ?_
        repeat (go_big_quiet_step (first
          | (go_at_call 78; refine (HT.out _ (Pt.property _) _ _ (by first | exact .inl ⟨rfl, rfl⟩ | exact .inr ⟨rfl, rfl⟩)).mono ?_; rintro e w' ⟨rfl, hbel⟩; exact ⟨rfl, ⟨w', below_step (Pt.property _) hbel⟩, rfl⟩)))
        refine wpQuiet_nil ?_
        rintro _ ⟨⟨W, hW⟩, rfl⟩
        have HF := Lib.hid hW
        clear p0 p1 p2 NE hW
        go_wp2
        exact ⟨⟨1, by go_num, HIN.out, HF.out⟩, by simp [intOf]; have := HIN.out; omega⟩
    · go_wp2
      go_ret
      exact ⟨rfl, hb⟩
end Go.Proofs.Ytblonickpmogiaa
