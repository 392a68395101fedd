/- One call on both Ids (edictlaw01.idsStep): the ways without All. -/
import Derived.Test.YtblonickpmogiaaStrings
import Derived.Deep.RegionHeld3
import Derived.Deep.DrawnRows
namespace Go.Proofs.Ytblonickpmogiaa
open Go.RowKit Go.Maps

def DoneS (base : Nat) (w : World) (g1 m1 g2 n : Nat) (w' : World) : Prop := ∃ s1 s2 ks, Both base w' g1 m1 s1 g2 s2 ks ∧ ks.length ≤ n ∧ Below base w w'

section
variable {base : Nat} {w : World} {g1 m1 : Nat} {s1 : Value} {g2 : Nat} {s2 : Value} {ks : List ByteArray}
/-- The call's box. -/
theorem Both.boxed (h : Both base w g1 m1 s1 g2 s2 ks) (kd N : Int) (K : ByteArray) : ∃ W, W = w.alloc (.cells #[.int .i64 kd, .string K, .int .i64 N] 51) ∧
    W.heap[w.heap.size]? = some (.cells #[.int .i64 kd, .string K, .int .i64 N] 51 (0, 0)) ∧ Both base W g1 m1 s1 g2 s2 ks ∧ Below base w W :=
  ⟨_, rfl, heap_alloc_new w _, h.below ((Below.refl _ _).alloc (Nat.le_refl _) _), (Below.refl _ _).alloc h.hb _⟩
end

theorem drewN_below {B : Nat} {a w : World} (h : Below B a w) (n : Nat) : Below B a (w.drewN n) := ⟨h.os, h.tape, h.output, h.size, h.block⟩
theorem Both.drewN {base : Nat} {w : World} {g1 m1 : Nat} {s1 : Value} {g2 : Nat} {s2 : Value} {ks : List ByteArray} (h : Both base w g1 m1 s1 g2 s2 ks) (n : Nat) : Both base (w.drewN n) g1 m1 s1 g2 s2 ks := h.below (drewN_below (Below.refl _ _) n)
/-- The box is no part of the Ids. -/
theorem left_cell {base : Nat} {w w' : World} {g m : Nat} {s : Value} {ks ks' : List ByteArray} (hl : Left Try.prog kindS base w g m s ks' w') (h : IdsAt Try.prog kindS base w g m s ks) {H : Nat} {cs : Array Value} (hb : w.heap[H]? = some (.cells cs 51 (0, 0))) : w'.heap[H]? = some (.cells cs 51 (0, 0)) := by
  obtain ⟨s', _, ht, _⟩ := hl
  refine (ht.block H (lt_of_heap hb) ?_).trans hb
  intro hm
  simp only [foot, List.mem_cons, Option.mem_toList] at hm
  rcases hm with rfl | rfl | hm
  · have := h.blk
    rw [hb] at this
    injection this with this
    injection this with _ e
    exact absurd e (by decide)
  · obtain ⟨n, D, ⟨es, c, h1, _⟩, _⟩ := h.map
    rw [hb] at h1
    cases h1
  · obtain ⟨_, _, cur, h3⟩ := ownBlock_cells h.own hm
    rw [hb] at h3
    injection h3 with h3
    injection h3 with _ e
    exact absurd e (by decide)

set_option maxRecDepth 100000 in
theorem step3 {base : Nat} {w : World} {g1 m1 : Nat} {s1 : Value} {g2 : Nat} {s2 : Value} {ks : List ByteArray} (h : Both base w g1 m1 s1 g2 s2 ks) (K : ByteArray) (N : Int) :
    Calls Try.prog 30 #[.pointer (some ⟨g1, 0, none⟩), .pointer (some ⟨g2, 0, none⟩), .agg #[.int .i64 3, .string K, .int .i64 N]] w fun e w' => e = .returned (.bool true) ∧ DoneS base w g1 m1 g2 (ks.length + 1) w' := by
  obtain ⟨W, hW, hbox, B, hB⟩ := h.boxed 3 N K
  obtain ⟨v, ok, hx, hy⟩ := at_two (ks := ks) N
  have HX := Lib.hid (hx _ _ _ _ _ B.x)
  have HY := Lib.hid (hy _ _ _ _ B.y)
  have o2 : W.cell? ⟨w.heap.size, 2, none⟩ = some (.int .i64 N) := cell_of_row W _ 2 _ _ _ hbox
  have o0 : W.cell? ⟨w.heap.size, 0, none⟩ = some (.int .i64 3) := cell_of_row W _ 0 _ _ _ hbox
  have HD : Hid (DoneS base w g1 m1 g2 (ks.length + 1) W) := ⟨s1, s2, ks, B, by omega, hB⟩
  clear h hbox hB hx hy B
  subst hW
  go_enter Try.func30, Try.ntmps30
  go_wp2_with fail
  refine HX.out.mono ?_
  rintro e w1 ⟨rfl, rfl⟩
  go_wp2_with fail
  refine HY.out.mono ?_
  rintro e w1 ⟨rfl, rfl⟩
  go_wp2_with fail
  go_ret
  exact ⟨rfl, HD.out⟩

set_option maxRecDepth 100000 in
theorem step4 {base : Nat} {w : World} {g1 m1 : Nat} {s1 : Value} {g2 : Nat} {s2 : Value} {ks : List ByteArray} (h : Both base w g1 m1 s1 g2 s2 ks) (K : ByteArray) (N : Int) :
    Calls Try.prog 30 #[.pointer (some ⟨g1, 0, none⟩), .pointer (some ⟨g2, 0, none⟩), .agg #[.int .i64 4, .string K, .int .i64 N]] w fun e w' => e = .returned (.bool true) ∧ DoneS base w g1 m1 g2 (ks.length + 1) w' := by
  obtain ⟨W, hW, hbox, B, hB⟩ := h.boxed 4 N K
  have o2 : W.cell? ⟨w.heap.size, 2, none⟩ = some (.int .i64 N) := cell_of_row W _ 2 _ _ _ hbox
  have o1 : W.cell? ⟨w.heap.size, 1, none⟩ = some (.string K) := cell_of_row W _ 1 _ _ _ hbox
  have o0 : W.cell? ⟨w.heap.size, 0, none⟩ = some (.int .i64 4) := cell_of_row W _ 0 _ _ _ hbox
  have HX := Lib.hid (lenS B.x)
  have HY := Lib.hid (lenR B.y)
  have HD : Hid (DoneS base w g1 m1 g2 (ks.length + 1) W) := ⟨s1, s2, ks, B, by omega, hB⟩
  clear h hbox hB B
  subst hW
  go_enter Try.func30, Try.ntmps30
  go_wp2_with fail
  refine HX.out.mono ?_
  rintro e w1 ⟨rfl, rfl⟩
  go_wp2_with fail
  refine HY.out.mono ?_
  rintro e w1 ⟨rfl, rfl⟩
  go_wp2_with fail
  go_ret
  exact ⟨by simp, HD.out⟩

set_option maxRecDepth 100000 in
theorem stepO {base : Nat} {w : World} {g1 m1 : Nat} {s1 : Value} {g2 : Nat} {s2 : Value} {ks : List ByteArray} (h : Both base w g1 m1 s1 g2 s2 ks) (K : ByteArray) (N : Int) (kd : Int) (k1 : kd ≠ 1) (k2 : kd ≠ 2) (k3 : kd ≠ 3) (k4 : kd ≠ 4) (k5 : kd ≠ 5) (k6 : kd ≠ 6) (k7 : kd ≠ 7) :
    Calls Try.prog 30 #[.pointer (some ⟨g1, 0, none⟩), .pointer (some ⟨g2, 0, none⟩), .agg #[.int .i64 kd, .string K, .int .i64 N]] w fun e w' => e = .returned (.bool true) ∧ DoneS base w g1 m1 g2 (ks.length + 1) w' := by
  obtain ⟨W, hW, hbox, B, hB⟩ := h.boxed kd N K
  have o2 : W.cell? ⟨w.heap.size, 2, none⟩ = some (.int .i64 N) := cell_of_row W _ 2 _ _ _ hbox
  have o1 : W.cell? ⟨w.heap.size, 1, none⟩ = some (.string K) := cell_of_row W _ 1 _ _ _ hbox
  have o0 : W.cell? ⟨w.heap.size, 0, none⟩ = some (.int .i64 kd) := cell_of_row W _ 0 _ _ _ hbox
  have HD : Hid (DoneS base w g1 m1 g2 (ks.length + 1) W) := ⟨s1, s2, ks, B, by omega, hB⟩
  have e1 : (kd == 1) = false := by simpa using k1
  have e2 : (kd == 2) = false := by simpa using k2
  have e3 : (kd == 3) = false := by simpa using k3
  have e4 : (kd == 4) = false := by simpa using k4
  have e5 : (kd == 5) = false := by simpa using k5
  have e6 : (kd == 6) = false := by simpa using k6
  have e7 : (kd == 7) = false := by simpa using k7
  clear h hbox hB B k1 k2 k3 k4 k5 k6 k7
  subst hW
  go_enter Try.func30, Try.ntmps30
  go_wp2_with fail
  go_ret
  exact ⟨rfl, HD.out⟩

set_option maxRecDepth 100000 in
theorem step6 {base : Nat} {w : World} {g1 m1 : Nat} {s1 : Value} {g2 : Nat} {s2 : Value} {ks : List ByteArray} (h : Both base w g1 m1 s1 g2 s2 ks) (K : ByteArray) (N : Int) (n1 : -9223372036854775808 ≤ N) (n2 : N ≤ 9223372036854775807) (hlen : ks.length ≤ 6000000000000) :
    Calls Try.prog 30 #[.pointer (some ⟨g1, 0, none⟩), .pointer (some ⟨g2, 0, none⟩), .agg #[.int .i64 6, .string K, .int .i64 N]] w fun e w' => e = .returned (.bool true) ∧ DoneS base w g1 m1 g2 (ks.length + 1) w' := by
  obtain ⟨W, hW, hbox, B, hB⟩ := h.boxed 6 N K
  have o2 : W.cell? ⟨w.heap.size, 2, none⟩ = some (.int .i64 N) := cell_of_row W _ 2 _ _ _ hbox
  have o1 : W.cell? ⟨w.heap.size, 1, none⟩ = some (.string K) := cell_of_row W _ 1 _ _ _ hbox
  have o0 : W.cell? ⟨w.heap.size, 0, none⟩ = some (.int .i64 6) := cell_of_row W _ 0 _ _ _ hbox
  have hwf : ∀ k ∈ ks.take N.toNat, k.size ≤ maxLen := fun k hk => h.wf k (List.mem_of_mem_take hk)
  have M := B.mid
  have HB := Lib.hid hbox
  clear h hbox B
  subst hW
  go_enter Try.func30, Try.ntmps30
  go_wp2_with fail
  refine (cutS M.x N n1 n2 hlen).mono ?_
  rintro e w1 ⟨rfl, hl⟩
  obtain ⟨t1, M1, b1⟩ := M.leftX hl
  have B1 := hB.trans b1
  have q2 : w1.cell? ⟨w.heap.size, 2, none⟩ = some (.int .i64 N) := cell_of_row w1 _ 2 _ _ _ (left_cell hl M.x HB.out)
  clear M hl hB b1 o0 o1 o2
  go_wp2_with fail
  refine (cutR M1.y M1.hb hlen N n1 n2).mono ?_
  rintro e w2 ⟨rfl, hl⟩
  obtain ⟨t2, M2, b2⟩ := M1.leftY hl
  have B2 := B1.trans b2
  clear M1 hl B1 b2 q2
  go_wp2_with fail
  go_ret
  exact ⟨rfl, t1, t2, _, M2.both hwf, by rw [List.length_take]; omega, B2⟩

set_option maxRecDepth 100000 in
theorem step2 {base : Nat} {w : World} {g1 m1 : Nat} {s1 : Value} {g2 : Nat} {s2 : Value} {ks : List ByteArray} (h : Both base w g1 m1 s1 g2 s2 ks) (K : ByteArray) (N : Int) (hK : K.size ≤ maxLen) (hlen : ks.length ≤ 6000000000000) :
    Calls Try.prog 30 #[.pointer (some ⟨g1, 0, none⟩), .pointer (some ⟨g2, 0, none⟩), .agg #[.int .i64 2, .string K, .int .i64 N]] w fun e w' => e = .returned (.bool true) ∧ DoneS base w g1 m1 g2 (ks.length + 1) w' := by
  obtain ⟨W, hW, hbox, B, hB⟩ := h.boxed 2 N K
  have o2 : W.cell? ⟨w.heap.size, 2, none⟩ = some (.int .i64 N) := cell_of_row W _ 2 _ _ _ hbox
  have o1 : W.cell? ⟨w.heap.size, 1, none⟩ = some (.string K) := cell_of_row W _ 1 _ _ _ hbox
  have o0 : W.cell? ⟨w.heap.size, 0, none⟩ = some (.int .i64 2) := cell_of_row W _ 0 _ _ _ hbox
  obtain ⟨r, hx, hy⟩ := find_two (ks := ks) K hK hlen
  have HX := Lib.hid hx
  have HY := Lib.hid hy
  clear h hbox hx hy
  subst hW
  go_enter Try.func30, Try.ntmps30
  go_wp2_with fail
  go_quiet (first | (go_at_call 48; exact Calls.quiet_of_same ((HX.out _ _ _ _ _ (B.drewN _).x).mono (fun _ _ h => ⟨h.1, h.2.symm⟩))) | (go_at_call 65; exact Calls.quiet_of_same ((HY.out _ _ _ _ (B.drewN _).y).mono (fun _ _ h => ⟨h.1, h.2.symm⟩))))
  go_wp2
  go_ret
  exact ⟨by simp, s1, s2, ks, B.drewN _, by omega, drewN_below hB _⟩
end Go.Proofs.Ytblonickpmogiaa
