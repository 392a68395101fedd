/- Two Ids beside each other, ints and the constants that stand for them. -/
import Derived.Test.YtblonickpmogiaaIdsI
import Derived.Test.YtblonickpmogiaaIdsC
namespace Go.Proofs.Ytblonickpmogiaa
open Go.RowKit Go.Maps

/-- The constant that stands for a number. -/
def cstOf (k : Int) : Cst := ⟨1, k, ⟨#[]⟩⟩
theorem cstOf_ok {k : Int} (h : (Lit.int .i64 k).wf = true) : (cstOf k).ok := ⟨show (Lit.int .i64 1).wf = true by decide, h, by show (0 : Nat) ≤ maxLen; unfold maxLen; omega⟩
theorem cstOf_inj {a b : Int} (h : cstOf a = cstOf b) : a = b := by injection h
theorem not_mem_cst {ks : List Int} {k : Int} (h : k ∉ ks) : cstOf k ∉ ks.map cstOf := by
  intro hm
  obtain ⟨x, hx, he⟩ := List.mem_map.1 hm
  exact h (cstOf_inj he ▸ hx)

/-- The struct o in block H, an Ids of ints, an Ids of constants; nothing shared. -/
structure Ren (base : Nat) (w : World) (H : Nat) (kd K N : Int) (g1 m1 : Nat) (s1 : Value) (ks : List Int) (g2 m2 : Nat) (s2 : Value) (ls : List Cst) : Prop where
  box : w.heap[H]? = some (.cells #[.int .i64 kd, .int .i64 K, .int .i64 N] 41 (0, 0))
  x : IdsAt Try.prog kindI base w g1 m1 s1 ks
  y : IdsAt Try.prog kindC base w g2 m2 s2 ls
  disj : ∀ b ∈ foot g1 m1 s1, b ∉ foot g2 m2 s2
  h1 : H ∉ foot g1 m1 s1
  h2 : H ∉ foot g2 m2 s2
  hb : base ≤ w.heap.size

section
variable {base : Nat} {w w' : World} {H : Nat} {kd K N : Int} {g1 m1 : Nat} {s1 : Value} {ks : List Int} {g2 m2 : Nat} {s2 : Value} {ls : List Cst}
theorem Ren.c0 (h : Ren base w H kd K N g1 m1 s1 ks g2 m2 s2 ls) : w.cell? ⟨H, 0, none⟩ = some (.int .i64 kd) := cell_of_row w H 0 _ _ _ h.box
theorem Ren.c1 (h : Ren base w H kd K N g1 m1 s1 ks g2 m2 s2 ls) : w.cell? ⟨H, 1, none⟩ = some (.int .i64 K) := cell_of_row w H 1 _ _ _ h.box
theorem Ren.c2 (h : Ren base w H kd K N g1 m1 s1 ks g2 m2 s2 ls) : w.cell? ⟨H, 2, none⟩ = some (.int .i64 N) := cell_of_row w H 2 _ _ _ h.box
theorem Ren.lt (h : Ren base w H kd K N g1 m1 s1 ks g2 m2 s2 ls) : H < w.heap.size := lt_of_heap h.box
theorem Ren.below (h : Ren base w H kd K N g1 m1 s1 ks g2 m2 s2 ls) (hb : Below w.heap.size w w') : Ren base w' H kd K N g1 m1 s1 ks g2 m2 s2 ls :=
  ⟨(hb.block H h.lt).trans h.box, h.x.below hb, h.y.below hb, h.disj, h.h1, h.h2, Nat.le_trans h.hb hb.size⟩
theorem Ren.leftX {ks' : List Int} (h : Ren base w H kd K N g1 m1 s1 ks g2 m2 s2 ls) (hl : Left Try.prog kindI base w g1 m1 s1 ks' w') : ∃ s1', Ren base w' H kd K N g1 m1 s1' ks' g2 m2 s2 ls ∧ Below base w w' := by
  obtain ⟨s1', hx, ht, hat⟩ := hl
  refine ⟨s1', ⟨(ht.block H h.lt h.h1).trans h.box, hx, h.y.turns ht (fun b hb hm => h.disj b hm hb), ?_, ?_, h.h2, Nat.le_trans h.hb ht.size⟩, ht.below h.hb (fun b hb => (h.x.foot_lt b hb).1)⟩
  · intro b hb
    simp only [foot, List.mem_cons, Option.mem_toList] at hb
    rcases hb with rfl | rfl | hb
    · exact h.disj _ (by simp [foot])
    · exact h.disj _ (by simp [foot])
    · rcases hat b hb with h1 | h1
      · exact h.disj _ (by simp [foot, h1])
      · intro hm; have := (h.y.foot_lt b hm).2; omega
  · intro hm
    simp only [foot, List.mem_cons, Option.mem_toList] at hm
    have hlt := h.lt
    rcases hm with e | e | hb
    · exact h.h1 (by simp [foot, e])
    · exact h.h1 (by simp [foot, e])
    · rcases hat H hb with h1 | h1
      · exact h.h1 (by simp [foot, h1])
      · omega
theorem Ren.leftY {ls' : List Cst} (h : Ren base w H kd K N g1 m1 s1 ks g2 m2 s2 ls) (hl : Left Try.prog kindC base w g2 m2 s2 ls' w') : ∃ s2', Ren base w' H kd K N g1 m1 s1 ks g2 m2 s2' ls' ∧ Below base w w' := by
  obtain ⟨s2', hy, ht, hat⟩ := hl
  refine ⟨s2', ⟨(ht.block H h.lt h.h2).trans h.box, h.x.turns ht (fun b hb hm => h.disj b hb hm), hy, ?_, h.h1, ?_, Nat.le_trans h.hb ht.size⟩, ht.below h.hb (fun b hb => (h.y.foot_lt b hb).1)⟩
  · intro b hb hm
    simp only [foot, List.mem_cons, Option.mem_toList] at hm
    rcases hm with rfl | rfl | hm
    · exact h.disj _ hb (by simp [foot])
    · exact h.disj _ hb (by simp [foot])
    · rcases hat b hm with h1 | h1
      · exact h.disj _ hb (by simp [foot, h1])
      · have := (h.x.foot_lt b hb).2; omega
  · intro hm
    simp only [foot, List.mem_cons, Option.mem_toList] at hm
    have hlt := h.lt
    rcases hm with e | e | hb
    · exact h.h2 (by simp [foot, e])
    · exact h.h2 (by simp [foot, e])
    · rcases hat H hb with h1 | h1
      · exact h.h2 (by simp [foot, h1])
      · omega
end

theorem key_any (k : Int) (w : World) : Calls Try.prog 23 #[.int .i64 k] w fun e w' => e = .returned (.agg #[.int .i64 1, .int .i64 k, .string ⟨#[]⟩]) ∧ Below w.heap.size w w' := by
  go_enter Try.func23, Try.ntmps23
  go_wp2
  refine bodyPost_ret (v := .agg #[.int .i64 1, .int .i64 k, .string ⟨#[]⟩]) (by simp [results, Try.results23, go_sem]) rfl ⟨rfl, ?_⟩
  exact (Below.refl _ _).alloc (Nat.le_refl _) _

/-- The two Ids between two calls. -/
structure Pair (base : Nat) (w : World) (g1 m1 : Nat) (s1 : Value) (ks : List Int) (g2 m2 : Nat) (s2 : Value) : Prop where
  x : IdsAt Try.prog kindI base w g1 m1 s1 ks
  y : IdsAt Try.prog kindC base w g2 m2 s2 (ks.map cstOf)
  disj : ∀ b ∈ foot g1 m1 s1, b ∉ foot g2 m2 s2
  hb : base ≤ w.heap.size
  wf : ∀ k ∈ ks, (Lit.int .i64 k).wf = true
def Done (base : Nat) (w : World) (g1 m1 g2 m2 n : Nat) (w' : World) : Prop := ∃ s1 s2 ks, Pair base w' g1 m1 s1 ks g2 m2 s2 ∧ ks.length ≤ n ∧ Below base w w'

theorem Pair.ren {base : Nat} {w : World} {g1 m1 : Nat} {s1 : Value} {ks : List Int} {g2 m2 : Nat} {s2 : Value} (h : Pair base w g1 m1 s1 ks g2 m2 s2) (kd K N : Int) :
    Ren base (w.alloc (.cells #[.int .i64 kd, .int .i64 K, .int .i64 N] 41)) w.heap.size kd K N g1 m1 s1 ks g2 m2 s2 (ks.map cstOf) := by
  have hb : Below w.heap.size w (w.alloc (.cells #[.int .i64 kd, .int .i64 K, .int .i64 N] 41)) := (Below.refl _ _).alloc (Nat.le_refl _) _
  exact ⟨heap_alloc_new w _, h.x.below hb, h.y.below hb, h.disj, fun hm => by have := (h.x.foot_lt _ hm).2; omega, fun hm => by have := (h.y.foot_lt _ hm).2; omega, Nat.le_trans h.hb hb.size⟩
theorem Ren.done {base : Nat} {w w' : World} {H : Nat} {kd K N : Int} {g1 m1 : Nat} {s1 : Value} {ks : List Int} {g2 m2 : Nat} {s2 : Value} {n : Nat} (h : Ren base w' H kd K N g1 m1 s1 ks g2 m2 s2 (ks.map cstOf)) (hw : ∀ k ∈ ks, (Lit.int .i64 k).wf = true) (hn : ks.length ≤ n) (hb : Below base w w') :
    Done base w g1 m1 g2 m2 n w' := ⟨s1, s2, ks, ⟨h.x, h.y, h.disj, h.hb, hw⟩, hn, hb⟩

set_option maxRecDepth 100000 in
theorem ren1_old {base : Nat} {w : World} {g1 m1 : Nat} {s1 : Value} {ks : List Int} {g2 m2 : Nat} {s2 : Value} (h : Pair base w g1 m1 s1 ks g2 m2 s2) (K N : Int) (i : Nat) (hk : ks[i]? = some K) :
    Calls Try.prog 26 #[.pointer (some ⟨g1, 0, none⟩), .pointer (some ⟨g2, 0, none⟩), .agg #[.int .i64 1, .int .i64 K, .int .i64 N]] w fun e w' => e = .returned (.bool true) ∧ Done base w g1 m1 g2 m2 (ks.length + 1) w' := by
  have R := h.ren 1 K N
  have hk2 : (ks.map cstOf)[i]? = some (cstOf K) := by rw [List.getElem?_map, hk]; rfl
  have hwf := h.wf
  have B0 : Below base w (w.alloc (.cells #[.int .i64 1, .int .i64 K, .int .i64 N] 41)) := (Below.refl _ _).alloc h.hb _
  have hi0 : ¬ (i : Int) < 0 := by omega
  clear h
  go_enter Try.func26, Try.ntmps26
  go_wp2_with fail
  refine (lenI R.x).mono ?_
  rintro e w1 ⟨rfl, rfl⟩
  go_wp2_with fail
  refine (findI_hit R.x hk).mono ?_
  rintro e w1 ⟨rfl, rfl⟩
  go_wp2_with fail
  refine (internI_old R.x hk).mono ?_
  rintro e w1 ⟨rfl, rfl⟩
  go_wp2_with fail
  refine (lenI R.x).mono ?_
  rintro e w1 ⟨rfl, rfl⟩
  go_wp2_with fail
  refine (key_any K _).mono ?_
  rintro e w1 ⟨rfl, b1⟩
  have R1 := R.below b1
  have B1 := B0.trans (b1.mono R.hb)
  have o1 := R1.c1
  clear R B0 b1
  go_wp2_with fail
  refine (internC_old R1.y hk2).mono ?_
  rintro e w2 ⟨rfl, b1⟩
  have R2 := R1.below b1
  have B2 := B1.trans (b1.mono R1.hb)
  clear o1
  have o1 := R2.c1
  clear R1 B1 b1
  go_wp2_with fail
  refine (findI_hit R2.x hk).mono ?_
  rintro e w1 ⟨rfl, rfl⟩
  go_wp2_with fail
  go_ret
  exact ⟨rfl, R2.done hwf (by omega) B2⟩
end Go.Proofs.Ytblonickpmogiaa
