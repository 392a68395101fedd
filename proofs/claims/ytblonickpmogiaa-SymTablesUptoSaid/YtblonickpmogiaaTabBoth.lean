/- A Table and the document's beside each other: they answer alike. -/
import Derived.Test.YtblonickpmogiaaRefTab2
import Derived.Test.YtblonickpmogiaaRanksW
import Derived.Test.YtblonickpmogiaaBoth
import Derived.Test.YtblonickpmogiaaTabLaw
namespace Go.Proofs.Ytblonickpmogiaa
open Go.RowKit Go.Maps

/-- The two between the call on the first and the call on the second. -/
structure MidT (base : Nat) (w : World) (g1 m1 : Nat) (s1 : Value) (ks : List Cst) (g2 : Nat) (s2 : Value) (ls : List Cst) : Prop where
  x : IdsAt Try.prog kindT base w g1 m1 s1 ks
  y : RTab base w g2 s2 ls
  disj : ∀ b ∈ foot g1 m1 s1, b ∉ rfoot g2 s2
  hb : base ≤ w.heap.size
/-- The two between two calls. -/
structure BothT (base : Nat) (w : World) (g1 m1 : Nat) (s1 : Value) (g2 : Nat) (s2 : Value) (ks : List Cst) : Prop where
  mid : MidT base w g1 m1 s1 ks g2 s2 ks
  ok : ∀ c ∈ ks, c.ok
  len : ks.length ≤ 65536
  nd : ks.Nodup

section
variable {base : Nat} {w w' : World} {g1 m1 : Nat} {s1 : Value} {g2 : Nat} {s2 : Value} {ks ls : List Cst}
theorem MidT.below (h : MidT base w g1 m1 s1 ks g2 s2 ls) (hb : Below w.heap.size w w') : MidT base w' g1 m1 s1 ks g2 s2 ls := ⟨h.x.below hb, h.y.below hb, h.disj, Nat.le_trans h.hb hb.size⟩
theorem MidT.leftX {ks' : List Cst} (h : MidT base w g1 m1 s1 ks g2 s2 ls) (hl : Left Try.prog kindT base w g1 m1 s1 ks' w') : ∃ s1', MidT base w' g1 m1 s1' ks' g2 s2 ls ∧ Below base w w' := by
  obtain ⟨s1', hx, ht, hat⟩ := hl
  refine ⟨s1', ⟨hx, h.y.turns ht (fun b hb hm => h.disj b hm hb), ?_, Nat.le_trans h.hb ht.size⟩, ht.below h.hb (fun b hb => (h.x.foot_lt b hb).1)⟩
  intro b hb
  simp only [foot, List.mem_cons, Option.mem_toList] at hb
  rcases hb with rfl | rfl | hb
  · exact h.disj _ (by simp [foot])
  · exact h.disj _ (by simp [foot])
  · rcases hat b hb with h1 | h1
    · exact h.disj _ (by simp [foot, h1])
    · intro hm; have := (h.y.foot_lt b hm).2; omega
theorem MidT.leftY {ls' : List Cst} (h : MidT base w g1 m1 s1 ks g2 s2 ls) (hl : RTLeft base w g2 s2 ls' w') : ∃ s2', MidT base w' g1 m1 s1 ks g2 s2' ls' ∧ Below base w w' := by
  obtain ⟨s2', hy, ht, hat⟩ := hl
  refine ⟨s2', ⟨h.x.turns ht (fun b hb hm => h.disj b hb hm), hy, ?_, Nat.le_trans h.hb ht.size⟩, ht.below h.hb (fun b hb => (h.y.foot_lt b hb).1)⟩
  intro b hb hm
  simp only [rfoot, List.mem_cons, Option.mem_toList] at hm
  rcases hm with rfl | hm
  · exact h.disj _ hb (by simp [rfoot])
  · rcases hat b hm with h1 | h1
    · exact h.disj _ hb (by simp [rfoot, h1])
    · have := (h.x.foot_lt b hb).2; omega
theorem BothT.below (h : BothT base w g1 m1 s1 g2 s2 ks) (hb : Below w.heap.size w w') : BothT base w' g1 m1 s1 g2 s2 ks := ⟨h.mid.below hb, h.ok, h.len, h.nd⟩
/-- A block of another type's cells is no part of either. -/
theorem MidT.box (h : MidT base w g1 m1 s1 ks g2 s2 ls) {H : Nat} {cs : Array Value} (hb : w.heap[H]? = some (.cells cs 86 (0, 0))) : H ∉ foot g1 m1 s1 ∧ H ∉ rfoot g2 s2 := by
  refine ⟨fun hm => ?_, fun hm => ?_⟩
  · simp only [foot, List.mem_cons, Option.mem_toList] at hm
    rcases hm with rfl | rfl | hm
    · have := h.x.blk
      rw [hb] at this
      injection this with this
      injection this with _ e
      exact absurd e (by decide)
    · obtain ⟨n, D, ⟨es, c, h1, _⟩, _⟩ := h.x.map
      rw [hb] at h1
      cases h1
    · obtain ⟨_, _, cur, h3⟩ := ownBlock_cells h.x.own hm
      rw [hb] at h3
      injection h3 with h3
      injection h3 with _ e
      exact absurd e (by decide)
  · simp only [rfoot, List.mem_cons, Option.mem_toList] at hm
    rcases hm with rfl | hm
    · have := h.y.blk
      rw [hb] at this
      injection this with this
      injection this with _ e
      exact absurd e (by decide)
    · obtain ⟨_, _, cur, h3⟩ := ownBlock_cells h.y.own hm
      rw [hb] at h3
      injection h3 with h3
      injection h3 with _ e
      exact absurd e (by decide)
theorem MidT.boxX {ks' : List Cst} (h : MidT base w g1 m1 s1 ks g2 s2 ls) (hl : Left Try.prog kindT base w g1 m1 s1 ks' w') {H : Nat} {cs : Array Value} (hb : w.heap[H]? = some (.cells cs 86 (0, 0))) : w'.heap[H]? = some (.cells cs 86 (0, 0)) := by
  obtain ⟨_, _, ht, _⟩ := hl
  exact (ht.block H (lt_of_heap hb) (h.box hb).1).trans hb
theorem MidT.boxY {ls' : List Cst} (h : MidT base w g1 m1 s1 ks g2 s2 ls) (hl : RTLeft base w g2 s2 ls' w') {H : Nat} {cs : Array Value} (hb : w.heap[H]? = some (.cells cs 86 (0, 0))) : w'.heap[H]? = some (.cells cs 86 (0, 0)) := by
  obtain ⟨_, _, ht, _⟩ := hl
  exact (ht.block H (lt_of_heap hb) (h.box hb).2).trans hb
end

/-- A constant's first place. -/
theorem first_placeC {ks : List Cst} {k : Cst} (h : k ∈ ks) : ∃ i : Nat, ks[i]? = some k := by
  obtain ⟨i, hi, e⟩ := List.getElem_of_mem h
  exact ⟨i, by rw [List.getElem?_eq_getElem hi, e]⟩

/-- Intern on both. -/
theorem internT_two {ks : List Cst} (c : Cst) (hc : c.ok) (ok : ∀ x ∈ ks, x.ok) (hlen : ks.length ≤ 65536) (nd : ks.Nodup) : ∃ (r e : Int) (ks' : List Cst), (∀ x ∈ ks', x.ok) ∧ ks'.length ≤ 65536 ∧ ks'.Nodup ∧
    (∀ (base : Nat) (w : World) (g m : Nat) (s : Value), base ≤ w.heap.size → IdsAt Try.prog kindT base w g m s ks → Calls Try.prog 53 #[.pointer (some ⟨g, 0, none⟩), .agg #[.int .i64 c.k, .int .i64 c.n, .string c.s]] w fun x w' => x = .returned (.tuple #[.int .i64 r, .int .i64 e]) ∧ Left Try.prog kindT base w g m s ks' w') ∧
    (∀ (base : Nat) (w : World) (g : Nat) (s : Value), base ≤ w.heap.size → RTab base w g s ks → Calls Try.prog 86 #[.pointer (some ⟨g, 0, none⟩), .agg #[.int .i64 c.k, .int .i64 c.n, .string c.s]] w fun x w' => x = .returned (.tuple #[.int .i64 r, .int .i64 e]) ∧ RTLeft base w g s ks' w') := by
  have V := validW c hc.2.2
  rcases hv : validB c with _ | _
  · rw [hv] at V
    exact ⟨0, 5, ks, ok, hlen, nd, fun base w g m s _ hx => (tIntern_bad V).mono fun e w' ⟨he, hw⟩ => ⟨he, left_keep hx hw⟩,
      fun base w g s _ hy => (internRT_bad hc.2.2 hv).mono fun e w' ⟨he, hw⟩ => ⟨he, hy.same hw⟩⟩
  · rw [hv] at V
    rcases Classical.em (c ∈ ks) with hin | hin
    · obtain ⟨i, hi⟩ := first_placeC hin
      exact ⟨i, 0, ks, ok, hlen, nd, fun base w g m s _ hx => (tIntern_old hx V hi).mono fun e w' ⟨he, hw⟩ => ⟨he, left_keep hx hw⟩,
        fun base w g s _ hy => (internRT_old hy (by omega) hc.2.2 hv nd hi).mono fun e w' ⟨he, hw⟩ => ⟨he, hy.same hw⟩⟩
    · rcases Nat.lt_or_ge ks.length 65536 with hl | hl
      · refine ⟨ks.length, 0, ks ++ [c], ?_, by rw [List.length_append]; exact hl, ?_, fun base w g m s hb hx => tIntern_new hx hb V hc hin hl,
          fun base w g s hb hy => internRT_new hy hb hl hc.2.2 hv hin⟩
        · intro x hx
          rcases List.mem_append.1 hx with hx | hx
          · exact ok x hx
          · rw [List.mem_singleton.1 hx]; exact hc
        · rw [List.nodup_append]
          exact ⟨nd, by simp, fun a ha b hb => by rintro rfl; exact hin (by simpa using (List.mem_singleton.1 hb ▸ ha))⟩
      · exact ⟨0, 6, ks, ok, hlen, nd, fun base w g m s _ hx => (tIntern_full hx V hc hin hl).mono fun e w' ⟨he, hw⟩ => ⟨he, left_keep hx hw⟩,
          fun base w g s _ hy => (internRT_full hy (by omega) hl hc.2.2 hv hin).mono fun e w' ⟨he, hw⟩ => ⟨he, hy.same hw⟩⟩

/-- Find on both. -/
theorem findT_two {ks : List Cst} (c : Cst) (hc : c.ok) (hlen : ks.length ≤ 65536) (nd : ks.Nodup) : ∃ r : Int,
    (∀ (base : Nat) (w : World) (g m : Nat) (s : Value), IdsAt Try.prog kindT base w g m s ks → Calls Try.prog 41 #[.pointer (some ⟨g, 0, none⟩), .agg #[.int .i64 c.k, .int .i64 c.n, .string c.s]] w fun e w' => e = .returned (.int .i64 r) ∧ Below w.heap.size w w') ∧
    (∀ (base : Nat) (w : World) (g : Nat) (s : Value), RTab base w g s ks → Calls Try.prog 87 #[.pointer (some ⟨g, 0, none⟩), .agg #[.int .i64 c.k, .int .i64 c.n, .string c.s]] w fun e w' => e = .returned (.int .i64 r) ∧ Below w.heap.size w w') := by
  rcases Classical.em (c ∈ ks) with hin | hin
  · obtain ⟨i, hi⟩ := first_placeC hin
    exact ⟨i, fun base w g m s hx => findT_hit hx hi, fun base w g s hy => findRT hy (by omega) c i (placeC_nodup nd hi)⟩
  · exact ⟨-1, fun base w g m s hx => findT_miss hx hc hin, fun base w g s hy => findRT hy (by omega) c (-1) (.inr ⟨rfl, hin⟩)⟩

set_option maxRecDepth 100000 in
theorem tConst_out {base g m : Nat} {sv : Value} {ks : List Cst} {w : World} (h : IdsAt Try.prog kindT base w g m sv ks) {i : Int} (hi : i < 0 ∨ (ks.length : Int) ≤ i) :
    Calls Try.prog 40 #[.pointer (some ⟨g, 0, none⟩), .int .i64 i] w fun e w' => e = .returned (.tuple #[.agg #[.int .i64 0, .int .i64 0, .string ⟨#[]⟩], .int .i64 2]) ∧ Below w.heap.size w w' := by
  have AT := Lib.hid (fun (W : World) (hb : Below w.heap.size w W) => atT_out (h.below hb) hi)
  clear h hi
  go_enter Try.func40, Try.ntmps40
  go_wp2_with fail
  refine (AT.out _ ((Below.refl _ _).alloc (Nat.le_refl _) _)).mono ?_
  rintro e w2 ⟨rfl, hb⟩
  have hs := hb.size
  simp only [World.size_alloc] at hs
  have hB : Below w.heap.size w w2 := below_step ((Below.refl _ _).alloc (Nat.le_refl _) _) hb
  have hx : w2.heap[w.heap.size]? = some (.cells #[.int .i64 0, .int .i64 0, .string ⟨#[]⟩] 27 (0, 0)) := (hb.block _ (by simp)).trans (heap_alloc_new w _)
  have f0 : w2.frozen? ⟨w.heap.size, 0, none⟩ = false := frozen_of_row w2 _ 0 _ _ hx
  have f1 : w2.frozen? ⟨w.heap.size, 1, none⟩ = false := frozen_of_row w2 _ 1 _ _ hx
  have f2 : w2.frozen? ⟨w.heap.size, 2, none⟩ = false := frozen_of_row w2 _ 2 _ _ hx
  have d0 : w2.cell? ⟨w.heap.size, 0, none⟩ = some (.int .i64 0) := cell_of_row w2 _ 0 _ _ _ hx
  have d1 : w2.cell? ⟨w.heap.size, 1, none⟩ = some (.int .i64 0) := cell_of_row w2 _ 1 _ _ _ hx
  have d2 : w2.cell? ⟨w.heap.size, 2, none⟩ = some (.string ⟨#[]⟩) := cell_of_row w2 _ 2 _ _ _ hx
  have hlt : w.heap.size < w2.heap.size := by omega
  have hne : w2.heap.size ≠ w.heap.size := by omega
  clear hx hb
  go_wp2_with fail
  refine bodyPost_ret (v := .tuple #[.agg #[.int .i64 0, .int .i64 0, .string ⟨#[]⟩], .int .i64 2]) (by simp [results, Try.results40, go_sem, d0, d1, d2, hlt]) rfl ⟨rfl, ?_⟩
  exact (((hB.setCell (p := ⟨w.heap.size, 0, none⟩) (Nat.le_refl _) _).setCell (p := ⟨w.heap.size, 1, none⟩) (Nat.le_refl _) _).setCell (p := ⟨w.heap.size, 2, none⟩) (Nat.le_refl _) _).alloc (by simp; omega) _

/-- At on both. -/
theorem atT_two {ks : List Cst} (n : Int) : ∃ (v : Cst) (b : Bool),
    (∀ (base : Nat) (w : World) (g m : Nat) (s : Value), IdsAt Try.prog kindT base w g m s ks → Calls Try.prog 54 #[.pointer (some ⟨g, 0, none⟩), .int .i64 n] w fun e w' => e = .returned (.tuple #[.agg #[.int .i64 v.k, .int .i64 v.n, .string v.s], .bool b]) ∧ Below w.heap.size w w') ∧
    (∀ (base : Nat) (w : World) (g : Nat) (s : Value), RTab base w g s ks → Calls Try.prog 88 #[.pointer (some ⟨g, 0, none⟩), .int .i64 n] w fun e w' => e = .returned (.tuple #[.agg #[.int .i64 v.k, .int .i64 v.n, .string v.s], .bool b]) ∧ Below w.heap.size w w') := by
  by_cases hN : n < 0 ∨ (ks.length : Int) ≤ n
  · exact ⟨cst0, false, fun base w g m s hx => atT_out hx hN, fun base w g s hy => atRT_out hy hN⟩
  · obtain ⟨i, rfl⟩ : ∃ i : Nat, n = (i : Int) := ⟨n.toNat, by omega⟩
    have h1 : ks[i]? = some (ks[i]'(by omega)) := List.getElem?_eq_getElem (by omega)
    exact ⟨_, true, fun base w g m s hx => atT_in hx h1, fun base w g s hy => atRT_in hy h1⟩
/-- Const on both. -/
theorem constT_two {ks : List Cst} (n : Int) : ∃ (v : Cst) (b : Int),
    (∀ (base : Nat) (w : World) (g m : Nat) (s : Value), IdsAt Try.prog kindT base w g m s ks → Calls Try.prog 40 #[.pointer (some ⟨g, 0, none⟩), .int .i64 n] w fun e w' => e = .returned (.tuple #[.agg #[.int .i64 v.k, .int .i64 v.n, .string v.s], .int .i64 b]) ∧ Below w.heap.size w w') ∧
    (∀ (base : Nat) (w : World) (g : Nat) (s : Value), RTab base w g s ks → Calls Try.prog 89 #[.pointer (some ⟨g, 0, none⟩), .int .i64 n] w fun e w' => e = .returned (.tuple #[.agg #[.int .i64 v.k, .int .i64 v.n, .string v.s], .int .i64 b]) ∧ Below w.heap.size w w') := by
  by_cases hN : n < 0 ∨ (ks.length : Int) ≤ n
  · exact ⟨cst0, 2, fun base w g m s hx => tConst_out hx hN, fun base w g s hy => constRT_out hy hN⟩
  · obtain ⟨i, rfl⟩ : ∃ i : Nat, n = (i : Int) := ⟨n.toNat, by omega⟩
    have h1 : ks[i]? = some (ks[i]'(by omega)) := List.getElem?_eq_getElem (by omega)
    exact ⟨_, 0, fun base w g m s hx => tConst_in hx h1, fun base w g s hy => constRT_in hy h1⟩
end Go.Proofs.Ytblonickpmogiaa
