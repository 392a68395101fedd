/- A Table: New, Intern. -/
import Derived.Test.YtblonickpmogiaaIdsT
import Derived.StillTailTactics
namespace Go.Proofs.Ytblonickpmogiaa
open Go.RowKit Go.Maps

set_option maxRecDepth 100000 in
theorem newT (w : World) : Calls Try.prog 49 #[] w fun e w' => ∃ g, e = .returned (.pointer (some ⟨g, 0, none⟩)) ∧ IdsAt Try.prog kindT w.heap.size w' g w.heap.size (.slice none 0 0) [] ∧ Below w.heap.size w w' := by
  have HN := Lib.hid (newC w)
  go_enter Try.func49, Try.ntmps49
  go_wp2_with fail
  refine HN.out.mono ?_
  rintro e w1 ⟨rfl, h, b⟩
  have c0 := h.c0
  have c1 := h.c1
  have hs := b.size
  go_wp2_with fail
  go_ret
  refine ⟨w1.heap.size, rfl, ⟨?_, World.ownsRow_nil _ _ _ _, ?_, hs, Nat.le_refl _⟩, b.alloc hs _⟩
  · have := heap_alloc_new w1 (.cells #[.slice none 0 0, .map (some w.heap.size)] 65)
    simpa [kindT] using this
  · exact h.map.of_block (by exact Below.heap_alloc _ _ _ h.m_lt)

/-- What a call of Valid says. -/
def SaysValid (c : Cst) (b : Bool) : Prop := ∀ W : World, Calls Try.prog 81 #[.agg #[.int .i64 c.k, .int .i64 c.n, .string c.s]] W fun e w' => e = .returned (.bool b) ∧ Below W.heap.size W w'

set_option maxRecDepth 100000 in
theorem valid_int (n : Int) : SaysValid ⟨1, n, ⟨#[]⟩⟩ true := by
  intro w
  go_enter Try.func81, Try.ntmps81
  go_wp2
  go_ret
  exact ⟨rfl, (Below.refl _ _).alloc (Nat.le_refl _) _⟩
set_option maxRecDepth 100000 in
theorem valid_zero : SaysValid ⟨0, 0, ⟨#[]⟩⟩ false := by
  intro w
  go_enter Try.func81, Try.ntmps81
  go_wp2
  go_ret
  exact ⟨rfl, (Below.refl _ _).alloc (Nat.le_refl _) _⟩

section
variable {base : Nat} {w : World} {g m : Nat} {sv : Value} {ks : List Cst}
theorem left_after {ks' : List Cst} {w1 w' : World} (hb : Below w.heap.size w w1) (hl : Left Try.prog kindT base w1 g m sv ks' w') : Left Try.prog kindT base w g m sv ks' w' := by
  obtain ⟨s', h1, ht, hf⟩ := hl
  refine ⟨s', h1, (Turns.of_below (S := foot g m sv) hb).trans ht (fun x hx => .inl hx), fun b hbb => ?_⟩
  rcases hf b hbb with h | h
  · exact .inl h
  · exact .inr (Nat.le_trans hb.size h)
theorem left_keep {w' : World} (h : IdsAt Try.prog kindT base w g m sv ks) (hb : Below w.heap.size w w') : Left Try.prog kindT base w g m sv ks w' :=
  ⟨sv, h.below hb, (Turns.of_below hb), fun _ hb => .inl hb⟩
end

/-- The box of a constant, behind what keeps it. -/
theorem box_cells {w w' : World} {c : Cst} (hb : Below (w.alloc (.cells #[.int .i64 c.k, .int .i64 c.n, .string c.s] 27)).heap.size (w.alloc (.cells #[.int .i64 c.k, .int .i64 c.n, .string c.s] 27)) w') :
    w'.cell? ⟨w.heap.size, 0, none⟩ = some (.int .i64 c.k) ∧ w'.cell? ⟨w.heap.size, 1, none⟩ = some (.int .i64 c.n) ∧ w'.cell? ⟨w.heap.size, 2, none⟩ = some (.string c.s) := by
  have hx : w'.heap[w.heap.size]? = some (.cells #[.int .i64 c.k, .int .i64 c.n, .string c.s] 27 (0, 0)) := (hb.block _ (by simp)).trans (heap_alloc_new w _)
  exact ⟨cell_of_row w' _ 0 _ _ _ hx, cell_of_row w' _ 1 _ _ _ hx, cell_of_row w' _ 2 _ _ _ hx⟩

set_option maxRecDepth 100000 in
set_option maxHeartbeats 1000000 in
theorem tIntern_new {base : Nat} {w : World} {g m : Nat} {sv : Value} {ks : List Cst} (h : IdsAt Try.prog kindT base w g m sv ks) (hbase : base ≤ w.heap.size) {c : Cst} (hv : SaysValid c true) (hok : c.ok) (hk : c ∉ ks) (hn : ks.length < 65536) :
    Calls Try.prog 53 #[.pointer (some ⟨g, 0, none⟩), .agg #[.int .i64 c.k, .int .i64 c.n, .string c.s]] w fun e w' => e = .returned (.tuple #[.int .i64 ks.length, .int .i64 0]) ∧ Left Try.prog kindT base w g m sv (ks ++ [c]) w' := by
  have HV := Lib.hid hv
  have b0 : Below w.heap.size w (w.alloc (.cells #[.int .i64 c.k, .int .i64 c.n, .string c.s] 27)) := (Below.refl _ _).alloc (Nat.le_refl _) _
  clear hv
  go_enter Try.func53, Try.ntmps53
  go_wp2_with fail
  refine (HV.out _).mono ?_
  rintro e w1 ⟨rfl, b1⟩
  obtain ⟨x0, x1, x2⟩ := box_cells b1.drew
  have hB1 : Below w.heap.size w w1.drew := b0.trans (b1.mono b0.size).drew
  have h1 := h.below hB1
  have HF := Lib.hid (findT_miss h1 hok hk)
  have hq : decide ((65536 : Int) ≤ (ks.length : Int)) = false := decide_eq_false (by omega)
  have HN := Lib.hid hn
  clear hn
  go_wp2_with fail
  go_still_tail 4, (by kernel_rfl)
  change wpList _ _ _ _ _ w1.drew
  go_wp2_with fail
  refine HF.out.mono ?_
  rintro e w2 ⟨rfl, b2⟩
  have b12 : Below (w.alloc (.cells #[.int .i64 c.k, .int .i64 c.n, .string c.s] 27)).heap.size (w.alloc (.cells #[.int .i64 c.k, .int .i64 c.n, .string c.s] 27)) w2 := b1.drew.trans (b2.mono b1.size)
  obtain ⟨y0, y1, y2⟩ := box_cells b12.drew
  have hB2 : Below w.heap.size w w2.drew := b0.trans (b12.mono b0.size).drew
  have h2 := h.below hB2
  have HL := Lib.hid (lenT (h.below (b0.trans (b12.mono b0.size))))
  have HI := Lib.hid (internT_new h2 (Nat.le_trans hbase hB2.size) hok hk (by have := HN.out; omega))
  clear x0 x1 x2 h1 HF b2 b1 b12
  go_wp2_with fail
  refine HL.out.mono ?_
  rintro e w3 ⟨rfl, rfl⟩
  go_wp2_with fail
  go_still_tail 4, (by kernel_rfl)
  change wpList _ _ _ _ _ w2.drew
  go_wp2_with fail
  refine HI.out.mono ?_
  rintro e w3 ⟨rfl, hl⟩
  have HX := Lib.hid (left_after hB2 hl)
  clear hl h2 hB2 y0 y1 y2 HI HL
  go_wp2_with fail
  go_ret2
  exact ⟨rfl, HX.out⟩

set_option maxRecDepth 100000 in
set_option maxHeartbeats 1000000 in
theorem tIntern_old {base : Nat} {w : World} {g m : Nat} {sv : Value} {ks : List Cst} (h : IdsAt Try.prog kindT base w g m sv ks) {c : Cst} (hv : SaysValid c true) {i : Nat} (hk : ks[i]? = some c) :
    Calls Try.prog 53 #[.pointer (some ⟨g, 0, none⟩), .agg #[.int .i64 c.k, .int .i64 c.n, .string c.s]] w fun e w' => e = .returned (.tuple #[.int .i64 i, .int .i64 0]) ∧ Below w.heap.size w w' := by
  have HV := Lib.hid hv
  have b0 : Below w.heap.size w (w.alloc (.cells #[.int .i64 c.k, .int .i64 c.n, .string c.s] 27)) := (Below.refl _ _).alloc (Nat.le_refl _) _
  clear hv
  go_enter Try.func53, Try.ntmps53
  go_wp2_with fail
  refine (HV.out _).mono ?_
  rintro e w1 ⟨rfl, b1⟩
  obtain ⟨x0, x1, x2⟩ := box_cells b1.drew
  have hB1 : Below w.heap.size w w1.drew := b0.trans (b1.mono b0.size).drew
  have h1 := h.below hB1
  have HF := Lib.hid (findT_hit h1 hk)
  have hf : decide ((i : Int) < 0) = false := decide_eq_false (by omega)
  have hf' : ¬ ((i : Int) < 0) := by omega
  go_wp2_with fail
  go_still_tail 4, (by kernel_rfl)
  change wpList _ _ _ _ _ w1.drew
  go_wp2_with fail
  refine HF.out.mono ?_
  rintro e w2 ⟨rfl, b2⟩
  have b12 : Below (w.alloc (.cells #[.int .i64 c.k, .int .i64 c.n, .string c.s] 27)).heap.size (w.alloc (.cells #[.int .i64 c.k, .int .i64 c.n, .string c.s] 27)) w2 := b1.drew.trans (b2.mono b1.size)
  obtain ⟨y0, y1, y2⟩ := box_cells b12.drew
  have hB2 : Below w.heap.size w w2.drew := b0.trans (b12.mono b0.size).drew
  have h2 := h.below hB2
  have HI := Lib.hid (internT_old h2 hk)
  clear x0 x1 x2 h1 HF b2 b1 b12
  go_wp2_with fail
  go_still_tail 4, (by kernel_rfl)
  change wpList _ _ _ _ _ w2.drew
  go_wp2_with fail
  refine HI.out.mono ?_
  rintro e w3 ⟨rfl, b3⟩
  have HX := Lib.hid (hB2.trans (b3.mono hB2.size))
  clear b3 h2 hB2 y0 y1 y2 HI
  go_wp2_with fail
  go_ret2
  exact ⟨rfl, HX.out⟩

set_option maxRecDepth 100000 in
set_option maxHeartbeats 1000000 in
theorem tIntern_full {base : Nat} {w : World} {g m : Nat} {sv : Value} {ks : List Cst} (h : IdsAt Try.prog kindT base w g m sv ks) {c : Cst} (hv : SaysValid c true) (hok : c.ok) (hk : c ∉ ks) (hn : 65536 ≤ ks.length) :
    Calls Try.prog 53 #[.pointer (some ⟨g, 0, none⟩), .agg #[.int .i64 c.k, .int .i64 c.n, .string c.s]] w fun e w' => e = .returned (.tuple #[.int .i64 0, .int .i64 6]) ∧ Below w.heap.size w w' := by
  have HV := Lib.hid hv
  have b0 : Below w.heap.size w (w.alloc (.cells #[.int .i64 c.k, .int .i64 c.n, .string c.s] 27)) := (Below.refl _ _).alloc (Nat.le_refl _) _
  clear hv
  go_enter Try.func53, Try.ntmps53
  go_wp2_with fail
  refine (HV.out _).mono ?_
  rintro e w1 ⟨rfl, b1⟩
  obtain ⟨x0, x1, x2⟩ := box_cells b1.drew
  have hB1 : Below w.heap.size w w1.drew := b0.trans (b1.mono b0.size).drew
  have h1 := h.below hB1
  have HF := Lib.hid (findT_miss h1 hok hk)
  have hq : decide ((65536 : Int) ≤ (ks.length : Int)) = true := decide_eq_true (by omega)
  clear hn
  go_wp2_with fail
  go_still_tail 4, (by kernel_rfl)
  change wpList _ _ _ _ _ w1.drew
  go_wp2_with fail
  refine HF.out.mono ?_
  rintro e w2 ⟨rfl, b2⟩
  have hB2 : Below w.heap.size w w2 := hB1.trans (b2.mono hB1.size)
  have HL := Lib.hid (lenT (h.below hB2))
  clear x0 x1 x2 h1 HF b2 b1
  go_wp2_with fail
  refine HL.out.mono ?_
  rintro e w3 ⟨rfl, rfl⟩
  go_wp2_with fail
  go_ret2
  exact ⟨rfl, hB2⟩

set_option maxRecDepth 100000 in
theorem tIntern_bad {w : World} {g : Nat} {c : Cst} (hv : SaysValid c false) :
    Calls Try.prog 53 #[.pointer (some ⟨g, 0, none⟩), .agg #[.int .i64 c.k, .int .i64 c.n, .string c.s]] w fun e w' => e = .returned (.tuple #[.int .i64 0, .int .i64 5]) ∧ Below w.heap.size w w' := by
  have HV := Lib.hid hv
  have b0 : Below w.heap.size w (w.alloc (.cells #[.int .i64 c.k, .int .i64 c.n, .string c.s] 27)) := (Below.refl _ _).alloc (Nat.le_refl _) _
  clear hv
  go_enter Try.func53, Try.ntmps53
  go_wp2_with fail
  refine (HV.out _).mono ?_
  rintro e w1 ⟨rfl, b1⟩
  go_wp2_with fail
  go_ret2
  exact ⟨rfl, b0.trans (b1.mono b0.size)⟩

set_option maxRecDepth 100000 in
theorem tIntern_nil (c : Cst) (w : World) :
    Calls Try.prog 53 #[.pointer none, .agg #[.int .i64 c.k, .int .i64 c.n, .string c.s]] w fun e w' => e = .returned (.tuple #[.int .i64 0, .int .i64 0]) ∧ Below w.heap.size w w' := by
  go_enter Try.func53, Try.ntmps53
  go_wp2_with fail
  go_ret2
  exact ⟨rfl, (Below.refl _ _).alloc (Nat.le_refl _) _⟩
end Go.Proofs.Ytblonickpmogiaa
