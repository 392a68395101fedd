/- A struct of many cells as one row: into a new block, out of a block, as the first of two results. Over any program. asksOf: what a node asks, as one value. Printed by wip/bin/asksw.py. `full` of the law package: lists of a plan that are the caller's own; what the marks make of them. -/
import Derived.Test.YtonkbjdeaneicaaKpo01
import Derived.Test.YtonkbjdeaneicaaKpo02
import Derived.Test.YtonkbjdeaneicaaKpo06
import Derived.Test.YtonkbjdeaneicaaKpo09
import Derived.Deep.WholeRow
import Derived.StillTailTactics
import Derived.WalkKit
namespace Go.Proofs.Ytonkbjdeaneicaa
open Go Go.RowKit
section
variable {P : Program}
/-- Where a walk stops: at a build, a store, a load. -/
theorem stop_build {ops : Array Oper} {rest : List Oper} {o : Oper} {a : Act} {w : World} {Q : Exit → Act → World → Prop} (_ : o.guard = none) (t : TypeId) (parts : Array (Nat × Operand)) (_ : o.op = .build t parts) (h : Hid (wpList P ops Q (o :: rest) a w)) : wpList P ops Q (o :: rest) a w := h.out
theorem stop_store {ops : Array Oper} {rest : List Oper} {o : Oper} {a : Act} {w : World} {Q : Exit → Act → World → Prop} (_ : o.guard = none) (t : TypeId) (x y : Operand) (_ : o.op = .store t x y) (h : Hid (wpList P ops Q (o :: rest) a w)) : wpList P ops Q (o :: rest) a w := h.out
theorem stop_load {ops : Array Oper} {rest : List Oper} {o : Oper} {a : Act} {w : World} {Q : Exit → Act → World → Prop} (_ : o.guard = none) (t : TypeId) (x : Operand) (_ : o.op = .load t x) (h : Hid (wpList P ops Q (o :: rest) a w)) : wpList P ops Q (o :: rest) a w := h.out
theorem wpList_store_new {ops : Array Oper} {rest : List Oper} {o : Oper} {a : Act} {Q : Exit → Act → World → Prop} {w : World} (hgd : o.guard = none) (ty : TypeId) (x y : Operand) (ho : o.op = .store ty x y)
    (B : Nat) (hB : w.heap.size = B) (c c' : Array Value) (t : TypeId) (hx : a.eval x = .pointer (some ⟨B, 0, none⟩)) (hy : a.eval y = .agg c') (hi : (P.info? ty).map (·.size) = some c'.size)
    (hold : c.size = c'.size) (h1 : c'.all (·.oneCell') = true) (h : wpList P ops Q rest (a.put o.dst undef) (w.alloc (.cells c' t))) : wpList P ops Q (o :: rest) a (w.alloc (.cells c t)) := by
  subst hB
  refine wpList_store_row hgd ty x y ho w.heap.size c' hx hy t c (heap_alloc_last w _) hi hold h1 ?_
  rw [World.setRow_alloc_new]
  exact h
theorem wpList_build_to {ops : Array Oper} {rest : List Oper} {o : Oper} {a : Act} {w : World} {Q : Exit → Act → World → Prop} (hg : o.guard = none) (t : TypeId) (parts : Array (Nat × Operand)) (ho : o.op = .build t parts)
    (l : List (Nat × Value)) (hl : (parts.map fun (i, x) => (i, a.eval x)).toList = l) (v : Array Value) (hv : P.built t l = some v) (h : wpList P ops Q rest (a.put o.dst (.agg v)) w) : wpList P ops Q (o :: rest) a w := by
  subst hl
  refine wpList_build hg t parts ho (by rw [hv]; rfl) ?_
  rw [hv]
  exact h
/-- A whole row read in a region that only reads. -/
theorem wpStill_load_row {ops : Array Oper} {rest : List Oper} {o : Oper} {a : Act} {w : World} {Q : Act → Prop} (hgd : o.guard = none) (ty : TypeId) (x : Operand) (ho : o.op = .load ty x)
    (g : Nat) (hx : a.eval x = .pointer (some ⟨g, 0, none⟩)) (t : TypeId) (cs : Array Value) (fr : Nat × Nat) (d : TypeDesc) (hg : w.heap[g]? = some (.cells cs t fr))
    (hu : P.underlying ty = some d) (hd : (match d with | .struct _ | .array _ _ => true | _ => false) = true) (hi : (P.info? ty).map (·.size) = some cs.size)
    (h : wpStill P ops w Q rest (a.put o.dst (.agg cs))) : wpStill P ops w Q (o :: rest) a := by
  refine wpStill_step (fun K hK => ?_)
  have hw : Region.wanted o (yielded ops a.tmps) = true := by simp [Region.wanted, hgd]
  rw [if_pos hw]
  unfold Oper.still execOp
  simp only [ho, hx, Instr.loadAt, Instr.sureAddr, Sem.run_bind, Sem.run_pure, Result.andThen_ok, run_loadVar_row w g t ty cs fr d hg hu hd hi]
  exact ⟨rfl, hK _ h⟩
theorem results_row_slot {fn : Func} {p q : Tmp} {ty : TypeId} (h : fn.results = #[.cell p ty, .tmp q]) (tmps : Array Value) (w : World) (g : Nat) (t : TypeId) (cs : Array Value) (fr : Nat × Nat) (d : TypeDesc) (v : Value)
    (hp : tmps.getD p undef = .pointer (some ⟨g, 0, none⟩)) (hq : tmps.getD q undef = v) (hg : w.heap[g]? = some (.cells cs t fr))
    (hu : P.underlying ty = some d) (hd : (match d with | .struct _ | .array _ _ => true | _ => false) = true) (hi : (P.info? ty).map (·.size) = some cs.size) :
    (results fn tmps).run P w = .ok (.tuple #[.agg cs, v]) w := by
  have hp' : tmps[p]?.getD undef = .pointer (some ⟨g, 0, none⟩) := by simpa using hp
  have hq' : tmps[q]?.getD undef = v := by simpa using hq
  simp [results, h, hp', hq', asAddr, run_loadVar_row w g t ty cs fr d hg hu hd hi]
theorem heap_setRow (w : World) (g : Nat) (cs cs' : Array Value) (t : TypeId) (h : w.heap[g]? = some (.cells cs t (0, 0))) : (w.setRow g cs').heap[g]? = some (.cells cs' t (0, 0)) :=
  setRow_heap w g cs cs' t _ h
end
end Go.Proofs.Ytonkbjdeaneicaa

namespace Go.Proofs.Ytonkbjdeaneicaa
open Go.RowKit Pln Classical

theorem sizeLnk : (Try.prog.info? 83).map (·.size) = some 2 := by kernel_rfl
theorem sizeInt : (Try.prog.info? 3).map (·.size) = some 1 := by kernel_rfl
theorem sizeAsk : (Try.prog.info? 101).map (·.size) = some 35 := by kernel_rfl
theorem lsrc {F : Nat → Prop} {w : World} {A : Option Addr} {c : Nat} {l : List (Int × Int)} (h : RSl F w 2 ELnk (.slice A l.length c) l) (h0 : 0 < l.length) : ∃ ad, A = some ad ∧ ∀ j v, (lcells l)[j]? = some v → w.cell? (ad.add j) = some v := by
  obtain ⟨b, off, rfl, _⟩ := h.at (i := 0) (List.getElem?_eq_getElem h0)
  refine ⟨_, rfl, fun j v hv => ?_⟩
  have hj := (List.getElem?_eq_some_iff.1 hv).1
  rw [lcells_len] at hj
  obtain ⟨x, hx⟩ : ∃ x, l[j / 2]? = some x := ⟨_, List.getElem?_eq_getElem (by omega)⟩
  obtain ⟨b', off', hA, _, _, cs, ⟨rfl, _⟩, hc⟩ := h.at hx
  simp only [Option.some.injEq, Addr.mk.injEq, and_true] at hA
  obtain ⟨rfl, rfl⟩ := hA
  obtain ⟨l1, l2⟩ := lcells_at hx
  rw [rd_add]
  rcases Nat.mod_two_eq_zero_or_one j with h1 | h1
  · have e : j = j / 2 * 2 := by omega
    rw [← e, hv] at l1
    have := hc 0 _ rfl
    rw [Nat.add_zero, ← e] at this
    rw [this]
    exact l1.symm
  · have e : j = j / 2 * 2 + 1 := by omega
    rw [← e, hv] at l2
    have := hc 1 _ rfl
    rw [Nat.add_assoc, ← e] at this
    rw [this]
    exact l2.symm
theorem nsrc {F : Nat → Prop} {w : World} {A : Option Addr} {c : Nat} {l : List Int} (h : RSl F w 1 EInt (.slice A l.length c) l) (h0 : 0 < l.length) : ∃ ad, A = some ad ∧ ∀ j v, (ncells l)[j]? = some v → w.cell? (ad.add j) = some v := by
  obtain ⟨b, off, rfl, _⟩ := h.at (i := 0) (List.getElem?_eq_getElem h0)
  refine ⟨_, rfl, fun j v hv => ?_⟩
  have hj := (List.getElem?_eq_some_iff.1 hv).1
  simp only [ncells, List.length_map] at hj
  obtain ⟨x, hx⟩ : ∃ x, l[j]? = some x := ⟨_, List.getElem?_eq_getElem hj⟩
  obtain ⟨b', off', hA, _, _, cs, ⟨rfl, _⟩, hc⟩ := h.at hx
  simp only [Option.some.injEq, Addr.mk.injEq, and_true] at hA
  obtain ⟨rfl, rfl⟩ := hA
  have hv' : (ncells l)[j]? = some (.int .i64 x) := by simp only [ncells, List.getElem?_map, hx]; rfl
  rw [hv'] at hv
  rw [rd_add]
  have := hc 0 _ rfl
  rw [Nat.mul_one, Nat.add_zero] at this
  rw [this]
  exact hv
theorem lone (l : List (Int × Int)) : ∀ v ∈ lcells l, v.oneCell' = true := by
  intro v hv
  obtain ⟨x, _, hx⟩ := List.mem_flatMap.1 hv
  simp only [List.mem_cons, List.not_mem_nil, or_false] at hx
  rcases hx with rfl | rfl <;> rfl
theorem none1 (l : List Int) : ∀ v ∈ ncells l, v.oneCell' = true := by
  intro v hv
  obtain ⟨x, _, rfl⟩ := List.mem_map.1 hv
  rfl

theorem builtAsk (k p a o l2 r2 nl nn wd : Int) (l1 r1 : Bool) : Try.prog.built 101 [(0, .int .i64 k), (1, .int .i64 p), (2, .int .i64 a), (3, .agg #[.int .i64 o, .bool l1, .int .i64 l2, .bool r1, .int .i64 r2]), (4, .int .i64 nl), (6, .int .i64 nn), (8, .int .i64 wd)] =
    some #[.int .i64 k, .int .i64 p, .int .i64 a, .int .i64 o, .bool l1, .int .i64 l2, .bool r1, .int .i64 r2, .int .i64 nl, .int .i64 0, .int .i64 0, .int .i64 0, .int .i64 0, .int .i64 0, .int .i64 0, .int .i64 0, .int .i64 0, .int .i64 0, .int .i64 0, .int .i64 0, .int .i64 0, .int .i64 0, .int .i64 0, .int .i64 0, .int .i64 0, .int .i64 nn, .int .i64 0, .int .i64 0, .int .i64 0, .int .i64 0, .int .i64 0, .int .i64 0, .int .i64 0, .int .i64 0, .int .i64 wd] := by kernel_rfl
set_option maxRecDepth 200000 in
set_option maxHeartbeats 8000000 in
theorem asksW {F : Nat → Prop} {cs : List Value} {lv nv : Value} (n : Nd) (w : World) (h : ENd F w cs n lv nv) (h1 : n.links.length ≤ 8) (h2 : n.new.length ≤ 8) :
    Calls Try.prog 57 #[.agg #[.int .i64 n.kind, .int .i64 n.parent, .int .i64 n.alpha, lv, nv, .int .i64 n.test.op, .bool n.test.l.v, .int .i64 n.test.l.n, .bool n.test.r.v, .int .i64 n.test.r.n, .int .i64 n.width]] w fun e w' => e = .returned (.tuple #[.agg (askA n), .bool true]) ∧ Below w.heap.size w w' := by
  obtain ⟨la, lc, rfl⟩ := h.links.form
  obtain ⟨na, nc, rfl⟩ := h.new.form
  have HL := Lib.hid h.links
  have HN := Lib.hid h.new
  clear h
  have b0 : Below w.heap.size w (((w.alloc (.cells #[.int .i64 n.kind, .int .i64 n.parent, .int .i64 n.alpha, .slice la n.links.length lc, .slice na n.new.length nc, .int .i64 n.test.op, .bool n.test.l.v, .int .i64 n.test.l.n, .bool n.test.r.v, .int .i64 n.test.r.n, .int .i64 n.width] 54)).alloc (.cells #[.int .i64 0, .int .i64 0, .int .i64 0, .int .i64 0, .bool false, .int .i64 0, .bool false, .int .i64 0, .int .i64 0, .int .i64 0, .int .i64 0, .int .i64 0, .int .i64 0, .int .i64 0, .int .i64 0, .int .i64 0, .int .i64 0, .int .i64 0, .int .i64 0, .int .i64 0, .int .i64 0, .int .i64 0, .int .i64 0, .int .i64 0, .int .i64 0, .int .i64 0, .int .i64 0, .int .i64 0, .int .i64 0, .int .i64 0, .int .i64 0, .int .i64 0, .int .i64 0, .int .i64 0, .int .i64 0] 101)).alloc (.cells #[.int .i64 n.kind, .int .i64 n.parent, .int .i64 n.alpha, .int .i64 n.test.op, .bool n.test.l.v, .int .i64 n.test.l.n, .bool n.test.r.v, .int .i64 n.test.r.n, .int .i64 n.links.length, .int .i64 0, .int .i64 0, .int .i64 0, .int .i64 0, .int .i64 0, .int .i64 0, .int .i64 0, .int .i64 0, .int .i64 0, .int .i64 0, .int .i64 0, .int .i64 0, .int .i64 0, .int .i64 0, .int .i64 0, .int .i64 0, .int .i64 n.new.length, .int .i64 0, .int .i64 0, .int .i64 0, .int .i64 0, .int .i64 0, .int .i64 0, .int .i64 0, .int .i64 0, .int .i64 n.width] 101)).drew :=
    ((((Below.refl w.heap.size w).alloc (Nat.le_refl _) _).alloc (by simp) _).alloc (by simp <;> omega) _).drew
  have HB0 := Lib.hid b0
  clear b0
  go_enter Try.func57, Try.ntmps57
  go_wp2_with (with_reducible refine stop_build rfl 101 _ rfl ?_)
  refine Lib.hid ?_
  with_reducible refine wpList_build_to rfl 101 _ rfl [(0, .int .i64 n.kind), (1, .int .i64 n.parent), (2, .int .i64 n.alpha), (3, .agg #[.int .i64 n.test.op, .bool n.test.l.v, .int .i64 n.test.l.n, .bool n.test.r.v, .int .i64 n.test.r.n]), (4, .int .i64 n.links.length), (6, .int .i64 n.new.length), (8, .int .i64 n.width)] ?q1 _ (builtAsk _ _ _ _ _ _ _ _ _ _ _) ?q2
  case q1 => simp [Act.eval]
  go_wp2_with (with_reducible refine stop_store rfl 101 (.tmp 4) (.tmp 32) rfl ?_)
  refine Lib.hid ?_
  refine wpList_store_new rfl 101 (.tmp 4) (.tmp 32) rfl (w.heap.size + 1 + 1) (by simp) _ _ _ rfl rfl sizeAsk rfl (by simp [Value.oneCell']) ?_
  go_wp2
  have hbl := HB0.out
  have e1 : (((w.alloc (.cells #[.int .i64 n.kind, .int .i64 n.parent, .int .i64 n.alpha, .slice la n.links.length lc, .slice na n.new.length nc, .int .i64 n.test.op, .bool n.test.l.v, .int .i64 n.test.l.n, .bool n.test.r.v, .int .i64 n.test.r.n, .int .i64 n.width] 54)).alloc (.cells #[.int .i64 0, .int .i64 0, .int .i64 0, .int .i64 0, .bool false, .int .i64 0, .bool false, .int .i64 0, .int .i64 0, .int .i64 0, .int .i64 0, .int .i64 0, .int .i64 0, .int .i64 0, .int .i64 0, .int .i64 0, .int .i64 0, .int .i64 0, .int .i64 0, .int .i64 0, .int .i64 0, .int .i64 0, .int .i64 0, .int .i64 0, .int .i64 0, .int .i64 0, .int .i64 0, .int .i64 0, .int .i64 0, .int .i64 0, .int .i64 0, .int .i64 0, .int .i64 0, .int .i64 0, .int .i64 0] 101)).alloc (.cells #[.int .i64 n.kind, .int .i64 n.parent, .int .i64 n.alpha, .int .i64 n.test.op, .bool n.test.l.v, .int .i64 n.test.l.n, .bool n.test.r.v, .int .i64 n.test.r.n, .int .i64 n.links.length, .int .i64 0, .int .i64 0, .int .i64 0, .int .i64 0, .int .i64 0, .int .i64 0, .int .i64 0, .int .i64 0, .int .i64 0, .int .i64 0, .int .i64 0, .int .i64 0, .int .i64 0, .int .i64 0, .int .i64 0, .int .i64 0, .int .i64 n.new.length, .int .i64 0, .int .i64 0, .int .i64 0, .int .i64 0, .int .i64 0, .int .i64 0, .int .i64 0, .int .i64 0, .int .i64 n.width] 101)).drew.heap[w.heap.size + 1 + 1]? = some (.cells ([.int .i64 n.kind, .int .i64 n.parent, .int .i64 n.alpha, .int .i64 n.test.op, .bool n.test.l.v, .int .i64 n.test.l.n, .bool n.test.r.v, .int .i64 n.test.r.n, .int .i64 n.links.length, .int .i64 0, .int .i64 0, .int .i64 0, .int .i64 0, .int .i64 0, .int .i64 0, .int .i64 0, .int .i64 0, .int .i64 0, .int .i64 0, .int .i64 0, .int .i64 0, .int .i64 0, .int .i64 0, .int .i64 0, .int .i64 0, .int .i64 n.new.length, .int .i64 0, .int .i64 0, .int .i64 0, .int .i64 0, .int .i64 0, .int .i64 0, .int .i64 0, .int .i64 0, .int .i64 n.width] : List Value).toArray 101 (0, 0)) := by
    have := heap_alloc_new ((w.alloc (.cells #[.int .i64 n.kind, .int .i64 n.parent, .int .i64 n.alpha, .slice la n.links.length lc, .slice na n.new.length nc, .int .i64 n.test.op, .bool n.test.l.v, .int .i64 n.test.l.n, .bool n.test.r.v, .int .i64 n.test.r.n, .int .i64 n.width] 54)).alloc (.cells #[.int .i64 0, .int .i64 0, .int .i64 0, .int .i64 0, .bool false, .int .i64 0, .bool false, .int .i64 0, .int .i64 0, .int .i64 0, .int .i64 0, .int .i64 0, .int .i64 0, .int .i64 0, .int .i64 0, .int .i64 0, .int .i64 0, .int .i64 0, .int .i64 0, .int .i64 0, .int .i64 0, .int .i64 0, .int .i64 0, .int .i64 0, .int .i64 0, .int .i64 0, .int .i64 0, .int .i64 0, .int .i64 0, .int .i64 0, .int .i64 0, .int .i64 0, .int .i64 0, .int .i64 0, .int .i64 0] 101)) (.cells #[.int .i64 n.kind, .int .i64 n.parent, .int .i64 n.alpha, .int .i64 n.test.op, .bool n.test.l.v, .int .i64 n.test.l.n, .bool n.test.r.v, .int .i64 n.test.r.n, .int .i64 n.links.length, .int .i64 0, .int .i64 0, .int .i64 0, .int .i64 0, .int .i64 0, .int .i64 0, .int .i64 0, .int .i64 0, .int .i64 0, .int .i64 0, .int .i64 0, .int .i64 0, .int .i64 0, .int .i64 0, .int .i64 0, .int .i64 0, .int .i64 n.new.length, .int .i64 0, .int .i64 0, .int .i64 0, .int .i64 0, .int .i64 0, .int .i64 0, .int .i64 0, .int .i64 0, .int .i64 n.width] 101)
    have hs : ((w.alloc (.cells #[.int .i64 n.kind, .int .i64 n.parent, .int .i64 n.alpha, .slice la n.links.length lc, .slice na n.new.length nc, .int .i64 n.test.op, .bool n.test.l.v, .int .i64 n.test.l.n, .bool n.test.r.v, .int .i64 n.test.r.n, .int .i64 n.width] 54)).alloc (.cells #[.int .i64 0, .int .i64 0, .int .i64 0, .int .i64 0, .bool false, .int .i64 0, .bool false, .int .i64 0, .int .i64 0, .int .i64 0, .int .i64 0, .int .i64 0, .int .i64 0, .int .i64 0, .int .i64 0, .int .i64 0, .int .i64 0, .int .i64 0, .int .i64 0, .int .i64 0, .int .i64 0, .int .i64 0, .int .i64 0, .int .i64 0, .int .i64 0, .int .i64 0, .int .i64 0, .int .i64 0, .int .i64 0, .int .i64 0, .int .i64 0, .int .i64 0, .int .i64 0, .int .i64 0, .int .i64 0] 101)).heap.size = w.heap.size + 1 + 1 := by simp
    rw [hs] at this
    exact this
  have E1 := Lib.hid e1
  have s1 := fun (W : World) (hW : Below w.heap.size w W) (h0 : 0 < n.links.length) => lsrc (HL.out.keep (Kp.of_below hW)) h0
  have S1 := Lib.hid s1
  have N0 := Lib.hid (show Below (w.heap.size + 1 + 1) (((w.alloc (.cells #[.int .i64 n.kind, .int .i64 n.parent, .int .i64 n.alpha, .slice la n.links.length lc, .slice na n.new.length nc, .int .i64 n.test.op, .bool n.test.l.v, .int .i64 n.test.l.n, .bool n.test.r.v, .int .i64 n.test.r.n, .int .i64 n.width] 54)).alloc (.cells #[.int .i64 0, .int .i64 0, .int .i64 0, .int .i64 0, .bool false, .int .i64 0, .bool false, .int .i64 0, .int .i64 0, .int .i64 0, .int .i64 0, .int .i64 0, .int .i64 0, .int .i64 0, .int .i64 0, .int .i64 0, .int .i64 0, .int .i64 0, .int .i64 0, .int .i64 0, .int .i64 0, .int .i64 0, .int .i64 0, .int .i64 0, .int .i64 0, .int .i64 0, .int .i64 0, .int .i64 0, .int .i64 0, .int .i64 0, .int .i64 0, .int .i64 0, .int .i64 0, .int .i64 0, .int .i64 0] 101)).alloc (.cells #[.int .i64 n.kind, .int .i64 n.parent, .int .i64 n.alpha, .int .i64 n.test.op, .bool n.test.l.v, .int .i64 n.test.l.n, .bool n.test.r.v, .int .i64 n.test.r.n, .int .i64 n.links.length, .int .i64 0, .int .i64 0, .int .i64 0, .int .i64 0, .int .i64 0, .int .i64 0, .int .i64 0, .int .i64 0, .int .i64 0, .int .i64 0, .int .i64 0, .int .i64 0, .int .i64 0, .int .i64 0, .int .i64 0, .int .i64 0, .int .i64 n.new.length, .int .i64 0, .int .i64 0, .int .i64 0, .int .i64 0, .int .i64 0, .int .i64 0, .int .i64 0, .int .i64 0, .int .i64 n.width] 101)).drew (((w.alloc (.cells #[.int .i64 n.kind, .int .i64 n.parent, .int .i64 n.alpha, .slice la n.links.length lc, .slice na n.new.length nc, .int .i64 n.test.op, .bool n.test.l.v, .int .i64 n.test.l.n, .bool n.test.r.v, .int .i64 n.test.r.n, .int .i64 n.width] 54)).alloc (.cells #[.int .i64 0, .int .i64 0, .int .i64 0, .int .i64 0, .bool false, .int .i64 0, .bool false, .int .i64 0, .int .i64 0, .int .i64 0, .int .i64 0, .int .i64 0, .int .i64 0, .int .i64 0, .int .i64 0, .int .i64 0, .int .i64 0, .int .i64 0, .int .i64 0, .int .i64 0, .int .i64 0, .int .i64 0, .int .i64 0, .int .i64 0, .int .i64 0, .int .i64 0, .int .i64 0, .int .i64 0, .int .i64 0, .int .i64 0, .int .i64 0, .int .i64 0, .int .i64 0, .int .i64 0, .int .i64 0] 101)).alloc (.cells #[.int .i64 n.kind, .int .i64 n.parent, .int .i64 n.alpha, .int .i64 n.test.op, .bool n.test.l.v, .int .i64 n.test.l.n, .bool n.test.r.v, .int .i64 n.test.r.n, .int .i64 n.links.length, .int .i64 0, .int .i64 0, .int .i64 0, .int .i64 0, .int .i64 0, .int .i64 0, .int .i64 0, .int .i64 0, .int .i64 0, .int .i64 0, .int .i64 0, .int .i64 0, .int .i64 0, .int .i64 0, .int .i64 0, .int .i64 0, .int .i64 n.new.length, .int .i64 0, .int .i64 0, .int .i64 0, .int .i64 0, .int .i64 0, .int .i64 0, .int .i64 0, .int .i64 0, .int .i64 n.width] 101)).drew from Below.refl _ _)
  clear e1 s1 hbl
  go_region_law (refine step_copyN rfl (.tmp 34) (.tmp 36) 48 48 rfl 83 Try.underlying48 sizeLnk _ _ 8 8 n.links.length lc (by simp [Act.eval]) (by simp [Act.eval]) (w.heap.size + 1 + 1) 9 _ _ E1.out (lcells n.links) (by rw [lcells_len, show Nat.min n.links.length 8 = n.links.length from Nat.min_eq_left h1]) (fun h0 => ⟨rfl, S1.out _ HB0.out (by rwa [show Nat.min n.links.length 8 = n.links.length from Nat.min_eq_left h1] at h0)⟩) (by rw [lcells_len]; simp; omega) (lone _) (w.heap.size + 1 + 1) _ N0.out (Nat.le_refl _) ?_; intro w4 hg4 hb4)
  have X4 := Lib.hid ((HB0.out.trans (hb4.mono (by omega))).drew)
  have x4 : w4.cell? ⟨w.heap.size, 4, none⟩ = some (.slice na n.new.length nc) := (hb4.cell (p := ⟨w.heap.size, 4, none⟩) (by simp <;> omega)).trans (by
    have := cell_of_row _ _ 4 _ _ _ (show (((w.alloc (.cells #[.int .i64 n.kind, .int .i64 n.parent, .int .i64 n.alpha, .slice la n.links.length lc, .slice na n.new.length nc, .int .i64 n.test.op, .bool n.test.l.v, .int .i64 n.test.l.n, .bool n.test.r.v, .int .i64 n.test.r.n, .int .i64 n.width] 54)).alloc (.cells #[.int .i64 0, .int .i64 0, .int .i64 0, .int .i64 0, .bool false, .int .i64 0, .bool false, .int .i64 0, .int .i64 0, .int .i64 0, .int .i64 0, .int .i64 0, .int .i64 0, .int .i64 0, .int .i64 0, .int .i64 0, .int .i64 0, .int .i64 0, .int .i64 0, .int .i64 0, .int .i64 0, .int .i64 0, .int .i64 0, .int .i64 0, .int .i64 0, .int .i64 0, .int .i64 0, .int .i64 0, .int .i64 0, .int .i64 0, .int .i64 0, .int .i64 0, .int .i64 0, .int .i64 0, .int .i64 0] 101)).alloc (.cells #[.int .i64 n.kind, .int .i64 n.parent, .int .i64 n.alpha, .int .i64 n.test.op, .bool n.test.l.v, .int .i64 n.test.l.n, .bool n.test.r.v, .int .i64 n.test.r.n, .int .i64 n.links.length, .int .i64 0, .int .i64 0, .int .i64 0, .int .i64 0, .int .i64 0, .int .i64 0, .int .i64 0, .int .i64 0, .int .i64 0, .int .i64 0, .int .i64 0, .int .i64 0, .int .i64 0, .int .i64 0, .int .i64 0, .int .i64 0, .int .i64 n.new.length, .int .i64 0, .int .i64 0, .int .i64 0, .int .i64 0, .int .i64 0, .int .i64 0, .int .i64 0, .int .i64 0, .int .i64 n.width] 101)).drew.heap[w.heap.size]? = _ from by
      show (((w.alloc (.cells #[.int .i64 n.kind, .int .i64 n.parent, .int .i64 n.alpha, .slice la n.links.length lc, .slice na n.new.length nc, .int .i64 n.test.op, .bool n.test.l.v, .int .i64 n.test.l.n, .bool n.test.r.v, .int .i64 n.test.r.n, .int .i64 n.width] 54)).alloc (.cells #[.int .i64 0, .int .i64 0, .int .i64 0, .int .i64 0, .bool false, .int .i64 0, .bool false, .int .i64 0, .int .i64 0, .int .i64 0, .int .i64 0, .int .i64 0, .int .i64 0, .int .i64 0, .int .i64 0, .int .i64 0, .int .i64 0, .int .i64 0, .int .i64 0, .int .i64 0, .int .i64 0, .int .i64 0, .int .i64 0, .int .i64 0, .int .i64 0, .int .i64 0, .int .i64 0, .int .i64 0, .int .i64 0, .int .i64 0, .int .i64 0, .int .i64 0, .int .i64 0, .int .i64 0, .int .i64 0] 101)).alloc (.cells #[.int .i64 n.kind, .int .i64 n.parent, .int .i64 n.alpha, .int .i64 n.test.op, .bool n.test.l.v, .int .i64 n.test.l.n, .bool n.test.r.v, .int .i64 n.test.r.n, .int .i64 n.links.length, .int .i64 0, .int .i64 0, .int .i64 0, .int .i64 0, .int .i64 0, .int .i64 0, .int .i64 0, .int .i64 0, .int .i64 0, .int .i64 0, .int .i64 0, .int .i64 0, .int .i64 0, .int .i64 0, .int .i64 0, .int .i64 0, .int .i64 n.new.length, .int .i64 0, .int .i64 0, .int .i64 0, .int .i64 0, .int .i64 0, .int .i64 0, .int .i64 0, .int .i64 0, .int .i64 n.width] 101)).heap[w.heap.size]? = _
      rw [Below.heap_alloc _ _ _ (by simp <;> omega), Below.heap_alloc _ _ _ (by simp)]
      exact heap_alloc_new w _)
    simpa using this)
  have rz : w4.heap[w.heap.size + 1]? = some (.cells #[.int .i64 0, .int .i64 0, .int .i64 0, .int .i64 0, .bool false, .int .i64 0, .bool false, .int .i64 0, .int .i64 0, .int .i64 0, .int .i64 0, .int .i64 0, .int .i64 0, .int .i64 0, .int .i64 0, .int .i64 0, .int .i64 0, .int .i64 0, .int .i64 0, .int .i64 0, .int .i64 0, .int .i64 0, .int .i64 0, .int .i64 0, .int .i64 0, .int .i64 0, .int .i64 0, .int .i64 0, .int .i64 0, .int .i64 0, .int .i64 0, .int .i64 0, .int .i64 0, .int .i64 0, .int .i64 0] 101 (0, 0)) := (hb4.block _ (by omega)).trans (by
    show (((w.alloc (.cells #[.int .i64 n.kind, .int .i64 n.parent, .int .i64 n.alpha, .slice la n.links.length lc, .slice na n.new.length nc, .int .i64 n.test.op, .bool n.test.l.v, .int .i64 n.test.l.n, .bool n.test.r.v, .int .i64 n.test.r.n, .int .i64 n.width] 54)).alloc (.cells #[.int .i64 0, .int .i64 0, .int .i64 0, .int .i64 0, .bool false, .int .i64 0, .bool false, .int .i64 0, .int .i64 0, .int .i64 0, .int .i64 0, .int .i64 0, .int .i64 0, .int .i64 0, .int .i64 0, .int .i64 0, .int .i64 0, .int .i64 0, .int .i64 0, .int .i64 0, .int .i64 0, .int .i64 0, .int .i64 0, .int .i64 0, .int .i64 0, .int .i64 0, .int .i64 0, .int .i64 0, .int .i64 0, .int .i64 0, .int .i64 0, .int .i64 0, .int .i64 0, .int .i64 0, .int .i64 0] 101)).alloc (.cells #[.int .i64 n.kind, .int .i64 n.parent, .int .i64 n.alpha, .int .i64 n.test.op, .bool n.test.l.v, .int .i64 n.test.l.n, .bool n.test.r.v, .int .i64 n.test.r.n, .int .i64 n.links.length, .int .i64 0, .int .i64 0, .int .i64 0, .int .i64 0, .int .i64 0, .int .i64 0, .int .i64 0, .int .i64 0, .int .i64 0, .int .i64 0, .int .i64 0, .int .i64 0, .int .i64 0, .int .i64 0, .int .i64 0, .int .i64 0, .int .i64 n.new.length, .int .i64 0, .int .i64 0, .int .i64 0, .int .i64 0, .int .i64 0, .int .i64 0, .int .i64 0, .int .i64 0, .int .i64 n.width] 101)).heap[w.heap.size + 1]? = _
    rw [Below.heap_alloc _ _ _ (by simp)]
    have := heap_alloc_new (w.alloc (.cells #[.int .i64 n.kind, .int .i64 n.parent, .int .i64 n.alpha, .slice la n.links.length lc, .slice na n.new.length nc, .int .i64 n.test.op, .bool n.test.l.v, .int .i64 n.test.l.n, .bool n.test.r.v, .int .i64 n.test.r.n, .int .i64 n.width] 54)) (.cells #[.int .i64 0, .int .i64 0, .int .i64 0, .int .i64 0, .bool false, .int .i64 0, .bool false, .int .i64 0, .int .i64 0, .int .i64 0, .int .i64 0, .int .i64 0, .int .i64 0, .int .i64 0, .int .i64 0, .int .i64 0, .int .i64 0, .int .i64 0, .int .i64 0, .int .i64 0, .int .i64 0, .int .i64 0, .int .i64 0, .int .i64 0, .int .i64 0, .int .i64 0, .int .i64 0, .int .i64 0, .int .i64 0, .int .i64 0, .int .i64 0, .int .i64 0, .int .i64 0, .int .i64 0, .int .i64 0] 101)
    have hs : (w.alloc (.cells #[.int .i64 n.kind, .int .i64 n.parent, .int .i64 n.alpha, .slice la n.links.length lc, .slice na n.new.length nc, .int .i64 n.test.op, .bool n.test.l.v, .int .i64 n.test.l.n, .bool n.test.r.v, .int .i64 n.test.r.n, .int .i64 n.width] 54)).heap.size = w.heap.size + 1 := by simp
    rw [hs] at this
    exact this)
  have RZ := Lib.hid rz
  have E2 := Lib.hid (show w4.drew.heap[w.heap.size + 1 + 1]? = some (.cells (splice ([.int .i64 n.kind, .int .i64 n.parent, .int .i64 n.alpha, .int .i64 n.test.op, .bool n.test.l.v, .int .i64 n.test.l.n, .bool n.test.r.v, .int .i64 n.test.r.n, .int .i64 n.links.length, .int .i64 0, .int .i64 0, .int .i64 0, .int .i64 0, .int .i64 0, .int .i64 0, .int .i64 0, .int .i64 0, .int .i64 0, .int .i64 0, .int .i64 0, .int .i64 0, .int .i64 0, .int .i64 0, .int .i64 0, .int .i64 0, .int .i64 n.new.length, .int .i64 0, .int .i64 0, .int .i64 0, .int .i64 0, .int .i64 0, .int .i64 0, .int .i64 0, .int .i64 0, .int .i64 n.width] : List Value) 9 (lcells n.links)).toArray 101 (0, 0)) from hg4.out)
  have HB4 := Lib.hid (Below.refl w.heap.size w |>.trans (HB0.out.trans (hb4.mono (by omega))))
  have N4 := Lib.hid (Below.refl (w.heap.size + 1 + 1) w4.drew)
  have s2 := fun (W : World) (hW : Below w.heap.size w W) (h0 : 0 < n.new.length) => nsrc (HN.out.keep (Kp.of_below hW)) h0
  have S2 := Lib.hid s2
  have hwl : w.heap.size < w4.heap.size := lt_of_heap (b := w.heap.size) (w := w4) (o := .cells #[.int .i64 n.kind, .int .i64 n.parent, .int .i64 n.alpha, .slice la n.links.length lc, .slice na n.new.length nc, .int .i64 n.test.op, .bool n.test.l.v, .int .i64 n.test.l.n, .bool n.test.r.v, .int .i64 n.test.r.n, .int .i64 n.width] 54 (0, 0)) ((hb4.block _ (by omega)).trans (by
    show (((w.alloc (.cells #[.int .i64 n.kind, .int .i64 n.parent, .int .i64 n.alpha, .slice la n.links.length lc, .slice na n.new.length nc, .int .i64 n.test.op, .bool n.test.l.v, .int .i64 n.test.l.n, .bool n.test.r.v, .int .i64 n.test.r.n, .int .i64 n.width] 54)).alloc (.cells #[.int .i64 0, .int .i64 0, .int .i64 0, .int .i64 0, .bool false, .int .i64 0, .bool false, .int .i64 0, .int .i64 0, .int .i64 0, .int .i64 0, .int .i64 0, .int .i64 0, .int .i64 0, .int .i64 0, .int .i64 0, .int .i64 0, .int .i64 0, .int .i64 0, .int .i64 0, .int .i64 0, .int .i64 0, .int .i64 0, .int .i64 0, .int .i64 0, .int .i64 0, .int .i64 0, .int .i64 0, .int .i64 0, .int .i64 0, .int .i64 0, .int .i64 0, .int .i64 0, .int .i64 0, .int .i64 0] 101)).alloc (.cells #[.int .i64 n.kind, .int .i64 n.parent, .int .i64 n.alpha, .int .i64 n.test.op, .bool n.test.l.v, .int .i64 n.test.l.n, .bool n.test.r.v, .int .i64 n.test.r.n, .int .i64 n.links.length, .int .i64 0, .int .i64 0, .int .i64 0, .int .i64 0, .int .i64 0, .int .i64 0, .int .i64 0, .int .i64 0, .int .i64 0, .int .i64 0, .int .i64 0, .int .i64 0, .int .i64 0, .int .i64 0, .int .i64 0, .int .i64 0, .int .i64 n.new.length, .int .i64 0, .int .i64 0, .int .i64 0, .int .i64 0, .int .i64 0, .int .i64 0, .int .i64 0, .int .i64 0, .int .i64 n.width] 101)).heap[w.heap.size]? = _
    rw [Below.heap_alloc _ _ _ (by simp <;> omega), Below.heap_alloc _ _ _ (by simp)]
    exact heap_alloc_new w _))
  clear rz hg4 hb4 s2
  go_wp2
  go_region_law (refine step_copyN rfl (.tmp 39) (.tmp 41) 25 25 rfl 3 Try.underlying25 sizeInt _ _ 8 8 n.new.length nc (by simp [Act.eval]) (by simp [Act.eval]) (w.heap.size + 1 + 1) 26 _ _ E2.out (ncells n.new) (by rw [show Nat.min n.new.length 8 = n.new.length from Nat.min_eq_left h2]; simp [ncells]) (fun h0 => ⟨rfl, S2.out _ X4.out (by rwa [show Nat.min n.new.length 8 = n.new.length from Nat.min_eq_left h2] at h0)⟩) (by rw [length_splice _ _ _ (by rw [lcells_len]; simp; omega)]; simp [ncells]; omega) (none1 _) (w.heap.size + 1 + 1) _ N4.out (Nat.le_refl _) ?_; intro w5 hg5 hb5)
  have e5 : w5.heap[w.heap.size + 1 + 1]? = some (.cells (askA n) 101 (0, 0)) := by
    have := hg5.out
    rw [splice_l _ _ _ _ _ _ _ _ _ _ _ n.links h1, splice_m _ _ _ _ _ _ _ _ _ _ _ _ _ _ _ _ _ _ _ _ _ _ _ _ _ _ _ n.new h2] at this
    exact this
  have r5 : w5.heap[w.heap.size + 1]? = some (.cells #[.int .i64 0, .int .i64 0, .int .i64 0, .int .i64 0, .bool false, .int .i64 0, .bool false, .int .i64 0, .int .i64 0, .int .i64 0, .int .i64 0, .int .i64 0, .int .i64 0, .int .i64 0, .int .i64 0, .int .i64 0, .int .i64 0, .int .i64 0, .int .i64 0, .int .i64 0, .int .i64 0, .int .i64 0, .int .i64 0, .int .i64 0, .int .i64 0, .int .i64 0, .int .i64 0, .int .i64 0, .int .i64 0, .int .i64 0, .int .i64 0, .int .i64 0, .int .i64 0, .int .i64 0, .int .i64 0] 101 (0, 0)) := (hb5.block _ (by omega)).trans RZ.out
  have E5 := Lib.hid e5
  have R5 := Lib.hid r5
  have B5 := Lib.hid (X4.out.trans (hb5.mono (by omega)))
  clear hg5 hb5 e5 r5
  go_wp2_with (with_reducible refine stop_load rfl 101 (.tmp 4) rfl ?_)
  refine Lib.hid ?_
  refine wpList_load_row rfl 101 (.tmp 4) rfl (w.heap.size + 1 + 1) rfl 101 (askA n) (0, 0) _ E5.out Try.underlying101 rfl sizeAsk ?_
  go_wp2_with (with_reducible refine stop_store rfl 101 (.tmp 2) (.tmp 43) rfl ?_)
  refine Lib.hid ?_
  refine wpList_store_row rfl 101 (.tmp 2) (.tmp 43) rfl (w.heap.size + 1) (askA n) rfl rfl 101 _ R5.out sizeAsk rfl (askA_one n) ?_
  have F5 := Lib.hid (heap_setRow w5 (w.heap.size + 1) _ (askA n) 101 R5.out)
  have G5 := Lib.hid (below_setRow B5.out (show w.heap.size ≤ w.heap.size + 1 by omega) (askA n))
  generalize w5.setRow (w.heap.size + 1) (askA n) = w6 at F5 G5 ⊢
  go_wp2
  exact bodyPost_ret (v := .tuple #[.agg (askA n), .bool true]) (results_row_slot rfl _ _ (w.heap.size + 1) 101 (askA n) (0, 0) _ _ rfl rfl F5.out Try.underlying101 rfl sizeAsk) rfl ⟨rfl, G5.out⟩
end Go.Proofs.Ytonkbjdeaneicaa

namespace Go.Proofs.Ytonkbjdeaneicaa
open Go Go.RowKit

/-- A list in a plan: its value, whether it holds links, its length, its cells. -/
structure Slo where
  v : Value
  l : Bool
  n : Nat
  x : List Value
def Slo.e (s : Slo) : TypeId := if s.l = true then 83 else 3
def Slo.sz (s : Slo) : Nat := if s.l = true then 2 else 1
/-- Where list k stands: shapes' lists first, then links and new ones by turns. -/
def plB (al A N k : Nat) : Nat := if k < al then A else N
def plO (al k : Nat) : Nat := if k < al then 2 * k + 1 else 11 * ((k - al) / 2) + 3 + (k - al) % 2
theorem pl_inj {al A N k k' : Nat} (hAN : 0 < al → A ≠ N) (h : plB al A N k = plB al A N k') (h' : plO al k = plO al k') : k = k' := by
  unfold plB at h
  unfold plO at h'
  by_cases h1 : k < al <;> by_cases h2 : k' < al
  · rw [if_pos h1, if_pos h2] at h'; omega
  · rw [if_pos h1, if_neg h2] at h; exact absurd h (hAN (by omega))
  · rw [if_neg h1, if_pos h2] at h; exact absurd h.symm (hAN (by omega))
  · rw [if_neg h1, if_neg h2] at h'; omega

/-- The worlds of `full`. -/
structure FS (W : World) (S0 : List Nat) (pl : Array Value) (A N al : Nat) (w : World) (L : List Slo) : Prop where
  box : w.heap[W.heap.size]? = some (.cells pl 27 (0, 0))
  own : ∀ (k : Nat) (s : Slo), L[k]? = some s → w.ownsRow 0 s.e s.sz s.v s.n s.x
  apart : ∀ (k k' : Nat) (s s' : Slo) (b : Nat), L[k]? = some s → L[k']? = some s' → s.v.ownBlock = some b → s'.v.ownBlock = some b → k = k'
  out : ∀ (k : Nat) (s : Slo), L[k]? = some s → w.cell? ⟨plB al A N k, plO al k, none⟩ = some s.v
  rowA : 0 < al → ∃ cur, w.heap[A]? = some (.cells cur 79 (0, 0))
  rowN : ∃ cur, w.heap[N]? = some (.cells cur 54 (0, 0))
  foot : ∀ (k : Nat) (s : Slo) (b : Nat), L[k]? = some s → s.v.ownBlock = some b → b ∈ S0 ∨ W.heap.size < b
  turns : Turns S0 W w
  hA : 0 < al → A ∈ S0 ∧ A < W.heap.size
  hN : N ∈ S0 ∧ N < W.heap.size
section
variable {W w : World} {S0 : List Nat} {pl : Array Value} {A N al : Nat} {L : List Slo}
theorem FS.size (h : FS W S0 pl A N al w L) : W.heap.size < w.heap.size := lt_of_heap h.box
theorem FS.AN (h : FS W S0 pl A N al w L) : 0 < al → A ≠ N := by
  intro ha e
  obtain ⟨c1, h1⟩ := h.rowA ha
  obtain ⟨c2, h2⟩ := h.rowN
  rw [e, h2] at h1
  simp at h1
/-- A list's block is none of the others. -/
theorem FS.far (h : FS W S0 pl A N al w L) {k : Nat} {s : Slo} {b : Nat} (hs : L[k]? = some s) (hb : s.v.ownBlock = some b) : b ≠ W.heap.size ∧ b ≠ N ∧ (0 < al → b ≠ A) := by
  obtain ⟨_, _, cur, hh⟩ := ownBlock_cells (h.own k s hs) hb
  have he : s.e ≠ 27 ∧ s.e ≠ 54 ∧ s.e ≠ 79 := by
    unfold Slo.e
    split <;> decide
  refine ⟨?_, ?_, ?_⟩
  · rintro rfl
    rw [h.box] at hh
    simp only [Option.some.injEq, Obj.cells.injEq] at hh
    exact he.1 hh.2.1.symm
  · rintro rfl
    obtain ⟨c, hc⟩ := h.rowN
    rw [hc] at hh
    simp only [Option.some.injEq, Obj.cells.injEq] at hh
    exact he.2.1 hh.2.1.symm
  · rintro ha rfl
    obtain ⟨c, hc⟩ := h.rowA ha
    rw [hc] at hh
    simp only [Option.some.injEq, Obj.cells.injEq] at hh
    exact he.2.2 hh.2.1.symm
theorem FS.plB_ne (h : FS W S0 pl A N al w L) {k : Nat} {s : Slo} {b : Nat} (hs : L[k]? = some s) (hb : s.v.ownBlock = some b) (q : Nat) : b ≠ plB al A N q := by
  obtain ⟨_, h2, h3⟩ := h.far hs hb
  unfold plB
  split
  · exact h3 (by omega)
  · exact h2
theorem FS.plB_lt (h : FS W S0 pl A N al w L) (q : Nat) : plB al A N q < W.heap.size ∧ plB al A N q ∈ S0 := by
  unfold plB
  split
  · obtain ⟨h1, h2⟩ := h.hA (by omega); exact ⟨h2, h1⟩
  · exact ⟨h.hN.2, h.hN.1⟩
theorem FS.plB_row (h : FS W S0 pl A N al w L) (q : Nat) : ∃ cur t, w.heap[plB al A N q]? = some (.cells cur t (0, 0)) := by
  unfold plB
  split
  · obtain ⟨c, hc⟩ := h.rowA (by omega); exact ⟨c, _, hc⟩
  · obtain ⟨c, hc⟩ := h.rowN; exact ⟨c, _, hc⟩
theorem FS.fz (h : FS W S0 pl A N al w L) (q o : Nat) : w.frozen? ⟨plB al A N q, o, none⟩ = false := by
  obtain ⟨c, t, hc⟩ := h.plB_row q
  exact frozen_of_row _ _ _ _ _ hc
/-- A step that turns list k's block alone. -/
theorem FS.turn (h : FS W S0 pl A N al w L) {k : Nat} {s s' : Slo} {w' : World} (hs : L[k]? = some s) (ht : Turns s.v.ownBlock.toList w w') (hv : s'.v = s.v) (hl : s'.l = s.l) (ho : w'.ownsRow 0 s'.e s'.sz s'.v s'.n s'.x) : FS W S0 pl A N al w' (L.set k s') := by
  have hk := (List.getElem?_eq_some_iff.1 hs).1
  have hmem : ∀ {b : Nat}, b ∈ s.v.ownBlock.toList → s.v.ownBlock = some b := fun hb => by simpa using hb
  have get : ∀ {q : Nat} {t : Slo}, (L.set k s')[q]? = some t → (q = k ∧ t = s') ∨ (q ≠ k ∧ L[q]? = some t) := by
    intro q t hq
    by_cases e : q = k
    · subst e
      rw [List.getElem?_set_self hk] at hq
      exact .inl ⟨rfl, (Option.some.inj hq).symm⟩
    · rw [List.getElem?_set_ne (fun x => e x.symm)] at hq
      exact .inr ⟨e, hq⟩
  have base : ∀ {q : Nat} {t : Slo}, (L.set k s')[q]? = some t → ∃ t0, L[q]? = some t0 ∧ t.v = t0.v := by
    intro q t hq
    rcases get hq with ⟨rfl, rfl⟩ | ⟨_, hq⟩
    · exact ⟨s, hs, hv⟩
    · exact ⟨t, hq, rfl⟩
  refine ⟨?_, ?_, ?_, ?_, ?_, ?_, ?_, ?_, h.hA, h.hN⟩
  · rw [ht.block _ h.size (fun hm => (h.far hs (hmem hm)).1 rfl)]
    exact h.box
  · intro q t hq
    rcases get hq with ⟨rfl, rfl⟩ | ⟨e, hq⟩
    · exact ho
    · exact ownsRow_turns (h.own q t hq) ht (fun b hb hm => e (h.apart q k t s b hq hs hb (hmem hm)))
  · intro q q' t t' b hq hq' hb hb'
    obtain ⟨t0, h1, e1⟩ := base hq
    obtain ⟨t1, h2, e2⟩ := base hq'
    rw [e1] at hb
    rw [e2] at hb'
    exact h.apart q q' t0 t1 b h1 h2 hb hb'
  · intro q t hq
    obtain ⟨t0, h1, e1⟩ := base hq
    rw [e1, ← h.out q t0 h1]
    exact ht.cell (Nat.lt_of_lt_of_le (h.plB_lt q).1 (by have := h.turns.size; exact this)) (fun hm => h.plB_ne hs (hmem hm) q rfl)
  · intro ha
    obtain ⟨c, hc⟩ := h.rowA ha
    exact ⟨c, (ht.block _ (lt_of_heap hc) (fun hm => (h.far hs (hmem hm)).2.2 ha rfl)).trans hc⟩
  · obtain ⟨c, hc⟩ := h.rowN
    exact ⟨c, (ht.block _ (lt_of_heap hc) (fun hm => (h.far hs (hmem hm)).2.1 rfl)).trans hc⟩
  · intro q t b hq hb
    obtain ⟨t0, h1, e1⟩ := base hq
    rw [e1] at hb
    exact h.foot q t0 b h1 hb
  · exact h.turns.trans ht (fun b hb => by
      rcases h.foot k s b hs (hmem hb) with h1 | h1
      · exact .inl h1
      · exact .inr (by omega))
/-- A cell of list k is written. -/
theorem FS.put (h : FS W S0 pl A N al w L) {k : Nat} {s : Slo} {g n c : Nat} (hs : L[k]? = some s) (hv : s.v = .slice (some ⟨g, 0, none⟩) n c) (j : Nat) (u : Value) : FS W S0 pl A N al (w.setCell ⟨g, j, none⟩ u) (L.set k { s with x := s.x.set j u }) := by
  have ho := h.own k s hs
  have hn : n = s.n := by
    rcases ho.2 with ⟨h', _⟩ | ⟨g', cap', cur, h', _⟩
    · rw [hv] at h'; simp at h'
    · rw [hv] at h'; simp only [Value.slice.injEq] at h'; exact h'.2.1
  subst hn
  rw [hv] at ho
  obtain ⟨h1, h2⟩ := ho.stored j u
  refine h.turn hs ?_ rfl rfl ?_
  · rw [hv]; exact Turns.of_grown h2
  · show World.ownsRow _ 0 s.e s.sz s.v s.n (s.x.set j u)
    rw [hv]
    exact h1
/-- Only blocks that are new are touched, and numbers drawn. -/
theorem FS.below (h : FS W S0 pl A N al w L) {w' : World} (hb : Below w.heap.size w w') : FS W S0 pl A N al w' L := by
  have T : Turns ([] : List Nat) w w' := Turns.of_below hb
  refine ⟨?_, ?_, h.apart, ?_, ?_, ?_, h.foot, ?_, h.hA, h.hN⟩
  · rw [hb.block _ h.size]; exact h.box
  · exact fun k s hs => ownsRow_turns (h.own k s hs) T (fun _ _ => by simp)
  · intro q t hq
    rw [← h.out q t hq]
    exact T.cell (Nat.lt_of_lt_of_le (h.plB_lt q).1 h.turns.size) (by simp)
  · intro ha
    obtain ⟨c, hc⟩ := h.rowA ha
    exact ⟨c, (hb.block _ (lt_of_heap hc)).trans hc⟩
  · obtain ⟨c, hc⟩ := h.rowN
    exact ⟨c, (hb.block _ (lt_of_heap hc)).trans hc⟩
  · exact h.turns.trans T (by simp)
/-- One more behind list k, and its header stored. -/
theorem FS.app (h : FS W S0 pl A N al w L) {k : Nat} {s : Slo} (hs : L[k]? = some s) {w3 : World} {g' cap : Nat} {news : List Value} (ht : Turns s.v.ownBlock.toList w w3) (hat : s.v.ownBlock = some g' ∨ w.heap.size ≤ g')
    (ho : w3.ownsRow 0 s.e s.sz (.slice (some ⟨g', 0, none⟩) (s.n + 1) cap) (s.n + 1) (s.x ++ news)) :
    FS W S0 pl A N al (w3.setCell ⟨plB al A N k, plO al k, none⟩ (.slice (some ⟨g', 0, none⟩) (s.n + 1) cap)) (L.set k ⟨.slice (some ⟨g', 0, none⟩) (s.n + 1) cap, s.l, s.n + 1, s.x ++ news⟩) ∧
      w3.cell? ⟨plB al A N k, plO al k, none⟩ = some s.v ∧ w3.frozen? ⟨plB al A N k, plO al k, none⟩ = false := by
  have hk := (List.getElem?_eq_some_iff.1 hs).1
  have hmem : ∀ {b : Nat}, b ∈ s.v.ownBlock.toList → s.v.ownBlock = some b := fun hb => by simpa using hb
  have hO : plB al A N k < w.heap.size := Nat.lt_of_lt_of_le (h.plB_lt k).1 h.turns.size
  have hOs : plB al A N k ∉ s.v.ownBlock.toList := fun hm => h.plB_ne hs (hmem hm) k rfl
  have hc3 : w3.cell? ⟨plB al A N k, plO al k, none⟩ = some s.v := (ht.cell hO hOs).trans (h.out k s hs)
  obtain ⟨oc, ot, hrow⟩ := h.plB_row k
  have hrow3 := (ht.block _ hO hOs).trans hrow
  refine ⟨?_, hc3, frozen_of_row _ _ _ _ _ hrow3⟩
  have hgO : g' ≠ plB al A N k := by
    rcases hat with h1 | h1
    · exact h.plB_ne hs h1 k
    · omega
  have T1 : Turns [plB al A N k] w3 (w3.setCell ⟨plB al A N k, plO al k, none⟩ (.slice (some ⟨g', 0, none⟩) (s.n + 1) cap)) := (Turns.refl _ _).setCell (.inl (by simp)) _
  have get : ∀ {q : Nat} {t : Slo}, (L.set k ⟨.slice (some ⟨g', 0, none⟩) (s.n + 1) cap, s.l, s.n + 1, s.x ++ news⟩)[q]? = some t → (q = k ∧ t = ⟨.slice (some ⟨g', 0, none⟩) (s.n + 1) cap, s.l, s.n + 1, s.x ++ news⟩) ∨ (q ≠ k ∧ L[q]? = some t) := by
    intro q t hq
    by_cases e : q = k
    · subst e
      rw [List.getElem?_set_self hk] at hq
      exact .inl ⟨rfl, (Option.some.inj hq).symm⟩
    · rw [List.getElem?_set_ne (fun x => e x.symm)] at hq
      exact .inr ⟨e, hq⟩
  have hbox3 : w3.heap[W.heap.size]? = some (.cells pl 27 (0, 0)) := (ht.block _ h.size (fun hm => (h.far hs (hmem hm)).1 rfl)).trans h.box
  refine ⟨?_, ?_, ?_, ?_, ?_, ?_, ?_, ?_, h.hA, h.hN⟩
  · rw [T1.block _ (lt_of_heap hbox3) (fun hm => by have := (h.plB_lt k).1; rw [List.mem_singleton.1 hm] at this; omega)]
    exact hbox3
  · intro q t hq
    rcases get hq with ⟨rfl, rfl⟩ | ⟨e, hq⟩
    · exact ownsRow_turns ho T1 (fun b hb hm => by
        have : g' = b := by simpa [Value.ownBlock] using hb
        exact hgO (this.trans (List.mem_singleton.1 hm)))
    · refine ownsRow_turns (ownsRow_turns (h.own q t hq) ht (fun b hb hm => e (h.apart q k t s b hq hs hb (hmem hm)))) T1 (fun b hb hm => ?_)
      rw [List.mem_singleton.1 hm] at hb
      exact h.plB_ne hq hb k rfl
  · have fresh : ∀ {q : Nat} {t : Slo} {b : Nat}, q ≠ k → L[q]? = some t → t.v.ownBlock = some b → b ≠ g' := by
      rintro q t b e hq hb rfl
      rcases hat with h1 | h1
      · exact e (h.apart q k t s b hq hs hb h1)
      · have := (ownBlock_cells (h.own q t hq) hb).2.1
        omega
    intro q q' t t' b hq hq' hb hb'
    rcases get hq with ⟨e1, rfl⟩ | ⟨e1, hq⟩ <;> rcases get hq' with ⟨e2, rfl⟩ | ⟨e2, hq'⟩
    · rw [e1, e2]
    · have : g' = b := by simpa [Value.ownBlock] using hb
      exact absurd this.symm (fresh e2 hq' hb')
    · have : g' = b := by simpa [Value.ownBlock] using hb'
      exact absurd this.symm (fresh e1 hq hb)
    · exact h.apart q q' t t' b hq hq' hb hb'
  · intro q t hq
    rcases get hq with ⟨rfl, rfl⟩ | ⟨e, hq⟩
    · exact World.cell?_setCell_same (h := hc3) ..
    · rw [World.cell?_setCell_other (h := show (⟨plB al A N k, plO al k, none⟩ : Addr) ≠ ⟨plB al A N q, plO al q, none⟩ from fun x => by
        simp only [Addr.mk.injEq, and_true] at x
        exact e (pl_inj h.AN x.1 x.2).symm)]
      rw [← h.out q t hq]
      exact ht.cell (Nat.lt_of_lt_of_le (h.plB_lt q).1 h.turns.size) (fun hm => h.plB_ne hs (hmem hm) q rfl)
  · intro ha
    obtain ⟨c, hc⟩ := h.rowA ha
    have hc3 := (ht.block _ (lt_of_heap hc) (fun hm => (h.far hs (hmem hm)).2.2 ha rfl)).trans hc
    by_cases e : plB al A N k = A
    · rw [e]
      exact ⟨_, heap_setCell_same _ _ _ _ _ _ hc3⟩
    · exact ⟨c, (T1.block _ (lt_of_heap hc3) (fun hm => e (List.mem_singleton.1 hm).symm)).trans hc3⟩
  · obtain ⟨c, hc⟩ := h.rowN
    have hc3 := (ht.block _ (lt_of_heap hc) (fun hm => (h.far hs (hmem hm)).2.1 rfl)).trans hc
    by_cases e : plB al A N k = N
    · rw [e]
      exact ⟨_, heap_setCell_same _ _ _ _ _ _ hc3⟩
    · exact ⟨c, (T1.block _ (lt_of_heap hc3) (fun hm => e (List.mem_singleton.1 hm).symm)).trans hc3⟩
  · intro q t b hq hb
    rcases get hq with ⟨rfl, rfl⟩ | ⟨e, hq⟩
    · have e1 : g' = b := by simpa [Value.ownBlock] using hb
      rcases hat with h1 | h1
      · rw [e1] at h1; exact h.foot q s b hs h1
      · exact .inr (by have := h.size; omega)
    · exact h.foot q t b hq hb
  · have T0 : Turns S0 W w3 := h.turns.trans ht (fun b hb => by
      rcases h.foot k s b hs (hmem hb) with h1 | h1
      · exact .inl h1
      · exact .inr (by omega))
    exact T0.trans T1 (fun b hb => .inl (by rw [List.mem_singleton.1 hb]; exact (h.plB_lt k).2))
end

/-- The mark of list k; one element of it, marked. -/
def mkF (al k : Nat) : Int := if k < al then (k : Int) + 1 else ((al + (k - al) / 2 : Nat) : Int) + 1
def valF (al k : Nat) : List Value := if k < al then [.int .i64 (1000 + mkF al k)] else if (k - al) % 2 = 0 then [.int .i64 (1000 + mkF al k), .int .i64 0] else [.int .i64 (2000 + mkF al k)]
def fillV (e : List Value) (n : Nat) : List Value := (List.replicate n e).flatten
theorem fillV_succ (e : List Value) (n : Nat) : fillV e (n + 1) = fillV e n ++ e := by
  unfold fillV
  rw [List.replicate_succ', List.flatten_append]
  simp
theorem fillV_len (e : List Value) (n : Nat) : (fillV e n).length = n * e.length := by
  unfold fillV
  simp
theorem fillV_at {e : List Value} {n j i : Nat} {u : Value} (hj : j < n) (hu : e[i]? = some u) : (fillV e n)[j * e.length + i]? = some u := by
  have hi := (List.getElem?_eq_some_iff.1 hu).1
  induction n with
  | zero => omega
  | succ n ih =>
    rw [fillV_succ]
    by_cases h : j < n
    · have hlt : j * e.length + i < n * e.length := by
        have := Nat.mul_le_mul_right e.length (show j + 1 ≤ n from h)
        rw [Nat.add_mul, Nat.one_mul] at this
        omega
      rw [List.getElem?_append_left (by rw [fillV_len]; exact hlt)]
      exact ih h
    · obtain rfl : j = n := by omega
      rw [List.getElem?_append_right (by rw [fillV_len]; omega), fillV_len, Nat.add_sub_cancel_left]
      exact hu
/-- List k is being marked, j elements are. -/
structure StI (al : Nat) (L0 L : List Slo) (k j : Nat) : Prop where
  len : L.length = L0.length
  done : ∀ (q : Nat) (s0 : Slo), L0[q]? = some s0 → q < k → ∃ s, L[q]? = some s ∧ s.l = s0.l ∧ s.n = s0.n + 1 ∧ s.x = fillV (valF al q) (s0.n + 1)
  now : ∀ (s0 : Slo), L0[k]? = some s0 → ∃ s, L[k]? = some s ∧ s.l = s0.l ∧ s.v = s0.v ∧ s.n = s0.n ∧ s.x = fillV (valF al k) j ++ s0.x.drop (j * (valF al k).length)
  rest : ∀ (q : Nat) (s0 : Slo), L0[q]? = some s0 → k < q → L[q]? = some s0
theorem StI.start (al : Nat) (L0 : List Slo) : StI al L0 L0 0 0 :=
  ⟨rfl, fun q s0 _ h => by omega, fun s0 h => ⟨s0, h, rfl, rfl, rfl, by simp [fillV]⟩, fun q s0 h _ => h⟩
theorem StI.put {al : Nat} {L0 L : List Slo} {k j : Nat} (h : StI al L0 L k j) {s s' : Slo} (hs : L[k]? = some s) {s0 : Slo} (hs0 : L0[k]? = some s0) (hl : s'.l = s.l) (hv : s'.v = s.v) (hn : s'.n = s.n)
    (hx : s'.x = fillV (valF al k) (j + 1) ++ s0.x.drop ((j + 1) * (valF al k).length)) : StI al L0 (L.set k s') k (j + 1) := by
  have hk := (List.getElem?_eq_some_iff.1 hs).1
  refine ⟨by rw [List.length_set]; exact h.len, fun q t0 h0 hq => ?_, fun t0 h0 => ?_, fun q t0 h0 hq => ?_⟩
  · obtain ⟨t, h1, h2⟩ := h.done q t0 h0 hq
    exact ⟨t, by rw [List.getElem?_set_ne (by omega)]; exact h1, h2⟩
  · rw [hs0] at h0
    obtain rfl := Option.some.inj h0
    obtain ⟨t, h1, h2, h3, h4, _⟩ := h.now s0 hs0
    rw [hs] at h1
    obtain rfl := Option.some.inj h1
    exact ⟨s', List.getElem?_set_self hk, hl.trans h2, hv.trans h3, hn.trans h4, hx⟩
  · rw [List.getElem?_set_ne (by omega)]
    exact h.rest q t0 h0 hq
/-- The list is marked, and one more stands behind it. -/
theorem StI.next {al : Nat} {L0 L : List Slo} {k : Nat} {s0 s s' : Slo} (h : StI al L0 L k s0.n) (hs0 : L0[k]? = some s0) (hs : L[k]? = some s) (hxl : s0.x.length = s0.n * (valF al k).length) (hl : s'.l = s.l) (hn : s'.n = s0.n + 1) (hx : s'.x = s.x ++ valF al k) : StI al L0 (L.set k s') (k + 1) 0 := by
  have hk := (List.getElem?_eq_some_iff.1 hs).1
  obtain ⟨t, h1, h2, h3, h4, h5⟩ := h.now s0 hs0
  rw [hs] at h1
  obtain rfl := Option.some.inj h1
  refine ⟨by rw [List.length_set]; exact h.len, fun q t0 h0 hq => ?_, fun t0 h0 => ?_, fun q t0 h0 hq => ?_⟩
  · by_cases e : q = k
    · subst e
      rw [hs0] at h0
      obtain rfl := Option.some.inj h0
      refine ⟨s', List.getElem?_set_self hk, hl.trans h2, hn, ?_⟩
      rw [hx, h5, fillV_succ, List.drop_eq_nil_of_le (by omega), List.append_nil]
    · obtain ⟨t, g1, g2⟩ := h.done q t0 h0 (by omega)
      exact ⟨t, by rw [List.getElem?_set_ne (fun x => e x.symm)]; exact g1, g2⟩
  · refine ⟨t0, ?_, rfl, rfl, rfl, by simp [fillV]⟩
    rw [List.getElem?_set_ne (by omega)]
    exact h.rest (k + 1) t0 h0 (by omega)
  · rw [List.getElem?_set_ne (by omega)]
    exact h.rest q t0 h0 (by omega)
/-- One cell of a list being marked. -/
theorem fill_put1 {e : Value} {x0 : List Value} {j : Nat} (hj : j < x0.length) : (fillV [e] j ++ x0.drop (j * 1)).set j e = fillV [e] (j + 1) ++ x0.drop ((j + 1) * 1) := by
  have hl : (fillV [e] j).length = j := by rw [fillV_len]; simp
  rw [List.set_append_right _ _ (by omega), hl, Nat.sub_self, fillV_succ, Nat.mul_one, Nat.mul_one, List.drop_eq_getElem_cons hj]
  simp only [List.set_cons_zero, List.append_assoc, List.cons_append, List.nil_append]
theorem fill_put2 {a b : Value} {x0 : List Value} {j : Nat} (hj : j * 2 + 1 < x0.length) : ((fillV [a, b] j ++ x0.drop (j * 2)).set (j * 2) a).set (j * 2 + 1) b = fillV [a, b] (j + 1) ++ x0.drop ((j + 1) * 2) := by
  have hl : (fillV [a, b] j).length = j * 2 := by rw [fillV_len]; simp
  rw [List.set_append_right _ _ (by omega), hl, Nat.sub_self, List.set_append_right _ _ (by omega), hl, Nat.add_sub_cancel_left, fillV_succ, List.drop_eq_getElem_cons (show j * 2 < x0.length by omega), List.drop_eq_getElem_cons hj]
  simp only [List.set_cons_zero, List.set_cons_succ, List.append_assoc, List.cons_append, List.nil_append]
  rw [show (j + 1) * 2 = j * 2 + 1 + 1 by omega]

section
variable {w : World} {base n : Nat} {e : TypeId} {sz : Nat} {v : Value} {x : List Value}
/-- append of one, as one step of a region that draws its order, out of a new block of one element. -/
theorem step_append_S {P : Program} {ops : Array Oper} {o : Oper} {a : Act} {K : Act → World → Prop} {Q : Exit → Act → World → Prop} {E : Prop} (h0 : w.ownsRow 0 e sz v n x) (hgd : o.guard = none) (s q : Operand) (t : TypeId)
    (ho : o.op = .call { callee := .builtin .append, args := #[s, q], argTypes := #[t, t] }) {z : Value} {bytes c H : Nat} (ht : P.underlying t = some (.slice e)) (hi : (P.info? e).map (fun i => (i.zero, i.size, i.bytes)) = some (some z, sz, bytes))
    (hzs : z.cells.size = sz) (hsz : 0 < sz) (hs : a.eval s = v) (ncs : Array Value) (T : TypeId) (hq : a.eval q = .slice (some ⟨H, 0, none⟩) 1 c) (hH : w.heap.size = H)
    (hln : ncs.toList.length = sz) (hone : ∀ u ∈ ncs.toList, u.oneCell' = true) (hn : n ≤ 40000000) (hb : bytes ≤ 1000)
    (k : ∀ g cap w', w'.ownsRow 0 e sz (.slice (some ⟨g, 0, none⟩) (n + 1) cap) (n + 1) (x ++ ncs.toList) → Turns v.ownBlock.toList w w' → (v.ownBlock = some g ∨ w.heap.size ≤ g) → g < w'.heap.size →
      K (a.put o.dst (.slice (some ⟨g, 0, none⟩) (n + 1) cap)) w') : if Region.wanted o (yielded ops a.tmps) = true then Oper.wp P o a (w.alloc (.cells ncs T)).drew K Q else E := by
  subst hH
  obtain ⟨i0, hi0, hz0, hz1, hz2⟩ := info_parts hi
  have hbl : Below w.heap.size w (w.alloc (.cells ncs T)).drew := ((Below.refl w.heap.size w).alloc (Nat.le_refl _) (.cells ncs T)).drew
  have h1 := ownsRow_turns h0 (Turns.of_below (S := []) hbl) (fun _ _ => by simp)
  refine step_append1s (w.alloc (.cells ncs T)).drew hgd s q t ho 0 e i0 z sz bytes ht hi0 hz0 hz1 hz2 hzs hsz v n x hs h1 ⟨w.heap.size, 0, none⟩ c ncs.toList hq (by rw [hln, Nat.one_mul]) ?_ hone hn hb (Nat.zero_le _) _ rfl ?_
  · exact World.news_of_block (heap_alloc_new w (.cells ncs T))
  · intro g cap w' hown hgrow hat hlt
    have T1 : Turns v.ownBlock.toList w w' := ((((Turns.refl [] w).alloc (.cells ncs T)).drew).mono (by simp)).trans (Turns.of_grown hgrow) (fun x hx => .inl hx)
    refine k g cap w' hown T1 ?_ hlt
    rcases hat with h | h
    · exact .inl h
    · exact .inr (by have := h.1; simp at this; omega)
/-- The same where nothing is drawn. -/
theorem wpList_append_S {P : Program} {ops : Array Oper} {rest : List Oper} {o : Oper} {a : Act} {Q : Exit → Act → World → Prop} (h0 : w.ownsRow 0 e sz v n x) (hgd : o.guard = none) (s q : Operand) (t : TypeId)
    (ho : o.op = .call { callee := .builtin .append, args := #[s, q], argTypes := #[t, t] }) {z : Value} {bytes c H : Nat} (ht : P.underlying t = some (.slice e)) (hi : (P.info? e).map (fun i => (i.zero, i.size, i.bytes)) = some (some z, sz, bytes))
    (hzs : z.cells.size = sz) (hsz : 0 < sz) (hs : a.eval s = v) (ncs : Array Value) (T : TypeId) (hq : a.eval q = .slice (some ⟨H, 0, none⟩) 1 c) (hH : w.heap.size = H)
    (hln : ncs.toList.length = sz) (hone : ∀ u ∈ ncs.toList, u.oneCell' = true) (hn : n ≤ 40000000) (hb : bytes ≤ 1000)
    (k : ∀ g cap w', w'.ownsRow 0 e sz (.slice (some ⟨g, 0, none⟩) (n + 1) cap) (n + 1) (x ++ ncs.toList) → Turns v.ownBlock.toList w w' → (v.ownBlock = some g ∨ w.heap.size ≤ g) → g < w'.heap.size →
      wpList P ops Q rest (a.put o.dst (.slice (some ⟨g, 0, none⟩) (n + 1) cap)) w') : wpList P ops Q (o :: rest) a (w.alloc (.cells ncs T)) := by
  subst hH
  obtain ⟨i0, hi0, hz0, hz1, hz2⟩ := info_parts hi
  have hbl : Below w.heap.size w (w.alloc (.cells ncs T)) := (Below.refl w.heap.size w).alloc (Nat.le_refl _) (.cells ncs T)
  have h1 := ownsRow_turns h0 (Turns.of_below (S := []) hbl) (fun _ _ => by simp)
  refine wpList_append1s (w.alloc (.cells ncs T)) hgd s q t ho 0 e i0 z sz bytes ht hi0 hz0 hz1 hz2 hzs hsz v n x hs h1 ⟨w.heap.size, 0, none⟩ c ncs.toList hq (by rw [hln, Nat.one_mul]) ?_ hone hn hb (Nat.zero_le _) _ rfl ?_
  · exact World.news_of_block (heap_alloc_new w (.cells ncs T))
  · intro g cap w' hown hgrow hat hlt
    have T1 : Turns v.ownBlock.toList w w' := (((Turns.refl [] w).alloc (.cells ncs T)).mono (by simp)).trans (Turns.of_grown hgrow) (fun x hx => .inl hx)
    refine k g cap w' hown T1 ?_ hlt
    rcases hat with h | h
    · exact .inl h
    · exact .inr (by have := h.1; simp at this; omega)
end
/-- The form of a row of the call's own. -/
theorem own_formS {w : World} {base n : Nat} {e : TypeId} {sz : Nat} {v : Value} {x : List Value} (h : w.ownsRow base e sz v n x) : ∃ A c, v = .slice A n c ∧ (0 < n → ∃ g, A = some ⟨g, 0, none⟩) := by
  rcases h.2 with ⟨rfl, h0⟩ | ⟨g, cap, cur, rfl, _⟩
  · exact ⟨none, 0, by rw [h0], fun h => by omega⟩
  · exact ⟨_, cap, rfl, fun _ => ⟨g, rfl⟩⟩
/-- The lists of a plan that is handed to `full`. -/
structure FS0 (W : World) (S0 : List Nat) (A N al : Nat) (L : List Slo) : Prop where
  own : ∀ (k : Nat) (s : Slo), L[k]? = some s → W.ownsRow 0 s.e s.sz s.v s.n s.x
  apart : ∀ (k k' : Nat) (s s' : Slo) (b : Nat), L[k]? = some s → L[k']? = some s' → s.v.ownBlock = some b → s'.v.ownBlock = some b → k = k'
  out : ∀ (k : Nat) (s : Slo), L[k]? = some s → W.cell? ⟨plB al A N k, plO al k, none⟩ = some s.v
  rowA : 0 < al → ∃ cur, W.heap[A]? = some (.cells cur 79 (0, 0))
  rowN : ∃ cur, W.heap[N]? = some (.cells cur 54 (0, 0))
  foot : ∀ (k : Nat) (s : Slo) (b : Nat), L[k]? = some s → s.v.ownBlock = some b → b ∈ S0
  hA : 0 < al → A ∈ S0
  hN : N ∈ S0
theorem FS0.start {W : World} {S0 : List Nat} {A N al : Nat} {L : List Slo} (h : FS0 W S0 A N al L) (pl : Array Value) : FS W S0 pl A N al (W.alloc (.cells pl 27)) L := by
  have hb : Below W.heap.size W (W.alloc (.cells pl 27)) := (Below.refl _ _).alloc (Nat.le_refl _) _
  have T : Turns ([] : List Nat) W (W.alloc (.cells pl 27)) := Turns.of_below hb
  have hN := h.rowN
  obtain ⟨cn, hcn⟩ := hN
  have hlt : ∀ k, plB al A N k < W.heap.size := by
    intro k
    unfold plB
    split
    · obtain ⟨c, hc⟩ := h.rowA (by omega); exact lt_of_heap hc
    · exact lt_of_heap hcn
  refine ⟨heap_alloc_new W _, ?_, h.apart, ?_, ?_, ?_, ?_, ?_, ?_, ?_⟩
  · exact fun k s hs => ownsRow_turns (h.own k s hs) T (fun _ _ => by simp)
  · intro q t hq
    rw [← h.out q t hq]
    exact T.cell (hlt q) (by simp)
  · intro ha
    obtain ⟨c, hc⟩ := h.rowA ha
    exact ⟨c, (hb.block _ (lt_of_heap hc)).trans hc⟩
  · exact ⟨cn, (hb.block _ (lt_of_heap hcn)).trans hcn⟩
  · exact fun k s b hs hb => .inl (h.foot k s b hs hb)
  · exact T.mono (by simp)
  · intro ha
    obtain ⟨c, hc⟩ := h.rowA ha
    exact ⟨h.hA ha, lt_of_heap hc⟩
  · exact ⟨h.hN, lt_of_heap hcn⟩
end Go.Proofs.Ytonkbjdeaneicaa
