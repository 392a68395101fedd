/- A struct of many cells as one row: into a new block, out of a block, as the first of two results. Over any program. asksOf: what a node asks, as one value. Printed by wip/bin/asksw.py. The maker: a plan on its way in memory. -/
import Derived.Test.YtonkbjdeaneicaaDoorKpa06
import Derived.Test.YtonkbjdeaneicaaDoorKpa12
import Derived.Test.YtonkbjdeaneicaaDoorKpa15
import Derived.Deep.WholeRow
import Derived.StillTailTactics
import Derived.WalkKit
namespace Go.Proofs.YtonkbjdeaneicaaDoor
open Go Go.RowKit
section
variable {P : Program}
/-- Where a walk stops: at a build, a store, a load. -/
theorem stop_build {ops : Array Oper} {rest : List Oper} {o : Oper} {a : Act} {w : World} {Q : Exit → Act → World → Prop} (_ : o.guard = none) (t : TypeId) (parts : Array (Nat × Operand)) (_ : o.op = .build t parts) (h : Hid (wpList P ops Q (o :: rest) a w)) : wpList P ops Q (o :: rest) a w := h.out
theorem stop_store {ops : Array Oper} {rest : List Oper} {o : Oper} {a : Act} {w : World} {Q : Exit → Act → World → Prop} (_ : o.guard = none) (t : TypeId) (x y : Operand) (_ : o.op = .store t x y) (h : Hid (wpList P ops Q (o :: rest) a w)) : wpList P ops Q (o :: rest) a w := h.out
theorem stop_load {ops : Array Oper} {rest : List Oper} {o : Oper} {a : Act} {w : World} {Q : Exit → Act → World → Prop} (_ : o.guard = none) (t : TypeId) (x : Operand) (_ : o.op = .load t x) (h : Hid (wpList P ops Q (o :: rest) a w)) : wpList P ops Q (o :: rest) a w := h.out
theorem wpList_store_new {ops : Array Oper} {rest : List Oper} {o : Oper} {a : Act} {Q : Exit → Act → World → Prop} {w : World} (hgd : o.guard = none) (ty : TypeId) (x y : Operand) (ho : o.op = .store ty x y)
    (B : Nat) (hB : w.heap.size = B) (c c' : Array Value) (t : TypeId) (hx : a.eval x = .pointer (some ⟨B, 0, none⟩)) (hy : a.eval y = .agg c') (hi : (P.info? ty).map (·.size) = some c'.size)
    (hold : c.size = c'.size) (h1 : c'.all (·.oneCell') = true) (h : wpList P ops Q rest (a.put o.dst undef) (w.alloc (.cells c' t))) : wpList P ops Q (o :: rest) a (w.alloc (.cells c t)) := by
  subst hB
  refine wpList_store_row hgd ty x y ho w.heap.size c' hx hy t c (heap_alloc_last w _) hi hold h1 ?_
  rw [World.setRow_alloc_new]
  exact h
theorem wpList_build_to {ops : Array Oper} {rest : List Oper} {o : Oper} {a : Act} {w : World} {Q : Exit → Act → World → Prop} (hg : o.guard = none) (t : TypeId) (parts : Array (Nat × Operand)) (ho : o.op = .build t parts)
    (l : List (Nat × Value)) (hl : (parts.map fun (i, x) => (i, a.eval x)).toList = l) (v : Array Value) (hv : P.built t l = some v) (h : wpList P ops Q rest (a.put o.dst (.agg v)) w) : wpList P ops Q (o :: rest) a w := by
  subst hl
  refine wpList_build hg t parts ho (by rw [hv]; rfl) ?_
  rw [hv]
  exact h
/-- A whole row read in a region that only reads. -/
theorem wpStill_load_row {ops : Array Oper} {rest : List Oper} {o : Oper} {a : Act} {w : World} {Q : Act → Prop} (hgd : o.guard = none) (ty : TypeId) (x : Operand) (ho : o.op = .load ty x)
    (g : Nat) (hx : a.eval x = .pointer (some ⟨g, 0, none⟩)) (t : TypeId) (cs : Array Value) (fr : Nat × Nat) (d : TypeDesc) (hg : w.heap[g]? = some (.cells cs t fr))
    (hu : P.underlying ty = some d) (hd : (match d with | .struct _ | .array _ _ => true | _ => false) = true) (hi : (P.info? ty).map (·.size) = some cs.size)
    (h : wpStill P ops w Q rest (a.put o.dst (.agg cs))) : wpStill P ops w Q (o :: rest) a := by
  refine wpStill_step (fun K hK => ?_)
  have hw : Region.wanted o (yielded ops a.tmps) = true := by simp [Region.wanted, hgd]
  rw [if_pos hw]
  unfold Oper.still execOp
  simp only [ho, hx, Instr.loadAt, Instr.sureAddr, Sem.run_bind, Sem.run_pure, Result.andThen_ok, run_loadVar_row w g t ty cs fr d hg hu hd hi]
  exact ⟨rfl, hK _ h⟩
theorem results_row_slot {fn : Func} {p q : Tmp} {ty : TypeId} (h : fn.results = #[.cell p ty, .tmp q]) (tmps : Array Value) (w : World) (g : Nat) (t : TypeId) (cs : Array Value) (fr : Nat × Nat) (d : TypeDesc) (v : Value)
    (hp : tmps.getD p undef = .pointer (some ⟨g, 0, none⟩)) (hq : tmps.getD q undef = v) (hg : w.heap[g]? = some (.cells cs t fr))
    (hu : P.underlying ty = some d) (hd : (match d with | .struct _ | .array _ _ => true | _ => false) = true) (hi : (P.info? ty).map (·.size) = some cs.size) :
    (results fn tmps).run P w = .ok (.tuple #[.agg cs, v]) w := by
  have hp' : tmps[p]?.getD undef = .pointer (some ⟨g, 0, none⟩) := by simpa using hp
  have hq' : tmps[q]?.getD undef = v := by simpa using hq
  simp [results, h, hp', hq', asAddr, run_loadVar_row w g t ty cs fr d hg hu hd hi]
theorem heap_setRow (w : World) (g : Nat) (cs cs' : Array Value) (t : TypeId) (h : w.heap[g]? = some (.cells cs t (0, 0))) : (w.setRow g cs').heap[g]? = some (.cells cs' t (0, 0)) :=
  setRow_heap w g cs cs' t _ h
end
end Go.Proofs.YtonkbjdeaneicaaDoor

namespace Go.Proofs.YtonkbjdeaneicaaDoor
open Go.RowKit Pln Classical

theorem sizeLnk : (Tryd.prog.info? 56).map (·.size) = some 2 := by kernel_rfl
theorem sizeInt : (Tryd.prog.info? 3).map (·.size) = some 1 := by kernel_rfl
theorem sizeAsk : (Tryd.prog.info? 110).map (·.size) = some 35 := by kernel_rfl
theorem lsrc {F : Nat → Prop} {w : World} {A : Option Addr} {c : Nat} {l : List (Int × Int)} (h : RSl F w 2 ELnk (.slice A l.length c) l) (h0 : 0 < l.length) : ∃ ad, A = some ad ∧ ∀ j v, (lcells l)[j]? = some v → w.cell? (ad.add j) = some v := by
  obtain ⟨b, off, rfl, _⟩ := h.at (i := 0) (List.getElem?_eq_getElem h0)
  refine ⟨_, rfl, fun j v hv => ?_⟩
  have hj := (List.getElem?_eq_some_iff.1 hv).1
  rw [lcells_len] at hj
  obtain ⟨x, hx⟩ : ∃ x, l[j / 2]? = some x := ⟨_, List.getElem?_eq_getElem (by omega)⟩
  obtain ⟨b', off', hA, _, _, cs, ⟨rfl, _⟩, hc⟩ := h.at hx
  simp only [Option.some.injEq, Addr.mk.injEq, and_true] at hA
  obtain ⟨rfl, rfl⟩ := hA
  obtain ⟨l1, l2⟩ := lcells_at hx
  rw [rd_add]
  rcases Nat.mod_two_eq_zero_or_one j with h1 | h1
  · have e : j = j / 2 * 2 := by omega
    rw [← e, hv] at l1
    have := hc 0 _ rfl
    rw [Nat.add_zero, ← e] at this
    rw [this]
    exact l1.symm
  · have e : j = j / 2 * 2 + 1 := by omega
    rw [← e, hv] at l2
    have := hc 1 _ rfl
    rw [Nat.add_assoc, ← e] at this
    rw [this]
    exact l2.symm
theorem nsrc {F : Nat → Prop} {w : World} {A : Option Addr} {c : Nat} {l : List Int} (h : RSl F w 1 EInt (.slice A l.length c) l) (h0 : 0 < l.length) : ∃ ad, A = some ad ∧ ∀ j v, (ncells l)[j]? = some v → w.cell? (ad.add j) = some v := by
  obtain ⟨b, off, rfl, _⟩ := h.at (i := 0) (List.getElem?_eq_getElem h0)
  refine ⟨_, rfl, fun j v hv => ?_⟩
  have hj := (List.getElem?_eq_some_iff.1 hv).1
  simp only [ncells, List.length_map] at hj
  obtain ⟨x, hx⟩ : ∃ x, l[j]? = some x := ⟨_, List.getElem?_eq_getElem hj⟩
  obtain ⟨b', off', hA, _, _, cs, ⟨rfl, _⟩, hc⟩ := h.at hx
  simp only [Option.some.injEq, Addr.mk.injEq, and_true] at hA
  obtain ⟨rfl, rfl⟩ := hA
  have hv' : (ncells l)[j]? = some (.int .i64 x) := by simp only [ncells, List.getElem?_map, hx]; rfl
  rw [hv'] at hv
  rw [rd_add]
  have := hc 0 _ rfl
  rw [Nat.mul_one, Nat.add_zero] at this
  rw [this]
  exact hv
theorem lone (l : List (Int × Int)) : ∀ v ∈ lcells l, v.oneCell' = true := by
  intro v hv
  obtain ⟨x, _, hx⟩ := List.mem_flatMap.1 hv
  simp only [List.mem_cons, List.not_mem_nil, or_false] at hx
  rcases hx with rfl | rfl <;> rfl
theorem none1 (l : List Int) : ∀ v ∈ ncells l, v.oneCell' = true := by
  intro v hv
  obtain ⟨x, _, rfl⟩ := List.mem_map.1 hv
  rfl

theorem builtAsk (k p a o l2 r2 nl nn wd : Int) (l1 r1 : Bool) : Tryd.prog.built 110 [(0, .int .i64 k), (1, .int .i64 p), (2, .int .i64 a), (3, .agg #[.int .i64 o, .bool l1, .int .i64 l2, .bool r1, .int .i64 r2]), (4, .int .i64 nl), (6, .int .i64 nn), (8, .int .i64 wd)] =
    some #[.int .i64 k, .int .i64 p, .int .i64 a, .int .i64 o, .bool l1, .int .i64 l2, .bool r1, .int .i64 r2, .int .i64 nl, .int .i64 0, .int .i64 0, .int .i64 0, .int .i64 0, .int .i64 0, .int .i64 0, .int .i64 0, .int .i64 0, .int .i64 0, .int .i64 0, .int .i64 0, .int .i64 0, .int .i64 0, .int .i64 0, .int .i64 0, .int .i64 0, .int .i64 nn, .int .i64 0, .int .i64 0, .int .i64 0, .int .i64 0, .int .i64 0, .int .i64 0, .int .i64 0, .int .i64 0, .int .i64 wd] := by kernel_rfl
set_option maxRecDepth 200000 in
set_option maxHeartbeats 8000000 in
theorem asksW {F : Nat → Prop} {cs : List Value} {lv nv : Value} (n : Nd) (w : World) (h : ENd F w cs n lv nv) (h1 : n.links.length ≤ 8) (h2 : n.new.length ≤ 8) :
    Calls Tryd.prog 62 #[.agg #[.int .i64 n.kind, .int .i64 n.parent, .int .i64 n.alpha, lv, nv, .int .i64 n.test.op, .bool n.test.l.v, .int .i64 n.test.l.n, .bool n.test.r.v, .int .i64 n.test.r.n, .int .i64 n.width]] w fun e w' => e = .returned (.tuple #[.agg (askA n), .bool true]) ∧ Below w.heap.size w w' := by
  obtain ⟨la, lc, rfl⟩ := h.links.form
  obtain ⟨na, nc, rfl⟩ := h.new.form
  have HL := Lib.hid h.links
  have HN := Lib.hid h.new
  clear h
  have b0 : Below w.heap.size w (((w.alloc (.cells #[.int .i64 n.kind, .int .i64 n.parent, .int .i64 n.alpha, .slice la n.links.length lc, .slice na n.new.length nc, .int .i64 n.test.op, .bool n.test.l.v, .int .i64 n.test.l.n, .bool n.test.r.v, .int .i64 n.test.r.n, .int .i64 n.width] 40)).alloc (.cells #[.int .i64 0, .int .i64 0, .int .i64 0, .int .i64 0, .bool false, .int .i64 0, .bool false, .int .i64 0, .int .i64 0, .int .i64 0, .int .i64 0, .int .i64 0, .int .i64 0, .int .i64 0, .int .i64 0, .int .i64 0, .int .i64 0, .int .i64 0, .int .i64 0, .int .i64 0, .int .i64 0, .int .i64 0, .int .i64 0, .int .i64 0, .int .i64 0, .int .i64 0, .int .i64 0, .int .i64 0, .int .i64 0, .int .i64 0, .int .i64 0, .int .i64 0, .int .i64 0, .int .i64 0, .int .i64 0] 110)).alloc (.cells #[.int .i64 n.kind, .int .i64 n.parent, .int .i64 n.alpha, .int .i64 n.test.op, .bool n.test.l.v, .int .i64 n.test.l.n, .bool n.test.r.v, .int .i64 n.test.r.n, .int .i64 n.links.length, .int .i64 0, .int .i64 0, .int .i64 0, .int .i64 0, .int .i64 0, .int .i64 0, .int .i64 0, .int .i64 0, .int .i64 0, .int .i64 0, .int .i64 0, .int .i64 0, .int .i64 0, .int .i64 0, .int .i64 0, .int .i64 0, .int .i64 n.new.length, .int .i64 0, .int .i64 0, .int .i64 0, .int .i64 0, .int .i64 0, .int .i64 0, .int .i64 0, .int .i64 0, .int .i64 n.width] 110)).drew :=
    ((((Below.refl w.heap.size w).alloc (Nat.le_refl _) _).alloc (by simp) _).alloc (by simp <;> omega) _).drew
  have HB0 := Lib.hid b0
  clear b0
  go_enter Tryd.func62, Tryd.ntmps62
  go_wp2_with (with_reducible refine stop_build rfl 110 _ rfl ?_)
  refine Lib.hid ?_
  with_reducible refine wpList_build_to rfl 110 _ rfl [(0, .int .i64 n.kind), (1, .int .i64 n.parent), (2, .int .i64 n.alpha), (3, .agg #[.int .i64 n.test.op, .bool n.test.l.v, .int .i64 n.test.l.n, .bool n.test.r.v, .int .i64 n.test.r.n]), (4, .int .i64 n.links.length), (6, .int .i64 n.new.length), (8, .int .i64 n.width)] ?q1 _ (builtAsk _ _ _ _ _ _ _ _ _ _ _) ?q2
  case q1 => simp [Act.eval]
  go_wp2_with (with_reducible refine stop_store rfl 110 (.tmp 4) (.tmp 32) rfl ?_)
  refine Lib.hid ?_
  refine wpList_store_new rfl 110 (.tmp 4) (.tmp 32) rfl (w.heap.size + 1 + 1) (by simp) _ _ _ rfl rfl sizeAsk rfl (by simp [Value.oneCell']) ?_
  go_wp2
  have hbl := HB0.out
  have e1 : (((w.alloc (.cells #[.int .i64 n.kind, .int .i64 n.parent, .int .i64 n.alpha, .slice la n.links.length lc, .slice na n.new.length nc, .int .i64 n.test.op, .bool n.test.l.v, .int .i64 n.test.l.n, .bool n.test.r.v, .int .i64 n.test.r.n, .int .i64 n.width] 40)).alloc (.cells #[.int .i64 0, .int .i64 0, .int .i64 0, .int .i64 0, .bool false, .int .i64 0, .bool false, .int .i64 0, .int .i64 0, .int .i64 0, .int .i64 0, .int .i64 0, .int .i64 0, .int .i64 0, .int .i64 0, .int .i64 0, .int .i64 0, .int .i64 0, .int .i64 0, .int .i64 0, .int .i64 0, .int .i64 0, .int .i64 0, .int .i64 0, .int .i64 0, .int .i64 0, .int .i64 0, .int .i64 0, .int .i64 0, .int .i64 0, .int .i64 0, .int .i64 0, .int .i64 0, .int .i64 0, .int .i64 0] 110)).alloc (.cells #[.int .i64 n.kind, .int .i64 n.parent, .int .i64 n.alpha, .int .i64 n.test.op, .bool n.test.l.v, .int .i64 n.test.l.n, .bool n.test.r.v, .int .i64 n.test.r.n, .int .i64 n.links.length, .int .i64 0, .int .i64 0, .int .i64 0, .int .i64 0, .int .i64 0, .int .i64 0, .int .i64 0, .int .i64 0, .int .i64 0, .int .i64 0, .int .i64 0, .int .i64 0, .int .i64 0, .int .i64 0, .int .i64 0, .int .i64 0, .int .i64 n.new.length, .int .i64 0, .int .i64 0, .int .i64 0, .int .i64 0, .int .i64 0, .int .i64 0, .int .i64 0, .int .i64 0, .int .i64 n.width] 110)).drew.heap[w.heap.size + 1 + 1]? = some (.cells ([.int .i64 n.kind, .int .i64 n.parent, .int .i64 n.alpha, .int .i64 n.test.op, .bool n.test.l.v, .int .i64 n.test.l.n, .bool n.test.r.v, .int .i64 n.test.r.n, .int .i64 n.links.length, .int .i64 0, .int .i64 0, .int .i64 0, .int .i64 0, .int .i64 0, .int .i64 0, .int .i64 0, .int .i64 0, .int .i64 0, .int .i64 0, .int .i64 0, .int .i64 0, .int .i64 0, .int .i64 0, .int .i64 0, .int .i64 0, .int .i64 n.new.length, .int .i64 0, .int .i64 0, .int .i64 0, .int .i64 0, .int .i64 0, .int .i64 0, .int .i64 0, .int .i64 0, .int .i64 n.width] : List Value).toArray 110 (0, 0)) := by
    have := heap_alloc_new ((w.alloc (.cells #[.int .i64 n.kind, .int .i64 n.parent, .int .i64 n.alpha, .slice la n.links.length lc, .slice na n.new.length nc, .int .i64 n.test.op, .bool n.test.l.v, .int .i64 n.test.l.n, .bool n.test.r.v, .int .i64 n.test.r.n, .int .i64 n.width] 40)).alloc (.cells #[.int .i64 0, .int .i64 0, .int .i64 0, .int .i64 0, .bool false, .int .i64 0, .bool false, .int .i64 0, .int .i64 0, .int .i64 0, .int .i64 0, .int .i64 0, .int .i64 0, .int .i64 0, .int .i64 0, .int .i64 0, .int .i64 0, .int .i64 0, .int .i64 0, .int .i64 0, .int .i64 0, .int .i64 0, .int .i64 0, .int .i64 0, .int .i64 0, .int .i64 0, .int .i64 0, .int .i64 0, .int .i64 0, .int .i64 0, .int .i64 0, .int .i64 0, .int .i64 0, .int .i64 0, .int .i64 0] 110)) (.cells #[.int .i64 n.kind, .int .i64 n.parent, .int .i64 n.alpha, .int .i64 n.test.op, .bool n.test.l.v, .int .i64 n.test.l.n, .bool n.test.r.v, .int .i64 n.test.r.n, .int .i64 n.links.length, .int .i64 0, .int .i64 0, .int .i64 0, .int .i64 0, .int .i64 0, .int .i64 0, .int .i64 0, .int .i64 0, .int .i64 0, .int .i64 0, .int .i64 0, .int .i64 0, .int .i64 0, .int .i64 0, .int .i64 0, .int .i64 0, .int .i64 n.new.length, .int .i64 0, .int .i64 0, .int .i64 0, .int .i64 0, .int .i64 0, .int .i64 0, .int .i64 0, .int .i64 0, .int .i64 n.width] 110)
    have hs : ((w.alloc (.cells #[.int .i64 n.kind, .int .i64 n.parent, .int .i64 n.alpha, .slice la n.links.length lc, .slice na n.new.length nc, .int .i64 n.test.op, .bool n.test.l.v, .int .i64 n.test.l.n, .bool n.test.r.v, .int .i64 n.test.r.n, .int .i64 n.width] 40)).alloc (.cells #[.int .i64 0, .int .i64 0, .int .i64 0, .int .i64 0, .bool false, .int .i64 0, .bool false, .int .i64 0, .int .i64 0, .int .i64 0, .int .i64 0, .int .i64 0, .int .i64 0, .int .i64 0, .int .i64 0, .int .i64 0, .int .i64 0, .int .i64 0, .int .i64 0, .int .i64 0, .int .i64 0, .int .i64 0, .int .i64 0, .int .i64 0, .int .i64 0, .int .i64 0, .int .i64 0, .int .i64 0, .int .i64 0, .int .i64 0, .int .i64 0, .int .i64 0, .int .i64 0, .int .i64 0, .int .i64 0] 110)).heap.size = w.heap.size + 1 + 1 := by simp
    rw [hs] at this
    exact this
  have E1 := Lib.hid e1
  have s1 := fun (W : World) (hW : Below w.heap.size w W) (h0 : 0 < n.links.length) => lsrc (HL.out.keep (Kp.of_below hW)) h0
  have S1 := Lib.hid s1
  have N0 := Lib.hid (show Below (w.heap.size + 1 + 1) (((w.alloc (.cells #[.int .i64 n.kind, .int .i64 n.parent, .int .i64 n.alpha, .slice la n.links.length lc, .slice na n.new.length nc, .int .i64 n.test.op, .bool n.test.l.v, .int .i64 n.test.l.n, .bool n.test.r.v, .int .i64 n.test.r.n, .int .i64 n.width] 40)).alloc (.cells #[.int .i64 0, .int .i64 0, .int .i64 0, .int .i64 0, .bool false, .int .i64 0, .bool false, .int .i64 0, .int .i64 0, .int .i64 0, .int .i64 0, .int .i64 0, .int .i64 0, .int .i64 0, .int .i64 0, .int .i64 0, .int .i64 0, .int .i64 0, .int .i64 0, .int .i64 0, .int .i64 0, .int .i64 0, .int .i64 0, .int .i64 0, .int .i64 0, .int .i64 0, .int .i64 0, .int .i64 0, .int .i64 0, .int .i64 0, .int .i64 0, .int .i64 0, .int .i64 0, .int .i64 0, .int .i64 0] 110)).alloc (.cells #[.int .i64 n.kind, .int .i64 n.parent, .int .i64 n.alpha, .int .i64 n.test.op, .bool n.test.l.v, .int .i64 n.test.l.n, .bool n.test.r.v, .int .i64 n.test.r.n, .int .i64 n.links.length, .int .i64 0, .int .i64 0, .int .i64 0, .int .i64 0, .int .i64 0, .int .i64 0, .int .i64 0, .int .i64 0, .int .i64 0, .int .i64 0, .int .i64 0, .int .i64 0, .int .i64 0, .int .i64 0, .int .i64 0, .int .i64 0, .int .i64 n.new.length, .int .i64 0, .int .i64 0, .int .i64 0, .int .i64 0, .int .i64 0, .int .i64 0, .int .i64 0, .int .i64 0, .int .i64 n.width] 110)).drew (((w.alloc (.cells #[.int .i64 n.kind, .int .i64 n.parent, .int .i64 n.alpha, .slice la n.links.length lc, .slice na n.new.length nc, .int .i64 n.test.op, .bool n.test.l.v, .int .i64 n.test.l.n, .bool n.test.r.v, .int .i64 n.test.r.n, .int .i64 n.width] 40)).alloc (.cells #[.int .i64 0, .int .i64 0, .int .i64 0, .int .i64 0, .bool false, .int .i64 0, .bool false, .int .i64 0, .int .i64 0, .int .i64 0, .int .i64 0, .int .i64 0, .int .i64 0, .int .i64 0, .int .i64 0, .int .i64 0, .int .i64 0, .int .i64 0, .int .i64 0, .int .i64 0, .int .i64 0, .int .i64 0, .int .i64 0, .int .i64 0, .int .i64 0, .int .i64 0, .int .i64 0, .int .i64 0, .int .i64 0, .int .i64 0, .int .i64 0, .int .i64 0, .int .i64 0, .int .i64 0, .int .i64 0] 110)).alloc (.cells #[.int .i64 n.kind, .int .i64 n.parent, .int .i64 n.alpha, .int .i64 n.test.op, .bool n.test.l.v, .int .i64 n.test.l.n, .bool n.test.r.v, .int .i64 n.test.r.n, .int .i64 n.links.length, .int .i64 0, .int .i64 0, .int .i64 0, .int .i64 0, .int .i64 0, .int .i64 0, .int .i64 0, .int .i64 0, .int .i64 0, .int .i64 0, .int .i64 0, .int .i64 0, .int .i64 0, .int .i64 0, .int .i64 0, .int .i64 0, .int .i64 n.new.length, .int .i64 0, .int .i64 0, .int .i64 0, .int .i64 0, .int .i64 0, .int .i64 0, .int .i64 0, .int .i64 0, .int .i64 n.width] 110)).drew from Below.refl _ _)
  clear e1 s1 hbl
  go_region_law (refine step_copyN rfl (.tmp 34) (.tmp 36) 34 34 rfl 56 Tryd.underlying34 sizeLnk _ _ 8 8 n.links.length lc (by simp [Act.eval]) (by simp [Act.eval]) (w.heap.size + 1 + 1) 9 _ _ E1.out (lcells n.links) (by rw [lcells_len, show Nat.min n.links.length 8 = n.links.length from Nat.min_eq_left h1]) (fun h0 => ⟨rfl, S1.out _ HB0.out (by rwa [show Nat.min n.links.length 8 = n.links.length from Nat.min_eq_left h1] at h0)⟩) (by rw [lcells_len]; simp; omega) (lone _) (w.heap.size + 1 + 1) _ N0.out (Nat.le_refl _) ?_; intro w4 hg4 hb4)
  have X4 := Lib.hid ((HB0.out.trans (hb4.mono (by omega))).drew)
  have x4 : w4.cell? ⟨w.heap.size, 4, none⟩ = some (.slice na n.new.length nc) := (hb4.cell (p := ⟨w.heap.size, 4, none⟩) (by simp <;> omega)).trans (by
    have := cell_of_row _ _ 4 _ _ _ (show (((w.alloc (.cells #[.int .i64 n.kind, .int .i64 n.parent, .int .i64 n.alpha, .slice la n.links.length lc, .slice na n.new.length nc, .int .i64 n.test.op, .bool n.test.l.v, .int .i64 n.test.l.n, .bool n.test.r.v, .int .i64 n.test.r.n, .int .i64 n.width] 40)).alloc (.cells #[.int .i64 0, .int .i64 0, .int .i64 0, .int .i64 0, .bool false, .int .i64 0, .bool false, .int .i64 0, .int .i64 0, .int .i64 0, .int .i64 0, .int .i64 0, .int .i64 0, .int .i64 0, .int .i64 0, .int .i64 0, .int .i64 0, .int .i64 0, .int .i64 0, .int .i64 0, .int .i64 0, .int .i64 0, .int .i64 0, .int .i64 0, .int .i64 0, .int .i64 0, .int .i64 0, .int .i64 0, .int .i64 0, .int .i64 0, .int .i64 0, .int .i64 0, .int .i64 0, .int .i64 0, .int .i64 0] 110)).alloc (.cells #[.int .i64 n.kind, .int .i64 n.parent, .int .i64 n.alpha, .int .i64 n.test.op, .bool n.test.l.v, .int .i64 n.test.l.n, .bool n.test.r.v, .int .i64 n.test.r.n, .int .i64 n.links.length, .int .i64 0, .int .i64 0, .int .i64 0, .int .i64 0, .int .i64 0, .int .i64 0, .int .i64 0, .int .i64 0, .int .i64 0, .int .i64 0, .int .i64 0, .int .i64 0, .int .i64 0, .int .i64 0, .int .i64 0, .int .i64 0, .int .i64 n.new.length, .int .i64 0, .int .i64 0, .int .i64 0, .int .i64 0, .int .i64 0, .int .i64 0, .int .i64 0, .int .i64 0, .int .i64 n.width] 110)).drew.heap[w.heap.size]? = _ from by
      show (((w.alloc (.cells #[.int .i64 n.kind, .int .i64 n.parent, .int .i64 n.alpha, .slice la n.links.length lc, .slice na n.new.length nc, .int .i64 n.test.op, .bool n.test.l.v, .int .i64 n.test.l.n, .bool n.test.r.v, .int .i64 n.test.r.n, .int .i64 n.width] 40)).alloc (.cells #[.int .i64 0, .int .i64 0, .int .i64 0, .int .i64 0, .bool false, .int .i64 0, .bool false, .int .i64 0, .int .i64 0, .int .i64 0, .int .i64 0, .int .i64 0, .int .i64 0, .int .i64 0, .int .i64 0, .int .i64 0, .int .i64 0, .int .i64 0, .int .i64 0, .int .i64 0, .int .i64 0, .int .i64 0, .int .i64 0, .int .i64 0, .int .i64 0, .int .i64 0, .int .i64 0, .int .i64 0, .int .i64 0, .int .i64 0, .int .i64 0, .int .i64 0, .int .i64 0, .int .i64 0, .int .i64 0] 110)).alloc (.cells #[.int .i64 n.kind, .int .i64 n.parent, .int .i64 n.alpha, .int .i64 n.test.op, .bool n.test.l.v, .int .i64 n.test.l.n, .bool n.test.r.v, .int .i64 n.test.r.n, .int .i64 n.links.length, .int .i64 0, .int .i64 0, .int .i64 0, .int .i64 0, .int .i64 0, .int .i64 0, .int .i64 0, .int .i64 0, .int .i64 0, .int .i64 0, .int .i64 0, .int .i64 0, .int .i64 0, .int .i64 0, .int .i64 0, .int .i64 0, .int .i64 n.new.length, .int .i64 0, .int .i64 0, .int .i64 0, .int .i64 0, .int .i64 0, .int .i64 0, .int .i64 0, .int .i64 0, .int .i64 n.width] 110)).heap[w.heap.size]? = _
      rw [Below.heap_alloc _ _ _ (by simp <;> omega), Below.heap_alloc _ _ _ (by simp)]
      exact heap_alloc_new w _)
    simpa using this)
  have rz : w4.heap[w.heap.size + 1]? = some (.cells #[.int .i64 0, .int .i64 0, .int .i64 0, .int .i64 0, .bool false, .int .i64 0, .bool false, .int .i64 0, .int .i64 0, .int .i64 0, .int .i64 0, .int .i64 0, .int .i64 0, .int .i64 0, .int .i64 0, .int .i64 0, .int .i64 0, .int .i64 0, .int .i64 0, .int .i64 0, .int .i64 0, .int .i64 0, .int .i64 0, .int .i64 0, .int .i64 0, .int .i64 0, .int .i64 0, .int .i64 0, .int .i64 0, .int .i64 0, .int .i64 0, .int .i64 0, .int .i64 0, .int .i64 0, .int .i64 0] 110 (0, 0)) := (hb4.block _ (by omega)).trans (by
    show (((w.alloc (.cells #[.int .i64 n.kind, .int .i64 n.parent, .int .i64 n.alpha, .slice la n.links.length lc, .slice na n.new.length nc, .int .i64 n.test.op, .bool n.test.l.v, .int .i64 n.test.l.n, .bool n.test.r.v, .int .i64 n.test.r.n, .int .i64 n.width] 40)).alloc (.cells #[.int .i64 0, .int .i64 0, .int .i64 0, .int .i64 0, .bool false, .int .i64 0, .bool false, .int .i64 0, .int .i64 0, .int .i64 0, .int .i64 0, .int .i64 0, .int .i64 0, .int .i64 0, .int .i64 0, .int .i64 0, .int .i64 0, .int .i64 0, .int .i64 0, .int .i64 0, .int .i64 0, .int .i64 0, .int .i64 0, .int .i64 0, .int .i64 0, .int .i64 0, .int .i64 0, .int .i64 0, .int .i64 0, .int .i64 0, .int .i64 0, .int .i64 0, .int .i64 0, .int .i64 0, .int .i64 0] 110)).alloc (.cells #[.int .i64 n.kind, .int .i64 n.parent, .int .i64 n.alpha, .int .i64 n.test.op, .bool n.test.l.v, .int .i64 n.test.l.n, .bool n.test.r.v, .int .i64 n.test.r.n, .int .i64 n.links.length, .int .i64 0, .int .i64 0, .int .i64 0, .int .i64 0, .int .i64 0, .int .i64 0, .int .i64 0, .int .i64 0, .int .i64 0, .int .i64 0, .int .i64 0, .int .i64 0, .int .i64 0, .int .i64 0, .int .i64 0, .int .i64 0, .int .i64 n.new.length, .int .i64 0, .int .i64 0, .int .i64 0, .int .i64 0, .int .i64 0, .int .i64 0, .int .i64 0, .int .i64 0, .int .i64 n.width] 110)).heap[w.heap.size + 1]? = _
    rw [Below.heap_alloc _ _ _ (by simp)]
    have := heap_alloc_new (w.alloc (.cells #[.int .i64 n.kind, .int .i64 n.parent, .int .i64 n.alpha, .slice la n.links.length lc, .slice na n.new.length nc, .int .i64 n.test.op, .bool n.test.l.v, .int .i64 n.test.l.n, .bool n.test.r.v, .int .i64 n.test.r.n, .int .i64 n.width] 40)) (.cells #[.int .i64 0, .int .i64 0, .int .i64 0, .int .i64 0, .bool false, .int .i64 0, .bool false, .int .i64 0, .int .i64 0, .int .i64 0, .int .i64 0, .int .i64 0, .int .i64 0, .int .i64 0, .int .i64 0, .int .i64 0, .int .i64 0, .int .i64 0, .int .i64 0, .int .i64 0, .int .i64 0, .int .i64 0, .int .i64 0, .int .i64 0, .int .i64 0, .int .i64 0, .int .i64 0, .int .i64 0, .int .i64 0, .int .i64 0, .int .i64 0, .int .i64 0, .int .i64 0, .int .i64 0, .int .i64 0] 110)
    have hs : (w.alloc (.cells #[.int .i64 n.kind, .int .i64 n.parent, .int .i64 n.alpha, .slice la n.links.length lc, .slice na n.new.length nc, .int .i64 n.test.op, .bool n.test.l.v, .int .i64 n.test.l.n, .bool n.test.r.v, .int .i64 n.test.r.n, .int .i64 n.width] 40)).heap.size = w.heap.size + 1 := by simp
    rw [hs] at this
    exact this)
  have RZ := Lib.hid rz
  have E2 := Lib.hid (show w4.drew.heap[w.heap.size + 1 + 1]? = some (.cells (splice ([.int .i64 n.kind, .int .i64 n.parent, .int .i64 n.alpha, .int .i64 n.test.op, .bool n.test.l.v, .int .i64 n.test.l.n, .bool n.test.r.v, .int .i64 n.test.r.n, .int .i64 n.links.length, .int .i64 0, .int .i64 0, .int .i64 0, .int .i64 0, .int .i64 0, .int .i64 0, .int .i64 0, .int .i64 0, .int .i64 0, .int .i64 0, .int .i64 0, .int .i64 0, .int .i64 0, .int .i64 0, .int .i64 0, .int .i64 0, .int .i64 n.new.length, .int .i64 0, .int .i64 0, .int .i64 0, .int .i64 0, .int .i64 0, .int .i64 0, .int .i64 0, .int .i64 0, .int .i64 n.width] : List Value) 9 (lcells n.links)).toArray 110 (0, 0)) from hg4.out)
  have HB4 := Lib.hid (Below.refl w.heap.size w |>.trans (HB0.out.trans (hb4.mono (by omega))))
  have N4 := Lib.hid (Below.refl (w.heap.size + 1 + 1) w4.drew)
  have s2 := fun (W : World) (hW : Below w.heap.size w W) (h0 : 0 < n.new.length) => nsrc (HN.out.keep (Kp.of_below hW)) h0
  have S2 := Lib.hid s2
  have hwl : w.heap.size < w4.heap.size := lt_of_heap (b := w.heap.size) (w := w4) (o := .cells #[.int .i64 n.kind, .int .i64 n.parent, .int .i64 n.alpha, .slice la n.links.length lc, .slice na n.new.length nc, .int .i64 n.test.op, .bool n.test.l.v, .int .i64 n.test.l.n, .bool n.test.r.v, .int .i64 n.test.r.n, .int .i64 n.width] 40 (0, 0)) ((hb4.block _ (by omega)).trans (by
    show (((w.alloc (.cells #[.int .i64 n.kind, .int .i64 n.parent, .int .i64 n.alpha, .slice la n.links.length lc, .slice na n.new.length nc, .int .i64 n.test.op, .bool n.test.l.v, .int .i64 n.test.l.n, .bool n.test.r.v, .int .i64 n.test.r.n, .int .i64 n.width] 40)).alloc (.cells #[.int .i64 0, .int .i64 0, .int .i64 0, .int .i64 0, .bool false, .int .i64 0, .bool false, .int .i64 0, .int .i64 0, .int .i64 0, .int .i64 0, .int .i64 0, .int .i64 0, .int .i64 0, .int .i64 0, .int .i64 0, .int .i64 0, .int .i64 0, .int .i64 0, .int .i64 0, .int .i64 0, .int .i64 0, .int .i64 0, .int .i64 0, .int .i64 0, .int .i64 0, .int .i64 0, .int .i64 0, .int .i64 0, .int .i64 0, .int .i64 0, .int .i64 0, .int .i64 0, .int .i64 0, .int .i64 0] 110)).alloc (.cells #[.int .i64 n.kind, .int .i64 n.parent, .int .i64 n.alpha, .int .i64 n.test.op, .bool n.test.l.v, .int .i64 n.test.l.n, .bool n.test.r.v, .int .i64 n.test.r.n, .int .i64 n.links.length, .int .i64 0, .int .i64 0, .int .i64 0, .int .i64 0, .int .i64 0, .int .i64 0, .int .i64 0, .int .i64 0, .int .i64 0, .int .i64 0, .int .i64 0, .int .i64 0, .int .i64 0, .int .i64 0, .int .i64 0, .int .i64 0, .int .i64 n.new.length, .int .i64 0, .int .i64 0, .int .i64 0, .int .i64 0, .int .i64 0, .int .i64 0, .int .i64 0, .int .i64 0, .int .i64 n.width] 110)).heap[w.heap.size]? = _
    rw [Below.heap_alloc _ _ _ (by simp <;> omega), Below.heap_alloc _ _ _ (by simp)]
    exact heap_alloc_new w _))
  clear rz hg4 hb4 s2
  go_wp2
  go_region_law (refine step_copyN rfl (.tmp 39) (.tmp 41) 24 24 rfl 3 Tryd.underlying24 sizeInt _ _ 8 8 n.new.length nc (by simp [Act.eval]) (by simp [Act.eval]) (w.heap.size + 1 + 1) 26 _ _ E2.out (ncells n.new) (by rw [show Nat.min n.new.length 8 = n.new.length from Nat.min_eq_left h2]; simp [ncells]) (fun h0 => ⟨rfl, S2.out _ X4.out (by rwa [show Nat.min n.new.length 8 = n.new.length from Nat.min_eq_left h2] at h0)⟩) (by rw [length_splice _ _ _ (by rw [lcells_len]; simp; omega)]; simp [ncells]; omega) (none1 _) (w.heap.size + 1 + 1) _ N4.out (Nat.le_refl _) ?_; intro w5 hg5 hb5)
  have e5 : w5.heap[w.heap.size + 1 + 1]? = some (.cells (askA n) 110 (0, 0)) := by
    have := hg5.out
    rw [splice_l _ _ _ _ _ _ _ _ _ _ _ n.links h1, splice_m _ _ _ _ _ _ _ _ _ _ _ _ _ _ _ _ _ _ _ _ _ _ _ _ _ _ _ n.new h2] at this
    exact this
  have r5 : w5.heap[w.heap.size + 1]? = some (.cells #[.int .i64 0, .int .i64 0, .int .i64 0, .int .i64 0, .bool false, .int .i64 0, .bool false, .int .i64 0, .int .i64 0, .int .i64 0, .int .i64 0, .int .i64 0, .int .i64 0, .int .i64 0, .int .i64 0, .int .i64 0, .int .i64 0, .int .i64 0, .int .i64 0, .int .i64 0, .int .i64 0, .int .i64 0, .int .i64 0, .int .i64 0, .int .i64 0, .int .i64 0, .int .i64 0, .int .i64 0, .int .i64 0, .int .i64 0, .int .i64 0, .int .i64 0, .int .i64 0, .int .i64 0, .int .i64 0] 110 (0, 0)) := (hb5.block _ (by omega)).trans RZ.out
  have E5 := Lib.hid e5
  have R5 := Lib.hid r5
  have B5 := Lib.hid (X4.out.trans (hb5.mono (by omega)))
  clear hg5 hb5 e5 r5
  go_wp2_with (with_reducible refine stop_load rfl 110 (.tmp 4) rfl ?_)
  refine Lib.hid ?_
  refine wpList_load_row rfl 110 (.tmp 4) rfl (w.heap.size + 1 + 1) rfl 110 (askA n) (0, 0) _ E5.out Tryd.underlying110 rfl sizeAsk ?_
  go_wp2_with (with_reducible refine stop_store rfl 110 (.tmp 2) (.tmp 43) rfl ?_)
  refine Lib.hid ?_
  refine wpList_store_row rfl 110 (.tmp 2) (.tmp 43) rfl (w.heap.size + 1) (askA n) rfl rfl 110 _ R5.out sizeAsk rfl (askA_one n) ?_
  have F5 := Lib.hid (heap_setRow w5 (w.heap.size + 1) _ (askA n) 110 R5.out)
  have G5 := Lib.hid (below_setRow B5.out (show w.heap.size ≤ w.heap.size + 1 by omega) (askA n))
  generalize w5.setRow (w.heap.size + 1) (askA n) = w6 at F5 G5 ⊢
  go_wp2
  exact bodyPost_ret (v := .tuple #[.agg (askA n), .bool true]) (results_row_slot rfl _ _ (w.heap.size + 1) 110 (askA n) (0, 0) _ _ rfl rfl F5.out Tryd.underlying110 rfl sizeAsk) rfl ⟨rfl, G5.out⟩
end Go.Proofs.YtonkbjdeaneicaaDoor

namespace Go.Proofs.YtonkbjdeaneicaaDoor
open Go.RowKit Pln Classical Go.Maps

/-- What the map of nodes answers. -/
noncomputable def atF (ns : List Nd) : Value → Option Int := fun v => if h : ∃ n, n ∈ ns ∧ n.kind ≠ 0 ∧ v = .agg (askA n) then some (placeF ns h.choose : Int) else none
theorem agg_inj {n m : Nd} (h : Value.agg (askA n) = .agg (askA m)) (hl : n.links.length ≤ 8) (hn : n.new.length ≤ 8) : n = m := by
  injection h with h
  exact askA_inj h hl hn
theorem atF_hit {ns : List Nd} {n : Nd} (h : n ∈ ns) (hk : n.kind ≠ 0) (hl : n.links.length ≤ 8) (hn : n.new.length ≤ 8) : atF ns (.agg (askA n)) = some (placeF ns n : Int) := by
  have hex : ∃ m, m ∈ ns ∧ m.kind ≠ 0 ∧ Value.agg (askA n) = .agg (askA m) := ⟨n, h, hk, rfl⟩
  unfold atF
  rw [dif_pos hex]
  have := agg_inj hex.choose_spec.2.2 hl hn
  rw [← this]
theorem atF_miss {ns : List Nd} {n : Nd} (h : n ∉ ns) (hl : n.links.length ≤ 8) (hn : n.new.length ≤ 8) : atF ns (.agg (askA n)) = none := by
  unfold atF
  rw [dif_neg]
  rintro ⟨m, hm, _, he⟩
  exact h (agg_inj he hl hn ▸ hm)
theorem atF_put {ns : List Nd} {n : Nd} (h : n ∉ ns) (hk : n.kind ≠ 0) (hl : n.links.length ≤ 8) (hn : n.new.length ≤ 8) (hls : ∀ m ∈ ns, m.links.length ≤ 8 ∧ m.new.length ≤ 8) : atF (ns ++ [n]) = putG (atF ns) (.agg (askA n)) ns.length := by
  funext v
  unfold putG
  by_cases hv : v = .agg (askA n)
  · rw [if_pos hv, hv, atF_hit (by simp) hk hl hn]
    have : placeF (ns ++ [n]) n = ns.length := by
      have := addF_place ns n
      unfold addF at this
      rw [if_neg h, placeF_none h] at this
      exact this
    rw [this]
  · rw [if_neg hv]
    by_cases hex : ∃ m, m ∈ ns ∧ m.kind ≠ 0 ∧ v = .agg (askA m)
    · obtain ⟨m, h1, h2, h3⟩ := hex
      obtain ⟨l1, l2⟩ := hls m h1
      rw [h3, atF_hit h1 h2 l1 l2, atF_hit (List.mem_append_left _ h1) h2 l1 l2, placeF_app h1]
    · have hex2 : ¬ ∃ m, m ∈ ns ++ [n] ∧ m.kind ≠ 0 ∧ v = .agg (askA m) := by
        rintro ⟨m, h1, h2, h3⟩
        rcases List.mem_append.1 h1 with h1 | h1
        · exact hex ⟨m, h1, h2, h3⟩
        · rw [List.mem_singleton.1 h1] at h3
          exact hv h3
      unfold atF
      rw [dif_neg hex, dif_neg hex2]

/-- The blocks of the maker itself. -/
def mfoot (g mb : Nat) (av nv ev : Value) : List Nat := g :: mb :: (av.ownBlock.toList ++ (nv.ownBlock.toList ++ ev.ownBlock.toList))
def Off (base : Nat) (S : List Nat) : Nat → Prop := fun b => base ≤ b ∧ b ∉ S
structure MkAt (base g mb : Nat) (W : World) (av nv ev : Value) (st : St) (es : List Nat) : Prop where
  blk : W.heap[g]? = some (.cells #[av, nv, ev, .map (some mb)] 91 (0, 0))
  al : OwnF (Off base (mfoot g mb av nv ev)) base W 54 cdShp av st.al
  ns : OwnF (Off base (mfoot g mb av nv ev)) base W 40 cdNd nv st.ns
  en : OwnF (Off base (mfoot g mb av nv ev)) base W 3 cdInt ev (es.map fun (e : Nat) => (e : Int))
  map : MapG Tryd.prog 110 3 W mb st.ns.length (atF st.ns)
  gb : base ≤ g
  mbb : base ≤ mb
  lens : ∀ n ∈ st.ns, n.links.length ≤ 8 ∧ n.new.length ≤ 8
section
variable {base g mb : Nat} {W W' : World} {av nv ev : Value} {st : St} {es : List Nat}
theorem MkAt.lt (h : MkAt base g mb W av nv ev st es) : g < W.heap.size := lt_of_heap h.blk
theorem MkAt.step (h : MkAt base g mb W av nv ev st es) (hb : Below W.heap.size W W') : MkAt base g mb W' av nv ev st es :=
  ⟨(hb.block _ h.lt).trans h.blk, h.al.below hb, h.ns.below hb, h.en.below hb, h.map.of_block (hb.block _ h.map.lt), h.gb, h.mbb, h.lens⟩
theorem MkAt.cell (h : MkAt base g mb W av nv ev st es) (j : Nat) {u : Value} (hu : (#[av, nv, ev, .map (some mb)] : Array Value)[j]? = some u) : W.cell? ⟨g, j, none⟩ = some u := (cell_of_row _ _ j _ _ _ h.blk).trans hu
theorem MkAt.fz (h : MkAt base g mb W av nv ev st es) (o : Nat) : W.frozen? ⟨g, o, none⟩ = false := by
  have := h.blk
  simp [World.frozen?, this]
/-- The blocks differ, by what lies in them. -/
theorem MkAt.apart (h : MkAt base g mb W av nv ev st es) : g ≠ mb ∧ (∀ b, av.ownBlock = some b → b ≠ g ∧ b ≠ mb ∧ nv.ownBlock ≠ some b ∧ ev.ownBlock ≠ some b) ∧ (∀ b, nv.ownBlock = some b → b ≠ g ∧ b ≠ mb ∧ ev.ownBlock ≠ some b) ∧ (∀ b, ev.ownBlock = some b → b ≠ g ∧ b ≠ mb) := by
  obtain ⟨me, mc, hm⟩ := h.map.obj
  have hg := h.blk
  refine ⟨?_, ?_, ?_, ?_⟩
  · rintro rfl
    rw [hg] at hm
    cases hm
  · intro b hb
    obtain ⟨_, _, c1, h1⟩ := h.al.block hb
    refine ⟨?_, ?_, ?_, ?_⟩
    · rintro rfl
      rw [hg] at h1
      simp at h1
    · rintro rfl
      rw [hm] at h1
      cases h1
    · intro h2
      obtain ⟨_, _, c2, h3⟩ := h.ns.block h2
      rw [h1] at h3
      simp at h3
    · intro h2
      obtain ⟨_, _, c2, h3⟩ := h.en.block h2
      rw [h1] at h3
      simp at h3
  · intro b hb
    obtain ⟨_, _, c1, h1⟩ := h.ns.block hb
    refine ⟨?_, ?_, ?_⟩
    · rintro rfl
      rw [hg] at h1
      simp at h1
    · rintro rfl
      rw [hm] at h1
      cases h1
    · intro h2
      obtain ⟨_, _, c2, h3⟩ := h.en.block h2
      rw [h1] at h3
      simp at h3
  · intro b hb
    obtain ⟨_, _, c1, h1⟩ := h.en.block hb
    refine ⟨?_, ?_⟩
    · rintro rfl
      rw [hg] at h1
      simp at h1
    · rintro rfl
      rw [hm] at h1
      cases h1
end

/-- A maker, its blocks S; what a call on it leaves. -/
def Mkr (base g mb : Nat) (W : World) (S : List Nat) (st : St) (es : List Nat) : Prop := ∃ av nv ev, S = mfoot g mb av nv ev ∧ MkAt base g mb W av nv ev st es
def MkrTo (base g mb : Nat) (W : World) (S : List Nat) (st : St) (es : List Nat) (W' : World) : Prop := ∃ S', Mkr base g mb W' S' st es ∧ Turns S W W' ∧ ∀ b ∈ S', b ∈ S ∨ W.heap.size ≤ b
end Go.Proofs.YtonkbjdeaneicaaDoor
