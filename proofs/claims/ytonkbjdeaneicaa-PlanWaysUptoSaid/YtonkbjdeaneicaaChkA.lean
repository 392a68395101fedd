/- asksOf at a node of long lists; `!=` at two such keys. -/
import Derived.Test.YtonkbjdeaneicaaNode
import Derived.Test.YtonkbjdeaneicaaChkP
namespace Go.Proofs.Ytonkbjdeaneicaa
open Go.RowKit Pln Classical Go.Maps

section
variable {P : Program} {ops : Array Oper} {rest : List Oper} {o : Oper} {a : Act} {w : World} {Q : Exit → Act → World → Prop}
theorem wpList_val (hw : Region.wanted o (yielded ops a.tmps) = true) (v : Value) (hrun : (execOp a.eval o).run P w = .ok (.value v) w) (h : wpList P ops Q rest (a.put o.dst v) w) : wpList P ops Q (o :: rest) a w := by
  unfold wpList
  rw [if_pos hw]
  refine .inl ?_
  unfold Oper.wp
  rw [hrun]
  exact h
theorem run_load_row (ty : TypeId) (x : Operand) (ho : o.op = .load ty x) (g : Nat) (hx : a.eval x = .pointer (some ⟨g, 0, none⟩)) (t : TypeId) (cs : Array Value) (fr : Nat × Nat) (d : TypeDesc) (hg : w.heap[g]? = some (.cells cs t fr))
    (hu : P.underlying ty = some d) (hd : (match d with | .struct _ | .array _ _ => true | _ => false) = true) (hi : (P.info? ty).map (·.size) = some cs.size) : (execOp a.eval o).run P w = .ok (.value (.agg cs)) w := by
  unfold execOp
  simp only [ho, hx, Instr.loadAt, Instr.sureAddr, Sem.run_bind, Sem.run_pure, Result.andThen_ok, run_loadVar_row w g t ty cs fr d hg hu hd hi]
theorem stop_load_g {g : Nat × Bool} (_ : o.guard = some g) (t : TypeId) (x : Operand) (_ : o.op = .load t x) (h : Hid (wpList P ops Q (o :: rest) a w)) : wpList P ops Q (o :: rest) a w := h.out
end
theorem run_neq_ask {o : Oper} {a : Act} {w : World} {n m : Nd} (x y : Operand) (t' : TypeId) (ho : o.op = .binOp .neq 101 x y t') (hx : a.eval x = .agg (askA n)) (hy : a.eval y = .agg (askA m)) (on : NdOk n) (om : NdOk m) :
    (execOp a.eval o).run Try.prog w = .ok (.value (.bool (!decide (n = m)))) w := by
  obtain ⟨ln, hln⟩ := keyA on
  obtain ⟨lm, hlm⟩ := keyA om
  obtain ⟨r, hr, hiff⟩ := run_equal_deep (P := Try.prog) w (m := 4) (by omega) (k := 101) (by kernel_rfl) (by rw [Try.underlying101]) hln hlm
  have hrr : r = decide (n = m) := by
    by_cases h : n = m
    · subst h
      rw [hln] at hlm
      rw [decide_eq_true rfl]
      exact hiff.2 (Option.some.inj hlm)
    · rw [decide_eq_false h]
      cases r with
      | false => rfl
      | true =>
        exfalso
        have := hiff.1 rfl
        subst this
        exact h (agg_inj (keyedA.inj hln hlm) on.l8 on.n8)
  unfold execOp
  simp only [ho, hx, hy]
  simp [eqGuard, binOp, hr, hrr, Sem.run_bind, Result.andThen]

def zeroA : Array Value := #[.int .i64 0, .int .i64 0, .int .i64 0, .int .i64 0, .bool false, .int .i64 0, .bool false, .int .i64 0, .int .i64 0, .int .i64 0, .int .i64 0, .int .i64 0, .int .i64 0, .int .i64 0, .int .i64 0, .int .i64 0, .int .i64 0, .int .i64 0, .int .i64 0, .int .i64 0, .int .i64 0, .int .i64 0, .int .i64 0, .int .i64 0, .int .i64 0, .int .i64 0, .int .i64 0, .int .i64 0, .int .i64 0, .int .i64 0, .int .i64 0, .int .i64 0, .int .i64 0, .int .i64 0, .int .i64 0]
theorem zero_one : zeroA.all (·.oneCell') = true := by kernel_rfl
theorem builtZ : Try.prog.built 101 [] = some zeroA := by kernel_rfl
set_option maxRecDepth 100000 in
set_option maxHeartbeats 4000000 in
theorem asksBigW {F : Nat → Prop} {cs : List Value} {lv nv : Value} (n : Nd) (w : World) (h : ENd F w cs n lv nv) (h1 : 8 < n.links.length ∨ 8 < n.new.length) :
    Calls Try.prog 57 #[.agg #[.int .i64 n.kind, .int .i64 n.parent, .int .i64 n.alpha, lv, nv, .int .i64 n.test.op, .bool n.test.l.v, .int .i64 n.test.l.n, .bool n.test.r.v, .int .i64 n.test.r.n, .int .i64 n.width]] w fun e w' => e = .returned (.tuple #[.agg zeroA, .bool false]) ∧ Below w.heap.size w w' := by
  obtain ⟨la, lc, rfl⟩ := h.links.form
  obtain ⟨na, nc, rfl⟩ := h.new.form
  clear h
  go_enter Try.func57, Try.ntmps57
  by_cases h2 : 8 < n.links.length
  · have e1 : (8 : Int) < (n.links.length : Int) := by omega
    clear h1 h2
    go_wp2_with (with_reducible refine stop_build rfl 101 _ rfl ?_)
    refine Lib.hid ?_
    with_reducible refine wpList_build_to rfl 101 _ rfl [] ?q1 _ builtZ ?q2
    case q1 => simp
    go_wp2_with (with_reducible refine stop_store rfl 101 (.tmp 2) (.tmp 15) rfl ?_)
    refine Lib.hid ?_
    refine wpList_store_new rfl 101 (.tmp 2) (.tmp 15) rfl (w.heap.size + 1) (by simp) _ zeroA _ rfl rfl sizeAsk rfl zero_one ?_
    have HB := Lib.hid (show Below w.heap.size w ((w.alloc (.cells #[.int .i64 n.kind, .int .i64 n.parent, .int .i64 n.alpha, .slice la n.links.length lc, .slice na n.new.length nc, .int .i64 n.test.op, .bool n.test.l.v, .int .i64 n.test.l.n, .bool n.test.r.v, .int .i64 n.test.r.n, .int .i64 n.width] 54)).alloc (.cells zeroA 101)) from ((Below.refl _ _).alloc (Nat.le_refl _) _).alloc (by simp) _)
    have HR := Lib.hid (show ((w.alloc (.cells #[.int .i64 n.kind, .int .i64 n.parent, .int .i64 n.alpha, .slice la n.links.length lc, .slice na n.new.length nc, .int .i64 n.test.op, .bool n.test.l.v, .int .i64 n.test.l.n, .bool n.test.r.v, .int .i64 n.test.r.n, .int .i64 n.width] 54)).alloc (.cells zeroA 101)).heap[w.heap.size + 1]? = some (.cells zeroA 101 (0, 0)) from by
      have := heap_alloc_new (w.alloc (.cells #[.int .i64 n.kind, .int .i64 n.parent, .int .i64 n.alpha, .slice la n.links.length lc, .slice na n.new.length nc, .int .i64 n.test.op, .bool n.test.l.v, .int .i64 n.test.l.n, .bool n.test.r.v, .int .i64 n.test.r.n, .int .i64 n.width] 54)) (.cells zeroA 101)
      rw [show (w.alloc (.cells #[.int .i64 n.kind, .int .i64 n.parent, .int .i64 n.alpha, .slice la n.links.length lc, .slice na n.new.length nc, .int .i64 n.test.op, .bool n.test.l.v, .int .i64 n.test.l.n, .bool n.test.r.v, .int .i64 n.test.r.n, .int .i64 n.width] 54)).heap.size = w.heap.size + 1 by simp] at this
      exact this)
    generalize ((w.alloc (.cells #[.int .i64 n.kind, .int .i64 n.parent, .int .i64 n.alpha, .slice la n.links.length lc, .slice na n.new.length nc, .int .i64 n.test.op, .bool n.test.l.v, .int .i64 n.test.l.n, .bool n.test.r.v, .int .i64 n.test.r.n, .int .i64 n.width] 54)).alloc (.cells zeroA 101)) = w6 at HB HR ⊢
    go_wp2
    exact bodyPost_ret (v := .tuple #[.agg zeroA, .bool false]) (results_row_slot rfl _ _ (w.heap.size + 1) 101 zeroA (0, 0) _ _ rfl rfl HR.out Try.underlying101 rfl sizeAsk) rfl ⟨rfl, HB.out⟩
  · have e1 : ¬ (8 : Int) < (n.links.length : Int) := by omega
    have e2 : (8 : Int) < (n.new.length : Int) := by omega
    clear h1 h2
    go_wp2_with (with_reducible refine stop_build rfl 101 _ rfl ?_)
    refine Lib.hid ?_
    with_reducible refine wpList_build_to rfl 101 _ rfl [] ?q3 _ builtZ ?q4
    case q3 => simp
    go_wp2_with (with_reducible refine stop_store rfl 101 (.tmp 2) (.tmp 15) rfl ?_)
    refine Lib.hid ?_
    refine wpList_store_new rfl 101 (.tmp 2) (.tmp 15) rfl (w.heap.size + 1) (by simp) _ zeroA _ rfl rfl sizeAsk rfl zero_one ?_
    have HB := Lib.hid (show Below w.heap.size w ((w.alloc (.cells #[.int .i64 n.kind, .int .i64 n.parent, .int .i64 n.alpha, .slice la n.links.length lc, .slice na n.new.length nc, .int .i64 n.test.op, .bool n.test.l.v, .int .i64 n.test.l.n, .bool n.test.r.v, .int .i64 n.test.r.n, .int .i64 n.width] 54)).alloc (.cells zeroA 101)) from ((Below.refl _ _).alloc (Nat.le_refl _) _).alloc (by simp) _)
    have HR := Lib.hid (show ((w.alloc (.cells #[.int .i64 n.kind, .int .i64 n.parent, .int .i64 n.alpha, .slice la n.links.length lc, .slice na n.new.length nc, .int .i64 n.test.op, .bool n.test.l.v, .int .i64 n.test.l.n, .bool n.test.r.v, .int .i64 n.test.r.n, .int .i64 n.width] 54)).alloc (.cells zeroA 101)).heap[w.heap.size + 1]? = some (.cells zeroA 101 (0, 0)) from by
      have := heap_alloc_new (w.alloc (.cells #[.int .i64 n.kind, .int .i64 n.parent, .int .i64 n.alpha, .slice la n.links.length lc, .slice na n.new.length nc, .int .i64 n.test.op, .bool n.test.l.v, .int .i64 n.test.l.n, .bool n.test.r.v, .int .i64 n.test.r.n, .int .i64 n.width] 54)) (.cells zeroA 101)
      rw [show (w.alloc (.cells #[.int .i64 n.kind, .int .i64 n.parent, .int .i64 n.alpha, .slice la n.links.length lc, .slice na n.new.length nc, .int .i64 n.test.op, .bool n.test.l.v, .int .i64 n.test.l.n, .bool n.test.r.v, .int .i64 n.test.r.n, .int .i64 n.width] 54)).heap.size = w.heap.size + 1 by simp] at this
      exact this)
    generalize ((w.alloc (.cells #[.int .i64 n.kind, .int .i64 n.parent, .int .i64 n.alpha, .slice la n.links.length lc, .slice na n.new.length nc, .int .i64 n.test.op, .bool n.test.l.v, .int .i64 n.test.l.n, .bool n.test.r.v, .int .i64 n.test.r.n, .int .i64 n.width] 54)).alloc (.cells zeroA 101)) = w6 at HB HR ⊢
    go_wp2
    exact bodyPost_ret (v := .tuple #[.agg zeroA, .bool false]) (results_row_slot rfl _ _ (w.heap.size + 1) 101 zeroA (0, 0) _ _ rfl rfl HR.out Try.underlying101 rfl sizeAsk) rfl ⟨rfl, HB.out⟩
end Go.Proofs.Ytonkbjdeaneicaa
