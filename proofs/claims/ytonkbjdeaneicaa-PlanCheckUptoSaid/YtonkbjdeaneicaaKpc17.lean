/- asksOf at a node of long lists; `!=` at two such keys. node: the walk. -/
import Derived.Test.YtonkbjdeaneicaaKpc11
import Derived.Test.YtonkbjdeaneicaaKpc16
namespace Go.Proofs.Ytonkbjdeaneicaa
open Go.RowKit Pln Classical Go.Maps

section
variable {P : Program} {ops : Array Oper} {rest : List Oper} {o : Oper} {a : Act} {w : World} {Q : Exit → Act → World → Prop}
theorem wpList_val (hw : Region.wanted o (yielded ops a.tmps) = true) (v : Value) (hrun : (execOp a.eval o).run P w = .ok (.value v) w) (h : wpList P ops Q rest (a.put o.dst v) w) : wpList P ops Q (o :: rest) a w := by
  unfold wpList
  rw [if_pos hw]
  refine .inl ?_
  unfold Oper.wp
  rw [hrun]
  exact h
theorem run_load_row (ty : TypeId) (x : Operand) (ho : o.op = .load ty x) (g : Nat) (hx : a.eval x = .pointer (some ⟨g, 0, none⟩)) (t : TypeId) (cs : Array Value) (fr : Nat × Nat) (d : TypeDesc) (hg : w.heap[g]? = some (.cells cs t fr))
    (hu : P.underlying ty = some d) (hd : (match d with | .struct _ | .array _ _ => true | _ => false) = true) (hi : (P.info? ty).map (·.size) = some cs.size) : (execOp a.eval o).run P w = .ok (.value (.agg cs)) w := by
  unfold execOp
  simp only [ho, hx, Instr.loadAt, Instr.sureAddr, Sem.run_bind, Sem.run_pure, Result.andThen_ok, run_loadVar_row w g t ty cs fr d hg hu hd hi]
theorem stop_load_g {g : Nat × Bool} (_ : o.guard = some g) (t : TypeId) (x : Operand) (_ : o.op = .load t x) (h : Hid (wpList P ops Q (o :: rest) a w)) : wpList P ops Q (o :: rest) a w := h.out
end
theorem run_neq_ask {o : Oper} {a : Act} {w : World} {n m : Nd} (x y : Operand) (t' : TypeId) (ho : o.op = .binOp .neq 101 x y t') (hx : a.eval x = .agg (askA n)) (hy : a.eval y = .agg (askA m)) (on : NdOk n) (om : NdOk m) :
    (execOp a.eval o).run Try.prog w = .ok (.value (.bool (!decide (n = m)))) w := by
  obtain ⟨ln, hln⟩ := keyA on
  obtain ⟨lm, hlm⟩ := keyA om
  obtain ⟨r, hr, hiff⟩ := run_equal_deep (P := Try.prog) w (m := 4) (by omega) (k := 101) (by kernel_rfl) (by rw [Try.underlying101]) hln hlm
  have hrr : r = decide (n = m) := by
    by_cases h : n = m
    · subst h
      rw [hln] at hlm
      rw [decide_eq_true rfl]
      exact hiff.2 (Option.some.inj hlm)
    · rw [decide_eq_false h]
      cases r with
      | false => rfl
      | true =>
        exfalso
        have := hiff.1 rfl
        subst this
        exact h (agg_inj (keyedA.inj hln hlm) on.l8 on.n8)
  unfold execOp
  simp only [ho, hx, hy]
  simp [eqGuard, binOp, hr, hrr, Sem.run_bind, Result.andThen]

def zeroA : Array Value := #[.int .i64 0, .int .i64 0, .int .i64 0, .int .i64 0, .bool false, .int .i64 0, .bool false, .int .i64 0, .int .i64 0, .int .i64 0, .int .i64 0, .int .i64 0, .int .i64 0, .int .i64 0, .int .i64 0, .int .i64 0, .int .i64 0, .int .i64 0, .int .i64 0, .int .i64 0, .int .i64 0, .int .i64 0, .int .i64 0, .int .i64 0, .int .i64 0, .int .i64 0, .int .i64 0, .int .i64 0, .int .i64 0, .int .i64 0, .int .i64 0, .int .i64 0, .int .i64 0, .int .i64 0, .int .i64 0]
theorem zero_one : zeroA.all (·.oneCell') = true := by kernel_rfl
theorem builtZ : Try.prog.built 101 [] = some zeroA := by kernel_rfl
set_option maxRecDepth 100000 in
set_option maxHeartbeats 4000000 in
theorem asksBigW {F : Nat → Prop} {cs : List Value} {lv nv : Value} (n : Nd) (w : World) (h : ENd F w cs n lv nv) (h1 : 8 < n.links.length ∨ 8 < n.new.length) :
    Calls Try.prog 57 #[.agg #[.int .i64 n.kind, .int .i64 n.parent, .int .i64 n.alpha, lv, nv, .int .i64 n.test.op, .bool n.test.l.v, .int .i64 n.test.l.n, .bool n.test.r.v, .int .i64 n.test.r.n, .int .i64 n.width]] w fun e w' => e = .returned (.tuple #[.agg zeroA, .bool false]) ∧ Below w.heap.size w w' := by
  obtain ⟨la, lc, rfl⟩ := h.links.form
  obtain ⟨na, nc, rfl⟩ := h.new.form
  clear h
  go_enter Try.func57, Try.ntmps57
  by_cases h2 : 8 < n.links.length
  · have e1 : (8 : Int) < (n.links.length : Int) := by omega
    clear h1 h2
    go_wp2_with (with_reducible refine stop_build rfl 101 _ rfl ?_)
    refine Lib.hid ?_
    with_reducible refine wpList_build_to rfl 101 _ rfl [] ?q1 _ builtZ ?q2
    case q1 => simp
    go_wp2_with (with_reducible refine stop_store rfl 101 (.tmp 2) (.tmp 15) rfl ?_)
    refine Lib.hid ?_
    refine wpList_store_new rfl 101 (.tmp 2) (.tmp 15) rfl (w.heap.size + 1) (by simp) _ zeroA _ rfl rfl sizeAsk rfl zero_one ?_
    have HB := Lib.hid (show Below w.heap.size w ((w.alloc (.cells #[.int .i64 n.kind, .int .i64 n.parent, .int .i64 n.alpha, .slice la n.links.length lc, .slice na n.new.length nc, .int .i64 n.test.op, .bool n.test.l.v, .int .i64 n.test.l.n, .bool n.test.r.v, .int .i64 n.test.r.n, .int .i64 n.width] 54)).alloc (.cells zeroA 101)) from ((Below.refl _ _).alloc (Nat.le_refl _) _).alloc (by simp) _)
    have HR := Lib.hid (show ((w.alloc (.cells #[.int .i64 n.kind, .int .i64 n.parent, .int .i64 n.alpha, .slice la n.links.length lc, .slice na n.new.length nc, .int .i64 n.test.op, .bool n.test.l.v, .int .i64 n.test.l.n, .bool n.test.r.v, .int .i64 n.test.r.n, .int .i64 n.width] 54)).alloc (.cells zeroA 101)).heap[w.heap.size + 1]? = some (.cells zeroA 101 (0, 0)) from by
      have := heap_alloc_new (w.alloc (.cells #[.int .i64 n.kind, .int .i64 n.parent, .int .i64 n.alpha, .slice la n.links.length lc, .slice na n.new.length nc, .int .i64 n.test.op, .bool n.test.l.v, .int .i64 n.test.l.n, .bool n.test.r.v, .int .i64 n.test.r.n, .int .i64 n.width] 54)) (.cells zeroA 101)
      rw [show (w.alloc (.cells #[.int .i64 n.kind, .int .i64 n.parent, .int .i64 n.alpha, .slice la n.links.length lc, .slice na n.new.length nc, .int .i64 n.test.op, .bool n.test.l.v, .int .i64 n.test.l.n, .bool n.test.r.v, .int .i64 n.test.r.n, .int .i64 n.width] 54)).heap.size = w.heap.size + 1 by simp] at this
      exact this)
    generalize ((w.alloc (.cells #[.int .i64 n.kind, .int .i64 n.parent, .int .i64 n.alpha, .slice la n.links.length lc, .slice na n.new.length nc, .int .i64 n.test.op, .bool n.test.l.v, .int .i64 n.test.l.n, .bool n.test.r.v, .int .i64 n.test.r.n, .int .i64 n.width] 54)).alloc (.cells zeroA 101)) = w6 at HB HR ⊢
    go_wp2
    exact bodyPost_ret (v := .tuple #[.agg zeroA, .bool false]) (results_row_slot rfl _ _ (w.heap.size + 1) 101 zeroA (0, 0) _ _ rfl rfl HR.out Try.underlying101 rfl sizeAsk) rfl ⟨rfl, HB.out⟩
  · have e1 : ¬ (8 : Int) < (n.links.length : Int) := by omega
    have e2 : (8 : Int) < (n.new.length : Int) := by omega
    clear h1 h2
    go_wp2_with (with_reducible refine stop_build rfl 101 _ rfl ?_)
    refine Lib.hid ?_
    with_reducible refine wpList_build_to rfl 101 _ rfl [] ?q3 _ builtZ ?q4
    case q3 => simp
    go_wp2_with (with_reducible refine stop_store rfl 101 (.tmp 2) (.tmp 15) rfl ?_)
    refine Lib.hid ?_
    refine wpList_store_new rfl 101 (.tmp 2) (.tmp 15) rfl (w.heap.size + 1) (by simp) _ zeroA _ rfl rfl sizeAsk rfl zero_one ?_
    have HB := Lib.hid (show Below w.heap.size w ((w.alloc (.cells #[.int .i64 n.kind, .int .i64 n.parent, .int .i64 n.alpha, .slice la n.links.length lc, .slice na n.new.length nc, .int .i64 n.test.op, .bool n.test.l.v, .int .i64 n.test.l.n, .bool n.test.r.v, .int .i64 n.test.r.n, .int .i64 n.width] 54)).alloc (.cells zeroA 101)) from ((Below.refl _ _).alloc (Nat.le_refl _) _).alloc (by simp) _)
    have HR := Lib.hid (show ((w.alloc (.cells #[.int .i64 n.kind, .int .i64 n.parent, .int .i64 n.alpha, .slice la n.links.length lc, .slice na n.new.length nc, .int .i64 n.test.op, .bool n.test.l.v, .int .i64 n.test.l.n, .bool n.test.r.v, .int .i64 n.test.r.n, .int .i64 n.width] 54)).alloc (.cells zeroA 101)).heap[w.heap.size + 1]? = some (.cells zeroA 101 (0, 0)) from by
      have := heap_alloc_new (w.alloc (.cells #[.int .i64 n.kind, .int .i64 n.parent, .int .i64 n.alpha, .slice la n.links.length lc, .slice na n.new.length nc, .int .i64 n.test.op, .bool n.test.l.v, .int .i64 n.test.l.n, .bool n.test.r.v, .int .i64 n.test.r.n, .int .i64 n.width] 54)) (.cells zeroA 101)
      rw [show (w.alloc (.cells #[.int .i64 n.kind, .int .i64 n.parent, .int .i64 n.alpha, .slice la n.links.length lc, .slice na n.new.length nc, .int .i64 n.test.op, .bool n.test.l.v, .int .i64 n.test.l.n, .bool n.test.r.v, .int .i64 n.test.r.n, .int .i64 n.width] 54)).heap.size = w.heap.size + 1 by simp] at this
      exact this)
    generalize ((w.alloc (.cells #[.int .i64 n.kind, .int .i64 n.parent, .int .i64 n.alpha, .slice la n.links.length lc, .slice na n.new.length nc, .int .i64 n.test.op, .bool n.test.l.v, .int .i64 n.test.l.n, .bool n.test.r.v, .int .i64 n.test.r.n, .int .i64 n.width] 54)).alloc (.cells zeroA 101)) = w6 at HB HR ⊢
    go_wp2
    exact bodyPost_ret (v := .tuple #[.agg zeroA, .bool false]) (results_row_slot rfl _ _ (w.heap.size + 1) 101 zeroA (0, 0) _ _ rfl rfl HR.out Try.underlying101 rfl sizeAsk) rfl ⟨rfl, HB.out⟩
end Go.Proofs.Ytonkbjdeaneicaa

namespace Go.Proofs.Ytonkbjdeaneicaa
open Go.RowKit Pln Classical Go.Maps

theorem infoNd : (Try.prog.info? 54).map (fun i => (i.zero, i.size, i.bytes)) = some (some (.agg #[.int .i64 0, .int .i64 0, .int .i64 0, .slice none 0 0, .slice none 0 0, .int .i64 0, .bool false, .int .i64 0, .bool false, .int .i64 0, .int .i64 0]), 11, 120) := by kernel_rfl
theorem St.eta (st : St) : (⟨st.al, st.ns⟩ : St) = st := rfl
theorem mfoot_g {g mb : Nat} {av nv ev : Value} : g ∈ mfoot g mb av nv ev := by simp [mfoot]

theorem MkAt.foot_lt {base g mb : Nat} {W : World} {av nv ev : Value} {st : St} {es : List Nat} (h : MkAt base g mb W av nv ev st es) : ∀ x ∈ mfoot g mb av nv ev, base ≤ x ∧ x < W.heap.size := by
  intro x hx
  simp only [mfoot, List.mem_cons, List.mem_append, Option.mem_toList] at hx
  rcases hx with rfl | rfl | hx | hx | hx
  · exact ⟨h.gb, h.lt⟩
  · exact ⟨h.mbb, h.map.lt⟩
  · exact ⟨(h.al.block hx).1, (h.al.block hx).2.1⟩
  · exact ⟨(h.ns.block hx).1, (h.ns.block hx).2.1⟩
  · exact ⟨(h.en.block hx).1, (h.en.block hx).2.1⟩

set_option maxRecDepth 200000 in
set_option maxHeartbeats 4000000 in
theorem node_hit {base g mb : Nat} {W : World} {S : List Nat} {st : St} {es : List Nat} (h : Mkr base g mb W S st es) {cs : List Value} {lv nv : Value} (n : Nd) (hn : ENd (Off base S) W cs n lv nv) (ok : NdOk n) (hk : n.kind ≠ 0) (hm : n ∈ st.ns) :
    Calls Try.prog 32 #[.pointer (some ⟨g, 0, none⟩), .agg #[.int .i64 n.kind, .int .i64 n.parent, .int .i64 n.alpha, lv, nv, .int .i64 n.test.op, .bool n.test.l.v, .int .i64 n.test.l.n, .bool n.test.r.v, .int .i64 n.test.r.n, .int .i64 n.width]] W fun e W' => e = .returned (.int .i64 (placeF st.ns n)) ∧ Below W.heap.size W W' := by
  obtain ⟨av, nv0, ev, rfl, hM⟩ := h
  obtain ⟨l, hl⟩ := keyA ok
  have CA := Lib.hid (fun W' (hb : Below W.heap.size W W') => asksW n W' (hn.kp (F' := Off base (mfoot g mb av nv0 ev)) (Kp.of_below hb) (fun _ _ h => h)) ok.l8 ok.n8)
  obtain ⟨la, lc, rfl⟩ := hn.links.form
  obtain ⟨na, nc, rfl⟩ := hn.new.form
  have HM := Lib.hid hM
  have KL := Lib.hid hl
  have AF := Lib.hid (atF_hit hm hk ok.l8 ok.n8)
  clear hn hl hM
  obtain ⟨pl, hpl⟩ : ∃ pl, placeF st.ns n = pl := ⟨_, rfl⟩
  rw [hpl] at AF ⊢
  clear hpl hm
  go_enter Try.func32, Try.ntmps32
  go_wp2_with (first
    | (go_at_call 57; refine (CA.out _ ?_).mono ?_; exact (Below.refl _ _).alloc (Nat.le_refl _) _; rintro e w2 ⟨rfl, hb2⟩; have HB2 := Lib.hid (((Below.refl W.heap.size W).alloc (Nat.le_refl _) _).trans (hb2.mono (by simp))); clear hb2)
    | (with_reducible refine stop_store rfl 101 (.tmp 5) (.tmp 12) rfl ?_))
  refine Lib.hid ?_
  refine wpList_store_new rfl 101 (.tmp 5) (.tmp 12) rfl w2.heap.size rfl _ _ _ rfl rfl sizeAsk rfl (askA_one n) ?_
  go_wp2_with fail
  refine wp_region_still_lit (by kernel_rfl) (by kernel_rfl) ?_
  have hB3 := HB2.out.trans ((((Below.refl w2.heap.size w2).alloc (Nat.le_refl _) (.cells (askA n) 101)).drew).mono HB2.out.size)
  have hrow : (w2.alloc (.cells (askA n) 101)).drew.heap[w2.heap.size]? = some (.cells (askA n) 101 (0, 0)) := heap_alloc_new w2 _
  change wpStill _ _ (w2.alloc (.cells (askA n) 101)).drew (fun a' => Exit.then _ _ _ a' (w2.alloc (.cells (askA n) 101)).drew) _ _
  generalize (w2.alloc (.cells (askA n) 101)).drew = wd at hB3 hrow ⊢
  have HMd := HM.out.step hB3
  have hrun := HMd.map.hit (t := 74) keyedA Try.underlying74 Try.underlying3 (zeroI _) KL.out AF.out
  have x3 := HMd.cell 3 rfl
  have hR := Lib.hid hrow
  have HB3 := Lib.hid hB3
  clear HMd hB3 hrow
  still_step
  still_step
  still_step
  still_step
  refine wpStill_load_row rfl 101 (.tmp 5) rfl w2.heap.size (by simp [Act.eval]) 101 (askA n) (0, 0) _ hR.out Try.underlying101 rfl sizeAsk ?_
  repeat still_step
  refine wpStill_nil ?_
  go_wp2
  go_ret
  exact ⟨rfl, HB3.out⟩

set_option maxRecDepth 200000 in
set_option maxHeartbeats 4000000 in
theorem node_miss {base g mb : Nat} {W : World} {S : List Nat} {st : St} {es : List Nat} (h : Mkr base g mb W S st es) {cs : List Value} {lv nv : Value} (n : Nd) (hn : ENd (Off base S) W cs n lv nv) (ok : NdOk n) (hk : n.kind ≠ 0) (hm : n ∉ st.ns) (hlen : st.ns.length ≤ 30000000) :
    Calls Try.prog 32 #[.pointer (some ⟨g, 0, none⟩), .agg #[.int .i64 n.kind, .int .i64 n.parent, .int .i64 n.alpha, lv, nv, .int .i64 n.test.op, .bool n.test.l.v, .int .i64 n.test.l.n, .bool n.test.r.v, .int .i64 n.test.r.n, .int .i64 n.width]] W fun e W' => e = .returned (.int .i64 st.ns.length) ∧ MkrTo base g mb W S ⟨st.al, st.ns ++ [n]⟩ es W' := by
  obtain ⟨av, nv0, ev, rfl, hM⟩ := h
  obtain ⟨l, hl⟩ := keyA ok
  have hcs := hn.cells
  subst hcs
  have CA := Lib.hid (fun W' (hb : Below W.heap.size W W') => asksW n W' (hn.kp (F' := Off base (mfoot g mb av nv0 ev)) (Kp.of_below hb) (fun _ _ h => h)) ok.l8 ok.n8)
  obtain ⟨la, lc, rfl⟩ := hn.links.form
  obtain ⟨na, nc, rfl⟩ := hn.new.form
  have HM := Lib.hid hM
  have KL := Lib.hid hl
  have AF := Lib.hid (atF_miss hm ok.l8 ok.n8)
  have HNO := Lib.hid hm
  have HEN := Lib.hid hn
  have OK := Lib.hid ok
  have HK := Lib.hid hk
  clear hn hl hM hm ok hk
  obtain ⟨A0, C0, rfl⟩ := HM.out.ns.form
  go_enter Try.func32, Try.ntmps32
  go_wp2_with (first
    | (go_at_call 57; refine (CA.out _ ?_).mono ?_; exact (Below.refl _ _).alloc (Nat.le_refl _) _; rintro e w2 ⟨rfl, hb2⟩; have HBX := Lib.hid (hb2.mono (show W.heap.size + 1 ≤ _ by simp)); have HB2 := Lib.hid (((Below.refl W.heap.size W).alloc (Nat.le_refl _) _).trans (hb2.mono (by simp))); clear hb2)
    | (with_reducible refine stop_store rfl 101 (.tmp 5) (.tmp 12) rfl ?_))
  refine Lib.hid ?_
  refine wpList_store_new rfl 101 (.tmp 5) (.tmp 12) rfl w2.heap.size rfl _ _ _ rfl rfl sizeAsk rfl (askA_one n) ?_
  go_wp2_with fail
  refine wp_region_still_lit (by kernel_rfl) (by kernel_rfl) ?_
  have hB3 := HB2.out.trans ((((Below.refl w2.heap.size w2).alloc (Nat.le_refl _) (.cells (askA n) 101)).drew).mono HB2.out.size)
  have hrow : (w2.alloc (.cells (askA n) 101)).drew.heap[w2.heap.size]? = some (.cells (askA n) 101 (0, 0)) := heap_alloc_new w2 _
  have hB4 : Below w2.heap.size w2 (w2.alloc (.cells (askA n) 101)).drew := ((Below.refl w2.heap.size w2).alloc (Nat.le_refl _) _).drew
  change wpStill _ _ (w2.alloc (.cells (askA n) 101)).drew (fun a' => Exit.then _ _ _ a' (w2.alloc (.cells (askA n) 101)).drew) _ _
  generalize (w2.alloc (.cells (askA n) 101)).drew = wd at hB3 hB4 hrow ⊢
  have HMd := HM.out.step hB3
  have hrun := HMd.map.miss (t := 74) keyedA Try.underlying74 Try.underlying3 (zeroI _) KL.out AF.out
  have x3 := HMd.cell 3 rfl
  have x1 := HMd.cell 1 rfl
  have BX := HBX.out.trans (hB4.mono (by have := HBX.out.size; simpa using this))
  have y0 := box_cell BX 0 _ rfl
  have y1 := box_cell BX 1 _ rfl
  have y2 := box_cell BX 2 _ rfl
  have y3 := box_cell BX 3 _ rfl
  have y4 := box_cell BX 4 _ rfl
  have y5 := box_cell BX 5 _ rfl
  have y6 := box_cell BX 6 _ rfl
  have y7 := box_cell BX 7 _ rfl
  have y8 := box_cell BX 8 _ rfl
  have y9 := box_cell BX 9 _ rfl
  have y10 := box_cell BX 10 _ rfl
  have hWs : W.heap.size < wd.heap.size := by have := BX.size; simp at this; omega
  have hw2l : w2.heap.size < wd.heap.size := lt_of_heap hrow
  have hR := Lib.hid hrow
  have HB3 := Lib.hid hB3
  have HMD := Lib.hid HMd
  have hgl := HMd.lt
  have HE := Lib.hid (HEN.out.kp (F' := Off base (mfoot g mb av (.slice A0 st.ns.length C0) ev)) (Kp.of_below hB3) (fun _ _ h => h))
  have hbs := (HM.out.foot_lt g mfoot_g).1
  have HFL := Lib.hid HM.out.foot_lt
  have hbase : base ≤ wd.heap.size := by omega
  clear HMd hB3 hrow hB4 BX
  still_step
  still_step
  still_step
  still_step
  refine wpStill_load_row rfl 101 (.tmp 5) rfl w2.heap.size (by simp [Act.eval]) 101 (askA n) (0, 0) _ hR.out Try.underlying101 rfl sizeAsk ?_
  repeat still_step
  refine wpStill_nil ?_
  clear hrun
  go_wp2_with fail
  go_region_law (refine step_append_F HMD.out.ns (fun b hb hf => hf.2 (by simp [mfoot, hb])) (by rfl) (.tmp 30) (.tmp 32) 24 (by rfl) Try.underlying24 infoNd rfl (by decide) (by rfl) #[.int .i64 n.kind, .int .i64 n.parent, .int .i64 n.alpha, .slice la n.links.length lc, .slice na n.new.length nc, .int .i64 n.test.op, .bool n.test.l.v, .int .i64 n.test.l.n, .bool n.test.r.v, .int .i64 n.test.r.n, .int .i64 n.width] _ (by rfl) rfl (x := n) ⟨_, _, HE.out⟩ (by omega) (by decide) hbase ?_; intro g' cap w3 ho ht hat hlt3; have hgn := (HMD.out.apart).2.2.1; have e3 := (ht.block g HMD.out.lt (fun hm => (hgn g (by simpa using hm)).1 rfl)).trans HMD.out.blk; have z1 := (cell_of_row _ _ 1 _ _ _ e3).trans (show _ = some (Value.slice A0 st.ns.length C0) from rfl); have z2 : ∀ o, w3.frozen? ⟨g, o, none⟩ = false := (fun o => by simp [World.frozen?, e3]); have z3 := lt_of_heap e3; have GR := Lib.hid (HMD.out.grown ho ht hat); have HAT := Lib.hid hat; clear ho ht hat hlt3 hgn e3)
  all_goals
    have GB := GR.out.blk
    have GT := GR.out.tn
    have GM := GR.out.map
    have hr4 := (GT.block w2.heap.size hw2l (fun hm => by have h1 := (HFL.out _ hm).2; have h2 := HB2.out.size; omega)).trans hR.out
    have hrd : (w3.setCell ⟨g, 1, none⟩ (.slice (some ⟨g', 0, none⟩) (st.ns.length + 1) cap)).drew.heap[w2.heap.size]? = some (.cells (askA n) 101 (0, 0)) := hr4
    have gbd : (w3.setCell ⟨g, 1, none⟩ (.slice (some ⟨g', 0, none⟩) (st.ns.length + 1) cap)).drew.heap[g]? = some (.cells #[av, .slice (some ⟨g', 0, none⟩) (st.ns.length + 1) cap, ev, .map (some mb)] 76 (0, 0)) := GB
    have gmd : MapG Try.prog 101 3 (w3.setCell ⟨g, 1, none⟩ (.slice (some ⟨g', 0, none⟩) (st.ns.length + 1) cap)).drew mb st.ns.length (atF st.ns) := GM.of_block rfl
    have bd : Below (w3.setCell ⟨g, 1, none⟩ (.slice (some ⟨g', 0, none⟩) (st.ns.length + 1) cap)).heap.size (w3.setCell ⟨g, 1, none⟩ (.slice (some ⟨g', 0, none⟩) (st.ns.length + 1) cap)) (w3.setCell ⟨g, 1, none⟩ (.slice (some ⟨g', 0, none⟩) (st.ns.length + 1) cap)).drew := (Below.refl _ _).drew
    have HRD := Lib.hid hrd
    have BD := Lib.hid bd
    have GBD := Lib.hid gbd
    have GMD := Lib.hid gmd
    clear GB GT GM hr4 hrd gbd gmd bd z1 z2 z3 x1 x3 y0 y1 y2 y3 y4 y5 y6 y7 y8 y9 y10
    go_wp2_with fail
    refine wp_region_still_tail 12 (by kernel_rfl) (by kernel_rfl) ?_
    change wpStill _ _ (w3.setCell ⟨g, 1, none⟩ (.slice (some ⟨g', 0, none⟩) (st.ns.length + 1) cap)).drew (fun a' => wpList _ _ _ _ a' (w3.setCell ⟨g, 1, none⟩ (.slice (some ⟨g', 0, none⟩) (st.ns.length + 1) cap)).drew) _ _
    generalize (w3.setCell ⟨g, 1, none⟩ (.slice (some ⟨g', 0, none⟩) (st.ns.length + 1) cap)).drew = w4 at HRD BD GBD GMD ⊢
    have x1 : w4.cell? ⟨g, 1, none⟩ = some (.slice (some ⟨g', 0, none⟩) (st.ns.length + 1) cap) := cell_of_row _ _ 1 _ _ _ GBD.out
    have x3 : w4.cell? ⟨g, 3, none⟩ = some (.map (some mb)) := cell_of_row _ _ 3 _ _ _ GBD.out
    obtain ⟨w5, hput, hm5, hg5⟩ := GMD.out.store (t := 74) keyedA Try.underlying74 Try.underlying3 (by unfold maxLen; omega) KL.out (z := (st.ns.length : Int)) (WalkArith.wf_i64 (by omega))
    have D := GR.out.done HNO.out HK.out OK.out hbs HM.out.mbb HM.out.lens BD.out hm5 hg5
    have DM := Lib.hid D.1
    have DT := Lib.hid D.2
    clear hm5 hg5 D
    have hl1 : IntKind.i64.wrap (st.ns.length : Int) = (st.ns.length : Int) := IntWalk.i64_in _ (by omega)
    simp only [List.take_succ_cons, List.take_zero, List.drop_succ_cons, List.drop_zero]
    still_step
    still_step
    still_step
    still_step
    refine wpStill_load_row rfl 101 (.tmp 5) rfl w2.heap.size (by simp [Act.eval]) 101 (askA n) (0, 0) _ HRD.out Try.underlying101 rfl sizeAsk ?_
    repeat still_step
    refine wpStill_nil ?_
    have x5 : w5.cell? ⟨g, 1, none⟩ = some (.slice (some ⟨g', 0, none⟩) (st.ns.length + 1) cap) := DM.out.cell 1 rfl
    clear x1 x3
    go_wp2
    go_ret
    refine ⟨by first | rfl | simp [hl1], _, ⟨_, _, _, rfl, DM.out⟩, ?_, ?_⟩
    · exact (Turns.of_below (S := mfoot g mb av (.slice A0 st.ns.length C0) ev) HB3.out).trans DT.out (fun x hx => .inl hx)
    · intro b hb
      simp only [mfoot, List.mem_cons, List.mem_append, Option.mem_toList] at hb ⊢
      rcases hb with hb | hb | hb | hb | hb
      · exact .inl (.inl hb)
      · exact .inl (.inr (.inl hb))
      · exact .inl (.inr (.inr (.inl hb)))
      · have e : g' = b := by simpa [Value.ownBlock] using hb
        rcases HAT.out with h1 | h1
        · exact .inl (.inr (.inr (.inr (.inl (by rw [← e]; exact h1)))))
        · exact .inr (by omega)
      · exact .inl (.inr (.inr (.inr (.inr hb))))

/-- node, whatever the node. -/
theorem nodeW {base g mb : Nat} {W : World} {S : List Nat} {st : St} {es : List Nat} (h : Mkr base g mb W S st es) {cs : List Value} {lv nv : Value} (n : Nd) (hn : ENd (Off base S) W cs n lv nv) (ok : NdOk n) (hk : n.kind ≠ 0) (hlen : st.ns.length ≤ 30000000) :
    Calls Try.prog 32 #[.pointer (some ⟨g, 0, none⟩), .agg #[.int .i64 n.kind, .int .i64 n.parent, .int .i64 n.alpha, lv, nv, .int .i64 n.test.op, .bool n.test.l.v, .int .i64 n.test.l.n, .bool n.test.r.v, .int .i64 n.test.r.n, .int .i64 n.width]] W fun e W' => e = .returned (.int .i64 (placeF st.ns n)) ∧ MkrTo base g mb W S ⟨st.al, addF st.ns n⟩ es W' := by
  by_cases hm : n ∈ st.ns
  · refine (node_hit h n hn ok hk hm).mono ?_
    rintro e w' ⟨rfl, hb⟩
    refine ⟨rfl, S, ?_, Turns.of_below hb, fun b hb => .inl hb⟩
    obtain ⟨av, nv0, ev, rfl, hM⟩ := h
    have e1 : addF st.ns n = st.ns := by unfold addF; rw [if_pos hm]
    rw [e1]
    exact ⟨av, nv0, ev, rfl, hM.step hb⟩
  · refine (node_miss h n hn ok hk hm hlen).mono ?_
    rintro e w' ⟨rfl, hT⟩
    have e1 : addF st.ns n = st.ns ++ [n] := by unfold addF; rw [if_neg hm]
    rw [e1, placeF_none hm]
    exact ⟨rfl, hT⟩
end Go.Proofs.Ytonkbjdeaneicaa
