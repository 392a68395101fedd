/- node: the number of a node, a new one where there is none such. asksOf at a node of long lists; `!=` at two such keys. Rows of numbers, of truth values, that are the call's own (OwnI, OwnB). -/
import Derived.Test.YtonkbjdeaneicaaDoorKpa12
import Derived.Test.YtonkbjdeaneicaaDoorKpa13
import Derived.Test.YtonkbjdeaneicaaDoorKpa16
import Derived.Deep.OwnRows
import Derived.Deep.RegionWith
import Derived.Laws.AppendOwnNone
import Derived.StillTailTactics
namespace Go.Proofs.YtonkbjdeaneicaaDoor
open Go.RowKit Pln Classical Go.Maps

theorem rowA : 110 < Tryd.prog.types.size := of_decide_eq_true (by kernel_rfl)
theorem keyedA : Keyed Tryd.prog 110 := Keyed.of_law (deep_law_laid laidR (m := 4) (by omega) rowA (by kernel_rfl) (by rw [Tryd.underlying110]))
theorem ktA : Tryd.prog.keyType 110 = true := by kernel_rfl
theorem kszR : ∃ d, Tryd.prog.types.size = d + 4 := ⟨Tryd.prog.types.size - 4, by have : 3 < Tryd.prog.types.size := of_decide_eq_true (by kernel_rfl); omega⟩
theorem cAsk : Tryd.prog.cellsOf 110 = 35 := by kernel_rfl
theorem cLnk : Tryd.prog.cellsOf 56 = 2 := by kernel_rfl
theorem cL8 : Tryd.prog.cellsOf 107 = 16 := by kernel_rfl
theorem cI8 : Tryd.prog.cellsOf 108 = 8 := by kernel_rfl
structure NdOk (n : Nd) : Prop where
  ints : i64ok n.kind ∧ i64ok n.parent ∧ i64ok n.alpha ∧ i64ok n.width ∧ i64ok n.test.op ∧ i64ok n.test.l.n ∧ i64ok n.test.r.n
  links : ∀ l ∈ n.links, i64ok l.1 ∧ i64ok l.2
  new : ∀ x ∈ n.new, i64ok x
  l8 : n.links.length ≤ 8
  n8 : n.new.length ≤ 8
theorem ok0 : i64ok 0 := by unfold i64ok; decide
theorem NdOk.li {n : Nd} (h : NdOk n) (j : Nat) : i64ok (li n.links j) := by
  unfold Go.Proofs.YtonkbjdeaneicaaDoor.li
  cases hx : n.links[j / 2]? with
  | none => split <;> exact ok0
  | some x =>
    obtain ⟨h1, h2⟩ := h.links x (List.mem_of_getElem? hx)
    split
    · exact h1
    · exact h2
theorem NdOk.mi {n : Nd} (h : NdOk n) (j : Nat) : i64ok (mi n.new j) := by
  unfold Go.Proofs.YtonkbjdeaneicaaDoor.mi
  cases hx : n.new[j]? with
  | none => exact ok0
  | some x => exact h.new x (List.mem_of_getElem? hx)
theorem okNat {k : Nat} (h : k ≤ 1000000000) : i64ok (k : Int) := WalkArith.wf_i64 (by omega)
set_option maxRecDepth 100000 in
set_option maxHeartbeats 4000000 in
theorem keyA {n : Nd} (h : NdOk n) : ∃ l, keyOf Tryd.prog 110 (.agg (askA n)) = some l := by
  obtain ⟨d, hd⟩ := kszR
  obtain ⟨a1, a2, a3, a4, a5, a6, a7⟩ := h.ints
  have a8 := okNat (k := n.links.length) (by have := h.l8; omega)
  have a9 := okNat (k := n.new.length) (by have := h.n8; omega)
  have L := h.li
  have M := h.mi
  unfold i64ok at a1 a2 a3 a4 a5 a6 a7 a8 a9 L M
  unfold keyOf
  rw [Tryd.underlying110, ktA, hd]
  simp +decide [Value.formed, Tryd.underlying110, askA, cAsk, Value.cells, Program.keyLits, cIntR, cBoolR, cSltR, cTstR, cLnk, cL8, cI8, Tryd.underlying3, Tryd.underlying4, Tryd.underlying36, Tryd.underlying38, Tryd.underlying56, Tryd.underlying107, Tryd.underlying108, List.range_succ, a1, a2, a3, a4, a5, a6, a7, a8, a9, L, M]

/-- Where the nodes' row has grown and its new value is stored. -/
structure Grown (base g mb : Nat) (wd w4 : World) (av nv nv' ev : Value) (st : St) (es : List Nat) (n : Nd) : Prop where
  blk : w4.heap[g]? = some (.cells #[av, nv', ev, .map (some mb)] 91 (0, 0))
  al : OwnF (Off base (mfoot g mb av nv' ev)) base w4 54 cdShp av st.al
  ns : OwnF (Off base (mfoot g mb av nv' ev)) base w4 40 cdNd nv' (st.ns ++ [n])
  en : OwnF (Off base (mfoot g mb av nv' ev)) base w4 3 cdInt ev (es.map fun (e : Nat) => (e : Int))
  map : MapG Tryd.prog 110 3 w4 mb st.ns.length (atF st.ns)
  tn : Turns (mfoot g mb av nv ev) wd w4
theorem MkAt.grown {base g mb : Nat} {wd w3 : World} {av nv ev : Value} {st : St} {es : List Nat} {n : Nd} (h : MkAt base g mb wd av nv ev st es) {g' cap : Nat}
    (ho : ∀ F' : Nat → Prop, (∀ b, b < wd.heap.size → Off base (mfoot g mb av nv ev) b → F' b) → OwnF F' base w3 40 cdNd (.slice (some ⟨g', 0, none⟩) (st.ns.length + 1) cap) (st.ns ++ [n]))
    (ht : Turns nv.ownBlock.toList wd w3) (hat : nv.ownBlock = some g' ∨ wd.heap.size ≤ g') :
    Grown base g mb wd (w3.setCell ⟨g, 1, none⟩ (.slice (some ⟨g', 0, none⟩) (st.ns.length + 1) cap)) av nv (.slice (some ⟨g', 0, none⟩) (st.ns.length + 1) cap) ev st es n := by
  obtain ⟨a1, a2, a3, a4⟩ := h.apart
  have hg : g ∉ nv.ownBlock.toList := fun hm => (a3 g (by simpa using hm)).1 rfl
  have hmb : mb ∉ nv.ownBlock.toList := fun hm => (a3 mb (by simpa using hm)).2.1 rfl
  have hgn : g' ≠ g := by
    rcases hat with h1 | h1
    · exact (a3 g' h1).1
    · have := h.lt; omega
  have T : Turns (g :: nv.ownBlock.toList) wd (w3.setCell ⟨g, 1, none⟩ (.slice (some ⟨g', 0, none⟩) (st.ns.length + 1) cap)) := (ht.mono (by simp +contextual)).setCell (.inl (by simp)) _
  have hoff : ∀ b ∈ g :: nv.ownBlock.toList, ¬ Off base (mfoot g mb av nv ev) b := by
    intro b hb hf
    refine hf.2 ?_
    simp only [mfoot, List.mem_cons, List.mem_append] at hb ⊢
    rcases hb with hb | hb
    · exact .inl hb
    · exact .inr (.inr (.inr (.inl hb)))
  have hFF : ∀ b, b < wd.heap.size → Off base (mfoot g mb av nv ev) b → Off base (mfoot g mb av (.slice (some ⟨g', 0, none⟩) (st.ns.length + 1) cap) ev) b := by
    rintro b hlt ⟨h1, h2⟩
    refine ⟨h1, fun hm => h2 ?_⟩
    simp only [mfoot, List.mem_cons, List.mem_append, Option.mem_toList] at hm ⊢
    rcases hm with hm | hm | hm | hm | hm
    · exact .inl hm
    · exact .inr (.inl hm)
    · exact .inr (.inr (.inl hm))
    · have e : g' = b := by simpa [Value.ownBlock] using hm
      rcases hat with h3 | h3
      · exact .inr (.inr (.inr (.inl (by rw [← e]; exact h3))))
      · omega
    · exact .inr (.inr (.inr (.inr hm)))
  refine ⟨?_, ?_, ?_, ?_, ?_, T.mono (fun b hb => ?_)⟩
  · exact heap_setCell_same _ _ 1 _ _ _ ((ht.block g h.lt hg).trans h.blk)
  · exact h.al.keep T (fun b hb hm => by
      obtain ⟨b1, b2, b3, b4⟩ := a2 b hb
      simp only [List.mem_cons, Option.mem_toList] at hm
      rcases hm with hm | hm
      · exact b1 hm
      · exact b3 hm) hoff hFF
  · exact (ho _ hFF).keep (S := [g]) ((Turns.refl _ _).setCell (.inl (by simp)) _) (fun b hb hm => by
      have e : g' = b := by simpa [Value.ownBlock] using hb
      simp only [List.mem_singleton] at hm
      omega) (fun b hb hf => hf.2 (by simp only [List.mem_singleton] at hb; simp [mfoot, hb])) (fun _ _ h => h)
  · exact h.en.keep T (fun b hb hm => by
      obtain ⟨b1, b2⟩ := a4 b hb
      simp only [List.mem_cons, Option.mem_toList] at hm
      rcases hm with hm | hm
      · exact b1 hm
      · exact (a3 b hm).2.2 hb) hoff hFF
  · refine h.map.of_block ?_
    rw [Below.heap_setCell _ _ _ _ (fun e => a1 e.symm)]
    exact ht.block mb h.map.lt hmb
  · simp only [mfoot, List.mem_cons, List.mem_append] at hb ⊢
    rcases hb with hb | hb
    · exact .inl hb
    · exact .inr (.inr (.inr (.inl hb)))
/-- Behind the store into the map. -/
theorem Grown.done {base g mb : Nat} {wd w4 w4' w5 : World} {av nv nv' ev : Value} {st : St} {es : List Nat} {n : Nd} (h : Grown base g mb wd w4 av nv nv' ev st es n) (hno : n ∉ st.ns) (hk : n.kind ≠ 0) (hok : NdOk n) (gb : base ≤ g) (mbb : base ≤ mb)
    (lens : ∀ m ∈ st.ns, m.links.length ≤ 8 ∧ m.new.length ≤ 8) (hw : Below w4.heap.size w4 w4') (hm : MapG Tryd.prog 110 3 w5 mb (st.ns.length + 1) (putG (atF st.ns) (.agg (askA n)) st.ns.length)) (hg : w4'.grownBy w5 (some mb)) :
    MkAt base g mb w5 av nv' ev ⟨st.al, st.ns ++ [n]⟩ es ∧ Turns (mfoot g mb av nv ev) wd w5 := by
  have T : Turns [mb] w4 w5 := ((Turns.of_below (S := []) hw).mono (by simp)).trans (Turns.of_grown hg) (by simp)
  have mo : ∃ es c, w4.heap[mb]? = some (.map es c) := h.map.obj
  obtain ⟨me, mc, mo⟩ := mo
  have far : ∀ {e : TypeId} {cur : Array Value} {b : Nat}, w4.heap[b]? = some (.cells cur e (0, 0)) → b ≠ mb := by
    rintro e cur b hb rfl
    rw [mo] at hb
    cases hb
  have hoff : ∀ b ∈ [mb], ¬ Off base (mfoot g mb av nv' ev) b := fun b hb hf => hf.2 (by simp only [List.mem_singleton] at hb; simp [mfoot, hb])
  refine ⟨⟨(T.block g (lt_of_heap h.blk) (by simpa using far h.blk)).trans h.blk, ?_, ?_, ?_, ?_, gb, mbb, ?_⟩, h.tn.trans T (fun x hx => .inl (by simp only [List.mem_singleton] at hx; simp [mfoot, hx]))⟩
  · exact h.al.keep T (fun b hb => by obtain ⟨_, _, c, hc⟩ := h.al.block hb; simpa using far hc) hoff (fun _ _ h => h)
  · exact h.ns.keep T (fun b hb => by obtain ⟨_, _, c, hc⟩ := h.ns.block hb; simpa using far hc) hoff (fun _ _ h => h)
  · exact h.en.keep T (fun b hb => by obtain ⟨_, _, c, hc⟩ := h.en.block hb; simpa using far hc) hoff (fun _ _ h => h)
  · show MapG _ _ _ _ _ (st.ns ++ [n]).length (atF (st.ns ++ [n]))
    rw [atF_put hno hk hok.l8 hok.n8 lens, List.length_append]
    exact hm
  · intro m hm
    rcases List.mem_append.1 hm with hm | hm
    · exact lens m hm
    · rw [List.mem_singleton.1 hm]; exact ⟨hok.l8, hok.n8⟩
end Go.Proofs.YtonkbjdeaneicaaDoor

namespace Go.Proofs.YtonkbjdeaneicaaDoor
open Go.RowKit Pln Classical Go.Maps

section
variable {P : Program} {ops : Array Oper} {rest : List Oper} {o : Oper} {a : Act} {w : World} {Q : Exit → Act → World → Prop}
theorem wpList_val (hw : Region.wanted o (yielded ops a.tmps) = true) (v : Value) (hrun : (execOp a.eval o).run P w = .ok (.value v) w) (h : wpList P ops Q rest (a.put o.dst v) w) : wpList P ops Q (o :: rest) a w := by
  unfold wpList
  rw [if_pos hw]
  refine .inl ?_
  unfold Oper.wp
  rw [hrun]
  exact h
theorem run_load_row (ty : TypeId) (x : Operand) (ho : o.op = .load ty x) (g : Nat) (hx : a.eval x = .pointer (some ⟨g, 0, none⟩)) (t : TypeId) (cs : Array Value) (fr : Nat × Nat) (d : TypeDesc) (hg : w.heap[g]? = some (.cells cs t fr))
    (hu : P.underlying ty = some d) (hd : (match d with | .struct _ | .array _ _ => true | _ => false) = true) (hi : (P.info? ty).map (·.size) = some cs.size) : (execOp a.eval o).run P w = .ok (.value (.agg cs)) w := by
  unfold execOp
  simp only [ho, hx, Instr.loadAt, Instr.sureAddr, Sem.run_bind, Sem.run_pure, Result.andThen_ok, run_loadVar_row w g t ty cs fr d hg hu hd hi]
theorem stop_load_g {g : Nat × Bool} (_ : o.guard = some g) (t : TypeId) (x : Operand) (_ : o.op = .load t x) (h : Hid (wpList P ops Q (o :: rest) a w)) : wpList P ops Q (o :: rest) a w := h.out
end
theorem run_neq_ask {o : Oper} {a : Act} {w : World} {n m : Nd} (x y : Operand) (t' : TypeId) (ho : o.op = .binOp .neq 110 x y t') (hx : a.eval x = .agg (askA n)) (hy : a.eval y = .agg (askA m)) (on : NdOk n) (om : NdOk m) :
    (execOp a.eval o).run Tryd.prog w = .ok (.value (.bool (!decide (n = m)))) w := by
  obtain ⟨ln, hln⟩ := keyA on
  obtain ⟨lm, hlm⟩ := keyA om
  obtain ⟨r, hr, hiff⟩ := run_equal_deep (P := Tryd.prog) w (m := 4) (by omega) (k := 110) (by kernel_rfl) (by rw [Tryd.underlying110]) hln hlm
  have hrr : r = decide (n = m) := by
    by_cases h : n = m
    · subst h
      rw [hln] at hlm
      rw [decide_eq_true rfl]
      exact hiff.2 (Option.some.inj hlm)
    · rw [decide_eq_false h]
      cases r with
      | false => rfl
      | true =>
        exfalso
        have := hiff.1 rfl
        subst this
        exact h (agg_inj (keyedA.inj hln hlm) on.l8 on.n8)
  unfold execOp
  simp only [ho, hx, hy]
  simp [eqGuard, binOp, hr, hrr, Sem.run_bind, Result.andThen]

def zeroA : Array Value := #[.int .i64 0, .int .i64 0, .int .i64 0, .int .i64 0, .bool false, .int .i64 0, .bool false, .int .i64 0, .int .i64 0, .int .i64 0, .int .i64 0, .int .i64 0, .int .i64 0, .int .i64 0, .int .i64 0, .int .i64 0, .int .i64 0, .int .i64 0, .int .i64 0, .int .i64 0, .int .i64 0, .int .i64 0, .int .i64 0, .int .i64 0, .int .i64 0, .int .i64 0, .int .i64 0, .int .i64 0, .int .i64 0, .int .i64 0, .int .i64 0, .int .i64 0, .int .i64 0, .int .i64 0, .int .i64 0]
theorem zero_one : zeroA.all (·.oneCell') = true := by kernel_rfl
theorem builtZ : Tryd.prog.built 110 [] = some zeroA := by kernel_rfl
set_option maxRecDepth 100000 in
set_option maxHeartbeats 4000000 in
theorem asksBigW {F : Nat → Prop} {cs : List Value} {lv nv : Value} (n : Nd) (w : World) (h : ENd F w cs n lv nv) (h1 : 8 < n.links.length ∨ 8 < n.new.length) :
    Calls Tryd.prog 62 #[.agg #[.int .i64 n.kind, .int .i64 n.parent, .int .i64 n.alpha, lv, nv, .int .i64 n.test.op, .bool n.test.l.v, .int .i64 n.test.l.n, .bool n.test.r.v, .int .i64 n.test.r.n, .int .i64 n.width]] w fun e w' => e = .returned (.tuple #[.agg zeroA, .bool false]) ∧ Below w.heap.size w w' := by
  obtain ⟨la, lc, rfl⟩ := h.links.form
  obtain ⟨na, nc, rfl⟩ := h.new.form
  clear h
  go_enter Tryd.func62, Tryd.ntmps62
  by_cases h2 : 8 < n.links.length
  · have e1 : (8 : Int) < (n.links.length : Int) := by omega
    clear h1 h2
    go_wp2_with (with_reducible refine stop_build rfl 110 _ rfl ?_)
    refine Lib.hid ?_
    with_reducible refine wpList_build_to rfl 110 _ rfl [] ?q1 _ builtZ ?q2
    case q1 => simp
    go_wp2_with (with_reducible refine stop_store rfl 110 (.tmp 2) (.tmp 15) rfl ?_)
    refine Lib.hid ?_
    refine wpList_store_new rfl 110 (.tmp 2) (.tmp 15) rfl (w.heap.size + 1) (by simp) _ zeroA _ rfl rfl sizeAsk rfl zero_one ?_
    have HB := Lib.hid (show Below w.heap.size w ((w.alloc (.cells #[.int .i64 n.kind, .int .i64 n.parent, .int .i64 n.alpha, .slice la n.links.length lc, .slice na n.new.length nc, .int .i64 n.test.op, .bool n.test.l.v, .int .i64 n.test.l.n, .bool n.test.r.v, .int .i64 n.test.r.n, .int .i64 n.width] 40)).alloc (.cells zeroA 110)) from ((Below.refl _ _).alloc (Nat.le_refl _) _).alloc (by simp) _)
    have HR := Lib.hid (show ((w.alloc (.cells #[.int .i64 n.kind, .int .i64 n.parent, .int .i64 n.alpha, .slice la n.links.length lc, .slice na n.new.length nc, .int .i64 n.test.op, .bool n.test.l.v, .int .i64 n.test.l.n, .bool n.test.r.v, .int .i64 n.test.r.n, .int .i64 n.width] 40)).alloc (.cells zeroA 110)).heap[w.heap.size + 1]? = some (.cells zeroA 110 (0, 0)) from by
      have := heap_alloc_new (w.alloc (.cells #[.int .i64 n.kind, .int .i64 n.parent, .int .i64 n.alpha, .slice la n.links.length lc, .slice na n.new.length nc, .int .i64 n.test.op, .bool n.test.l.v, .int .i64 n.test.l.n, .bool n.test.r.v, .int .i64 n.test.r.n, .int .i64 n.width] 40)) (.cells zeroA 110)
      rw [show (w.alloc (.cells #[.int .i64 n.kind, .int .i64 n.parent, .int .i64 n.alpha, .slice la n.links.length lc, .slice na n.new.length nc, .int .i64 n.test.op, .bool n.test.l.v, .int .i64 n.test.l.n, .bool n.test.r.v, .int .i64 n.test.r.n, .int .i64 n.width] 40)).heap.size = w.heap.size + 1 by simp] at this
      exact this)
    generalize ((w.alloc (.cells #[.int .i64 n.kind, .int .i64 n.parent, .int .i64 n.alpha, .slice la n.links.length lc, .slice na n.new.length nc, .int .i64 n.test.op, .bool n.test.l.v, .int .i64 n.test.l.n, .bool n.test.r.v, .int .i64 n.test.r.n, .int .i64 n.width] 40)).alloc (.cells zeroA 110)) = w6 at HB HR ⊢
    go_wp2
    exact bodyPost_ret (v := .tuple #[.agg zeroA, .bool false]) (results_row_slot rfl _ _ (w.heap.size + 1) 110 zeroA (0, 0) _ _ rfl rfl HR.out Tryd.underlying110 rfl sizeAsk) rfl ⟨rfl, HB.out⟩
  · have e1 : ¬ (8 : Int) < (n.links.length : Int) := by omega
    have e2 : (8 : Int) < (n.new.length : Int) := by omega
    clear h1 h2
    go_wp2_with (with_reducible refine stop_build rfl 110 _ rfl ?_)
    refine Lib.hid ?_
    with_reducible refine wpList_build_to rfl 110 _ rfl [] ?q3 _ builtZ ?q4
    case q3 => simp
    go_wp2_with (with_reducible refine stop_store rfl 110 (.tmp 2) (.tmp 15) rfl ?_)
    refine Lib.hid ?_
    refine wpList_store_new rfl 110 (.tmp 2) (.tmp 15) rfl (w.heap.size + 1) (by simp) _ zeroA _ rfl rfl sizeAsk rfl zero_one ?_
    have HB := Lib.hid (show Below w.heap.size w ((w.alloc (.cells #[.int .i64 n.kind, .int .i64 n.parent, .int .i64 n.alpha, .slice la n.links.length lc, .slice na n.new.length nc, .int .i64 n.test.op, .bool n.test.l.v, .int .i64 n.test.l.n, .bool n.test.r.v, .int .i64 n.test.r.n, .int .i64 n.width] 40)).alloc (.cells zeroA 110)) from ((Below.refl _ _).alloc (Nat.le_refl _) _).alloc (by simp) _)
    have HR := Lib.hid (show ((w.alloc (.cells #[.int .i64 n.kind, .int .i64 n.parent, .int .i64 n.alpha, .slice la n.links.length lc, .slice na n.new.length nc, .int .i64 n.test.op, .bool n.test.l.v, .int .i64 n.test.l.n, .bool n.test.r.v, .int .i64 n.test.r.n, .int .i64 n.width] 40)).alloc (.cells zeroA 110)).heap[w.heap.size + 1]? = some (.cells zeroA 110 (0, 0)) from by
      have := heap_alloc_new (w.alloc (.cells #[.int .i64 n.kind, .int .i64 n.parent, .int .i64 n.alpha, .slice la n.links.length lc, .slice na n.new.length nc, .int .i64 n.test.op, .bool n.test.l.v, .int .i64 n.test.l.n, .bool n.test.r.v, .int .i64 n.test.r.n, .int .i64 n.width] 40)) (.cells zeroA 110)
      rw [show (w.alloc (.cells #[.int .i64 n.kind, .int .i64 n.parent, .int .i64 n.alpha, .slice la n.links.length lc, .slice na n.new.length nc, .int .i64 n.test.op, .bool n.test.l.v, .int .i64 n.test.l.n, .bool n.test.r.v, .int .i64 n.test.r.n, .int .i64 n.width] 40)).heap.size = w.heap.size + 1 by simp] at this
      exact this)
    generalize ((w.alloc (.cells #[.int .i64 n.kind, .int .i64 n.parent, .int .i64 n.alpha, .slice la n.links.length lc, .slice na n.new.length nc, .int .i64 n.test.op, .bool n.test.l.v, .int .i64 n.test.l.n, .bool n.test.r.v, .int .i64 n.test.r.n, .int .i64 n.width] 40)).alloc (.cells zeroA 110)) = w6 at HB HR ⊢
    go_wp2
    exact bodyPost_ret (v := .tuple #[.agg zeroA, .bool false]) (results_row_slot rfl _ _ (w.heap.size + 1) 110 zeroA (0, 0) _ _ rfl rfl HR.out Tryd.underlying110 rfl sizeAsk) rfl ⟨rfl, HB.out⟩
end Go.Proofs.YtonkbjdeaneicaaDoor

namespace Go.Proofs.YtonkbjdeaneicaaDoor
open Go.RowKit Pln Classical Go.Maps

def natVs (l : List Nat) : List Value := l.map fun (n : Nat) => .int .i64 n
/-- A list of numbers of the call's own. -/
def OwnI (w : World) (base : Nat) (v : Value) (l : List Nat) : Prop := w.ownsRow base 3 1 v l.length (natVs l)
theorem OwnI.below {w w' : World} {base : Nat} {v : Value} {l : List Nat} (h : OwnI w base v l) (hb : Below w.heap.size w w') : OwnI w' base v l :=
  ownsRow_turns h (Turns.of_below (S := []) hb) (by simp)
theorem ownI_one {w : World} {base k : Nat} (hb : base ≤ w.heap.size) : OwnI (w.alloc (.cells #[.int .i64 k] 3)) base (.slice (some ⟨w.heap.size, 0, none⟩) 1 1) [k] :=
  ⟨rfl, .inr ⟨w.heap.size, 1, #[.int .i64 k], rfl, hb, heap_alloc_new w _, Nat.le_refl _, by unfold maxLen; decide, rfl, rfl⟩⟩
theorem natVs_one (l : List Nat) : ∀ u ∈ natVs l, u.oneCell' = true := by
  intro u hu
  obtain ⟨n, _, rfl⟩ := List.mem_map.1 hu
  rfl
theorem wpList_append_I {w : World} {ops : Array Oper} {rest : List Oper} {o : Oper} {a : Act} {Q : Exit → Act → World → Prop} (hgd : o.guard = none) (s x : Operand)
    (ho : o.op = .call { callee := .builtin .append, args := #[s, x], argTypes := #[24, 24] })
    (base base2 : Nat) (v v2 : Value) (xs ys : List Nat) (hs : a.eval s = v) (hown : OwnI w base v xs) (hx : a.eval x = v2) (hown2 : OwnI w base2 v2 ys)
    (hlen : xs.length + ys.length ≤ 1000000000) (hbase : base ≤ w.heap.size)
    (h : ∀ v' w', OwnI w' base v' (xs ++ ys) → w.grownBy w' v.ownBlock → wpList Tryd.prog ops Q rest (a.put o.dst v') w') : wpList Tryd.prog ops Q (o :: rest) a w := by
  obtain ⟨i0, hi0, hz0, hz1, hz2⟩ := info_parts infoIntR
  have h2 := hown2
  rcases hown2.2 with ⟨rfl, h0⟩ | ⟨g, cap, cur, rfl, hg, hh, h3, h4, h5, h6⟩
  · obtain rfl := List.eq_nil_of_length_eq_zero h0
    refine wpList_append_own_none hgd s x 24 ho base 3 i0 1 Tryd.underlying24 hi0 v _ _ hs hown hx ?_
    exact h v w (by simpa using hown) ⟨rfl, rfl, rfl, Nat.le_refl _, fun _ _ _ => rfl⟩
  · refine wpList_append_own w hgd s x 24 ho base 3 i0 (.int .i64 0) 1 8 Tryd.underlying24 hi0 hz0 hz1 hz2 rfl (by decide) v _ _ hs hown ⟨g, 0, none⟩ ys.length cap (natVs ys) hx (by simp [natVs]) (fun j u hu => h2.cells (g := g) rfl j u hu) (natVs_one _) (by unfold maxLen; omega) (by omega) hbase ?_
    intro v' w' h1 h2' _
    refine h v' w' ?_ h2'
    unfold OwnI natVs
    rw [List.length_append, List.map_append]
    exact h1

/-- A row of numbers, to be read. -/
theorem OwnI.form {w : World} {base : Nat} {v : Value} {l : List Nat} (h : OwnI w base v l) : ∃ A c, v = .slice A l.length c ∧ l.length ≤ c := by
  rcases h.2 with ⟨rfl, h0⟩ | ⟨g, cap, cur, rfl, _, _, h1, h2, _⟩
  · exact ⟨none, 0, by rw [h0], by omega⟩
  · exact ⟨_, cap, rfl, h1⟩
theorem OwnI.at {w : World} {base : Nat} {A : Option Addr} {n c : Nat} {l : List Nat} (h : OwnI w base (.slice A n c) l) {t u : Nat} (hu : l[t]? = some u) : ∃ g, A = some ⟨g, 0, none⟩ ∧ base ≤ g ∧ w.cell? ⟨g, t, none⟩ = some (.int .i64 (u : Int)) := by
  have hlt := (List.getElem?_eq_some_iff.1 hu).1
  rcases h.2 with ⟨_, h0⟩ | ⟨g, cap, cur, he, hg, hh, h1, h2, _⟩
  · omega
  · simp only [Value.slice.injEq] at he
    obtain ⟨rfl, rfl, rfl⟩ := he
    refine ⟨g, rfl, hg, ?_⟩
    have := World.ownsRow.cellAt (show w.ownsRow base 3 1 (.slice (some ⟨g, 0, none⟩) l.length c) l.length (natVs l) from h) t (by omega)
    rw [this]
    unfold natVs
    rw [List.getElem?_map, hu]
    rfl
theorem OwnI.turns {w w' : World} {base x : Nat} {v : Value} {l : List Nat} (h : OwnI w base v l) (ht : Turns [x] w w') (hx : x < base) : OwnI w' base v l :=
  ownsRow_turns h ht (fun b hb hm => by
    have := (ownBlock_cells h hb).1
    rw [List.mem_singleton.1 hm] at this
    omega)
theorem OwnI.step {w w' : World} {base : Nat} {v : Value} {l : List Nat} (h : OwnI w base v l) (ht : Below w.heap.size w w') : OwnI w' base v l :=
  ownsRow_turns h (Turns.of_below (S := []) ht) (fun _ _ => by simp)
theorem OwnI.rsl {w : World} {base : Nat} {v : Value} {l : List Nat} (h : OwnI w base v l) (hl : ∀ u ∈ l, u < 1000000000) : RSl (fun b => base ≤ b) w 1 EInt v (l.map fun (n : Nat) => (n : Int)) := by
  refine RSl.of_own h (by simp) (fun b hb => (ownBlock_cells h hb).1) (fun i x hx => ?_)
  rw [List.getElem?_map, Option.map_eq_some_iff] at hx
  obtain ⟨u, hu, rfl⟩ := hx
  have := hl u (List.mem_of_getElem? hu)
  refine ⟨[.int .i64 u], ⟨rfl, ?_⟩, fun j v hv => ?_⟩
  · unfold i64ok
    simp [Lit.wf, IntKind.min, IntKind.max, IntKind.signed, IntKind.bits]
    omega
  · match j with
    | 0 =>
      simp only [List.getElem?_cons_zero, Option.some.injEq] at hv
      subst hv
      rw [Nat.mul_one, Nat.add_zero]
      unfold natVs
      rw [List.getElem?_map, hu]
      rfl
    | j + 1 => simp at hv
theorem RSl.take {α : Type} {F : Nat → Prop} {w : World} {sz : Nat} {E : List Value → α → Prop} {A : Option Addr} {n c : Nat} {xs : List α} (h : RSl F w sz E (.slice A n c) xs) {k : Nat} (hk : k ≤ xs.length) : RSl F w sz E (.slice A k c) (xs.take k) := by
  obtain ⟨A', c', h1, h2, h3, h5, h4⟩ := h
  simp only [Value.slice.injEq] at h1
  obtain ⟨rfl, rfl, rfl⟩ := h1
  have e : (xs.take k).length = k := by rw [List.length_take]; omega
  refine ⟨A, c, by rw [e], by omega, h3, h5, ?_⟩
  rcases h4 with rfl | ⟨b, off, hA, hf, hb, hc⟩
  · exact .inl (by simp)
  · refine .inr ⟨b, off, hA, hf, hb, fun i x hx => hc i x ?_⟩
    rw [List.getElem?_take] at hx
    split at hx
    · exact hx
    · cases hx
theorem run_cutI (A : Option Addr) (l c n : Nat) (h : n ≤ l) (hc : l ≤ c) (W : World) : (Instr.slice 24 (.slice A l c) none (some (.int .i64 (n : Int))) none).run Tryd.prog W = .ok (.slice A n c) W := by
  rw [run_slice_h (t := 24) (ht := by kernel_rfl) (h0 := by omega) (h2 := by omega)]
  have hs : (sizeOf (Tryd.prog.elem 24)).run Tryd.prog W = .ok 1 W := by kernel_rfl
  rw [hs]
  have e : (if c = 0 then A else A.map (fun a => a.add (0 * 1))) = A := by
    split
    · rfl
    · cases A <;> simp [Addr.add]
  simp only [Result.andThen, sliced, Int.toNat_natCast, Nat.sub_zero, e]

/-- The nodes of a way, each the next one's parent. -/
def Up (st : St) (l : List Nat) : Prop := ∀ i u, l[i]? = some u → 0 < u ∧ (0 :: l).getD i 0 < u ∧ ∃ n, st.ns[u]? = some n ∧ n.parent = (((0 :: l).getD i 0 : Nat) : Int)
end Go.Proofs.YtonkbjdeaneicaaDoor
