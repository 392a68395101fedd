/- A struct of many cells as one row: into a new block, out of a block, as the first of two results. Over any program. Pick: the act that a pick means. The walk. The reference's Same, at, copied, without. The walks. -/
import Derived.Test.YtjgigcnjgblekaaDoorKaq09
import Derived.Test.YtjgigcnjgblekaaDoorKaq23
import Derived.Deep.WholeRow
import Derived.StillTailTactics
import Derived.WalkKit
namespace Go.Proofs.YtjgigcnjgblekaaDoor
open Go Go.RowKit
section
variable {P : Program}
/-- Where a walk stops: at a build, a store, a load. -/
theorem stop_build {ops : Array Oper} {rest : List Oper} {o : Oper} {a : Act} {w : World} {Q : Exit → Act → World → Prop} (_ : o.guard = none) (t : TypeId) (parts : Array (Nat × Operand)) (_ : o.op = .build t parts) (h : Hid (wpList P ops Q (o :: rest) a w)) : wpList P ops Q (o :: rest) a w := h.out
theorem stop_store {ops : Array Oper} {rest : List Oper} {o : Oper} {a : Act} {w : World} {Q : Exit → Act → World → Prop} (_ : o.guard = none) (t : TypeId) (x y : Operand) (_ : o.op = .store t x y) (h : Hid (wpList P ops Q (o :: rest) a w)) : wpList P ops Q (o :: rest) a w := h.out
theorem stop_load {ops : Array Oper} {rest : List Oper} {o : Oper} {a : Act} {w : World} {Q : Exit → Act → World → Prop} (_ : o.guard = none) (t : TypeId) (x : Operand) (_ : o.op = .load t x) (h : Hid (wpList P ops Q (o :: rest) a w)) : wpList P ops Q (o :: rest) a w := h.out
theorem wpList_store_new {ops : Array Oper} {rest : List Oper} {o : Oper} {a : Act} {Q : Exit → Act → World → Prop} {w : World} (hgd : o.guard = none) (ty : TypeId) (x y : Operand) (ho : o.op = .store ty x y)
    (B : Nat) (hB : w.heap.size = B) (c c' : Array Value) (t : TypeId) (hx : a.eval x = .pointer (some ⟨B, 0, none⟩)) (hy : a.eval y = .agg c') (hi : (P.info? ty).map (·.size) = some c'.size)
    (hold : c.size = c'.size) (h1 : c'.all (·.oneCell') = true) (h : wpList P ops Q rest (a.put o.dst undef) (w.alloc (.cells c' t))) : wpList P ops Q (o :: rest) a (w.alloc (.cells c t)) := by
  subst hB
  refine wpList_store_row hgd ty x y ho w.heap.size c' hx hy t c (heap_alloc_last w _) hi hold h1 ?_
  rw [World.setRow_alloc_new]
  exact h
theorem wpList_build_to {ops : Array Oper} {rest : List Oper} {o : Oper} {a : Act} {w : World} {Q : Exit → Act → World → Prop} (hg : o.guard = none) (t : TypeId) (parts : Array (Nat × Operand)) (ho : o.op = .build t parts)
    (l : List (Nat × Value)) (hl : (parts.map fun (i, x) => (i, a.eval x)).toList = l) (v : Array Value) (hv : P.built t l = some v) (h : wpList P ops Q rest (a.put o.dst (.agg v)) w) : wpList P ops Q (o :: rest) a w := by
  subst hl
  refine wpList_build hg t parts ho (by rw [hv]; rfl) ?_
  rw [hv]
  exact h
/-- A whole row read in a region that only reads. -/
theorem wpStill_load_row {ops : Array Oper} {rest : List Oper} {o : Oper} {a : Act} {w : World} {Q : Act → Prop} (hgd : o.guard = none) (ty : TypeId) (x : Operand) (ho : o.op = .load ty x)
    (g : Nat) (hx : a.eval x = .pointer (some ⟨g, 0, none⟩)) (t : TypeId) (cs : Array Value) (fr : Nat × Nat) (d : TypeDesc) (hg : w.heap[g]? = some (.cells cs t fr))
    (hu : P.underlying ty = some d) (hd : (match d with | .struct _ | .array _ _ => true | _ => false) = true) (hi : (P.info? ty).map (·.size) = some cs.size)
    (h : wpStill P ops w Q rest (a.put o.dst (.agg cs))) : wpStill P ops w Q (o :: rest) a := by
  refine wpStill_step (fun K hK => ?_)
  have hw : Region.wanted o (yielded ops a.tmps) = true := by simp [Region.wanted, hgd]
  rw [if_pos hw]
  unfold Oper.still execOp
  simp only [ho, hx, Instr.loadAt, Instr.sureAddr, Sem.run_bind, Sem.run_pure, Result.andThen_ok, run_loadVar_row w g t ty cs fr d hg hu hd hi]
  exact ⟨rfl, hK _ h⟩
theorem results_row_slot {fn : Func} {p q : Tmp} {ty : TypeId} (h : fn.results = #[.cell p ty, .tmp q]) (tmps : Array Value) (w : World) (g : Nat) (t : TypeId) (cs : Array Value) (fr : Nat × Nat) (d : TypeDesc) (v : Value)
    (hp : tmps.getD p undef = .pointer (some ⟨g, 0, none⟩)) (hq : tmps.getD q undef = v) (hg : w.heap[g]? = some (.cells cs t fr))
    (hu : P.underlying ty = some d) (hd : (match d with | .struct _ | .array _ _ => true | _ => false) = true) (hi : (P.info? ty).map (·.size) = some cs.size) :
    (results fn tmps).run P w = .ok (.tuple #[.agg cs, v]) w := by
  have hp' : tmps[p]?.getD undef = .pointer (some ⟨g, 0, none⟩) := by simpa using hp
  have hq' : tmps[q]?.getD undef = v := by simpa using hq
  simp [results, h, hp', hq', asAddr, run_loadVar_row w g t ty cs fr d hg hu hd hi]
theorem heap_setRow (w : World) (g : Nat) (cs cs' : Array Value) (t : TypeId) (h : w.heap[g]? = some (.cells cs t (0, 0))) : (w.setRow g cs').heap[g]? = some (.cells cs' t (0, 0)) :=
  setRow_heap w g cs cs' t _ h
end
end Go.Proofs.YtjgigcnjgblekaaDoor

namespace Go.Proofs.YtjgigcnjgblekaaDoor
open Go Go.RowKit Go.Maps Classical

/-- What Pick leaves. -/
def PckRes (l : List Ac) (n : Int) (w : World) (e : Ending) (w' : World) : Prop :=
  ∃ (x : Ac) (sv : Value) (er : Int), e = .returned (.tuple #[.agg #[.int .i64 x.rule, sv], .int .i64 er]) ∧ RSl (fun b => w.heap.size ≤ b) w' 1 EInt sv x.sub ∧ Below w.heap.size w w' ∧
    ((l = [] ∧ x = ⟨0, []⟩ ∧ er = 50) ∨ (l ≠ [] ∧ l[(idxOf n l.length).toNat]? = some x ∧ er = 0))
theorem LstRes.rsl {l : List Ac} {w w' : World} {e : Ending} (h : LstRes l w e w') : ∃ A c, e = .returned (.slice A l.length c) ∧ Below w.heap.size w w' ∧ RSl (fun b => w.heap.size ≤ b) w' 2 (EAc (fun b => w.heap.size ≤ b) w') (.slice A l.length c) l := by
  obtain ⟨v, zs, rfl, hz, hm, hb⟩ := h
  obtain ⟨A, c, rfl⟩ := hz.form
  have hl : zs.length = l.length := by rw [← hm, List.length_map]
  have hr := hz.rsl
  rw [hm, hl] at hr
  exact ⟨A, c, by rw [hl], hb, hr⟩
set_option maxRecDepth 100000 in
set_option maxHeartbeats 4000000 in
theorem pickW {M : List Nat} {p mc mf N : Nat} {G : Agd} (n : Int) (hn : i64ok n) (w : World) (h : AgAt M w p mc mf G N) (hlen : G.C.length ≤ 40000000) :
    Calls Tryd.prog 29 #[.pointer (some ⟨p, 0, none⟩), .int .i64 n] w (PckRes (eligA G) n w) := by
  obtain ⟨w0, hw0⟩ : ∃ w0, w0 = w.alloc (.cells #[.int .i64 0, .slice none 0 0] 30) := ⟨_, rfl⟩
  have hb0 : Below w.heap.size w w0 := by rw [hw0]; exact (Below.refl _ _).alloc (Nat.le_refl _) _
  have hr0 : w0.heap[w.heap.size]? = some (.cells #[.int .i64 0, .slice none 0 0] 30 (0, 0)) := by rw [hw0]; exact heap_alloc_new w _
  have hs0 : w0.heap.size = w.heap.size + 1 := by rw [hw0]; simp
  have EW := Lib.hid (eligibleW w0 (h.below hb0) hlen)
  have HB := Lib.hid hb0
  have HR0 := Lib.hid hr0
  have HS := Lib.hid hs0
  clear h hb0 hr0 hs0
  go_enter Tryd.func29, Tryd.ntmps29
  go_upto_region 1 with fail
  rw [← hw0]
  clear hw0
  go_wp2_with fail
  refine EW.out.mono ?_
  intro e w1 hr
  obtain ⟨A, c, rfl, hb1, hl⟩ := hr.rsl
  obtain ⟨l, hle⟩ : ∃ l, eligA G = l := ⟨_, rfl⟩
  rw [hle] at hl ⊢
  have R1 : w1.heap[w.heap.size]? = some (.cells #[.int .i64 0, .slice none 0 0] 30 (0, 0)) := (hb1.block _ (by have := HS.out; omega)).trans HR0.out
  have B1 := Lib.hid (HB.out.trans (hb1.mono HB.out.size))
  have HR1 := Lib.hid R1
  have hm := hl.len
  unfold maxLen at hm
  have y0 : w1.cell? ⟨w.heap.size, 0, none⟩ = some (.int .i64 0) := cell_of_row _ _ 0 _ _ _ R1
  have y1 : w1.cell? ⟨w.heap.size, 1, none⟩ = some (.slice none 0 0) := cell_of_row _ _ 1 _ _ _ R1
  have yf : ∀ o, w1.frozen? ⟨w.heap.size, o, none⟩ = false := fun o => by simp [World.frozen?, R1]
  have FIN := Lib.hid (fun (r : Int) (v : Value) => (show Turns [w.heap.size] w1 ((w1.setCell ⟨w.heap.size, 0, none⟩ (.int .i64 r)).setCell ⟨w.heap.size, 1, none⟩ v) from ((Turns.refl _ _).setCell (.inl (by simp)) _).setCell (.inl (by simp)) _))
  have EF := Lib.hid (fun (r : Int) (v : Value) => (heap_setCell_same _ _ 1 _ _ _ (heap_setCell_same _ _ 0 _ _ _ R1) : ((w1.setCell ⟨w.heap.size, 0, none⟩ (.int .i64 r)).setCell ⟨w.heap.size, 1, none⟩ v).heap[w.heap.size]? = some (.cells #[.int .i64 r, v] 30 (0, 0))))
  have HL := Lib.hid hl
  have HLE := Lib.hid hle
  have S1 := Lib.hid (show w0.heap.size = w.heap.size + 1 from HS.out)
  clear EW hr hb1 R1 hl hle
  by_cases h0 : l = []
  · subst h0
    clear HL
    simp only [List.length_nil] at hm ⊢
    go_wp2
    refine bodyPost_ret (results_row_slot rfl _ _ (w.heap.size) 30 #[.int .i64 0, .slice none 0 0] (0, 0) _ _ rfl rfl (EF.out 0 (.slice none 0 0)) Tryd.underlying30 rfl sizeAct) rfl ?_
    unfold PckRes
    rw [HLE.out]
    exact ⟨⟨0, []⟩, _, 50, rfl, RSl.nil, B1.out.trans ((FIN.out _ _).below B1.out.size (fun x hx => by rw [List.mem_singleton.1 hx]; omega)), .inl ⟨rfl, rfl, rfl⟩⟩
  · have hpos : 0 < l.length := List.length_pos_iff.2 h0
    have H0 := Lib.hid h0
    have hne : ((l.length : Int) == 0) = false := by simp; omega
    have IW := Lib.hid (fun (W : World) => idx_any n (l.length : Int) W hn (WalkArith.wf_i64 (by omega)))
    have hrng : 0 ≤ idxOf n (l.length : Int) ∧ idxOf n (l.length : Int) < (l.length : Int) := by
      unfold idxOf
      rw [if_neg (by omega)]
      exact ⟨Int.emod_nonneg _ (by omega), Int.emod_lt_of_pos _ (by omega)⟩
    obtain ⟨k, hk⟩ : ∃ k : Nat, idxOf n (l.length : Int) = (k : Int) := ⟨(idxOf n (l.length : Int)).toNat, by omega⟩
    have HK := Lib.hid hk
    rw [hk] at IW hrng
    obtain ⟨x, hx⟩ : ∃ x, l[k]? = some x := ⟨_, List.getElem?_eq_getElem (by omega)⟩
    have HX := Lib.hid hx
    obtain ⟨b, off, rfl, hbF, _, cs, ⟨sv, rfl, hok, hsv⟩, hc⟩ := HL.out.at hx
    obtain ⟨A3, c3, rfl⟩ := hsv.form
    have d0 := hc 0 _ rfl
    have d1 := hc 1 _ rfl
    simp only [Nat.add_zero] at d0
    have HSV := Lib.hid hsv
    obtain ⟨e1, e2⟩ := hrng
    clear h0 hk hx hc hok hsv
    go_wp2_with fail
    refine (IW.out _).mono ?_
    rintro e w2 ⟨rfl, rfl⟩
    go_wp2
    refine bodyPost_ret (results_row_slot rfl _ _ (w.heap.size) 30 #[.int .i64 x.rule, .slice A3 x.sub.length c3] (0, 0) _ _ rfl rfl (EF.out x.rule (.slice A3 x.sub.length c3)) Tryd.underlying30 rfl sizeAct) rfl ?_
    unfold PckRes
    rw [HLE.out]
    refine ⟨x, _, 0, rfl, ?_, B1.out.trans ((FIN.out _ _).below B1.out.size (fun x hx => by rw [List.mem_singleton.1 hx]; omega)), .inr ⟨H0.out, by rw [HK.out]; exact HX.out, rfl⟩⟩
    refine HSV.out.kp (Kp.of_turns (FIN.out _ _) (fun b hb hf => ?_)) (fun b _ hb => by have := S1.out; omega) (fun _ _ h => h)
    rw [List.mem_singleton.1 hb] at hf
    have := S1.out
    omega
end Go.Proofs.YtjgigcnjgblekaaDoor

namespace Go.Proofs.YtjgigcnjgblekaaDoor
open Go Go.RowKit Go.Maps Classical

theorem ac_ext {a b : Ac} (h1 : a.rule = b.rule) (h2 : a.sub = b.sub) : a = b := by
  cases a; cases b; simp only at h1 h2; rw [h1, h2]
theorem take_step {l m : List Int} {k : Nat} {s : Int} (h : l.take k = m.take k) (h1 : l[k]? = some s) (h2 : m[k]? = some s) : l.take (k + 1) = m.take (k + 1) := by
  rw [List.take_add_one, List.take_add_one, h1, h2, h]
set_option maxRecDepth 100000 in
set_option maxHeartbeats 4000000 in
theorem sameGW {F F' : Nat → Prop} (a b : Ac) (v1 v2 : Value) (w : World) (h1 : RSl F w 1 EInt v1 a.sub) (h2 : RSl F' w 1 EInt v2 b.sub) :
    Calls Tryd.prog 35 #[.agg #[.int .i64 a.rule, v1], .agg #[.int .i64 b.rule, v2]] w fun e w' => e = .returned (.bool (decide (a = b))) ∧ Below w.heap.size w w' := by
  obtain ⟨A1, c1, rfl⟩ := h1.form
  obtain ⟨A2, c2, rfl⟩ := h2.form
  have hm := h1.len
  have hm2 := h2.len
  unfold maxLen at hm hm2
  obtain ⟨w0, hw0⟩ : ∃ w0, w0 = (w.alloc (.cells #[.int .i64 a.rule, .slice A1 a.sub.length c1] 30)).alloc (.cells #[.int .i64 b.rule, .slice A2 b.sub.length c2] 30) := ⟨_, rfl⟩
  have hx0 : Below (w.heap.size + 1) (w.alloc (.cells #[.int .i64 a.rule, .slice A1 a.sub.length c1] 30)) w0 := by rw [hw0]; exact (Below.refl _ _).alloc (by simp) _
  have hsz0 : w0.heap.size = w.heap.size + 1 + 1 := by rw [hw0]; simp
  have hb0 := box_belowD hx0
  have r0 : w0.heap[w.heap.size + 1]? = some (.cells #[.int .i64 b.rule, .slice A2 b.sub.length c2] 30 (0, 0)) := by
    have := heap_alloc_new (w.alloc (.cells #[.int .i64 a.rule, .slice A1 a.sub.length c1] 30)) (.cells #[.int .i64 b.rule, .slice A2 b.sub.length c2] 30)
    rw [hw0]; simpa using this
  have BX := Lib.hid (fun (W : World) (hW : Below w0.heap.size w0 W) => (show W.cell? ⟨w.heap.size, 0, none⟩ = some (.int .i64 a.rule) ∧ W.cell? ⟨w.heap.size, 1, none⟩ = some (.slice A1 a.sub.length c1) ∧ W.cell? ⟨w.heap.size + 1, 0, none⟩ = some (.int .i64 b.rule) ∧ W.cell? ⟨w.heap.size + 1, 1, none⟩ = some (.slice A2 b.sub.length c2) from
    ⟨(hW.cell (p := ⟨w.heap.size, 0, none⟩) (by show w.heap.size < w0.heap.size; omega)).trans (box_cellD hx0 0 rfl), (hW.cell (p := ⟨w.heap.size, 1, none⟩) (by show w.heap.size < w0.heap.size; omega)).trans (box_cellD hx0 1 rfl),
     cell_of_row _ _ 0 _ _ _ ((hW.block _ (by omega)).trans r0), cell_of_row _ _ 1 _ _ _ ((hW.block _ (by omega)).trans r0)⟩))
  have H1 := Lib.hid (h1.keep (Kp.of_below hb0))
  have H2 := Lib.hid (h2.keep (Kp.of_below hb0))
  have HB := Lib.hid hb0
  have E0 := Lib.hid (Below.refl w0.heap.size w0)
  obtain ⟨x0, x1, x2, x3⟩ := BX.out w0 E0.out
  clear h1 h2 hx0 hb0 r0
  by_cases hr : a.rule = b.rule
  rotate_left
  · have HR := Lib.hid (show decide (a = b) = false from decide_eq_false fun e => hr (by rw [e]))
    have f1 : (a.rule == b.rule) = false := beq_false_of_ne hr
    have f2 : (a.rule != b.rule) = true := by simpa using hr
    clear hr
    go_enter Tryd.func35, Tryd.ntmps35
    go_upto_region 1 with fail
    rw [← hw0]
    clear hw0
    go_wp2
    go_ret
    exact ⟨ret_boolA HR.out.symm, HB.out⟩
  have f1 : (a.rule == b.rule) = true := by simpa using hr
  have f0 : (a.rule != b.rule) = false := by simpa using hr
  by_cases hl : a.sub.length = b.sub.length
  rotate_left
  · have HR := Lib.hid (show decide (a = b) = false from decide_eq_false fun e => hl (by rw [e]))
    have f2 : ((a.sub.length : Int) == (b.sub.length : Int)) = false := beq_false_of_ne (by omega)
    have f3 : ((a.sub.length : Int) != (b.sub.length : Int)) = true := bne_iff_ne.2 (by omega)
    clear hr hl
    go_enter Tryd.func35, Tryd.ntmps35
    go_upto_region 1 with fail
    rw [← hw0]
    clear hw0
    go_wp2
    go_ret
    exact ⟨ret_boolA HR.out.symm, HB.out⟩
  have f2 : ((a.sub.length : Int) == (b.sub.length : Int)) = true := beq_iff_eq.2 (by omega)
  have f3 : ((a.sub.length : Int) != (b.sub.length : Int)) = false := by rw [bne, f2]; rfl
  have HRU := Lib.hid hr
  have HLE := Lib.hid hl
  clear hr hl
  go_enter Tryd.func35, Tryd.ntmps35
  go_upto_region 1 with fail
  rw [← hw0]
  clear hw0
  go_wp2
  go_loopw [5] (fun i wr => ∃ k : Nat, i = .int .i64 (k : Int) ∧ k ≤ a.sub.length ∧ a.sub.take k = b.sub.take k ∧ Below w0.heap.size w0 wr) (fun i _ => a.sub.length - (intOf i).toNat)
  case atStart => exact ⟨0, rfl, Nat.zero_le _, by simp, E0.out⟩
  case round =>
    obtain ⟨k, rfl, hk, htk, hb⟩ := hrel
    have HTK := Lib.hid htk
    obtain ⟨x0, x1, x2, x3⟩ := BX.out wr hb
    have HBW := Lib.hid hb
    clear htk
    by_cases hkn : k < a.sub.length
    · have hl := HLE.out
      obtain ⟨s, hs⟩ : ∃ s, a.sub[k]? = some s := ⟨_, List.getElem?_eq_getElem hkn⟩
      obtain ⟨t, ht⟩ : ∃ t, b.sub[k]? = some t := ⟨_, List.getElem?_eq_getElem (by omega)⟩
      obtain ⟨b1, o1, rfl, _, _, cs, ⟨rfl, hok⟩, hc⟩ := (H1.out.keep (Kp.of_below hb)).at hs
      obtain ⟨b2, o2, rfl, _, _, cs', ⟨rfl, hok'⟩, hc'⟩ := (H2.out.keep (Kp.of_below hb)).at ht
      have d0 := hc 0 _ rfl
      have d1 := hc' 0 _ rfl
      simp only [Nat.add_zero, Nat.mul_one] at d0 d1
      have e1 : (0 : Int) ≤ (k : Int) := by omega
      have e2 : (k : Int) < (a.sub.length : Int) := by omega
      have e3 : (k : Int) < (b.sub.length : Int) := by omega
      have DN := Lib.hid (fun q => below_drewNA hb q)
      have HS := Lib.hid hs
      have HTT := Lib.hid ht
      clear hc hc' hs ht hb hok hok' hl
      by_cases hst : s = t
      · subst hst
        have f3 : (s == s) = true := by simp
        have f4 : (s != s) = false := by simp
        have NX := Lib.hid (take_step HTK.out HS.out HTT.out)
        go_wp2_with fail
        go_quiet (fail)
        go_wp2
        exact ⟨⟨k + 1, by go_num, by omega, NX.out, DN.out _⟩, by simp [intOf]; omega⟩
      · have f3 : (s == t) = false := beq_false_of_ne hst
        have f4 : (s != t) = true := bne_iff_ne.2 hst
        have HR := Lib.hid (show decide (a = b) = false from decide_eq_false fun e => hst (by
          have h1 := HS.out
          rw [e, HTT.out] at h1
          exact (Option.some.inj h1).symm))
        clear hst
        go_wp2_with fail
        go_quiet (fail)
        have DQ := Lib.hid (DN.out nq)
        go_wp2
        go_ret
        exact ⟨ret_boolA HR.out.symm, HB.out.trans (DQ.out.mono HB.out.size)⟩
    · obtain rfl : k = a.sub.length := by omega
      have HR := Lib.hid (show decide (a = b) = true from decide_eq_true (ac_ext HRU.out (by
        have := HTK.out
        rw [List.take_length, HLE.out, List.take_length] at this
        exact this)))
      clear hb
      go_wp2
      go_ret
      exact ⟨ret_boolA HR.out.symm, HB.out.trans (HBW.out.mono HB.out.size)⟩
set_option maxRecDepth 100000 in
set_option maxHeartbeats 4000000 in
theorem rcopiedW {F : Nat → Prop} (a : Ac) (sv : Value) (w : World) (h : RSl F w 1 EInt sv a.sub) (hl : a.sub.length ≤ 17000000000000) :
    Calls Tryd.prog 61 #[.agg #[.int .i64 a.rule, sv]] w (CopRes a w) := by
  obtain ⟨A, c, rfl⟩ := h.form
  obtain ⟨w0, hw0⟩ : ∃ w0, w0 = (w.alloc (.cells #[.int .i64 a.rule, .slice A a.sub.length c] 30)).alloc (.cells #[.int .i64 0, .slice none 0 0] 30) := ⟨_, rfl⟩
  have hx0 : Below (w.heap.size + 1) (w.alloc (.cells #[.int .i64 a.rule, .slice A a.sub.length c] 30)) w0 := by rw [hw0]; exact (Below.refl _ _).alloc (by simp) _
  have hsz0 : w0.heap.size = w.heap.size + 1 + 1 := by rw [hw0]; simp
  have hr0 : w0.heap[w.heap.size + 1]? = some (.cells #[.int .i64 0, .slice none 0 0] 30 (0, 0)) := by
    have := heap_alloc_new (w.alloc (.cells #[.int .i64 a.rule, .slice A a.sub.length c] 30)) (.cells #[.int .i64 0, .slice none 0 0] 30)
    rw [hw0]
    simpa using this
  have x0 := box_cellD hx0 0 rfl
  have x1 := box_cellD hx0 1 rfl
  have HB := Lib.hid (box_belowD hx0)
  have HE := Lib.hid (show w.heap.size + 1 + 1 ≤ (w0.alloc (.cells #[] 3)).heap.size by simp; omega)
  have HH := Lib.hid ((h.keep (Kp.of_below (F := F) (box_belowD hx0))).keep (Kp.of_below (F := F) ((Below.refl _ w0).alloc (Nat.le_refl _) (.cells #[] 3))))
  have HR := Lib.hid hr0
  have HB0 := Lib.hid ((Below.refl w0.heap.size w0).alloc (Nat.le_refl _) (.cells #[] 3))
  have HL := Lib.hid (show 0 + a.sub.length ≤ 17000000000000 by omega)
  have ho0 := own0 w0 3 1 w0.heap.size (Nat.le_refl _)
  rw [hsz0] at ho0
  have HO := Lib.hid ho0
  clear ho0
  clear h hx0 hr0
  go_enter Tryd.func61, Tryd.ntmps61
  go_upto_region 1 with fail
  rw [← hw0]
  clear hw0
  have KEY : ∀ v' w3, w3.ownsRow (w.heap.size + 1 + 1) 3 1 v' (0 + a.sub.length) ([] ++ intVs a.sub) → Turns (Value.slice (some ⟨w.heap.size + 1 + 1, 0, none⟩) 0 0).ownBlock.toList (w0.alloc (.cells #[] 3)) w3 →
      w3.heap[w.heap.size + 1]? = some (.cells #[.int .i64 0, .slice none 0 0] 30 (0, 0)) ∧ OwnZ w3 (w.heap.size + 2) v' a.sub ∧ Below w.heap.size w w3 ∧ w3.cell? ⟨w.heap.size, 0, none⟩ = some (.int .i64 a.rule) := by
    intro v' w3 ho ht
    rw [Nat.zero_add, List.nil_append] at ho
    have hs := HB.out.size
    refine ⟨?_, OwnZ.down (show OwnZ w3 _ v' a.sub from ho) (by omega), ?_, ?_⟩
    · rw [ht.block _ (by simp; omega) (by simp [Value.ownBlock]), heap_alloc_old _ _ (by omega)]
      exact HR.out
    · exact (HB.out.alloc (by omega) _).trans (ht.below (by simp; omega) (fun x hx => by simp [Value.ownBlock] at hx; omega))
    · exact (ht.cell (by simp; omega) (by simp [Value.ownBlock]; omega)).trans ((HB0.out.cell (p := ⟨w.heap.size, 0, none⟩) (by show w.heap.size < _; omega)).trans x0)
  have KY := Lib.hid KEY
  clear KEY
  go_region_law (refine step_append_ints HO.out HH.out (by rfl) (.tmp 5) (.tmp 7) 22 (by rfl) Tryd.underlying22 infoIntR rfl (by rfl) (by rfl) HL.out HE.out ?_; intro v' w3 ho ht; have ho' := ho; rw [Nat.zero_add] at ho'; obtain ⟨va, vc, rfl⟩ := own_form1 ho'; clear ho'; obtain ⟨q1, q2, q3, q4⟩ := KY.out _ w3 ho ht; have Q1 := Lib.hid q1; have Q2 := Lib.hid q2; have Q3 := Lib.hid q3; have c0 := cell_of_row _ _ 0 _ _ _ q1; have c1 := cell_of_row _ _ 1 _ _ _ q1; have fz := fun o => frozen_of_row _ _ o _ _ q1; clear ho ht q1 q2 q3)
  all_goals go_wp2
  all_goals
    have EF := heap_setCell_same _ _ 1 _ _ (.slice va a.sub.length vc) (heap_setCell_same _ _ 0 _ _ (.int .i64 a.rule) Q1.out)
    refine bodyPost_ret (v := .agg #[.int .i64 a.rule, .slice va a.sub.length vc]) (results_row_slot1 rfl _ _ (w.heap.size + 1) 30 #[.int .i64 a.rule, .slice va a.sub.length vc] (0, 0) _ rfl EF Tryd.underlying30 rfl sizeAct) rfl ?_
    exact copRes_of Q2.out Q3.out
end Go.Proofs.YtjgigcnjgblekaaDoor
