/- A struct of many cells as one row: into a new block, out of a block, as the first of two results. Over any program. Pick: the act that a pick means. The walk. told: what the agenda tells is what the book says. The walk. -/
import Derived.Test.YtjgigcnjgblekaaDoorKat25
import Derived.Deep.WholeRow
import Derived.StillTailTactics
import Derived.WalkKit
namespace Go.Proofs.YtjgigcnjgblekaaDoor
open Go Go.RowKit
section
variable {P : Program}
/-- Where a walk stops: at a build, a store, a load. -/
theorem stop_build {ops : Array Oper} {rest : List Oper} {o : Oper} {a : Act} {w : World} {Q : Exit → Act → World → Prop} (_ : o.guard = none) (t : TypeId) (parts : Array (Nat × Operand)) (_ : o.op = .build t parts) (h : Hid (wpList P ops Q (o :: rest) a w)) : wpList P ops Q (o :: rest) a w := h.out
theorem stop_store {ops : Array Oper} {rest : List Oper} {o : Oper} {a : Act} {w : World} {Q : Exit → Act → World → Prop} (_ : o.guard = none) (t : TypeId) (x y : Operand) (_ : o.op = .store t x y) (h : Hid (wpList P ops Q (o :: rest) a w)) : wpList P ops Q (o :: rest) a w := h.out
theorem stop_load {ops : Array Oper} {rest : List Oper} {o : Oper} {a : Act} {w : World} {Q : Exit → Act → World → Prop} (_ : o.guard = none) (t : TypeId) (x : Operand) (_ : o.op = .load t x) (h : Hid (wpList P ops Q (o :: rest) a w)) : wpList P ops Q (o :: rest) a w := h.out
theorem wpList_store_new {ops : Array Oper} {rest : List Oper} {o : Oper} {a : Act} {Q : Exit → Act → World → Prop} {w : World} (hgd : o.guard = none) (ty : TypeId) (x y : Operand) (ho : o.op = .store ty x y)
    (B : Nat) (hB : w.heap.size = B) (c c' : Array Value) (t : TypeId) (hx : a.eval x = .pointer (some ⟨B, 0, none⟩)) (hy : a.eval y = .agg c') (hi : (P.info? ty).map (·.size) = some c'.size)
    (hold : c.size = c'.size) (h1 : c'.all (·.oneCell') = true) (h : wpList P ops Q rest (a.put o.dst undef) (w.alloc (.cells c' t))) : wpList P ops Q (o :: rest) a (w.alloc (.cells c t)) := by
  subst hB
  refine wpList_store_row hgd ty x y ho w.heap.size c' hx hy t c (heap_alloc_last w _) hi hold h1 ?_
  rw [World.setRow_alloc_new]
  exact h
theorem wpList_build_to {ops : Array Oper} {rest : List Oper} {o : Oper} {a : Act} {w : World} {Q : Exit → Act → World → Prop} (hg : o.guard = none) (t : TypeId) (parts : Array (Nat × Operand)) (ho : o.op = .build t parts)
    (l : List (Nat × Value)) (hl : (parts.map fun (i, x) => (i, a.eval x)).toList = l) (v : Array Value) (hv : P.built t l = some v) (h : wpList P ops Q rest (a.put o.dst (.agg v)) w) : wpList P ops Q (o :: rest) a w := by
  subst hl
  refine wpList_build hg t parts ho (by rw [hv]; rfl) ?_
  rw [hv]
  exact h
/-- A whole row read in a region that only reads. -/
theorem wpStill_load_row {ops : Array Oper} {rest : List Oper} {o : Oper} {a : Act} {w : World} {Q : Act → Prop} (hgd : o.guard = none) (ty : TypeId) (x : Operand) (ho : o.op = .load ty x)
    (g : Nat) (hx : a.eval x = .pointer (some ⟨g, 0, none⟩)) (t : TypeId) (cs : Array Value) (fr : Nat × Nat) (d : TypeDesc) (hg : w.heap[g]? = some (.cells cs t fr))
    (hu : P.underlying ty = some d) (hd : (match d with | .struct _ | .array _ _ => true | _ => false) = true) (hi : (P.info? ty).map (·.size) = some cs.size)
    (h : wpStill P ops w Q rest (a.put o.dst (.agg cs))) : wpStill P ops w Q (o :: rest) a := by
  refine wpStill_step (fun K hK => ?_)
  have hw : Region.wanted o (yielded ops a.tmps) = true := by simp [Region.wanted, hgd]
  rw [if_pos hw]
  unfold Oper.still execOp
  simp only [ho, hx, Instr.loadAt, Instr.sureAddr, Sem.run_bind, Sem.run_pure, Result.andThen_ok, run_loadVar_row w g t ty cs fr d hg hu hd hi]
  exact ⟨rfl, hK _ h⟩
theorem results_row_slot {fn : Func} {p q : Tmp} {ty : TypeId} (h : fn.results = #[.cell p ty, .tmp q]) (tmps : Array Value) (w : World) (g : Nat) (t : TypeId) (cs : Array Value) (fr : Nat × Nat) (d : TypeDesc) (v : Value)
    (hp : tmps.getD p undef = .pointer (some ⟨g, 0, none⟩)) (hq : tmps.getD q undef = v) (hg : w.heap[g]? = some (.cells cs t fr))
    (hu : P.underlying ty = some d) (hd : (match d with | .struct _ | .array _ _ => true | _ => false) = true) (hi : (P.info? ty).map (·.size) = some cs.size) :
    (results fn tmps).run P w = .ok (.tuple #[.agg cs, v]) w := by
  have hp' : tmps[p]?.getD undef = .pointer (some ⟨g, 0, none⟩) := by simpa using hp
  have hq' : tmps[q]?.getD undef = v := by simpa using hq
  simp [results, h, hp', hq', asAddr, run_loadVar_row w g t ty cs fr d hg hu hd hi]
theorem heap_setRow (w : World) (g : Nat) (cs cs' : Array Value) (t : TypeId) (h : w.heap[g]? = some (.cells cs t (0, 0))) : (w.setRow g cs').heap[g]? = some (.cells cs' t (0, 0)) :=
  setRow_heap w g cs cs' t _ h
end
end Go.Proofs.YtjgigcnjgblekaaDoor

namespace Go.Proofs.YtjgigcnjgblekaaDoor
open Go Go.RowKit Go.Maps Classical

/-- What Pick leaves. -/
def PckRes (l : List Ac) (n : Int) (w : World) (e : Ending) (w' : World) : Prop :=
  ∃ (x : Ac) (sv : Value) (er : Int), e = .returned (.tuple #[.agg #[.int .i64 x.rule, sv], .int .i64 er]) ∧ RSl (fun b => w.heap.size ≤ b) w' 1 EInt sv x.sub ∧ Below w.heap.size w w' ∧
    ((l = [] ∧ x = ⟨0, []⟩ ∧ er = 50) ∨ (l ≠ [] ∧ l[(idxOf n l.length).toNat]? = some x ∧ er = 0))
theorem LstRes.rsl {l : List Ac} {w w' : World} {e : Ending} (h : LstRes l w e w') : ∃ A c, e = .returned (.slice A l.length c) ∧ Below w.heap.size w w' ∧ RSl (fun b => w.heap.size ≤ b) w' 2 (EAc (fun b => w.heap.size ≤ b) w') (.slice A l.length c) l := by
  obtain ⟨v, zs, rfl, hz, hm, hb⟩ := h
  obtain ⟨A, c, rfl⟩ := hz.form
  have hl : zs.length = l.length := by rw [← hm, List.length_map]
  have hr := hz.rsl
  rw [hm, hl] at hr
  exact ⟨A, c, by rw [hl], hb, hr⟩
set_option maxRecDepth 100000 in
set_option maxHeartbeats 4000000 in
theorem pickW {M : List Nat} {p mc mf N : Nat} {G : Agd} (n : Int) (hn : i64ok n) (w : World) (h : AgAt M w p mc mf G N) (hlen : G.C.length ≤ 40000000) :
    Calls Tryd.prog 29 #[.pointer (some ⟨p, 0, none⟩), .int .i64 n] w (PckRes (eligA G) n w) := by
  obtain ⟨w0, hw0⟩ : ∃ w0, w0 = w.alloc (.cells #[.int .i64 0, .slice none 0 0] 30) := ⟨_, rfl⟩
  have hb0 : Below w.heap.size w w0 := by rw [hw0]; exact (Below.refl _ _).alloc (Nat.le_refl _) _
  have hr0 : w0.heap[w.heap.size]? = some (.cells #[.int .i64 0, .slice none 0 0] 30 (0, 0)) := by rw [hw0]; exact heap_alloc_new w _
  have hs0 : w0.heap.size = w.heap.size + 1 := by rw [hw0]; simp
  have EW := Lib.hid (eligibleW w0 (h.below hb0) hlen)
  have HB := Lib.hid hb0
  have HR0 := Lib.hid hr0
  have HS := Lib.hid hs0
  clear h hb0 hr0 hs0
  go_enter Tryd.func29, Tryd.ntmps29
  go_upto_region 1 with fail
  rw [← hw0]
  clear hw0
  go_wp2_with fail
  refine EW.out.mono ?_
  intro e w1 hr
  obtain ⟨A, c, rfl, hb1, hl⟩ := hr.rsl
  obtain ⟨l, hle⟩ : ∃ l, eligA G = l := ⟨_, rfl⟩
  rw [hle] at hl ⊢
  have R1 : w1.heap[w.heap.size]? = some (.cells #[.int .i64 0, .slice none 0 0] 30 (0, 0)) := (hb1.block _ (by have := HS.out; omega)).trans HR0.out
  have B1 := Lib.hid (HB.out.trans (hb1.mono HB.out.size))
  have HR1 := Lib.hid R1
  have hm := hl.len
  unfold maxLen at hm
  have y0 : w1.cell? ⟨w.heap.size, 0, none⟩ = some (.int .i64 0) := cell_of_row _ _ 0 _ _ _ R1
  have y1 : w1.cell? ⟨w.heap.size, 1, none⟩ = some (.slice none 0 0) := cell_of_row _ _ 1 _ _ _ R1
  have yf : ∀ o, w1.frozen? ⟨w.heap.size, o, none⟩ = false := fun o => by simp [World.frozen?, R1]
  have FIN := Lib.hid (fun (r : Int) (v : Value) => (show Turns [w.heap.size] w1 ((w1.setCell ⟨w.heap.size, 0, none⟩ (.int .i64 r)).setCell ⟨w.heap.size, 1, none⟩ v) from ((Turns.refl _ _).setCell (.inl (by simp)) _).setCell (.inl (by simp)) _))
  have EF := Lib.hid (fun (r : Int) (v : Value) => (heap_setCell_same _ _ 1 _ _ _ (heap_setCell_same _ _ 0 _ _ _ R1) : ((w1.setCell ⟨w.heap.size, 0, none⟩ (.int .i64 r)).setCell ⟨w.heap.size, 1, none⟩ v).heap[w.heap.size]? = some (.cells #[.int .i64 r, v] 30 (0, 0))))
  have HL := Lib.hid hl
  have HLE := Lib.hid hle
  have S1 := Lib.hid (show w0.heap.size = w.heap.size + 1 from HS.out)
  clear EW hr hb1 R1 hl hle
  by_cases h0 : l = []
  · subst h0
    clear HL
    simp only [List.length_nil] at hm ⊢
    go_wp2
    refine bodyPost_ret (results_row_slot rfl _ _ (w.heap.size) 30 #[.int .i64 0, .slice none 0 0] (0, 0) _ _ rfl rfl (EF.out 0 (.slice none 0 0)) Tryd.underlying30 rfl sizeAct) rfl ?_
    unfold PckRes
    rw [HLE.out]
    exact ⟨⟨0, []⟩, _, 50, rfl, RSl.nil, B1.out.trans ((FIN.out _ _).below B1.out.size (fun x hx => by rw [List.mem_singleton.1 hx]; omega)), .inl ⟨rfl, rfl, rfl⟩⟩
  · have hpos : 0 < l.length := List.length_pos_iff.2 h0
    have H0 := Lib.hid h0
    have hne : ((l.length : Int) == 0) = false := by simp; omega
    have IW := Lib.hid (fun (W : World) => idx_any n (l.length : Int) W hn (WalkArith.wf_i64 (by omega)))
    have hrng : 0 ≤ idxOf n (l.length : Int) ∧ idxOf n (l.length : Int) < (l.length : Int) := by
      unfold idxOf
      rw [if_neg (by omega)]
      exact ⟨Int.emod_nonneg _ (by omega), Int.emod_lt_of_pos _ (by omega)⟩
    obtain ⟨k, hk⟩ : ∃ k : Nat, idxOf n (l.length : Int) = (k : Int) := ⟨(idxOf n (l.length : Int)).toNat, by omega⟩
    have HK := Lib.hid hk
    rw [hk] at IW hrng
    obtain ⟨x, hx⟩ : ∃ x, l[k]? = some x := ⟨_, List.getElem?_eq_getElem (by omega)⟩
    have HX := Lib.hid hx
    obtain ⟨b, off, rfl, hbF, _, cs, ⟨sv, rfl, hok, hsv⟩, hc⟩ := HL.out.at hx
    obtain ⟨A3, c3, rfl⟩ := hsv.form
    have d0 := hc 0 _ rfl
    have d1 := hc 1 _ rfl
    simp only [Nat.add_zero] at d0
    have HSV := Lib.hid hsv
    obtain ⟨e1, e2⟩ := hrng
    clear h0 hk hx hc hok hsv
    go_wp2_with fail
    refine (IW.out _).mono ?_
    rintro e w2 ⟨rfl, rfl⟩
    go_wp2
    refine bodyPost_ret (results_row_slot rfl _ _ (w.heap.size) 30 #[.int .i64 x.rule, .slice A3 x.sub.length c3] (0, 0) _ _ rfl rfl (EF.out x.rule (.slice A3 x.sub.length c3)) Tryd.underlying30 rfl sizeAct) rfl ?_
    unfold PckRes
    rw [HLE.out]
    refine ⟨x, _, 0, rfl, ?_, B1.out.trans ((FIN.out _ _).below B1.out.size (fun x hx => by rw [List.mem_singleton.1 hx]; omega)), .inr ⟨H0.out, by rw [HK.out]; exact HX.out, rfl⟩⟩
    refine HSV.out.kp (Kp.of_turns (FIN.out _ _) (fun b hb hf => ?_)) (fun b _ hb => by have := S1.out; omega) (fun _ _ h => h)
    rw [List.mem_singleton.1 hb] at hf
    have := S1.out
    omega
end Go.Proofs.YtjgigcnjgblekaaDoor

namespace Go.Proofs.YtjgigcnjgblekaaDoor
open Go Go.RowKit Go.Maps Classical

/-- The law's state: an agenda, and the book that tells the same. -/
structure TuS (a b c : Int) (M : List Nat) (p mc mf q N : Nat) (C D : List Ac) (w : World) : Prop where
  ag : AgAt M w p mc mf ⟨lv3 a b c, fourL, C, D⟩ N
  bk : BkAt w q (inB C) (inB D)
  hC : ∀ x ∈ C, x ∈ all21
  hD : ∀ x ∈ D, x ∈ all21
  ML : ∀ x ∈ M, x < w.heap.size
  qM : q ∈ M ∧ q ≠ mc ∧ q ≠ mf
section
variable {a b c : Int} {M : List Nat} {p mc mf q N : Nat} {C D : List Ac} {w w' : World}
theorem TuS.below (h : TuS a b c M p mc mf q N C D w) (hb : Below w.heap.size w w') : TuS a b c M p mc mf q N C D w' :=
  ⟨h.ag.below hb, h.bk.below hb, h.hC, h.hD, fun x hx => Nat.lt_of_lt_of_le (h.ML x hx) hb.size, h.qM⟩
theorem TuS.mono (h : TuS a b c M p mc mf q N C D w) {N' : Nat} (hn : N ≤ N') : TuS a b c M p mc mf q N' C D w := ⟨h.ag.mono hn, h.bk, h.hC, h.hD, h.ML, h.qM⟩
theorem TuS.c21 (h : TuS a b c M p mc mf q N C D w) : C.length ≤ 21 := all21_len h.hC h.ag.ok.nodC
theorem TuS.d21 (h : TuS a b c M p mc mf q N C D w) : D.length ≤ 21 := all21_len h.hD h.ag.ok.nodD
end
theorem numsIn_inB (X : List Ac) : numsIn (· ∈ X) = (List.range 21).filter (inB X) := by
  unfold numsIn inB
  exact List.filter_congr fun k _ => decide_eq_decide.2 Iff.rfl
theorem OwnZ.rslN {w : World} {B : Nat} {v : Value} {l : List Nat} (h : OwnZ w B v (zN l)) (hl : ∀ k ∈ l, k < 21) : RSl (fun _ => True) w 1 EInt v (zN l) := h.rsl (fun _ _ => trivial) (zN_ok hl)
theorem elB_lt {lv : List Int} {C D : List Ac} : ∀ k ∈ elB lv C D, k < 21 := fun _ h => List.mem_range.1 (List.mem_filter.1 h).1

section
variable {P : Program} {ops : Array Oper} {rest : List Oper} {o : Oper} {a : Act} {w : World} {Q : Exit → Act → World → Prop}
theorem wpList_valT (hw : Region.wanted o (yielded ops a.tmps) = true) (v : Value) (hrun : (execOp a.eval o).run P w = .ok (.value v) w) (h : wpList P ops Q rest (a.put o.dst v) w) : wpList P ops Q (o :: rest) a w := by
  unfold wpList
  rw [if_pos hw]
  refine .inl ?_
  unfold Oper.wp
  rw [hrun]
  exact h
theorem run_load_midT (ty : TypeId) (x : Operand) (ho : o.op = .load ty x) (b off : Nat) (hx : a.eval x = .pointer (some ⟨b, off, none⟩)) (cs : List Value) (d : TypeDesc) (hc : w.rangeAt b off cs)
    (hu : P.underlying ty = some d) (hd : d.isRow = true) (hi : (P.info? ty).map (·.size) = some cs.length) : (execOp a.eval o).run P w = .ok (.value (.agg cs.toArray)) w := by
  unfold execOp
  simp only [ho, hx, Instr.loadAt, Instr.sureAddr, Sem.run_bind, Sem.run_pure, Result.andThen_ok, run_loadVar_mid w b off ty cs d hc hu hd hi]
theorem stop_load_gT {g : Nat × Bool} (_ : o.guard = some g) (t : TypeId) (x : Operand) (_ : o.op = .load t x) (h : Hid (wpList P ops Q (o :: rest) a w)) : wpList P ops Q (o :: rest) a w := h.out
end
theorem size21 (I : Nat → Bool) : (Tryd.prog.info? 45).map (·.size) = some (bArr I).length := by rw [bArr_len]; kernel_rfl
set_option maxRecDepth 100000 in
set_option maxHeartbeats 8000000 in
theorem toldW {a b c : Int} {M : List Nat} {p mc mf q N : Nat} {C D : List Ac} (w : World) (h : TuS a b c M p mc mf q N C D w) (hl : ∀ k, lvB (lv3 a b c) k ≤ 2) :
    Calls Tryd.prog 18 #[.pointer (some ⟨p, 0, none⟩), .pointer (some ⟨q, 0, none⟩), .agg #[.int .i64 a, .int .i64 b, .int .i64 c]] w fun e w' => e = .returned (.bool true) ∧ Below w.heap.size w w' := by
  obtain ⟨w0, hw0⟩ : ∃ w0, w0 = w.alloc (.cells #[.int .i64 a, .int .i64 b, .int .i64 c] 42) := ⟨_, rfl⟩
  have hx0 : Below (w.heap.size + 1) (w.alloc (.cells #[.int .i64 a, .int .i64 b, .int .i64 c] 42)) w0 := by rw [hw0]; exact Below.refl _ _
  have hb0 := box_belowD hx0
  have x0 := box_cellD hx0 0 rfl
  have x1 := box_cellD hx0 1 rfl
  have x2 := box_cellD hx0 2 rfl
  have EN := Lib.hid (elig_num h.ag.ok h.hC hl)
  have CN := Lib.hid ((sort_num h.ag.ok.nodC h.hC).trans (numsIn_inB C))
  have FN := Lib.hid ((sort_num h.ag.ok.nodD h.hD).trans (numsIn_inB D))
  have CM := Lib.hid (fun x (hx : x ∈ sortA fourL C) => h.hC x ((sortA_perm _ _).mem_iff.1 hx))
  have FM := Lib.hid (fun x (hx : x ∈ sortA fourL D) => h.hD x ((sortA_perm _ _).mem_iff.1 hx))
  have L21 := Lib.hid (show C.length ≤ 40000000 ∧ D.length ≤ 40000000 from ⟨by have := h.c21; omega, by have := h.d21; omega⟩)
  have EL := Lib.hid (show (eligA ⟨lv3 a b c, fourL, C, D⟩).length ≤ 40000000 by
    have := (sortA_perm fourL ((openA ⟨lv3 a b c, fourL, C, D⟩).filter (fun x => decide (lvl (lv3 a b c) x = strA ⟨lv3 a b c, fourL, C, D⟩)))).length_eq
    have h2 := List.length_filter_le (fun x => decide (lvl (lv3 a b c) x = strA ⟨lv3 a b c, fourL, C, D⟩)) (openA ⟨lv3 a b c, fourL, C, D⟩)
    have h3 := List.length_filter_le (fun x => decide (x ∉ D)) C
    have h4 := h.c21
    show (sortA fourL ((openA ⟨lv3 a b c, fourL, C, D⟩).filter (fun x => decide (lvl (lv3 a b c) x = strA ⟨lv3 a b c, fourL, C, D⟩)))).length ≤ _
    unfold openA at this h2 ⊢
    simp only at this h2 ⊢
    omega)
  have CL := Lib.hid (show (sortA fourL C).length ≤ 40000000 ∧ (sortA fourL D).length ≤ 40000000 by rw [(sortA_perm fourL C).length_eq, (sortA_perm fourL D).length_eq]; exact L21.out)
  have HS := Lib.hid (h.below hb0)
  have HB0 := Lib.hid hb0
  clear hx0 hb0 h hl
  go_enter Tryd.func18, Tryd.ntmps18
  go_upto_region 1 with fail
  rw [← hw0]
  clear hw0
  go_wp2_with fail
  refine (bookEligW a b c C D q w0 HS.out.bk).mono ?_
  rintro e w1 ⟨v1, rfl, ho1, hb1⟩
  obtain ⟨A1, c1, rfl⟩ := ho1.form
  rw [zN_len] at ho1 ⊢
  have S1 := Lib.hid (HS.out.below hb1)
  have B1 := Lib.hid (HB0.out.trans (hb1.mono HB0.out.size))
  have O1 := Lib.hid (ho1.rslN elB_lt)
  clear ho1 hb1 x0 x1 x2
  go_wp2_with fail
  refine (eligibleW w1 S1.out.ag L21.out.1).mono ?_
  intro e w2 hr
  obtain ⟨A2, c2, rfl, hb2, hr2⟩ := hr.rsl
  have S2 := Lib.hid (S1.out.below hb2)
  have B2 := Lib.hid (B1.out.trans (hb2.mono B1.out.size))
  have O2 := Lib.hid (O1.out.keep (Kp.of_below hb2))
  have R2 := Lib.hid hr2
  clear hr hb2 hr2
  go_wp2_with fail
  refine (numbersW _ _ w2 R2.out EN.out.2 EL.out).mono ?_
  rintro e w3 ⟨v3, rfl, ho3, hb3⟩
  rw [EN.out.1] at ho3
  obtain ⟨A3, c3, rfl⟩ := ho3.form
  rw [zN_len] at ho3 ⊢
  have S3 := Lib.hid (S2.out.below hb3)
  have B3 := Lib.hid (B2.out.trans (hb3.mono B2.out.size))
  have O3 := Lib.hid (O2.out.keep (Kp.of_below hb3))
  have P3 := Lib.hid (ho3.rslN elB_lt)
  clear ho3 hb3
  go_wp2_with fail
  refine (conflictW w3 S3.out.ag L21.out.1).mono ?_
  intro e w4 hr
  obtain ⟨A4, c4, rfl, hb4, hr4⟩ := hr.rsl
  have S4 := Lib.hid (S3.out.below hb4)
  have B4 := Lib.hid (B3.out.trans (hb4.mono B3.out.size))
  have R4 := Lib.hid hr4
  have O4 := Lib.hid (O3.out.keep (Kp.of_below hb4))
  have P4 := Lib.hid (P3.out.keep (Kp.of_below hb4))
  clear hr hb4 hr4
  go_wp2_with fail
  refine (numbersW _ _ w4 R4.out CM.out CL.out.1).mono ?_
  rintro e w5 ⟨v5, rfl, ho5, hb5⟩
  rw [CN.out] at ho5
  obtain ⟨A5, c5, rfl⟩ := ho5.form
  rw [zN_len] at ho5 ⊢
  have S5 := Lib.hid (S4.out.below hb5)
  have B5 := Lib.hid (B4.out.trans (hb5.mono B4.out.size))
  have O5 := Lib.hid (O4.out.keep (Kp.of_below hb5))
  have P5 := Lib.hid (P4.out.keep (Kp.of_below hb5))
  have Q5 := Lib.hid (ho5.rslN filter_lt)
  clear ho5 hb5
  go_wp2_with fail
  refine (firedW w5 S5.out.ag L21.out.2).mono ?_
  intro e w6 hr
  obtain ⟨A6, c6, rfl, hb6, hr6⟩ := hr.rsl
  have S6 := Lib.hid (S5.out.below hb6)
  have B6 := Lib.hid (B5.out.trans (hb6.mono B5.out.size))
  have R6 := Lib.hid hr6
  have O6 := Lib.hid (O5.out.keep (Kp.of_below hb6))
  have P6 := Lib.hid (P5.out.keep (Kp.of_below hb6))
  have Q6 := Lib.hid (Q5.out.keep (Kp.of_below hb6))
  clear hr hb6 hr6
  go_wp2_with fail
  refine (numbersW _ _ w6 R6.out FM.out CL.out.2).mono ?_
  rintro e w7 ⟨v7, rfl, ho7, hb7⟩
  rw [FN.out] at ho7
  obtain ⟨A7, c7, rfl⟩ := ho7.form
  rw [zN_len] at ho7 ⊢
  have S7 := Lib.hid (S6.out.below hb7)
  have B7 := Lib.hid (B6.out.trans (hb7.mono B6.out.size))
  have O7 := Lib.hid (O6.out.keep (Kp.of_below hb7))
  have P7 := Lib.hid (P6.out.keep (Kp.of_below hb7))
  have Q7 := Lib.hid (Q6.out.keep (Kp.of_below hb7))
  have U7 := Lib.hid (ho7.rslN filter_lt)
  clear ho7 hb7
  go_wp2_with fail
  refine (intsW _ _ _ w7 P7.out O7.out).mono ?_
  rintro e w8 ⟨rfl, hb8⟩
  have S8 := Lib.hid (S7.out.below hb8)
  have B8 := Lib.hid (B7.out.trans (hb8.mono B7.out.size))
  have Q8 := Lib.hid (Q7.out.keep (Kp.of_below hb8))
  have U8 := Lib.hid (U7.out.keep (Kp.of_below hb8))
  clear hb8
  go_wp2_with (with_reducible refine stop_load_gT rfl 45 (.tmp 51) rfl ?_)
  refine Lib.hid ?_
  refine wpList_valT (by rfl) _ (run_load_midT 45 (.tmp 51) rfl q 0 rfl (bArr (inB C)) _ S8.out.bk.rangeI Tryd.underlying45 rfl (size21 _)) ?_
  go_wp2_with fail
  refine (markedW (inB C) _ (fun k hk => bArr_at hk) w8).mono ?_
  rintro e w9 ⟨v9, rfl, ho9, hb9⟩
  obtain ⟨A9, c9, rfl⟩ := ho9.form
  rw [zN_len] at ho9 ⊢
  have S9 := Lib.hid (S8.out.below hb9)
  have B9 := Lib.hid (B8.out.trans (hb9.mono B8.out.size))
  have Q9 := Lib.hid (Q8.out.keep (Kp.of_below hb9))
  have U9 := Lib.hid (U8.out.keep (Kp.of_below hb9))
  have V9 := Lib.hid (ho9.rslN filter_lt)
  clear ho9 hb9
  go_wp2_with fail
  refine (intsW _ _ _ w9 Q9.out V9.out).mono ?_
  rintro e w10 ⟨rfl, hb10⟩
  have S10 := Lib.hid (S9.out.below hb10)
  have B10 := Lib.hid (B9.out.trans (hb10.mono B9.out.size))
  have U10 := Lib.hid (U9.out.keep (Kp.of_below hb10))
  clear hb10
  go_wp2_with (with_reducible refine stop_load_gT rfl 45 (.tmp 60) rfl ?_)
  refine Lib.hid ?_
  refine wpList_valT (by rfl) _ (run_load_midT 45 (.tmp 60) rfl q 21 rfl (bArr (inB D)) _ S10.out.bk.rangeF Tryd.underlying45 rfl (size21 _)) ?_
  go_wp2_with fail
  refine (markedW (inB D) _ (fun k hk => bArr_at hk) w10).mono ?_
  rintro e w11 ⟨v11, rfl, ho11, hb11⟩
  obtain ⟨A11, c11, rfl⟩ := ho11.form
  rw [zN_len] at ho11 ⊢
  have B11 := Lib.hid (B10.out.trans (hb11.mono B10.out.size))
  have U11 := Lib.hid (U10.out.keep (Kp.of_below hb11))
  have V11 := Lib.hid (ho11.rslN filter_lt)
  clear ho11 hb11
  go_wp2_with fail
  refine (intsW _ _ _ w11 U11.out V11.out).mono ?_
  rintro e w12 ⟨rfl, hb12⟩
  have B12 := Lib.hid (B11.out.trans (hb12.mono B11.out.size))
  clear hb12
  go_wp2
  go_ret
  exact ⟨rfl, B12.out⟩
end Go.Proofs.YtjgigcnjgblekaaDoor
