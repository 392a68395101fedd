/- A struct of many cells as one row: into a new block, out of a block, as the first of two results. Over any program. Pick: the act that a pick means. The walk. The reference's agenda in its block; own, open, Stratum, Eligible, Conflict, Fired, Pick. The walks. -/
import Derived.Test.YtjgigcnjgblekaaDoorKap24
import Derived.Test.YtjgigcnjgblekaaDoorKap25
import Derived.Deep.WholeRow
import Derived.StillTailTactics
import Derived.WalkKit
namespace Go.Proofs.YtjgigcnjgblekaaDoor
open Go Go.RowKit
section
variable {P : Program}
/-- Where a walk stops: at a build, a store, a load. -/
theorem stop_build {ops : Array Oper} {rest : List Oper} {o : Oper} {a : Act} {w : World} {Q : Exit → Act → World → Prop} (_ : o.guard = none) (t : TypeId) (parts : Array (Nat × Operand)) (_ : o.op = .build t parts) (h : Hid (wpList P ops Q (o :: rest) a w)) : wpList P ops Q (o :: rest) a w := h.out
theorem stop_store {ops : Array Oper} {rest : List Oper} {o : Oper} {a : Act} {w : World} {Q : Exit → Act → World → Prop} (_ : o.guard = none) (t : TypeId) (x y : Operand) (_ : o.op = .store t x y) (h : Hid (wpList P ops Q (o :: rest) a w)) : wpList P ops Q (o :: rest) a w := h.out
theorem stop_load {ops : Array Oper} {rest : List Oper} {o : Oper} {a : Act} {w : World} {Q : Exit → Act → World → Prop} (_ : o.guard = none) (t : TypeId) (x : Operand) (_ : o.op = .load t x) (h : Hid (wpList P ops Q (o :: rest) a w)) : wpList P ops Q (o :: rest) a w := h.out
theorem wpList_store_new {ops : Array Oper} {rest : List Oper} {o : Oper} {a : Act} {Q : Exit → Act → World → Prop} {w : World} (hgd : o.guard = none) (ty : TypeId) (x y : Operand) (ho : o.op = .store ty x y)
    (B : Nat) (hB : w.heap.size = B) (c c' : Array Value) (t : TypeId) (hx : a.eval x = .pointer (some ⟨B, 0, none⟩)) (hy : a.eval y = .agg c') (hi : (P.info? ty).map (·.size) = some c'.size)
    (hold : c.size = c'.size) (h1 : c'.all (·.oneCell') = true) (h : wpList P ops Q rest (a.put o.dst undef) (w.alloc (.cells c' t))) : wpList P ops Q (o :: rest) a (w.alloc (.cells c t)) := by
  subst hB
  refine wpList_store_row hgd ty x y ho w.heap.size c' hx hy t c (heap_alloc_last w _) hi hold h1 ?_
  rw [World.setRow_alloc_new]
  exact h
theorem wpList_build_to {ops : Array Oper} {rest : List Oper} {o : Oper} {a : Act} {w : World} {Q : Exit → Act → World → Prop} (hg : o.guard = none) (t : TypeId) (parts : Array (Nat × Operand)) (ho : o.op = .build t parts)
    (l : List (Nat × Value)) (hl : (parts.map fun (i, x) => (i, a.eval x)).toList = l) (v : Array Value) (hv : P.built t l = some v) (h : wpList P ops Q rest (a.put o.dst (.agg v)) w) : wpList P ops Q (o :: rest) a w := by
  subst hl
  refine wpList_build hg t parts ho (by rw [hv]; rfl) ?_
  rw [hv]
  exact h
/-- A whole row read in a region that only reads. -/
theorem wpStill_load_row {ops : Array Oper} {rest : List Oper} {o : Oper} {a : Act} {w : World} {Q : Act → Prop} (hgd : o.guard = none) (ty : TypeId) (x : Operand) (ho : o.op = .load ty x)
    (g : Nat) (hx : a.eval x = .pointer (some ⟨g, 0, none⟩)) (t : TypeId) (cs : Array Value) (fr : Nat × Nat) (d : TypeDesc) (hg : w.heap[g]? = some (.cells cs t fr))
    (hu : P.underlying ty = some d) (hd : (match d with | .struct _ | .array _ _ => true | _ => false) = true) (hi : (P.info? ty).map (·.size) = some cs.size)
    (h : wpStill P ops w Q rest (a.put o.dst (.agg cs))) : wpStill P ops w Q (o :: rest) a := by
  refine wpStill_step (fun K hK => ?_)
  have hw : Region.wanted o (yielded ops a.tmps) = true := by simp [Region.wanted, hgd]
  rw [if_pos hw]
  unfold Oper.still execOp
  simp only [ho, hx, Instr.loadAt, Instr.sureAddr, Sem.run_bind, Sem.run_pure, Result.andThen_ok, run_loadVar_row w g t ty cs fr d hg hu hd hi]
  exact ⟨rfl, hK _ h⟩
theorem results_row_slot {fn : Func} {p q : Tmp} {ty : TypeId} (h : fn.results = #[.cell p ty, .tmp q]) (tmps : Array Value) (w : World) (g : Nat) (t : TypeId) (cs : Array Value) (fr : Nat × Nat) (d : TypeDesc) (v : Value)
    (hp : tmps.getD p undef = .pointer (some ⟨g, 0, none⟩)) (hq : tmps.getD q undef = v) (hg : w.heap[g]? = some (.cells cs t fr))
    (hu : P.underlying ty = some d) (hd : (match d with | .struct _ | .array _ _ => true | _ => false) = true) (hi : (P.info? ty).map (·.size) = some cs.size) :
    (results fn tmps).run P w = .ok (.tuple #[.agg cs, v]) w := by
  have hp' : tmps[p]?.getD undef = .pointer (some ⟨g, 0, none⟩) := by simpa using hp
  have hq' : tmps[q]?.getD undef = v := by simpa using hq
  simp [results, h, hp', hq', asAddr, run_loadVar_row w g t ty cs fr d hg hu hd hi]
theorem heap_setRow (w : World) (g : Nat) (cs cs' : Array Value) (t : TypeId) (h : w.heap[g]? = some (.cells cs t (0, 0))) : (w.setRow g cs').heap[g]? = some (.cells cs' t (0, 0)) :=
  setRow_heap w g cs cs' t _ h
end
end Go.Proofs.YtjgigcnjgblekaaDoor

namespace Go.Proofs.YtjgigcnjgblekaaDoor
open Go Go.RowKit Go.Maps Classical

/-- What Pick leaves. -/
def PckRes (l : List Ac) (n : Int) (w : World) (e : Ending) (w' : World) : Prop :=
  ∃ (x : Ac) (sv : Value) (er : Int), e = .returned (.tuple #[.agg #[.int .i64 x.rule, sv], .int .i64 er]) ∧ RSl (fun b => w.heap.size ≤ b) w' 1 EInt sv x.sub ∧ Below w.heap.size w w' ∧
    ((l = [] ∧ x = ⟨0, []⟩ ∧ er = 50) ∨ (l ≠ [] ∧ l[(idxOf n l.length).toNat]? = some x ∧ er = 0))
theorem LstRes.rsl {l : List Ac} {w w' : World} {e : Ending} (h : LstRes l w e w') : ∃ A c, e = .returned (.slice A l.length c) ∧ Below w.heap.size w w' ∧ RSl (fun b => w.heap.size ≤ b) w' 2 (EAc (fun b => w.heap.size ≤ b) w') (.slice A l.length c) l := by
  obtain ⟨v, zs, rfl, hz, hm, hb⟩ := h
  obtain ⟨A, c, rfl⟩ := hz.form
  have hl : zs.length = l.length := by rw [← hm, List.length_map]
  have hr := hz.rsl
  rw [hm, hl] at hr
  exact ⟨A, c, by rw [hl], hb, hr⟩
set_option maxRecDepth 100000 in
set_option maxHeartbeats 4000000 in
theorem pickW {M : List Nat} {p mc mf N : Nat} {G : Agd} (n : Int) (hn : i64ok n) (w : World) (h : AgAt M w p mc mf G N) (hlen : G.C.length ≤ 40000000) :
    Calls Tryd.prog 29 #[.pointer (some ⟨p, 0, none⟩), .int .i64 n] w (PckRes (eligA G) n w) := by
  obtain ⟨w0, hw0⟩ : ∃ w0, w0 = w.alloc (.cells #[.int .i64 0, .slice none 0 0] 30) := ⟨_, rfl⟩
  have hb0 : Below w.heap.size w w0 := by rw [hw0]; exact (Below.refl _ _).alloc (Nat.le_refl _) _
  have hr0 : w0.heap[w.heap.size]? = some (.cells #[.int .i64 0, .slice none 0 0] 30 (0, 0)) := by rw [hw0]; exact heap_alloc_new w _
  have hs0 : w0.heap.size = w.heap.size + 1 := by rw [hw0]; simp
  have EW := Lib.hid (eligibleW w0 (h.below hb0) hlen)
  have HB := Lib.hid hb0
  have HR0 := Lib.hid hr0
  have HS := Lib.hid hs0
  clear h hb0 hr0 hs0
  go_enter Tryd.func29, Tryd.ntmps29
  go_upto_region 1 with fail
  rw [← hw0]
  clear hw0
  go_wp2_with fail
  refine EW.out.mono ?_
  intro e w1 hr
  obtain ⟨A, c, rfl, hb1, hl⟩ := hr.rsl
  obtain ⟨l, hle⟩ : ∃ l, eligA G = l := ⟨_, rfl⟩
  rw [hle] at hl ⊢
  have R1 : w1.heap[w.heap.size]? = some (.cells #[.int .i64 0, .slice none 0 0] 30 (0, 0)) := (hb1.block _ (by have := HS.out; omega)).trans HR0.out
  have B1 := Lib.hid (HB.out.trans (hb1.mono HB.out.size))
  have HR1 := Lib.hid R1
  have hm := hl.len
  unfold maxLen at hm
  have y0 : w1.cell? ⟨w.heap.size, 0, none⟩ = some (.int .i64 0) := cell_of_row _ _ 0 _ _ _ R1
  have y1 : w1.cell? ⟨w.heap.size, 1, none⟩ = some (.slice none 0 0) := cell_of_row _ _ 1 _ _ _ R1
  have yf : ∀ o, w1.frozen? ⟨w.heap.size, o, none⟩ = false := fun o => by simp [World.frozen?, R1]
  have FIN := Lib.hid (fun (r : Int) (v : Value) => (show Turns [w.heap.size] w1 ((w1.setCell ⟨w.heap.size, 0, none⟩ (.int .i64 r)).setCell ⟨w.heap.size, 1, none⟩ v) from ((Turns.refl _ _).setCell (.inl (by simp)) _).setCell (.inl (by simp)) _))
  have EF := Lib.hid (fun (r : Int) (v : Value) => (heap_setCell_same _ _ 1 _ _ _ (heap_setCell_same _ _ 0 _ _ _ R1) : ((w1.setCell ⟨w.heap.size, 0, none⟩ (.int .i64 r)).setCell ⟨w.heap.size, 1, none⟩ v).heap[w.heap.size]? = some (.cells #[.int .i64 r, v] 30 (0, 0))))
  have HL := Lib.hid hl
  have HLE := Lib.hid hle
  have S1 := Lib.hid (show w0.heap.size = w.heap.size + 1 from HS.out)
  clear EW hr hb1 R1 hl hle
  by_cases h0 : l = []
  · subst h0
    clear HL
    simp only [List.length_nil] at hm ⊢
    go_wp2
    refine bodyPost_ret (results_row_slot rfl _ _ (w.heap.size) 30 #[.int .i64 0, .slice none 0 0] (0, 0) _ _ rfl rfl (EF.out 0 (.slice none 0 0)) Tryd.underlying30 rfl sizeAct) rfl ?_
    unfold PckRes
    rw [HLE.out]
    exact ⟨⟨0, []⟩, _, 50, rfl, RSl.nil, B1.out.trans ((FIN.out _ _).below B1.out.size (fun x hx => by rw [List.mem_singleton.1 hx]; omega)), .inl ⟨rfl, rfl, rfl⟩⟩
  · have hpos : 0 < l.length := List.length_pos_iff.2 h0
    have H0 := Lib.hid h0
    have hne : ((l.length : Int) == 0) = false := by simp; omega
    have IW := Lib.hid (fun (W : World) => idx_any n (l.length : Int) W hn (WalkArith.wf_i64 (by omega)))
    have hrng : 0 ≤ idxOf n (l.length : Int) ∧ idxOf n (l.length : Int) < (l.length : Int) := by
      unfold idxOf
      rw [if_neg (by omega)]
      exact ⟨Int.emod_nonneg _ (by omega), Int.emod_lt_of_pos _ (by omega)⟩
    obtain ⟨k, hk⟩ : ∃ k : Nat, idxOf n (l.length : Int) = (k : Int) := ⟨(idxOf n (l.length : Int)).toNat, by omega⟩
    have HK := Lib.hid hk
    rw [hk] at IW hrng
    obtain ⟨x, hx⟩ : ∃ x, l[k]? = some x := ⟨_, List.getElem?_eq_getElem (by omega)⟩
    have HX := Lib.hid hx
    obtain ⟨b, off, rfl, hbF, _, cs, ⟨sv, rfl, hok, hsv⟩, hc⟩ := HL.out.at hx
    obtain ⟨A3, c3, rfl⟩ := hsv.form
    have d0 := hc 0 _ rfl
    have d1 := hc 1 _ rfl
    simp only [Nat.add_zero] at d0
    have HSV := Lib.hid hsv
    obtain ⟨e1, e2⟩ := hrng
    clear h0 hk hx hc hok hsv
    go_wp2_with fail
    refine (IW.out _).mono ?_
    rintro e w2 ⟨rfl, rfl⟩
    go_wp2
    refine bodyPost_ret (results_row_slot rfl _ _ (w.heap.size) 30 #[.int .i64 x.rule, .slice A3 x.sub.length c3] (0, 0) _ _ rfl rfl (EF.out x.rule (.slice A3 x.sub.length c3)) Tryd.underlying30 rfl sizeAct) rfl ?_
    unfold PckRes
    rw [HLE.out]
    refine ⟨x, _, 0, rfl, ?_, B1.out.trans ((FIN.out _ _).below B1.out.size (fun x hx => by rw [List.mem_singleton.1 hx]; omega)), .inr ⟨H0.out, by rw [HK.out]; exact HX.out, rfl⟩⟩
    refine HSV.out.kp (Kp.of_turns (FIN.out _ _) (fun b hb hf => ?_)) (fun b _ hb => by have := S1.out; omega) (fun _ _ h => h)
    rw [List.mem_singleton.1 hb] at hf
    have := S1.out
    omega
end Go.Proofs.YtjgigcnjgblekaaDoor

namespace Go.Proofs.YtjgigcnjgblekaaDoor
open Go Go.RowKit Go.Maps Classical

/-- The reference's agenda at block rb: it, and the rows of its two lists, lie in blocks of M, none of X. -/
structure RfAt (M X : List Nat) (B : Nat) (w : World) (rb : Nat) (g : Agd) : Prop where
  blk : ∃ lv cv cn fr, w.heap[rb]? = some (.cells #[lv, cv, cn, fr] 89 (0, 0)) ∧ RSl (fun b => b ∉ M) w 1 EInt lv g.lv ∧ RSl (fun b => b ∉ M) w 3 ECst cv g.cs ∧
    OwnF (fun b => b ∉ M) B w 30 cdAc cn g.C ∧ OwnF (fun b => b ∉ M) B w 30 cdAc fr g.D ∧
    (∀ b, cn.ownBlock = some b → b ∈ M ∧ b ∉ X ∧ b ≠ rb) ∧ (∀ b, fr.ownBlock = some b → b ∈ M ∧ b ∉ X ∧ b ≠ rb) ∧ (∀ b, cn.ownBlock = some b → fr.ownBlock ≠ some b)
  rM : rb ∈ M ∧ rb ∉ X
  ok : AgOk g
  acC : ∀ a ∈ g.C, AcOk a
  acD : ∀ a ∈ g.D, AcOk a
  big : g.lv.length ≤ maxLen ∧ g.cs.length ≤ maxLen
  cz : ∀ c ∈ g.cs, c.s.size ≤ maxLen
section
variable {M M' X S : List Nat} {B : Nat} {w w' : World} {rb : Nat} {g : Agd}
theorem RfAt.lt (h : RfAt M X B w rb g) : rb < w.heap.size := by
  obtain ⟨lv, cv, cn, fr, h1, _⟩ := h.blk; exact lt_of_heap h1
/-- Blocks of X turn; some new ones come to M. -/
theorem RfAt.step (h : RfAt M X B w rb g) (T : Turns S w w') (hs : ∀ x ∈ S, x ∈ M ∧ x ∈ X) (hM : ∀ x ∈ M, x ∈ M') (hM' : ∀ x ∈ M', x ∈ M ∨ w.heap.size ≤ x) : RfAt M' X B w' rb g := by
  have K : Kp (fun b => b ∉ M) w w' := Kp.of_turns T (fun x hx h => h (hs x hx).1)
  have hF : ∀ b, b < w.heap.size → b ∉ M → b ∉ M' := fun b hb hn hm => by
    rcases hM' b hm with h1 | h1
    · exact hn h1
    · omega
  have hr := h.lt
  obtain ⟨lv, cv, cn, fr, h1, h2, h3, h4, h5, h6, h7, h8⟩ := h.blk
  refine ⟨⟨lv, cv, cn, fr, (T.block _ hr (fun hm => h.rM.2 (hs _ hm).2)).trans h1, h2.kp K hF (fun _ _ h => h), h3.kp K hF (fun _ _ h => h), ?_, ?_, fun b hb => ⟨hM b (h6 b hb).1, (h6 b hb).2⟩, fun b hb => ⟨hM b (h7 b hb).1, (h7 b hb).2⟩, h8⟩, ⟨hM _ h.rM.1, h.rM.2⟩, h.ok, h.acC, h.acD, h.big, h.cz⟩
  · exact h4.keep T (fun b hb hm => (h6 b hb).2.1 (hs b hm).2) (fun b hb hn => hn (hs b hb).1) hF
  · exact h5.keep T (fun b hb hm => (h7 b hb).2.1 (hs b hm).2) (fun b hb hn => hn (hs b hb).1) hF
theorem RfAt.below (h : RfAt M X B w rb g) (hb : Below w.heap.size w w') : RfAt M X B w' rb g := h.step (S := []) (Turns.of_below hb) (fun _ hx => by simp at hx) (fun _ h => h) (fun _ h => .inl h)
/-- What is read of it. -/
theorem RfAt.cells (h : RfAt M X B w rb g) : ∃ A1 c1 A2 c2 A3 c3 A4 c4, w.cell? ⟨rb, 0, none⟩ = some (.slice A1 g.lv.length c1) ∧ w.cell? ⟨rb, 1, none⟩ = some (.slice A2 g.cs.length c2) ∧ w.cell? ⟨rb, 2, none⟩ = some (.slice A3 g.C.length c3) ∧ w.cell? ⟨rb, 3, none⟩ = some (.slice A4 g.D.length c4) ∧
    RSl (fun _ => True) w 1 EInt (.slice A1 g.lv.length c1) g.lv ∧ RSl (fun _ => True) w 3 ECst (.slice A2 g.cs.length c2) g.cs ∧ RSl (fun _ => True) w 2 (EAc (fun _ => True) w) (.slice A3 g.C.length c3) g.C ∧ RSl (fun _ => True) w 2 (EAc (fun _ => True) w) (.slice A4 g.D.length c4) g.D := by
  obtain ⟨lv, cv, cn, fr, h1, h2, h3, h4, h5, h6, h7, h8⟩ := h.blk
  obtain ⟨A1, c1, rfl⟩ := h2.form
  obtain ⟨A2, c2, rfl⟩ := h3.form
  obtain ⟨A3, c3, rfl⟩ := h4.form
  obtain ⟨A4, c4, rfl⟩ := h5.form
  have hE : ∀ cs (x : Ac), cdAc.E (fun b => b ∉ M) w cs x → EAc (fun _ => True) w cs x := fun cs x hc => EAc.kp hc (Kp.refl _ _) (fun _ _ _ => trivial)
  exact ⟨A1, c1, A2, c2, A3, c3, A4, c4, cell_of_row _ _ 0 _ _ _ h1, cell_of_row _ _ 1 _ _ _ h1, cell_of_row _ _ 2 _ _ _ h1, cell_of_row _ _ 3 _ _ _ h1, h2.kp (Kp.refl _ _) (fun _ _ _ => trivial) (fun _ _ h => h), h3.kp (Kp.refl _ _) (fun _ _ _ => trivial) (fun _ _ h => h),
    (h4.rsl (G := fun _ => True) (fun _ _ => trivial)).kp (Kp.refl _ _) (fun _ _ h => h) hE, (h5.rsl (G := fun _ => True) (fun _ _ => trivial)).kp (Kp.refl _ _) (fun _ _ h => h) hE⟩
end
theorem own_ids {g : Agd} {a : Ac} (h : ownA g a) : idsIn g.cs a := h.2
set_option maxRecDepth 100000 in
set_option maxHeartbeats 8000000 in
theorem rownW {F : Nat → Prop} {M X : List Nat} {B rb : Nat} {G : Agd} (a : Ac) (sv : Value) (w : World) (h : RfAt M X B w rb G) (hs : RSl F w 1 EInt sv a.sub) :
    Calls Tryd.prog 59 #[.pointer (some ⟨rb, 0, none⟩), .agg #[.int .i64 a.rule, sv]] w fun e w' => e = .returned (.bool (decide (ownA G a))) ∧ Below w.heap.size w w' := by
  obtain ⟨A2, c2, rfl⟩ := hs.form
  have hm := hs.len
  have hbig := h.big
  unfold maxLen at hm hbig
  obtain ⟨w0, hw0⟩ : ∃ w0, w0 = w.alloc (.cells #[.int .i64 a.rule, .slice A2 a.sub.length c2] 30) := ⟨_, rfl⟩
  have hx0 : Below (w.heap.size + 1) (w.alloc (.cells #[.int .i64 a.rule, .slice A2 a.sub.length c2] 30)) w0 := by rw [hw0]; exact Below.refl _ _
  have hb0 := box_belowD hx0
  have hs0 : w0.heap.size = w.heap.size + 1 := by rw [hw0]; simp
  have h0 := h.below hb0
  obtain ⟨B1, k1, B2, k2, B3, k3, B4, k4, y0, y1, y2, y3, L1, L2, L3, L4⟩ := h0.cells
  have hlt := h0.lt
  have BX := Lib.hid (fun (W : World) (hW : Below w0.heap.size w0 W) => (show W.cell? ⟨w.heap.size, 0, none⟩ = some (.int .i64 a.rule) ∧ W.cell? ⟨w.heap.size, 1, none⟩ = some (.slice A2 a.sub.length c2) ∧ W.cell? ⟨rb, 0, none⟩ = some (.slice B1 G.lv.length k1) ∧ W.cell? ⟨rb, 1, none⟩ = some (.slice B2 G.cs.length k2) from
    ⟨(hW.cell (p := ⟨w.heap.size, 0, none⟩) (by show w.heap.size < w0.heap.size; omega)).trans (box_cellD hx0 0 rfl), (hW.cell (p := ⟨w.heap.size, 1, none⟩) (by show w.heap.size < w0.heap.size; omega)).trans (box_cellD hx0 1 rfl),
     (hW.cell (p := ⟨rb, 0, none⟩) hlt).trans y0, (hW.cell (p := ⟨rb, 1, none⟩) hlt).trans y1⟩))
  have H2 := Lib.hid (hs.keep (Kp.of_below hb0))
  have HB := Lib.hid hb0
  have E0 := Lib.hid (Below.refl w0.heap.size w0)
  clear h h0 hs hx0 hb0 hs0 y0 y1 y2 y3 L1 L2 L3 L4 hlt
  obtain ⟨x0, x1, x2, x3⟩ := BX.out w0 E0.out
  go_enter Tryd.func59, Tryd.ntmps59
  go_upto_region 1 with fail
  rw [← hw0]
  clear hw0
  by_cases hr : 0 ≤ a.rule ∧ a.rule < (G.lv.length : Int)
  rotate_left
  · have HR := Lib.hid (show decide (ownA G a) = false from decide_eq_false fun e => hr e.1)
    by_cases hneg : a.rule < 0
    · clear hr
      go_quiet (fail)
      have DQ := Lib.hid (below_drewNA E0.out nq)
      go_wp2
      go_ret
      exact ⟨ret_boolA HR.out.symm, HB.out.trans (DQ.out.mono HB.out.size)⟩
    · have hge : a.rule ≥ (G.lv.length : Int) := by omega
      clear hr
      go_quiet (fail)
      have DQ := Lib.hid (below_drewNA E0.out nq)
      go_wp2
      go_ret
      exact ⟨ret_boolA HR.out.symm, HB.out.trans (DQ.out.mono HB.out.size)⟩
  have HRU := Lib.hid hr
  have hn1 : ¬ a.rule < 0 := by omega
  have hn2 : ¬ a.rule ≥ (G.lv.length : Int) := by omega
  clear hr
  go_quiet (fail)
  have DQ := Lib.hid (below_drewNA E0.out nq)
  go_wp2
  go_loopw [5] (fun i wr => ∃ k : Nat, i = .int .i64 (k : Int) ∧ k ≤ a.sub.length ∧ (∀ j s, j < k → a.sub[j]? = some s → 0 ≤ s ∧ s < (G.cs.length : Int)) ∧ Below w0.heap.size w0 wr) (fun i _ => a.sub.length - (intOf i).toNat)
  case atStart => exact ⟨0, rfl, Nat.zero_le _, fun j s hj => by omega, DQ.out⟩
  case round =>
    obtain ⟨k, rfl, hk, hal, hb⟩ := hrel
    have HAL := Lib.hid hal
    have HBW := Lib.hid hb
    obtain ⟨x0, x1, x2, x3⟩ := BX.out wr hb
    clear hal
    by_cases hkn : k < a.sub.length
    · obtain ⟨s, hs⟩ : ∃ s, a.sub[k]? = some s := ⟨_, List.getElem?_eq_getElem hkn⟩
      obtain ⟨b1, o1, rfl, _, _, cs, ⟨rfl, hok⟩, hc⟩ := (H2.out.keep (Kp.of_below hb)).at hs
      have d0 := hc 0 _ rfl
      simp only [Nat.add_zero, Nat.mul_one] at d0
      have e1 : (0 : Int) ≤ (k : Int) := by omega
      have e2 : (k : Int) < (a.sub.length : Int) := by omega
      have DN := Lib.hid (fun q => below_drewNA hb q)
      have HSS := Lib.hid hs
      clear hc hs hb hok
      by_cases hs1 : s < 0
      · have HR := Lib.hid (show decide (ownA G a) = false from decide_eq_false fun e => by have := (e.2 s (List.mem_of_getElem? HSS.out)).1; omega)
        go_wp2_with fail
        go_quiet (fail)
        have DQ2 := Lib.hid (DN.out nq)
        go_wp2
        go_ret
        exact ⟨ret_boolA HR.out.symm, HB.out.trans (DQ2.out.mono HB.out.size)⟩
      · by_cases hs2 : s < (G.cs.length : Int)
        · have hs3 : ¬ s ≥ (G.cs.length : Int) := by omega
          have NX := Lib.hid (fun j t (hj : j < k + 1) (ht : a.sub[j]? = some t) => (show 0 ≤ t ∧ t < (G.cs.length : Int) by
            rcases Nat.lt_or_ge j k with h | h
            · exact HAL.out j t h ht
            · obtain rfl : j = k := by omega
              rw [HSS.out] at ht
              obtain rfl := Option.some.inj ht
              omega))
          go_wp2_with fail
          go_quiet (fail)
          go_wp2
          exact ⟨⟨k + 1, by go_num, by omega, NX.out, DN.out _⟩, by simp [intOf]; omega⟩
        · have hs3 : s ≥ (G.cs.length : Int) := by omega
          have HR := Lib.hid (show decide (ownA G a) = false from decide_eq_false fun e => by have := (e.2 s (List.mem_of_getElem? HSS.out)).2; omega)
          go_wp2_with fail
          go_quiet (fail)
          have DQ2 := Lib.hid (DN.out nq)
          go_wp2
          go_ret
          exact ⟨ret_boolA HR.out.symm, HB.out.trans (DQ2.out.mono HB.out.size)⟩
    · obtain rfl : k = a.sub.length := by omega
      have HR := Lib.hid (show decide (ownA G a) = true from decide_eq_true ⟨HRU.out, fun i hi => by
        obtain ⟨j, hj⟩ := List.getElem?_of_mem hi
        exact HAL.out j i (List.getElem?_eq_some_iff.1 hj).1 hj⟩)
      clear hb
      go_wp2
      go_ret
      exact ⟨ret_boolA HR.out.symm, HB.out.trans (HBW.out.mono HB.out.size)⟩
end Go.Proofs.YtjgigcnjgblekaaDoor
