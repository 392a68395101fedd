/- The reference's back: the pattern of a node, read back. Reading a rule back, in plain Lean: sizes. -/
import Derived.Test.YtonkbjdeaneicaaKpc19
import Derived.Test.YtonkbjdeaneicaaKpc27
import Derived.Test.YtonkbjdeaneicaaKpc29
import Derived.Test.YtonkbjdeaneicaaKpc30
namespace Go.Proofs.Ytonkbjdeaneicaa.Pln
open Classical
theorem backK_len {cells : List Int} {ls : List (Int × Int)} {nw : List Int} {w : Int} : ∀ {k : Nat} {l : List Slt}, backK cells ls nw w k = some l → l.length = k
  | 0, l, h => by
    simp only [backK, Option.some.injEq] at h
    rw [← h]
    rfl
  | k + 1, l, h => by
    unfold backK at h
    cases h1 : backK cells ls nw w k with
    | none => rw [h1] at h; simp at h
    | some out =>
      have ih := backK_len h1
      rw [h1] at h
      cases h2 : cells[k]? with
      | none => rw [h2] at h; simp at h
      | some c =>
        rw [h2] at h
        simp only at h
        unfold backS at h
        split at h
        · injection h with h; rw [← h]; simp [ih]
        · split at h
          · split at h
            · injection h with h; rw [← h]; simp [ih]
            · cases h
          · split at h
            · cases h
            · injection h with h; rw [← h]; simp [ih]
theorem backK_stop {cells : List Int} {ls : List (Int × Int)} {nw : List Int} {w : Int} {k : Nat} (h : backK cells ls nw w k = none) : ∀ d, backK cells ls nw w (k + d) = none
  | 0 => h
  | d + 1 => by
    rw [← Nat.add_assoc]
    unfold backK
    rw [backK_stop h d]
theorem backK_next {cells : List Int} {ls : List (Int × Int)} {nw : List Int} {w : Int} {k : Nat} {l : List Slt} {c : Int} (h : backK cells ls nw w k = some l) (hc : cells[k]? = some c) : backK cells ls nw w (k + 1) = backS ls nw w l k c := by
  conv => lhs; unfold backK
  rw [h, hc]
end Go.Proofs.Ytonkbjdeaneicaa.Pln
namespace Go.Proofs.Ytonkbjdeaneicaa
open Go.RowKit Pln Classical Go.Maps

theorem sizePatR : (Try.prog.info? 34).map (·.size) = some 2 := by kernel_rfl
theorem held_ok {ls : List (Int × Int)} {nw : List Int} {w i : Int} (hl : ∀ x ∈ ls, i64ok x.2) (hw : 0 ≤ w ∧ w ≤ 2305843009213693952) (hn : nw.length ≤ 1048576) : i64ok (heldF ls nw w i) := by
  have hL : ∀ {v : Int}, linkOf ls i = some v → i64ok v := by
    intro v hv
    clear hn
    induction ls with
    | nil => simp [linkOf] at hv
    | cons a r ih =>
      unfold linkOf at hv
      split at hv
      · injection hv with hv
        rw [← hv]
        exact hl a (List.mem_cons_self ..)
      · exact ih (fun x hx => hl x (List.mem_cons_of_mem _ hx)) hv
  unfold heldF
  split
  · rename_i v hv
    exact hL hv
  · split
    · rename_i hm
      have := (placeF_lt hm).1
      exact WalkArith.wf_i64 (by omega)
    · exact WalkArith.wf_i64 (by omega)

/-- The state of back behind k places. -/
structure BkSt (W : World) (nd sh : Array Value) (wr : World) (pr : Int) (ov : Value) (l : List Slt) : Prop where
  blk : wr.heap[W.heap.size + 1 + 1 + 1 + 1]? = some (.cells #[.int .i64 pr, ov] 34 (0, 0))
  rb : wr.heap[W.heap.size + 1 + 1]? = some (.cells #[.int .i64 0, .slice none 0 0] 34 (0, 0))
  sb : wr.heap[W.heap.size + 1 + 1 + 1]? = some (.cells sh 79 (0, 0))
  nb : wr.heap[W.heap.size + 1]? = some (.cells nd 54 (0, 0))
  ow : OwnF (fun _ => False) (W.heap.size + 5) wr 50 cdSlt ov l
  below : Below W.heap.size W wr
section
variable {W wr wr' w2 : World} {nd sh : Array Value} {pr : Int} {ov : Value} {l : List Slt}
theorem BkSt.lt (h : BkSt W nd sh wr pr ov l) : W.heap.size + 1 + 1 + 1 + 1 < wr.heap.size := lt_of_heap h.blk
theorem BkSt.step (h : BkSt W nd sh wr pr ov l) (hb : Below wr.heap.size wr wr') : BkSt W nd sh wr' pr ov l := by
  have := h.lt
  exact ⟨(hb.block _ (by omega)).trans h.blk, (hb.block _ (by omega)).trans h.rb, (hb.block _ (by omega)).trans h.sb, (hb.block _ (by omega)).trans h.nb, h.ow.below hb, h.below.trans (hb.mono h.below.size)⟩
theorem BkSt.far (h : BkSt W nd sh wr pr ov l) : ∀ x, x < W.heap.size + 5 → x ∉ ov.ownBlock.toList := fun x hx hm => by have := (h.ow.block (by simpa using hm)).1; omega
theorem BkSt.put (h : BkSt W nd sh wr pr ov l) {v' : Value} {s : Slt} (ht : Turns ov.ownBlock.toList wr w2) (ho : OwnF (fun _ => False) (W.heap.size + 5) w2 50 cdSlt v' (l ++ [s])) :
    BkSt W nd sh (w2.setCell ⟨W.heap.size + 1 + 1 + 1 + 1, 1, none⟩ v') pr v' (l ++ [s]) := by
  have hn := h.far
  have hlt := h.lt
  have hne : ∀ b, v'.ownBlock = some b → b ≠ W.heap.size + 1 + 1 + 1 + 1 := fun b hb => by have := (ho.block hb).1; omega
  refine ⟨heap_setCell_same _ _ 1 _ _ _ ((ht.block _ (by omega) (hn _ (by omega))).trans h.blk), ?_, ?_, ?_, ?_, ?_⟩
  · rw [Below.heap_setCell _ _ _ _ (by simp)]
    exact (ht.block _ (by omega) (hn _ (by omega))).trans h.rb
  · rw [Below.heap_setCell _ _ _ _ (by simp)]
    exact (ht.block _ (by omega) (hn _ (by omega))).trans h.sb
  · rw [Below.heap_setCell _ _ _ _ (by simp)]
    exact (ht.block _ (by omega) (hn _ (by omega))).trans h.nb
  · exact ho.keep (S := [W.heap.size + 1 + 1 + 1 + 1]) ((Turns.refl _ _).setCell (.inl (by simp)) _) (fun b hb => by simpa using hne b hb) (by simp) (fun _ _ h => h)
  · exact (h.below.trans (ht.below h.below.size (fun x hx => by have := (h.ow.block (by simpa using hx)).1; omega))).setCell (by simp; omega) _
theorem BkSt.c1 (h : BkSt W nd sh wr pr ov l) : wr.cell? ⟨W.heap.size + 1 + 1 + 1 + 1, 1, none⟩ = some ov := cell_of_row _ _ 1 _ _ _ h.blk
theorem BkSt.at2 (h : BkSt W nd sh wr pr ov l) (ht : Turns ov.ownBlock.toList wr w2) : w2.cell? ⟨W.heap.size + 1 + 1 + 1 + 1, 1, none⟩ = some ov ∧ w2.frozen? ⟨W.heap.size + 1 + 1 + 1 + 1, 1, none⟩ = false ∧ W.heap.size + 1 + 1 + 1 + 1 < w2.heap.size := by
  have hlt := h.lt
  have e : w2.heap[W.heap.size + 1 + 1 + 1 + 1]? = some (.cells #[.int .i64 pr, ov] 34 (0, 0)) := (ht.block _ (by omega) (h.far _ (by omega))).trans h.blk
  exact ⟨cell_of_row _ _ 1 _ _ _ e, by simp [World.frozen?, e], lt_of_heap e⟩
end
/-- What back answers. -/
def BackRes (al : List Shp) (n : Nd) (w : Int) (W : World) (e : Ending) (W' : World) : Prop :=
  Below W.heap.size W W' ∧ ((∃ p v, backP al n w = some p ∧ e = .returned (.tuple #[.agg #[.int .i64 p.pred, v], .bool true]) ∧ i64ok p.pred ∧ RSl (fun b => W.heap.size ≤ b) W' 2 ESlt v p.args) ∨
    (backP al n w = none ∧ e = .returned (.tuple #[.agg #[.int .i64 0, .slice none 0 0], .bool false])))

set_option maxRecDepth 200000 in
set_option maxHeartbeats 8000000 in
theorem rbackW {F G : Nat → Prop} (W : World) (av nv ev : Value) (al : List Shp) (hA : RSl F W 2 (EShp F W) av al) (hal : al.length ≤ 1048576) (hcl : ∀ s ∈ al, s.cells.length ≤ 1048576) (n : Nd) (ncs : List Value) (lv mv : Value) (hN : ENd G W ncs n lv mv) (hml : n.new.length ≤ 1048576) (w : Int) (hw : 0 ≤ w ∧ w ≤ 2305843009213693952) :
    Calls Try.prog 61 #[.agg #[av, nv, ev], .agg #[.int .i64 n.kind, .int .i64 n.parent, .int .i64 n.alpha, lv, mv, .int .i64 n.test.op, .bool n.test.l.v, .int .i64 n.test.l.n, .bool n.test.r.v, .int .i64 n.test.r.n, .int .i64 n.width], .int .i64 w] W (BackRes al n w W) := by
  have HW := Lib.hid (fun (Wx : World) (hb : Below W.heap.size W Wx) (i : Int) => rheldW n lv mv Wx (hN.links.keep (Kp.of_below hb)) (hN.new.keep (Kp.of_below hb)) i w hw hml)
  obtain ⟨Aa, ca, rfl⟩ := hA.form
  have HOK := Lib.hid (fun i => held_ok (ls := n.links) (nw := n.new) (w := w) (i := i) (fun x hx => by obtain ⟨cs, h⟩ := hN.links.mem hx; exact h.2.2) hw hml)
  clear hN
  have E0 := Lib.hid (fun (A B : Obj) (C : Array Value) => (show (((W.alloc A).alloc B).alloc (.cells C 34)).heap[W.heap.size + 1 + 1]? = some (.cells C 34 (0, 0)) by
    have := heap_alloc_new ((W.alloc A).alloc B) (.cells C 34)
    simpa using this))
  by_cases ha : 0 ≤ n.alpha ∧ n.alpha < (al.length : Int)
  case neg =>
    have HF := Lib.hid (show backP al n w = none by unfold backP; rw [if_neg ha])
    by_cases h0 : n.alpha < 0
    · clear ha
      go_enter Try.func61, Try.ntmps61
      go_wp2
      refine bodyPost_ret (v := .tuple #[.agg #[.int .i64 0, .slice none 0 0], .bool false]) (results_row_slot rfl _ _ (W.heap.size + 1 + 1) 34 #[.int .i64 0, .slice none 0 0] (0, 0) _ _ rfl rfl (E0.out _ _ _) Try.underlying34 rfl sizePatR) rfl ?_
      exact ⟨(((Below.refl W.heap.size W).alloc (Nat.le_refl _) _).alloc (by simp) _).alloc (by simp; omega) _, .inr ⟨HF.out, rfl⟩⟩
    · have h1 : (al.length : Int) ≤ n.alpha := by omega
      clear ha
      go_enter Try.func61, Try.ntmps61
      go_wp2
      refine bodyPost_ret (v := .tuple #[.agg #[.int .i64 0, .slice none 0 0], .bool false]) (results_row_slot rfl _ _ (W.heap.size + 1 + 1) 34 #[.int .i64 0, .slice none 0 0] (0, 0) _ _ rfl rfl (E0.out _ _ _) Try.underlying34 rfl sizePatR) rfl ?_
      exact ⟨(((Below.refl W.heap.size W).alloc (Nat.le_refl _) _).alloc (by simp) _).alloc (by simp; omega) _, .inr ⟨HF.out, rfl⟩⟩
  obtain ⟨ai, hai⟩ := Int.eq_ofNat_of_zero_le ha.1
  obtain ⟨s, hs⟩ : ∃ s, al[ai]? = some s := ⟨_, List.getElem?_eq_getElem (by omega)⟩
  have HP := Lib.hid (show backP al n w = (backK s.cells n.links n.new w s.cells.length).map (fun a => (⟨s.pred, a⟩ : Pat)) by
    unfold backP
    rw [if_pos ha, hai, Int.toNat_natCast, hs])
  have hsl := hcl s (List.mem_of_getElem? hs)
  obtain ⟨b, off, rfl, -, hbl, cs, ⟨sv, rfl, sok, hsc⟩, hc⟩ := hA.at hs
  obtain ⟨As, cs', rfl⟩ := hsc.form
  have c0 := hc 0 _ rfl
  have c1 := hc 1 _ rfl
  simp only [Nat.add_zero] at c0
  have cc0 := fun (A B C : Obj) => (((((Below.refl W.heap.size W).alloc (Nat.le_refl _) A).alloc (by simp) B).alloc (by simp; omega) C).cell (p := ⟨b, off + ai * 2, none⟩) hbl).trans c0
  have cc1 := fun (A B C : Obj) => (((((Below.refl W.heap.size W).alloc (Nat.le_refl _) A).alloc (by simp) B).alloc (by simp; omega) C).cell (p := ⟨b, off + ai * 2 + 1, none⟩) hbl).trans c1
  have g0 : ¬ n.alpha < 0 := by omega
  have g1 : ¬ (al.length : Int) ≤ n.alpha := by omega
  have g2 : 0 ≤ n.alpha := ha.1
  have g3 : n.alpha < (al.length : Int) := ha.2
  rw [hai] at g0 g1 g2 g3 ⊢
  have HSC := Lib.hid hsc
  have SOK := Lib.hid sok
  clear hc hs ha hA hcl hsc sok
  go_enter Try.func61, Try.ntmps61
  go_wp2
  have h80 : BkSt W #[.int .i64 n.kind, .int .i64 n.parent, .int .i64 ai, lv, mv, .int .i64 n.test.op, .bool n.test.l.v, .int .i64 n.test.l.n, .bool n.test.r.v, .int .i64 n.test.r.n, .int .i64 n.width] #[.int .i64 s.pred, .slice As s.cells.length cs'] (((((W.alloc (.cells #[.slice (some ⟨b, off, none⟩) al.length ca, nv, ev] 27)).alloc (.cells #[.int .i64 n.kind, .int .i64 n.parent, .int .i64 ai, lv, mv, .int .i64 n.test.op, .bool n.test.l.v, .int .i64 n.test.l.n, .bool n.test.r.v, .int .i64 n.test.r.n, .int .i64 n.width] 54)).alloc (.cells #[.int .i64 0, .slice none 0 0] 34)).alloc (.cells #[.int .i64 s.pred, .slice As s.cells.length cs'] 79)).alloc (.cells #[.int .i64 s.pred, .slice none 0 0] 34)) s.pred (.slice none 0 0) [] := by
    refine ⟨?_, ?_, ?_, ?_, OwnF.nil, (((((Below.refl W.heap.size W).alloc (Nat.le_refl _) _).alloc (by simp) _).alloc (by simp; omega) _).alloc (by simp; omega) _).alloc (by simp; omega) _⟩
    · have := heap_alloc_new ((((W.alloc (.cells #[.slice (some ⟨b, off, none⟩) al.length ca, nv, ev] 27)).alloc (.cells #[.int .i64 n.kind, .int .i64 n.parent, .int .i64 ai, lv, mv, .int .i64 n.test.op, .bool n.test.l.v, .int .i64 n.test.l.n, .bool n.test.r.v, .int .i64 n.test.r.n, .int .i64 n.width] 54)).alloc (.cells #[.int .i64 0, .slice none 0 0] 34)).alloc (.cells #[.int .i64 s.pred, .slice As s.cells.length cs'] 79)) (.cells #[.int .i64 s.pred, .slice none 0 0] 34)
      simpa using this
    · rw [Below.heap_alloc _ _ _ (by simp), Below.heap_alloc _ _ _ (by simp)]
      exact E0.out _ _ _
    · rw [Below.heap_alloc _ _ _ (by simp)]
      have := heap_alloc_new (((W.alloc (.cells #[.slice (some ⟨b, off, none⟩) al.length ca, nv, ev] 27)).alloc (.cells #[.int .i64 n.kind, .int .i64 n.parent, .int .i64 ai, lv, mv, .int .i64 n.test.op, .bool n.test.l.v, .int .i64 n.test.l.n, .bool n.test.r.v, .int .i64 n.test.r.n, .int .i64 n.width] 54)).alloc (.cells #[.int .i64 0, .slice none 0 0] 34)) (.cells #[.int .i64 s.pred, .slice As s.cells.length cs'] 79)
      simpa using this
    · rw [Below.heap_alloc _ _ _ (by simp +arith), Below.heap_alloc _ _ _ (by simp +arith), Below.heap_alloc _ _ _ (by simp)]
      have := heap_alloc_new (W.alloc (.cells #[.slice (some ⟨b, off, none⟩) al.length ca, nv, ev] 27)) (.cells #[.int .i64 n.kind, .int .i64 n.parent, .int .i64 ai, lv, mv, .int .i64 n.test.op, .bool n.test.l.v, .int .i64 n.test.l.n, .bool n.test.r.v, .int .i64 n.test.r.n, .int .i64 n.width] 54)
      simpa using this
  have H80 := Lib.hid h80
  clear h80 c0 c1 cc0 cc1 g0 g1 g2 g3
  go_loopw [10] (fun i wr => ∃ (k : Nat) (ov : Value) (l : List Slt), i = .int .i64 k ∧ k ≤ s.cells.length ∧ backK s.cells n.links n.new w k = some l ∧ BkSt W #[.int .i64 n.kind, .int .i64 n.parent, .int .i64 ai, lv, mv, .int .i64 n.test.op, .bool n.test.l.v, .int .i64 n.test.l.n, .bool n.test.r.v, .int .i64 n.test.r.n, .int .i64 n.width] #[.int .i64 s.pred, .slice As s.cells.length cs'] wr s.pred ov l) (fun i _ => s.cells.length - (intOf i).toNat)
  case atStart => exact ⟨0, _, [], rfl, Nat.zero_le _, rfl, H80.out⟩
  case round =>
    obtain ⟨k, ov, l, rfl, hk, hB, hst⟩ := hrel
    clear H80
    have hll := backK_len hB
    obtain ⟨oa, oc, rfl⟩ := hst.ow.form
    have hlt := hst.lt
    have q0 := rboxL hst.sb 0 rfl
    have q1 := rboxL hst.sb 1 rfl
    have x1 := hst.c1
    by_cases hkn : k < s.cells.length
    · obtain ⟨c, hc⟩ : ∃ c, s.cells[k]? = some c := ⟨_, List.getElem?_eq_getElem hkn⟩
      obtain ⟨b2, off2, rfl, -, hb2, cs2, ⟨rfl, cok⟩, hc2⟩ := (HSC.out.keep (Kp.of_below hst.below)).at hc
      have d0 := hc2 0 _ rfl
      simp only [Nat.add_zero, Nat.mul_one] at d0
      have e1 : (0 : Int) ≤ (k : Int) := by omega
      have e2 : (k : Int) < (s.cells.length : Int) := by omega
      have NX := Lib.hid (backK_next hB hc)
      have HB := Lib.hid hB
      have HK := Lib.hid hkn
      have HX := Lib.hid hst
      have HL := Lib.hid hll
      have COK := Lib.hid cok
      have hbase : W.heap.size + 5 ≤ wr.heap.size := by omega
      have hln : l.length ≤ 1048576 := by omega
      clear hc hc2 hB hkn hst hll cok
      by_cases h0 : 0 ≤ c
      · have HN := Lib.hid (show backK s.cells n.links n.new w (k + 1) = some (l ++ [⟨false, c⟩]) by rw [NX.out]; unfold backS; rw [if_pos h0])
        go_wp2
        go_region_law (refine step_append_F HX.out.ow (fun _ _ h => h) (by rfl) (.tmp 48) (.tmp 55) 32 (by rfl) Try.underlying32 infoSlt rfl (by decide) (by rfl) #[.bool false, .int .i64 c] _ (by rfl) (by simp) (x := ⟨false, c⟩) ⟨rfl, COK.out⟩ (by omega) (by decide) hbase ?_; intro g cap w2 ho ht hat hlt2; obtain ⟨z1, z2, z3⟩ := HX.out.at2 ht; have N1 := Lib.hid (HX.out.put ht (ho _ (fun _ _ h => h))); clear ho ht hat hlt2)
        all_goals go_wp2
        all_goals exact ⟨⟨k + 1, _, _, by go_num, HK.out, HN.out, N1.out⟩, by simp [intOf]; have := HK.out; omega⟩
      · obtain ⟨j, hj⟩ : ∃ j : Nat, -1 - c = (j : Int) := ⟨(-1 - c).toNat, by omega⟩
        have e5 : IntKind.i64.wrap (-1 - c) = (j : Int) := by rw [hj]; exact IntWalk.i64_in _ (by have := COK.out.lo; omega)
        have e6 : wrap64 (-1 - c) = (j : Int) := by rw [hj]; exact IntWalk.wrap64_in _ (by have := COK.out.lo; omega)
        have h0' : c < 0 := by omega
        by_cases hjk : j < k
        · obtain ⟨t, ht0⟩ : ∃ t, l[j]? = some t := ⟨_, List.getElem?_eq_getElem (by have := HL.out; omega)⟩
          obtain ⟨tv, tn⟩ := t
          have HN := Lib.hid (show backK s.cells n.links n.new w (k + 1) = some (l ++ [⟨tv, tn⟩]) by
            rw [NX.out]
            unfold backS
            rw [if_neg h0, if_pos (by omega), hj, Int.toNat_natCast, ht0])
          obtain ⟨b3, off3, hA3, -, hb3, cs3, ⟨rfl, tok⟩, hc3⟩ := RSl.at (HX.out.ow.rsl (G := fun b => b < wr.heap.size) (fun b hb => (HX.out.ow.block hb).2.1)) ht0
          subst hA3
          have f0 : wr.cell? ⟨b3, off3 + j * 2, none⟩ = some (.bool tv) := hc3 0 _ rfl
          have f1 : wr.cell? ⟨b3, off3 + j * 2 + 1, none⟩ = some (.int .i64 tn) := hc3 1 _ rfl
          have TOK := Lib.hid tok
          have e7 : (j : Int) < (k : Int) := by omega
          have e8 : (0 : Int) ≤ (j : Int) := by omega
          have e9 : (j : Int) < (l.length : Int) := by have := HL.out; omega
          clear hc3 ht0 tok hj hjk
          go_wp2
          go_region_law (refine step_append_F HX.out.ow (fun _ _ h => h) (by rfl) (.tmp 68) (.tmp 74) 32 (by rfl) Try.underlying32 infoSlt rfl (by decide) (by rfl) #[.bool tv, .int .i64 tn] _ (by rfl) (by simp) (x := ⟨tv, tn⟩) ⟨rfl, TOK.out⟩ (by omega) (by decide) hbase ?_; intro g cap w2 ho ht hat hlt2; obtain ⟨z1, z2, z3⟩ := HX.out.at2 ht; have N1 := Lib.hid (HX.out.put ht (ho _ (fun _ _ h => h))); clear ho ht hat hlt2)
          all_goals go_wp2
          all_goals exact ⟨⟨k + 1, _, _, by go_num, HK.out, HN.out, N1.out⟩, by simp [intOf]; have := HK.out; omega⟩
        · obtain ⟨hv, hhv⟩ : ∃ hv, heldF n.links n.new w k = hv := ⟨_, rfl⟩
          have CH := Lib.hid (HW.out wr HX.out.below (k : Int))
          have HVO := Lib.hid (HOK.out (k : Int))
          rw [hhv] at CH HVO
          have r0 := rboxL HX.out.nb 0 rfl
          have r1 := rboxL HX.out.nb 1 rfl
          have r2 := rboxL HX.out.nb 2 rfl
          have r3 := rboxL HX.out.nb 3 rfl
          have r4 := rboxL HX.out.nb 4 rfl
          have r5 := rboxL HX.out.nb 5 rfl
          have r6 := rboxL HX.out.nb 6 rfl
          have r7 := rboxL HX.out.nb 7 rfl
          have r8 := rboxL HX.out.nb 8 rfl
          have r9 := rboxL HX.out.nb 9 rfl
          have r10 := rboxL HX.out.nb 10 rfl
          rw [hai] at CH
          have e7 : ¬ (j : Int) < (k : Int) := by omega
          have e7b : (k : Int) ≤ (j : Int) := by omega
          have e7c : ¬ j < k := by omega
          have HJ := Lib.hid hj
          have hJK := Lib.hid hjk
          clear hj hjk
          go_wp2_with fail
          refine CH.out.mono ?_
          rintro e w2 ⟨rfl, hb9⟩
          have HX2 := Lib.hid (HX.out.step hb9)
          have x1 := HX2.out.c1
          have hlt2 := HX2.out.lt
          have hbase2 : W.heap.size + 5 ≤ w2.heap.size := by omega
          clear hb9 CH r0 r1 r2 r3 r4 r5 r6 r7 r8 r9 r10 q0 q1 d0
          by_cases hbad : (k : Int) < (j : Int) ∨ hv < 0
          · have HN := Lib.hid (show backP al n w = none by
              rw [HP.out]
              have h1 : backK s.cells n.links n.new w (k + 1) = none := by
                rw [NX.out]
                unfold backS
                rw [if_neg (show ¬ 0 ≤ c by omega), if_neg (by rw [HJ.out]; omega), if_pos (by rw [HJ.out, hhv]; exact hbad)]
              have h2 := backK_stop h1 (s.cells.length - (k + 1))
              rw [show k + 1 + (s.cells.length - (k + 1)) = s.cells.length by have := HK.out; omega] at h2
              rw [h2]
              rfl)
            have y0 : w2.cell? ⟨W.heap.size + 1 + 1, 0, none⟩ = some (.int .i64 0) := cell_of_row _ _ 0 _ _ _ HX2.out.rb
            have y1 : w2.cell? ⟨W.heap.size + 1 + 1, 1, none⟩ = some (.slice none 0 0) := cell_of_row _ _ 1 _ _ _ HX2.out.rb
            have yf : ∀ o, w2.frozen? ⟨W.heap.size + 1 + 1, o, none⟩ = false := fun o => by have := HX2.out.rb; simp [World.frozen?, this]
            have ef := Lib.hid (heap_setCell_same _ _ 1 _ _ (.slice none 0 0) (heap_setCell_same _ _ 0 _ _ (.int .i64 0) HX2.out.rb))
            have hwr : W.heap.size + 1 + 1 < w2.heap.size := by omega
            clear hhv
            by_cases hkj : (k : Int) < (j : Int)
            · clear hbad
              go_wp2
              refine bodyPost_ret (v := .tuple #[.agg #[.int .i64 0, .slice none 0 0], .bool false]) (results_row_slot rfl _ _ (W.heap.size + 1 + 1) 34 #[.int .i64 0, .slice none 0 0] (0, 0) _ _ rfl rfl ef.out Try.underlying34 rfl sizePatR) rfl ?_
              exact ⟨(HX2.out.below.setCell (by simp; omega) _).setCell (by simp; omega) _, .inr ⟨HN.out, rfl⟩⟩
            · have hv0 : hv < 0 := by omega
              clear hbad
              go_wp2
              refine bodyPost_ret (v := .tuple #[.agg #[.int .i64 0, .slice none 0 0], .bool false]) (results_row_slot rfl _ _ (W.heap.size + 1 + 1) 34 #[.int .i64 0, .slice none 0 0] (0, 0) _ _ rfl rfl ef.out Try.underlying34 rfl sizePatR) rfl ?_
              exact ⟨(HX2.out.below.setCell (by simp; omega) _).setCell (by simp; omega) _, .inr ⟨HN.out, rfl⟩⟩
          · have HN := Lib.hid (show backK s.cells n.links n.new w (k + 1) = some (l ++ [⟨true, hv⟩]) by
              rw [NX.out]
              unfold backS
              rw [if_neg (show ¬ 0 ≤ c by omega), if_neg (by rw [HJ.out]; omega), if_neg (by rw [HJ.out, hhv]; exact hbad), hhv])
            have hv0 : ¬ hv < 0 := by omega
            have hkj : ¬ (k : Int) < (j : Int) := by omega
            clear hhv hbad
            go_wp2_with (at_builtin; refine wpList_append_F HX2.out.ow (fun _ _ h => h) rfl (.tmp 90) (.tmp 93) 32 rfl Try.underlying32 infoSlt rfl (by decide) rfl #[.bool true, .int .i64 hv] _ rfl rfl (x := ⟨true, hv⟩) ⟨rfl, HVO.out⟩ (by omega) (by decide) hbase2 ?_; intro g cap w4 ho ht hat hlt4; obtain ⟨z1, z2, z3⟩ := HX2.out.at2 ht; have N1 := Lib.hid (HX2.out.put ht (ho _ (fun _ _ h => h))); clear ho ht hat hlt4)
            exact ⟨⟨k + 1, _, _, by go_num, HK.out, HN.out, N1.out⟩, by simp [intOf]; have := HK.out; omega⟩
    · obtain rfl : k = s.cells.length := by omega
      have HN := Lib.hid (show backP al n w = some ⟨s.pred, l⟩ by rw [HP.out, hB]; rfl)
      have HX := Lib.hid hst
      have x0 : wr.cell? ⟨W.heap.size + 1 + 1 + 1 + 1, 0, none⟩ = some (.int .i64 s.pred) := cell_of_row _ _ 0 _ _ _ hst.blk
      have y0 : wr.cell? ⟨W.heap.size + 1 + 1, 0, none⟩ = some (.int .i64 0) := cell_of_row _ _ 0 _ _ _ hst.rb
      have y1 : wr.cell? ⟨W.heap.size + 1 + 1, 1, none⟩ = some (.slice none 0 0) := cell_of_row _ _ 1 _ _ _ hst.rb
      have yf : ∀ o, wr.frozen? ⟨W.heap.size + 1 + 1, o, none⟩ = false := fun o => by have := hst.rb; simp [World.frozen?, this]
      have ef := Lib.hid (heap_setCell_same _ _ 1 _ _ (.slice oa l.length oc) (heap_setCell_same _ _ 0 _ _ (.int .i64 s.pred) hst.rb))
      have hwr : W.heap.size + 1 + 1 < wr.heap.size := by omega
      clear hB hst hkn hll
      go_wp2
      refine bodyPost_ret (v := .tuple #[.agg #[.int .i64 s.pred, .slice oa l.length oc], .bool true]) (results_row_slot rfl _ _ (W.heap.size + 1 + 1) 34 #[.int .i64 s.pred, .slice oa l.length oc] (0, 0) _ _ rfl rfl ef.out Try.underlying34 rfl sizePatR) rfl ?_
      refine ⟨(HX.out.below.setCell (by simp; omega) _).setCell (by simp; omega) _, .inl ⟨_, _, HN.out, rfl, SOK.out, ?_⟩⟩
      have K : Kp (fun b => W.heap.size + 5 ≤ b) wr ((wr.setCell ⟨W.heap.size + 1 + 1, 0, none⟩ (.int .i64 s.pred)).setCell ⟨W.heap.size + 1 + 1, 1, none⟩ (.slice oa l.length oc)) :=
        ⟨by simp, fun b _ hb => by rw [Below.heap_setCell _ _ _ _ (by simp; omega), Below.heap_setCell _ _ _ _ (by simp; omega)]⟩
      exact (HX.out.ow.rsl (G := fun b => W.heap.size + 5 ≤ b) (fun b hb => (HX.out.ow.block hb).1)).kp K (fun b _ hb => by omega) (fun _ _ h => h)
end Go.Proofs.Ytonkbjdeaneicaa

namespace Go.Proofs.Ytonkbjdeaneicaa.Pln
open Classical
theorem backP_len {al : List Shp} {n : Nd} {w : Int} {p : Pat} (h : backP al n w = some p) : ∃ s ∈ al, p.args.length = s.cells.length := by
  unfold backP at h
  split at h
  · cases hs : al[n.alpha.toNat]? with
    | none => rw [hs] at h; cases h
    | some s =>
      rw [hs] at h
      simp only [Option.map_eq_some_iff] at h
      obtain ⟨a, h1, rfl⟩ := h
      exact ⟨s, List.mem_of_getElem? hs, backK_len h1⟩
  · cases h
theorem wayO_lt {ns : List Nd} : ∀ (f : Nat) (e : Int) (l : List Nat), wayO ns f e = some l → ∀ v ∈ l, v < ns.length
  | f, e, l, h => by
    unfold wayO at h
    split at h
    · simp only [Option.some.injEq] at h
      subst h
      simp
    · match f with
      | 0 => cases h
      | f + 1 =>
        simp only at h
        split at h
        · cases h
        · cases hn : ns[e.toNat]? with
          | none => rw [hn] at h; cases h
          | some n =>
            rw [hn] at h
            simp only at h
            split at h
            · cases h
            · simp only [Option.map_eq_some_iff] at h
              obtain ⟨l', h1, rfl⟩ := h
              intro v hv
              rcases List.mem_append.1 hv with hv | hv
              · exact wayO_lt f _ l' h1 v hv
              · rw [List.mem_singleton.1 hv]
                exact (List.getElem?_eq_some_iff.1 hn).1
theorem wayR_lt {ns : List Nd} {e : Int} {l : List Nat} (h : wayR ns e = some l) : ∀ v ∈ l, v < ns.length := wayO_lt _ _ l h
structure RBok (b : RB) (k : Nat) : Prop where
  len : b.pos.length + b.tests.length + b.neg.length = k
  w : 0 ≤ b.w ∧ b.w ≤ (k : Int) * 1048576
  ps : ∀ p ∈ b.pos, p.args.length ≤ 1048576
  ng : ∀ p ∈ b.neg, p.args.length ≤ 1048576
theorem rbok0 : RBok rb0 0 := ⟨rfl, ⟨Int.le_refl _, Int.le_refl _⟩, by simp [rb0], by simp [rb0]⟩
theorem RBok.test {b : RB} {k : Nat} (h : RBok b k) (t : Tst) : RBok ⟨b.w, b.pos, b.tests ++ [t], b.neg⟩ (k + 1) :=
  ⟨by have := h.len; simp; omega, by have := h.w; simp only; omega, h.ps, h.ng⟩
theorem RBok.join {b : RB} {k : Nat} (h : RBok b k) {p : Pat} (hp : p.args.length ≤ 1048576) {m : Nat} (hm : m ≤ 1048576) : RBok ⟨b.w + (m : Int), b.pos ++ [p], b.tests, b.neg⟩ (k + 1) :=
  ⟨by have := h.len; simp; omega, by have := h.w; simp only; omega, fun q hq => by
    rcases List.mem_append.1 hq with hq | hq
    · exact h.ps q hq
    · rw [List.mem_singleton.1 hq]; exact hp, h.ng⟩
theorem RBok.nega {b : RB} {k : Nat} (h : RBok b k) {p : Pat} (hp : p.args.length ≤ 1048576) : RBok ⟨b.w, b.pos, b.tests, b.neg ++ [p]⟩ (k + 1) :=
  ⟨by have := h.len; simp; omega, by have := h.w; simp only; omega, h.ps, fun q hq => by
    rcases List.mem_append.1 hq with hq | hq
    · exact h.ng q hq
    · rw [List.mem_singleton.1 hq]; exact hp⟩
theorem rbS_none (al : List Shp) (ns : List Nd) (l : List Nat) : l.foldl (rbS al ns) none = none := by
  induction l with
  | nil => rfl
  | cons n r ih => exact ih
section
variable {al : List Shp} {ns : List Nd} {b : RB} {v : Nat} {n : Nd}
theorem rbS_test (hn : ns[v]? = some n) (hk : n.kind = 2) : rbS al ns (some b) v = some ⟨b.w, b.pos, b.tests ++ [n.test], b.neg⟩ := by
  unfold rbS; rw [hn]; simp only; rw [if_pos hk]
theorem rbS_bad (hn : ns[v]? = some n) (hk : n.kind ≠ 2) (hb : backP al n b.w = none) : rbS al ns (some b) v = none := by
  unfold rbS; rw [hn]; simp only; rw [if_neg hk, hb]
theorem rbS_join {p : Pat} (hn : ns[v]? = some n) (hk : n.kind = 1) (hb : backP al n b.w = some p) : rbS al ns (some b) v = some ⟨b.w + (n.new.length : Int), b.pos ++ [p], b.tests, b.neg⟩ := by
  unfold rbS; rw [hn]; simp only; rw [if_neg (by omega), hb]; simp only; rw [if_pos hk]
theorem rbS_neg {p : Pat} (hn : ns[v]? = some n) (hk : n.kind ≠ 2) (hk1 : n.kind ≠ 1) (hb : backP al n b.w = some p) : rbS al ns (some b) v = some ⟨b.w, b.pos, b.tests, b.neg ++ [p]⟩ := by
  unfold rbS; rw [hn]; simp only; rw [if_neg hk, hb]; simp only; rw [if_neg hk1]
theorem rule_none {l : List Nat} {k : Nat} {e : Int} (hw : wayR ns e = some l) (h : (l.take k).foldl (rbS al ns) (some rb0) = none) : ruleB al ns e = none := by
  unfold ruleB
  rw [hw]
  simp only
  rw [fold_all (rbS al ns) (some rb0) l k, h, rbS_none]
  rfl
theorem rule_some {l : List Nat} {e : Int} (hw : wayR ns e = some l) (h : l.foldl (rbS al ns) (some rb0) = some b) : ruleB al ns e = some (rlOf b) := by
  unfold ruleB
  rw [hw]
  simp only
  rw [h]
  rfl
end
end Go.Proofs.Ytonkbjdeaneicaa.Pln
