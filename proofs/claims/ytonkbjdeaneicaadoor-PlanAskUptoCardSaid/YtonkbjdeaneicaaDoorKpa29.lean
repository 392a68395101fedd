/- The reference's Rule: the conditions of the rule that ends at a node, read back. The reference's Fit: may a rule be compiled? -/
import Derived.Test.YtonkbjdeaneicaaDoorKpa24
import Derived.Test.YtonkbjdeaneicaaDoorKpa26
import Derived.Test.YtonkbjdeaneicaaDoorKpa28
import Derived.Deep.RegionHeld3
namespace Go.Proofs.YtonkbjdeaneicaaDoor
open Go.RowKit Pln Classical Go.Maps

theorem sizeRlR : (Tryd.prog.info? 85).map (·.size) = some 7 := by kernel_rfl
/-- A rule's value. -/
def rlV (pv tv nv : Value) : Array Value := #[.int .i64 0, .slice none 0 0, pv, tv, nv, .slice none 0 0, .int .i64 0]
def RRuleRes (al : List Shp) (ns : List Nd) (e : Int) (W : World) (en : Ending) (W' : World) : Prop :=
  Below W.heap.size W W' ∧ ∃ a1 n1 c1 a2 n2 c2 a3 n3 c3, (en = .returned (.tuple #[.agg #[.int .i64 0, .slice none 0 0, .slice a1 n1 c1, .slice a2 n2 c2, .slice a3 n3 c3, .slice none 0 0, .int .i64 0], .bool true]) ∧
      ∃ r, ruleB al ns e = some r ∧ ERule (fun b => W.heap.size ≤ b) W' [.int .i64 0, .slice none 0 0, .slice a1 n1 c1, .slice a2 n2 c2, .slice a3 n3 c3, .slice none 0 0, .int .i64 0] r ∧ rlSm 1048576 r) ∨
    (en = .returned (.tuple #[.agg #[.int .i64 0, .slice none 0 0, .slice a1 n1 c1, .slice a2 n2 c2, .slice a3 n3 c3, .slice none 0 0, .int .i64 0], .bool false]) ∧ ruleB al ns e = none)

/-- The state of Rule. -/
structure RlSt (W : World) (pl : Array Value) (v : Value) (l : List Nat) (wr : World) (pv tv nv : Value) (b : RB) : Prop where
  ru : RuAt (W.heap.size + 1 + 1) (W.heap.size + 1 + 1) wr pv tv nv b.pos b.tests b.neg
  rb : wr.heap[W.heap.size + 1]? = some (.cells #[.int .i64 0, .slice none 0 0, .slice none 0 0, .slice none 0 0, .slice none 0 0, .slice none 0 0, .int .i64 0] 85 (0, 0))
  below : Below (W.heap.size + 1) (W.alloc (.cells pl 26)) wr
  way : OwnI wr (W.heap.size + 1 + 1) v l
  far : ∀ x, v.ownBlock = some x → x ∉ ufoot (W.heap.size + 1 + 1) pv tv nv
section
variable {W wr wr' w1 : World} {pl : Array Value} {v : Value} {l : List Nat} {pv tv nv pv' tv' nv' : Value} {b b' : RB}
theorem RlSt.step (h : RlSt W pl v l wr pv tv nv b) (hb : Below wr.heap.size wr wr') : RlSt W pl v l wr' pv tv nv b :=
  ⟨h.ru.step hb, (hb.block _ (lt_of_heap h.rb)).trans h.rb, box_step h.below hb, h.way.below hb, h.far⟩
/-- Behind an append and a store. -/
theorem RlSt.next (h : RlSt W pl v l wr pv tv nv b) (hr : RuAt (W.heap.size + 1 + 1) (W.heap.size + 1 + 1) wr' pv' tv' nv' b'.pos b'.tests b'.neg) (ht : Turns (ufoot (W.heap.size + 1 + 1) pv tv nv) wr wr')
    (hm : ∀ x ∈ ufoot (W.heap.size + 1 + 1) pv' tv' nv', x ∈ ufoot (W.heap.size + 1 + 1) pv tv nv ∨ wr.heap.size ≤ x) : RlSt W pl v l wr' pv' tv' nv' b' := by
  have fl := h.ru.foot_lt
  refine ⟨hr, (ht.block _ (lt_of_heap h.rb) (fun hx => by have := (fl _ hx).1; omega)).trans h.rb, h.below.trans (ht.below (by have := h.below.size; simp at this; omega) (fun x hx => by have := (fl x hx).1; omega)), ?_, ?_⟩
  · exact ownsRow_turns h.way ht (fun x hx hf => h.far x hx hf)
  · intro x hx hf
    rcases hm x hf with h1 | h1
    · exact h.far x hx h1
    · have := (ownBlock_cells h.way hx).2.1
      omega
end

theorem store7 {w : World} {g : Nat} {c0 c1 c2 c3 c4 c5 c6 : Value} {T : TypeId} (h : w.heap[g]? = some (.cells #[c0, c1, c2, c3, c4, c5, c6] T (0, 0))) (d0 d1 d2 d3 d4 d5 d6 : Value) :
    (((((((w.setCell ⟨g, 0, none⟩ d0).setCell ⟨g, 1, none⟩ d1).setCell ⟨g, 2, none⟩ d2).setCell ⟨g, 3, none⟩ d3).setCell ⟨g, 4, none⟩ d4).setCell ⟨g, 5, none⟩ d5).setCell ⟨g, 6, none⟩ d6).heap[g]? = some (.cells #[d0, d1, d2, d3, d4, d5, d6] T (0, 0)) := by
  have h0 := heap_setCell_same _ _ 0 _ _ d0 h
  have h1 := heap_setCell_same _ _ 1 _ _ d1 h0
  have h2 := heap_setCell_same _ _ 2 _ _ d2 h1
  have h3 := heap_setCell_same _ _ 3 _ _ d3 h2
  have h4 := heap_setCell_same _ _ 4 _ _ d4 h3
  have h5 := heap_setCell_same _ _ 5 _ _ d5 h4
  have h6 := heap_setCell_same _ _ 6 _ _ d6 h5
  rw [h6]
  simp
theorem turns7 (w : World) (g : Nat) (d0 d1 d2 d3 d4 d5 d6 : Value) :
    Turns [g] w (((((((w.setCell ⟨g, 0, none⟩ d0).setCell ⟨g, 1, none⟩ d1).setCell ⟨g, 2, none⟩ d2).setCell ⟨g, 3, none⟩ d3).setCell ⟨g, 4, none⟩ d4).setCell ⟨g, 5, none⟩ d5).setCell ⟨g, 6, none⟩ d6) :=
  (((((((Turns.refl _ _).setCell (.inl (by simp)) _).setCell (.inl (by simp)) _).setCell (.inl (by simp)) _).setCell (.inl (by simp)) _).setCell (.inl (by simp)) _).setCell (.inl (by simp)) _).setCell (.inl (by simp)) _
set_option maxRecDepth 200000 in
set_option maxHeartbeats 16000000 in
theorem rruleW {F : Nat → Prop} (W : World) (av nv ev : Value) (al : List Shp) (ns : List Nd) (es : List Int) (h : RPl F W av nv ev al ns es) (hS : plSm 1048576 al ns es) (e : Int) :
    Calls Tryd.prog 54 #[.agg #[av, nv, ev], .int .i64 e] W (RRuleRes al ns e W) := by
  obtain ⟨Aa, ca, rfl⟩ := h.al.form
  obtain ⟨An, cn, rfl⟩ := h.ns.form
  obtain ⟨Ae, ce, rfl⟩ := h.en.form
  have HP := Lib.hid h
  have SM := Lib.hid hS
  have WY := Lib.hid (fun (Wx : World) (hb : Below W.heap.size W Wx) => rwayW Wx (.slice Aa al.length ca) _ (.slice Ae es.length ce) ns (h.below hb).ns e (by have := hS.ns.1; omega))
  clear h hS
  have h0 : RlSt W #[.slice Aa al.length ca, .slice An ns.length cn, .slice Ae es.length ce] (.slice none 0 0) [] (((W.alloc (.cells #[.slice Aa al.length ca, .slice An ns.length cn, .slice Ae es.length ce] 26)).alloc (.cells #[.int .i64 0, .slice none 0 0, .slice none 0 0, .slice none 0 0, .slice none 0 0, .slice none 0 0, .int .i64 0] 85)).alloc (.cells #[.int .i64 0, .slice none 0 0, .slice none 0 0, .slice none 0 0, .slice none 0 0, .slice none 0 0, .int .i64 0] 85)) (.slice none 0 0) (.slice none 0 0) (.slice none 0 0) rb0 := by
    refine ⟨⟨?_, OwnF.nil, OwnF.nil, OwnF.nil, Nat.le_refl _, by simp [Value.ownBlock]⟩, ?_, ((Below.refl _ _).alloc (by simp) _).alloc (by simp) _, World.ownsRow_nil _ _ _ _, by simp [Value.ownBlock]⟩
    · have := heap_alloc_new ((W.alloc (.cells #[.slice Aa al.length ca, .slice An ns.length cn, .slice Ae es.length ce] 26)).alloc (.cells #[.int .i64 0, .slice none 0 0, .slice none 0 0, .slice none 0 0, .slice none 0 0, .slice none 0 0, .int .i64 0] 85)) (.cells #[.int .i64 0, .slice none 0 0, .slice none 0 0, .slice none 0 0, .slice none 0 0, .slice none 0 0, .int .i64 0] 85)
      simpa using this
    · rw [Below.heap_alloc _ _ _ (by simp)]
      have := heap_alloc_new (W.alloc (.cells #[.slice Aa al.length ca, .slice An ns.length cn, .slice Ae es.length ce] 26)) (.cells #[.int .i64 0, .slice none 0 0, .slice none 0 0, .slice none 0 0, .slice none 0 0, .slice none 0 0, .int .i64 0] 85)
      simpa using this
  have C1 := Lib.hid (WY.out _ (box_below h0.below))
  have H0 := Lib.hid h0
  clear h0 WY
  go_enter Tryd.func54, Tryd.ntmps54
  go_wp2_with fail
  refine C1.out.mono ?_
  rintro e1 w1 ⟨hb1, hres⟩
  have HX := H0.out.step hb1
  have r0 := rboxL HX.rb 0 rfl
  have r1 := rboxL HX.rb 1 rfl
  have r2 := rboxL HX.rb 2 rfl
  have r3 := rboxL HX.rb 3 rfl
  have r4 := rboxL HX.rb 4 rfl
  have r5 := rboxL HX.rb 5 rfl
  have r6 := rboxL HX.rb 6 rfl
  have u0 := HX.ru.cell 0 rfl
  have u1 := HX.ru.cell 1 rfl
  have u2 := HX.ru.cell 2 rfl
  have u3 := HX.ru.cell 3 rfl
  have u4 := HX.ru.cell 4 rfl
  have u5 := HX.ru.cell 5 rfl
  have u6 := HX.ru.cell 6 rfl
  have rf : ∀ o, w1.frozen? ⟨W.heap.size + 1, o, none⟩ = false := fun o => by have := HX.rb; simp [World.frozen?, this]
  have hg := HX.ru.lt
  have hg1 : W.heap.size + 1 < w1.heap.size := by omega
  have ef := Lib.hid (HX.rb)
  have HXX := Lib.hid HX
  have HB1 := Lib.hid hb1
  clear hb1 HX C1
  rcases hres with ⟨l, v, hw, rfl, hO, hll⟩ | ⟨hw, rfl⟩
  case inr =>
    have HF := Lib.hid (show ruleB al ns e = none by unfold ruleB; rw [hw])
    clear hw
    go_wp2
    refine bodyPost_ret (v := .tuple #[.agg #[.int .i64 0, .slice none 0 0, .slice none 0 0, .slice none 0 0, .slice none 0 0, .slice none 0 0, .int .i64 0], .bool false]) (results_row_slot rfl _ _ (W.heap.size + 1) 85 #[.int .i64 0, .slice none 0 0, .slice none 0 0, .slice none 0 0, .slice none 0 0, .slice none 0 0, .int .i64 0] (0, 0) _ _ rfl rfl (store7 ef.out _ _ _ _ _ _ _) Tryd.underlying85 rfl sizeRlR) rfl ?_
    exact ⟨(box_below HXX.out.below).trans ((turns7 w1 _ _ _ _ _ _ _ _).below (box_below HXX.out.below).size (fun x hx => by rw [List.mem_singleton.1 hx]; omega)), none, 0, 0, none, 0, 0, none, 0, 0, .inr ⟨rfl, HF.out⟩⟩
  have hst0 : RlSt W #[.slice Aa al.length ca, .slice An ns.length cn, .slice Ae es.length ce] v l w1 (.slice none 0 0) (.slice none 0 0) (.slice none 0 0) rb0 :=
    ⟨HXX.out.ru, HXX.out.rb, HXX.out.below, OwnI.base hO (by simp), fun x hx hm => by
      have h1 := (ownBlock_cells hO hx).1
      simp [ufoot, Value.ownBlock] at hm h1
      omega⟩
  have HST0 := Lib.hid hst0
  have HW := Lib.hid hw
  have HLL := Lib.hid hll
  obtain ⟨va, vc, rfl, -⟩ := hO.shp
  have hl20 : l.length ≤ 1048576 := by have := SM.out.ns.1; omega
  clear hst0 hw hll hO r0 r1 r2 r3 r4 r5 r6 u0 u1 u2 u3 u4 u5 u6 rf ef HXX HB1 hg hg1
  go_wp2
  go_loopw [9, 10] (fun wv iv wr => ∃ (k : Nat) (b : RB) (pv tv nv : Value), iv = .int .i64 k ∧ wv = .int .i64 b.w ∧ k ≤ l.length ∧ (l.take k).foldl (rbS al ns) (some rb0) = some b ∧ RBok b k ∧ RlSt W #[.slice Aa al.length ca, .slice An ns.length cn, .slice Ae es.length ce] (.slice va l.length vc) l wr pv tv nv b) (fun _ iv _ => l.length - (intOf iv).toNat)
  case atStart => exact ⟨0, rb0, _, _, _, rfl, rfl, Nat.zero_le _, rfl, rbok0, HST0.out⟩
  case round =>
    obtain ⟨k, b, pv, tv, nv, rfl, rfl, hk, hf, hok, hst⟩ := hrel
    clear HST0
    obtain ⟨pa, pc, rfl⟩ := hst.ru.po.form
    obtain ⟨ta, tc, rfl⟩ := hst.ru.te.form
    obtain ⟨na, nc, rfl⟩ := hst.ru.ne.form
    have hg := hst.ru.lt
    have hlen := hok.len
    by_cases hkn : k < l.length
    · obtain ⟨x, hx⟩ : ∃ x, l[k]? = some x := ⟨_, List.getElem?_eq_getElem hkn⟩
      have hxn := wayR_lt HW.out x (List.mem_of_getElem? hx)
      obtain ⟨n, hn⟩ : ∃ n, ns[x]? = some n := ⟨_, List.getElem?_eq_getElem hxn⟩
      obtain ⟨ga, rfl, hga, -⟩ := hst.way.elt hx
      obtain ⟨nb, no, rfl, -, hnb, ncs, ⟨lv, mv, hN⟩, hcs⟩ := HP.out.ns.at hn
      have hncs := hN.cells
      subst hncs
      obtain ⟨Al, cl, rfl⟩ := hN.links.form
      obtain ⟨Am, cm, rfl⟩ := hN.new.form
      have KP := Lib.hid (fun (w' : World) (hW : Below wr.heap.size wr w') => (show w'.cell? ⟨W.heap.size, 1, none⟩ = some (.slice (some ⟨nb, no, none⟩) ns.length cn) ∧ w'.cell? ⟨ga, k, none⟩ = some (.int .i64 (x : Int)) ∧ w'.cell? ⟨nb, no + x * 11, none⟩ = some (.int .i64 n.kind) ∧ w'.cell? ⟨nb, no + x * 11 + 1, none⟩ = some (.int .i64 n.parent) ∧ w'.cell? ⟨nb, no + x * 11 + 2, none⟩ = some (.int .i64 n.alpha) ∧ w'.cell? ⟨nb, no + x * 11 + 3, none⟩ = some (.slice Al n.links.length cl) ∧ w'.cell? ⟨nb, no + x * 11 + 4, none⟩ = some (.slice Am n.new.length cm) ∧ w'.cell? ⟨nb, no + x * 11 + 5, none⟩ = some (.int .i64 n.test.op) ∧ w'.cell? ⟨nb, no + x * 11 + 6, none⟩ = some (.bool n.test.l.v) ∧ w'.cell? ⟨nb, no + x * 11 + 7, none⟩ = some (.int .i64 n.test.l.n) ∧ w'.cell? ⟨nb, no + x * 11 + 8, none⟩ = some (.bool n.test.r.v) ∧ w'.cell? ⟨nb, no + x * 11 + 9, none⟩ = some (.int .i64 n.test.r.n) ∧ w'.cell? ⟨nb, no + x * 11 + 10, none⟩ = some (.int .i64 n.width) from by
        obtain ⟨g', hg', -, c0⟩ := (hst.way.below hW).elt hx
        simp only [Option.some.injEq, Addr.mk.injEq, and_true] at hg'
        subst hg'
        have dd := fun (k : Nat) (u : Value) hu => ((box_below (box_step hst.below hW)).cell (p := ⟨nb, no + x * 11 + k, none⟩) hnb).trans (hcs k u hu)
        exact ⟨box_cellL (box_step hst.below hW) 1 rfl, c0, dd 0 _ rfl, dd 1 _ rfl, dd 2 _ rfl, dd 3 _ rfl, dd 4 _ rfl, dd 5 _ rfl, dd 6 _ rfl, dd 7 _ rfl, dd 8 _ rfl, dd 9 _ rfl, dd 10 _ rfl⟩))
      have e4 : (0 : Int) ≤ (k : Int) := by omega
      have e5 : (k : Int) < (l.length : Int) := by omega
      have e6 : (0 : Int) ≤ (x : Int) := by omega
      have e7 : (x : Int) < (ns.length : Int) := by omega
      obtain ⟨wn, hwn⟩ : ∃ wn, wn = (wr.alloc (.cells #[.int .i64 n.kind, .int .i64 n.parent, .int .i64 n.alpha, .slice Al n.links.length cl, .slice Am n.new.length cm, .int .i64 n.test.op, .bool n.test.l.v, .int .i64 n.test.l.n, .bool n.test.r.v, .int .i64 n.test.r.n, .int .i64 n.width] 40)).drew := ⟨_, rfl⟩
      have hrow : wn.heap[wr.heap.size]? = some (.cells #[.int .i64 n.kind, .int .i64 n.parent, .int .i64 n.alpha, .slice Al n.links.length cl, .slice Am n.new.length cm, .int .i64 n.test.op, .bool n.test.l.v, .int .i64 n.test.l.n, .bool n.test.r.v, .int .i64 n.test.r.n, .int .i64 n.width] 40 (0, 0)) := by rw [hwn]; exact heap_alloc_new wr _
      have hqn : Below wr.heap.size wr wn := by rw [hwn]; exact ((Below.refl _ _).alloc (Nat.le_refl _) _).drew
      have hXn := hst.step hqn
      have hnl := SM.out.ns.2 n (List.mem_of_getElem? hn)
      have CB := Lib.hid (fun (Wx : World) (hb : Below W.heap.size W Wx) => rbackW Wx (.slice Aa al.length ca) (.slice (some ⟨nb, no, none⟩) ns.length cn) (.slice Ae es.length ce) al (HP.out.below hb).al SM.out.al.1 (fun s hs => SM.out.al.2 s hs) n _ _ _ (hN.kp (Kp.of_below hb) (fun _ _ h => h)) hnl.2 b.w (by have := hok.w; omega))
      have TOK := Lib.hid hN.ok
      have HXN := Lib.hid hXn
      have HROW := Lib.hid hrow
      have HQN := Lib.hid hqn
      have HF := Lib.hid (show (l.take (k + 1)).foldl (rbS al ns) (some rb0) = rbS al ns (some b) x by rw [fold_next (rbS al ns) (some rb0) hx, hf])
      have HNN := Lib.hid hn
      have HOK := Lib.hid hok
      have HK := Lib.hid hkn
      have HNL := Lib.hid hnl
      have HFL := Lib.hid (hst.ru.foot_lt)
      have S0 := KP.out _ (Below.refl _ _).drew
      clear hN hx hn hcs hkn hst hf hok hrow hqn hXn hnl hlen
      go_wp2_with fail
      go_region_held3 (fun w' : World => w'.cell? ⟨W.heap.size, 1, none⟩ = some (.slice (some ⟨nb, no, none⟩) ns.length cn) ∧ w'.cell? ⟨ga, k, none⟩ = some (.int .i64 (x : Int)) ∧ w'.cell? ⟨nb, no + x * 11, none⟩ = some (.int .i64 n.kind) ∧ w'.cell? ⟨nb, no + x * 11 + 1, none⟩ = some (.int .i64 n.parent) ∧ w'.cell? ⟨nb, no + x * 11 + 2, none⟩ = some (.int .i64 n.alpha) ∧ w'.cell? ⟨nb, no + x * 11 + 3, none⟩ = some (.slice Al n.links.length cl) ∧ w'.cell? ⟨nb, no + x * 11 + 4, none⟩ = some (.slice Am n.new.length cm) ∧ w'.cell? ⟨nb, no + x * 11 + 5, none⟩ = some (.int .i64 n.test.op) ∧ w'.cell? ⟨nb, no + x * 11 + 6, none⟩ = some (.bool n.test.l.v) ∧ w'.cell? ⟨nb, no + x * 11 + 7, none⟩ = some (.int .i64 n.test.l.n) ∧ w'.cell? ⟨nb, no + x * 11 + 8, none⟩ = some (.bool n.test.r.v) ∧ w'.cell? ⟨nb, no + x * 11 + 9, none⟩ = some (.int .i64 n.test.r.n) ∧ w'.cell? ⟨nb, no + x * 11 + 10, none⟩ = some (.int .i64 n.width)) (first | exact S0 | exact KP.out _ (Below.refl _ _).drew | exact KP.out _ ((Below.refl _ _).alloc (Nat.le_refl _) _).drew | exact KP.out _ ((Below.refl _ _).alloc (Nat.le_refl _) _) | go_keep) ((fail))
      go_upto_region 10 with fail
      rw [← hwn]
      clear hwn S0 KP
      have q0 := rboxL HROW.out 0 rfl
      have q1 := rboxL HROW.out 1 rfl
      have q2 := rboxL HROW.out 2 rfl
      have q3 := rboxL HROW.out 3 rfl
      have q4 := rboxL HROW.out 4 rfl
      have q5 := rboxL HROW.out 5 rfl
      have q6 := rboxL HROW.out 6 rfl
      have q7 := rboxL HROW.out 7 rfl
      have q8 := rboxL HROW.out 8 rfl
      have q9 := rboxL HROW.out 9 rfl
      have q10 := rboxL HROW.out 10 rfl
      have u2 := HXN.out.ru.cell 2 rfl
      have u3 := HXN.out.ru.cell 3 rfl
      have u4 := HXN.out.ru.cell 4 rfl
      have hgn := HXN.out.ru.lt
      have hrn := lt_of_heap HROW.out
      have hfl := HXN.out.ru.foot_lt
      by_cases hk2 : n.kind = 2
      · have hkb : (n.kind == 2) = true := by simp [hk2]
        have HR := Lib.hid (show (l.take (k + 1)).foldl (rbS al ns) (some rb0) = some ⟨b.w, b.pos, b.tests ++ [n.test], b.neg⟩ by rw [HF.out, rbS_test HNN.out hk2])
        have HOK2 := Lib.hid (HOK.out.test n.test)
        have hbl : b.tests.length ≤ 1048576 := by have := HOK.out.len; have := HK.out; omega
        have hbase : W.heap.size + 1 + 1 ≤ wn.heap.size := by omega
        clear hk2 hfl CB
        go_wp2_with (at_builtin; refine wpList_append_F HXN.out.ru.te (fun b hb hf => hf.2 (by simp [ufoot, hb])) rfl (.tmp 42) (.tmp 45) 82 rfl Tryd.underlying82 infoTst rfl (by decide) rfl #[.int .i64 n.test.op, .bool n.test.l.v, .int .i64 n.test.l.n, .bool n.test.r.v, .int .i64 n.test.r.n] _ rfl rfl (x := n.test) ⟨rfl, TOK.out.2.2.2.2.1, TOK.out.2.2.2.2.2.1, TOK.out.2.2.2.2.2.2⟩ (by omega) (by decide) hbase ?_; intro g' cap w5 ho ht hat hlt5; have hgg := (HXN.out.ru.apart).2.1; have e3 := (ht.block _ HXN.out.ru.lt (fun hm => (hgg _ (by simpa using hm)).1 rfl)).trans HXN.out.ru.blk; have z1 := rboxL e3 3 rfl; have z2 : ∀ o, w5.frozen? ⟨W.heap.size + 1 + 1, o, none⟩ = false := (fun o => by simp [World.frozen?, e3]); have z3 := lt_of_heap e3; have GR := Lib.hid (HXN.out.ru.grow_ns ho ht hat); clear ho ht hat hlt5 hgg e3)
        have N1 := HXN.out.next (b' := ⟨b.w, b.pos, b.tests ++ [n.test], b.neg⟩) GR.out.1 GR.out.2.1 GR.out.2.2
        exact ⟨⟨k + 1, ⟨b.w, b.pos, b.tests ++ [n.test], b.neg⟩, _, _, _, by go_num, rfl, HK.out, HR.out, HOK2.out, N1⟩, by simp [intOf]; have := HK.out; omega⟩
      · have y0 := box_cellL HXN.out.below 0 rfl
        have y1 := box_cellL HXN.out.below 1 rfl
        have y2 := box_cellL HXN.out.below 2 rfl
        have hkb : (n.kind == 2) = false := by simpa using hk2
        have CBW := Lib.hid (CB.out wn (box_below HXN.out.below))
        clear CB
        go_wp2_with fail
        refine CBW.out.mono ?_
        rintro e2 w2 ⟨hb2, hres⟩
        have HX2 := Lib.hid (HXN.out.step hb2)
        have HROW2 := Lib.hid ((hb2.block _ hrn).trans HROW.out)
        have hw2 := hb2.size
        clear CBW q0 q1 q2 q3 q4 q5 q6 q7 q8 q9 q10 y0 y1 y2 u2 u3 u4
        have u0 := HX2.out.ru.cell 0 rfl
        have u1 := HX2.out.ru.cell 1 rfl
        have u2 := HX2.out.ru.cell 2 rfl
        have u3 := HX2.out.ru.cell 3 rfl
        have u4 := HX2.out.ru.cell 4 rfl
        have u5 := HX2.out.ru.cell 5 rfl
        have u6 := HX2.out.ru.cell 6 rfl
        have q0 := rboxL HROW2.out 0 rfl
        have hg2 := HX2.out.ru.lt
        have hg3 : W.heap.size + 1 < w2.heap.size := by omega
        have hr2 := lt_of_heap HROW2.out
        rcases hres with ⟨p, v, hp, rfl, pok, hv⟩ | ⟨hp, rfl⟩
        · obtain ⟨va2, vc2, rfl⟩ := hv.form
          have hne1 : wr.heap.size ≠ W.heap.size + 1 + 1 := by omega
          have hbp : Below w2.heap.size w2 (w2.alloc (.cells #[.int .i64 p.pred, .slice va2 p.args.length vc2] 80)) := (Below.refl _ _).alloc (Nat.le_refl _) _
          have HX3 := Lib.hid (HX2.out.step hbp)
          have HROW3 := Lib.hid ((hbp.block _ hr2).trans HROW2.out)
          have HNF := Lib.hid (show ∀ x ∈ ufoot (W.heap.size + 1 + 1) (.slice pa b.pos.length pc) (.slice ta b.tests.length tc) (.slice na b.neg.length nc), x = wr.heap.size → False from fun x hx e => by have := (HFL.out x hx).2; omega)
          have HEL := Lib.hid (show EPat (Off (W.heap.size + 1 + 1) (ufoot (W.heap.size + 1 + 1) (.slice pa b.pos.length pc) (.slice ta b.tests.length tc) (.slice na b.neg.length nc))) (w2.alloc (.cells #[.int .i64 p.pred, .slice va2 p.args.length vc2] 80)) [.int .i64 p.pred, .slice va2 p.args.length vc2] p from
            ⟨_, rfl, pok, hv.kp (Kp.of_below hbp) (fun b _ hb => ⟨by omega, fun hm => by have := (HFL.out b hm).2; omega⟩) (fun _ _ h => h)⟩)
          obtain ⟨s, hs1, hs2⟩ := backP_len hp
          have hpl : p.args.length ≤ 1048576 := by rw [hs2]; exact SM.out.al.2 s hs1
          have hbase : W.heap.size + 1 + 1 ≤ (w2.alloc (.cells #[.int .i64 p.pred, .slice va2 p.args.length vc2] 80)).heap.size := by simp; omega
          have hb1 : b.pos.length ≤ 1048576 := by have := HOK.out.len; have := HK.out; omega
          have hb3 : b.neg.length ≤ 1048576 := by have := HOK.out.len; have := HK.out; omega
          by_cases hk1 : n.kind = 1
          · have hkb1 : (n.kind == 1) = true := by simp [hk1]
            have HR := Lib.hid (show (l.take (k + 1)).foldl (rbS al ns) (some rb0) = some ⟨b.w + (n.new.length : Int), b.pos ++ [p], b.tests, b.neg⟩ by rw [HF.out, rbS_join HNN.out hk1 hp])
            have HOK2 := Lib.hid (HOK.out.join hpl HNL.out.2)
            have e8 : -9223372036854775808 ≤ b.w + (n.new.length : Int) ∧ b.w + (n.new.length : Int) ≤ 9223372036854775807 := by have := HOK.out.w; have := HNL.out.2; omega
            have e9 : IntKind.i64.wrap (b.w + (n.new.length : Int)) = b.w + (n.new.length : Int) := IntWalk.i64_in _ e8
            have e10 : wrap64 (b.w + (n.new.length : Int)) = b.w + (n.new.length : Int) := IntWalk.wrap64_in _ e8
            clear hk1 hk2 hp hv hbp hs1 hs2 hb2 hfl pok
            go_wp2_with (at_builtin; refine wpList_append_F HX3.out.ru.po (fun b hb hf => hf.2 (by simp [ufoot, hb])) rfl (.tmp 62) (.tmp 64) 81 rfl Tryd.underlying81 infoPat rfl (by decide) rfl #[.int .i64 p.pred, .slice va2 p.args.length vc2] _ rfl (by simp) (x := p) HEL.out (by omega) (by decide) hbase ?_; intro g' cap w5 ho ht hat hlt5; have hgg := (HX3.out.ru.apart).1; have e3 := (ht.block _ HX3.out.ru.lt (fun hm => (hgg _ (by simpa using hm)).1 rfl)).trans HX3.out.ru.blk; have z1 := rboxL e3 2 rfl; have z2 : ∀ o, w5.frozen? ⟨W.heap.size + 1 + 1, o, none⟩ = false := (fun o => by simp [World.frozen?, e3]); have z3 := lt_of_heap e3; have z5 := (ht.block _ (lt_of_heap HROW3.out) (fun hm => HNF.out _ (by simp at hm; simp [ufoot, hm]) rfl)).trans HROW3.out; have z4 := rboxL z5 4 rfl; have GR := Lib.hid (HX3.out.ru.grow_al ho ht hat); have z6 := rboxL ((Below.heap_setCell _ ⟨W.heap.size + 1 + 1, 2, none⟩ (.slice (some ⟨g', 0, none⟩) (b.pos.length + 1) cap) _ hne1).trans z5) 4 rfl; clear ho ht hat hlt5 hgg e3 z5)
            have N1 := HX3.out.next (b' := ⟨b.w + (n.new.length : Int), b.pos ++ [p], b.tests, b.neg⟩) GR.out.1 GR.out.2.1 GR.out.2.2
            exact ⟨⟨k + 1, ⟨b.w + (n.new.length : Int), b.pos ++ [p], b.tests, b.neg⟩, _, _, _, by go_num, by go_num, HK.out, HR.out, HOK2.out, N1⟩, by simp [intOf]; have := HK.out; omega⟩
          · have hkb1 : (n.kind == 1) = false := by simpa using hk1
            have HR := Lib.hid (show (l.take (k + 1)).foldl (rbS al ns) (some rb0) = some ⟨b.w, b.pos, b.tests, b.neg ++ [p]⟩ by rw [HF.out, rbS_neg HNN.out hk2 hk1 hp])
            have HOK2 := Lib.hid (HOK.out.nega hpl)
            clear hk1 hk2 hp hv hbp hs1 hs2 hb2 hfl pok
            go_wp2_with (at_builtin; refine wpList_append_F HX3.out.ru.ne (fun b hb hf => hf.2 (by simp [ufoot, hb])) rfl (.tmp 73) (.tmp 75) 81 rfl Tryd.underlying81 infoPat rfl (by decide) rfl #[.int .i64 p.pred, .slice va2 p.args.length vc2] _ rfl (by simp) (x := p) HEL.out (by omega) (by decide) hbase ?_; intro g' cap w5 ho ht hat hlt5; have hgg := (HX3.out.ru.apart).2.2; have e3 := (ht.block _ HX3.out.ru.lt (fun hm => hgg _ (by simpa using hm) rfl)).trans HX3.out.ru.blk; have z1 := rboxL e3 4 rfl; have z2 : ∀ o, w5.frozen? ⟨W.heap.size + 1 + 1, o, none⟩ = false := (fun o => by simp [World.frozen?, e3]); have z3 := lt_of_heap e3; have z5 := (ht.block _ (lt_of_heap HROW3.out) (fun hm => HNF.out _ (by simp at hm; simp [ufoot, hm]) rfl)).trans HROW3.out; have z4 := rboxL z5 4 rfl; have GR := Lib.hid (HX3.out.ru.grow_en ho ht hat); have z6 := rboxL ((Below.heap_setCell _ ⟨W.heap.size + 1 + 1, 4, none⟩ (.slice (some ⟨g', 0, none⟩) (b.neg.length + 1) cap) _ hne1).trans z5) 4 rfl; clear ho ht hat hlt5 hgg e3 z5)
            have N1 := HX3.out.next (b' := ⟨b.w, b.pos, b.tests, b.neg ++ [p]⟩) GR.out.1 GR.out.2.1 GR.out.2.2
            exact ⟨⟨k + 1, ⟨b.w, b.pos, b.tests, b.neg ++ [p]⟩, _, _, _, by go_num, rfl, HK.out, HR.out, HOK2.out, N1⟩, by simp [intOf]; have := HK.out; omega⟩
        · have HFN := Lib.hid (rule_none (k := k + 1) HW.out (by rw [HF.out, rbS_bad HNN.out hk2 hp]))
          obtain ⟨w3, hw3⟩ : ∃ w3, w3 = w2.alloc (.cells #[.int .i64 0, .slice none 0 0] 80) := ⟨_, rfl⟩
          have HX3 := Lib.hid (show RlSt W #[.slice Aa al.length ca, .slice (some ⟨nb, no, none⟩) ns.length cn, .slice Ae es.length ce] (.slice (some ⟨ga, 0, none⟩) l.length vc) l w3 (.slice pa b.pos.length pc) (.slice ta b.tests.length tc) (.slice na b.neg.length nc) b by rw [hw3]; exact HX2.out.step ((Below.refl _ _).alloc (Nat.le_refl _) _))
          clear hp hk2 hb2 u0 u1 u2 u3 u4 u5 u6 hfl hg2 hg3 hr2
          have r0 := rboxL HX3.out.rb 0 rfl
          have v0 := HX3.out.ru.cell 0 rfl
          have r1 := rboxL HX3.out.rb 1 rfl
          have v1 := HX3.out.ru.cell 1 rfl
          have r2 := rboxL HX3.out.rb 2 rfl
          have v2 := HX3.out.ru.cell 2 rfl
          have r3 := rboxL HX3.out.rb 3 rfl
          have v3 := HX3.out.ru.cell 3 rfl
          have r4 := rboxL HX3.out.rb 4 rfl
          have v4 := HX3.out.ru.cell 4 rfl
          have r5 := rboxL HX3.out.rb 5 rfl
          have v5 := HX3.out.ru.cell 5 rfl
          have r6 := rboxL HX3.out.rb 6 rfl
          have v6 := HX3.out.ru.cell 6 rfl
          have rf : ∀ (o : Nat), w3.frozen? ⟨W.heap.size + 1, o, none⟩ = false := fun o => by have := HX3.out.rb; simp [World.frozen?, this]
          have hg2 := HX3.out.ru.lt
          have hg3 : W.heap.size + 1 < w3.heap.size := by omega
          go_upto_region 14 with fail
          rw [← hw3]
          clear hw3
          go_wp2
          refine bodyPost_ret (v := .tuple #[.agg #[.int .i64 0, .slice none 0 0, .slice pa b.pos.length pc, .slice ta b.tests.length tc, .slice na b.neg.length nc, .slice none 0 0, .int .i64 0], .bool false]) (results_row_slot rfl _ _ (W.heap.size + 1) 85 #[.int .i64 0, .slice none 0 0, .slice pa b.pos.length pc, .slice ta b.tests.length tc, .slice na b.neg.length nc, .slice none 0 0, .int .i64 0] (0, 0) _ _ rfl rfl (store7 HX3.out.rb _ _ _ _ _ _ _) Tryd.underlying85 rfl sizeRlR) rfl ?_
          have hbw := box_below HX3.out.below
          exact ⟨hbw.trans ((turns7 _ _ _ _ _ _ _ _ _).below hbw.size (fun x hx => by rw [List.mem_singleton.1 hx]; omega)), _, _, _, _, _, _, _, _, _, .inr ⟨rfl, HFN.out⟩⟩
    · obtain rfl : k = l.length := by omega
      rw [List.take_length] at hf
      have HF := Lib.hid (rule_some HW.out hf)
      have r0 := rboxL hst.rb 0 rfl
      have r1 := rboxL hst.rb 1 rfl
      have r2 := rboxL hst.rb 2 rfl
      have r3 := rboxL hst.rb 3 rfl
      have r4 := rboxL hst.rb 4 rfl
      have r5 := rboxL hst.rb 5 rfl
      have r6 := rboxL hst.rb 6 rfl
      have u0 := hst.ru.cell 0 rfl
      have u1 := hst.ru.cell 1 rfl
      have u2 := hst.ru.cell 2 rfl
      have u3 := hst.ru.cell 3 rfl
      have u4 := hst.ru.cell 4 rfl
      have u5 := hst.ru.cell 5 rfl
      have u6 := hst.ru.cell 6 rfl
      have rf : ∀ o, wr.frozen? ⟨W.heap.size + 1, o, none⟩ = false := fun o => by have := hst.rb; simp [World.frozen?, this]
      have hg1 : W.heap.size + 1 < wr.heap.size := by omega
      have HX := Lib.hid hst
      have HOK := Lib.hid hok
      clear hst hf hok hkn hlen
      go_wp2
      refine bodyPost_ret (v := .tuple #[.agg #[.int .i64 0, .slice none 0 0, .slice pa b.pos.length pc, .slice ta b.tests.length tc, .slice na b.neg.length nc, .slice none 0 0, .int .i64 0], .bool true]) (results_row_slot rfl _ _ (W.heap.size + 1) 85 #[.int .i64 0, .slice none 0 0, .slice pa b.pos.length pc, .slice ta b.tests.length tc, .slice na b.neg.length nc, .slice none 0 0, .int .i64 0] (0, 0) _ _ rfl rfl (store7 HX.out.rb _ _ _ _ _ _ _) Tryd.underlying85 rfl sizeRlR) rfl ?_
      have T := turns7 wr (W.heap.size + 1) (.int .i64 0) (.slice none 0 0) (.slice pa b.pos.length pc) (.slice ta b.tests.length tc) (.slice na b.neg.length nc) (.slice none 0 0) (.int .i64 0)
      have hbw := box_below HX.out.below
      refine ⟨hbw.trans (T.below hbw.size (fun x hx => by rw [List.mem_singleton.1 hx]; omega)), _, _, _, _, _, _, _, _, _, .inl ⟨rfl, _, HF.out, ⟨_, _, _, _, _, ⟨rfl, ok0, ok0, ?_, ?_, ?_, ?_, ?_⟩⟩, ?_⟩⟩
      · exact RSl.nil
      · exact (HX.out.ru.po.rsl (G := fun b => W.heap.size + 1 + 1 ≤ b) (fun b hb => (HX.out.ru.po.block hb).1)).kp (Kp.of_turns T (fun x hx hf => by rw [List.mem_singleton.1 hx] at hf; omega)) (fun b _ hb => by omega) (fun cs p hp => EPat.kp hp (Kp.of_turns T (fun x hx hf => by have := hf.1; rw [List.mem_singleton.1 hx] at this; omega)) (fun b _ hb => by have := hb.1; omega))
      · exact (HX.out.ru.te.rsl (G := fun b => W.heap.size + 1 + 1 ≤ b) (fun b hb => (HX.out.ru.te.block hb).1)).kp (Kp.of_turns T (fun x hx hf => by rw [List.mem_singleton.1 hx] at hf; omega)) (fun b _ hb => by omega) (fun _ _ h => h)
      · exact (HX.out.ru.ne.rsl (G := fun b => W.heap.size + 1 + 1 ≤ b) (fun b hb => (HX.out.ru.ne.block hb).1)).kp (Kp.of_turns T (fun x hx hf => by rw [List.mem_singleton.1 hx] at hf; omega)) (fun b _ hb => by omega) (fun cs p hp => EPat.kp hp (Kp.of_turns T (fun x hx hf => by have := hf.1; rw [List.mem_singleton.1 hx] at this; omega)) (fun b _ hb => by have := hb.1; omega))
      · exact RSl.nil
      · have := HOK.out.len
        exact ⟨by simp [rlOf, noPat, patSm], ⟨by simp only [rlOf]; omega, HOK.out.ps⟩, by simp only [rlOf]; omega, ⟨by simp only [rlOf]; omega, HOK.out.ng⟩, by simp [rlOf]⟩
end Go.Proofs.YtonkbjdeaneicaaDoor

namespace Go.Proofs.YtonkbjdeaneicaaDoor
open Go.RowKit Pln Classical

set_option maxRecDepth 100000 in
set_option maxHeartbeats 4000000 in
theorem rfitW {F : Nat → Prop} {cs : List Value} {hv pv tv nv vv : Value} (r : Rl) (w : World) (h : ERl F w cs r hv pv tv nv vv) (hS : rlSm 1048576 r) :
    Calls Tryd.prog 76 #[.agg #[.int .i64 r.head.pred, hv, pv, tv, nv, vv, .int .i64 r.clause]] w (SomeMay r w) := by
  obtain ⟨Ap, cp, hpv⟩ := h.pos.form
  obtain ⟨At, ct, htv⟩ := h.tests.form
  obtain ⟨An, cn, hnv⟩ := h.neg.form
  subst hpv; subst htv; subst hnv
  have l1 := hS.pos.1
  have l2 := hS.tests
  have l3 := hS.neg.1
  have H := Lib.hid h
  have SM := Lib.hid hS
  clear h hS
  by_cases hmany : 16 < r.pos.length + r.tests.length + r.neg.length
  · have hb := Lib.hid (mayB_false (r := r) (fun ⟨w, hh⟩ => by have := hh.many; omega))
    go_enter Tryd.func76, Tryd.ntmps76
    go_wp2
    go_ret2
    exact someMay hb.out ((Below.refl _ _).alloc (Nat.le_refl _) _)
  · go_enter Tryd.func76, Tryd.ntmps76
    go_wp2
    go_loopw [4, 5] (fun wd i wr => ∃ k : Nat, i = .int .i64 k ∧ wd = .int .i64 (wAt r k) ∧ PosTo r k ∧ Below (w.heap.size + 1) (w.alloc (.cells #[.int .i64 r.head.pred, hv, .slice Ap r.pos.length cp, .slice At r.tests.length ct, .slice An r.neg.length cn, vv, .int .i64 r.clause] 85)) wr) (fun _ i _ => r.pos.length - (intOf i).toNat)
    case atStart => exact ⟨0, rfl, rfl, ⟨Nat.zero_le _, by simp, trivial⟩, Below.refl _ _⟩
    case round =>
      obtain ⟨k, rfl, rfl, hP, hb⟩ := hrel
      have x1 := box_cell hb 2 _ rfl
      have hw128 := hP.wle (by omega)
      have hwz : w.heap.size < wr.heap.size := by have := hb.size; simp at this; omega
      by_cases hkn : k < r.pos.length
      · obtain ⟨p, hp⟩ : ∃ p, r.pos[k]? = some p := ⟨_, List.getElem?_eq_getElem hkn⟩
        obtain ⟨b, off, rfl, hFb, hbs, cs, ⟨av, rfl, pok, ha⟩, hc⟩ := (H.out.pos.kp (Kp.of_below (box_below hb)) (fun _ _ h => h) (fun _ _ h => h.kp (Kp.of_below (box_below hb)) (fun _ _ h => h))).at hp
        have c0 := hc 0 _ rfl
        have c1 := hc 1 _ rfl
        simp only [Nat.add_zero] at c0
        obtain ⟨Aa, ca, rfl⟩ := ha.form
        have hpl := SM.out.pos.2 p (List.mem_of_getElem? hp)
        unfold patSm at hpl
        have CP := Lib.hid (fun W' (hb : Below wr.heap.size wr W') => rpatternW p _ W' (ha.keep (Kp.of_below hb)))
        have e1 : (0 : Int) ≤ (k : Int) := by omega
        have e2 : (k : Int) < (r.pos.length : Int) := by omega
        have HP := Lib.hid hp
        have HH := Lib.hid hP
        have HK := Lib.hid hkn
        have HB := Lib.hid hb
        have HA := Lib.hid ha
        have hc' := Lib.hid hc
        have HFB := Lib.hid hFb
        clear hc hp hP hkn hb ha
        go_wp2_with fail
        refine (CP.out _ (Below.refl _ _)).mono ?_
        rintro e w2 ⟨he, hb2⟩
        by_cases hpt : 0 ≤ p.pred ∧ p.args.length ≤ 8
        case neg =>
          rw [decide_eq_false hpt] at he
          subst he
          have HF := Lib.hid (mayB_false (r := r) (fun hh => hpt (fit_at hh HP.out).2))
          have HBB := Lib.hid (box_step HB.out hb2)
          clear hb2
          go_wp2
          go_ret2
          exact someMay HF.out (box_below HBB.out)
        rw [decide_eq_true hpt] at he
        subst he
        obtain ⟨w0, hw0⟩ : ∃ w0, wAt r k = w0 := ⟨_, rfl⟩
        have HW0 := Lib.hid hw0
        rw [hw0] at hw128 ⊢
        have x1 := (hb2.cell (p := ⟨w.heap.size, 2, none⟩) hwz).trans x1
        have hwz : w.heap.size < w2.heap.size := Nat.lt_of_lt_of_le hwz hb2.size
        have hbs : b < w2.heap.size := Nat.lt_of_lt_of_le hbs hb2.size
        have hc' := Lib.hid (show CsIn w2 b (off + k * 2) [.int .i64 p.pred, .slice Aa p.args.length ca] from fun j u hu => (hb2.cell (p := ⟨b, off + k * 2 + j, none⟩) ‹b < wr.heap.size›).trans (hc'.out j u hu))
        have HA := Lib.hid (HA.out.keep (Kp.of_below hb2))
        have HB := Lib.hid (box_step HB.out hb2)
        clear hw0 hb2 c0 c1 CP
        go_wp2
        obtain ⟨wo, rfl⟩ : ∃ wo : World, wo = w2 := ⟨_, rfl⟩
        go_loopw [4, 6] (fun wd i wr => ∃ j : Nat, i = .int .i64 j ∧ wd = .int .i64 (scanD (p.args.take j) w0) ∧ j ≤ p.args.length ∧ okA (p.args.take j) w0 ∧ Below wo.heap.size wo wr) (fun _ i _ => p.args.length - (intOf i).toNat)
        case atStart => exact ⟨0, rfl, rfl, Nat.zero_le _, trivial, Below.refl _ _⟩
        case round =>
          obtain ⟨j, rfl, rfl, hj, hok, hb2⟩ := hrel
          have x1' := (hb2.cell (p := ⟨w.heap.size, 2, none⟩) hwz).trans x1
          have hwz' : w.heap.size < wr.heap.size := Nat.lt_of_lt_of_le hwz hb2.size
          have hC2 := hc'.out.kp (F := fun _ => True) (Kp.of_below hb2) hbs trivial
          have c1' := hC2 1 _ rfl
          have hlen := scanD_len (p.args.take j) w0
          have hlj : (p.args.take j).length ≤ j := List.length_take_le _ _
          have HB2 := Lib.hid hb2
          clear x1 hC2
          by_cases hjn : j < p.args.length
          · obtain ⟨s, hs⟩ : ∃ s, p.args[j]? = some s := ⟨_, List.getElem?_eq_getElem hjn⟩
            obtain ⟨b', off', hAe, hF', hbs', cs', ⟨rfl, sok⟩, hc2⟩ := (HA.out.keep (Kp.of_below hb2)).at hs
            subst hAe
            have d0 := hc2 0 _ rfl
            have d1 := hc2 1 _ rfl
            simp only [Nat.add_zero] at d0
            obtain ⟨sv, sn⟩ := s
            simp only at d0 d1
            have f1 : (0 : Int) ≤ (j : Int) := by omega
            have f2 : (j : Int) < (p.args.length : Int) := by omega
            have hbb : b' < wr.heap.size := hbs'
            have hbb2 : b < wr.heap.size := Nat.lt_of_lt_of_le hbs hb2.size
            obtain ⟨wc, hwc⟩ : ∃ wc, scanD (p.args.take j) w0 = wc := ⟨_, rfl⟩
            have HWC := Lib.hid hwc
            have HOK := Lib.hid hok
            have HJ := Lib.hid hjn
            have HS := Lib.hid hs
            rw [hwc] at hlen ⊢
            have hwc2 : wc ≤ 1048704 := by omega
            clear hwc hlen hok hc2 hs hjn hlj hb2
            by_cases h0 : sn < 0
            · have HF := Lib.hid (mayB_false (r := r) (fun hh => by have := (okA_at (fit_at hh HP.out).1 HS.out).1; simp only at this; omega))
              go_wp2
              go_ret2
              exact someMay HF.out (((box_below HB.out).trans (HB2.out.mono (by omega))).trans (((Below.refl _ _).alloc (Nat.le_refl _) _).mono (by omega)))
            · have HW2 := Lib.hid (HB2.out.trans (((Below.refl wr.heap.size wr).alloc (Nat.le_refl _) (.cells #[.bool sv, .int .i64 sn] 36)).mono HB2.out.size))
              cases sv with
              | false =>
                have HX := Lib.hid (show scanD (p.args.take (j + 1)) w0 = wc by rw [scanD_succ HS.out, if_neg (by simp)]; exact HWC.out)
                have HO := Lib.hid (okA_snoc HS.out HOK.out (by simp only; omega) (by simp))
                go_wp2
                exact ⟨⟨j + 1, by go_num, by rw [HX.out], HJ.out, HO.out, HW2.out⟩, by simp [intOf]; have := HJ.out; omega⟩
              | true =>
                by_cases h1 : (wc : Int) < sn
                · have HF := Lib.hid (mayB_false (r := r) (fun hh => by
                    have h2 := (okA_at (fit_at hh HP.out).1 HS.out).2 rfl
                    rw [HW0.out, HWC.out] at h2
                    simp only at h2
                    omega))
                  go_wp2
                  go_ret2
                  exact someMay HF.out (((box_below HB.out).trans (HB2.out.mono (by omega))).trans (((Below.refl _ _).alloc (Nat.le_refl _) _).mono (by omega)))
                · have HO := Lib.hid (okA_snoc HS.out HOK.out (by simp only; omega) (fun _ => by rw [HWC.out]; simp only; omega))
                  by_cases h2 : sn = (wc : Int)
                  · have HX := Lib.hid (show scanD (p.args.take (j + 1)) w0 = wc + 1 by rw [scanD_succ HS.out, HWC.out, if_pos ⟨rfl, h2⟩])
                    have h2b : (sn == (wc : Int)) = true := by simpa using h2
                    clear h2
                    go_wp2
                    exact ⟨⟨j + 1, by go_num, by rw [HX.out]; go_num, HJ.out, HO.out, HW2.out⟩, by simp [intOf]; have := HJ.out; omega⟩
                  · have HX := Lib.hid (show scanD (p.args.take (j + 1)) w0 = wc by rw [scanD_succ HS.out, HWC.out, if_neg (fun h => h2 h.2)])
                    have h2b : (sn == (wc : Int)) = false := by simpa using h2
                    clear h2
                    go_wp2
                    exact ⟨⟨j + 1, by go_num, by rw [HX.out], HJ.out, HO.out, HW2.out⟩, by simp [intOf]; have := HJ.out; omega⟩
          · obtain rfl : j = p.args.length := by omega
            rw [List.take_length] at hok ⊢
            have hbb2 : b < wr.heap.size := Nat.lt_of_lt_of_le hbs hb2.size
            have c0' := hc'.out.kp (F := fun _ => True) (Kp.of_below hb2) hbs trivial 0 _ rfl
            simp only [Nat.add_zero] at c0'
            have HOK := Lib.hid hok
            have HBB := Lib.hid (box_step HB.out hb2)
            clear hok hb2 hjn hlj
            have N := HH.out.next HP.out hpt.1 hpt.2 (by rw [HW0.out]; exact HOK.out)
            rw [HW0.out] at N
            have N1 := Lib.hid N.1
            have N2 := Lib.hid N.2
            clear N
            go_wp2
            exact ⟨⟨k + 1, by go_num, by rw [N2.out], N1.out, HBB.out⟩, by simp [intOf]; have := HK.out; omega⟩
      · obtain rfl : k = r.pos.length := by have := hP.le; omega
        have hP' : okA (r.pos.flatMap Pat.args) 0 ∧ ∀ p ∈ r.pos, 0 ≤ p.pred ∧ p.args.length ≤ 8 := by
          have h1 := hP.ok
          have h2 := hP.pats
          rw [List.take_length] at h1 h2
          exact ⟨h1, h2⟩
        obtain ⟨wn, hwn⟩ : ∃ wn, wAt r r.pos.length = wn := ⟨_, rfl⟩
        have HW := Lib.hid (show scanD (r.pos.flatMap Pat.args) 0 = wn by unfold wAt at hwn; rw [List.take_length] at hwn; exact hwn)
        rw [hwn] at hw128 ⊢
        have HP := Lib.hid hP'
        have HB := Lib.hid hb
        clear hwn hP' hP hb hkn
        by_cases h16 : 16 < wn
        · have HF := Lib.hid (mayB_false (r := r) (fun ⟨w', hh⟩ => by have h1 := hh.wid; have h2 := hh.w16; rw [HW.out] at h1; omega))
          go_wp2
          go_ret2
          exact someMay HF.out (box_below HB.out)
        go_wp2
        clear x1 hwz
        obtain ⟨wo, rfl⟩ : ∃ wo : World, wo = wr := ⟨_, rfl⟩
        go_loopw [8] (fun i wr => ∃ k : Nat, i = .int .i64 k ∧ k ≤ r.tests.length ∧ (∀ t ∈ r.tests.take k, 1 ≤ t.op ∧ t.op ≤ 6 ∧ belowP wn t.l ∧ belowP wn t.r) ∧ Below (w.heap.size + 1) (w.alloc (.cells #[.int .i64 r.head.pred, hv, .slice Ap r.pos.length cp, .slice At r.tests.length ct, .slice An r.neg.length cn, vv, .int .i64 r.clause] 85)) wr) (fun i _ => r.tests.length - (intOf i).toNat)
        case atStart => exact ⟨0, rfl, Nat.zero_le _, by simp, HB.out⟩
        case round =>
          obtain ⟨k, rfl, hk, hq, hb⟩ := hrel
          have x1 := box_cell hb 3 _ rfl
          have hwz : w.heap.size < wr.heap.size := by have := hb.size; simp at this; omega
          by_cases hkn : k < r.tests.length
          · obtain ⟨t, ht⟩ : ∃ t, r.tests[k]? = some t := ⟨_, List.getElem?_eq_getElem hkn⟩
            obtain ⟨b, off, rfl, hFb, hbs, cs, ⟨rfl, ok1, ok2, ok3⟩, hc⟩ := (H.out.tests.keep (Kp.of_below (box_below hb))).at ht
            have c0 := hc 0 _ rfl
            have c1 := hc 1 _ rfl
            have c2 := hc 2 _ rfl
            have c3 := hc 3 _ rfl
            have c4 := hc 4 _ rfl
            simp only [Nat.add_zero] at c0
            have e1 : (0 : Int) ≤ (k : Int) := by omega
            have e2 : (k : Int) < (r.tests.length : Int) := by omega
            have HT := Lib.hid ht
            have HQ := Lib.hid hq
            have HK := Lib.hid hkn
            have HBB := Lib.hid hb
            have HM : ∀ h : mayP r, 1 ≤ t.op ∧ t.op ≤ 6 ∧ belowP wn t.l ∧ belowP wn t.r := fun ⟨w', hh⟩ => by
              have := hh.tst t (List.mem_of_getElem? ht)
              rw [← hh.wid, HW.out] at this
              exact this
            have HM' := Lib.hid HM
            clear hc ht hq hkn hb HM
            by_cases h1 : t.op < 1
            · have HF := Lib.hid (mayB_false (r := r) (fun hh => by have := (HM'.out hh).1; omega))
              go_wp2
              go_ret2
              exact someMay HF.out ((box_below HBB.out).trans (((Below.refl _ _).alloc (Nat.le_refl _) _).mono (by omega)))
            · by_cases h2 : 6 < t.op
              · have HF := Lib.hid (mayB_false (r := r) (fun hh => by have := (HM'.out hh).2.1; omega))
                go_wp2
                go_ret2
                exact someMay HF.out ((box_below HBB.out).trans (((Below.refl _ _).alloc (Nat.le_refl _) _).mono (by omega)))
              · by_cases h3 : fitB [⟨t.l.v, t.l.n⟩, ⟨t.r.v, t.r.n⟩] wn = true
                · have HQ2 := Lib.hid (take_all HQ.out HT.out (by
                    simp only [fitB, decide_eq_true_eq] at h3
                    exact ⟨by omega, by omega, h3 _ (by simp), h3 _ (by simp)⟩))
                  have H3 := Lib.hid h3
                  clear h3
                  go_wp2_with (go_at_call 89; refine (rslotsW (F := fun _ => True) [⟨t.l.v, t.l.n⟩, ⟨t.r.v, t.r.n⟩] _ wn _ (lit2 _ _ (by simp) _ _ _ _ _ ok2 ok3)).mono ?_; rintro e w' ⟨he, hbx⟩; rw [show decide (∀ s ∈ [(⟨t.l.v, t.l.n⟩ : Slt), ⟨t.r.v, t.r.n⟩], belowP wn s) = _ from H3.out] at he; subst he; have HBX := Lib.hid hbx; clear hbx)
                  exact ⟨⟨k + 1, by go_num, HK.out, HQ2.out, box_step HBB.out ((((Below.refl _ _).alloc (Nat.le_refl _) _).alloc (by simp) _).trans (HBX.out.mono (by simp; omega)))⟩, by simp [intOf]; have := HK.out; omega⟩
                · have HF := Lib.hid (mayB_false (r := r) (fun hh => h3 (by
                    obtain ⟨_, _, a1, a2⟩ := HM'.out hh
                    exact fitB_true (fun s hs => by
                      simp only [List.mem_cons, List.not_mem_nil, or_false] at hs
                      rcases hs with rfl | rfl
                      · exact a1
                      · exact a2))))
                  have H3 := Lib.hid (Bool.eq_false_iff.2 h3)
                  clear h3
                  go_wp2_with (go_at_call 89; refine (rslotsW (F := fun _ => True) [⟨t.l.v, t.l.n⟩, ⟨t.r.v, t.r.n⟩] _ wn _ (lit2 _ _ (by simp) _ _ _ _ _ ok2 ok3)).mono ?_; rintro e w' ⟨he, hbx⟩; rw [show decide (∀ s ∈ [(⟨t.l.v, t.l.n⟩ : Slt), ⟨t.r.v, t.r.n⟩], belowP wn s) = _ from H3.out] at he; subst he; have HBX := Lib.hid hbx; clear hbx)
                  go_ret2
                  exact someMay HF.out (box_below (box_step HBB.out ((((Below.refl _ _).alloc (Nat.le_refl _) _).alloc (by simp) _).trans (HBX.out.mono (by simp; omega)))))
          · obtain rfl : k = r.tests.length := by omega
            rw [List.take_length] at hq
            have HQ := Lib.hid hq
            have HBB := Lib.hid hb
            clear hq hb HB
            go_wp2
            clear x1 hwz
            obtain ⟨wo2, rfl⟩ : ∃ wo : World, wo = wr := ⟨_, rfl⟩
            go_loopw [10] (fun i wr => ∃ k : Nat, i = .int .i64 k ∧ k ≤ r.neg.length ∧ (∀ p ∈ r.neg.take k, 0 ≤ p.pred ∧ p.args.length ≤ 8 ∧ ∀ s ∈ p.args, belowP wn s) ∧ Below (w.heap.size + 1) (w.alloc (.cells #[.int .i64 r.head.pred, hv, .slice Ap r.pos.length cp, .slice At r.tests.length ct, .slice An r.neg.length cn, vv, .int .i64 r.clause] 85)) wr) (fun i _ => r.neg.length - (intOf i).toNat)
            case atStart => exact ⟨0, rfl, Nat.zero_le _, by simp, HBB.out⟩
            case round =>
              obtain ⟨k, rfl, hk, hq, hb⟩ := hrel
              have x1 := box_cell hb 4 _ rfl
              have hwz : w.heap.size < wr.heap.size := by have := hb.size; simp at this; omega
              clear HBB
              by_cases hkn : k < r.neg.length
              · obtain ⟨p, hp⟩ : ∃ p, r.neg[k]? = some p := ⟨_, List.getElem?_eq_getElem hkn⟩
                obtain ⟨b, off, rfl, hFb, hbs, cs, ⟨av, rfl, pok, ha⟩, hc⟩ := (H.out.neg.kp (Kp.of_below (box_below hb)) (fun _ _ h => h) (fun _ _ h => h.kp (Kp.of_below (box_below hb)) (fun _ _ h => h))).at hp
                have c0 := hc 0 _ rfl
                have c1 := hc 1 _ rfl
                simp only [Nat.add_zero] at c0
                obtain ⟨Aa, ca, rfl⟩ := ha.form
                have e1 : (0 : Int) ≤ (k : Int) := by omega
                have e2 : (k : Int) < (r.neg.length : Int) := by omega
                have HT := Lib.hid hp
                have HQ' := Lib.hid hq
                have HK := Lib.hid hkn
                have HBB := Lib.hid hb
                have HA := Lib.hid ha
                have HM : ∀ h : mayP r, 0 ≤ p.pred ∧ p.args.length ≤ 8 ∧ ∀ s ∈ p.args, belowP wn s := fun ⟨w', hh⟩ => by
                  have := hh.ngs p (List.mem_of_getElem? hp)
                  rw [← hh.wid, HW.out] at this
                  exact this
                have HM' := Lib.hid HM
                clear hc hp hq hkn hb ha HM
                have CP := Lib.hid (fun W' (hb : Below wr.heap.size wr W') => rpatternW p _ W' (HA.out.keep (Kp.of_below hb)))
                have CS := Lib.hid (fun W' (hb : Below wr.heap.size wr W') => rslotsW p.args _ wn W' (HA.out.keep (Kp.of_below hb)))
                go_wp2_with fail
                refine (CP.out _ (Below.refl _ _)).mono ?_
                rintro e w2 ⟨he, hb2⟩
                have HB2 := Lib.hid hb2
                have HBB2 := Lib.hid (box_step HBB.out hb2)
                have x1 := (hb2.cell (p := ⟨w.heap.size, 4, none⟩) hwz).trans x1
                have c0 := (hb2.cell (p := ⟨b, off + k * 2, none⟩) hbs).trans c0
                have c1 := (hb2.cell (p := ⟨b, off + k * 2 + 1, none⟩) hbs).trans c1
                have hwz : w.heap.size < w2.heap.size := Nat.lt_of_lt_of_le hwz hb2.size
                have hbs : b < w2.heap.size := Nat.lt_of_lt_of_le hbs hb2.size
                clear hb2
                by_cases hpt : 0 ≤ p.pred ∧ p.args.length ≤ 8
                · rw [decide_eq_true hpt] at he
                  subst he
                  by_cases h3 : fitB p.args wn = true
                  · have HQ2 := Lib.hid (take_all HQ'.out HT.out (by
                      simp only [fitB, decide_eq_true_eq] at h3
                      exact ⟨hpt.1, hpt.2, h3⟩))
                    have H3 := Lib.hid h3
                    clear h3
                    go_wp2_with (go_at_call 89; refine (CS.out _ HB2.out).mono ?_; rintro e w' ⟨he, hbx⟩; rw [show decide (∀ s ∈ p.args, belowP wn s) = _ from H3.out] at he; subst he; have HBX := Lib.hid hbx; clear hbx)
                    exact ⟨⟨k + 1, by go_num, HK.out, HQ2.out, box_step HBB2.out HBX.out⟩, by simp [intOf]; have := HK.out; omega⟩
                  · have HF := Lib.hid (mayB_false (r := r) (fun hh => h3 (fitB_true (HM'.out hh).2.2)))
                    have H3 := Lib.hid (Bool.eq_false_iff.2 h3)
                    clear h3
                    go_wp2_with (go_at_call 89; refine (CS.out _ HB2.out).mono ?_; rintro e w' ⟨he, hbx⟩; rw [show decide (∀ s ∈ p.args, belowP wn s) = _ from H3.out] at he; subst he; have HBX := Lib.hid hbx; clear hbx)
                    go_ret2
                    exact someMay HF.out (box_below (box_step HBB2.out HBX.out))
                · rw [decide_eq_false hpt] at he
                  subst he
                  have HF := Lib.hid (mayB_false (r := r) (fun hh => hpt ⟨(HM'.out hh).1, (HM'.out hh).2.1⟩))
                  go_wp2
                  go_ret2
                  exact someMay HF.out (box_below HBB2.out)
              · obtain rfl : k = r.neg.length := by omega
                rw [List.take_length] at hq
                have HBB := Lib.hid hb
                have HF := Lib.hid (mayB_true (r := r) ⟨wn, ⟨by omega, HP.out.2, HP.out.1, HW.out, by omega, HQ.out, hq⟩⟩)
                clear hq hb
                go_wp2
                go_ret2
                exact someMay HF.out (box_below HBB.out)
end Go.Proofs.YtonkbjdeaneicaaDoor
