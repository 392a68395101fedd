/- copied: a plan that shares nothing with what came in. Kids of all nodes, put together. No program in sight. -/
import Derived.Test.YtonkbjdeaneicaaDoorKpa23
import Derived.Test.YtonkbjdeaneicaaDoorKpa26
import Derived.Test.YtonkbjdeaneicaaDoorKpa31
import Derived.Test.YtonkbjdeaneicaaDoorKpa39
namespace Go.Proofs.YtonkbjdeaneicaaDoor
open Go.RowKit Pln Classical Go.Maps

theorem OwnL.toI {F : Nat → Prop} {B : Nat} {w : World} {e : TypeId} {v : Value} {xs : List Int} (h : OwnL B w e cdInt v xs) : OwnF F B w e cdInt v xs := by
  obtain ⟨cells, h1, h2⟩ := h
  exact ⟨cells, h1, h2⟩
set_option maxRecDepth 100000 in
set_option maxHeartbeats 1000000 in
theorem intsW {F : Nat → Prop} (v : Value) (xs : List Int) (w : World) (h : RSl F w 1 EInt v xs) (hS : xs.length ≤ 1048576) :
    Calls Tryd.prog 21 #[v] w (OwnsRes cdInt 3 xs w) := by
  obtain ⟨A, c, rfl⟩ := h.form
  have H := Lib.hid h
  clear h
  go_enter Tryd.func21, Tryd.ntmps21
  go_wp2
  go_loopw [3, 4] (fun m i wr => ∃ (k : Nat) (mv : Value), i = .int .i64 k ∧ m = mv ∧ k ≤ xs.length ∧ OwnL w.heap.size wr 3 cdInt mv (xs.take k) ∧ Below w.heap.size w wr) (fun _ i _ => xs.length - (intOf i).toNat)
  case atStart => exact ⟨0, _, rfl, rfl, Nat.zero_le _, OwnL.nil, Below.refl _ _⟩
  case round =>
    obtain ⟨k, mv, rfl, hmv, hk, hown, hb⟩ := hrel
    obtain ⟨ma, mc, hmf⟩ := hown.form
    rw [List.length_take_of_le hk] at hmf
    subst hmf
    subst hmv
    have hsz := hb.size
    by_cases hkn : k < xs.length
    · obtain ⟨x, hx⟩ : ∃ x, xs[k]? = some x := ⟨_, List.getElem?_eq_getElem hkn⟩
      obtain ⟨b, off, rfl, hFb, hbs, cs, ⟨rfl, xok⟩, hc⟩ := (H.out.keep (Kp.of_below hb)).at hx
      have d0 := hc 0 _ rfl
      simp only [Nat.add_zero, Nat.mul_one] at d0
      have f1 : (0 : Int) ≤ (k : Int) := by omega
      have f2 : (k : Int) < (xs.length : Int) := by omega
      have HK := Lib.hid hkn
      have HX := Lib.hid hx
      have HO := Lib.hid hown
      have HB := Lib.hid hb
      have HTL := Lib.hid (List.length_take_of_le hk)
      clear hkn hx hown hb hc
      go_wp2_with (at_builtin; refine wpList_append_L HO.out rfl (.tmp 11) (.tmp 16) 24 rfl Tryd.underlying24 infoIntR rfl (by decide) rfl #[.int .i64 x] _ rfl rfl (x := x) ⟨rfl, xok⟩ (by rw [HTL.out]; omega) (by decide) hsz ?_; intro g cap w2 hown3 ht3 hat3 hlt3; rw [HTL.out] at hown3 ⊢; have N1 := Lib.hid hown3; have N2 := Lib.hid (below_own HB.out ht3 (fun b hb => (HO.out.block hb).1)); clear hown3 ht3 hat3 hlt3)
      refine ⟨⟨k + 1, _, by go_num, rfl, HK.out, ?_, N2.out⟩, by simp [intOf]; have := HK.out; omega⟩
      rw [List.take_add_one, HX.out]
      exact N1.out
    · obtain rfl : k = xs.length := by omega
      rw [List.take_length] at hown
      have HO := Lib.hid hown
      have HB := Lib.hid hb
      clear hown hb
      go_wp2
      go_ret
      exact ⟨_, rfl, HO.out, HB.out⟩

theorem infoLnkR : (Tryd.prog.info? 56).map (fun i => (i.zero, i.size, i.bytes)) = some (some (.agg #[.int .i64 0, .int .i64 0]), 2, 16) := by kernel_rfl
theorem BoxSt.turns {wo W W' : World} {T : TypeId} {cells : Array Value} {S : List Nat} (h : BoxSt wo W T cells) (ht : Turns S W W') (hs : ∀ x ∈ S, wo.heap.size + 1 ≤ x) : BoxSt wo W' T cells :=
  ⟨(ht.block _ h.lt (fun hm => by have := hs _ hm; omega)).trans h.blk, h.below.trans (ht.below h.below.size (fun x hx => by have := hs x hx; omega))⟩
/-- The state of copied. -/
structure CSt (W : World) (g : Nat) (pl : Array Value) (wr : World) (av nv ev : Value) (st : St) (es : List Int) : Prop where
  cp : CpAt (W.heap.size + 1 + 1) g wr av nv ev st es
  rb : wr.heap[W.heap.size + 1]? = some (.cells #[.slice none 0 0, .slice none 0 0, .slice none 0 0] 26 (0, 0))
  below : Below (W.heap.size + 1) (W.alloc (.cells pl 26)) wr
section
variable {W wr wr' : World} {g : Nat} {pl : Array Value} {av nv ev av' nv' : Value} {st st' : St} {es : List Int}
theorem CSt.step (h : CSt W g pl wr av nv ev st es) (hb : Below wr.heap.size wr wr') : CSt W g pl wr' av nv ev st es :=
  ⟨h.cp.step hb, (hb.block _ (lt_of_heap h.rb)).trans h.rb, box_step h.below hb⟩
theorem CSt.next (h : CSt W g pl wr av nv ev st es) (hr : CpAt (W.heap.size + 1 + 1) g wr' av' nv' ev st' es) (ht : Turns (cfoot g av nv ev) wr wr') : CSt W g pl wr' av' nv' ev st' es := by
  have fl := h.cp.foot_lt
  exact ⟨hr, (ht.block _ (lt_of_heap h.rb) (fun hx => by have := (fl _ hx).1; omega)).trans h.rb, h.below.trans (ht.below (by have := h.below.size; simp at this; omega) (fun x hx => by have := (fl x hx).1; omega))⟩
end

set_option maxRecDepth 200000 in
set_option maxHeartbeats 16000000 in
theorem copiedW {F : Nat → Prop} (W : World) (av nv ev : Value) (al : List Shp) (ns : List Nd) (es : List Int) (h : RPl F W av nv ev al ns es) (hS : plSm 1048576 al ns es) :
    Calls Tryd.prog 6 #[.agg #[av, nv, ev]] W fun e W' => ∃ av' nv' ev', e = .returned (.agg #[av', nv', ev']) ∧ RPl (fun b => W.heap.size ≤ b) W' av' nv' ev' al ns es ∧ Below W.heap.size W W' := by
  obtain ⟨Aa, ca, rfl⟩ := h.al.form
  obtain ⟨An, cn, rfl⟩ := h.ns.form
  obtain ⟨Ae, ce, rfl⟩ := h.en.form
  have HP := Lib.hid h
  have SM := Lib.hid hS
  have FW := Lib.hid (fun (Wx : World) (hb : Below W.heap.size W Wx) => intsW (.slice Ae es.length ce) es Wx (h.below hb).en hS.en)
  clear h hS
  have hb0 : Below (W.heap.size + 1) (W.alloc (.cells #[.slice Aa al.length ca, .slice An ns.length cn, .slice Ae es.length ce] 26)) ((W.alloc (.cells #[.slice Aa al.length ca, .slice An ns.length cn, .slice Ae es.length ce] 26)).alloc (.cells #[.slice none 0 0, .slice none 0 0, .slice none 0 0] 26)) := (Below.refl _ _).alloc (by simp) _
  have hrb0 : ((W.alloc (.cells #[.slice Aa al.length ca, .slice An ns.length cn, .slice Ae es.length ce] 26)).alloc (.cells #[.slice none 0 0, .slice none 0 0, .slice none 0 0] 26)).heap[W.heap.size + 1]? = some (.cells #[.slice none 0 0, .slice none 0 0, .slice none 0 0] 26 (0, 0)) := by
    have := heap_alloc_new (W.alloc (.cells #[.slice Aa al.length ca, .slice An ns.length cn, .slice Ae es.length ce] 26)) (.cells #[.slice none 0 0, .slice none 0 0, .slice none 0 0] 26)
    simpa using this
  have C1 := Lib.hid (FW.out _ (box_below hb0))
  have HB0 := Lib.hid hb0
  have HRB0 := Lib.hid hrb0
  clear hb0 hrb0 FW
  go_enter Tryd.func6, Tryd.ntmps6
  go_wp2_with fail
  refine C1.out.mono ?_
  rintro e w1 ⟨ev', rfl, hO, hb1⟩
  have hst0 : CSt W w1.heap.size #[.slice Aa al.length ca, .slice An ns.length cn, .slice Ae es.length ce] (w1.alloc (.cells #[.slice none 0 0, .slice none 0 0, ev'] 26)) (.slice none 0 0) (.slice none 0 0) ev' ⟨[], []⟩ es := by
    have hbx : Below w1.heap.size w1 (w1.alloc (.cells #[.slice none 0 0, .slice none 0 0, ev'] 26)) := (Below.refl _ _).alloc (Nat.le_refl _) _
    have hsz := hb1.size
    simp at hsz
    refine ⟨⟨heap_alloc_new w1 _, OwnF.nil, OwnF.nil, ?_, by omega⟩, (hbx.block _ (by omega)).trans ((hb1.block _ (by simp)).trans HRB0.out), box_step (box_step HB0.out hb1) hbx⟩
    have h2 := (hO.below hbx).toI (F := Off (W.heap.size + 1 + 1) (cfoot w1.heap.size (.slice none 0 0) (.slice none 0 0) ev'))
    simpa using h2
  obtain ⟨Ev, cv, rfl⟩ := hO.form
  have HST0 := Lib.hid hst0
  obtain ⟨g, hg⟩ : ∃ g, g = w1.heap.size := ⟨_, rfl⟩
  obtain ⟨wo, hwo⟩ : ∃ wo, wo = w1.alloc (.cells #[.slice none 0 0, .slice none 0 0, .slice Ev es.length cv] 26) := ⟨_, rfl⟩
  rw [← hwo, ← hg] at HST0
  clear hst0 hO hb1 C1
  go_upto_region 2 with fail
  rw [← hwo, ← hg]
  clear hwo hg
  go_wp2
  go_loopw [4] (fun i wr => ∃ (k : Nat) (xv : Value) (st : St), i = .int .i64 k ∧ k ≤ al.length ∧ st.al = al.take k ∧ st.ns = [] ∧ CSt W g #[.slice Aa al.length ca, .slice An ns.length cn, .slice Ae es.length ce] wr xv (.slice none 0 0) (.slice Ev es.length cv) st es) (fun i _ => al.length - (intOf i).toNat)
  case atStart => exact ⟨0, _, _, rfl, Nat.zero_le _, rfl, rfl, HST0.out⟩
  case round =>
    obtain ⟨k, xv, st, rfl, hk, hsa, hsn, hst⟩ := hrel
    clear HST0
    obtain ⟨xa, xc, rfl⟩ := hst.cp.al.form
    have htl : st.al.length = k := by rw [hsa]; exact List.length_take_of_le hk
    have y0 := box_cellL hst.below 0 rfl
    have y1 := box_cellL hst.below 1 rfl
    have hgl := hst.cp.lt
    have hW : W.heap.size < wr.heap.size := by have := hst.below.size; simp at this; omega
    by_cases hkn : k < al.length
    · obtain ⟨s, hs⟩ : ∃ s, al[k]? = some s := ⟨_, List.getElem?_eq_getElem hkn⟩
      obtain ⟨b, off, rfl, -, hbl, cs, ⟨sv, rfl, sok, hcs⟩, hc⟩ := HP.out.al.at hs
      obtain ⟨As, cc, rfl⟩ := hcs.form
      have hss := SM.out.al.2 s (List.mem_of_getElem? hs)
      have DD := Lib.hid (fun (Wx : World) (hb : Below wr.heap.size wr Wx) => (show Wx.cell? ⟨b, off + k * 2, none⟩ = some (.int .i64 s.pred) ∧ Wx.cell? ⟨b, off + k * 2 + 1, none⟩ = some (.slice As s.cells.length cc) from
        ⟨((box_below (box_step hst.below hb)).cell (p := ⟨b, off + k * 2, none⟩) hbl).trans (hc 0 _ rfl), ((box_below (box_step hst.below hb)).cell (p := ⟨b, off + k * 2 + 1, none⟩) hbl).trans (hc 1 _ rfl)⟩))
      obtain ⟨d0, d1⟩ := DD.out _ (Below.refl _ _)
      have FW := Lib.hid (fun (Wx : World) (hb : Below wr.heap.size wr Wx) => intsW (.slice As s.cells.length cc) s.cells Wx (hcs.keep (Kp.of_below (box_below (box_step hst.below hb)))) hss)
      have KQ := Lib.hid (fun (w' : World) (hW : Below (W.heap.size + 1) (W.alloc (.cells #[.slice (some ⟨b, off, none⟩) al.length ca, .slice An ns.length cn, .slice Ae es.length ce] 26)) w') => (show w'.cell? ⟨W.heap.size, 0, none⟩ = some (.slice (some ⟨b, off, none⟩) al.length ca) ∧ w'.cell? ⟨b, off + k * 2, none⟩ = some (.int .i64 s.pred) ∧ w'.cell? ⟨b, off + k * 2 + 1, none⟩ = some (.slice As s.cells.length cc) from
        ⟨box_cellL hW 0 rfl, ((box_below hW).cell (p := ⟨b, off + k * 2, none⟩) hbl).trans (hc 0 _ rfl), ((box_below hW).cell (p := ⟨b, off + k * 2 + 1, none⟩) hbl).trans (hc 1 _ rfl)⟩))
      have hS0 := KQ.out _ hst.below.drew
      have x0 := hst.cp.cell 0 rfl
      have e1 : (0 : Int) ≤ (k : Int) := by omega
      have e2 : (k : Int) < (al.length : Int) := by omega
      have HX := Lib.hid hst
      have HK := Lib.hid hkn
      have HTL := Lib.hid htl
      have HSA := Lib.hid (show st.al ++ [s] = al.take (k + 1) by rw [List.take_add_one, hs, hsa]; rfl)
      have HSN := Lib.hid hsn
      have SOK := Lib.hid sok
      have hln : st.al.length ≤ 1048576 := by have := SM.out.al.1; omega
      have hk20 : k ≤ 1048576 := by have := SM.out.al.1; omega
      clear hs hc hkn hst hsa hsn htl sok hcs
      go_wp2
      refine wp_region_held_drew (S := (fun w' : World => w'.cell? ⟨W.heap.size, 0, none⟩ = some (.slice (some ⟨b, off, none⟩) al.length ca) ∧ w'.cell? ⟨b, off + k * 2, none⟩ = some (.int .i64 s.pred) ∧ w'.cell? ⟨b, off + k * 2 + 1, none⟩ = some (.slice As s.cells.length cc))) (by kernel_rfl) hS0 (fun hHeld => ?_)
      refine wpAnyH_take (i := 0) (v := ?v0a23) (oi := ?o0a23) ?ho0a23 (by kernel_rfl) (by kernel_rfl) (by kernel_rfl) ?hq0a23 (Or.inl ⟨?hw0a23, ?hy0a23⟩) (by assumption) ?rest0a23
      case ho0a23 => simp only [List.getElem?_toArray, List.getElem?_cons_zero]; rfl
      case hq0a23 => exact fun _ _ _ h => h
      case hw0a23 => rfl
      case hy0a23 => intro w hSw; (try dsimp only at hSw); go_simp; try with_reducible rfl
      try simp only [Act.put, List.setIfInBounds_toArray, List.set_cons_zero, List.set_cons_succ]
      refine wpAnyH_take (i := 2) (v := ?v2a24) (oi := ?o2a24) ?ho2a24 (by kernel_rfl) (by kernel_rfl) (by kernel_rfl) ?hq2a24 (Or.inl ⟨?hw2a24, ?hy2a24⟩) (by assumption) ?rest2a24
      case ho2a24 => simp only [List.getElem?_toArray, List.getElem?_cons_succ, List.getElem?_cons_zero]; rfl
      case hq2a24 => exact fun _ _ _ h => h
      case hw2a24 => rfl
      case hy2a24 => intro w hSw; (try dsimp only at hSw); go_simp; try with_reducible rfl
      try simp only [Act.put, List.setIfInBounds_toArray, List.set_cons_zero, List.set_cons_succ]
      refine wpAnyH_take (i := 3) (v := ?v3a25) (oi := ?o3a25) ?ho3a25 (by kernel_rfl) (by kernel_rfl) (by kernel_rfl) ?hq3a25 (Or.inl ⟨?hw3a25, ?hy3a25⟩) (by assumption) ?rest3a25
      case ho3a25 => simp only [List.getElem?_toArray, List.getElem?_cons_succ, List.getElem?_cons_zero]; rfl
      case hq3a25 => exact fun _ _ _ h => h
      case hw3a25 => rfl
      case hy3a25 => intro w hSw; (try dsimp only at hSw); go_simp; try with_reducible rfl
      try simp only [Act.put, List.setIfInBounds_toArray, List.set_cons_zero, List.set_cons_succ]
      refine wpAnyH_take (i := 4) (v := ?v4a26) (oi := ?o4a26) ?ho4a26 (by kernel_rfl) (by kernel_rfl) (by kernel_rfl) ?hq4a26 (Or.inl ⟨?hw4a26, ?hy4a26⟩) (by assumption) ?rest4a26
      case ho4a26 => simp only [List.getElem?_toArray, List.getElem?_cons_succ, List.getElem?_cons_zero]; rfl
      case hq4a26 => exact fun _ _ _ h => h
      case hw4a26 => rfl
      case hy4a26 => intro w hSw; (try dsimp only at hSw); go_simp; try with_reducible rfl
      try simp only [Act.put, List.setIfInBounds_toArray, List.set_cons_zero, List.set_cons_succ]
      refine wpAnyH_take (i := 5) (v := ?v5a27) (oi := ?o5a27) ?ho5a27 (by kernel_rfl) (by kernel_rfl) (by kernel_rfl) ?hq5a27 (Or.inl ⟨?hw5a27, ?hy5a27⟩) (by assumption) ?rest5a27
      case ho5a27 => simp only [List.getElem?_toArray, List.getElem?_cons_succ, List.getElem?_cons_zero]; rfl
      case hq5a27 => exact fun _ _ _ h => h
      case hw5a27 => rfl
      case hy5a27 => intro w hSw; (try dsimp only at hSw); go_simp; try with_reducible rfl
      try simp only [Act.put, List.setIfInBounds_toArray, List.set_cons_zero, List.set_cons_succ]
      refine wpAnyH_take (i := 6) (v := ?v6a28) (oi := ?o6a28) ?ho6a28 (by kernel_rfl) (by kernel_rfl) (by kernel_rfl) ?hq6a28 (Or.inl ⟨?hw6a28, ?hy6a28⟩) (by assumption) ?rest6a28
      case ho6a28 => simp only [List.getElem?_toArray, List.getElem?_cons_succ, List.getElem?_cons_zero]; rfl
      case hq6a28 => exact fun _ _ _ h => h
      case hw6a28 => rfl
      case hy6a28 => intro w hSw; (try dsimp only at hSw); go_simp; try with_reducible rfl
      try simp only [Act.put, List.setIfInBounds_toArray, List.set_cons_zero, List.set_cons_succ]
      refine wpAnyH_take (i := 7) (v := ?v7a29) (oi := ?o7a29) ?ho7a29 (by kernel_rfl) (by kernel_rfl) (by kernel_rfl) ?hq7a29 (Or.inl ⟨?hw7a29, ?hy7a29⟩) (by assumption) ?rest7a29
      case ho7a29 => simp only [List.getElem?_toArray, List.getElem?_cons_succ, List.getElem?_cons_zero]; rfl
      case hq7a29 => exact fun _ _ _ h => h
      case hw7a29 => rfl
      case hy7a29 => intro w hSw; (try dsimp only at hSw); go_simp; try with_reducible rfl
      try simp only [Act.put, List.setIfInBounds_toArray, List.set_cons_zero, List.set_cons_succ]
      refine wpAnyH_take (i := 8) (v := ?v8a30) (oi := ?o8a30) ?ho8a30 (by kernel_rfl) (by kernel_rfl) (by kernel_rfl) ?hq8a30 (Or.inl ⟨?hw8a30, ?hy8a30⟩) (by assumption) ?rest8a30
      case ho8a30 => simp only [List.getElem?_toArray, List.getElem?_cons_succ, List.getElem?_cons_zero]; rfl
      case hq8a30 => exact fun _ _ _ h => h
      case hw8a30 => rfl
      case hy8a30 => intro w hSw; (try dsimp only at hSw); go_simp; try with_reducible rfl
      try simp only [Act.put, List.setIfInBounds_toArray, List.set_cons_zero, List.set_cons_succ]
      refine wpAnyH_take (i := 9) (v := ?v9a31) (oi := ?o9a31) ?ho9a31 (by kernel_rfl) (by kernel_rfl) (by kernel_rfl) ?hq9a31 (Or.inl ⟨?hw9a31, ?hy9a31⟩) (by assumption) ?rest9a31
      case ho9a31 => simp only [List.getElem?_toArray, List.getElem?_cons_succ, List.getElem?_cons_zero]; rfl
      case hq9a31 => exact fun _ _ _ h => h
      case hw9a31 => rfl
      case hy9a31 => intro w hSw; (try dsimp only at hSw); go_simp; try with_reducible rfl
      try simp only [Act.put, List.setIfInBounds_toArray, List.set_cons_zero, List.set_cons_succ]
      refine wpAnyH_take (i := 10) (v := ?v10a32) (oi := ?o10a32) ?ho10a32 (by kernel_rfl) (by kernel_rfl) (by kernel_rfl) ?hq10a32 (Or.inl ⟨?hw10a32, ?hy10a32⟩) (by assumption) ?rest10a32
      case ho10a32 => simp only [List.getElem?_toArray, List.getElem?_cons_succ, List.getElem?_cons_zero]; rfl
      case hq10a32 => exact fun _ _ _ h => h
      case hw10a32 => rfl
      case hy10a32 => intro w hSw; (try dsimp only at hSw); go_simp; try with_reducible rfl
      try simp only [Act.put, List.setIfInBounds_toArray, List.set_cons_zero, List.set_cons_succ]
      refine wpAnyH_take (i := 11) (v := ?v11a33) (oi := ?o11a33) ?ho11a33 (by kernel_rfl) (by kernel_rfl) (by kernel_rfl) ?hq11a33 (Or.inl ⟨?hw11a33, ?hy11a33⟩) (by assumption) ?rest11a33
      case ho11a33 => simp only [List.getElem?_toArray, List.getElem?_cons_succ, List.getElem?_cons_zero]; rfl
      case hq11a33 => exact fun _ _ _ h => h
      case hw11a33 => rfl
      case hy11a33 => intro w hSw; (try dsimp only at hSw); go_simp; try with_reducible rfl
      try simp only [Act.put, List.setIfInBounds_toArray, List.set_cons_zero, List.set_cons_succ]
      refine wpAnyH_take (i := 12) (v := ?v12a34) (oi := ?o12a34) ?ho12a34 (by kernel_rfl) (by kernel_rfl) (by kernel_rfl) ?hq12a34 (Or.inl ⟨?hw12a34, ?hy12a34⟩) (by assumption) ?rest12a34
      case ho12a34 => simp only [List.getElem?_toArray, List.getElem?_cons_succ, List.getElem?_cons_zero]; rfl
      case hq12a34 => exact fun _ _ _ h => h
      case hw12a34 => rfl
      case hy12a34 => intro w hSw; (try dsimp only at hSw); go_simp; try with_reducible rfl
      try simp only [Act.put, List.setIfInBounds_toArray, List.set_cons_zero, List.set_cons_succ]
      refine wpAnyH_take (i := 13) (v := ?v13a35) (oi := ?o13a35) ?ho13a35 (by kernel_rfl) (by kernel_rfl) (by kernel_rfl) ?hq13a35 (Or.inl ⟨?hw13a35, ?hy13a35⟩) (by assumption) ?rest13a35
      case ho13a35 => simp only [List.getElem?_toArray, List.getElem?_cons_succ, List.getElem?_cons_zero]; rfl
      case hq13a35 => exact fun _ _ _ h => h
      case hw13a35 => rfl
      case hy13a35 => intro w hSw; (try dsimp only at hSw); go_simp; try with_reducible rfl
      try simp only [Act.put, List.setIfInBounds_toArray, List.set_cons_zero, List.set_cons_succ]
      refine wpAnyH_ready (rs := [1, 14]) (by kernel_rfl) (by simp) ?_
      refine AllReadyH.cons (o := ?o1b21) ?ho1b21 (fun K hK => ?st1b21) ?mo1b21
      case ho1b21 => simp only [List.getElem?_toArray, List.getElem?_cons_succ, List.getElem?_cons_zero]; rfl
      case st1b21 =>
        go_simp
        refine hK.out _ _ ?hs1b21 (fun hH1b21 => ?rs1b21)
        case hs1b21 => first | with_reducible exact hS0 | with_reducible exact KQ.out _ B9.out | with_reducible exact KQ.out _ B8.out | with_reducible exact KQ.out _ B7a.out | with_reducible exact KQ.out _ B7.out
        clear hK K
        try simp only [Act.put, List.setIfInBounds_toArray, List.set_cons_zero, List.set_cons_succ]
        refine wpAnyH_ready (rs := [14]) (by kernel_rfl) (by simp) ?_
        refine AllReadyH.cons (o := ?o14b9) ?ho14b9 (fun K hK => ?st14b9) ?mo14b9
        case ho14b9 => simp only [List.getElem?_toArray, List.getElem?_cons_succ, List.getElem?_cons_zero]; rfl
        case st14b9 =>
          go_simp
          go_at_call 21
          refine (FW.out _ (Below.refl _ _).drew).mono ?_
          rintro e w7 ⟨v7, rfl, hO7, hb7⟩
          obtain ⟨A7, c7, hv7⟩ := hO7.form
          subst hv7
          have HX2 := Lib.hid (HX.out.step ((Below.refl wr.heap.size wr).drew.trans (hb7.mono (show wr.heap.size ≤ wr.drew.heap.size from Nat.le_refl _))))
          have B7 := Lib.hid HX2.out.below
          have B7a := Lib.hid ((B7.out.alloc (Nat.le_trans (Nat.le_of_eq (by simp)) B7.out.size) (.cells #[.int .i64 s.pred, .slice A7 s.cells.length c7] 54)))
          have HEL := Lib.hid (show EShp (Off (W.heap.size + 1 + 1) (cfoot g (.slice xa st.al.length xc) (.slice none 0 0) (.slice Ev es.length cv))) w7 [.int .i64 s.pred, .slice A7 s.cells.length c7] s from ⟨_, rfl, SOK.out, hO7.rsl (fun b hb => COff_new HX.out.cp (by have := (hO7.block hb).1; simpa using this))⟩)
          have hbase7 : W.heap.size + 1 + 1 ≤ w7.heap.size := (by have := HX2.out.cp.lt; have := HX2.out.cp.gb; omega)
          have x7 := HX2.out.cp.cell 0 rfl
          have hg7 := HX2.out.cp.lt
          clear hb7 hO7
          go_wp2_with fail
          refine hK.out _ _ ?hs14b9 (fun hH14b9 => ?rs14b9)
          case hs14b9 => first | with_reducible exact hS0 | with_reducible exact KQ.out _ B9.out | with_reducible exact KQ.out _ B8.out | with_reducible exact KQ.out _ B7a.out | with_reducible exact KQ.out _ B7.out
          clear hK K
          try simp only [Act.put, List.setIfInBounds_toArray, List.set_cons_zero, List.set_cons_succ]
          refine wpAnyH_take (i := 15) (v := ?v15a4) (oi := ?o15a4) ?ho15a4 (by kernel_rfl) (by kernel_rfl) (by kernel_rfl) ?hq15a4 (Or.inl ⟨?hw15a4, ?hy15a4⟩) (by assumption) ?rest15a4
          case ho15a4 => simp only [List.getElem?_toArray, List.getElem?_cons_succ, List.getElem?_cons_zero]; rfl
          case hq15a4 => exact fun _ _ _ h => h
          case hw15a4 => rfl
          case hy15a4 => intro w hSw; (try dsimp only at hSw); go_simp; try with_reducible rfl
          try simp only [Act.put, List.setIfInBounds_toArray, List.set_cons_zero, List.set_cons_succ]
          refine wpAnyH_ready (rs := [16]) (by kernel_rfl) (by simp) ?_
          refine AllReadyH.cons (o := ?o16b8) ?ho16b8 (fun K hK => ?st16b8) ?mo16b8
          case ho16b8 => simp only [List.getElem?_toArray, List.getElem?_cons_succ, List.getElem?_cons_zero]; rfl
          case st16b8 =>
            go_simp
            refine hK.out _ _ ?hs16b8 (fun hH16b8 => ?rs16b8)
            case hs16b8 => first | with_reducible exact hS0 | with_reducible exact KQ.out _ B9.out | with_reducible exact KQ.out _ B8.out | with_reducible exact KQ.out _ B7a.out | with_reducible exact KQ.out _ B7.out
            clear hK K
            try simp only [Act.put, List.setIfInBounds_toArray, List.set_cons_zero, List.set_cons_succ]
            refine wpAnyH_ready (rs := [17]) (by kernel_rfl) (by simp) ?_
            refine AllReadyH.cons (o := ?o17b7) ?ho17b7 (fun K hK => ?st17b7) ?mo17b7
            case ho17b7 => simp only [List.getElem?_toArray, List.getElem?_cons_succ, List.getElem?_cons_zero]; rfl
            case st17b7 =>
              refine step_append_F0 HX2.out.cp.al (fun b hb hf => hf.2 (by simp [cfoot, hb])) (by rfl) (.tmp 21) (.tmp 36) 22 (by rfl) Tryd.underlying22 infoShpR rfl (by decide) (by rfl) #[.int .i64 s.pred, .slice A7 s.cells.length c7] _ (by rfl) (by simp) (x := s) HEL.out (by omega) (by decide) hbase7 ?_
              intro g' cap w8 ho ht hat hlt8
              have hgn := (HX2.out.cp.apart).1
              have e3 := (ht.block g HX2.out.cp.lt (fun hm => (hgn g (by simpa using hm)).1 rfl)).trans HX2.out.cp.blk
              have q1 := rboxL e3 0 rfl
              have q2 : ∀ o, w8.frozen? ⟨g, o, none⟩ = false := (fun o => by simp [World.frozen?, e3])
              have q3 := lt_of_heap e3
              have GR := Lib.hid (HX2.out.cp.grow_al ho ht hat)
              have B8 := Lib.hid (B7.out.trans (ht.below (show W.heap.size + 1 ≤ w7.heap.size by omega) (fun x hx => by have := (HX2.out.cp.al.block (by simpa using hx)).1; omega)))
              have B9 := Lib.hid (HX2.out.next GR.out.1 GR.out.2.1).below
              clear ho ht hat hlt8 hgn e3
              refine hK.out _ _ ?hs17b7 (fun hH17b7 => ?rs17b7)
              case hs17b7 => first | with_reducible exact hS0 | with_reducible exact KQ.out _ B9.out | with_reducible exact KQ.out _ B8.out | with_reducible exact KQ.out _ B7a.out | with_reducible exact KQ.out _ B7.out
              clear hK K
              try simp only [Act.put, List.setIfInBounds_toArray, List.set_cons_zero, List.set_cons_succ]
              refine wpAnyH_take (i := 18) (v := ?v18a5) (oi := ?o18a5) ?ho18a5 (by kernel_rfl) (by kernel_rfl) (by kernel_rfl) ?hq18a5 (Or.inl ⟨?hw18a5, ?hy18a5⟩) (by assumption) ?rest18a5
              case ho18a5 => simp only [List.getElem?_toArray, List.getElem?_cons_succ, List.getElem?_cons_zero]; rfl
              case hq18a5 => exact fun _ _ _ h => h
              case hw18a5 => rfl
              case hy18a5 => intro w hSw; (try dsimp only at hSw); go_simp; try with_reducible rfl
              try simp only [Act.put, List.setIfInBounds_toArray, List.set_cons_zero, List.set_cons_succ]
              refine wpAnyH_ready (rs := [19]) (by kernel_rfl) (by simp) ?_
              refine AllReadyH.cons (o := ?o19b6) ?ho19b6 (fun K hK => ?st19b6) ?mo19b6
              case ho19b6 => simp only [List.getElem?_toArray, List.getElem?_cons_succ, List.getElem?_cons_zero]; rfl
              case st19b6 =>
                go_simp
                refine hK.out _ _ ?hs19b6 (fun hH19b6 => ?rs19b6)
                case hs19b6 => first | with_reducible exact hS0 | with_reducible exact KQ.out _ B9.out | with_reducible exact KQ.out _ B8.out | with_reducible exact KQ.out _ B7a.out | with_reducible exact KQ.out _ B7.out
                clear hK K
                try simp only [Act.put, List.setIfInBounds_toArray, List.set_cons_zero, List.set_cons_succ]
                refine wpAnyH_done (by kernel_rfl) ?_ _
                go_wp2
                have N1 := Lib.hid (HX2.out.next GR.out.1 GR.out.2.1)
                clear GR HX2 B7 B7a B8 B9 HEL KQ FW DD
                refine ⟨⟨k + 1, .slice (some ⟨g', 0, none⟩) (st.al.length + 1) cap, ⟨st.al ++ [s], st.ns⟩, ?_, HK.out, HSA.out, HSN.out, ?_⟩, ?_⟩
                all_goals first | with_reducible exact N1.out | go_num | (simp [intOf]; have := HK.out; omega)
              exact AllReadyH.nil
            exact AllReadyH.nil
          exact AllReadyH.nil
        exact AllReadyH.nil
      refine AllReadyH.cons (o := ?o14b22) ?ho14b22 (fun K hK => ?st14b22) ?mo14b22
      case ho14b22 => simp only [List.getElem?_toArray, List.getElem?_cons_succ, List.getElem?_cons_zero]; rfl
      case st14b22 =>
        go_simp
        go_at_call 21
        refine (FW.out _ (Below.refl _ _).drew).mono ?_
        rintro e w7 ⟨v7, rfl, hO7, hb7⟩
        obtain ⟨A7, c7, hv7⟩ := hO7.form
        subst hv7
        have HX2 := Lib.hid (HX.out.step ((Below.refl wr.heap.size wr).drew.trans (hb7.mono (show wr.heap.size ≤ wr.drew.heap.size from Nat.le_refl _))))
        have B7 := Lib.hid HX2.out.below
        have B7a := Lib.hid ((B7.out.alloc (Nat.le_trans (Nat.le_of_eq (by simp)) B7.out.size) (.cells #[.int .i64 s.pred, .slice A7 s.cells.length c7] 54)))
        have HEL := Lib.hid (show EShp (Off (W.heap.size + 1 + 1) (cfoot g (.slice xa st.al.length xc) (.slice none 0 0) (.slice Ev es.length cv))) w7 [.int .i64 s.pred, .slice A7 s.cells.length c7] s from ⟨_, rfl, SOK.out, hO7.rsl (fun b hb => COff_new HX.out.cp (by have := (hO7.block hb).1; simpa using this))⟩)
        have hbase7 : W.heap.size + 1 + 1 ≤ w7.heap.size := (by have := HX2.out.cp.lt; have := HX2.out.cp.gb; omega)
        have x7 := HX2.out.cp.cell 0 rfl
        have hg7 := HX2.out.cp.lt
        clear hb7 hO7
        go_wp2_with fail
        refine hK.out _ _ ?hs14b22 (fun hH14b22 => ?rs14b22)
        case hs14b22 => first | with_reducible exact hS0 | with_reducible exact KQ.out _ B9.out | with_reducible exact KQ.out _ B8.out | with_reducible exact KQ.out _ B7a.out | with_reducible exact KQ.out _ B7.out
        clear hK K
        try simp only [Act.put, List.setIfInBounds_toArray, List.set_cons_zero, List.set_cons_succ]
        refine wpAnyH_take (i := 15) (v := ?v15a10) (oi := ?o15a10) ?ho15a10 (by kernel_rfl) (by kernel_rfl) (by kernel_rfl) ?hq15a10 (Or.inl ⟨?hw15a10, ?hy15a10⟩) (by assumption) ?rest15a10
        case ho15a10 => simp only [List.getElem?_toArray, List.getElem?_cons_succ, List.getElem?_cons_zero]; rfl
        case hq15a10 => exact fun _ _ _ h => h
        case hw15a10 => rfl
        case hy15a10 => intro w hSw; (try dsimp only at hSw); go_simp; try with_reducible rfl
        try simp only [Act.put, List.setIfInBounds_toArray, List.set_cons_zero, List.set_cons_succ]
        refine wpAnyH_ready (rs := [1, 16]) (by kernel_rfl) (by simp) ?_
        refine AllReadyH.cons (o := ?o1b19) ?ho1b19 (fun K hK => ?st1b19) ?mo1b19
        case ho1b19 => simp only [List.getElem?_toArray, List.getElem?_cons_succ, List.getElem?_cons_zero]; rfl
        case st1b19 =>
          go_simp
          refine hK.out _ _ ?hs1b19 (fun hH1b19 => ?rs1b19)
          case hs1b19 => first | with_reducible exact hS0 | with_reducible exact KQ.out _ B9.out | with_reducible exact KQ.out _ B8.out | with_reducible exact KQ.out _ B7a.out | with_reducible exact KQ.out _ B7.out
          clear hK K
          try simp only [Act.put, List.setIfInBounds_toArray, List.set_cons_zero, List.set_cons_succ]
          refine wpAnyH_ready (rs := [16]) (by kernel_rfl) (by simp) ?_
          refine AllReadyH.cons (o := ?o16b14) ?ho16b14 (fun K hK => ?st16b14) ?mo16b14
          case ho16b14 => simp only [List.getElem?_toArray, List.getElem?_cons_succ, List.getElem?_cons_zero]; rfl
          case st16b14 =>
            go_simp
            refine hK.out _ _ ?hs16b14 (fun hH16b14 => ?rs16b14)
            case hs16b14 => first | with_reducible exact hS0 | with_reducible exact KQ.out _ B9.out | with_reducible exact KQ.out _ B8.out | with_reducible exact KQ.out _ B7a.out | with_reducible exact KQ.out _ B7.out
            clear hK K
            try simp only [Act.put, List.setIfInBounds_toArray, List.set_cons_zero, List.set_cons_succ]
            refine wpAnyH_ready (rs := [17]) (by kernel_rfl) (by simp) ?_
            refine AllReadyH.cons (o := ?o17b13) ?ho17b13 (fun K hK => ?st17b13) ?mo17b13
            case ho17b13 => simp only [List.getElem?_toArray, List.getElem?_cons_succ, List.getElem?_cons_zero]; rfl
            case st17b13 =>
              refine step_append_F0 HX2.out.cp.al (fun b hb hf => hf.2 (by simp [cfoot, hb])) (by rfl) (.tmp 21) (.tmp 36) 22 (by rfl) Tryd.underlying22 infoShpR rfl (by decide) (by rfl) #[.int .i64 s.pred, .slice A7 s.cells.length c7] _ (by rfl) (by simp) (x := s) HEL.out (by omega) (by decide) hbase7 ?_
              intro g' cap w8 ho ht hat hlt8
              have hgn := (HX2.out.cp.apart).1
              have e3 := (ht.block g HX2.out.cp.lt (fun hm => (hgn g (by simpa using hm)).1 rfl)).trans HX2.out.cp.blk
              have q1 := rboxL e3 0 rfl
              have q2 : ∀ o, w8.frozen? ⟨g, o, none⟩ = false := (fun o => by simp [World.frozen?, e3])
              have q3 := lt_of_heap e3
              have GR := Lib.hid (HX2.out.cp.grow_al ho ht hat)
              have B8 := Lib.hid (B7.out.trans (ht.below (show W.heap.size + 1 ≤ w7.heap.size by omega) (fun x hx => by have := (HX2.out.cp.al.block (by simpa using hx)).1; omega)))
              have B9 := Lib.hid (HX2.out.next GR.out.1 GR.out.2.1).below
              clear ho ht hat hlt8 hgn e3
              refine hK.out _ _ ?hs17b13 (fun hH17b13 => ?rs17b13)
              case hs17b13 => first | with_reducible exact hS0 | with_reducible exact KQ.out _ B9.out | with_reducible exact KQ.out _ B8.out | with_reducible exact KQ.out _ B7a.out | with_reducible exact KQ.out _ B7.out
              clear hK K
              try simp only [Act.put, List.setIfInBounds_toArray, List.set_cons_zero, List.set_cons_succ]
              refine wpAnyH_take (i := 18) (v := ?v18a11) (oi := ?o18a11) ?ho18a11 (by kernel_rfl) (by kernel_rfl) (by kernel_rfl) ?hq18a11 (Or.inl ⟨?hw18a11, ?hy18a11⟩) (by assumption) ?rest18a11
              case ho18a11 => simp only [List.getElem?_toArray, List.getElem?_cons_succ, List.getElem?_cons_zero]; rfl
              case hq18a11 => exact fun _ _ _ h => h
              case hw18a11 => rfl
              case hy18a11 => intro w hSw; (try dsimp only at hSw); go_simp; try with_reducible rfl
              try simp only [Act.put, List.setIfInBounds_toArray, List.set_cons_zero, List.set_cons_succ]
              refine wpAnyH_ready (rs := [19]) (by kernel_rfl) (by simp) ?_
              refine AllReadyH.cons (o := ?o19b12) ?ho19b12 (fun K hK => ?st19b12) ?mo19b12
              case ho19b12 => simp only [List.getElem?_toArray, List.getElem?_cons_succ, List.getElem?_cons_zero]; rfl
              case st19b12 =>
                go_simp
                refine hK.out _ _ ?hs19b12 (fun hH19b12 => ?rs19b12)
                case hs19b12 => first | with_reducible exact hS0 | with_reducible exact KQ.out _ B9.out | with_reducible exact KQ.out _ B8.out | with_reducible exact KQ.out _ B7a.out | with_reducible exact KQ.out _ B7.out
                clear hK K
                try simp only [Act.put, List.setIfInBounds_toArray, List.set_cons_zero, List.set_cons_succ]
                refine wpAnyH_done (by kernel_rfl) ?_ _
                go_wp2
                have N1 := Lib.hid (HX2.out.next GR.out.1 GR.out.2.1)
                clear GR HX2 B7 B7a B8 B9 HEL KQ FW DD
                refine ⟨⟨k + 1, .slice (some ⟨g', 0, none⟩) (st.al.length + 1) cap, ⟨st.al ++ [s], st.ns⟩, ?_, HK.out, HSA.out, HSN.out, ?_⟩, ?_⟩
                all_goals first | with_reducible exact N1.out | go_num | (simp [intOf]; have := HK.out; omega)
              exact AllReadyH.nil
            exact AllReadyH.nil
          exact AllReadyH.nil
        refine AllReadyH.cons (o := ?o16b20) ?ho16b20 (fun K hK => ?st16b20) ?mo16b20
        case ho16b20 => simp only [List.getElem?_toArray, List.getElem?_cons_succ, List.getElem?_cons_zero]; rfl
        case st16b20 =>
          go_simp
          refine hK.out _ _ ?hs16b20 (fun hH16b20 => ?rs16b20)
          case hs16b20 => first | with_reducible exact hS0 | with_reducible exact KQ.out _ B9.out | with_reducible exact KQ.out _ B8.out | with_reducible exact KQ.out _ B7a.out | with_reducible exact KQ.out _ B7.out
          clear hK K
          try simp only [Act.put, List.setIfInBounds_toArray, List.set_cons_zero, List.set_cons_succ]
          refine wpAnyH_ready (rs := [1]) (by kernel_rfl) (by simp) ?_
          refine AllReadyH.cons (o := ?o1b18) ?ho1b18 (fun K hK => ?st1b18) ?mo1b18
          case ho1b18 => simp only [List.getElem?_toArray, List.getElem?_cons_succ, List.getElem?_cons_zero]; rfl
          case st1b18 =>
            go_simp
            refine hK.out _ _ ?hs1b18 (fun hH1b18 => ?rs1b18)
            case hs1b18 => first | with_reducible exact hS0 | with_reducible exact KQ.out _ B9.out | with_reducible exact KQ.out _ B8.out | with_reducible exact KQ.out _ B7a.out | with_reducible exact KQ.out _ B7.out
            clear hK K
            try simp only [Act.put, List.setIfInBounds_toArray, List.set_cons_zero, List.set_cons_succ]
            refine wpAnyH_ready (rs := [17]) (by kernel_rfl) (by simp) ?_
            refine AllReadyH.cons (o := ?o17b17) ?ho17b17 (fun K hK => ?st17b17) ?mo17b17
            case ho17b17 => simp only [List.getElem?_toArray, List.getElem?_cons_succ, List.getElem?_cons_zero]; rfl
            case st17b17 =>
              refine step_append_F0 HX2.out.cp.al (fun b hb hf => hf.2 (by simp [cfoot, hb])) (by rfl) (.tmp 21) (.tmp 36) 22 (by rfl) Tryd.underlying22 infoShpR rfl (by decide) (by rfl) #[.int .i64 s.pred, .slice A7 s.cells.length c7] _ (by rfl) (by simp) (x := s) HEL.out (by omega) (by decide) hbase7 ?_
              intro g' cap w8 ho ht hat hlt8
              have hgn := (HX2.out.cp.apart).1
              have e3 := (ht.block g HX2.out.cp.lt (fun hm => (hgn g (by simpa using hm)).1 rfl)).trans HX2.out.cp.blk
              have q1 := rboxL e3 0 rfl
              have q2 : ∀ o, w8.frozen? ⟨g, o, none⟩ = false := (fun o => by simp [World.frozen?, e3])
              have q3 := lt_of_heap e3
              have GR := Lib.hid (HX2.out.cp.grow_al ho ht hat)
              have B8 := Lib.hid (B7.out.trans (ht.below (show W.heap.size + 1 ≤ w7.heap.size by omega) (fun x hx => by have := (HX2.out.cp.al.block (by simpa using hx)).1; omega)))
              have B9 := Lib.hid (HX2.out.next GR.out.1 GR.out.2.1).below
              clear ho ht hat hlt8 hgn e3
              refine hK.out _ _ ?hs17b17 (fun hH17b17 => ?rs17b17)
              case hs17b17 => first | with_reducible exact hS0 | with_reducible exact KQ.out _ B9.out | with_reducible exact KQ.out _ B8.out | with_reducible exact KQ.out _ B7a.out | with_reducible exact KQ.out _ B7.out
              clear hK K
              try simp only [Act.put, List.setIfInBounds_toArray, List.set_cons_zero, List.set_cons_succ]
              refine wpAnyH_take (i := 18) (v := ?v18a15) (oi := ?o18a15) ?ho18a15 (by kernel_rfl) (by kernel_rfl) (by kernel_rfl) ?hq18a15 (Or.inl ⟨?hw18a15, ?hy18a15⟩) (by assumption) ?rest18a15
              case ho18a15 => simp only [List.getElem?_toArray, List.getElem?_cons_succ, List.getElem?_cons_zero]; rfl
              case hq18a15 => exact fun _ _ _ h => h
              case hw18a15 => rfl
              case hy18a15 => intro w hSw; (try dsimp only at hSw); go_simp; try with_reducible rfl
              try simp only [Act.put, List.setIfInBounds_toArray, List.set_cons_zero, List.set_cons_succ]
              refine wpAnyH_ready (rs := [19]) (by kernel_rfl) (by simp) ?_
              refine AllReadyH.cons (o := ?o19b16) ?ho19b16 (fun K hK => ?st19b16) ?mo19b16
              case ho19b16 => simp only [List.getElem?_toArray, List.getElem?_cons_succ, List.getElem?_cons_zero]; rfl
              case st19b16 =>
                go_simp
                refine hK.out _ _ ?hs19b16 (fun hH19b16 => ?rs19b16)
                case hs19b16 => first | with_reducible exact hS0 | with_reducible exact KQ.out _ B9.out | with_reducible exact KQ.out _ B8.out | with_reducible exact KQ.out _ B7a.out | with_reducible exact KQ.out _ B7.out
                clear hK K
                try simp only [Act.put, List.setIfInBounds_toArray, List.set_cons_zero, List.set_cons_succ]
                refine wpAnyH_done (by kernel_rfl) ?_ _
                go_wp2
                have N1 := Lib.hid (HX2.out.next GR.out.1 GR.out.2.1)
                clear GR HX2 B7 B7a B8 B9 HEL KQ FW DD
                refine ⟨⟨k + 1, .slice (some ⟨g', 0, none⟩) (st.al.length + 1) cap, ⟨st.al ++ [s], st.ns⟩, ?_, HK.out, HSA.out, HSN.out, ?_⟩, ?_⟩
                all_goals first | with_reducible exact N1.out | go_num | (simp [intOf]; have := HK.out; omega)
              exact AllReadyH.nil
            exact AllReadyH.nil
          exact AllReadyH.nil
        exact AllReadyH.nil
      exact AllReadyH.nil
    · obtain rfl : k = al.length := by omega
      rw [List.take_length] at hsa
      have HST1 := Lib.hid hst
      have HSA := Lib.hid hsa
      have HSN := Lib.hid hsn
      clear hst hsa hsn hkn htl
      go_wp2
      clear y0 y1 hgl hW
      go_loopw [5] (fun i wr => ∃ (k : Nat) (zv : Value) (st : St), i = .int .i64 k ∧ k ≤ ns.length ∧ st.al = al ∧ st.ns = ns.take k ∧ CSt W g #[.slice Aa al.length ca, .slice An ns.length cn, .slice Ae es.length ce] wr (.slice xa st.al.length xc) zv (.slice Ev es.length cv) st es) (fun i _ => ns.length - (intOf i).toNat)
      case atStart => exact ⟨0, _, st, rfl, Nat.zero_le _, HSA.out, by rw [HSN.out]; rfl, HST1.out⟩
      case round =>
        obtain ⟨k, zv, st2, rfl, hk, hsa, hsn, hst⟩ := hrel
        clear HST1
        obtain ⟨za, zc, rfl⟩ := hst.cp.ns.form
        have htl : st2.ns.length = k := by rw [hsn]; exact List.length_take_of_le hk
        have y1 := box_cellL hst.below 1 rfl
        have hgl := hst.cp.lt
        have hgb := hst.cp.gb
        have hW : W.heap.size + 1 < wr.heap.size := by omega
        by_cases hkn : k < ns.length
        · obtain ⟨n, hn⟩ : ∃ n, ns[k]? = some n := ⟨_, List.getElem?_eq_getElem hkn⟩
          obtain ⟨b, off, rfl, -, hbl, ncs, ⟨lv, mv, hN⟩, hc⟩ := HP.out.ns.at hn
          have hncs := hN.cells
          subst hncs
          obtain ⟨Al, cl, rfl⟩ := hN.links.form
          obtain ⟨Am, cm, rfl⟩ := hN.new.form
          have hnl := SM.out.ns.2 n (List.mem_of_getElem? hn)
          have hl1 := hnl.1
          have dd := fun (i : Nat) (u : Value) hu => ((box_below hst.below).cell (p := ⟨b, off + k * 11 + i, none⟩) hbl).trans (hc i u hu)
          have d0 := dd 0 _ rfl
          have d1 := dd 1 _ rfl
          have d2 := dd 2 _ rfl
          have d3 := dd 3 _ rfl
          have d4 := dd 4 _ rfl
          have d5 := dd 5 _ rfl
          have d6 := dd 6 _ rfl
          have d7 := dd 7 _ rfl
          have d8 := dd 8 _ rfl
          have d9 := dd 9 _ rfl
          have d10 := dd 10 _ rfl
          simp only [Nat.add_zero] at d0
          have e1 : (0 : Int) ≤ (k : Int) := by omega
          have e2 : (k : Int) < (ns.length : Int) := by omega
          have HX := Lib.hid hst
          have HN := Lib.hid hN
          have HK := Lib.hid hkn
          have HTL := Lib.hid htl
          have HSA2 := Lib.hid hsa
          have HSN2 := Lib.hid (show st2.ns ++ [n] = ns.take (k + 1) by rw [List.take_add_one, hn, hsn]; rfl)
          have hln : st2.ns.length ≤ 1048576 := by have := SM.out.ns.1; omega
          have hk20 : k ≤ 1048576 := by have := SM.out.ns.1; omega
          have H80 := Lib.hid (BoxSt.mk0 (Below.refl (wr.heap.size + 1) (wr.alloc (.cells #[.int .i64 n.kind, .int .i64 n.parent, .int .i64 n.alpha, .slice Al n.links.length cl, .slice Am n.new.length cm, .int .i64 n.test.op, .bool n.test.l.v, .int .i64 n.test.l.n, .bool n.test.r.v, .int .i64 n.test.r.n, .int .i64 n.width] 40))))
          clear hn hc dd hkn hst hsa hsn htl hN
          go_wp2
          obtain ⟨wo, rfl⟩ : ∃ wo : World, wo = wr := ⟨_, rfl⟩
          go_loopw [7, 8] (fun m i wq => ∃ (j : Nat) (lv : Value), i = .int .i64 j ∧ m = lv ∧ j ≤ n.links.length ∧ OwnL (wo.heap.size + 1) wq 56 cdLnk lv (n.links.take j) ∧ BoxSt wo wq 40 #[.int .i64 n.kind, .int .i64 n.parent, .int .i64 n.alpha, .slice Al n.links.length cl, .slice Am n.new.length cm, .int .i64 n.test.op, .bool n.test.l.v, .int .i64 n.test.l.n, .bool n.test.r.v, .int .i64 n.test.r.n, .int .i64 n.width]) (fun _ i _ => n.links.length - (intOf i).toNat)
          case atStart => exact ⟨0, _, rfl, rfl, Nat.zero_le _, OwnL.nil, H80.out⟩
          case round =>
            obtain ⟨j, lv, rfl, rfl, hj, hown, hbx⟩ := hrel
            clear H80
            obtain ⟨la, lc, hlf⟩ := hown.form
            rw [List.length_take_of_le hj] at hlf
            subst hlf
            have z3 := hbx.cell 3 rfl
            have hwq := hbx.lt
            by_cases hjn : j < n.links.length
            · obtain ⟨x, hx⟩ : ∃ x, n.links[j]? = some x := ⟨_, List.getElem?_eq_getElem hjn⟩
              obtain ⟨b2, off2, rfl, -, hb2, cs2, ⟨rfl, ok1, ok2⟩, hc2⟩ := HN.out.links.at hx
              have hbw := (box_below HX.out.below).trans (hbx.below.mono (box_below HX.out.below).size)
              have f0 := (hbw.cell (p := ⟨b2, off2 + j * 2, none⟩) hb2).trans (hc2 0 _ rfl)
              have f1 := (hbw.cell (p := ⟨b2, off2 + j * 2 + 1, none⟩) hb2).trans (hc2 1 _ rfl)
              have g1 : (0 : Int) ≤ (j : Int) := by omega
              have g2 : (j : Int) < (n.links.length : Int) := by omega
              have HJ := Lib.hid hjn
              have HXX := Lib.hid hx
              have HO := Lib.hid hown
              have HBX := Lib.hid hbx
              have HTJ := Lib.hid (List.length_take_of_le hj)
              have hsz2 : wo.heap.size + 1 ≤ wr.heap.size := hwq
              clear hjn hx hown hbx hc2 hbw
              go_wp2_with (at_builtin; refine wpList_append_L HO.out rfl (.tmp 58) (.tmp 64) 34 rfl Tryd.underlying34 infoLnkR rfl (by decide) rfl #[.int .i64 x.1, .int .i64 x.2] _ rfl rfl (x := x) ⟨rfl, ok1, ok2⟩ (by rw [HTJ.out]; omega) (by decide) hsz2 ?_; intro g' cap w2 hown3 ht3 hat3 hlt3; rw [HTJ.out] at hown3 ⊢; have N1 := Lib.hid hown3; have N2 := Lib.hid (HBX.out.turns ht3 (fun b hb => by have := (HO.out.block (by simpa using hb)).1; omega)); clear hown3 ht3 hat3 hlt3)
              refine ⟨⟨j + 1, _, by go_num, rfl, HJ.out, ?_, N2.out⟩, by simp [intOf]; have := HJ.out; omega⟩
              rw [List.take_add_one, HXX.out]
              exact N1.out
            · obtain rfl : j = n.links.length := by omega
              rw [List.take_length] at hown
              have zf := hbx.fz
              have B1 := Lib.hid (hbx.set 3 (.slice la n.links.length lc) rfl)
              have z4 := B1.out.cell 4 rfl
              have K1 := Lib.hid (BoxSt.kp (wo := wo) wr 3 (.slice la n.links.length lc))
              have HO := Lib.hid hown
              have hbw1 := (box_below HX.out.below).trans (B1.out.below.mono (box_below HX.out.below).size)
              have IW := Lib.hid (intsW _ n.new _ (HN.out.new.keep (Kp.of_below hbw1)) hnl.2)
              clear hown hbx hjn hbw1
              go_wp2_with fail
              refine IW.out.mono ?_
              rintro e w6 ⟨v6, rfl, hO6, hb6⟩
              obtain ⟨A8, c8, rfl⟩ := hO6.form
              have B2 := B1.out.step hb6
              have zf2 := B2.fz
              have z4b := B2.cell 4 rfl
              have hw6 := B2.lt
              have B3 := Lib.hid (B2.set 4 (.slice A8 n.new.length c8) rfl)
              have K3 := Lib.hid (BoxSt.kp (wo := wo) w6 4 (.slice A8 n.new.length c8))
              have hsz6 : wo.heap.size + 1 ≤ wr.heap.size := hwq
              have L1 := Lib.hid ((HO.out.rsl (F := fun b => wo.heap.size < b) (fun b hb => by have := (HO.out.block hb).1; omega)).keep ((K1.out.trans (Kp.of_below hb6)).trans K3.out))
              have L2 := Lib.hid ((hO6.rsl (F := fun b => wo.heap.size < b) (fun b hb => by have := (hO6.block hb).1; simp at this; omega)).keep K3.out)
              have HX9 := Lib.hid (HX.out.step B3.out.below)
              have x1 := HX9.out.cp.cell 1 rfl
              have r0 := B3.out.cell 0 rfl
              have r1 := B3.out.cell 1 rfl
              have r2 := B3.out.cell 2 rfl
              have r3 := B3.out.cell 3 rfl
              have r4 := B3.out.cell 4 rfl
              have r5 := B3.out.cell 5 rfl
              have r6 := B3.out.cell 6 rfl
              have r7 := B3.out.cell 7 rfl
              have r8 := B3.out.cell 8 rfl
              have r9 := B3.out.cell 9 rfl
              have r10 := B3.out.cell 10 rfl
              have hg9 := HX9.out.cp.lt
              have hbase9 : W.heap.size + 1 + 1 ≤ (w6.setCell ⟨wo.heap.size, 4, none⟩ (.slice A8 n.new.length c8)).heap.size := by omega
              have hw9 := B3.out.lt
              have HEL := Lib.hid (show ENode (Off (W.heap.size + 1 + 1) (cfoot g (.slice xa st2.al.length xc) (.slice za st2.ns.length zc) (.slice Ev es.length cv))) (w6.setCell ⟨wo.heap.size, 4, none⟩ (.slice A8 n.new.length c8)) [.int .i64 n.kind, .int .i64 n.parent, .int .i64 n.alpha, .slice la n.links.length lc, .slice A8 n.new.length c8, .int .i64 n.test.op, .bool n.test.l.v, .int .i64 n.test.l.n, .bool n.test.r.v, .int .i64 n.test.r.n, .int .i64 n.width] n from
                ⟨_, _, rfl, HN.out.ok, L1.out.kp (Kp.refl _ _) (fun b _ hb => COff_new HX.out.cp (by omega)) (fun _ _ h => h), L2.out.kp (Kp.refl _ _) (fun b _ hb => COff_new HX.out.cp (by omega)) (fun _ _ h => h)⟩)
              clear hO6 hb6 B2 z4 zf IW
              go_wp2_with (at_builtin; refine wpList_append_F HX9.out.cp.ns (fun b hb hf => hf.2 (by simp [cfoot, hb])) rfl (.tmp 73) (.tmp 75) 23 rfl Tryd.underlying23 infoNdR rfl (by decide) rfl #[.int .i64 n.kind, .int .i64 n.parent, .int .i64 n.alpha, .slice la n.links.length lc, .slice A8 n.new.length c8, .int .i64 n.test.op, .bool n.test.l.v, .int .i64 n.test.l.n, .bool n.test.r.v, .int .i64 n.test.r.n, .int .i64 n.width] _ rfl (by simp) (x := n) HEL.out (by omega) (by decide) hbase9 ?_; intro g' cap w10 ho ht hat hlt10; have hgn := (HX9.out.cp.apart).2.1; have e3 := (ht.block g HX9.out.cp.lt (fun hm => (hgn g (by simpa using hm)).1 rfl)).trans HX9.out.cp.blk; have q1 := rboxL e3 1 rfl; have q2 : ∀ o, w10.frozen? ⟨g, o, none⟩ = false := (fun o => by simp [World.frozen?, e3]); have q3 := lt_of_heap e3; have GR := Lib.hid (HX9.out.cp.grow_ns ho ht hat); clear ho ht hat hlt10 hgn e3)
              have N1 := Lib.hid (HX9.out.next GR.out.1 GR.out.2.1)
              clear GR HX9 HEL B1 B3 K1 K3 L1 L2
              refine ⟨⟨k + 1, .slice (some ⟨g', 0, none⟩) (st2.ns.length + 1) cap, ⟨st2.al, st2.ns ++ [n]⟩, ?_, HK.out, HSA2.out, HSN2.out, ?_⟩, ?_⟩
              all_goals first | with_reducible exact N1.out | go_num | (simp [intOf]; have := HK.out; omega)
        · obtain rfl : k = ns.length := by omega
          rw [List.take_length] at hsn
          have x0 := hst.cp.cell 0 rfl
          have x1 := hst.cp.cell 1 rfl
          have x2 := hst.cp.cell 2 rfl
          have eb := hst.rb
          have f0 := rboxL eb 0 rfl
          have f1 := rboxL eb 1 rfl
          have f2 := rboxL eb 2 rfl
          have fz : ∀ o, wr.frozen? ⟨W.heap.size + 1, o, none⟩ = false := fun o => by simp [World.frozen?, eb]
          have ef : (((wr.setCell ⟨W.heap.size + 1, 0, none⟩ (.slice xa st2.al.length xc)).setCell ⟨W.heap.size + 1, 1, none⟩ (.slice za st2.ns.length zc)).setCell ⟨W.heap.size + 1, 2, none⟩ (.slice Ev es.length cv)).heap[W.heap.size + 1]? = some (.cells #[.slice xa st2.al.length xc, .slice za st2.ns.length zc, .slice Ev es.length cv] 26 (0, 0)) := heap_setCell_same _ _ 2 _ _ (.slice Ev es.length cv) (heap_setCell_same _ _ 1 _ _ (.slice za st2.ns.length zc) (heap_setCell_same _ _ 0 _ _ (.slice xa st2.al.length xc) eb))
          have g0 := cell_of_row _ _ 0 _ _ _ ef
          have g1 := cell_of_row _ _ 1 _ _ _ ef
          have g2 := cell_of_row _ _ 2 _ _ _ ef
          simp only [List.getElem?_toArray, List.getElem?_cons_zero, List.getElem?_cons_succ] at g0 g1 g2
          have HX := Lib.hid hst
          have HSA2 := Lib.hid hsa
          have HSN2 := Lib.hid hsn
          clear hst hsa hsn htl hkn eb ef
          go_wp2
          refine bodyPost_ret (v := .agg #[.slice xa st2.al.length xc, .slice za st2.ns.length zc, .slice Ev es.length cv]) (by simp [results, Tryd.results6, go_sem, g0, g1, g2]) rfl ?_
          have T : Turns [W.heap.size + 1] wr (((wr.setCell ⟨W.heap.size + 1, 0, none⟩ (.slice xa st2.al.length xc)).setCell ⟨W.heap.size + 1, 1, none⟩ (.slice za st2.ns.length zc)).setCell ⟨W.heap.size + 1, 2, none⟩ (.slice Ev es.length cv)) :=
            (((Turns.refl _ _).setCell (.inl (by simp)) _).setCell (.inl (by simp)) _).setCell (.inl (by simp)) _
          have K : ∀ (G : Nat → Prop), (∀ b, G b → W.heap.size + 1 + 1 ≤ b) → Kp G wr _ := fun G hG => Kp.of_turns T (fun x hx hf => by have := hG x hf; rw [List.mem_singleton.1 hx] at this; omega)
          have hbw := box_below HX.out.below
          refine ⟨_, _, _, rfl, ⟨?_, ?_, ?_⟩, hbw.trans (T.below hbw.size (fun x hx => by rw [List.mem_singleton.1 hx]; omega))⟩
          · have := (HX.out.cp.al.rsl (G := fun b => W.heap.size + 1 + 1 ≤ b) (fun b hb => (HX.out.cp.al.block hb).1)).kp (F' := fun b => W.heap.size ≤ b) (K _ (fun _ h => h)) (fun b _ hb => by omega) (fun cs p hp => EShp.kp (F' := fun b => W.heap.size ≤ b) hp (K _ (fun b hb => hb.1)) (fun b _ hb => by have := hb.1; omega))
            rw [← HSA2.out]
            exact this
          · have := (HX.out.cp.ns.rsl (G := fun b => W.heap.size + 1 + 1 ≤ b) (fun b hb => (HX.out.cp.ns.block hb).1)).kp (F' := fun b => W.heap.size ≤ b) (K _ (fun _ h => h)) (fun b _ hb => by omega) (fun cs p hp => ENode.kp (F' := fun b => W.heap.size ≤ b) hp (K _ (fun b hb => hb.1)) (fun b _ hb => by have := hb.1; omega))
            rw [← HSN2.out]
            exact this
          · exact (HX.out.cp.en.rsl (G := fun b => W.heap.size + 1 + 1 ≤ b) (fun b hb => (HX.out.cp.en.block hb).1)).kp (K _ (fun _ h => h)) (fun b _ hb => by omega) (fun _ _ h => h)
end Go.Proofs.YtonkbjdeaneicaaDoor

namespace Go.Proofs.YtonkbjdeaneicaaDoor.Pln
open Classical
theorem kidAt_mem {ns : List Nd} {node : Int} {i x : Nat} (h : x ∈ kidAt ns node i) : x = i ∧ ∃ n, ns[i]? = some n ∧ n.parent = node := by
  unfold kidAt at h
  split at h
  · rename_i n hn
    split at h
    · rename_i hp
      exact ⟨List.mem_singleton.1 h, n, hn, hp⟩
    · cases h
  · cases h
theorem kids_at {ns : List Nd} {node : Int} {k j x : Nat} (h : (kidsK ns node k)[j]? = some x) : x < k ∧ (∃ n, ns[x]? = some n ∧ n.parent = node) ∧ (kidsK ns node x).length = j := by
  obtain ⟨i, a, b, c⟩ := flat_at (kidAt ns node) (kidAt_one ns node) k j x h
  obtain ⟨rfl, n, h1, h2⟩ := kidAt_mem (show x ∈ kidAt ns node i by rw [b]; simp)
  exact ⟨a, ⟨n, h1, h2⟩, c⟩
theorem kids_rise {ns : List Nd} {node : Int} {k j x y : Nat} (hx : (kidsK ns node k)[j]? = some x) (hy : (kidsK ns node k)[j + 1]? = some y) : x < y := by
  obtain ⟨_, _, h1⟩ := kids_at hx
  obtain ⟨_, _, h2⟩ := kids_at hy
  rcases Nat.lt_or_ge x y with h | h
  · exact h
  · have := flat_mono (kidAt ns node) h
    unfold kidsK at h1 h2
    omega
/-- How many nodes lie below the first n nodes. -/
noncomputable def belowN (ns : List Nd) (n : Nat) : Nat := ns.countP (fun d => decide (0 ≤ d.parent ∧ d.parent < (n : Int)))
theorem kids_count (ns : List Nd) (node : Int) : ∀ k, k ≤ ns.length → (kidsK ns node k).length = (ns.take k).countP (fun d => decide (d.parent = node))
  | 0, _ => by simp [kidsK]
  | k + 1, hk => by
    have hn : ns[k]? = some ns[k] := List.getElem?_eq_getElem hk
    rw [kidsK_succ, List.length_append, kids_count ns node k (by omega), List.take_add_one, List.countP_append, hn]
    congr 1
    unfold kidAt
    rw [hn]
    simp only
    by_cases h : ns[k].parent = node
    · simp [h]
    · simp [h]
theorem countP_split {α : Type} (p q r : α → Bool) (h : ∀ x, r x = (p x || q x)) (hd : ∀ x, p x = true → q x = false) (l : List α) : l.countP r = l.countP p + l.countP q := by
  induction l with
  | nil => rfl
  | cons a l ih =>
    rw [List.countP_cons, List.countP_cons, List.countP_cons, ih, h a]
    cases hp : p a with
    | true => rw [hd a hp]; simp; omega
    | false => cases hq : q a <;> simp <;> omega
theorem belowN_next (ns : List Nd) (n : Nat) : belowN ns (n + 1) = belowN ns n + (kidsK ns n ns.length).length := by
  rw [kids_count ns n _ (Nat.le_refl _), List.take_length]
  unfold belowN
  refine countP_split _ _ _ (fun x => ?_) (fun x hx => ?_) ns
  · by_cases h1 : 0 ≤ x.parent ∧ x.parent < (n : Int)
    · rw [decide_eq_true h1, decide_eq_true (show 0 ≤ x.parent ∧ x.parent < ((n + 1 : Nat) : Int) by omega)]; rfl
    · by_cases h2 : x.parent = (n : Int)
      · rw [decide_eq_true h2, decide_eq_true (show 0 ≤ x.parent ∧ x.parent < ((n + 1 : Nat) : Int) by omega), Bool.or_true]
      · have : ¬ (0 ≤ x.parent ∧ x.parent < ((n + 1 : Nat) : Int)) := by omega
        rw [decide_eq_false this, decide_eq_false h1, decide_eq_false h2]; rfl
  · have := of_decide_eq_true hx
    exact decide_eq_false (by omega)
theorem belowN_zero (ns : List Nd) : belowN ns 0 = 0 := by
  unfold belowN
  rw [List.countP_eq_zero]
  intro d _ h
  have := of_decide_eq_true h
  omega
theorem belowN_all {ns : List Nd} (h0 : ns[0]? = some rootN) (hp : Par ns) : belowN ns ns.length + 1 = ns.length := by
  match hns : ns, h0 with
  | a :: r, h0 =>
    have ha : a = rootN := by simpa using h0
    unfold belowN
    rw [List.countP_cons, ha]
    have e1 : decide (0 ≤ rootN.parent ∧ rootN.parent < (((a :: r).length : Nat) : Int)) = false := decide_eq_false (by show ¬ ((0 : Int) ≤ -1 ∧ _); omega)
    have e1' : decide (0 ≤ rootN.parent ∧ rootN.parent < (((rootN :: r).length : Nat) : Int)) = false := decide_eq_false (by show ¬ ((0 : Int) ≤ -1 ∧ _); omega)
    rw [e1']
    have e2 : r.countP (fun d => decide (0 ≤ d.parent ∧ d.parent < (((rootN :: r).length : Nat) : Int))) = r.length := by
      rw [List.countP_eq_length]
      intro d hd
      obtain ⟨i, hi, rfl⟩ := List.getElem_of_mem hd
      obtain ⟨u, h1, h2⟩ := hp (i + 1) r[i] (by simp [List.getElem?_eq_getElem hi]) (by omega)
      rw [decide_eq_true_eq, h2]
      simp only [List.length_cons]
      omega
    rw [e2]
    simp
end Go.Proofs.YtonkbjdeaneicaaDoor.Pln
