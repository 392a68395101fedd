/- The reference's Maker: node. The reference's Maker: atom. -/
import Derived.Test.YtonkbjdeaneicaaKpc18
import Derived.Test.YtonkbjdeaneicaaKpc32
namespace Go.Proofs.Ytonkbjdeaneicaa
open Go.RowKit Pln Classical Go.Maps

set_option maxRecDepth 200000 in
set_option maxHeartbeats 8000000 in
theorem rnodeW {base g : Nat} {W : World} {S : List Nat} {st : St} {es : List Nat} (h : RMkr base g W S st es) {cs : List Value} {lv nv : Value} (n : Nd) (hn : ENd (Off base S) W cs n lv nv) (hlen : st.ns.length ≤ 30000000) :
    Calls Try.prog 27 #[.pointer (some ⟨g, 0, none⟩), .agg #[.int .i64 n.kind, .int .i64 n.parent, .int .i64 n.alpha, lv, nv, .int .i64 n.test.op, .bool n.test.l.v, .int .i64 n.test.l.n, .bool n.test.r.v, .int .i64 n.test.r.n, .int .i64 n.width]] W fun e W' => e = .returned (.int .i64 (placeF st.ns n : Nat)) ∧ RMkrTo base g W S ⟨st.al, addF st.ns n⟩ es W' := by
  obtain ⟨av, nv0, ev, rfl, hM⟩ := h
  have hcs := hn.cells
  subst hcs
  obtain ⟨la, lc, rfl⟩ := hn.links.form
  obtain ⟨na, nc, rfl⟩ := hn.new.form
  obtain ⟨A0, C0, rfl⟩ := hM.ns.form
  have HN := Lib.hid hn
  have HM := Lib.hid hM
  have h1 : Below (W.heap.size + 1) (W.alloc (.cells #[.int .i64 n.kind, .int .i64 n.parent, .int .i64 n.alpha, .slice la n.links.length lc, .slice na n.new.length nc, .int .i64 n.test.op, .bool n.test.l.v, .int .i64 n.test.l.n, .bool n.test.r.v, .int .i64 n.test.r.n, .int .i64 n.width] 54)) (W.alloc (.cells #[.int .i64 n.kind, .int .i64 n.parent, .int .i64 n.alpha, .slice la n.links.length lc, .slice na n.new.length nc, .int .i64 n.test.op, .bool n.test.l.v, .int .i64 n.test.l.n, .bool n.test.r.v, .int .i64 n.test.r.n, .int .i64 n.width] 54)) := Below.refl _ _
  have H1 := Lib.hid h1
  have y0' := (HM.out.step (box_below h1)).cell 1 rfl
  clear hM hn h1
  go_enter Try.func27, Try.ntmps27
  go_wp2_with fail
  go_loopw [5] (fun i wr => ∃ k : Nat, i = .int .i64 k ∧ k ≤ st.ns.length ∧ (∀ j, j < k → st.ns[j]? ≠ some n) ∧ Below (W.heap.size + 1) (W.alloc (.cells #[.int .i64 n.kind, .int .i64 n.parent, .int .i64 n.alpha, .slice la n.links.length lc, .slice na n.new.length nc, .int .i64 n.test.op, .bool n.test.l.v, .int .i64 n.test.l.n, .bool n.test.r.v, .int .i64 n.test.r.n, .int .i64 n.width] 54)) wr) (fun i _ => st.ns.length - (intOf i).toNat)
  case atStart => exact ⟨0, rfl, Nat.zero_le _, fun j h => by omega, H1.out⟩
  case round =>
    obtain ⟨k, rfl, hk, hq, hb⟩ := hrel
    clear y0'
    have hBW := box_below hb
    have hMr := HM.out.step hBW
    have y0 := hMr.cell 1 rfl
    by_cases hkn : k < st.ns.length
    · obtain ⟨a, ha⟩ : ∃ a, st.ns[k]? = some a := ⟨_, List.getElem?_eq_getElem hkn⟩
      obtain ⟨b, off, hAA, -, hbl, cs, ⟨lv, mv, hE⟩, hc⟩ := RSl.at (hMr.ns.rsl (G := fun b => b < wr.heap.size) (fun b hb => (hMr.ns.block hb).2.1)) ha
      subst hAA
      have hcs := hE.cells
      subst hcs
      obtain ⟨Al, cl, rfl⟩ := hE.links.form
      obtain ⟨Am, cm, rfl⟩ := hE.new.form
      have CE := Lib.hid (fun W' (hx : Below wr.heap.size wr W') => requalNodeW W' a n _ _ _ _ _ _ (hE.kp (F' := Off base (rfoot g av (.slice (some ⟨b, off, none⟩) st.ns.length C0) ev)) (Kp.of_below hx) (fun _ _ h => h)) ((HN.out.kp (F' := Off base (rfoot g av (.slice (some ⟨b, off, none⟩) st.ns.length C0) ev)) (Kp.of_below hBW) (fun _ _ h => h)).kp (F' := Off base (rfoot g av (.slice (some ⟨b, off, none⟩) st.ns.length C0) ev)) (Kp.of_below hx) (fun _ _ h => h)))
      obtain ⟨S, hSe⟩ : ∃ S, S = fun Wx => Below wr.heap.size wr Wx := ⟨_, rfl⟩
      have bn := fun (p : Pt S) => (congrFun hSe p.val).mp p.property
      have q0 := fun (p : Pt S) => (hMr.step (bn p)).cell 1 rfl
      have xx := fun (p : Pt S) (i : Nat) (u : Value) hu => ((bn p).cell (p := ⟨b, off + k * 11 + i, none⟩) hbl).trans (hc i u hu)
      have x0 := fun (p : Pt S) => xx p 0 _ rfl
      have x1 := fun (p : Pt S) => xx p 1 _ rfl
      have x2 := fun (p : Pt S) => xx p 2 _ rfl
      have x3 := fun (p : Pt S) => xx p 3 _ rfl
      have x4 := fun (p : Pt S) => xx p 4 _ rfl
      have x5 := fun (p : Pt S) => xx p 5 _ rfl
      have x6 := fun (p : Pt S) => xx p 6 _ rfl
      have x7 := fun (p : Pt S) => xx p 7 _ rfl
      have x8 := fun (p : Pt S) => xx p 8 _ rfl
      have x9 := fun (p : Pt S) => xx p 9 _ rfl
      have x10 := fun (p : Pt S) => xx p 10 _ rfl
      simp only [Nat.add_zero] at x0
      have z0 := fun (p : Pt S) => box_cellL (box_step hb (bn p)) 0 rfl
      have z1 := fun (p : Pt S) => box_cellL (box_step hb (bn p)) 1 rfl
      have z2 := fun (p : Pt S) => box_cellL (box_step hb (bn p)) 2 rfl
      have z3 := fun (p : Pt S) => box_cellL (box_step hb (bn p)) 3 rfl
      have z4 := fun (p : Pt S) => box_cellL (box_step hb (bn p)) 4 rfl
      have z5 := fun (p : Pt S) => box_cellL (box_step hb (bn p)) 5 rfl
      have z6 := fun (p : Pt S) => box_cellL (box_step hb (bn p)) 6 rfl
      have z7 := fun (p : Pt S) => box_cellL (box_step hb (bn p)) 7 rfl
      have z8 := fun (p : Pt S) => box_cellL (box_step hb (bn p)) 8 rfl
      have z9 := fun (p : Pt S) => box_cellL (box_step hb (bn p)) 9 rfl
      have z10 := fun (p : Pt S) => box_cellL (box_step hb (bn p)) 10 rfl
      have NE : Nonempty (Pt S) := ⟨⟨wr, (congrFun hSe wr).mpr (Below.refl _ _)⟩⟩
      have HDD := Lib.hid ((congrFun hSe wr.drew).mpr (Below.refl _ _).drew)
      have SE := Lib.hid hSe
      have KPP := Lib.hid bn
      have e1 : (0 : Int) ≤ (k : Int) := by omega
      have e2 : (k : Int) < (st.ns.length : Int) := by omega
      have HA := Lib.hid ha
      have HQ := Lib.hid hq
      have HK := Lib.hid hkn
      have HB := Lib.hid hb
      have HBW := Lib.hid hBW
      clear hc ha hq hkn hb hE hMr bn hSe hBW xx
      by_cases has : a = n
      · rw [decide_eq_true has] at CE
        have hpl := Lib.hid (placeF_at (has ▸ HA.out) HQ.out)
        have hadd := Lib.hid (show addF st.ns n = st.ns by unfold addF; rw [if_pos (List.mem_of_getElem? (has ▸ HA.out))])
        clear has
        go_wp2_with fail
        refine wp_region_class (S := S) HDD.out (by kernel_rfl) (by kernel_rfl) ?_
        repeat (go_big_quiet_step ((go_at_call 35; refine (CE.out _ (KPP.out _)).mono ?_; rintro e w' ⟨rfl, hbel⟩; exact ⟨rfl, ⟨w', (congrFun SE.out w').mpr ((KPP.out _).trans (hbel.mono (KPP.out _).size))⟩, rfl⟩)))
        refine wpQuiet_nil ?_
        rintro wq ⟨⟨_, hW⟩, rfl⟩
        have HF := Lib.hid ((congrFun SE.out wq).mp hW)
        clear q0 x0 x1 x2 x3 x4 x5 x6 x7 x8 x9 x10 z0 z1 z2 z3 z4 z5 z6 z7 z8 z9 z10 NE hW
        go_wp2
        go_ret
        have BF := HBW.out.trans (HF.out.mono HBW.out.size)
        refine ⟨by rw [hpl.out]; rfl, _, ⟨_, _, _, rfl, ?_⟩, Turns.of_below BF, fun b hb => .inl hb⟩
        rw [hadd.out]
        exact HM.out.step BF
      · rw [decide_eq_false has] at CE
        have HQ2 := Lib.hid (show ∀ j, j < k + 1 → st.ns[j]? ≠ some n from fun j hj => by
          rcases Nat.lt_or_ge j k with h1 | h1
          · exact HQ.out j h1
          · rw [show j = k by omega, HA.out]
            exact fun e => has (Option.some.inj e))
        clear has
        go_wp2_with fail
        refine wp_region_class (S := S) HDD.out (by kernel_rfl) (by kernel_rfl) ?_
        repeat (go_big_quiet_step ((go_at_call 35; refine (CE.out _ (KPP.out _)).mono ?_; rintro e w' ⟨rfl, hbel⟩; exact ⟨rfl, ⟨w', (congrFun SE.out w').mpr ((KPP.out _).trans (hbel.mono (KPP.out _).size))⟩, rfl⟩)))
        refine wpQuiet_nil ?_
        rintro wq ⟨⟨_, hW⟩, rfl⟩
        have HF := Lib.hid (box_step HB.out ((congrFun SE.out wq).mp hW))
        clear q0 x0 x1 x2 x3 x4 x5 x6 x7 x8 x9 x10 z0 z1 z2 z3 z4 z5 z6 z7 z8 z9 z10 NE hW
        go_wp2
        exact ⟨⟨k + 1, by go_num, HK.out, HQ2.out, HF.out⟩, by simp [intOf]; have := HK.out; omega⟩
    · obtain rfl : k = st.ns.length := by omega
      have hno : n ∉ st.ns := fun hm => by
        obtain ⟨h1, h2⟩ := placeF_lt hm
        exact hq _ h1 h2
      have hadd := Lib.hid (show addF st.ns n = st.ns ++ [n] by unfold addF; rw [if_neg hno])
      have hpl := Lib.hid (placeF_none hno)
      have BW := Lib.hid hBW
      have HMR := Lib.hid hMr
      have hgr := hMr.lt
      have z0 := box_cellL hb 0 rfl
      have z1 := box_cellL hb 1 rfl
      have z2 := box_cellL hb 2 rfl
      have z3 := box_cellL hb 3 rfl
      have z4 := box_cellL hb 4 rfl
      have z5 := box_cellL hb 5 rfl
      have z6 := box_cellL hb 6 rfl
      have z7 := box_cellL hb 7 rfl
      have z8 := box_cellL hb 8 rfl
      have z9 := box_cellL hb 9 rfl
      have z10 := box_cellL hb 10 rfl
      have HE := Lib.hid (HN.out.kp (F' := Off base (rfoot g av (.slice A0 st.ns.length C0) ev)) (Kp.of_below hBW) (fun _ _ h => h))
      have hbase : base ≤ wr.heap.size := by have := (hMr.foot_lt g rfoot_g).1; omega
      clear hMr hq hno hkn hb hBW
      go_wp2
      go_region_law (refine step_append_F HMR.out.ns (fun b hb hf => hf.2 (by simp [rfoot, hb])) (by rfl) (.tmp 32) (.tmp 34) 24 (by rfl) Try.underlying24 infoNdR rfl (by decide) (by rfl) #[.int .i64 n.kind, .int .i64 n.parent, .int .i64 n.alpha, .slice la n.links.length lc, .slice na n.new.length nc, .int .i64 n.test.op, .bool n.test.l.v, .int .i64 n.test.l.n, .bool n.test.r.v, .int .i64 n.test.r.n, .int .i64 n.width] _ (by rfl) rfl (x := n) ⟨_, _, HE.out⟩ (by omega) (by decide) hbase ?_; intro g' cap w3 ho ht hat hlt3; have hgn := (HMR.out.apart).2.1; have e3 := (ht.block g HMR.out.lt (fun hm => (hgn g (by simpa using hm)).1 rfl)).trans HMR.out.blk; have q1 := rboxL e3 1 rfl; have q2 : ∀ o, w3.frozen? ⟨g, o, none⟩ = false := (fun o => by simp [World.frozen?, e3]); have q3 := lt_of_heap e3; have GR := Lib.hid (HMR.out.grow_ns ho ht hat); clear ho ht hat hlt3 hgn e3)
      all_goals
        have q0 : (w3.setCell ⟨g, 1, none⟩ (.slice (some ⟨g', 0, none⟩) (st.ns.length + 1) cap)).cell? ⟨g, 1, none⟩ = some (.slice (some ⟨g', 0, none⟩) (st.ns.length + 1) cap) := GR.out.1.cell 1 rfl
        clear q1 q2 y0 z0 z1 z2 z3 z4 z5 z6 z7 z8 z9 z10
        go_wp2
        go_ret
        refine ⟨ret_i64 (by rw [hpl.out]), rfoot g av (.slice (some ⟨g', 0, none⟩) (st.ns.length + 1) cap) ev, ⟨av, .slice (some ⟨g', 0, none⟩) (st.ns.length + 1) cap, ev, rfl, ?_⟩, ?_, ?_⟩
        · rw [hadd.out]
          exact GR.out.1
        · exact (Turns.of_below (S := rfoot g av (.slice A0 st.ns.length C0) ev) BW.out).trans GR.out.2.1 (fun x hx => .inl hx)
        · intro b hb
          rcases GR.out.2.2 b hb with h1 | h1
          · exact .inl h1
          · exact .inr (Nat.le_trans BW.out.size h1)
end Go.Proofs.Ytonkbjdeaneicaa

namespace Go.Proofs.Ytonkbjdeaneicaa
open Go.RowKit Pln Classical Go.Maps

/-- The node on its way, behind k places. -/
structure RPt (wo wr : World) (kd u al : Int) (args : List Slt) (w : Int) (lv nv : Value) (k : Nat) : Prop where
  blk : wr.heap[wo.heap.size]? = some (.cells #[.int .i64 kd, .int .i64 u, .int .i64 al, lv, nv, .int .i64 0, .bool false, .int .i64 0, .bool false, .int .i64 0, .int .i64 w] 54 (0, 0))
  lo : OwnF (fun _ => False) (wo.heap.size + 1) wr 83 cdLnk lv (linksK args w k)
  no : OwnF (fun _ => False) (wo.heap.size + 1) wr 3 cdInt nv (newK args w k)
  below : Below wo.heap.size wo wr
section
variable {wo wr wr' w2 : World} {kd u al : Int} {args : List Slt} {w : Int} {lv nv : Value} {k : Nat}
theorem RPt.lt (h : RPt wo wr kd u al args w lv nv k) : wo.heap.size < wr.heap.size := lt_of_heap h.blk
theorem RPt.step (h : RPt wo wr kd u al args w lv nv k) (hb : Below wr.heap.size wr wr') : RPt wo wr' kd u al args w lv nv k :=
  ⟨(hb.block _ h.lt).trans h.blk, h.lo.below hb, h.no.below hb, h.below.trans (hb.mono h.below.size)⟩
theorem RPt.apart (h : RPt wo wr kd u al args w lv nv k) {b : Nat} (h1 : lv.ownBlock = some b) (h2 : nv.ownBlock = some b) : False := by
  obtain ⟨_, _, c1, e1⟩ := h.lo.block h1
  obtain ⟨_, _, c2, e2⟩ := h.no.block h2
  rw [e1] at e2
  simp at e2
theorem RPt.putL (h : RPt wo wr kd u al args w lv nv k) {lv' : Value} {x : Int × Int} (ht : Turns lv.ownBlock.toList wr w2) (ho : OwnF (fun _ => False) (wo.heap.size + 1) w2 83 cdLnk lv' (linksK args w k ++ [x])) (hl : linkAt args w k = [x]) (hn : newAt args w k = []) :
    RPt wo (w2.setCell ⟨wo.heap.size, 3, none⟩ lv') kd u al args w lv' nv (k + 1) := by
  have hn0 : wo.heap.size ∉ lv.ownBlock.toList := fun hm => by have := (h.lo.block (by simpa using hm)).1; omega
  refine ⟨heap_setCell_same _ _ 3 _ _ _ ((ht.block _ h.lt hn0).trans h.blk), ?_, ?_, ?_⟩
  · rw [linksK_succ, hl]
    exact ho.keep (S := [wo.heap.size]) ((Turns.refl _ _).setCell (.inl (by simp)) _) (fun b hb => by have := (ho.block hb).1; simp; omega) (by simp) (fun _ _ h => h)
  · rw [newK_succ, hn, List.append_nil]
    exact (h.no.keep ht (fun b hb hm => h.apart (by simpa using hm) hb) (by simp) (fun _ _ h => h)).keep (S := [wo.heap.size]) ((Turns.refl _ _).setCell (.inl (by simp)) _) (fun b hb => by have := (h.no.block hb).1; simp; omega) (by simp) (fun _ _ h => h)
  · exact (h.below.trans (ht.below h.below.size (fun x hx => by have := (h.lo.block (by simpa using hx)).1; omega))).setCell (Nat.le_refl _) _
theorem RPt.putN (h : RPt wo wr kd u al args w lv nv k) {nv' : Value} {x : Int} (ht : Turns nv.ownBlock.toList wr w2) (ho : OwnF (fun _ => False) (wo.heap.size + 1) w2 3 cdInt nv' (newK args w k ++ [x])) (hl : linkAt args w k = []) (hn : newAt args w k = [x]) :
    RPt wo (w2.setCell ⟨wo.heap.size, 4, none⟩ nv') kd u al args w lv nv' (k + 1) := by
  have hn0 : wo.heap.size ∉ nv.ownBlock.toList := fun hm => by have := (h.no.block (by simpa using hm)).1; omega
  refine ⟨heap_setCell_same _ _ 4 _ _ _ ((ht.block _ h.lt hn0).trans h.blk), ?_, ?_, ?_⟩
  · rw [linksK_succ, hl, List.append_nil]
    exact (h.lo.keep ht (fun b hb hm => h.apart hb (by simpa using hm)) (by simp) (fun _ _ h => h)).keep (S := [wo.heap.size]) ((Turns.refl _ _).setCell (.inl (by simp)) _) (fun b hb => by have := (h.lo.block hb).1; simp; omega) (by simp) (fun _ _ h => h)
  · rw [newK_succ, hn]
    exact ho.keep (S := [wo.heap.size]) ((Turns.refl _ _).setCell (.inl (by simp)) _) (fun b hb => by have := (ho.block hb).1; simp; omega) (by simp) (fun _ _ h => h)
  · exact (h.below.trans (ht.below h.below.size (fun x hx => by have := (h.no.block (by simpa using hx)).1; omega))).setCell (Nat.le_refl _) _
theorem RPt.skip (h : RPt wo wr kd u al args w lv nv k) (hl : linkAt args w k = []) (hn : newAt args w k = []) : RPt wo wr kd u al args w lv nv (k + 1) :=
  ⟨h.blk, by rw [linksK_succ, hl, List.append_nil]; exact h.lo, by rw [newK_succ, hn, List.append_nil]; exact h.no, h.below⟩
/-- The node's own block, where a list of its own has turned. -/
theorem RPt.at2 (h : RPt wo wr kd u al args w lv nv k) {v : Value} (hv : v = lv ∨ v = nv) (ht : Turns v.ownBlock.toList wr w2) : w2.cell? ⟨wo.heap.size, 3, none⟩ = some lv ∧ w2.cell? ⟨wo.heap.size, 4, none⟩ = some nv ∧ (∀ o, w2.frozen? ⟨wo.heap.size, o, none⟩ = false) ∧ wo.heap.size < w2.heap.size := by
  have hn0 : wo.heap.size ∉ v.ownBlock.toList := fun hm => by
    rcases hv with rfl | rfl
    · have := (h.lo.block (by simpa using hm)).1; omega
    · have := (h.no.block (by simpa using hm)).1; omega
  have e := (ht.block _ h.lt hn0).trans h.blk
  exact ⟨cell_of_row _ _ 3 _ _ _ e, cell_of_row _ _ 4 _ _ _ e, fun o => by simp [World.frozen?, e], lt_of_heap e⟩
end
theorem RMkr.step {base g : Nat} {W W' : World} {S : List Nat} {st : St} {es : List Nat} (h : RMkr base g W S st es) (hb : Below W.heap.size W W') : RMkr base g W' S st es := by
  obtain ⟨av, nv, ev, rfl, hM⟩ := h
  exact ⟨av, nv, ev, rfl, hM.step hb⟩
theorem RMkr.foot {base g : Nat} {W : World} {S : List Nat} {st : St} {es : List Nat} (h : RMkr base g W S st es) : base ≤ W.heap.size ∧ ∀ x ∈ S, base ≤ x ∧ x < W.heap.size := by
  obtain ⟨av, nv, ev, rfl, hM⟩ := h
  exact ⟨by have := hM.foot_lt g rfoot_g; omega, hM.foot_lt⟩
theorem RMkrTo.after {base g : Nat} {W W1 W2 : World} {S S1 : List Nat} {st : St} {es : List Nat} (ht : Turns S W W1) (hs : ∀ b ∈ S1, b ∈ S ∨ W.heap.size ≤ b) (h : RMkrTo base g W1 S1 st es W2) : RMkrTo base g W S st es W2 := by
  obtain ⟨S2, h1, h2, h3⟩ := h
  refine ⟨S2, h1, ht.trans h2 hs, fun b hb => ?_⟩
  rcases h3 b hb with h4 | h4
  · exact hs b h4
  · exact .inr (Nat.le_trans ht.size h4)

set_option maxRecDepth 200000 in
set_option maxHeartbeats 8000000 in
theorem ratomW {base g : Nat} {W : World} {S : List Nat} {st : St} {es : List Nat} (h : RMkr base g W S st es) (kd : Int) (hkd : i64ok kd) (u : Nat) (hu : u < st.ns.length) (wd : Nat) (hwd : widthAt st u = wd) (hwd2 : wd ≤ 1000)
    {F : Nat → Prop} (hFb : ∀ b, F b → b < base) (p : Pat) (v : Value) (hp : RSl F W 2 ESlt v p.args) (pok : i64ok p.pred) (h8 : p.args.length ≤ 8) (hal : st.al.length ≤ 20000000) (hns : st.ns.length ≤ 20000000) :
    Calls Try.prog 26 #[.pointer (some ⟨g, 0, none⟩), .int .i64 u, .int .i64 kd, .agg #[.int .i64 p.pred, v]] W fun e W' => e = .returned (.int .i64 (patF kd (u, st) p).1) ∧ RMkrTo base g W S (patF kd (u, st) p).2 es W' := by
  obtain ⟨A, c, rfl⟩ := hp.form
  obtain ⟨av, nv, ev, rfl, hM⟩ := h
  obtain ⟨A0, C0, rfl⟩ := hM.ns.form
  obtain ⟨nd, hnd⟩ : ∃ nd, st.ns[u]? = some nd := ⟨_, List.getElem?_eq_getElem hu⟩
  have hw : nd.width = (wd : Int) := by unfold widthAt at hwd; rw [hnd] at hwd; exact hwd
  obtain ⟨b, off, hA0, hFb0, hbs, cs, ⟨ln0, nn0, hE⟩, hc⟩ := (hM.ns.rsl (G := fun b => b < W.heap.size) (fun b hb => (hM.ns.block hb).2.1)).at hnd
  subst hA0
  have hcs := hE.cells
  subst hcs
  have c10 : W.cell? ⟨b, off + u * 11 + 10, none⟩ = some (.int .i64 wd) := by rw [← hw]; exact hc 10 _ rfl
  have x1 := hM.cell 1 rfl
  have hgl := hM.lt
  have e1 : (0 : Int) ≤ (u : Int) := by omega
  have e2 : (u : Int) < (st.ns.length : Int) := by omega
  have CM := Lib.hid (fun W' (hb : Below W.heap.size W W') => ralphaW (S := rfoot g av (.slice (some ⟨b, off, none⟩) st.ns.length C0) ev) ⟨av, _, ev, rfl, hM.step hb⟩ p _ (hp.keep (Kp.of_below hb)) pok (by omega) (by omega))
  have HM := Lib.hid hM
  have HP := Lib.hid hp
  have HWD := Lib.hid hwd
  have HND := Lib.hid hnd
  clear hM hp hc hE hnd hwd hw
  go_enter Try.func26, Try.ntmps26
  go_wp2_with fail
  refine (CM.out _ ((Below.refl _ _).alloc (Nat.le_refl _) _)).mono ?_
  rintro e w2 ⟨rfl, S2, hM2, hT2, hS2⟩
  obtain ⟨ai, hai⟩ : ∃ ai, placeF st.al (shapeF p) = ai := ⟨_, rfl⟩
  have HAI := Lib.hid hai
  rw [hai]
  have fl := HM.out.foot_lt
  have hW2 : W.heap.size < w2.heap.size := by have := hT2.size; simp at this; omega
  have eb : w2.heap[W.heap.size]? = some (.cells #[.int .i64 p.pred, .slice A p.args.length c] 34 (0, 0)) := (hT2.block _ (by simp) (fun hm => by have := (fl _ hm).2; omega)).trans (heap_alloc_new W _)
  have EB := Lib.hid eb
  have xp0 : w2.cell? ⟨W.heap.size, 0, none⟩ = some (.int .i64 p.pred) := cell_of_row _ _ 0 _ _ _ eb
  have xp1 : w2.cell? ⟨W.heap.size, 1, none⟩ = some (.slice A p.args.length c) := cell_of_row _ _ 1 _ _ _ eb
  have KF : Kp F W w2 := (Kp.of_below ((Below.refl W.heap.size W).alloc (Nat.le_refl _) (.cells #[.int .i64 p.pred, .slice A p.args.length c] 34))).trans (Kp.of_turns hT2 (fun x hx hf => by have h1 := (fl x hx).1; have h2 := hFb x hf; omega))
  have HP2 := Lib.hid (HP.out.keep KF)
  have HM2 := Lib.hid hM2
  have HT2 := Lib.hid (((Turns.refl (rfoot g av (.slice (some ⟨b, off, none⟩) st.ns.length C0) ev) W).alloc (.cells #[.int .i64 p.pred, .slice A p.args.length c] 34)).trans hT2 (fun x hx => .inl hx))
  have HS2 := Lib.hid (show ∀ b' ∈ S2, b' ∈ rfoot g av (.slice (some ⟨b, off, none⟩) st.ns.length C0) ev ∨ W.heap.size ≤ b' from fun b' hb' => by
    rcases hS2 b' hb' with h1 | h1
    · exact .inl h1
    · exact .inr (by simp at h1; omega))
  have h80 : RPt w2 (w2.alloc (.cells #[.int .i64 kd, .int .i64 u, .int .i64 ai, .slice none 0 0, .slice none 0 0, .int .i64 0, .bool false, .int .i64 0, .bool false, .int .i64 0, .int .i64 wd] 54)) kd u ai p.args wd (.slice none 0 0) (.slice none 0 0) 0 :=
    ⟨heap_alloc_new w2 _, OwnF.nil, OwnF.nil, (Below.refl _ _).alloc (Nat.le_refl _) _⟩
  have H80 := Lib.hid h80
  clear hM2 hT2 hS2 KF eb fl hai h80 x1 c10
  go_wp2_with fail
  go_loopw [11] (fun i wr => ∃ (k : Nat) (lv nv : Value), i = .int .i64 k ∧ k ≤ p.args.length ∧ RPt w2 wr kd u ai p.args wd lv nv k) (fun i _ => p.args.length - (intOf i).toNat)
  case atStart => exact ⟨0, _, _, rfl, Nat.zero_le _, H80.out⟩
  case round =>
    obtain ⟨k, lv, nv, rfl, hk, hP⟩ := hrel
    obtain ⟨la, lc, rfl⟩ := hP.lo.form
    obtain ⟨na, nc, rfl⟩ := hP.no.form
    have ll := linksK_len p.args (wd : Int) k
    have nl := newK_len p.args (wd : Int) k
    have hwz := hP.lt
    have yp0 : wr.cell? ⟨W.heap.size, 0, none⟩ = some (.int .i64 p.pred) := (hP.below.cell (p := ⟨W.heap.size, 0, none⟩) hW2).trans xp0
    have yp1 : wr.cell? ⟨W.heap.size, 1, none⟩ = some (.slice A p.args.length c) := (hP.below.cell (p := ⟨W.heap.size, 1, none⟩) hW2).trans xp1
    have hWr : W.heap.size < wr.heap.size := by omega
    by_cases hkn : k < p.args.length
    · obtain ⟨s, hs⟩ : ∃ s, p.args[k]? = some s := ⟨_, List.getElem?_eq_getElem hkn⟩
      obtain ⟨b2, off2, rfl, hFb2, hbs2, cs2, ⟨rfl, sok⟩, hc2⟩ := (HP2.out.keep (Kp.of_below hP.below)).at hs
      have d0 := hc2 0 _ rfl
      have d1 := hc2 1 _ rfl
      simp only [Nat.add_zero] at d0
      obtain ⟨sv, sn⟩ := s
      simp only at d0 d1 sok
      have f1 : (0 : Int) ≤ (k : Int) := by omega
      have f2 : (k : Int) < (p.args.length : Int) := by omega
      have CI := Lib.hid (fun W' (hb : Below wr.heap.size wr W') (hl : firstV p.args sn < p.args.length) => rfirstW p (.slice (some ⟨b2, off2, none⟩) p.args.length c) sn W' ((HP2.out.keep (Kp.of_below hP.below)).keep (Kp.of_below hb)) hl)
      have HX := Lib.hid hP
      have HS := Lib.hid hs
      have HK := Lib.hid hkn
      clear hc2 hs hkn hP
      cases sv with
      | false =>
        have hl : linkAt p.args (wd : Int) k = [] := by unfold linkAt; rw [HS.out]; simp
        have hnn : newAt p.args (wd : Int) k = [] := by unfold newAt; rw [HS.out]; simp
        have N1 := Lib.hid ((HX.out.step ((Below.refl wr.heap.size wr).alloc (Nat.le_refl _) (.cells #[.bool false, .int .i64 sn] 50))).skip hl hnn)
        clear hl hnn
        go_wp2
        exact ⟨⟨k + 1, _, _, by go_num, HK.out, N1.out⟩, by simp [intOf]; have := HK.out; omega⟩
      | true =>
        have hfl := firstV_le HS.out rfl
        simp only at hfl
        go_wp2_with fail
        refine (CI.out _ ((Below.refl wr.heap.size wr).alloc (Nat.le_refl _) _) (by have := HK.out; omega)).mono ?_
        rintro e w3 ⟨rfl, hb3⟩
        have HX3 := HX.out.step (((Below.refl wr.heap.size wr).alloc (Nat.le_refl _) (.cells #[.bool true, .int .i64 sn] 50)).trans (hb3.mono (by simp)))
        have z0 := box_cell (hb3.mono (show wr.heap.size + 1 ≤ _ by simp)) 0 _ rfl
        have z1 := box_cell (hb3.mono (show wr.heap.size + 1 ≤ _ by simp)) 1 _ rfl
        have q3 : w3.cell? ⟨w2.heap.size, 3, none⟩ = some (.slice la (linksK p.args wd k).length lc) := cell_of_row _ _ 3 _ _ _ HX3.blk
        have q4 : w3.cell? ⟨w2.heap.size, 4, none⟩ = some (.slice na (newK p.args wd k).length nc) := cell_of_row _ _ 4 _ _ _ HX3.blk
        have hw3 := HX3.lt
        have hw4 : wr.heap.size < w3.heap.size := by have := hb3.size; simp at this; omega
        have HX3' := Lib.hid HX3
        have hbase2 : w2.heap.size + 1 ≤ w3.heap.size := by omega
        clear hb3 HX3 d0 d1 hfl
        by_cases hf : firstV p.args sn = k
        · have hf2 : (((firstV p.args sn : Nat) : Int) != (k : Int)) = false := by simp; omega
          by_cases hlt : sn < (wd : Int)
          · have hl : linkAt p.args (wd : Int) k = [((k : Int), sn)] := by unfold linkAt; rw [HS.out]; simp [hf, hlt]
            have hnn : newAt p.args (wd : Int) k = [] := by unfold newAt; rw [HS.out]; simp [hlt]
            have HL := Lib.hid (And.intro hl hnn)
            have OKL := Lib.hid (And.intro (okNat (k := k) (by omega)) sok)
            clear hl hnn hf
            go_wp2_with (at_builtin; refine wpList_append_F HX3'.out.lo (fun _ _ h => h) rfl (.tmp 57) (.tmp 62) 48 rfl Try.underlying48 infoLnk rfl (by decide) rfl #[.int .i64 k, .int .i64 sn] _ rfl rfl (x := ((k : Int), sn)) ⟨rfl, OKL.out⟩ (by omega) (by decide) hbase2 ?_; intro g' cap w4 ho ht hat hlt4; obtain ⟨t1, t2, t3, t4⟩ := HX3'.out.at2 (.inl rfl) ht; have N1 := Lib.hid (HX3'.out.putL ht (ho _ (fun _ _ h => h)) HL.out.1 HL.out.2); clear ho ht hat hlt4)
            exact ⟨⟨k + 1, _, _, by go_num, HK.out, N1.out⟩, by simp [intOf]; have := HK.out; omega⟩
          · have hl : linkAt p.args (wd : Int) k = [] := by unfold linkAt; rw [HS.out]; simp [hlt]
            have hnn : newAt p.args (wd : Int) k = [(k : Int)] := by unfold newAt; rw [HS.out]; simp [hf]; omega
            have HL := Lib.hid (And.intro hl hnn)
            have OKL := Lib.hid (okNat (k := k) (by omega))
            clear hl hnn hf
            go_wp2_with (at_builtin; refine wpList_append_F HX3'.out.no (fun _ _ h => h) rfl (.tmp 66) (.tmp 68) 25 rfl Try.underlying25 infoIntR rfl (by decide) rfl #[.int .i64 k] _ rfl rfl (x := (k : Int)) ⟨rfl, OKL.out⟩ (by omega) (by decide) hbase2 ?_; intro g' cap w4 ho ht hat hlt4; obtain ⟨t1, t2, t3, t4⟩ := HX3'.out.at2 (.inr rfl) ht; have N1 := Lib.hid (HX3'.out.putN ht (ho _ (fun _ _ h => h)) HL.out.1 HL.out.2); clear ho ht hat hlt4)
            exact ⟨⟨k + 1, _, _, by go_num, HK.out, N1.out⟩, by simp [intOf]; have := HK.out; omega⟩
        · have hf2 : (((firstV p.args sn : Nat) : Int) != (k : Int)) = true := by simp; omega
          have hl : linkAt p.args (wd : Int) k = [] := by unfold linkAt; rw [HS.out]; simp [hf]
          have hnn : newAt p.args (wd : Int) k = [] := by unfold newAt; rw [HS.out]; simp [hf]
          have N1 := Lib.hid (HX3'.out.skip hl hnn)
          clear hl hnn hf
          go_wp2
          exact ⟨⟨k + 1, _, _, by go_num, HK.out, N1.out⟩, by simp [intOf]; have := HK.out; omega⟩
    · obtain rfl : k = p.args.length := by omega
      have q0 := cell_of_row _ _ 0 _ _ _ hP.blk
      have q1 := cell_of_row _ _ 1 _ _ _ hP.blk
      have q2 := cell_of_row _ _ 2 _ _ _ hP.blk
      have q3 := cell_of_row _ _ 3 _ _ _ hP.blk
      have q4 := cell_of_row _ _ 4 _ _ _ hP.blk
      have q5 := cell_of_row _ _ 5 _ _ _ hP.blk
      have q6 := cell_of_row _ _ 6 _ _ _ hP.blk
      have q7 := cell_of_row _ _ 7 _ _ _ hP.blk
      have q8 := cell_of_row _ _ 8 _ _ _ hP.blk
      have q9 := cell_of_row _ _ 9 _ _ _ hP.blk
      have q10 := cell_of_row _ _ 10 _ _ _ hP.blk
      simp only [List.getElem?_toArray, List.getElem?_cons_zero, List.getElem?_cons_succ] at q0 q1 q2 q3 q4 q5 q6 q7 q8 q9 q10
      have fz : ∀ o, wr.frozen? ⟨w2.heap.size, o, none⟩ = false := fun o => by have := hP.blk; simp [World.frozen?, this]
      obtain ⟨L, hLd⟩ : ∃ L, linksK p.args (wd : Int) p.args.length = L := ⟨_, rfl⟩
      obtain ⟨M, hMd⟩ : ∃ M, newK p.args (wd : Int) p.args.length = M := ⟨_, rfl⟩
      have hno : nodeOf st kd u p = ⟨kd, u, ai, L, M, noTst, (wd : Int) + M.length⟩ := by
        unfold nodeOf
        rw [HWD.out, HAI.out, hLd, hMd]
      have hLok : ∀ l ∈ L, i64ok l.1 ∧ i64ok l.2 := fun l hl => by
        rw [← hLd] at hl
        obtain ⟨i, s, hi, hs, rfl⟩ := linksK_mem hl
        obtain ⟨_, _, _, _, _, cs', ⟨_, ok'⟩, _⟩ := HP2.out.at hs
        exact ⟨okNat (by omega), ok'⟩
      have hMok : ∀ x ∈ M, i64ok x := fun x hx => by
        rw [← hMd] at hx
        obtain ⟨i, hi, rfl⟩ := newK_mem hx
        exact okNat (by omega)
      have bW : Below w2.heap.size w2 (wr.setCell ⟨w2.heap.size, 10, none⟩ (.int .i64 ((wd : Int) + M.length))) := hP.below.setCell (Nat.le_refl _) _
      have hM3 := HM2.out.step bW
      have ft := HM2.out.foot
      have K : Kp (fun b => w2.heap.size < b) wr (wr.setCell ⟨w2.heap.size, 10, none⟩ (.int .i64 ((wd : Int) + M.length))) := ⟨by simp, fun b _ hb => Below.heap_setCell _ _ _ _ (by simp; omega)⟩
      have hoff : ∀ b, b < wr.heap.size → w2.heap.size < b → Off base S2 b := fun b _ hb => ⟨by omega, fun hm => by have := (ft.2 b hm).2; omega⟩
      have rl := (hP.lo.rsl (G := fun b => w2.heap.size < b) (fun b hb => by have := (hP.lo.block hb).1; omega)).kp K hoff (fun _ _ h => h)
      have rn := (hP.no.rsl (G := fun b => w2.heap.size < b) (fun b hb => by have := (hP.no.block hb).1; omega)).kp K hoff (fun _ _ h => h)
      rw [hLd] at rl ll q3
      rw [hMd] at rn nl q4
      have k1 : i64ok kd := hkd
      have k2 : i64ok ((wd : Int) + (M.length : Int)) := WalkArith.wf_i64 (by omega)
      have k3 : ai ≤ st.al.length := by
        have h1 := HAI.out
        rw [← h1]
        by_cases hm : shapeF p ∈ st.al
        · exact Nat.le_of_lt (placeF_lt hm).1
        · rw [placeF_none hm]; exact Nat.le_refl _
      have hN : NdOk ⟨kd, u, ai, L, M, noTst, (wd : Int) + M.length⟩ := ⟨⟨k1, okNat (by omega), okNat (by omega), k2, ok0, ok0, ok0⟩, hLok, hMok, by simp only; omega, by simp only; omega⟩
      have EN : ENd (Off base S2) (wr.setCell ⟨w2.heap.size, 10, none⟩ (.int .i64 ((wd : Int) + M.length))) [.int .i64 kd, .int .i64 u, .int .i64 ai, .slice la L.length lc, .slice na M.length nc, .int .i64 0, .bool false, .int .i64 0, .bool false, .int .i64 0, .int .i64 ((wd : Int) + M.length)] ⟨kd, u, ai, L, M, noTst, (wd : Int) + M.length⟩ (.slice la L.length lc) (.slice na M.length nc) :=
        ⟨rfl, hN.ints, rl, rn⟩
      have CN := Lib.hid (rnodeW hM3 ⟨kd, u, ai, L, M, noTst, (wd : Int) + M.length⟩ EN (by simp only; omega))
      have HNO := Lib.hid hno
      have BW := Lib.hid bW
      clear k1 k2 k3 hno hLok hMok bW hM3 K hoff rl rn hN EN hP hLd hMd
      go_wp2_with fail
      refine CN.out.mono ?_
      rintro e w5 ⟨rfl, hT⟩
      go_wp2
      go_ret
      refine ⟨ret_i64 (by simp only [patF]; rw [HNO.out]), ?_⟩
      have := RMkrTo.after ((HT2.out.trans (Turns.of_below (S := []) BW.out) (by simp))) HS2.out hT
      simp only [patF]
      rw [HNO.out]
      exact this
end Go.Proofs.Ytonkbjdeaneicaa
