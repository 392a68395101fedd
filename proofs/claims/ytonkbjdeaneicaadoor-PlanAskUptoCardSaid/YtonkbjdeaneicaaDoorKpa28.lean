/- The reference's Maker: atom. The reference's rule that is being read back, in its block. -/
import Derived.Test.YtonkbjdeaneicaaDoorKpa19
import Derived.Test.YtonkbjdeaneicaaDoorKpa27
namespace Go.Proofs.YtonkbjdeaneicaaDoor
open Go.RowKit Pln Classical Go.Maps

/-- The node on its way, behind k places. -/
structure RPt (wo wr : World) (kd u al : Int) (args : List Slt) (w : Int) (lv nv : Value) (k : Nat) : Prop where
  blk : wr.heap[wo.heap.size]? = some (.cells #[.int .i64 kd, .int .i64 u, .int .i64 al, lv, nv, .int .i64 0, .bool false, .int .i64 0, .bool false, .int .i64 0, .int .i64 w] 40 (0, 0))
  lo : OwnF (fun _ => False) (wo.heap.size + 1) wr 56 cdLnk lv (linksK args w k)
  no : OwnF (fun _ => False) (wo.heap.size + 1) wr 3 cdInt nv (newK args w k)
  below : Below wo.heap.size wo wr
section
variable {wo wr wr' w2 : World} {kd u al : Int} {args : List Slt} {w : Int} {lv nv : Value} {k : Nat}
theorem RPt.lt (h : RPt wo wr kd u al args w lv nv k) : wo.heap.size < wr.heap.size := lt_of_heap h.blk
theorem RPt.step (h : RPt wo wr kd u al args w lv nv k) (hb : Below wr.heap.size wr wr') : RPt wo wr' kd u al args w lv nv k :=
  ⟨(hb.block _ h.lt).trans h.blk, h.lo.below hb, h.no.below hb, h.below.trans (hb.mono h.below.size)⟩
theorem RPt.apart (h : RPt wo wr kd u al args w lv nv k) {b : Nat} (h1 : lv.ownBlock = some b) (h2 : nv.ownBlock = some b) : False := by
  obtain ⟨_, _, c1, e1⟩ := h.lo.block h1
  obtain ⟨_, _, c2, e2⟩ := h.no.block h2
  rw [e1] at e2
  simp at e2
theorem RPt.putL (h : RPt wo wr kd u al args w lv nv k) {lv' : Value} {x : Int × Int} (ht : Turns lv.ownBlock.toList wr w2) (ho : OwnF (fun _ => False) (wo.heap.size + 1) w2 56 cdLnk lv' (linksK args w k ++ [x])) (hl : linkAt args w k = [x]) (hn : newAt args w k = []) :
    RPt wo (w2.setCell ⟨wo.heap.size, 3, none⟩ lv') kd u al args w lv' nv (k + 1) := by
  have hn0 : wo.heap.size ∉ lv.ownBlock.toList := fun hm => by have := (h.lo.block (by simpa using hm)).1; omega
  refine ⟨heap_setCell_same _ _ 3 _ _ _ ((ht.block _ h.lt hn0).trans h.blk), ?_, ?_, ?_⟩
  · rw [linksK_succ, hl]
    exact ho.keep (S := [wo.heap.size]) ((Turns.refl _ _).setCell (.inl (by simp)) _) (fun b hb => by have := (ho.block hb).1; simp; omega) (by simp) (fun _ _ h => h)
  · rw [newK_succ, hn, List.append_nil]
    exact (h.no.keep ht (fun b hb hm => h.apart (by simpa using hm) hb) (by simp) (fun _ _ h => h)).keep (S := [wo.heap.size]) ((Turns.refl _ _).setCell (.inl (by simp)) _) (fun b hb => by have := (h.no.block hb).1; simp; omega) (by simp) (fun _ _ h => h)
  · exact (h.below.trans (ht.below h.below.size (fun x hx => by have := (h.lo.block (by simpa using hx)).1; omega))).setCell (Nat.le_refl _) _
theorem RPt.putN (h : RPt wo wr kd u al args w lv nv k) {nv' : Value} {x : Int} (ht : Turns nv.ownBlock.toList wr w2) (ho : OwnF (fun _ => False) (wo.heap.size + 1) w2 3 cdInt nv' (newK args w k ++ [x])) (hl : linkAt args w k = []) (hn : newAt args w k = [x]) :
    RPt wo (w2.setCell ⟨wo.heap.size, 4, none⟩ nv') kd u al args w lv nv' (k + 1) := by
  have hn0 : wo.heap.size ∉ nv.ownBlock.toList := fun hm => by have := (h.no.block (by simpa using hm)).1; omega
  refine ⟨heap_setCell_same _ _ 4 _ _ _ ((ht.block _ h.lt hn0).trans h.blk), ?_, ?_, ?_⟩
  · rw [linksK_succ, hl, List.append_nil]
    exact (h.lo.keep ht (fun b hb hm => h.apart hb (by simpa using hm)) (by simp) (fun _ _ h => h)).keep (S := [wo.heap.size]) ((Turns.refl _ _).setCell (.inl (by simp)) _) (fun b hb => by have := (h.lo.block hb).1; simp; omega) (by simp) (fun _ _ h => h)
  · rw [newK_succ, hn]
    exact ho.keep (S := [wo.heap.size]) ((Turns.refl _ _).setCell (.inl (by simp)) _) (fun b hb => by have := (ho.block hb).1; simp; omega) (by simp) (fun _ _ h => h)
  · exact (h.below.trans (ht.below h.below.size (fun x hx => by have := (h.no.block (by simpa using hx)).1; omega))).setCell (Nat.le_refl _) _
theorem RPt.skip (h : RPt wo wr kd u al args w lv nv k) (hl : linkAt args w k = []) (hn : newAt args w k = []) : RPt wo wr kd u al args w lv nv (k + 1) :=
  ⟨h.blk, by rw [linksK_succ, hl, List.append_nil]; exact h.lo, by rw [newK_succ, hn, List.append_nil]; exact h.no, h.below⟩
/-- The node's own block, where a list of its own has turned. -/
theorem RPt.at2 (h : RPt wo wr kd u al args w lv nv k) {v : Value} (hv : v = lv ∨ v = nv) (ht : Turns v.ownBlock.toList wr w2) : w2.cell? ⟨wo.heap.size, 3, none⟩ = some lv ∧ w2.cell? ⟨wo.heap.size, 4, none⟩ = some nv ∧ (∀ o, w2.frozen? ⟨wo.heap.size, o, none⟩ = false) ∧ wo.heap.size < w2.heap.size := by
  have hn0 : wo.heap.size ∉ v.ownBlock.toList := fun hm => by
    rcases hv with rfl | rfl
    · have := (h.lo.block (by simpa using hm)).1; omega
    · have := (h.no.block (by simpa using hm)).1; omega
  have e := (ht.block _ h.lt hn0).trans h.blk
  exact ⟨cell_of_row _ _ 3 _ _ _ e, cell_of_row _ _ 4 _ _ _ e, fun o => by simp [World.frozen?, e], lt_of_heap e⟩
end
theorem RMkr.step {base g : Nat} {W W' : World} {S : List Nat} {st : St} {es : List Nat} (h : RMkr base g W S st es) (hb : Below W.heap.size W W') : RMkr base g W' S st es := by
  obtain ⟨av, nv, ev, rfl, hM⟩ := h
  exact ⟨av, nv, ev, rfl, hM.step hb⟩
theorem RMkr.foot {base g : Nat} {W : World} {S : List Nat} {st : St} {es : List Nat} (h : RMkr base g W S st es) : base ≤ W.heap.size ∧ ∀ x ∈ S, base ≤ x ∧ x < W.heap.size := by
  obtain ⟨av, nv, ev, rfl, hM⟩ := h
  exact ⟨by have := hM.foot_lt g rfoot_g; omega, hM.foot_lt⟩
theorem RMkrTo.after {base g : Nat} {W W1 W2 : World} {S S1 : List Nat} {st : St} {es : List Nat} (ht : Turns S W W1) (hs : ∀ b ∈ S1, b ∈ S ∨ W.heap.size ≤ b) (h : RMkrTo base g W1 S1 st es W2) : RMkrTo base g W S st es W2 := by
  obtain ⟨S2, h1, h2, h3⟩ := h
  refine ⟨S2, h1, ht.trans h2 hs, fun b hb => ?_⟩
  rcases h3 b hb with h4 | h4
  · exact hs b h4
  · exact .inr (Nat.le_trans ht.size h4)

set_option maxRecDepth 200000 in
set_option maxHeartbeats 8000000 in
theorem ratomW {base g : Nat} {W : World} {S : List Nat} {st : St} {es : List Nat} (h : RMkr base g W S st es) (kd : Int) (hkd : i64ok kd) (u : Nat) (hu : u < st.ns.length) (wd : Nat) (hwd : widthAt st u = wd) (hwd2 : wd ≤ 1000)
    {F : Nat → Prop} (hFb : ∀ b, F b → b < base) (p : Pat) (v : Value) (hp : RSl F W 2 ESlt v p.args) (pok : i64ok p.pred) (h8 : p.args.length ≤ 8) (hal : st.al.length ≤ 20000000) (hns : st.ns.length ≤ 20000000) :
    Calls Tryd.prog 77 #[.pointer (some ⟨g, 0, none⟩), .int .i64 u, .int .i64 kd, .agg #[.int .i64 p.pred, v]] W fun e W' => e = .returned (.int .i64 (patF kd (u, st) p).1) ∧ RMkrTo base g W S (patF kd (u, st) p).2 es W' := by
  obtain ⟨A, c, rfl⟩ := hp.form
  obtain ⟨av, nv, ev, rfl, hM⟩ := h
  obtain ⟨A0, C0, rfl⟩ := hM.ns.form
  obtain ⟨nd, hnd⟩ : ∃ nd, st.ns[u]? = some nd := ⟨_, List.getElem?_eq_getElem hu⟩
  have hw : nd.width = (wd : Int) := by unfold widthAt at hwd; rw [hnd] at hwd; exact hwd
  obtain ⟨b, off, hA0, hFb0, hbs, cs, ⟨ln0, nn0, hE⟩, hc⟩ := (hM.ns.rsl (G := fun b => b < W.heap.size) (fun b hb => (hM.ns.block hb).2.1)).at hnd
  subst hA0
  have hcs := hE.cells
  subst hcs
  have c10 : W.cell? ⟨b, off + u * 11 + 10, none⟩ = some (.int .i64 wd) := by rw [← hw]; exact hc 10 _ rfl
  have x1 := hM.cell 1 rfl
  have hgl := hM.lt
  have e1 : (0 : Int) ≤ (u : Int) := by omega
  have e2 : (u : Int) < (st.ns.length : Int) := by omega
  have CM := Lib.hid (fun W' (hb : Below W.heap.size W W') => ralphaW (S := rfoot g av (.slice (some ⟨b, off, none⟩) st.ns.length C0) ev) ⟨av, _, ev, rfl, hM.step hb⟩ p _ (hp.keep (Kp.of_below hb)) pok (by omega) (by omega))
  have HM := Lib.hid hM
  have HP := Lib.hid hp
  have HWD := Lib.hid hwd
  have HND := Lib.hid hnd
  clear hM hp hc hE hnd hwd hw
  go_enter Tryd.func77, Tryd.ntmps77
  go_wp2_with fail
  refine (CM.out _ ((Below.refl _ _).alloc (Nat.le_refl _) _)).mono ?_
  rintro e w2 ⟨rfl, S2, hM2, hT2, hS2⟩
  obtain ⟨ai, hai⟩ : ∃ ai, placeF st.al (shapeF p) = ai := ⟨_, rfl⟩
  have HAI := Lib.hid hai
  rw [hai]
  have fl := HM.out.foot_lt
  have hW2 : W.heap.size < w2.heap.size := by have := hT2.size; simp at this; omega
  have eb : w2.heap[W.heap.size]? = some (.cells #[.int .i64 p.pred, .slice A p.args.length c] 80 (0, 0)) := (hT2.block _ (by simp) (fun hm => by have := (fl _ hm).2; omega)).trans (heap_alloc_new W _)
  have EB := Lib.hid eb
  have xp0 : w2.cell? ⟨W.heap.size, 0, none⟩ = some (.int .i64 p.pred) := cell_of_row _ _ 0 _ _ _ eb
  have xp1 : w2.cell? ⟨W.heap.size, 1, none⟩ = some (.slice A p.args.length c) := cell_of_row _ _ 1 _ _ _ eb
  have KF : Kp F W w2 := (Kp.of_below ((Below.refl W.heap.size W).alloc (Nat.le_refl _) (.cells #[.int .i64 p.pred, .slice A p.args.length c] 80))).trans (Kp.of_turns hT2 (fun x hx hf => by have h1 := (fl x hx).1; have h2 := hFb x hf; omega))
  have HP2 := Lib.hid (HP.out.keep KF)
  have HM2 := Lib.hid hM2
  have HT2 := Lib.hid (((Turns.refl (rfoot g av (.slice (some ⟨b, off, none⟩) st.ns.length C0) ev) W).alloc (.cells #[.int .i64 p.pred, .slice A p.args.length c] 80)).trans hT2 (fun x hx => .inl hx))
  have HS2 := Lib.hid (show ∀ b' ∈ S2, b' ∈ rfoot g av (.slice (some ⟨b, off, none⟩) st.ns.length C0) ev ∨ W.heap.size ≤ b' from fun b' hb' => by
    rcases hS2 b' hb' with h1 | h1
    · exact .inl h1
    · exact .inr (by simp at h1; omega))
  have h80 : RPt w2 (w2.alloc (.cells #[.int .i64 kd, .int .i64 u, .int .i64 ai, .slice none 0 0, .slice none 0 0, .int .i64 0, .bool false, .int .i64 0, .bool false, .int .i64 0, .int .i64 wd] 40)) kd u ai p.args wd (.slice none 0 0) (.slice none 0 0) 0 :=
    ⟨heap_alloc_new w2 _, OwnF.nil, OwnF.nil, (Below.refl _ _).alloc (Nat.le_refl _) _⟩
  have H80 := Lib.hid h80
  clear hM2 hT2 hS2 KF eb fl hai h80 x1 c10
  go_wp2_with fail
  go_loopw [11] (fun i wr => ∃ (k : Nat) (lv nv : Value), i = .int .i64 k ∧ k ≤ p.args.length ∧ RPt w2 wr kd u ai p.args wd lv nv k) (fun i _ => p.args.length - (intOf i).toNat)
  case atStart => exact ⟨0, _, _, rfl, Nat.zero_le _, H80.out⟩
  case round =>
    obtain ⟨k, lv, nv, rfl, hk, hP⟩ := hrel
    obtain ⟨la, lc, rfl⟩ := hP.lo.form
    obtain ⟨na, nc, rfl⟩ := hP.no.form
    have ll := linksK_len p.args (wd : Int) k
    have nl := newK_len p.args (wd : Int) k
    have hwz := hP.lt
    have yp0 : wr.cell? ⟨W.heap.size, 0, none⟩ = some (.int .i64 p.pred) := (hP.below.cell (p := ⟨W.heap.size, 0, none⟩) hW2).trans xp0
    have yp1 : wr.cell? ⟨W.heap.size, 1, none⟩ = some (.slice A p.args.length c) := (hP.below.cell (p := ⟨W.heap.size, 1, none⟩) hW2).trans xp1
    have hWr : W.heap.size < wr.heap.size := by omega
    by_cases hkn : k < p.args.length
    · obtain ⟨s, hs⟩ : ∃ s, p.args[k]? = some s := ⟨_, List.getElem?_eq_getElem hkn⟩
      obtain ⟨b2, off2, rfl, hFb2, hbs2, cs2, ⟨rfl, sok⟩, hc2⟩ := (HP2.out.keep (Kp.of_below hP.below)).at hs
      have d0 := hc2 0 _ rfl
      have d1 := hc2 1 _ rfl
      simp only [Nat.add_zero] at d0
      obtain ⟨sv, sn⟩ := s
      simp only at d0 d1 sok
      have f1 : (0 : Int) ≤ (k : Int) := by omega
      have f2 : (k : Int) < (p.args.length : Int) := by omega
      have CI := Lib.hid (fun W' (hb : Below wr.heap.size wr W') (hl : firstV p.args sn < p.args.length) => rfirstW p (.slice (some ⟨b2, off2, none⟩) p.args.length c) sn W' ((HP2.out.keep (Kp.of_below hP.below)).keep (Kp.of_below hb)) hl)
      have HX := Lib.hid hP
      have HS := Lib.hid hs
      have HK := Lib.hid hkn
      clear hc2 hs hkn hP
      cases sv with
      | false =>
        have hl : linkAt p.args (wd : Int) k = [] := by unfold linkAt; rw [HS.out]; simp
        have hnn : newAt p.args (wd : Int) k = [] := by unfold newAt; rw [HS.out]; simp
        have N1 := Lib.hid ((HX.out.step ((Below.refl wr.heap.size wr).alloc (Nat.le_refl _) (.cells #[.bool false, .int .i64 sn] 36))).skip hl hnn)
        clear hl hnn
        go_wp2
        exact ⟨⟨k + 1, _, _, by go_num, HK.out, N1.out⟩, by simp [intOf]; have := HK.out; omega⟩
      | true =>
        have hfl := firstV_le HS.out rfl
        simp only at hfl
        go_wp2_with fail
        refine (CI.out _ ((Below.refl wr.heap.size wr).alloc (Nat.le_refl _) _) (by have := HK.out; omega)).mono ?_
        rintro e w3 ⟨rfl, hb3⟩
        have HX3 := HX.out.step (((Below.refl wr.heap.size wr).alloc (Nat.le_refl _) (.cells #[.bool true, .int .i64 sn] 36)).trans (hb3.mono (by simp)))
        have z0 := box_cell (hb3.mono (show wr.heap.size + 1 ≤ _ by simp)) 0 _ rfl
        have z1 := box_cell (hb3.mono (show wr.heap.size + 1 ≤ _ by simp)) 1 _ rfl
        have q3 : w3.cell? ⟨w2.heap.size, 3, none⟩ = some (.slice la (linksK p.args wd k).length lc) := cell_of_row _ _ 3 _ _ _ HX3.blk
        have q4 : w3.cell? ⟨w2.heap.size, 4, none⟩ = some (.slice na (newK p.args wd k).length nc) := cell_of_row _ _ 4 _ _ _ HX3.blk
        have hw3 := HX3.lt
        have hw4 : wr.heap.size < w3.heap.size := by have := hb3.size; simp at this; omega
        have HX3' := Lib.hid HX3
        have hbase2 : w2.heap.size + 1 ≤ w3.heap.size := by omega
        clear hb3 HX3 d0 d1 hfl
        by_cases hf : firstV p.args sn = k
        · have hf2 : (((firstV p.args sn : Nat) : Int) != (k : Int)) = false := by simp; omega
          by_cases hlt : sn < (wd : Int)
          · have hl : linkAt p.args (wd : Int) k = [((k : Int), sn)] := by unfold linkAt; rw [HS.out]; simp [hf, hlt]
            have hnn : newAt p.args (wd : Int) k = [] := by unfold newAt; rw [HS.out]; simp [hlt]
            have HL := Lib.hid (And.intro hl hnn)
            have OKL := Lib.hid (And.intro (okNat (k := k) (by omega)) sok)
            clear hl hnn hf
            go_wp2_with (at_builtin; refine wpList_append_F HX3'.out.lo (fun _ _ h => h) rfl (.tmp 57) (.tmp 62) 34 rfl Tryd.underlying34 infoLnk rfl (by decide) rfl #[.int .i64 k, .int .i64 sn] _ rfl rfl (x := ((k : Int), sn)) ⟨rfl, OKL.out⟩ (by omega) (by decide) hbase2 ?_; intro g' cap w4 ho ht hat hlt4; obtain ⟨t1, t2, t3, t4⟩ := HX3'.out.at2 (.inl rfl) ht; have N1 := Lib.hid (HX3'.out.putL ht (ho _ (fun _ _ h => h)) HL.out.1 HL.out.2); clear ho ht hat hlt4)
            exact ⟨⟨k + 1, _, _, by go_num, HK.out, N1.out⟩, by simp [intOf]; have := HK.out; omega⟩
          · have hl : linkAt p.args (wd : Int) k = [] := by unfold linkAt; rw [HS.out]; simp [hlt]
            have hnn : newAt p.args (wd : Int) k = [(k : Int)] := by unfold newAt; rw [HS.out]; simp [hf]; omega
            have HL := Lib.hid (And.intro hl hnn)
            have OKL := Lib.hid (okNat (k := k) (by omega))
            clear hl hnn hf
            go_wp2_with (at_builtin; refine wpList_append_F HX3'.out.no (fun _ _ h => h) rfl (.tmp 66) (.tmp 68) 24 rfl Tryd.underlying24 infoIntR rfl (by decide) rfl #[.int .i64 k] _ rfl rfl (x := (k : Int)) ⟨rfl, OKL.out⟩ (by omega) (by decide) hbase2 ?_; intro g' cap w4 ho ht hat hlt4; obtain ⟨t1, t2, t3, t4⟩ := HX3'.out.at2 (.inr rfl) ht; have N1 := Lib.hid (HX3'.out.putN ht (ho _ (fun _ _ h => h)) HL.out.1 HL.out.2); clear ho ht hat hlt4)
            exact ⟨⟨k + 1, _, _, by go_num, HK.out, N1.out⟩, by simp [intOf]; have := HK.out; omega⟩
        · have hf2 : (((firstV p.args sn : Nat) : Int) != (k : Int)) = true := by simp; omega
          have hl : linkAt p.args (wd : Int) k = [] := by unfold linkAt; rw [HS.out]; simp [hf]
          have hnn : newAt p.args (wd : Int) k = [] := by unfold newAt; rw [HS.out]; simp [hf]
          have N1 := Lib.hid (HX3'.out.skip hl hnn)
          clear hl hnn hf
          go_wp2
          exact ⟨⟨k + 1, _, _, by go_num, HK.out, N1.out⟩, by simp [intOf]; have := HK.out; omega⟩
    · obtain rfl : k = p.args.length := by omega
      have q0 := cell_of_row _ _ 0 _ _ _ hP.blk
      have q1 := cell_of_row _ _ 1 _ _ _ hP.blk
      have q2 := cell_of_row _ _ 2 _ _ _ hP.blk
      have q3 := cell_of_row _ _ 3 _ _ _ hP.blk
      have q4 := cell_of_row _ _ 4 _ _ _ hP.blk
      have q5 := cell_of_row _ _ 5 _ _ _ hP.blk
      have q6 := cell_of_row _ _ 6 _ _ _ hP.blk
      have q7 := cell_of_row _ _ 7 _ _ _ hP.blk
      have q8 := cell_of_row _ _ 8 _ _ _ hP.blk
      have q9 := cell_of_row _ _ 9 _ _ _ hP.blk
      have q10 := cell_of_row _ _ 10 _ _ _ hP.blk
      simp only [List.getElem?_toArray, List.getElem?_cons_zero, List.getElem?_cons_succ] at q0 q1 q2 q3 q4 q5 q6 q7 q8 q9 q10
      have fz : ∀ o, wr.frozen? ⟨w2.heap.size, o, none⟩ = false := fun o => by have := hP.blk; simp [World.frozen?, this]
      obtain ⟨L, hLd⟩ : ∃ L, linksK p.args (wd : Int) p.args.length = L := ⟨_, rfl⟩
      obtain ⟨M, hMd⟩ : ∃ M, newK p.args (wd : Int) p.args.length = M := ⟨_, rfl⟩
      have hno : nodeOf st kd u p = ⟨kd, u, ai, L, M, noTst, (wd : Int) + M.length⟩ := by
        unfold nodeOf
        rw [HWD.out, HAI.out, hLd, hMd]
      have hLok : ∀ l ∈ L, i64ok l.1 ∧ i64ok l.2 := fun l hl => by
        rw [← hLd] at hl
        obtain ⟨i, s, hi, hs, rfl⟩ := linksK_mem hl
        obtain ⟨_, _, _, _, _, cs', ⟨_, ok'⟩, _⟩ := HP2.out.at hs
        exact ⟨okNat (by omega), ok'⟩
      have hMok : ∀ x ∈ M, i64ok x := fun x hx => by
        rw [← hMd] at hx
        obtain ⟨i, hi, rfl⟩ := newK_mem hx
        exact okNat (by omega)
      have bW : Below w2.heap.size w2 (wr.setCell ⟨w2.heap.size, 10, none⟩ (.int .i64 ((wd : Int) + M.length))) := hP.below.setCell (Nat.le_refl _) _
      have hM3 := HM2.out.step bW
      have ft := HM2.out.foot
      have K : Kp (fun b => w2.heap.size < b) wr (wr.setCell ⟨w2.heap.size, 10, none⟩ (.int .i64 ((wd : Int) + M.length))) := ⟨by simp, fun b _ hb => Below.heap_setCell _ _ _ _ (by simp; omega)⟩
      have hoff : ∀ b, b < wr.heap.size → w2.heap.size < b → Off base S2 b := fun b _ hb => ⟨by omega, fun hm => by have := (ft.2 b hm).2; omega⟩
      have rl := (hP.lo.rsl (G := fun b => w2.heap.size < b) (fun b hb => by have := (hP.lo.block hb).1; omega)).kp K hoff (fun _ _ h => h)
      have rn := (hP.no.rsl (G := fun b => w2.heap.size < b) (fun b hb => by have := (hP.no.block hb).1; omega)).kp K hoff (fun _ _ h => h)
      rw [hLd] at rl ll q3
      rw [hMd] at rn nl q4
      have k1 : i64ok kd := hkd
      have k2 : i64ok ((wd : Int) + (M.length : Int)) := WalkArith.wf_i64 (by omega)
      have k3 : ai ≤ st.al.length := by
        have h1 := HAI.out
        rw [← h1]
        by_cases hm : shapeF p ∈ st.al
        · exact Nat.le_of_lt (placeF_lt hm).1
        · rw [placeF_none hm]; exact Nat.le_refl _
      have hN : NdOk ⟨kd, u, ai, L, M, noTst, (wd : Int) + M.length⟩ := ⟨⟨k1, okNat (by omega), okNat (by omega), k2, ok0, ok0, ok0⟩, hLok, hMok, by simp only; omega, by simp only; omega⟩
      have EN : ENd (Off base S2) (wr.setCell ⟨w2.heap.size, 10, none⟩ (.int .i64 ((wd : Int) + M.length))) [.int .i64 kd, .int .i64 u, .int .i64 ai, .slice la L.length lc, .slice na M.length nc, .int .i64 0, .bool false, .int .i64 0, .bool false, .int .i64 0, .int .i64 ((wd : Int) + M.length)] ⟨kd, u, ai, L, M, noTst, (wd : Int) + M.length⟩ (.slice la L.length lc) (.slice na M.length nc) :=
        ⟨rfl, hN.ints, rl, rn⟩
      have CN := Lib.hid (rnodeW hM3 ⟨kd, u, ai, L, M, noTst, (wd : Int) + M.length⟩ EN (by simp only; omega))
      have HNO := Lib.hid hno
      have BW := Lib.hid bW
      clear k1 k2 k3 hno hLok hMok bW hM3 K hoff rl rn hN EN hP hLd hMd
      go_wp2_with fail
      refine CN.out.mono ?_
      rintro e w5 ⟨rfl, hT⟩
      go_wp2
      go_ret
      refine ⟨ret_i64 (by simp only [patF]; rw [HNO.out]), ?_⟩
      have := RMkrTo.after ((HT2.out.trans (Turns.of_below (S := []) BW.out) (by simp))) HS2.out hT
      simp only [patF]
      rw [HNO.out]
      exact this
end Go.Proofs.YtonkbjdeaneicaaDoor

namespace Go.Proofs.YtonkbjdeaneicaaDoor
open Go.RowKit Pln Classical Go.Maps

def ufoot (g : Nat) (pv tv nv : Value) : List Nat := g :: (pv.ownBlock.toList ++ (tv.ownBlock.toList ++ nv.ownBlock.toList))
structure RuAt (base g : Nat) (W : World) (pv tv nv : Value) (pos : List Pat) (tests : List Tst) (neg : List Pat) : Prop where
  blk : W.heap[g]? = some (.cells #[.int .i64 0, .slice none 0 0, pv, tv, nv, .slice none 0 0, .int .i64 0] 85 (0, 0))
  po : OwnF (Off base (ufoot g pv tv nv)) base W 80 cdPat pv pos
  te : OwnF (Off base (ufoot g pv tv nv)) base W 38 cdTst tv tests
  ne : OwnF (Off base (ufoot g pv tv nv)) base W 80 cdPat nv neg
  gb : base ≤ g
  ap : ∀ b, pv.ownBlock = some b → nv.ownBlock ≠ some b
section
variable {base g : Nat} {W W' : World} {pv tv nv : Value} {pos : List Pat} {tests : List Tst} {neg : List Pat}
theorem ufoot_g : g ∈ ufoot g pv tv nv := by simp [ufoot]
theorem RuAt.lt (h : RuAt base g W pv tv nv pos tests neg) : g < W.heap.size := lt_of_heap h.blk
theorem RuAt.step (h : RuAt base g W pv tv nv pos tests neg) (hb : Below W.heap.size W W') : RuAt base g W' pv tv nv pos tests neg :=
  ⟨(hb.block _ h.lt).trans h.blk, h.po.below hb, h.te.below hb, h.ne.below hb, h.gb, h.ap⟩
theorem RuAt.cell (h : RuAt base g W pv tv nv pos tests neg) (j : Nat) {u : Value} (hu : (#[.int .i64 0, .slice none 0 0, pv, tv, nv, .slice none 0 0, .int .i64 0] : Array Value).toList[j]? = some u) : W.cell? ⟨g, j, none⟩ = some u := rboxL h.blk j hu
theorem RuAt.fz (h : RuAt base g W pv tv nv pos tests neg) (o : Nat) : W.frozen? ⟨g, o, none⟩ = false := by
  have := h.blk
  simp [World.frozen?, this]
theorem RuAt.foot_lt (h : RuAt base g W pv tv nv pos tests neg) : ∀ x ∈ ufoot g pv tv nv, base ≤ x ∧ x < W.heap.size := by
  intro x hx
  simp only [ufoot, List.mem_cons, List.mem_append, Option.mem_toList] at hx
  rcases hx with rfl | hx | hx | hx
  · exact ⟨h.gb, h.lt⟩
  · exact ⟨(h.po.block hx).1, (h.po.block hx).2.1⟩
  · exact ⟨(h.te.block hx).1, (h.te.block hx).2.1⟩
  · exact ⟨(h.ne.block hx).1, (h.ne.block hx).2.1⟩
theorem UOff_new (h : RuAt base g W pv tv nv pos tests neg) {b : Nat} (hb : W.heap.size ≤ b) : Off base (ufoot g pv tv nv) b :=
  ⟨by have := (h.foot_lt g ufoot_g); omega, fun hm => by have := (h.foot_lt b hm).2; omega⟩
/-- The blocks differ, by what lies in them. -/
theorem RuAt.apart (h : RuAt base g W pv tv nv pos tests neg) : (∀ b, pv.ownBlock = some b → b ≠ g ∧ tv.ownBlock ≠ some b ∧ nv.ownBlock ≠ some b) ∧ (∀ b, tv.ownBlock = some b → b ≠ g ∧ nv.ownBlock ≠ some b) ∧ (∀ b, nv.ownBlock = some b → b ≠ g) := by
  have hg := h.blk
  refine ⟨?_, ?_, ?_⟩
  · intro b hb
    obtain ⟨_, _, c1, h1⟩ := h.po.block hb
    refine ⟨?_, ?_, h.ap b hb⟩
    · rintro rfl
      rw [hg] at h1
      simp at h1
    · intro h2
      obtain ⟨_, _, c2, h3⟩ := h.te.block h2
      rw [h1] at h3
      simp at h3
  · intro b hb
    obtain ⟨_, _, c1, h1⟩ := h.te.block hb
    refine ⟨?_, ?_⟩
    · rintro rfl
      rw [hg] at h1
      simp at h1
    · intro h2
      obtain ⟨_, _, c2, h3⟩ := h.ne.block h2
      rw [h1] at h3
      simp at h3
  · intro b hb
    obtain ⟨_, _, c1, h1⟩ := h.ne.block hb
    rintro rfl
    rw [hg] at h1
    simp at h1
end
theorem RuAt.grow_al {base g : Nat} {wd w3 : World} {pv tv nv : Value} {pos : List Pat} {tests : List Tst} {neg : List Pat} {x : Pat} (h : RuAt base g wd pv tv nv pos tests neg) {g' cap : Nat}
    (ho : ∀ F' : Nat → Prop, (∀ b, b < wd.heap.size → Off base (ufoot g pv tv nv) b → F' b) → OwnF F' base w3 80 cdPat (.slice (some ⟨g', 0, none⟩) (pos.length + 1) cap) (pos ++ [x]))
    (ht : Turns pv.ownBlock.toList wd w3) (hat : pv.ownBlock = some g' ∨ wd.heap.size ≤ g') :
    RuAt base g (w3.setCell ⟨g, 2, none⟩ (.slice (some ⟨g', 0, none⟩) (pos.length + 1) cap)) (.slice (some ⟨g', 0, none⟩) (pos.length + 1) cap) tv nv (pos ++ [x]) tests neg ∧ Turns (ufoot g pv tv nv) wd (w3.setCell ⟨g, 2, none⟩ (.slice (some ⟨g', 0, none⟩) (pos.length + 1) cap)) ∧ ∀ b ∈ ufoot g (.slice (some ⟨g', 0, none⟩) (pos.length + 1) cap) tv nv, b ∈ ufoot g pv tv nv ∨ wd.heap.size ≤ b := by
  obtain ⟨a1, a2, a3⟩ := h.apart
  have hg : g ∉ pv.ownBlock.toList := fun hm => (a1 g (by simpa using hm)).1 rfl
  have hgn : g' ≠ g := by
    rcases hat with h1 | h1
    · exact (a1 g' h1).1
    · have := h.lt; omega
  have T : Turns (g :: pv.ownBlock.toList) wd (w3.setCell ⟨g, 2, none⟩ (.slice (some ⟨g', 0, none⟩) (pos.length + 1) cap)) := (ht.mono (by simp +contextual)).setCell (.inl (by simp)) _
  have hoff : ∀ b ∈ g :: pv.ownBlock.toList, ¬ Off base (ufoot g pv tv nv) b := by
    intro b hb hf
    refine hf.2 ?_
    simp only [ufoot, List.mem_cons, List.mem_append] at hb ⊢
    rcases hb with hb | hb
    · exact .inl hb
    · exact .inr (.inl hb)
  have hmem : ∀ b, b ∈ ufoot g (.slice (some ⟨g', 0, none⟩) (pos.length + 1) cap) tv nv → b ∈ ufoot g pv tv nv ∨ wd.heap.size ≤ b := by
    intro b hm
    simp only [ufoot, List.mem_cons, List.mem_append, Option.mem_toList] at hm ⊢
    rcases hm with hm | hm | hm | hm
    · exact .inl (.inl hm)
    · have e : g' = b := by simpa [Value.ownBlock] using hm
      rcases hat with h3 | h3
      · exact .inl (.inr (.inl (by rw [← e]; exact h3)))
      · exact .inr (by omega)
    · exact .inl (.inr (.inr (.inl hm)))
    · exact .inl (.inr (.inr (.inr hm)))
  have hFF : ∀ b, b < wd.heap.size → Off base (ufoot g pv tv nv) b → Off base (ufoot g (.slice (some ⟨g', 0, none⟩) (pos.length + 1) cap) tv nv) b := by
    rintro b hlt ⟨h1, h2⟩
    refine ⟨h1, fun hm => ?_⟩
    rcases hmem b hm with h3 | h3
    · exact h2 h3
    · omega
  refine ⟨⟨?_, ?_, ?_, ?_, h.gb, fun b hb hn => (by
    have e : g' = b := by simpa [Value.ownBlock] using hb
    rcases hat with h3 | h3
    · exact h.ap g' h3 (by rw [e]; exact hn)
    · have := (h.ne.block hn).2.1; omega)⟩, T.mono (fun b hb => ?_), hmem⟩
  · exact heap_setCell_same _ _ 2 _ _ _ ((ht.block g h.lt hg).trans h.blk)
  · exact (ho _ hFF).keep (S := [g]) ((Turns.refl _ _).setCell (.inl (by simp)) _) (fun b hb hm => by
      have e : g' = b := by simpa [Value.ownBlock] using hb
      simp only [List.mem_singleton] at hm
      omega) (fun b hb hf => hf.2 (by simp only [List.mem_singleton] at hb; simp [ufoot, hb])) (fun _ _ h => h)
  · exact h.te.keep T (fun b hb hm => by
      simp only [List.mem_cons, Option.mem_toList] at hm
      rcases hm with hm | hm
      · exact (a2 b hb).1 hm
      · exact (a1 b hm).2.1 hb) hoff hFF
  · exact h.ne.keep T (fun b hb hm => by
      simp only [List.mem_cons, Option.mem_toList] at hm
      rcases hm with hm | hm
      · exact a3 b hb hm
      · exact (a1 b hm).2.2 hb) hoff hFF
  · simp only [ufoot, List.mem_cons, List.mem_append] at hb ⊢
    rcases hb with hb | hb
    · exact .inl hb
    · exact .inr (.inl hb)
theorem RuAt.grow_ns {base g : Nat} {wd w3 : World} {pv tv nv : Value} {pos : List Pat} {tests : List Tst} {neg : List Pat} {x : Tst} (h : RuAt base g wd pv tv nv pos tests neg) {g' cap : Nat}
    (ho : ∀ F' : Nat → Prop, (∀ b, b < wd.heap.size → Off base (ufoot g pv tv nv) b → F' b) → OwnF F' base w3 38 cdTst (.slice (some ⟨g', 0, none⟩) (tests.length + 1) cap) (tests ++ [x]))
    (ht : Turns tv.ownBlock.toList wd w3) (hat : tv.ownBlock = some g' ∨ wd.heap.size ≤ g') :
    RuAt base g (w3.setCell ⟨g, 3, none⟩ (.slice (some ⟨g', 0, none⟩) (tests.length + 1) cap)) pv (.slice (some ⟨g', 0, none⟩) (tests.length + 1) cap) nv pos (tests ++ [x]) neg ∧ Turns (ufoot g pv tv nv) wd (w3.setCell ⟨g, 3, none⟩ (.slice (some ⟨g', 0, none⟩) (tests.length + 1) cap)) ∧ ∀ b ∈ ufoot g pv (.slice (some ⟨g', 0, none⟩) (tests.length + 1) cap) nv, b ∈ ufoot g pv tv nv ∨ wd.heap.size ≤ b := by
  obtain ⟨a1, a2, a3⟩ := h.apart
  have hg : g ∉ tv.ownBlock.toList := fun hm => (a2 g (by simpa using hm)).1 rfl
  have hgn : g' ≠ g := by
    rcases hat with h1 | h1
    · exact (a2 g' h1).1
    · have := h.lt; omega
  have T : Turns (g :: tv.ownBlock.toList) wd (w3.setCell ⟨g, 3, none⟩ (.slice (some ⟨g', 0, none⟩) (tests.length + 1) cap)) := (ht.mono (by simp +contextual)).setCell (.inl (by simp)) _
  have hoff : ∀ b ∈ g :: tv.ownBlock.toList, ¬ Off base (ufoot g pv tv nv) b := by
    intro b hb hf
    refine hf.2 ?_
    simp only [ufoot, List.mem_cons, List.mem_append] at hb ⊢
    rcases hb with hb | hb
    · exact .inl hb
    · exact .inr (.inr (.inl hb))
  have hmem : ∀ b, b ∈ ufoot g pv (.slice (some ⟨g', 0, none⟩) (tests.length + 1) cap) nv → b ∈ ufoot g pv tv nv ∨ wd.heap.size ≤ b := by
    intro b hm
    simp only [ufoot, List.mem_cons, List.mem_append, Option.mem_toList] at hm ⊢
    rcases hm with hm | hm | hm | hm
    · exact .inl (.inl hm)
    · exact .inl (.inr (.inl hm))
    · have e : g' = b := by simpa [Value.ownBlock] using hm
      rcases hat with h3 | h3
      · exact .inl (.inr (.inr (.inl (by rw [← e]; exact h3))))
      · exact .inr (by omega)
    · exact .inl (.inr (.inr (.inr hm)))
  have hFF : ∀ b, b < wd.heap.size → Off base (ufoot g pv tv nv) b → Off base (ufoot g pv (.slice (some ⟨g', 0, none⟩) (tests.length + 1) cap) nv) b := by
    rintro b hlt ⟨h1, h2⟩
    refine ⟨h1, fun hm => ?_⟩
    rcases hmem b hm with h3 | h3
    · exact h2 h3
    · omega
  refine ⟨⟨?_, ?_, ?_, ?_, h.gb, h.ap⟩, T.mono (fun b hb => ?_), hmem⟩
  · exact heap_setCell_same _ _ 3 _ _ _ ((ht.block g h.lt hg).trans h.blk)
  · exact h.po.keep T (fun b hb hm => by
      simp only [List.mem_cons, Option.mem_toList] at hm
      rcases hm with hm | hm
      · exact (a1 b hb).1 hm
      · exact (a1 b hb).2.1 hm) hoff hFF
  · exact (ho _ hFF).keep (S := [g]) ((Turns.refl _ _).setCell (.inl (by simp)) _) (fun b hb hm => by
      have e : g' = b := by simpa [Value.ownBlock] using hb
      simp only [List.mem_singleton] at hm
      omega) (fun b hb hf => hf.2 (by simp only [List.mem_singleton] at hb; simp [ufoot, hb])) (fun _ _ h => h)
  · exact h.ne.keep T (fun b hb hm => by
      simp only [List.mem_cons, Option.mem_toList] at hm
      rcases hm with hm | hm
      · exact a3 b hb hm
      · exact (a2 b hm).2 hb) hoff hFF
  · simp only [ufoot, List.mem_cons, List.mem_append] at hb ⊢
    rcases hb with hb | hb
    · exact .inl hb
    · exact .inr (.inr (.inl hb))
theorem RuAt.grow_en {base g : Nat} {wd w3 : World} {pv tv nv : Value} {pos : List Pat} {tests : List Tst} {neg : List Pat} {x : Pat} (h : RuAt base g wd pv tv nv pos tests neg) {g' cap : Nat}
    (ho : ∀ F' : Nat → Prop, (∀ b, b < wd.heap.size → Off base (ufoot g pv tv nv) b → F' b) → OwnF F' base w3 80 cdPat (.slice (some ⟨g', 0, none⟩) (neg.length + 1) cap) (neg ++ [x]))
    (ht : Turns nv.ownBlock.toList wd w3) (hat : nv.ownBlock = some g' ∨ wd.heap.size ≤ g') :
    RuAt base g (w3.setCell ⟨g, 4, none⟩ (.slice (some ⟨g', 0, none⟩) (neg.length + 1) cap)) pv tv (.slice (some ⟨g', 0, none⟩) (neg.length + 1) cap) pos tests (neg ++ [x]) ∧ Turns (ufoot g pv tv nv) wd (w3.setCell ⟨g, 4, none⟩ (.slice (some ⟨g', 0, none⟩) (neg.length + 1) cap)) ∧ ∀ b ∈ ufoot g pv tv (.slice (some ⟨g', 0, none⟩) (neg.length + 1) cap), b ∈ ufoot g pv tv nv ∨ wd.heap.size ≤ b := by
  obtain ⟨a1, a2, a3⟩ := h.apart
  have hg : g ∉ nv.ownBlock.toList := fun hm => a3 g (by simpa using hm) rfl
  have hgn : g' ≠ g := by
    rcases hat with h1 | h1
    · exact a3 g' h1
    · have := h.lt; omega
  have T : Turns (g :: nv.ownBlock.toList) wd (w3.setCell ⟨g, 4, none⟩ (.slice (some ⟨g', 0, none⟩) (neg.length + 1) cap)) := (ht.mono (by simp +contextual)).setCell (.inl (by simp)) _
  have hoff : ∀ b ∈ g :: nv.ownBlock.toList, ¬ Off base (ufoot g pv tv nv) b := by
    intro b hb hf
    refine hf.2 ?_
    simp only [ufoot, List.mem_cons, List.mem_append] at hb ⊢
    rcases hb with hb | hb
    · exact .inl hb
    · exact .inr (.inr (.inr hb))
  have hmem : ∀ b, b ∈ ufoot g pv tv (.slice (some ⟨g', 0, none⟩) (neg.length + 1) cap) → b ∈ ufoot g pv tv nv ∨ wd.heap.size ≤ b := by
    intro b hm
    simp only [ufoot, List.mem_cons, List.mem_append, Option.mem_toList] at hm ⊢
    rcases hm with hm | hm | hm | hm
    · exact .inl (.inl hm)
    · exact .inl (.inr (.inl hm))
    · exact .inl (.inr (.inr (.inl hm)))
    · have e : g' = b := by simpa [Value.ownBlock] using hm
      rcases hat with h3 | h3
      · exact .inl (.inr (.inr (.inr (by rw [← e]; exact h3))))
      · exact .inr (by omega)
  have hFF : ∀ b, b < wd.heap.size → Off base (ufoot g pv tv nv) b → Off base (ufoot g pv tv (.slice (some ⟨g', 0, none⟩) (neg.length + 1) cap)) b := by
    rintro b hlt ⟨h1, h2⟩
    refine ⟨h1, fun hm => ?_⟩
    rcases hmem b hm with h3 | h3
    · exact h2 h3
    · omega
  refine ⟨⟨?_, ?_, ?_, ?_, h.gb, fun b hb hn => (by
    have e : g' = b := by simpa [Value.ownBlock] using hn
    rcases hat with h3 | h3
    · exact h.ap b hb (by rw [← e]; exact h3)
    · have := (h.po.block hb).2.1; omega)⟩, T.mono (fun b hb => ?_), hmem⟩
  · exact heap_setCell_same _ _ 4 _ _ _ ((ht.block g h.lt hg).trans h.blk)
  · exact h.po.keep T (fun b hb hm => by
      simp only [List.mem_cons, Option.mem_toList] at hm
      rcases hm with hm | hm
      · exact (a1 b hb).1 hm
      · exact (a1 b hb).2.2 hm) hoff hFF
  · exact h.te.keep T (fun b hb hm => by
      simp only [List.mem_cons, Option.mem_toList] at hm
      rcases hm with hm | hm
      · exact (a2 b hb).1 hm
      · exact (a2 b hb).2 hm) hoff hFF
  · exact (ho _ hFF).keep (S := [g]) ((Turns.refl _ _).setCell (.inl (by simp)) _) (fun b hb hm => by
      have e : g' = b := by simpa [Value.ownBlock] using hb
      simp only [List.mem_singleton] at hm
      omega) (fun b hb hf => hf.2 (by simp only [List.mem_singleton] at hb; simp [ufoot, hb])) (fun _ _ h => h)
  · simp only [ufoot, List.mem_cons, List.mem_append] at hb ⊢
    rcases hb with hb | hb
    · exact .inl hb
    · exact .inr (.inr (.inr hb))
end Go.Proofs.YtonkbjdeaneicaaDoor
