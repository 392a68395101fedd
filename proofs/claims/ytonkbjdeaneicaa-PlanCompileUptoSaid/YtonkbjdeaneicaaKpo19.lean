/- The reference's Maker: atom. The reference's Fit: may a rule be compiled? The opening of arguments: a plan; how long its lists are. -/
import Derived.Test.YtonkbjdeaneicaaKpo03
import Derived.Test.YtonkbjdeaneicaaKpo07
import Derived.Test.YtonkbjdeaneicaaKpo13
import Derived.Test.YtonkbjdeaneicaaKpo15
import Derived.Test.YtonkbjdeaneicaaKpo18
namespace Go.Proofs.Ytonkbjdeaneicaa
open Go.RowKit Pln Classical Go.Maps

/-- The node on its way, behind k places. -/
structure RPt (wo wr : World) (kd u al : Int) (args : List Slt) (w : Int) (lv nv : Value) (k : Nat) : Prop where
  blk : wr.heap[wo.heap.size]? = some (.cells #[.int .i64 kd, .int .i64 u, .int .i64 al, lv, nv, .int .i64 0, .bool false, .int .i64 0, .bool false, .int .i64 0, .int .i64 w] 54 (0, 0))
  lo : OwnF (fun _ => False) (wo.heap.size + 1) wr 83 cdLnk lv (linksK args w k)
  no : OwnF (fun _ => False) (wo.heap.size + 1) wr 3 cdInt nv (newK args w k)
  below : Below wo.heap.size wo wr
section
variable {wo wr wr' w2 : World} {kd u al : Int} {args : List Slt} {w : Int} {lv nv : Value} {k : Nat}
theorem RPt.lt (h : RPt wo wr kd u al args w lv nv k) : wo.heap.size < wr.heap.size := lt_of_heap h.blk
theorem RPt.step (h : RPt wo wr kd u al args w lv nv k) (hb : Below wr.heap.size wr wr') : RPt wo wr' kd u al args w lv nv k :=
  ⟨(hb.block _ h.lt).trans h.blk, h.lo.below hb, h.no.below hb, h.below.trans (hb.mono h.below.size)⟩
theorem RPt.apart (h : RPt wo wr kd u al args w lv nv k) {b : Nat} (h1 : lv.ownBlock = some b) (h2 : nv.ownBlock = some b) : False := by
  obtain ⟨_, _, c1, e1⟩ := h.lo.block h1
  obtain ⟨_, _, c2, e2⟩ := h.no.block h2
  rw [e1] at e2
  simp at e2
theorem RPt.putL (h : RPt wo wr kd u al args w lv nv k) {lv' : Value} {x : Int × Int} (ht : Turns lv.ownBlock.toList wr w2) (ho : OwnF (fun _ => False) (wo.heap.size + 1) w2 83 cdLnk lv' (linksK args w k ++ [x])) (hl : linkAt args w k = [x]) (hn : newAt args w k = []) :
    RPt wo (w2.setCell ⟨wo.heap.size, 3, none⟩ lv') kd u al args w lv' nv (k + 1) := by
  have hn0 : wo.heap.size ∉ lv.ownBlock.toList := fun hm => by have := (h.lo.block (by simpa using hm)).1; omega
  refine ⟨heap_setCell_same _ _ 3 _ _ _ ((ht.block _ h.lt hn0).trans h.blk), ?_, ?_, ?_⟩
  · rw [linksK_succ, hl]
    exact ho.keep (S := [wo.heap.size]) ((Turns.refl _ _).setCell (.inl (by simp)) _) (fun b hb => by have := (ho.block hb).1; simp; omega) (by simp) (fun _ _ h => h)
  · rw [newK_succ, hn, List.append_nil]
    exact (h.no.keep ht (fun b hb hm => h.apart (by simpa using hm) hb) (by simp) (fun _ _ h => h)).keep (S := [wo.heap.size]) ((Turns.refl _ _).setCell (.inl (by simp)) _) (fun b hb => by have := (h.no.block hb).1; simp; omega) (by simp) (fun _ _ h => h)
  · exact (h.below.trans (ht.below h.below.size (fun x hx => by have := (h.lo.block (by simpa using hx)).1; omega))).setCell (Nat.le_refl _) _
theorem RPt.putN (h : RPt wo wr kd u al args w lv nv k) {nv' : Value} {x : Int} (ht : Turns nv.ownBlock.toList wr w2) (ho : OwnF (fun _ => False) (wo.heap.size + 1) w2 3 cdInt nv' (newK args w k ++ [x])) (hl : linkAt args w k = []) (hn : newAt args w k = [x]) :
    RPt wo (w2.setCell ⟨wo.heap.size, 4, none⟩ nv') kd u al args w lv nv' (k + 1) := by
  have hn0 : wo.heap.size ∉ nv.ownBlock.toList := fun hm => by have := (h.no.block (by simpa using hm)).1; omega
  refine ⟨heap_setCell_same _ _ 4 _ _ _ ((ht.block _ h.lt hn0).trans h.blk), ?_, ?_, ?_⟩
  · rw [linksK_succ, hl, List.append_nil]
    exact (h.lo.keep ht (fun b hb hm => h.apart hb (by simpa using hm)) (by simp) (fun _ _ h => h)).keep (S := [wo.heap.size]) ((Turns.refl _ _).setCell (.inl (by simp)) _) (fun b hb => by have := (h.lo.block hb).1; simp; omega) (by simp) (fun _ _ h => h)
  · rw [newK_succ, hn]
    exact ho.keep (S := [wo.heap.size]) ((Turns.refl _ _).setCell (.inl (by simp)) _) (fun b hb => by have := (ho.block hb).1; simp; omega) (by simp) (fun _ _ h => h)
  · exact (h.below.trans (ht.below h.below.size (fun x hx => by have := (h.no.block (by simpa using hx)).1; omega))).setCell (Nat.le_refl _) _
theorem RPt.skip (h : RPt wo wr kd u al args w lv nv k) (hl : linkAt args w k = []) (hn : newAt args w k = []) : RPt wo wr kd u al args w lv nv (k + 1) :=
  ⟨h.blk, by rw [linksK_succ, hl, List.append_nil]; exact h.lo, by rw [newK_succ, hn, List.append_nil]; exact h.no, h.below⟩
/-- The node's own block, where a list of its own has turned. -/
theorem RPt.at2 (h : RPt wo wr kd u al args w lv nv k) {v : Value} (hv : v = lv ∨ v = nv) (ht : Turns v.ownBlock.toList wr w2) : w2.cell? ⟨wo.heap.size, 3, none⟩ = some lv ∧ w2.cell? ⟨wo.heap.size, 4, none⟩ = some nv ∧ (∀ o, w2.frozen? ⟨wo.heap.size, o, none⟩ = false) ∧ wo.heap.size < w2.heap.size := by
  have hn0 : wo.heap.size ∉ v.ownBlock.toList := fun hm => by
    rcases hv with rfl | rfl
    · have := (h.lo.block (by simpa using hm)).1; omega
    · have := (h.no.block (by simpa using hm)).1; omega
  have e := (ht.block _ h.lt hn0).trans h.blk
  exact ⟨cell_of_row _ _ 3 _ _ _ e, cell_of_row _ _ 4 _ _ _ e, fun o => by simp [World.frozen?, e], lt_of_heap e⟩
end
theorem RMkr.step {base g : Nat} {W W' : World} {S : List Nat} {st : St} {es : List Nat} (h : RMkr base g W S st es) (hb : Below W.heap.size W W') : RMkr base g W' S st es := by
  obtain ⟨av, nv, ev, rfl, hM⟩ := h
  exact ⟨av, nv, ev, rfl, hM.step hb⟩
theorem RMkr.foot {base g : Nat} {W : World} {S : List Nat} {st : St} {es : List Nat} (h : RMkr base g W S st es) : base ≤ W.heap.size ∧ ∀ x ∈ S, base ≤ x ∧ x < W.heap.size := by
  obtain ⟨av, nv, ev, rfl, hM⟩ := h
  exact ⟨by have := hM.foot_lt g rfoot_g; omega, hM.foot_lt⟩
theorem RMkrTo.after {base g : Nat} {W W1 W2 : World} {S S1 : List Nat} {st : St} {es : List Nat} (ht : Turns S W W1) (hs : ∀ b ∈ S1, b ∈ S ∨ W.heap.size ≤ b) (h : RMkrTo base g W1 S1 st es W2) : RMkrTo base g W S st es W2 := by
  obtain ⟨S2, h1, h2, h3⟩ := h
  refine ⟨S2, h1, ht.trans h2 hs, fun b hb => ?_⟩
  rcases h3 b hb with h4 | h4
  · exact hs b h4
  · exact .inr (Nat.le_trans ht.size h4)

set_option maxRecDepth 200000 in
set_option maxHeartbeats 8000000 in
theorem ratomW {base g : Nat} {W : World} {S : List Nat} {st : St} {es : List Nat} (h : RMkr base g W S st es) (kd : Int) (hkd : i64ok kd) (u : Nat) (hu : u < st.ns.length) (wd : Nat) (hwd : widthAt st u = wd) (hwd2 : wd ≤ 1000)
    {F : Nat → Prop} (hFb : ∀ b, F b → b < base) (p : Pat) (v : Value) (hp : RSl F W 2 ESlt v p.args) (pok : i64ok p.pred) (h8 : p.args.length ≤ 8) (hal : st.al.length ≤ 20000000) (hns : st.ns.length ≤ 20000000) :
    Calls Try.prog 26 #[.pointer (some ⟨g, 0, none⟩), .int .i64 u, .int .i64 kd, .agg #[.int .i64 p.pred, v]] W fun e W' => e = .returned (.int .i64 (patF kd (u, st) p).1) ∧ RMkrTo base g W S (patF kd (u, st) p).2 es W' := by
  obtain ⟨A, c, rfl⟩ := hp.form
  obtain ⟨av, nv, ev, rfl, hM⟩ := h
  obtain ⟨A0, C0, rfl⟩ := hM.ns.form
  obtain ⟨nd, hnd⟩ : ∃ nd, st.ns[u]? = some nd := ⟨_, List.getElem?_eq_getElem hu⟩
  have hw : nd.width = (wd : Int) := by unfold widthAt at hwd; rw [hnd] at hwd; exact hwd
  obtain ⟨b, off, hA0, hFb0, hbs, cs, ⟨ln0, nn0, hE⟩, hc⟩ := (hM.ns.rsl (G := fun b => b < W.heap.size) (fun b hb => (hM.ns.block hb).2.1)).at hnd
  subst hA0
  have hcs := hE.cells
  subst hcs
  have c10 : W.cell? ⟨b, off + u * 11 + 10, none⟩ = some (.int .i64 wd) := by rw [← hw]; exact hc 10 _ rfl
  have x1 := hM.cell 1 rfl
  have hgl := hM.lt
  have e1 : (0 : Int) ≤ (u : Int) := by omega
  have e2 : (u : Int) < (st.ns.length : Int) := by omega
  have CM := Lib.hid (fun W' (hb : Below W.heap.size W W') => ralphaW (S := rfoot g av (.slice (some ⟨b, off, none⟩) st.ns.length C0) ev) ⟨av, _, ev, rfl, hM.step hb⟩ p _ (hp.keep (Kp.of_below hb)) pok (by omega) (by omega))
  have HM := Lib.hid hM
  have HP := Lib.hid hp
  have HWD := Lib.hid hwd
  have HND := Lib.hid hnd
  clear hM hp hc hE hnd hwd hw
  go_enter Try.func26, Try.ntmps26
  go_wp2_with fail
  refine (CM.out _ ((Below.refl _ _).alloc (Nat.le_refl _) _)).mono ?_
  rintro e w2 ⟨rfl, S2, hM2, hT2, hS2⟩
  obtain ⟨ai, hai⟩ : ∃ ai, placeF st.al (shapeF p) = ai := ⟨_, rfl⟩
  have HAI := Lib.hid hai
  rw [hai]
  have fl := HM.out.foot_lt
  have hW2 : W.heap.size < w2.heap.size := by have := hT2.size; simp at this; omega
  have eb : w2.heap[W.heap.size]? = some (.cells #[.int .i64 p.pred, .slice A p.args.length c] 34 (0, 0)) := (hT2.block _ (by simp) (fun hm => by have := (fl _ hm).2; omega)).trans (heap_alloc_new W _)
  have EB := Lib.hid eb
  have xp0 : w2.cell? ⟨W.heap.size, 0, none⟩ = some (.int .i64 p.pred) := cell_of_row _ _ 0 _ _ _ eb
  have xp1 : w2.cell? ⟨W.heap.size, 1, none⟩ = some (.slice A p.args.length c) := cell_of_row _ _ 1 _ _ _ eb
  have KF : Kp F W w2 := (Kp.of_below ((Below.refl W.heap.size W).alloc (Nat.le_refl _) (.cells #[.int .i64 p.pred, .slice A p.args.length c] 34))).trans (Kp.of_turns hT2 (fun x hx hf => by have h1 := (fl x hx).1; have h2 := hFb x hf; omega))
  have HP2 := Lib.hid (HP.out.keep KF)
  have HM2 := Lib.hid hM2
  have HT2 := Lib.hid (((Turns.refl (rfoot g av (.slice (some ⟨b, off, none⟩) st.ns.length C0) ev) W).alloc (.cells #[.int .i64 p.pred, .slice A p.args.length c] 34)).trans hT2 (fun x hx => .inl hx))
  have HS2 := Lib.hid (show ∀ b' ∈ S2, b' ∈ rfoot g av (.slice (some ⟨b, off, none⟩) st.ns.length C0) ev ∨ W.heap.size ≤ b' from fun b' hb' => by
    rcases hS2 b' hb' with h1 | h1
    · exact .inl h1
    · exact .inr (by simp at h1; omega))
  have h80 : RPt w2 (w2.alloc (.cells #[.int .i64 kd, .int .i64 u, .int .i64 ai, .slice none 0 0, .slice none 0 0, .int .i64 0, .bool false, .int .i64 0, .bool false, .int .i64 0, .int .i64 wd] 54)) kd u ai p.args wd (.slice none 0 0) (.slice none 0 0) 0 :=
    ⟨heap_alloc_new w2 _, OwnF.nil, OwnF.nil, (Below.refl _ _).alloc (Nat.le_refl _) _⟩
  have H80 := Lib.hid h80
  clear hM2 hT2 hS2 KF eb fl hai h80 x1 c10
  go_wp2_with fail
  go_loopw [11] (fun i wr => ∃ (k : Nat) (lv nv : Value), i = .int .i64 k ∧ k ≤ p.args.length ∧ RPt w2 wr kd u ai p.args wd lv nv k) (fun i _ => p.args.length - (intOf i).toNat)
  case atStart => exact ⟨0, _, _, rfl, Nat.zero_le _, H80.out⟩
  case round =>
    obtain ⟨k, lv, nv, rfl, hk, hP⟩ := hrel
    obtain ⟨la, lc, rfl⟩ := hP.lo.form
    obtain ⟨na, nc, rfl⟩ := hP.no.form
    have ll := linksK_len p.args (wd : Int) k
    have nl := newK_len p.args (wd : Int) k
    have hwz := hP.lt
    have yp0 : wr.cell? ⟨W.heap.size, 0, none⟩ = some (.int .i64 p.pred) := (hP.below.cell (p := ⟨W.heap.size, 0, none⟩) hW2).trans xp0
    have yp1 : wr.cell? ⟨W.heap.size, 1, none⟩ = some (.slice A p.args.length c) := (hP.below.cell (p := ⟨W.heap.size, 1, none⟩) hW2).trans xp1
    have hWr : W.heap.size < wr.heap.size := by omega
    by_cases hkn : k < p.args.length
    · obtain ⟨s, hs⟩ : ∃ s, p.args[k]? = some s := ⟨_, List.getElem?_eq_getElem hkn⟩
      obtain ⟨b2, off2, rfl, hFb2, hbs2, cs2, ⟨rfl, sok⟩, hc2⟩ := (HP2.out.keep (Kp.of_below hP.below)).at hs
      have d0 := hc2 0 _ rfl
      have d1 := hc2 1 _ rfl
      simp only [Nat.add_zero] at d0
      obtain ⟨sv, sn⟩ := s
      simp only at d0 d1 sok
      have f1 : (0 : Int) ≤ (k : Int) := by omega
      have f2 : (k : Int) < (p.args.length : Int) := by omega
      have CI := Lib.hid (fun W' (hb : Below wr.heap.size wr W') (hl : firstV p.args sn < p.args.length) => rfirstW p (.slice (some ⟨b2, off2, none⟩) p.args.length c) sn W' ((HP2.out.keep (Kp.of_below hP.below)).keep (Kp.of_below hb)) hl)
      have HX := Lib.hid hP
      have HS := Lib.hid hs
      have HK := Lib.hid hkn
      clear hc2 hs hkn hP
      cases sv with
      | false =>
        have hl : linkAt p.args (wd : Int) k = [] := by unfold linkAt; rw [HS.out]; simp
        have hnn : newAt p.args (wd : Int) k = [] := by unfold newAt; rw [HS.out]; simp
        have N1 := Lib.hid ((HX.out.step ((Below.refl wr.heap.size wr).alloc (Nat.le_refl _) (.cells #[.bool false, .int .i64 sn] 50))).skip hl hnn)
        clear hl hnn
        go_wp2
        exact ⟨⟨k + 1, _, _, by go_num, HK.out, N1.out⟩, by simp [intOf]; have := HK.out; omega⟩
      | true =>
        have hfl := firstV_le HS.out rfl
        simp only at hfl
        go_wp2_with fail
        refine (CI.out _ ((Below.refl wr.heap.size wr).alloc (Nat.le_refl _) _) (by have := HK.out; omega)).mono ?_
        rintro e w3 ⟨rfl, hb3⟩
        have HX3 := HX.out.step (((Below.refl wr.heap.size wr).alloc (Nat.le_refl _) (.cells #[.bool true, .int .i64 sn] 50)).trans (hb3.mono (by simp)))
        have z0 := box_cell (hb3.mono (show wr.heap.size + 1 ≤ _ by simp)) 0 _ rfl
        have z1 := box_cell (hb3.mono (show wr.heap.size + 1 ≤ _ by simp)) 1 _ rfl
        have q3 : w3.cell? ⟨w2.heap.size, 3, none⟩ = some (.slice la (linksK p.args wd k).length lc) := cell_of_row _ _ 3 _ _ _ HX3.blk
        have q4 : w3.cell? ⟨w2.heap.size, 4, none⟩ = some (.slice na (newK p.args wd k).length nc) := cell_of_row _ _ 4 _ _ _ HX3.blk
        have hw3 := HX3.lt
        have hw4 : wr.heap.size < w3.heap.size := by have := hb3.size; simp at this; omega
        have HX3' := Lib.hid HX3
        have hbase2 : w2.heap.size + 1 ≤ w3.heap.size := by omega
        clear hb3 HX3 d0 d1 hfl
        by_cases hf : firstV p.args sn = k
        · have hf2 : (((firstV p.args sn : Nat) : Int) != (k : Int)) = false := by simp; omega
          by_cases hlt : sn < (wd : Int)
          · have hl : linkAt p.args (wd : Int) k = [((k : Int), sn)] := by unfold linkAt; rw [HS.out]; simp [hf, hlt]
            have hnn : newAt p.args (wd : Int) k = [] := by unfold newAt; rw [HS.out]; simp [hlt]
            have HL := Lib.hid (And.intro hl hnn)
            have OKL := Lib.hid (And.intro (okNat (k := k) (by omega)) sok)
            clear hl hnn hf
            go_wp2_with (at_builtin; refine wpList_append_F HX3'.out.lo (fun _ _ h => h) rfl (.tmp 57) (.tmp 62) 48 rfl Try.underlying48 infoLnk rfl (by decide) rfl #[.int .i64 k, .int .i64 sn] _ rfl rfl (x := ((k : Int), sn)) ⟨rfl, OKL.out⟩ (by omega) (by decide) hbase2 ?_; intro g' cap w4 ho ht hat hlt4; obtain ⟨t1, t2, t3, t4⟩ := HX3'.out.at2 (.inl rfl) ht; have N1 := Lib.hid (HX3'.out.putL ht (ho _ (fun _ _ h => h)) HL.out.1 HL.out.2); clear ho ht hat hlt4)
            exact ⟨⟨k + 1, _, _, by go_num, HK.out, N1.out⟩, by simp [intOf]; have := HK.out; omega⟩
          · have hl : linkAt p.args (wd : Int) k = [] := by unfold linkAt; rw [HS.out]; simp [hlt]
            have hnn : newAt p.args (wd : Int) k = [(k : Int)] := by unfold newAt; rw [HS.out]; simp [hf]; omega
            have HL := Lib.hid (And.intro hl hnn)
            have OKL := Lib.hid (okNat (k := k) (by omega))
            clear hl hnn hf
            go_wp2_with (at_builtin; refine wpList_append_F HX3'.out.no (fun _ _ h => h) rfl (.tmp 66) (.tmp 68) 25 rfl Try.underlying25 infoIntR rfl (by decide) rfl #[.int .i64 k] _ rfl rfl (x := (k : Int)) ⟨rfl, OKL.out⟩ (by omega) (by decide) hbase2 ?_; intro g' cap w4 ho ht hat hlt4; obtain ⟨t1, t2, t3, t4⟩ := HX3'.out.at2 (.inr rfl) ht; have N1 := Lib.hid (HX3'.out.putN ht (ho _ (fun _ _ h => h)) HL.out.1 HL.out.2); clear ho ht hat hlt4)
            exact ⟨⟨k + 1, _, _, by go_num, HK.out, N1.out⟩, by simp [intOf]; have := HK.out; omega⟩
        · have hf2 : (((firstV p.args sn : Nat) : Int) != (k : Int)) = true := by simp; omega
          have hl : linkAt p.args (wd : Int) k = [] := by unfold linkAt; rw [HS.out]; simp [hf]
          have hnn : newAt p.args (wd : Int) k = [] := by unfold newAt; rw [HS.out]; simp [hf]
          have N1 := Lib.hid (HX3'.out.skip hl hnn)
          clear hl hnn hf
          go_wp2
          exact ⟨⟨k + 1, _, _, by go_num, HK.out, N1.out⟩, by simp [intOf]; have := HK.out; omega⟩
    · obtain rfl : k = p.args.length := by omega
      have q0 := cell_of_row _ _ 0 _ _ _ hP.blk
      have q1 := cell_of_row _ _ 1 _ _ _ hP.blk
      have q2 := cell_of_row _ _ 2 _ _ _ hP.blk
      have q3 := cell_of_row _ _ 3 _ _ _ hP.blk
      have q4 := cell_of_row _ _ 4 _ _ _ hP.blk
      have q5 := cell_of_row _ _ 5 _ _ _ hP.blk
      have q6 := cell_of_row _ _ 6 _ _ _ hP.blk
      have q7 := cell_of_row _ _ 7 _ _ _ hP.blk
      have q8 := cell_of_row _ _ 8 _ _ _ hP.blk
      have q9 := cell_of_row _ _ 9 _ _ _ hP.blk
      have q10 := cell_of_row _ _ 10 _ _ _ hP.blk
      simp only [List.getElem?_toArray, List.getElem?_cons_zero, List.getElem?_cons_succ] at q0 q1 q2 q3 q4 q5 q6 q7 q8 q9 q10
      have fz : ∀ o, wr.frozen? ⟨w2.heap.size, o, none⟩ = false := fun o => by have := hP.blk; simp [World.frozen?, this]
      obtain ⟨L, hLd⟩ : ∃ L, linksK p.args (wd : Int) p.args.length = L := ⟨_, rfl⟩
      obtain ⟨M, hMd⟩ : ∃ M, newK p.args (wd : Int) p.args.length = M := ⟨_, rfl⟩
      have hno : nodeOf st kd u p = ⟨kd, u, ai, L, M, noTst, (wd : Int) + M.length⟩ := by
        unfold nodeOf
        rw [HWD.out, HAI.out, hLd, hMd]
      have hLok : ∀ l ∈ L, i64ok l.1 ∧ i64ok l.2 := fun l hl => by
        rw [← hLd] at hl
        obtain ⟨i, s, hi, hs, rfl⟩ := linksK_mem hl
        obtain ⟨_, _, _, _, _, cs', ⟨_, ok'⟩, _⟩ := HP2.out.at hs
        exact ⟨okNat (by omega), ok'⟩
      have hMok : ∀ x ∈ M, i64ok x := fun x hx => by
        rw [← hMd] at hx
        obtain ⟨i, hi, rfl⟩ := newK_mem hx
        exact okNat (by omega)
      have bW : Below w2.heap.size w2 (wr.setCell ⟨w2.heap.size, 10, none⟩ (.int .i64 ((wd : Int) + M.length))) := hP.below.setCell (Nat.le_refl _) _
      have hM3 := HM2.out.step bW
      have ft := HM2.out.foot
      have K : Kp (fun b => w2.heap.size < b) wr (wr.setCell ⟨w2.heap.size, 10, none⟩ (.int .i64 ((wd : Int) + M.length))) := ⟨by simp, fun b _ hb => Below.heap_setCell _ _ _ _ (by simp; omega)⟩
      have hoff : ∀ b, b < wr.heap.size → w2.heap.size < b → Off base S2 b := fun b _ hb => ⟨by omega, fun hm => by have := (ft.2 b hm).2; omega⟩
      have rl := (hP.lo.rsl (G := fun b => w2.heap.size < b) (fun b hb => by have := (hP.lo.block hb).1; omega)).kp K hoff (fun _ _ h => h)
      have rn := (hP.no.rsl (G := fun b => w2.heap.size < b) (fun b hb => by have := (hP.no.block hb).1; omega)).kp K hoff (fun _ _ h => h)
      rw [hLd] at rl ll q3
      rw [hMd] at rn nl q4
      have k1 : i64ok kd := hkd
      have k2 : i64ok ((wd : Int) + (M.length : Int)) := WalkArith.wf_i64 (by omega)
      have k3 : ai ≤ st.al.length := by
        have h1 := HAI.out
        rw [← h1]
        by_cases hm : shapeF p ∈ st.al
        · exact Nat.le_of_lt (placeF_lt hm).1
        · rw [placeF_none hm]; exact Nat.le_refl _
      have hN : NdOk ⟨kd, u, ai, L, M, noTst, (wd : Int) + M.length⟩ := ⟨⟨k1, okNat (by omega), okNat (by omega), k2, ok0, ok0, ok0⟩, hLok, hMok, by simp only; omega, by simp only; omega⟩
      have EN : ENd (Off base S2) (wr.setCell ⟨w2.heap.size, 10, none⟩ (.int .i64 ((wd : Int) + M.length))) [.int .i64 kd, .int .i64 u, .int .i64 ai, .slice la L.length lc, .slice na M.length nc, .int .i64 0, .bool false, .int .i64 0, .bool false, .int .i64 0, .int .i64 ((wd : Int) + M.length)] ⟨kd, u, ai, L, M, noTst, (wd : Int) + M.length⟩ (.slice la L.length lc) (.slice na M.length nc) :=
        ⟨rfl, hN.ints, rl, rn⟩
      have CN := Lib.hid (rnodeW hM3 ⟨kd, u, ai, L, M, noTst, (wd : Int) + M.length⟩ EN (by simp only; omega))
      have HNO := Lib.hid hno
      have BW := Lib.hid bW
      clear k1 k2 k3 hno hLok hMok bW hM3 K hoff rl rn hN EN hP hLd hMd
      go_wp2_with fail
      refine CN.out.mono ?_
      rintro e w5 ⟨rfl, hT⟩
      go_wp2
      go_ret
      refine ⟨ret_i64 (by simp only [patF]; rw [HNO.out]), ?_⟩
      have := RMkrTo.after ((HT2.out.trans (Turns.of_below (S := []) BW.out) (by simp))) HS2.out hT
      simp only [patF]
      rw [HNO.out]
      exact this
end Go.Proofs.Ytonkbjdeaneicaa

namespace Go.Proofs.Ytonkbjdeaneicaa
open Go.RowKit Pln Classical

set_option maxRecDepth 100000 in
set_option maxHeartbeats 4000000 in
theorem rfitW {F : Nat → Prop} {cs : List Value} {hv pv tv nv vv : Value} (r : Rl) (w : World) (h : ERl F w cs r hv pv tv nv vv) (hS : rlSm 1048576 r) :
    Calls Try.prog 25 #[.agg #[.int .i64 r.head.pred, hv, pv, tv, nv, vv, .int .i64 r.clause]] w (SomeMay r w) := by
  obtain ⟨Ap, cp, hpv⟩ := h.pos.form
  obtain ⟨At, ct, htv⟩ := h.tests.form
  obtain ⟨An, cn, hnv⟩ := h.neg.form
  subst hpv; subst htv; subst hnv
  have l1 := hS.pos.1
  have l2 := hS.tests
  have l3 := hS.neg.1
  have H := Lib.hid h
  have SM := Lib.hid hS
  clear h hS
  by_cases hmany : 16 < r.pos.length + r.tests.length + r.neg.length
  · have hb := Lib.hid (mayB_false (r := r) (fun ⟨w, hh⟩ => by have := hh.many; omega))
    go_enter Try.func25, Try.ntmps25
    go_wp2
    go_ret2
    exact someMay hb.out ((Below.refl _ _).alloc (Nat.le_refl _) _)
  · go_enter Try.func25, Try.ntmps25
    go_wp2
    go_loopw [4, 5] (fun wd i wr => ∃ k : Nat, i = .int .i64 k ∧ wd = .int .i64 (wAt r k) ∧ PosTo r k ∧ Below (w.heap.size + 1) (w.alloc (.cells #[.int .i64 r.head.pred, hv, .slice Ap r.pos.length cp, .slice At r.tests.length ct, .slice An r.neg.length cn, vv, .int .i64 r.clause] 39)) wr) (fun _ i _ => r.pos.length - (intOf i).toNat)
    case atStart => exact ⟨0, rfl, rfl, ⟨Nat.zero_le _, by simp, trivial⟩, Below.refl _ _⟩
    case round =>
      obtain ⟨k, rfl, rfl, hP, hb⟩ := hrel
      have x1 := box_cell hb 2 _ rfl
      have hw128 := hP.wle (by omega)
      have hwz : w.heap.size < wr.heap.size := by have := hb.size; simp at this; omega
      by_cases hkn : k < r.pos.length
      · obtain ⟨p, hp⟩ : ∃ p, r.pos[k]? = some p := ⟨_, List.getElem?_eq_getElem hkn⟩
        obtain ⟨b, off, rfl, hFb, hbs, cs, ⟨av, rfl, pok, ha⟩, hc⟩ := (H.out.pos.kp (Kp.of_below (box_below hb)) (fun _ _ h => h) (fun _ _ h => h.kp (Kp.of_below (box_below hb)) (fun _ _ h => h))).at hp
        have c0 := hc 0 _ rfl
        have c1 := hc 1 _ rfl
        simp only [Nat.add_zero] at c0
        obtain ⟨Aa, ca, rfl⟩ := ha.form
        have hpl := SM.out.pos.2 p (List.mem_of_getElem? hp)
        unfold patSm at hpl
        have CP := Lib.hid (fun W' (hb : Below wr.heap.size wr W') => rpatternW p _ W' (ha.keep (Kp.of_below hb)))
        have e1 : (0 : Int) ≤ (k : Int) := by omega
        have e2 : (k : Int) < (r.pos.length : Int) := by omega
        have HP := Lib.hid hp
        have HH := Lib.hid hP
        have HK := Lib.hid hkn
        have HB := Lib.hid hb
        have HA := Lib.hid ha
        have hc' := Lib.hid hc
        have HFB := Lib.hid hFb
        clear hc hp hP hkn hb ha
        go_wp2_with fail
        refine (CP.out _ (Below.refl _ _)).mono ?_
        rintro e w2 ⟨he, hb2⟩
        by_cases hpt : 0 ≤ p.pred ∧ p.args.length ≤ 8
        case neg =>
          rw [decide_eq_false hpt] at he
          subst he
          have HF := Lib.hid (mayB_false (r := r) (fun hh => hpt (fit_at hh HP.out).2))
          have HBB := Lib.hid (box_step HB.out hb2)
          clear hb2
          go_wp2
          go_ret2
          exact someMay HF.out (box_below HBB.out)
        rw [decide_eq_true hpt] at he
        subst he
        obtain ⟨w0, hw0⟩ : ∃ w0, wAt r k = w0 := ⟨_, rfl⟩
        have HW0 := Lib.hid hw0
        rw [hw0] at hw128 ⊢
        have x1 := (hb2.cell (p := ⟨w.heap.size, 2, none⟩) hwz).trans x1
        have hwz : w.heap.size < w2.heap.size := Nat.lt_of_lt_of_le hwz hb2.size
        have hbs : b < w2.heap.size := Nat.lt_of_lt_of_le hbs hb2.size
        have hc' := Lib.hid (show CsIn w2 b (off + k * 2) [.int .i64 p.pred, .slice Aa p.args.length ca] from fun j u hu => (hb2.cell (p := ⟨b, off + k * 2 + j, none⟩) ‹b < wr.heap.size›).trans (hc'.out j u hu))
        have HA := Lib.hid (HA.out.keep (Kp.of_below hb2))
        have HB := Lib.hid (box_step HB.out hb2)
        clear hw0 hb2 c0 c1 CP
        go_wp2
        obtain ⟨wo, rfl⟩ : ∃ wo : World, wo = w2 := ⟨_, rfl⟩
        go_loopw [4, 6] (fun wd i wr => ∃ j : Nat, i = .int .i64 j ∧ wd = .int .i64 (scanD (p.args.take j) w0) ∧ j ≤ p.args.length ∧ okA (p.args.take j) w0 ∧ Below wo.heap.size wo wr) (fun _ i _ => p.args.length - (intOf i).toNat)
        case atStart => exact ⟨0, rfl, rfl, Nat.zero_le _, trivial, Below.refl _ _⟩
        case round =>
          obtain ⟨j, rfl, rfl, hj, hok, hb2⟩ := hrel
          have x1' := (hb2.cell (p := ⟨w.heap.size, 2, none⟩) hwz).trans x1
          have hwz' : w.heap.size < wr.heap.size := Nat.lt_of_lt_of_le hwz hb2.size
          have hC2 := hc'.out.kp (F := fun _ => True) (Kp.of_below hb2) hbs trivial
          have c1' := hC2 1 _ rfl
          have hlen := scanD_len (p.args.take j) w0
          have hlj : (p.args.take j).length ≤ j := List.length_take_le _ _
          have HB2 := Lib.hid hb2
          clear x1 hC2
          by_cases hjn : j < p.args.length
          · obtain ⟨s, hs⟩ : ∃ s, p.args[j]? = some s := ⟨_, List.getElem?_eq_getElem hjn⟩
            obtain ⟨b', off', hAe, hF', hbs', cs', ⟨rfl, sok⟩, hc2⟩ := (HA.out.keep (Kp.of_below hb2)).at hs
            subst hAe
            have d0 := hc2 0 _ rfl
            have d1 := hc2 1 _ rfl
            simp only [Nat.add_zero] at d0
            obtain ⟨sv, sn⟩ := s
            simp only at d0 d1
            have f1 : (0 : Int) ≤ (j : Int) := by omega
            have f2 : (j : Int) < (p.args.length : Int) := by omega
            have hbb : b' < wr.heap.size := hbs'
            have hbb2 : b < wr.heap.size := Nat.lt_of_lt_of_le hbs hb2.size
            obtain ⟨wc, hwc⟩ : ∃ wc, scanD (p.args.take j) w0 = wc := ⟨_, rfl⟩
            have HWC := Lib.hid hwc
            have HOK := Lib.hid hok
            have HJ := Lib.hid hjn
            have HS := Lib.hid hs
            rw [hwc] at hlen ⊢
            have hwc2 : wc ≤ 1048704 := by omega
            clear hwc hlen hok hc2 hs hjn hlj hb2
            by_cases h0 : sn < 0
            · have HF := Lib.hid (mayB_false (r := r) (fun hh => by have := (okA_at (fit_at hh HP.out).1 HS.out).1; simp only at this; omega))
              go_wp2
              go_ret2
              exact someMay HF.out (((box_below HB.out).trans (HB2.out.mono (by omega))).trans (((Below.refl _ _).alloc (Nat.le_refl _) _).mono (by omega)))
            · have HW2 := Lib.hid (HB2.out.trans (((Below.refl wr.heap.size wr).alloc (Nat.le_refl _) (.cells #[.bool sv, .int .i64 sn] 50)).mono HB2.out.size))
              cases sv with
              | false =>
                have HX := Lib.hid (show scanD (p.args.take (j + 1)) w0 = wc by rw [scanD_succ HS.out, if_neg (by simp)]; exact HWC.out)
                have HO := Lib.hid (okA_snoc HS.out HOK.out (by simp only; omega) (by simp))
                go_wp2
                exact ⟨⟨j + 1, by go_num, by rw [HX.out], HJ.out, HO.out, HW2.out⟩, by simp [intOf]; have := HJ.out; omega⟩
              | true =>
                by_cases h1 : (wc : Int) < sn
                · have HF := Lib.hid (mayB_false (r := r) (fun hh => by
                    have h2 := (okA_at (fit_at hh HP.out).1 HS.out).2 rfl
                    rw [HW0.out, HWC.out] at h2
                    simp only at h2
                    omega))
                  go_wp2
                  go_ret2
                  exact someMay HF.out (((box_below HB.out).trans (HB2.out.mono (by omega))).trans (((Below.refl _ _).alloc (Nat.le_refl _) _).mono (by omega)))
                · have HO := Lib.hid (okA_snoc HS.out HOK.out (by simp only; omega) (fun _ => by rw [HWC.out]; simp only; omega))
                  by_cases h2 : sn = (wc : Int)
                  · have HX := Lib.hid (show scanD (p.args.take (j + 1)) w0 = wc + 1 by rw [scanD_succ HS.out, HWC.out, if_pos ⟨rfl, h2⟩])
                    have h2b : (sn == (wc : Int)) = true := by simpa using h2
                    clear h2
                    go_wp2
                    exact ⟨⟨j + 1, by go_num, by rw [HX.out]; go_num, HJ.out, HO.out, HW2.out⟩, by simp [intOf]; have := HJ.out; omega⟩
                  · have HX := Lib.hid (show scanD (p.args.take (j + 1)) w0 = wc by rw [scanD_succ HS.out, HWC.out, if_neg (fun h => h2 h.2)])
                    have h2b : (sn == (wc : Int)) = false := by simpa using h2
                    clear h2
                    go_wp2
                    exact ⟨⟨j + 1, by go_num, by rw [HX.out], HJ.out, HO.out, HW2.out⟩, by simp [intOf]; have := HJ.out; omega⟩
          · obtain rfl : j = p.args.length := by omega
            rw [List.take_length] at hok ⊢
            have hbb2 : b < wr.heap.size := Nat.lt_of_lt_of_le hbs hb2.size
            have c0' := hc'.out.kp (F := fun _ => True) (Kp.of_below hb2) hbs trivial 0 _ rfl
            simp only [Nat.add_zero] at c0'
            have HOK := Lib.hid hok
            have HBB := Lib.hid (box_step HB.out hb2)
            clear hok hb2 hjn hlj
            have N := HH.out.next HP.out hpt.1 hpt.2 (by rw [HW0.out]; exact HOK.out)
            rw [HW0.out] at N
            have N1 := Lib.hid N.1
            have N2 := Lib.hid N.2
            clear N
            go_wp2
            exact ⟨⟨k + 1, by go_num, by rw [N2.out], N1.out, HBB.out⟩, by simp [intOf]; have := HK.out; omega⟩
      · obtain rfl : k = r.pos.length := by have := hP.le; omega
        have hP' : okA (r.pos.flatMap Pat.args) 0 ∧ ∀ p ∈ r.pos, 0 ≤ p.pred ∧ p.args.length ≤ 8 := by
          have h1 := hP.ok
          have h2 := hP.pats
          rw [List.take_length] at h1 h2
          exact ⟨h1, h2⟩
        obtain ⟨wn, hwn⟩ : ∃ wn, wAt r r.pos.length = wn := ⟨_, rfl⟩
        have HW := Lib.hid (show scanD (r.pos.flatMap Pat.args) 0 = wn by unfold wAt at hwn; rw [List.take_length] at hwn; exact hwn)
        rw [hwn] at hw128 ⊢
        have HP := Lib.hid hP'
        have HB := Lib.hid hb
        clear hwn hP' hP hb hkn
        by_cases h16 : 16 < wn
        · have HF := Lib.hid (mayB_false (r := r) (fun ⟨w', hh⟩ => by have h1 := hh.wid; have h2 := hh.w16; rw [HW.out] at h1; omega))
          go_wp2
          go_ret2
          exact someMay HF.out (box_below HB.out)
        go_wp2
        clear x1 hwz
        obtain ⟨wo, rfl⟩ : ∃ wo : World, wo = wr := ⟨_, rfl⟩
        go_loopw [8] (fun i wr => ∃ k : Nat, i = .int .i64 k ∧ k ≤ r.tests.length ∧ (∀ t ∈ r.tests.take k, 1 ≤ t.op ∧ t.op ≤ 6 ∧ belowP wn t.l ∧ belowP wn t.r) ∧ Below (w.heap.size + 1) (w.alloc (.cells #[.int .i64 r.head.pred, hv, .slice Ap r.pos.length cp, .slice At r.tests.length ct, .slice An r.neg.length cn, vv, .int .i64 r.clause] 39)) wr) (fun i _ => r.tests.length - (intOf i).toNat)
        case atStart => exact ⟨0, rfl, Nat.zero_le _, by simp, HB.out⟩
        case round =>
          obtain ⟨k, rfl, hk, hq, hb⟩ := hrel
          have x1 := box_cell hb 3 _ rfl
          have hwz : w.heap.size < wr.heap.size := by have := hb.size; simp at this; omega
          by_cases hkn : k < r.tests.length
          · obtain ⟨t, ht⟩ : ∃ t, r.tests[k]? = some t := ⟨_, List.getElem?_eq_getElem hkn⟩
            obtain ⟨b, off, rfl, hFb, hbs, cs, ⟨rfl, ok1, ok2, ok3⟩, hc⟩ := (H.out.tests.keep (Kp.of_below (box_below hb))).at ht
            have c0 := hc 0 _ rfl
            have c1 := hc 1 _ rfl
            have c2 := hc 2 _ rfl
            have c3 := hc 3 _ rfl
            have c4 := hc 4 _ rfl
            simp only [Nat.add_zero] at c0
            have e1 : (0 : Int) ≤ (k : Int) := by omega
            have e2 : (k : Int) < (r.tests.length : Int) := by omega
            have HT := Lib.hid ht
            have HQ := Lib.hid hq
            have HK := Lib.hid hkn
            have HBB := Lib.hid hb
            have HM : ∀ h : mayP r, 1 ≤ t.op ∧ t.op ≤ 6 ∧ belowP wn t.l ∧ belowP wn t.r := fun ⟨w', hh⟩ => by
              have := hh.tst t (List.mem_of_getElem? ht)
              rw [← hh.wid, HW.out] at this
              exact this
            have HM' := Lib.hid HM
            clear hc ht hq hkn hb HM
            by_cases h1 : t.op < 1
            · have HF := Lib.hid (mayB_false (r := r) (fun hh => by have := (HM'.out hh).1; omega))
              go_wp2
              go_ret2
              exact someMay HF.out ((box_below HBB.out).trans (((Below.refl _ _).alloc (Nat.le_refl _) _).mono (by omega)))
            · by_cases h2 : 6 < t.op
              · have HF := Lib.hid (mayB_false (r := r) (fun hh => by have := (HM'.out hh).2.1; omega))
                go_wp2
                go_ret2
                exact someMay HF.out ((box_below HBB.out).trans (((Below.refl _ _).alloc (Nat.le_refl _) _).mono (by omega)))
              · by_cases h3 : fitB [⟨t.l.v, t.l.n⟩, ⟨t.r.v, t.r.n⟩] wn = true
                · have HQ2 := Lib.hid (take_all HQ.out HT.out (by
                    simp only [fitB, decide_eq_true_eq] at h3
                    exact ⟨by omega, by omega, h3 _ (by simp), h3 _ (by simp)⟩))
                  have H3 := Lib.hid h3
                  clear h3
                  go_wp2_with (go_at_call 46; refine (rslotsW (F := fun _ => True) [⟨t.l.v, t.l.n⟩, ⟨t.r.v, t.r.n⟩] _ wn _ (lit2 _ _ (by simp) _ _ _ _ _ ok2 ok3)).mono ?_; rintro e w' ⟨he, hbx⟩; rw [show decide (∀ s ∈ [(⟨t.l.v, t.l.n⟩ : Slt), ⟨t.r.v, t.r.n⟩], belowP wn s) = _ from H3.out] at he; subst he; have HBX := Lib.hid hbx; clear hbx)
                  exact ⟨⟨k + 1, by go_num, HK.out, HQ2.out, box_step HBB.out ((((Below.refl _ _).alloc (Nat.le_refl _) _).alloc (by simp) _).trans (HBX.out.mono (by simp; omega)))⟩, by simp [intOf]; have := HK.out; omega⟩
                · have HF := Lib.hid (mayB_false (r := r) (fun hh => h3 (by
                    obtain ⟨_, _, a1, a2⟩ := HM'.out hh
                    exact fitB_true (fun s hs => by
                      simp only [List.mem_cons, List.not_mem_nil, or_false] at hs
                      rcases hs with rfl | rfl
                      · exact a1
                      · exact a2))))
                  have H3 := Lib.hid (Bool.eq_false_iff.2 h3)
                  clear h3
                  go_wp2_with (go_at_call 46; refine (rslotsW (F := fun _ => True) [⟨t.l.v, t.l.n⟩, ⟨t.r.v, t.r.n⟩] _ wn _ (lit2 _ _ (by simp) _ _ _ _ _ ok2 ok3)).mono ?_; rintro e w' ⟨he, hbx⟩; rw [show decide (∀ s ∈ [(⟨t.l.v, t.l.n⟩ : Slt), ⟨t.r.v, t.r.n⟩], belowP wn s) = _ from H3.out] at he; subst he; have HBX := Lib.hid hbx; clear hbx)
                  go_ret2
                  exact someMay HF.out (box_below (box_step HBB.out ((((Below.refl _ _).alloc (Nat.le_refl _) _).alloc (by simp) _).trans (HBX.out.mono (by simp; omega)))))
          · obtain rfl : k = r.tests.length := by omega
            rw [List.take_length] at hq
            have HQ := Lib.hid hq
            have HBB := Lib.hid hb
            clear hq hb HB
            go_wp2
            clear x1 hwz
            obtain ⟨wo2, rfl⟩ : ∃ wo : World, wo = wr := ⟨_, rfl⟩
            go_loopw [10] (fun i wr => ∃ k : Nat, i = .int .i64 k ∧ k ≤ r.neg.length ∧ (∀ p ∈ r.neg.take k, 0 ≤ p.pred ∧ p.args.length ≤ 8 ∧ ∀ s ∈ p.args, belowP wn s) ∧ Below (w.heap.size + 1) (w.alloc (.cells #[.int .i64 r.head.pred, hv, .slice Ap r.pos.length cp, .slice At r.tests.length ct, .slice An r.neg.length cn, vv, .int .i64 r.clause] 39)) wr) (fun i _ => r.neg.length - (intOf i).toNat)
            case atStart => exact ⟨0, rfl, Nat.zero_le _, by simp, HBB.out⟩
            case round =>
              obtain ⟨k, rfl, hk, hq, hb⟩ := hrel
              have x1 := box_cell hb 4 _ rfl
              have hwz : w.heap.size < wr.heap.size := by have := hb.size; simp at this; omega
              clear HBB
              by_cases hkn : k < r.neg.length
              · obtain ⟨p, hp⟩ : ∃ p, r.neg[k]? = some p := ⟨_, List.getElem?_eq_getElem hkn⟩
                obtain ⟨b, off, rfl, hFb, hbs, cs, ⟨av, rfl, pok, ha⟩, hc⟩ := (H.out.neg.kp (Kp.of_below (box_below hb)) (fun _ _ h => h) (fun _ _ h => h.kp (Kp.of_below (box_below hb)) (fun _ _ h => h))).at hp
                have c0 := hc 0 _ rfl
                have c1 := hc 1 _ rfl
                simp only [Nat.add_zero] at c0
                obtain ⟨Aa, ca, rfl⟩ := ha.form
                have e1 : (0 : Int) ≤ (k : Int) := by omega
                have e2 : (k : Int) < (r.neg.length : Int) := by omega
                have HT := Lib.hid hp
                have HQ' := Lib.hid hq
                have HK := Lib.hid hkn
                have HBB := Lib.hid hb
                have HA := Lib.hid ha
                have HM : ∀ h : mayP r, 0 ≤ p.pred ∧ p.args.length ≤ 8 ∧ ∀ s ∈ p.args, belowP wn s := fun ⟨w', hh⟩ => by
                  have := hh.ngs p (List.mem_of_getElem? hp)
                  rw [← hh.wid, HW.out] at this
                  exact this
                have HM' := Lib.hid HM
                clear hc hp hq hkn hb ha HM
                have CP := Lib.hid (fun W' (hb : Below wr.heap.size wr W') => rpatternW p _ W' (HA.out.keep (Kp.of_below hb)))
                have CS := Lib.hid (fun W' (hb : Below wr.heap.size wr W') => rslotsW p.args _ wn W' (HA.out.keep (Kp.of_below hb)))
                go_wp2_with fail
                refine (CP.out _ (Below.refl _ _)).mono ?_
                rintro e w2 ⟨he, hb2⟩
                have HB2 := Lib.hid hb2
                have HBB2 := Lib.hid (box_step HBB.out hb2)
                have x1 := (hb2.cell (p := ⟨w.heap.size, 4, none⟩) hwz).trans x1
                have c0 := (hb2.cell (p := ⟨b, off + k * 2, none⟩) hbs).trans c0
                have c1 := (hb2.cell (p := ⟨b, off + k * 2 + 1, none⟩) hbs).trans c1
                have hwz : w.heap.size < w2.heap.size := Nat.lt_of_lt_of_le hwz hb2.size
                have hbs : b < w2.heap.size := Nat.lt_of_lt_of_le hbs hb2.size
                clear hb2
                by_cases hpt : 0 ≤ p.pred ∧ p.args.length ≤ 8
                · rw [decide_eq_true hpt] at he
                  subst he
                  by_cases h3 : fitB p.args wn = true
                  · have HQ2 := Lib.hid (take_all HQ'.out HT.out (by
                      simp only [fitB, decide_eq_true_eq] at h3
                      exact ⟨hpt.1, hpt.2, h3⟩))
                    have H3 := Lib.hid h3
                    clear h3
                    go_wp2_with (go_at_call 46; refine (CS.out _ HB2.out).mono ?_; rintro e w' ⟨he, hbx⟩; rw [show decide (∀ s ∈ p.args, belowP wn s) = _ from H3.out] at he; subst he; have HBX := Lib.hid hbx; clear hbx)
                    exact ⟨⟨k + 1, by go_num, HK.out, HQ2.out, box_step HBB2.out HBX.out⟩, by simp [intOf]; have := HK.out; omega⟩
                  · have HF := Lib.hid (mayB_false (r := r) (fun hh => h3 (fitB_true (HM'.out hh).2.2)))
                    have H3 := Lib.hid (Bool.eq_false_iff.2 h3)
                    clear h3
                    go_wp2_with (go_at_call 46; refine (CS.out _ HB2.out).mono ?_; rintro e w' ⟨he, hbx⟩; rw [show decide (∀ s ∈ p.args, belowP wn s) = _ from H3.out] at he; subst he; have HBX := Lib.hid hbx; clear hbx)
                    go_ret2
                    exact someMay HF.out (box_below (box_step HBB2.out HBX.out))
                · rw [decide_eq_false hpt] at he
                  subst he
                  have HF := Lib.hid (mayB_false (r := r) (fun hh => hpt ⟨(HM'.out hh).1, (HM'.out hh).2.1⟩))
                  go_wp2
                  go_ret2
                  exact someMay HF.out (box_below HBB2.out)
              · obtain rfl : k = r.neg.length := by omega
                rw [List.take_length] at hq
                have HBB := Lib.hid hb
                have HF := Lib.hid (mayB_true (r := r) ⟨wn, ⟨by omega, HP.out.2, HP.out.1, HW.out, by omega, HQ.out, hq⟩⟩)
                clear hq hb
                go_wp2
                go_ret2
                exact someMay HF.out (box_below HBB.out)
end Go.Proofs.Ytonkbjdeaneicaa

namespace Go.Proofs.Ytonkbjdeaneicaa
open Go.ChangeShapes Go.WideShapes Go.ChangeAt Go.RowKit Go.Deep
open Pln

/-- All lists of a shape, a node are at most n long. -/
def shpSm (n : Nat) (s : Shp) : Prop := s.cells.length ≤ n
def ndSm (n : Nat) (s : Nd) : Prop := s.links.length ≤ n ∧ s.new.length ≤ n
theorem shpSm.mono {m n : Nat} {p : Shp} (h : m ≤ n) (hp : shpSm m p) : shpSm n p := Nat.le_trans hp h
theorem ndSm.mono {m n : Nat} {p : Nd} (h : m ≤ n) (hp : ndSm m p) : ndSm n p := ⟨Nat.le_trans hp.1 h, Nat.le_trans hp.2 h⟩
structure plSm (n : Nat) (al : List Shp) (ns : List Nd) (es : List Int) : Prop where
  al : al.length ≤ n ∧ ∀ s ∈ al, shpSm n s
  ns : ns.length ≤ n ∧ ∀ s ∈ ns, ndSm n s
  en : es.length ≤ n
/-- v is a plan. -/
structure RPl (F : Nat → Prop) (w : World) (av nv ev : Value) (al : List Shp) (ns : List Nd) (es : List Int) : Prop where
  al : RSl F w 2 (EShp F w) av al
  ns : RSl F w 11 (ENode F w) nv ns
  en : RSl F w 1 EInt ev es
theorem RPl.kp {F F' : Nat → Prop} {w w' : World} {av nv ev : Value} {al : List Shp} {ns : List Nd} {es : List Int} (h : RPl F w av nv ev al ns es) (hk : Kp F w w') (hF : ∀ b, b < w.heap.size → F b → F' b) : RPl F' w' av nv ev al ns es :=
  ⟨h.al.kp hk hF (fun _ _ h => h.kp hk hF), h.ns.kp hk hF (fun _ _ h => h.kp hk hF), h.en.kp hk hF (fun _ _ h => h)⟩
theorem RPl.below {F : Nat → Prop} {w w' : World} {av nv ev : Value} {al : List Shp} {ns : List Nd} {es : List Int} (h : RPl F w av nv ev al ns es) (hb : Below w.heap.size w w') : RPl F w' av nv ev al ns es := h.kp (Kp.of_below hb) (fun _ _ h => h)
section
variable {H : Type} {enc : TypeId × Value → H} {w : World} {base : Nat} {spare : Nat → Bool} {held : Bool} {fuel : Nat} {cs : List Value} {x : DataW H × List MemPlace}
theorem cLnkR : Try.prog.cellsOf 83 = 2 := by kernel_rfl
theorem cShpR : Try.prog.cellsOf 79 = 2 := by kernel_rfl
theorem cNdR : Try.prog.cellsOf 54 = 11 := by kernel_rfl
theorem cPlR : Try.prog.cellsOf 27 = 3 := by kernel_rfl
theorem cSInt : Try.prog.cellsOf 25 = 1 := by kernel_rfl
theorem cSLnk : Try.prog.cellsOf 48 = 1 := by kernel_rfl
theorem cSShp : Try.prog.cellsOf 23 = 1 := by kernel_rfl
theorem cSNd : Try.prog.cellsOf 24 = 1 := by kernel_rfl
theorem list_eleven {α : Type} {l : List α} (h : l.length = 11) : ∃ a b c d e f g h i j k, l = [a, b, c, d, e, f, g, h, i, j, k] := by
  match l, h with
  | [a, b, c, d, e, f, g, h, i, j, k], _ => exact ⟨a, b, c, d, e, f, g, h, i, j, k, rfl⟩

theorem open_int (h : DataW.trod enc Try.prog w base spare held fuel 3 cs = some x) : ∃ s : Int, EInt cs s ∧ True := by
  obtain ⟨k, hk, _, wk⟩ := DataW.trod_int Try.underlying3 h
  exact ⟨k, ⟨hk, wk⟩, trivial⟩
theorem open_ints {v : Value} (h : DataW.trod enc Try.prog w base spare held fuel 25 [v] = some x) : ∃ xs : List Int, RSl (fun b => b < w.heap.size) w 1 EInt v xs ∧ xs.length ≤ Rows.uptoBulk x.1 := by
  obtain ⟨xs, r1, r2, _⟩ := open_rsl (E := EInt) (Sm := fun _ _ => True) (fun _ _ _ _ _ => trivial) Try.underlying25 cIntR (by decide) (fun _ _ _ h => open_int h) h
  exact ⟨xs, r1, r2⟩
theorem open_lnk (h : DataW.trod enc Try.prog w base spare held fuel 83 cs = some x) : ∃ s : Int × Int, ELnk cs s ∧ True := by
  obtain ⟨ys, n, _, _, hlen, hyl, hf⟩ := DataW.trod_struct Try.underlying83 h
  rw [cLnkR] at hlen
  obtain ⟨a, b, rfl⟩ := list_two hlen
  obtain ⟨y0, y1, rfl⟩ := list_two (show ys.length = 2 from hyl)
  have g0 := hf 0 _ rfl
  change DataW.trod enc Try.prog w base spare held n 3 (List.take (Try.prog.cellsOf 3) (List.drop 0 [a, b])) = some y0 at g0
  rw [cIntR] at g0
  have g1 := hf 1 _ rfl
  change DataW.trod enc Try.prog w base spare held n 3 (List.take (Try.prog.cellsOf 3) (List.drop 1 [a, b])) = some y1 at g1
  rw [cIntR] at g1
  simp only [List.drop_zero, List.take_succ_cons, List.take_zero, List.drop_succ_cons] at g0 g1
  obtain ⟨v, hv, _, wv⟩ := DataW.trod_int Try.underlying3 g0
  obtain ⟨k, hk, _, wk⟩ := DataW.trod_int Try.underlying3 g1
  simp only [List.cons.injEq, and_true] at hv hk
  subst hv; subst hk
  exact ⟨(v, k), ⟨rfl, wv, wk⟩, trivial⟩
theorem open_shp (h : DataW.trod enc Try.prog w base spare held fuel 79 cs = some x) : ∃ p : Shp, EShp (fun b => b < w.heap.size) w cs p ∧ shpSm (Rows.uptoBulk x.1) p := by
  obtain ⟨ys, n, _, hx, hlen, hyl, hf⟩ := DataW.trod_struct Try.underlying79 h
  rw [cShpR] at hlen
  obtain ⟨a, b, rfl⟩ := list_two hlen
  obtain ⟨y0, y1, rfl⟩ := list_two (show ys.length = 2 from hyl)
  have g0 := hf 0 _ rfl
  change DataW.trod enc Try.prog w base spare held n 3 (List.take (Try.prog.cellsOf 3) (List.drop 0 [a, b])) = some y0 at g0
  rw [cIntR] at g0
  have g1 := hf 1 _ rfl
  change DataW.trod enc Try.prog w base spare held n 25 (List.take (Try.prog.cellsOf 25) (List.drop 1 [a, b])) = some y1 at g1
  rw [cSInt] at g1
  simp only [List.drop_zero, List.take_succ_cons, List.take_zero, List.drop_succ_cons] at g0 g1
  obtain ⟨k, hk, _, wk⟩ := DataW.trod_int Try.underlying3 g0
  simp only [List.cons.injEq, and_true] at hk
  subst hk
  obtain ⟨xs, r1, r2⟩ := open_ints g1
  refine ⟨⟨k, xs⟩, ⟨b, rfl, wk, r1⟩, ?_⟩
  have := bulk_part (d := x.1) (by rw [hx]) (show y1 ∈ [y0, y1] by simp)
  exact Nat.le_trans r2 this
theorem open_nd (h : DataW.trod enc Try.prog w base spare held fuel 54 cs = some x) : ∃ r : Nd, ENode (fun b => b < w.heap.size) w cs r ∧ ndSm (Rows.uptoBulk x.1) r := by
  obtain ⟨ys, n, _, hx, hlen, hyl, hf⟩ := DataW.trod_struct Try.underlying54 h
  rw [cNdR] at hlen
  obtain ⟨a, b, c, d, e, f, g, p, q, r, s, rfl⟩ := list_eleven hlen
  obtain ⟨y0, y1, y2, y3, y4, y5, y6, rfl⟩ := list_seven (show ys.length = 7 from hyl)
  have g0 := hf 0 _ rfl
  change DataW.trod enc Try.prog w base spare held n 3 (List.take (Try.prog.cellsOf 3) (List.drop 0 [a, b, c, d, e, f, g, p, q, r, s])) = some y0 at g0
  rw [cIntR] at g0
  have g1 := hf 1 _ rfl
  change DataW.trod enc Try.prog w base spare held n 3 (List.take (Try.prog.cellsOf 3) (List.drop 1 [a, b, c, d, e, f, g, p, q, r, s])) = some y1 at g1
  rw [cIntR] at g1
  have g2 := hf 2 _ rfl
  change DataW.trod enc Try.prog w base spare held n 3 (List.take (Try.prog.cellsOf 3) (List.drop 2 [a, b, c, d, e, f, g, p, q, r, s])) = some y2 at g2
  rw [cIntR] at g2
  have g3 := hf 3 _ rfl
  change DataW.trod enc Try.prog w base spare held n 48 (List.take (Try.prog.cellsOf 48) (List.drop 3 [a, b, c, d, e, f, g, p, q, r, s])) = some y3 at g3
  rw [cSLnk] at g3
  have g4 := hf 4 _ rfl
  change DataW.trod enc Try.prog w base spare held n 25 (List.take (Try.prog.cellsOf 25) (List.drop 4 [a, b, c, d, e, f, g, p, q, r, s])) = some y4 at g4
  rw [cSInt] at g4
  have g5 := hf 5 _ rfl
  change DataW.trod enc Try.prog w base spare held n 52 (List.take (Try.prog.cellsOf 52) (List.drop 5 [a, b, c, d, e, f, g, p, q, r, s])) = some y5 at g5
  rw [cTstR] at g5
  have g6 := hf 6 _ rfl
  change DataW.trod enc Try.prog w base spare held n 3 (List.take (Try.prog.cellsOf 3) (List.drop 10 [a, b, c, d, e, f, g, p, q, r, s])) = some y6 at g6
  rw [cIntR] at g6
  simp only [List.drop_zero, List.take_succ_cons, List.take_zero, List.drop_succ_cons] at g0 g1 g2 g3 g4 g5 g6
  obtain ⟨k0, h0, _, w0⟩ := DataW.trod_int Try.underlying3 g0
  obtain ⟨k1, h1, _, w1⟩ := DataW.trod_int Try.underlying3 g1
  obtain ⟨k2, h2, _, w2⟩ := DataW.trod_int Try.underlying3 g2
  obtain ⟨ls, l1, l2, _⟩ := open_rsl (E := ELnk) (Sm := fun _ _ => True) (fun _ _ _ _ _ => trivial) Try.underlying48 cLnkR (by decide) (fun _ _ _ h => open_lnk h) g3
  obtain ⟨nw, n1, n2⟩ := open_ints g4
  obtain ⟨t, ⟨h5, t1, t2, t3⟩, _⟩ := open_tst g5
  obtain ⟨k6, h6, _, w6⟩ := DataW.trod_int Try.underlying3 g6
  simp only [List.cons.injEq, and_true] at h0 h1 h2 h5 h6
  obtain ⟨rfl, rfl, rfl, rfl, rfl⟩ := h5
  subst h0; subst h1; subst h2; subst h6
  have B : ∀ y ∈ [y0, y1, y2, y3, y4, y5, y6], Rows.uptoBulk y.1 ≤ Rows.uptoBulk x.1 := fun y hy => bulk_part (d := x.1) (by rw [hx]) hy
  exact ⟨⟨k0, k1, k2, ls, nw, t, k6⟩, ⟨d, e, ⟨rfl, ⟨w0, w1, w2, w6, t1, t2, t3⟩, l1, n1⟩⟩, ⟨Nat.le_trans l2 (B y3 (by simp)), Nat.le_trans n2 (B y4 (by simp))⟩⟩
theorem open_plan (h : DataW.trod enc Try.prog w base spare held fuel 27 cs = some x) : ∃ av nv ev al ns es, cs = [av, nv, ev] ∧ RPl (fun b => b < w.heap.size) w av nv ev al ns es ∧ plSm (Rows.uptoBulk x.1) al ns es := by
  obtain ⟨ys, n, _, hx, hlen, hyl, hf⟩ := DataW.trod_struct Try.underlying27 h
  rw [cPlR] at hlen
  obtain ⟨a, b, c, rfl⟩ := list_three hlen
  obtain ⟨y0, y1, y2, rfl⟩ := list_three (show ys.length = 3 from hyl)
  have g0 := hf 0 _ rfl
  change DataW.trod enc Try.prog w base spare held n 23 (List.take (Try.prog.cellsOf 23) (List.drop 0 [a, b, c])) = some y0 at g0
  rw [cSShp] at g0
  have g1 := hf 1 _ rfl
  change DataW.trod enc Try.prog w base spare held n 24 (List.take (Try.prog.cellsOf 24) (List.drop 1 [a, b, c])) = some y1 at g1
  rw [cSNd] at g1
  have g2 := hf 2 _ rfl
  change DataW.trod enc Try.prog w base spare held n 25 (List.take (Try.prog.cellsOf 25) (List.drop 2 [a, b, c])) = some y2 at g2
  rw [cSInt] at g2
  simp only [List.drop_zero, List.take_succ_cons, List.take_zero, List.drop_succ_cons] at g0 g1 g2
  obtain ⟨al, a1, a2, a3⟩ := open_rsl (E := EShp (fun b => b < w.heap.size) w) (Sm := shpSm) (fun _ _ _ h h' => h'.mono h) Try.underlying23 cShpR (by decide) (fun _ _ _ h => open_shp h) g0
  obtain ⟨ns, n1, n2, n3⟩ := open_rsl (E := ENode (fun b => b < w.heap.size) w) (Sm := ndSm) (fun _ _ _ h h' => h'.mono h) Try.underlying24 cNdR (by decide) (fun _ _ _ h => open_nd h) g1
  obtain ⟨es, e1, e2⟩ := open_ints g2
  have B : ∀ y ∈ [y0, y1, y2], Rows.uptoBulk y.1 ≤ Rows.uptoBulk x.1 := fun y hy => bulk_part (d := x.1) (by rw [hx]) hy
  have b0 := B y0 (by simp); have b1 := B y1 (by simp); have b2 := B y2 (by simp)
  exact ⟨a, b, c, al, ns, es, rfl, ⟨a1, n1, e1⟩, ⟨⟨Nat.le_trans a2 b0, fun p hp => (a3 p hp).mono b0⟩, ⟨Nat.le_trans n2 b1, fun p hp => (n3 p hp).mono b1⟩, Nat.le_trans e2 b2⟩⟩
end
end Go.Proofs.Ytonkbjdeaneicaa
