/- pattern: the node below u for a pattern. Compile: the network of rules. -/
import Derived.Test.YtonkbjdeaneicaaDoorKpa14
import Derived.Test.YtonkbjdeaneicaaDoorKpa18
namespace Go.Proofs.YtonkbjdeaneicaaDoor
open Go.RowKit Pln Classical Go.Maps

theorem idxP_first (n : Int) : ∀ args : List Slt, idxP (sameV n) args = firstV args n
  | [] => rfl
  | s :: r => by
    unfold idxP firstV
    rw [idxP_first n r]
    have e : (sameV n s = true) ↔ (s.v = true ∧ s.n = n) := by simp [sameV]
    by_cases h : s.v = true ∧ s.n = n
    · rw [if_pos (e.2 h), if_pos h]
    · rw [if_neg (fun hh => h (e.1 hh)), if_neg h]
theorem idxI_first {args : List Slt} {k : Nat} {n : Int} (h : args[k]? = some ⟨true, n⟩) : idxI (sameV n) args = firstV args n := by
  have h1 := firstV_le h rfl
  have h2 := (List.getElem?_eq_some_iff.1 h).1
  unfold idxI
  rw [idxP_first, if_pos (by simp only at h1; omega)]
theorem linksK_len (args : List Slt) (w : Int) : ∀ k, (linksK args w k).length ≤ k
  | 0 => by simp [linksK_zero]
  | k + 1 => by
    rw [linksK_succ, List.length_append]
    have := linksK_len args w k
    have h2 : (linkAt args w k).length ≤ 1 := by
      unfold linkAt
      split
      · split <;> simp
      · simp
    omega
theorem newK_len (args : List Slt) (w : Int) : ∀ k, (newK args w k).length ≤ k
  | 0 => by simp [newK_zero]
  | k + 1 => by
    rw [newK_succ, List.length_append]
    have := newK_len args w k
    have h2 : (newAt args w k).length ≤ 1 := by
      unfold newAt
      split
      · split <;> simp
      · simp
    omega
theorem linksK_mem {args : List Slt} {w : Int} {k : Nat} {l : Int × Int} (h : l ∈ linksK args w k) : ∃ i s, i < k ∧ args[i]? = some s ∧ l = ((i : Int), s.n) := by
  unfold linksK at h
  obtain ⟨i, hi, hl⟩ := List.mem_flatMap.1 h
  unfold linkAt at hl
  split at hl
  · rename_i s hs
    split at hl
    · exact ⟨i, s, List.mem_range.1 hi, hs, List.mem_singleton.1 hl⟩
    · simp at hl
  · simp at hl
theorem newK_mem {args : List Slt} {w : Int} {k : Nat} {x : Int} (h : x ∈ newK args w k) : ∃ i : Nat, i < k ∧ x = (i : Int) := by
  unfold newK at h
  obtain ⟨i, hi, hl⟩ := List.mem_flatMap.1 h
  unfold newAt at hl
  split at hl
  · split at hl
    · exact ⟨i, List.mem_range.1 hi, List.mem_singleton.1 hl⟩
    · simp at hl
  · simp at hl

/-- The node on its way, behind k places. -/
structure PtSt (wo wr : World) (kd u al : Int) (args : List Slt) (w : Int) (lv nv : Value) (k : Nat) : Prop where
  blk : wr.heap[wo.heap.size]? = some (.cells #[.int .i64 kd, .int .i64 u, .int .i64 al, lv, nv, .int .i64 0, .bool false, .int .i64 0, .bool false, .int .i64 0, .int .i64 0] 40 (0, 0))
  lo : OwnF (fun _ => False) (wo.heap.size + 1) wr 56 cdLnk lv (linksK args w k)
  no : OwnF (fun _ => False) (wo.heap.size + 1) wr 3 cdInt nv (newK args w k)
  below : Below wo.heap.size wo wr
section
variable {wo wr wr' w2 : World} {kd u al : Int} {args : List Slt} {w : Int} {lv nv : Value} {k : Nat}
theorem PtSt.lt (h : PtSt wo wr kd u al args w lv nv k) : wo.heap.size < wr.heap.size := lt_of_heap h.blk
theorem PtSt.step (h : PtSt wo wr kd u al args w lv nv k) (hb : Below wr.heap.size wr wr') : PtSt wo wr' kd u al args w lv nv k :=
  ⟨(hb.block _ h.lt).trans h.blk, h.lo.below hb, h.no.below hb, h.below.trans (hb.mono h.below.size)⟩
theorem PtSt.apart (h : PtSt wo wr kd u al args w lv nv k) {b : Nat} (h1 : lv.ownBlock = some b) (h2 : nv.ownBlock = some b) : False := by
  obtain ⟨_, _, c1, e1⟩ := h.lo.block h1
  obtain ⟨_, _, c2, e2⟩ := h.no.block h2
  rw [e1] at e2
  simp at e2
theorem PtSt.putL (h : PtSt wo wr kd u al args w lv nv k) {lv' : Value} {x : Int × Int} (ht : Turns lv.ownBlock.toList wr w2) (ho : OwnF (fun _ => False) (wo.heap.size + 1) w2 56 cdLnk lv' (linksK args w k ++ [x])) (hl : linkAt args w k = [x]) (hn : newAt args w k = []) :
    PtSt wo (w2.setCell ⟨wo.heap.size, 3, none⟩ lv') kd u al args w lv' nv (k + 1) := by
  have hn0 : wo.heap.size ∉ lv.ownBlock.toList := fun hm => by have := (h.lo.block (by simpa using hm)).1; omega
  refine ⟨heap_setCell_same _ _ 3 _ _ _ ((ht.block _ h.lt hn0).trans h.blk), ?_, ?_, ?_⟩
  · rw [linksK_succ, hl]
    exact ho.keep (S := [wo.heap.size]) ((Turns.refl _ _).setCell (.inl (by simp)) _) (fun b hb => by have := (ho.block hb).1; simp; omega) (by simp) (fun _ _ h => h)
  · rw [newK_succ, hn, List.append_nil]
    exact (h.no.keep ht (fun b hb hm => h.apart (by simpa using hm) hb) (by simp) (fun _ _ h => h)).keep (S := [wo.heap.size]) ((Turns.refl _ _).setCell (.inl (by simp)) _) (fun b hb => by have := (h.no.block hb).1; simp; omega) (by simp) (fun _ _ h => h)
  · exact (h.below.trans (ht.below h.below.size (fun x hx => by have := (h.lo.block (by simpa using hx)).1; omega))).setCell (Nat.le_refl _) _
theorem PtSt.putN (h : PtSt wo wr kd u al args w lv nv k) {nv' : Value} {x : Int} (ht : Turns nv.ownBlock.toList wr w2) (ho : OwnF (fun _ => False) (wo.heap.size + 1) w2 3 cdInt nv' (newK args w k ++ [x])) (hl : linkAt args w k = []) (hn : newAt args w k = [x]) :
    PtSt wo (w2.setCell ⟨wo.heap.size, 4, none⟩ nv') kd u al args w lv nv' (k + 1) := by
  have hn0 : wo.heap.size ∉ nv.ownBlock.toList := fun hm => by have := (h.no.block (by simpa using hm)).1; omega
  refine ⟨heap_setCell_same _ _ 4 _ _ _ ((ht.block _ h.lt hn0).trans h.blk), ?_, ?_, ?_⟩
  · rw [linksK_succ, hl, List.append_nil]
    exact (h.lo.keep ht (fun b hb hm => h.apart hb (by simpa using hm)) (by simp) (fun _ _ h => h)).keep (S := [wo.heap.size]) ((Turns.refl _ _).setCell (.inl (by simp)) _) (fun b hb => by have := (h.lo.block hb).1; simp; omega) (by simp) (fun _ _ h => h)
  · rw [newK_succ, hn]
    exact ho.keep (S := [wo.heap.size]) ((Turns.refl _ _).setCell (.inl (by simp)) _) (fun b hb => by have := (ho.block hb).1; simp; omega) (by simp) (fun _ _ h => h)
  · exact (h.below.trans (ht.below h.below.size (fun x hx => by have := (h.no.block (by simpa using hx)).1; omega))).setCell (Nat.le_refl _) _
theorem PtSt.skip (h : PtSt wo wr kd u al args w lv nv k) (hl : linkAt args w k = []) (hn : newAt args w k = []) : PtSt wo wr kd u al args w lv nv (k + 1) :=
  ⟨h.blk, by rw [linksK_succ, hl, List.append_nil]; exact h.lo, by rw [newK_succ, hn, List.append_nil]; exact h.no, h.below⟩
/-- The node's own block, where a list of its own has turned. -/
theorem PtSt.at2 (h : PtSt wo wr kd u al args w lv nv k) {v : Value} (hv : v = lv ∨ v = nv) (ht : Turns v.ownBlock.toList wr w2) : w2.cell? ⟨wo.heap.size, 3, none⟩ = some lv ∧ w2.cell? ⟨wo.heap.size, 4, none⟩ = some nv ∧ (∀ o, w2.frozen? ⟨wo.heap.size, o, none⟩ = false) ∧ wo.heap.size < w2.heap.size := by
  have hn0 : wo.heap.size ∉ v.ownBlock.toList := fun hm => by
    rcases hv with rfl | rfl
    · have := (h.lo.block (by simpa using hm)).1; omega
    · have := (h.no.block (by simpa using hm)).1; omega
  have e := (ht.block _ h.lt hn0).trans h.blk
  exact ⟨cell_of_row _ _ 3 _ _ _ e, cell_of_row _ _ 4 _ _ _ e, fun o => by simp [World.frozen?, e], lt_of_heap e⟩
end
theorem infoLnk : (Tryd.prog.info? 56).map (fun i => (i.zero, i.size, i.bytes)) = some (some (.agg #[.int .i64 0, .int .i64 0]), 2, 16) := by kernel_rfl
theorem sameV_run (n : Int) (s : Slt) : sameV n s = (s.v && (s.n == n)) := rfl

theorem Mkr.step {base g mb : Nat} {W W' : World} {S : List Nat} {st : St} {es : List Nat} (h : Mkr base g mb W S st es) (hb : Below W.heap.size W W') : Mkr base g mb W' S st es := by
  obtain ⟨av, nv, ev, rfl, hM⟩ := h
  exact ⟨av, nv, ev, rfl, hM.step hb⟩
theorem Mkr.foot {base g mb : Nat} {W : World} {S : List Nat} {st : St} {es : List Nat} (h : Mkr base g mb W S st es) : base ≤ W.heap.size ∧ ∀ x ∈ S, base ≤ x ∧ x < W.heap.size := by
  obtain ⟨av, nv, ev, rfl, hM⟩ := h
  exact ⟨by have := hM.foot_lt g mfoot_g; omega, hM.foot_lt⟩
theorem MkrTo.after {base g mb : Nat} {W W1 W2 : World} {S S1 : List Nat} {st : St} {es : List Nat} (ht : Turns S W W1) (hs : ∀ b ∈ S1, b ∈ S ∨ W.heap.size ≤ b) (h : MkrTo base g mb W1 S1 st es W2) : MkrTo base g mb W S st es W2 := by
  obtain ⟨S2, h1, h2, h3⟩ := h
  refine ⟨S2, h1, ht.trans h2 hs, fun b hb => ?_⟩
  rcases h3 b hb with h4 | h4
  · exact hs b h4
  · exact .inr (Nat.le_trans ht.size h4)

set_option maxRecDepth 200000 in
set_option maxHeartbeats 8000000 in
theorem patternW {base g mb : Nat} {W : World} {S : List Nat} {st : St} {es : List Nat} (h : Mkr base g mb W S st es) (kd : Int) (hkd : kd = 1 ∨ kd = 3) (u : Nat) (hu : u < st.ns.length) (wd : Nat) (hwd : widthAt st u = wd) (hwd2 : wd ≤ 1000)
    {F : Nat → Prop} (hFb : ∀ b, F b → b < base) (p : Pat) (v : Value) (hp : RSl F W 2 ESlt v p.args) (pok : i64ok p.pred) (h0 : 0 ≤ p.pred) (hn : ∀ s ∈ p.args, 0 ≤ s.n) (h8 : p.args.length ≤ 8) (hal : st.al.length ≤ 20000000) (hns : st.ns.length ≤ 20000000) :
    Calls Tryd.prog 43 #[.pointer (some ⟨g, 0, none⟩), .int .i64 kd, .int .i64 u, .agg #[.int .i64 p.pred, v]] W fun e W' => e = .returned (.int .i64 (patF kd (u, st) p).1) ∧ MkrTo base g mb W S (patF kd (u, st) p).2 es W' := by
  obtain ⟨A, c, rfl⟩ := hp.form
  obtain ⟨av, nv, ev, rfl, hM⟩ := h
  obtain ⟨A0, C0, rfl⟩ := hM.ns.form
  obtain ⟨nd, hnd⟩ : ∃ nd, st.ns[u]? = some nd := ⟨_, List.getElem?_eq_getElem hu⟩
  have hw : nd.width = (wd : Int) := by unfold widthAt at hwd; rw [hnd] at hwd; exact hwd
  obtain ⟨b, off, hA0, hFb0, hbs, cs, ⟨ln0, nn0, hE⟩, hc⟩ := (hM.ns.rsl (G := fun b => b < W.heap.size) (fun b hb => (hM.ns.block hb).2.1)).at hnd
  subst hA0
  have hcs := hE.cells
  subst hcs
  have c10 : W.cell? ⟨b, off + u * 11 + 10, none⟩ = some (.int .i64 wd) := by rw [← hw]; exact hc 10 _ rfl
  have x1 := hM.cell 1 rfl
  have hgl := hM.lt
  have e1 : (0 : Int) ≤ (u : Int) := by omega
  have e2 : (u : Int) < (st.ns.length : Int) := by omega
  have CM := Lib.hid (fun W' (hb : Below W.heap.size W W') => memoryW (S := mfoot g mb av (.slice (some ⟨b, off, none⟩) st.ns.length C0) ev) ⟨av, _, ev, rfl, hM.step hb⟩ p _ (hp.keep (Kp.of_below hb)) pok h0 hn (by omega) (by omega))
  have HM := Lib.hid hM
  have HP := Lib.hid hp
  have HN := Lib.hid hn
  have HWD := Lib.hid hwd
  have HND := Lib.hid hnd
  clear hM hp hn hc hE hnd hwd hw
  go_enter Tryd.func43, Tryd.ntmps43
  go_wp2_with fail
  refine (CM.out _ ((Below.refl _ _).alloc (Nat.le_refl _) _)).mono ?_
  rintro e w2 ⟨rfl, S2, hM2, hT2, hS2⟩
  obtain ⟨ai, hai⟩ : ∃ ai, placeF st.al (shapeF p) = ai := ⟨_, rfl⟩
  have HAI := Lib.hid hai
  rw [hai]
  have fl := HM.out.foot_lt
  have hW2 : W.heap.size < w2.heap.size := by have := hT2.size; simp at this; omega
  have eb : w2.heap[W.heap.size]? = some (.cells #[.int .i64 p.pred, .slice A p.args.length c] 80 (0, 0)) := (hT2.block _ (by simp) (fun hm => by have := (fl _ hm).2; omega)).trans (heap_alloc_new W _)
  have EB := Lib.hid eb
  have xp1 : w2.cell? ⟨W.heap.size, 1, none⟩ = some (.slice A p.args.length c) := cell_of_row _ _ 1 _ _ _ eb
  have KF : Kp F W w2 := (Kp.of_below ((Below.refl W.heap.size W).alloc (Nat.le_refl _) (.cells #[.int .i64 p.pred, .slice A p.args.length c] 80))).trans (Kp.of_turns hT2 (fun x hx hf => by have h1 := (fl x hx).1; have h2 := hFb x hf; omega))
  have HP2 := Lib.hid (HP.out.keep KF)
  have HM2 := Lib.hid hM2
  have HT2 := Lib.hid (((Turns.refl (mfoot g mb av (.slice (some ⟨b, off, none⟩) st.ns.length C0) ev) W).alloc (.cells #[.int .i64 p.pred, .slice A p.args.length c] 80)).trans hT2 (fun x hx => .inl hx))
  have HS2 := Lib.hid (show ∀ b' ∈ S2, b' ∈ mfoot g mb av (.slice (some ⟨b, off, none⟩) st.ns.length C0) ev ∨ W.heap.size ≤ b' from fun b' hb' => by
    rcases hS2 b' hb' with h1 | h1
    · exact .inl h1
    · exact .inr (by simp at h1; omega))
  have h80 : PtSt w2 (w2.alloc (.cells #[.int .i64 kd, .int .i64 u, .int .i64 ai, .slice none 0 0, .slice none 0 0, .int .i64 0, .bool false, .int .i64 0, .bool false, .int .i64 0, .int .i64 0] 40)) kd u ai p.args wd (.slice none 0 0) (.slice none 0 0) 0 :=
    ⟨heap_alloc_new w2 _, OwnF.nil, OwnF.nil, (Below.refl _ _).alloc (Nat.le_refl _) _⟩
  have H80 := Lib.hid h80
  clear hM2 hT2 hS2 KF eb fl hai h80 x1 c10
  go_wp2_with fail
  go_loopw [32] (fun i wr => ∃ (k : Nat) (lv nv : Value), i = .int .i64 k ∧ k ≤ p.args.length ∧ PtSt w2 wr kd u ai p.args wd lv nv k) (fun i _ => p.args.length - (intOf i).toNat)
  case atStart => exact ⟨0, _, _, rfl, Nat.zero_le _, H80.out⟩
  case round =>
    obtain ⟨k, lv, nv, rfl, hk, hP⟩ := hrel
    obtain ⟨la, lc, rfl⟩ := hP.lo.form
    obtain ⟨na, nc, rfl⟩ := hP.no.form
    have ll := linksK_len p.args (wd : Int) k
    have nl := newK_len p.args (wd : Int) k
    have hwz := hP.lt
    have yp1 : wr.cell? ⟨W.heap.size, 1, none⟩ = some (.slice A p.args.length c) := (hP.below.cell (p := ⟨W.heap.size, 1, none⟩) hW2).trans xp1
    have hWr : W.heap.size < wr.heap.size := by omega
    by_cases hkn : k < p.args.length
    · obtain ⟨s, hs⟩ : ∃ s, p.args[k]? = some s := ⟨_, List.getElem?_eq_getElem hkn⟩
      obtain ⟨b2, off2, rfl, hFb2, hbs2, cs2, ⟨rfl, sok⟩, hc2⟩ := (HP2.out.keep (Kp.of_below hP.below)).at hs
      have d0 := hc2 0 _ rfl
      have d1 := hc2 1 _ rfl
      simp only [Nat.add_zero] at d0
      have hs0 : 0 ≤ s.n := HN.out s (List.mem_of_getElem? hs)
      obtain ⟨sv, sn⟩ := s
      simp only at d0 d1 hs0 sok
      have f1 : (0 : Int) ≤ (k : Int) := by omega
      have f2 : (k : Int) < (p.args.length : Int) := by omega
      have CI := Lib.hid (fun W' (hb : Below (wr.heap.size + 1) (wr.alloc (.cells #[.bool sv, .int .i64 sn] 36)) W') => indexFunc_pattern _ p.args wr.heap.size (sameV sn) W' ((HP2.out.keep (Kp.of_below hP.below)).keep (Kp.of_below (box_below hb)))
        (fun t _ W'' hb'' => pattern1W t sn wr.heap.size W'' ((hb''.cell (p := ⟨wr.heap.size, 1, none⟩) (by have := hb.size; simp at this; exact this)).trans (box_cell hb 1 _ rfl)) (by have h1 := hb.size; have h2 := hb''.size; simp at h1; omega)))
      have HX := Lib.hid hP
      have HS := Lib.hid hs
      have HK := Lib.hid hkn
      clear hc2 hs hkn hP
      go_wp2_with fail
      refine (CI.out _ (Below.refl _ _)).mono ?_
      rintro e w3 ⟨rfl, hb3⟩
      have HX3 := HX.out.step (((Below.refl wr.heap.size wr).alloc (Nat.le_refl _) (.cells #[.bool sv, .int .i64 sn] 36)).trans (hb3.mono (by simp)))
      have z0 := box_cell (hb3.mono (show wr.heap.size + 1 ≤ _ by simp)) 0 _ rfl
      have z1 := box_cell (hb3.mono (show wr.heap.size + 1 ≤ _ by simp)) 1 _ rfl
      have q3 : w3.cell? ⟨w2.heap.size, 3, none⟩ = some (.slice la (linksK p.args wd k).length lc) := cell_of_row _ _ 3 _ _ _ HX3.blk
      have q4 : w3.cell? ⟨w2.heap.size, 4, none⟩ = some (.slice na (newK p.args wd k).length nc) := cell_of_row _ _ 4 _ _ _ HX3.blk
      have hw3 := HX3.lt
      have hw4 : wr.heap.size < w3.heap.size := by have := hb3.size; simp at this; omega
      have HX3' := Lib.hid HX3
      have hbase2 : w2.heap.size + 1 ≤ w3.heap.size := by omega
      clear hb3 HX3 d0 d1
      cases sv with
      | false =>
        have hl : linkAt p.args (wd : Int) k = [] := by unfold linkAt; rw [HS.out]; simp
        have hnn : newAt p.args (wd : Int) k = [] := by unfold newAt; rw [HS.out]; simp
        have N1 := Lib.hid (HX3'.out.skip hl hnn)
        clear hl hnn
        go_wp2
        exact ⟨⟨k + 1, _, _, by go_num, HK.out, N1.out⟩, by simp [intOf]; have := HK.out; omega⟩
      | true =>
        rw [idxI_first HS.out]
        by_cases hf : firstV p.args sn = k
        · have hf2 : (((firstV p.args sn : Nat) : Int) == (k : Int)) = true := by simp; omega
          by_cases hlt : sn < (wd : Int)
          · have hl : linkAt p.args (wd : Int) k = [((k : Int), sn)] := by unfold linkAt; rw [HS.out]; simp [hf, hlt]
            have hnn : newAt p.args (wd : Int) k = [] := by unfold newAt; rw [HS.out]; simp [hlt]
            have HL := Lib.hid (And.intro hl hnn)
            have OKL := Lib.hid (And.intro (okNat (k := k) (by omega)) sok)
            clear hl hnn hf
            go_wp2_with (at_builtin; refine wpList_append_F HX3'.out.lo (fun _ _ h => h) rfl (.tmp 63) (.tmp 68) 34 rfl Tryd.underlying34 infoLnk rfl (by decide) rfl #[.int .i64 k, .int .i64 sn] _ rfl rfl (x := ((k : Int), sn)) ⟨rfl, OKL.out⟩ (by omega) (by decide) hbase2 ?_; intro g' cap w4 ho ht hat hlt4; obtain ⟨t1, t2, t3, t4⟩ := HX3'.out.at2 (.inl rfl) ht; have N1 := Lib.hid (HX3'.out.putL ht (ho _ (fun _ _ h => h)) HL.out.1 HL.out.2); clear ho ht hat hlt4)
            exact ⟨⟨k + 1, _, _, by go_num, HK.out, N1.out⟩, by simp [intOf]; have := HK.out; omega⟩
          · have hl : linkAt p.args (wd : Int) k = [] := by unfold linkAt; rw [HS.out]; simp [hlt]
            have hnn : newAt p.args (wd : Int) k = [(k : Int)] := by unfold newAt; rw [HS.out]; simp [hf]; omega
            have HL := Lib.hid (And.intro hl hnn)
            have OKL := Lib.hid (okNat (k := k) (by omega))
            clear hl hnn hf
            go_wp2_with (at_builtin; refine wpList_append_F HX3'.out.no (fun _ _ h => h) rfl (.tmp 44) (.tmp 46) 24 rfl Tryd.underlying24 infoIntR rfl (by decide) rfl #[.int .i64 k] _ rfl rfl (x := (k : Int)) ⟨rfl, OKL.out⟩ (by omega) (by decide) hbase2 ?_; intro g' cap w4 ho ht hat hlt4; obtain ⟨t1, t2, t3, t4⟩ := HX3'.out.at2 (.inr rfl) ht; have N1 := Lib.hid (HX3'.out.putN ht (ho _ (fun _ _ h => h)) HL.out.1 HL.out.2); clear ho ht hat hlt4)
            exact ⟨⟨k + 1, _, _, by go_num, HK.out, N1.out⟩, by simp [intOf]; have := HK.out; omega⟩
        · have hf2 : (((firstV p.args sn : Nat) : Int) == (k : Int)) = false := by simp; omega
          have hl : linkAt p.args (wd : Int) k = [] := by unfold linkAt; rw [HS.out]; simp [hf]
          have hnn : newAt p.args (wd : Int) k = [] := by unfold newAt; rw [HS.out]; simp [hf]
          have N1 := Lib.hid (HX3'.out.skip hl hnn)
          clear hl hnn hf
          go_wp2
          exact ⟨⟨k + 1, _, _, by go_num, HK.out, N1.out⟩, by simp [intOf]; have := HK.out; omega⟩
    · obtain rfl : k = p.args.length := by omega
      have q0 := cell_of_row _ _ 0 _ _ _ hP.blk
      have q1 := cell_of_row _ _ 1 _ _ _ hP.blk
      have q2 := cell_of_row _ _ 2 _ _ _ hP.blk
      have q3 := cell_of_row _ _ 3 _ _ _ hP.blk
      have q4 := cell_of_row _ _ 4 _ _ _ hP.blk
      have q5 := cell_of_row _ _ 5 _ _ _ hP.blk
      have q6 := cell_of_row _ _ 6 _ _ _ hP.blk
      have q7 := cell_of_row _ _ 7 _ _ _ hP.blk
      have q8 := cell_of_row _ _ 8 _ _ _ hP.blk
      have q9 := cell_of_row _ _ 9 _ _ _ hP.blk
      have q10 := cell_of_row _ _ 10 _ _ _ hP.blk
      simp only [List.getElem?_toArray, List.getElem?_cons_zero, List.getElem?_cons_succ] at q0 q1 q2 q3 q4 q5 q6 q7 q8 q9 q10
      have fz : ∀ o, wr.frozen? ⟨w2.heap.size, o, none⟩ = false := fun o => by have := hP.blk; simp [World.frozen?, this]
      obtain ⟨L, hLd⟩ : ∃ L, linksK p.args (wd : Int) p.args.length = L := ⟨_, rfl⟩
      obtain ⟨M, hMd⟩ : ∃ M, newK p.args (wd : Int) p.args.length = M := ⟨_, rfl⟩
      have hno : nodeOf st kd u p = ⟨kd, u, ai, L, M, noTst, (wd : Int) + M.length⟩ := by
        unfold nodeOf
        rw [HWD.out, HAI.out, hLd, hMd]
      have hLok : ∀ l ∈ L, i64ok l.1 ∧ i64ok l.2 := fun l hl => by
        rw [← hLd] at hl
        obtain ⟨i, s, hi, hs, rfl⟩ := linksK_mem hl
        obtain ⟨_, _, _, _, _, cs', ⟨_, ok'⟩, _⟩ := HP2.out.at hs
        exact ⟨okNat (by omega), ok'⟩
      have hMok : ∀ x ∈ M, i64ok x := fun x hx => by
        rw [← hMd] at hx
        obtain ⟨i, hi, rfl⟩ := newK_mem hx
        exact okNat (by omega)
      have bW : Below w2.heap.size w2 (wr.setCell ⟨w2.heap.size, 10, none⟩ (.int .i64 ((wd : Int) + M.length))) := hP.below.setCell (Nat.le_refl _) _
      have hM3 := HM2.out.step bW
      have ft := HM2.out.foot
      have K : Kp (fun b => w2.heap.size < b) wr (wr.setCell ⟨w2.heap.size, 10, none⟩ (.int .i64 ((wd : Int) + M.length))) := ⟨by simp, fun b _ hb => Below.heap_setCell _ _ _ _ (by simp; omega)⟩
      have hoff : ∀ b, b < wr.heap.size → w2.heap.size < b → Off base S2 b := fun b _ hb => ⟨by omega, fun hm => by have := (ft.2 b hm).2; omega⟩
      have rl := (hP.lo.rsl (G := fun b => w2.heap.size < b) (fun b hb => by have := (hP.lo.block hb).1; omega)).kp K hoff (fun _ _ h => h)
      have rn := (hP.no.rsl (G := fun b => w2.heap.size < b) (fun b hb => by have := (hP.no.block hb).1; omega)).kp K hoff (fun _ _ h => h)
      rw [hLd] at rl ll q3
      rw [hMd] at rn nl q4
      have k1 : i64ok kd := WalkArith.wf_i64 (by omega)
      have k2 : i64ok ((wd : Int) + (M.length : Int)) := WalkArith.wf_i64 (by omega)
      have k3 : ai ≤ st.al.length := by
        have h1 := HAI.out
        rw [← h1]
        by_cases hm : shapeF p ∈ st.al
        · exact Nat.le_of_lt (placeF_lt hm).1
        · rw [placeF_none hm]; exact Nat.le_refl _
      have hN : NdOk ⟨kd, u, ai, L, M, noTst, (wd : Int) + M.length⟩ := ⟨⟨k1, okNat (by omega), okNat (by omega), k2, ok0, ok0, ok0⟩, hLok, hMok, by simp only; omega, by simp only; omega⟩
      have EN : ENd (Off base S2) (wr.setCell ⟨w2.heap.size, 10, none⟩ (.int .i64 ((wd : Int) + M.length))) [.int .i64 kd, .int .i64 u, .int .i64 ai, .slice la L.length lc, .slice na M.length nc, .int .i64 0, .bool false, .int .i64 0, .bool false, .int .i64 0, .int .i64 ((wd : Int) + M.length)] ⟨kd, u, ai, L, M, noTst, (wd : Int) + M.length⟩ (.slice la L.length lc) (.slice na M.length nc) :=
        ⟨rfl, hN.ints, rl, rn⟩
      have CN := Lib.hid (nodeW hM3 ⟨kd, u, ai, L, M, noTst, (wd : Int) + M.length⟩ EN hN (by rcases hkd with rfl | rfl <;> (simp only; decide)) (by simp only; omega))
      have HNO := Lib.hid hno
      have BW := Lib.hid bW
      clear k1 k2 k3 hno hLok hMok bW hM3 K hoff rl rn hN EN hP hLd hMd
      go_wp2_with fail
      refine CN.out.mono ?_
      rintro e w5 ⟨rfl, hT⟩
      go_wp2
      go_ret
      refine ⟨ret_i64 (by simp only [patF]; rw [HNO.out]), ?_⟩
      have := MkrTo.after ((HT2.out.trans (Turns.of_below (S := []) BW.out) (by simp))) HS2.out hT
      simp only [patF]
      rw [HNO.out]
      exact this
end Go.Proofs.YtonkbjdeaneicaaDoor

namespace Go.Proofs.YtonkbjdeaneicaaDoor
open Go.RowKit Pln Classical Go.Maps

theorem sizePlan : (Tryd.prog.info? 26).map (·.size) = some 3 := by kernel_rfl
theorem rootW (w : World) : Calls Tryd.prog 42 #[] w fun e w' => e = .returned (.agg #[.int .i64 0, .int .i64 (-1), .int .i64 (-1), .slice none 0 0, .slice none 0 0, .int .i64 0, .bool false, .int .i64 0, .bool false, .int .i64 0, .int .i64 0]) ∧ Below w.heap.size w w' := by
  go_enter Tryd.func42, Tryd.ntmps42
  go_wp2
  exact bodyPost_ret (v := .agg #[.int .i64 0, .int .i64 (-1), .int .i64 (-1), .slice none 0 0, .slice none 0 0, .int .i64 0, .bool false, .int .i64 0, .bool false, .int .i64 0, .int .i64 0]) (by simp [results, Tryd.results42, go_sem]) rfl ⟨rfl, (Below.refl _ _).alloc (Nat.le_refl _) _⟩
def rootCells : List Value := [.int .i64 0, .int .i64 (-1), .int .i64 (-1), .slice none 0 0, .slice none 0 0, .int .i64 0, .bool false, .int .i64 0, .bool false, .int .i64 0, .int .i64 0]
theorem mkr_start (w : World) : MkAt w.heap.size (w.heap.size + 1 + 1) (w.heap.size + 1) (((w.alloc (.cells rootCells.toArray 40)).alloc (.map #[] 0)).alloc (.cells #[.slice none 0 0, .slice (some ⟨w.heap.size, 0, none⟩) 1 1, .slice none 0 0, .map (some (w.heap.size + 1))] 91)) (.slice none 0 0) (.slice (some ⟨w.heap.size, 0, none⟩) 1 1) (.slice none 0 0) ⟨[], [rootN]⟩ [] := by
  have hr : (((w.alloc (.cells rootCells.toArray 40)).alloc (.map #[] 0)).alloc (.cells #[.slice none 0 0, .slice (some ⟨w.heap.size, 0, none⟩) 1 1, .slice none 0 0, .map (some (w.heap.size + 1))] 91)).heap[w.heap.size]? = some (.cells rootCells.toArray 40 (0, 0)) := by
    rw [Below.heap_alloc _ _ _ (by simp <;> omega), Below.heap_alloc _ _ _ (by simp)]
    exact heap_alloc_new w _
  refine ⟨?_, OwnF.nil, ?_, OwnF.nil, ?_, by omega, by omega, ?_⟩
  · have := heap_alloc_new ((w.alloc (.cells rootCells.toArray 40)).alloc (.map #[] 0)) (.cells #[.slice none 0 0, .slice (some ⟨w.heap.size, 0, none⟩) 1 1, .slice none 0 0, .map (some (w.heap.size + 1))] 91)
    simpa using this
  · refine ⟨rootCells, ⟨rfl, .inr ⟨w.heap.size, 1, rootCells.toArray, rfl, Nat.le_refl _, hr, Nat.le_refl _, by unfold maxLen; decide, rfl, rfl⟩⟩, fun i x hx => ?_⟩
    match i with
    | 0 =>
      simp only [List.getElem?_cons_zero, Option.some.injEq] at hx
      subst hx
      have m1 : i64ok (-1) := by unfold i64ok; decide
      exact ⟨rootCells, ⟨_, _, rfl, ⟨ok0, m1, m1, ok0, ok0, ok0, ok0⟩, RSl.nil, RSl.nil⟩, fun j u hu => by simpa using hu⟩
    | i + 1 => simp at hx
  · have h := (MapG.made (P := Tryd.prog) (k := 110) (e := 3) (w.alloc (.cells rootCells.toArray 40))).congr (g := atF [rootN]) (fun v l _ => by
      unfold atF
      rw [dif_neg]
      rintro ⟨n, hn, hk, _⟩
      rw [List.mem_singleton.1 hn] at hk
      exact hk rfl)
    have hs : (w.alloc (.cells rootCells.toArray 40)).heap.size = w.heap.size + 1 := by simp
    rw [hs] at h
    obtain ⟨n, D, h1, h2, h3⟩ := h.of_block (w' := ((w.alloc (.cells rootCells.toArray 40)).alloc (.map #[] 0)).alloc (.cells #[.slice none 0 0, .slice (some ⟨w.heap.size, 0, none⟩) 1 1, .slice none 0 0, .map (some (w.heap.size + 1))] 91)) (Below.heap_alloc _ _ _ (by simp))
    exact ⟨n, D, h1, by omega, h3⟩
  · intro n hn
    rw [List.mem_singleton.1 hn]
    decide

/-- What Compile leaves. -/
def CompRes (rs : List Rl) (W : World) (e : Ending) (W' : World) : Prop :=
  Below W.heap.size W W' ∧ (((∀ r ∈ rs, mayP r) ∧ ∃ av nv ev base g mb, W.heap.size ≤ base ∧ e = .returned (.tuple #[.agg #[av, nv, ev], .int .i64 0]) ∧ MkAt base g mb W' av nv ev (compF rs).1 (compF rs).2) ∨
    ((∃ r ∈ rs, ¬ mayP r) ∧ e = .returned (.tuple #[.agg #[.slice none 0 0, .slice none 0 0, .slice none 0 0], .int .i64 2])))
theorem comp_no {rs : List Rl} {W W' : World} (hb : Below W.heap.size W W') {k : Nat} {r : Rl} (hr : rs[k]? = some r) (h : ¬ mayP r) : CompRes rs W (.returned (.tuple #[.agg #[.slice none 0 0, .slice none 0 0, .slice none 0 0], .int .i64 2])) W' :=
  ⟨hb, .inr ⟨⟨r, List.mem_of_getElem? hr, h⟩, rfl⟩⟩
theorem mayB_iff {r : Rl} {b : Bool} (h : mayB r = b) : b = true ↔ mayP r := by
  rw [← h]
  simp [mayB]

/-- Inside Compile's loops: the maker, the rule's box, the result's cell. -/
structure InSt (base g mb : Nat) (W wr : World) (bx : Nat) (rc : Array Value) (S : List Nat) (st : St) (es : List Nat) : Prop where
  mkr : Mkr base g mb wr S st es
  ns : bx ∉ S
  box : wr.heap[bx]? = some (.cells rc 85 (0, 0))
  rb : wr.heap[W.heap.size]? = some (.cells #[.slice none 0 0, .slice none 0 0, .slice none 0 0] 26 (0, 0))
  below : Below W.heap.size W wr
section
variable {base g mb : Nat} {W wr wr' : World} {bx : Nat} {rc : Array Value} {S : List Nat} {st st' : St} {es es' : List Nat}
theorem InSt.lt (h : InSt base g mb W wr bx rc S st es) : bx < wr.heap.size := lt_of_heap h.box
theorem InSt.step (h : InSt base g mb W wr bx rc S st es) (hb : Below wr.heap.size wr wr') : InSt base g mb W wr' bx rc S st es :=
  ⟨h.mkr.step hb, h.ns, (hb.block _ h.lt).trans h.box, (hb.block _ (lt_of_heap h.rb)).trans h.rb, h.below.trans (hb.mono h.below.size)⟩
theorem InSt.to (h : InSt base g mb W wr bx rc S st es) (hWb : W.heap.size < base) (ht : MkrTo base g mb wr S st' es' wr') : ∃ S', InSt base g mb W wr' bx rc S' st' es' := by
  obtain ⟨S', h1, h2, h3⟩ := ht
  have hf := h.mkr.foot
  refine ⟨S', h1, fun hm => ?_, (h2.block _ h.lt h.ns).trans h.box, (h2.block _ (lt_of_heap h.rb) (fun hm => by have := (hf.2 _ hm).1; omega)).trans h.rb, h.below.trans (h2.below h.below.size (fun x hx => by have := (hf.2 x hx).1; omega))⟩
  rcases h3 bx hm with h4 | h4
  · exact h.ns h4
  · have := h.lt; omega
end

theorem Mkr.width {base g mb : Nat} {W : World} {S : List Nat} {st : St} {es : List Nat} (h : Mkr base g mb W S st es) {u : Nat} (hu : u < st.ns.length) {wd : Nat} (hwd : widthAt st u = wd) :
    ∃ b off C, W.cell? ⟨g, 1, none⟩ = some (.slice (some ⟨b, off, none⟩) st.ns.length C) ∧ b < W.heap.size ∧ W.cell? ⟨b, off + u * 11 + 10, none⟩ = some (.int .i64 wd) ∧ g < W.heap.size := by
  obtain ⟨av, nv, ev, rfl, hM⟩ := h
  obtain ⟨A0, C0, rfl⟩ := hM.ns.form
  obtain ⟨nd, hnd⟩ : ∃ nd, st.ns[u]? = some nd := ⟨_, List.getElem?_eq_getElem hu⟩
  have hw : nd.width = (wd : Int) := by unfold widthAt at hwd; rw [hnd] at hwd; exact hwd
  obtain ⟨b, off, rfl, hFb0, hbs, cs, ⟨ln0, nn0, hE⟩, hc⟩ := (hM.ns.rsl (G := fun b => b < W.heap.size) (fun b hb => (hM.ns.block hb).2.1)).at hnd
  have hcs := hE.cells
  subst hcs
  exact ⟨b, off, C0, hM.cell 1 rfl, hbs, by rw [← hw]; exact hc 10 _ rfl, hM.lt⟩
theorem MkAt.far {base g mb : Nat} {W W' : World} {av nv ev : Value} {st : St} {es : List Nat} (h : MkAt base g mb W av nv ev st es) {S : List Nat} (ht : Turns S W W') (hs : ∀ x ∈ S, x < base) : MkAt base g mb W' av nv ev st es := by
  have hf : ∀ x ∈ mfoot g mb av nv ev, x ∉ S := fun x hx hm => by have h1 := (h.foot_lt x hx).1; have h2 := hs x hm; omega
  have hoff : ∀ b ∈ S, ¬ Off base (mfoot g mb av nv ev) b := fun b hb hn => by have h1 := hn.1; have h2 := hs b hb; omega
  exact ⟨(ht.block g h.lt (hf g mfoot_g)).trans h.blk, h.al.keep ht (fun b hb => hf b (by simp [mfoot, hb])) hoff (fun _ _ h => h), h.ns.keep ht (fun b hb => hf b (by simp [mfoot, hb])) hoff (fun _ _ h => h), h.en.keep ht (fun b hb => hf b (by simp [mfoot, hb])) hoff (fun _ _ h => h),
    h.map.of_block (ht.block mb h.map.lt (hf mb (by simp [mfoot]))), h.gb, h.mbb, h.lens⟩
theorem rbox {w : World} {b j : Nat} {cs : Array Value} {T : TypeId} {u : Value} (h : w.heap[b]? = some (.cells cs T (0, 0))) (hu : cs[j]? = some u) : w.cell? ⟨b, j, none⟩ = some u := (cell_of_row _ _ j _ _ _ h).trans hu

set_option maxRecDepth 200000 in
set_option maxHeartbeats 8000000 in
theorem compileW {F : Nat → Prop} (v : Value) (rs : List Rl) (W : World) (h : RRules F W v rs) (hS : rs.length ≤ 1048576 ∧ ∀ r ∈ rs, rlSm 1048576 r) :
    Calls Tryd.prog 18 #[v] W (CompRes rs W) := by
  obtain ⟨A, c, rfl⟩ := h.form
  have hm := hS.1
  have H := Lib.hid (RRules.kp (F' := fun b => b < W.heap.size) h (Kp.refl _ _) (fun b hb _ => hb))
  have SM := Lib.hid hS
  clear h hS
  go_enter Tryd.func18, Tryd.ntmps18
  go_wp2
  go_loopw [18] (fun i wr => ∃ k : Nat, i = .int .i64 k ∧ k ≤ rs.length ∧ (∀ r ∈ rs.take k, mayP r) ∧ Below (W.heap.size + 1) (W.alloc (.cells #[.slice none 0 0, .slice none 0 0, .slice none 0 0] 26)) wr) (fun i _ => rs.length - (intOf i).toNat)
  case atStart => exact ⟨0, rfl, Nat.zero_le _, by simp, Below.refl _ _⟩
  case round =>
    obtain ⟨k, rfl, hk, hq, hb⟩ := hrel
    have bw := box_below hb
    have hwz : W.heap.size < wr.heap.size := by have := hb.size; simp at this; omega
    by_cases hkn : k < rs.length
    · obtain ⟨r, hr⟩ : ∃ r, rs[k]? = some r := ⟨_, List.getElem?_eq_getElem hkn⟩
      obtain ⟨b, off, rfl, hFb, hbs, cs, ⟨hv, pv, tv, nv, vv, hE⟩, hc⟩ := (RRules.kp H.out (Kp.of_below bw) (fun _ _ h => h)).at hr
      have hcs := hE.cells
      subst hcs
      have c0 := hc 0 _ rfl
      have c1 := hc 1 _ rfl
      have c2 := hc 2 _ rfl
      have c3 := hc 3 _ rfl
      have c4 := hc 4 _ rfl
      have c5 := hc 5 _ rfl
      have c6 := hc 6 _ rfl
      simp only [Nat.add_zero] at c0
      have hsm := SM.out.2 r (List.mem_of_getElem? hr)
      have CY := Lib.hid (fun W' (hb : Below wr.heap.size wr W') => mayW r W' (hE.kp (Kp.of_below hb) (fun _ _ h => h)) hsm)
      obtain ⟨Ah, ch, rfl⟩ := hE.head.form
      obtain ⟨Ap, cp, rfl⟩ := hE.pos.form
      obtain ⟨At, ct, rfl⟩ := hE.tests.form
      obtain ⟨An, cn, rfl⟩ := hE.neg.form
      obtain ⟨Av, cv, rfl⟩ := hE.vars.form
      have e1 : (0 : Int) ≤ (k : Int) := by omega
      have e2 : (k : Int) < (rs.length : Int) := by omega
      have HR := Lib.hid hr
      have HK := Lib.hid hkn
      have HQ := Lib.hid hq
      have HB := Lib.hid hb
      clear hc hr hkn hq hE hsm
      by_cases hmp : mayP r
      · have HM := Lib.hid (mayB_true hmp)
        have HQ2 := Lib.hid (take_all HQ.out HR.out hmp)
        clear hmp bw hb
        go_wp2_with fail
        refine (CY.out _ ((Below.refl _ _).alloc (Nat.le_refl _) _)).mono ?_
        rintro e w2 ⟨he, hb2⟩
        rw [HM.out] at he
        subst he
        have HB2 := Lib.hid (box_step HB.out (((Below.refl wr.heap.size wr).alloc (Nat.le_refl _) _).trans (hb2.mono (by simp))))
        clear hb2
        go_wp2
        exact ⟨⟨k + 1, by go_num, HK.out, HQ2.out, HB2.out⟩, by simp [intOf]; have := HK.out; omega⟩
      · have HM := Lib.hid (mayB_false hmp)
        have HF := Lib.hid hmp
        clear hmp bw hb
        go_wp2_with fail
        refine (CY.out _ ((Below.refl _ _).alloc (Nat.le_refl _) _)).mono ?_
        rintro e w2 ⟨he, hb2⟩
        rw [HM.out] at he
        subst he
        have hb3 := box_step HB.out (((Below.refl wr.heap.size wr).alloc (Nat.le_refl _) _).trans (hb2.mono (by simp)))
        have eb : w2.heap[W.heap.size]? = some (.cells #[.slice none 0 0, .slice none 0 0, .slice none 0 0] 26 (0, 0)) := (hb3.block _ (by simp)).trans (heap_alloc_new W _)
        have f0 := cell_of_row _ _ 0 _ _ _ eb
        have f1 := cell_of_row _ _ 1 _ _ _ eb
        have f2 := cell_of_row _ _ 2 _ _ _ eb
        simp only [List.getElem?_toArray, List.getElem?_cons_zero, List.getElem?_cons_succ] at f0 f1 f2
        have fz : ∀ o, w2.frozen? ⟨W.heap.size, o, none⟩ = false := fun o => by simp [World.frozen?, eb]
        have ef := Lib.hid (heap_setCell_same _ _ 2 _ _ (.slice none 0 0) (heap_setCell_same _ _ 1 _ _ (.slice none 0 0) (heap_setCell_same _ _ 0 _ _ (.slice none 0 0) eb)))
        have HB3 := Lib.hid (box_below hb3)
        clear hb2 hb3 eb
        go_wp2
        exact bodyPost_ret (v := .tuple #[.agg #[.slice none 0 0, .slice none 0 0, .slice none 0 0], .int .i64 2]) (results_row_slot rfl _ _ W.heap.size 26 #[.slice none 0 0, .slice none 0 0, .slice none 0 0] (0, 0) _ _ rfl rfl ef.out Tryd.underlying26 rfl sizePlan) rfl
          (comp_no (((HB3.out.setCell (Nat.le_refl _) _).setCell (Nat.le_refl _) _).setCell (Nat.le_refl _) _) HR.out HF.out)
    · obtain rfl : k = rs.length := by omega
      rw [List.take_length] at hq
      have HQ := Lib.hid hq
      have HB := Lib.hid hb
      clear hq hb bw hkn
      go_wp2_with fail
      refine (rootW _).mono ?_
      rintro e w3 ⟨rfl, hb3⟩
      have hb4 := box_step HB.out hb3
      have eb : w3.heap[W.heap.size]? = some (.cells #[.slice none 0 0, .slice none 0 0, .slice none 0 0] 26 (0, 0)) := (hb4.block _ (by simp)).trans (heap_alloc_new W _)
      have HB4 := Lib.hid (box_below hb4)
      have EB := Lib.hid eb
      have hw3 : W.heap.size < w3.heap.size := lt_of_heap eb
      have M0 := Lib.hid (mkr_start w3)
      have hmm := @run_makeMap Tryd.prog
      clear hb3 hb4 eb
      go_wp2_with fail
      have hB3 : Below w3.heap.size w3 (((w3.alloc (.cells rootCells.toArray 40)).alloc (.map #[] 0)).alloc (.cells #[.slice none 0 0, .slice (some ⟨w3.heap.size, 0, none⟩) 1 1, .slice none 0 0, .map (some (w3.heap.size + 1))] 91)) :=
        (((Below.refl w3.heap.size w3).alloc (Nat.le_refl _) _).alloc (by simp) _).alloc (by simp <;> omega) _
      have RB := Lib.hid ((hB3.block _ hw3).trans EB.out)
      have BW := Lib.hid (HB4.out.trans (hB3.mono HB4.out.size))
      have CL := Lib.hid (comp_len rs HQ.out)
      clear hB3
      go_loopw [35] (fun i wr => ∃ (k : Nat) (S : List Nat), i = .int .i64 k ∧ k ≤ rs.length ∧ Mkr w3.heap.size (w3.heap.size + 1 + 1) (w3.heap.size + 1) wr S (compF (rs.take k)).1 (compF (rs.take k)).2 ∧
        wr.heap[W.heap.size]? = some (.cells #[.slice none 0 0, .slice none 0 0, .slice none 0 0] 26 (0, 0)) ∧ Below W.heap.size W wr) (fun i _ => rs.length - (intOf i).toNat)
      case atStart => exact ⟨0, _, rfl, Nat.zero_le _, ⟨_, _, _, rfl, M0.out⟩, RB.out, BW.out⟩
      case round =>
        obtain ⟨k, S, rfl, hk, hM, hrb, hb⟩ := hrel
        clear M0
        by_cases hkn : k < rs.length
        · obtain ⟨r, hr⟩ : ∃ r, rs[k]? = some r := ⟨_, List.getElem?_eq_getElem hkn⟩
          obtain ⟨b, off, rfl, hFb, hbs, cs, ⟨hv, pv, tv, nv, vv, hE⟩, hc⟩ := (RRules.kp H.out (Kp.of_below hb) (fun _ _ h => h)).at hr
          have hcs := hE.cells
          subst hcs
          have c0 := hc 0 _ rfl
          have c1 := hc 1 _ rfl
          have c2 := hc 2 _ rfl
          have c3 := hc 3 _ rfl
          have c4 := hc 4 _ rfl
          have c5 := hc 5 _ rfl
          have c6 := hc 6 _ rfl
          simp only [Nat.add_zero] at c0
          obtain ⟨Ah, ch, rfl⟩ := hE.head.form
          obtain ⟨Ap, cp, rfl⟩ := hE.pos.form
          obtain ⟨At, ct, rfl⟩ := hE.tests.form
          obtain ⟨An, cn, rfl⟩ := hE.neg.form
          obtain ⟨Av, cv, rfl⟩ := hE.vars.form
          have hmay := HQ.out r (List.mem_of_getElem? hr)
          obtain ⟨fw, hfit⟩ := hmay
          obtain ⟨lN, lA⟩ := CL.out k hk
          have hmany := hfit.many
          have e1 : (0 : Int) ≤ (k : Int) := by omega
          have e2 : (k : Int) < (rs.length : Int) := by omega
          have hwf := (made_comp (rs.take k)).wf
          obtain ⟨st, hst⟩ : ∃ st, (compF (rs.take k)).1 = st := ⟨_, rfl⟩
          obtain ⟨es, hes⟩ : ∃ es, (compF (rs.take k)).2 = es := ⟨_, rfl⟩
          have CE := Lib.hid (comp_take_succ hr)
          rw [hst] at lN lA hwf hM
          rw [hes] at hM
          have UF := Lib.hid (fun i hi => upTo_facts hwf hfit (i := i) hi)
          have HST := Lib.hid (And.intro hst hes)
          have HFIT := Lib.hid hfit
          have HK := Lib.hid hkn
          have HE := Lib.hid hE
          have h80 : InSt w3.heap.size (w3.heap.size + 1 + 1) (w3.heap.size + 1) W (wr.alloc (.cells #[.int .i64 r.head.pred, .slice Ah r.head.args.length ch, .slice Ap r.pos.length cp, .slice At r.tests.length ct, .slice An r.neg.length cn, .slice Av r.vars.length cv, .int .i64 r.clause] 85)) wr.heap.size #[.int .i64 r.head.pred, .slice Ah r.head.args.length ch, .slice Ap r.pos.length cp, .slice At r.tests.length ct, .slice An r.neg.length cn, .slice Av r.vars.length cv, .int .i64 r.clause] S st es :=
            ⟨hM.step ((Below.refl _ _).alloc (Nat.le_refl _) _), fun hm => by have := (hM.foot.2 _ hm).2; omega, heap_alloc_new wr _, by rw [Below.heap_alloc _ _ _ (lt_of_heap hrb)]; exact hrb, hb.alloc hb.size _⟩
          have H80 := Lib.hid h80
          have HBo := Lib.hid hb
          clear hc hr hkn hE hst hes hM hrb hb h80 hfit hwf RB BW
          go_wp2_with fail
          obtain ⟨wo, rfl⟩ : ∃ wo : World, wo = wr := ⟨_, rfl⟩
          go_loopw [9, 42] (fun u i wr => ∃ (j : Nat) (S : List Nat), i = .int .i64 j ∧ u = .int .i64 (upTo st r j).1 ∧ j ≤ r.pos.length ∧ InSt w3.heap.size (w3.heap.size + 1 + 1) (w3.heap.size + 1) W wr wo.heap.size #[.int .i64 r.head.pred, .slice Ah r.head.args.length ch, .slice Ap r.pos.length cp, .slice At r.tests.length ct, .slice An r.neg.length cn, .slice Av r.vars.length cv, .int .i64 r.clause] S (upTo st r j).2 es) (fun _ i _ => r.pos.length - (intOf i).toNat)
          case atStart => exact ⟨0, S, rfl, rfl, Nat.zero_le _, H80.out⟩
          case round =>
            obtain ⟨j, S, rfl, rfl, hj, hI⟩ := hrel
            clear H80
            have bw := hI.below
            by_cases hjn : j < r.pos.length
            · obtain ⟨p, hp⟩ : ∃ p, r.pos[j]? = some p := ⟨_, List.getElem?_eq_getElem hjn⟩
              obtain ⟨b', off', rfl, hFb', hbs', cs', ⟨av', rfl, pok, ha⟩, hc'⟩ := (RPats.kp HE.out.pos (Kp.of_two HBo.out bw (by have := hI.lt; omega)) (fun _ _ h => h)).at hp
              have c0' := hc' 0 _ rfl
              have c1' := hc' 1 _ rfl
              simp only [Nat.add_zero] at c0'
              obtain ⟨hu, ⟨wd, hwd, hwd2⟩, hn1, hn2⟩ := UF.out j (by omega)
              have hfa := fit_at ⟨fw, HFIT.out⟩ hp
              have CP := Lib.hid (fun W' (hb : Below wr.heap.size wr W') => patternW (hI.mkr.step hb) 1 (.inl rfl) _ hu wd hwd (by omega) (F := fun b => b < W.heap.size) (fun b hb => by omega) p _ (ha.keep (Kp.of_below hb)) pok hfa.2.1 (okA_nonneg hfa.1) hfa.2.2 (by omega) (by omega))
              obtain ⟨Aa, ca, rfl⟩ := ha.form
              have hstep := upTo_succ st (cond_pos hp)
              have HS := Lib.hid (show upTo st r (j + 1) = patF 1 ((upTo st r j).1, (upTo st r j).2) p from hstep)
              have f1 : (0 : Int) ≤ (j : Int) := by omega
              have f2 : (j : Int) < (r.pos.length : Int) := by omega
              have HJ := Lib.hid hjn
              have HI := Lib.hid hI
              clear hc' hp ha hwd hfa hstep hjn hI hu bw
              go_wp2_with fail
              refine (CP.out _ ((Below.refl _ _).alloc (Nat.le_refl _) _)).mono ?_
              rintro e w5 ⟨rfl, hT⟩
              obtain ⟨S', hI'⟩ := (HI.out.step ((Below.refl _ _).alloc (Nat.le_refl _) (.cells #[.int .i64 p.pred, .slice Aa p.args.length ca] 80))).to hw3 hT
              rw [← HS.out] at hI' ⊢
              have HI' := Lib.hid hI'
              clear hT hI'
              go_wp2_with fail
              exact ⟨⟨j + 1, S', by go_num, rfl, HJ.out, HI'.out⟩, by simp [intOf]; have := HJ.out; omega⟩
            · obtain rfl : j = r.pos.length := by omega
              have xb := rbox (j := 3) hI.box rfl
              have hbl := hI.lt
              have HI := Lib.hid hI
              clear bw hI
              go_wp2_with fail
              clear xb
              go_loopw [9, 54] (fun u i wr => ∃ (j : Nat) (S : List Nat), i = .int .i64 j ∧ u = .int .i64 (upTo st r (r.pos.length + j)).1 ∧ j ≤ r.tests.length ∧ InSt w3.heap.size (w3.heap.size + 1 + 1) (w3.heap.size + 1) W wr wo.heap.size #[.int .i64 r.head.pred, .slice Ah r.head.args.length ch, .slice Ap r.pos.length cp, .slice At r.tests.length ct, .slice An r.neg.length cn, .slice Av r.vars.length cv, .int .i64 r.clause] S (upTo st r (r.pos.length + j)).2 es) (fun _ i _ => r.tests.length - (intOf i).toNat)
              case atStart => exact ⟨0, S, rfl, rfl, Nat.zero_le _, HI.out⟩
              case round =>
                obtain ⟨j, S, rfl, rfl, hj, hI⟩ := hrel
                clear HI hbl
                have bw := hI.below
                by_cases hjn : j < r.tests.length
                · obtain ⟨t, ht⟩ : ∃ t, r.tests[j]? = some t := ⟨_, List.getElem?_eq_getElem hjn⟩
                  obtain ⟨b', off', rfl, hFb', hbs', cs', ⟨rfl, ok1, ok2, ok3⟩, hc'⟩ := (HE.out.tests.keep (Kp.of_two HBo.out bw (by have := hI.lt; omega))).at ht
                  have c0' := hc' 0 _ rfl
                  have c1' := hc' 1 _ rfl
                  have c2' := hc' 2 _ rfl
                  have c3' := hc' 3 _ rfl
                  have c4' := hc' 4 _ rfl
                  simp only [Nat.add_zero] at c0'
                  obtain ⟨hu, ⟨wd, hwd, hwd2⟩, hn1, hn2⟩ := UF.out (r.pos.length + j) (by omega)
                  obtain ⟨u, hue⟩ : ∃ u, (upTo st r (r.pos.length + j)).1 = u := ⟨_, rfl⟩
                  have hstep := upTo_succ st (cond_test ht)
                  have HS := Lib.hid (show upTo st r (r.pos.length + (j + 1)) = tstF ((upTo st r (r.pos.length + j)).1, (upTo st r (r.pos.length + j)).2) t from hstep)
                  have hT0 : testOf (upTo st r (r.pos.length + j)).2 (upTo st r (r.pos.length + j)).1 t = ⟨2, ((upTo st r (r.pos.length + j)).1 : Int), -1, [], [], t, wd⟩ := by unfold testOf; rw [hwd]
                  rw [hue] at hu hwd HS hT0 ⊢
                  have m1 : i64ok (-1) := by unfold i64ok; decide
                  have m2 : i64ok 2 := by unfold i64ok; decide
                  have hok : NdOk ⟨2, (u : Int), -1, [], [], t, wd⟩ := ⟨⟨m2, okNat (by omega), m1, okNat (by omega), ok1, ok2, ok3⟩, by simp, by simp, by simp, by simp⟩
                  have CN := Lib.hid (fun W' (hb : Below wr.heap.size wr W') => nodeW (hI.mkr.step hb) (cs := [.int .i64 2, .int .i64 u, .int .i64 (-1), .slice none 0 0, .slice none 0 0, .int .i64 t.op, .bool t.l.v, .int .i64 t.l.n, .bool t.r.v, .int .i64 t.r.n, .int .i64 wd]) (lv := .slice none 0 0) (nv := .slice none 0 0) ⟨2, (u : Int), -1, [], [], t, wd⟩ ⟨rfl, hok.ints, RSl.nil, RSl.nil⟩ hok (by simp only; decide) (by omega))
                  have MW := Lib.hid (fun W' (hb : Below wr.heap.size wr W') => (hI.mkr.step hb).width hu hwd)
                  have f1 : (0 : Int) ≤ (j : Int) := by omega
                  have f2 : (j : Int) < (r.tests.length : Int) := by omega
                  have f3 : (0 : Int) ≤ (u : Int) := by omega
                  have f4 : (u : Int) < ((upTo st r (r.pos.length + j)).2.ns.length : Int) := by omega
                  have HJ := Lib.hid hjn
                  have HI := Lib.hid hI
                  have HT0 := Lib.hid hT0
                  have HUE := Lib.hid hue
                  clear hc' ht hwd hstep hjn hI hu bw hok hT0 hue
                  go_wp2_with fail
                  have hB0 : Below (wr.heap.size + 1) (wr.alloc (.cells #[.int .i64 t.op, .bool t.l.v, .int .i64 t.l.n, .bool t.r.v, .int .i64 t.r.n] 38)) (wr.alloc (.cells #[.int .i64 t.op, .bool t.l.v, .int .i64 t.l.n, .bool t.r.v, .int .i64 t.r.n] 38)).drew := (Below.refl _ _).drew
                  refine wp_region_still_tail 13 (by kernel_rfl) (by kernel_rfl) ?_
                  change wpStill _ _ (wr.alloc (.cells #[.int .i64 t.op, .bool t.l.v, .int .i64 t.l.n, .bool t.r.v, .int .i64 t.r.n] 38)).drew (fun a' => wpList _ _ _ _ a' (wr.alloc (.cells #[.int .i64 t.op, .bool t.l.v, .int .i64 t.l.n, .bool t.r.v, .int .i64 t.r.n] 38)).drew) _ _
                  generalize (wr.alloc (.cells #[.int .i64 t.op, .bool t.l.v, .int .i64 t.l.n, .bool t.r.v, .int .i64 t.r.n] 38)).drew = wz at hB0 ⊢
                  obtain ⟨nb, noff, nC, n1, n2, n3, n4⟩ := MW.out wz (box_below hB0)
                  have y0 := box_cell hB0 0 _ rfl
                  have y1 := box_cell hB0 1 _ rfl
                  have y2 := box_cell hB0 2 _ rfl
                  have y3 := box_cell hB0 3 _ rfl
                  have y4 := box_cell hB0 4 _ rfl
                  have BZ := Lib.hid (box_below hB0)
                  clear hB0 c0' c1' c2' c3' c4'
                  simp only [List.take_succ_cons, List.take_zero, List.drop_succ_cons, List.drop_zero]
                  repeat still_step
                  refine wpStill_nil ?_
                  go_wp2_with fail
                  refine (CN.out _ BZ.out).mono ?_
                  rintro e w5 ⟨rfl, hT⟩
                  obtain ⟨S', hI'⟩ := (HI.out.step BZ.out).to hw3 hT
                  have hst2 : (upTo st r (r.pos.length + (j + 1))).2 = ⟨(upTo st r (r.pos.length + j)).2.al, addF (upTo st r (r.pos.length + j)).2.ns ⟨2, (u : Int), -1, [], [], t, wd⟩⟩ := by
                    rw [HS.out]
                    simp only [tstF]
                    rw [HT0.out]
                  rw [← hst2] at hI'
                  have HU2 := Lib.hid (show (placeF (upTo st r (r.pos.length + j)).2.ns ⟨2, (u : Int), -1, [], [], t, wd⟩) = (upTo st r (r.pos.length + (j + 1))).1 by
                    rw [HS.out]
                    simp only [tstF]
                    rw [HT0.out])
                  have HI' := Lib.hid hI'
                  rw [HU2.out]
                  clear hT hI' hst2 y0 y1 y2 y3 y4 n1 n2 n3 n4
                  go_wp2_with fail
                  exact ⟨⟨j + 1, S', by go_num, rfl, HJ.out, HI'.out⟩, by simp [intOf]; have := HJ.out; omega⟩
                · obtain rfl : j = r.tests.length := by omega
                  have xb := rbox (j := 4) hI.box rfl
                  have hbl := hI.lt
                  have HI := Lib.hid hI
                  clear bw hI
                  go_wp2_with fail
                  clear xb
                  go_loopw [9, 76] (fun u i wr => ∃ (j : Nat) (S : List Nat), i = .int .i64 j ∧ u = .int .i64 (upTo st r (r.pos.length + r.tests.length + j)).1 ∧ j ≤ r.neg.length ∧ InSt w3.heap.size (w3.heap.size + 1 + 1) (w3.heap.size + 1) W wr wo.heap.size #[.int .i64 r.head.pred, .slice Ah r.head.args.length ch, .slice Ap r.pos.length cp, .slice At r.tests.length ct, .slice An r.neg.length cn, .slice Av r.vars.length cv, .int .i64 r.clause] S (upTo st r (r.pos.length + r.tests.length + j)).2 es) (fun _ i _ => r.neg.length - (intOf i).toNat)
                  case atStart => exact ⟨0, S, rfl, rfl, Nat.zero_le _, HI.out⟩
                  case round =>
                    obtain ⟨j, S, rfl, rfl, hj, hI⟩ := hrel
                    clear HI hbl
                    have bw := hI.below
                    by_cases hjn : j < r.neg.length
                    · obtain ⟨p, hp⟩ : ∃ p, r.neg[j]? = some p := ⟨_, List.getElem?_eq_getElem hjn⟩
                      obtain ⟨b', off', rfl, hFb', hbs', cs', ⟨av', rfl, pok, ha⟩, hc'⟩ := (RPats.kp HE.out.neg (Kp.of_two HBo.out bw (by have := hI.lt; omega)) (fun _ _ h => h)).at hp
                      have c0' := hc' 0 _ rfl
                      have c1' := hc' 1 _ rfl
                      simp only [Nat.add_zero] at c0'
                      obtain ⟨hu, ⟨wd, hwd, hwd2⟩, hn1, hn2⟩ := UF.out (r.pos.length + r.tests.length + j) (by omega)
                      have hfa := HFIT.out.ngs p (List.mem_of_getElem? hp)
                      have CP := Lib.hid (fun W' (hb : Below wr.heap.size wr W') => patternW (hI.mkr.step hb) 3 (.inr rfl) _ hu wd hwd (by omega) (F := fun b => b < W.heap.size) (fun b hb => by omega) p _ (ha.keep (Kp.of_below hb)) pok hfa.1 (fun s hs => (hfa.2.2 s hs).1) hfa.2.1 (by omega) (by omega))
                      obtain ⟨Aa, ca, rfl⟩ := ha.form
                      have hstep := upTo_succ st (cond_neg hp)
                      have HS := Lib.hid (show upTo st r (r.pos.length + r.tests.length + (j + 1)) = patF 3 ((upTo st r (r.pos.length + r.tests.length + j)).1, (upTo st r (r.pos.length + r.tests.length + j)).2) p from hstep)
                      have f1 : (0 : Int) ≤ (j : Int) := by omega
                      have f2 : (j : Int) < (r.neg.length : Int) := by omega
                      have HJ := Lib.hid hjn
                      have HI := Lib.hid hI
                      clear hc' hp ha hwd hfa hstep hjn hI hu bw
                      go_wp2_with fail
                      refine (CP.out _ ((Below.refl _ _).alloc (Nat.le_refl _) _)).mono ?_
                      rintro e w5 ⟨rfl, hT⟩
                      obtain ⟨S', hI'⟩ := (HI.out.step ((Below.refl _ _).alloc (Nat.le_refl _) (.cells #[.int .i64 p.pred, .slice Aa p.args.length ca] 80))).to hw3 hT
                      rw [← HS.out] at hI' ⊢
                      have HI' := Lib.hid hI'
                      clear hT hI'
                      go_wp2_with fail
                      exact ⟨⟨j + 1, S', by go_num, rfl, HJ.out, HI'.out⟩, by simp [intOf]; have := HJ.out; omega⟩
                    · obtain rfl : j = r.neg.length := by omega
                      obtain ⟨hu, _, hn1, hn2⟩ := UF.out (r.pos.length + r.tests.length + r.neg.length) (Nat.le_refl _)
                      obtain ⟨u, hue⟩ : ∃ u, (upTo st r (r.pos.length + r.tests.length + r.neg.length)).1 = u := ⟨_, rfl⟩
                      obtain ⟨st2, hse⟩ : ∃ st2, (upTo st r (r.pos.length + r.tests.length + r.neg.length)).2 = st2 := ⟨_, rfl⟩
                      have hcomp : (compF (rs.take (k + 1))).1 = st2 ∧ (compF (rs.take (k + 1))).2 = es ++ [u] := by
                        rw [CE.out]
                        simp only [endF]
                        rw [HST.out.1, HST.out.2, ← upTo_all, hue, hse]
                        exact ⟨rfl, rfl⟩
                      rw [hue] at hu ⊢
                      rw [hse] at hI hu hn1 hn2
                      have hel : es.length ≤ k := by
                        have := (made_comp (rs.take k)).len
                        rw [HST.out.2] at this
                        rw [this]
                        exact List.length_take_le _ _
                      have hrb := hI.rb
                      have hbw := hI.below
                      obtain ⟨av, nv, ev, rfl, hM⟩ := hI.mkr
                      obtain ⟨A1, C1, rfl⟩ := hM.en.form
                      simp only [List.length_map] at hM
                      have x2 := hM.cell 2 rfl
                      have hgl := hM.lt
                      have hbase := (hM.foot_lt _ mfoot_g).1
                      have hbase2 : w3.heap.size ≤ wr.heap.size := by omega
                      have UOK := Lib.hid (okNat (k := u) (by omega))
                      have HM := Lib.hid hM
                      have HCO := Lib.hid hcomp
                      have HRB := Lib.hid hrb
                      have HBW := Lib.hid hbw
                      clear hI hM hcomp hue hse bw hrb hbw
                      go_wp2_with (at_builtin; refine wpList_append_F HM.out.en (fun b hb hf => hf.2 (by simp [mfoot, hb])) rfl (.tmp 90) (.tmp 92) 24 rfl Tryd.underlying24 infoIntR rfl (by decide) rfl #[.int .i64 u] _ rfl rfl (x := (u : Int)) ⟨rfl, UOK.out⟩ (by rw [List.length_map]; omega) (by decide) hbase2 ?_; intro g' cap w5 ho ht hat hlt5; have hgn := (HM.out.apart).2.2.2; have e3 := (ht.block _ HM.out.lt (fun hm => (hgn _ (by simpa using hm)).1 rfl)).trans HM.out.blk; have q1 := (cell_of_row _ _ 2 _ _ _ e3).trans (show _ = some (Value.slice A1 es.length C1) from rfl); have q2 : ∀ o, w5.frozen? ⟨w3.heap.size + 1 + 1, o, none⟩ = false := (fun o => by simp [World.frozen?, e3]); have q3 := lt_of_heap e3; have GR0 := HM.out.grow_en ho ht hat; simp only [List.length_map] at GR0; have GR := Lib.hid GR0; clear ho ht hat hlt5 hgn e3 GR0)
                      have T := GR.out.2.1
                      have FL := HM.out.foot_lt
                      refine ⟨⟨k + 1, _, by go_num, HK.out, ⟨_, _, _, rfl, by rw [HCO.out.1, HCO.out.2]; exact GR.out.1⟩, ?_, ?_⟩, by simp [intOf]; have := HK.out; omega⟩
                      · exact (T.block _ (lt_of_heap HRB.out) (fun hm => by have := (FL _ hm).1; omega)).trans HRB.out
                      · exact HBW.out.trans (T.below HBW.out.size (fun x hx => by have := (FL x hx).1; omega))
        · obtain rfl : k = rs.length := by omega
          rw [List.take_length] at hM
          have bw := hb
          obtain ⟨av, nv, ev, rfl, hM⟩ := hM
          obtain ⟨A1, C1, rfl⟩ := hM.en.form
          obtain ⟨A2, C2, rfl⟩ := hM.ns.form
          obtain ⟨A3, C3, rfl⟩ := hM.al.form
          simp only [List.length_map] at hM
          have x0 := hM.cell 0 rfl
          have x1 := hM.cell 1 rfl
          have x2 := hM.cell 2 rfl
          have hgl := hM.lt
          have hbase := (hM.foot_lt _ mfoot_g).1
          have f0 := rbox (j := 0) hrb rfl
          have f1 := rbox (j := 1) hrb rfl
          have f2 := rbox (j := 2) hrb rfl
          have hrl := lt_of_heap hrb
          have fz : ∀ o, wr.frozen? ⟨W.heap.size, o, none⟩ = false := fun o => by simp [World.frozen?, hrb]
          have ef := Lib.hid (heap_setCell_same _ _ 2 _ _ (.slice A1 (compF rs).2.length C1) (heap_setCell_same _ _ 1 _ _ (.slice A2 (compF rs).1.ns.length C2) (heap_setCell_same _ _ 0 _ _ (.slice A3 (compF rs).1.al.length C3) hrb)))
          have HM := Lib.hid hM
          have BW := Lib.hid bw
          clear hM hrb hb bw hkn
          go_wp2
          refine bodyPost_ret (v := .tuple #[.agg #[.slice A3 (compF rs).1.al.length C3, .slice A2 (compF rs).1.ns.length C2, .slice A1 (compF rs).2.length C1], .int .i64 0]) (results_row_slot rfl _ _ W.heap.size 26 #[.slice A3 (compF rs).1.al.length C3, .slice A2 (compF rs).1.ns.length C2, .slice A1 (compF rs).2.length C1] (0, 0) _ _ rfl rfl ef.out Tryd.underlying26 rfl sizePlan) rfl ?_
          refine ⟨((BW.out.setCell (Nat.le_refl _) _).setCell (Nat.le_refl _) _).setCell (Nat.le_refl _) _, .inl ⟨HQ.out, _, _, _, w3.heap.size, w3.heap.size + 1 + 1, w3.heap.size + 1, by omega, rfl, ?_⟩⟩
          have T : Turns [W.heap.size] wr (((wr.setCell ⟨W.heap.size, 0, none⟩ (.slice A3 (compF rs).1.al.length C3)).setCell ⟨W.heap.size, 1, none⟩ (.slice A2 (compF rs).1.ns.length C2)).setCell ⟨W.heap.size, 2, none⟩ (.slice A1 (compF rs).2.length C1)) :=
            (((Turns.refl _ _).setCell (.inl (by simp)) _).setCell (.inl (by simp)) _).setCell (.inl (by simp)) _
          exact HM.out.far T (fun x hx => by simp only [List.mem_singleton] at hx; omega)
end Go.Proofs.YtonkbjdeaneicaaDoor
