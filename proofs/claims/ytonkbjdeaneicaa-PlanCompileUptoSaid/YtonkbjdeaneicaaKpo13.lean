/- pattern: the node below u for a pattern. Plans, in plain Lean: what holds behind the first conditions of a rule. -/
import Derived.Test.YtonkbjdeaneicaaKpo03
import Derived.Test.YtonkbjdeaneicaaKpo12
namespace Go.Proofs.Ytonkbjdeaneicaa
open Go.RowKit Pln Classical Go.Maps

theorem idxP_first (n : Int) : ∀ args : List Slt, idxP (sameV n) args = firstV args n
  | [] => rfl
  | s :: r => by
    unfold idxP firstV
    rw [idxP_first n r]
    have e : (sameV n s = true) ↔ (s.v = true ∧ s.n = n) := by simp [sameV]
    by_cases h : s.v = true ∧ s.n = n
    · rw [if_pos (e.2 h), if_pos h]
    · rw [if_neg (fun hh => h (e.1 hh)), if_neg h]
theorem idxI_first {args : List Slt} {k : Nat} {n : Int} (h : args[k]? = some ⟨true, n⟩) : idxI (sameV n) args = firstV args n := by
  have h1 := firstV_le h rfl
  have h2 := (List.getElem?_eq_some_iff.1 h).1
  unfold idxI
  rw [idxP_first, if_pos (by simp only at h1; omega)]
theorem linksK_len (args : List Slt) (w : Int) : ∀ k, (linksK args w k).length ≤ k
  | 0 => by simp [linksK_zero]
  | k + 1 => by
    rw [linksK_succ, List.length_append]
    have := linksK_len args w k
    have h2 : (linkAt args w k).length ≤ 1 := by
      unfold linkAt
      split
      · split <;> simp
      · simp
    omega
theorem newK_len (args : List Slt) (w : Int) : ∀ k, (newK args w k).length ≤ k
  | 0 => by simp [newK_zero]
  | k + 1 => by
    rw [newK_succ, List.length_append]
    have := newK_len args w k
    have h2 : (newAt args w k).length ≤ 1 := by
      unfold newAt
      split
      · split <;> simp
      · simp
    omega
theorem linksK_mem {args : List Slt} {w : Int} {k : Nat} {l : Int × Int} (h : l ∈ linksK args w k) : ∃ i s, i < k ∧ args[i]? = some s ∧ l = ((i : Int), s.n) := by
  unfold linksK at h
  obtain ⟨i, hi, hl⟩ := List.mem_flatMap.1 h
  unfold linkAt at hl
  split at hl
  · rename_i s hs
    split at hl
    · exact ⟨i, s, List.mem_range.1 hi, hs, List.mem_singleton.1 hl⟩
    · simp at hl
  · simp at hl
theorem newK_mem {args : List Slt} {w : Int} {k : Nat} {x : Int} (h : x ∈ newK args w k) : ∃ i : Nat, i < k ∧ x = (i : Int) := by
  unfold newK at h
  obtain ⟨i, hi, hl⟩ := List.mem_flatMap.1 h
  unfold newAt at hl
  split at hl
  · split at hl
    · exact ⟨i, List.mem_range.1 hi, List.mem_singleton.1 hl⟩
    · simp at hl
  · simp at hl

/-- The node on its way, behind k places. -/
structure PtSt (wo wr : World) (kd u al : Int) (args : List Slt) (w : Int) (lv nv : Value) (k : Nat) : Prop where
  blk : wr.heap[wo.heap.size]? = some (.cells #[.int .i64 kd, .int .i64 u, .int .i64 al, lv, nv, .int .i64 0, .bool false, .int .i64 0, .bool false, .int .i64 0, .int .i64 0] 54 (0, 0))
  lo : OwnF (fun _ => False) (wo.heap.size + 1) wr 83 cdLnk lv (linksK args w k)
  no : OwnF (fun _ => False) (wo.heap.size + 1) wr 3 cdInt nv (newK args w k)
  below : Below wo.heap.size wo wr
section
variable {wo wr wr' w2 : World} {kd u al : Int} {args : List Slt} {w : Int} {lv nv : Value} {k : Nat}
theorem PtSt.lt (h : PtSt wo wr kd u al args w lv nv k) : wo.heap.size < wr.heap.size := lt_of_heap h.blk
theorem PtSt.step (h : PtSt wo wr kd u al args w lv nv k) (hb : Below wr.heap.size wr wr') : PtSt wo wr' kd u al args w lv nv k :=
  ⟨(hb.block _ h.lt).trans h.blk, h.lo.below hb, h.no.below hb, h.below.trans (hb.mono h.below.size)⟩
theorem PtSt.apart (h : PtSt wo wr kd u al args w lv nv k) {b : Nat} (h1 : lv.ownBlock = some b) (h2 : nv.ownBlock = some b) : False := by
  obtain ⟨_, _, c1, e1⟩ := h.lo.block h1
  obtain ⟨_, _, c2, e2⟩ := h.no.block h2
  rw [e1] at e2
  simp at e2
theorem PtSt.putL (h : PtSt wo wr kd u al args w lv nv k) {lv' : Value} {x : Int × Int} (ht : Turns lv.ownBlock.toList wr w2) (ho : OwnF (fun _ => False) (wo.heap.size + 1) w2 83 cdLnk lv' (linksK args w k ++ [x])) (hl : linkAt args w k = [x]) (hn : newAt args w k = []) :
    PtSt wo (w2.setCell ⟨wo.heap.size, 3, none⟩ lv') kd u al args w lv' nv (k + 1) := by
  have hn0 : wo.heap.size ∉ lv.ownBlock.toList := fun hm => by have := (h.lo.block (by simpa using hm)).1; omega
  refine ⟨heap_setCell_same _ _ 3 _ _ _ ((ht.block _ h.lt hn0).trans h.blk), ?_, ?_, ?_⟩
  · rw [linksK_succ, hl]
    exact ho.keep (S := [wo.heap.size]) ((Turns.refl _ _).setCell (.inl (by simp)) _) (fun b hb => by have := (ho.block hb).1; simp; omega) (by simp) (fun _ _ h => h)
  · rw [newK_succ, hn, List.append_nil]
    exact (h.no.keep ht (fun b hb hm => h.apart (by simpa using hm) hb) (by simp) (fun _ _ h => h)).keep (S := [wo.heap.size]) ((Turns.refl _ _).setCell (.inl (by simp)) _) (fun b hb => by have := (h.no.block hb).1; simp; omega) (by simp) (fun _ _ h => h)
  · exact (h.below.trans (ht.below h.below.size (fun x hx => by have := (h.lo.block (by simpa using hx)).1; omega))).setCell (Nat.le_refl _) _
theorem PtSt.putN (h : PtSt wo wr kd u al args w lv nv k) {nv' : Value} {x : Int} (ht : Turns nv.ownBlock.toList wr w2) (ho : OwnF (fun _ => False) (wo.heap.size + 1) w2 3 cdInt nv' (newK args w k ++ [x])) (hl : linkAt args w k = []) (hn : newAt args w k = [x]) :
    PtSt wo (w2.setCell ⟨wo.heap.size, 4, none⟩ nv') kd u al args w lv nv' (k + 1) := by
  have hn0 : wo.heap.size ∉ nv.ownBlock.toList := fun hm => by have := (h.no.block (by simpa using hm)).1; omega
  refine ⟨heap_setCell_same _ _ 4 _ _ _ ((ht.block _ h.lt hn0).trans h.blk), ?_, ?_, ?_⟩
  · rw [linksK_succ, hl, List.append_nil]
    exact (h.lo.keep ht (fun b hb hm => h.apart hb (by simpa using hm)) (by simp) (fun _ _ h => h)).keep (S := [wo.heap.size]) ((Turns.refl _ _).setCell (.inl (by simp)) _) (fun b hb => by have := (h.lo.block hb).1; simp; omega) (by simp) (fun _ _ h => h)
  · rw [newK_succ, hn]
    exact ho.keep (S := [wo.heap.size]) ((Turns.refl _ _).setCell (.inl (by simp)) _) (fun b hb => by have := (ho.block hb).1; simp; omega) (by simp) (fun _ _ h => h)
  · exact (h.below.trans (ht.below h.below.size (fun x hx => by have := (h.no.block (by simpa using hx)).1; omega))).setCell (Nat.le_refl _) _
theorem PtSt.skip (h : PtSt wo wr kd u al args w lv nv k) (hl : linkAt args w k = []) (hn : newAt args w k = []) : PtSt wo wr kd u al args w lv nv (k + 1) :=
  ⟨h.blk, by rw [linksK_succ, hl, List.append_nil]; exact h.lo, by rw [newK_succ, hn, List.append_nil]; exact h.no, h.below⟩
/-- The node's own block, where a list of its own has turned. -/
theorem PtSt.at2 (h : PtSt wo wr kd u al args w lv nv k) {v : Value} (hv : v = lv ∨ v = nv) (ht : Turns v.ownBlock.toList wr w2) : w2.cell? ⟨wo.heap.size, 3, none⟩ = some lv ∧ w2.cell? ⟨wo.heap.size, 4, none⟩ = some nv ∧ (∀ o, w2.frozen? ⟨wo.heap.size, o, none⟩ = false) ∧ wo.heap.size < w2.heap.size := by
  have hn0 : wo.heap.size ∉ v.ownBlock.toList := fun hm => by
    rcases hv with rfl | rfl
    · have := (h.lo.block (by simpa using hm)).1; omega
    · have := (h.no.block (by simpa using hm)).1; omega
  have e := (ht.block _ h.lt hn0).trans h.blk
  exact ⟨cell_of_row _ _ 3 _ _ _ e, cell_of_row _ _ 4 _ _ _ e, fun o => by simp [World.frozen?, e], lt_of_heap e⟩
end
theorem infoLnk : (Try.prog.info? 83).map (fun i => (i.zero, i.size, i.bytes)) = some (some (.agg #[.int .i64 0, .int .i64 0]), 2, 16) := by kernel_rfl
theorem sameV_run (n : Int) (s : Slt) : sameV n s = (s.v && (s.n == n)) := rfl

theorem Mkr.step {base g mb : Nat} {W W' : World} {S : List Nat} {st : St} {es : List Nat} (h : Mkr base g mb W S st es) (hb : Below W.heap.size W W') : Mkr base g mb W' S st es := by
  obtain ⟨av, nv, ev, rfl, hM⟩ := h
  exact ⟨av, nv, ev, rfl, hM.step hb⟩
theorem Mkr.foot {base g mb : Nat} {W : World} {S : List Nat} {st : St} {es : List Nat} (h : Mkr base g mb W S st es) : base ≤ W.heap.size ∧ ∀ x ∈ S, base ≤ x ∧ x < W.heap.size := by
  obtain ⟨av, nv, ev, rfl, hM⟩ := h
  exact ⟨by have := hM.foot_lt g mfoot_g; omega, hM.foot_lt⟩
theorem MkrTo.after {base g mb : Nat} {W W1 W2 : World} {S S1 : List Nat} {st : St} {es : List Nat} (ht : Turns S W W1) (hs : ∀ b ∈ S1, b ∈ S ∨ W.heap.size ≤ b) (h : MkrTo base g mb W1 S1 st es W2) : MkrTo base g mb W S st es W2 := by
  obtain ⟨S2, h1, h2, h3⟩ := h
  refine ⟨S2, h1, ht.trans h2 hs, fun b hb => ?_⟩
  rcases h3 b hb with h4 | h4
  · exact hs b h4
  · exact .inr (Nat.le_trans ht.size h4)

set_option maxRecDepth 200000 in
set_option maxHeartbeats 8000000 in
theorem patternW {base g mb : Nat} {W : World} {S : List Nat} {st : St} {es : List Nat} (h : Mkr base g mb W S st es) (kd : Int) (hkd : kd = 1 ∨ kd = 3) (u : Nat) (hu : u < st.ns.length) (wd : Nat) (hwd : widthAt st u = wd) (hwd2 : wd ≤ 1000)
    {F : Nat → Prop} (hFb : ∀ b, F b → b < base) (p : Pat) (v : Value) (hp : RSl F W 2 ESlt v p.args) (pok : i64ok p.pred) (h0 : 0 ≤ p.pred) (hn : ∀ s ∈ p.args, 0 ≤ s.n) (h8 : p.args.length ≤ 8) (hal : st.al.length ≤ 20000000) (hns : st.ns.length ≤ 20000000) :
    Calls Try.prog 31 #[.pointer (some ⟨g, 0, none⟩), .int .i64 kd, .int .i64 u, .agg #[.int .i64 p.pred, v]] W fun e W' => e = .returned (.int .i64 (patF kd (u, st) p).1) ∧ MkrTo base g mb W S (patF kd (u, st) p).2 es W' := by
  obtain ⟨A, c, rfl⟩ := hp.form
  obtain ⟨av, nv, ev, rfl, hM⟩ := h
  obtain ⟨A0, C0, rfl⟩ := hM.ns.form
  obtain ⟨nd, hnd⟩ : ∃ nd, st.ns[u]? = some nd := ⟨_, List.getElem?_eq_getElem hu⟩
  have hw : nd.width = (wd : Int) := by unfold widthAt at hwd; rw [hnd] at hwd; exact hwd
  obtain ⟨b, off, hA0, hFb0, hbs, cs, ⟨ln0, nn0, hE⟩, hc⟩ := (hM.ns.rsl (G := fun b => b < W.heap.size) (fun b hb => (hM.ns.block hb).2.1)).at hnd
  subst hA0
  have hcs := hE.cells
  subst hcs
  have c10 : W.cell? ⟨b, off + u * 11 + 10, none⟩ = some (.int .i64 wd) := by rw [← hw]; exact hc 10 _ rfl
  have x1 := hM.cell 1 rfl
  have hgl := hM.lt
  have e1 : (0 : Int) ≤ (u : Int) := by omega
  have e2 : (u : Int) < (st.ns.length : Int) := by omega
  have CM := Lib.hid (fun W' (hb : Below W.heap.size W W') => memoryW (S := mfoot g mb av (.slice (some ⟨b, off, none⟩) st.ns.length C0) ev) ⟨av, _, ev, rfl, hM.step hb⟩ p _ (hp.keep (Kp.of_below hb)) pok h0 hn (by omega) (by omega))
  have HM := Lib.hid hM
  have HP := Lib.hid hp
  have HN := Lib.hid hn
  have HWD := Lib.hid hwd
  have HND := Lib.hid hnd
  clear hM hp hn hc hE hnd hwd hw
  go_enter Try.func31, Try.ntmps31
  go_wp2_with fail
  refine (CM.out _ ((Below.refl _ _).alloc (Nat.le_refl _) _)).mono ?_
  rintro e w2 ⟨rfl, S2, hM2, hT2, hS2⟩
  obtain ⟨ai, hai⟩ : ∃ ai, placeF st.al (shapeF p) = ai := ⟨_, rfl⟩
  have HAI := Lib.hid hai
  rw [hai]
  have fl := HM.out.foot_lt
  have hW2 : W.heap.size < w2.heap.size := by have := hT2.size; simp at this; omega
  have eb : w2.heap[W.heap.size]? = some (.cells #[.int .i64 p.pred, .slice A p.args.length c] 34 (0, 0)) := (hT2.block _ (by simp) (fun hm => by have := (fl _ hm).2; omega)).trans (heap_alloc_new W _)
  have EB := Lib.hid eb
  have xp1 : w2.cell? ⟨W.heap.size, 1, none⟩ = some (.slice A p.args.length c) := cell_of_row _ _ 1 _ _ _ eb
  have KF : Kp F W w2 := (Kp.of_below ((Below.refl W.heap.size W).alloc (Nat.le_refl _) (.cells #[.int .i64 p.pred, .slice A p.args.length c] 34))).trans (Kp.of_turns hT2 (fun x hx hf => by have h1 := (fl x hx).1; have h2 := hFb x hf; omega))
  have HP2 := Lib.hid (HP.out.keep KF)
  have HM2 := Lib.hid hM2
  have HT2 := Lib.hid (((Turns.refl (mfoot g mb av (.slice (some ⟨b, off, none⟩) st.ns.length C0) ev) W).alloc (.cells #[.int .i64 p.pred, .slice A p.args.length c] 34)).trans hT2 (fun x hx => .inl hx))
  have HS2 := Lib.hid (show ∀ b' ∈ S2, b' ∈ mfoot g mb av (.slice (some ⟨b, off, none⟩) st.ns.length C0) ev ∨ W.heap.size ≤ b' from fun b' hb' => by
    rcases hS2 b' hb' with h1 | h1
    · exact .inl h1
    · exact .inr (by simp at h1; omega))
  have h80 : PtSt w2 (w2.alloc (.cells #[.int .i64 kd, .int .i64 u, .int .i64 ai, .slice none 0 0, .slice none 0 0, .int .i64 0, .bool false, .int .i64 0, .bool false, .int .i64 0, .int .i64 0] 54)) kd u ai p.args wd (.slice none 0 0) (.slice none 0 0) 0 :=
    ⟨heap_alloc_new w2 _, OwnF.nil, OwnF.nil, (Below.refl _ _).alloc (Nat.le_refl _) _⟩
  have H80 := Lib.hid h80
  clear hM2 hT2 hS2 KF eb fl hai h80 x1 c10
  go_wp2_with fail
  go_loopw [32] (fun i wr => ∃ (k : Nat) (lv nv : Value), i = .int .i64 k ∧ k ≤ p.args.length ∧ PtSt w2 wr kd u ai p.args wd lv nv k) (fun i _ => p.args.length - (intOf i).toNat)
  case atStart => exact ⟨0, _, _, rfl, Nat.zero_le _, H80.out⟩
  case round =>
    obtain ⟨k, lv, nv, rfl, hk, hP⟩ := hrel
    obtain ⟨la, lc, rfl⟩ := hP.lo.form
    obtain ⟨na, nc, rfl⟩ := hP.no.form
    have ll := linksK_len p.args (wd : Int) k
    have nl := newK_len p.args (wd : Int) k
    have hwz := hP.lt
    have yp1 : wr.cell? ⟨W.heap.size, 1, none⟩ = some (.slice A p.args.length c) := (hP.below.cell (p := ⟨W.heap.size, 1, none⟩) hW2).trans xp1
    have hWr : W.heap.size < wr.heap.size := by omega
    by_cases hkn : k < p.args.length
    · obtain ⟨s, hs⟩ : ∃ s, p.args[k]? = some s := ⟨_, List.getElem?_eq_getElem hkn⟩
      obtain ⟨b2, off2, rfl, hFb2, hbs2, cs2, ⟨rfl, sok⟩, hc2⟩ := (HP2.out.keep (Kp.of_below hP.below)).at hs
      have d0 := hc2 0 _ rfl
      have d1 := hc2 1 _ rfl
      simp only [Nat.add_zero] at d0
      have hs0 : 0 ≤ s.n := HN.out s (List.mem_of_getElem? hs)
      obtain ⟨sv, sn⟩ := s
      simp only at d0 d1 hs0 sok
      have f1 : (0 : Int) ≤ (k : Int) := by omega
      have f2 : (k : Int) < (p.args.length : Int) := by omega
      have CI := Lib.hid (fun W' (hb : Below (wr.heap.size + 1) (wr.alloc (.cells #[.bool sv, .int .i64 sn] 50)) W') => indexFunc_pattern _ p.args wr.heap.size (sameV sn) W' ((HP2.out.keep (Kp.of_below hP.below)).keep (Kp.of_below (box_below hb)))
        (fun t _ W'' hb'' => pattern1W t sn wr.heap.size W'' ((hb''.cell (p := ⟨wr.heap.size, 1, none⟩) (by have := hb.size; simp at this; exact this)).trans (box_cell hb 1 _ rfl)) (by have h1 := hb.size; have h2 := hb''.size; simp at h1; omega)))
      have HX := Lib.hid hP
      have HS := Lib.hid hs
      have HK := Lib.hid hkn
      clear hc2 hs hkn hP
      go_wp2_with fail
      refine (CI.out _ (Below.refl _ _)).mono ?_
      rintro e w3 ⟨rfl, hb3⟩
      have HX3 := HX.out.step (((Below.refl wr.heap.size wr).alloc (Nat.le_refl _) (.cells #[.bool sv, .int .i64 sn] 50)).trans (hb3.mono (by simp)))
      have z0 := box_cell (hb3.mono (show wr.heap.size + 1 ≤ _ by simp)) 0 _ rfl
      have z1 := box_cell (hb3.mono (show wr.heap.size + 1 ≤ _ by simp)) 1 _ rfl
      have q3 : w3.cell? ⟨w2.heap.size, 3, none⟩ = some (.slice la (linksK p.args wd k).length lc) := cell_of_row _ _ 3 _ _ _ HX3.blk
      have q4 : w3.cell? ⟨w2.heap.size, 4, none⟩ = some (.slice na (newK p.args wd k).length nc) := cell_of_row _ _ 4 _ _ _ HX3.blk
      have hw3 := HX3.lt
      have hw4 : wr.heap.size < w3.heap.size := by have := hb3.size; simp at this; omega
      have HX3' := Lib.hid HX3
      have hbase2 : w2.heap.size + 1 ≤ w3.heap.size := by omega
      clear hb3 HX3 d0 d1
      cases sv with
      | false =>
        have hl : linkAt p.args (wd : Int) k = [] := by unfold linkAt; rw [HS.out]; simp
        have hnn : newAt p.args (wd : Int) k = [] := by unfold newAt; rw [HS.out]; simp
        have N1 := Lib.hid (HX3'.out.skip hl hnn)
        clear hl hnn
        go_wp2
        exact ⟨⟨k + 1, _, _, by go_num, HK.out, N1.out⟩, by simp [intOf]; have := HK.out; omega⟩
      | true =>
        rw [idxI_first HS.out]
        by_cases hf : firstV p.args sn = k
        · have hf2 : (((firstV p.args sn : Nat) : Int) == (k : Int)) = true := by simp; omega
          by_cases hlt : sn < (wd : Int)
          · have hl : linkAt p.args (wd : Int) k = [((k : Int), sn)] := by unfold linkAt; rw [HS.out]; simp [hf, hlt]
            have hnn : newAt p.args (wd : Int) k = [] := by unfold newAt; rw [HS.out]; simp [hlt]
            have HL := Lib.hid (And.intro hl hnn)
            have OKL := Lib.hid (And.intro (okNat (k := k) (by omega)) sok)
            clear hl hnn hf
            go_wp2_with (at_builtin; refine wpList_append_F HX3'.out.lo (fun _ _ h => h) rfl (.tmp 63) (.tmp 68) 48 rfl Try.underlying48 infoLnk rfl (by decide) rfl #[.int .i64 k, .int .i64 sn] _ rfl rfl (x := ((k : Int), sn)) ⟨rfl, OKL.out⟩ (by omega) (by decide) hbase2 ?_; intro g' cap w4 ho ht hat hlt4; obtain ⟨t1, t2, t3, t4⟩ := HX3'.out.at2 (.inl rfl) ht; have N1 := Lib.hid (HX3'.out.putL ht (ho _ (fun _ _ h => h)) HL.out.1 HL.out.2); clear ho ht hat hlt4)
            exact ⟨⟨k + 1, _, _, by go_num, HK.out, N1.out⟩, by simp [intOf]; have := HK.out; omega⟩
          · have hl : linkAt p.args (wd : Int) k = [] := by unfold linkAt; rw [HS.out]; simp [hlt]
            have hnn : newAt p.args (wd : Int) k = [(k : Int)] := by unfold newAt; rw [HS.out]; simp [hf]; omega
            have HL := Lib.hid (And.intro hl hnn)
            have OKL := Lib.hid (okNat (k := k) (by omega))
            clear hl hnn hf
            go_wp2_with (at_builtin; refine wpList_append_F HX3'.out.no (fun _ _ h => h) rfl (.tmp 44) (.tmp 46) 25 rfl Try.underlying25 infoIntR rfl (by decide) rfl #[.int .i64 k] _ rfl rfl (x := (k : Int)) ⟨rfl, OKL.out⟩ (by omega) (by decide) hbase2 ?_; intro g' cap w4 ho ht hat hlt4; obtain ⟨t1, t2, t3, t4⟩ := HX3'.out.at2 (.inr rfl) ht; have N1 := Lib.hid (HX3'.out.putN ht (ho _ (fun _ _ h => h)) HL.out.1 HL.out.2); clear ho ht hat hlt4)
            exact ⟨⟨k + 1, _, _, by go_num, HK.out, N1.out⟩, by simp [intOf]; have := HK.out; omega⟩
        · have hf2 : (((firstV p.args sn : Nat) : Int) == (k : Int)) = false := by simp; omega
          have hl : linkAt p.args (wd : Int) k = [] := by unfold linkAt; rw [HS.out]; simp [hf]
          have hnn : newAt p.args (wd : Int) k = [] := by unfold newAt; rw [HS.out]; simp [hf]
          have N1 := Lib.hid (HX3'.out.skip hl hnn)
          clear hl hnn hf
          go_wp2
          exact ⟨⟨k + 1, _, _, by go_num, HK.out, N1.out⟩, by simp [intOf]; have := HK.out; omega⟩
    · obtain rfl : k = p.args.length := by omega
      have q0 := cell_of_row _ _ 0 _ _ _ hP.blk
      have q1 := cell_of_row _ _ 1 _ _ _ hP.blk
      have q2 := cell_of_row _ _ 2 _ _ _ hP.blk
      have q3 := cell_of_row _ _ 3 _ _ _ hP.blk
      have q4 := cell_of_row _ _ 4 _ _ _ hP.blk
      have q5 := cell_of_row _ _ 5 _ _ _ hP.blk
      have q6 := cell_of_row _ _ 6 _ _ _ hP.blk
      have q7 := cell_of_row _ _ 7 _ _ _ hP.blk
      have q8 := cell_of_row _ _ 8 _ _ _ hP.blk
      have q9 := cell_of_row _ _ 9 _ _ _ hP.blk
      have q10 := cell_of_row _ _ 10 _ _ _ hP.blk
      simp only [List.getElem?_toArray, List.getElem?_cons_zero, List.getElem?_cons_succ] at q0 q1 q2 q3 q4 q5 q6 q7 q8 q9 q10
      have fz : ∀ o, wr.frozen? ⟨w2.heap.size, o, none⟩ = false := fun o => by have := hP.blk; simp [World.frozen?, this]
      obtain ⟨L, hLd⟩ : ∃ L, linksK p.args (wd : Int) p.args.length = L := ⟨_, rfl⟩
      obtain ⟨M, hMd⟩ : ∃ M, newK p.args (wd : Int) p.args.length = M := ⟨_, rfl⟩
      have hno : nodeOf st kd u p = ⟨kd, u, ai, L, M, noTst, (wd : Int) + M.length⟩ := by
        unfold nodeOf
        rw [HWD.out, HAI.out, hLd, hMd]
      have hLok : ∀ l ∈ L, i64ok l.1 ∧ i64ok l.2 := fun l hl => by
        rw [← hLd] at hl
        obtain ⟨i, s, hi, hs, rfl⟩ := linksK_mem hl
        obtain ⟨_, _, _, _, _, cs', ⟨_, ok'⟩, _⟩ := HP2.out.at hs
        exact ⟨okNat (by omega), ok'⟩
      have hMok : ∀ x ∈ M, i64ok x := fun x hx => by
        rw [← hMd] at hx
        obtain ⟨i, hi, rfl⟩ := newK_mem hx
        exact okNat (by omega)
      have bW : Below w2.heap.size w2 (wr.setCell ⟨w2.heap.size, 10, none⟩ (.int .i64 ((wd : Int) + M.length))) := hP.below.setCell (Nat.le_refl _) _
      have hM3 := HM2.out.step bW
      have ft := HM2.out.foot
      have K : Kp (fun b => w2.heap.size < b) wr (wr.setCell ⟨w2.heap.size, 10, none⟩ (.int .i64 ((wd : Int) + M.length))) := ⟨by simp, fun b _ hb => Below.heap_setCell _ _ _ _ (by simp; omega)⟩
      have hoff : ∀ b, b < wr.heap.size → w2.heap.size < b → Off base S2 b := fun b _ hb => ⟨by omega, fun hm => by have := (ft.2 b hm).2; omega⟩
      have rl := (hP.lo.rsl (G := fun b => w2.heap.size < b) (fun b hb => by have := (hP.lo.block hb).1; omega)).kp K hoff (fun _ _ h => h)
      have rn := (hP.no.rsl (G := fun b => w2.heap.size < b) (fun b hb => by have := (hP.no.block hb).1; omega)).kp K hoff (fun _ _ h => h)
      have T10 : Turns [w2.heap.size] wr (wr.setCell ⟨w2.heap.size, 10, none⟩ (.int .i64 ((wd : Int) + M.length))) := (Turns.refl _ _).setCell (.inl (by simp)) _
      have own : ∀ (e : TypeId) (sz : Nat) (v : Value) (n : Nat), (∃ x, wr.ownsRow (w2.heap.size + 1) e sz v n x) → ∃ x, (wr.setCell ⟨w2.heap.size, 10, none⟩ (.int .i64 ((wd : Int) + M.length))).ownsRow base e sz v n x := by
        rintro e sz v n ⟨x, hx⟩
        have h2 := ownsRow_turns hx T10 (fun b hb hm => by have := (ownBlock_cells hx hb).1; rw [List.mem_singleton.1 hm] at this; omega)
        exact ⟨x, h2.1, h2.2.imp id (fun ⟨g, cap, cur, q1, q2, r⟩ => ⟨g, cap, cur, q1, by have := ft.1; omega, r⟩)⟩
      have ol := own 83 2 _ _ (by obtain ⟨x, hx, _⟩ := hP.lo; exact ⟨x, hx⟩)
      have on := own 3 1 _ _ (by obtain ⟨x, hx, _⟩ := hP.no; exact ⟨x, hx⟩)
      have hfr : ∀ b, (Value.slice la (linksK p.args (wd : Int) p.args.length).length lc).ownBlock = some b ∨ (Value.slice na (newK p.args (wd : Int) p.args.length).length nc).ownBlock = some b → w2.heap.size ≤ b ∧ Off base S2 b := by
        rintro b (hb | hb)
        · obtain ⟨h1, h2, _⟩ := hP.lo.block hb
          exact ⟨by omega, hoff b h2 (by omega)⟩
        · obtain ⟨h1, h2, _⟩ := hP.no.block hb
          exact ⟨by omega, hoff b h2 (by omega)⟩
      have hMB := HM2.out.bound.step bW
      rw [hLd] at rl ll q3 ol hfr
      rw [hMd] at on hfr
      have hLN : LstN w2.heap.size base S2 (wr.setCell ⟨w2.heap.size, 10, none⟩ (.int .i64 ((wd : Int) + M.length))) (.slice la L.length lc) (.slice na M.length nc) ⟨kd, u, ai, L, M, noTst, (wd : Int) + M.length⟩ := ⟨ol, on, hfr⟩
      rw [hMd] at rn nl q4
      have k1 : i64ok kd := WalkArith.wf_i64 (by omega)
      have k2 : i64ok ((wd : Int) + (M.length : Int)) := WalkArith.wf_i64 (by omega)
      have k3 : ai ≤ st.al.length := by
        have h1 := HAI.out
        rw [← h1]
        by_cases hm : shapeF p ∈ st.al
        · exact Nat.le_of_lt (placeF_lt hm).1
        · rw [placeF_none hm]; exact Nat.le_refl _
      have hN : NdOk ⟨kd, u, ai, L, M, noTst, (wd : Int) + M.length⟩ := ⟨⟨k1, okNat (by omega), okNat (by omega), k2, ok0, ok0, ok0⟩, hLok, hMok, by simp only; omega, by simp only; omega⟩
      have EN : ENd (Off base S2) (wr.setCell ⟨w2.heap.size, 10, none⟩ (.int .i64 ((wd : Int) + M.length))) [.int .i64 kd, .int .i64 u, .int .i64 ai, .slice la L.length lc, .slice na M.length nc, .int .i64 0, .bool false, .int .i64 0, .bool false, .int .i64 0, .int .i64 ((wd : Int) + M.length)] ⟨kd, u, ai, L, M, noTst, (wd : Int) + M.length⟩ (.slice la L.length lc) (.slice na M.length nc) :=
        ⟨rfl, hN.ints, rl, rn⟩
      have CN := Lib.hid (nodeW hMB ⟨kd, u, ai, L, M, noTst, (wd : Int) + M.length⟩ hLN EN hN (by rcases hkd with rfl | rfl <;> (simp only; decide)) (by simp only; omega))
      have HNO := Lib.hid hno
      have BW := Lib.hid bW
      clear k1 k2 k3 hno hLok hMok bW hM3 K hoff rl rn hN EN hP hLd hMd T10 own ol on hfr hMB hLN
      go_wp2_with fail
      refine CN.out.mono ?_
      rintro e w5 ⟨rfl, hT⟩
      go_wp2
      go_ret
      refine ⟨ret_i64 (by simp only [patF]; rw [HNO.out]), ?_⟩
      have := MkrTo.after ((HT2.out.trans (Turns.of_below (S := []) BW.out) (by simp))) HS2.out hT
      simp only [patF]
      rw [HNO.out]
      exact this
end Go.Proofs.Ytonkbjdeaneicaa

namespace Go.Proofs.Ytonkbjdeaneicaa.Pln
open Classical

/-- Behind the first i conditions. -/
noncomputable def upTo (st : St) (r : Rl) (i : Nat) : Nat × St := ((conds r).take i).foldl stepF (0, st)
theorem upTo_zero (st : St) (r : Rl) : upTo st r 0 = (0, st) := rfl
theorem upTo_succ (st : St) {r : Rl} {i : Nat} {c : Cnd} (h : (conds r)[i]? = some c) : upTo st r (i + 1) = stepF (upTo st r i) c := by
  unfold upTo
  rw [List.take_add_one, h, List.foldl_append]
  rfl
theorem upTo_all (st : St) (r : Rl) : upTo st r (r.pos.length + r.tests.length + r.neg.length) = ruleF st r := by
  unfold upTo
  rw [← conds_len, List.take_length, ruleF_conds]
theorem cond_pos {r : Rl} {j : Nat} {p : Pat} (h : r.pos[j]? = some p) : (conds r)[j]? = some ⟨1, p, noTst⟩ := by
  unfold conds
  have hl := (List.getElem?_eq_some_iff.1 h).1
  rw [List.getElem?_append_left (by simp; omega), List.getElem?_append_left (by simpa using hl), List.getElem?_map, h]
  rfl
theorem cond_test {r : Rl} {j : Nat} {t : Tst} (h : r.tests[j]? = some t) : (conds r)[r.pos.length + j]? = some ⟨2, noPat, t⟩ := by
  unfold conds
  have hl := (List.getElem?_eq_some_iff.1 h).1
  rw [List.getElem?_append_left (by simp; omega), List.getElem?_append_right (by simp), List.length_map, Nat.add_sub_cancel_left, List.getElem?_map, h]
  rfl
theorem cond_neg {r : Rl} {j : Nat} {p : Pat} (h : r.neg[j]? = some p) : (conds r)[r.pos.length + r.tests.length + j]? = some ⟨3, p, noTst⟩ := by
  unfold conds
  rw [List.getElem?_append_right (by simp), List.getElem?_map]
  have e : r.pos.length + r.tests.length + j - (r.pos.map (fun p => (⟨1, p, noTst⟩ : Cnd)) ++ r.tests.map (fun t => (⟨2, noPat, t⟩ : Cnd))).length = j := by simp
  rw [e, h]
  rfl
theorem okCs_at : ∀ (cs : List Cnd) (w : Nat), okCs w cs → ∀ c ∈ cs, ∃ w', okC w' c
  | [], _, _, c, h => by cases h
  | d :: l, w, ⟨h1, h2⟩, c, h => by
    rcases List.mem_cons.1 h with rfl | h
    · exact ⟨w, h1⟩
    · exact okCs_at l _ h2 c h
theorem fold_width : ∀ (cs : List Cnd) (x : Nat × St) (w : Nat), okCs w cs → (∀ c ∈ cs, c.p.args.length ≤ 8) → x.1 < x.2.ns.length → widthAt x.2 x.1 = (w : Int) →
    ∃ w' : Nat, widthAt (cs.foldl stepF x).2 (cs.foldl stepF x).1 = (w' : Int) ∧ w' ≤ w + 8 * cs.length
  | [], x, w, _, _, _, hw => ⟨w, hw, by simp⟩
  | c :: r, x, w, ⟨h1, h2⟩, h8, hx, hw => by
    obtain ⟨s1, s2, s3, s4⟩ := stepF_facts x c hx
    have hE := ext_stepF x c
    have hw2 : widthAt (stepF x c).2 x.1 = (w : Int) := by rw [hE.width hx]; exact hw
    have e : widthAt (stepF x c).2 (stepF x c).1 = (nextW w c : Int) := by
      unfold widthAt
      rw [s3, (placeF_lt s2).2]
      exact nodeC_width h1 hw2
    obtain ⟨w', i1, i2⟩ := fold_width r (stepF x c) _ h2 (fun d hd => h8 d (List.mem_cons_of_mem _ hd)) s4 e
    refine ⟨w', i1, Nat.le_trans i2 ?_⟩
    have h3 : nextW w c ≤ w + 8 := by
      unfold nextW
      split
      · have := scanD_len c.p.args w
        have := h8 c (List.mem_cons_self ..)
        omega
      · omega
    simp only [List.length_cons]
    omega
theorem fold_len : ∀ (cs : List Cnd) (x : Nat × St), (cs.foldl stepF x).2.ns.length ≤ x.2.ns.length + cs.length ∧ (cs.foldl stepF x).2.al.length ≤ x.2.al.length + cs.length
  | [], x => by simp
  | c :: r, x => by
    obtain ⟨i1, i2⟩ := fold_len r (stepF x c)
    rw [List.foldl_cons]
    have h : (stepF x c).2.ns.length ≤ x.2.ns.length + 1 ∧ (stepF x c).2.al.length ≤ x.2.al.length + 1 := by
      unfold stepF
      split
      · obtain ⟨q, h1, h2⟩ := addF_pre x.2.ns (testOf x.2 x.1 c.t)
        refine ⟨?_, by simp [tstF]⟩
        show (addF _ _).length ≤ _
        rw [h1, List.length_append]; omega
      · obtain ⟨q, h1, h2⟩ := addF_pre x.2.ns (nodeOf x.2 c.kind x.1 c.p)
        obtain ⟨q', h3, h4⟩ := addF_pre x.2.al (shapeF c.p)
        refine ⟨?_, ?_⟩
        · show (addF _ _).length ≤ _
          rw [h1, List.length_append]; omega
        · show (addF _ _).length ≤ _
          rw [h3, List.length_append]; omega
    simp only [List.length_cons]
    omega
theorem okCs_take : ∀ (cs : List Cnd) (w i : Nat), okCs w cs → okCs w (cs.take i)
  | [], _, i, _ => by simp [okCs]
  | c :: r, w, 0, _ => trivial
  | c :: r, w, i + 1, ⟨h1, h2⟩ => ⟨h1, okCs_take r _ i h2⟩
theorem Fit.args8 {r : Rl} {w : Nat} (h : Fit r w) : ∀ c ∈ conds r, c.p.args.length ≤ 8 := by
  intro c hc
  unfold conds at hc
  rcases List.mem_append.1 hc with hc | hc
  · rcases List.mem_append.1 hc with hc | hc
    · obtain ⟨p, hp, rfl⟩ := List.mem_map.1 hc
      exact (h.pats p hp).2
    · obtain ⟨t, ht, rfl⟩ := List.mem_map.1 hc
      simp [noPat]
  · obtain ⟨p, hp, rfl⟩ := List.mem_map.1 hc
    exact (h.ngs p hp).2.1
/-- What holds behind the first i conditions of a rule that fits. -/
theorem upTo_facts {st : St} (hwf : Wf st) {r : Rl} {w : Nat} (h : Fit r w) {i : Nat} (hi : i ≤ r.pos.length + r.tests.length + r.neg.length) :
    (upTo st r i).1 < (upTo st r i).2.ns.length ∧ (∃ w' : Nat, widthAt (upTo st r i).2 (upTo st r i).1 = (w' : Int) ∧ w' ≤ 128) ∧ (upTo st r i).2.ns.length ≤ st.ns.length + 16 ∧ (upTo st r i).2.al.length ≤ st.al.length + 16 := by
  have hl : ((conds r).take i).length ≤ 16 := by
    rw [List.length_take, conds_len]
    have := h.many
    omega
  have w0 : widthAt st 0 = ((0 : Nat) : Int) := by unfold widthAt; rw [hwf.root]; rfl
  obtain ⟨w', h1, h2⟩ := fold_width ((conds r).take i) (0, st) 0 (okCs_take _ _ _ h.okCs) (fun c hc => h.args8 c (List.mem_of_mem_take hc)) hwf.len w0
  obtain ⟨h3, h4⟩ := fold_len ((conds r).take i) (0, st)
  refine ⟨(stands_fold ((conds r).take i) (0, st) hwf.len).2.2, ⟨w', h1, by omega⟩, ?_, ?_⟩
  · exact Nat.le_trans h3 (by simp only; omega)
  · exact Nat.le_trans h4 (by simp only; omega)
theorem comp_len (rs : List Rl) (hf : ∀ r ∈ rs, mayP r) : ∀ k, k ≤ rs.length → (compF (rs.take k)).1.ns.length ≤ 1 + 16 * k ∧ (compF (rs.take k)).1.al.length ≤ 16 * k
  | 0, _ => by simp [compF]
  | k + 1, hk => by
    obtain ⟨i1, i2⟩ := comp_len rs hf k (by omega)
    have hr : rs[k]? = some rs[k] := List.getElem?_eq_getElem (by omega)
    obtain ⟨w, hw⟩ := hf rs[k] (List.getElem_mem _)
    obtain ⟨_, _, h3, h4⟩ := upTo_facts (made_comp (rs.take k)).wf hw (Nat.le_refl _)
    rw [upTo_all] at h3 h4
    rw [comp_take_succ hr]
    simp only [endF]
    omega
end Go.Proofs.Ytonkbjdeaneicaa.Pln
