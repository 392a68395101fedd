/- node: the walk. memory: the number of a shape, a new one where there is none such. Printed by wip/bin/memo.py. -/
import Derived.Test.YtonkbjdeaneicaaKpo11
namespace Go.Proofs.Ytonkbjdeaneicaa
open Go.RowKit Pln Classical Go.Maps

theorem infoNd : (Try.prog.info? 54).map (fun i => (i.zero, i.size, i.bytes)) = some (some (.agg #[.int .i64 0, .int .i64 0, .int .i64 0, .slice none 0 0, .slice none 0 0, .int .i64 0, .bool false, .int .i64 0, .bool false, .int .i64 0, .int .i64 0]), 11, 120) := by kernel_rfl
theorem St.eta (st : St) : (⟨st.al, st.ns⟩ : St) = st := rfl
theorem mfoot_g {g mb : Nat} {av nv ev : Value} : g ∈ mfoot g mb av nv ev := by simp [mfoot]

theorem MkAt.foot_lt {base g mb : Nat} {W : World} {av nv ev : Value} {st : St} {es : List Nat} (h : MkAt base g mb W av nv ev st es) : ∀ x ∈ mfoot g mb av nv ev, base ≤ x ∧ x < W.heap.size := by
  intro x hx
  simp only [mfoot, List.mem_cons, List.mem_append, Option.mem_toList] at hx
  rcases hx with rfl | rfl | hx | hx | hx
  · exact ⟨h.gb, h.lt⟩
  · exact ⟨h.mbb, h.map.lt⟩
  · exact ⟨(h.al.block hx).1, (h.al.block hx).2.1⟩
  · exact ⟨(h.ns.block hx).1, (h.ns.block hx).2.1⟩
  · exact ⟨(h.en.block hx).1, (h.en.block hx).2.1⟩

/-- A maker whose inner lists lie below t. -/
def MkrB (t base g mb : Nat) (W : World) (S : List Nat) (st : St) (es : List Nat) : Prop :=
  ∃ av nv ev G, S = mfoot g mb av nv ev ∧ MkAt base g mb W av nv ev st es ∧ Inn (Off base S) base W av nv st.al.length st.ns.length G ∧ ∀ (t' i : Nat) (s : Slo) (b : Nat), G t' i = some s → s.v.ownBlock = some b → b < t
theorem Mkr.bound {base g mb : Nat} {W : World} {S : List Nat} {st : St} {es : List Nat} (h : Mkr base g mb W S st es) : MkrB W.heap.size base g mb W S st es := by
  obtain ⟨av, nv, ev, rfl, hM⟩ := h
  obtain ⟨G, hG⟩ := hM.inn
  exact ⟨av, nv, ev, G, rfl, hM, hG, fun t' i s b hs hb => (hG.lt hs hb).2⟩
theorem MkrB.step {t base g mb : Nat} {W W' : World} {S : List Nat} {st : St} {es : List Nat} (h : MkrB t base g mb W S st es) (hb : Below W.heap.size W W') : MkrB t base g mb W' S st es := by
  obtain ⟨av, nv, ev, G, rfl, hM, hG, hl⟩ := h
  exact ⟨av, nv, ev, G, rfl, hM.step hb, hG.below hb, hl⟩
theorem MkrB.mkr {t base g mb : Nat} {W : World} {S : List Nat} {st : St} {es : List Nat} (h : MkrB t base g mb W S st es) : Mkr base g mb W S st es := by
  obtain ⟨av, nv, ev, G, rfl, hM, _⟩ := h
  exact ⟨av, nv, ev, rfl, hM⟩
/-- A node's lists: of the call's own, from block t on. -/
structure LstN (t base : Nat) (S : List Nat) (W : World) (lv nv : Value) (n : Nd) : Prop where
  o1 : ∃ x, W.ownsRow base 83 2 lv n.links.length x
  o2 : ∃ x, W.ownsRow base 3 1 nv n.new.length x
  fr : ∀ b, lv.ownBlock = some b ∨ nv.ownBlock = some b → t ≤ b ∧ Off base S b
theorem LstN.step {t base : Nat} {S : List Nat} {W W' : World} {lv nv : Value} {n : Nd} (h : LstN t base S W lv nv n) (hb : Below W.heap.size W W') : LstN t base S W' lv nv n := by
  obtain ⟨⟨x1, h1⟩, ⟨x2, h2⟩, h3⟩ := h
  exact ⟨⟨x1, ownsRow_turns h1 (Turns.of_below (S := []) hb) (fun _ _ => by simp)⟩, ⟨x2, ownsRow_turns h2 (Turns.of_below (S := []) hb) (fun _ _ => by simp)⟩, h3⟩
theorem LstN.nil {t base : Nat} {S : List Nat} {W : World} {n : Nd} (h1 : n.links = []) (h2 : n.new = []) : LstN t base S W (.slice none 0 0) (.slice none 0 0) n :=
  ⟨⟨[], by rw [h1]; exact World.ownsRow_nil _ _ _ _⟩, ⟨[], by rw [h2]; exact World.ownsRow_nil _ _ _ _⟩, fun b hb => by simp [Value.ownBlock] at hb⟩
theorem newN_of {t base : Nat} {S : List Nat} {W : World} {lv nv : Value} {n : Nd} {G : Nat → Nat → Option Slo} (h : LstN t base S W lv nv n) (hl : n.links.length ≤ 8) (hn : n.new.length ≤ 8) (hG : ∀ (t' i : Nat) (s : Slo) (b : Nat), G t' i = some s → s.v.ownBlock = some b → b < t) :
    ∃ s1 s2 : Slo, s1.v = lv ∧ s2.v = nv ∧ NewN (Off base S) base W G s1 s2 := by
  obtain ⟨⟨x1, h1⟩, ⟨x2, h2⟩, h3⟩ := h
  refine ⟨⟨lv, true, n.links.length, x1⟩, ⟨nv, false, n.new.length, x2⟩, rfl, rfl, rfl, rfl, h1, by simp only; omega, h2, by simp only; omega, ?_, ?_, fun b hb => (h3 b hb).2⟩
  · intro t' i s' b hs hb
    have := hG t' i s' b hs hb
    exact ⟨fun e => by have := (h3 b (.inl e)).1; omega, fun e => by have := (h3 b (.inr e)).1; omega⟩
  · intro b hb hb2
    obtain ⟨_, _, c1, e1⟩ := ownBlock_cells h1 hb
    obtain ⟨_, _, c2, e2⟩ := ownBlock_cells h2 hb2
    rw [e1] at e2
    simp at e2

set_option maxRecDepth 200000 in
set_option maxHeartbeats 4000000 in
theorem node_hit {base g mb : Nat} {W : World} {S : List Nat} {st : St} {es : List Nat} (h : Mkr base g mb W S st es) {cs : List Value} {lv nv : Value} (n : Nd) (hn : ENd (Off base S) W cs n lv nv) (ok : NdOk n) (hk : n.kind ≠ 0) (hm : n ∈ st.ns) :
    Calls Try.prog 32 #[.pointer (some ⟨g, 0, none⟩), .agg #[.int .i64 n.kind, .int .i64 n.parent, .int .i64 n.alpha, lv, nv, .int .i64 n.test.op, .bool n.test.l.v, .int .i64 n.test.l.n, .bool n.test.r.v, .int .i64 n.test.r.n, .int .i64 n.width]] W fun e W' => e = .returned (.int .i64 (placeF st.ns n)) ∧ Below W.heap.size W W' := by
  obtain ⟨av, nv0, ev, rfl, hM⟩ := h
  obtain ⟨l, hl⟩ := keyA ok
  have CA := Lib.hid (fun W' (hb : Below W.heap.size W W') => asksW n W' (hn.kp (F' := Off base (mfoot g mb av nv0 ev)) (Kp.of_below hb) (fun _ _ h => h)) ok.l8 ok.n8)
  obtain ⟨la, lc, rfl⟩ := hn.links.form
  obtain ⟨na, nc, rfl⟩ := hn.new.form
  have HM := Lib.hid hM
  have KL := Lib.hid hl
  have AF := Lib.hid (atF_hit hm hk ok.l8 ok.n8)
  clear hn hl hM
  obtain ⟨pl, hpl⟩ : ∃ pl, placeF st.ns n = pl := ⟨_, rfl⟩
  rw [hpl] at AF ⊢
  clear hpl hm
  go_enter Try.func32, Try.ntmps32
  go_wp2_with (first
    | (go_at_call 57; refine (CA.out _ ?_).mono ?_; exact (Below.refl _ _).alloc (Nat.le_refl _) _; rintro e w2 ⟨rfl, hb2⟩; have HB2 := Lib.hid (((Below.refl W.heap.size W).alloc (Nat.le_refl _) _).trans (hb2.mono (by simp))); clear hb2)
    | (with_reducible refine stop_store rfl 101 (.tmp 5) (.tmp 12) rfl ?_))
  refine Lib.hid ?_
  refine wpList_store_new rfl 101 (.tmp 5) (.tmp 12) rfl w2.heap.size rfl _ _ _ rfl rfl sizeAsk rfl (askA_one n) ?_
  go_wp2_with fail
  refine wp_region_still_lit (by kernel_rfl) (by kernel_rfl) ?_
  have hB3 := HB2.out.trans ((((Below.refl w2.heap.size w2).alloc (Nat.le_refl _) (.cells (askA n) 101)).drew).mono HB2.out.size)
  have hrow : (w2.alloc (.cells (askA n) 101)).drew.heap[w2.heap.size]? = some (.cells (askA n) 101 (0, 0)) := heap_alloc_new w2 _
  change wpStill _ _ (w2.alloc (.cells (askA n) 101)).drew (fun a' => Exit.then _ _ _ a' (w2.alloc (.cells (askA n) 101)).drew) _ _
  generalize (w2.alloc (.cells (askA n) 101)).drew = wd at hB3 hrow ⊢
  have HMd := HM.out.step hB3
  have hrun := HMd.map.hit (t := 74) keyedA Try.underlying74 Try.underlying3 (zeroI _) KL.out AF.out
  have x3 := HMd.cell 3 rfl
  have hR := Lib.hid hrow
  have HB3 := Lib.hid hB3
  clear HMd hB3 hrow
  still_step
  still_step
  still_step
  still_step
  refine wpStill_load_row rfl 101 (.tmp 5) rfl w2.heap.size (by simp [Act.eval]) 101 (askA n) (0, 0) _ hR.out Try.underlying101 rfl sizeAsk ?_
  repeat still_step
  refine wpStill_nil ?_
  go_wp2
  go_ret
  exact ⟨rfl, HB3.out⟩

set_option maxRecDepth 200000 in
set_option maxHeartbeats 4000000 in
theorem node_miss {t base g mb : Nat} {W : World} {S : List Nat} {st : St} {es : List Nat} (h : MkrB t base g mb W S st es) {cs : List Value} {lv nv : Value} (n : Nd) (hL : LstN t base S W lv nv n) (hn : ENd (Off base S) W cs n lv nv) (ok : NdOk n) (hk : n.kind ≠ 0) (hm : n ∉ st.ns) (hlen : st.ns.length ≤ 30000000) :
    Calls Try.prog 32 #[.pointer (some ⟨g, 0, none⟩), .agg #[.int .i64 n.kind, .int .i64 n.parent, .int .i64 n.alpha, lv, nv, .int .i64 n.test.op, .bool n.test.l.v, .int .i64 n.test.l.n, .bool n.test.r.v, .int .i64 n.test.r.n, .int .i64 n.width]] W fun e W' => e = .returned (.int .i64 st.ns.length) ∧ MkrTo base g mb W S ⟨st.al, st.ns ++ [n]⟩ es W' := by
  obtain ⟨av, nv0, ev, G, rfl, hM, hI, hGl⟩ := h
  obtain ⟨l, hl⟩ := keyA ok
  have hcs := hn.cells
  subst hcs
  have CA := Lib.hid (fun W' (hb : Below W.heap.size W W') => asksW n W' (hn.kp (F' := Off base (mfoot g mb av nv0 ev)) (Kp.of_below hb) (fun _ _ h => h)) ok.l8 ok.n8)
  obtain ⟨la, lc, rfl⟩ := hn.links.form
  obtain ⟨na, nc, rfl⟩ := hn.new.form
  have HM := Lib.hid hM
  have KL := Lib.hid hl
  have AF := Lib.hid (atF_miss hm ok.l8 ok.n8)
  have HNO := Lib.hid hm
  have HEN := Lib.hid hn
  have HI := Lib.hid hI
  have HLN := Lib.hid hL
  have HGL := Lib.hid hGl
  have OK := Lib.hid ok
  have HK := Lib.hid hk
  clear hn hl hM hm ok hk hI hL hGl
  obtain ⟨A0, C0, rfl⟩ := HM.out.ns.form
  go_enter Try.func32, Try.ntmps32
  go_wp2_with (first
    | (go_at_call 57; refine (CA.out _ ?_).mono ?_; exact (Below.refl _ _).alloc (Nat.le_refl _) _; rintro e w2 ⟨rfl, hb2⟩; have HBX := Lib.hid (hb2.mono (show W.heap.size + 1 ≤ _ by simp)); have HB2 := Lib.hid (((Below.refl W.heap.size W).alloc (Nat.le_refl _) _).trans (hb2.mono (by simp))); clear hb2)
    | (with_reducible refine stop_store rfl 101 (.tmp 5) (.tmp 12) rfl ?_))
  refine Lib.hid ?_
  refine wpList_store_new rfl 101 (.tmp 5) (.tmp 12) rfl w2.heap.size rfl _ _ _ rfl rfl sizeAsk rfl (askA_one n) ?_
  go_wp2_with fail
  refine wp_region_still_lit (by kernel_rfl) (by kernel_rfl) ?_
  have hB3 := HB2.out.trans ((((Below.refl w2.heap.size w2).alloc (Nat.le_refl _) (.cells (askA n) 101)).drew).mono HB2.out.size)
  have hrow : (w2.alloc (.cells (askA n) 101)).drew.heap[w2.heap.size]? = some (.cells (askA n) 101 (0, 0)) := heap_alloc_new w2 _
  have hB4 : Below w2.heap.size w2 (w2.alloc (.cells (askA n) 101)).drew := ((Below.refl w2.heap.size w2).alloc (Nat.le_refl _) _).drew
  change wpStill _ _ (w2.alloc (.cells (askA n) 101)).drew (fun a' => Exit.then _ _ _ a' (w2.alloc (.cells (askA n) 101)).drew) _ _
  generalize (w2.alloc (.cells (askA n) 101)).drew = wd at hB3 hB4 hrow ⊢
  have HMd := HM.out.step hB3
  have hrun := HMd.map.miss (t := 74) keyedA Try.underlying74 Try.underlying3 (zeroI _) KL.out AF.out
  have x3 := HMd.cell 3 rfl
  have x1 := HMd.cell 1 rfl
  have BX := HBX.out.trans (hB4.mono (by have := HBX.out.size; simpa using this))
  have y0 := box_cell BX 0 _ rfl
  have y1 := box_cell BX 1 _ rfl
  have y2 := box_cell BX 2 _ rfl
  have y3 := box_cell BX 3 _ rfl
  have y4 := box_cell BX 4 _ rfl
  have y5 := box_cell BX 5 _ rfl
  have y6 := box_cell BX 6 _ rfl
  have y7 := box_cell BX 7 _ rfl
  have y8 := box_cell BX 8 _ rfl
  have y9 := box_cell BX 9 _ rfl
  have y10 := box_cell BX 10 _ rfl
  have hWs : W.heap.size < wd.heap.size := by have := BX.size; simp at this; omega
  have hw2l : w2.heap.size < wd.heap.size := lt_of_heap hrow
  have hR := Lib.hid hrow
  have HB3 := Lib.hid hB3
  have HMD := Lib.hid HMd
  have hgl := HMd.lt
  have HE := Lib.hid (HEN.out.kp (F' := Off base (mfoot g mb av (.slice A0 st.ns.length C0) ev)) (Kp.of_below hB3) (fun _ _ h => h))
  have hbs := (HM.out.foot_lt g mfoot_g).1
  have HFL := Lib.hid HM.out.foot_lt
  have hbase : base ≤ wd.heap.size := by omega
  have HID := Lib.hid (HI.out.below HB3.out)
  obtain ⟨s1, s2, hs1, hs2, hnw⟩ := newN_of (HLN.out.step HB3.out) OK.out.l8 OK.out.n8 HGL.out
  have HNW := Lib.hid hnw
  have HS12 := Lib.hid (And.intro hs1 hs2)
  clear hs1 hs2 hnw
  clear HMd hB3 hrow hB4 BX
  still_step
  still_step
  still_step
  still_step
  refine wpStill_load_row rfl 101 (.tmp 5) rfl w2.heap.size (by simp [Act.eval]) 101 (askA n) (0, 0) _ hR.out Try.underlying101 rfl sizeAsk ?_
  repeat still_step
  refine wpStill_nil ?_
  clear hrun
  go_wp2_with fail
  go_region_law (refine step_append_FX HMD.out.ns (fun b hb hf => hf.2 (by simp [mfoot, hb])) (by rfl) (.tmp 30) (.tmp 32) 24 (by rfl) Try.underlying24 infoNd rfl (by decide) (by rfl) #[.int .i64 n.kind, .int .i64 n.parent, .int .i64 n.alpha, .slice la n.links.length lc, .slice na n.new.length nc, .int .i64 n.test.op, .bool n.test.l.v, .int .i64 n.test.l.n, .bool n.test.r.v, .int .i64 n.test.r.n, .int .i64 n.width] _ (by rfl) rfl (x := n) ⟨_, _, HE.out⟩ (by omega) (by decide) hbase ?_; intro g' cap w3 ho ht hat hlt3 hraw hnew; have hgn := (HMD.out.apart).2.2.1; have e3 := (ht.block g HMD.out.lt (fun hm => (hgn g (by simpa using hm)).1 rfl)).trans HMD.out.blk; have z1 := (cell_of_row _ _ 1 _ _ _ e3).trans (show _ = some (Value.slice A0 st.ns.length C0) from rfl); have z2 : ∀ o, w3.frozen? ⟨g, o, none⟩ = false := (fun o => by simp [World.frozen?, e3]); have z3 := lt_of_heap e3; have GR := Lib.hid (HMD.out.grown ho ht hat HID.out HNW.out hraw (by rw [HS12.out.1]; exact hnew 3 _ rfl) (by rw [HS12.out.2]; exact hnew 4 _ rfl)); have HAT := Lib.hid hat; clear ho ht hat hlt3 hgn e3 hraw hnew)
  all_goals
    have GB := GR.out.blk
    have GT := GR.out.tn
    have GM := GR.out.map
    have hr4 := (GT.block w2.heap.size hw2l (fun hm => by have h1 := (HFL.out _ hm).2; have h2 := HB2.out.size; omega)).trans hR.out
    have hrd : (w3.setCell ⟨g, 1, none⟩ (.slice (some ⟨g', 0, none⟩) (st.ns.length + 1) cap)).drew.heap[w2.heap.size]? = some (.cells (askA n) 101 (0, 0)) := hr4
    have gbd : (w3.setCell ⟨g, 1, none⟩ (.slice (some ⟨g', 0, none⟩) (st.ns.length + 1) cap)).drew.heap[g]? = some (.cells #[av, .slice (some ⟨g', 0, none⟩) (st.ns.length + 1) cap, ev, .map (some mb)] 76 (0, 0)) := GB
    have gmd : MapG Try.prog 101 3 (w3.setCell ⟨g, 1, none⟩ (.slice (some ⟨g', 0, none⟩) (st.ns.length + 1) cap)).drew mb st.ns.length (atF st.ns) := GM.of_block rfl
    have bd : Below (w3.setCell ⟨g, 1, none⟩ (.slice (some ⟨g', 0, none⟩) (st.ns.length + 1) cap)).heap.size (w3.setCell ⟨g, 1, none⟩ (.slice (some ⟨g', 0, none⟩) (st.ns.length + 1) cap)) (w3.setCell ⟨g, 1, none⟩ (.slice (some ⟨g', 0, none⟩) (st.ns.length + 1) cap)).drew := (Below.refl _ _).drew
    have HRD := Lib.hid hrd
    have BD := Lib.hid bd
    have GBD := Lib.hid gbd
    have GMD := Lib.hid gmd
    clear GB GT GM hr4 hrd gbd gmd bd z1 z2 z3 x1 x3 y0 y1 y2 y3 y4 y5 y6 y7 y8 y9 y10
    go_wp2_with fail
    refine wp_region_still_tail 12 (by kernel_rfl) (by kernel_rfl) ?_
    change wpStill _ _ (w3.setCell ⟨g, 1, none⟩ (.slice (some ⟨g', 0, none⟩) (st.ns.length + 1) cap)).drew (fun a' => wpList _ _ _ _ a' (w3.setCell ⟨g, 1, none⟩ (.slice (some ⟨g', 0, none⟩) (st.ns.length + 1) cap)).drew) _ _
    generalize (w3.setCell ⟨g, 1, none⟩ (.slice (some ⟨g', 0, none⟩) (st.ns.length + 1) cap)).drew = w4 at HRD BD GBD GMD ⊢
    have x1 : w4.cell? ⟨g, 1, none⟩ = some (.slice (some ⟨g', 0, none⟩) (st.ns.length + 1) cap) := cell_of_row _ _ 1 _ _ _ GBD.out
    have x3 : w4.cell? ⟨g, 3, none⟩ = some (.map (some mb)) := cell_of_row _ _ 3 _ _ _ GBD.out
    obtain ⟨w5, hput, hm5, hg5⟩ := GMD.out.store (t := 74) keyedA Try.underlying74 Try.underlying3 (by unfold maxLen; omega) KL.out (z := (st.ns.length : Int)) (WalkArith.wf_i64 (by omega))
    have D := GR.out.done HNO.out HK.out OK.out hbs HM.out.mbb HM.out.lens BD.out hm5 hg5
    have DM := Lib.hid D.1
    have DT := Lib.hid D.2
    clear hm5 hg5 D
    have hl1 : IntKind.i64.wrap (st.ns.length : Int) = (st.ns.length : Int) := IntWalk.i64_in _ (by omega)
    simp only [List.take_succ_cons, List.take_zero, List.drop_succ_cons, List.drop_zero]
    still_step
    still_step
    still_step
    still_step
    refine wpStill_load_row rfl 101 (.tmp 5) rfl w2.heap.size (by simp [Act.eval]) 101 (askA n) (0, 0) _ HRD.out Try.underlying101 rfl sizeAsk ?_
    repeat still_step
    refine wpStill_nil ?_
    have x5 : w5.cell? ⟨g, 1, none⟩ = some (.slice (some ⟨g', 0, none⟩) (st.ns.length + 1) cap) := DM.out.cell 1 rfl
    clear x1 x3
    go_wp2
    go_ret
    refine ⟨by first | rfl | simp [hl1], _, ⟨_, _, _, rfl, DM.out⟩, ?_, ?_⟩
    · exact (Turns.of_below (S := mfoot g mb av (.slice A0 st.ns.length C0) ev) HB3.out).trans DT.out (fun x hx => .inl hx)
    · intro b hb
      simp only [mfoot, List.mem_cons, List.mem_append, Option.mem_toList] at hb ⊢
      rcases hb with hb | hb | hb | hb | hb
      · exact .inl (.inl hb)
      · exact .inl (.inr (.inl hb))
      · exact .inl (.inr (.inr (.inl hb)))
      · have e : g' = b := by simpa [Value.ownBlock] using hb
        rcases HAT.out with h1 | h1
        · exact .inl (.inr (.inr (.inr (.inl (by rw [← e]; exact h1)))))
        · exact .inr (by omega)
      · exact .inl (.inr (.inr (.inr (.inr hb))))

/-- node, whatever the node. -/
theorem nodeW {t base g mb : Nat} {W : World} {S : List Nat} {st : St} {es : List Nat} (h : MkrB t base g mb W S st es) {cs : List Value} {lv nv : Value} (n : Nd) (hL : LstN t base S W lv nv n) (hn : ENd (Off base S) W cs n lv nv) (ok : NdOk n) (hk : n.kind ≠ 0) (hlen : st.ns.length ≤ 30000000) :
    Calls Try.prog 32 #[.pointer (some ⟨g, 0, none⟩), .agg #[.int .i64 n.kind, .int .i64 n.parent, .int .i64 n.alpha, lv, nv, .int .i64 n.test.op, .bool n.test.l.v, .int .i64 n.test.l.n, .bool n.test.r.v, .int .i64 n.test.r.n, .int .i64 n.width]] W fun e W' => e = .returned (.int .i64 (placeF st.ns n)) ∧ MkrTo base g mb W S ⟨st.al, addF st.ns n⟩ es W' := by
  by_cases hm : n ∈ st.ns
  · refine (node_hit h.mkr n hn ok hk hm).mono ?_
    rintro e w' ⟨rfl, hb⟩
    refine ⟨rfl, S, ?_, Turns.of_below hb, fun b hb => .inl hb⟩
    obtain ⟨av, nv0, ev, rfl, hM⟩ := h.mkr
    have e1 : addF st.ns n = st.ns := by unfold addF; rw [if_pos hm]
    rw [e1]
    exact ⟨av, nv0, ev, rfl, hM.step hb⟩
  · refine (node_miss h n hL hn ok hk hm hlen).mono ?_
    rintro e w' ⟨rfl, hT⟩
    have e1 : addF st.ns n = st.ns ++ [n] := by unfold addF; rw [if_neg hm]
    rw [e1, placeF_none hm]
    exact ⟨rfl, hT⟩
end Go.Proofs.Ytonkbjdeaneicaa

namespace Go.Proofs.Ytonkbjdeaneicaa
open Go.RowKit Pln Classical Go.Maps

/-- A shape's list, new. -/
structure NewA (F : Nat → Prop) (base : Nat) (W : World) (G : Nat → Nat → Option Slo) (s : Slo) : Prop where
  l : s.l = false
  o : W.ownsRow base s.e s.sz s.v s.n s.x
  n : s.n ≤ 30000000
  fresh : ∀ (t i : Nat) (s' : Slo) (b : Nat), G t i = some s' → s'.v.ownBlock = some b → s.v.ownBlock ≠ some b
  foot : ∀ b, s.v.ownBlock = some b → F b
theorem MkAt.grow_al {base g mb : Nat} {wd w3 : World} {av nv ev : Value} {st : St} {es : List Nat} {x : Shp} (h : MkAt base g mb wd av nv ev st es) {g' cap : Nat}
    (ho : ∀ F' : Nat → Prop, (∀ b, b < wd.heap.size → Off base (mfoot g mb av nv ev) b → F' b) → OwnF F' base w3 79 cdShp (.slice (some ⟨g', 0, none⟩) (st.al.length + 1) cap) (st.al ++ [x]))
    (ht : Turns av.ownBlock.toList wd w3) (hat : av.ownBlock = some g' ∨ wd.heap.size ≤ g')
    {G : Nat → Nat → Option Slo} (hG : Inn (Off base (mfoot g mb av nv ev)) base wd av nv st.al.length st.ns.length G) {s : Slo} (nw : NewA (Off base (mfoot g mb av nv ev)) base wd G s)
    (hraw : ∀ o j, av.ownBlock = some o → j < st.al.length * 2 → w3.cell? ⟨g', j, none⟩ = wd.cell? ⟨o, j, none⟩) (hnew : w3.cell? ⟨g', st.al.length * 2 + 1, none⟩ = some s.v) :
    MkAt base g mb (w3.setCell ⟨g, 0, none⟩ (.slice (some ⟨g', 0, none⟩) (st.al.length + 1) cap)) (.slice (some ⟨g', 0, none⟩) (st.al.length + 1) cap) nv ev ⟨st.al ++ [x], st.ns⟩ es ∧ Turns (mfoot g mb av nv ev) wd (w3.setCell ⟨g, 0, none⟩ (.slice (some ⟨g', 0, none⟩) (st.al.length + 1) cap)) ∧ ∀ b ∈ mfoot g mb (.slice (some ⟨g', 0, none⟩) (st.al.length + 1) cap) nv ev, b ∈ mfoot g mb av nv ev ∨ wd.heap.size ≤ b := by
  obtain ⟨a1, a2, a3, a4⟩ := h.apart
  have hg : g ∉ av.ownBlock.toList := fun hm => (a2 g (by simpa using hm)).1 rfl
  have hmb : mb ∉ av.ownBlock.toList := fun hm => (a2 mb (by simpa using hm)).2.1 rfl
  have hgn : g' ≠ g := by
    rcases hat with h1 | h1
    · exact (a2 g' h1).1
    · have := h.lt; omega
  have T : Turns (g :: av.ownBlock.toList) wd (w3.setCell ⟨g, 0, none⟩ (.slice (some ⟨g', 0, none⟩) (st.al.length + 1) cap)) := (ht.mono (by simp +contextual)).setCell (.inl (by simp)) _
  have hoff : ∀ b ∈ g :: av.ownBlock.toList, ¬ Off base (mfoot g mb av nv ev) b := by
    intro b hb hf
    refine hf.2 ?_
    simp only [mfoot, List.mem_cons, List.mem_append] at hb ⊢
    rcases hb with hb | hb
    · exact .inl hb
    · exact .inr (.inr (.inl hb))
  have hmem : ∀ b, b ∈ mfoot g mb (.slice (some ⟨g', 0, none⟩) (st.al.length + 1) cap) nv ev → b ∈ mfoot g mb av nv ev ∨ wd.heap.size ≤ b := by
    intro b hm
    simp only [mfoot, List.mem_cons, List.mem_append, Option.mem_toList] at hm ⊢
    rcases hm with hm | hm | hm | hm | hm
    · exact .inl (.inl hm)
    · exact .inl (.inr (.inl hm))
    · have e : g' = b := by simpa [Value.ownBlock] using hm
      rcases hat with h3 | h3
      · exact .inl (.inr (.inr (.inl (by rw [← e]; exact h3))))
      · exact .inr (by omega)
    · exact .inl (.inr (.inr (.inr (.inl hm))))
    · exact .inl (.inr (.inr (.inr (.inr hm))))
  have hFF : ∀ b, b < wd.heap.size → Off base (mfoot g mb av nv ev) b → Off base (mfoot g mb (.slice (some ⟨g', 0, none⟩) (st.al.length + 1) cap) nv ev) b := by
    rintro b hlt ⟨h1, h2⟩
    refine ⟨h1, fun hm => ?_⟩
    rcases hmem b hm with h3 | h3
    · exact h2 h3
    · omega
  have hI := hG.growA (cap := cap) nw.l ht hraw hnew nw.o nw.n nw.fresh nw.foot hFF (fun b hb hf => hf.2 (by simp [mfoot, hb])) (fun b hb hb2 => (a2 b hb2).2.2.1 hb)
  have hI2 := hI.turns (S := [g]) (F' := Off base (mfoot g mb (.slice (some ⟨g', 0, none⟩) (st.al.length + 1) cap) nv ev)) (W' := w3.setCell ⟨g, 0, none⟩ (.slice (some ⟨g', 0, none⟩) (st.al.length + 1) cap)) ((Turns.refl _ _).setCell (.inl (by simp)) _) (fun t b hb hm => by
      rw [List.mem_singleton.1 hm] at hb
      unfold inV at hb
      split at hb
      · exact hgn (by simpa [Value.ownBlock] using hb)
      · exact (a3 g hb).1 rfl) (fun b hb hf => hf.2 (by simp only [List.mem_singleton] at hb; simp [mfoot, hb])) (fun _ _ h => h)
  refine ⟨⟨?_, ?_, ?_, ?_, ?_, h.gb, h.mbb, h.lens, ⟨_, by rw [List.length_append]; exact hI2⟩⟩, T.mono (fun b hb => ?_), hmem⟩
  · exact heap_setCell_same _ _ 0 _ _ _ ((ht.block g h.lt hg).trans h.blk)
  · exact (ho _ hFF).keep (S := [g]) ((Turns.refl _ _).setCell (.inl (by simp)) _) (fun b hb hm => by
      have e : g' = b := by simpa [Value.ownBlock] using hb
      simp only [List.mem_singleton] at hm
      omega) (fun b hb hf => hf.2 (by simp only [List.mem_singleton] at hb; simp [mfoot, hb])) (fun _ _ h => h)
  · exact h.ns.keep T (fun b hb hm => by
      obtain ⟨b1, b2, b3⟩ := a3 b hb
      simp only [List.mem_cons, Option.mem_toList] at hm
      rcases hm with hm | hm
      · exact b1 hm
      · exact (a2 b hm).2.2.1 hb) hoff hFF
  · exact h.en.keep T (fun b hb hm => by
      obtain ⟨b1, b2⟩ := a4 b hb
      simp only [List.mem_cons, Option.mem_toList] at hm
      rcases hm with hm | hm
      · exact b1 hm
      · exact (a2 b hm).2.2.2 hb) hoff hFF
  · refine h.map.of_block ?_
    rw [Below.heap_setCell _ _ _ _ (fun e => a1 e.symm)]
    exact ht.block mb h.map.lt hmb
  · simp only [mfoot, List.mem_cons, List.mem_append] at hb ⊢
    rcases hb with hb | hb
    · exact .inl hb
    · exact .inr (.inr (.inl hb))
theorem MkAt.grow_en {base g mb : Nat} {wd w3 : World} {av nv ev : Value} {st : St} {es : List Nat} {x : Nat} (h : MkAt base g mb wd av nv ev st es) {g' cap : Nat}
    (ho : ∀ F' : Nat → Prop, (∀ b, b < wd.heap.size → Off base (mfoot g mb av nv ev) b → F' b) → OwnF F' base w3 3 cdInt (.slice (some ⟨g', 0, none⟩) ((es.map fun (e : Nat) => (e : Int)).length + 1) cap) ((es.map fun (e : Nat) => (e : Int)) ++ [(x : Int)]))
    (ht : Turns ev.ownBlock.toList wd w3) (hat : ev.ownBlock = some g' ∨ wd.heap.size ≤ g') :
    MkAt base g mb (w3.setCell ⟨g, 2, none⟩ (.slice (some ⟨g', 0, none⟩) ((es.map fun (e : Nat) => (e : Int)).length + 1) cap)) av nv (.slice (some ⟨g', 0, none⟩) ((es.map fun (e : Nat) => (e : Int)).length + 1) cap) st (es ++ [x]) ∧ Turns (mfoot g mb av nv ev) wd (w3.setCell ⟨g, 2, none⟩ (.slice (some ⟨g', 0, none⟩) ((es.map fun (e : Nat) => (e : Int)).length + 1) cap)) ∧ ∀ b ∈ mfoot g mb av nv (.slice (some ⟨g', 0, none⟩) ((es.map fun (e : Nat) => (e : Int)).length + 1) cap), b ∈ mfoot g mb av nv ev ∨ wd.heap.size ≤ b := by
  obtain ⟨a1, a2, a3, a4⟩ := h.apart
  have hg : g ∉ ev.ownBlock.toList := fun hm => (a4 g (by simpa using hm)).1 rfl
  have hmb : mb ∉ ev.ownBlock.toList := fun hm => (a4 mb (by simpa using hm)).2 rfl
  have hgn : g' ≠ g := by
    rcases hat with h1 | h1
    · exact (a4 g' h1).1
    · have := h.lt; omega
  have T : Turns (g :: ev.ownBlock.toList) wd (w3.setCell ⟨g, 2, none⟩ (.slice (some ⟨g', 0, none⟩) ((es.map fun (e : Nat) => (e : Int)).length + 1) cap)) := (ht.mono (by simp +contextual)).setCell (.inl (by simp)) _
  have hoff : ∀ b ∈ g :: ev.ownBlock.toList, ¬ Off base (mfoot g mb av nv ev) b := by
    intro b hb hf
    refine hf.2 ?_
    simp only [mfoot, List.mem_cons, List.mem_append] at hb ⊢
    rcases hb with hb | hb
    · exact .inl hb
    · exact .inr (.inr (.inr (.inr hb)))
  have hmem : ∀ b, b ∈ mfoot g mb av nv (.slice (some ⟨g', 0, none⟩) ((es.map fun (e : Nat) => (e : Int)).length + 1) cap) → b ∈ mfoot g mb av nv ev ∨ wd.heap.size ≤ b := by
    intro b hm
    simp only [mfoot, List.mem_cons, List.mem_append, Option.mem_toList] at hm ⊢
    rcases hm with hm | hm | hm | hm | hm
    · exact .inl (.inl hm)
    · exact .inl (.inr (.inl hm))
    · exact .inl (.inr (.inr (.inl hm)))
    · exact .inl (.inr (.inr (.inr (.inl hm))))
    · have e : g' = b := by simpa [Value.ownBlock] using hm
      rcases hat with h3 | h3
      · exact .inl (.inr (.inr (.inr (.inr (by rw [← e]; exact h3)))))
      · exact .inr (by omega)
  have hFF : ∀ b, b < wd.heap.size → Off base (mfoot g mb av nv ev) b → Off base (mfoot g mb av nv (.slice (some ⟨g', 0, none⟩) ((es.map fun (e : Nat) => (e : Int)).length + 1) cap)) b := by
    rintro b hlt ⟨h1, h2⟩
    refine ⟨h1, fun hm => ?_⟩
    rcases hmem b hm with h3 | h3
    · exact h2 h3
    · omega
  have hinn : ∃ G, Inn (Off base (mfoot g mb av nv (.slice (some ⟨g', 0, none⟩) ((es.map fun (e : Nat) => (e : Int)).length + 1) cap))) base (w3.setCell ⟨g, 2, none⟩ (.slice (some ⟨g', 0, none⟩) ((es.map fun (e : Nat) => (e : Int)).length + 1) cap)) av nv st.al.length st.ns.length G := by
    obtain ⟨G, hG⟩ := h.inn
    exact ⟨G, hG.turns T (fun t b hb hm => by
      simp only [List.mem_cons, Option.mem_toList] at hm
      unfold inV at hb
      split at hb
      · obtain ⟨b1, _, _, b4⟩ := a2 b hb
        rcases hm with hm | hm
        · exact b1 hm
        · exact b4 hm
      · obtain ⟨b1, _, b3⟩ := a3 b hb
        rcases hm with hm | hm
        · exact b1 hm
        · exact b3 hm) hoff hFF⟩
  refine ⟨⟨?_, ?_, ?_, ?_, ?_, h.gb, h.mbb, h.lens, hinn⟩, T.mono (fun b hb => ?_), hmem⟩
  · exact heap_setCell_same _ _ 2 _ _ _ ((ht.block g h.lt hg).trans h.blk)
  · exact h.al.keep T (fun b hb hm => by
      obtain ⟨b1, b2, b3, b4⟩ := a2 b hb
      simp only [List.mem_cons, Option.mem_toList] at hm
      rcases hm with hm | hm
      · exact b1 hm
      · exact b4 hm) hoff hFF
  · exact h.ns.keep T (fun b hb hm => by
      obtain ⟨b1, b2, b3⟩ := a3 b hb
      simp only [List.mem_cons, Option.mem_toList] at hm
      rcases hm with hm | hm
      · exact b1 hm
      · exact b3 hm) hoff hFF
  · rw [List.map_append]
    exact (ho _ hFF).keep (S := [g]) ((Turns.refl _ _).setCell (.inl (by simp)) _) (fun b hb hm => by
      have e : g' = b := by simpa [Value.ownBlock] using hb
      simp only [List.mem_singleton] at hm
      omega) (fun b hb hf => hf.2 (by simp only [List.mem_singleton] at hb; simp [mfoot, hb])) (fun _ _ h => h)
  · refine h.map.of_block ?_
    rw [Below.heap_setCell _ _ _ _ (fun e => a1 e.symm)]
    exact ht.block mb h.map.lt hmb
  · simp only [mfoot, List.mem_cons, List.mem_append] at hb ⊢
    rcases hb with hb | hb
    · exact .inl hb
    · exact .inr (.inr (.inr (.inr hb)))

theorem infoShp : (Try.prog.info? 79).map (fun i => (i.zero, i.size, i.bytes)) = some (some (.agg #[.int .i64 0, .slice none 0 0]), 2, 32) := by kernel_rfl
theorem Off_new {base g mb : Nat} {W : World} {av nv ev : Value} {st : St} {es : List Nat} (h : MkAt base g mb W av nv ev st es) {b : Nat} (hb : W.heap.size ≤ b) : Off base (mfoot g mb av nv ev) b :=
  ⟨by have := (h.foot_lt g mfoot_g); omega, fun hm => by have := (h.foot_lt b hm).2; omega⟩
set_option maxRecDepth 200000 in
set_option maxHeartbeats 4000000 in
theorem memoryW {base g mb : Nat} {W : World} {S : List Nat} {st : St} {es : List Nat} (h : Mkr base g mb W S st es) {F : Nat → Prop} (p : Pat) (v : Value) (hp : RSl F W 2 ESlt v p.args) (pok : i64ok p.pred) (h0 : 0 ≤ p.pred) (hn : ∀ s ∈ p.args, 0 ≤ s.n) (hS : p.args.length ≤ 1048576) (hlen : st.al.length ≤ 30000000) :
    Calls Try.prog 54 #[.pointer (some ⟨g, 0, none⟩), .agg #[.int .i64 p.pred, v]] W fun e W' => e = .returned (.int .i64 (placeF st.al (shapeF p))) ∧ MkrTo base g mb W S ⟨addF st.al (shapeF p), st.ns⟩ es W' := by
  obtain ⟨av, nv, ev, rfl, hM⟩ := h
  obtain ⟨G, hG⟩ := hM.inn
  have HG := Lib.hid hG
  clear hG
  obtain ⟨A, c, rfl⟩ := hp.form
  obtain ⟨A0, C0, rfl⟩ := hM.al.form
  have CS := Lib.hid (fun W' (hb : Below W.heap.size W W') => shapeW p _ W' (hp.keep (Kp.of_below hb)) h0 hn hS)
  have HM := Lib.hid hM
  have POK := Lib.hid pok
  clear hM hp hn pok
  obtain ⟨sh, hsh⟩ : ∃ sh, shapeF p = sh := ⟨_, rfl⟩
  have hpr : p.pred = sh.pred := by rw [← hsh]; rfl
  have hce : p.args.map (cellF p.args) = sh.cells := by rw [← hsh]; rfl
  have HPR := Lib.hid hpr
  have HCE := Lib.hid hce
  rw [hsh]
  clear hsh hpr hce
  go_enter Try.func54, Try.ntmps54
  go_wp2_with fail
  refine (CS.out _ ((Below.refl _ _).alloc (Nat.le_refl _) _)).mono ?_
  rintro e w2 ⟨cv, rfl, hcv, hb2, hco⟩
  obtain ⟨ca, cc, rfl⟩ := hcv.form
  rw [HCE.out] at hcv hco ⊢
  have HB2 := Lib.hid (((Below.refl W.heap.size W).alloc (Nat.le_refl _) (.cells #[.int .i64 p.pred, .slice A p.args.length c] 34)).trans (hb2.mono (by simp)))
  have HCV := Lib.hid (hcv.kp (F' := fun b => W.heap.size ≤ b) (Kp.refl _ _) (fun b _ hb => by simp at hb; omega) (fun _ _ h => h))
  have HM2 := HM.out.step HB2.out
  have x0 := HM2.cell 0 rfl
  have hgl := HM2.lt
  have HM2' := Lib.hid HM2
  have hal : st.al.length ≤ 30000000 := hlen
  have HCO := Lib.hid hco
  clear hb2 hcv HM2 hco
  have AR := Lib.hid (HM2'.out.al.rsl (G := fun b => b < w2.heap.size) (fun b hb => (HM2'.out.al.block hb).2.1))
  have FL2 := Lib.hid HM2'.out.foot_lt
  have hWw := HB2.out.size
  go_wp2_with fail
  go_loopw [16] (fun i wr => ∃ k : Nat, i = .int .i64 k ∧ k ≤ st.al.length ∧ (∀ j, j < k → st.al[j]? ≠ some sh) ∧ Below (w2.heap.size + 1) (w2.alloc (.cells #[.int .i64 p.pred, .slice ca sh.cells.length cc] 79)) wr) (fun i _ => st.al.length - (intOf i).toNat)
  case atStart => exact ⟨0, rfl, Nat.zero_le _, fun j h => by omega, Below.refl _ _⟩
  case round =>
    obtain ⟨k, rfl, hk, hq, hb⟩ := hrel
    have bw := box_below hb
    have z0 := box_cell hb 0 _ rfl
    have z1 := box_cell hb 1 _ rfl
    have hwz : w2.heap.size < wr.heap.size := by have := hb.size; simp at this; omega
    by_cases hkn : k < st.al.length
    · obtain ⟨a, ha⟩ : ∃ a, st.al[k]? = some a := ⟨_, List.getElem?_eq_getElem hkn⟩
      obtain ⟨b, off, rfl, hFb, hbs, cs, ⟨av, rfl, aok, hac⟩, hc⟩ := (AR.out.kp (Kp.of_below bw) (fun _ _ h => h) (fun _ _ h => cdShp.kp _ _ _ _ _ _ h (Kp.of_below bw) (fun _ _ h => h))).at ha
      obtain ⟨A1, C1, rfl⟩ := hac.form
      have c0 : wr.cell? ⟨b, off + k * 2, none⟩ = some (.int .i64 a.pred) := hc 0 _ rfl
      have c1 : wr.cell? ⟨b, off + k * 2 + 1, none⟩ = some (.slice A1 a.cells.length C1) := hc 1 _ rfl
      have e1 : (0 : Int) ≤ (k : Int) := by omega
      have e2 : (k : Int) < (st.al.length : Int) := by omega
      have HA := Lib.hid ha
      have HQ := Lib.hid hq
      have HK := Lib.hid hkn
      have HBW := Lib.hid bw
      have HB := Lib.hid hb
      have HAC := Lib.hid hac
      clear hc ha hq hkn bw hb hac x0
      by_cases hp1 : a.pred = p.pred
      · have hp2 : (a.pred == p.pred) = true := by simpa using hp1
        have CE := Lib.hid (fun W' (hb : Below wr.heap.size wr W') => equalW _ _ a.cells sh.cells W' (HAC.out.keep (Kp.of_below hb)) ((HCV.out.keep (Kp.of_below HBW.out)).keep (Kp.of_below hb)))
        by_cases hce : a.cells = sh.cells
        · have HE := Lib.hid (eqB_eq hce)
          have has : a = sh := by
            have := HPR.out
            obtain ⟨a1, a2⟩ := a
            obtain ⟨s1, s2⟩ := sh
            simp only at hp1 hce this
            rw [hp1, hce, this]
          have hpl := Lib.hid (placeF_at (has ▸ HA.out) HQ.out)
          have hin : sh ∈ st.al := List.mem_of_getElem? (has ▸ HA.out)
          have hadd := Lib.hid (show addF st.al sh = st.al by unfold addF; rw [if_pos hin])
          clear hce has hin hp1
          go_wp2_with (go_at_call 63; refine (CE.out _ ?_).mono ?_; exact (Below.refl _ _).alloc (Nat.le_refl _) _; rintro e w3 ⟨he, hb3⟩; rw [HE.out] at he; subst he; have HB3 := Lib.hid hb3; clear hb3)
          go_ret
          have BF := (HB2.out.trans (HBW.out.mono hWw)).trans ((((Below.refl wr.heap.size wr).alloc (Nat.le_refl _) _).trans (HB3.out.mono (by simp))).mono (by omega))
          refine ⟨ret_i64 (by rw [hpl.out]), _, ⟨_, _, _, rfl, ?_⟩, Turns.of_below BF, fun b hb => .inl hb⟩
          rw [hadd.out]
          exact HM.out.step BF
        · have HE := Lib.hid (eqB_ne hce)
          have HQ2 := Lib.hid (show ∀ j, j < k + 1 → st.al[j]? ≠ some sh from fun j hj => by
            rcases Nat.lt_or_ge j k with h1 | h1
            · exact HQ.out j h1
            · rw [show j = k by omega, HA.out]
              exact fun e => hce (by rw [Option.some.inj e]))
          clear hce
          go_wp2_with (go_at_call 63; refine (CE.out _ ?_).mono ?_; exact (Below.refl _ _).alloc (Nat.le_refl _) _; rintro e w3 ⟨he, hb3⟩; rw [HE.out] at he; subst he; have HB3 := Lib.hid hb3; clear hb3)
          exact ⟨⟨k + 1, by go_num, HK.out, HQ2.out, box_step HB.out (((Below.refl wr.heap.size wr).alloc (Nat.le_refl _) _).trans (HB3.out.mono (by simp)))⟩, by simp [intOf]; have := HK.out; omega⟩
      · have hp2 : (a.pred == p.pred) = false := by simpa using hp1
        have HQ2 := Lib.hid (show ∀ j, j < k + 1 → st.al[j]? ≠ some sh from fun j hj => by
          rcases Nat.lt_or_ge j k with h1 | h1
          · exact HQ.out j h1
          · rw [show j = k by omega, HA.out]
            exact fun e => hp1 (by rw [Option.some.inj e, HPR.out]))
        clear hp1
        go_wp2
        exact ⟨⟨k + 1, by go_num, HK.out, HQ2.out, box_step HB.out ((Below.refl wr.heap.size wr).alloc (Nat.le_refl _) _)⟩, by simp [intOf]; have := HK.out; omega⟩
    · obtain rfl : k = st.al.length := by omega
      have hno : sh ∉ st.al := fun hm => by
        obtain ⟨h1, h2⟩ := placeF_lt hm
        exact hq _ h1 h2
      have hadd := Lib.hid (show addF st.al sh = st.al ++ [sh] by unfold addF; rw [if_neg hno])
      have hpl := Lib.hid (placeF_none hno)
      have BW := Lib.hid (HB2.out.trans (bw.mono hWw))
      have HMr := HM.out.step BW.out
      have HMR := Lib.hid HMr
      have y0 := HMr.cell 0 rfl
      have hgr := HMr.lt
      have HCVr := Lib.hid (HCV.out.kp (F' := Off base (mfoot g mb (.slice A0 st.al.length C0) nv ev)) (Kp.of_below bw) (fun b _ hb => Off_new HM.out hb) (fun _ _ h => h))
      have PK := Lib.hid (show i64ok sh.pred by rw [← HPR.out]; exact POK.out)
      have hbase : base ≤ wr.heap.size := by have := (HM.out.foot_lt g mfoot_g).1; omega
      have HGR := Lib.hid (HG.out.below BW.out)
      have HNA := Lib.hid (show ∃ s : Slo, s.v = .slice ca sh.cells.length cc ∧ NewA (Off base (mfoot g mb (.slice A0 st.al.length C0) nv ev)) base wr G s from by
        obtain ⟨x, hx⟩ := HCO.out
        have hb0 : base ≤ W.heap.size := by have := (HM.out.foot_lt g mfoot_g).1; have := (HM.out.foot_lt g mfoot_g).2; omega
        have hx2 := ownsRow_turns hx (Turns.of_below (S := []) bw) (fun _ _ => by simp)
        have hlo : ∀ b, (Value.slice ca sh.cells.length cc).ownBlock = some b → W.heap.size ≤ b := fun b hb => by have := (ownBlock_cells hx hb).1; simp at this; omega
        refine ⟨⟨.slice ca sh.cells.length cc, false, p.args.length, x⟩, rfl, rfl, ⟨hx2.1, hx2.2.imp id (fun ⟨g, cap, cur, q1, q2, r⟩ => ⟨g, cap, cur, q1, by simp at q2; omega, r⟩)⟩, by simp only; omega, ?_, fun b hb => Off_new HM.out (hlo b hb)⟩
        intro t i s' b hs hb hb2
        have h1 := (HG.out.lt hs hb).2
        have h2 := hlo b hb2
        omega)
      clear HMr hq hno hkn hb bw x0
      go_wp2
      go_region_law (refine step_append_FX HMR.out.al (fun b hb hf => hf.2 (by simp [mfoot, hb])) (by rfl) (.tmp 40) (.tmp 42) 23 (by rfl) Try.underlying23 infoShp rfl (by decide) (by rfl) #[.int .i64 p.pred, .slice ca sh.cells.length cc] _ (by rfl) rfl (x := sh) ⟨_, by rw [HPR.out], PK.out, HCVr.out⟩ (by omega) (by decide) hbase ?_; intro g' cap w3 ho ht hat hlt3 hraw hnew; have hgn := (HMR.out.apart).2.1; have e3 := (ht.block g HMR.out.lt (fun hm => (hgn g (by simpa using hm)).1 rfl)).trans HMR.out.blk; have q1 := (cell_of_row _ _ 0 _ _ _ e3).trans (show _ = some (Value.slice A0 st.al.length C0) from rfl); have q2 : ∀ o, w3.frozen? ⟨g, o, none⟩ = false := (fun o => by simp [World.frozen?, e3]); have q3 := lt_of_heap e3; have GR := Lib.hid (HMR.out.grow_al ho ht hat HGR.out HNA.out.choose_spec.2 hraw (by rw [HNA.out.choose_spec.1]; exact hnew 1 _ rfl)); clear ho ht hat hlt3 hgn e3 hraw hnew)
      all_goals
        have q0 : (w3.setCell ⟨g, 0, none⟩ (.slice (some ⟨g', 0, none⟩) (st.al.length + 1) cap)).cell? ⟨g, 0, none⟩ = some (.slice (some ⟨g', 0, none⟩) (st.al.length + 1) cap) := GR.out.1.cell 0 rfl
        clear q1 q2 y0 z0 z1
        go_wp2
        go_ret
        refine ⟨ret_i64 (by rw [hpl.out]), mfoot g mb (.slice (some ⟨g', 0, none⟩) (st.al.length + 1) cap) nv ev, ⟨.slice (some ⟨g', 0, none⟩) (st.al.length + 1) cap, nv, ev, rfl, ?_⟩, ?_, ?_⟩
        · rw [hadd.out]
          exact GR.out.1
        · exact (Turns.of_below (S := mfoot g mb (.slice A0 st.al.length C0) nv ev) BW.out).trans GR.out.2.1 (fun x hx => .inl hx)
        · intro b hb
          rcases GR.out.2.2 b hb with h1 | h1
          · exact .inl h1
          · exact .inr (Nat.le_trans BW.out.size h1)
end Go.Proofs.Ytonkbjdeaneicaa
