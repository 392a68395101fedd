/- memory: the number of a shape, a new one where there is none such. Printed by wip/bin/memo.py. -/
import Derived.Test.YtonkbjdeaneicaaNodeW
namespace Go.Proofs.Ytonkbjdeaneicaa
open Go.RowKit Pln Classical Go.Maps

theorem MkAt.grow_al {base g mb : Nat} {wd w3 : World} {av nv ev : Value} {st : St} {es : List Nat} {x : Shp} (h : MkAt base g mb wd av nv ev st es) {g' cap : Nat}
    (ho : ∀ F' : Nat → Prop, (∀ b, b < wd.heap.size → Off base (mfoot g mb av nv ev) b → F' b) → OwnF F' base w3 79 cdShp (.slice (some ⟨g', 0, none⟩) (st.al.length + 1) cap) (st.al ++ [x]))
    (ht : Turns av.ownBlock.toList wd w3) (hat : av.ownBlock = some g' ∨ wd.heap.size ≤ g') :
    MkAt base g mb (w3.setCell ⟨g, 0, none⟩ (.slice (some ⟨g', 0, none⟩) (st.al.length + 1) cap)) (.slice (some ⟨g', 0, none⟩) (st.al.length + 1) cap) nv ev ⟨st.al ++ [x], st.ns⟩ es ∧ Turns (mfoot g mb av nv ev) wd (w3.setCell ⟨g, 0, none⟩ (.slice (some ⟨g', 0, none⟩) (st.al.length + 1) cap)) ∧ ∀ b ∈ mfoot g mb (.slice (some ⟨g', 0, none⟩) (st.al.length + 1) cap) nv ev, b ∈ mfoot g mb av nv ev ∨ wd.heap.size ≤ b := by
  obtain ⟨a1, a2, a3, a4⟩ := h.apart
  have hg : g ∉ av.ownBlock.toList := fun hm => (a2 g (by simpa using hm)).1 rfl
  have hmb : mb ∉ av.ownBlock.toList := fun hm => (a2 mb (by simpa using hm)).2.1 rfl
  have hgn : g' ≠ g := by
    rcases hat with h1 | h1
    · exact (a2 g' h1).1
    · have := h.lt; omega
  have T : Turns (g :: av.ownBlock.toList) wd (w3.setCell ⟨g, 0, none⟩ (.slice (some ⟨g', 0, none⟩) (st.al.length + 1) cap)) := (ht.mono (by simp +contextual)).setCell (.inl (by simp)) _
  have hoff : ∀ b ∈ g :: av.ownBlock.toList, ¬ Off base (mfoot g mb av nv ev) b := by
    intro b hb hf
    refine hf.2 ?_
    simp only [mfoot, List.mem_cons, List.mem_append] at hb ⊢
    rcases hb with hb | hb
    · exact .inl hb
    · exact .inr (.inr (.inl hb))
  have hmem : ∀ b, b ∈ mfoot g mb (.slice (some ⟨g', 0, none⟩) (st.al.length + 1) cap) nv ev → b ∈ mfoot g mb av nv ev ∨ wd.heap.size ≤ b := by
    intro b hm
    simp only [mfoot, List.mem_cons, List.mem_append, Option.mem_toList] at hm ⊢
    rcases hm with hm | hm | hm | hm | hm
    · exact .inl (.inl hm)
    · exact .inl (.inr (.inl hm))
    · have e : g' = b := by simpa [Value.ownBlock] using hm
      rcases hat with h3 | h3
      · exact .inl (.inr (.inr (.inl (by rw [← e]; exact h3))))
      · exact .inr (by omega)
    · exact .inl (.inr (.inr (.inr (.inl hm))))
    · exact .inl (.inr (.inr (.inr (.inr hm))))
  have hFF : ∀ b, b < wd.heap.size → Off base (mfoot g mb av nv ev) b → Off base (mfoot g mb (.slice (some ⟨g', 0, none⟩) (st.al.length + 1) cap) nv ev) b := by
    rintro b hlt ⟨h1, h2⟩
    refine ⟨h1, fun hm => ?_⟩
    rcases hmem b hm with h3 | h3
    · exact h2 h3
    · omega
  refine ⟨⟨?_, ?_, ?_, ?_, ?_, h.gb, h.mbb, h.lens⟩, T.mono (fun b hb => ?_), hmem⟩
  · exact heap_setCell_same _ _ 0 _ _ _ ((ht.block g h.lt hg).trans h.blk)
  · exact (ho _ hFF).keep (S := [g]) ((Turns.refl _ _).setCell (.inl (by simp)) _) (fun b hb hm => by
      have e : g' = b := by simpa [Value.ownBlock] using hb
      simp only [List.mem_singleton] at hm
      omega) (fun b hb hf => hf.2 (by simp only [List.mem_singleton] at hb; simp [mfoot, hb])) (fun _ _ h => h)
  · exact h.ns.keep T (fun b hb hm => by
      obtain ⟨b1, b2, b3⟩ := a3 b hb
      simp only [List.mem_cons, Option.mem_toList] at hm
      rcases hm with hm | hm
      · exact b1 hm
      · exact (a2 b hm).2.2.1 hb) hoff hFF
  · exact h.en.keep T (fun b hb hm => by
      obtain ⟨b1, b2⟩ := a4 b hb
      simp only [List.mem_cons, Option.mem_toList] at hm
      rcases hm with hm | hm
      · exact b1 hm
      · exact (a2 b hm).2.2.2 hb) hoff hFF
  · refine h.map.of_block ?_
    rw [Below.heap_setCell _ _ _ _ (fun e => a1 e.symm)]
    exact ht.block mb h.map.lt hmb
  · simp only [mfoot, List.mem_cons, List.mem_append] at hb ⊢
    rcases hb with hb | hb
    · exact .inl hb
    · exact .inr (.inr (.inl hb))
theorem MkAt.grow_en {base g mb : Nat} {wd w3 : World} {av nv ev : Value} {st : St} {es : List Nat} {x : Nat} (h : MkAt base g mb wd av nv ev st es) {g' cap : Nat}
    (ho : ∀ F' : Nat → Prop, (∀ b, b < wd.heap.size → Off base (mfoot g mb av nv ev) b → F' b) → OwnF F' base w3 3 cdInt (.slice (some ⟨g', 0, none⟩) ((es.map fun (e : Nat) => (e : Int)).length + 1) cap) ((es.map fun (e : Nat) => (e : Int)) ++ [(x : Int)]))
    (ht : Turns ev.ownBlock.toList wd w3) (hat : ev.ownBlock = some g' ∨ wd.heap.size ≤ g') :
    MkAt base g mb (w3.setCell ⟨g, 2, none⟩ (.slice (some ⟨g', 0, none⟩) ((es.map fun (e : Nat) => (e : Int)).length + 1) cap)) av nv (.slice (some ⟨g', 0, none⟩) ((es.map fun (e : Nat) => (e : Int)).length + 1) cap) st (es ++ [x]) ∧ Turns (mfoot g mb av nv ev) wd (w3.setCell ⟨g, 2, none⟩ (.slice (some ⟨g', 0, none⟩) ((es.map fun (e : Nat) => (e : Int)).length + 1) cap)) ∧ ∀ b ∈ mfoot g mb av nv (.slice (some ⟨g', 0, none⟩) ((es.map fun (e : Nat) => (e : Int)).length + 1) cap), b ∈ mfoot g mb av nv ev ∨ wd.heap.size ≤ b := by
  obtain ⟨a1, a2, a3, a4⟩ := h.apart
  have hg : g ∉ ev.ownBlock.toList := fun hm => (a4 g (by simpa using hm)).1 rfl
  have hmb : mb ∉ ev.ownBlock.toList := fun hm => (a4 mb (by simpa using hm)).2 rfl
  have hgn : g' ≠ g := by
    rcases hat with h1 | h1
    · exact (a4 g' h1).1
    · have := h.lt; omega
  have T : Turns (g :: ev.ownBlock.toList) wd (w3.setCell ⟨g, 2, none⟩ (.slice (some ⟨g', 0, none⟩) ((es.map fun (e : Nat) => (e : Int)).length + 1) cap)) := (ht.mono (by simp +contextual)).setCell (.inl (by simp)) _
  have hoff : ∀ b ∈ g :: ev.ownBlock.toList, ¬ Off base (mfoot g mb av nv ev) b := by
    intro b hb hf
    refine hf.2 ?_
    simp only [mfoot, List.mem_cons, List.mem_append] at hb ⊢
    rcases hb with hb | hb
    · exact .inl hb
    · exact .inr (.inr (.inr (.inr hb)))
  have hmem : ∀ b, b ∈ mfoot g mb av nv (.slice (some ⟨g', 0, none⟩) ((es.map fun (e : Nat) => (e : Int)).length + 1) cap) → b ∈ mfoot g mb av nv ev ∨ wd.heap.size ≤ b := by
    intro b hm
    simp only [mfoot, List.mem_cons, List.mem_append, Option.mem_toList] at hm ⊢
    rcases hm with hm | hm | hm | hm | hm
    · exact .inl (.inl hm)
    · exact .inl (.inr (.inl hm))
    · exact .inl (.inr (.inr (.inl hm)))
    · exact .inl (.inr (.inr (.inr (.inl hm))))
    · have e : g' = b := by simpa [Value.ownBlock] using hm
      rcases hat with h3 | h3
      · exact .inl (.inr (.inr (.inr (.inr (by rw [← e]; exact h3)))))
      · exact .inr (by omega)
  have hFF : ∀ b, b < wd.heap.size → Off base (mfoot g mb av nv ev) b → Off base (mfoot g mb av nv (.slice (some ⟨g', 0, none⟩) ((es.map fun (e : Nat) => (e : Int)).length + 1) cap)) b := by
    rintro b hlt ⟨h1, h2⟩
    refine ⟨h1, fun hm => ?_⟩
    rcases hmem b hm with h3 | h3
    · exact h2 h3
    · omega
  refine ⟨⟨?_, ?_, ?_, ?_, ?_, h.gb, h.mbb, h.lens⟩, T.mono (fun b hb => ?_), hmem⟩
  · exact heap_setCell_same _ _ 2 _ _ _ ((ht.block g h.lt hg).trans h.blk)
  · exact h.al.keep T (fun b hb hm => by
      obtain ⟨b1, b2, b3, b4⟩ := a2 b hb
      simp only [List.mem_cons, Option.mem_toList] at hm
      rcases hm with hm | hm
      · exact b1 hm
      · exact b4 hm) hoff hFF
  · exact h.ns.keep T (fun b hb hm => by
      obtain ⟨b1, b2, b3⟩ := a3 b hb
      simp only [List.mem_cons, Option.mem_toList] at hm
      rcases hm with hm | hm
      · exact b1 hm
      · exact b3 hm) hoff hFF
  · rw [List.map_append]
    exact (ho _ hFF).keep (S := [g]) ((Turns.refl _ _).setCell (.inl (by simp)) _) (fun b hb hm => by
      have e : g' = b := by simpa [Value.ownBlock] using hb
      simp only [List.mem_singleton] at hm
      omega) (fun b hb hf => hf.2 (by simp only [List.mem_singleton] at hb; simp [mfoot, hb])) (fun _ _ h => h)
  · refine h.map.of_block ?_
    rw [Below.heap_setCell _ _ _ _ (fun e => a1 e.symm)]
    exact ht.block mb h.map.lt hmb
  · simp only [mfoot, List.mem_cons, List.mem_append] at hb ⊢
    rcases hb with hb | hb
    · exact .inl hb
    · exact .inr (.inr (.inr (.inr hb)))

theorem infoShp : (Try.prog.info? 79).map (fun i => (i.zero, i.size, i.bytes)) = some (some (.agg #[.int .i64 0, .slice none 0 0]), 2, 32) := by kernel_rfl
theorem Off_new {base g mb : Nat} {W : World} {av nv ev : Value} {st : St} {es : List Nat} (h : MkAt base g mb W av nv ev st es) {b : Nat} (hb : W.heap.size ≤ b) : Off base (mfoot g mb av nv ev) b :=
  ⟨by have := (h.foot_lt g mfoot_g); omega, fun hm => by have := (h.foot_lt b hm).2; omega⟩
set_option maxRecDepth 200000 in
set_option maxHeartbeats 4000000 in
theorem memoryW {base g mb : Nat} {W : World} {S : List Nat} {st : St} {es : List Nat} (h : Mkr base g mb W S st es) {F : Nat → Prop} (p : Pat) (v : Value) (hp : RSl F W 2 ESlt v p.args) (pok : i64ok p.pred) (h0 : 0 ≤ p.pred) (hn : ∀ s ∈ p.args, 0 ≤ s.n) (hS : p.args.length ≤ 1048576) (hlen : st.al.length ≤ 30000000) :
    Calls Try.prog 54 #[.pointer (some ⟨g, 0, none⟩), .agg #[.int .i64 p.pred, v]] W fun e W' => e = .returned (.int .i64 (placeF st.al (shapeF p))) ∧ MkrTo base g mb W S ⟨addF st.al (shapeF p), st.ns⟩ es W' := by
  obtain ⟨av, nv, ev, rfl, hM⟩ := h
  obtain ⟨A, c, rfl⟩ := hp.form
  obtain ⟨A0, C0, rfl⟩ := hM.al.form
  have CS := Lib.hid (fun W' (hb : Below W.heap.size W W') => shapeW p _ W' (hp.keep (Kp.of_below hb)) h0 hn hS)
  have HM := Lib.hid hM
  have POK := Lib.hid pok
  clear hM hp hn pok
  obtain ⟨sh, hsh⟩ : ∃ sh, shapeF p = sh := ⟨_, rfl⟩
  have hpr : p.pred = sh.pred := by rw [← hsh]; rfl
  have hce : p.args.map (cellF p.args) = sh.cells := by rw [← hsh]; rfl
  have HPR := Lib.hid hpr
  have HCE := Lib.hid hce
  rw [hsh]
  clear hsh hpr hce
  go_enter Try.func54, Try.ntmps54
  go_wp2_with fail
  refine (CS.out _ ((Below.refl _ _).alloc (Nat.le_refl _) _)).mono ?_
  rintro e w2 ⟨cv, rfl, hcv, hb2⟩
  obtain ⟨ca, cc, rfl⟩ := hcv.form
  rw [HCE.out] at hcv ⊢
  have HB2 := Lib.hid (((Below.refl W.heap.size W).alloc (Nat.le_refl _) (.cells #[.int .i64 p.pred, .slice A p.args.length c] 34)).trans (hb2.mono (by simp)))
  have HCV := Lib.hid (hcv.kp (F' := fun b => W.heap.size ≤ b) (Kp.refl _ _) (fun b _ hb => by simp at hb; omega) (fun _ _ h => h))
  have HM2 := HM.out.step HB2.out
  have x0 := HM2.cell 0 rfl
  have hgl := HM2.lt
  have HM2' := Lib.hid HM2
  have hal : st.al.length ≤ 30000000 := hlen
  clear hb2 hcv HM2
  have AR := Lib.hid (HM2'.out.al.rsl (G := fun b => b < w2.heap.size) (fun b hb => (HM2'.out.al.block hb).2.1))
  have FL2 := Lib.hid HM2'.out.foot_lt
  have hWw := HB2.out.size
  go_wp2_with fail
  go_loopw [16] (fun i wr => ∃ k : Nat, i = .int .i64 k ∧ k ≤ st.al.length ∧ (∀ j, j < k → st.al[j]? ≠ some sh) ∧ Below (w2.heap.size + 1) (w2.alloc (.cells #[.int .i64 p.pred, .slice ca sh.cells.length cc] 79)) wr) (fun i _ => st.al.length - (intOf i).toNat)
  case atStart => exact ⟨0, rfl, Nat.zero_le _, fun j h => by omega, Below.refl _ _⟩
  case round =>
    obtain ⟨k, rfl, hk, hq, hb⟩ := hrel
    have bw := box_below hb
    have z0 := box_cell hb 0 _ rfl
    have z1 := box_cell hb 1 _ rfl
    have hwz : w2.heap.size < wr.heap.size := by have := hb.size; simp at this; omega
    by_cases hkn : k < st.al.length
    · obtain ⟨a, ha⟩ : ∃ a, st.al[k]? = some a := ⟨_, List.getElem?_eq_getElem hkn⟩
      obtain ⟨b, off, rfl, hFb, hbs, cs, ⟨av, rfl, aok, hac⟩, hc⟩ := (AR.out.kp (Kp.of_below bw) (fun _ _ h => h) (fun _ _ h => cdShp.kp _ _ _ _ _ _ h (Kp.of_below bw) (fun _ _ h => h))).at ha
      obtain ⟨A1, C1, rfl⟩ := hac.form
      have c0 : wr.cell? ⟨b, off + k * 2, none⟩ = some (.int .i64 a.pred) := hc 0 _ rfl
      have c1 : wr.cell? ⟨b, off + k * 2 + 1, none⟩ = some (.slice A1 a.cells.length C1) := hc 1 _ rfl
      have e1 : (0 : Int) ≤ (k : Int) := by omega
      have e2 : (k : Int) < (st.al.length : Int) := by omega
      have HA := Lib.hid ha
      have HQ := Lib.hid hq
      have HK := Lib.hid hkn
      have HBW := Lib.hid bw
      have HB := Lib.hid hb
      have HAC := Lib.hid hac
      clear hc ha hq hkn bw hb hac x0
      by_cases hp1 : a.pred = p.pred
      · have hp2 : (a.pred == p.pred) = true := by simpa using hp1
        have CE := Lib.hid (fun W' (hb : Below wr.heap.size wr W') => equalW _ _ a.cells sh.cells W' (HAC.out.keep (Kp.of_below hb)) ((HCV.out.keep (Kp.of_below HBW.out)).keep (Kp.of_below hb)))
        by_cases hce : a.cells = sh.cells
        · have HE := Lib.hid (eqB_eq hce)
          have has : a = sh := by
            have := HPR.out
            obtain ⟨a1, a2⟩ := a
            obtain ⟨s1, s2⟩ := sh
            simp only at hp1 hce this
            rw [hp1, hce, this]
          have hpl := Lib.hid (placeF_at (has ▸ HA.out) HQ.out)
          have hin : sh ∈ st.al := List.mem_of_getElem? (has ▸ HA.out)
          have hadd := Lib.hid (show addF st.al sh = st.al by unfold addF; rw [if_pos hin])
          clear hce has hin hp1
          go_wp2_with (go_at_call 63; refine (CE.out _ ?_).mono ?_; exact (Below.refl _ _).alloc (Nat.le_refl _) _; rintro e w3 ⟨he, hb3⟩; rw [HE.out] at he; subst he; have HB3 := Lib.hid hb3; clear hb3)
          go_ret
          have BF := (HB2.out.trans (HBW.out.mono hWw)).trans ((((Below.refl wr.heap.size wr).alloc (Nat.le_refl _) _).trans (HB3.out.mono (by simp))).mono (by omega))
          refine ⟨ret_i64 (by rw [hpl.out]), _, ⟨_, _, _, rfl, ?_⟩, Turns.of_below BF, fun b hb => .inl hb⟩
          rw [hadd.out]
          exact HM.out.step BF
        · have HE := Lib.hid (eqB_ne hce)
          have HQ2 := Lib.hid (show ∀ j, j < k + 1 → st.al[j]? ≠ some sh from fun j hj => by
            rcases Nat.lt_or_ge j k with h1 | h1
            · exact HQ.out j h1
            · rw [show j = k by omega, HA.out]
              exact fun e => hce (by rw [Option.some.inj e]))
          clear hce
          go_wp2_with (go_at_call 63; refine (CE.out _ ?_).mono ?_; exact (Below.refl _ _).alloc (Nat.le_refl _) _; rintro e w3 ⟨he, hb3⟩; rw [HE.out] at he; subst he; have HB3 := Lib.hid hb3; clear hb3)
          exact ⟨⟨k + 1, by go_num, HK.out, HQ2.out, box_step HB.out (((Below.refl wr.heap.size wr).alloc (Nat.le_refl _) _).trans (HB3.out.mono (by simp)))⟩, by simp [intOf]; have := HK.out; omega⟩
      · have hp2 : (a.pred == p.pred) = false := by simpa using hp1
        have HQ2 := Lib.hid (show ∀ j, j < k + 1 → st.al[j]? ≠ some sh from fun j hj => by
          rcases Nat.lt_or_ge j k with h1 | h1
          · exact HQ.out j h1
          · rw [show j = k by omega, HA.out]
            exact fun e => hp1 (by rw [Option.some.inj e, HPR.out]))
        clear hp1
        go_wp2
        exact ⟨⟨k + 1, by go_num, HK.out, HQ2.out, box_step HB.out ((Below.refl wr.heap.size wr).alloc (Nat.le_refl _) _)⟩, by simp [intOf]; have := HK.out; omega⟩
    · obtain rfl : k = st.al.length := by omega
      have hno : sh ∉ st.al := fun hm => by
        obtain ⟨h1, h2⟩ := placeF_lt hm
        exact hq _ h1 h2
      have hadd := Lib.hid (show addF st.al sh = st.al ++ [sh] by unfold addF; rw [if_neg hno])
      have hpl := Lib.hid (placeF_none hno)
      have BW := Lib.hid (HB2.out.trans (bw.mono hWw))
      have HMr := HM.out.step BW.out
      have HMR := Lib.hid HMr
      have y0 := HMr.cell 0 rfl
      have hgr := HMr.lt
      have HCVr := Lib.hid (HCV.out.kp (F' := Off base (mfoot g mb (.slice A0 st.al.length C0) nv ev)) (Kp.of_below bw) (fun b _ hb => Off_new HM.out hb) (fun _ _ h => h))
      have PK := Lib.hid (show i64ok sh.pred by rw [← HPR.out]; exact POK.out)
      have hbase : base ≤ wr.heap.size := by have := (HM.out.foot_lt g mfoot_g).1; omega
      clear HMr hq hno hkn hb bw x0
      go_wp2
      go_region_law (refine step_append_F HMR.out.al (fun b hb hf => hf.2 (by simp [mfoot, hb])) (by rfl) (.tmp 40) (.tmp 42) 23 (by rfl) Try.underlying23 infoShp rfl (by decide) (by rfl) #[.int .i64 p.pred, .slice ca sh.cells.length cc] _ (by rfl) rfl (x := sh) ⟨_, by rw [HPR.out], PK.out, HCVr.out⟩ (by omega) (by decide) hbase ?_; intro g' cap w3 ho ht hat hlt3; have hgn := (HMR.out.apart).2.1; have e3 := (ht.block g HMR.out.lt (fun hm => (hgn g (by simpa using hm)).1 rfl)).trans HMR.out.blk; have q1 := (cell_of_row _ _ 0 _ _ _ e3).trans (show _ = some (Value.slice A0 st.al.length C0) from rfl); have q2 : ∀ o, w3.frozen? ⟨g, o, none⟩ = false := (fun o => by simp [World.frozen?, e3]); have q3 := lt_of_heap e3; have GR := Lib.hid (HMR.out.grow_al ho ht hat); clear ho ht hat hlt3 hgn e3)
      all_goals
        have q0 : (w3.setCell ⟨g, 0, none⟩ (.slice (some ⟨g', 0, none⟩) (st.al.length + 1) cap)).cell? ⟨g, 0, none⟩ = some (.slice (some ⟨g', 0, none⟩) (st.al.length + 1) cap) := GR.out.1.cell 0 rfl
        clear q1 q2 y0 z0 z1
        go_wp2
        go_ret
        refine ⟨ret_i64 (by rw [hpl.out]), mfoot g mb (.slice (some ⟨g', 0, none⟩) (st.al.length + 1) cap) nv ev, ⟨.slice (some ⟨g', 0, none⟩) (st.al.length + 1) cap, nv, ev, rfl, ?_⟩, ?_, ?_⟩
        · rw [hadd.out]
          exact GR.out.1
        · exact (Turns.of_below (S := mfoot g mb (.slice A0 st.al.length C0) nv ev) BW.out).trans GR.out.2.1 (fun x hx => .inl hx)
        · intro b hb
          rcases GR.out.2.2 b hb with h1 | h1
          · exact .inl h1
          · exact .inr (Nat.le_trans BW.out.size h1)
end Go.Proofs.Ytonkbjdeaneicaa
