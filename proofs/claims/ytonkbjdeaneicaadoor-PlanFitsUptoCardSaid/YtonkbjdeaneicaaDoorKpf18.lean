/- memory: the number of a shape, a new one where there is none such. Printed by wip/bin/memo.py. pattern: the node below u for a pattern. Plans, in plain Lean: what holds behind the first conditions of a rule. -/
import Derived.Test.YtonkbjdeaneicaaDoorKpf06
import Derived.Test.YtonkbjdeaneicaaDoorKpf17
namespace Go.Proofs.YtonkbjdeaneicaaDoor
open Go.RowKit Pln Classical Go.Maps

theorem MkAt.grow_al {base g mb : Nat} {wd w3 : World} {av nv ev : Value} {st : St} {es : List Nat} {x : Shp} (h : MkAt base g mb wd av nv ev st es) {g' cap : Nat}
    (ho : ∀ F' : Nat → Prop, (∀ b, b < wd.heap.size → Off base (mfoot g mb av nv ev) b → F' b) → OwnF F' base w3 54 cdShp (.slice (some ⟨g', 0, none⟩) (st.al.length + 1) cap) (st.al ++ [x]))
    (ht : Turns av.ownBlock.toList wd w3) (hat : av.ownBlock = some g' ∨ wd.heap.size ≤ g') :
    MkAt base g mb (w3.setCell ⟨g, 0, none⟩ (.slice (some ⟨g', 0, none⟩) (st.al.length + 1) cap)) (.slice (some ⟨g', 0, none⟩) (st.al.length + 1) cap) nv ev ⟨st.al ++ [x], st.ns⟩ es ∧ Turns (mfoot g mb av nv ev) wd (w3.setCell ⟨g, 0, none⟩ (.slice (some ⟨g', 0, none⟩) (st.al.length + 1) cap)) ∧ ∀ b ∈ mfoot g mb (.slice (some ⟨g', 0, none⟩) (st.al.length + 1) cap) nv ev, b ∈ mfoot g mb av nv ev ∨ wd.heap.size ≤ b := by
  obtain ⟨a1, a2, a3, a4⟩ := h.apart
  have hg : g ∉ av.ownBlock.toList := fun hm => (a2 g (by simpa using hm)).1 rfl
  have hmb : mb ∉ av.ownBlock.toList := fun hm => (a2 mb (by simpa using hm)).2.1 rfl
  have hgn : g' ≠ g := by
    rcases hat with h1 | h1
    · exact (a2 g' h1).1
    · have := h.lt; omega
  have T : Turns (g :: av.ownBlock.toList) wd (w3.setCell ⟨g, 0, none⟩ (.slice (some ⟨g', 0, none⟩) (st.al.length + 1) cap)) := (ht.mono (by simp +contextual)).setCell (.inl (by simp)) _
  have hoff : ∀ b ∈ g :: av.ownBlock.toList, ¬ Off base (mfoot g mb av nv ev) b := by
    intro b hb hf
    refine hf.2 ?_
    simp only [mfoot, List.mem_cons, List.mem_append] at hb ⊢
    rcases hb with hb | hb
    · exact .inl hb
    · exact .inr (.inr (.inl hb))
  have hmem : ∀ b, b ∈ mfoot g mb (.slice (some ⟨g', 0, none⟩) (st.al.length + 1) cap) nv ev → b ∈ mfoot g mb av nv ev ∨ wd.heap.size ≤ b := by
    intro b hm
    simp only [mfoot, List.mem_cons, List.mem_append, Option.mem_toList] at hm ⊢
    rcases hm with hm | hm | hm | hm | hm
    · exact .inl (.inl hm)
    · exact .inl (.inr (.inl hm))
    · have e : g' = b := by simpa [Value.ownBlock] using hm
      rcases hat with h3 | h3
      · exact .inl (.inr (.inr (.inl (by rw [← e]; exact h3))))
      · exact .inr (by omega)
    · exact .inl (.inr (.inr (.inr (.inl hm))))
    · exact .inl (.inr (.inr (.inr (.inr hm))))
  have hFF : ∀ b, b < wd.heap.size → Off base (mfoot g mb av nv ev) b → Off base (mfoot g mb (.slice (some ⟨g', 0, none⟩) (st.al.length + 1) cap) nv ev) b := by
    rintro b hlt ⟨h1, h2⟩
    refine ⟨h1, fun hm => ?_⟩
    rcases hmem b hm with h3 | h3
    · exact h2 h3
    · omega
  refine ⟨⟨?_, ?_, ?_, ?_, ?_, h.gb, h.mbb, h.lens⟩, T.mono (fun b hb => ?_), hmem⟩
  · exact heap_setCell_same _ _ 0 _ _ _ ((ht.block g h.lt hg).trans h.blk)
  · exact (ho _ hFF).keep (S := [g]) ((Turns.refl _ _).setCell (.inl (by simp)) _) (fun b hb hm => by
      have e : g' = b := by simpa [Value.ownBlock] using hb
      simp only [List.mem_singleton] at hm
      omega) (fun b hb hf => hf.2 (by simp only [List.mem_singleton] at hb; simp [mfoot, hb])) (fun _ _ h => h)
  · exact h.ns.keep T (fun b hb hm => by
      obtain ⟨b1, b2, b3⟩ := a3 b hb
      simp only [List.mem_cons, Option.mem_toList] at hm
      rcases hm with hm | hm
      · exact b1 hm
      · exact (a2 b hm).2.2.1 hb) hoff hFF
  · exact h.en.keep T (fun b hb hm => by
      obtain ⟨b1, b2⟩ := a4 b hb
      simp only [List.mem_cons, Option.mem_toList] at hm
      rcases hm with hm | hm
      · exact b1 hm
      · exact (a2 b hm).2.2.2 hb) hoff hFF
  · refine h.map.of_block ?_
    rw [Below.heap_setCell _ _ _ _ (fun e => a1 e.symm)]
    exact ht.block mb h.map.lt hmb
  · simp only [mfoot, List.mem_cons, List.mem_append] at hb ⊢
    rcases hb with hb | hb
    · exact .inl hb
    · exact .inr (.inr (.inl hb))
theorem MkAt.grow_en {base g mb : Nat} {wd w3 : World} {av nv ev : Value} {st : St} {es : List Nat} {x : Nat} (h : MkAt base g mb wd av nv ev st es) {g' cap : Nat}
    (ho : ∀ F' : Nat → Prop, (∀ b, b < wd.heap.size → Off base (mfoot g mb av nv ev) b → F' b) → OwnF F' base w3 3 cdInt (.slice (some ⟨g', 0, none⟩) ((es.map fun (e : Nat) => (e : Int)).length + 1) cap) ((es.map fun (e : Nat) => (e : Int)) ++ [(x : Int)]))
    (ht : Turns ev.ownBlock.toList wd w3) (hat : ev.ownBlock = some g' ∨ wd.heap.size ≤ g') :
    MkAt base g mb (w3.setCell ⟨g, 2, none⟩ (.slice (some ⟨g', 0, none⟩) ((es.map fun (e : Nat) => (e : Int)).length + 1) cap)) av nv (.slice (some ⟨g', 0, none⟩) ((es.map fun (e : Nat) => (e : Int)).length + 1) cap) st (es ++ [x]) ∧ Turns (mfoot g mb av nv ev) wd (w3.setCell ⟨g, 2, none⟩ (.slice (some ⟨g', 0, none⟩) ((es.map fun (e : Nat) => (e : Int)).length + 1) cap)) ∧ ∀ b ∈ mfoot g mb av nv (.slice (some ⟨g', 0, none⟩) ((es.map fun (e : Nat) => (e : Int)).length + 1) cap), b ∈ mfoot g mb av nv ev ∨ wd.heap.size ≤ b := by
  obtain ⟨a1, a2, a3, a4⟩ := h.apart
  have hg : g ∉ ev.ownBlock.toList := fun hm => (a4 g (by simpa using hm)).1 rfl
  have hmb : mb ∉ ev.ownBlock.toList := fun hm => (a4 mb (by simpa using hm)).2 rfl
  have hgn : g' ≠ g := by
    rcases hat with h1 | h1
    · exact (a4 g' h1).1
    · have := h.lt; omega
  have T : Turns (g :: ev.ownBlock.toList) wd (w3.setCell ⟨g, 2, none⟩ (.slice (some ⟨g', 0, none⟩) ((es.map fun (e : Nat) => (e : Int)).length + 1) cap)) := (ht.mono (by simp +contextual)).setCell (.inl (by simp)) _
  have hoff : ∀ b ∈ g :: ev.ownBlock.toList, ¬ Off base (mfoot g mb av nv ev) b := by
    intro b hb hf
    refine hf.2 ?_
    simp only [mfoot, List.mem_cons, List.mem_append] at hb ⊢
    rcases hb with hb | hb
    · exact .inl hb
    · exact .inr (.inr (.inr (.inr hb)))
  have hmem : ∀ b, b ∈ mfoot g mb av nv (.slice (some ⟨g', 0, none⟩) ((es.map fun (e : Nat) => (e : Int)).length + 1) cap) → b ∈ mfoot g mb av nv ev ∨ wd.heap.size ≤ b := by
    intro b hm
    simp only [mfoot, List.mem_cons, List.mem_append, Option.mem_toList] at hm ⊢
    rcases hm with hm | hm | hm | hm | hm
    · exact .inl (.inl hm)
    · exact .inl (.inr (.inl hm))
    · exact .inl (.inr (.inr (.inl hm)))
    · exact .inl (.inr (.inr (.inr (.inl hm))))
    · have e : g' = b := by simpa [Value.ownBlock] using hm
      rcases hat with h3 | h3
      · exact .inl (.inr (.inr (.inr (.inr (by rw [← e]; exact h3)))))
      · exact .inr (by omega)
  have hFF : ∀ b, b < wd.heap.size → Off base (mfoot g mb av nv ev) b → Off base (mfoot g mb av nv (.slice (some ⟨g', 0, none⟩) ((es.map fun (e : Nat) => (e : Int)).length + 1) cap)) b := by
    rintro b hlt ⟨h1, h2⟩
    refine ⟨h1, fun hm => ?_⟩
    rcases hmem b hm with h3 | h3
    · exact h2 h3
    · omega
  refine ⟨⟨?_, ?_, ?_, ?_, ?_, h.gb, h.mbb, h.lens⟩, T.mono (fun b hb => ?_), hmem⟩
  · exact heap_setCell_same _ _ 2 _ _ _ ((ht.block g h.lt hg).trans h.blk)
  · exact h.al.keep T (fun b hb hm => by
      obtain ⟨b1, b2, b3, b4⟩ := a2 b hb
      simp only [List.mem_cons, Option.mem_toList] at hm
      rcases hm with hm | hm
      · exact b1 hm
      · exact b4 hm) hoff hFF
  · exact h.ns.keep T (fun b hb hm => by
      obtain ⟨b1, b2, b3⟩ := a3 b hb
      simp only [List.mem_cons, Option.mem_toList] at hm
      rcases hm with hm | hm
      · exact b1 hm
      · exact b3 hm) hoff hFF
  · rw [List.map_append]
    exact (ho _ hFF).keep (S := [g]) ((Turns.refl _ _).setCell (.inl (by simp)) _) (fun b hb hm => by
      have e : g' = b := by simpa [Value.ownBlock] using hb
      simp only [List.mem_singleton] at hm
      omega) (fun b hb hf => hf.2 (by simp only [List.mem_singleton] at hb; simp [mfoot, hb])) (fun _ _ h => h)
  · refine h.map.of_block ?_
    rw [Below.heap_setCell _ _ _ _ (fun e => a1 e.symm)]
    exact ht.block mb h.map.lt hmb
  · simp only [mfoot, List.mem_cons, List.mem_append] at hb ⊢
    rcases hb with hb | hb
    · exact .inl hb
    · exact .inr (.inr (.inr (.inr hb)))

theorem infoShp : (Tryd.prog.info? 54).map (fun i => (i.zero, i.size, i.bytes)) = some (some (.agg #[.int .i64 0, .slice none 0 0]), 2, 32) := by kernel_rfl
theorem Off_new {base g mb : Nat} {W : World} {av nv ev : Value} {st : St} {es : List Nat} (h : MkAt base g mb W av nv ev st es) {b : Nat} (hb : W.heap.size ≤ b) : Off base (mfoot g mb av nv ev) b :=
  ⟨by have := (h.foot_lt g mfoot_g); omega, fun hm => by have := (h.foot_lt b hm).2; omega⟩
set_option maxRecDepth 200000 in
set_option maxHeartbeats 4000000 in
theorem memoryW {base g mb : Nat} {W : World} {S : List Nat} {st : St} {es : List Nat} (h : Mkr base g mb W S st es) {F : Nat → Prop} (p : Pat) (v : Value) (hp : RSl F W 2 ESlt v p.args) (pok : i64ok p.pred) (h0 : 0 ≤ p.pred) (hn : ∀ s ∈ p.args, 0 ≤ s.n) (hS : p.args.length ≤ 1048576) (hlen : st.al.length ≤ 30000000) :
    Calls Tryd.prog 69 #[.pointer (some ⟨g, 0, none⟩), .agg #[.int .i64 p.pred, v]] W fun e W' => e = .returned (.int .i64 (placeF st.al (shapeF p))) ∧ MkrTo base g mb W S ⟨addF st.al (shapeF p), st.ns⟩ es W' := by
  obtain ⟨av, nv, ev, rfl, hM⟩ := h
  obtain ⟨A, c, rfl⟩ := hp.form
  obtain ⟨A0, C0, rfl⟩ := hM.al.form
  have CS := Lib.hid (fun W' (hb : Below W.heap.size W W') => shapeW p _ W' (hp.keep (Kp.of_below hb)) h0 hn hS)
  have HM := Lib.hid hM
  have POK := Lib.hid pok
  clear hM hp hn pok
  obtain ⟨sh, hsh⟩ : ∃ sh, shapeF p = sh := ⟨_, rfl⟩
  have hpr : p.pred = sh.pred := by rw [← hsh]; rfl
  have hce : p.args.map (cellF p.args) = sh.cells := by rw [← hsh]; rfl
  have HPR := Lib.hid hpr
  have HCE := Lib.hid hce
  rw [hsh]
  clear hsh hpr hce
  go_enter Tryd.func69, Tryd.ntmps69
  go_wp2_with fail
  refine (CS.out _ ((Below.refl _ _).alloc (Nat.le_refl _) _)).mono ?_
  rintro e w2 ⟨cv, rfl, hcv, hb2⟩
  obtain ⟨ca, cc, rfl⟩ := hcv.form
  rw [HCE.out] at hcv ⊢
  have HB2 := Lib.hid (((Below.refl W.heap.size W).alloc (Nat.le_refl _) (.cells #[.int .i64 p.pred, .slice A p.args.length c] 80)).trans (hb2.mono (by simp)))
  have HCV := Lib.hid (hcv.kp (F' := fun b => W.heap.size ≤ b) (Kp.refl _ _) (fun b _ hb => by simp at hb; omega) (fun _ _ h => h))
  have HM2 := HM.out.step HB2.out
  have x0 := HM2.cell 0 rfl
  have hgl := HM2.lt
  have HM2' := Lib.hid HM2
  have hal : st.al.length ≤ 30000000 := hlen
  clear hb2 hcv HM2
  have AR := Lib.hid (HM2'.out.al.rsl (G := fun b => b < w2.heap.size) (fun b hb => (HM2'.out.al.block hb).2.1))
  have FL2 := Lib.hid HM2'.out.foot_lt
  have hWw := HB2.out.size
  go_wp2_with fail
  go_loopw [16] (fun i wr => ∃ k : Nat, i = .int .i64 k ∧ k ≤ st.al.length ∧ (∀ j, j < k → st.al[j]? ≠ some sh) ∧ Below (w2.heap.size + 1) (w2.alloc (.cells #[.int .i64 p.pred, .slice ca sh.cells.length cc] 54)) wr) (fun i _ => st.al.length - (intOf i).toNat)
  case atStart => exact ⟨0, rfl, Nat.zero_le _, fun j h => by omega, Below.refl _ _⟩
  case round =>
    obtain ⟨k, rfl, hk, hq, hb⟩ := hrel
    have bw := box_below hb
    have z0 := box_cell hb 0 _ rfl
    have z1 := box_cell hb 1 _ rfl
    have hwz : w2.heap.size < wr.heap.size := by have := hb.size; simp at this; omega
    by_cases hkn : k < st.al.length
    · obtain ⟨a, ha⟩ : ∃ a, st.al[k]? = some a := ⟨_, List.getElem?_eq_getElem hkn⟩
      obtain ⟨b, off, rfl, hFb, hbs, cs, ⟨av, rfl, aok, hac⟩, hc⟩ := (AR.out.kp (Kp.of_below bw) (fun _ _ h => h) (fun _ _ h => cdShp.kp _ _ _ _ _ _ h (Kp.of_below bw) (fun _ _ h => h))).at ha
      obtain ⟨A1, C1, rfl⟩ := hac.form
      have c0 : wr.cell? ⟨b, off + k * 2, none⟩ = some (.int .i64 a.pred) := hc 0 _ rfl
      have c1 : wr.cell? ⟨b, off + k * 2 + 1, none⟩ = some (.slice A1 a.cells.length C1) := hc 1 _ rfl
      have e1 : (0 : Int) ≤ (k : Int) := by omega
      have e2 : (k : Int) < (st.al.length : Int) := by omega
      have HA := Lib.hid ha
      have HQ := Lib.hid hq
      have HK := Lib.hid hkn
      have HBW := Lib.hid bw
      have HB := Lib.hid hb
      have HAC := Lib.hid hac
      clear hc ha hq hkn bw hb hac x0
      by_cases hp1 : a.pred = p.pred
      · have hp2 : (a.pred == p.pred) = true := by simpa using hp1
        have CE := Lib.hid (fun W' (hb : Below wr.heap.size wr W') => equalW _ _ a.cells sh.cells W' (HAC.out.keep (Kp.of_below hb)) ((HCV.out.keep (Kp.of_below HBW.out)).keep (Kp.of_below hb)))
        by_cases hce : a.cells = sh.cells
        · have HE := Lib.hid (eqB_eq hce)
          have has : a = sh := by
            have := HPR.out
            obtain ⟨a1, a2⟩ := a
            obtain ⟨s1, s2⟩ := sh
            simp only at hp1 hce this
            rw [hp1, hce, this]
          have hpl := Lib.hid (placeF_at (has ▸ HA.out) HQ.out)
          have hin : sh ∈ st.al := List.mem_of_getElem? (has ▸ HA.out)
          have hadd := Lib.hid (show addF st.al sh = st.al by unfold addF; rw [if_pos hin])
          clear hce has hin hp1
          go_wp2_with (go_at_call 61; refine (CE.out _ ?_).mono ?_; exact (Below.refl _ _).alloc (Nat.le_refl _) _; rintro e w3 ⟨he, hb3⟩; rw [HE.out] at he; subst he; have HB3 := Lib.hid hb3; clear hb3)
          go_ret
          have BF := (HB2.out.trans (HBW.out.mono hWw)).trans ((((Below.refl wr.heap.size wr).alloc (Nat.le_refl _) _).trans (HB3.out.mono (by simp))).mono (by omega))
          refine ⟨ret_i64 (by rw [hpl.out]), _, ⟨_, _, _, rfl, ?_⟩, Turns.of_below BF, fun b hb => .inl hb⟩
          rw [hadd.out]
          exact HM.out.step BF
        · have HE := Lib.hid (eqB_ne hce)
          have HQ2 := Lib.hid (show ∀ j, j < k + 1 → st.al[j]? ≠ some sh from fun j hj => by
            rcases Nat.lt_or_ge j k with h1 | h1
            · exact HQ.out j h1
            · rw [show j = k by omega, HA.out]
              exact fun e => hce (by rw [Option.some.inj e]))
          clear hce
          go_wp2_with (go_at_call 61; refine (CE.out _ ?_).mono ?_; exact (Below.refl _ _).alloc (Nat.le_refl _) _; rintro e w3 ⟨he, hb3⟩; rw [HE.out] at he; subst he; have HB3 := Lib.hid hb3; clear hb3)
          exact ⟨⟨k + 1, by go_num, HK.out, HQ2.out, box_step HB.out (((Below.refl wr.heap.size wr).alloc (Nat.le_refl _) _).trans (HB3.out.mono (by simp)))⟩, by simp [intOf]; have := HK.out; omega⟩
      · have hp2 : (a.pred == p.pred) = false := by simpa using hp1
        have HQ2 := Lib.hid (show ∀ j, j < k + 1 → st.al[j]? ≠ some sh from fun j hj => by
          rcases Nat.lt_or_ge j k with h1 | h1
          · exact HQ.out j h1
          · rw [show j = k by omega, HA.out]
            exact fun e => hp1 (by rw [Option.some.inj e, HPR.out]))
        clear hp1
        go_wp2
        exact ⟨⟨k + 1, by go_num, HK.out, HQ2.out, box_step HB.out ((Below.refl wr.heap.size wr).alloc (Nat.le_refl _) _)⟩, by simp [intOf]; have := HK.out; omega⟩
    · obtain rfl : k = st.al.length := by omega
      have hno : sh ∉ st.al := fun hm => by
        obtain ⟨h1, h2⟩ := placeF_lt hm
        exact hq _ h1 h2
      have hadd := Lib.hid (show addF st.al sh = st.al ++ [sh] by unfold addF; rw [if_neg hno])
      have hpl := Lib.hid (placeF_none hno)
      have BW := Lib.hid (HB2.out.trans (bw.mono hWw))
      have HMr := HM.out.step BW.out
      have HMR := Lib.hid HMr
      have y0 := HMr.cell 0 rfl
      have hgr := HMr.lt
      have HCVr := Lib.hid (HCV.out.kp (F' := Off base (mfoot g mb (.slice A0 st.al.length C0) nv ev)) (Kp.of_below bw) (fun b _ hb => Off_new HM.out hb) (fun _ _ h => h))
      have PK := Lib.hid (show i64ok sh.pred by rw [← HPR.out]; exact POK.out)
      have hbase : base ≤ wr.heap.size := by have := (HM.out.foot_lt g mfoot_g).1; omega
      clear HMr hq hno hkn hb bw x0
      go_wp2
      go_region_law (refine step_append_F HMR.out.al (fun b hb hf => hf.2 (by simp [mfoot, hb])) (by rfl) (.tmp 40) (.tmp 42) 22 (by rfl) Tryd.underlying22 infoShp rfl (by decide) (by rfl) #[.int .i64 p.pred, .slice ca sh.cells.length cc] _ (by rfl) rfl (x := sh) ⟨_, by rw [HPR.out], PK.out, HCVr.out⟩ (by omega) (by decide) hbase ?_; intro g' cap w3 ho ht hat hlt3; have hgn := (HMR.out.apart).2.1; have e3 := (ht.block g HMR.out.lt (fun hm => (hgn g (by simpa using hm)).1 rfl)).trans HMR.out.blk; have q1 := (cell_of_row _ _ 0 _ _ _ e3).trans (show _ = some (Value.slice A0 st.al.length C0) from rfl); have q2 : ∀ o, w3.frozen? ⟨g, o, none⟩ = false := (fun o => by simp [World.frozen?, e3]); have q3 := lt_of_heap e3; have GR := Lib.hid (HMR.out.grow_al ho ht hat); clear ho ht hat hlt3 hgn e3)
      all_goals
        have q0 : (w3.setCell ⟨g, 0, none⟩ (.slice (some ⟨g', 0, none⟩) (st.al.length + 1) cap)).cell? ⟨g, 0, none⟩ = some (.slice (some ⟨g', 0, none⟩) (st.al.length + 1) cap) := GR.out.1.cell 0 rfl
        clear q1 q2 y0 z0 z1
        go_wp2
        go_ret
        refine ⟨ret_i64 (by rw [hpl.out]), mfoot g mb (.slice (some ⟨g', 0, none⟩) (st.al.length + 1) cap) nv ev, ⟨.slice (some ⟨g', 0, none⟩) (st.al.length + 1) cap, nv, ev, rfl, ?_⟩, ?_, ?_⟩
        · rw [hadd.out]
          exact GR.out.1
        · exact (Turns.of_below (S := mfoot g mb (.slice A0 st.al.length C0) nv ev) BW.out).trans GR.out.2.1 (fun x hx => .inl hx)
        · intro b hb
          rcases GR.out.2.2 b hb with h1 | h1
          · exact .inl h1
          · exact .inr (Nat.le_trans BW.out.size h1)
end Go.Proofs.YtonkbjdeaneicaaDoor

namespace Go.Proofs.YtonkbjdeaneicaaDoor
open Go.RowKit Pln Classical Go.Maps

theorem idxP_first (n : Int) : ∀ args : List Slt, idxP (sameV n) args = firstV args n
  | [] => rfl
  | s :: r => by
    unfold idxP firstV
    rw [idxP_first n r]
    have e : (sameV n s = true) ↔ (s.v = true ∧ s.n = n) := by simp [sameV]
    by_cases h : s.v = true ∧ s.n = n
    · rw [if_pos (e.2 h), if_pos h]
    · rw [if_neg (fun hh => h (e.1 hh)), if_neg h]
theorem idxI_first {args : List Slt} {k : Nat} {n : Int} (h : args[k]? = some ⟨true, n⟩) : idxI (sameV n) args = firstV args n := by
  have h1 := firstV_le h rfl
  have h2 := (List.getElem?_eq_some_iff.1 h).1
  unfold idxI
  rw [idxP_first, if_pos (by simp only at h1; omega)]
theorem linksK_len (args : List Slt) (w : Int) : ∀ k, (linksK args w k).length ≤ k
  | 0 => by simp [linksK_zero]
  | k + 1 => by
    rw [linksK_succ, List.length_append]
    have := linksK_len args w k
    have h2 : (linkAt args w k).length ≤ 1 := by
      unfold linkAt
      split
      · split <;> simp
      · simp
    omega
theorem newK_len (args : List Slt) (w : Int) : ∀ k, (newK args w k).length ≤ k
  | 0 => by simp [newK_zero]
  | k + 1 => by
    rw [newK_succ, List.length_append]
    have := newK_len args w k
    have h2 : (newAt args w k).length ≤ 1 := by
      unfold newAt
      split
      · split <;> simp
      · simp
    omega
theorem linksK_mem {args : List Slt} {w : Int} {k : Nat} {l : Int × Int} (h : l ∈ linksK args w k) : ∃ i s, i < k ∧ args[i]? = some s ∧ l = ((i : Int), s.n) := by
  unfold linksK at h
  obtain ⟨i, hi, hl⟩ := List.mem_flatMap.1 h
  unfold linkAt at hl
  split at hl
  · rename_i s hs
    split at hl
    · exact ⟨i, s, List.mem_range.1 hi, hs, List.mem_singleton.1 hl⟩
    · simp at hl
  · simp at hl
theorem newK_mem {args : List Slt} {w : Int} {k : Nat} {x : Int} (h : x ∈ newK args w k) : ∃ i : Nat, i < k ∧ x = (i : Int) := by
  unfold newK at h
  obtain ⟨i, hi, hl⟩ := List.mem_flatMap.1 h
  unfold newAt at hl
  split at hl
  · split at hl
    · exact ⟨i, List.mem_range.1 hi, List.mem_singleton.1 hl⟩
    · simp at hl
  · simp at hl

/-- The node on its way, behind k places. -/
structure PtSt (wo wr : World) (kd u al : Int) (args : List Slt) (w : Int) (lv nv : Value) (k : Nat) : Prop where
  blk : wr.heap[wo.heap.size]? = some (.cells #[.int .i64 kd, .int .i64 u, .int .i64 al, lv, nv, .int .i64 0, .bool false, .int .i64 0, .bool false, .int .i64 0, .int .i64 0] 40 (0, 0))
  lo : OwnF (fun _ => False) (wo.heap.size + 1) wr 56 cdLnk lv (linksK args w k)
  no : OwnF (fun _ => False) (wo.heap.size + 1) wr 3 cdInt nv (newK args w k)
  below : Below wo.heap.size wo wr
section
variable {wo wr wr' w2 : World} {kd u al : Int} {args : List Slt} {w : Int} {lv nv : Value} {k : Nat}
theorem PtSt.lt (h : PtSt wo wr kd u al args w lv nv k) : wo.heap.size < wr.heap.size := lt_of_heap h.blk
theorem PtSt.step (h : PtSt wo wr kd u al args w lv nv k) (hb : Below wr.heap.size wr wr') : PtSt wo wr' kd u al args w lv nv k :=
  ⟨(hb.block _ h.lt).trans h.blk, h.lo.below hb, h.no.below hb, h.below.trans (hb.mono h.below.size)⟩
theorem PtSt.apart (h : PtSt wo wr kd u al args w lv nv k) {b : Nat} (h1 : lv.ownBlock = some b) (h2 : nv.ownBlock = some b) : False := by
  obtain ⟨_, _, c1, e1⟩ := h.lo.block h1
  obtain ⟨_, _, c2, e2⟩ := h.no.block h2
  rw [e1] at e2
  simp at e2
theorem PtSt.putL (h : PtSt wo wr kd u al args w lv nv k) {lv' : Value} {x : Int × Int} (ht : Turns lv.ownBlock.toList wr w2) (ho : OwnF (fun _ => False) (wo.heap.size + 1) w2 56 cdLnk lv' (linksK args w k ++ [x])) (hl : linkAt args w k = [x]) (hn : newAt args w k = []) :
    PtSt wo (w2.setCell ⟨wo.heap.size, 3, none⟩ lv') kd u al args w lv' nv (k + 1) := by
  have hn0 : wo.heap.size ∉ lv.ownBlock.toList := fun hm => by have := (h.lo.block (by simpa using hm)).1; omega
  refine ⟨heap_setCell_same _ _ 3 _ _ _ ((ht.block _ h.lt hn0).trans h.blk), ?_, ?_, ?_⟩
  · rw [linksK_succ, hl]
    exact ho.keep (S := [wo.heap.size]) ((Turns.refl _ _).setCell (.inl (by simp)) _) (fun b hb => by have := (ho.block hb).1; simp; omega) (by simp) (fun _ _ h => h)
  · rw [newK_succ, hn, List.append_nil]
    exact (h.no.keep ht (fun b hb hm => h.apart (by simpa using hm) hb) (by simp) (fun _ _ h => h)).keep (S := [wo.heap.size]) ((Turns.refl _ _).setCell (.inl (by simp)) _) (fun b hb => by have := (h.no.block hb).1; simp; omega) (by simp) (fun _ _ h => h)
  · exact (h.below.trans (ht.below h.below.size (fun x hx => by have := (h.lo.block (by simpa using hx)).1; omega))).setCell (Nat.le_refl _) _
theorem PtSt.putN (h : PtSt wo wr kd u al args w lv nv k) {nv' : Value} {x : Int} (ht : Turns nv.ownBlock.toList wr w2) (ho : OwnF (fun _ => False) (wo.heap.size + 1) w2 3 cdInt nv' (newK args w k ++ [x])) (hl : linkAt args w k = []) (hn : newAt args w k = [x]) :
    PtSt wo (w2.setCell ⟨wo.heap.size, 4, none⟩ nv') kd u al args w lv nv' (k + 1) := by
  have hn0 : wo.heap.size ∉ nv.ownBlock.toList := fun hm => by have := (h.no.block (by simpa using hm)).1; omega
  refine ⟨heap_setCell_same _ _ 4 _ _ _ ((ht.block _ h.lt hn0).trans h.blk), ?_, ?_, ?_⟩
  · rw [linksK_succ, hl, List.append_nil]
    exact (h.lo.keep ht (fun b hb hm => h.apart hb (by simpa using hm)) (by simp) (fun _ _ h => h)).keep (S := [wo.heap.size]) ((Turns.refl _ _).setCell (.inl (by simp)) _) (fun b hb => by have := (h.lo.block hb).1; simp; omega) (by simp) (fun _ _ h => h)
  · rw [newK_succ, hn]
    exact ho.keep (S := [wo.heap.size]) ((Turns.refl _ _).setCell (.inl (by simp)) _) (fun b hb => by have := (ho.block hb).1; simp; omega) (by simp) (fun _ _ h => h)
  · exact (h.below.trans (ht.below h.below.size (fun x hx => by have := (h.no.block (by simpa using hx)).1; omega))).setCell (Nat.le_refl _) _
theorem PtSt.skip (h : PtSt wo wr kd u al args w lv nv k) (hl : linkAt args w k = []) (hn : newAt args w k = []) : PtSt wo wr kd u al args w lv nv (k + 1) :=
  ⟨h.blk, by rw [linksK_succ, hl, List.append_nil]; exact h.lo, by rw [newK_succ, hn, List.append_nil]; exact h.no, h.below⟩
/-- The node's own block, where a list of its own has turned. -/
theorem PtSt.at2 (h : PtSt wo wr kd u al args w lv nv k) {v : Value} (hv : v = lv ∨ v = nv) (ht : Turns v.ownBlock.toList wr w2) : w2.cell? ⟨wo.heap.size, 3, none⟩ = some lv ∧ w2.cell? ⟨wo.heap.size, 4, none⟩ = some nv ∧ (∀ o, w2.frozen? ⟨wo.heap.size, o, none⟩ = false) ∧ wo.heap.size < w2.heap.size := by
  have hn0 : wo.heap.size ∉ v.ownBlock.toList := fun hm => by
    rcases hv with rfl | rfl
    · have := (h.lo.block (by simpa using hm)).1; omega
    · have := (h.no.block (by simpa using hm)).1; omega
  have e := (ht.block _ h.lt hn0).trans h.blk
  exact ⟨cell_of_row _ _ 3 _ _ _ e, cell_of_row _ _ 4 _ _ _ e, fun o => by simp [World.frozen?, e], lt_of_heap e⟩
end
theorem infoLnk : (Tryd.prog.info? 56).map (fun i => (i.zero, i.size, i.bytes)) = some (some (.agg #[.int .i64 0, .int .i64 0]), 2, 16) := by kernel_rfl
theorem sameV_run (n : Int) (s : Slt) : sameV n s = (s.v && (s.n == n)) := rfl

theorem Mkr.step {base g mb : Nat} {W W' : World} {S : List Nat} {st : St} {es : List Nat} (h : Mkr base g mb W S st es) (hb : Below W.heap.size W W') : Mkr base g mb W' S st es := by
  obtain ⟨av, nv, ev, rfl, hM⟩ := h
  exact ⟨av, nv, ev, rfl, hM.step hb⟩
theorem Mkr.foot {base g mb : Nat} {W : World} {S : List Nat} {st : St} {es : List Nat} (h : Mkr base g mb W S st es) : base ≤ W.heap.size ∧ ∀ x ∈ S, base ≤ x ∧ x < W.heap.size := by
  obtain ⟨av, nv, ev, rfl, hM⟩ := h
  exact ⟨by have := hM.foot_lt g mfoot_g; omega, hM.foot_lt⟩
theorem MkrTo.after {base g mb : Nat} {W W1 W2 : World} {S S1 : List Nat} {st : St} {es : List Nat} (ht : Turns S W W1) (hs : ∀ b ∈ S1, b ∈ S ∨ W.heap.size ≤ b) (h : MkrTo base g mb W1 S1 st es W2) : MkrTo base g mb W S st es W2 := by
  obtain ⟨S2, h1, h2, h3⟩ := h
  refine ⟨S2, h1, ht.trans h2 hs, fun b hb => ?_⟩
  rcases h3 b hb with h4 | h4
  · exact hs b h4
  · exact .inr (Nat.le_trans ht.size h4)

set_option maxRecDepth 200000 in
set_option maxHeartbeats 8000000 in
theorem patternW {base g mb : Nat} {W : World} {S : List Nat} {st : St} {es : List Nat} (h : Mkr base g mb W S st es) (kd : Int) (hkd : kd = 1 ∨ kd = 3) (u : Nat) (hu : u < st.ns.length) (wd : Nat) (hwd : widthAt st u = wd) (hwd2 : wd ≤ 1000)
    {F : Nat → Prop} (hFb : ∀ b, F b → b < base) (p : Pat) (v : Value) (hp : RSl F W 2 ESlt v p.args) (pok : i64ok p.pred) (h0 : 0 ≤ p.pred) (hn : ∀ s ∈ p.args, 0 ≤ s.n) (h8 : p.args.length ≤ 8) (hal : st.al.length ≤ 20000000) (hns : st.ns.length ≤ 20000000) :
    Calls Tryd.prog 43 #[.pointer (some ⟨g, 0, none⟩), .int .i64 kd, .int .i64 u, .agg #[.int .i64 p.pred, v]] W fun e W' => e = .returned (.int .i64 (patF kd (u, st) p).1) ∧ MkrTo base g mb W S (patF kd (u, st) p).2 es W' := by
  obtain ⟨A, c, rfl⟩ := hp.form
  obtain ⟨av, nv, ev, rfl, hM⟩ := h
  obtain ⟨A0, C0, rfl⟩ := hM.ns.form
  obtain ⟨nd, hnd⟩ : ∃ nd, st.ns[u]? = some nd := ⟨_, List.getElem?_eq_getElem hu⟩
  have hw : nd.width = (wd : Int) := by unfold widthAt at hwd; rw [hnd] at hwd; exact hwd
  obtain ⟨b, off, hA0, hFb0, hbs, cs, ⟨ln0, nn0, hE⟩, hc⟩ := (hM.ns.rsl (G := fun b => b < W.heap.size) (fun b hb => (hM.ns.block hb).2.1)).at hnd
  subst hA0
  have hcs := hE.cells
  subst hcs
  have c10 : W.cell? ⟨b, off + u * 11 + 10, none⟩ = some (.int .i64 wd) := by rw [← hw]; exact hc 10 _ rfl
  have x1 := hM.cell 1 rfl
  have hgl := hM.lt
  have e1 : (0 : Int) ≤ (u : Int) := by omega
  have e2 : (u : Int) < (st.ns.length : Int) := by omega
  have CM := Lib.hid (fun W' (hb : Below W.heap.size W W') => memoryW (S := mfoot g mb av (.slice (some ⟨b, off, none⟩) st.ns.length C0) ev) ⟨av, _, ev, rfl, hM.step hb⟩ p _ (hp.keep (Kp.of_below hb)) pok h0 hn (by omega) (by omega))
  have HM := Lib.hid hM
  have HP := Lib.hid hp
  have HN := Lib.hid hn
  have HWD := Lib.hid hwd
  have HND := Lib.hid hnd
  clear hM hp hn hc hE hnd hwd hw
  go_enter Tryd.func43, Tryd.ntmps43
  go_wp2_with fail
  refine (CM.out _ ((Below.refl _ _).alloc (Nat.le_refl _) _)).mono ?_
  rintro e w2 ⟨rfl, S2, hM2, hT2, hS2⟩
  obtain ⟨ai, hai⟩ : ∃ ai, placeF st.al (shapeF p) = ai := ⟨_, rfl⟩
  have HAI := Lib.hid hai
  rw [hai]
  have fl := HM.out.foot_lt
  have hW2 : W.heap.size < w2.heap.size := by have := hT2.size; simp at this; omega
  have eb : w2.heap[W.heap.size]? = some (.cells #[.int .i64 p.pred, .slice A p.args.length c] 80 (0, 0)) := (hT2.block _ (by simp) (fun hm => by have := (fl _ hm).2; omega)).trans (heap_alloc_new W _)
  have EB := Lib.hid eb
  have xp1 : w2.cell? ⟨W.heap.size, 1, none⟩ = some (.slice A p.args.length c) := cell_of_row _ _ 1 _ _ _ eb
  have KF : Kp F W w2 := (Kp.of_below ((Below.refl W.heap.size W).alloc (Nat.le_refl _) (.cells #[.int .i64 p.pred, .slice A p.args.length c] 80))).trans (Kp.of_turns hT2 (fun x hx hf => by have h1 := (fl x hx).1; have h2 := hFb x hf; omega))
  have HP2 := Lib.hid (HP.out.keep KF)
  have HM2 := Lib.hid hM2
  have HT2 := Lib.hid (((Turns.refl (mfoot g mb av (.slice (some ⟨b, off, none⟩) st.ns.length C0) ev) W).alloc (.cells #[.int .i64 p.pred, .slice A p.args.length c] 80)).trans hT2 (fun x hx => .inl hx))
  have HS2 := Lib.hid (show ∀ b' ∈ S2, b' ∈ mfoot g mb av (.slice (some ⟨b, off, none⟩) st.ns.length C0) ev ∨ W.heap.size ≤ b' from fun b' hb' => by
    rcases hS2 b' hb' with h1 | h1
    · exact .inl h1
    · exact .inr (by simp at h1; omega))
  have h80 : PtSt w2 (w2.alloc (.cells #[.int .i64 kd, .int .i64 u, .int .i64 ai, .slice none 0 0, .slice none 0 0, .int .i64 0, .bool false, .int .i64 0, .bool false, .int .i64 0, .int .i64 0] 40)) kd u ai p.args wd (.slice none 0 0) (.slice none 0 0) 0 :=
    ⟨heap_alloc_new w2 _, OwnF.nil, OwnF.nil, (Below.refl _ _).alloc (Nat.le_refl _) _⟩
  have H80 := Lib.hid h80
  clear hM2 hT2 hS2 KF eb fl hai h80 x1 c10
  go_wp2_with fail
  go_loopw [32] (fun i wr => ∃ (k : Nat) (lv nv : Value), i = .int .i64 k ∧ k ≤ p.args.length ∧ PtSt w2 wr kd u ai p.args wd lv nv k) (fun i _ => p.args.length - (intOf i).toNat)
  case atStart => exact ⟨0, _, _, rfl, Nat.zero_le _, H80.out⟩
  case round =>
    obtain ⟨k, lv, nv, rfl, hk, hP⟩ := hrel
    obtain ⟨la, lc, rfl⟩ := hP.lo.form
    obtain ⟨na, nc, rfl⟩ := hP.no.form
    have ll := linksK_len p.args (wd : Int) k
    have nl := newK_len p.args (wd : Int) k
    have hwz := hP.lt
    have yp1 : wr.cell? ⟨W.heap.size, 1, none⟩ = some (.slice A p.args.length c) := (hP.below.cell (p := ⟨W.heap.size, 1, none⟩) hW2).trans xp1
    have hWr : W.heap.size < wr.heap.size := by omega
    by_cases hkn : k < p.args.length
    · obtain ⟨s, hs⟩ : ∃ s, p.args[k]? = some s := ⟨_, List.getElem?_eq_getElem hkn⟩
      obtain ⟨b2, off2, rfl, hFb2, hbs2, cs2, ⟨rfl, sok⟩, hc2⟩ := (HP2.out.keep (Kp.of_below hP.below)).at hs
      have d0 := hc2 0 _ rfl
      have d1 := hc2 1 _ rfl
      simp only [Nat.add_zero] at d0
      have hs0 : 0 ≤ s.n := HN.out s (List.mem_of_getElem? hs)
      obtain ⟨sv, sn⟩ := s
      simp only at d0 d1 hs0 sok
      have f1 : (0 : Int) ≤ (k : Int) := by omega
      have f2 : (k : Int) < (p.args.length : Int) := by omega
      have CI := Lib.hid (fun W' (hb : Below (wr.heap.size + 1) (wr.alloc (.cells #[.bool sv, .int .i64 sn] 36)) W') => indexFunc_pattern _ p.args wr.heap.size (sameV sn) W' ((HP2.out.keep (Kp.of_below hP.below)).keep (Kp.of_below (box_below hb)))
        (fun t _ W'' hb'' => pattern1W t sn wr.heap.size W'' ((hb''.cell (p := ⟨wr.heap.size, 1, none⟩) (by have := hb.size; simp at this; exact this)).trans (box_cell hb 1 _ rfl)) (by have h1 := hb.size; have h2 := hb''.size; simp at h1; omega)))
      have HX := Lib.hid hP
      have HS := Lib.hid hs
      have HK := Lib.hid hkn
      clear hc2 hs hkn hP
      go_wp2_with fail
      refine (CI.out _ (Below.refl _ _)).mono ?_
      rintro e w3 ⟨rfl, hb3⟩
      have HX3 := HX.out.step (((Below.refl wr.heap.size wr).alloc (Nat.le_refl _) (.cells #[.bool sv, .int .i64 sn] 36)).trans (hb3.mono (by simp)))
      have z0 := box_cell (hb3.mono (show wr.heap.size + 1 ≤ _ by simp)) 0 _ rfl
      have z1 := box_cell (hb3.mono (show wr.heap.size + 1 ≤ _ by simp)) 1 _ rfl
      have q3 : w3.cell? ⟨w2.heap.size, 3, none⟩ = some (.slice la (linksK p.args wd k).length lc) := cell_of_row _ _ 3 _ _ _ HX3.blk
      have q4 : w3.cell? ⟨w2.heap.size, 4, none⟩ = some (.slice na (newK p.args wd k).length nc) := cell_of_row _ _ 4 _ _ _ HX3.blk
      have hw3 := HX3.lt
      have hw4 : wr.heap.size < w3.heap.size := by have := hb3.size; simp at this; omega
      have HX3' := Lib.hid HX3
      have hbase2 : w2.heap.size + 1 ≤ w3.heap.size := by omega
      clear hb3 HX3 d0 d1
      cases sv with
      | false =>
        have hl : linkAt p.args (wd : Int) k = [] := by unfold linkAt; rw [HS.out]; simp
        have hnn : newAt p.args (wd : Int) k = [] := by unfold newAt; rw [HS.out]; simp
        have N1 := Lib.hid (HX3'.out.skip hl hnn)
        clear hl hnn
        go_wp2
        exact ⟨⟨k + 1, _, _, by go_num, HK.out, N1.out⟩, by simp [intOf]; have := HK.out; omega⟩
      | true =>
        rw [idxI_first HS.out]
        by_cases hf : firstV p.args sn = k
        · have hf2 : (((firstV p.args sn : Nat) : Int) == (k : Int)) = true := by simp; omega
          by_cases hlt : sn < (wd : Int)
          · have hl : linkAt p.args (wd : Int) k = [((k : Int), sn)] := by unfold linkAt; rw [HS.out]; simp [hf, hlt]
            have hnn : newAt p.args (wd : Int) k = [] := by unfold newAt; rw [HS.out]; simp [hlt]
            have HL := Lib.hid (And.intro hl hnn)
            have OKL := Lib.hid (And.intro (okNat (k := k) (by omega)) sok)
            clear hl hnn hf
            go_wp2_with (at_builtin; refine wpList_append_F HX3'.out.lo (fun _ _ h => h) rfl (.tmp 63) (.tmp 68) 34 rfl Tryd.underlying34 infoLnk rfl (by decide) rfl #[.int .i64 k, .int .i64 sn] _ rfl rfl (x := ((k : Int), sn)) ⟨rfl, OKL.out⟩ (by omega) (by decide) hbase2 ?_; intro g' cap w4 ho ht hat hlt4; obtain ⟨t1, t2, t3, t4⟩ := HX3'.out.at2 (.inl rfl) ht; have N1 := Lib.hid (HX3'.out.putL ht (ho _ (fun _ _ h => h)) HL.out.1 HL.out.2); clear ho ht hat hlt4)
            exact ⟨⟨k + 1, _, _, by go_num, HK.out, N1.out⟩, by simp [intOf]; have := HK.out; omega⟩
          · have hl : linkAt p.args (wd : Int) k = [] := by unfold linkAt; rw [HS.out]; simp [hlt]
            have hnn : newAt p.args (wd : Int) k = [(k : Int)] := by unfold newAt; rw [HS.out]; simp [hf]; omega
            have HL := Lib.hid (And.intro hl hnn)
            have OKL := Lib.hid (okNat (k := k) (by omega))
            clear hl hnn hf
            go_wp2_with (at_builtin; refine wpList_append_F HX3'.out.no (fun _ _ h => h) rfl (.tmp 44) (.tmp 46) 24 rfl Tryd.underlying24 infoIntR rfl (by decide) rfl #[.int .i64 k] _ rfl rfl (x := (k : Int)) ⟨rfl, OKL.out⟩ (by omega) (by decide) hbase2 ?_; intro g' cap w4 ho ht hat hlt4; obtain ⟨t1, t2, t3, t4⟩ := HX3'.out.at2 (.inr rfl) ht; have N1 := Lib.hid (HX3'.out.putN ht (ho _ (fun _ _ h => h)) HL.out.1 HL.out.2); clear ho ht hat hlt4)
            exact ⟨⟨k + 1, _, _, by go_num, HK.out, N1.out⟩, by simp [intOf]; have := HK.out; omega⟩
        · have hf2 : (((firstV p.args sn : Nat) : Int) == (k : Int)) = false := by simp; omega
          have hl : linkAt p.args (wd : Int) k = [] := by unfold linkAt; rw [HS.out]; simp [hf]
          have hnn : newAt p.args (wd : Int) k = [] := by unfold newAt; rw [HS.out]; simp [hf]
          have N1 := Lib.hid (HX3'.out.skip hl hnn)
          clear hl hnn hf
          go_wp2
          exact ⟨⟨k + 1, _, _, by go_num, HK.out, N1.out⟩, by simp [intOf]; have := HK.out; omega⟩
    · obtain rfl : k = p.args.length := by omega
      have q0 := cell_of_row _ _ 0 _ _ _ hP.blk
      have q1 := cell_of_row _ _ 1 _ _ _ hP.blk
      have q2 := cell_of_row _ _ 2 _ _ _ hP.blk
      have q3 := cell_of_row _ _ 3 _ _ _ hP.blk
      have q4 := cell_of_row _ _ 4 _ _ _ hP.blk
      have q5 := cell_of_row _ _ 5 _ _ _ hP.blk
      have q6 := cell_of_row _ _ 6 _ _ _ hP.blk
      have q7 := cell_of_row _ _ 7 _ _ _ hP.blk
      have q8 := cell_of_row _ _ 8 _ _ _ hP.blk
      have q9 := cell_of_row _ _ 9 _ _ _ hP.blk
      have q10 := cell_of_row _ _ 10 _ _ _ hP.blk
      simp only [List.getElem?_toArray, List.getElem?_cons_zero, List.getElem?_cons_succ] at q0 q1 q2 q3 q4 q5 q6 q7 q8 q9 q10
      have fz : ∀ o, wr.frozen? ⟨w2.heap.size, o, none⟩ = false := fun o => by have := hP.blk; simp [World.frozen?, this]
      obtain ⟨L, hLd⟩ : ∃ L, linksK p.args (wd : Int) p.args.length = L := ⟨_, rfl⟩
      obtain ⟨M, hMd⟩ : ∃ M, newK p.args (wd : Int) p.args.length = M := ⟨_, rfl⟩
      have hno : nodeOf st kd u p = ⟨kd, u, ai, L, M, noTst, (wd : Int) + M.length⟩ := by
        unfold nodeOf
        rw [HWD.out, HAI.out, hLd, hMd]
      have hLok : ∀ l ∈ L, i64ok l.1 ∧ i64ok l.2 := fun l hl => by
        rw [← hLd] at hl
        obtain ⟨i, s, hi, hs, rfl⟩ := linksK_mem hl
        obtain ⟨_, _, _, _, _, cs', ⟨_, ok'⟩, _⟩ := HP2.out.at hs
        exact ⟨okNat (by omega), ok'⟩
      have hMok : ∀ x ∈ M, i64ok x := fun x hx => by
        rw [← hMd] at hx
        obtain ⟨i, hi, rfl⟩ := newK_mem hx
        exact okNat (by omega)
      have bW : Below w2.heap.size w2 (wr.setCell ⟨w2.heap.size, 10, none⟩ (.int .i64 ((wd : Int) + M.length))) := hP.below.setCell (Nat.le_refl _) _
      have hM3 := HM2.out.step bW
      have ft := HM2.out.foot
      have K : Kp (fun b => w2.heap.size < b) wr (wr.setCell ⟨w2.heap.size, 10, none⟩ (.int .i64 ((wd : Int) + M.length))) := ⟨by simp, fun b _ hb => Below.heap_setCell _ _ _ _ (by simp; omega)⟩
      have hoff : ∀ b, b < wr.heap.size → w2.heap.size < b → Off base S2 b := fun b _ hb => ⟨by omega, fun hm => by have := (ft.2 b hm).2; omega⟩
      have rl := (hP.lo.rsl (G := fun b => w2.heap.size < b) (fun b hb => by have := (hP.lo.block hb).1; omega)).kp K hoff (fun _ _ h => h)
      have rn := (hP.no.rsl (G := fun b => w2.heap.size < b) (fun b hb => by have := (hP.no.block hb).1; omega)).kp K hoff (fun _ _ h => h)
      rw [hLd] at rl ll q3
      rw [hMd] at rn nl q4
      have k1 : i64ok kd := WalkArith.wf_i64 (by omega)
      have k2 : i64ok ((wd : Int) + (M.length : Int)) := WalkArith.wf_i64 (by omega)
      have k3 : ai ≤ st.al.length := by
        have h1 := HAI.out
        rw [← h1]
        by_cases hm : shapeF p ∈ st.al
        · exact Nat.le_of_lt (placeF_lt hm).1
        · rw [placeF_none hm]; exact Nat.le_refl _
      have hN : NdOk ⟨kd, u, ai, L, M, noTst, (wd : Int) + M.length⟩ := ⟨⟨k1, okNat (by omega), okNat (by omega), k2, ok0, ok0, ok0⟩, hLok, hMok, by simp only; omega, by simp only; omega⟩
      have EN : ENd (Off base S2) (wr.setCell ⟨w2.heap.size, 10, none⟩ (.int .i64 ((wd : Int) + M.length))) [.int .i64 kd, .int .i64 u, .int .i64 ai, .slice la L.length lc, .slice na M.length nc, .int .i64 0, .bool false, .int .i64 0, .bool false, .int .i64 0, .int .i64 ((wd : Int) + M.length)] ⟨kd, u, ai, L, M, noTst, (wd : Int) + M.length⟩ (.slice la L.length lc) (.slice na M.length nc) :=
        ⟨rfl, hN.ints, rl, rn⟩
      have CN := Lib.hid (nodeW hM3 ⟨kd, u, ai, L, M, noTst, (wd : Int) + M.length⟩ EN hN (by rcases hkd with rfl | rfl <;> (simp only; decide)) (by simp only; omega))
      have HNO := Lib.hid hno
      have BW := Lib.hid bW
      clear k1 k2 k3 hno hLok hMok bW hM3 K hoff rl rn hN EN hP hLd hMd
      go_wp2_with fail
      refine CN.out.mono ?_
      rintro e w5 ⟨rfl, hT⟩
      go_wp2
      go_ret
      refine ⟨ret_i64 (by simp only [patF]; rw [HNO.out]), ?_⟩
      have := MkrTo.after ((HT2.out.trans (Turns.of_below (S := []) BW.out) (by simp))) HS2.out hT
      simp only [patF]
      rw [HNO.out]
      exact this
end Go.Proofs.YtonkbjdeaneicaaDoor

namespace Go.Proofs.YtonkbjdeaneicaaDoor.Pln
open Classical

/-- Behind the first i conditions. -/
noncomputable def upTo (st : St) (r : Rl) (i : Nat) : Nat × St := ((conds r).take i).foldl stepF (0, st)
theorem upTo_zero (st : St) (r : Rl) : upTo st r 0 = (0, st) := rfl
theorem upTo_succ (st : St) {r : Rl} {i : Nat} {c : Cnd} (h : (conds r)[i]? = some c) : upTo st r (i + 1) = stepF (upTo st r i) c := by
  unfold upTo
  rw [List.take_add_one, h, List.foldl_append]
  rfl
theorem upTo_all (st : St) (r : Rl) : upTo st r (r.pos.length + r.tests.length + r.neg.length) = ruleF st r := by
  unfold upTo
  rw [← conds_len, List.take_length, ruleF_conds]
theorem cond_pos {r : Rl} {j : Nat} {p : Pat} (h : r.pos[j]? = some p) : (conds r)[j]? = some ⟨1, p, noTst⟩ := by
  unfold conds
  have hl := (List.getElem?_eq_some_iff.1 h).1
  rw [List.getElem?_append_left (by simp; omega), List.getElem?_append_left (by simpa using hl), List.getElem?_map, h]
  rfl
theorem cond_test {r : Rl} {j : Nat} {t : Tst} (h : r.tests[j]? = some t) : (conds r)[r.pos.length + j]? = some ⟨2, noPat, t⟩ := by
  unfold conds
  have hl := (List.getElem?_eq_some_iff.1 h).1
  rw [List.getElem?_append_left (by simp; omega), List.getElem?_append_right (by simp), List.length_map, Nat.add_sub_cancel_left, List.getElem?_map, h]
  rfl
theorem cond_neg {r : Rl} {j : Nat} {p : Pat} (h : r.neg[j]? = some p) : (conds r)[r.pos.length + r.tests.length + j]? = some ⟨3, p, noTst⟩ := by
  unfold conds
  rw [List.getElem?_append_right (by simp), List.getElem?_map]
  have e : r.pos.length + r.tests.length + j - (r.pos.map (fun p => (⟨1, p, noTst⟩ : Cnd)) ++ r.tests.map (fun t => (⟨2, noPat, t⟩ : Cnd))).length = j := by simp
  rw [e, h]
  rfl
theorem okCs_at : ∀ (cs : List Cnd) (w : Nat), okCs w cs → ∀ c ∈ cs, ∃ w', okC w' c
  | [], _, _, c, h => by cases h
  | d :: l, w, ⟨h1, h2⟩, c, h => by
    rcases List.mem_cons.1 h with rfl | h
    · exact ⟨w, h1⟩
    · exact okCs_at l _ h2 c h
theorem fold_width : ∀ (cs : List Cnd) (x : Nat × St) (w : Nat), okCs w cs → (∀ c ∈ cs, c.p.args.length ≤ 8) → x.1 < x.2.ns.length → widthAt x.2 x.1 = (w : Int) →
    ∃ w' : Nat, widthAt (cs.foldl stepF x).2 (cs.foldl stepF x).1 = (w' : Int) ∧ w' ≤ w + 8 * cs.length
  | [], x, w, _, _, _, hw => ⟨w, hw, by simp⟩
  | c :: r, x, w, ⟨h1, h2⟩, h8, hx, hw => by
    obtain ⟨s1, s2, s3, s4⟩ := stepF_facts x c hx
    have hE := ext_stepF x c
    have hw2 : widthAt (stepF x c).2 x.1 = (w : Int) := by rw [hE.width hx]; exact hw
    have e : widthAt (stepF x c).2 (stepF x c).1 = (nextW w c : Int) := by
      unfold widthAt
      rw [s3, (placeF_lt s2).2]
      exact nodeC_width h1 hw2
    obtain ⟨w', i1, i2⟩ := fold_width r (stepF x c) _ h2 (fun d hd => h8 d (List.mem_cons_of_mem _ hd)) s4 e
    refine ⟨w', i1, Nat.le_trans i2 ?_⟩
    have h3 : nextW w c ≤ w + 8 := by
      unfold nextW
      split
      · have := scanD_len c.p.args w
        have := h8 c (List.mem_cons_self ..)
        omega
      · omega
    simp only [List.length_cons]
    omega
theorem fold_len : ∀ (cs : List Cnd) (x : Nat × St), (cs.foldl stepF x).2.ns.length ≤ x.2.ns.length + cs.length ∧ (cs.foldl stepF x).2.al.length ≤ x.2.al.length + cs.length
  | [], x => by simp
  | c :: r, x => by
    obtain ⟨i1, i2⟩ := fold_len r (stepF x c)
    rw [List.foldl_cons]
    have h : (stepF x c).2.ns.length ≤ x.2.ns.length + 1 ∧ (stepF x c).2.al.length ≤ x.2.al.length + 1 := by
      unfold stepF
      split
      · obtain ⟨q, h1, h2⟩ := addF_pre x.2.ns (testOf x.2 x.1 c.t)
        refine ⟨?_, by simp [tstF]⟩
        show (addF _ _).length ≤ _
        rw [h1, List.length_append]; omega
      · obtain ⟨q, h1, h2⟩ := addF_pre x.2.ns (nodeOf x.2 c.kind x.1 c.p)
        obtain ⟨q', h3, h4⟩ := addF_pre x.2.al (shapeF c.p)
        refine ⟨?_, ?_⟩
        · show (addF _ _).length ≤ _
          rw [h1, List.length_append]; omega
        · show (addF _ _).length ≤ _
          rw [h3, List.length_append]; omega
    simp only [List.length_cons]
    omega
theorem okCs_take : ∀ (cs : List Cnd) (w i : Nat), okCs w cs → okCs w (cs.take i)
  | [], _, i, _ => by simp [okCs]
  | c :: r, w, 0, _ => trivial
  | c :: r, w, i + 1, ⟨h1, h2⟩ => ⟨h1, okCs_take r _ i h2⟩
theorem Fit.args8 {r : Rl} {w : Nat} (h : Fit r w) : ∀ c ∈ conds r, c.p.args.length ≤ 8 := by
  intro c hc
  unfold conds at hc
  rcases List.mem_append.1 hc with hc | hc
  · rcases List.mem_append.1 hc with hc | hc
    · obtain ⟨p, hp, rfl⟩ := List.mem_map.1 hc
      exact (h.pats p hp).2
    · obtain ⟨t, ht, rfl⟩ := List.mem_map.1 hc
      simp [noPat]
  · obtain ⟨p, hp, rfl⟩ := List.mem_map.1 hc
    exact (h.ngs p hp).2.1
/-- What holds behind the first i conditions of a rule that fits. -/
theorem upTo_facts {st : St} (hwf : Wf st) {r : Rl} {w : Nat} (h : Fit r w) {i : Nat} (hi : i ≤ r.pos.length + r.tests.length + r.neg.length) :
    (upTo st r i).1 < (upTo st r i).2.ns.length ∧ (∃ w' : Nat, widthAt (upTo st r i).2 (upTo st r i).1 = (w' : Int) ∧ w' ≤ 128) ∧ (upTo st r i).2.ns.length ≤ st.ns.length + 16 ∧ (upTo st r i).2.al.length ≤ st.al.length + 16 := by
  have hl : ((conds r).take i).length ≤ 16 := by
    rw [List.length_take, conds_len]
    have := h.many
    omega
  have w0 : widthAt st 0 = ((0 : Nat) : Int) := by unfold widthAt; rw [hwf.root]; rfl
  obtain ⟨w', h1, h2⟩ := fold_width ((conds r).take i) (0, st) 0 (okCs_take _ _ _ h.okCs) (fun c hc => h.args8 c (List.mem_of_mem_take hc)) hwf.len w0
  obtain ⟨h3, h4⟩ := fold_len ((conds r).take i) (0, st)
  refine ⟨(stands_fold ((conds r).take i) (0, st) hwf.len).2.2, ⟨w', h1, by omega⟩, ?_, ?_⟩
  · exact Nat.le_trans h3 (by simp only; omega)
  · exact Nat.le_trans h4 (by simp only; omega)
theorem comp_len (rs : List Rl) (hf : ∀ r ∈ rs, mayP r) : ∀ k, k ≤ rs.length → (compF (rs.take k)).1.ns.length ≤ 1 + 16 * k ∧ (compF (rs.take k)).1.al.length ≤ 16 * k
  | 0, _ => by simp [compF]
  | k + 1, hk => by
    obtain ⟨i1, i2⟩ := comp_len rs hf k (by omega)
    have hr : rs[k]? = some rs[k] := List.getElem?_eq_getElem (by omega)
    obtain ⟨w, hw⟩ := hf rs[k] (List.getElem_mem _)
    obtain ⟨_, _, h3, h4⟩ := upTo_facts (made_comp (rs.take k)).wf hw (Nat.le_refl _)
    rw [upTo_all] at h3 h4
    rw [comp_take_succ hr]
    simp only [endF]
    omega
end Go.Proofs.YtonkbjdeaneicaaDoor.Pln
