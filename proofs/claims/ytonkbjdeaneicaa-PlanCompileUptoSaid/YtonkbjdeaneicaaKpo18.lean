/- A region that draws its order, whose own operations only read, and whose callees lay new blocks: one walk of the text's order serves every order. Over any program. The reference's Maker: alpha. The reference's Maker: node. -/
import Derived.Test.YtonkbjdeaneicaaKpo17
import Derived.Below
import Derived.BigQuiet
import Derived.WalkKit
namespace Go.Proofs.Ytonkbjdeaneicaa
open Go Go.RowKit

/-- A world of the class. -/
structure Pt (S : World → Prop) where
  val : World
  property : S val

theorem wp_region_class {P : Program} {S : World → Prop} {id : Nat} {Q : Exit → Act → World → Prop} {a : Act} {w : World} {l : List Oper} (hS : S w.drew) (hm : P.follows .mixedOrders = true) (hB : Region.lexB .any l.toArray = true)
    (h : wpQuiet P l.toArray (fun w' => ∃ p : Pt S, w' = p.val) (fun a' => ∀ w', (∃ p : Pt S, w' = p.val) → Q .normal a' w') l a) : (Code.region id l.toArray true).wp P Q a w :=
  wp_region_quiet (C := fun w' => ∃ p : Pt S, w' = p.val) hm hB ⟨⟨_, hS⟩, rfl⟩ (by simpa using h)
end Go.Proofs.Ytonkbjdeaneicaa

namespace Go.Proofs.Ytonkbjdeaneicaa
open Go.RowKit Pln Classical Go.Maps

set_option maxRecDepth 200000 in
set_option maxHeartbeats 4000000 in
theorem ralphaW {base g : Nat} {W : World} {S : List Nat} {st : St} {es : List Nat} (h : RMkr base g W S st es) {F : Nat → Prop} (p : Pat) (v : Value) (hp : RSl F W 2 ESlt v p.args) (pok : i64ok p.pred) (hS : p.args.length ≤ 1048576) (hlen : st.al.length ≤ 30000000) :
    Calls Try.prog 47 #[.pointer (some ⟨g, 0, none⟩), .agg #[.int .i64 p.pred, v]] W fun e W' => e = .returned (.int .i64 (placeF st.al (shapeF p) : Nat)) ∧ RMkrTo base g W S ⟨addF st.al (shapeF p), st.ns⟩ es W' := by
  obtain ⟨av, nv, ev, rfl, hM⟩ := h
  have CS := Lib.hid (fun W' (hb : Below W.heap.size W W') => rshapeW p v W' (hp.keep (Kp.of_below hb)) hS)
  obtain ⟨A, c, rfl⟩ := hp.form
  obtain ⟨A0, C0, rfl⟩ := hM.al.form
  obtain ⟨sh, hsh⟩ : ∃ sh, shapeF p = sh := ⟨_, rfl⟩
  have HSC := Lib.hid (show p.args.map (cellF p.args) = sh.cells by rw [← hsh]; rfl)
  have HSP := Lib.hid (show sh.pred = p.pred by rw [← hsh]; rfl)
  rw [hsh]
  have HM := Lib.hid hM
  have POK := Lib.hid pok
  clear hM hp hsh pok
  have h1 : Below W.heap.size W (W.alloc (.cells #[.int .i64 p.pred, .slice A p.args.length c] 34)) := (Below.refl _ _).alloc (Nat.le_refl _) _
  have H1 := Lib.hid h1
  clear h1
  go_enter Try.func47, Try.ntmps47
  go_wp2_with fail
  refine (CS.out _ H1.out).mono ?_
  rintro e w2 ⟨cv, rfl, hcv, hb2⟩
  rw [HSC.out] at hcv
  obtain ⟨ca, cc, rfl⟩ := hcv.form
  have HB2 := Lib.hid (H1.out.trans (hb2.mono (by simp)))
  have HCV := Lib.hid (hcv.kp (F' := fun b => W.heap.size ≤ b) (Kp.refl _ _) (fun b _ hb => by simp at hb; omega) (fun _ _ h => h))
  clear hcv hb2 CS H1
  have hWw := HB2.out.size
  have y0' := (HM.out.step (HB2.out.trans (((Below.refl _ _).alloc (Nat.le_refl _) (.cells #[.int .i64 p.pred, .slice ca sh.cells.length cc] 79)).mono hWw))).cell 0 rfl
  go_wp2_with fail
  go_loopw [6] (fun i wr => ∃ k : Nat, i = .int .i64 k ∧ k ≤ st.al.length ∧ (∀ j, j < k → st.al[j]? ≠ some sh) ∧ Below (w2.heap.size + 1) (w2.alloc (.cells #[.int .i64 p.pred, .slice ca sh.cells.length cc] 79)) wr) (fun i _ => st.al.length - (intOf i).toNat)
  case atStart => exact ⟨0, rfl, Nat.zero_le _, fun j h => by omega, Below.refl _ _⟩
  case round =>
    obtain ⟨k, rfl, hk, hq, hb⟩ := hrel
    clear y0'
    have hBW := HB2.out.trans ((box_below hb).mono hWw)
    have hMr := HM.out.step hBW
    have y0 := hMr.cell 0 rfl
    by_cases hkn : k < st.al.length
    · obtain ⟨a, ha⟩ : ∃ a, st.al[k]? = some a := ⟨_, List.getElem?_eq_getElem hkn⟩
      obtain ⟨b, off, hAA, -, hbl, cs, ⟨av, rfl, -, hac⟩, hc⟩ := RSl.at (hMr.al.rsl (G := fun b => b < wr.heap.size) (fun b hb => (hMr.al.block hb).2.1)) ha
      subst hAA
      obtain ⟨A1, C1, rfl⟩ := hac.form
      have CE := Lib.hid (fun W' (hx : Below wr.heap.size wr W') => requalShapeW a sh _ _ W' (hac.keep (Kp.of_below hx)) ((HCV.out.keep (Kp.of_below (box_below hb))).keep (Kp.of_below hx)))
      rw [HSP.out] at CE
      obtain ⟨S, hSe⟩ : ∃ S, S = fun Wx => Below wr.heap.size wr Wx := ⟨_, rfl⟩
      have bn := fun (p : Pt S) => (congrFun hSe p.val).mp p.property
      have q0 := fun (p : Pt S) => (hMr.step (bn p)).cell 0 rfl
      have x0 := fun (p : Pt S) => ((bn p).cell (p := ⟨b, off + k * 2 + 0, none⟩) hbl).trans (hc 0 _ rfl)
      have x1 := fun (p : Pt S) => ((bn p).cell (p := ⟨b, off + k * 2 + 1, none⟩) hbl).trans (hc 1 _ rfl)
      have z0 := fun (p : Pt S) => box_cellL (box_step hb (bn p)) 0 rfl
      have z1 := fun (p : Pt S) => box_cellL (box_step hb (bn p)) 1 rfl
      simp only [Nat.add_zero] at x0
      have NE : Nonempty (Pt S) := ⟨⟨wr, (congrFun hSe wr).mpr (Below.refl _ _)⟩⟩
      have HDD := Lib.hid ((congrFun hSe wr.drew).mpr (Below.refl _ _).drew)
      have SE := Lib.hid hSe
      have KPP := Lib.hid bn
      have e1 : (0 : Int) ≤ (k : Int) := by omega
      have e2 : (k : Int) < (st.al.length : Int) := by omega
      have HA := Lib.hid ha
      have HQ := Lib.hid hq
      have HK := Lib.hid hkn
      have HB := Lib.hid hb
      have HBW := Lib.hid hBW
      clear hc ha hq hkn hb hac hMr bn hSe hBW
      by_cases has : a = sh
      · rw [decide_eq_true has] at CE
        have hpl := Lib.hid (placeF_at (has ▸ HA.out) HQ.out)
        have hadd := Lib.hid (show addF st.al sh = st.al by unfold addF; rw [if_pos (List.mem_of_getElem? (has ▸ HA.out))])
        clear has
        go_wp2_with fail
        refine wp_region_class (S := S) HDD.out (by kernel_rfl) (by kernel_rfl) ?_
        repeat (go_big_quiet_step ((go_at_call 34; refine (CE.out _ (KPP.out _)).mono ?_; rintro e w' ⟨rfl, hbel⟩; exact ⟨rfl, ⟨w', (congrFun SE.out w').mpr ((KPP.out _).trans (hbel.mono (KPP.out _).size))⟩, rfl⟩)))
        refine wpQuiet_nil ?_
        rintro wq ⟨⟨_, hW⟩, rfl⟩
        have HF := Lib.hid ((congrFun SE.out wq).mp hW)
        clear q0 x0 x1 z0 z1 NE hW
        go_wp2
        go_ret
        have BF := HBW.out.trans (HF.out.mono HBW.out.size)
        refine ⟨by rw [hpl.out]; rfl, _, ⟨_, _, _, rfl, ?_⟩, Turns.of_below BF, fun b hb => .inl hb⟩
        rw [hadd.out]
        exact HM.out.step BF
      · rw [decide_eq_false has] at CE
        have HQ2 := Lib.hid (show ∀ j, j < k + 1 → st.al[j]? ≠ some sh from fun j hj => by
          rcases Nat.lt_or_ge j k with h1 | h1
          · exact HQ.out j h1
          · rw [show j = k by omega, HA.out]
            exact fun e => has (Option.some.inj e))
        clear has
        go_wp2_with fail
        refine wp_region_class (S := S) HDD.out (by kernel_rfl) (by kernel_rfl) ?_
        repeat (go_big_quiet_step ((go_at_call 34; refine (CE.out _ (KPP.out _)).mono ?_; rintro e w' ⟨rfl, hbel⟩; exact ⟨rfl, ⟨w', (congrFun SE.out w').mpr ((KPP.out _).trans (hbel.mono (KPP.out _).size))⟩, rfl⟩)))
        refine wpQuiet_nil ?_
        rintro wq ⟨⟨_, hW⟩, rfl⟩
        have HF := Lib.hid (box_step HB.out ((congrFun SE.out wq).mp hW))
        clear q0 x0 x1 z0 z1 NE hW
        go_wp2
        exact ⟨⟨k + 1, by go_num, HK.out, HQ2.out, HF.out⟩, by simp [intOf]; have := HK.out; omega⟩
    · obtain rfl : k = st.al.length := by omega
      have hno : sh ∉ st.al := fun hm => by
        obtain ⟨h1, h2⟩ := placeF_lt hm
        exact hq _ h1 h2
      have hadd := Lib.hid (show addF st.al sh = st.al ++ [sh] by unfold addF; rw [if_neg hno])
      have hpl := Lib.hid (placeF_none hno)
      have BW := Lib.hid hBW
      have HMR := Lib.hid hMr
      have hgr := hMr.lt
      have z0 := box_cellL hb 0 rfl
      have z1 := box_cellL hb 1 rfl
      have HCVr := Lib.hid (HCV.out.kp (F' := Off base (rfoot g (.slice A0 st.al.length C0) nv ev)) (Kp.of_below (box_below hb)) (fun b _ hb => ROff_new HM.out hb) (fun _ _ h => h))
      have PK := Lib.hid (show i64ok sh.pred by rw [HSP.out]; exact POK.out)
      have hbase : base ≤ wr.heap.size := by have := (HM.out.foot_lt g rfoot_g).1; omega
      clear hMr hq hno hkn hb hBW
      go_wp2
      go_region_law (refine step_append_F HMR.out.al (fun b hb hf => hf.2 (by simp [rfoot, hb])) (by rfl) (.tmp 35) (.tmp 37) 23 (by rfl) Try.underlying23 infoShpR rfl (by decide) (by rfl) #[.int .i64 p.pred, .slice ca sh.cells.length cc] _ (by rfl) rfl (x := sh) ⟨_, by rw [HSP.out], PK.out, HCVr.out⟩ (by omega) (by decide) hbase ?_; intro g' cap w3 ho ht hat hlt3; have hgn := (HMR.out.apart).1; have e3 := (ht.block g HMR.out.lt (fun hm => (hgn g (by simpa using hm)).1 rfl)).trans HMR.out.blk; have q1 := rboxL e3 0 rfl; have q2 : ∀ o, w3.frozen? ⟨g, o, none⟩ = false := (fun o => by simp [World.frozen?, e3]); have q3 := lt_of_heap e3; have GR := Lib.hid (HMR.out.grow_al ho ht hat); clear ho ht hat hlt3 hgn e3)
      all_goals
        have q0 : (w3.setCell ⟨g, 0, none⟩ (.slice (some ⟨g', 0, none⟩) (st.al.length + 1) cap)).cell? ⟨g, 0, none⟩ = some (.slice (some ⟨g', 0, none⟩) (st.al.length + 1) cap) := GR.out.1.cell 0 rfl
        clear q1 q2 y0 z0 z1
        go_wp2
        go_ret
        refine ⟨ret_i64 (by rw [hpl.out]), rfoot g (.slice (some ⟨g', 0, none⟩) (st.al.length + 1) cap) nv ev, ⟨.slice (some ⟨g', 0, none⟩) (st.al.length + 1) cap, nv, ev, rfl, ?_⟩, ?_, ?_⟩
        · rw [hadd.out]
          exact GR.out.1
        · exact (Turns.of_below (S := rfoot g (.slice A0 st.al.length C0) nv ev) BW.out).trans GR.out.2.1 (fun x hx => .inl hx)
        · intro b hb
          rcases GR.out.2.2 b hb with h1 | h1
          · exact .inl h1
          · exact .inr (Nat.le_trans BW.out.size h1)
end Go.Proofs.Ytonkbjdeaneicaa

namespace Go.Proofs.Ytonkbjdeaneicaa
open Go.RowKit Pln Classical Go.Maps

set_option maxRecDepth 200000 in
set_option maxHeartbeats 8000000 in
theorem rnodeW {base g : Nat} {W : World} {S : List Nat} {st : St} {es : List Nat} (h : RMkr base g W S st es) {cs : List Value} {lv nv : Value} (n : Nd) (hn : ENd (Off base S) W cs n lv nv) (hlen : st.ns.length ≤ 30000000) :
    Calls Try.prog 27 #[.pointer (some ⟨g, 0, none⟩), .agg #[.int .i64 n.kind, .int .i64 n.parent, .int .i64 n.alpha, lv, nv, .int .i64 n.test.op, .bool n.test.l.v, .int .i64 n.test.l.n, .bool n.test.r.v, .int .i64 n.test.r.n, .int .i64 n.width]] W fun e W' => e = .returned (.int .i64 (placeF st.ns n : Nat)) ∧ RMkrTo base g W S ⟨st.al, addF st.ns n⟩ es W' := by
  obtain ⟨av, nv0, ev, rfl, hM⟩ := h
  have hcs := hn.cells
  subst hcs
  obtain ⟨la, lc, rfl⟩ := hn.links.form
  obtain ⟨na, nc, rfl⟩ := hn.new.form
  obtain ⟨A0, C0, rfl⟩ := hM.ns.form
  have HN := Lib.hid hn
  have HM := Lib.hid hM
  have h1 : Below (W.heap.size + 1) (W.alloc (.cells #[.int .i64 n.kind, .int .i64 n.parent, .int .i64 n.alpha, .slice la n.links.length lc, .slice na n.new.length nc, .int .i64 n.test.op, .bool n.test.l.v, .int .i64 n.test.l.n, .bool n.test.r.v, .int .i64 n.test.r.n, .int .i64 n.width] 54)) (W.alloc (.cells #[.int .i64 n.kind, .int .i64 n.parent, .int .i64 n.alpha, .slice la n.links.length lc, .slice na n.new.length nc, .int .i64 n.test.op, .bool n.test.l.v, .int .i64 n.test.l.n, .bool n.test.r.v, .int .i64 n.test.r.n, .int .i64 n.width] 54)) := Below.refl _ _
  have H1 := Lib.hid h1
  have y0' := (HM.out.step (box_below h1)).cell 1 rfl
  clear hM hn h1
  go_enter Try.func27, Try.ntmps27
  go_wp2_with fail
  go_loopw [5] (fun i wr => ∃ k : Nat, i = .int .i64 k ∧ k ≤ st.ns.length ∧ (∀ j, j < k → st.ns[j]? ≠ some n) ∧ Below (W.heap.size + 1) (W.alloc (.cells #[.int .i64 n.kind, .int .i64 n.parent, .int .i64 n.alpha, .slice la n.links.length lc, .slice na n.new.length nc, .int .i64 n.test.op, .bool n.test.l.v, .int .i64 n.test.l.n, .bool n.test.r.v, .int .i64 n.test.r.n, .int .i64 n.width] 54)) wr) (fun i _ => st.ns.length - (intOf i).toNat)
  case atStart => exact ⟨0, rfl, Nat.zero_le _, fun j h => by omega, H1.out⟩
  case round =>
    obtain ⟨k, rfl, hk, hq, hb⟩ := hrel
    clear y0'
    have hBW := box_below hb
    have hMr := HM.out.step hBW
    have y0 := hMr.cell 1 rfl
    by_cases hkn : k < st.ns.length
    · obtain ⟨a, ha⟩ : ∃ a, st.ns[k]? = some a := ⟨_, List.getElem?_eq_getElem hkn⟩
      obtain ⟨b, off, hAA, -, hbl, cs, ⟨lv, mv, hE⟩, hc⟩ := RSl.at (hMr.ns.rsl (G := fun b => b < wr.heap.size) (fun b hb => (hMr.ns.block hb).2.1)) ha
      subst hAA
      have hcs := hE.cells
      subst hcs
      obtain ⟨Al, cl, rfl⟩ := hE.links.form
      obtain ⟨Am, cm, rfl⟩ := hE.new.form
      have CE := Lib.hid (fun W' (hx : Below wr.heap.size wr W') => requalNodeW W' a n _ _ _ _ _ _ (hE.kp (F' := Off base (rfoot g av (.slice (some ⟨b, off, none⟩) st.ns.length C0) ev)) (Kp.of_below hx) (fun _ _ h => h)) ((HN.out.kp (F' := Off base (rfoot g av (.slice (some ⟨b, off, none⟩) st.ns.length C0) ev)) (Kp.of_below hBW) (fun _ _ h => h)).kp (F' := Off base (rfoot g av (.slice (some ⟨b, off, none⟩) st.ns.length C0) ev)) (Kp.of_below hx) (fun _ _ h => h)))
      obtain ⟨S, hSe⟩ : ∃ S, S = fun Wx => Below wr.heap.size wr Wx := ⟨_, rfl⟩
      have bn := fun (p : Pt S) => (congrFun hSe p.val).mp p.property
      have q0 := fun (p : Pt S) => (hMr.step (bn p)).cell 1 rfl
      have xx := fun (p : Pt S) (i : Nat) (u : Value) hu => ((bn p).cell (p := ⟨b, off + k * 11 + i, none⟩) hbl).trans (hc i u hu)
      have x0 := fun (p : Pt S) => xx p 0 _ rfl
      have x1 := fun (p : Pt S) => xx p 1 _ rfl
      have x2 := fun (p : Pt S) => xx p 2 _ rfl
      have x3 := fun (p : Pt S) => xx p 3 _ rfl
      have x4 := fun (p : Pt S) => xx p 4 _ rfl
      have x5 := fun (p : Pt S) => xx p 5 _ rfl
      have x6 := fun (p : Pt S) => xx p 6 _ rfl
      have x7 := fun (p : Pt S) => xx p 7 _ rfl
      have x8 := fun (p : Pt S) => xx p 8 _ rfl
      have x9 := fun (p : Pt S) => xx p 9 _ rfl
      have x10 := fun (p : Pt S) => xx p 10 _ rfl
      simp only [Nat.add_zero] at x0
      have z0 := fun (p : Pt S) => box_cellL (box_step hb (bn p)) 0 rfl
      have z1 := fun (p : Pt S) => box_cellL (box_step hb (bn p)) 1 rfl
      have z2 := fun (p : Pt S) => box_cellL (box_step hb (bn p)) 2 rfl
      have z3 := fun (p : Pt S) => box_cellL (box_step hb (bn p)) 3 rfl
      have z4 := fun (p : Pt S) => box_cellL (box_step hb (bn p)) 4 rfl
      have z5 := fun (p : Pt S) => box_cellL (box_step hb (bn p)) 5 rfl
      have z6 := fun (p : Pt S) => box_cellL (box_step hb (bn p)) 6 rfl
      have z7 := fun (p : Pt S) => box_cellL (box_step hb (bn p)) 7 rfl
      have z8 := fun (p : Pt S) => box_cellL (box_step hb (bn p)) 8 rfl
      have z9 := fun (p : Pt S) => box_cellL (box_step hb (bn p)) 9 rfl
      have z10 := fun (p : Pt S) => box_cellL (box_step hb (bn p)) 10 rfl
      have NE : Nonempty (Pt S) := ⟨⟨wr, (congrFun hSe wr).mpr (Below.refl _ _)⟩⟩
      have HDD := Lib.hid ((congrFun hSe wr.drew).mpr (Below.refl _ _).drew)
      have SE := Lib.hid hSe
      have KPP := Lib.hid bn
      have e1 : (0 : Int) ≤ (k : Int) := by omega
      have e2 : (k : Int) < (st.ns.length : Int) := by omega
      have HA := Lib.hid ha
      have HQ := Lib.hid hq
      have HK := Lib.hid hkn
      have HB := Lib.hid hb
      have HBW := Lib.hid hBW
      clear hc ha hq hkn hb hE hMr bn hSe hBW xx
      by_cases has : a = n
      · rw [decide_eq_true has] at CE
        have hpl := Lib.hid (placeF_at (has ▸ HA.out) HQ.out)
        have hadd := Lib.hid (show addF st.ns n = st.ns by unfold addF; rw [if_pos (List.mem_of_getElem? (has ▸ HA.out))])
        clear has
        go_wp2_with fail
        refine wp_region_class (S := S) HDD.out (by kernel_rfl) (by kernel_rfl) ?_
        repeat (go_big_quiet_step ((go_at_call 35; refine (CE.out _ (KPP.out _)).mono ?_; rintro e w' ⟨rfl, hbel⟩; exact ⟨rfl, ⟨w', (congrFun SE.out w').mpr ((KPP.out _).trans (hbel.mono (KPP.out _).size))⟩, rfl⟩)))
        refine wpQuiet_nil ?_
        rintro wq ⟨⟨_, hW⟩, rfl⟩
        have HF := Lib.hid ((congrFun SE.out wq).mp hW)
        clear q0 x0 x1 x2 x3 x4 x5 x6 x7 x8 x9 x10 z0 z1 z2 z3 z4 z5 z6 z7 z8 z9 z10 NE hW
        go_wp2
        go_ret
        have BF := HBW.out.trans (HF.out.mono HBW.out.size)
        refine ⟨by rw [hpl.out]; rfl, _, ⟨_, _, _, rfl, ?_⟩, Turns.of_below BF, fun b hb => .inl hb⟩
        rw [hadd.out]
        exact HM.out.step BF
      · rw [decide_eq_false has] at CE
        have HQ2 := Lib.hid (show ∀ j, j < k + 1 → st.ns[j]? ≠ some n from fun j hj => by
          rcases Nat.lt_or_ge j k with h1 | h1
          · exact HQ.out j h1
          · rw [show j = k by omega, HA.out]
            exact fun e => has (Option.some.inj e))
        clear has
        go_wp2_with fail
        refine wp_region_class (S := S) HDD.out (by kernel_rfl) (by kernel_rfl) ?_
        repeat (go_big_quiet_step ((go_at_call 35; refine (CE.out _ (KPP.out _)).mono ?_; rintro e w' ⟨rfl, hbel⟩; exact ⟨rfl, ⟨w', (congrFun SE.out w').mpr ((KPP.out _).trans (hbel.mono (KPP.out _).size))⟩, rfl⟩)))
        refine wpQuiet_nil ?_
        rintro wq ⟨⟨_, hW⟩, rfl⟩
        have HF := Lib.hid (box_step HB.out ((congrFun SE.out wq).mp hW))
        clear q0 x0 x1 x2 x3 x4 x5 x6 x7 x8 x9 x10 z0 z1 z2 z3 z4 z5 z6 z7 z8 z9 z10 NE hW
        go_wp2
        exact ⟨⟨k + 1, by go_num, HK.out, HQ2.out, HF.out⟩, by simp [intOf]; have := HK.out; omega⟩
    · obtain rfl : k = st.ns.length := by omega
      have hno : n ∉ st.ns := fun hm => by
        obtain ⟨h1, h2⟩ := placeF_lt hm
        exact hq _ h1 h2
      have hadd := Lib.hid (show addF st.ns n = st.ns ++ [n] by unfold addF; rw [if_neg hno])
      have hpl := Lib.hid (placeF_none hno)
      have BW := Lib.hid hBW
      have HMR := Lib.hid hMr
      have hgr := hMr.lt
      have z0 := box_cellL hb 0 rfl
      have z1 := box_cellL hb 1 rfl
      have z2 := box_cellL hb 2 rfl
      have z3 := box_cellL hb 3 rfl
      have z4 := box_cellL hb 4 rfl
      have z5 := box_cellL hb 5 rfl
      have z6 := box_cellL hb 6 rfl
      have z7 := box_cellL hb 7 rfl
      have z8 := box_cellL hb 8 rfl
      have z9 := box_cellL hb 9 rfl
      have z10 := box_cellL hb 10 rfl
      have HE := Lib.hid (HN.out.kp (F' := Off base (rfoot g av (.slice A0 st.ns.length C0) ev)) (Kp.of_below hBW) (fun _ _ h => h))
      have hbase : base ≤ wr.heap.size := by have := (hMr.foot_lt g rfoot_g).1; omega
      clear hMr hq hno hkn hb hBW
      go_wp2
      go_region_law (refine step_append_F HMR.out.ns (fun b hb hf => hf.2 (by simp [rfoot, hb])) (by rfl) (.tmp 32) (.tmp 34) 24 (by rfl) Try.underlying24 infoNdR rfl (by decide) (by rfl) #[.int .i64 n.kind, .int .i64 n.parent, .int .i64 n.alpha, .slice la n.links.length lc, .slice na n.new.length nc, .int .i64 n.test.op, .bool n.test.l.v, .int .i64 n.test.l.n, .bool n.test.r.v, .int .i64 n.test.r.n, .int .i64 n.width] _ (by rfl) rfl (x := n) ⟨_, _, HE.out⟩ (by omega) (by decide) hbase ?_; intro g' cap w3 ho ht hat hlt3; have hgn := (HMR.out.apart).2.1; have e3 := (ht.block g HMR.out.lt (fun hm => (hgn g (by simpa using hm)).1 rfl)).trans HMR.out.blk; have q1 := rboxL e3 1 rfl; have q2 : ∀ o, w3.frozen? ⟨g, o, none⟩ = false := (fun o => by simp [World.frozen?, e3]); have q3 := lt_of_heap e3; have GR := Lib.hid (HMR.out.grow_ns ho ht hat); clear ho ht hat hlt3 hgn e3)
      all_goals
        have q0 : (w3.setCell ⟨g, 1, none⟩ (.slice (some ⟨g', 0, none⟩) (st.ns.length + 1) cap)).cell? ⟨g, 1, none⟩ = some (.slice (some ⟨g', 0, none⟩) (st.ns.length + 1) cap) := GR.out.1.cell 1 rfl
        clear q1 q2 y0 z0 z1 z2 z3 z4 z5 z6 z7 z8 z9 z10
        go_wp2
        go_ret
        refine ⟨ret_i64 (by rw [hpl.out]), rfoot g av (.slice (some ⟨g', 0, none⟩) (st.ns.length + 1) cap) ev, ⟨av, .slice (some ⟨g', 0, none⟩) (st.ns.length + 1) cap, ev, rfl, ?_⟩, ?_, ?_⟩
        · rw [hadd.out]
          exact GR.out.1
        · exact (Turns.of_below (S := rfoot g av (.slice A0 st.ns.length C0) ev) BW.out).trans GR.out.2.1 (fun x hx => .inl hx)
        · intro b hb
          rcases GR.out.2.2 b hb with h1 | h1
          · exact .inl h1
          · exact .inr (Nat.le_trans BW.out.size h1)
end Go.Proofs.Ytonkbjdeaneicaa
