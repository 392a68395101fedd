/- equalPatterns, equalChains of the law package: at the same rules. equalChains of the law package: at the same rules. The reference's Equal: are two plans the same? -/
import Derived.Test.YtonkbjdeaneicaaKpo04
import Derived.Test.YtonkbjdeaneicaaKpo17
import Derived.Test.YtonkbjdeaneicaaKpo18
import Derived.Test.YtonkbjdeaneicaaKpo19
import Derived.Test.YtonkbjdeaneicaaKpo24
import Derived.Test.YtonkbjdeaneicaaKpo25
import Derived.Deep.RegionHeld3
namespace Go.Proofs.Ytonkbjdeaneicaa
open Go.RowKit Pln Classical Go.Maps

set_option maxRecDepth 200000 in
set_option maxHeartbeats 8000000 in
theorem equalPatternsW {F G : Nat → Prop} (v u : Value) (ps : List Pat) (w : World) (h : RPats F w v ps) (h' : RPats G w u ps) :
    Calls Try.prog 36 #[v, u] w fun e w' => e = .returned (.bool true) ∧ Below w.heap.size w w' := by
  obtain ⟨A, ca, rfl⟩ := h.form
  obtain ⟨B, cb, rfl⟩ := h'.form
  have hm := h.len
  unfold maxLen at hm
  have HA := Lib.hid h
  have HB := Lib.hid h'
  clear h h'
  go_enter Try.func36, Try.ntmps36
  go_wp2
  go_loopw [5] (fun i wr => ∃ k : Nat, i = .int .i64 k ∧ k ≤ ps.length ∧ Below w.heap.size w wr) (fun i _ => ps.length - (intOf i).toNat)
  case atStart => exact ⟨0, rfl, Nat.zero_le _, Below.refl _ _⟩
  case round =>
    obtain ⟨k, rfl, hk, hbl⟩ := hrel
    by_cases hkn : k < ps.length
    · obtain ⟨p, hp⟩ : ∃ p, ps[k]? = some p := ⟨_, List.getElem?_eq_getElem hkn⟩
      obtain ⟨b1, o1, rfl, -, hl1, cs1, ⟨v1, rfl, -, ea⟩, hc1⟩ := HA.out.at hp
      obtain ⟨b2, o2, rfl, -, hl2, cs2, ⟨v2, rfl, -, eb⟩, hc2⟩ := HB.out.at hp
      obtain ⟨A1, c1, rfl⟩ := ea.form
      obtain ⟨A2, c2, rfl⟩ := eb.form
      obtain ⟨S, hSe⟩ : ∃ S, S = Below w.heap.size w := ⟨_, rfl⟩
      have bn := fun (p : Pt S) => (congrFun hSe p.val).mp p.property
      have CE := Lib.hid (fun (Wx : World) (hx : Below w.heap.size w Wx) => (show Calls Try.prog 58 #[.slice A1 p.args.length c1, .slice A2 p.args.length c2] Wx (fun e w' => e = .returned (.bool true) ∧ Below Wx.heap.size Wx w') from by
        have := equalSlotsW _ _ _ _ Wx (ea.keep (Kp.of_below hx)) (eb.keep (Kp.of_below hx))
        rw [eqB_eq rfl] at this
        exact this))
      have x0 := fun (q : Pt S) => ((bn q).cell (p := ⟨b1, o1 + k * 2 + 0, none⟩) hl1).trans (hc1 0 _ rfl)
      have x1 := fun (q : Pt S) => ((bn q).cell (p := ⟨b1, o1 + k * 2 + 1, none⟩) hl1).trans (hc1 1 _ rfl)
      have x2 := fun (q : Pt S) => ((bn q).cell (p := ⟨b2, o2 + k * 2 + 0, none⟩) hl2).trans (hc2 0 _ rfl)
      have x3 := fun (q : Pt S) => ((bn q).cell (p := ⟨b2, o2 + k * 2 + 1, none⟩) hl2).trans (hc2 1 _ rfl)
      simp only [Nat.add_zero] at x0 x2
      have NE : Nonempty (Pt S) := ⟨⟨wr, (congrFun hSe wr).mpr hbl⟩⟩
      have HDD := Lib.hid ((congrFun hSe wr.drew).mpr hbl.drew)
      have SE := Lib.hid hSe
      have KPP := Lib.hid bn
      have e3 : (0 : Int) ≤ (k : Int) := by omega
      have e4 : (k : Int) < (ps.length : Int) := by omega
      have HK := Lib.hid hkn
      clear hc1 hc2 hp hkn ea eb hbl bn hSe
      go_wp2_with fail
      refine wp_region_class (S := S) HDD.out (by kernel_rfl) (by kernel_rfl) ?_
      repeat (go_big_quiet_step ((go_at_call 58; refine (CE.out _ (KPP.out _)).mono ?_; rintro e w' ⟨rfl, hbel⟩; exact ⟨rfl, ⟨w', (congrFun SE.out w').mpr ((KPP.out _).trans (hbel.mono (KPP.out _).size))⟩, rfl⟩)))
      refine wpQuiet_nil ?_
      rintro wq ⟨⟨_, hW⟩, rfl⟩
      have HF := Lib.hid ((congrFun SE.out wq).mp hW)
      clear x0 x1 x2 x3 NE hW
      go_wp2
      exact ⟨⟨k + 1, by go_num, HK.out, HF.out⟩, by simp [intOf]; have := HK.out; omega⟩
    · obtain rfl : k = ps.length := by omega
      go_wp2
      go_ret
      exact ⟨rfl, hbl⟩
end Go.Proofs.Ytonkbjdeaneicaa

namespace Go.Proofs.Ytonkbjdeaneicaa
open Go.RowKit Pln Classical Go.Maps

theorem neq_tst_same (t : Tst) (w : World) : (binOp .neq 52 (.agg #[.int .i64 t.op, .bool t.l.v, .int .i64 t.l.n, .bool t.r.v, .int .i64 t.r.n]) (.agg #[.int .i64 t.op, .bool t.l.v, .int .i64 t.l.n, .bool t.r.v, .int .i64 t.r.n])).run Try.prog w = .ok (.bool false) w := by
  simp [go_sem]
theorem neq_str_same (s : ByteArray) (w : World) : (binOp .neq 9 (.string s) (.string s)).run Try.prog w = .ok (.bool false) w := by
  simp [go_sem]
/-- One pattern, laid as a list. -/
theorem pats_one {F : Nat → Prop} {w : World} {H : Nat} {T : TypeId} {c : Nat} {p : Pat} {hv : Value} (hok : i64ok p.pred) (ha : RSl F w 2 ESlt hv p.args) (hb : w.heap[H]? = some (.cells #[.int .i64 p.pred, hv] T (0, 0))) (hc : 1 ≤ c) (hc2 : c ≤ maxLen) :
    RPats (fun _ => True) w (.slice (some ⟨H, 0, none⟩) 1 c) [p] := by
  refine ⟨some ⟨H, 0, none⟩, c, rfl, hc, hc2, (fun h => by cases h), .inr ⟨H, 0, rfl, trivial, lt_of_heap hb, fun i x hx => ?_⟩⟩
  match i with
  | 0 =>
    simp only [List.getElem?_cons_zero, Option.some.injEq] at hx
    subst hx
    refine ⟨[.int .i64 p.pred, hv], ⟨hv, rfl, hok, ha.kp (Kp.refl _ _) (fun _ _ _ => trivial) (fun _ _ h => h)⟩, fun j u hu => ?_⟩
    rw [show 0 + 0 * 2 + j = j by omega]
    exact (cell_of_row _ _ j _ _ _ hb).trans (by simpa using hu)
  | i + 1 => simp at hx
set_option maxRecDepth 200000 in
set_option maxHeartbeats 16000000 in
theorem equalChainsW {F G : Nat → Prop} (v u : Value) (rs : List Rl) (w : World) (h : RRules F w v rs) (h' : RRules G w u rs) :
    Calls Try.prog 12 #[v, u] w fun e w' => e = .returned (.bool true) ∧ Below w.heap.size w w' := by
  obtain ⟨A, ca, rfl⟩ := h.form
  obtain ⟨B, cb, rfl⟩ := h'.form
  have hm := h.len
  unfold maxLen at hm
  have HA := Lib.hid h
  have HB := Lib.hid h'
  clear h h'
  go_enter Try.func12, Try.ntmps12
  go_wp2
  go_loopw [5] (fun i wr => ∃ k : Nat, i = .int .i64 k ∧ k ≤ rs.length ∧ Below w.heap.size w wr) (fun i _ => rs.length - (intOf i).toNat)
  case atStart => exact ⟨0, rfl, Nat.zero_le _, Below.refl _ _⟩
  case round =>
    obtain ⟨k, rfl, hk, hbl⟩ := hrel
    by_cases hkn : k < rs.length
    · obtain ⟨r, hr⟩ : ∃ r, rs[k]? = some r := ⟨_, List.getElem?_eq_getElem hkn⟩
      obtain ⟨b1, o1, rfl, -, hl1, cs1, ⟨hv1, pv1, tv1, nv1, vv1, E1⟩, hc1⟩ := HA.out.at hr
      obtain ⟨b2, o2, rfl, -, hl2, cs2, ⟨hv2, pv2, tv2, nv2, vv2, E2⟩, hc2⟩ := HB.out.at hr
      have hcs1 := E1.cells
      subst hcs1
      have hcs2 := E2.cells
      subst hcs2
      obtain ⟨Ah1, ch1, rfl⟩ := E1.head.form
      obtain ⟨Ap1, cp1, rfl⟩ := E1.pos.form
      obtain ⟨At1, ct1, rfl⟩ := E1.tests.form
      obtain ⟨An1, cn1, rfl⟩ := E1.neg.form
      obtain ⟨Av1, cv1, rfl⟩ := E1.vars.form
      obtain ⟨Ah2, ch2, rfl⟩ := E2.head.form
      obtain ⟨Ap2, cp2, rfl⟩ := E2.pos.form
      obtain ⟨At2, ct2, rfl⟩ := E2.tests.form
      obtain ⟨An2, cn2, rfl⟩ := E2.neg.form
      obtain ⟨Av2, cv2, rfl⟩ := E2.vars.form
      obtain ⟨S, hSe⟩ : ∃ S, S = Below w.heap.size w := ⟨_, rfl⟩
      have bn := fun (p : Pt S) => (congrFun hSe p.val).mp p.property
      have CP := Lib.hid (fun (Wx : World) (hx : Below w.heap.size w Wx) => equalPatternsW _ _ _ Wx (RPats.kp E1.pos (Kp.of_below hx) (fun _ _ h => h)) (RPats.kp E2.pos (Kp.of_below hx) (fun _ _ h => h)))
      have CN := Lib.hid (fun (Wx : World) (hx : Below w.heap.size w Wx) => equalPatternsW _ _ _ Wx (RPats.kp E1.neg (Kp.of_below hx) (fun _ _ h => h)) (RPats.kp E2.neg (Kp.of_below hx) (fun _ _ h => h)))
      have x2 := fun (q : Pt S) => ((bn q).cell (p := ⟨b1, o1 + k * 7 + 2, none⟩) hl1).trans (hc1 2 _ rfl)
      have x3 := fun (q : Pt S) => ((bn q).cell (p := ⟨b1, o1 + k * 7 + 3, none⟩) hl1).trans (hc1 3 _ rfl)
      have x4 := fun (q : Pt S) => ((bn q).cell (p := ⟨b1, o1 + k * 7 + 4, none⟩) hl1).trans (hc1 4 _ rfl)
      have y2 := fun (q : Pt S) => ((bn q).cell (p := ⟨b2, o2 + k * 7 + 2, none⟩) hl2).trans (hc2 2 _ rfl)
      have y3 := fun (q : Pt S) => ((bn q).cell (p := ⟨b2, o2 + k * 7 + 3, none⟩) hl2).trans (hc2 3 _ rfl)
      have y4 := fun (q : Pt S) => ((bn q).cell (p := ⟨b2, o2 + k * 7 + 4, none⟩) hl2).trans (hc2 4 _ rfl)
      have NE : Nonempty (Pt S) := ⟨⟨wr, (congrFun hSe wr).mpr hbl⟩⟩
      have HDD := Lib.hid ((congrFun hSe wr.drew).mpr hbl.drew)
      have SE := Lib.hid hSe
      have KPP := Lib.hid bn
      have e3 : (0 : Int) ≤ (k : Int) := by omega
      have e4 : (k : Int) < (rs.length : Int) := by omega
      have HK := Lib.hid hkn
      have HC1 := Lib.hid hc1
      have HC2 := Lib.hid hc2
      have HE1 := Lib.hid E1
      have HE2 := Lib.hid E2
      clear hc1 hc2 hr hkn E1 E2 hbl bn hSe
      go_wp2_with fail
      refine wp_region_class (S := S) HDD.out (by kernel_rfl) (by kernel_rfl) ?_
      repeat (go_big_quiet_step ((go_at_call 36; (first | with_reducible refine (CP.out _ (KPP.out _)).mono ?_ | with_reducible refine (CN.out _ (KPP.out _)).mono ?_); rintro e w' ⟨rfl, hbel⟩; exact ⟨rfl, ⟨w', (congrFun SE.out w').mpr ((KPP.out _).trans (hbel.mono (KPP.out _).size))⟩, rfl⟩)))
      refine wpQuiet_nil ?_
      rintro wq ⟨⟨_, hW⟩, rfl⟩
      have HF := Lib.hid ((congrFun SE.out wq).mp hW)
      clear x2 x3 x4 y2 y3 y4 NE hW
      go_wp2_with fail
      have KP := Lib.hid (fun (w' : World) (hx : Below wq.heap.size wq w') => (show w'.cell? ⟨b1, o1 + k * 7, none⟩ = some (.int .i64 r.head.pred) ∧ w'.cell? ⟨b1, o1 + k * 7 + 1, none⟩ = some (.slice Ah1 r.head.args.length ch1) ∧ w'.cell? ⟨b1, o1 + k * 7 + 5, none⟩ = some (.slice Av1 r.vars.length cv1) ∧ w'.cell? ⟨b1, o1 + k * 7 + 6, none⟩ = some (.int .i64 r.clause) ∧ w'.cell? ⟨b2, o2 + k * 7, none⟩ = some (.int .i64 r.head.pred) ∧ w'.cell? ⟨b2, o2 + k * 7 + 1, none⟩ = some (.slice Ah2 r.head.args.length ch2) ∧ w'.cell? ⟨b2, o2 + k * 7 + 5, none⟩ = some (.slice Av2 r.vars.length cv2) ∧ w'.cell? ⟨b2, o2 + k * 7 + 6, none⟩ = some (.int .i64 r.clause) from by
        have d10 := ((HF.out.trans (hx.mono HF.out.size)).cell (p := ⟨b1, o1 + k * 7 + 0, none⟩) hl1).trans (HC1.out 0 _ rfl)
        have d11 := ((HF.out.trans (hx.mono HF.out.size)).cell (p := ⟨b1, o1 + k * 7 + 1, none⟩) hl1).trans (HC1.out 1 _ rfl)
        have d15 := ((HF.out.trans (hx.mono HF.out.size)).cell (p := ⟨b1, o1 + k * 7 + 5, none⟩) hl1).trans (HC1.out 5 _ rfl)
        have d16 := ((HF.out.trans (hx.mono HF.out.size)).cell (p := ⟨b1, o1 + k * 7 + 6, none⟩) hl1).trans (HC1.out 6 _ rfl)
        have d20 := ((HF.out.trans (hx.mono HF.out.size)).cell (p := ⟨b2, o2 + k * 7 + 0, none⟩) hl2).trans (HC2.out 0 _ rfl)
        have d21 := ((HF.out.trans (hx.mono HF.out.size)).cell (p := ⟨b2, o2 + k * 7 + 1, none⟩) hl2).trans (HC2.out 1 _ rfl)
        have d25 := ((HF.out.trans (hx.mono HF.out.size)).cell (p := ⟨b2, o2 + k * 7 + 5, none⟩) hl2).trans (HC2.out 5 _ rfl)
        have d26 := ((HF.out.trans (hx.mono HF.out.size)).cell (p := ⟨b2, o2 + k * 7 + 6, none⟩) hl2).trans (HC2.out 6 _ rfl)
        simp only [Nat.add_zero] at d10 d20
        exact ⟨d10, d11, d15, d16, d20, d21, d25, d26⟩))
      have hS0 := KP.out _ (Below.refl wq.heap.size wq).drew
      have hb1 : b1 < wq.heap.size := by have := HF.out.size; omega
      have hb2 : b2 < wq.heap.size := by have := HF.out.size; omega
      have CX := Lib.hid (fun (Wx : World) (H1 H2 : Nat) (hx : Below wq.heap.size wq Wx) (h1 : Wx.heap[H1]? = some (.cells #[.int .i64 r.head.pred, .slice Ah1 r.head.args.length ch1] 34 (0, 0))) (h2 : Wx.heap[H2]? = some (.cells #[.int .i64 r.head.pred, .slice Ah2 r.head.args.length ch2] 34 (0, 0))) =>
        equalPatternsW (.slice (some ⟨H1, 0, none⟩) 1 1) (.slice (some ⟨H2, 0, none⟩) 1 1) [r.head] Wx (pats_one HE1.out.hok (HE1.out.head.keep (Kp.of_below (HF.out.trans (hx.mono HF.out.size)))) h1 (Nat.le_refl _) (by unfold maxLen; decide)) (pats_one HE1.out.hok (HE2.out.head.keep (Kp.of_below (HF.out.trans (hx.mono HF.out.size)))) h2 (Nat.le_refl _) (by unfold maxLen; decide)))
      have BDA := Lib.hid (show Below wq.heap.size wq ((wq.alloc (.cells #[.int .i64 r.head.pred, .slice Ah1 r.head.args.length ch1] 34)).alloc (.cells #[.int .i64 r.head.pred, .slice Ah2 r.head.args.length ch2] 34)).drew from (((Below.refl wq.heap.size wq).alloc (Nat.le_refl _) _).alloc (by simp) _).drew)
      have hA1 : ((wq.alloc (.cells #[.int .i64 r.head.pred, .slice Ah1 r.head.args.length ch1] 34)).alloc (.cells #[.int .i64 r.head.pred, .slice Ah2 r.head.args.length ch2] 34)).drew.heap[wq.heap.size]? = some (.cells #[.int .i64 r.head.pred, .slice Ah1 r.head.args.length ch1] 34 (0, 0)) := by
        show ((wq.alloc (.cells #[.int .i64 r.head.pred, .slice Ah1 r.head.args.length ch1] 34)).alloc (.cells #[.int .i64 r.head.pred, .slice Ah2 r.head.args.length ch2] 34)).heap[wq.heap.size]? = _
        rw [Below.heap_alloc _ _ _ (by simp)]
        exact heap_alloc_new wq _
      have hA2 : ((wq.alloc (.cells #[.int .i64 r.head.pred, .slice Ah1 r.head.args.length ch1] 34)).alloc (.cells #[.int .i64 r.head.pred, .slice Ah2 r.head.args.length ch2] 34)).drew.heap[wq.heap.size + 1]? = some (.cells #[.int .i64 r.head.pred, .slice Ah2 r.head.args.length ch2] 34 (0, 0)) := by
        show ((wq.alloc (.cells #[.int .i64 r.head.pred, .slice Ah1 r.head.args.length ch1] 34)).alloc (.cells #[.int .i64 r.head.pred, .slice Ah2 r.head.args.length ch2] 34)).heap[wq.heap.size + 1]? = _
        rw [show wq.heap.size + 1 = (wq.alloc (.cells #[.int .i64 r.head.pred, .slice Ah1 r.head.args.length ch1] 34)).heap.size by simp]
        exact heap_alloc_new _ _
      have CXA := Lib.hid (CX.out _ _ _ BDA.out hA1 hA2)
      clear hA1 hA2
      have BDB := Lib.hid (show Below wq.heap.size wq ((wq.alloc (.cells #[.int .i64 r.head.pred, .slice Ah2 r.head.args.length ch2] 34)).alloc (.cells #[.int .i64 r.head.pred, .slice Ah1 r.head.args.length ch1] 34)).drew from (((Below.refl wq.heap.size wq).alloc (Nat.le_refl _) _).alloc (by simp) _).drew)
      have hB2 : ((wq.alloc (.cells #[.int .i64 r.head.pred, .slice Ah2 r.head.args.length ch2] 34)).alloc (.cells #[.int .i64 r.head.pred, .slice Ah1 r.head.args.length ch1] 34)).drew.heap[wq.heap.size]? = some (.cells #[.int .i64 r.head.pred, .slice Ah2 r.head.args.length ch2] 34 (0, 0)) := by
        show ((wq.alloc (.cells #[.int .i64 r.head.pred, .slice Ah2 r.head.args.length ch2] 34)).alloc (.cells #[.int .i64 r.head.pred, .slice Ah1 r.head.args.length ch1] 34)).heap[wq.heap.size]? = _
        rw [Below.heap_alloc _ _ _ (by simp)]
        exact heap_alloc_new wq _
      have hB1 : ((wq.alloc (.cells #[.int .i64 r.head.pred, .slice Ah2 r.head.args.length ch2] 34)).alloc (.cells #[.int .i64 r.head.pred, .slice Ah1 r.head.args.length ch1] 34)).drew.heap[wq.heap.size + 1]? = some (.cells #[.int .i64 r.head.pred, .slice Ah1 r.head.args.length ch1] 34 (0, 0)) := by
        show ((wq.alloc (.cells #[.int .i64 r.head.pred, .slice Ah2 r.head.args.length ch2] 34)).alloc (.cells #[.int .i64 r.head.pred, .slice Ah1 r.head.args.length ch1] 34)).heap[wq.heap.size + 1]? = _
        rw [show wq.heap.size + 1 = (wq.alloc (.cells #[.int .i64 r.head.pred, .slice Ah2 r.head.args.length ch2] 34)).heap.size by simp]
        exact heap_alloc_new _ _
      have CXB := Lib.hid (CX.out _ _ _ BDB.out hB1 hB2)
      clear hB1 hB2
      clear CX
      go_region_held3 (fun w' : World => w'.cell? ⟨b1, o1 + k * 7, none⟩ = some (.int .i64 r.head.pred) ∧ w'.cell? ⟨b1, o1 + k * 7 + 1, none⟩ = some (.slice Ah1 r.head.args.length ch1) ∧ w'.cell? ⟨b1, o1 + k * 7 + 5, none⟩ = some (.slice Av1 r.vars.length cv1) ∧ w'.cell? ⟨b1, o1 + k * 7 + 6, none⟩ = some (.int .i64 r.clause) ∧ w'.cell? ⟨b2, o2 + k * 7, none⟩ = some (.int .i64 r.head.pred) ∧ w'.cell? ⟨b2, o2 + k * 7 + 1, none⟩ = some (.slice Ah2 r.head.args.length ch2) ∧ w'.cell? ⟨b2, o2 + k * 7 + 5, none⟩ = some (.slice Av2 r.vars.length cv2) ∧ w'.cell? ⟨b2, o2 + k * 7 + 6, none⟩ = some (.int .i64 r.clause))
        (first | with_reducible exact hS0 | with_reducible exact KP.out _ B4 | with_reducible exact KP.out _ ((Below.refl wq.heap.size wq).alloc (Nat.le_refl _) _).drew | with_reducible exact KP.out _ (((Below.refl wq.heap.size wq).alloc (Nat.le_refl _) _).alloc (by simp) _).drew)
        (first
          | (go_at_call 36; with_reducible refine CXA.out.mono ?_; rintro e' w4 ⟨rfl, hb4⟩; have B4 := BDA.out.trans (hb4.mono BDA.out.size); clear hb4)
          | (go_at_call 36; with_reducible refine CXB.out.mono ?_; rintro e' w4 ⟨rfl, hb4⟩; have B4 := BDB.out.trans (hb4.mono BDB.out.size); clear hb4))
      all_goals
        have HF4 := Lib.hid (HF.out.trans (B4.mono HF.out.size))
        have hb40 := HF4.out
        have zz1 := (hb40.cell (p := ⟨b1, o1 + k * 7 + 4, none⟩) hl1).trans (HC1.out 4 _ rfl)
        have zz2 := (hb40.cell (p := ⟨b2, o2 + k * 7 + 4, none⟩) hl2).trans (HC2.out 4 _ rfl)
        clear B4 hS0 hb1 hb2 zz1 zz2 hb40
        go_wp2
        go_loopw [6] (fun jv wr => ∃ j : Nat, jv = .int .i64 j ∧ j ≤ r.vars.length ∧ Below w.heap.size w wr) (fun jv _ => r.vars.length - (intOf jv).toNat)
        case atStart => exact ⟨0, rfl, Nat.zero_le _, HF4.out⟩
        case round =>
          obtain ⟨j, rfl, hj, hbj⟩ := hrel
          have hvm := HE1.out.vars.len
          unfold maxLen at hvm
          have c15 := (hbj.cell (p := ⟨b1, o1 + k * 7 + 5, none⟩) hl1).trans (HC1.out 5 _ rfl)
          have c25 := (hbj.cell (p := ⟨b2, o2 + k * 7 + 5, none⟩) hl2).trans (HC2.out 5 _ rfl)
          by_cases hjn : j < r.vars.length
          · obtain ⟨x, hx⟩ : ∃ x, r.vars[j]? = some x := ⟨_, List.getElem?_eq_getElem hjn⟩
            obtain ⟨v1, p1, hv1, -, hvl1, ds1, ⟨rfl, -⟩, hd1⟩ := HE1.out.vars.at hx
            obtain ⟨v2, p2, hv2, -, hvl2, ds2, ⟨rfl, -⟩, hd2⟩ := HE2.out.vars.at hx
            have d1 := (hbj.cell (p := ⟨v1, p1 + j * 1 + 0, none⟩) hvl1).trans (hd1 0 _ rfl)
            have d2 := (hbj.cell (p := ⟨v2, p2 + j * 1 + 0, none⟩) hvl2).trans (hd2 0 _ rfl)
            simp only [Nat.add_zero, Nat.mul_one] at d1 d2
            rw [hv1] at c15
            rw [hv2] at c25
            have f1 : (0 : Int) ≤ (j : Int) := by omega
            have f2 : (j : Int) < (r.vars.length : Int) := by omega
            have hne := fun W => neq_str_same x W
            have HJ := Lib.hid hjn
            have HBJ := Lib.hid hbj
            clear hjn hbj hd1 hd2 hx
            go_wp2
            go_quiet (fail)
            have HB2 := Lib.hid (drewN_below HBJ.out nq)
            go_wp2
            exact ⟨⟨j + 1, by go_num, HJ.out, HB2.out⟩, by simp [intOf]; have := HJ.out; omega⟩
          · obtain rfl : j = r.vars.length := by omega
            have HBJ := Lib.hid hbj
            clear hjn hbj
            go_wp2
            go_loopw [7] (fun jv wr => ∃ j : Nat, jv = .int .i64 j ∧ j ≤ r.tests.length ∧ Below w.heap.size w wr) (fun jv _ => r.tests.length - (intOf jv).toNat)
            case atStart => exact ⟨0, rfl, Nat.zero_le _, HBJ.out⟩
            case round =>
              obtain ⟨j, rfl, hj, hbj⟩ := hrel
              have htm := HE1.out.tests.len
              unfold maxLen at htm
              have c13 := (hbj.cell (p := ⟨b1, o1 + k * 7 + 3, none⟩) hl1).trans (HC1.out 3 _ rfl)
              have c23 := (hbj.cell (p := ⟨b2, o2 + k * 7 + 3, none⟩) hl2).trans (HC2.out 3 _ rfl)
              by_cases hjn : j < r.tests.length
              · obtain ⟨x, hx⟩ : ∃ x, r.tests[j]? = some x := ⟨_, List.getElem?_eq_getElem hjn⟩
                obtain ⟨v1, p1, hv1, -, hvl1, ds1, ⟨rfl, -⟩, hd1⟩ := HE1.out.tests.at hx
                obtain ⟨v2, p2, hv2, -, hvl2, ds2, ⟨rfl, -⟩, hd2⟩ := HE2.out.tests.at hx
                have d10 := (hbj.cell (p := ⟨v1, p1 + j * 5 + 0, none⟩) hvl1).trans (hd1 0 _ rfl)
                have d11 := (hbj.cell (p := ⟨v1, p1 + j * 5 + 1, none⟩) hvl1).trans (hd1 1 _ rfl)
                have d12 := (hbj.cell (p := ⟨v1, p1 + j * 5 + 2, none⟩) hvl1).trans (hd1 2 _ rfl)
                have d13 := (hbj.cell (p := ⟨v1, p1 + j * 5 + 3, none⟩) hvl1).trans (hd1 3 _ rfl)
                have d14 := (hbj.cell (p := ⟨v1, p1 + j * 5 + 4, none⟩) hvl1).trans (hd1 4 _ rfl)
                have d20 := (hbj.cell (p := ⟨v2, p2 + j * 5 + 0, none⟩) hvl2).trans (hd2 0 _ rfl)
                have d21 := (hbj.cell (p := ⟨v2, p2 + j * 5 + 1, none⟩) hvl2).trans (hd2 1 _ rfl)
                have d22 := (hbj.cell (p := ⟨v2, p2 + j * 5 + 2, none⟩) hvl2).trans (hd2 2 _ rfl)
                have d23 := (hbj.cell (p := ⟨v2, p2 + j * 5 + 3, none⟩) hvl2).trans (hd2 3 _ rfl)
                have d24 := (hbj.cell (p := ⟨v2, p2 + j * 5 + 4, none⟩) hvl2).trans (hd2 4 _ rfl)
                simp only [Nat.add_zero] at d10 d20
                rw [hv1] at c13
                rw [hv2] at c23
                have f1 : (0 : Int) ≤ (j : Int) := by omega
                have f2 : (j : Int) < (r.tests.length : Int) := by omega
                have hne := fun W => neq_tst_same x W
                have HJ := Lib.hid hjn
                have HBJ := Lib.hid hbj
                clear hjn hbj hd1 hd2 hx
                go_wp2
                go_quiet (fail)
                have HB2 := Lib.hid (drewN_below HBJ.out nq)
                go_wp2
                exact ⟨⟨j + 1, by go_num, HJ.out, HB2.out⟩, by simp [intOf]; have := HJ.out; omega⟩
              · obtain rfl : j = r.tests.length := by omega
                have HBJ := Lib.hid hbj
                clear hjn hbj
                go_wp2
                exact ⟨⟨k + 1, by go_num, HK.out, HBJ.out⟩, by simp [intOf]; have := HK.out; omega⟩
    · obtain rfl : k = rs.length := by omega
      go_wp2
      go_ret
      exact ⟨rfl, hbl⟩
end Go.Proofs.Ytonkbjdeaneicaa

namespace Go.Proofs.Ytonkbjdeaneicaa
open Go.RowKit Pln Classical Go.Maps

/-- The worlds of Equal: two boxes ahead of all. -/
structure EqS (W : World) (a b : Array Value) (wr : World) : Prop where
  ha : wr.heap[W.heap.size]? = some (.cells a 27 (0, 0))
  hb : wr.heap[W.heap.size + 1]? = some (.cells b 27 (0, 0))
  below : Below W.heap.size W wr
section
variable {W wr wr' : World} {a b : Array Value}
theorem EqS.lt (h : EqS W a b wr) : W.heap.size + 1 < wr.heap.size := lt_of_heap h.hb
theorem EqS.step (h : EqS W a b wr) (hx : Below wr.heap.size wr wr') : EqS W a b wr' :=
  ⟨(hx.block _ (by have := h.lt; omega)).trans h.ha, (hx.block _ h.lt).trans h.hb, h.below.trans (hx.mono h.below.size)⟩
theorem EqS.drew (h : EqS W a b wr) : EqS W a b wr.drew := h.step (Below.refl _ _).drew
theorem EqS.start : EqS W a b ((W.alloc (.cells a 27)).alloc (.cells b 27)) := by
  refine ⟨?_, ?_, ((Below.refl _ _).alloc (Nat.le_refl _) _).alloc (by simp) _⟩
  · rw [Below.heap_alloc _ _ _ (by simp)]
    exact heap_alloc_new W _
  · have := heap_alloc_new (W.alloc (.cells a 27)) (.cells b 27)
    simpa using this
end
set_option maxRecDepth 200000 in
set_option maxHeartbeats 8000000 in
theorem requalW {F G : Nat → Prop} (W : World) (av nv ev bv mv fv : Value) (al bl : List Shp) (ns ms : List Nd) (es fs : List Int) (h : RPl F W av nv ev al ns es) (h' : RPl G W bv mv fv bl ms fs) (l1 : al.length ≤ 1000000000) (l2 : ns.length ≤ 1000000000) (l3 : bl.length ≤ 1000000000) (l4 : ms.length ≤ 1000000000) :
    Calls Try.prog 11 #[.agg #[av, nv, ev], .agg #[bv, mv, fv]] W fun e W' => e = .returned (.bool (decide (al = bl ∧ ns = ms ∧ es = fs))) ∧ Below W.heap.size W W' := by
  have HA := Lib.hid h
  have HB := Lib.hid h'
  have EI := Lib.hid (fun (Wx : World) (hb : Below W.heap.size W Wx) => requalIntsW ev fv es fs Wx ((HA.out.below hb).en) ((HB.out.below hb).en))
  obtain ⟨Aa, ca, rfl⟩ := h.al.form
  obtain ⟨An, cn, rfl⟩ := h.ns.form
  obtain ⟨Ab, cb, rfl⟩ := h'.al.form
  obtain ⟨Am, cm, rfl⟩ := h'.ns.form
  obtain ⟨R, hR⟩ : ∃ R, decide (al = bl ∧ ns = ms ∧ es = fs) = R := ⟨_, rfl⟩
  rw [hR]
  have NO := Lib.hid (show ¬ (al = bl ∧ ns = ms ∧ es = fs) → R = false from fun h => by rw [← hR]; exact decide_eq_false h)
  have YES := Lib.hid (show al = bl → ns = ms → es = fs → R = true from fun h1 h2 h3 => by rw [← hR]; exact decide_eq_true ⟨h1, h2, h3⟩)
  clear hR h h'
  have h80 : EqS W #[.slice Aa al.length ca, .slice An ns.length cn, ev] #[.slice Ab bl.length cb, .slice Am ms.length cm, fv] ((W.alloc (.cells #[.slice Aa al.length ca, .slice An ns.length cn, ev] 27)).alloc (.cells #[.slice Ab bl.length cb, .slice Am ms.length cm, fv] 27)) := EqS.start
  have C1 := Lib.hid (EI.out _ h80.below)
  have HB2 := Lib.hid h80
  clear h80 EI
  go_enter Try.func11, Try.ntmps11
  by_cases hl1 : al.length = bl.length
  case neg =>
    have e1 : ((al.length : Int) != (bl.length : Int)) = true := by simp; omega
    have HF := Lib.hid (NO.out (fun h => hl1 (by rw [h.1])))
    clear hl1
    go_wp2
    go_ret
    exact ⟨by rw [HF.out]; rfl, HB2.out.below⟩
  have e1 : ((al.length : Int) != (bl.length : Int)) = false := by simp; omega
  by_cases hl2 : ns.length = ms.length
  case neg =>
    have e2 : ((ns.length : Int) != (ms.length : Int)) = true := by simp; omega
    have HF := Lib.hid (NO.out (fun h => hl2 (by rw [h.2.1])))
    clear hl1 hl2
    go_wp2
    go_ret
    exact ⟨by rw [HF.out]; rfl, HB2.out.below⟩
  have e2 : ((ns.length : Int) != (ms.length : Int)) = false := by simp; omega
  have HL := Lib.hid (And.intro hl1 hl2)
  clear hl1 hl2
  go_wp2_with fail
  refine C1.out.mono ?_
  rintro e w2 ⟨rfl, hb2⟩
  have HE2 := Lib.hid (HB2.out.step hb2)
  clear hb2 C1
  by_cases hes : es = fs
  case neg =>
    have HF := Lib.hid (NO.out (fun h => hes h.2.2))
    rw [show eqB es fs = false from eqB_ne hes]
    clear hes
    go_wp2
    go_ret
    exact ⟨by rw [HF.out]; rfl, HE2.out.below⟩
  rw [show eqB es fs = true from eqB_eq hes]
  have HES := Lib.hid hes
  clear hes HB2
  go_wp2
  go_loopw [5] (fun iv wr => ∃ k : Nat, iv = .int .i64 k ∧ k ≤ al.length ∧ (∀ j, j < k → al[j]? = bl[j]?) ∧ EqS W #[.slice Aa al.length ca, .slice An ns.length cn, ev] #[.slice Ab bl.length cb, .slice Am ms.length cm, fv] wr) (fun iv _ => al.length - (intOf iv).toNat)
  case atStart => exact ⟨0, rfl, Nat.zero_le _, fun j h => by omega, HE2.out⟩
  case round =>
    obtain ⟨k, rfl, hk, hq, hst⟩ := hrel
    clear HE2
    have hlt := hst.lt
    have y0 := rboxL hst.ha 0 rfl
    have y1 := rboxL hst.ha 1 rfl
    by_cases hkn : k < al.length
    · obtain ⟨a, ha⟩ : ∃ a, al[k]? = some a := ⟨_, List.getElem?_eq_getElem hkn⟩
      obtain ⟨b, hb⟩ : ∃ b, bl[k]? = some b := ⟨_, List.getElem?_eq_getElem (by have := HL.out.1; omega)⟩
      obtain ⟨b1, o1, rfl, -, hl1, cs1, ⟨v1, rfl, -, ea⟩, hc1⟩ := HA.out.al.at ha
      obtain ⟨b2, o2, rfl, -, hl2, cs2, ⟨v2, rfl, -, eb⟩, hc2⟩ := HB.out.al.at hb
      obtain ⟨A1, c1, rfl⟩ := ea.form
      obtain ⟨A2, c2, rfl⟩ := eb.form
      obtain ⟨S, hSe⟩ : ∃ S, S = EqS W #[.slice (some ⟨b1, o1, none⟩) al.length ca, .slice An ns.length cn, ev] #[.slice (some ⟨b2, o2, none⟩) bl.length cb, .slice Am ms.length cm, fv] := ⟨_, rfl⟩
      have bn := fun (p : Pt S) => (congrFun hSe p.val).mp p.property
      have CE := Lib.hid (fun (Wx : World) (hx : Below W.heap.size W Wx) => requalShapeW a b _ _ Wx (ea.keep (Kp.of_below hx)) (eb.keep (Kp.of_below hx)))
      have x0 := fun (p : Pt S) => ((bn p).below.cell (p := ⟨b1, o1 + k * 2 + 0, none⟩) hl1).trans (hc1 0 _ rfl)
      have x1 := fun (p : Pt S) => ((bn p).below.cell (p := ⟨b1, o1 + k * 2 + 1, none⟩) hl1).trans (hc1 1 _ rfl)
      have x2 := fun (p : Pt S) => ((bn p).below.cell (p := ⟨b2, o2 + k * 2 + 0, none⟩) hl2).trans (hc2 0 _ rfl)
      have x3 := fun (p : Pt S) => ((bn p).below.cell (p := ⟨b2, o2 + k * 2 + 1, none⟩) hl2).trans (hc2 1 _ rfl)
      simp only [Nat.add_zero] at x0 x2
      have z0 := fun (p : Pt S) => rboxL (bn p).ha 0 rfl
      have z1 := fun (p : Pt S) => rboxL (bn p).hb 0 rfl
      have NE : Nonempty (Pt S) := ⟨⟨wr, (congrFun hSe wr).mpr hst⟩⟩
      have HDD := Lib.hid ((congrFun hSe wr.drew).mpr hst.drew)
      have SE := Lib.hid hSe
      have KPP := Lib.hid bn
      have e3 : (0 : Int) ≤ (k : Int) := by omega
      have e4 : (k : Int) < (al.length : Int) := by omega
      have e5 : (k : Int) < (bl.length : Int) := by have := HL.out.1; omega
      have HX := Lib.hid (And.intro ha hb)
      have HQ := Lib.hid hq
      have HK := Lib.hid hkn
      clear hc1 hc2 ha hb hq hkn ea eb hst bn hSe
      by_cases has : a = b
      · rw [decide_eq_true has] at CE
        have HQ2 := Lib.hid (show ∀ j, j < k + 1 → al[j]? = bl[j]? from fun j hj => by
          rcases Nat.lt_or_ge j k with h1 | h1
          · exact HQ.out j h1
          · rw [show j = k by omega, HX.out.1, HX.out.2, has])
        clear has
        go_wp2_with fail
        refine wp_region_class (S := S) HDD.out (by kernel_rfl) (by kernel_rfl) ?_
        repeat (go_big_quiet_step ((go_at_call 34; refine (CE.out _ (KPP.out _).below).mono ?_; rintro e w' ⟨rfl, hbel⟩; exact ⟨rfl, ⟨w', (congrFun SE.out w').mpr ((KPP.out _).step hbel)⟩, rfl⟩)))
        refine wpQuiet_nil ?_
        rintro wq ⟨⟨_, hW⟩, rfl⟩
        have HF := Lib.hid ((congrFun SE.out wq).mp hW)
        clear x0 x1 x2 x3 z0 z1 NE hW y0 y1
        go_wp2
        exact ⟨⟨k + 1, by go_num, HK.out, HQ2.out, HF.out⟩, by simp [intOf]; have := HK.out; omega⟩
      · rw [decide_eq_false has] at CE
        have HR := Lib.hid (NO.out (fun h => has (by
          have h1 := HX.out.1
          rw [h.1, HX.out.2] at h1
          exact (Option.some.inj h1).symm)))
        clear has
        go_wp2_with fail
        refine wp_region_class (S := S) HDD.out (by kernel_rfl) (by kernel_rfl) ?_
        repeat (go_big_quiet_step ((go_at_call 34; refine (CE.out _ (KPP.out _).below).mono ?_; rintro e w' ⟨rfl, hbel⟩; exact ⟨rfl, ⟨w', (congrFun SE.out w').mpr ((KPP.out _).step hbel)⟩, rfl⟩)))
        refine wpQuiet_nil ?_
        rintro wq ⟨⟨_, hW⟩, rfl⟩
        have HF := Lib.hid ((congrFun SE.out wq).mp hW)
        clear x0 x1 x2 x3 z0 z1 NE hW y0 y1
        go_wp2
        go_ret
        exact ⟨by rw [HR.out]; rfl, HF.out.below⟩
    · obtain rfl : k = al.length := by omega
      have HAB := Lib.hid (list_eq HL.out.1 hq)
      have HE2 := Lib.hid hst
      clear hq hkn hst
      go_wp2
      clear y0 y1 hlt
      go_loopw [6] (fun iv wr => ∃ k : Nat, iv = .int .i64 k ∧ k ≤ ns.length ∧ (∀ j, j < k → ns[j]? = ms[j]?) ∧ EqS W #[.slice Aa al.length ca, .slice An ns.length cn, ev] #[.slice Ab bl.length cb, .slice Am ms.length cm, fv] wr) (fun iv _ => ns.length - (intOf iv).toNat)
      case atStart => exact ⟨0, rfl, Nat.zero_le _, fun j h => by omega, HE2.out⟩
      case round =>
        obtain ⟨k, rfl, hk, hq, hst⟩ := hrel
        clear HE2
        have hlt := hst.lt
        have y1 := rboxL hst.ha 1 rfl
        by_cases hkn : k < ns.length
        · obtain ⟨a, ha⟩ : ∃ a, ns[k]? = some a := ⟨_, List.getElem?_eq_getElem hkn⟩
          obtain ⟨b, hb⟩ : ∃ b, ms[k]? = some b := ⟨_, List.getElem?_eq_getElem (by have := HL.out.2; omega)⟩
          obtain ⟨b1, o1, rfl, -, hl1, cs1, ⟨lv1, mv1, ea⟩, hc1⟩ := HA.out.ns.at ha
          obtain ⟨b2, o2, rfl, -, hl2, cs2, ⟨lv2, mv2, eb⟩, hc2⟩ := HB.out.ns.at hb
          have hcs1 := ea.cells
          subst hcs1
          have hcs2 := eb.cells
          subst hcs2
          obtain ⟨A1, c1, rfl⟩ := ea.links.form
          obtain ⟨A2, c2, rfl⟩ := ea.new.form
          obtain ⟨A3, c3, rfl⟩ := eb.links.form
          obtain ⟨A4, c4, rfl⟩ := eb.new.form
          obtain ⟨S, hSe⟩ : ∃ S, S = EqS W #[.slice Aa al.length ca, .slice (some ⟨b1, o1, none⟩) ns.length cn, ev] #[.slice Ab bl.length cb, .slice (some ⟨b2, o2, none⟩) ms.length cm, fv] := ⟨_, rfl⟩
          have bn := fun (p : Pt S) => (congrFun hSe p.val).mp p.property
          have CE := Lib.hid (fun (Wx : World) (hx : Below W.heap.size W Wx) => requalNodeW Wx a b _ _ _ _ _ _ (ea.kp (Kp.of_below hx) (fun _ _ h => h)) (eb.kp (Kp.of_below hx) (fun _ _ h => h)))
          have xx := fun (p : Pt S) (i : Nat) (u : Value) hu => ((bn p).below.cell (p := ⟨b1, o1 + k * 11 + i, none⟩) hl1).trans (hc1 i u hu)
          have xy := fun (p : Pt S) (i : Nat) (u : Value) hu => ((bn p).below.cell (p := ⟨b2, o2 + k * 11 + i, none⟩) hl2).trans (hc2 i u hu)
          have x0 := fun (p : Pt S) => xx p 0 _ rfl
          have w0 := fun (p : Pt S) => xy p 0 _ rfl
          have x1 := fun (p : Pt S) => xx p 1 _ rfl
          have w1 := fun (p : Pt S) => xy p 1 _ rfl
          have x2 := fun (p : Pt S) => xx p 2 _ rfl
          have w2 := fun (p : Pt S) => xy p 2 _ rfl
          have x3 := fun (p : Pt S) => xx p 3 _ rfl
          have w3 := fun (p : Pt S) => xy p 3 _ rfl
          have x4 := fun (p : Pt S) => xx p 4 _ rfl
          have w4 := fun (p : Pt S) => xy p 4 _ rfl
          have x5 := fun (p : Pt S) => xx p 5 _ rfl
          have w5 := fun (p : Pt S) => xy p 5 _ rfl
          have x6 := fun (p : Pt S) => xx p 6 _ rfl
          have w6 := fun (p : Pt S) => xy p 6 _ rfl
          have x7 := fun (p : Pt S) => xx p 7 _ rfl
          have w7 := fun (p : Pt S) => xy p 7 _ rfl
          have x8 := fun (p : Pt S) => xx p 8 _ rfl
          have w8 := fun (p : Pt S) => xy p 8 _ rfl
          have x9 := fun (p : Pt S) => xx p 9 _ rfl
          have w9 := fun (p : Pt S) => xy p 9 _ rfl
          have x10 := fun (p : Pt S) => xx p 10 _ rfl
          have w10 := fun (p : Pt S) => xy p 10 _ rfl
          simp only [Nat.add_zero] at x0 w0
          have z0 := fun (p : Pt S) => rboxL (bn p).ha 1 rfl
          have z1 := fun (p : Pt S) => rboxL (bn p).hb 1 rfl
          have NE : Nonempty (Pt S) := ⟨⟨wr, (congrFun hSe wr).mpr hst⟩⟩
          have HDD := Lib.hid ((congrFun hSe wr.drew).mpr hst.drew)
          have SE := Lib.hid hSe
          have KPP := Lib.hid bn
          have e3 : (0 : Int) ≤ (k : Int) := by omega
          have e4 : (k : Int) < (ns.length : Int) := by omega
          have e5 : (k : Int) < (ms.length : Int) := by have := HL.out.2; omega
          have HX := Lib.hid (And.intro ha hb)
          have HQ := Lib.hid hq
          have HK := Lib.hid hkn
          clear hc1 hc2 ha hb hq hkn ea eb hst bn hSe xx xy
          by_cases has : a = b
          · rw [decide_eq_true has] at CE
            have HQ2 := Lib.hid (show ∀ j, j < k + 1 → ns[j]? = ms[j]? from fun j hj => by
              rcases Nat.lt_or_ge j k with h1 | h1
              · exact HQ.out j h1
              · rw [show j = k by omega, HX.out.1, HX.out.2, has])
            clear has
            go_wp2_with fail
            refine wp_region_class (S := S) HDD.out (by kernel_rfl) (by kernel_rfl) ?_
            repeat (go_big_quiet_step ((go_at_call 35; refine (CE.out _ (KPP.out _).below).mono ?_; rintro e w' ⟨rfl, hbel⟩; exact ⟨rfl, ⟨w', (congrFun SE.out w').mpr ((KPP.out _).step hbel)⟩, rfl⟩)))
            refine wpQuiet_nil ?_
            rintro wq ⟨⟨_, hW⟩, rfl⟩
            have HF := Lib.hid ((congrFun SE.out wq).mp hW)
            clear x0 w0 x1 w1 x2 w2 x3 w3 x4 w4 x5 w5 x6 w6 x7 w7 x8 w8 x9 w9 x10 w10 z0 z1 NE hW y1
            go_wp2
            exact ⟨⟨k + 1, by go_num, HK.out, HQ2.out, HF.out⟩, by simp [intOf]; have := HK.out; omega⟩
          · rw [decide_eq_false has] at CE
            have HR := Lib.hid (NO.out (fun h => has (by
              have h1 := HX.out.1
              rw [h.2.1, HX.out.2] at h1
              exact (Option.some.inj h1).symm)))
            clear has
            go_wp2_with fail
            refine wp_region_class (S := S) HDD.out (by kernel_rfl) (by kernel_rfl) ?_
            repeat (go_big_quiet_step ((go_at_call 35; refine (CE.out _ (KPP.out _).below).mono ?_; rintro e w' ⟨rfl, hbel⟩; exact ⟨rfl, ⟨w', (congrFun SE.out w').mpr ((KPP.out _).step hbel)⟩, rfl⟩)))
            refine wpQuiet_nil ?_
            rintro wq ⟨⟨_, hW⟩, rfl⟩
            have HF := Lib.hid ((congrFun SE.out wq).mp hW)
            clear x0 w0 x1 w1 x2 w2 x3 w3 x4 w4 x5 w5 x6 w6 x7 w7 x8 w8 x9 w9 x10 w10 z0 z1 NE hW y1
            go_wp2
            go_ret
            exact ⟨by rw [HR.out]; rfl, HF.out.below⟩
        · obtain rfl : k = ns.length := by omega
          have HF := Lib.hid (YES.out HAB.out (list_eq HL.out.2 hq) HES.out)
          have HE3 := Lib.hid hst
          clear hq hkn hst
          go_wp2
          go_ret
          exact ⟨by rw [HF.out]; rfl, HE3.out.below⟩
end Go.Proofs.Ytonkbjdeaneicaa
