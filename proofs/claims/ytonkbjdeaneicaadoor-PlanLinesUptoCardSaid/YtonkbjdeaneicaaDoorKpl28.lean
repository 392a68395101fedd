/- `same` of the law package: two plans, field by field. Printed by wip/bin/samep.py. PlanLines: plans have the same Text just if they are the same; a line for each part. -/
import Derived.Test.YtonkbjdeaneicaaDoorKpl21
import Derived.Test.YtonkbjdeaneicaaDoorKpl22
import Derived.Test.YtonkbjdeaneicaaDoorKpl25
import Derived.Test.YtonkbjdeaneicaaDoorKpl27
namespace Go.Proofs.YtonkbjdeaneicaaDoor
open Go.RowKit Pln Classical Go.Maps

theorem neq_lnk2 (a b : Int × Int) (w : World) : (binOp .neq 56 (.agg #[.int .i64 a.1, .int .i64 a.2]) (.agg #[.int .i64 b.1, .int .i64 b.2])).run Tryd.prog w = .ok (.bool (!decide (a = b))) w := by
  obtain ⟨a1, a2⟩ := a
  obtain ⟨b1, b2⟩ := b
  rw [show decide ((a1, a2) = (b1, b2)) = decide (a1 = b1 ∧ a2 = b2) from by simp only [Prod.mk.injEq]]
  by_cases h1 : a1 = b1
  · by_cases h2 : a2 = b2
    · simp [go_sem, h1, h2]
    · simp [go_sem, h1, h2]
  · simp [go_sem, h1]
/-- The worlds of `same`: two boxes ahead of all. -/
structure SmS (W : World) (a b : Array Value) (wr : World) : Prop where
  ha : wr.heap[W.heap.size]? = some (.cells a 26 (0, 0))
  hb : wr.heap[W.heap.size + 1]? = some (.cells b 26 (0, 0))
  below : Below W.heap.size W wr
section
variable {W wr wr' : World} {a b : Array Value}
theorem SmS.lt (h : SmS W a b wr) : W.heap.size + 1 < wr.heap.size := lt_of_heap h.hb
theorem SmS.step (h : SmS W a b wr) (hx : Below wr.heap.size wr wr') : SmS W a b wr' :=
  ⟨(hx.block _ (by have := h.lt; omega)).trans h.ha, (hx.block _ h.lt).trans h.hb, h.below.trans (hx.mono h.below.size)⟩
theorem SmS.drew (h : SmS W a b wr) : SmS W a b wr.drew := h.step (Below.refl _ _).drew
theorem SmS.start : SmS W a b ((W.alloc (.cells a 26)).alloc (.cells b 26)) := by
  refine ⟨?_, ?_, ((Below.refl _ _).alloc (Nat.le_refl _) _).alloc (by simp) _⟩
  · rw [Below.heap_alloc _ _ _ (by simp)]
    exact heap_alloc_new W _
  · have := heap_alloc_new (W.alloc (.cells a 26)) (.cells b 26)
    simpa using this
end
set_option maxRecDepth 200000 in
set_option maxHeartbeats 16000000 in
theorem samePlW {F G : Nat → Prop} (W : World) (av nv ev bv mv fv : Value) (al bl : List Shp) (ns ms : List Nd) (es fs : List Int) (h : RPl F W av nv ev al ns es) (h' : RPl G W bv mv fv bl ms fs) (l1 : al.length ≤ 1000000000) (l2 : ns.length ≤ 1000000000) (l3 : bl.length ≤ 1000000000) (l4 : ms.length ≤ 1000000000) :
    Calls Tryd.prog 20 #[.agg #[av, nv, ev], .agg #[bv, mv, fv]] W fun e W' => e = .returned (.bool (decide (al = bl ∧ ns = ms ∧ es = fs))) ∧ Below W.heap.size W W' := by
  have HA := Lib.hid h
  have HB := Lib.hid h'
  have EI := Lib.hid (fun (Wx : World) (hb : Below W.heap.size W Wx) => equalIntsW ev fv es fs Wx ((HA.out.below hb).en) ((HB.out.below hb).en))
  obtain ⟨Aa, ca, rfl⟩ := h.al.form
  obtain ⟨An, cn, rfl⟩ := h.ns.form
  obtain ⟨Ab, cb, rfl⟩ := h'.al.form
  obtain ⟨Am, cm, rfl⟩ := h'.ns.form
  obtain ⟨R, hR⟩ : ∃ R, decide (al = bl ∧ ns = ms ∧ es = fs) = R := ⟨_, rfl⟩
  rw [hR]
  have NO := Lib.hid (show ¬ (al = bl ∧ ns = ms ∧ es = fs) → R = false from fun h => by rw [← hR]; exact decide_eq_false h)
  have YES := Lib.hid (show al = bl → ns = ms → es = fs → R = true from fun h1 h2 h3 => by rw [← hR]; exact decide_eq_true ⟨h1, h2, h3⟩)
  clear hR h h'
  have h80 : SmS W #[.slice Aa al.length ca, .slice An ns.length cn, ev] #[.slice Ab bl.length cb, .slice Am ms.length cm, fv] ((W.alloc (.cells #[.slice Aa al.length ca, .slice An ns.length cn, ev] 26)).alloc (.cells #[.slice Ab bl.length cb, .slice Am ms.length cm, fv] 26)) := SmS.start
  have C1 := Lib.hid (EI.out _ h80.below)
  have HB2 := Lib.hid h80
  clear h80 EI
  go_enter Tryd.func20, Tryd.ntmps20
  by_cases hl1 : al.length = bl.length
  case neg =>
    have e1 : ((al.length : Int) != (bl.length : Int)) = true := by simp; omega
    have HF := Lib.hid (NO.out (fun h => hl1 (by rw [h.1])))
    clear hl1
    go_wp2
    go_ret
    exact ⟨by rw [HF.out]; rfl, HB2.out.below⟩
  have e1 : ((al.length : Int) != (bl.length : Int)) = false := by simp; omega
  by_cases hl2 : ns.length = ms.length
  case neg =>
    have e2 : ((ns.length : Int) != (ms.length : Int)) = true := by simp; omega
    have HF := Lib.hid (NO.out (fun h => hl2 (by rw [h.2.1])))
    clear hl1 hl2
    go_wp2
    go_ret
    exact ⟨by rw [HF.out]; rfl, HB2.out.below⟩
  have e2 : ((ns.length : Int) != (ms.length : Int)) = false := by simp; omega
  have HL := Lib.hid (And.intro hl1 hl2)
  clear hl1 hl2
  go_wp2_with fail
  refine C1.out.mono ?_
  rintro e w2 ⟨rfl, hb2⟩
  have HE2 := Lib.hid (HB2.out.step hb2)
  clear hb2 C1
  by_cases hes : es = fs
  case neg =>
    have HF := Lib.hid (NO.out (fun h => hes h.2.2))
    rw [show eqB es fs = false from eqB_ne hes]
    clear hes
    go_wp2
    go_ret
    exact ⟨by rw [HF.out]; rfl, HE2.out.below⟩
  rw [show eqB es fs = true from eqB_eq hes]
  have HES := Lib.hid hes
  clear hes HB2
  go_wp2
  go_loopw [5] (fun iv wr => ∃ k : Nat, iv = .int .i64 k ∧ k ≤ al.length ∧ (∀ j, j < k → al[j]? = bl[j]?) ∧ SmS W #[.slice Aa al.length ca, .slice An ns.length cn, ev] #[.slice Ab bl.length cb, .slice Am ms.length cm, fv] wr) (fun iv _ => al.length - (intOf iv).toNat)
  case atStart => exact ⟨0, rfl, Nat.zero_le _, fun j h => by omega, HE2.out⟩
  case round =>
    obtain ⟨k, rfl, hk, hq, hst⟩ := hrel
    clear HE2
    have hlt := hst.lt
    have y0 := rboxL hst.ha 0 rfl
    have y1 := rboxL hst.ha 1 rfl
    by_cases hkn : k < al.length
    · obtain ⟨a, ha⟩ : ∃ a, al[k]? = some a := ⟨_, List.getElem?_eq_getElem hkn⟩
      obtain ⟨b, hb⟩ : ∃ b, bl[k]? = some b := ⟨_, List.getElem?_eq_getElem (by have := HL.out.1; omega)⟩
      obtain ⟨b1, o1, rfl, -, hl1, cs1, ⟨v1, rfl, -, ea⟩, hc1⟩ := HA.out.al.at ha
      obtain ⟨b2, o2, rfl, -, hl2, cs2, ⟨v2, rfl, -, eb⟩, hc2⟩ := HB.out.al.at hb
      obtain ⟨A1, c1, rfl⟩ := ea.form
      obtain ⟨A2, c2, rfl⟩ := eb.form
      obtain ⟨S, hSe⟩ : ∃ S, S = SmS W #[.slice (some ⟨b1, o1, none⟩) al.length ca, .slice An ns.length cn, ev] #[.slice (some ⟨b2, o2, none⟩) bl.length cb, .slice Am ms.length cm, fv] := ⟨_, rfl⟩
      have bn := fun (p : Pt S) => (congrFun hSe p.val).mp p.property
      have CE := Lib.hid (fun (Wx : World) (hx : Below W.heap.size W Wx) => equalIntsW _ _ a.cells b.cells Wx (ea.keep (Kp.of_below hx)) (eb.keep (Kp.of_below hx)))
      have x0 := fun (p : Pt S) => ((bn p).below.cell (p := ⟨b1, o1 + k * 2 + 0, none⟩) hl1).trans (hc1 0 _ rfl)
      have x1 := fun (p : Pt S) => ((bn p).below.cell (p := ⟨b1, o1 + k * 2 + 1, none⟩) hl1).trans (hc1 1 _ rfl)
      have x2 := fun (p : Pt S) => ((bn p).below.cell (p := ⟨b2, o2 + k * 2 + 0, none⟩) hl2).trans (hc2 0 _ rfl)
      have x3 := fun (p : Pt S) => ((bn p).below.cell (p := ⟨b2, o2 + k * 2 + 1, none⟩) hl2).trans (hc2 1 _ rfl)
      simp only [Nat.add_zero] at x0 x2
      have z0 := fun (p : Pt S) => rboxL (bn p).ha 0 rfl
      have z1 := fun (p : Pt S) => rboxL (bn p).hb 0 rfl
      have NE : Nonempty (Pt S) := ⟨⟨wr, (congrFun hSe wr).mpr hst⟩⟩
      have HDD := Lib.hid ((congrFun hSe wr.drew).mpr hst.drew)
      have SE := Lib.hid hSe
      have KPP := Lib.hid bn
      have e3 : (0 : Int) ≤ (k : Int) := by omega
      have e4 : (k : Int) < (al.length : Int) := by omega
      have e5 : (k : Int) < (bl.length : Int) := by have := HL.out.1; omega
      have HX := Lib.hid (And.intro ha hb)
      have HQ := Lib.hid hq
      have HK := Lib.hid hkn
      have HNE := Lib.hid (show ¬ a = b → R = false from fun hne => NO.out (fun h => hne (by
          have h1 := HX.out.1
          rw [h.1, HX.out.2] at h1
          exact (Option.some.inj h1).symm)))
      clear hc1 hc2 ha hb hq hkn ea eb hst bn hSe
      by_cases hpr : a.pred = b.pred
      · have HPR := Lib.hid hpr
        rw [← hpr] at x2
        have hnp : (a.pred != a.pred) = false := by simp
        clear hpr
        by_cases has : a.cells = b.cells
        · rw [eqB_eq has] at CE
          have HQ2 := Lib.hid (show ∀ j, j < k + 1 → al[j]? = bl[j]? from fun j hj => by
            rcases Nat.lt_or_ge j k with h1 | h1
            · exact HQ.out j h1
            · rw [show j = k by omega, HX.out.1, HX.out.2]
              have h2 := HPR.out
              obtain ⟨_, _⟩ := a
              obtain ⟨_, _⟩ := b
              simp only at h2 has
              rw [h2, has])
          clear has
          go_wp2_with fail
          refine wp_region_class (S := S) HDD.out (by kernel_rfl) (by kernel_rfl) ?_
          repeat (go_big_quiet_step ((go_at_call 12; refine (CE.out _ (KPP.out _).below).mono ?_; rintro e w' ⟨rfl, hbel⟩; exact ⟨rfl, ⟨w', (congrFun SE.out w').mpr ((KPP.out _).step hbel)⟩, rfl⟩)))
          refine wpQuiet_nil ?_
          rintro wq ⟨⟨_, hW⟩, rfl⟩
          have HF := Lib.hid ((congrFun SE.out wq).mp hW)
          clear x0 x1 x2 x3 z0 z1 NE hW y0 y1
          go_wp2
          exact ⟨⟨k + 1, by go_num, HK.out, HQ2.out, HF.out⟩, by simp [intOf]; have := HK.out; omega⟩
        · rw [eqB_ne has] at CE
          have HR := Lib.hid (HNE.out (fun h => has (by rw [h])))
          clear has
          go_wp2_with fail
          refine wp_region_class (S := S) HDD.out (by kernel_rfl) (by kernel_rfl) ?_
          repeat (go_big_quiet_step ((go_at_call 12; refine (CE.out _ (KPP.out _).below).mono ?_; rintro e w' ⟨rfl, hbel⟩; exact ⟨rfl, ⟨w', (congrFun SE.out w').mpr ((KPP.out _).step hbel)⟩, rfl⟩)))
          refine wpQuiet_nil ?_
          rintro wq ⟨⟨_, hW⟩, rfl⟩
          have HF := Lib.hid ((congrFun SE.out wq).mp hW)
          clear x0 x1 x2 x3 z0 z1 NE hW y0 y1
          go_wp2
          go_ret
          exact ⟨by rw [HR.out]; rfl, HF.out.below⟩
      · have HR := Lib.hid (HNE.out (fun h => hpr (by rw [h])))
        have hnp : (a.pred != b.pred) = true := by simpa using hpr
        clear hpr
        go_wp2_with fail
        refine wp_region_class (S := S) HDD.out (by kernel_rfl) (by kernel_rfl) ?_
        repeat (go_big_quiet_step ((go_at_call 12; refine (CE.out _ (KPP.out _).below).mono ?_; rintro e w' ⟨rfl, hbel⟩; exact ⟨rfl, ⟨w', (congrFun SE.out w').mpr ((KPP.out _).step hbel)⟩, rfl⟩)))
        refine wpQuiet_nil ?_
        rintro wq ⟨⟨_, hW⟩, rfl⟩
        have HF := Lib.hid ((congrFun SE.out wq).mp hW)
        clear x0 x1 x2 x3 z0 z1 NE hW y0 y1
        go_wp2
        go_ret
        exact ⟨by rw [HR.out]; rfl, HF.out.below⟩
    · obtain rfl : k = al.length := by omega
      have HAB := Lib.hid (list_eq HL.out.1 hq)
      have HE2 := Lib.hid hst
      clear hq hkn hst
      go_wp2
      clear y0 y1 hlt
      go_loopw [6] (fun iv wr => ∃ k : Nat, iv = .int .i64 k ∧ k ≤ ns.length ∧ (∀ j, j < k → ns[j]? = ms[j]?) ∧ SmS W #[.slice Aa al.length ca, .slice An ns.length cn, ev] #[.slice Ab bl.length cb, .slice Am ms.length cm, fv] wr) (fun iv _ => ns.length - (intOf iv).toNat)
      case atStart => exact ⟨0, rfl, Nat.zero_le _, fun j h => by omega, HE2.out⟩
      case round =>
        obtain ⟨k, rfl, hk, hq, hst⟩ := hrel
        clear HE2
        have hlt := hst.lt
        have y1 := rboxL hst.ha 1 rfl
        by_cases hkn : k < ns.length
        · obtain ⟨a, ha⟩ : ∃ a, ns[k]? = some a := ⟨_, List.getElem?_eq_getElem hkn⟩
          obtain ⟨b, hb⟩ : ∃ b, ms[k]? = some b := ⟨_, List.getElem?_eq_getElem (by have := HL.out.2; omega)⟩
          obtain ⟨b1, o1, rfl, -, hl1, cs1, ⟨lv1, mv1, ea⟩, hc1⟩ := (HA.out.below hst.below).ns.at ha
          obtain ⟨b2, o2, rfl, -, hl2, cs2, ⟨lv2, mv2, eb⟩, hc2⟩ := (HB.out.below hst.below).ns.at hb
          have hcs1 := ea.cells
          subst hcs1
          have hcs2 := eb.cells
          subst hcs2
          have HLA := Lib.hid ea.links
          have HLB := Lib.hid eb.links
          have CE := Lib.hid (fun (Wx : World) (hx : Below wr.heap.size wr Wx) => equalIntsW _ _ a.new b.new Wx (ea.new.keep (Kp.of_below hx)) (eb.new.keep (Kp.of_below hx)))
          have hll := ea.links.len
          unfold maxLen at hll
          obtain ⟨Al, cl, rfl⟩ := ea.links.form
          obtain ⟨Am', cm', rfl⟩ := ea.new.form
          obtain ⟨Bl, dl, rfl⟩ := eb.links.form
          obtain ⟨Bm, dm, rfl⟩ := eb.new.form
          obtain ⟨wa, hwa⟩ : ∃ wa, wa = wr.alloc (.cells #[.int .i64 a.kind, .int .i64 a.parent, .int .i64 a.alpha, .slice Al a.links.length cl, .slice Am' a.new.length cm', .int .i64 a.test.op, .bool a.test.l.v, .int .i64 a.test.l.n, .bool a.test.r.v, .int .i64 a.test.r.n, .int .i64 a.width] 40) := ⟨_, rfl⟩
          have hba : Below wr.heap.size wr wa := by rw [hwa]; exact (Below.refl _ _).alloc (Nat.le_refl _) _
          have hsa := hst.step hba
          have hsz : wa.heap.size = wr.heap.size + 1 := by rw [hwa]; simp
          have y1a := rboxL hsa.hb 1 rfl
          have c0 := hc1 0 _ rfl
          have c1 := hc1 1 _ rfl
          have c2 := hc1 2 _ rfl
          have c3 := hc1 3 _ rfl
          have c4 := hc1 4 _ rfl
          have c5 := hc1 5 _ rfl
          have c6 := hc1 6 _ rfl
          have c7 := hc1 7 _ rfl
          have c8 := hc1 8 _ rfl
          have c9 := hc1 9 _ rfl
          have c10 := hc1 10 _ rfl
          have dd := fun i u hu => (hba.cell (p := ⟨b2, o2 + k * 11 + i, none⟩) hl2).trans (hc2 i u hu)
          have d0 := dd 0 _ rfl
          have d1 := dd 1 _ rfl
          have d2 := dd 2 _ rfl
          have d3 := dd 3 _ rfl
          have d4 := dd 4 _ rfl
          have d5 := dd 5 _ rfl
          have d6 := dd 6 _ rfl
          have d7 := dd 7 _ rfl
          have d8 := dd 8 _ rfl
          have d9 := dd 9 _ rfl
          have d10 := dd 10 _ rfl
          simp only [Nat.add_zero] at c0 d0
          have T := Lib.hid (two wr #[.int .i64 a.kind, .int .i64 a.parent, .int .i64 a.alpha, .slice Al a.links.length cl, .slice Am' a.new.length cm', .int .i64 a.test.op, .bool a.test.l.v, .int .i64 a.test.l.n, .bool a.test.r.v, .int .i64 a.test.r.n, .int .i64 a.width] #[.int .i64 b.kind, .int .i64 b.parent, .int .i64 b.alpha, .slice Bl b.links.length dl, .slice Bm b.new.length dm, .int .i64 b.test.op, .bool b.test.l.v, .int .i64 b.test.l.n, .bool b.test.r.v, .int .i64 b.test.r.n, .int .i64 b.width] 40 40)
          rw [← hwa] at T
          have HX := Lib.hid (And.intro ha hb)
          have HQ := Lib.hid hq
          have HK := Lib.hid hkn
          have HST := Lib.hid hst
          have HNE := Lib.hid (show ¬ a = b → R = false from fun hne => NO.out (fun h => hne (by
                have h1 := HX.out.1
                rw [h.2.1, HX.out.2] at h1
                exact (Option.some.inj h1).symm)))
          have e3 : (0 : Int) ≤ (k : Int) := by omega
          have e4 : (k : Int) < (ns.length : Int) := by omega
          have e5 : (k : Int) < (ms.length : Int) := by have := HL.out.2; omega
          clear hc1 hc2 ha hb hq hkn ea eb hst hba hsa dd
          go_upto_region 12 with fail
          rw [← hwa]
          clear hwa c0 c1 c2 c3 c4 c5 c6 c7 c8 c9 c10
          go_upto_region 13 with fail
          clear d0 d1 d2 d3 d4 d5 d6 d7 d8 d9 d10
          obtain ⟨W2, hW2⟩ : ∃ W2, W2 = wa.alloc (.cells #[.int .i64 b.kind, .int .i64 b.parent, .int .i64 b.alpha, .slice Bl b.links.length dl, .slice Bm b.new.length dm, .int .i64 b.test.op, .bool b.test.l.v, .int .i64 b.test.l.n, .bool b.test.r.v, .int .i64 b.test.r.n, .int .i64 b.width] 40) := ⟨_, rfl⟩
          rw [← hW2] at T ⊢
          clear hW2 hsz
          have hD := Below.refl W2.heap.size W2
          have p0 := T.out.ca hD 0 rfl
          have p1 := T.out.ca hD 1 rfl
          have p2 := T.out.ca hD 2 rfl
          have p3 := T.out.ca hD 3 rfl
          have p4 := T.out.ca hD 4 rfl
          have p5 := T.out.ca hD 5 rfl
          have p6 := T.out.ca hD 6 rfl
          have p7 := T.out.ca hD 7 rfl
          have p8 := T.out.ca hD 8 rfl
          have p9 := T.out.ca hD 9 rfl
          have p10 := T.out.ca hD 10 rfl
          have q0 := T.out.cb hD 0 rfl
          have q1 := T.out.cb hD 1 rfl
          have q2 := T.out.cb hD 2 rfl
          have q3 := T.out.cb hD 3 rfl
          have q4 := T.out.cb hD 4 rfl
          have q5 := T.out.cb hD 5 rfl
          have q6 := T.out.cb hD 6 rfl
          have q7 := T.out.cb hD 7 rfl
          have q8 := T.out.cb hD 8 rfl
          have q9 := T.out.cb hD 9 rfl
          have q10 := T.out.cb hD 10 rfl
          have hne := fun W => neq_tst a.test b.test W
          have HW2 := Lib.hid (T.out.below)
          have HS2 := Lib.hid (HST.out.step T.out.below)
          clear hD
          by_cases c1 : a.kind = b.kind
          · have Hc1 := Lib.hid c1
            rw [← c1] at q0
            clear c1
            by_cases c2 : a.parent = b.parent
            · have Hc2 := Lib.hid c2
              rw [← c2] at q1
              clear c2
              by_cases c3 : a.alpha = b.alpha
              · have Hc3 := Lib.hid c3
                rw [← c3] at q2
                clear c3
                by_cases c4 : a.width = b.width
                · have Hc4 := Lib.hid c4
                  rw [← c4] at q10
                  clear c4
                  by_cases c5 : a.test = b.test
                  · have Hc5 := Lib.hid c5
                    rw [decide_eq_true c5] at hne
                    simp only [Bool.not_true] at hne
                    clear c5
                    by_cases c6 : a.links.length = b.links.length
                    · have Hc6 := Lib.hid c6
                      rw [← c6] at q3
                      have E1 := Lib.hid (CE.out W2 T.out.below)
                      clear c6
                      go_wp2_with fail
                      refine E1.out.mono ?_
                      rintro e w3 ⟨rfl, hb3⟩
                      have HB3 := Lib.hid hb3
                      have HS3 := Lib.hid (HS2.out.step hb3)
                      clear hb3 E1 p0 p1 p2 p3 p4 p5 p6 p7 p8 p9 p10 q0 q1 q2 q3 q4 q5 q6 q7 q8 q9 q10 hne
                      by_cases c7 : a.new = b.new
                      · rw [eqB_eq c7]
                        have Hc7 := Lib.hid c7
                        clear c7
                        go_wp2
                        obtain ⟨wo, rfl⟩ : ∃ wo : World, wo = wr := ⟨_, rfl⟩
                        go_loopw [9] (fun jv wr => ∃ j : Nat, jv = .int .i64 j ∧ j ≤ a.links.length ∧ (∀ i, i < j → a.links[i]? = b.links[i]?) ∧ Below w3.heap.size w3 wr) (fun jv _ => a.links.length - (intOf jv).toNat)
                        case atStart => exact ⟨0, rfl, Nat.zero_le _, fun i h => by omega, Below.refl _ _⟩
                        case round =>
                          obtain ⟨j, rfl, hj, hq, hb⟩ := hrel
                          have hB2 := HB3.out.trans (hb.mono HB3.out.size)
                          have p3 := T.out.ca hB2 3 rfl
                          have q3 := T.out.cb hB2 3 rfl
                          by_cases hjn : j < a.links.length
                          · obtain ⟨x, hx⟩ : ∃ x, a.links[j]? = some x := ⟨_, List.getElem?_eq_getElem hjn⟩
                            obtain ⟨y, hy⟩ : ∃ y, b.links[j]? = some y := ⟨_, List.getElem?_eq_getElem (by have := Hc6.out; omega)⟩
                            obtain ⟨b1', o1', cs1, rfl, ⟨rfl, _⟩, hc1⟩ := HLA.out.rd hx
                            obtain ⟨b2', o2', cs2, rfl, ⟨rfl, _⟩, hc2⟩ := HLB.out.rd hy
                            have d0 := hc1 _ (T.out.all hB2) 0 _ rfl
                            have d1 := hc1 _ (T.out.all hB2) 1 _ rfl
                            have f0 := hc2 _ (T.out.all hB2) 0 _ rfl
                            have f1 := hc2 _ (T.out.all hB2) 1 _ rfl
                            simp only [Nat.add_zero] at d0 f0
                            have hne := fun W => neq_lnk2 x y W
                            have e1 : (0 : Int) ≤ (j : Int) := by omega
                            have e2 : (j : Int) < (a.links.length : Int) := by omega
                            have e3 : (j : Int) < (b.links.length : Int) := by have := Hc6.out; omega
                            have HXJ := Lib.hid hx
                            have HYJ := Lib.hid hy
                            have HQJ := Lib.hid hq
                            have HJ := Lib.hid hjn
                            have HBJ := Lib.hid hb
                            clear hc1 hc2 hx hy hq hjn hb hB2
                            by_cases hxy : x = y
                            · rw [decide_eq_true hxy] at hne
                              simp only [Bool.not_true] at hne
                              have HQ2 := Lib.hid (show ∀ i, i < j + 1 → a.links[i]? = b.links[i]? from fun i hi => by
                                rcases Nat.lt_or_ge i j with h1 | h1
                                · exact HQJ.out i h1
                                · rw [show i = j by omega, HXJ.out, HYJ.out, hxy])
                              clear hxy
                              go_wp2
                              go_quiet (fail)
                              have HB2 := Lib.hid (below_drewN HBJ.out nq)
                              go_wp2
                              exact ⟨⟨j + 1, by go_num, HJ.out, HQ2.out, HB2.out⟩, by simp [intOf]; have := HJ.out; omega⟩
                            · rw [decide_eq_false hxy] at hne
                              simp only [Bool.not_false] at hne
                              have HF := Lib.hid (HNE.out (fun h => hxy (by
                                have h1 := HXJ.out
                                rw [h, HYJ.out] at h1
                                exact (Option.some.inj h1).symm)))
                              clear hxy
                              go_wp2
                              go_quiet (fail)
                              have HB2 := Lib.hid (HS3.out.step (below_drewN HBJ.out nq))
                              go_wp2
                              go_ret
                              exact ⟨by rw [HF.out]; rfl, HB2.out.below⟩
                          · obtain rfl : j = a.links.length := by omega
                            have HAE := Lib.hid (show a = b by
                              have h1 := Hc1.out
                              have h2 := Hc2.out
                              have h3 := Hc3.out
                              have h4 := Hc4.out
                              have h5 := Hc5.out
                              have h7 := Hc7.out
                              have h6 : a.links = b.links := list_eq Hc6.out hq
                              obtain ⟨_, _, _, _, _, _, _⟩ := a
                              obtain ⟨_, _, _, _, _, _, _⟩ := b
                              simp only at h1 h2 h3 h4 h5 h6 h7
                              subst h1 h2 h3 h4 h5 h6 h7
                              rfl)
                            have HQ2 := Lib.hid (show ∀ j, j < k + 1 → ns[j]? = ms[j]? from fun j hj => by
                              rcases Nat.lt_or_ge j k with h1 | h1
                              · exact HQ.out j h1
                              · rw [show j = k by omega, HX.out.1, HX.out.2, HAE.out])
                            have HF := Lib.hid (HS3.out.step hb)
                            clear hq hjn hb hB2
                            go_wp2
                            exact ⟨⟨k + 1, by go_num, HK.out, HQ2.out, HF.out⟩, by simp [intOf]; have := HK.out; omega⟩
                      · rw [eqB_ne c7]
                        have HF := Lib.hid (HNE.out (fun h => c7 (by rw [h])))
                        clear c7
                        go_wp2
                        go_ret
                        exact ⟨by rw [HF.out]; rfl, HS3.out.below⟩
                    · have HF := Lib.hid (HNE.out (fun h => c6 (by rw [h])))
                      have d1 : ((a.links.length : Int) != (b.links.length : Int)) = true := by simp; omega
                      have d2 : ((a.links.length : Int) == (b.links.length : Int)) = false := by simp; omega
                      clear c6
                      go_wp2
                      go_ret
                      exact ⟨by rw [HF.out]; rfl, HS2.out.below⟩
                  · rw [decide_eq_false c5] at hne
                    simp only [Bool.not_false] at hne
                    have HF := Lib.hid (HNE.out (fun h => c5 (by rw [h])))
                    clear c5
                    go_wp2
                    go_ret
                    exact ⟨by rw [HF.out]; rfl, HS2.out.below⟩
                · have HF := Lib.hid (HNE.out (fun h => c4 (by rw [h])))
                  have d1 : (a.width != b.width) = true := by simpa using c4
                  have d2 : (a.width == b.width) = false := by simpa using c4
                  clear c4
                  go_wp2
                  go_ret
                  exact ⟨by rw [HF.out]; rfl, HS2.out.below⟩
              · have HF := Lib.hid (HNE.out (fun h => c3 (by rw [h])))
                have d1 : (a.alpha != b.alpha) = true := by simpa using c3
                have d2 : (a.alpha == b.alpha) = false := by simpa using c3
                clear c3
                go_wp2
                go_ret
                exact ⟨by rw [HF.out]; rfl, HS2.out.below⟩
            · have HF := Lib.hid (HNE.out (fun h => c2 (by rw [h])))
              have d1 : (a.parent != b.parent) = true := by simpa using c2
              have d2 : (a.parent == b.parent) = false := by simpa using c2
              clear c2
              go_wp2
              go_ret
              exact ⟨by rw [HF.out]; rfl, HS2.out.below⟩
          · have HF := Lib.hid (HNE.out (fun h => c1 (by rw [h])))
            have d1 : (a.kind != b.kind) = true := by simpa using c1
            have d2 : (a.kind == b.kind) = false := by simpa using c1
            clear c1
            go_wp2
            go_ret
            exact ⟨by rw [HF.out]; rfl, HS2.out.below⟩
        · obtain rfl : k = ns.length := by omega
          have HF := Lib.hid (YES.out HAB.out (list_eq HL.out.2 hq) HES.out)
          have HE3 := Lib.hid hst
          clear hq hkn hst
          go_wp2
          go_ret
          exact ⟨by rw [HF.out]; rfl, HE3.out.below⟩
end Go.Proofs.YtonkbjdeaneicaaDoor

namespace Go.Proofs.YtonkbjdeaneicaaDoor
open Go.RowKit Pln Classical Go.Maps

/-- Byte k. -/
def tB (T : List UInt8) (k : Nat) : UInt8 := T.getD k 0
theorem tB_at {T : List UInt8} {k : Nat} (h : k < (bs T).size) : tB T k = (bs T)[k] := by
  have h2 : k < T.length := by rwa [bs_size] at h
  unfold tB
  rw [List.getD_eq_getElem?_getD, List.getElem?_eq_getElem h2]
  rfl
theorem run_byte (T : List UInt8) (k : Nat) (h : k < (bs T).size) (W : World) : (Instr.index 9 (.string (bs T)) (.int .i64 (k : Int))).run Tryd.prog W = .ok (.int .u8 ((tB T k).toNat : Int)) W := by
  rw [tB_at h]
  simp [go_sem, h]
theorem toList_bs (T : List UInt8) : (bs T).toList = T := by rw [Lib.toList_data]; simp [bs]
def endsN (T : List UInt8) (k : Nat) : Nat := (T.take k).count 10
theorem endsN_le (T : List UInt8) (k : Nat) : endsN T k ≤ T.length := by
  unfold endsN
  have := List.count_le_length (a := (10 : UInt8)) (l := T.take k)
  rw [List.length_take] at this
  omega
theorem endsN_next {T : List UInt8} {k : Nat} (h : k < T.length) : endsN T (k + 1) = endsN T k + (if tB T k = 10 then 1 else 0) := by
  unfold endsN tB
  rw [List.take_add_one, List.getElem?_eq_getElem h, List.count_append, List.getD_eq_getElem?_getD, List.getElem?_eq_getElem h]
  simp only [Option.toList_some, Option.getD_some]
  by_cases h1 : T[k] = 10
  · rw [h1]; rfl
  · rw [if_neg h1]
    simp [h1]

set_option maxRecDepth 200000 in
set_option maxHeartbeats 8000000 in
theorem linesPW {F G : Nat → Prop} (v v' : Value) (rs rs' : List Rl) (W : World) (h : RRules F W v rs) (h' : RRules G W v' rs') (hS : rs.length ≤ 1048576 ∧ ∀ r ∈ rs, rlSm 1048576 r) (hS' : rs'.length ≤ 1048576 ∧ ∀ r ∈ rs', rlSm 1048576 r) (ht : Tab W) (ho : Ops W) :
    Calls Tryd.prog 5 #[v, v'] W fun e W' => e = .returned (.bool true) ∧ Below W.heap.size W W' := by
  have MW := Lib.hid (madeW v rs W h hS)
  have MW' := Lib.hid (fun (Wx : World) (hx : Below W.heap.size W Wx) => madeW v' rs' Wx (h'.kp (F' := G) (Kp.of_below hx) (fun _ _ h => h)) hS')
  obtain ⟨A, c, rfl⟩ := h.form
  obtain ⟨A', c', rfl⟩ := h'.form
  have hm := hS.1
  have hm' := hS'.1
  have TB := Lib.hid (fun (Wx : World) (hx : Below W.heap.size W Wx) => ht.below hx)
  have OB := Lib.hid (fun (Wx : World) (hx : Below W.heap.size W Wx) => ho.below hx)
  clear h hS ht ho h' hS'
  go_enter Tryd.func5, Tryd.ntmps5
  go_wp2_with fail
  refine MW.out.mono ?_
  rintro e W1 ⟨hb1, ⟨hmay, av, nv, ev, rfl, hP⟩ | ⟨_, rfl⟩⟩
  · have hC := cpl_of hmay hm
    obtain ⟨st, hst⟩ : ∃ st, (compF rs).1 = st := ⟨_, rfl⟩
    obtain ⟨es, hes⟩ : ∃ es, (compF rs).2 = es := ⟨_, rfl⟩
    rw [hst, hes] at hP hC
    have hel := hC.le
    have hel2 : (es.map fun (e : Nat) => (e : Int)).length = rs.length := by rw [List.length_map, hel]
    obtain ⟨A3, C3, rfl⟩ := hP.al.form
    obtain ⟨A2, C2, rfl⟩ := hP.ns.form
    obtain ⟨A1, C1, rfl⟩ := hP.en.form
    rw [hel2] at hP ⊢
    obtain ⟨w2, hw2⟩ : ∃ w2, w2 = W1.alloc (.cells #[.slice A3 st.al.length C3, .slice A2 st.ns.length C2, .slice A1 rs.length C1] 26) := ⟨_, rfl⟩
    have hx2 : Below (W1.heap.size + 1) (W1.alloc (.cells #[.slice A3 st.al.length C3, .slice A2 st.ns.length C2, .slice A1 rs.length C1] 26)) w2 := by rw [hw2]; exact Below.refl _ _
    have HX2 := Lib.hid hx2
    have HP := Lib.hid hP
    have HC := Lib.hid hC
    have HB1 := Lib.hid hb1
    have M2 := Lib.hid (MW'.out w2 (hb1.trans ((box_belowD hx2).mono hb1.size)))
    clear hmay hP hC hb1 hst hes hel MW hx2 MW'
    go_upto_region 4 with fail
    rw [← hw2]
    clear hw2
    go_wp2_with fail
    refine M2.out.mono ?_
    rintro e W3 ⟨hb3, ⟨hmay, av', nv', ev', rfl, hP'⟩ | ⟨_, rfl⟩⟩
    · have hC' := cpl_of hmay hm'
      obtain ⟨st', hst'⟩ : ∃ st, (compF rs').1 = st := ⟨_, rfl⟩
      obtain ⟨es', hes'⟩ : ∃ es, (compF rs').2 = es := ⟨_, rfl⟩
      rw [hst', hes'] at hP' hC'
      have hel2' : (es'.map fun (e : Nat) => (e : Int)).length = rs'.length := by rw [List.length_map, hC'.le]
      obtain ⟨A3', C3', rfl⟩ := hP'.al.form
      obtain ⟨A2', C2', rfl⟩ := hP'.ns.form
      obtain ⟨A1', C1', rfl⟩ := hP'.en.form
      rw [hel2'] at hP' ⊢
      obtain ⟨w4, hw4⟩ : ∃ w4, w4 = W3.alloc (.cells #[.slice A3' st'.al.length C3', .slice A2' st'.ns.length C2', .slice A1' rs'.length C1'] 26) := ⟨_, rfl⟩
      have hx4 : Below (W3.heap.size + 1) (W3.alloc (.cells #[.slice A3' st'.al.length C3', .slice A2' st'.ns.length C2', .slice A1' rs'.length C1'] 26)) w4 := by rw [hw4]; exact Below.refl _ _
      have hX3 := box_step HX2.out hb3
      have hX4 := box_step hX3 (box_belowD hx4)
      have hW4 := HB1.out.trans ((box_belowD hX4).mono HB1.out.size)
      have HP4 := HP.out.kp (F' := fun b => b < W1.heap.size) (Kp.of_below (box_belowD hX4)) (fun _ _ h => h)
      have HP4' := hP'.kp (F' := fun b => b < W3.heap.size) (Kp.of_below (box_belowD hx4)) (fun _ _ h => h)
      have TX := Lib.hid (cpl_text HC.out hm HP4 (TB.out _ hW4) (OB.out _ hW4))
      have TY := Lib.hid (fun (Wx : World) (hx : Below w4.heap.size w4 Wx) => cpl_text hC' hm' (HP4'.kp (F' := fun b => b < W3.heap.size) (Kp.of_below hx) (fun _ _ h => h)) (TB.out _ (hW4.trans (hx.mono hW4.size))) (OB.out _ (hW4.trans (hx.mono hW4.size))))
      have SA := Lib.hid (fun (Wx : World) (hx : Below w4.heap.size w4 Wx) => samePlW Wx _ _ _ _ _ _ st.al st'.al st.ns st'.ns (es.map fun (e : Nat) => (e : Int)) (es'.map fun (e : Nat) => (e : Int))
        (let q := HP4.kp (F' := fun b => b < W1.heap.size) (Kp.of_below hx) (fun _ _ h => h); ⟨q.al, q.ns, q.en⟩) (let q := HP4'.kp (F' := fun b => b < W3.heap.size) (Kp.of_below hx) (fun _ _ h => h); ⟨q.al, q.ns, q.en⟩) HC.out.la HC.out.ln hC'.la hC'.ln)
      obtain ⟨T, hT⟩ : ∃ T, allT st.al st.ns (es.map fun (e : Nat) => (e : Int)) = T := ⟨_, rfl⟩
      obtain ⟨T', hT'⟩ : ∃ T, allT st'.al st'.ns (es'.map fun (e : Nat) => (e : Int)) = T := ⟨_, rfl⟩
      have hcnt : T.count 10 = st.al.length + st.ns.length + rs.length := by rw [← hT, allT_lines, hel2]
      have hTl : T.length ≤ 3000000000000 := by rw [← hT]; exact allT_len ⟨HP4.al, HP4.ns, HP4.en⟩ HC.out.chk HC.out.la HC.out.ln (by rw [hel2]; omega)
      have hsame : (T = T') ↔ (st.al = st'.al ∧ st.ns = st'.ns ∧ (es.map fun (e : Nat) => (e : Int)) = (es'.map fun (e : Nat) => (e : Int))) := by
        constructor
        · intro e
          rw [← hT, ← hT'] at e
          exact allT_inj HC.out.chk.2.1 hC'.chk.2.1 e
        · rintro ⟨h1, h2, h3⟩
          rw [← hT, ← hT', h1, h2, h3]
      rw [hT] at TX
      rw [hT'] at TY
      have HSM := Lib.hid hsame
      have HCN := Lib.hid hcnt
      have hla := HC.out.la
      have hln := HC.out.ln
      have y0 := box_cellL hX4 0 rfl
      have y1 := box_cellL hX4 1 rfl
      have y2 := box_cellL hX4 2 rfl
      have HX4 := Lib.hid hX4
      have HX4' := Lib.hid hx4
      have HW4 := Lib.hid hW4
      clear hmay hP' hC' hst' hes' hel2' hel2 hb3 hx4 hX3 hX4 hW4 HP4 HP4' hT hT' hsame hcnt M2
      go_upto_region 7 with fail
      rw [← hw4]
      clear hw4
      go_wp2_with fail
      refine TX.out.mono ?_
      rintro e w5 ⟨rfl, hb5⟩
      have HB5 := Lib.hid hb5
      have hsz := bs_size T
      clear hb5 TX y0 y1 y2
      go_wp2
      go_loopw [10, 11] (fun cv iv wr => ∃ k : Nat, iv = .int .i64 k ∧ cv = .int .i64 (endsN T k) ∧ k ≤ T.length ∧ Below w4.heap.size w4 wr) (fun _ iv _ => T.length - (intOf iv).toNat)
      case atStart => exact ⟨0, rfl, rfl, Nat.zero_le _, HB5.out⟩
      case round =>
        obtain ⟨k, rfl, rfl, hk, hb⟩ := hrel
        clear HB5
        have hel := endsN_le T k
        by_cases hkn : k < T.length
        · have e1 : (k : Int) < ((bs T).size : Int) := by rw [hsz]; omega
          have e2 : (0 : Int) ≤ (k : Int) := by omega
          have hix := fun W => run_byte T k (by rw [hsz]; exact hkn) W
          have hnx := endsN_next hkn
          obtain ⟨bn, hbn⟩ : ∃ bn, endsN T k = bn := ⟨_, rfl⟩
          rw [hbn] at hnx hel ⊢
          have HK := Lib.hid hkn
          have HB := Lib.hid hb
          by_cases hc : tB T k = 10
          · rw [hc] at hix
            rw [if_pos hc] at hnx
            have HNX := Lib.hid hnx
            clear hc hnx hbn hb hkn hsz
            go_wp2
            exact ⟨⟨k + 1, by go_num, by rw [HNX.out]; simp, HK.out, HB.out⟩, by simp [intOf]; have := HK.out; omega⟩
          · rw [if_neg hc] at hnx
            have hcn : ((tB T k).toNat : Int) ≠ 10 := fun e => hc (by
              have : (tB T k).toNat = 10 := by omega
              exact UInt8.toNat_inj.1 (by rw [this]; rfl))
            have hcq : (((tB T k).toNat : Int) == 10) = false := by simpa using hcn
            obtain ⟨cc, hcc⟩ : ∃ cc, ((tB T k).toNat : Int) = cc := ⟨_, rfl⟩
            rw [hcc] at hix hcq
            have HNX := Lib.hid hnx
            clear hc hcn hcc hnx hbn hb hkn hsz
            go_wp2
            exact ⟨⟨k + 1, by go_num, by rw [HNX.out]; simp, HK.out, HB.out⟩, by simp [intOf]; have := HK.out; omega⟩
        · obtain rfl : k = T.length := by omega
          have hall : endsN T T.length = st.al.length + st.ns.length + rs.length := by
            unfold endsN
            rw [List.take_length]
            exact HCN.out
          rw [hall]
          have hX5 := box_step HX4.out hb
          have hX5' := box_step HX4'.out hb
          have hwb := HW4.out.trans (hb.mono HW4.out.size)
          have y0 := box_cellL hX5 0 rfl
          have y1 := box_cellL hX5 1 rfl
          have y2 := box_cellL hX5 2 rfl
          have e3 : ¬ (T.length : Int) < ((bs T).size : Int) := by rw [hsz]; omega
          have e4 : (((st.al.length + st.ns.length + rs.length : Nat) : Int)) = (st.al.length : Int) + (st.ns.length : Int) + (rs.length : Int) := by omega
          rw [e4]
          obtain ⟨S, hSe⟩ : ∃ S, S = fun Wx => Below w4.heap.size w4 Wx := ⟨_, rfl⟩
          have bn := fun (p : Pt S) => (congrFun hSe p.val).mp p.property
          have a0 := fun (p : Pt S) => box_cellL (box_step HX4.out (bn p)) 0 rfl
          have a1 := fun (p : Pt S) => box_cellL (box_step HX4.out (bn p)) 1 rfl
          have a2 := fun (p : Pt S) => box_cellL (box_step HX4.out (bn p)) 2 rfl
          have b0 := fun (p : Pt S) => box_cellL (box_step HX4'.out (bn p)) 0 rfl
          have b1 := fun (p : Pt S) => box_cellL (box_step HX4'.out (bn p)) 1 rfl
          have b2 := fun (p : Pt S) => box_cellL (box_step HX4'.out (bn p)) 2 rfl
          have NE : Nonempty (Pt S) := ⟨⟨wr, (congrFun hSe wr).mpr hb⟩⟩
          have HDD := Lib.hid ((congrFun hSe wr.drew).mpr (hb.trans ((Below.refl _ _).drew.mono hb.size)))
          have SE := Lib.hid hSe
          have KPP := Lib.hid bn
          have i1 : IntKind.i64.wrap ((st.al.length : Int) + (st.ns.length : Int)) = (st.al.length : Int) + (st.ns.length : Int) := IntWalk.i64_in _ (by omega)
          have i2 : IntKind.i64.wrap ((st.al.length : Int) + (st.ns.length : Int) + (rs.length : Int)) = (st.al.length : Int) + (st.ns.length : Int) + (rs.length : Int) := IntWalk.i64_in _ (by omega)
          clear hX5 hX5' hwb hb hkn hall bn hSe hsz hel e4
          by_cases hTT : T = T'
          · rw [decide_eq_true (HSM.out.1 hTT)] at SA
            have heq : ((bs T).toList == (bs T').toList) = true := by rw [hTT]; simp
            clear hTT
            go_wp2_with fail
            refine wp_region_class (S := S) HDD.out (by kernel_rfl) (by kernel_rfl) ?_
            repeat (go_big_quiet_step ((first
              | (go_at_call 9; with_reducible refine (TY.out _ (KPP.out _)).mono ?_; rintro e w' ⟨rfl, hbel⟩; exact ⟨rfl, ⟨w', (congrFun SE.out w').mpr ((KPP.out _).trans (hbel.mono (KPP.out _).size))⟩, rfl⟩)
              | (go_at_call 20; with_reducible refine (SA.out _ (KPP.out _)).mono ?_; rintro e w' ⟨rfl, hbel⟩; exact ⟨rfl, ⟨w', (congrFun SE.out w').mpr ((KPP.out _).trans (hbel.mono (KPP.out _).size))⟩, rfl⟩))))
            refine wpQuiet_nil ?_
            rintro wq ⟨⟨_, hW⟩, rfl⟩
            have HF := Lib.hid ((congrFun SE.out wq).mp hW)
            clear a0 a1 a2 b0 b1 b2 NE hW y0 y1 y2
            go_wp2
            go_ret
            exact ⟨rfl, HW4.out.trans (HF.out.mono HW4.out.size)⟩
          · rw [decide_eq_false (fun h => hTT (HSM.out.2 h))] at SA
            have heq : ((bs T).toList == (bs T').toList) = false := by
              rw [toList_bs, toList_bs]
              simpa using hTT
            clear hTT
            go_wp2_with fail
            refine wp_region_class (S := S) HDD.out (by kernel_rfl) (by kernel_rfl) ?_
            repeat (go_big_quiet_step ((first
              | (go_at_call 9; with_reducible refine (TY.out _ (KPP.out _)).mono ?_; rintro e w' ⟨rfl, hbel⟩; exact ⟨rfl, ⟨w', (congrFun SE.out w').mpr ((KPP.out _).trans (hbel.mono (KPP.out _).size))⟩, rfl⟩)
              | (go_at_call 20; with_reducible refine (SA.out _ (KPP.out _)).mono ?_; rintro e w' ⟨rfl, hbel⟩; exact ⟨rfl, ⟨w', (congrFun SE.out w').mpr ((KPP.out _).trans (hbel.mono (KPP.out _).size))⟩, rfl⟩))))
            refine wpQuiet_nil ?_
            rintro wq ⟨⟨_, hW⟩, rfl⟩
            have HF := Lib.hid ((congrFun SE.out wq).mp hW)
            clear a0 a1 a2 b0 b1 b2 NE hW y0 y1 y2
            go_wp2
            go_ret
            exact ⟨rfl, HW4.out.trans (HF.out.mono HW4.out.size)⟩
    · have HB3 := Lib.hid (HB1.out.trans (((box_belowD HX2.out).trans (hb3.mono (box_belowD HX2.out).size)).mono HB1.out.size))
      clear hb3 M2
      go_wp2_with fail
      go_ret
      exact ⟨rfl, HB3.out.alloc HB3.out.size _⟩
  · have HB1 := Lib.hid hb1
    clear hb1 MW
    go_wp2_with fail
    go_ret
    exact ⟨rfl, HB1.out.alloc HB1.out.size _⟩
end Go.Proofs.YtonkbjdeaneicaaDoor
