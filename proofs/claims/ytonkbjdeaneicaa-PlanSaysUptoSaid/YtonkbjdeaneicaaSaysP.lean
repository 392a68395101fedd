/- PlanSays: the way to each rule's end says its chain. -/
import Derived.Test.YtonkbjdeaneicaaShA
import Derived.Test.YtonkbjdeaneicaaSaysW
import Derived.Test.YtonkbjdeaneicaaSaysN
import Derived.Deep.RegionHeld3
namespace Go.Proofs.Ytonkbjdeaneicaa
open Go.RowKit Pln Classical Go.Maps

theorem neq_tst_same (t : Tst) (w : World) : (binOp .neq 52 (.agg #[.int .i64 t.op, .bool t.l.v, .int .i64 t.l.n, .bool t.r.v, .int .i64 t.r.n]) (.agg #[.int .i64 t.op, .bool t.l.v, .int .i64 t.l.n, .bool t.r.v, .int .i64 t.r.n])).run Try.prog w = .ok (.bool false) w := by
  simp [go_sem]

set_option maxRecDepth 200000 in
set_option maxHeartbeats 8000000 in
theorem saysPW {F : Nat → Prop} (v : Value) (rs : List Rl) (W : World) (h : RRules F W v rs) (hS : rs.length ≤ 1048576 ∧ ∀ r ∈ rs, rlSm 1048576 r) :
    Calls Try.prog 4 #[v] W fun e W' => e = .returned (.bool true) ∧ Below W.heap.size W W' := by
  have MW := Lib.hid (madeW v rs W h hS)
  obtain ⟨A, c, rfl⟩ := h.form
  have H := Lib.hid (RRules.kp (F' := fun b => b < W.heap.size) h (Kp.refl _ _) (fun b hb _ => hb))
  have hm := hS.1
  clear h hS
  go_enter Try.func4, Try.ntmps4
  go_wp2_with fail
  refine MW.out.mono ?_
  rintro e W1 ⟨hb1, ⟨hmay, av, nv, ev, rfl, hP⟩ | ⟨_, rfl⟩⟩
  · have hMade := made_comp rs
    have hcl := (comp_len rs hmay rs.length (Nat.le_refl _)).1
    rw [List.take_length] at hcl
    obtain ⟨st, hst⟩ : ∃ st, (compF rs).1 = st := ⟨_, rfl⟩
    obtain ⟨es, hes⟩ : ∃ es, (compF rs).2 = es := ⟨_, rfl⟩
    rw [hst] at hP hMade hcl
    rw [hes] at hP hMade
    have hnl := hMade.wf.len
    have hel := hMade.len
    obtain ⟨A3, C3, rfl⟩ := hP.al.form
    obtain ⟨nb, no, C2, rfl, _, _, _⟩ := RSl.base hP.ns hnl
    obtain ⟨A1, C1, rfl⟩ := hP.en.form
    have hel2 : (es.map fun (e : Nat) => (e : Int)).length = es.length := by simp
    rw [hel2] at hP ⊢
    have HM := Lib.hid hMade
    have HY := Lib.hid hmay
    have HP := Lib.hid hP
    have HB1 := Lib.hid hb1
    have HEL := Lib.hid hel
    clear hMade hmay hP hb1 hst hes hel hel2 MW
    go_wp2_with fail
    go_loopw [6] (fun iv wr => ∃ k : Nat, iv = .int .i64 k ∧ k ≤ rs.length ∧ Below (W1.heap.size + 1) (W1.alloc (.cells #[.slice A3 st.al.length C3, .slice (some ⟨nb, no, none⟩) st.ns.length C2, .slice A1 es.length C1] 27)) wr) (fun i _ => rs.length - (intOf i).toNat)
    case atStart => exact ⟨0, rfl, Nat.zero_le _, Below.refl _ _⟩
    case round =>
      obtain ⟨i, rfl, hi, hb⟩ := hrel
      by_cases hin : i < rs.length
      · obtain ⟨r, hr⟩ : ∃ r, rs[i]? = some r := ⟨_, List.getElem?_eq_getElem hin⟩
        obtain ⟨hst, e, he, -, hel⟩ := HM.out.ways i r hr
        have hlen : (wayF st 0 (conds r)).length = r.pos.length + r.tests.length + r.neg.length := by rw [way_len, conds_len]
        have hokc := (HY.out r (List.mem_of_getElem? hr)).choose_spec.okCs
        have hfit := (HY.out r (List.mem_of_getElem? hr)).choose_spec
        have HY8 : ∀ p ∈ r.pos, p.args.length ≤ 8 := fun p hp => (hfit.pats p hp).2
        have HN8 : ∀ p ∈ r.neg, p.args.length ≤ 8 := fun p hp => (hfit.ngs p hp).2.1
        clear hfit
        have hmany := (HY.out r (List.mem_of_getElem? hr)).choose_spec.many
        obtain ⟨rb, ro, rfl, -, hrb, cs, ⟨hv, pv, tv, nv, vv, hE⟩, hc⟩ := H.out.at hr
        have hcs := hE.cells
        subst hcs
        obtain ⟨Ah, ch, rfl⟩ := hE.head.form
        obtain ⟨Ap, cp, rfl⟩ := hE.pos.form
        obtain ⟨At, ct, rfl⟩ := hE.tests.form
        obtain ⟨An, cn, rfl⟩ := hE.neg.form
        obtain ⟨Av, cv, rfl⟩ := hE.vars.form
        have hbW : Below W.heap.size W wr := HB1.out.trans ((box_below hb).mono HB1.out.size)
        have aa := fun (j : Nat) (u : Value) hu => (hbW.cell (p := ⟨rb, ro + i * 7 + j, none⟩) hrb).trans (hc j u hu)
        have a0 := aa 0 _ rfl
        have a1 := aa 1 _ rfl
        have a2 := aa 2 _ rfl
        have a3 := aa 3 _ rfl
        have a4 := aa 4 _ rfl
        have a5 := aa 5 _ rfl
        have a6 := aa 6 _ rfl
        simp only [Nat.add_zero] at a0
        obtain ⟨wb, hwb⟩ : ∃ wb, wb = wr.alloc (.cells #[.int .i64 r.head.pred, .slice Ah r.head.args.length ch, .slice Ap r.pos.length cp, .slice At r.tests.length ct, .slice An r.neg.length cn, .slice Av r.vars.length cv, .int .i64 r.clause] 39) := ⟨_, rfl⟩
        have hrow : wb.heap[wr.heap.size]? = some (.cells #[.int .i64 r.head.pred, .slice Ah r.head.args.length ch, .slice Ap r.pos.length cp, .slice At r.tests.length ct, .slice An r.neg.length cn, .slice Av r.vars.length cv, .int .i64 r.clause] 39 (0, 0)) := by rw [hwb]; exact heap_alloc_new wr _
        have hbB : Below (W1.heap.size + 1) (W1.alloc (.cells #[.slice A3 st.al.length C3, .slice (some ⟨nb, no, none⟩) st.ns.length C2, .slice A1 es.length C1] 27)) wb := by rw [hwb]; exact box_step hb ((Below.refl _ _).alloc (Nat.le_refl _) _)
        have hD := hbB.drew
        have hen := (HP.out.kp (F' := fun b => b < W1.heap.size) (Kp.of_below (box_below hD)) (fun _ _ h => h)).en
        obtain ⟨eb, eo, rfl, -, -, cs, ⟨rfl, -⟩, hc2⟩ := RSl.at hen (i := i) (x := (e : Int)) (by simp [he])
        have c0 := hc2 0 _ rfl
        simp only [Nat.add_zero, Nat.mul_one] at c0
        have y0 := box_cellL hD 0 rfl
        have y1 := box_cellL hD 1 rfl
        have y2 := box_cellL hD 2 rfl
        have e1 : (0 : Int) ≤ (i : Int) := by omega
        have e2 : (i : Int) < (es.length : Int) := by rw [HEL.out]; omega
        have e3 : (i : Int) < (rs.length : Int) := by omega
        have CD := Lib.hid (down_of HM.out HY.out HP.out (box_below hD) hr he)
        have HD := Lib.hid hD
        have HI := Lib.hid hin
        have HR := Lib.hid hrow
        have HE := Lib.hid hE
        have HBW := Lib.hid (show Below W.heap.size W wb.drew from HB1.out.trans ((box_below hD).mono HB1.out.size))
        clear hc hc2 hen hr hE hrow hbB hD aa hbW hb hi hin hel he
        go_upto_region 8 with fail
        rw [← hwb]
        clear hwb
        go_still_tail 6, (by kernel_rfl)
        change wpList _ _ _ _ _ wb.drew
        go_wp2_with fail
        refine CD.out.mono ?_
        rintro e' w2 ⟨va, rfl, hO, hb2⟩
        have hR2 := (hb2.block _ (lt_of_heap HR.out)).trans HR.out
        have hD2 := box_step HD.out hb2
        have hW2 := HBW.out.trans (hb2.mono HBW.out.size)
        obtain ⟨l, hl⟩ : ∃ l, wayF st 0 (conds r) = l := ⟨_, rfl⟩
        rw [hl] at hO hlen
        obtain ⟨Aa, ca, rfl, hlc⟩ := hO.form
        have f2 := rboxL hR2 2 rfl
        have f3 := rboxL hR2 3 rfl
        have f4 := rboxL hR2 4 rfl
        have HR2 := Lib.hid hR2
        have HD2 := Lib.hid hD2
        have HW2 := Lib.hid hW2
        have HO := Lib.hid hO
        have HLL := Lib.hid hlen
        have HST := Lib.hid hst
        have HOK := Lib.hid hokc
        have HWL := Lib.hid hl
        have g1 : (r.pos.length : Int) + (r.tests.length : Int) + (r.neg.length : Int) = (l.length : Int) := by omega
        have g2 : IntKind.i64.wrap ((r.pos.length : Int) + (r.tests.length : Int)) = (r.pos.length : Int) + (r.tests.length : Int) := IntWalk.i64_in _ (by omega)
        have g3 : IntKind.i64.wrap ((r.pos.length : Int) + (r.tests.length : Int) + (r.neg.length : Int)) = (l.length : Int) := by rw [IntWalk.i64_in _ (by omega)]; exact g1
        clear hO hb2 y0 y1 y2 c0 HD CD hl hR2 hD2 hW2 a0 a1 a2 a3 a4 a5 a6 hlc hlen hst hokc g1 HR HBW
        go_wp2_with fail
        obtain ⟨wo, rfl⟩ : ∃ wo : World, wo = wr := ⟨_, rfl⟩
        go_loopw [9, 10] (fun wv jv wr => ∃ (j w : Nat), jv = .int .i64 j ∧ wv = .int .i64 w ∧ j ≤ l.length ∧ widthAt st ((0 :: l).getD j 0) = (w : Int) ∧ Below w2.heap.size w2 wr) (fun _ j _ => l.length - (intOf j).toNat)
        case atStart => exact ⟨0, 0, rfl, rfl, Nat.zero_le _, by show widthAt st 0 = _; unfold widthAt; rw [HM.out.wf.root]; rfl, Below.refl _ _⟩
        case round =>
          obtain ⟨j, w, rfl, rfl, hj, hw, hq⟩ := hrel
          clear f2 f3 f4
          by_cases hjn : j < l.length
          · obtain ⟨x, hx⟩ : ∃ x, l[j]? = some x := ⟨_, List.getElem?_eq_getElem hjn⟩
            obtain ⟨c, n, w', hc, hn, hnc, hw', hokc, hsh⟩ := way_node HM.out.wf HST.out HOK.out (conds_ok3 r) (j := j) (v := x) (by rw [HWL.out]; exact hx)
            rw [HWL.out] at hnc hw'
            obtain rfl : w' = w := by omega
            have hwx := width_node hn
            obtain ⟨ga, rfl, -, -⟩ := HO.out.at hx
            obtain ⟨nb', no', hA', -, hnb, ncs, ⟨lv, mv, hN⟩, hcs⟩ := RSl.at HP.out.ns hn
            simp only [Option.some.injEq, Addr.mk.injEq, and_true] at hA'
            obtain ⟨rfl, rfl⟩ := hA'
            have hncs := hN.cells
            subst hncs
            obtain ⟨Al, cl, rfl⟩ := hN.links.form
            obtain ⟨Am, cm, rfl⟩ := hN.new.form
            have KP := Lib.hid (fun (w' : World) (hW : Below w2.heap.size w2 w') => (show w'.cell? ⟨W1.heap.size, 1, none⟩ = some (.slice (some ⟨nb, no, none⟩) st.ns.length C2) ∧ w'.cell? ⟨ga, j, none⟩ = some (.int .i64 (x : Int)) ∧ w'.cell? ⟨nb, no + x * 11, none⟩ = some (.int .i64 n.kind) ∧ w'.cell? ⟨nb, no + x * 11 + 1, none⟩ = some (.int .i64 n.parent) ∧ w'.cell? ⟨nb, no + x * 11 + 2, none⟩ = some (.int .i64 n.alpha) ∧ w'.cell? ⟨nb, no + x * 11 + 3, none⟩ = some (.slice Al n.links.length cl) ∧ w'.cell? ⟨nb, no + x * 11 + 4, none⟩ = some (.slice Am n.new.length cm) ∧ w'.cell? ⟨nb, no + x * 11 + 5, none⟩ = some (.int .i64 n.test.op) ∧ w'.cell? ⟨nb, no + x * 11 + 6, none⟩ = some (.bool n.test.l.v) ∧ w'.cell? ⟨nb, no + x * 11 + 7, none⟩ = some (.int .i64 n.test.l.n) ∧ w'.cell? ⟨nb, no + x * 11 + 8, none⟩ = some (.bool n.test.r.v) ∧ w'.cell? ⟨nb, no + x * 11 + 9, none⟩ = some (.int .i64 n.test.r.n) ∧ w'.cell? ⟨nb, no + x * 11 + 10, none⟩ = some (.int .i64 n.width) from by
              obtain ⟨g', hg', -, c0⟩ := (HO.out.step hW).at hx
              simp only [Option.some.injEq, Addr.mk.injEq, and_true] at hg'
              subst hg'
              have dd := fun (k : Nat) (u : Value) hu => ((box_below (box_step HD2.out hW)).cell (p := ⟨nb, no + x * 11 + k, none⟩) hnb).trans (hcs k u hu)
              exact ⟨box_cellL (box_step HD2.out hW) 1 rfl, c0, dd 0 _ rfl, dd 1 _ rfl, dd 2 _ rfl, dd 3 _ rfl, dd 4 _ rfl, dd 5 _ rfl, dd 6 _ rfl, dd 7 _ rfl, dd 8 _ rfl, dd 9 _ rfl, dd 10 _ rfl⟩))
            have hxn := (List.getElem?_eq_some_iff.1 hn).1
            have e4 : (0 : Int) ≤ (j : Int) := by omega
            have e5 : (j : Int) < (l.length : Int) := by omega
            have e6 : (0 : Int) ≤ (x : Int) := by omega
            have e7 : (x : Int) < (st.ns.length : Int) := by omega
            obtain ⟨wn, hwn⟩ : ∃ wn, wn = (wr.alloc (.cells #[.int .i64 n.kind, .int .i64 n.parent, .int .i64 n.alpha, .slice Al n.links.length cl, .slice Am n.new.length cm, .int .i64 n.test.op, .bool n.test.l.v, .int .i64 n.test.l.n, .bool n.test.r.v, .int .i64 n.test.r.n, .int .i64 n.width] 54)).drew := ⟨_, rfl⟩
            have hrow : wn.heap[wr.heap.size]? = some (.cells #[.int .i64 n.kind, .int .i64 n.parent, .int .i64 n.alpha, .slice Al n.links.length cl, .slice Am n.new.length cm, .int .i64 n.test.op, .bool n.test.l.v, .int .i64 n.test.l.n, .bool n.test.r.v, .int .i64 n.test.r.n, .int .i64 n.width] 54 (0, 0)) := by rw [hwn]; exact heap_alloc_new wr _
            have hqn : Below w2.heap.size w2 wn := by rw [hwn]; exact (hq.alloc hq.size _).drew
            have f2 := rboxL ((hqn.block _ (lt_of_heap HR2.out)).trans HR2.out) 2 rfl
            have f3 := rboxL ((hqn.block _ (lt_of_heap HR2.out)).trans HR2.out) 3 rfl
            have HN := Lib.hid hN
            have HNC := Lib.hid hnc
            have HC := Lib.hid hc
            have HQ := Lib.hid hqn
            have HROW := Lib.hid hrow
            have HX := Lib.hid hx
            have HJ := Lib.hid hjn
            have HWX := Lib.hid hwx
            have HWW := Lib.hid hw'
            have HOC := Lib.hid hokc
            have HSH := Lib.hid hsh
            have hl16 : l.length ≤ 16 := by rw [HLL.out]; exact hmany
            have HQ1 := Lib.hid hq
            have S0 := KP.out _ HQ1.out.drew
            clear hN hnc hc hqn hrow hx hjn hwx hw' hokc hsh hcs hq hn hw
            go_wp2_with fail
            go_region_held3 (fun w' : World => w'.cell? ⟨W1.heap.size, 1, none⟩ = some (.slice (some ⟨nb, no, none⟩) st.ns.length C2) ∧ w'.cell? ⟨ga, j, none⟩ = some (.int .i64 (x : Int)) ∧ w'.cell? ⟨nb, no + x * 11, none⟩ = some (.int .i64 n.kind) ∧ w'.cell? ⟨nb, no + x * 11 + 1, none⟩ = some (.int .i64 n.parent) ∧ w'.cell? ⟨nb, no + x * 11 + 2, none⟩ = some (.int .i64 n.alpha) ∧ w'.cell? ⟨nb, no + x * 11 + 3, none⟩ = some (.slice Al n.links.length cl) ∧ w'.cell? ⟨nb, no + x * 11 + 4, none⟩ = some (.slice Am n.new.length cm) ∧ w'.cell? ⟨nb, no + x * 11 + 5, none⟩ = some (.int .i64 n.test.op) ∧ w'.cell? ⟨nb, no + x * 11 + 6, none⟩ = some (.bool n.test.l.v) ∧ w'.cell? ⟨nb, no + x * 11 + 7, none⟩ = some (.int .i64 n.test.l.n) ∧ w'.cell? ⟨nb, no + x * 11 + 8, none⟩ = some (.bool n.test.r.v) ∧ w'.cell? ⟨nb, no + x * 11 + 9, none⟩ = some (.int .i64 n.test.r.n) ∧ w'.cell? ⟨nb, no + x * 11 + 10, none⟩ = some (.int .i64 n.width)) (first | exact S0 | exact KP.out _ HQ1.out.drew | exact KP.out _ (HQ1.out.alloc HQ1.out.size _).drew | exact KP.out _ (HQ1.out.alloc HQ1.out.size _) | go_keep) ((fail))
            go_upto_region 16 with fail
            rw [← hwn]
            clear hwn S0
            rcases cond_at HC.out with ⟨p, h1, hp, rfl⟩ | ⟨t, k, hjk, ht, rfl⟩ | ⟨p, k, hjk, hp, rfl⟩
            · have g4 : IntKind.i64.wrap ((j : Int) - (r.pos.length : Int)) = (j : Int) - (r.pos.length : Int) := IntWalk.i64_in _ (by omega)
              have g5 : (j : Int) - (r.pos.length : Int) < 0 := by omega
              have g6 : (j : Int) < (r.pos.length : Int) := by omega
              obtain ⟨ai, hs⟩ := says_of (.inl rfl) HNC.out HWW.out HOC.out HSH.out
              rw [hs.kind] at HROW
              obtain ⟨pb, po, rfl, -, hpb, cs, ⟨vp, rfl, -, hargs⟩, hc⟩ := RSl.at HE.out.pos hp
              obtain ⟨X1, x1, rfl⟩ := hargs.form
              have hWn : Below W.heap.size W wn := HW2.out.trans (HQ.out.mono HW2.out.size)
              have hPn := box_step HD2.out HQ.out
              have hW1n := box_below hPn
              have CY := Lib.hid (fun (Wx : World) (hb : Below wn.heap.size wn Wx) => saysW Wx _ _ _ st es (HP.out.kp (F' := fun b => b < W1.heap.size) (Kp.of_below (hW1n.trans (hb.mono hW1n.size))) (fun _ _ h => h)) n _ _ _ (HN.out.kp (F' := fun b => b < W1.heap.size) (Kp.of_below (hW1n.trans (hb.mono hW1n.size))) (fun _ _ h => h)) p _ (hargs.keep (Kp.of_below (hWn.trans (hb.mono hWn.size)))) w' ai hs.al hs.alpha hs.links hs.new hs.width hs.ok (HY8 p (List.mem_of_getElem? hp)))
              rw [hs.kind] at CY
              obtain ⟨S, hSe⟩ : ∃ S, S = fun Wx => Below wn.heap.size wn Wx := ⟨_, rfl⟩
              have hlr := lt_of_heap HROW.out
              have bn := fun (p : Pt S) => (congrFun hSe p.val).mp p.property
              have q0 := fun (p : Pt S) => rboxL (((bn p).block _ hlr).trans HROW.out) 0 rfl
              have q1 := fun (p : Pt S) => rboxL (((bn p).block _ hlr).trans HROW.out) 1 rfl
              have q2 := fun (p : Pt S) => rboxL (((bn p).block _ hlr).trans HROW.out) 2 rfl
              have q3 := fun (p : Pt S) => rboxL (((bn p).block _ hlr).trans HROW.out) 3 rfl
              have q4 := fun (p : Pt S) => rboxL (((bn p).block _ hlr).trans HROW.out) 4 rfl
              have q5 := fun (p : Pt S) => rboxL (((bn p).block _ hlr).trans HROW.out) 5 rfl
              have q6 := fun (p : Pt S) => rboxL (((bn p).block _ hlr).trans HROW.out) 6 rfl
              have q7 := fun (p : Pt S) => rboxL (((bn p).block _ hlr).trans HROW.out) 7 rfl
              have q8 := fun (p : Pt S) => rboxL (((bn p).block _ hlr).trans HROW.out) 8 rfl
              have q9 := fun (p : Pt S) => rboxL (((bn p).block _ hlr).trans HROW.out) 9 rfl
              have q10 := fun (p : Pt S) => rboxL (((bn p).block _ hlr).trans HROW.out) 10 rfl
              have y0 := fun (p : Pt S) => box_cellL (box_step hPn (bn p)) 0 rfl
              have y1 := fun (p : Pt S) => box_cellL (box_step hPn (bn p)) 1 rfl
              have y2 := fun (p : Pt S) => box_cellL (box_step hPn (bn p)) 2 rfl
              have hr3 := (HQ.out.block _ (lt_of_heap HR2.out)).trans HR2.out
              have z0 := fun (p : Pt S) => rboxL (((bn p).block _ (lt_of_heap hr3)).trans hr3) 2 rfl
              have x0 := fun (p : Pt S) => ((hWn.trans ((bn p).mono hWn.size)).cell (p := ⟨pb, po + j * 2 + 0, none⟩) hpb).trans (hc 0 _ rfl)
              have x1 := fun (p : Pt S) => ((hWn.trans ((bn p).mono hWn.size)).cell (p := ⟨pb, po + j * 2 + 1, none⟩) hpb).trans (hc 1 _ rfl)
              simp only [Nat.add_zero] at x0
              have NE : Nonempty (Pt S) := ⟨⟨wn, (congrFun hSe wn).mpr (Below.refl _ _)⟩⟩
              have HDD := Lib.hid ((congrFun hSe wn.drew).mpr (Below.refl _ _).drew)
              have SE := Lib.hid hSe
              have KPP := Lib.hid bn
              have HSS := Lib.hid hs
              clear hSe bn hs hargs hc hWn hPn hW1n hlr hr3 hp
              go_wp2_with fail
              refine wp_region_class (S := S) HDD.out (by kernel_rfl) (by kernel_rfl) ?_
              repeat (go_big_quiet_step ((go_at_call 17; refine (CY.out _ (KPP.out _)).mono ?_; rintro e w' ⟨rfl, hbel⟩; exact ⟨rfl, ⟨w', (congrFun SE.out w').mpr ((KPP.out _).trans (hbel.mono (KPP.out _).size))⟩, rfl⟩)))
              refine wpQuiet_nil ?_
              rintro wq ⟨⟨_, hW⟩, rfl⟩
              have hF := (congrFun SE.out wq).mp hW
              have d10 := rboxL ((hF.block _ (lt_of_heap HROW.out)).trans HROW.out) 10 rfl
              rw [HSS.out.width] at d10
              have HF := Lib.hid hF
              clear q0 q1 q2 q3 q4 q5 q6 q7 q8 q9 q10 y0 y1 y2 z0 x0 x1 NE hW hF
              go_wp2
              exact ⟨⟨j + 1, w' + (newK p.args w' p.args.length).length, by go_num, by simp, HJ.out, by rw [getD_next HX.out, HWX.out, HSS.out.width]; simp, HQ.out.trans (HF.out.mono HQ.out.size)⟩, by simp [intOf]; have := HJ.out; omega⟩
            · have hkl := (List.getElem?_eq_some_iff.1 ht).1
              obtain ⟨t1, t2, t3, t4, t5, t6⟩ := test_of HNC.out HWW.out
              have l3 : n.links.length = 0 := by rw [t3]; rfl
              have l4 : n.new.length = 0 := by rw [t4]; rfl
              rw [t1, t2, t5, t6, l3, l4] at HROW
              have g4 : IntKind.i64.wrap ((j : Int) - (r.pos.length : Int)) = (k : Int) := by rw [IntWalk.i64_in _ (by omega)]; omega
              have g5 : (j : Int) - (r.pos.length : Int) = (k : Int) := by omega
              have g6 : IntKind.i64.wrap ((k : Int) - (r.tests.length : Int)) = (k : Int) - (r.tests.length : Int) := IntWalk.i64_in _ (by omega)
              have g7 : (k : Int) - (r.tests.length : Int) < 0 := by omega
              have g8 : (0 : Int) ≤ (k : Int) := by omega
              have g9 : (k : Int) < (r.tests.length : Int) := by omega
              have g10 : ¬ (k : Int) < 0 := by omega
              obtain ⟨pb, po, rfl, -, hpb, cs, ⟨rfl, -⟩, hc⟩ := RSl.at HE.out.tests ht
              have hWn : Below W.heap.size W wn := HW2.out.trans (HQ.out.mono HW2.out.size)
              have hr3 := (HQ.out.block _ (lt_of_heap HR2.out)).trans HR2.out
              have z0 := rboxL hr3 3 rfl
              have q0 := rboxL HROW.out 0 rfl
              have q2 := rboxL HROW.out 2 rfl
              have q3 := rboxL HROW.out 3 rfl
              have q4 := rboxL HROW.out 4 rfl
              have q5 := rboxL HROW.out 5 rfl
              have q6 := rboxL HROW.out 6 rfl
              have q7 := rboxL HROW.out 7 rfl
              have q8 := rboxL HROW.out 8 rfl
              have q9 := rboxL HROW.out 9 rfl
              have q10 := rboxL HROW.out 10 rfl
              have xx := fun (i : Nat) (u : Value) hu => (hWn.cell (p := ⟨pb, po + k * 5 + i, none⟩) hpb).trans (hc i u hu)
              have x0 := xx 0 _ rfl
              have x1 := xx 1 _ rfl
              have x2 := xx 2 _ rfl
              have x3 := xx 3 _ rfl
              have x4 := xx 4 _ rfl
              simp only [Nat.add_zero] at x0
              have hne := fun W => neq_tst_same t W
              have T6 := Lib.hid t6
              clear xx hc hr3 hWn t1 t2 t3 t4 t5 t6 l3 l4 ht hjk
              go_wp2_with fail
              go_quiet (fail)
              go_wp2
              exact ⟨⟨j + 1, w', by go_num, rfl, HJ.out, by rw [getD_next HX.out, HWX.out, T6.out], below_drewN HQ.out _⟩, by simp [intOf]; have := HJ.out; omega⟩
            · have hkl := (List.getElem?_eq_some_iff.1 hp).1
              obtain ⟨tk, htk⟩ : ∃ tk : Nat, tk = r.tests.length + k := ⟨_, rfl⟩
              have g4 : IntKind.i64.wrap ((j : Int) - (r.pos.length : Int)) = (tk : Int) := by rw [IntWalk.i64_in _ (by omega)]; omega
              have g5 : (j : Int) - (r.pos.length : Int) = (tk : Int) := by omega
              have g6 : IntKind.i64.wrap ((tk : Int) - (r.tests.length : Int)) = (k : Int) := by rw [IntWalk.i64_in _ (by omega)]; omega
              have g7 : (tk : Int) - (r.tests.length : Int) = (k : Int) := by omega
              have g8 : (0 : Int) ≤ (k : Int) := by omega
              have g9 : (k : Int) < (r.neg.length : Int) := by omega
              have g10 : ¬ (k : Int) < 0 := by omega
              have g11 : ¬ (tk : Int) < 0 := by omega
              have l4 : n.new.length = 0 := by
                obtain ⟨ai, hs⟩ := says_of (.inr rfl) HNC.out HWW.out HOC.out HSH.out
                rw [hs.new, neg_new HOC.out]; rfl
              clear hjk htk
              obtain ⟨ai, hs⟩ := says_of (.inr rfl) HNC.out HWW.out HOC.out HSH.out
              rw [hs.kind] at HROW
              obtain ⟨pb, po, rfl, -, hpb, cs, ⟨vp, rfl, -, hargs⟩, hc⟩ := RSl.at HE.out.neg hp
              obtain ⟨X1, x1, rfl⟩ := hargs.form
              have hWn : Below W.heap.size W wn := HW2.out.trans (HQ.out.mono HW2.out.size)
              have hPn := box_step HD2.out HQ.out
              have hW1n := box_below hPn
              have CY := Lib.hid (fun (Wx : World) (hb : Below wn.heap.size wn Wx) => saysW Wx _ _ _ st es (HP.out.kp (F' := fun b => b < W1.heap.size) (Kp.of_below (hW1n.trans (hb.mono hW1n.size))) (fun _ _ h => h)) n _ _ _ (HN.out.kp (F' := fun b => b < W1.heap.size) (Kp.of_below (hW1n.trans (hb.mono hW1n.size))) (fun _ _ h => h)) p _ (hargs.keep (Kp.of_below (hWn.trans (hb.mono hWn.size)))) w' ai hs.al hs.alpha hs.links hs.new hs.width hs.ok (HN8 p (List.mem_of_getElem? hp)))
              rw [hs.kind] at CY
              obtain ⟨S, hSe⟩ : ∃ S, S = fun Wx => Below wn.heap.size wn Wx := ⟨_, rfl⟩
              have hlr := lt_of_heap HROW.out
              have bn := fun (p : Pt S) => (congrFun hSe p.val).mp p.property
              have q0 := fun (p : Pt S) => rboxL (((bn p).block _ hlr).trans HROW.out) 0 rfl
              have q1 := fun (p : Pt S) => rboxL (((bn p).block _ hlr).trans HROW.out) 1 rfl
              have q2 := fun (p : Pt S) => rboxL (((bn p).block _ hlr).trans HROW.out) 2 rfl
              have q3 := fun (p : Pt S) => rboxL (((bn p).block _ hlr).trans HROW.out) 3 rfl
              have q4 := fun (p : Pt S) => rboxL (((bn p).block _ hlr).trans HROW.out) 4 rfl
              have q5 := fun (p : Pt S) => rboxL (((bn p).block _ hlr).trans HROW.out) 5 rfl
              have q6 := fun (p : Pt S) => rboxL (((bn p).block _ hlr).trans HROW.out) 6 rfl
              have q7 := fun (p : Pt S) => rboxL (((bn p).block _ hlr).trans HROW.out) 7 rfl
              have q8 := fun (p : Pt S) => rboxL (((bn p).block _ hlr).trans HROW.out) 8 rfl
              have q9 := fun (p : Pt S) => rboxL (((bn p).block _ hlr).trans HROW.out) 9 rfl
              have q10 := fun (p : Pt S) => rboxL (((bn p).block _ hlr).trans HROW.out) 10 rfl
              have y0 := fun (p : Pt S) => box_cellL (box_step hPn (bn p)) 0 rfl
              have y1 := fun (p : Pt S) => box_cellL (box_step hPn (bn p)) 1 rfl
              have y2 := fun (p : Pt S) => box_cellL (box_step hPn (bn p)) 2 rfl
              have hr3 := (HQ.out.block _ (lt_of_heap HR2.out)).trans HR2.out
              have z0 := fun (p : Pt S) => rboxL (((bn p).block _ (lt_of_heap hr3)).trans hr3) 4 rfl
              have x0 := fun (p : Pt S) => ((hWn.trans ((bn p).mono hWn.size)).cell (p := ⟨pb, po + k * 2 + 0, none⟩) hpb).trans (hc 0 _ rfl)
              have x1 := fun (p : Pt S) => ((hWn.trans ((bn p).mono hWn.size)).cell (p := ⟨pb, po + k * 2 + 1, none⟩) hpb).trans (hc 1 _ rfl)
              simp only [Nat.add_zero] at x0
              have NE : Nonempty (Pt S) := ⟨⟨wn, (congrFun hSe wn).mpr (Below.refl _ _)⟩⟩
              have HDD := Lib.hid ((congrFun hSe wn.drew).mpr (Below.refl _ _).drew)
              have SE := Lib.hid hSe
              have KPP := Lib.hid bn
              have HSS := Lib.hid hs
              rw [l4] at q4 CY
              clear hSe bn hs hargs hc hWn hPn hW1n hlr hr3 hp
              go_wp2_with fail
              refine wp_region_class (S := S) HDD.out (by kernel_rfl) (by kernel_rfl) ?_
              repeat (go_big_quiet_step ((go_at_call 17; refine (CY.out _ (KPP.out _)).mono ?_; rintro e w' ⟨rfl, hbel⟩; exact ⟨rfl, ⟨w', (congrFun SE.out w').mpr ((KPP.out _).trans (hbel.mono (KPP.out _).size))⟩, rfl⟩)))
              refine wpQuiet_nil ?_
              rintro wq ⟨⟨_, hW⟩, rfl⟩
              have hF := (congrFun SE.out wq).mp hW
              have d10 := rboxL ((hF.block _ (lt_of_heap HROW.out)).trans HROW.out) 10 rfl
              rw [HSS.out.width] at d10
              have HF := Lib.hid hF
              clear q0 q1 q2 q3 q4 q5 q6 q7 q8 q9 q10 y0 y1 y2 z0 x0 x1 NE hW hF
              go_wp2
              exact ⟨⟨j + 1, w' + (newK p.args w' p.args.length).length, by go_num, by simp, HJ.out, by rw [getD_next HX.out, HWX.out, HSS.out.width]; simp, HQ.out.trans (HF.out.mono HQ.out.size)⟩, by simp [intOf]; have := HJ.out; omega⟩
          · obtain rfl : j = l.length := by omega
            have HB := Lib.hid (box_step HD2.out hq)
            clear hq hjn
            go_wp2
            exact ⟨⟨i + 1, by go_num, HI.out, HB.out⟩, by simp [intOf]; have := HI.out; omega⟩
      · obtain rfl : i = rs.length := by omega
        have HB := Lib.hid (box_below hb)
        clear hb hin
        go_wp2
        go_ret
        exact ⟨rfl, HB1.out.trans (HB.out.mono HB1.out.size)⟩
  · have HB1 := Lib.hid hb1
    clear hb1 MW
    go_wp2_with fail
    go_ret
    exact ⟨rfl, HB1.out.alloc HB1.out.size _⟩
end Go.Proofs.Ytonkbjdeaneicaa
