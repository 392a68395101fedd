/- PlanWays: Chain and Kids are the nodes' parents. -/
import Derived.Test.YtonkbjdeaneicaaLawK
import Derived.Deep.RegionHeld3
namespace Go.Proofs.Ytonkbjdeaneicaa
open Go.RowKit Pln Classical Go.Maps

set_option maxRecDepth 200000 in
set_option maxHeartbeats 8000000 in
theorem waysPW {F : Nat → Prop} (v : Value) (rs : List Rl) (W : World) (h : RRules F W v rs) (hS : rs.length ≤ 1048576 ∧ ∀ r ∈ rs, rlSm 1048576 r) :
    Calls Try.prog 7 #[v] W fun e W' => e = .returned (.bool true) ∧ Below W.heap.size W W' := by
  have MW := Lib.hid (madeW v rs W h hS)
  obtain ⟨A, c, rfl⟩ := h.form
  have hm := hS.1
  clear h hS
  go_enter Try.func7, Try.ntmps7
  go_wp2_with fail
  refine MW.out.mono ?_
  rintro e W1 ⟨hb1, ⟨hmay, av, nv, ev, rfl, hP⟩ | ⟨_, rfl⟩⟩
  · have hMade := made_comp rs
    have hChk := comp_check rs hmay
    have hcl := (comp_len rs hmay rs.length (Nat.le_refl _)).1
    rw [List.take_length] at hcl
    obtain ⟨st, hst⟩ : ∃ st, (compF rs).1 = st := ⟨_, rfl⟩
    obtain ⟨es, hes⟩ : ∃ es, (compF rs).2 = es := ⟨_, rfl⟩
    rw [hst] at hP hMade hcl hChk
    rw [hes] at hP hMade hChk
    have hnl := hMade.wf.len
    have hel := hMade.len
    have hml : ∀ n ∈ st.ns, n.new.length ≤ 1000000000 := by
      intro n hn
      obtain ⟨i, hi, rfl⟩ := List.getElem_of_mem hn
      rcases Nat.eq_zero_or_pos i with rfl | hp
      · have := hMade.wf.root
        rw [List.getElem?_eq_getElem hi] at this
        rw [Option.some.inj this]
        simp [rootN]
      · obtain ⟨u, up, _, _, _, _, h5, _⟩ := hChk.2.1.2 i hp hi _ (List.getElem?_eq_getElem hi)
        have := (nodeP_lens h5 (fun hk => shapes_at hChk.1 (List.getElem_mem hi) hk)).2
        omega
    have hel2 : (es.map fun (e : Nat) => (e : Int)).length = es.length := by simp
    obtain ⟨A3, C3, rfl⟩ := hP.al.form
    obtain ⟨nb, no, C2, rfl, _, _, _⟩ := RSl.base hP.ns hnl
    obtain ⟨A1, C1, rfl⟩ := hP.en.form
    rw [hel2] at hP ⊢
    have CH := Lib.hid (fun (Wx : World) (hb : Below W1.heap.size W1 Wx) (k : Int) => chainW Wx _ _ _ st.al st.ns _ ((hP.kp (F' := fun b => b < W1.heap.size) (Kp.of_below hb) (fun _ _ h => h)).al) ((hP.kp (F' := fun b => b < W1.heap.size) (Kp.of_below hb) (fun _ _ h => h)).ns) ((hP.kp (F' := fun b => b < W1.heap.size) (Kp.of_below hb) (fun _ _ h => h)).en) (by omega) hml k)
    have KI := Lib.hid (fun (Wx : World) (hb : Below W1.heap.size W1 Wx) (k : Int) => kidsW Wx _ _ _ st.al st.ns _ ((hP.kp (F' := fun b => b < W1.heap.size) (Kp.of_below hb) (fun _ _ h => h)).al) ((hP.kp (F' := fun b => b < W1.heap.size) (Kp.of_below hb) (fun _ _ h => h)).ns) ((hP.kp (F' := fun b => b < W1.heap.size) (Kp.of_below hb) (fun _ _ h => h)).en) (by omega) hml k)
    have HM := Lib.hid hMade
    have HY := Lib.hid hmay
    have HP := Lib.hid hP
    have HB1 := Lib.hid hb1
    have HEL := Lib.hid hel
    have HEL2 := Lib.hid hel2
    have HCK := Lib.hid hChk
    clear hMade hmay hP hb1 hst hes hel hel2 MW hChk hml
    go_wp2_with fail
    go_loopw [6] (fun iv wr => ∃ k : Nat, iv = .int .i64 k ∧ k ≤ rs.length ∧ Below (W1.heap.size + 1) (W1.alloc (.cells #[.slice A3 st.al.length C3, .slice (some ⟨nb, no, none⟩) st.ns.length C2, .slice A1 es.length C1] 27)) wr) (fun i _ => rs.length - (intOf i).toNat)
    case atStart => exact ⟨0, rfl, Nat.zero_le _, Below.refl _ _⟩
    case round =>
      obtain ⟨i, rfl, hi, hb⟩ := hrel
      have y0 := box_cellL hb 0 rfl
      have y1 := box_cellL hb 1 rfl
      have y2 := box_cellL hb 2 rfl
      by_cases hin : i < rs.length
      · obtain ⟨r, hr⟩ : ∃ r, rs[i]? = some r := ⟨_, List.getElem?_eq_getElem hin⟩
        obtain ⟨hst, e, he, -, hel⟩ := HM.out.ways i r hr
        have hmw := (made_way HM.out hr he).1
        have hwb := way_below HM.out.wf hst (conds_ok3 r)
        have hee : (es.map fun (e : Nat) => (e : Int))[i]? = some (e : Int) := by simp [he]
        have hCC := Lib.hid (CH.out wr (box_below hb) (i : Int))
        have HI := Lib.hid hin
        have HB := Lib.hid hb
        have HR := Lib.hid hr
        have HE := Lib.hid he
        have HEE := Lib.hid hee
        have HWB := Lib.hid hwb
        have HMW := Lib.hid hmw
        have e1 : (0 : Int) ≤ (i : Int) := by omega
        have e2 : (i : Int) < (es.length : Int) := by rw [HEL.out]; omega
        have e3 : (i : Int) < (rs.length : Int) := by omega
        clear hb hin hr he hee hmw hwb hst hel
        go_wp2_with fail
        refine hCC.out.mono ?_
        rintro e' w2 ⟨hb2, ⟨hno, _⟩ | ⟨_, q, x, va, hq, hx, rfl, hO⟩⟩
        · exact absurd ⟨HCK.out, by omega, by rw [HEL2.out, HEL.out]; have := HI.out; omega⟩ hno
        · obtain rfl : q = i := by omega
          rw [HEE.out] at hx
          obtain rfl := Option.some.inj hx
          rw [Int.toNat_natCast, HMW.out] at hO
          have hD := box_step HB.out hb2
          have hen := (HP.out.kp (F' := fun b => b < W1.heap.size) (Kp.of_below (box_below hD)) (fun _ _ h => h)).en
          obtain ⟨eb, eo, rfl, -, heb, cs, ⟨rfl, -⟩, hc⟩ := RSl.at hen (i := q) (x := (e : Int)) HEE.out
          have KP := Lib.hid (fun (w' : World) (hW : Below w2.heap.size w2 w') => (show w'.cell? ⟨W1.heap.size, 0, none⟩ = some (.slice A3 st.al.length C3) ∧ w'.cell? ⟨W1.heap.size, 1, none⟩ = some (.slice (some ⟨nb, no, none⟩) st.ns.length C2) ∧ w'.cell? ⟨W1.heap.size, 2, none⟩ = some (.slice (some ⟨eb, eo, none⟩) es.length C1) ∧ w'.cell? ⟨eb, eo + q, none⟩ = some (.int .i64 (e : Int)) from by
            have c0 := (hW.cell (p := ⟨eb, eo + q * 1 + 0, none⟩) heb).trans (hc 0 _ rfl)
            simp only [Nat.add_zero, Nat.mul_one] at c0
            exact ⟨box_cellL (box_step hD hW) 0 rfl, box_cellL (box_step hD hW) 1 rfl, box_cellL (box_step hD hW) 2 rfl, c0⟩))
          have CDX := Lib.hid (fun (Wx : World) (hb : Below w2.heap.size w2 Wx) => down_of HM.out HY.out HP.out (box_below (box_step hD hb)) HR.out HE.out)
          have EQX := Lib.hid (fun (vb : Value) (Wx : World) (B : Nat) (hb : Below w2.heap.size w2 Wx) (h : OwnI Wx B vb (wayF st 0 (conds r))) => (show Calls Try.prog 19 #[va, vb] Wx (fun e w' => e = .returned (.bool true) ∧ Below Wx.heap.size Wx w') from by
            have := equalIntsW va vb _ _ Wx ((hO.step hb).rsl (fun u hu => by have := HWB.out u hu; omega)) (h.rsl (fun u hu => by have := HWB.out u hu; omega))
            rw [eqB_eq rfl] at this
            exact this))
          have hS0 := KP.out _ (Below.refl w2.heap.size w2).drew
          have HDD := Lib.hid hD
          clear hen hc hD hO hb2 hq hx hCC
          go_wp2_with fail
          go_region_held3 (fun w' : World => w'.cell? ⟨W1.heap.size, 0, none⟩ = some (.slice A3 st.al.length C3) ∧ w'.cell? ⟨W1.heap.size, 1, none⟩ = some (.slice (some ⟨nb, no, none⟩) st.ns.length C2) ∧ w'.cell? ⟨W1.heap.size, 2, none⟩ = some (.slice (some ⟨eb, eo, none⟩) es.length C1) ∧ w'.cell? ⟨eb, eo + q, none⟩ = some (.int .i64 (e : Int)))
            (first | exact hS0 | exact KP.out _ B4 | exact KP.out _ B3 | go_keep)
            (first
              | (go_at_call 16; refine (CDX.out _ (Below.refl w2.heap.size w2).drew).mono ?_; rintro e' w3 ⟨vb, rfl, hO3, hb3⟩; have B3 := (Below.refl w2.heap.size w2).drew.trans (hb3.mono (show w2.heap.size ≤ w2.drew.heap.size from Nat.le_refl _)); clear hb3)
              | (go_at_call 19; refine (EQX.out _ _ _ B3 hO3).mono ?_; rintro e' w4 ⟨rfl, hb4⟩; have B4 := B3.trans (hb4.mono B3.size); clear hb4))
          have HD4 := Lib.hid (box_step HDD.out B4)
          clear hS0 B3 B4 hO3 EQX CDX
          go_wp2
          exact ⟨⟨q + 1, by go_num, HI.out, HD4.out⟩, by simp [intOf]; have := HI.out; omega⟩
      · obtain rfl : i = rs.length := by omega
        have HB := Lib.hid hb
        clear hb hin y0 y1 y2
        go_wp2
        go_loopw [9, 10] (fun cv nv wr => ∃ n : Nat, nv = .int .i64 n ∧ cv = .int .i64 (belowN st.ns n) ∧ n ≤ st.ns.length ∧ Below (W1.heap.size + 1) (W1.alloc (.cells #[.slice A3 st.al.length C3, .slice (some ⟨nb, no, none⟩) st.ns.length C2, .slice A1 es.length C1] 27)) wr) (fun _ n _ => st.ns.length - (intOf n).toNat)
        case atStart => exact ⟨0, rfl, by rw [belowN_zero]; rfl, Nat.zero_le _, HB.out⟩
        case round =>
          obtain ⟨n, rfl, rfl, hn, hb⟩ := hrel
          clear HB
          have y0 := box_cellL hb 0 rfl
          have y1 := box_cellL hb 1 rfl
          have y2 := box_cellL hb 2 rfl
          have hbl : belowN st.ns n ≤ st.ns.length := List.countP_le_length
          by_cases hnn : n < st.ns.length
          · have KC := Lib.hid (KI.out wr (box_below hb) (n : Int))
            have hnx := belowN_next st.ns n
            have hkl := kidsK_le st.ns n st.ns.length
            obtain ⟨bn, hbn⟩ : ∃ bn, belowN st.ns n = bn := ⟨_, rfl⟩
            rw [hbn] at hnx hbl ⊢
            have HNX := Lib.hid hnx
            have HN := Lib.hid hnn
            have HB := Lib.hid hb
            have e1 : (0 : Int) ≤ (n : Int) := by omega
            have e2 : (n : Int) < (st.ns.length : Int) := by omega
            clear hnx hbn hb hnn
            go_wp2_with fail
            refine KC.out.mono ?_
            rintro e w2 ⟨hb2, ⟨hno, _⟩ | ⟨_, _, _, v, rfl, hO⟩⟩
            · exact absurd ⟨HCK.out, by omega, by have := HN.out; omega⟩ hno
            · obtain ⟨Av, cv, rfl, -⟩ := hO.form
              have hB2 := box_step HB.out hb2
              have HB2 := Lib.hid hB2
              have HO := Lib.hid hO
              obtain ⟨l, hl⟩ : ∃ l, kidsK st.ns n st.ns.length = l := ⟨_, rfl⟩
              have HL := Lib.hid hl
              rw [hl] at HO HNX hkl ⊢
              clear hO hb2 hB2 hl KC y0 y1 y2
              go_wp2
              obtain ⟨wo, rfl⟩ : ∃ wo : World, wo = wr := ⟨_, rfl⟩
              go_loopw [9, 13] (fun cv jv wr => ∃ j : Nat, jv = .int .i64 j ∧ cv = .int .i64 ((bn : Int) + (j : Int)) ∧ j ≤ l.length ∧ Below w2.heap.size w2 wr) (fun _ j _ => l.length - (intOf j).toNat)
              case atStart => exact ⟨0, rfl, by simp, Nat.zero_le _, Below.refl _ _⟩
              case round =>
                obtain ⟨j, rfl, rfl, hj, hq⟩ := hrel
                by_cases hjn : j < l.length
                · obtain ⟨x, hx⟩ : ∃ x, l[j]? = some x := ⟨_, List.getElem?_eq_getElem hjn⟩
                  have hkx := hx
                  rw [← HL.out] at hkx
                  obtain ⟨x1, ⟨nd, x2, x3⟩, _⟩ := kids_at hkx
                  have x0 : 1 ≤ x := by
                    rcases Nat.eq_zero_or_pos x with rfl | h
                    · rw [HM.out.wf.root] at x2
                      rw [← Option.some.inj x2] at x3
                      have : (-1 : Int) = (n : Int) := x3
                      omega
                    · exact h
                  obtain ⟨g, hg, -, c0⟩ := (HO.out.step hq).at hx
                  subst hg
                  have y1 := box_cellL (box_step HB2.out hq) 1 rfl
                  obtain ⟨nb', no', ncs, hA', ⟨lv, mv, hE⟩, hc⟩ := HP.out.ns.rd x2
                  simp only [Option.some.injEq, Addr.mk.injEq, and_true] at hA'
                  obtain ⟨rfl, rfl⟩ := hA'
                  have hcs := hE.cells
                  subst hcs
                  have d1 := hc _ (box_below (box_step HB2.out hq)) 1 _ rfl
                  rw [x3] at d1
                  have e3 : (0 : Int) ≤ (j : Int) := by omega
                  have e4 : (j : Int) < (l.length : Int) := by omega
                  have e5 : decide ((x : Int) < 1) = false := decide_eq_false (by omega)
                  have e6 : decide ((st.ns.length : Int) ≤ (x : Int)) = false := decide_eq_false (by omega)
                  have e6' : decide (st.ns.length ≤ x) = false := decide_eq_false (by omega)
                  have e7 : (0 : Int) ≤ (x : Int) := by omega
                  have e8 : (x : Int) < (st.ns.length : Int) := by omega
                  have HJ := Lib.hid hjn
                  have HQ := Lib.hid hq
                  rcases Nat.eq_zero_or_pos j with rfl | hj0
                  · have f1 : decide ((0 : Int) < ((0 : Nat) : Int)) = false := decide_eq_false (by omega)
                    clear hc hE x0 x1 x2 x3 hx hkx hq hjn hj
                    go_wp2_with fail
                    go_quiet (fail)
                    go_wp2
                    exact ⟨⟨1, by go_num, by go_num, HJ.out, below_drewN HQ.out _⟩, by simp [intOf]; have := HJ.out; omega⟩
                  · obtain ⟨p, rfl⟩ : ∃ p, j = p + 1 := ⟨j - 1, by omega⟩
                    obtain ⟨z, hz⟩ : ∃ z, l[p]? = some z := ⟨_, List.getElem?_eq_getElem (by omega)⟩
                    have hkz := hz
                    rw [← HL.out] at hkz
                    have hzx := kids_rise hkz hkx
                    obtain ⟨g', hg', -, c1⟩ := (HO.out.step hq).at hz
                    simp only [Option.some.injEq, Addr.mk.injEq, and_true] at hg'
                    subst hg'
                    obtain ⟨j, hjp⟩ : ∃ j, j = p + 1 := ⟨_, rfl⟩
                    rw [← hjp] at c0 e3 e4 HJ ⊢
                    have f1 : decide ((0 : Int) < (j : Int)) = true := decide_eq_true (by omega)
                    have f1' : decide (0 < j) = true := decide_eq_true (by omega)
                    have f2 : IntKind.i64.wrap ((j : Int) - 1) = (p : Int) := by rw [IntWalk.i64_in _ (by omega)]; omega
                    have f3 : (0 : Int) ≤ (p : Int) := by omega
                    have f4 : (p : Int) < (l.length : Int) := by omega
                    have f5 : decide ((x : Int) ≤ (z : Int)) = false := decide_eq_false (by omega)
                    have f5' : decide (x ≤ z) = false := decide_eq_false (by omega)
                    clear hc hE x0 x1 x2 x3 hx hkx hq hjn hj hz hkz hzx hjp hj0
                    go_wp2_with fail
                    go_quiet (fail)
                    go_wp2
                    exact ⟨⟨j + 1, by go_num, by go_num, HJ.out, below_drewN HQ.out _⟩, by simp [intOf]; have := HJ.out; omega⟩
                · obtain rfl : j = l.length := by omega
                  have HBQ := Lib.hid (box_step HB2.out hq)
                  clear hq hjn
                  go_wp2
                  exact ⟨⟨n + 1, by go_num, by rw [HNX.out]; simp, HN.out, HBQ.out⟩, by simp [intOf]; have := HN.out; omega⟩
          · obtain rfl : n = st.ns.length := by omega
            have hall := belowN_all HM.out.wf.root (nodesP_par HCK.out.2.1)
            obtain ⟨bn, hbn⟩ : ∃ bn, belowN st.ns st.ns.length = bn := ⟨_, rfl⟩
            rw [hbn] at hall ⊢
            have CC := Lib.hid (CH.out wr (box_below hb) (rs.length : Int))
            have HB := Lib.hid hb
            clear hb hnn hbl hbn
            go_wp2_with fail
            refine CC.out.mono ?_
            rintro e w2 ⟨hb2, ⟨_, rfl⟩ | ⟨_, q, x, va, hq, hx, _⟩⟩
            · have hB2 := box_step HB.out hb2
              have y0 := box_cellL hB2 0 rfl
              have y1 := box_cellL hB2 1 rfl
              have y2 := box_cellL hB2 2 rfl
              have KC := Lib.hid (KI.out w2 (box_below hB2) (st.ns.length : Int))
              have HB2 := Lib.hid hB2
              clear hb2 hB2 CC
              go_wp2_with fail
              refine KC.out.mono ?_
              rintro e w3 ⟨hb3, ⟨_, rfl⟩ | ⟨_, _, hlt, _⟩⟩
              · have hB3 := box_step HB2.out hb3
                have y1 := box_cellL hB3 1 rfl
                have HB3 := Lib.hid (box_below hB3)
                have f1 : IntKind.i64.wrap ((st.ns.length : Int) - 1) = (bn : Int) := by rw [IntWalk.i64_in _ (by omega)]; omega
                have f2 : (st.ns.length : Int) - 1 = (bn : Int) := by omega
                clear hb3 hB3 KC
                go_wp2
                go_ret
                exact ⟨rfl, HB1.out.trans (HB3.out.mono HB1.out.size)⟩
              · omega
            · have := (List.getElem?_eq_some_iff.1 hx).1
              rw [HEL2.out, HEL.out] at this
              omega
  · have HB1 := Lib.hid hb1
    clear hb1 MW
    go_wp2_with fail
    go_ret
    exact ⟨rfl, HB1.out.alloc HB1.out.size _⟩
end Go.Proofs.Ytonkbjdeaneicaa
