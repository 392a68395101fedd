/- PlanShares: two rules' ways through the plan are one as far as the chains agree; no node is idle. -/
import Derived.Test.YtonkbjdeaneicaaCommon
import Derived.Test.YtonkbjdeaneicaaShA
namespace Go.Proofs.Ytonkbjdeaneicaa
open Go.RowKit Pln Classical Go.Maps

set_option maxRecDepth 200000 in
set_option maxHeartbeats 8000000 in
theorem sharesW {F : Nat → Prop} (v : Value) (rs : List Rl) (W : World) (h : RRules F W v rs) (hS : rs.length ≤ 1048576 ∧ ∀ r ∈ rs, rlSm 1048576 r) :
    Calls Try.prog 5 #[v] W fun e W' => e = .returned (.bool true) ∧ Below W.heap.size W W' := by
  have MW := Lib.hid (madeW v rs W h hS)
  obtain ⟨A, c, rfl⟩ := h.form
  have H := Lib.hid (RRules.kp (F' := fun b => b < W.heap.size) h (Kp.refl _ _) (fun b hb _ => hb))
  have SM := Lib.hid hS
  have hm := hS.1
  clear h hS
  go_enter Try.func5, Try.ntmps5
  go_wp2_with fail
  refine MW.out.mono ?_
  rintro e W1 ⟨hb1, ⟨hmay, av, nv, ev, rfl, hP⟩ | ⟨_, rfl⟩⟩
  · have hMade := made_comp rs
    have hcl := (comp_len rs hmay rs.length (Nat.le_refl _)).1
    rw [List.take_length] at hcl
    obtain ⟨st, hst⟩ : ∃ st, (compF rs).1 = st := ⟨_, rfl⟩
    obtain ⟨es, hes⟩ : ∃ es, (compF rs).2 = es := ⟨_, rfl⟩
    rw [hst] at hP hMade hcl
    rw [hes] at hP hMade
    have hnl := hMade.wf.len
    have hel := hMade.len
    obtain ⟨A3, C3, rfl⟩ := hP.al.form
    obtain ⟨nb, no, C2, rfl, _, _, _⟩ := RSl.base hP.ns hnl
    obtain ⟨A1, C1, rfl⟩ := hP.en.form
    have hel2 : (es.map fun (e : Nat) => (e : Int)).length = es.length := by simp
    rw [hel2] at hP ⊢
    have hmk := fun w => run_makeB st.ns.length (by omega) w
    have HM := Lib.hid hMade
    have HY := Lib.hid hmay
    have HP := Lib.hid hP
    have HB1 := Lib.hid hb1
    have HEL := Lib.hid hel
    clear hMade hmay hP hb1 hst hes hel hel2 MW
    go_wp2_with fail
    have hss := ShS.start (W1 := W1) (pl := #[.slice A3 st.al.length C3, .slice (some ⟨nb, no, none⟩) st.ns.length C2, .slice A1 es.length C1]) (n := st.ns.length) (by omega)
    clear hmk
    go_loopw [7] (fun iv wr => ∃ (k : Nat) (us : List Bool), iv = .int .i64 k ∧ k ≤ rs.length ∧ us.length = st.ns.length ∧ UsedTo rs st us k ∧ ShS W1 wr #[.slice A3 st.al.length C3, .slice (some ⟨nb, no, none⟩) st.ns.length C2, .slice A1 es.length C1] us st.ns.length) (fun i _ => rs.length - (intOf i).toNat)
    case atStart => exact ⟨0, _, rfl, Nat.zero_le _, by simp, fun j r u hj => by omega, hss⟩
    case round =>
      obtain ⟨i, us, rfl, hi, hul, hU, hS⟩ := hrel
      clear hss
      by_cases hin : i < rs.length
      · obtain ⟨r, hr⟩ : ∃ r, rs[i]? = some r := ⟨_, List.getElem?_eq_getElem hin⟩
        obtain ⟨hst, e, he, -, hel⟩ := HM.out.ways i r hr
        have hwb := way_below HM.out.wf hst (conds_ok3 r)
        have hlen : (wayF st 0 (conds r)).length ≤ 16 := by
          obtain ⟨w, hw⟩ := HY.out r (List.mem_of_getElem? hr)
          rw [way_len, conds_len]
          exact hw.many
        have hD := hS.drew
        have hen := (HP.out.kp (F' := fun b => b < W1.heap.size) (Kp.of_below (box_below hD.below)) (fun _ _ h => h)).en
        obtain ⟨eb, eo, rfl, -, -, cs, ⟨rfl, -⟩, hc⟩ := RSl.at hen (i := i) (x := (e : Int)) (by simp [he])
        have c0 := hc 0 _ rfl
        simp only [Nat.add_zero, Nat.mul_one] at c0
        have y0 := box_cell hD.below 0 _ rfl
        have y1 := box_cell hD.below 1 _ rfl
        have y2 := box_cell hD.below 2 _ rfl
        have e1 : (0 : Int) ≤ (i : Int) := by omega
        have e2 : (i : Int) < (es.length : Int) := by rw [HEL.out]; omega
        have e3 : (i : Int) < (rs.length : Int) := by omega
        have CD := Lib.hid (down_of HM.out HY.out HP.out (box_below hD.below) hr he)
        have HD := Lib.hid hD
        have HU := Lib.hid hU
        have HR := Lib.hid hr
        have HL := Lib.hid hlen
        have HW := Lib.hid hwb
        obtain ⟨base, hbase⟩ : ∃ b, wr.drew.heap.size = b := ⟨_, rfl⟩
        have hbs : W1.heap.size + 1 < base := by rw [← hbase]; exact hD.row.lt
        rw [hbase] at CD
        have HBS := Lib.hid hbase
        clear hbase
        clear hen hc hD hS hU hr hlen hwb hst he hel
        go_wp2_with fail
        go_still_tail 6, (by kernel_rfl)
        change wpList _ _ _ _ _ wr.drew
        go_wp2_with fail
        refine CD.out.mono ?_
        rintro e' w2 ⟨va, rfl, hO, hb2⟩
        have HS := Lib.hid (HD.out.step (by rw [HBS.out]; exact hb2))
        obtain ⟨l, hl⟩ : ∃ l, wayF st 0 (conds r) = l := ⟨_, rfl⟩
        rw [hl] at hO HW HL
        have HWL := Lib.hid hl
        obtain ⟨Aa, ca, rfl, hlc⟩ := hO.form
        have HO := Lib.hid hO
        have HLC := Lib.hid hlc
        have HI := Lib.hid hin
        have hl16 := HL.out
        clear hO hb2 y0 y1 y2 c0 HD CD hl hlc hin
        go_wp2
        go_loopw [9] (fun tv wr => ∃ (t : Nat) (us : List Bool), tv = .int .i64 t ∧ t ≤ l.length ∧ us.length = st.ns.length ∧ UsedTo rs st us i ∧ MarkTo l us t ∧ ShS W1 wr #[.slice A3 st.al.length C3, .slice (some ⟨nb, no, none⟩) st.ns.length C2, .slice (some ⟨eb, eo, none⟩) es.length C1] us st.ns.length ∧ OwnI wr base (.slice Aa l.length ca) l) (fun i _ => l.length - (intOf i).toNat)
        case atStart => exact ⟨0, us, rfl, Nat.zero_le _, hul, HU.out, fun q u hq => by omega, HS.out, HO.out⟩
        case round =>
          obtain ⟨t, us, rfl, ht, hul, hU, hM, hS, hO⟩ := hrel
          clear HU HS HO
          by_cases htn : t < l.length
          · obtain ⟨u, hu⟩ : ∃ u, l[t]? = some u := ⟨_, List.getElem?_eq_getElem htn⟩
            have hun := HW.out u (List.mem_of_getElem? hu)
            obtain ⟨ga, rfl, -, c0⟩ := hO.at hu
            obtain ⟨x, hx⟩ : ∃ x, us[u]? = some x := ⟨_, List.getElem?_eq_getElem (by omega)⟩
            have d0 := hS.row.cell hx
            have f0 := hS.row.frozen u
            have HS2 := Lib.hid (hS.put u).1
            have HO2 := Lib.hid (hO.turns (hS.put u).2 hbs)
            have HU2 := Lib.hid (hU.set u)
            have HM2 := Lib.hid (hM.next hu (by omega))
            have hul2 : (us.set u true).length = st.ns.length := by rw [List.length_set]; exact hul
            have HUL := Lib.hid hul2
            have e4 : (0 : Int) ≤ (t : Int) := by omega
            have e5 : (t : Int) < (l.length : Int) := by omega
            have e6 : (0 : Int) ≤ (u : Int) := by omega
            have e7 : (u : Int) < (st.ns.length : Int) := by omega
            have HT := Lib.hid htn
            clear hU hM hS hO htn hul2 hul hx hu hun
            go_wp2
            exact ⟨⟨t + 1, us.set u true, by go_num, HT.out, HUL.out, HU2.out, HM2.out, HS2.out, HO2.out⟩, by simp [intOf]; have := HT.out; omega⟩
          · obtain rfl : t = l.length := by omega
            have HU2 := Lib.hid (hU.next HR.out (by rw [HWL.out]; exact hM))
            have HS := Lib.hid hS
            have HO := Lib.hid hO
            have HUL := Lib.hid hul
            clear hU hM hS hO hul htn ht
            go_wp2
            go_loopw [10] (fun jv wr => ∃ j : Nat, jv = .int .i64 j ∧ j ≤ i + 1 ∧ ShS W1 wr #[.slice A3 st.al.length C3, .slice (some ⟨nb, no, none⟩) st.ns.length C2, .slice (some ⟨eb, eo, none⟩) es.length C1] us st.ns.length ∧ OwnI wr base (.slice Aa l.length ca) l) (fun j _ => i + 1 - (intOf j).toNat)
            case atStart => exact ⟨0, rfl, Nat.zero_le _, HS.out, HO.out⟩
            case round =>
              obtain ⟨j, rfl, hj, hS, hO⟩ := hrel
              clear HS HO
              by_cases hji : j ≤ i
              · have hjn : j < rs.length := by have := HI.out; omega
                obtain ⟨q, hq⟩ : ∃ q, rs[j]? = some q := ⟨_, List.getElem?_eq_getElem hjn⟩
                obtain ⟨hst, e', he, -, hel⟩ := HM.out.ways j q hq
                have hwb2 := way_below HM.out.wf hst (conds_ok3 q)
                have hlen2 : (wayF st 0 (conds q)).length ≤ 16 := by
                  obtain ⟨w, hw⟩ := HY.out q (List.mem_of_getElem? hq)
                  rw [way_len, conds_len]
                  exact hw.many
                obtain ⟨hst0, _, _, -, _⟩ := HM.out.ways i r HR.out
                have hshare := ways_share HM.out.wf hst0 hst (HY.out r (List.mem_of_getElem? HR.out)).choose_spec.okCs (HY.out q (List.mem_of_getElem? hq)).choose_spec.okCs (conds_ok3 r) (conds_ok3 q)
                have hle := lcp_le (conds r) (conds q)
                have hwl2 : (wayF st 0 (conds q)).length = (conds q).length := way_len _ _ _
                have hwl1 : (wayF st 0 (conds r)).length = (conds r).length := way_len _ _ _
                rw [← hwl1, ← hwl2, HWL.out] at hle
                rw [HWL.out] at hshare
                have hD := hS.drew
                have hen := (HP.out.kp (F' := fun b => b < W1.heap.size) (Kp.of_below (box_below hD.below)) (fun _ _ h => h)).en
                obtain ⟨eb', eo', hA', -, -, cs, ⟨rfl, -⟩, hc⟩ := RSl.at hen (i := j) (x := (e' : Int)) (by simp [he])
                simp only [Option.some.injEq, Addr.mk.injEq, and_true] at hA'
                obtain ⟨rfl, rfl⟩ := hA'
                have c0 := hc 0 _ rfl
                simp only [Nat.add_zero, Nat.mul_one] at c0
                have y0 := box_cell hD.below 0 _ rfl
                have y1 := box_cell hD.below 1 _ rfl
                have y2 := box_cell hD.below 2 _ rfl
                have e4 : (0 : Int) ≤ (j : Int) := by omega
                have e5 : (j : Int) < (es.length : Int) := by rw [HEL.out]; omega
                have e6 : (j : Int) < (rs.length : Int) := by omega
                have e7 : (j : Int) ≤ (i : Int) := by omega
                have CD := Lib.hid (down_of HM.out HY.out HP.out (box_below hD.below) hq he)
                have HD := Lib.hid hD
                have HQ := Lib.hid hq
                have HOD := Lib.hid (hO.step (Below.refl _ _).drew)
                have HJ := Lib.hid hji
                obtain ⟨l2, hl2⟩ : ∃ l2, wayF st 0 (conds q) = l2 := ⟨_, rfl⟩
                rw [hl2] at CD hwb2 hlen2 hshare hle
                obtain ⟨n, hn⟩ : ∃ n, lcp (conds r) (conds q) = n := ⟨_, rfl⟩
                rw [hn] at hshare hle
                have HN := Lib.hid hn
                have HW2 := Lib.hid hwb2
                have HSH := Lib.hid hshare
                have HLE := Lib.hid hle
                clear hS hO hen hc hD hq hst he hel hst0 hwl1 hwl2 hl2 hwb2 hshare hn hle hj hji hjn
                go_wp2_with fail
                go_still_tail 6, (by kernel_rfl)
                change wpList _ _ _ _ _ wr.drew
                go_wp2_with fail
                refine CD.out.mono ?_
                rintro e' w2 ⟨vb, rfl, hO2, hb2⟩
                have hD2 := (HD.out.step hb2).drew
                have hOD2 := (HOD.out.step hb2).step (Below.refl _ _).drew
                have hO2 := hO2.step (Below.refl _ _).drew
                obtain ⟨Ab, cb, rfl, hlc2⟩ := hO2.form
                have hrr := RRules.kp (F' := fun b => b < W.heap.size) H.out (Kp.of_below (HB1.out.trans ((box_below hD2.below).mono HB1.out.size))) (fun _ _ h => h)
                obtain ⟨rb, ro, rfl, -, -, cs, ⟨hv, pv, tv, nv, vv, hE⟩, hc⟩ := hrr.at HR.out
                obtain ⟨rb', ro', hA', -, -, cs', ⟨hv', pv', tv', nv', vv', hE'⟩, hc'⟩ := hrr.at HQ.out
                simp only [Option.some.injEq, Addr.mk.injEq, and_true] at hA'
                obtain ⟨rfl, rfl⟩ := hA'
                have hcs := hE.cells
                subst hcs
                have hcs := hE'.cells
                subst hcs
                have a0 := hc 0 _ rfl
                have a1 := hc 1 _ rfl
                have a2 := hc 2 _ rfl
                have a3 := hc 3 _ rfl
                have a4 := hc 4 _ rfl
                have a5 := hc 5 _ rfl
                have a6 := hc 6 _ rfl
                have b0 := hc' 0 _ rfl
                have b1 := hc' 1 _ rfl
                have b2 := hc' 2 _ rfl
                have b3 := hc' 3 _ rfl
                have b4 := hc' 4 _ rfl
                have b5 := hc' 5 _ rfl
                have b6 := hc' 6 _ rfl
                simp only [Nat.add_zero] at a0 b0
                have CC := Lib.hid (commonW r q _ hE hE' (SM.out.2 r (List.mem_of_getElem? HR.out)) (SM.out.2 q (List.mem_of_getElem? HQ.out)))
                rw [HN.out] at CC
                have HD2 := Lib.hid hD2
                have HOD2 := Lib.hid hOD2
                have HO2 := Lib.hid hO2
                have HLC2 := Lib.hid hlc2
                clear hrr hc hc' hE hE' hD2 hOD2 hO2 hb2 hlc2 y0 y1 y2 c0 HD HOD CD
                go_wp2
                go_still_tail 8, (by kernel_rfl)
                change wpList _ _ _ _ _ w2.drew
                go_wp2_with fail
                refine CC.out.mono ?_
                rintro e' w3 ⟨rfl, hb3⟩
                have HD3 := Lib.hid (HD2.out.step hb3)
                have HOD3 := Lib.hid (HOD2.out.step hb3)
                have HO3 := Lib.hid (HO2.out.step hb3)
                clear hb3 a0 a1 a2 a3 a4 a5 a6 b0 b1 b2 b3 b4 b5 b6 HD2 HOD2 HO2 CC
                obtain ⟨hn1, hn2⟩ := HLE.out
                have g1 : ¬ (l.length : Int) < (n : Int) := by omega
                have g2 : ¬ (l2.length : Int) < (n : Int) := by omega
                have g3 : decide ((l.length : Int) < (n : Int)) = false := by simpa using hn1
                have g4 : decide ((l2.length : Int) < (n : Int)) = false := by simpa using hn2
                have g5 : decide (l.length < n) = false := by simpa using hn1
                have g6 : decide (l2.length < n) = false := by simpa using hn2
                have s1 := run_cutI Aa l.length ca n hn1 HLC.out
                have s2 := run_cutI Ab l2.length cb n hn2 HLC2.out
                obtain ⟨S, hSe⟩ : ∃ S, S = fun w' => Below w3.heap.size w3 w' := ⟨_, rfl⟩
                have SE := Lib.hid hSe
                have CE := Lib.hid (fun (W' : World) (hb : Below w3.heap.size w3 W') => equalIntsW (.slice Aa n ca) (.slice Ab n cb) _ _ W' (((HOD3.out.step hb).rsl (fun u hu => by have := HW.out u hu; omega)).take (by simpa using hn1)) (((HO3.out.step hb).rsl (fun u hu => by have := HW2.out u hu; omega)).take (by simpa using hn2)))
                have heq : eqB ((l.map fun (n : Nat) => (n : Int)).take n) ((l2.map fun (n : Nat) => (n : Int)).take n) = true := eqB_eq (by rw [← List.map_take, ← List.map_take, HSH.out.1])
                rw [heq] at CE
                have KP := Lib.hid (fun (p : Pt S) => (congrFun hSe p.val).mp p.property)
                have NE : Nonempty (Pt S) := ⟨⟨w3, (congrFun hSe w3).mpr (Below.refl _ _)⟩⟩
                have HB3 := Lib.hid ((congrFun hSe w3.drew).mpr (Below.refl _ _).drew)
                clear hSe heq hn1 hn2
                go_wp2_with fail
                refine wp_region_class (S := S) HB3.out (by kernel_rfl) (by kernel_rfl) ?_
                repeat (go_big_quiet_step ((go_at_call 19; refine (CE.out _ (KP.out _)).mono ?_; rintro e w' ⟨rfl, hbel⟩; exact ⟨rfl, ⟨w', (congrFun SE.out w').mpr ((KP.out _).trans (hbel.mono (KP.out _).size))⟩, rfl⟩)))
                refine wpQuiet_nil ?_
                rintro wq ⟨⟨_, hW⟩, rfl⟩
                have hWb := (congrFun SE.out wq).mp hW
                have HD4 := Lib.hid (HD3.out.step hWb)
                have HO4 := Lib.hid (HO3.out.step hWb)
                have HOD4 := Lib.hid (HOD3.out.step hWb)
                clear NE hW hWb s1 s2
                rcases Nat.lt_or_ge n l.length with k1 | k1
                · rcases Nat.lt_or_ge n l2.length with k2 | k2
                  · obtain ⟨x, hx⟩ : ∃ x, l[n]? = some x := ⟨_, List.getElem?_eq_getElem k1⟩
                    obtain ⟨y, hy⟩ : ∃ y, l2[n]? = some y := ⟨_, List.getElem?_eq_getElem k2⟩
                    have hxy : ¬ x = y := HSH.out.2 x y hx hy
                    obtain ⟨ga, rfl, -, c1⟩ := HOD4.out.at hx
                    obtain ⟨gb, rfl, -, c2⟩ := HO4.out.at hy
                    have hxy1 : ¬ (x : Int) = (y : Int) := by omega
                    have hxy2 : ((x : Int) == (y : Int)) = false := by simpa using hxy1
                    have hxy3 : decide ((x : Int) = (y : Int)) = false := by simpa using hxy1
                    have m1 : (n : Int) < (l.length : Int) := by omega
                    have m2 : (n : Int) < (l2.length : Int) := by omega
                    have m3 : decide ((n : Int) < (l.length : Int)) = true := by simpa using k1
                    have m4 : decide ((n : Int) < (l2.length : Int)) = true := by simpa using k2
                    have m5 : decide (n < l.length) = true := by simpa using k1
                    have m6 : decide (n < l2.length) = true := by simpa using k2
                    have m0 : (0 : Int) ≤ (n : Int) := by omega
                    clear hx hy hxy g1 g2 g3 g4 g5 g6
                    go_wp2_with fail
                    go_quiet (fail)
                    go_wp2
                    exact ⟨⟨j + 1, by go_num, by have := HJ.out; omega, HD4.out.step (below_drewN (Below.refl _ _) _), HOD4.out.step (below_drewN (Below.refl _ _) _)⟩, by simp [intOf]; have := HJ.out; omega⟩
                  · have m1 : (n : Int) < (l.length : Int) := by omega
                    have m3 : decide ((n : Int) < (l.length : Int)) = true := by simpa using k1
                    have m4 : decide ((n : Int) < (l2.length : Int)) = false := by simpa using k2
                    have m5 : decide (n < l.length) = true := by simpa using k1
                    have m6 : decide (n < l2.length) = false := by simpa using k2
                    clear g1 g2 g3 g4 g5 g6
                    go_wp2_with fail
                    go_quiet (fail)
                    go_wp2
                    exact ⟨⟨j + 1, by go_num, by have := HJ.out; omega, HD4.out.step (below_drewN (Below.refl _ _) _), HOD4.out.step (below_drewN (Below.refl _ _) _)⟩, by simp [intOf]; have := HJ.out; omega⟩
                · have m3 : decide ((n : Int) < (l.length : Int)) = false := by simpa using k1
                  have m5 : decide (n < l.length) = false := by simpa using k1
                  clear g1 g2 g3 g4 g5 g6
                  go_wp2_with fail
                  go_quiet (fail)
                  go_wp2
                  exact ⟨⟨j + 1, by go_num, by have := HJ.out; omega, HD4.out.step (below_drewN (Below.refl _ _) _), HOD4.out.step (below_drewN (Below.refl _ _) _)⟩, by simp [intOf]; have := HJ.out; omega⟩
              · obtain rfl : j = i + 1 := by omega
                have HS := Lib.hid hS
                clear hS hO hj hji
                have e4 : ¬ ((i + 1 : Nat) : Int) ≤ (i : Int) := by omega
                go_wp2
                exact ⟨⟨i + 1, us, by go_num, HI.out, HUL.out, HU2.out, HS.out⟩, by simp [intOf]; have := HI.out; omega⟩
      · obtain rfl : i = rs.length := by omega
        have HS := Lib.hid hS
        have HU := Lib.hid hU
        have g0 : (1 : Int) ≤ (st.ns.length : Int) := by omega
        clear hS hU hin
        go_wp2
        go_loopw [13] (fun kv wr => ∃ k : Nat, kv = .int .i64 k ∧ 1 ≤ k ∧ k ≤ st.ns.length ∧ ShS W1 wr #[.slice A3 st.al.length C3, .slice (some ⟨nb, no, none⟩) st.ns.length C2, .slice A1 es.length C1] us st.ns.length) (fun k _ => st.ns.length - (intOf k).toNat)
        case atStart => exact ⟨1, rfl, Nat.le_refl _, hnl, HS.out⟩
        case round =>
          obtain ⟨k, rfl, hk1, hk, hS⟩ := hrel
          clear HS
          by_cases hkn : k < st.ns.length
          · have d0 := hS.row.cell (made_all HM.out HU.out hk1 hkn)
            have HS := Lib.hid hS
            have HK := Lib.hid hkn
            have e4 : (0 : Int) ≤ (k : Int) := by omega
            have e5 : (k : Int) < (st.ns.length : Int) := by omega
            clear hS hkn
            go_wp2
            exact ⟨⟨k + 1, by go_num, by omega, HK.out, HS.out⟩, by simp [intOf]; have := HK.out; omega⟩
          · obtain rfl : k = st.ns.length := by omega
            have HS := Lib.hid hS
            clear hS hkn
            go_wp2
            go_ret
            exact ⟨rfl, HB1.out.trans ((box_below HS.out.below).mono HB1.out.size)⟩
  · have HB1 := Lib.hid hb1
    clear hb1 MW
    go_wp2_with fail
    go_ret
    exact ⟨rfl, HB1.out.alloc HB1.out.size _⟩
end Go.Proofs.Ytonkbjdeaneicaa
