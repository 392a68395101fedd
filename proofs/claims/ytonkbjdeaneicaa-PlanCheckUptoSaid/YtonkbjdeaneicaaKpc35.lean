/- The reference's Fit: may a rule be compiled? The reference's Compile: all rules' ways. -/
import Derived.Test.YtonkbjdeaneicaaKpc12
import Derived.Test.YtonkbjdeaneicaaKpc19
import Derived.Test.YtonkbjdeaneicaaKpc28
import Derived.Test.YtonkbjdeaneicaaKpc33
import Derived.StillTailTactics
namespace Go.Proofs.Ytonkbjdeaneicaa
open Go.RowKit Pln Classical

set_option maxRecDepth 100000 in
set_option maxHeartbeats 4000000 in
theorem rfitW {F : Nat → Prop} {cs : List Value} {hv pv tv nv vv : Value} (r : Rl) (w : World) (h : ERl F w cs r hv pv tv nv vv) (hS : rlSm 1048576 r) :
    Calls Try.prog 25 #[.agg #[.int .i64 r.head.pred, hv, pv, tv, nv, vv, .int .i64 r.clause]] w (SomeMay r w) := by
  obtain ⟨Ap, cp, hpv⟩ := h.pos.form
  obtain ⟨At, ct, htv⟩ := h.tests.form
  obtain ⟨An, cn, hnv⟩ := h.neg.form
  subst hpv; subst htv; subst hnv
  have l1 := hS.pos.1
  have l2 := hS.tests
  have l3 := hS.neg.1
  have H := Lib.hid h
  have SM := Lib.hid hS
  clear h hS
  by_cases hmany : 16 < r.pos.length + r.tests.length + r.neg.length
  · have hb := Lib.hid (mayB_false (r := r) (fun ⟨w, hh⟩ => by have := hh.many; omega))
    go_enter Try.func25, Try.ntmps25
    go_wp2
    go_ret2
    exact someMay hb.out ((Below.refl _ _).alloc (Nat.le_refl _) _)
  · go_enter Try.func25, Try.ntmps25
    go_wp2
    go_loopw [4, 5] (fun wd i wr => ∃ k : Nat, i = .int .i64 k ∧ wd = .int .i64 (wAt r k) ∧ PosTo r k ∧ Below (w.heap.size + 1) (w.alloc (.cells #[.int .i64 r.head.pred, hv, .slice Ap r.pos.length cp, .slice At r.tests.length ct, .slice An r.neg.length cn, vv, .int .i64 r.clause] 39)) wr) (fun _ i _ => r.pos.length - (intOf i).toNat)
    case atStart => exact ⟨0, rfl, rfl, ⟨Nat.zero_le _, by simp, trivial⟩, Below.refl _ _⟩
    case round =>
      obtain ⟨k, rfl, rfl, hP, hb⟩ := hrel
      have x1 := box_cell hb 2 _ rfl
      have hw128 := hP.wle (by omega)
      have hwz : w.heap.size < wr.heap.size := by have := hb.size; simp at this; omega
      by_cases hkn : k < r.pos.length
      · obtain ⟨p, hp⟩ : ∃ p, r.pos[k]? = some p := ⟨_, List.getElem?_eq_getElem hkn⟩
        obtain ⟨b, off, rfl, hFb, hbs, cs, ⟨av, rfl, pok, ha⟩, hc⟩ := (H.out.pos.kp (Kp.of_below (box_below hb)) (fun _ _ h => h) (fun _ _ h => h.kp (Kp.of_below (box_below hb)) (fun _ _ h => h))).at hp
        have c0 := hc 0 _ rfl
        have c1 := hc 1 _ rfl
        simp only [Nat.add_zero] at c0
        obtain ⟨Aa, ca, rfl⟩ := ha.form
        have hpl := SM.out.pos.2 p (List.mem_of_getElem? hp)
        unfold patSm at hpl
        have CP := Lib.hid (fun W' (hb : Below wr.heap.size wr W') => rpatternW p _ W' (ha.keep (Kp.of_below hb)))
        have e1 : (0 : Int) ≤ (k : Int) := by omega
        have e2 : (k : Int) < (r.pos.length : Int) := by omega
        have HP := Lib.hid hp
        have HH := Lib.hid hP
        have HK := Lib.hid hkn
        have HB := Lib.hid hb
        have HA := Lib.hid ha
        have hc' := Lib.hid hc
        have HFB := Lib.hid hFb
        clear hc hp hP hkn hb ha
        go_wp2_with fail
        refine (CP.out _ (Below.refl _ _)).mono ?_
        rintro e w2 ⟨he, hb2⟩
        by_cases hpt : 0 ≤ p.pred ∧ p.args.length ≤ 8
        case neg =>
          rw [decide_eq_false hpt] at he
          subst he
          have HF := Lib.hid (mayB_false (r := r) (fun hh => hpt (fit_at hh HP.out).2))
          have HBB := Lib.hid (box_step HB.out hb2)
          clear hb2
          go_wp2
          go_ret2
          exact someMay HF.out (box_below HBB.out)
        rw [decide_eq_true hpt] at he
        subst he
        obtain ⟨w0, hw0⟩ : ∃ w0, wAt r k = w0 := ⟨_, rfl⟩
        have HW0 := Lib.hid hw0
        rw [hw0] at hw128 ⊢
        have x1 := (hb2.cell (p := ⟨w.heap.size, 2, none⟩) hwz).trans x1
        have hwz : w.heap.size < w2.heap.size := Nat.lt_of_lt_of_le hwz hb2.size
        have hbs : b < w2.heap.size := Nat.lt_of_lt_of_le hbs hb2.size
        have hc' := Lib.hid (show CsIn w2 b (off + k * 2) [.int .i64 p.pred, .slice Aa p.args.length ca] from fun j u hu => (hb2.cell (p := ⟨b, off + k * 2 + j, none⟩) ‹b < wr.heap.size›).trans (hc'.out j u hu))
        have HA := Lib.hid (HA.out.keep (Kp.of_below hb2))
        have HB := Lib.hid (box_step HB.out hb2)
        clear hw0 hb2 c0 c1 CP
        go_wp2
        obtain ⟨wo, rfl⟩ : ∃ wo : World, wo = w2 := ⟨_, rfl⟩
        go_loopw [4, 6] (fun wd i wr => ∃ j : Nat, i = .int .i64 j ∧ wd = .int .i64 (scanD (p.args.take j) w0) ∧ j ≤ p.args.length ∧ okA (p.args.take j) w0 ∧ Below wo.heap.size wo wr) (fun _ i _ => p.args.length - (intOf i).toNat)
        case atStart => exact ⟨0, rfl, rfl, Nat.zero_le _, trivial, Below.refl _ _⟩
        case round =>
          obtain ⟨j, rfl, rfl, hj, hok, hb2⟩ := hrel
          have x1' := (hb2.cell (p := ⟨w.heap.size, 2, none⟩) hwz).trans x1
          have hwz' : w.heap.size < wr.heap.size := Nat.lt_of_lt_of_le hwz hb2.size
          have hC2 := hc'.out.kp (F := fun _ => True) (Kp.of_below hb2) hbs trivial
          have c1' := hC2 1 _ rfl
          have hlen := scanD_len (p.args.take j) w0
          have hlj : (p.args.take j).length ≤ j := List.length_take_le _ _
          have HB2 := Lib.hid hb2
          clear x1 hC2
          by_cases hjn : j < p.args.length
          · obtain ⟨s, hs⟩ : ∃ s, p.args[j]? = some s := ⟨_, List.getElem?_eq_getElem hjn⟩
            obtain ⟨b', off', hAe, hF', hbs', cs', ⟨rfl, sok⟩, hc2⟩ := (HA.out.keep (Kp.of_below hb2)).at hs
            subst hAe
            have d0 := hc2 0 _ rfl
            have d1 := hc2 1 _ rfl
            simp only [Nat.add_zero] at d0
            obtain ⟨sv, sn⟩ := s
            simp only at d0 d1
            have f1 : (0 : Int) ≤ (j : Int) := by omega
            have f2 : (j : Int) < (p.args.length : Int) := by omega
            have hbb : b' < wr.heap.size := hbs'
            have hbb2 : b < wr.heap.size := Nat.lt_of_lt_of_le hbs hb2.size
            obtain ⟨wc, hwc⟩ : ∃ wc, scanD (p.args.take j) w0 = wc := ⟨_, rfl⟩
            have HWC := Lib.hid hwc
            have HOK := Lib.hid hok
            have HJ := Lib.hid hjn
            have HS := Lib.hid hs
            rw [hwc] at hlen ⊢
            have hwc2 : wc ≤ 1048704 := by omega
            clear hwc hlen hok hc2 hs hjn hlj hb2
            by_cases h0 : sn < 0
            · have HF := Lib.hid (mayB_false (r := r) (fun hh => by have := (okA_at (fit_at hh HP.out).1 HS.out).1; simp only at this; omega))
              go_wp2
              go_ret2
              exact someMay HF.out (((box_below HB.out).trans (HB2.out.mono (by omega))).trans (((Below.refl _ _).alloc (Nat.le_refl _) _).mono (by omega)))
            · have HW2 := Lib.hid (HB2.out.trans (((Below.refl wr.heap.size wr).alloc (Nat.le_refl _) (.cells #[.bool sv, .int .i64 sn] 50)).mono HB2.out.size))
              cases sv with
              | false =>
                have HX := Lib.hid (show scanD (p.args.take (j + 1)) w0 = wc by rw [scanD_succ HS.out, if_neg (by simp)]; exact HWC.out)
                have HO := Lib.hid (okA_snoc HS.out HOK.out (by simp only; omega) (by simp))
                go_wp2
                exact ⟨⟨j + 1, by go_num, by rw [HX.out], HJ.out, HO.out, HW2.out⟩, by simp [intOf]; have := HJ.out; omega⟩
              | true =>
                by_cases h1 : (wc : Int) < sn
                · have HF := Lib.hid (mayB_false (r := r) (fun hh => by
                    have h2 := (okA_at (fit_at hh HP.out).1 HS.out).2 rfl
                    rw [HW0.out, HWC.out] at h2
                    simp only at h2
                    omega))
                  go_wp2
                  go_ret2
                  exact someMay HF.out (((box_below HB.out).trans (HB2.out.mono (by omega))).trans (((Below.refl _ _).alloc (Nat.le_refl _) _).mono (by omega)))
                · have HO := Lib.hid (okA_snoc HS.out HOK.out (by simp only; omega) (fun _ => by rw [HWC.out]; simp only; omega))
                  by_cases h2 : sn = (wc : Int)
                  · have HX := Lib.hid (show scanD (p.args.take (j + 1)) w0 = wc + 1 by rw [scanD_succ HS.out, HWC.out, if_pos ⟨rfl, h2⟩])
                    have h2b : (sn == (wc : Int)) = true := by simpa using h2
                    clear h2
                    go_wp2
                    exact ⟨⟨j + 1, by go_num, by rw [HX.out]; go_num, HJ.out, HO.out, HW2.out⟩, by simp [intOf]; have := HJ.out; omega⟩
                  · have HX := Lib.hid (show scanD (p.args.take (j + 1)) w0 = wc by rw [scanD_succ HS.out, HWC.out, if_neg (fun h => h2 h.2)])
                    have h2b : (sn == (wc : Int)) = false := by simpa using h2
                    clear h2
                    go_wp2
                    exact ⟨⟨j + 1, by go_num, by rw [HX.out], HJ.out, HO.out, HW2.out⟩, by simp [intOf]; have := HJ.out; omega⟩
          · obtain rfl : j = p.args.length := by omega
            rw [List.take_length] at hok ⊢
            have hbb2 : b < wr.heap.size := Nat.lt_of_lt_of_le hbs hb2.size
            have c0' := hc'.out.kp (F := fun _ => True) (Kp.of_below hb2) hbs trivial 0 _ rfl
            simp only [Nat.add_zero] at c0'
            have HOK := Lib.hid hok
            have HBB := Lib.hid (box_step HB.out hb2)
            clear hok hb2 hjn hlj
            have N := HH.out.next HP.out hpt.1 hpt.2 (by rw [HW0.out]; exact HOK.out)
            rw [HW0.out] at N
            have N1 := Lib.hid N.1
            have N2 := Lib.hid N.2
            clear N
            go_wp2
            exact ⟨⟨k + 1, by go_num, by rw [N2.out], N1.out, HBB.out⟩, by simp [intOf]; have := HK.out; omega⟩
      · obtain rfl : k = r.pos.length := by have := hP.le; omega
        have hP' : okA (r.pos.flatMap Pat.args) 0 ∧ ∀ p ∈ r.pos, 0 ≤ p.pred ∧ p.args.length ≤ 8 := by
          have h1 := hP.ok
          have h2 := hP.pats
          rw [List.take_length] at h1 h2
          exact ⟨h1, h2⟩
        obtain ⟨wn, hwn⟩ : ∃ wn, wAt r r.pos.length = wn := ⟨_, rfl⟩
        have HW := Lib.hid (show scanD (r.pos.flatMap Pat.args) 0 = wn by unfold wAt at hwn; rw [List.take_length] at hwn; exact hwn)
        rw [hwn] at hw128 ⊢
        have HP := Lib.hid hP'
        have HB := Lib.hid hb
        clear hwn hP' hP hb hkn
        by_cases h16 : 16 < wn
        · have HF := Lib.hid (mayB_false (r := r) (fun ⟨w', hh⟩ => by have h1 := hh.wid; have h2 := hh.w16; rw [HW.out] at h1; omega))
          go_wp2
          go_ret2
          exact someMay HF.out (box_below HB.out)
        go_wp2
        clear x1 hwz
        obtain ⟨wo, rfl⟩ : ∃ wo : World, wo = wr := ⟨_, rfl⟩
        go_loopw [8] (fun i wr => ∃ k : Nat, i = .int .i64 k ∧ k ≤ r.tests.length ∧ (∀ t ∈ r.tests.take k, 1 ≤ t.op ∧ t.op ≤ 6 ∧ belowP wn t.l ∧ belowP wn t.r) ∧ Below (w.heap.size + 1) (w.alloc (.cells #[.int .i64 r.head.pred, hv, .slice Ap r.pos.length cp, .slice At r.tests.length ct, .slice An r.neg.length cn, vv, .int .i64 r.clause] 39)) wr) (fun i _ => r.tests.length - (intOf i).toNat)
        case atStart => exact ⟨0, rfl, Nat.zero_le _, by simp, HB.out⟩
        case round =>
          obtain ⟨k, rfl, hk, hq, hb⟩ := hrel
          have x1 := box_cell hb 3 _ rfl
          have hwz : w.heap.size < wr.heap.size := by have := hb.size; simp at this; omega
          by_cases hkn : k < r.tests.length
          · obtain ⟨t, ht⟩ : ∃ t, r.tests[k]? = some t := ⟨_, List.getElem?_eq_getElem hkn⟩
            obtain ⟨b, off, rfl, hFb, hbs, cs, ⟨rfl, ok1, ok2, ok3⟩, hc⟩ := (H.out.tests.keep (Kp.of_below (box_below hb))).at ht
            have c0 := hc 0 _ rfl
            have c1 := hc 1 _ rfl
            have c2 := hc 2 _ rfl
            have c3 := hc 3 _ rfl
            have c4 := hc 4 _ rfl
            simp only [Nat.add_zero] at c0
            have e1 : (0 : Int) ≤ (k : Int) := by omega
            have e2 : (k : Int) < (r.tests.length : Int) := by omega
            have HT := Lib.hid ht
            have HQ := Lib.hid hq
            have HK := Lib.hid hkn
            have HBB := Lib.hid hb
            have HM : ∀ h : mayP r, 1 ≤ t.op ∧ t.op ≤ 6 ∧ belowP wn t.l ∧ belowP wn t.r := fun ⟨w', hh⟩ => by
              have := hh.tst t (List.mem_of_getElem? ht)
              rw [← hh.wid, HW.out] at this
              exact this
            have HM' := Lib.hid HM
            clear hc ht hq hkn hb HM
            by_cases h1 : t.op < 1
            · have HF := Lib.hid (mayB_false (r := r) (fun hh => by have := (HM'.out hh).1; omega))
              go_wp2
              go_ret2
              exact someMay HF.out ((box_below HBB.out).trans (((Below.refl _ _).alloc (Nat.le_refl _) _).mono (by omega)))
            · by_cases h2 : 6 < t.op
              · have HF := Lib.hid (mayB_false (r := r) (fun hh => by have := (HM'.out hh).2.1; omega))
                go_wp2
                go_ret2
                exact someMay HF.out ((box_below HBB.out).trans (((Below.refl _ _).alloc (Nat.le_refl _) _).mono (by omega)))
              · by_cases h3 : fitB [⟨t.l.v, t.l.n⟩, ⟨t.r.v, t.r.n⟩] wn = true
                · have HQ2 := Lib.hid (take_all HQ.out HT.out (by
                    simp only [fitB, decide_eq_true_eq] at h3
                    exact ⟨by omega, by omega, h3 _ (by simp), h3 _ (by simp)⟩))
                  have H3 := Lib.hid h3
                  clear h3
                  go_wp2_with (go_at_call 46; refine (rslotsW (F := fun _ => True) [⟨t.l.v, t.l.n⟩, ⟨t.r.v, t.r.n⟩] _ wn _ (lit2 _ _ (by simp) _ _ _ _ _ ok2 ok3)).mono ?_; rintro e w' ⟨he, hbx⟩; rw [show decide (∀ s ∈ [(⟨t.l.v, t.l.n⟩ : Slt), ⟨t.r.v, t.r.n⟩], belowP wn s) = _ from H3.out] at he; subst he; have HBX := Lib.hid hbx; clear hbx)
                  exact ⟨⟨k + 1, by go_num, HK.out, HQ2.out, box_step HBB.out ((((Below.refl _ _).alloc (Nat.le_refl _) _).alloc (by simp) _).trans (HBX.out.mono (by simp; omega)))⟩, by simp [intOf]; have := HK.out; omega⟩
                · have HF := Lib.hid (mayB_false (r := r) (fun hh => h3 (by
                    obtain ⟨_, _, a1, a2⟩ := HM'.out hh
                    exact fitB_true (fun s hs => by
                      simp only [List.mem_cons, List.not_mem_nil, or_false] at hs
                      rcases hs with rfl | rfl
                      · exact a1
                      · exact a2))))
                  have H3 := Lib.hid (Bool.eq_false_iff.2 h3)
                  clear h3
                  go_wp2_with (go_at_call 46; refine (rslotsW (F := fun _ => True) [⟨t.l.v, t.l.n⟩, ⟨t.r.v, t.r.n⟩] _ wn _ (lit2 _ _ (by simp) _ _ _ _ _ ok2 ok3)).mono ?_; rintro e w' ⟨he, hbx⟩; rw [show decide (∀ s ∈ [(⟨t.l.v, t.l.n⟩ : Slt), ⟨t.r.v, t.r.n⟩], belowP wn s) = _ from H3.out] at he; subst he; have HBX := Lib.hid hbx; clear hbx)
                  go_ret2
                  exact someMay HF.out (box_below (box_step HBB.out ((((Below.refl _ _).alloc (Nat.le_refl _) _).alloc (by simp) _).trans (HBX.out.mono (by simp; omega)))))
          · obtain rfl : k = r.tests.length := by omega
            rw [List.take_length] at hq
            have HQ := Lib.hid hq
            have HBB := Lib.hid hb
            clear hq hb HB
            go_wp2
            clear x1 hwz
            obtain ⟨wo2, rfl⟩ : ∃ wo : World, wo = wr := ⟨_, rfl⟩
            go_loopw [10] (fun i wr => ∃ k : Nat, i = .int .i64 k ∧ k ≤ r.neg.length ∧ (∀ p ∈ r.neg.take k, 0 ≤ p.pred ∧ p.args.length ≤ 8 ∧ ∀ s ∈ p.args, belowP wn s) ∧ Below (w.heap.size + 1) (w.alloc (.cells #[.int .i64 r.head.pred, hv, .slice Ap r.pos.length cp, .slice At r.tests.length ct, .slice An r.neg.length cn, vv, .int .i64 r.clause] 39)) wr) (fun i _ => r.neg.length - (intOf i).toNat)
            case atStart => exact ⟨0, rfl, Nat.zero_le _, by simp, HBB.out⟩
            case round =>
              obtain ⟨k, rfl, hk, hq, hb⟩ := hrel
              have x1 := box_cell hb 4 _ rfl
              have hwz : w.heap.size < wr.heap.size := by have := hb.size; simp at this; omega
              clear HBB
              by_cases hkn : k < r.neg.length
              · obtain ⟨p, hp⟩ : ∃ p, r.neg[k]? = some p := ⟨_, List.getElem?_eq_getElem hkn⟩
                obtain ⟨b, off, rfl, hFb, hbs, cs, ⟨av, rfl, pok, ha⟩, hc⟩ := (H.out.neg.kp (Kp.of_below (box_below hb)) (fun _ _ h => h) (fun _ _ h => h.kp (Kp.of_below (box_below hb)) (fun _ _ h => h))).at hp
                have c0 := hc 0 _ rfl
                have c1 := hc 1 _ rfl
                simp only [Nat.add_zero] at c0
                obtain ⟨Aa, ca, rfl⟩ := ha.form
                have e1 : (0 : Int) ≤ (k : Int) := by omega
                have e2 : (k : Int) < (r.neg.length : Int) := by omega
                have HT := Lib.hid hp
                have HQ' := Lib.hid hq
                have HK := Lib.hid hkn
                have HBB := Lib.hid hb
                have HA := Lib.hid ha
                have HM : ∀ h : mayP r, 0 ≤ p.pred ∧ p.args.length ≤ 8 ∧ ∀ s ∈ p.args, belowP wn s := fun ⟨w', hh⟩ => by
                  have := hh.ngs p (List.mem_of_getElem? hp)
                  rw [← hh.wid, HW.out] at this
                  exact this
                have HM' := Lib.hid HM
                clear hc hp hq hkn hb ha HM
                have CP := Lib.hid (fun W' (hb : Below wr.heap.size wr W') => rpatternW p _ W' (HA.out.keep (Kp.of_below hb)))
                have CS := Lib.hid (fun W' (hb : Below wr.heap.size wr W') => rslotsW p.args _ wn W' (HA.out.keep (Kp.of_below hb)))
                go_wp2_with fail
                refine (CP.out _ (Below.refl _ _)).mono ?_
                rintro e w2 ⟨he, hb2⟩
                have HB2 := Lib.hid hb2
                have HBB2 := Lib.hid (box_step HBB.out hb2)
                have x1 := (hb2.cell (p := ⟨w.heap.size, 4, none⟩) hwz).trans x1
                have c0 := (hb2.cell (p := ⟨b, off + k * 2, none⟩) hbs).trans c0
                have c1 := (hb2.cell (p := ⟨b, off + k * 2 + 1, none⟩) hbs).trans c1
                have hwz : w.heap.size < w2.heap.size := Nat.lt_of_lt_of_le hwz hb2.size
                have hbs : b < w2.heap.size := Nat.lt_of_lt_of_le hbs hb2.size
                clear hb2
                by_cases hpt : 0 ≤ p.pred ∧ p.args.length ≤ 8
                · rw [decide_eq_true hpt] at he
                  subst he
                  by_cases h3 : fitB p.args wn = true
                  · have HQ2 := Lib.hid (take_all HQ'.out HT.out (by
                      simp only [fitB, decide_eq_true_eq] at h3
                      exact ⟨hpt.1, hpt.2, h3⟩))
                    have H3 := Lib.hid h3
                    clear h3
                    go_wp2_with (go_at_call 46; refine (CS.out _ HB2.out).mono ?_; rintro e w' ⟨he, hbx⟩; rw [show decide (∀ s ∈ p.args, belowP wn s) = _ from H3.out] at he; subst he; have HBX := Lib.hid hbx; clear hbx)
                    exact ⟨⟨k + 1, by go_num, HK.out, HQ2.out, box_step HBB2.out HBX.out⟩, by simp [intOf]; have := HK.out; omega⟩
                  · have HF := Lib.hid (mayB_false (r := r) (fun hh => h3 (fitB_true (HM'.out hh).2.2)))
                    have H3 := Lib.hid (Bool.eq_false_iff.2 h3)
                    clear h3
                    go_wp2_with (go_at_call 46; refine (CS.out _ HB2.out).mono ?_; rintro e w' ⟨he, hbx⟩; rw [show decide (∀ s ∈ p.args, belowP wn s) = _ from H3.out] at he; subst he; have HBX := Lib.hid hbx; clear hbx)
                    go_ret2
                    exact someMay HF.out (box_below (box_step HBB2.out HBX.out))
                · rw [decide_eq_false hpt] at he
                  subst he
                  have HF := Lib.hid (mayB_false (r := r) (fun hh => hpt ⟨(HM'.out hh).1, (HM'.out hh).2.1⟩))
                  go_wp2
                  go_ret2
                  exact someMay HF.out (box_below HBB2.out)
              · obtain rfl : k = r.neg.length := by omega
                rw [List.take_length] at hq
                have HBB := Lib.hid hb
                have HF := Lib.hid (mayB_true (r := r) ⟨wn, ⟨by omega, HP.out.2, HP.out.1, HW.out, by omega, HQ.out, hq⟩⟩)
                clear hq hb
                go_wp2
                go_ret2
                exact someMay HF.out (box_below HBB.out)
end Go.Proofs.Ytonkbjdeaneicaa

namespace Go.Proofs.Ytonkbjdeaneicaa
open Go.RowKit Pln Classical Go.Maps

/-- What Compile leaves. -/
def RCompRes (rs : List Rl) (W : World) (e : Ending) (W' : World) : Prop :=
  Below W.heap.size W W' ∧ (((∀ r ∈ rs, mayP r) ∧ ∃ av nv ev, e = .returned (.tuple #[.agg #[av, nv, ev], .int .i64 0]) ∧ RPl (fun b => W.heap.size ≤ b) W' av nv ev (compF rs).1.al (compF rs).1.ns ((compF rs).2.map fun (e : Nat) => (e : Int))) ∨
    ((∃ r ∈ rs, ¬ mayP r) ∧ e = .returned (.tuple #[.agg #[.slice none 0 0, .slice none 0 0, .slice none 0 0], .int .i64 2])))
structure RCst (W wr : World) (S : List Nat) (st : St) (es : List Nat) : Prop where
  mkr : RMkr (W.heap.size + 1) (W.heap.size + 1) wr S st es
  rb : wr.heap[W.heap.size]? = some (.cells #[.slice none 0 0, .slice none 0 0, .slice none 0 0] 27 (0, 0))
  below : Below W.heap.size W wr
section
variable {W wr wr' : World} {S : List Nat} {st st' : St} {es es' : List Nat}
theorem RCst.step (h : RCst W wr S st es) (hb : Below wr.heap.size wr wr') : RCst W wr' S st es :=
  ⟨h.mkr.step hb, (hb.block _ (lt_of_heap h.rb)).trans h.rb, h.below.trans (hb.mono h.below.size)⟩
theorem RCst.to (h : RCst W wr S st es) (ht : RMkrTo (W.heap.size + 1) (W.heap.size + 1) wr S st' es' wr') : ∃ S', RCst W wr' S' st' es' := by
  obtain ⟨S', h1, h2, h3⟩ := ht
  have hf := h.mkr.foot
  exact ⟨S', h1, (h2.block _ (lt_of_heap h.rb) (fun hm => by have := (hf.2 _ hm).1; omega)).trans h.rb, h.below.trans (h2.below h.below.size (fun x hx => by have := (hf.2 x hx).1; omega))⟩
end
theorem RMkr.width {base g : Nat} {W : World} {S : List Nat} {st : St} {es : List Nat} (h : RMkr base g W S st es) {u : Nat} (hu : u < st.ns.length) {wd : Nat} (hwd : widthAt st u = wd) :
    ∃ b off C, W.cell? ⟨g, 1, none⟩ = some (.slice (some ⟨b, off, none⟩) st.ns.length C) ∧ b < W.heap.size ∧ W.cell? ⟨b, off + u * 11 + 10, none⟩ = some (.int .i64 wd) ∧ g < W.heap.size := by
  obtain ⟨av, nv, ev, rfl, hM⟩ := h
  obtain ⟨A0, C0, rfl⟩ := hM.ns.form
  obtain ⟨nd, hnd⟩ : ∃ nd, st.ns[u]? = some nd := ⟨_, List.getElem?_eq_getElem hu⟩
  have hw : nd.width = (wd : Int) := by unfold widthAt at hwd; rw [hnd] at hwd; exact hwd
  obtain ⟨b, off, rfl, hFb0, hbs, cs, ⟨ln0, nn0, hE⟩, hc⟩ := (hM.ns.rsl (G := fun b => b < W.heap.size) (fun b hb => (hM.ns.block hb).2.1)).at hnd
  have hcs := hE.cells
  subst hcs
  exact ⟨b, off, C0, hM.cell 1 rfl, hbs, by rw [← hw]; exact hc 10 _ rfl, hM.lt⟩
theorem rcst_start (W : World) : RCst W (((W.alloc (.cells #[.slice none 0 0, .slice none 0 0, .slice none 0 0] 27)).alloc (.cells #[.slice none 0 0, .slice (some ⟨W.heap.size + 1 + 1, 0, none⟩) 1 1, .slice none 0 0] 65)).alloc (.cells rootCells.toArray 54)) [W.heap.size + 1, W.heap.size + 1 + 1] ⟨[], [rootN]⟩ [] := by
  have hb1 : Below (W.heap.size + 1) (W.alloc (.cells #[.slice none 0 0, .slice none 0 0, .slice none 0 0] 27)) (((W.alloc (.cells #[.slice none 0 0, .slice none 0 0, .slice none 0 0] 27)).alloc (.cells #[.slice none 0 0, .slice (some ⟨W.heap.size + 1 + 1, 0, none⟩) 1 1, .slice none 0 0] 65)).alloc (.cells rootCells.toArray 54)) := ((Below.refl _ _).alloc (by simp) _).alloc (by simp) _
  have hm : (((W.alloc (.cells #[.slice none 0 0, .slice none 0 0, .slice none 0 0] 27)).alloc (.cells #[.slice none 0 0, .slice (some ⟨W.heap.size + 1 + 1, 0, none⟩) 1 1, .slice none 0 0] 65)).alloc (.cells rootCells.toArray 54)).heap[W.heap.size + 1]? = some (.cells #[.slice none 0 0, .slice (some ⟨W.heap.size + 1 + 1, 0, none⟩) 1 1, .slice none 0 0] 65 (0, 0)) := by
    rw [Below.heap_alloc _ _ _ (by simp)]
    have := heap_alloc_new (W.alloc (.cells #[.slice none 0 0, .slice none 0 0, .slice none 0 0] 27)) (.cells #[.slice none 0 0, .slice (some ⟨W.heap.size + 1 + 1, 0, none⟩) 1 1, .slice none 0 0] 65)
    simpa using this
  have hr : (((W.alloc (.cells #[.slice none 0 0, .slice none 0 0, .slice none 0 0] 27)).alloc (.cells #[.slice none 0 0, .slice (some ⟨W.heap.size + 1 + 1, 0, none⟩) 1 1, .slice none 0 0] 65)).alloc (.cells rootCells.toArray 54)).heap[W.heap.size + 1 + 1]? = some (.cells rootCells.toArray 54 (0, 0)) := by
    have := heap_alloc_new ((W.alloc (.cells #[.slice none 0 0, .slice none 0 0, .slice none 0 0] 27)).alloc (.cells #[.slice none 0 0, .slice (some ⟨W.heap.size + 1 + 1, 0, none⟩) 1 1, .slice none 0 0] 65)) (.cells rootCells.toArray 54)
    simpa using this
  refine ⟨⟨.slice none 0 0, .slice (some ⟨W.heap.size + 1 + 1, 0, none⟩) 1 1, .slice none 0 0, rfl, hm, OwnF.nil, ?_, OwnF.nil, Nat.le_refl _⟩, (hb1.block _ (by simp)).trans (heap_alloc_new W _), box_below hb1⟩
  refine ⟨rootCells, ⟨rfl, .inr ⟨W.heap.size + 1 + 1, 1, rootCells.toArray, rfl, by omega, hr, Nat.le_refl _, by unfold maxLen; decide, rfl, rfl⟩⟩, fun i x hx => ?_⟩
  match i with
  | 0 =>
    simp only [List.getElem?_cons_zero, Option.some.injEq] at hx
    subst hx
    have m1 : i64ok (-1) := by unfold i64ok; decide
    exact ⟨rootCells, ⟨_, _, rfl, ⟨ok0, m1, m1, ok0, ok0, ok0, ok0⟩, RSl.nil, RSl.nil⟩, fun j u hu => by simpa using hu⟩
  | i + 1 => simp at hx
theorem comp_len_take {rs : List Rl} {k : Nat} (h : ∀ r ∈ rs.take k, mayP r) (hk : k ≤ rs.length) : (compF (rs.take k)).1.ns.length ≤ 1 + 16 * k ∧ (compF (rs.take k)).1.al.length ≤ 16 * k := by
  have := comp_len (rs.take k) h (rs.take k).length (Nat.le_refl _)
  rw [List.take_length, List.length_take, Nat.min_eq_left hk] at this
  exact this

set_option maxRecDepth 200000 in
set_option maxHeartbeats 16000000 in
theorem rcompileW {F : Nat → Prop} (v : Value) (rs : List Rl) (W : World) (h : RRules F W v rs) (hS : rs.length ≤ 1048576 ∧ ∀ r ∈ rs, rlSm 1048576 r) :
    Calls Try.prog 8 #[v] W (RCompRes rs W) := by
  obtain ⟨A, c, rfl⟩ := h.form
  have hm := hS.1
  have H := Lib.hid (RRules.kp (F' := fun b => b < W.heap.size) h (Kp.refl _ _) (fun b hb _ => hb))
  have SM := Lib.hid hS
  clear h hS
  go_enter Try.func8, Try.ntmps8
  go_wp2
  go_loopw [5] (fun i wr => ∃ (k : Nat) (S : List Nat), i = .int .i64 k ∧ k ≤ rs.length ∧ (∀ r ∈ rs.take k, mayP r) ∧ RCst W wr S (compF (rs.take k)).1 (compF (rs.take k)).2) (fun i _ => rs.length - (intOf i).toNat)
  case atStart => exact ⟨0, _, rfl, Nat.zero_le _, by simp, rcst_start W⟩
  case round =>
    obtain ⟨k, S, rfl, hk, hq, hC⟩ := hrel
    have bw := hC.below
    by_cases hkn : k < rs.length
    · obtain ⟨r, hr⟩ : ∃ r, rs[k]? = some r := ⟨_, List.getElem?_eq_getElem hkn⟩
      obtain ⟨b, off, rfl, hFb, hbs, cs, ⟨hv, pv, tv, nv, vv, hE⟩, hc⟩ := H.out.at hr
      have hcs := hE.cells
      subst hcs
      have hsm := SM.out.2 r (List.mem_of_getElem? hr)
      have CY := Lib.hid (rfitW r wr (hE.kp (F' := fun b => b < W.heap.size) (Kp.of_below bw) (fun _ _ h => h)) hsm)
      obtain ⟨Ah, ch, rfl⟩ := hE.head.form
      obtain ⟨Ap, cp, rfl⟩ := hE.pos.form
      obtain ⟨At, ct, rfl⟩ := hE.tests.form
      obtain ⟨An, cn, rfl⟩ := hE.neg.form
      obtain ⟨Av, cv, rfl⟩ := hE.vars.form
      have cc := fun (Wx : World) (hx : Below W.heap.size W Wx) (i : Nat) (u : Value) hu => (hx.cell (p := ⟨b, off + k * 7 + i, none⟩) hbs).trans (hc i u hu)
      have c0 := cc wr bw 0 _ rfl
      have c1 := cc wr bw 1 _ rfl
      have c2 := cc wr bw 2 _ rfl
      have c3 := cc wr bw 3 _ rfl
      have c4 := cc wr bw 4 _ rfl
      have c5 := cc wr bw 5 _ rfl
      have c6 := cc wr bw 6 _ rfl
      simp only [Nat.add_zero] at c0
      have e1 : (0 : Int) ≤ (k : Int) := by omega
      have e2 : (k : Int) < (rs.length : Int) := by omega
      have HR := Lib.hid hr
      have HK := Lib.hid hkn
      have HQ := Lib.hid hq
      have HC := Lib.hid hC
      have HCC := Lib.hid cc
      have HE := Lib.hid hE
      clear hc cc hr hkn hq hC hE hsm
      by_cases hmp : mayP r
      case neg =>
        have HM := Lib.hid (mayB_false hmp)
        have HF := Lib.hid hmp
        clear hmp bw
        go_wp2_with fail
        refine CY.out.mono ?_
        rintro e w2 ⟨nn, he, hb2⟩
        rw [HM.out] at he
        subst he
        have HC2 := HC.out.step hb2
        have eb := HC2.rb
        have f0 := cell_of_row _ _ 0 _ _ _ eb
        have f1 := cell_of_row _ _ 1 _ _ _ eb
        have f2 := cell_of_row _ _ 2 _ _ _ eb
        simp only [List.getElem?_toArray, List.getElem?_cons_zero, List.getElem?_cons_succ] at f0 f1 f2
        have fz : ∀ o, w2.frozen? ⟨W.heap.size, o, none⟩ = false := fun o => by simp [World.frozen?, eb]
        have ef := Lib.hid (heap_setCell_same _ _ 2 _ _ (.slice none 0 0) (heap_setCell_same _ _ 1 _ _ (.slice none 0 0) (heap_setCell_same _ _ 0 _ _ (.slice none 0 0) eb)))
        have hwl := lt_of_heap eb
        have HB3 := Lib.hid HC2.below
        clear hb2 HC2 eb
        go_wp2
        exact bodyPost_ret (v := .tuple #[.agg #[.slice none 0 0, .slice none 0 0, .slice none 0 0], .int .i64 2]) (results_row_slot rfl _ _ W.heap.size 27 #[.slice none 0 0, .slice none 0 0, .slice none 0 0] (0, 0) _ _ rfl rfl ef.out Try.underlying27 rfl sizePlan) rfl
          ⟨((HB3.out.setCell (Nat.le_refl _) _).setCell (Nat.le_refl _) _).setCell (Nat.le_refl _) _, .inr ⟨⟨r, List.mem_of_getElem? HR.out, HF.out⟩, rfl⟩⟩
      have HM := Lib.hid (mayB_true hmp)
      have HQ2 := Lib.hid (take_all HQ.out HR.out hmp)
      obtain ⟨fw, hfit⟩ := hmp
      obtain ⟨lN, lA⟩ := comp_len_take HQ.out hk
      have hmany := hfit.many
      have hwf := (made_comp (rs.take k)).wf
      obtain ⟨st, hst⟩ : ∃ st, (compF (rs.take k)).1 = st := ⟨_, rfl⟩
      obtain ⟨es, hes⟩ : ∃ es, (compF (rs.take k)).2 = es := ⟨_, rfl⟩
      have CE := Lib.hid (comp_take_succ HR.out)
      rw [hst] at lN lA hwf HC
      rw [hes] at HC
      have UF := Lib.hid (fun i hi => upTo_facts hwf hfit (i := i) hi)
      have HST := Lib.hid (And.intro hst hes)
      have HFIT := Lib.hid hfit
      clear hst hes hfit hwf bw
      go_wp2_with fail
      refine CY.out.mono ?_
      rintro e w2 ⟨nn, he, hb2⟩
      rw [HM.out] at he
      subst he
      have HC2 := Lib.hid (HC.out.step hb2)
      clear hb2 CY c0 c1 c2 c3 c4 c5 c6
      go_wp2_with fail
      go_loopw [8, 9] (fun u i wr => ∃ (j : Nat) (S : List Nat), i = .int .i64 j ∧ u = .int .i64 (upTo st r j).1 ∧ j ≤ r.pos.length ∧ RCst W wr S (upTo st r j).2 es) (fun _ i _ => r.pos.length - (intOf i).toNat)
      case atStart => exact ⟨0, S, rfl, rfl, Nat.zero_le _, HC2.out⟩
      case round =>
        obtain ⟨j, S, rfl, rfl, hj, hI⟩ := hrel
        clear HC2
        have bw := hI.below
        have c2 := HCC.out wr bw 2 _ rfl
        by_cases hjn : j < r.pos.length
        · obtain ⟨p, hp⟩ : ∃ p, r.pos[j]? = some p := ⟨_, List.getElem?_eq_getElem hjn⟩
          obtain ⟨b', off', rfl, hFb', hbs', cs', ⟨av', rfl, pok, ha⟩, hc'⟩ := (RPats.kp HE.out.pos (Kp.of_below bw) (fun _ _ h => h)).at hp
          have c0' := hc' 0 _ rfl
          have c1' := hc' 1 _ rfl
          simp only [Nat.add_zero] at c0'
          obtain ⟨hu, ⟨wd, hwd, hwd2⟩, hn1, hn2⟩ := UF.out j (by omega)
          have hfa := fit_at ⟨fw, HFIT.out⟩ hp
          have m1 : i64ok 1 := by unfold i64ok; decide
          have CP := Lib.hid (ratomW hI.mkr 1 m1 _ hu wd hwd (by omega) (F := fun b => b < W.heap.size) (fun b hb => by omega) p _ ha pok hfa.2.2 (by omega) (by omega))
          obtain ⟨Aa, ca, rfl⟩ := ha.form
          have hstep := upTo_succ st (cond_pos hp)
          have HS := Lib.hid (show upTo st r (j + 1) = patF 1 ((upTo st r j).1, (upTo st r j).2) p from hstep)
          have f1 : (0 : Int) ≤ (j : Int) := by omega
          have f2 : (j : Int) < (r.pos.length : Int) := by omega
          have HJ := Lib.hid hjn
          have HI := Lib.hid hI
          clear hc' hp ha hwd hfa hstep hjn hI hu bw m1
          go_wp2_with fail
          refine CP.out.mono ?_
          rintro e w5 ⟨rfl, hT⟩
          obtain ⟨S', hI'⟩ := HI.out.to hT
          rw [← HS.out] at hI' ⊢
          have HI' := Lib.hid hI'
          clear hT hI'
          go_wp2_with fail
          exact ⟨⟨j + 1, S', by go_num, rfl, HJ.out, HI'.out⟩, by simp [intOf]; have := HJ.out; omega⟩
        · obtain rfl : j = r.pos.length := by omega
          have HI := Lib.hid hI
          clear bw hI
          go_wp2_with fail
          clear c2
          go_loopw [8, 10] (fun u i wr => ∃ (j : Nat) (S : List Nat), i = .int .i64 j ∧ u = .int .i64 (upTo st r (r.pos.length + j)).1 ∧ j ≤ r.tests.length ∧ RCst W wr S (upTo st r (r.pos.length + j)).2 es) (fun _ i _ => r.tests.length - (intOf i).toNat)
          case atStart => exact ⟨0, S, rfl, rfl, Nat.zero_le _, HI.out⟩
          case round =>
            obtain ⟨j, S, rfl, rfl, hj, hI⟩ := hrel
            clear HI
            have bw := hI.below
            have c3 := HCC.out wr bw 3 _ rfl
            by_cases hjn : j < r.tests.length
            · obtain ⟨t, ht⟩ : ∃ t, r.tests[j]? = some t := ⟨_, List.getElem?_eq_getElem hjn⟩
              obtain ⟨b', off', rfl, hFb', hbs', cs', ⟨rfl, ok1, ok2, ok3⟩, hc'⟩ := HE.out.tests.at ht
              obtain ⟨hu, ⟨wd, hwd, hwd2⟩, hn1, hn2⟩ := UF.out (r.pos.length + j) (by omega)
              obtain ⟨u, hue⟩ : ∃ u, (upTo st r (r.pos.length + j)).1 = u := ⟨_, rfl⟩
              have hstep := upTo_succ st (cond_test ht)
              have HS := Lib.hid (show upTo st r (r.pos.length + (j + 1)) = tstF ((upTo st r (r.pos.length + j)).1, (upTo st r (r.pos.length + j)).2) t from hstep)
              have hT0 : testOf (upTo st r (r.pos.length + j)).2 (upTo st r (r.pos.length + j)).1 t = ⟨2, ((upTo st r (r.pos.length + j)).1 : Int), -1, [], [], t, wd⟩ := by unfold testOf; rw [hwd]
              rw [hue] at hu hwd HS hT0 ⊢
              have m1 : i64ok (-1) := by unfold i64ok; decide
              have m2 : i64ok 2 := by unfold i64ok; decide
              have hok : NdOk ⟨2, (u : Int), -1, [], [], t, wd⟩ := ⟨⟨m2, okNat (by omega), m1, okNat (by omega), ok1, ok2, ok3⟩, by simp, by simp, by simp, by simp⟩
              have CN := Lib.hid (fun W' (hb : Below wr.heap.size wr W') => rnodeW (hI.mkr.step hb) (cs := [.int .i64 2, .int .i64 u, .int .i64 (-1), .slice none 0 0, .slice none 0 0, .int .i64 t.op, .bool t.l.v, .int .i64 t.l.n, .bool t.r.v, .int .i64 t.r.n, .int .i64 wd]) (lv := .slice none 0 0) (nv := .slice none 0 0) ⟨2, (u : Int), -1, [], [], t, wd⟩ ⟨rfl, hok.ints, RSl.nil, RSl.nil⟩ (by omega))
              have MW := Lib.hid (fun W' (hb : Below wr.heap.size wr W') => (hI.mkr.step hb).width hu hwd)
              have hcz := Lib.hid (fun W' (hb : Below wr.heap.size wr W') (i : Nat) (u : Value) hu => ((bw.trans (hb.mono bw.size)).cell (p := ⟨b', off' + j * 5 + i, none⟩) hbs').trans (hc' i u hu))
              have f1 : (0 : Int) ≤ (j : Int) := by omega
              have f2 : (j : Int) < (r.tests.length : Int) := by omega
              have f3 : (0 : Int) ≤ (u : Int) := by omega
              have f4 : (u : Int) < ((upTo st r (r.pos.length + j)).2.ns.length : Int) := by omega
              have HJ := Lib.hid hjn
              have HI := Lib.hid hI
              have HT0 := Lib.hid hT0
              have HUE := Lib.hid hue
              have BWW := Lib.hid bw
              clear hc' ht hwd hstep hjn hI hu bw hok hT0 hue
              go_wp2_with fail
              have hB0 : Below wr.heap.size wr wr.drew := (Below.refl _ _).drew
              refine wp_region_still_tail 20 (by kernel_rfl) (by kernel_rfl) ?_
              change wpStill _ _ wr.drew (fun a' => wpList _ _ _ _ a' wr.drew) _ _
              generalize wr.drew = wz at hB0 ⊢
              obtain ⟨nb, noff, nC, n1, n2, n3, n4⟩ := MW.out wz hB0
              clear c3
              have c3 := HCC.out wz (BWW.out.trans (hB0.mono BWW.out.size)) 3 _ rfl
              have y0 := hcz.out wz hB0 0 _ rfl
              have y1 := hcz.out wz hB0 1 _ rfl
              have y2 := hcz.out wz hB0 2 _ rfl
              have y3 := hcz.out wz hB0 3 _ rfl
              have y4 := hcz.out wz hB0 4 _ rfl
              simp only [Nat.add_zero] at y0
              have BZ := Lib.hid hB0
              clear hB0
              simp only [List.take_succ_cons, List.take_zero, List.drop_succ_cons, List.drop_zero]
              repeat still_step
              refine wpStill_nil ?_
              go_wp2_with fail
              refine (CN.out _ BZ.out).mono ?_
              rintro e w5 ⟨rfl, hT⟩
              obtain ⟨S', hI'⟩ := (HI.out.step BZ.out).to hT
              have hst2 : (upTo st r (r.pos.length + (j + 1))).2 = ⟨(upTo st r (r.pos.length + j)).2.al, addF (upTo st r (r.pos.length + j)).2.ns ⟨2, (u : Int), -1, [], [], t, wd⟩⟩ := by
                rw [HS.out]
                simp only [tstF]
                rw [HT0.out]
              rw [← hst2] at hI'
              have HU2 := Lib.hid (show (placeF (upTo st r (r.pos.length + j)).2.ns ⟨2, (u : Int), -1, [], [], t, wd⟩) = (upTo st r (r.pos.length + (j + 1))).1 by
                rw [HS.out]
                simp only [tstF]
                rw [HT0.out])
              have HI' := Lib.hid hI'
              rw [HU2.out]
              clear hT hI' hst2 y0 y1 y2 y3 y4 n1 n2 n3 n4 c3
              go_wp2_with fail
              exact ⟨⟨j + 1, S', by go_num, rfl, HJ.out, HI'.out⟩, by simp [intOf]; have := HJ.out; omega⟩
            · obtain rfl : j = r.tests.length := by omega
              have HI := Lib.hid hI
              clear bw hI
              go_wp2_with fail
              clear c3
              go_loopw [8, 11] (fun u i wr => ∃ (j : Nat) (S : List Nat), i = .int .i64 j ∧ u = .int .i64 (upTo st r (r.pos.length + r.tests.length + j)).1 ∧ j ≤ r.neg.length ∧ RCst W wr S (upTo st r (r.pos.length + r.tests.length + j)).2 es) (fun _ i _ => r.neg.length - (intOf i).toNat)
              case atStart => exact ⟨0, S, rfl, rfl, Nat.zero_le _, HI.out⟩
              case round =>
                obtain ⟨j, S, rfl, rfl, hj, hI⟩ := hrel
                clear HI
                have bw := hI.below
                have c4 := HCC.out wr bw 4 _ rfl
                by_cases hjn : j < r.neg.length
                · obtain ⟨p, hp⟩ : ∃ p, r.neg[j]? = some p := ⟨_, List.getElem?_eq_getElem hjn⟩
                  obtain ⟨b', off', rfl, hFb', hbs', cs', ⟨av', rfl, pok, ha⟩, hc'⟩ := (RPats.kp HE.out.neg (Kp.of_below bw) (fun _ _ h => h)).at hp
                  have c0' := hc' 0 _ rfl
                  have c1' := hc' 1 _ rfl
                  simp only [Nat.add_zero] at c0'
                  obtain ⟨hu, ⟨wd, hwd, hwd2⟩, hn1, hn2⟩ := UF.out (r.pos.length + r.tests.length + j) (by omega)
                  have hfa := HFIT.out.ngs p (List.mem_of_getElem? hp)
                  have m3 : i64ok 3 := by unfold i64ok; decide
                  have CP := Lib.hid (ratomW hI.mkr 3 m3 _ hu wd hwd (by omega) (F := fun b => b < W.heap.size) (fun b hb => by omega) p _ ha pok hfa.2.1 (by omega) (by omega))
                  obtain ⟨Aa, ca, rfl⟩ := ha.form
                  have hstep := upTo_succ st (cond_neg hp)
                  have HS := Lib.hid (show upTo st r (r.pos.length + r.tests.length + (j + 1)) = patF 3 ((upTo st r (r.pos.length + r.tests.length + j)).1, (upTo st r (r.pos.length + r.tests.length + j)).2) p from hstep)
                  have f1 : (0 : Int) ≤ (j : Int) := by omega
                  have f2 : (j : Int) < (r.neg.length : Int) := by omega
                  have HJ := Lib.hid hjn
                  have HI := Lib.hid hI
                  clear hc' hp ha hwd hfa hstep hjn hI hu bw m3
                  go_wp2_with fail
                  refine CP.out.mono ?_
                  rintro e w5 ⟨rfl, hT⟩
                  obtain ⟨S', hI'⟩ := HI.out.to hT
                  rw [← HS.out] at hI' ⊢
                  have HI' := Lib.hid hI'
                  clear hT hI'
                  go_wp2_with fail
                  exact ⟨⟨j + 1, S', by go_num, rfl, HJ.out, HI'.out⟩, by simp [intOf]; have := HJ.out; omega⟩
                · obtain rfl : j = r.neg.length := by omega
                  obtain ⟨hu, _, hn1, hn2⟩ := UF.out (r.pos.length + r.tests.length + r.neg.length) (Nat.le_refl _)
                  obtain ⟨u, hue⟩ : ∃ u, (upTo st r (r.pos.length + r.tests.length + r.neg.length)).1 = u := ⟨_, rfl⟩
                  obtain ⟨st2, hse⟩ : ∃ st2, (upTo st r (r.pos.length + r.tests.length + r.neg.length)).2 = st2 := ⟨_, rfl⟩
                  have hcomp : (compF (rs.take (k + 1))).1 = st2 ∧ (compF (rs.take (k + 1))).2 = es ++ [u] := by
                    rw [CE.out]
                    simp only [endF]
                    rw [HST.out.1, HST.out.2, ← upTo_all, hue, hse]
                    exact ⟨rfl, rfl⟩
                  rw [hue] at hu ⊢
                  rw [hse] at hI hu hn1 hn2
                  have hel : es.length ≤ k := by
                    have := (made_comp (rs.take k)).len
                    rw [HST.out.2] at this
                    rw [this]
                    exact List.length_take_le _ _
                  have HI := Lib.hid hI
                  have hrb := hI.rb
                  have hbw := hI.below
                  obtain ⟨av, nv, ev, hSS, hM⟩ := hI.mkr
                  obtain ⟨A1, C1, rfl⟩ := hM.en.form
                  simp only [List.length_map] at hM hSS
                  have x2 := hM.cell 2 rfl
                  have hgl := hM.lt
                  have hbase2 : W.heap.size + 1 ≤ wr.heap.size := by omega
                  have UOK := Lib.hid (okNat (k := u) (by omega))
                  have HM := Lib.hid hM
                  have HCO := Lib.hid hcomp
                  have HSS := Lib.hid hSS
                  clear hI hM hcomp hue hse bw hrb hbw hSS
                  go_wp2_with (at_builtin; refine wpList_append_F HM.out.en (fun b hb hf => hf.2 (by simp [rfoot, hb])) rfl (.tmp 115) (.tmp 117) 25 rfl Try.underlying25 infoIntR rfl (by decide) rfl #[.int .i64 u] _ rfl rfl (x := (u : Int)) ⟨rfl, UOK.out⟩ (by rw [List.length_map]; omega) (by decide) hbase2 ?_; intro g' cap w5 ho ht hat hlt5; have hgn := (HM.out.apart).2.2; have e3 := (ht.block _ HM.out.lt (fun hm => hgn _ (by simpa using hm) rfl)).trans HM.out.blk; have q1 := (cell_of_row _ _ 2 _ _ _ e3).trans (show _ = some (Value.slice A1 es.length C1) from rfl); have q2 : ∀ o, w5.frozen? ⟨W.heap.size + 1, o, none⟩ = false := (fun o => by simp [World.frozen?, e3]); have q3 := lt_of_heap e3; have GR0 := HM.out.grow_en ho ht hat; simp only [List.length_map] at GR0; have GR := Lib.hid GR0; clear ho ht hat hlt5 hgn e3 GR0)
                  obtain ⟨S', hI'⟩ := HI.out.to ⟨_, ⟨_, _, _, rfl, GR.out.1⟩, by rw [HSS.out]; exact GR.out.2.1, by rw [HSS.out]; exact GR.out.2.2⟩
                  exact ⟨⟨k + 1, S', by go_num, HK.out, HQ2.out, by rw [HCO.out.1, HCO.out.2]; exact hI'⟩, by simp [intOf]; have := HK.out; omega⟩
    · obtain rfl : k = rs.length := by omega
      rw [List.take_length] at hC hq
      have HQ := Lib.hid hq
      have eb := hC.rb
      have hbw := hC.below
      obtain ⟨av, nv, ev, rfl, hM⟩ := hC.mkr
      obtain ⟨A1, C1, rfl⟩ := hM.en.form
      obtain ⟨A2, C2, rfl⟩ := hM.ns.form
      obtain ⟨A3, C3, rfl⟩ := hM.al.form
      have x0 := hM.cell 0 rfl
      have x1 := hM.cell 1 rfl
      have x2 := hM.cell 2 rfl
      have hgl := hM.lt
      have f0 := rbox (j := 0) eb rfl
      have f1 := rbox (j := 1) eb rfl
      have f2 := rbox (j := 2) eb rfl
      have hrl := lt_of_heap eb
      have fz : ∀ o, wr.frozen? ⟨W.heap.size, o, none⟩ = false := fun o => by simp [World.frozen?, eb]
      have ef := Lib.hid (heap_setCell_same _ _ 2 _ _ (.slice A1 ((compF rs).2.map fun (e : Nat) => (e : Int)).length C1) (heap_setCell_same _ _ 1 _ _ (.slice A2 (compF rs).1.ns.length C2) (heap_setCell_same _ _ 0 _ _ (.slice A3 (compF rs).1.al.length C3) eb)))
      have HM := Lib.hid hM
      have BW := Lib.hid hbw
      clear hM eb hC bw hkn hbw hq
      obtain ⟨ln, hln⟩ : ∃ ln, ((compF rs).2.map fun (e : Nat) => (e : Int)).length = ln := ⟨_, rfl⟩
      rw [hln] at x2 ef
      have HLN := Lib.hid hln
      clear hln
      go_wp2
      refine bodyPost_ret (v := .tuple #[.agg #[.slice A3 (compF rs).1.al.length C3, .slice A2 (compF rs).1.ns.length C2, .slice A1 ln C1], .int .i64 0]) (results_row_slot rfl _ _ W.heap.size 27 #[.slice A3 (compF rs).1.al.length C3, .slice A2 (compF rs).1.ns.length C2, .slice A1 ln C1] (0, 0) _ _ rfl rfl ef.out Try.underlying27 rfl sizePlan) rfl ?_
      have T : Turns [W.heap.size] wr (((wr.setCell ⟨W.heap.size, 0, none⟩ (.slice A3 (compF rs).1.al.length C3)).setCell ⟨W.heap.size, 1, none⟩ (.slice A2 (compF rs).1.ns.length C2)).setCell ⟨W.heap.size, 2, none⟩ (.slice A1 ln C1)) :=
        (((Turns.refl _ _).setCell (.inl (by simp)) _).setCell (.inl (by simp)) _).setCell (.inl (by simp)) _
      have K : ∀ (G : Nat → Prop), (∀ b, G b → W.heap.size + 1 ≤ b) → Kp G wr _ := fun G hG => Kp.of_turns T (fun x hx hf => by have := hG x hf; rw [List.mem_singleton.1 hx] at this; omega)
      refine ⟨((BW.out.setCell (Nat.le_refl _) _).setCell (Nat.le_refl _) _).setCell (Nat.le_refl _) _, .inl ⟨HQ.out, _, _, _, rfl, ?_, ?_, ?_⟩⟩
      · exact (HM.out.al.rsl (G := fun b => W.heap.size + 1 ≤ b) (fun b hb => (HM.out.al.block hb).1)).kp (K _ (fun _ h => h)) (fun b _ hb => by omega) (fun cs p hp => EShp.kp hp (K _ (fun b hb => hb.1)) (fun b _ hb => by have := hb.1; omega))
      · exact (HM.out.ns.rsl (G := fun b => W.heap.size + 1 ≤ b) (fun b hb => (HM.out.ns.block hb).1)).kp (K _ (fun _ h => h)) (fun b _ hb => by omega) (fun cs p hp => ENode.kp hp (K _ (fun b hb => hb.1)) (fun b _ hb => by have := hb.1; omega))
      · have := (HM.out.en.rsl (G := fun b => W.heap.size + 1 ≤ b) (fun b hb => (HM.out.en.block hb).1)).kp (F' := fun b => W.heap.size ≤ b) (K _ (fun _ h => h)) (fun b _ hb => by omega) (fun _ _ h => h)
        rw [HLN.out] at this
        exact this
end Go.Proofs.Ytonkbjdeaneicaa
