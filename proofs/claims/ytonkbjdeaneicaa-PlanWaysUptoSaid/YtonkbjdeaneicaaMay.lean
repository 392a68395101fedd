/- may: may a rule be compiled? -/
import Derived.Test.YtonkbjdeaneicaaIdxF
import Derived.Test.YtonkbjdeaneicaaCopyR
namespace Go.Proofs.Ytonkbjdeaneicaa
open Go.RowKit Pln Classical

theorem conditionsW {F : Nat → Prop} {cs : List Value} {hv pv tv nv vv : Value} (r : Rl) (w : World) (h : ERl F w cs r hv pv tv nv vv) (hS : rlSm 1048576 r) :
    Calls Try.prog 49 #[.agg #[.int .i64 r.head.pred, hv, pv, tv, nv, vv, .int .i64 r.clause]] w fun e w' => e = .returned (.int .i64 ((r.pos.length + r.tests.length + r.neg.length : Nat) : Int)) ∧ Below w.heap.size w w' := by
  obtain ⟨Ap, cp, hpv⟩ := h.pos.form
  obtain ⟨At, ct, htv⟩ := h.tests.form
  obtain ⟨An, cn, hnv⟩ := h.neg.form
  subst hpv; subst htv; subst hnv
  have l1 := hS.pos.1
  have l2 := hS.tests
  have l3 := hS.neg.1
  clear h hS
  go_enter Try.func49, Try.ntmps49
  go_wp2
  go_ret
  exact ⟨ret_i64 (by omega), (Below.refl _ _).alloc (Nat.le_refl _) _⟩

noncomputable def mpB (p : Pat) : Bool := decide (0 ≤ p.pred ∧ p.args.length ≤ 8 ∧ ∀ s ∈ p.args, 0 ≤ s.n)
theorem mpB_true {p : Pat} (h : 0 ≤ p.pred ∧ p.args.length ≤ 8 ∧ ∀ s ∈ p.args, 0 ≤ s.n) : mpB p = true := by simp only [mpB, decide_eq_true_eq]; exact h
theorem mpB_false {p : Pat} (h : ¬ (0 ≤ p.pred ∧ p.args.length ≤ 8 ∧ ∀ s ∈ p.args, 0 ≤ s.n)) : mpB p = false := by simp only [mpB, decide_eq_false_iff_not]; exact h
set_option maxRecDepth 100000 in
theorem mayPatternW {F : Nat → Prop} (p : Pat) (v : Value) (w : World) (h : RSl F w 2 ESlt v p.args) (hS : patSm 1048576 p) :
    Calls Try.prog 50 #[.agg #[.int .i64 p.pred, v]] w fun e w' => e = .returned (.bool (mpB p)) ∧ Below w.heap.size w w' := by
  obtain ⟨A, c, rfl⟩ := h.form
  have hS' : p.args.length ≤ 1048576 := hS
  by_cases h0 : p.pred < 0
  · have HF := Lib.hid (mpB_false (p := p) (fun hh => by omega))
    clear h hS
    go_enter Try.func50, Try.ntmps50
    go_wp2
    go_ret
    exact ⟨ret_bool HF.out.symm, (Below.refl _ _).alloc (Nat.le_refl _) _⟩
  · by_cases h8 : 8 < p.args.length
    · have HF := Lib.hid (mpB_false (p := p) (fun hh => by omega))
      clear h hS
      go_enter Try.func50, Try.ntmps50
      go_wp2
      go_ret
      exact ⟨ret_bool HF.out.symm, (Below.refl _ _).alloc (Nat.le_refl _) _⟩
    · have C := Lib.hid (fun W (hb : Below w.heap.size w W) => containsFunc_mayPattern _ p.args (fun s => decide (s.n < 0)) W (h.keep (Kp.of_below hb)) (fun s _ W' _ => mayPattern1W s W'))
      clear h hS
      have hfin : (!decide (0 ≤ idxI (fun s => decide (s.n < 0)) p.args)) = mpB p := by
        by_cases hn : ∀ s ∈ p.args, 0 ≤ s.n
        · rw [mpB_true ⟨by omega, by omega, hn⟩, idxI_none (fun s hs => by simpa using hn s hs)]
          decide
        · rw [mpB_false (fun h => hn h.2.2)]
          obtain ⟨s, hs⟩ := Classical.not_forall.1 hn
          obtain ⟨hs1, hs2⟩ := Classical.not_imp.1 hs
          have : 0 ≤ idxI (fun s => decide (s.n < 0)) p.args := idxI_ge.2 ⟨s, hs1, by simp; omega⟩
          simp [this]
      have HF := Lib.hid hfin
      clear hfin
      go_enter Try.func50, Try.ntmps50
      go_wp2_with (go_at_call 51; refine (C.out _ ?_).mono ?_; exact (Below.refl _ _).alloc (Nat.le_refl _) _; rintro e w' ⟨rfl, hb2⟩; have HB2 := Lib.hid hb2; clear hb2)
      go_ret
      exact ⟨ret_bool HF.out, ((Below.refl _ _).alloc (Nat.le_refl _) _).trans (HB2.out.mono (by simp))⟩

theorem okA_nonneg {args : List Slt} {w : Nat} (h : okA args w) : ∀ s ∈ args, 0 ≤ s.n := by
  intro s hs
  obtain ⟨k, hk⟩ := List.mem_iff_getElem?.1 hs
  exact (okA_at h hk).1
theorem Kp.of_two {B : Nat} {w a c : World} (ha : Below B w a) (hc : Below B w c) (hs : a.heap.size ≤ c.heap.size) : Kp (fun b => b < B) a c :=
  ⟨hs, fun b _ hb => (hc.block b hb).trans (ha.block b hb).symm⟩
theorem BoxSt.alloc {wo W : World} {T : TypeId} {cells : Array Value} (h : BoxSt wo W T cells) (o : Obj) : BoxSt wo (W.alloc o) T cells := h.step ((Below.refl _ _).alloc (Nat.le_refl _) o)

set_option maxRecDepth 100000 in
set_option maxHeartbeats 8000000 in
theorem mayW {F : Nat → Prop} {cs : List Value} {hv pv tv nv vv : Value} (r : Rl) (w : World) (h : ERl F w cs r hv pv tv nv vv) (hS : rlSm 1048576 r) :
    Calls Try.prog 29 #[.agg #[.int .i64 r.head.pred, hv, pv, tv, nv, vv, .int .i64 r.clause]] w fun e w' => e = .returned (.bool (mayB r)) ∧ Below w.heap.size w w' := by
  have C0 := Lib.hid (fun W (hb : Below w.heap.size w W) => conditionsW r W (h.kp (Kp.of_below hb) (fun _ _ h => h)) hS)
  obtain ⟨Ap, cp, hpv⟩ := h.pos.form
  obtain ⟨At, ct, htv⟩ := h.tests.form
  obtain ⟨An, cn, hnv⟩ := h.neg.form
  subst hpv; subst htv; subst hnv
  have l1 := hS.pos.1
  have l2 := hS.tests
  have l3 := hS.neg.1
  have H := Lib.hid (h.kp (F' := fun b => b < w.heap.size) (Kp.refl _ _) (fun b hb _ => hb))
  have SM := Lib.hid hS
  clear h hS
  by_cases hmany : 16 < r.pos.length + r.tests.length + r.neg.length
  · have hb := Lib.hid (mayB_false (r := r) (fun ⟨w, hh⟩ => by have := hh.many; omega))
    have hm1 : (16 : Int) < ((r.pos.length + r.tests.length + r.neg.length : Nat) : Int) := by omega
    go_enter Try.func29, Try.ntmps29
    go_wp2_with (go_at_call 49; refine (C0.out _ ?_).mono ?_; exact (Below.refl _ _).alloc (Nat.le_refl _) _; rintro e w' ⟨rfl, hb2⟩; have HB2 := Lib.hid hb2; clear hb2)
    go_ret
    exact ⟨ret_bool hb.out.symm, ((Below.refl _ _).alloc (Nat.le_refl _) _).trans (HB2.out.mono (by simp))⟩
  · have hm1 : ¬ (16 : Int) < ((r.pos.length + r.tests.length + r.neg.length : Nat) : Int) := by omega
    go_enter Try.func29, Try.ntmps29
    go_wp2_with (go_at_call 49; refine (C0.out _ ?_).mono ?_; exact (Below.refl _ _).alloc (Nat.le_refl _) _; rintro e w2 ⟨rfl, hb2⟩; have x1 := box_cell (hb2.mono (by simp)) 2 _ rfl; have HB2 := Lib.hid (hb2.mono (show w.heap.size + 1 ≤ _ by simp)); have hz2 : w.heap.size < w2.heap.size := (by have := hb2.size; simp at this; omega); clear hb2)
    obtain ⟨wo, rfl⟩ : ∃ wo : World, wo = w2 := ⟨_, rfl⟩
    go_loopw [18] (fun i wr => ∃ k : Nat, i = .int .i64 k ∧ PosTo r k ∧ BoxSt wo wr 3 #[.int .i64 (wAt r k)]) (fun i _ => r.pos.length - (intOf i).toNat)
    case atStart => exact ⟨0, rfl, ⟨Nat.zero_le _, by simp, trivial⟩, ⟨heap_alloc_new wo _, (Below.refl _ _).alloc (Nat.le_refl _) _⟩⟩
    case round =>
      obtain ⟨k, rfl, hP, hB⟩ := hrel
      have hw128 := hP.wle (by omega)
      have hwz := hB.lt
      have bw := (box_below HB2.out).trans (hB.below.mono (by omega))
      have hkle := hP.le
      by_cases hkn : k < r.pos.length
      · obtain ⟨p, hp⟩ : ∃ p, r.pos[k]? = some p := ⟨_, List.getElem?_eq_getElem hkn⟩
        obtain ⟨b, off, rfl, hFb, hbs, cs, ⟨av, rfl, pok, ha⟩, hc⟩ := (H.out.pos.kp (Kp.of_below bw) (fun _ _ h => h) (fun _ _ h => h.kp (Kp.of_below bw) (fun _ _ h => h))).at hp
        have c0 := hc 0 _ rfl
        have c1 := hc 1 _ rfl
        simp only [Nat.add_zero] at c0
        have hpl := SM.out.pos.2 p (List.mem_of_getElem? hp)
        have MP := Lib.hid (fun W (hb : Below wr.heap.size wr W) => mayPatternW p av W (ha.keep (Kp.of_below hb)) hpl)
        obtain ⟨Aa, ca, rfl⟩ := ha.form
        have hpl2 : p.args.length ≤ 1048576 := hpl
        obtain ⟨w0, hw0⟩ : ∃ w0, wAt r k = w0 := ⟨_, rfl⟩
        have HW0 := Lib.hid hw0
        rw [hw0] at hw128 hB
        have e1 : (0 : Int) ≤ (k : Int) := by omega
        have e2 : (k : Int) < (r.pos.length : Int) := by omega
        have HP := Lib.hid hp
        have HH := Lib.hid hP
        have HK := Lib.hid hkn
        have HB := Lib.hid hB
        have HA := Lib.hid ha
        have BW := Lib.hid bw
        clear hc hw0 hp hP hkn hB ha bw hpl
        by_cases hmp : mpB p = true
        · have HMP := Lib.hid hmp
          have hpr := hmp
          simp only [mpB, decide_eq_true_eq] at hpr
          have HPR := Lib.hid hpr
          clear hmp hpr
          go_wp2_with (go_at_call 50; refine (MP.out _ ?_).mono ?_; exact (Below.refl _ _).alloc (Nat.le_refl _) _; rintro e w3 ⟨he, hb3⟩; rw [HMP.out] at he; subst he; have y1 := box_cell (hb3.mono (by simp)) 1 _ rfl; have HB3 := Lib.hid hb3; have hz3 : wr.heap.size < w3.heap.size := (by have := hb3.size; simp at this; omega); clear hb3)
          have hpa8 := HPR.out.2.1
          have B3 := (HB.out.alloc (.cells #[.int .i64 p.pred, .slice Aa p.args.length ca] 34)).step HB3.out
          have hA3 := HA.out.keep (Kp.of_below (box_below (HB3.out.mono (by simp))))
          have HA3 := Lib.hid hA3
          have HB3' := Lib.hid B3
          clear hA3 B3 c0 c1
          obtain ⟨wq, rfl⟩ : ∃ wq : World, wq = w3 := ⟨_, rfl⟩
          go_loopw [28] (fun i wr => ∃ j : Nat, i = .int .i64 j ∧ j ≤ p.args.length ∧ okA (p.args.take j) w0 ∧ BoxSt wo wr 3 #[.int .i64 (scanD (p.args.take j) w0)] ∧ wq.heap.size ≤ wr.heap.size) (fun i _ => p.args.length - (intOf i).toNat)
          case atStart => exact ⟨0, rfl, Nat.zero_le _, trivial, HB3'.out, Nat.le_refl _⟩
          case round =>
            obtain ⟨j, rfl, hj, hok, hB, hsz⟩ := hrel
            have hwz2 := hB.lt
            have bw2 := (box_below HB2.out).trans (hB.below.mono (by omega))
            have hlen := scanD_len (p.args.take j) w0
            have hlj : (p.args.take j).length ≤ j := List.length_take_le _ _
            have x3 := hB.cell 0 rfl
            have fz := hB.fz 0
            by_cases hjn : j < p.args.length
            · obtain ⟨s, hs⟩ : ∃ s, p.args[j]? = some s := ⟨_, List.getElem?_eq_getElem hjn⟩
              obtain ⟨b', off', hAe, hF', hbs', cs', ⟨rfl, sok⟩, hc2⟩ := (HA3.out.keep (Kp.of_two ((box_below HB2.out).trans (HB3'.out.below.mono (by omega))) bw2 hsz)).at hs
              subst hAe
              have d0 := hc2 0 _ rfl
              have d1 := hc2 1 _ rfl
              simp only [Nat.add_zero] at d0
              have hs0 : 0 ≤ s.n := HPR.out.2.2 s (List.mem_of_getElem? hs)
              obtain ⟨sv, sn⟩ := s
              simp only at d0 d1 hs0
              have f1 : (0 : Int) ≤ (j : Int) := by omega
              have f2 : (j : Int) < (p.args.length : Int) := by omega
              obtain ⟨wc, hwc⟩ : ∃ wc, scanD (p.args.take j) w0 = wc := ⟨_, rfl⟩
              have HWC := Lib.hid hwc
              have HOK := Lib.hid hok
              have HJ := Lib.hid hjn
              have HS := Lib.hid hs
              rw [hwc] at hlen hB x3
              have hwc2 : wc ≤ 136 := by omega
              have BA := Lib.hid (hB.alloc (.cells #[.bool sv, .int .i64 sn] 50))
              have HBB := Lib.hid hB
              have BW2 := Lib.hid bw2
              have HSZ := Lib.hid hsz
              clear hwc hlen hok hc2 hs hjn hlj hB bw2 hsz
              cases sv with
              | false =>
                have HX := Lib.hid (show scanD (p.args.take (j + 1)) w0 = wc by rw [scanD_succ HS.out, if_neg (by simp)]; exact HWC.out)
                have HO := Lib.hid (okA_snoc HS.out HOK.out (by simp only; omega) (by simp))
                go_wp2
                exact ⟨⟨j + 1, by go_num, HJ.out, HO.out, by rw [HX.out]; exact BA.out, by have := HSZ.out; simp; omega⟩, by simp [intOf]; have := HJ.out; omega⟩
              | true =>
                by_cases h1 : (wc : Int) < sn
                · have HF := Lib.hid (mayB_false (r := r) (fun hh => by
                    have h2 := (okA_at (fit_at hh HP.out).1 HS.out).2 rfl
                    rw [HW0.out, HWC.out] at h2
                    simp only at h2
                    omega))
                  go_wp2
                  go_ret
                  exact ⟨ret_bool HF.out.symm, BW2.out.trans (((Below.refl _ _).alloc (Nat.le_refl _) _).mono (by omega))⟩
                · have HO := Lib.hid (okA_snoc HS.out HOK.out (by simp only; omega) (fun _ => by rw [HWC.out]; simp only; omega))
                  by_cases h2 : sn = (wc : Int)
                  · have HX := Lib.hid (show scanD (p.args.take (j + 1)) w0 = wc + 1 by rw [scanD_succ HS.out, HWC.out, if_pos ⟨rfl, h2⟩])
                    have h2b : (sn == (wc : Int)) = true := by simpa using h2
                    have BS := Lib.hid ((HBB.out.set 0 (.int .i64 ((wc : Int) + 1)) rfl).alloc (.cells #[.bool true, .int .i64 sn] 50))
                    clear h2
                    go_wp2
                    exact ⟨⟨j + 1, by go_num, HJ.out, HO.out, by rw [HX.out, show ((wc + 1 : Nat) : Int) = (wc : Int) + 1 by omega]; exact BS.out, by have := HSZ.out; simp; omega⟩, by simp [intOf]; have := HJ.out; omega⟩
                  · have HX := Lib.hid (show scanD (p.args.take (j + 1)) w0 = wc by rw [scanD_succ HS.out, HWC.out, if_neg (fun h => h2 h.2)])
                    have h2b : (sn == (wc : Int)) = false := by simpa using h2
                    clear h2
                    go_wp2
                    exact ⟨⟨j + 1, by go_num, HJ.out, HO.out, by rw [HX.out]; exact BA.out, by have := HSZ.out; simp; omega⟩, by simp [intOf]; have := HJ.out; omega⟩
            · obtain rfl : j = p.args.length := by omega
              rw [List.take_length] at hok hB
              have N := HH.out.next HP.out HPR.out.1 HPR.out.2.1 (by rw [HW0.out]; exact hok)
              rw [HW0.out] at N
              have N1 := Lib.hid N.1
              have N2 := Lib.hid (show BoxSt wo wr 3 #[.int .i64 (wAt r (k + 1))] by rw [N.2]; exact hB)
              clear N hok hB hjn hlj
              go_wp2
              exact ⟨⟨k + 1, by go_num, N1.out, N2.out⟩, by simp [intOf]; have := HK.out; omega⟩
        · have HMP := Lib.hid (show mpB p = false by simpa using hmp)
          have HF := Lib.hid (mayB_false (r := r) (fun hh => hmp (mpB_true ⟨(fit_at hh HP.out).2.1, (fit_at hh HP.out).2.2, okA_nonneg (fit_at hh HP.out).1⟩)))
          clear hmp
          go_wp2_with (go_at_call 50; refine (MP.out _ ?_).mono ?_; exact (Below.refl _ _).alloc (Nat.le_refl _) _; rintro e w3 ⟨he, hb3⟩; rw [HMP.out] at he; subst he; have HB3 := Lib.hid hb3; clear hb3)
          go_ret
          exact ⟨ret_bool HF.out.symm, BW.out.trans (((Below.refl _ _).alloc (Nat.le_refl _) _ |>.trans (HB3.out.mono (by simp))).mono (by omega))⟩
      · obtain rfl : k = r.pos.length := by omega
        have hP' : okA (r.pos.flatMap Pat.args) 0 ∧ ∀ p ∈ r.pos, 0 ≤ p.pred ∧ p.args.length ≤ 8 := by
          have h1 := hP.ok
          have h2 := hP.pats
          rw [List.take_length] at h1 h2
          exact ⟨h1, h2⟩
        obtain ⟨wn, hwn⟩ : ∃ wn, wAt r r.pos.length = wn := ⟨_, rfl⟩
        have HW := Lib.hid (show scanD (r.pos.flatMap Pat.args) 0 = wn by unfold wAt at hwn; rw [List.take_length] at hwn; exact hwn)
        rw [hwn] at hw128 hB
        have HP := Lib.hid hP'
        have HB := Lib.hid hB
        have x3 := hB.cell 0 rfl
        have x4 := box_cell (HB2.out.trans (hB.below.mono (by omega))) 4 _ rfl
        have hwzz : w.heap.size < wr.heap.size := by omega
        clear hwn hP' hP hB hkn bw x1
        by_cases h16 : 16 < wn
        · have HF := Lib.hid (mayB_false (r := r) (fun ⟨w', hh⟩ => by have h1 := hh.wid; have h2 := hh.w16; rw [HW.out] at h1; omega))
          have h16' : (16 : Int) < (wn : Int) := by omega
          go_wp2
          go_ret
          exact ⟨ret_bool HF.out.symm, (box_below HB2.out).trans (HB.out.below.mono (by omega))⟩
        have h16' : ¬ (16 : Int) < (wn : Int) := by omega
        have H16 := Lib.hid h16
        clear h16
        go_wp2
        clear x3 x4
        go_loopw [57] (fun i wr => ∃ k : Nat, i = .int .i64 k ∧ k ≤ r.neg.length ∧ (∀ p ∈ r.neg.take k, 0 ≤ p.pred ∧ p.args.length ≤ 8 ∧ ∀ s ∈ p.args, belowP wn s) ∧ BoxSt wo wr 3 #[.int .i64 wn]) (fun i _ => r.neg.length - (intOf i).toNat)
        case atStart => exact ⟨0, rfl, Nat.zero_le _, by simp, HB.out⟩
        case round =>
          obtain ⟨k, rfl, hk, hq, hB⟩ := hrel
          have hwz2 := hB.lt
          have bw := (box_below HB2.out).trans (hB.below.mono (by omega))
          clear hwz hwzz
          by_cases hkn : k < r.neg.length
          · obtain ⟨p, hp⟩ : ∃ p, r.neg[k]? = some p := ⟨_, List.getElem?_eq_getElem hkn⟩
            obtain ⟨b, off, rfl, hFb, hbs, cs, ⟨av, rfl, pok, ha⟩, hc⟩ := (H.out.neg.kp (Kp.of_below bw) (fun _ _ h => h) (fun _ _ h => h.kp (Kp.of_below bw) (fun _ _ h => h))).at hp
            have c0 := hc 0 _ rfl
            have c1 := hc 1 _ rfl
            simp only [Nat.add_zero] at c0
            have hpl := SM.out.neg.2 p (List.mem_of_getElem? hp)
            have MP := Lib.hid (fun W (hb : Below wr.heap.size wr W) => mayPatternW p av W (ha.keep (Kp.of_below hb)) hpl)
            have CF := Lib.hid (fun W (hb : Below wr.heap.size wr W) => containsFunc_may av p.args wo.heap.size (fun s => !bel wn s) W (ha.keep (Kp.of_below hb))
              (fun s _ W' hb' => may1W s wn wo.heap.size W' (((hB.step hb).step hb').cell 0 rfl) ((hB.step hb).step hb').lt))
            obtain ⟨Aa, ca, rfl⟩ := ha.form
            have e1 : (0 : Int) ≤ (k : Int) := by omega
            have e2 : (k : Int) < (r.neg.length : Int) := by omega
            have hp2 := Lib.hid hp
            have HQ := Lib.hid hq
            have HK := Lib.hid hkn
            have HB' := Lib.hid hB
            have BW := Lib.hid bw
            have HM : ∀ h : mayP r, 0 ≤ p.pred ∧ p.args.length ≤ 8 ∧ ∀ s ∈ p.args, belowP wn s := fun ⟨w', hh⟩ => by
              have := hh.ngs p (List.mem_of_getElem? hp)
              rw [← hh.wid, HW.out] at this
              exact this
            have HM' := Lib.hid HM
            clear hc hp hq hkn hB ha bw hpl HM
            by_cases hmp : mpB p = true
            · have HMP := Lib.hid hmp
              have hpr := hmp
              simp only [mpB, decide_eq_true_eq] at hpr
              have HPR := Lib.hid hpr
              clear hmp hpr
              by_cases hcf : 0 ≤ idxI (fun s => !bel wn s) p.args
              · have HF := Lib.hid (mayB_false (r := r) (fun hh => by
                  obtain ⟨s, h1, h2⟩ := idxI_ge.1 hcf
                  have := (HM'.out hh).2.2 s h1
                  simp [bel, this] at h2))
                have HCF := Lib.hid hcf
                clear hcf
                go_wp2_with (first
                  | (go_at_call 50; refine (MP.out _ ?_).mono ?_; exact (Below.refl _ _).alloc (Nat.le_refl _) _; rintro e w3 ⟨he, hb3⟩; rw [HMP.out] at he; subst he; have y1 := box_cell (hb3.mono (by simp)) 1 _ rfl; have HB3 := Lib.hid hb3; have hz3 : wr.heap.size < w3.heap.size := (by have := hb3.size; simp at this; omega); clear hb3)
                  | (go_at_call 51; refine (CF.out _ ?_).mono ?_; exact ((Below.refl _ _).alloc (Nat.le_refl _) _).trans (HB3.out.mono (by simp)); rintro e w4 ⟨he, hb4⟩; rw [decide_eq_true HCF.out] at he; subst he; have HB4 := Lib.hid hb4; clear hb4))
                go_ret
                exact ⟨ret_bool HF.out.symm, BW.out.trans ((((Below.refl _ _).alloc (Nat.le_refl _) _ |>.trans (HB3.out.mono (by simp))).trans (HB4.out.mono (by omega))).mono (by omega))⟩
              · have HQ2 := Lib.hid (take_all HQ.out hp2.out (by
                  refine ⟨HPR.out.1, HPR.out.2.1, fun s hs => ?_⟩
                  rcases Classical.em (belowP wn s) with h1 | h1
                  · exact h1
                  · exact absurd (idxI_ge.2 ⟨s, hs, by simp [bel, h1]⟩) hcf))
                have HCF := Lib.hid hcf
                clear hcf
                go_wp2_with fail
                refine (MP.out _ ?_).mono ?_
                · exact (Below.refl _ _).alloc (Nat.le_refl _) _
                rintro e w3 ⟨he, hb3⟩
                rw [HMP.out] at he
                subst he
                have y1 := box_cell (hb3.mono (by simp)) 1 _ rfl
                have HB3 := Lib.hid hb3
                have hz3 : wr.heap.size < w3.heap.size := by have := hb3.size; simp at this; omega
                clear hb3
                go_wp2_with fail
                refine (CF.out _ ?_).mono ?_
                · exact ((Below.refl _ _).alloc (Nat.le_refl _) _).trans (HB3.out.mono (by simp))
                rintro e w4 ⟨he, hb4⟩
                rw [decide_eq_false (show ¬ 0 ≤ idxI (fun s => !bel wn s) p.args by have := HCF.out; omega)] at he
                subst he
                have HB4 := Lib.hid hb4
                clear hb4
                go_wp2
                exact ⟨⟨k + 1, by go_num, HK.out, HQ2.out, HB'.out.step (((Below.refl _ _).alloc (Nat.le_refl _) _ |>.trans (HB3.out.mono (by simp))).trans (HB4.out.mono (by omega)))⟩, by simp [intOf]; have := HK.out; omega⟩
            · have HMP := Lib.hid (show mpB p = false by simpa using hmp)
              have HF := Lib.hid (mayB_false (r := r) (fun hh => hmp (mpB_true ⟨(HM'.out hh).1, (HM'.out hh).2.1, fun s hs => ((HM'.out hh).2.2 s hs).1⟩)))
              clear hmp
              go_wp2_with (go_at_call 50; refine (MP.out _ ?_).mono ?_; exact (Below.refl _ _).alloc (Nat.le_refl _) _; rintro e w3 ⟨he, hb3⟩; rw [HMP.out] at he; subst he; have HB3 := Lib.hid hb3; clear hb3)
              go_ret
              exact ⟨ret_bool HF.out.symm, BW.out.trans (((Below.refl _ _).alloc (Nat.le_refl _) _ |>.trans (HB3.out.mono (by simp))).mono (by omega))⟩
          · obtain rfl : k = r.neg.length := by omega
            rw [List.take_length] at hq
            have HQ := Lib.hid hq
            have HB' := Lib.hid hB
            have x5 := box_cell (HB2.out.trans (hB.below.mono (by omega))) 3 _ rfl
            have hwzz : w.heap.size < wr.heap.size := by omega
            clear hq hB bw hkn
            go_wp2
            clear x5
            go_loopw [74] (fun i wr => ∃ k : Nat, i = .int .i64 k ∧ k ≤ r.tests.length ∧ (∀ t ∈ r.tests.take k, 1 ≤ t.op ∧ t.op ≤ 6 ∧ belowP wn t.l ∧ belowP wn t.r) ∧ BoxSt wo wr 3 #[.int .i64 wn]) (fun i _ => r.tests.length - (intOf i).toNat)
            case atStart => exact ⟨0, rfl, Nat.zero_le _, by simp, HB'.out⟩
            case round =>
              obtain ⟨k, rfl, hk, hq, hB⟩ := hrel
              have hwz3 := hB.lt
              have bw := (box_below HB2.out).trans (hB.below.mono (by omega))
              clear hwz2 hwzz
              by_cases hkn : k < r.tests.length
              · obtain ⟨t, ht⟩ : ∃ t, r.tests[k]? = some t := ⟨_, List.getElem?_eq_getElem hkn⟩
                obtain ⟨b, off, rfl, hFb, hbs, cs, ⟨rfl, ok1, ok2, ok3⟩, hc⟩ := (H.out.tests.keep (Kp.of_below bw)).at ht
                have c0 := hc 0 _ rfl
                have c1 := hc 1 _ rfl
                have c2 := hc 2 _ rfl
                have c3 := hc 3 _ rfl
                have c4 := hc 4 _ rfl
                simp only [Nat.add_zero] at c0
                have x3 := hB.cell 0 rfl
                have e1 : (0 : Int) ≤ (k : Int) := by omega
                have e2 : (k : Int) < (r.tests.length : Int) := by omega
                have HT := Lib.hid ht
                have HQ2 := Lib.hid hq
                have HK := Lib.hid hkn
                have HBB := Lib.hid hB
                have BW := Lib.hid bw
                have HM : ∀ h : mayP r, 1 ≤ t.op ∧ t.op ≤ 6 ∧ belowP wn t.l ∧ belowP wn t.r := fun ⟨w', hh⟩ => by
                  have := hh.tst t (List.mem_of_getElem? ht)
                  rw [← hh.wid, HW.out] at this
                  exact this
                have HM' := Lib.hid HM
                have CL := Lib.hid (fun (s : Slt) W => belowW s wn W)
                have y0 : ∀ W, Below (wr.heap.size + 1) (wr.alloc (.cells #[.int .i64 t.op, .bool t.l.v, .int .i64 t.l.n, .bool t.r.v, .int .i64 t.r.n] 52)) W → W.cell? ⟨wo.heap.size, 0, none⟩ = some (.int .i64 wn) := fun W hb => ((hB.step (((Below.refl _ _).alloc (Nat.le_refl _) _).trans (hb.mono (by simp)))).cell 0 rfl)
                have Y0 := Lib.hid y0
                clear hc ht hq hkn hB bw HM y0
                by_cases h1 : t.op < 1
                · have HF := Lib.hid (mayB_false (r := r) (fun hh => by have := (HM'.out hh).1; omega))
                  go_wp2
                  go_ret
                  exact ⟨ret_bool HF.out.symm, BW.out.trans (((Below.refl _ _).alloc (Nat.le_refl _) _).mono (by omega))⟩
                · by_cases h2 : 6 < t.op
                  · have HF := Lib.hid (mayB_false (r := r) (fun hh => by have := (HM'.out hh).2.1; omega))
                    go_wp2
                    go_ret
                    exact ⟨ret_bool HF.out.symm, BW.out.trans (((Below.refl _ _).alloc (Nat.le_refl _) _).mono (by omega))⟩
                  · by_cases h3 : belowP wn t.l
                    · have B3 := Lib.hid (show bel wn t.l = true by simp [bel, h3])
                      by_cases h4 : belowP wn t.r
                      · have B4 := Lib.hid (show bel wn t.r = true by simp [bel, h4])
                        have HQ3 := Lib.hid (take_all HQ2.out HT.out ⟨by omega, by omega, h3, h4⟩)
                        clear h3 h4
                        go_wp2_with fail
                        refine (CL.out t.l _).mono ?_
                        rintro e w5 ⟨he, hb5⟩
                        rw [B3.out] at he
                        subst he
                        have z0 := Y0.out _ (hb5.mono (by simp))
                        have z3 := box_cell (hb5.mono (by simp)) 3 _ rfl
                        have z4 := box_cell (hb5.mono (by simp)) 4 _ rfl
                        have hz5 : wr.heap.size < w5.heap.size := by have := hb5.size; simp at this; omega
                        have HB5 := Lib.hid hb5
                        clear hb5
                        go_wp2_with fail
                        refine (CL.out t.r _).mono ?_
                        rintro e w6 ⟨he, hb6⟩
                        rw [B4.out] at he
                        subst he
                        have HB6 := Lib.hid hb6
                        clear hb6 z3 z4 z0
                        go_wp2
                        exact ⟨⟨k + 1, by go_num, HK.out, HQ3.out, HBB.out.step (((Below.refl _ _).alloc (Nat.le_refl _) _ |>.trans (HB5.out.mono (by simp))).trans (HB6.out.mono (by omega)))⟩, by simp [intOf]; have := HK.out; omega⟩
                      · have B4 := Lib.hid (show bel wn t.r = false by simp [bel, h4])
                        have HF := Lib.hid (mayB_false (r := r) (fun hh => h4 (HM'.out hh).2.2.2))
                        clear h3 h4
                        go_wp2_with fail
                        refine (CL.out t.l _).mono ?_
                        rintro e w5 ⟨he, hb5⟩
                        rw [B3.out] at he
                        subst he
                        have z0 := Y0.out _ (hb5.mono (by simp))
                        have z3 := box_cell (hb5.mono (by simp)) 3 _ rfl
                        have z4 := box_cell (hb5.mono (by simp)) 4 _ rfl
                        have hz5 : wr.heap.size < w5.heap.size := by have := hb5.size; simp at this; omega
                        have HB5 := Lib.hid hb5
                        clear hb5
                        go_wp2_with fail
                        refine (CL.out t.r _).mono ?_
                        rintro e w6 ⟨he, hb6⟩
                        rw [B4.out] at he
                        subst he
                        have HB6 := Lib.hid hb6
                        clear hb6 z3 z4 z0
                        go_wp2
                        go_ret
                        exact ⟨ret_bool HF.out.symm, BW.out.trans ((((Below.refl _ _).alloc (Nat.le_refl _) _ |>.trans (HB5.out.mono (by simp))).trans (HB6.out.mono (by omega))).mono (by omega))⟩
                    · have B3 := Lib.hid (show bel wn t.l = false by simp [bel, h3])
                      have HF := Lib.hid (mayB_false (r := r) (fun hh => h3 (HM'.out hh).2.2.1))
                      clear h3
                      go_wp2_with fail
                      refine (CL.out t.l _).mono ?_
                      rintro e w5 ⟨he, hb5⟩
                      rw [B3.out] at he
                      subst he
                      have HB5 := Lib.hid hb5
                      clear hb5
                      go_wp2
                      go_ret
                      exact ⟨ret_bool HF.out.symm, BW.out.trans ((((Below.refl _ _).alloc (Nat.le_refl _) _ |>.trans (HB5.out.mono (by simp)))).mono (by omega))⟩
              · obtain rfl : k = r.tests.length := by omega
                rw [List.take_length] at hq
                have HF := Lib.hid (mayB_true (r := r) ⟨wn, ⟨by omega, HP.out.2, HP.out.1, HW.out, by have := H16.out; omega, hq, HQ.out⟩⟩)
                have BW := Lib.hid bw
                clear hq hB bw hkn
                go_wp2
                go_ret
                exact ⟨ret_bool HF.out.symm, BW.out⟩
end Go.Proofs.Ytonkbjdeaneicaa
