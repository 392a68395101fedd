/- AgendaOrderless: the walk. -/
import Derived.Test.YtjgigcnjgblekaaDoorKao23
namespace Go.Proofs.YtjgigcnjgblekaaDoor
open Go Go.RowKit Go.Maps Classical

theorem ints_one (l : List Int) : ∀ u ∈ intVs l, u.oneCell' = true := intVs_one l
set_option maxRecDepth 100000 in
set_option maxHeartbeats 4000000 in
theorem orderW (lvv acv swv : Value) (levels : List Int) (acts : List Ac) (swap : List Int) (w : World) (h1 : RSl (fun b => b < w.heap.size) w 1 EInt lvv levels) (h2 : RSl (fun b => b < w.heap.size) w 2 (EAc (fun b => b < w.heap.size) w) acv acts) (h3 : RSl (fun b => b < w.heap.size) w 1 EInt swv swap)
    (hl : (levels.length + 3) * 8 ≤ 140737488355328) (ha : acts.length ≤ 1000000000000000) (ht : Tab w) :
    Calls Tryd.prog 3 #[lvv, acv, swv] w fun e w' => e = .returned (.bool true) ∧ Below w.heap.size w w' := by
  obtain ⟨A1, c1, rfl⟩ := h1.form
  obtain ⟨A2, c2, rfl⟩ := h2.form
  obtain ⟨A3, c3, rfl⟩ := h3.form
  have hm1 := h1.len
  have hm2 := h2.len
  have hm3 := h3.len
  unfold maxLen at hm1 hm2 hm3
  obtain ⟨-, hI⟩ := (h1.keep (Kp.of_below ((Below.refl w.heap.size w).alloc (Nat.le_refl _) (.cells #[] 3)))).intCells
  have HI1 := Lib.hid hI
  have H1 := Lib.hid h1
  have H2 := Lib.hid h2
  have H3 := Lib.hid h3
  have HT := Lib.hid ht
  have O0 := Lib.hid (own0 w 3 1 w.heap.size (Nat.le_refl _))
  clear h1 h2 h3 ht hI
  go_enter Tryd.func3, Tryd.ntmps3
  go_wp2_with (at_builtin; first
    | (refine wpList_append_any rfl (.tmp 20) (.tmp 21) 22 rfl w.heap.size 3 Tryd.underlying22 infoIntR rfl (by decide) (.slice (some ⟨w.heap.size, 0, none⟩) 0 0) 0 [] rfl O0.out A1 levels.length c1 rfl (intVs levels) (by rw [intVs_len]; omega) (intVs_one levels) (HI1.out.imp (fun h => by rw [h]; rfl) id) (by unfold maxLen; omega) (by omega) (by simp) ?_; intro v1 w1 hown1 ht1; have N1 := Lib.hid hown1; have N2 := Lib.hid ht1; have Z1 := Lib.hid (show w.heap.size + 1 ≤ w1.heap.size by have := ht1.size; simpa using this); clear hown1 ht1)
    | (refine wpList_append_any rfl (.tmp 22) (.tmp 23) 22 rfl w.heap.size 3 Tryd.underlying22 infoIntR rfl (by decide) v1 (0 + levels.length) ([] ++ intVs levels) rfl (ownsRow_turns N1.out (Turns.of_below (S := []) ((Below.refl _ w1).alloc (Nat.le_refl _) (.cells #[.int .i64 2, .int .i64 0, .int .i64 1] 3))) (fun _ _ => by simp)) (some ⟨w1.heap.size, 0, none⟩) 3 3 rfl (intVs [2, 0, 1]) rfl (intVs_one _) (.inr ⟨_, rfl, World.news_of_block (heap_alloc_new w1 (.cells #[.int .i64 2, .int .i64 0, .int .i64 1] 3))⟩) (by unfold maxLen; omega) (by omega) (by have := Z1.out; simp; omega) ?_; intro v2 w2 hown2 ht2; have N3 := Lib.hid hown2; have N4 := Lib.hid ht2; clear hown2 ht2))
  have OK1 : ∀ i ∈ levels ++ [2, 0, 1], i64ok i := fun i hi => by
    rcases List.mem_append.1 hi with hi | hi
    · obtain ⟨q, hq⟩ := List.getElem?_of_mem hi
      obtain ⟨b, off, _, _, _, ds, ⟨rfl, lok⟩, _⟩ := H1.out.at hq
      exact lok
    · simp only [List.mem_cons, List.not_mem_nil, or_false] at hi
      rcases hi with rfl | rfl | rfl <;> (unfold i64ok; decide)
  have xl : (levels ++ [2, 0, 1]).length = 0 + levels.length + 3 := by simp
  have OW : OwnZ w2 w.heap.size v2 (levels ++ [2, 0, 1]) := by
    have := N3.out
    unfold OwnZ
    rw [xl, show intVs (levels ++ [2, 0, 1]) = [] ++ intVs levels ++ intVs [2, 0, 1] by simp [intVs]]
    exact this
  have b1w : ∀ x ∈ v1.ownBlock.toList, w.heap.size ≤ x := fun x hx => (ownBlock_cells N1.out (by simpa using hx)).1
  have B1 : Below w.heap.size w w1 := ((Below.refl w.heap.size w).alloc (Nat.le_refl _) (.cells #[] 3)).trans (N2.out.below (by simp) (fun x hx => by simp [Value.ownBlock] at hx; omega))
  have B2 := Lib.hid (B1.trans (((Below.refl w.heap.size w1).alloc B1.size (.cells #[.int .i64 2, .int .i64 0, .int .i64 1] 3)).trans (N4.out.below (by have := B1.size; simp; omega) b1w)))
  have R2 := Lib.hid (OW.rsl (F := fun b => w.heap.size ≤ b) (fun b hb => (ownBlock_cells OW hb).1) OK1)
  obtain ⟨xs, hxs⟩ : ∃ xs, levels ++ [2, 0, 1] = xs := ⟨_, rfl⟩
  rw [hxs] at R2 xl
  have hx3 : 3 ≤ (lev0 xs).length := by rw [lev0_len]; omega
  have hx8 : xs.length * 8 ≤ 140737488355328 := by omega
  have LV := Lib.hid hx3
  have X8 := Lib.hid hx8
  clear hxs OW OK1 b1w B1 N1 N2 N3 N4 O0 HI1 Z1 xl hx3 hx8 hl
  refine (fourW w2).mono ?_
  rintro e w3 ⟨cv, rfl, hc3, hb3⟩
  have R3 := Lib.hid (R2.out.keep (Kp.of_below hb3))
  have NW := Lib.hid (newW (F := fun b => w.heap.size ≤ b) [] v2 cv xs fourL w3 R3.out ((show RSl (fun b => w2.heap.size ≤ b) w3 3 ECst cv fourL from hc3).kp (Kp.refl _ _) (fun b _ hb => Nat.le_trans B2.out.size hb) (fun _ _ h => h)) (by decide) X8.out (fun x hx => by simp at hx))
  have B3 := Lib.hid (B2.out.trans (hb3.mono B2.out.size))
  clear hc3 hb3 R2 B2
  go_wp2_with fail
  refine NW.out.mono ?_
  rintro e w4 ⟨pa, ma, fa, rfl, hA4, hb4, g1, g2, g3⟩
  have HA4 := Lib.hid hA4
  have G4 := Lib.hid (show w.heap.size ≤ ma by have := B3.out.size; omega)
  have R4 := Lib.hid (R3.out.keep (Kp.of_below hb4))
  have B4 := Lib.hid (B3.out.trans (hb4.mono B3.out.size))
  clear hA4 hb4 g1 g2 g3 R3 B3 NW
  go_wp2_with fail
  refine (fourW w4).mono ?_
  rintro e w5 ⟨cv5, rfl, hc5, hb5⟩
  have NW := Lib.hid (newW (F := fun b => w.heap.size ≤ b) [ma, fa] v2 cv5 xs fourL w5 (R4.out.keep (Kp.of_below hb5)) ((show RSl (fun b => w4.heap.size ≤ b) w5 3 ECst cv5 fourL from hc5).kp (Kp.refl _ _) (fun b _ hb => Nat.le_trans B4.out.size hb) (fun _ _ h => h)) (by decide) X8.out (fun x hx => by
    have := hb5.size
    have k1 := HA4.out.con.lt
    have k2 := HA4.out.fir.lt
    simp only [List.mem_cons, List.not_mem_nil, or_false] at hx
    rcases hx with rfl | rfl <;> omega))
  have B45 := Lib.hid hb5
  clear hc5 hb5 R4
  go_wp2_with fail
  refine NW.out.mono ?_
  rintro e w6 ⟨pb, mb, fb, rfl, hA6, hb6, g1, g2, g3⟩
  have h45 := B45.out.size
  obtain ⟨hC, hO⟩ := orl_start HA4.out (B45.out.trans (hb6.mono h45)) hA6 (by omega) (by omega) LV.out
  have B6 := Lib.hid (B4.out.trans ((B45.out.trans (hb6.mono h45)).mono B4.out.size))
  have G6 := Lib.hid (show w.heap.size ≤ ma ∧ w.heap.size ≤ mb from ⟨G4.out, by have := B4.out.size; omega⟩)
  obtain ⟨c, hc⟩ : ∃ c, OrC.mk w6 pa ma fa pb mb fb (lev0 xs) = c := ⟨_, rfl⟩
  have cw : w6 = c.w1 := by rw [← hc]
  have cpa : pa = c.pa := by rw [← hc]
  have cma : ma = c.ma := by rw [← hc]
  have cpb : pb = c.pb := by rw [← hc]
  have cmb : mb = c.mb := by rw [← hc]
  rw [hc] at hC hO
  have HO := Lib.hid hO
  have HC := Lib.hid hC
  rw [cw] at B6 HO
  rw [cma, cmb] at G6
  rw [cpa, cpb, cw]
  clear hc cw cpa cma cpb cmb hA6 hb6 g1 g2 g3 h45 hC hO B45 B4 G4 HA4 NW LV X8
  have BO := Lib.hid (fun (W : World) (T : Turns [c.ma, c.mb] c.w1 W) => (B6.out.trans (T.below B6.out.size (fun x hx => by
    simp only [List.mem_cons, List.not_mem_nil, or_false] at hx
    have := G6.out
    rcases hx with rfl | rfl <;> omega)) : Below w.heap.size w W))
  have TA := Lib.hid (fun (W : World) (hb : Below w.heap.size w W) (V : World) (T : Turns [c.ma] W V) => (HT.out.below (hb.trans (T.below hb.size (fun x hx => by rw [List.mem_singleton.1 hx]; exact G6.out.1))) : Tab V))
  have TBb := Lib.hid (fun (W : World) (hb : Below w.heap.size w W) (V : World) (T : Turns [c.mb] W V) => (HT.out.below (hb.trans (T.below hb.size (fun x hx => by rw [List.mem_singleton.1 hx]; exact G6.out.2))) : Tab V))
  clear B6 HT
  go_wp2_with fail
  go_loopw [9, 10, 11] (fun iv ov i wr => ∃ (k : Nat) (M : List Nat) (l : List Ac) (vi vo : Value), i = .int .i64 (k : Int) ∧ iv = vi ∧ ov = vo ∧ k ≤ acts.length ∧ Orl c k M vi vo l [] l l wr ∧ l.Nodup ∧ (∀ a ∈ l, a ∈ all21) ∧ (0 < k → l ≠ [])) (fun _ _ i _ => acts.length - (intOf i).toNat)
  case atStart => exact ⟨0, _, [], _, _, rfl, rfl, rfl, Nat.zero_le _, HO.out, List.nodup_nil, fun a ha => by simp at ha, fun h => by omega⟩
  case round =>
    obtain ⟨k, M, l, vi, vo, rfl, rfl, rfl, hk, hO, hnd, hal, hne⟩ := hrel
    clear HO
    have HO := Lib.hid hO
    have HND := Lib.hid hnd
    have HAL := Lib.hid hal
    have HNE := Lib.hid hne
    have HBW := Lib.hid (BO.out wr hO.turns)
    clear hO hnd hal hne
    by_cases hkn : k < acts.length
    · obtain ⟨x, hx⟩ : ∃ x, acts[k]? = some x := ⟨_, List.getElem?_eq_getElem hkn⟩
      obtain ⟨b, off, rfl, _, _, cs, ⟨sv, rfl, hok, hsv⟩, hc⟩ := (EAc.all H2.out (Kp.of_below HBW.out) (fun _ _ h => h)).at hx
      obtain ⟨A4, c4, rfl⟩ := hsv.form
      have d0 := hc 0 _ rfl
      have d1 := hc 1 _ rfl
      simp only [Nat.add_zero] at d0
      have MW := Lib.hid (madeW x (.slice A4 x.sub.length c4) wr hsv hok)
      have e1 : (0 : Int) ≤ (k : Int) := by omega
      have e2 : (k : Int) < (acts.length : Int) := by omega
      clear hx hok hsv hc
      go_wp2_with fail
      refine MW.out.mono ?_
      rintro e w5 ⟨sv5, rfl, hs5, hb5⟩
      obtain ⟨A5, c5, hsv5⟩ := hs5.form
      subst hsv5
      have hmem := made_mem x
      obtain ⟨a, haa⟩ : ∃ a, madeA x = a := ⟨_, rfl⟩
      have HX := Lib.hid haa
      rw [haa] at hs5 hmem ⊢
      have HM := Lib.hid hmem
      have HAOK := Lib.hid (all21_ok hmem)
      have hMs : ∀ x ∈ M, x < wr.heap.size := HO.out.M
      have HS5 := Lib.hid (hs5.rsl (F := fun b => b ∉ M) (fun b hb hm => by have := (ownBlock_cells hs5 hb).1; have := hMs b hm; omega) HAOK.out.sub)
      obtain ⟨w6, hw6⟩ : ∃ w6, w6 = w5.alloc (.cells #[.int .i64 a.rule, .slice A5 a.sub.length c5] 30) := ⟨_, rfl⟩
      have hb6 : Below w5.heap.size w5 w6 := by rw [hw6]; exact (Below.refl _ _).alloc (Nat.le_refl _) _
      have hs6 : w6.heap.size = w5.heap.size + 1 := by rw [hw6]; simp
      have y0 : w6.cell? ⟨w5.heap.size, 0, none⟩ = some (.int .i64 a.rule) := by rw [hw6]; exact cell_of_row _ _ 0 _ _ _ (heap_alloc_new w5 _)
      have y1 : w6.cell? ⟨w5.heap.size, 1, none⟩ = some (.slice A5 a.sub.length c5) := by rw [hw6]; exact cell_of_row _ _ 1 _ _ _ (heap_alloc_new w5 _)
      have B6 := Lib.hid (hb5.trans (hb6.mono hb5.size))
      have S5 := Lib.hid hb5.size
      have HS6 := Lib.hid (HS5.out.keep (Kp.of_below hb6))
      clear hs5 hb5 hb6 hmem hMs haa d0 d1 MW HS5
      go_upto_region 12 with fail
      rw [← hw6]
      clear hw6
      obtain ⟨w7, hw7⟩ : ∃ w7, w7 = w6.alloc (.cells #[.bool true, .int .i64 a.rule, .slice A5 a.sub.length c5] 36) := ⟨_, rfl⟩
      have hb7 : Below w6.heap.size w6 w7 := by rw [hw7]; exact (Below.refl _ _).alloc (Nat.le_refl _) _
      have hr7 : w7.heap[w6.heap.size]? = some (.cells #[.bool true, .int .i64 a.rule, .slice A5 a.sub.length c5] 36 (0, 0)) := by rw [hw7]; exact heap_alloc_new w6 _
      have O7 := Lib.hid (HO.out.below (B6.out.trans (hb7.mono B6.out.size)))
      have HS7 := Lib.hid (HS6.out.keep (Kp.of_below hb7))
      have z0 := (hb7.cell (p := ⟨w5.heap.size, 0, none⟩) (by show w5.heap.size < w6.heap.size; omega)).trans y0
      have z1 := (hb7.cell (p := ⟨w5.heap.size, 1, none⟩) (by show w5.heap.size < w6.heap.size; omega)).trans y1
      have RS7 := Lib.hid (one_chg (F := fun b => b ∉ M) (x := (true, a)) hr7 (fun hm => by have := HO.out.M _ hm; have := B6.out.size; omega) HAOK.out HS7.out)
      have hN1 : k + 1 < maxLen := by unfold maxLen; omega
      have TA7 := Lib.hid (TA.out w7 (BO.out w7 O7.out.turns))
      have hma := HC.out.ma
      have hlt7 : w5.heap.size < w7.heap.size := by have := hb7.size; omega
      have hneA : w5.heap.size ≠ c.ma := by have := S5.out; have := O7.out.turns.size; have := HO.out.turns.size; omega
      have BW7 := Lib.hid (B6.out.trans (hb7.mono B6.out.size))
      have HS7 := Lib.hid HS7.out
      clear hb7 hr7 hma hs6
      by_cases hin : a ∈ l
      · have AP := Lib.hid (orl_twice O7.out HC.out ⟨x, HX.out⟩ hin RS7.out hN1 TA7.out)
        have HL := Lib.hid (List.ne_nil_of_mem hin)
        clear hin z0 z1 hN1
        go_wp2_with fail
        rw [← hw7]
        clear hw7 y0 y1
        refine AP.out.mono ?_
        rintro e w8 ⟨rfl, hO8, -⟩
        have O8 := Lib.hid hO8
        clear hO8 AP
        go_wp2
        exact ⟨⟨k + 1, M, l, _, _, by go_num, rfl, rfl, by omega, O8.out, HND.out, HAL.out, fun _ => HL.out⟩, by simp [intOf]; omega⟩
      · have AP := Lib.hid (orl_come O7.out HC.out ⟨x, HX.out⟩ hin RS7.out hN1 TA7.out)
        have HNI := Lib.hid hin
        clear hin hN1
        go_wp2_with fail
        rw [← hw7]
        clear hw7 y0 y1
        refine AP.out.mono ?_
        rintro e w8 ⟨rfl, hO8, hT8⟩
        have O8 := Lib.hid hO8
        have x0 : w8.cell? ⟨w5.heap.size, 0, none⟩ = some (.int .i64 a.rule) := (hT8.cell hlt7 (by simpa using hneA)).trans z0
        have x1 : w8.cell? ⟨w5.heap.size, 1, none⟩ = some (.slice A5 a.sub.length c5) := (hT8.cell hlt7 (by simpa using hneA)).trans z1
        have HS8 := Lib.hid (HS7.out.keep (Kp.of_turns hT8 (fun b hb hm => by rw [List.mem_singleton.1 hb] at hm; exact hm O7.out.a.cM)))
        have hlen : l.length ≤ 40000000 := by have := all21_len HAL.out HND.out; omega
        have HV := Lib.hid (show ∀ vv : Value, (∀ b, vv.ownBlock = some b → b < wr.heap.size) → w5.heap.size ∉ vv.ownBlock.toList from fun vv hv hm => by have := hv _ (by simpa using hm); have := S5.out; omega)
        have HVI := Lib.hid (HV.out _ (fun b hb => (HO.out.iB hb).2))
        have L8 := Lib.hid (show w5.heap.size < w8.heap.size from Nat.lt_of_lt_of_le hlt7 hT8.size)
        clear hO8 hT8 AP z0 z1 hlt7 hneA
        go_wp2_with (at_builtin; first
          | (refine wpList_in O8.out HC.out rfl (.tmp 58) (.tmp 61) rfl rfl rfl rfl _ HAOK.out HS8.out hlen ?_; intro g cap w9 hO9 hT9 hF9; have O9 := Lib.hid hO9; have HS9 := Lib.hid (HS8.out.kp (Kp.of_turns hT9 (fun b hb hm => hm (O8.out.iM b (by simpa using hb)))) hF9 (fun _ _ h => h)); have u0 : w9.cell? ⟨w5.heap.size, 0, none⟩ = some (.int .i64 a.rule) := (hT9.cell L8.out HVI.out).trans x0; have u1 : w9.cell? ⟨w5.heap.size, 1, none⟩ = some (.slice A5 a.sub.length c5) := (hT9.cell L8.out HVI.out).trans x1; clear hO9 hT9 hF9 x0 x1)
          | (refine wpList_out O9.out HC.out rfl (.tmp 63) (.tmp 66) rfl rfl rfl rfl _ HAOK.out HS9.out hlen ?_; intro g2 cap2 w10 hO10 hT10 hF10; have O10 := Lib.hid hO10; clear hO10 hT10 hF10))
        refine ⟨⟨k + 1, _, l ++ [a], _, _, by go_num, rfl, rfl, by omega, O10.out, nod_snoc HND.out HNI.out, fun b hb => ?_, fun _ e => ?_⟩, by simp [intOf]; omega⟩
        · rcases List.mem_append.1 hb with hb | hb
          · exact HAL.out b hb
          · rw [List.mem_singleton.1 hb]; exact HM.out
        · simp at e
    · obtain rfl : k = acts.length := by omega
      obtain ⟨Ai, ci, hvi⟩ := HO.out.inn.form
      obtain ⟨Ao, co, hvo⟩ := HO.out.out.form
      rw [List.length_map] at hvi hvo
      subst hvi hvo
      have hmo := (HO.out.out.rsl (G := fun _ => True) (fun _ _ => trivial)).len
      rw [List.length_map] at hmo
      unfold maxLen at hmo
      go_upto_region 16 with fail
      go_cut [75] from 68 to 76 (fun t wx => t = .bool false ∧ wx = wr)
      case first =>
        by_cases h0 : l = []
        · have ha0 : acts.length = 0 := by
            have := HNE.out
            rcases Nat.eq_zero_or_pos acts.length with h | h
            · exact h
            · exact absurd h0 (this h)
          have hl0 : l.length = 0 := by rw [h0]; rfl
          have f1 : ((l.length : Int) == 0) = true := by rw [hl0]; rfl
          have f2 : decide ((acts.length : Int) > 0) = false := by rw [ha0]; rfl
          have f3 : ¬ (0 < acts.length) := by omega
          go_wp2_with fail
          go_meet
          exact ⟨rfl, rfl⟩
        · have hl0 : l.length ≠ 0 := fun h => h0 (List.eq_nil_of_length_eq_zero h)
          have f1 : ((l.length : Int) == 0) = false := by simpa using hl0
          go_wp2_with fail
          go_meet
          exact ⟨rfl, rfl⟩
      case rest =>
        obtain ⟨rfl, rfl⟩ := hcut
        go_wp2_with fail
        have HMO := Lib.hid hmo
        go_loopw [15] (fun i wy => ∃ (q : Nat) (ys : List Ac), i = .int .i64 (q : Int) ∧ q ≤ swap.length ∧ Orl c acts.length M (.slice Ai l.length ci) (.slice Ao l.length co) l [] ys l wy ∧ ys.Perm l) (fun i _ => swap.length - (intOf i).toNat)
        case atStart => exact ⟨0, l, rfl, Nat.zero_le _, HO.out, List.Perm.refl _⟩
        case round =>
          obtain ⟨q, ys, rfl, hq, hOy, hpy⟩ := hrel
          have HOY := Lib.hid hOy
          have HPY := Lib.hid hpy
          have HBY := Lib.hid (BO.out wr hOy.turns)
          have HLY := Lib.hid hpy.length_eq
          clear hOy hpy
          go_upto_region 19 with fail
          go_cut [85] from 76 to 86 (fun t wx => (∃ d : Bool, t = .bool d ∧ (d = true ↔ q < swap.length ∧ q < l.length)) ∧ wx = wr)
          case first =>
            by_cases h1 : q < swap.length
            · by_cases h2 : q < l.length
              · go_wp2_with fail
                go_meet
                exact ⟨⟨true, rfl, by simp [h1, h2]⟩, rfl⟩
              · go_wp2_with fail
                go_meet
                exact ⟨⟨false, rfl, by simp [h2]⟩, rfl⟩
            · go_wp2_with fail
              go_meet
              exact ⟨⟨false, rfl, by simp [h1]⟩, rfl⟩
          case rest =>
            obtain ⟨⟨d, rfl, hd⟩, rfl⟩ := hcut
            cases d with
            | true =>
              obtain ⟨hq1, hq2⟩ := hd.1 rfl
              obtain ⟨s, hs⟩ : ∃ s, swap[q]? = some s := ⟨_, List.getElem?_eq_getElem hq1⟩
              obtain ⟨b3, o3, rfl, _, _, cs, ⟨rfl, sok⟩, hc⟩ := (H3.out.keep (Kp.of_below HBY.out)).at hs
              have d0 := hc 0 _ rfl
              simp only [Nat.add_zero, Nat.mul_one] at d0
              have hpos : (0 : Int) < (l.length : Int) := by omega
              have hrng := modZ_rng (k := s) (n := (l.length : Int)) hpos
              have MW := Lib.hid (modW s (l.length : Int) hpos sok (by have := all21_len HAL.out HND.out; omega))
              obtain ⟨j, hj⟩ : ∃ j : Nat, modZ s (l.length : Int) = (j : Int) := ⟨(modZ s (l.length : Int)).toNat, by omega⟩
              rw [hj] at hrng MW
              have hjl : j < l.length := by omega
              have e1 : (0 : Int) ≤ (q : Int) := by omega
              have e2 : (q : Int) < (swap.length : Int) := by omega
              clear hs sok hc hd hj hrng
              go_wp2_with fail
              refine (MW.out _).mono ?_
              rintro e w' ⟨rfl, rfl⟩
              clear d0 MW
              go_upto_region 22 with fail
              have hly := HLY.out
              obtain ⟨y, hy⟩ : ∃ y, ys[q]? = some y := ⟨_, List.getElem?_eq_getElem (by omega)⟩
              obtain ⟨x, hx⟩ : ∃ x, ys[j]? = some x := ⟨_, List.getElem?_eq_getElem (by omega)⟩
              obtain ⟨g, rfl, fz⟩ := HOY.out.inn.head (by rw [List.length_map]; omega)
              have hyE : (ys.map fun x => (true, x))[q]? = some (true, y) := by rw [List.getElem?_map, hy]; rfl
              have hxE : (ys.map fun x => (true, x))[j]? = some (true, x) := by rw [List.getElem?_map, hx]; rfl
              have hyl : ys.length = l.length := hly
              -- in[i], kept beside
              obtain ⟨b1, o1, he1, -, hbm, cs1, ⟨sy, rfl, oky, hsy⟩, hc⟩ := RSl.at (show RSl (fun _ => True) wc 3 (cdChg.E (fun b => b ∉ M) wc) (.slice (some ⟨g, 0, none⟩) l.length ci) (ys.map fun x => (true, x)) from HOY.out.inn.rsl (fun _ _ => trivial)) hyE
              simp only [Option.some.injEq, Addr.mk.injEq] at he1
              obtain ⟨rfl, rfl, -⟩ := he1
              obtain ⟨Ay, cy, rfl⟩ := hsy.form
              have d0 := hc 0 _ rfl
              have d1 := hc 1 _ rfl
              have d2 := hc 2 _ rfl
              simp only [Nat.zero_add, Nat.add_zero] at d0 d1 d2
              obtain ⟨wa, hwa⟩ : ∃ wa, wa = wc.alloc (.cells #[.bool true, .int .i64 y.rule, .slice Ay y.sub.length cy] 36) := ⟨_, rfl⟩
              have hba : Below wc.heap.size wc wa := by rw [hwa]; exact (Below.refl _ _).alloc (Nat.le_refl _) _
              have BXA := Lib.hid (show wa.heap[wc.heap.size]? = some (.cells #[.bool true, .int .i64 y.rule, .slice Ay y.sub.length cy] 36 (0, 0)) from by rw [hwa]; exact heap_alloc_new wc _)
              have OA := Lib.hid (HOY.out.below hba)
              have g0 := (hba.cell (p := ⟨g, q * 3, none⟩) hbm).trans d0
              have g1 := (hba.cell (p := ⟨g, q * 3 + 1, none⟩) hbm).trans d1
              have g2 := (hba.cell (p := ⟨g, q * 3 + 2, none⟩) hbm).trans d2
              have HYE := Lib.hid (show cdChg.E (fun b => b ∉ M) wa [.bool true, .int .i64 y.rule, .slice Ay y.sub.length cy] (true, y) from ⟨_, rfl, oky, hsy.keep (Kp.of_below hba)⟩)
              have HGN := Lib.hid (show wc.heap.size ≠ g by omega)
              have i1 : (q : Int) < (l.length : Int) := by omega
              have i2 : (j : Int) < (l.length : Int) := by omega
              have i3 : (0 : Int) ≤ (j : Int) := by omega
              clear hc hsy oky hbm
              go_upto_region 23 with fail
              rw [← hwa]
              clear hwa d0 d1 d2 fz
              obtain ⟨b1, o1, he1, -, -, cs1, ⟨sx, rfl, okx, hsx⟩, hc⟩ := RSl.at (show RSl (fun _ => True) wa 3 (cdChg.E (fun b => b ∉ M) wa) (.slice (some ⟨g, 0, none⟩) l.length ci) (ys.map fun x => (true, x)) from OA.out.inn.rsl (fun _ _ => trivial)) hxE
              simp only [Option.some.injEq, Addr.mk.injEq] at he1
              obtain ⟨rfl, rfl, -⟩ := he1
              obtain ⟨Ax, cx, rfl⟩ := hsx.form
              have d0 := hc 0 _ rfl
              have d1 := hc 1 _ rfl
              have d2 := hc 2 _ rfl
              simp only [Nat.zero_add, Nat.add_zero] at d0 d1 d2
              obtain ⟨g', hg', fz⟩ := OA.out.inn.head (by rw [List.length_map]; omega)
              simp only [Option.some.injEq, Addr.mk.injEq, and_true] at hg'
              subst hg'
              have hgM : ¬ g ∉ M := fun h => h (OA.out.iM g rfl)
              have OP := Lib.hid (OwnF.put OA.out.inn hgM (i := q) (by rw [List.length_map]; omega) (y := (true, x)) (show cdChg.E (fun b => b ∉ M) wa [.bool true, .int .i64 x.rule, .slice Ax x.sub.length cx] (true, x) from ⟨_, rfl, okx, hsx⟩))
              have HGM := Lib.hid hgM
              clear hc hsx okx hgM
              go_upto_region 24 with fail
              clear d0 d1 d2 g0 g1 g2 fz
              obtain ⟨wb, hwb⟩ : ∃ wb, wb = ((wa.setCell ⟨g, q * 3, none⟩ (.bool true)).setCell ⟨g, q * 3 + 1, none⟩ (.int .i64 x.rule)).setCell ⟨g, q * 3 + 2, none⟩ (.slice Ax x.sub.length cx) := ⟨_, rfl⟩
              have hob : OwnF (fun b => b ∉ M) c.w1.heap.size wb 36 cdChg (.slice (some ⟨g, 0, none⟩) l.length ci) ((ys.map fun x => (true, x)).set q (true, x)) := by rw [hwb]; exact OP.out
              have htb : Turns [g] wa wb := by rw [hwb]; exact setL_turns g [.bool true, .int .i64 x.rule, .slice Ax x.sub.length cx] wa (q * 3)
              rw [← hwb]
              clear hwb OP
              have BXB := Lib.hid ((htb.block _ (lt_of_heap BXA.out) (fun hm => HGN.out (List.mem_singleton.1 hm))).trans BXA.out)
              have q0 : wb.cell? ⟨wc.heap.size, 0, none⟩ = some (.bool true) := cell_of_row _ _ 0 _ _ _ BXB.out
              have q1 : wb.cell? ⟨wc.heap.size, 1, none⟩ = some (.int .i64 y.rule) := cell_of_row _ _ 1 _ _ _ BXB.out
              have q2 : wb.cell? ⟨wc.heap.size, 2, none⟩ = some (.slice Ay y.sub.length cy) := cell_of_row _ _ 2 _ _ _ BXB.out
              obtain ⟨g', hg', fz⟩ := hob.head (by rw [List.length_set, List.length_map]; omega)
              simp only [Option.some.injEq, Addr.mk.injEq, and_true] at hg'
              subst hg'
              obtain ⟨z, hz⟩ : ∃ z, ((ys.map fun x => (true, x)).set q (true, x))[j]? = some z := ⟨_, List.getElem?_eq_getElem (by rw [List.length_set, List.length_map]; omega)⟩
              obtain ⟨b1, o1, he1, -, -, cs1, ⟨sz, rfl, okz, hsz⟩, hc⟩ := RSl.at (show RSl (fun _ => True) wb 3 (cdChg.E (fun b => b ∉ M) wb) (.slice (some ⟨g, 0, none⟩) l.length ci) ((ys.map fun x => (true, x)).set q (true, x)) from by have := hob.rsl (G := fun _ => True) (fun _ _ => trivial); exact this) hz
              simp only [Option.some.injEq, Addr.mk.injEq] at he1
              obtain ⟨rfl, rfl, -⟩ := he1
              have d0 := hc 0 _ rfl
              have d1 := hc 1 _ rfl
              have d2 := hc 2 _ rfl
              simp only [Nat.zero_add, Nat.add_zero] at d0 d1 d2
              have OQ := Lib.hid (OwnF.put hob HGM.out (i := j) (by rw [List.length_set, List.length_map]; omega) (y := (true, y)) (cdChg.kp _ _ _ _ _ _ HYE.out (Kp.of_turns htb (fun b hb hn => by rw [List.mem_singleton.1 hb] at hn; exact HGM.out hn)) (fun _ _ h => h)))
              have HTB := Lib.hid (htb.trans (setL_turns g [.bool true, .int .i64 y.rule, .slice Ay y.sub.length cy] wb (j * 3)) (fun x hx => .inl hx))
              have HSP := Lib.hid ((swap_perm hy hx).trans HPY.out)
              clear hob htb hc hsz okz hz BXA HYE hy hx hyE hxE
              go_wp2_with fail
              clear d0 d1 d2 q0 q1 q2 fz
              refine ⟨⟨q + 1, (ys.set q x).set j y, by go_num, by omega, ?_, HSP.out⟩, by simp [intOf]; omega⟩
              refine OA.out.turnI HC.out rfl HTB.out ?_
              rw [List.map_set, List.map_set]
              exact OQ.out
            | false =>
              have hl21 := all21_len HAL.out HND.out
              have HAY := Lib.hid (fun a (ha : a ∈ ys) => mem_made (HAL.out a (HPY.out.mem_iff.1 ha)))
              have HAM := Lib.hid (fun a (ha : a ∈ l) => mem_made (HAL.out a ha))
              have hN1 : acts.length + ys.length < maxLen := by have := HLY.out; unfold maxLen; omega
              have AP := Lib.hid (orl_in HOY.out HC.out HAY.out (HPY.out.nodup_iff.2 HND.out) hN1 (TBb.out wc HBY.out))
              have hN2 : acts.length + ys.length + l.length < maxLen := by have := HLY.out; unfold maxLen; omega
              have HN2 := Lib.hid hN2
              rw [HLY.out] at AP
              have hll : ((l.length : Int) != (l.length : Int)) = false := by simp
              have hle : ((l.length : Int) == (l.length : Int)) = true := by simp
              have HL21 := Lib.hid (show l.length ≤ 40000000 by omega)
              have HY21 := Lib.hid (show ys.length ≤ 40000000 by have := HLY.out; omega)
              clear hd hN1 hN2 hl21
              go_wp2_with fail
              refine AP.out.mono ?_
              rintro e x0 ⟨rfl, hO0⟩
              have O0 := Lib.hid hO0
              obtain ⟨S, hS⟩ : ∃ S, strA ⟨c.lv, fourL, l, []⟩ = S := ⟨_, rfl⟩
              obtain ⟨El, hE⟩ : ∃ El, eligA ⟨c.lv, fourL, l, []⟩ = El := ⟨_, rfl⟩
              obtain ⟨Cl, hCl⟩ : ∃ Cl, sortA fourL l = Cl := ⟨_, rfl⟩
              have hok := hO0.a.ok
              have HS2 := Lib.hid (show strA ⟨c.lv, fourL, ys, []⟩ = S by rw [← hS]; exact ((or_alike HPY.out).str hok).symm)
              have HE2 := Lib.hid (show eligA ⟨c.lv, fourL, ys, []⟩ = El by rw [← hE]; exact ((or_alike HPY.out).elig hok).symm)
              have HC2 := Lib.hid (show sortA fourL ys = Cl by rw [← hCl]; exact sortA_congr HPY.out)
              have HCL := Lib.hid (show Cl.length = l.length by rw [← hCl]; exact (sortA_perm fourL l).length_eq)
              have HNE2 := Lib.hid (show El = [] ↔ l = [] by rw [← hE]; exact or_ne hok)
              have HS1 := Lib.hid hS
              have HE1 := Lib.hid hE
              have HC1 := Lib.hid hCl
              have hss : (S != S) = false := by simp
              clear hO0 AP hok hS hE hCl
              go_wp2_with fail
              refine (stratumW x0 O0.out.a).mono ?_
              rintro e x1 ⟨rfl, hb1⟩
              have O1 := Lib.hid (O0.out.below hb1)
              rw [HS1.out]
              clear hb1
              go_wp2_with fail
              refine (stratumW x1 O1.out.b).mono ?_
              rintro e x2 ⟨rfl, hb2⟩
              have O2 := Lib.hid (O1.out.below hb2)
              rw [HS2.out]
              clear hb2
              go_wp2_with fail
              refine (eligibleW x2 O2.out.a HL21.out).mono ?_
              intro e x3 hr3
              rw [HE1.out] at hr3
              obtain ⟨A3e, c3e, rfl, hb3, hv3⟩ := hr3.len
              have O3 := Lib.hid (O2.out.below hb3)
              have V3 := Lib.hid hv3
              clear hr3 hb3 hv3
              go_wp2_with fail
              refine (eligibleW x3 O3.out.b HY21.out).mono ?_
              intro e x4 hr4
              rw [HE2.out] at hr4
              obtain ⟨A4e, c4e, rfl, hb4, hv4⟩ := hr4.len
              have O4 := Lib.hid (O3.out.below hb4)
              have V34 := Lib.hid (EAc.all V3.out (Kp.of_below hb4) (F' := fun _ => True) (fun _ _ _ => trivial))
              have V4 := Lib.hid hv4
              clear hr4 hb4 hv4
              go_wp2_with fail
              refine (actsW _ _ El x4 V34.out V4.out).mono ?_
              rintro e x5 ⟨rfl, hb5⟩
              have O5 := Lib.hid (O4.out.below hb5)
              clear hb5 V3 V34 V4
              go_wp2_with fail
              refine (conflictW x5 O5.out.a HL21.out).mono ?_
              intro e x6 hr6
              rw [show sortA (Agd.mk c.lv fourL l []).cs (Agd.mk c.lv fourL l []).C = Cl from HC1.out] at hr6
              obtain ⟨A6e, c6e, rfl, hb6, hv6⟩ := hr6.len
              have O6 := Lib.hid (O5.out.below hb6)
              have V6 := Lib.hid hv6
              clear hr6 hb6 hv6
              go_wp2_with fail
              refine (conflictW x6 O6.out.b HY21.out).mono ?_
              intro e x7 hr7
              rw [show sortA (Agd.mk c.lv fourL ys []).cs (Agd.mk c.lv fourL ys []).C = Cl from HC2.out] at hr7
              obtain ⟨A7e, c7e, rfl, hb7, hv7⟩ := hr7.len
              have O7 := Lib.hid (O6.out.below hb7)
              have V67 := Lib.hid (EAc.all V6.out (Kp.of_below hb7) (F' := fun _ => True) (fun _ _ _ => trivial))
              have V7 := Lib.hid hv7
              clear hr7 hb7 hv7
              go_wp2_with fail
              refine (actsW _ _ Cl x7 V67.out V7.out).mono ?_
              rintro e x8 ⟨rfl, hb8⟩
              have O8 := Lib.hid (O7.out.below hb8)
              clear hb8 V6 V67 V7
              go_upto_region 28 with fail
              go_cut [162] from 147 to 163 (fun t wx => t = .bool false ∧ Orl c (acts.length + l.length) M (.slice Ai l.length ci) (.slice Ao l.length co) l ys ys l wx)
              case first =>
                go_wp2_with fail
                refine (conflictW x8 O8.out.a HL21.out).mono ?_
                intro e x9 hr9
                rw [show sortA (Agd.mk c.lv fourL l []).cs (Agd.mk c.lv fourL l []).C = Cl from HC1.out] at hr9
                obtain ⟨A9e, c9e, rfl, hb9, -⟩ := hr9.len
                have O9 := Lib.hid (O8.out.below hb9)
                have f0 : ((Cl.length : Int) != (l.length : Int)) = false := by rw [HCL.out]; simp
                clear hr9 hb9
                go_wp2_with fail
                refine (eligibleW x9 O9.out.a HL21.out).mono ?_
                intro e x10 hr10
                rw [HE1.out] at hr10
                obtain ⟨A10e, c10e, rfl, hb10, -⟩ := hr10.len
                have O10 := Lib.hid (O9.out.below hb10)
                clear hr10 hb10
                have hdd : decide (0 < l.length) = decide (0 < El.length) := decide_eq_decide.2 (by rw [List.length_pos_iff, List.length_pos_iff]; exact not_congr HNE2.out.symm)
                have HDD := Lib.hid hdd
                clear hdd
                go_wp2_with fail
                go_meet
                exact ⟨by rw [HDD.out]; simp, O10.out⟩
              case rest =>
                obtain ⟨rfl, hO9⟩ := hcut
                have O9 := Lib.hid hO9
                clear hO9
                have AP := Lib.hid (orl_out O9.out HC.out HAM.out HND.out (fun a => HPY.out.mem_iff) (by have := HN2.out; have := HLY.out; omega) (TBb.out _ (BO.out _ O9.out.turns)))
                go_wp2_with fail
                refine AP.out.mono ?_
                rintro e y0 ⟨rfl, hP0⟩
                have P0 := Lib.hid hP0
                clear hP0 AP
                go_wp2_with fail
                refine (stratumW y0 P0.out.b).mono ?_
                rintro e y1 ⟨rfl, hb1⟩
                have P1 := Lib.hid (P0.out.below hb1)
                rw [or_none]
                clear hb1
                go_wp2_with fail
                refine (conflictW y1 P1.out.b (by simp)).mono ?_
                intro e y2 hr2
                rw [show sortA (Agd.mk c.lv fourL [] []).cs (Agd.mk c.lv fourL [] []).C = [] from or_sort _] at hr2
                obtain ⟨Aye, cye, rfl, hb2, -⟩ := hr2.len
                have P2 := Lib.hid (P1.out.below hb2)
                clear hr2 hb2
                go_wp2_with fail
                go_ret
                exact ⟨rfl, BO.out _ P2.out.turns⟩
end Go.Proofs.YtjgigcnjgblekaaDoor
