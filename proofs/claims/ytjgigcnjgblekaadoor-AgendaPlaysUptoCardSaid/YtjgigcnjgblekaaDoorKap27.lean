/- The reference's open, Stratum, Eligible, Conflict, Fired, Pick. The walks. Fire: an act fires. The walk. The reference's Pick; its turns: one, Apply, Fire. The walks. -/
import Derived.Test.YtjgigcnjgblekaaDoorKap21
import Derived.Test.YtjgigcnjgblekaaDoorKap26
import Derived.Deep.Cut
namespace Go.Proofs.YtjgigcnjgblekaaDoor
open Go Go.RowKit Go.Maps Classical

/-- What `open` leaves. -/
def OpnRes (l : List Ac) (w : World) (e : Ending) (w' : World) : Prop := ∃ A c, e = .returned (.slice A l.length c) ∧ RSl (fun _ => True) w' 2 (EAc (fun _ => True) w') (.slice A l.length c) l ∧ Below w.heap.size w w'
theorem own_rsl {F : Nat → Prop} {B : Nat} {w : World} {v : Value} {l : List Ac} (h : OwnF F B w 30 cdAc v l) : RSl (fun _ => True) w 2 (EAc (fun _ => True) w) v l :=
  (h.rsl (G := fun _ => True) (fun _ _ => trivial)).kp (Kp.refl _ _) (fun _ _ h => h) (fun _ _ hc => EAc.kp hc (Kp.refl _ _) (fun _ _ _ => trivial))
theorem open_len (g : Agd) : (openA g).length ≤ g.C.length := List.length_filter_le _ _
theorem take_filter {p : Ac → Bool} {l : List Ac} {k : Nat} {x : Ac} (hx : l[k]? = some x) : (l.take (k + 1)).filter p = (l.take k).filter p ++ (if p x = true then [x] else []) := by
  rw [List.take_add_one, hx]
  exact filter_snoc p (l.take k) x
theorem tf_len {p : Ac → Bool} {l : List Ac} {k : Nat} : ((l.take k).filter p).length ≤ l.length := by
  have h1 := List.length_filter_le p (l.take k)
  rw [List.length_take] at h1
  omega
set_option maxRecDepth 100000 in
set_option maxHeartbeats 8000000 in
theorem ropenW {M X : List Nat} {B rb : Nat} {G : Agd} (w : World) (h : RfAt M X B w rb G) (hn : G.C.length ≤ 40000000) :
    Calls Tryd.prog 63 #[.pointer (some ⟨rb, 0, none⟩)] w (OpnRes (openA G) w) := by
  obtain ⟨B1, k1, B2, k2, B3, k3, B4, k4, y0, y1, y2, y3, L1, L2, L3, L4⟩ := h.cells
  have hlt := h.lt
  have BX := Lib.hid (fun (W : World) (hW : Below w.heap.size w W) => (show W.cell? ⟨rb, 2, none⟩ = some (.slice B3 G.C.length k3) ∧ W.cell? ⟨rb, 3, none⟩ = some (.slice B4 G.D.length k4) from
    ⟨(hW.cell (p := ⟨rb, 2, none⟩) hlt).trans y2, (hW.cell (p := ⟨rb, 3, none⟩) hlt).trans y3⟩))
  have HC := Lib.hid (EAc.all L3 (Kp.refl _ _) (F' := fun b => b < w.heap.size) (fun _ hb _ => hb))
  have HD := Lib.hid L4
  have HN := Lib.hid hn
  have E0 := Lib.hid (Below.refl w.heap.size w)
  have hm := L3.len
  unfold maxLen at hm
  clear h y0 y1 y2 y3 L1 L2 L3 L4 hlt
  obtain ⟨p, hp⟩ : ∃ p : Ac → Bool, (fun a => decide (a ∉ G.D)) = p := ⟨_, rfl⟩
  have HP := Lib.hid (fun a => congrFun hp a)
  have HO := Lib.hid (show openA G = G.C.filter p by unfold openA; rw [hp])
  clear hp
  go_enter Tryd.func63, Tryd.ntmps63
  go_upto_region 3 with fail
  go_loopw [3, 4] (fun ov i wr => ∃ (k : Nat) (vo : Value), i = .int .i64 (k : Int) ∧ ov = vo ∧ k ≤ G.C.length ∧ OwnF (fun b => b < w.heap.size) w.heap.size wr 30 cdAc vo ((G.C.take k).filter p) ∧ Below w.heap.size w wr) (fun _ i _ => G.C.length - (intOf i).toNat)
  case atStart => exact ⟨0, _, rfl, rfl, Nat.zero_le _, by rw [List.take_zero]; exact OwnF.nil, E0.out⟩
  case round =>
    obtain ⟨k, vo, rfl, rfl, hk, ho, hb⟩ := hrel
    have HBW := Lib.hid hb
    have HOW := Lib.hid ho
    obtain ⟨A5, c5, hvo⟩ := ho.form
    subst hvo
    obtain ⟨x2, x3⟩ := BX.out wr hb
    clear ho
    by_cases hkn : k < G.C.length
    · obtain ⟨y, hy⟩ : ∃ y, G.C[k]? = some y := ⟨_, List.getElem?_eq_getElem hkn⟩
      obtain ⟨b, off, rfl, _, hbs, cs, ⟨sv', rfl, hok, hsv⟩, hc⟩ := (EAc.all HC.out (Kp.of_below hb) (fun _ _ h => h)).at hy
      obtain ⟨A3, c3, rfl⟩ := hsv.form
      have d0 := hc 0 _ rfl
      have d1 := hc 1 _ rfl
      simp only [Nat.add_zero] at d0
      have HTF := Lib.hid (take_filter (p := p) hy)
      have NE : Nonempty (Pt (Below wr.heap.size wr)) := ⟨⟨wr, Below.refl _ _⟩⟩
      have u0 := fun p : Pt (Below wr.heap.size wr) => (p.property.cell (p := ⟨b, off + k * 2, none⟩) hbs).trans d0
      have u1 := fun p : Pt (Below wr.heap.size wr) => (p.property.cell (p := ⟨b, off + k * 2 + 1, none⟩) hbs).trans d1
      have u2 := fun p : Pt (Below wr.heap.size wr) => (BX.out p.val (hb.trans (p.property.mono hb.size))).1
      have u3 := fun p : Pt (Below wr.heap.size wr) => (BX.out p.val (hb.trans (p.property.mono hb.size))).2
      have CC := Lib.hid (fun p : Pt (Below wr.heap.size wr) => atW (.slice B4 G.D.length k4) G.D y (.slice A3 y.sub.length c3) p.val (EAc.all HD.out (Kp.of_below (HBW.out.trans (p.property.mono HBW.out.size))) (fun _ _ h => h)) (hsv.keep (Kp.of_below p.property)))
      have V0 := Lib.hid (fun (W : World) (hW : Below wr.heap.size wr W) => (show W.cell? ⟨b, off + k * 2, none⟩ = some (.int .i64 y.rule) ∧ W.cell? ⟨b, off + k * 2 + 1, none⟩ = some (.slice A3 y.sub.length c3) from ⟨(hW.cell (p := ⟨b, off + k * 2, none⟩) hbs).trans d0, (hW.cell (p := ⟨b, off + k * 2 + 1, none⟩) hbs).trans d1⟩))
      have HEL := Lib.hid (fun (W : World) (hW : Below wr.heap.size wr W) => (show cdAc.E (fun b => b < w.heap.size) W [.int .i64 y.rule, .slice A3 y.sub.length c3] y from ⟨_, rfl, hok, hsv.keep (Kp.of_below hW)⟩))
      have i1 : (0 : Int) ≤ (k : Int) := by omega
      have i2 : (k : Int) < (G.C.length : Int) := by omega
      obtain ⟨r, hr⟩ : ∃ r, atF G.D y = r := ⟨_, rfl⟩
      rw [hr] at CC
      have HR := Lib.hid (show r < 0 ↔ p y = true by
        rw [← hr, ← HP.out]
        by_cases hm : y ∈ G.D
        · obtain ⟨j, _, _, hj⟩ := atF_mem hm
          rw [hj]
          simp [hm]
        · rw [atF_none hm]
          simp [hm])
      clear hb hy hok hsv hc d0 d1 hr
      go_wp2_with fail
      clear x2 x3
      refine wp_region_class (S := Below wr.heap.size wr) (Below.refl _ _).drew (by kernel_rfl) (by kernel_rfl) ?_
      repeat (go_big_quiet_step (first | (go_at_call 60; refine (CC.out _).mono ?_; rintro e w' ⟨rfl, hbel⟩; exact ⟨rfl, ⟨w', below_stepA (Pt.property _) hbel⟩, rfl⟩)))
      refine wpQuiet_nil ?_
      rintro W2 ⟨⟨W2, hW⟩, rfl⟩
      have HQ := Lib.hid (show Below wr.heap.size wr W2 from hW)
      have HW := Lib.hid (HBW.out.trans (Below.mono hW HBW.out.size))
      have OW2 := Lib.hid (HOW.out.below HQ.out)
      clear u0 u1 u2 u3 CC hW
      by_cases hr0 : r < 0
      · have HT2 := Lib.hid (show (G.C.take (k + 1)).filter p = (G.C.take k).filter p ++ [y] by rw [HTF.out, if_pos (HR.out.1 hr0)])
        have HLL := Lib.hid (show ((G.C.take k).filter p).length ≤ 40000000 from Nat.le_trans tf_len HN.out)
        obtain ⟨d0, d1⟩ := V0.out W2 HQ.out
        obtain ⟨x2, x3⟩ := BX.out W2 HW.out
        go_wp2_with (at_builtin; refine wpList_append_F OW2.out (fun b hb hf => by have := (OW2.out.block hb).1; omega) rfl (.tmp 27) (.tmp 35) 23 rfl Tryd.underlying23 infoAct rfl (by decide) rfl #[.int .i64 y.rule, .slice A3 y.sub.length c3] _ rfl rfl (HEL.out W2 HQ.out) HLL.out (by decide) HW.out.size ?_; intro g cap w3 ho3 ht3 _ _; have HO3 := Lib.hid (ho3 _ (fun _ _ h => h)); have HB3 := Lib.hid (HW.out.trans (ht3.below HW.out.size (fun b hb => (OW2.out.block (by simpa using hb)).1))); clear ho3 ht3)
        exact ⟨⟨k + 1, _, by go_num, rfl, by omega, by rw [HT2.out]; exact HO3.out, HB3.out⟩, by simp [intOf]; omega⟩
      · have HT2 := Lib.hid (show (G.C.take (k + 1)).filter p = (G.C.take k).filter p by rw [HTF.out, if_neg (fun h => hr0 (HR.out.2 h)), List.append_nil])
        go_wp2
        exact ⟨⟨k + 1, _, by go_num, rfl, by omega, by rw [HT2.out]; exact OW2.out, HW.out⟩, by simp [intOf]; omega⟩
    · obtain rfl : k = G.C.length := by omega
      have HF := Lib.hid (show (G.C.take G.C.length).filter p = openA G by rw [List.take_length, HO.out])
      clear hb
      go_wp2
      go_ret
      have h1 := own_rsl HOW.out
      unfold OpnRes
      rw [← HF.out]
      exact ⟨_, _, rfl, h1, HBW.out⟩
theorem low_snoc {lv : List Int} {l : List Ac} {k : Nat} {x : Ac} (hx : l[k]? = some x) : (l.take (k + 1)).foldl (lowS lv) (-1) = lowS lv ((l.take k).foldl (lowS lv) (-1)) x := by
  rw [List.take_add_one, hx, List.foldl_append]
  rfl
theorem open_own {g : Agd} (h : AgOk g) {a : Ac} (ha : a ∈ openA g) : ownA g a := h.ownC a (List.mem_filter.1 ha).1
set_option maxRecDepth 100000 in
set_option maxHeartbeats 8000000 in
theorem rstratumW {M X : List Nat} {B rb : Nat} {G : Agd} (w : World) (h : RfAt M X B w rb G) (hn : G.C.length ≤ 40000000) :
    Calls Tryd.prog 44 #[.pointer (some ⟨rb, 0, none⟩)] w fun e w' => e = .returned (.int .i64 (strA G)) ∧ Below w.heap.size w w' := by
  obtain ⟨B1, k1, B2, k2, B3, k3, B4, k4, y0, y1, y2, y3, L1, L2, L3, L4⟩ := h.cells
  have hlt := h.lt
  have BX := Lib.hid (fun (W : World) (hW : Below w.heap.size w W) => ((hW.cell (p := ⟨rb, 0, none⟩) hlt).trans y0 : W.cell? ⟨rb, 0, none⟩ = some (.slice B1 G.lv.length k1)))
  have HL := Lib.hid L1
  have OW := Lib.hid (ropenW w h hn)
  have OKK := Lib.hid (fun a (ha : a ∈ openA G) => open_own h.ok ha)
  have E0 := Lib.hid (Below.refl w.heap.size w)
  have hm := L1.len
  have hm2 : (openA G).length ≤ 40000000 := Nat.le_trans (open_len G) hn
  unfold maxLen at hm
  clear h y0 y1 y2 y3 L1 L2 L3 L4 hlt
  have HSTR := Lib.hid (show strA G = (openA G).foldl (lowS G.lv) (-1) from rfl)
  obtain ⟨lo, hlo⟩ : ∃ lo, openA G = lo := ⟨_, rfl⟩
  rw [hlo] at OW OKK HSTR hm2
  clear hlo
  go_enter Tryd.func44, Tryd.ntmps44
  go_wp2_with fail
  refine OW.out.mono ?_
  rintro e w1 ⟨A, c, rfl, hr1, hb1⟩
  have HR1 := Lib.hid hr1
  have HB1 := Lib.hid hb1
  clear hr1 hb1 OW
  go_upto_region 4 with fail
  go_loopw [3, 5] (fun sv i wr => ∃ (k : Nat), i = .int .i64 (k : Int) ∧ sv = .int .i64 ((lo.take k).foldl (lowS G.lv) (-1)) ∧ k ≤ lo.length ∧ Below w1.heap.size w1 wr) (fun _ i _ => lo.length - (intOf i).toNat)
  case atStart => exact ⟨0, rfl, rfl, Nat.zero_le _, Below.refl _ _⟩
  case round =>
    obtain ⟨k, rfl, rfl, hk, hb⟩ := hrel
    have HBW := Lib.hid (HB1.out.trans (hb.mono HB1.out.size))
    have HQ := Lib.hid hb
    have x0 := BX.out wr HBW.out
    clear hb
    by_cases hkn : k < lo.length
    · obtain ⟨y, hy⟩ : ∃ y, lo[k]? = some y := ⟨_, List.getElem?_eq_getElem hkn⟩
      obtain ⟨b, off, rfl, _, _, cs, ⟨sv', rfl, hok, hsv⟩, hc⟩ := (EAc.all HR1.out (Kp.of_below HQ.out) (fun _ _ h => h)).at hy
      have d0 := hc 0 _ rfl
      simp only [Nat.add_zero] at d0
      have hown := OKK.out y (List.mem_of_getElem? hy)
      obtain ⟨i1, i2⟩ := hown.1
      obtain ⟨lb, lof, hAe, _, _, ds, ⟨rfl, lok⟩, hd⟩ := (HL.out.keep (Kp.of_below HBW.out)).at (lvl_at hown)
      subst hAe
      have d1 := hd 0 _ rfl
      simp only [Nat.add_zero, Nat.mul_one] at d1
      obtain ⟨s, hs⟩ : ∃ s, (lo.take k).foldl (lowS G.lv) (-1) = s := ⟨_, rfl⟩
      obtain ⟨v, hv⟩ : ∃ v, lvl G.lv y = v := ⟨_, rfl⟩
      have HLS := Lib.hid (show (lo.take (k + 1)).foldl (lowS G.lv) (-1) = if s < 0 ∨ v < s then v else s by rw [low_snoc hy, hs, ← hv]; rfl)
      rw [hs]
      rw [hv] at d1
      have e1 : (0 : Int) ≤ (k : Int) := by omega
      have e2 : (k : Int) < (lo.length : Int) := by omega
      have DN := Lib.hid (fun q => below_drewNA HQ.out q)
      clear hy hok hsv hc hd lok hs hv hown
      go_wp2_with fail
      go_quiet (fail)
      by_cases h1 : s < 0
      · have HX := Lib.hid (HLS.out.trans (if_pos (.inl h1)))
        go_wp2
        exact ⟨⟨k + 1, by go_num, by rw [HX.out], by omega, DN.out _⟩, by simp [intOf]; omega⟩
      · by_cases h2 : v < s
        · have HX := Lib.hid (HLS.out.trans (if_pos (.inr h2)))
          go_wp2
          exact ⟨⟨k + 1, by go_num, by rw [HX.out], by omega, DN.out _⟩, by simp [intOf]; omega⟩
        · have HX := Lib.hid (HLS.out.trans (if_neg (fun h => by rcases h with h | h; exact h1 h; exact h2 h)))
          go_wp2
          exact ⟨⟨k + 1, by go_num, by rw [HX.out], by omega, DN.out _⟩, by simp [intOf]; omega⟩
    · obtain rfl : k = lo.length := by omega
      rw [List.take_length]
      go_wp2
      go_ret
      exact ⟨ret_i64A HSTR.out.symm, HBW.out⟩
set_option maxRecDepth 100000 in
set_option maxHeartbeats 8000000 in
theorem religibleW {M X : List Nat} {B rb : Nat} {G : Agd} (w : World) (h : RfAt M X B w rb G) (hn : G.C.length ≤ 40000000) :
    Calls Tryd.prog 45 #[.pointer (some ⟨rb, 0, none⟩)] w (LstRes (eligA G) w) := by
  obtain ⟨B1, k1, B2, k2, B3, k3, B4, k4, y0, y1, y2, y3, L1, L2, L3, L4⟩ := h.cells
  have hlt := h.lt
  have BX := Lib.hid (fun (W : World) (hW : Below w.heap.size w W) => ((hW.cell (p := ⟨rb, 0, none⟩) hlt).trans y0 : W.cell? ⟨rb, 0, none⟩ = some (.slice B1 G.lv.length k1)))
  have HL := Lib.hid L1
  have HAT := Lib.hid h
  have HN := Lib.hid hn
  have SW := Lib.hid (rstratumW w h hn)
  have OKK := Lib.hid (fun a (ha : a ∈ openA G) => (show ownA G a ∧ AcOk a from ⟨open_own h.ok ha, h.acC a (List.mem_filter.1 ha).1⟩))
  have hm := L1.len
  have hm2 : (openA G).length ≤ 40000000 := Nat.le_trans (open_len G) hn
  unfold maxLen at hm
  clear h y0 y1 y2 y3 L1 L2 L3 L4 hlt
  obtain ⟨s, hs⟩ : ∃ s, strA G = s := ⟨_, rfl⟩
  obtain ⟨p, hp⟩ : ∃ p : Ac → Bool, (fun a => decide (lvl G.lv a = s)) = p := ⟨_, rfl⟩
  have HP := Lib.hid (fun a => congrFun hp a)
  have HEL := Lib.hid (show sortA G.cs ((openA G).filter p) = eligA G by unfold eligA; rw [hs, hp])
  obtain ⟨lo, hlo⟩ : ∃ lo, openA G = lo := ⟨_, rfl⟩
  have OPW := Lib.hid (fun (W : World) (hW : Below w.heap.size w W) => (hlo ▸ ropenW W (HAT.out.below hW) hn : Calls Tryd.prog 63 #[.pointer (some ⟨rb, 0, none⟩)] W (OpnRes lo W)))
  rw [hlo] at OKK HEL hm2
  rw [hs] at SW
  clear hlo hs hp hn
  go_enter Tryd.func45, Tryd.ntmps45
  go_wp2_with fail
  refine SW.out.mono ?_
  rintro e w1 ⟨rfl, hb1⟩
  have HB1 := Lib.hid hb1
  clear hb1 SW
  go_wp2_with fail
  refine (OPW.out w1 HB1.out).mono ?_
  rintro e w2 ⟨A, c, rfl, hr2, hb2⟩
  have HR2 := Lib.hid (EAc.all hr2 (Kp.refl _ _) (F' := fun b => b < w2.heap.size) (fun _ hb _ => hb))
  have HB2 := Lib.hid (HB1.out.trans (hb2.mono HB1.out.size))
  clear hr2 hb2 OPW
  go_upto_region 5 with fail
  go_loopw [4, 6] (fun ov i wr => ∃ (k : Nat) (vo : Value), i = .int .i64 (k : Int) ∧ ov = vo ∧ k ≤ lo.length ∧ OwnF (fun b => b < w2.heap.size) w2.heap.size wr 30 cdAc vo ((lo.take k).filter p) ∧ Below w2.heap.size w2 wr) (fun _ i _ => lo.length - (intOf i).toNat)
  case atStart => exact ⟨0, _, rfl, rfl, Nat.zero_le _, by rw [List.take_zero]; exact OwnF.nil, Below.refl _ _⟩
  case round =>
    obtain ⟨k, vo, rfl, rfl, hk, ho, hb⟩ := hrel
    have HQ := Lib.hid hb
    have HBW := Lib.hid (HB2.out.trans (hb.mono HB2.out.size))
    have HOW := Lib.hid ho
    obtain ⟨A5, c5, hvo⟩ := ho.form
    subst hvo
    have x0 := BX.out wr HBW.out
    clear ho hb
    by_cases hkn : k < lo.length
    · obtain ⟨y, hy⟩ : ∃ y, lo[k]? = some y := ⟨_, List.getElem?_eq_getElem hkn⟩
      obtain ⟨b, off, rfl, _, hbs, cs, ⟨sv', rfl, hok, hsv⟩, hc⟩ := (EAc.all HR2.out (Kp.of_below HQ.out) (fun _ _ h => h)).at hy
      obtain ⟨A3, c3, rfl⟩ := hsv.form
      have d0 := hc 0 _ rfl
      have d2 := hc 1 _ rfl
      simp only [Nat.add_zero] at d0
      have HTF := Lib.hid (take_filter (p := p) hy)
      have hown := (OKK.out y (List.mem_of_getElem? hy)).1
      obtain ⟨i1, i2⟩ := hown.1
      obtain ⟨lb, lof, hAe, _, _, ds, ⟨rfl, lok⟩, hd⟩ := (HL.out.keep (Kp.of_below HBW.out)).at (lvl_at hown)
      subst hAe
      have d1 := hd 0 _ rfl
      simp only [Nat.add_zero, Nat.mul_one] at d1
      obtain ⟨v, hv⟩ : ∃ v, lvl G.lv y = v := ⟨_, rfl⟩
      rw [hv] at d1
      have HPY := Lib.hid (show p y = decide (v = s) by rw [← HP.out, hv])
      have V0 := Lib.hid (fun (W : World) (hW : Below wr.heap.size wr W) => (show W.cell? ⟨b, off + k * 2, none⟩ = some (.int .i64 y.rule) ∧ W.cell? ⟨b, off + k * 2 + 1, none⟩ = some (.slice A3 y.sub.length c3) from ⟨(hW.cell (p := ⟨b, off + k * 2, none⟩) hbs).trans d0, (hW.cell (p := ⟨b, off + k * 2 + 1, none⟩) hbs).trans d2⟩))
      have HE := Lib.hid (fun (W : World) (hW : Below wr.heap.size wr W) => (show cdAc.E (fun b => b < w2.heap.size) W [.int .i64 y.rule, .slice A3 y.sub.length c3] y from ⟨_, rfl, hok, hsv.keep (Kp.of_below hW)⟩))
      have e1 : (0 : Int) ≤ (k : Int) := by omega
      have e2 : (k : Int) < (lo.length : Int) := by omega
      clear hy hok hsv hc hd lok hv hown
      by_cases hvs : v = s
      · subst hvs
        have f1 : (v == v) = true := by simp
        have HT2 := Lib.hid (show (lo.take (k + 1)).filter p = (lo.take k).filter p ++ [y] by rw [HTF.out, if_pos (by rw [HPY.out]; simp)])
        have HLL := Lib.hid (show ((lo.take k).filter p).length ≤ 40000000 from Nat.le_trans tf_len hm2)
        go_wp2_with fail
        go_quiet (fail)
        have hq := below_drewNA (Below.refl wr.heap.size wr) nq
        generalize wr.drewN nq = w3 at hq ⊢
        have HQ3 := Lib.hid (HQ.out.trans (hq.mono HQ.out.size))
        have HO3 := Lib.hid (HOW.out.below hq)
        have HE3 := Lib.hid (HE.out w3 hq)
        obtain ⟨z0, z1⟩ := V0.out w3 hq
        clear hq d0 d1 d2 x0
        go_wp2_with (at_builtin; refine wpList_append_F HO3.out (fun b hb hf => by have := (HO3.out.block hb).1; omega) rfl (.tmp 30) (.tmp 35) 23 rfl Tryd.underlying23 infoAct rfl (by decide) rfl #[.int .i64 y.rule, .slice A3 y.sub.length c3] _ rfl rfl HE3.out HLL.out (by decide) HQ3.out.size ?_; intro g cap w4 ho4 ht4 _ _; have HO4 := Lib.hid (ho4 _ (fun _ _ h => h)); have HB4 := Lib.hid (HQ3.out.trans (ht4.below HQ3.out.size (fun b hb => (HO3.out.block (by simpa using hb)).1))); clear ho4 ht4)
        have HV4 := Lib.hid (show OwnF (fun b => b < w2.heap.size) w2.heap.size w4 30 cdAc (.slice (some ⟨g, 0, none⟩) (((lo.take k).filter p).length + 1) cap) ((lo.take (k + 1)).filter p) by rw [HT2.out]; exact HO4.out)
        first
          | exact ⟨⟨k + 1, _, by go_num, rfl, by omega, HV4.out, HB4.out⟩, by simp [intOf]; omega⟩
          | exact ⟨⟨k + 1, by go_num, by omega, HV4.out, HB4.out⟩, by simp [intOf]; omega⟩
      · have f1 : (v == s) = false := beq_false_of_ne hvs
        have HT2 := Lib.hid (show (lo.take (k + 1)).filter p = (lo.take k).filter p by rw [HTF.out, if_neg (by rw [HPY.out]; simpa using hvs), List.append_nil])
        go_wp2_with fail
        go_quiet (fail)
        have hq := below_drewNA (Below.refl wr.heap.size wr) nq
        have HQ3 := Lib.hid (HQ.out.trans (hq.mono HQ.out.size))
        have HO3 := Lib.hid (HOW.out.below hq)
        clear hq
        go_wp2
        exact ⟨⟨k + 1, _, by go_num, rfl, by omega, by rw [HT2.out]; exact HO3.out, HQ3.out⟩, by simp [intOf]; omega⟩
    · obtain rfl : k = lo.length := by omega
      have HA2 := Lib.hid (HAT.out.below HBW.out)
      have hsub : ∀ a ∈ lo.filter p, a ∈ lo := fun a ha => (List.mem_filter.1 ha).1
      have HOW2 := Lib.hid (show OwnF (fun b => b < w2.heap.size) w2.heap.size wr 30 cdAc (.slice A5 (lo.filter p).length c5) (lo.filter p) by have := HOW.out; rw [List.take_length] at this; exact this)
      rw [List.take_length]
      obtain ⟨D1, j1, D2, j2, D3, j3, D4, j4, t0, t1, t2, t3, K1, K2, K3, K4⟩ := HA2.out.cells
      have RS := Lib.hid (rsortedW rb (.slice D2 G.cs.length j2) (.slice A5 (lo.filter p).length c5) G.cs (lo.filter p) wr HA2.out.lt t1 K2 (own_rsl HOW2.out) (fun a ha => ⟨own_ids (OKK.out a (hsub a ha)).1, (OKK.out a (hsub a ha)).2⟩) (Nat.le_trans (List.length_filter_le _ _) hm2) HAT.out.cz)
      clear t0 t1 t2 t3 K1 K2 K3 K4 hsub x0
      go_wp2_with fail
      refine RS.out.mono ?_
      intro e w3 hr
      have hr2 := hr.from HBW.out
      rw [HEL.out] at hr2
      obtain ⟨v, zs, rfl, g1, g2, g3⟩ := hr2
      have HG := Lib.hid (And.intro g1 (And.intro g2 g3))
      clear hr g1 g2 g3 RS
      go_wp2
      go_ret
      exact ⟨v, zs, rfl, HG.out⟩
set_option maxRecDepth 100000 in
theorem rconflictW {M X : List Nat} {B rb : Nat} {G : Agd} (w : World) (h : RfAt M X B w rb G) (hn : G.C.length ≤ 40000000) :
    Calls Tryd.prog 46 #[.pointer (some ⟨rb, 0, none⟩)] w (LstRes (sortA G.cs G.C) w) := by
  obtain ⟨D1, j1, D2, j2, D3, j3, D4, j4, t0, t1, t2, t3, K1, K2, K3, K4⟩ := h.cells
  have RS := Lib.hid (rsortedW rb (.slice D2 G.cs.length j2) (.slice D3 G.C.length j3) G.cs G.C w h.lt t1 K2 K3 (fun a ha => ⟨own_ids (h.ok.ownC a ha), h.acC a ha⟩) hn h.cz)
  clear K1 K2 K3 K4 h
  go_enter Tryd.func46, Tryd.ntmps46
  go_wp2_with fail
  refine RS.out.mono ?_
  rintro e w3 ⟨v, zs, rfl, g1, g2, g3⟩
  have HG := Lib.hid (And.intro g1 (And.intro g2 g3))
  clear g1 g2 g3 RS
  go_wp2
  go_ret
  exact ⟨v, zs, rfl, HG.out⟩
set_option maxRecDepth 100000 in
theorem rfiredW {M X : List Nat} {B rb : Nat} {G : Agd} (w : World) (h : RfAt M X B w rb G) (hn : G.D.length ≤ 40000000) :
    Calls Tryd.prog 47 #[.pointer (some ⟨rb, 0, none⟩)] w (LstRes (sortA G.cs G.D) w) := by
  obtain ⟨D1, j1, D2, j2, D3, j3, D4, j4, t0, t1, t2, t3, K1, K2, K3, K4⟩ := h.cells
  have RS := Lib.hid (rsortedW rb (.slice D2 G.cs.length j2) (.slice D4 G.D.length j4) G.cs G.D w h.lt t1 K2 K4 (fun a ha => ⟨own_ids (h.ok.ownD a ha), h.acD a ha⟩) hn h.cz)
  clear K1 K2 K3 K4 h
  go_enter Tryd.func47, Tryd.ntmps47
  go_wp2_with fail
  refine RS.out.mono ?_
  rintro e w3 ⟨v, zs, rfl, g1, g2, g3⟩
  have HG := Lib.hid (And.intro g1 (And.intro g2 g3))
  clear g1 g2 g3 RS
  go_wp2
  go_ret
  exact ⟨v, zs, rfl, HG.out⟩
end Go.Proofs.YtjgigcnjgblekaaDoor

namespace Go.Proofs.YtjgigcnjgblekaaDoor
open Go Go.RowKit Go.Maps Classical

/-- What Fire leaves. -/
def FirRes (M : List Nat) (p mc mf N : Nat) (R : Int × Agd) (w : World) (e : Ending) (w' : World) : Prop := e = .returned (.int .i64 R.1) ∧ AgAt M w' p mc mf R.2 N ∧ Turns [mf] w w'
theorem fir_arg {g : Agd} {a : Ac} (h : ¬ ownA g a) : fireF g a = (2, g) := by unfold fireF; rw [if_pos h]
theorem fir_twice {g : Agd} {a : Ac} (h : ownA g a) (hd : a ∈ g.D) : fireF g a = (51, g) := by unfold fireF; rw [if_neg (by simpa using h), if_pos hd]
theorem fir_none {g : Agd} {a : Ac} (h : ownA g a) (hd : a ∉ g.D) (hc : a ∉ g.C) : fireF g a = (50, g) := by unfold fireF; rw [if_neg (by simpa using h), if_neg hd, if_pos hc]
theorem fir_state {g : Agd} {a : Ac} (h : ownA g a) (hd : a ∉ g.D) (hc : a ∈ g.C) (hl : strA g < lvl g.lv a) : fireF g a = (53, g) := by unfold fireF; rw [if_neg (by simpa using h), if_neg hd, if_neg (by simpa using hc), if_pos hl]
theorem fir_go {g : Agd} {a : Ac} (h : ownA g a) (hd : a ∉ g.D) (hc : a ∈ g.C) (hl : ¬ strA g < lvl g.lv a) : fireF g a = (0, { g with D := g.D ++ [a] }) := by unfold fireF; rw [if_neg (by simpa using h), if_neg hd, if_neg (by simpa using hc), if_neg hl]
theorem mark_keeps {M : List Nat} {w w' : World} {p mc mf N q : Nat} {g : Agd} {v r s : Value} (T : Turns [mf] w w') (h : AgAt M w p mc mf g N) (hq : q < w.heap.size) (hmq : mf < q)
    (hS : w.cell? ⟨p, 3, none⟩ = some v ∧ w.cell? ⟨q, 0, none⟩ = some r ∧ w.cell? ⟨q, 1, none⟩ = some s) : w'.cell? ⟨p, 3, none⟩ = some v ∧ w'.cell? ⟨q, 0, none⟩ = some r ∧ w'.cell? ⟨q, 1, none⟩ = some s :=
  ⟨(T.cell h.lt (fun hm => h.pM (by rw [List.mem_singleton.1 hm]; exact h.fM))).trans hS.1, (T.cell hq (fun hm => by rw [List.mem_singleton.1 hm] at hmq; omega)).trans hS.2.1, (T.cell hq (fun hm => by rw [List.mem_singleton.1 hm] at hmq; omega)).trans hS.2.2⟩
set_option maxRecDepth 100000 in
set_option maxHeartbeats 8000000 in
theorem fireW {F : Nat → Prop} {M : List Nat} {p mc mf N : Nat} {G : Agd} (a : Ac) (sv : Value) (w : World) (h : AgAt M w p mc mf G N) (hs : RSl F w 1 EInt sv a.sub) (hok : AcOk a) (hM : ∀ x ∈ M, x < w.heap.size) (hN : N < maxLen) (ht : Tab w) :
    Calls Tryd.prog 31 #[.pointer (some ⟨p, 0, none⟩), .agg #[.int .i64 a.rule, sv]] w (FirRes M p mc mf (N + 1) (fireF G a) w) := by
  obtain ⟨A, c, rfl⟩ := hs.form
  obtain ⟨w0, hw0⟩ : ∃ w0, w0 = w.alloc (.cells #[.int .i64 a.rule, .slice A a.sub.length c] 30) := ⟨_, rfl⟩
  have hx0 : Below (w.heap.size + 1) (w.alloc (.cells #[.int .i64 a.rule, .slice A a.sub.length c] 30)) w0 := by rw [hw0]; exact Below.refl _ _
  have hb0 := box_belowD hx0
  have hs0 : w0.heap.size = w.heap.size + 1 := by rw [hw0]; simp
  have x0 := box_cellD hx0 0 rfl
  have x1 := box_cellD hx0 1 rfl
  have BX := Lib.hid (fun (W : World) (hW : Below w0.heap.size w0 W) => (show W.cell? ⟨w.heap.size, 0, none⟩ = some (.int .i64 a.rule) ∧ W.cell? ⟨w.heap.size, 1, none⟩ = some (.slice A a.sub.length c) from
    ⟨(hW.cell (p := ⟨w.heap.size, 0, none⟩) (by show w.heap.size < w0.heap.size; omega)).trans x0, (hW.cell (p := ⟨w.heap.size, 1, none⟩) (by show w.heap.size < w0.heap.size; omega)).trans x1⟩))
  have HS0 := Lib.hid (show w.heap.size < w0.heap.size by omega)
  have OW := Lib.hid (ownW a (.slice A a.sub.length c) w0 (h.below hb0) (hs.keep (Kp.of_below hb0)) hok.rule)
  have KW := Lib.hid (fun (W : World) (hW : Below w0.heap.size w0 W) => keyW a (.slice A a.sub.length c) W ((hs.keep (Kp.of_below hb0)).keep (Kp.of_below hW)) hok ((ht.below hb0).below hW))
  have CW := Lib.hid (fun (W : World) (hW : Below w0.heap.size w0 W) => copiedW a (.slice A a.sub.length c) W ((hs.keep (Kp.of_below hb0)).keep (Kp.of_below hW)) (by have := hok.len; omega))
  have HA := Lib.hid (fun (W : World) (hW : Below w0.heap.size w0 W) => (h.below hb0).below hW)
  have HT := Lib.hid (fun (W : World) (hW : Below w0.heap.size w0 W) => (show Turns [mf] w W from Turns.of_below (hb0.trans (hW.mono hb0.size))))
  have HOK := Lib.hid hok
  have HM := Lib.hid hM
  have E0 := Lib.hid (Below.refl w0.heap.size w0)
  clear h hs hok hM ht hx0 hb0 hs0
  go_enter Tryd.func31, Tryd.ntmps31
  go_upto_region 1 with fail
  rw [← hw0]
  clear hw0
  go_wp2_with fail
  refine OW.out.mono ?_
  rintro e w1 ⟨rfl, hb1⟩
  have B1 := Lib.hid (E0.out.trans hb1)
  clear hb1 OW x0 x1
  obtain ⟨x0, x1⟩ := BX.out w1 B1.out
  by_cases ho : ownA G a
  rotate_left
  · have HR := Lib.hid (fir_arg ho)
    have hd : decide (ownA G a) = false := decide_eq_false ho
    rw [hd]
    clear hd
    go_wp2
    go_ret
    rw [HR.out]
    exact ⟨rfl, (HA.out _ B1.out).mono (Nat.le_succ _), HT.out _ B1.out⟩
  have hd : decide (ownA G a) = true := decide_eq_true ho
  rw [hd]
  clear hd
  have HO := Lib.hid ho
  clear ho
  have C := Lib.hid (KW.out w1 B1.out)
  go_wp2_with fail
  refine C.out.mono ?_
  rintro e w2 ⟨rfl, hb2⟩
  have B2 := Lib.hid (B1.out.trans (hb2.mono B1.out.size))
  clear hb2 C x0 x1
  obtain ⟨x0, x1⟩ := BX.out w2 B2.out
  obtain ⟨u0, uA, u1, u2, hlook⟩ := lookAct (HA.out _ B2.out) HOK.out
  obtain ⟨A3, c3, A4, c4, q0, q1, q2, q3, L3, L4⟩ := (HA.out _ B2.out).cells
  obtain ⟨w3, hw3⟩ : ∃ w3, w3 = w2.alloc (.cells #[.int .i64 u0, .slice uA u1 u2] 30) := ⟨_, rfl⟩
  have B3 := Lib.hid (show Below w0.heap.size w0 w3 by rw [hw3]; exact B2.out.alloc B2.out.size _)
  clear q0 q1 q2 L3 L4
  go_upto_region 7 with fail
  rw [← hw3]
  clear hw3 x0 x1 q3 hlook
  obtain ⟨x0, x1⟩ := BX.out w3 B3.out
  by_cases hin : a ∈ G.D
  · have hd : decide (a ∈ G.D) = true := decide_eq_true hin
    rw [hd]
    clear hd
    have HR := Lib.hid (fir_twice HO.out hin)
    go_wp2
    go_ret
    rw [HR.out]
    exact ⟨rfl, (HA.out _ B3.out).mono (Nat.le_succ _), HT.out _ B3.out⟩
  have hd : decide (a ∈ G.D) = false := decide_eq_false hin
  rw [hd]
  have HD := Lib.hid hin
  clear hd hin
  obtain ⟨v0, vA, v1, v2, hlook⟩ := lookCon (HA.out _ B3.out) HOK.out
  obtain ⟨A3, c3, A4, c4, q0, q1, q2, q3, L3, L4⟩ := (HA.out _ B3.out).cells
  obtain ⟨w4, hw4⟩ : ∃ w4, w4 = w3.alloc (.cells #[.int .i64 v0, .slice vA v1 v2] 30) := ⟨_, rfl⟩
  have B4 := Lib.hid (show Below w0.heap.size w0 w4 by rw [hw4]; exact B3.out.alloc B3.out.size _)
  clear q0 q1 q3 L3 L4
  go_upto_region 10 with fail
  rw [← hw4]
  clear hw4 x0 x1 q2 hlook
  obtain ⟨x0, x1⟩ := BX.out w4 B4.out
  by_cases hin : a ∈ G.C
  rotate_left
  · have hd : decide (a ∈ G.C) = false := decide_eq_false hin
    rw [hd]
    clear hd
    have HR := Lib.hid (fir_none HO.out HD.out hin)
    go_wp2
    go_ret
    rw [HR.out]
    exact ⟨rfl, (HA.out _ B4.out).mono (Nat.le_succ _), HT.out _ B4.out⟩
  have hd : decide (a ∈ G.C) = true := decide_eq_true hin
  rw [hd]
  have HC := Lib.hid hin
  clear hd hin
  obtain ⟨A3, c3, A4, c4, q0, q1, q2, q3, L3, L4⟩ := (HA.out _ B4.out).cells
  obtain ⟨lb, lo, hAe, _, hlb, ds, ⟨rfl, lok⟩, hd⟩ := L3.at (lvl_at HO.out)
  subst hAe
  have d0 := hd 0 _ rfl
  simp only [Nat.add_zero, Nat.mul_one] at d0
  obtain ⟨lv, hlv⟩ : ∃ x, lvl G.lv a = x := ⟨_, rfl⟩
  obtain ⟨s, hs⟩ : ∃ s, strA G = s := ⟨_, rfl⟩
  rw [hlv] at d0
  have i1 := HO.out.1.1
  have i2 := HO.out.1.2
  have hpl := (HA.out _ B4.out).lt
  have D4 : Below w4.heap.size w4 w4.drew := (Below.refl _ _).drew
  have SW := Lib.hid (fun (W : World) (hW : Below w4.heap.size w4 W) => hs ▸ stratumW W ((HA.out _ B4.out).below hW))
  have SCc := Lib.hid (fun (W : World) (hW : Below w4.heap.size w4 W) => (show W.cell? ⟨p, 0, none⟩ = some (.slice (some ⟨lb, lo, none⟩) G.lv.length c3) ∧ W.cell? ⟨w.heap.size, 0, none⟩ = some (.int .i64 a.rule) ∧ W.cell? ⟨lb, lo + a.rule.toNat, none⟩ = some (.int .i64 lv) from
    ⟨(hW.cell (p := ⟨p, 0, none⟩) hpl).trans q0, (hW.cell (p := ⟨w.heap.size, 0, none⟩) (by have := B4.out.size; have := HS0.out; show w.heap.size < w4.heap.size; omega)).trans x0, (hW.cell (p := ⟨lb, lo + a.rule.toNat, none⟩) hlb).trans d0⟩))
  have HLV := Lib.hid hlv
  have HSS := Lib.hid hs
  clear hlv hs hd lok q1 q2 L3 L4 hlb
  go_upto_region 12 with fail
  go_cut [49] from 39 to 50 (fun t wx => t = .bool (decide (s < lv)) ∧ Below w4.heap.size w4 wx)
  case first =>
    clear x0 x1 q0 q3 d0
    go_region_held3 (fun W : World => W.cell? ⟨p, 0, none⟩ = some (.slice (some ⟨lb, lo, none⟩) G.lv.length c3) ∧ W.cell? ⟨w.heap.size, 0, none⟩ = some (.int .i64 a.rule) ∧ W.cell? ⟨lb, lo + a.rule.toNat, none⟩ = some (.int .i64 lv))
      (first | with_reducible exact SCc.out _ D4 | with_reducible exact SCc.out _ G4 | go_keep)
      (first | (go_at_call 12; refine (SW.out _ D4).mono ?_; rintro e w5 ⟨rfl, hb5⟩; have G4 := D4.trans (hb5.mono D4.size); clear hb5))
    all_goals
      go_wp2_with fail
      go_meet
      exact ⟨rfl, by first | exact G4 | exact D4⟩
  case rest =>
    obtain ⟨rfl, hbc⟩ := hcut
    have B5 := Lib.hid (B4.out.trans (hbc.mono B4.out.size))
    clear hbc SCc D4 SW x0 x1 q0 q3 d0
    obtain ⟨x0, x1⟩ := BX.out wc B5.out
    by_cases hl : s < lv
    · have hd : decide (s < lv) = true := decide_eq_true hl
      have HR := Lib.hid (fir_state HO.out HD.out HC.out (show strA G < lvl G.lv a by rw [HSS.out, HLV.out]; exact hl))
      rw [hd]
      clear hd
      go_wp2
      go_ret
      rw [HR.out]
      exact ⟨rfl, (HA.out _ B5.out).mono (Nat.le_succ _), HT.out _ B5.out⟩
    · have hd : decide (s < lv) = false := decide_eq_false hl
      have HR := Lib.hid (fir_go HO.out HD.out HC.out (show ¬ strA G < lvl G.lv a by rw [HSS.out, HLV.out]; exact hl))
      rw [hd]
      clear hd hl
      obtain ⟨A3, c3, A4, c4, q0, q1, q2, q3, L3, L4⟩ := (HA.out _ B5.out).cells
      go_upto_region 14 with fail
      have D0 : Below w0.heap.size w0 wc.drew := B5.out.drew
      have hpl := (HA.out _ B5.out).lt
      have SCc := Lib.hid (fun (W : World) (hW : Below wc.heap.size wc W) => (show W.cell? ⟨p, 3, none⟩ = some (.map (some mf)) ∧ W.cell? ⟨w.heap.size, 0, none⟩ = some (.int .i64 a.rule) ∧ W.cell? ⟨w.heap.size, 1, none⟩ = some (.slice A a.sub.length c) from
        ⟨(hW.cell (p := ⟨p, 3, none⟩) hpl).trans q3, (hW.cell (p := ⟨w.heap.size, 0, none⟩) (by have := B5.out.size; have := HS0.out; show w.heap.size < wc.heap.size; omega)).trans x0, (hW.cell (p := ⟨w.heap.size, 1, none⟩) (by have := B5.out.size; have := HS0.out; show w.heap.size < wc.heap.size; omega)).trans x1⟩))
      have D3 : Below wc.heap.size wc wc.drew := (Below.refl _ _).drew
      clear x0 x1 q0 q1 q2 q3 L3 L4
      go_region_held3 (fun W : World => W.cell? ⟨p, 3, none⟩ = some (.map (some mf)) ∧ W.cell? ⟨w.heap.size, 0, none⟩ = some (.int .i64 a.rule) ∧ W.cell? ⟨w.heap.size, 1, none⟩ = some (.slice A a.sub.length c))
        (first | with_reducible exact SCc.out _ D3 | with_reducible exact SCc.out _ G3 | with_reducible exact S5 | go_keep)
        (first
          | (go_at_call 55; refine (CW.out _ D0).mono ?_; rintro e w4 ⟨sv4, rfl, ho4, hb4⟩; obtain ⟨s4, c4', hf4⟩ := ho4.form; subst hf4; have G3 := D3.trans (hb4.mono D3.size); have G4 := D0.trans (hb4.mono D0.size); obtain ⟨w5, hupd, hA5, hT5⟩ := (HA.out w4 G4).marked HOK.out HO.out HD.out hN (ho4.rsl (fun b hb hm => by have := (ownBlock_cells ho4 hb).1; have := HM.out b hm; have := D0.size; have := HS0.out; omega) HOK.out.sub); have S5 := mark_keeps hT5 (HA.out w4 G4) (by have := G4.size; have := HS0.out; omega) (HM.out mf (HA.out w4 G4).fM) (SCc.out _ G3); have HA5 := Lib.hid (And.intro hA5 hT5); have HG4 := Lib.hid G4; clear ho4 hb4 hA5 hT5))
      all_goals
        clear S5 G3 G4
        go_wp2
        go_ret
        rw [HR.out]
        exact ⟨rfl, HA5.out.1, (HT.out _ HG4.out).trans HA5.out.2 (fun x hx => .inl hx)⟩
end Go.Proofs.YtjgigcnjgblekaaDoor

namespace Go.Proofs.YtjgigcnjgblekaaDoor
open Go Go.RowKit Go.Maps Classical

set_option maxRecDepth 100000 in
set_option maxHeartbeats 4000000 in
theorem rpickW {M X : List Nat} {B rb : Nat} {G : Agd} (n : Int) (hn : i64ok n) (w : World) (h : RfAt M X B w rb G) (hlen : G.C.length ≤ 40000000) :
    Calls Tryd.prog 43 #[.pointer (some ⟨rb, 0, none⟩), .int .i64 n] w (PckRes (eligA G) n w) := by
  obtain ⟨w0, hw0⟩ : ∃ w0, w0 = w.alloc (.cells #[.int .i64 0, .slice none 0 0] 30) := ⟨_, rfl⟩
  have hb0 : Below w.heap.size w w0 := by rw [hw0]; exact (Below.refl _ _).alloc (Nat.le_refl _) _
  have hr0 : w0.heap[w.heap.size]? = some (.cells #[.int .i64 0, .slice none 0 0] 30 (0, 0)) := by rw [hw0]; exact heap_alloc_new w _
  have hs0 : w0.heap.size = w.heap.size + 1 := by rw [hw0]; simp
  have EW := Lib.hid (religibleW w0 (h.below hb0) hlen)
  have HB := Lib.hid hb0
  have HR0 := Lib.hid hr0
  have HS := Lib.hid hs0
  clear h hb0 hr0 hs0
  go_enter Tryd.func43, Tryd.ntmps43
  go_upto_region 1 with fail
  rw [← hw0]
  clear hw0
  go_wp2_with fail
  refine EW.out.mono ?_
  intro e w1 hr
  obtain ⟨A, c, rfl, hb1, hl⟩ := hr.rsl
  obtain ⟨l, hle⟩ : ∃ l, eligA G = l := ⟨_, rfl⟩
  rw [hle] at hl ⊢
  have R1 : w1.heap[w.heap.size]? = some (.cells #[.int .i64 0, .slice none 0 0] 30 (0, 0)) := (hb1.block _ (by have := HS.out; omega)).trans HR0.out
  have B1 := Lib.hid (HB.out.trans (hb1.mono HB.out.size))
  have HR1 := Lib.hid R1
  have hm := hl.len
  unfold maxLen at hm
  have y0 : w1.cell? ⟨w.heap.size, 0, none⟩ = some (.int .i64 0) := cell_of_row _ _ 0 _ _ _ R1
  have y1 : w1.cell? ⟨w.heap.size, 1, none⟩ = some (.slice none 0 0) := cell_of_row _ _ 1 _ _ _ R1
  have yf : ∀ o, w1.frozen? ⟨w.heap.size, o, none⟩ = false := fun o => by simp [World.frozen?, R1]
  have FIN := Lib.hid (fun (r : Int) (v : Value) => (show Turns [w.heap.size] w1 ((w1.setCell ⟨w.heap.size, 0, none⟩ (.int .i64 r)).setCell ⟨w.heap.size, 1, none⟩ v) from ((Turns.refl _ _).setCell (.inl (by simp)) _).setCell (.inl (by simp)) _))
  have EF := Lib.hid (fun (r : Int) (v : Value) => (heap_setCell_same _ _ 1 _ _ _ (heap_setCell_same _ _ 0 _ _ _ R1) : ((w1.setCell ⟨w.heap.size, 0, none⟩ (.int .i64 r)).setCell ⟨w.heap.size, 1, none⟩ v).heap[w.heap.size]? = some (.cells #[.int .i64 r, v] 30 (0, 0))))
  have HL := Lib.hid hl
  have HLE := Lib.hid hle
  have S1 := Lib.hid (show w0.heap.size = w.heap.size + 1 from HS.out)
  clear EW hr hb1 R1 hl hle
  by_cases h0 : l = []
  · subst h0
    clear HL
    simp only [List.length_nil] at hm ⊢
    go_wp2
    refine bodyPost_ret (results_row_slot rfl _ _ (w.heap.size) 30 #[.int .i64 0, .slice none 0 0] (0, 0) _ _ rfl rfl (EF.out 0 (.slice none 0 0)) Tryd.underlying30 rfl sizeAct) rfl ?_
    unfold PckRes
    rw [HLE.out]
    exact ⟨⟨0, []⟩, _, 50, rfl, RSl.nil, B1.out.trans ((FIN.out _ _).below B1.out.size (fun x hx => by rw [List.mem_singleton.1 hx]; omega)), .inl ⟨rfl, rfl, rfl⟩⟩
  · have hpos : 0 < l.length := List.length_pos_iff.2 h0
    have H0 := Lib.hid h0
    have hne : ((l.length : Int) == 0) = false := by simp; omega
    have IW := Lib.hid (fun (W : World) => ridx_any n (l.length : Int) W hn (WalkArith.wf_i64 (by omega)))
    have hrng : 0 ≤ idxOf n (l.length : Int) ∧ idxOf n (l.length : Int) < (l.length : Int) := by
      unfold idxOf
      rw [if_neg (by omega)]
      exact ⟨Int.emod_nonneg _ (by omega), Int.emod_lt_of_pos _ (by omega)⟩
    obtain ⟨k, hk⟩ : ∃ k : Nat, idxOf n (l.length : Int) = (k : Int) := ⟨(idxOf n (l.length : Int)).toNat, by omega⟩
    have HK := Lib.hid hk
    rw [hk] at IW hrng
    obtain ⟨x, hx⟩ : ∃ x, l[k]? = some x := ⟨_, List.getElem?_eq_getElem (by omega)⟩
    have HX := Lib.hid hx
    obtain ⟨b, off, rfl, hbF, _, cs, ⟨sv, rfl, hok, hsv⟩, hc⟩ := HL.out.at hx
    obtain ⟨A3, c3, rfl⟩ := hsv.form
    have d0 := hc 0 _ rfl
    have d1 := hc 1 _ rfl
    simp only [Nat.add_zero] at d0
    have HSV := Lib.hid hsv
    obtain ⟨e1, e2⟩ := hrng
    clear h0 hk hx hc hok hsv
    go_wp2_with fail
    refine (IW.out _).mono ?_
    rintro e w2 ⟨rfl, rfl⟩
    go_wp2
    refine bodyPost_ret (results_row_slot rfl _ _ (w.heap.size) 30 #[.int .i64 x.rule, .slice A3 x.sub.length c3] (0, 0) _ _ rfl rfl (EF.out x.rule (.slice A3 x.sub.length c3)) Tryd.underlying30 rfl sizeAct) rfl ?_
    unfold PckRes
    rw [HLE.out]
    refine ⟨x, _, 0, rfl, ?_, B1.out.trans ((FIN.out _ _).below B1.out.size (fun x hx => by rw [List.mem_singleton.1 hx]; omega)), .inr ⟨H0.out, by rw [HK.out]; exact HX.out, rfl⟩⟩
    refine HSV.out.kp (Kp.of_turns (FIN.out _ _) (fun b hb hf => ?_)) (fun b _ hb => by have := S1.out; omega) (fun _ _ h => h)
    rw [List.mem_singleton.1 hb] at hf
    have := S1.out
    omega
/-- What the reference's block holds, told one by one. -/
structure RfV (M X : List Nat) (B : Nat) (w : World) (rb : Nat) (g : Agd) (lv cv cn fr : Value) : Prop where
  row : w.heap[rb]? = some (.cells #[lv, cv, cn, fr] 89 (0, 0))
  lvR : RSl (fun b => b ∉ M) w 1 EInt lv g.lv
  csR : RSl (fun b => b ∉ M) w 3 ECst cv g.cs
  cnR : OwnF (fun b => b ∉ M) B w 30 cdAc cn g.C
  frR : OwnF (fun b => b ∉ M) B w 30 cdAc fr g.D
  cnM : ∀ b, cn.ownBlock = some b → b ∈ M ∧ b ∉ X ∧ b ≠ rb
  frM : ∀ b, fr.ownBlock = some b → b ∈ M ∧ b ∉ X ∧ b ≠ rb
  apt : ∀ b, cn.ownBlock = some b → fr.ownBlock ≠ some b
theorem RfAt.view {M X : List Nat} {B : Nat} {w : World} {rb : Nat} {g : Agd} (h : RfAt M X B w rb g) : ∃ lv cv cn fr, RfV M X B w rb g lv cv cn fr := by
  obtain ⟨lv, cv, cn, fr, h1, h2, h3, h4, h5, h6, h7, h8⟩ := h.blk
  exact ⟨lv, cv, cn, fr, h1, h2, h3, h4, h5, h6, h7, h8⟩
section
variable {M M' X : List Nat} {B : Nat} {w w' w2 : World} {rb : Nat} {g : Agd} {lv cv cn fr v : Value}
theorem RfV.lt (h : RfV M X B w rb g lv cv cn fr) : rb < w.heap.size := lt_of_heap h.row
theorem RfV.below (h : RfV M X B w rb g lv cv cn fr) (hb : Below w.heap.size w w') : RfV M X B w' rb g lv cv cn fr :=
  ⟨(hb.block _ h.lt).trans h.row, h.lvR.keep (Kp.of_below hb), h.csR.keep (Kp.of_below hb), h.cnR.below hb, h.frR.below hb, h.cnM, h.frM, h.apt⟩
/-- The conflict row anew. -/
theorem RfV.setC (h : RfV M X B w rb g lv cv cn fr) (hA : RfAt M X B w rb g) (ML : ∀ x ∈ M, x < w.heap.size) (XM : ∀ x ∈ X, x ∈ M) (T : Turns cn.ownBlock.toList w w2) {C' : List Ac} (hM : ∀ x ∈ M, x ∈ M') (hM' : ∀ x ∈ M', x ∈ M ∨ w.heap.size ≤ x)
    (hv : OwnF (fun b => b ∉ M') B w2 30 cdAc v C') (hvb : ∀ b, v.ownBlock = some b → b ∈ M' ∧ (cn.ownBlock = some b ∨ w.heap.size ≤ b)) (hok : AgOk { g with C := C' }) (hac : ∀ a ∈ C', AcOk a) :
    RfAt M' X B (w2.setCell ⟨rb, 2, none⟩ v) rb { g with C := C' } ∧ Turns (M.filter fun x => decide (x ∉ X)) w (w2.setCell ⟨rb, 2, none⟩ v) := by
  have hF : ∀ b, b < w.heap.size → b ∉ M → b ∉ M' := fun b hb hn hm => by
    rcases hM' b hm with h1 | h1
    · exact hn h1
    · omega
  have own : ∀ {b : Nat}, b ∈ cn.ownBlock.toList → cn.ownBlock = some b := fun hb => by simpa using hb
  have hrb := h.lt
  have hrc : rb ∉ cn.ownBlock.toList := fun hm => (h.cnM rb (own hm)).2.2 rfl
  have T2 : Turns [rb] w2 (w2.setCell ⟨rb, 2, none⟩ v) := (Turns.refl _ _).setCell (.inl (by simp)) _
  have TT : Turns (M.filter fun x => decide (x ∉ X)) w (w2.setCell ⟨rb, 2, none⟩ v) := by
    refine (T.mono (S' := M.filter fun x => decide (x ∉ X)) fun x hx => ?_).trans T2 (fun x hx => .inl ?_)
    · have := h.cnM x (own hx)
      exact List.mem_filter.2 ⟨this.1, decide_eq_true this.2.1⟩
    · rw [List.mem_singleton.1 hx]
      exact List.mem_filter.2 ⟨hA.rM.1, decide_eq_true hA.rM.2⟩
  have K : Kp (fun b => b ∉ M) w (w2.setCell ⟨rb, 2, none⟩ v) := Kp.of_turns TT (fun x hx hn => hn (List.mem_filter.1 hx).1)
  have vrb : ∀ b, v.ownBlock = some b → b ≠ rb ∧ b ∉ X := fun b hb => by
    rcases (hvb b hb).2 with h1 | h1
    · exact ⟨(h.cnM b h1).2.2, (h.cnM b h1).2.1⟩
    · exact ⟨by omega, fun hx => by have := ML b (XM b hx); omega⟩
  refine ⟨⟨⟨lv, cv, v, fr, ?_, h.lvR.kp K hF (fun _ _ h => h), h.csR.kp K hF (fun _ _ h => h), ?_, ?_, fun b hb => ⟨(hvb b hb).1, (vrb b hb).2, (vrb b hb).1⟩, fun b hb => ⟨hM b (h.frM b hb).1, (h.frM b hb).2⟩, fun b hb hf => ?_⟩, ⟨hM _ hA.rM.1, hA.rM.2⟩, hok, hac, hA.acD, hA.big, hA.cz⟩, TT⟩
  · exact heap_setCell_same _ _ 2 _ _ _ ((T.block _ hrb hrc).trans h.row)
  · exact hv.keep T2 (fun b hb hm => (vrb b hb).1 (List.mem_singleton.1 hm)) (fun b hb hn => by
      rw [List.mem_singleton.1 hb] at hn
      exact hn (hM _ hA.rM.1)) (fun _ _ h => h)
  · have h5 := h.frR.keep (F' := fun b => b ∉ M') T (fun b hb hm => h.apt b (own hm) hb) (fun b hb hn => hn (h.cnM b (own hb)).1) hF
    exact h5.keep T2 (fun b hb hm => (h.frM b hb).2.2 (List.mem_singleton.1 hm)) (fun b hb hn => by
      rw [List.mem_singleton.1 hb] at hn
      exact hn (hM _ hA.rM.1)) (fun _ _ h => h)
  · rcases (hvb b hb).2 with h1 | h1
    · exact h.apt b h1 hf
    · have := (h.frR.block hf).2.1; omega
/-- The fired row anew. -/
theorem RfV.setD (h : RfV M X B w rb g lv cv cn fr) (hA : RfAt M X B w rb g) (ML : ∀ x ∈ M, x < w.heap.size) (XM : ∀ x ∈ X, x ∈ M) (T : Turns fr.ownBlock.toList w w2) {D' : List Ac} (hM : ∀ x ∈ M, x ∈ M') (hM' : ∀ x ∈ M', x ∈ M ∨ w.heap.size ≤ x)
    (hv : OwnF (fun b => b ∉ M') B w2 30 cdAc v D') (hvb : ∀ b, v.ownBlock = some b → b ∈ M' ∧ (fr.ownBlock = some b ∨ w.heap.size ≤ b)) (hok : AgOk { g with D := D' }) (hac : ∀ a ∈ D', AcOk a) :
    RfAt M' X B (w2.setCell ⟨rb, 3, none⟩ v) rb { g with D := D' } ∧ Turns (M.filter fun x => decide (x ∉ X)) w (w2.setCell ⟨rb, 3, none⟩ v) := by
  have hF : ∀ b, b < w.heap.size → b ∉ M → b ∉ M' := fun b hb hn hm => by
    rcases hM' b hm with h1 | h1
    · exact hn h1
    · omega
  have own : ∀ {b : Nat}, b ∈ fr.ownBlock.toList → fr.ownBlock = some b := fun hb => by simpa using hb
  have hrb := h.lt
  have hrc : rb ∉ fr.ownBlock.toList := fun hm => (h.frM rb (own hm)).2.2 rfl
  have T2 : Turns [rb] w2 (w2.setCell ⟨rb, 3, none⟩ v) := (Turns.refl _ _).setCell (.inl (by simp)) _
  have TT : Turns (M.filter fun x => decide (x ∉ X)) w (w2.setCell ⟨rb, 3, none⟩ v) := by
    refine (T.mono (S' := M.filter fun x => decide (x ∉ X)) fun x hx => ?_).trans T2 (fun x hx => .inl ?_)
    · have := h.frM x (own hx)
      exact List.mem_filter.2 ⟨this.1, decide_eq_true this.2.1⟩
    · rw [List.mem_singleton.1 hx]
      exact List.mem_filter.2 ⟨hA.rM.1, decide_eq_true hA.rM.2⟩
  have K : Kp (fun b => b ∉ M) w (w2.setCell ⟨rb, 3, none⟩ v) := Kp.of_turns TT (fun x hx hn => hn (List.mem_filter.1 hx).1)
  have vrb : ∀ b, v.ownBlock = some b → b ≠ rb ∧ b ∉ X := fun b hb => by
    rcases (hvb b hb).2 with h1 | h1
    · exact ⟨(h.frM b h1).2.2, (h.frM b h1).2.1⟩
    · exact ⟨by omega, fun hx => by have := ML b (XM b hx); omega⟩
  refine ⟨⟨⟨lv, cv, cn, v, ?_, h.lvR.kp K hF (fun _ _ h => h), h.csR.kp K hF (fun _ _ h => h), ?_, ?_, fun b hb => ⟨hM b (h.cnM b hb).1, (h.cnM b hb).2⟩, fun b hb => ⟨(hvb b hb).1, (vrb b hb).2, (vrb b hb).1⟩, fun b hb hf => ?_⟩, ⟨hM _ hA.rM.1, hA.rM.2⟩, hok, hA.acC, hac, hA.big, hA.cz⟩, TT⟩
  · exact heap_setCell_same _ _ 3 _ _ _ ((T.block _ hrb hrc).trans h.row)
  · have h5 := h.cnR.keep (F' := fun b => b ∉ M') T (fun b hb hm => h.apt b hb (own hm)) (fun b hb hn => hn (h.frM b (own hb)).1) hF
    exact h5.keep T2 (fun b hb hm => (h.cnM b hb).2.2 (List.mem_singleton.1 hm)) (fun b hb hn => by
      rw [List.mem_singleton.1 hb] at hn
      exact hn (hM _ hA.rM.1)) (fun _ _ h => h)
  · exact hv.keep T2 (fun b hb hm => (vrb b hb).1 (List.mem_singleton.1 hm)) (fun b hb hn => by
      rw [List.mem_singleton.1 hb] at hn
      exact hn (hM _ hA.rM.1)) (fun _ _ h => h)
  · rcases (hvb b hf).2 with h1 | h1
    · exact h.apt b hb h1
    · have := (h.cnR.block hb).2.1; omega
end
/-- The reference's turn. -/
def RfTo (M X : List Nat) (B rb : Nat) (g : Agd) (w w' : World) : Prop :=
  ∃ M', Turns (M.filter fun x => decide (x ∉ X)) w w' ∧ RfAt M' X B w' rb g ∧ (∀ x ∈ M, x ∈ M') ∧ (∀ x ∈ M', x ∈ M ∨ w.heap.size ≤ x) ∧ ∀ x ∈ M', x < w'.heap.size
section
variable {M X : List Nat} {B : Nat} {w w' w'' : World} {rb : Nat} {g g' : Agd}
theorem RfTo.here (h : RfAt M X B w rb g) (ML : ∀ x ∈ M, x < w.heap.size) : RfTo M X B rb g w w := ⟨M, Turns.refl _ _, h, fun _ h => h, fun _ h => .inl h, ML⟩
theorem RfTo.from (h : RfTo M X B rb g w' w'') (hb : Below w.heap.size w w') : RfTo M X B rb g w w'' := by
  obtain ⟨M', h1, h2, h3, h4, h5⟩ := h
  exact ⟨M', (Turns.of_below hb).trans h1 (fun x hx => .inl hx), h2, h3, fun x hx => (h4 x hx).imp id (fun h => Nat.le_trans hb.size h), h5⟩
theorem RfTo.then (h : RfTo M X B rb g w w') (hb : Below w'.heap.size w' w'') : RfTo M X B rb g w w'' := by
  obtain ⟨M', h1, h2, h3, h4, h5⟩ := h
  exact ⟨M', h1.trans (Turns.of_below (S := []) hb) (fun x hx => by simp at hx), h2.below hb, h3, h4, fun x hx => Nat.lt_of_lt_of_le (h5 x hx) hb.size⟩
end
/-- What a call that turns the reference leaves. -/
def RfRes (M X : List Nat) (B rb : Nat) (R : Int × Agd) (w : World) (e : Ending) (w' : World) : Prop := e = .returned (.int .i64 R.1) ∧ RfTo M X B rb R.2 w w'
end Go.Proofs.YtjgigcnjgblekaaDoor
