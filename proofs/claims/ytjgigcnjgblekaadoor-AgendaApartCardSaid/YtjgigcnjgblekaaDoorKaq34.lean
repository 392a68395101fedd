/- AgendaApart: the walk. -/
import Derived.Test.YtjgigcnjgblekaaDoorKaq22
import Derived.Test.YtjgigcnjgblekaaDoorKaq26
import Derived.Test.YtjgigcnjgblekaaDoorKaq28
import Derived.Test.YtjgigcnjgblekaaDoorKaq32
import Derived.Test.YtjgigcnjgblekaaDoorKaq33
namespace Go.Proofs.YtjgigcnjgblekaaDoor
open Go Go.RowKit Go.Maps Classical

set_option maxRecDepth 100000 in
set_option maxHeartbeats 16000000 in
theorem apartW (xv : Value) (xs : List Ac) (pick : Int) (w : World) (h1 : RSl (fun b => b < w.heap.size) w 2 (EAc (fun b => b < w.heap.size) w) xv xs) (hl : xs.length ≤ 4400000000000) (hp : i64ok pick) (ht : Tab w) :
    Calls Tryd.prog 6 #[xv, .int .i64 pick] w fun e w' => e = .returned (.bool true) ∧ Below w.heap.size w w' := by
  obtain ⟨A1, c1, rfl⟩ := h1.form
  have H1 := Lib.hid h1
  have HT := Lib.hid (fun (W : World) (hb : Below w.heap.size w W) => ht.below hb)
  have HP := Lib.hid hp
  have E0 := Lib.hid (Below.refl w.heap.size w)
  clear h1 hp ht
  go_enter Tryd.func6, Tryd.ntmps6
  go_wp2_with fail
  obtain ⟨w1, hw1⟩ : ∃ w1, w1 = w.alloc (.cells #[.int .i64 0, .int .i64 0, .int .i64 0] 3) := ⟨_, rfl⟩
  have hb1 : Below w.heap.size w w1 := by rw [hw1]; exact (Below.refl _ _).alloc (Nat.le_refl _) _
  have hr1 : w1.heap[w.heap.size]? = some (.cells #[.int .i64 0, .int .i64 0, .int .i64 0] 3 (0, 0)) := by rw [hw1]; exact heap_alloc_new w _
  have hs1 : w1.heap.size = w.heap.size + 1 := by rw [hw1]; simp
  rw [← hw1]
  clear hw1
  refine (four2W w1).mono ?_
  rintro e w2 ⟨rfl, hc2, hb2, hs2, cs2, hcs2, hr2⟩
  rw [hs1] at hc2 hs2 hr2 ⊢
  have hr1' := (hb2.block _ (by omega)).trans hr1
  have OL2 : w2.ownsRow w.heap.size 3 1 (.slice (some ⟨w.heap.size, 0, none⟩) 3 3) 3 (intVs [0, 0, 0]) := ⟨rfl, .inr ⟨_, 3, _, rfl, Nat.le_refl _, hr1', Nat.le_refl _, by unfold maxLen; decide, rfl, rfl⟩⟩
  have NW := Lib.hid (newW (F := fun b => w.heap.size ≤ b) (List.range w2.heap.size) (.slice (some ⟨w.heap.size, 0, none⟩) 3 3) (.slice (some ⟨w.heap.size + 1, 0, none⟩) 4 4) [0, 0, 0] fourL w2 ((show OwnZ w2 w.heap.size _ [0, 0, 0] from OL2).rsl (fun b hb => (ownBlock_cells OL2 hb).1) (fun i hi => WalkArith.wf_i64 (by simp at hi; omega))) (hc2.kp (Kp.refl _ _) (fun b _ hb => by show w.heap.size ≤ b; omega) (fun _ _ h => h)) (by decide) (by decide) (fun x hx => List.mem_range.1 hx))
  have B2 := Lib.hid (hb1.trans (hb2.mono hb1.size))
  have R2 := Lib.hid (And.intro hr1' (And.intro hr2 (And.intro hcs2 hs2)))
  clear hb1 hr1 hs1 hc2 hb2 hs2 hcs2 hr2 hr1' OL2
  go_wp2_with fail
  refine NW.out.mono ?_
  rintro e w3 ⟨p, mc, mf, rfl, hA3, hb3, g1, g2, g3⟩
  rw [lev3] at hA3
  have B3 := Lib.hid (B2.out.trans (hb3.mono B2.out.size))
  obtain ⟨M3, hM3⟩ : ∃ M3, mc :: mf :: List.range w2.heap.size = M3 := ⟨_, rfl⟩
  rw [hM3] at hA3
  have hlt := hA3.lt
  have hmc := hA3.con.lt
  have hmf := hA3.fir.lt
  have LVL := Lib.hid (show (w3.heap[w.heap.size]? = some (.cells #[.int .i64 0, .int .i64 0, .int .i64 0] 3 (0, 0)) ∧ w3.heap[w.heap.size + 1]? = some (.cells cs2 62 (0, 0))) ∧ (w.heap.size ∈ M3 ∧ w.heap.size + 1 ∈ M3) ∧ w.heap.size + 1 < mc ∧ w.heap.size + 1 < mf ∧ cs2.size = 12 by
    obtain ⟨q1, q2, q3, q4⟩ := R2.out
    refine ⟨⟨(hb3.block _ (by omega)).trans q1, (hb3.block _ (by omega)).trans q2⟩, ?_, by omega, by omega, q3⟩
    rw [← hM3]
    refine ⟨List.mem_cons_of_mem _ (List.mem_cons_of_mem _ (List.mem_range.2 (by omega))), List.mem_cons_of_mem _ (List.mem_cons_of_mem _ (List.mem_range.2 (by omega)))⟩)
  have ML3 := Lib.hid (fun x (hx : x ∈ M3) => (show x < w3.heap.size by
    rw [← hM3] at hx
    rcases List.mem_cons.1 hx with rfl | hx
    · exact hmc
    · rcases List.mem_cons.1 hx with rfl | hx
      · exact hmf
      · have := List.mem_range.1 hx
        exact Nat.lt_of_lt_of_le this hb3.size))
  have MCF := Lib.hid (show (w.heap.size ≤ mc ∧ mc < w3.heap.size) ∧ (w.heap.size ≤ mf ∧ mf < w3.heap.size) by have := B2.out.size; omega)
  have A3 := Lib.hid hA3
  have SW := Lib.hid (silentW w3 (HT.out w3 B3.out))
  clear R2 hA3 hM3 hb3 g1 g2 g3 B2 NW hlt hmc hmf
  go_wp2_with fail
  refine SW.out.mono ?_
  rintro e w4 ⟨rfl, hb4⟩
  have AB4 := Lib.hid (show AgAt (mm M3 w3.heap.size w4.heap.size) w4 p mc mf ⟨[0, 0, 0], fourL, [], []⟩ 0 from A3.out.more.grow (Nat.le_refl _) (Turns.of_below (S := []) hb4) (fun x hx => by simp at hx) MCF.out.1.2 MCF.out.2.2)
  have B4 := Lib.hid hb4
  clear hb4 SW A3
  go_upto_region 10 with fail
  obtain ⟨w7, hw7⟩ : ∃ w7, w7 = ((w4.alloc (.cells #[.int .i64 3, .int .i64 1, .int .i64 77] 3)).alloc (.cells #[.int .i64 2, .slice (some ⟨w4.heap.size, 0, none⟩) 2 3] 30)).alloc (.cells #[.bool true, .int .i64 2, .slice (some ⟨w4.heap.size, 0, none⟩) 2 3] 36) := ⟨_, rfl⟩
  have hb7 : Below w4.heap.size w4 w7 := by rw [hw7]; exact (((Below.refl _ _).alloc (Nat.le_refl _) _).alloc (by simp) _).alloc (by simp <;> omega) _
  have hs7 : w7.heap.size = w4.heap.size + 3 := by rw [hw7]; simp
  have hr7 : w7.heap[w4.heap.size]? = some (.cells #[.int .i64 3, .int .i64 1, .int .i64 77] 3 (0, 0)) := by
    rw [hw7, heap_alloc_old _ _ (by simp; omega), heap_alloc_old _ _ (by simp)]; exact heap_alloc_new w4 _
  have hc7 : w7.heap[w4.heap.size + 2]? = some (.cells #[.bool true, .int .i64 2, .slice (some ⟨w4.heap.size, 0, none⟩) 2 3] 36 (0, 0)) := by
    have := heap_alloc_new ((w4.alloc (.cells #[.int .i64 3, .int .i64 1, .int .i64 77] 3)).alloc (.cells #[.int .i64 2, .slice (some ⟨w4.heap.size, 0, none⟩) 2 3] 30)) (.cells #[.bool true, .int .i64 2, .slice (some ⟨w4.heap.size, 0, none⟩) 2 3] 36)
    rw [hw7]; simpa using this
  have I7 := Lib.hid (show InSt w4.heap.size w7 (.slice (some ⟨w4.heap.size + 2, 0, none⟩) 1 1) [(⟨2, [3, 1]⟩, .slice (some ⟨w4.heap.size, 0, none⟩) 2 3)] from
    ⟨⟨rfl, .inr ⟨_, 1, _, rfl, by omega, hc7, Nat.le_refl _, by unfold maxLen; decide, rfl, rfl⟩⟩, fun z hz => by
      rw [List.mem_singleton.1 hz]
      exact ⟨⟨rfl, .inr ⟨_, 3, _, rfl, Nat.le_refl _, hr7, by simp, by unfold maxLen; decide, rfl, rfl⟩⟩, by simp [all21]⟩, fun z hz b hb hb2 => by
      rw [List.mem_singleton.1 hz] at hb
      simp [Value.ownBlock] at hb hb2
      omega, by simp⟩)
  have A7 := Lib.hid (AB4.out.grow B4.out.size (Turns.of_below (S := []) hb7) (fun x hx => by simp at hx) MCF.out.1.2 MCF.out.2.2)
  have B7 := Lib.hid (B4.out.trans (hb7.mono B4.out.size))
  have R7 := Lib.hid (And.intro hr7 hs7)
  rw [← hw7]
  clear hw7 hb7 hs7 hr7 hc7 AB4
  obtain ⟨Hr, hHr⟩ : ∃ Hr, w4.heap.size = Hr := ⟨_, rfl⟩
  have HR := Lib.hid (show w3.heap.size ≤ Hr by rw [← hHr]; exact B4.out.size)
  rw [hHr] at I7 R7 ⊢
  clear hHr
  go_loopw [10, 11] (fun iv i wr => ∃ (k : Nat) (zs : List (Ac × Value)) (vi : Value), i = .int .i64 (k : Int) ∧ iv = vi ∧ k ≤ xs.length ∧ zs.length = k + 1 ∧ InSt Hr wr vi zs ∧ AgAt (mm M3 w3.heap.size wr.heap.size) wr p mc mf ⟨[0, 0, 0], fourL, [], []⟩ 0 ∧ Below w3.heap.size w3 wr ∧ wr.heap[Hr]? = some (.cells #[.int .i64 3, .int .i64 1, .int .i64 77] 3 (0, 0)) ∧ vi.ownBlock ≠ some Hr) (fun _ i _ => xs.length - (intOf i).toNat)
  case atStart => exact ⟨0, _, _, rfl, rfl, Nat.zero_le _, rfl, I7.out, A7.out, B7.out, R7.out.1, by simp [Value.ownBlock] <;> omega⟩
  case round =>
    obtain ⟨k, zs, vi, rfl, rfl, hk, hzl, hI, hA, hb, hroom, hne⟩ := hrel
    clear A7 I7 R7 B7
    have II := Lib.hid hI
    have AA := Lib.hid hA
    have BB := Lib.hid hb
    have RM := Lib.hid hroom
    have NE := Lib.hid hne
    have ZL := Lib.hid hzl
    obtain ⟨A5, c5, hvi⟩ := hI.form
    rw [hzl] at hvi
    subst hvi
    have BW := Lib.hid (B3.out.trans (hb.mono B3.out.size))
    clear hI hA hb hroom hne
    by_cases hkn : k < xs.length
    · obtain ⟨x, hx⟩ : ∃ x, xs[k]? = some x := ⟨_, List.getElem?_eq_getElem hkn⟩
      obtain ⟨b, off, rfl, _, _, cs, ⟨sv, rfl, hok, hsv⟩, hc⟩ := (EAc.all H1.out (Kp.of_below BW.out) (fun _ _ h => h)).at hx
      obtain ⟨A4, c4, rfl⟩ := hsv.form
      have d0 := hc 0 _ rfl
      have d1 := hc 1 _ rfl
      simp only [Nat.add_zero] at d0
      have MW := Lib.hid (madeW x (.slice A4 x.sub.length c4) wr hsv hok)
      have e1 : (0 : Int) ≤ (k : Int) := by omega
      have e2 : (k : Int) < (xs.length : Int) := by omega
      clear hx hok hsv hc
      go_wp2_with fail
      refine MW.out.mono ?_
      rintro e w8 ⟨sv8, rfl, hs8, hb8⟩
      obtain ⟨A8, c8, hsv8⟩ := hs8.form
      subst hsv8
      have hmem := made_mem x
      obtain ⟨a, haa⟩ : ∃ a, madeA x = a := ⟨_, rfl⟩
      rw [haa] at hs8 hmem ⊢
      have HM := Lib.hid hmem
      obtain ⟨w9, hw9⟩ : ∃ w9, w9 = w8.alloc (.cells #[.int .i64 a.rule, .slice A8 a.sub.length c8] 30) := ⟨_, rfl⟩
      have hb9 : Below w8.heap.size w8 w9 := by rw [hw9]; exact (Below.refl _ _).alloc (Nat.le_refl _) _
      have y0 : w9.cell? ⟨w8.heap.size, 0, none⟩ = some (.int .i64 a.rule) := by rw [hw9]; exact cell_of_row _ _ 0 _ _ _ (heap_alloc_new w8 _)
      have y1 : w9.cell? ⟨w8.heap.size, 1, none⟩ = some (.slice A8 a.sub.length c8) := by rw [hw9]; exact cell_of_row _ _ 1 _ _ _ (heap_alloc_new w8 _)
      have B9 := Lib.hid (hb8.trans (hb9.mono hb8.size))
      have S9 := Lib.hid (hs8.below hb9)
      have hn5 : zs.length ≤ 5000000000000 := by omega
      have FIN := Lib.hid (fun (g cap : Nat) (w' : World) (hi : InSt Hr w' (.slice (some ⟨g, 0, none⟩) (zs.length + 1) cap) (zs ++ [(a, .slice A8 a.sub.length c8)])) (T : Turns (Value.slice A5 (k + 1) c5).ownBlock.toList w9 w') (hat : (Value.slice A5 (k + 1) c5).ownBlock = some g ∨ w9.heap.size ≤ g) =>
        (show InSt Hr w' (.slice (some ⟨g, 0, none⟩) (k + 1 + 1) cap) (zs ++ [(a, .slice A8 a.sub.length c8)]) ∧ AgAt (mm M3 w3.heap.size w'.heap.size) w' p mc mf ⟨[0, 0, 0], fourL, [], []⟩ 0 ∧ Below w3.heap.size w3 w' ∧ w'.heap[Hr]? = some (.cells #[.int .i64 3, .int .i64 1, .int .i64 77] 3 (0, 0)) ∧ (Value.slice (some ⟨g, 0, none⟩) (k + 1 + 1) cap).ownBlock ≠ some Hr by
          have hv : ∀ x ∈ (Value.slice A5 (k + 1) c5).ownBlock.toList, Hr ≤ x ∧ x ≠ Hr := fun x hx => by
            have hx2 : (Value.slice A5 (k + 1) c5).ownBlock = some x := by simpa using hx
            exact ⟨(ownBlock_cells II.out.row hx2).1, fun e => NE.out (by rw [← e]; exact hx2)⟩
          have hlr := lt_of_heap RM.out
          have h3 := HR.out
          have h4 := BB.out.size
          have h5 := B9.out.size
          have T9 : Turns (Value.slice A5 (k + 1) c5).ownBlock.toList wr w' := (Turns.of_below B9.out).trans T (fun x hx => .inl hx)
          refine ⟨by rw [← ZL.out]; exact hi, AA.out.grow h4 T9 (fun x hx => by have := hv x hx; omega) MCF.out.1.2 MCF.out.2.2, BB.out.trans (T9.below h4 (fun x hx => by have := hv x hx; omega)), (T9.block _ hlr (fun hm => (hv _ hm).2 rfl)).trans RM.out, fun e => ?_⟩
          have e' : g = Hr := by simpa [Value.ownBlock] using e
          subst e'
          rcases hat with hat | hat
          · exact (hv g (by simpa using hat)).2 rfl
          · omega))
      clear hs8 hb8 hb9 hmem haa d0 d1 MW
      go_upto_region 13 with fail
      rw [← hw9]
      clear hw9
      go_wp2_with (at_builtin; refine wpList_push_C II.out B9.out (by have := BB.out.size; have := lt_of_heap RM.out; omega) S9.out HM.out rfl (.tmp 67) (.tmp 70) rfl rfl 36 rfl rfl hn5 ?_; rw [ZL.out]; intro g cap w10 hi10 ht10 hat10 _; have F10 := Lib.hid (FIN.out g cap w10 (by rw [ZL.out]; exact hi10) ht10 hat10); clear hi10 ht10 hat10)
      exact ⟨⟨k + 1, _, _, by go_num, rfl, by omega, by rw [List.length_append, ZL.out]; rfl, F10.out⟩, by simp [intOf]; omega⟩
    · obtain rfl : k = xs.length := by omega
      obtain ⟨n, hn⟩ : ∃ n, xs.length + 1 = n := ⟨_, rfl⟩
      obtain ⟨wA, rfl⟩ : ∃ x, x = wr := ⟨_, rfl⟩
      rw [hn] at II NE ZL ⊢
      have NB := Lib.hid (show n ≤ 4400000000001 ∧ 0 < n by omega)
      have hnb : n ≤ 4400000000001 := NB.out.1
      clear hn hzl hkn hk hl H1
      go_upto_region 16 with fail
      go_loopw [13, 14] (fun kv i wr => ∃ (j : Nat) (zk : List (Ac × Value)) (vk : Value), i = .int .i64 (j : Int) ∧ kv = vk ∧ j ≤ n ∧ InSt wA.heap.size wr vk zk ∧ zk.map Prod.fst = (zs.map Prod.fst).take j ∧ Below wA.heap.size wA wr) (fun _ i _ => n - (intOf i).toNat)
      case atStart => exact ⟨0, [], _, rfl, rfl, Nat.zero_le _, InSt.nil, rfl, Below.refl _ _⟩
      case round =>
        obtain ⟨j, zk, vk, rfl, rfl, hj, hK, hzk, hbK⟩ := hrel
        have KK := Lib.hid hK
        have ZK := Lib.hid hzk
        have BK := Lib.hid hbK
        have hzkl : zk.length = j := by
          have := congrArg List.length hzk
          rw [List.length_map, List.length_take, List.length_map, ZL.out, Nat.min_eq_left hj] at this
          exact this
        obtain ⟨A6, c6, hvk⟩ := hK.form
        rw [hzkl] at hvk
        subst hvk
        have ZKL := Lib.hid hzkl
        have IJ := Lib.hid (II.out.below hbK)
        clear hK hzk hbK hzkl
        by_cases hjn : j < n
        · obtain ⟨⟨x, sv⟩, hz⟩ : ∃ z, zs[j]? = some z := ⟨_, List.getElem?_eq_getElem (by rw [ZL.out]; exact hjn)⟩
          obtain ⟨g, c', hA, hgl, hgs, q0, q1, q2⟩ := IJ.out.rd hz
          simp only [Value.slice.injEq] at hA
          obtain ⟨rfl, -, rfl⟩ := hA
          have hsx := IJ.out.sub _ (List.mem_of_getElem? hz)
          obtain ⟨A7, c7, hsf⟩ := hsx.1.form
          simp only at hsf q1 q2 hsx
          subst hsf
          have HXM := Lib.hid hsx.2
          have hxok := all21_ok hsx.2
          obtain ⟨g', c9, hA9, -, hgA, p0, p1, p2⟩ := II.out.rd hz
          simp only [Value.slice.injEq, Option.some.injEq, Addr.mk.injEq] at hA9
          obtain ⟨⟨rfl, -, -⟩, -, -⟩ := hA9
          have KP := Lib.hid (fun (V : World) (hV : Below wA.heap.size wA V) => (show (V.cell? ⟨g, j * 3, none⟩ = some (.bool true) ∧ V.cell? ⟨g, j * 3 + 1, none⟩ = some (.int .i64 x.rule) ∧ V.cell? ⟨g, j * 3 + 2, none⟩ = some (.slice A7 x.sub.length c7)) from
            ⟨(hV.cell (p := ⟨g, j * 3, none⟩) hgA).trans p0, (hV.cell (p := ⟨g, j * 3 + 1, none⟩) hgA).trans p1, (hV.cell (p := ⟨g, j * 3 + 2, none⟩) hgA).trans p2⟩))
          have D0 : Below wA.heap.size wA wr.drew := BK.out.drew
          have D1 : Below wr.heap.size wr (wr.alloc (.cells #[] 3)) := (Below.refl wr.heap.size wr).alloc (Nat.le_refl _) _
          have D2 : Below wA.heap.size wA (wr.alloc (.cells #[] 3)) := BK.out.alloc BK.out.size _
          have hS0 := KP.out _ D0
          have O0 := Lib.hid (own0 wr 3 1 wr.heap.size (Nat.le_refl _))
          have HS := Lib.hid ((hsx.1.rsl (F := fun _ => True) (fun _ _ => trivial) hxok.sub).keep (Kp.of_below D1))
          have HLN := Lib.hid (show 0 + x.sub.length ≤ 17000000000000 by have := hxok.len; omega)
          have KEY := Lib.hid (fun (v' : Value) (w3 : World) (ho : w3.ownsRow wr.heap.size 3 1 v' (0 + x.sub.length) ([] ++ intVs x.sub)) (ht : Turns (Value.slice (some ⟨wr.heap.size, 0, none⟩) 0 0).ownBlock.toList (wr.alloc (.cells #[] 3)) w3) =>
            (show OwnZ w3 wr.heap.size v' x.sub ∧ Below wr.heap.size wr w3 by
              have hb3 : Below wr.heap.size wr w3 := D1.trans (ht.below (by simp) (fun y hy => by rw [show y = wr.heap.size by simpa [Value.ownBlock] using hy]; exact Nat.le_refl _))
              rw [Nat.zero_add, List.nil_append] at ho
              exact ⟨ho, hb3⟩))
          have i1 : (0 : Int) ≤ (j : Int) := by omega
          have i2 : (j : Int) < (n : Int) := by omega
          have h40 : zk.length ≤ 5000000000000 := by have := NB.out; have := ZKL.out; omega
          have NX := Lib.hid (fun (v' : Value) => (show (zk ++ [(x, v')]).map Prod.fst = (zs.map Prod.fst).take (j + 1) by rw [List.map_append, ZK.out, List.take_add_one, List.getElem?_map, hz]; rfl))
          clear hz hsx hxok hgl q0 q1 q2 p0 p1 p2
          go_upto_region 18 with fail
          go_region_held3 (fun V : World => V.cell? ⟨g, j * 3, none⟩ = some (.bool true) ∧ V.cell? ⟨g, j * 3 + 1, none⟩ = some (.int .i64 x.rule) ∧ V.cell? ⟨g, j * 3 + 2, none⟩ = some (.slice A7 x.sub.length c7))
            (first | with_reducible exact hS0 | with_reducible exact KP.out _ D2 | with_reducible exact KP.out _ (D2.drew) | with_reducible exact KP.out _ BZ | with_reducible exact KP.out _ (BZ.alloc BZ.size _) | with_reducible exact KP.out _ B5.out)
            (first
              | (refine step_append_ints O0.out HS.out (by rfl) (.tmp 90) (.tmp 96) 22 (by rfl) Tryd.underlying22 infoIntR rfl (by rfl) (by rfl) HLN.out (by simp) ?_; intro v' w3 ho ht; have ho' := ho; rw [Nat.zero_add] at ho'; obtain ⟨va, vc, rfl⟩ := own_form1 ho'; clear ho'; obtain ⟨z1, z2⟩ := KEY.out _ w3 ho ht; have Z1 := Lib.hid z1; have Z2 := Lib.hid z2; have BZ : Below wA.heap.size wA w3 := BK.out.trans (z2.mono BK.out.size); clear ho ht z1 z2)
              | (refine step_push_C KK.out Z2.out BK.out.size Z1.out HXM.out (by rfl) (.tmp 78) (.tmp 100) (by rfl) (by rfl) _ (by rfl) (by rfl) h40 ?_; rw [ZKL.out]; intro g5 cap w5 hz5 ht5 _ _; have Z5 := Lib.hid hz5; have B5 := Lib.hid (BK.out.trans ((Z2.out.mono BK.out.size).trans (ht5.below (Nat.le_trans BK.out.size Z2.out.size) (fun y hy => (ownBlock_cells KK.out.row (by simpa using hy)).1)))); clear hz5 ht5))
          all_goals
            have NX2 := Lib.hid (NX.out (Value.slice va x.sub.length vc))
            go_wp2
            exact ⟨⟨j + 1, _, _, by go_num, rfl, by omega, Z5.out, NX2.out, B5.out⟩, by simp [intOf]; omega⟩
        · obtain rfl : n = j := by omega
          obtain ⟨wK, rfl⟩ : ∃ x, x = wr := ⟨_, rfl⟩
          have ZK2 := Lib.hid (show zk.map Prod.fst = zs.map Prod.fst by rw [ZK.out, List.take_of_length_le (by rw [List.length_map, ZL.out]; exact Nat.le_refl _)])
          have AK := Lib.hid (AA.out.grow BB.out.size (Turns.of_below (S := []) BK.out) (fun x hx => by simp at hx) MCF.out.1.2 MCF.out.2.2)
          have KK := Lib.hid KK.out
          clear ZK ZKL hj hjn
          go_upto_region 20 with fail
          go_loopw [15] (fun i wr => ∃ q : Nat, i = .int .i64 (q : Int) ∧ q ≤ n ∧ AgAt (mm M3 w3.heap.size wK.heap.size) wr p mc mf ⟨[0, 0, 0], fourL, insL ((zs.map Prod.fst).take q), []⟩ q ∧ Turns [mc] wK wr) (fun i _ => n - (intOf i).toNat)
          case atStart => exact ⟨0, rfl, Nat.zero_le _, AK.out, Turns.refl _ _⟩
          case round =>
            obtain ⟨q, rfl, hq, hA, hT⟩ := hrel
            have AQ := Lib.hid hA
            have TQ := Lib.hid hT
            have IQ := Lib.hid ((II.out.below BK.out).turns hT (fun x hx => by rw [List.mem_singleton.1 hx]; have := MCF.out; have := HR.out; omega))
            have BQ := Lib.hid (show Below w.heap.size w wr from (BW.out.trans (BK.out.mono BW.out.size)).trans (hT.below (Nat.le_trans BW.out.size BK.out.size) (fun x hx => by rw [List.mem_singleton.1 hx]; have := MCF.out; omega)))
            clear hA hT
            by_cases hqn : q < n
            · obtain ⟨⟨x, sv⟩, hz⟩ : ∃ z, zs[q]? = some z := ⟨_, List.getElem?_eq_getElem (by rw [ZL.out]; exact hqn)⟩
              obtain ⟨g, c', hA, hgl, hgs, _⟩ := IQ.out.rd hz
              simp only [Value.slice.injEq] at hA
              obtain ⟨rfl, -, rfl⟩ := hA
              have hcap : n ≤ c5 ∧ c5 ≤ maxLen := by
                obtain ⟨A', c2, e1, e2, e3, _⟩ := IQ.out.rsl
                unfold came at e1 e2
                simp only [Value.slice.injEq, List.length_map] at e1 e2
                have := ZL.out
                omega
              have hcut := RSl.cut IQ.out.rsl (i := q) (j := q + 1) (by omega) (by unfold came; rw [List.length_map, ZL.out]; exact hqn)
              rw [one_cut (show (came zs)[q]? = some (true, x) by unfold came; rw [List.getElem?_map, hz]; rfl), show q + 1 - q = 1 by omega, Nat.zero_add] at hcut
              have hown : x ∈ all21 := (IQ.out.sub _ (List.mem_of_getElem? hz)).2
              have AP := Lib.hid (applyW _ [(true, x)] wr AQ.out hcut (fun hm => by have := MCF.out; have := HR.out; omega) (fun y hy => by
                have h1 := BK.out.size
                have h2 := TQ.out.size
                rcases (mem_mm (by have := BB.out.size; omega)).1 hy with h3 | h3
                · have := ML3.out y h3; have := BB.out.size; omega
                · omega) (by unfold maxLen; have := NB.out; simp; omega) (fun W hW => HT.out W (BQ.out.trans (hW.below BQ.out.size (fun x hx => by rw [List.mem_singleton.1 hx]; have := MCF.out; omega)))))
              have NX := Lib.hid (show (appF ⟨[0, 0, 0], fourL, insL ((zs.map Prod.fst).take q), []⟩ [(true, x)] 0).2.2 = ⟨[0, 0, 0], fourL, insL ((zs.map Prod.fst).take (q + 1)), []⟩ by
                rw [app_ins x (all21_own hown), List.take_add_one, List.getElem?_map, hz]
                show _ = (⟨[0, 0, 0], fourL, insL ((zs.map Prod.fst).take q ++ [x]), []⟩ : Agd)
                rw [insL_snoc])
              have e1 : (0 : Int) ≤ (q : Int) := by omega
              have e2 : (q : Int) ≤ (q : Int) + 1 := by omega
              have e3 : (q : Int) + 1 ≤ (c5 : Int) := by omega
              have e4 : ((q : Int) + 1).toNat = q + 1 := by omega
              clear hz hcut hown hgl hgs
              unfold maxLen at hcap
              go_wp2_with fail
              refine AP.out.mono ?_
              rintro e w8 ⟨rfl, hA8, hT8⟩
              rw [NX.out] at hA8
              have A8 := Lib.hid hA8
              have T8 := Lib.hid (TQ.out.trans hT8 (fun x hx => .inl hx))
              clear hA8 hT8 AP NX
              go_wp2
              exact ⟨⟨q + 1, by go_num, by omega, A8.out, T8.out⟩, by simp [intOf]; omega⟩
            · obtain rfl : n = q := by omega
              obtain ⟨wM, rfl⟩ : ∃ x, x = wr := ⟨_, rfl⟩
              obtain ⟨C, hC⟩ : ∃ C, insL (zs.map Prod.fst) = C := ⟨_, rfl⟩
              have CN := Lib.hid (show C.Nodup by rw [← hC]; exact insL_nod _)
              have CA := Lib.hid (show ∀ a ∈ C, a ∈ all21 from fun a ha => by
                rw [← hC, mem_insL] at ha
                obtain ⟨z, hz, rfl⟩ := List.mem_map.1 ha
                exact (II.out.sub z hz).2)
              have CE := Lib.hid (show C ≠ [] from fun h => by
                have h2 : zs ≠ [] := fun h => by have := NB.out.2; rw [← ZL.out, h] at this; simp at this
                obtain ⟨z, r, hzr⟩ := List.exists_cons_of_ne_nil h2
                have h3 : z.1 ∈ insL (zs.map Prod.fst) := mem_insL.2 (List.mem_map.2 ⟨z, by rw [hzr]; simp, rfl⟩)
                rw [hC, h] at h3
                simp at h3)
              have hAM := AQ.out
              rw [List.take_of_length_le (by rw [List.length_map, ZL.out]; exact Nat.le_refl _), hC] at hAM
              have AM := Lib.hid hAM
              have KM := Lib.hid (KK.out.turns TQ.out (fun x hx => by rw [List.mem_singleton.1 hx]; have := MCF.out; have := BB.out.size; omega))
              have RMM := Lib.hid (show wM.heap[Hr]? = some (.cells #[.int .i64 3, .int .i64 1, .int .i64 77] 3 (0, 0)) from (TQ.out.block _ (Nat.lt_of_lt_of_le (lt_of_heap RM.out) BK.out.size) (fun hm => by have := List.mem_singleton.1 hm; have := MCF.out; have := HR.out; omega)).trans ((BK.out.block _ (lt_of_heap RM.out)).trans RM.out))
              have LVM := Lib.hid (show wM.heap[w.heap.size]? = some (.cells #[.int .i64 0, .int .i64 0, .int .i64 0] 3 (0, 0)) ∧ wM.heap[w.heap.size + 1]? = some (.cells cs2 62 (0, 0)) from by
                have h1 := MCF.out
                have h2 := LVL.out
                have ts : ∀ b, b < w3.heap.size → b ≠ mc → wM.heap[b]? = w3.heap[b]? := fun b hb hn => (TQ.out.block b (Nat.lt_of_lt_of_le (Nat.lt_of_lt_of_le hb BB.out.size) BK.out.size) (by simpa using hn)).trans ((BK.out.block b (Nat.lt_of_lt_of_le hb BB.out.size)).trans (BB.out.block b hb))
                exact ⟨(ts _ (by omega) (by omega)).trans h2.1.1, (ts _ (by omega) (by omega)).trans h2.1.2⟩)
              have BM := Lib.hid BQ.out
              have SMK := Lib.hid TQ.out.size
              have HRL := Lib.hid (show Hr < wA.heap.size from lt_of_heap RM.out)
              have SB := Lib.hid (fun y (hy : y ∈ ((Value.slice A5 n c5).ownBlock.toList ++ zs.flatMap fun z => z.2.ownBlock.toList)) => (show Hr ≤ y ∧ y < wA.heap.size by
                rcases List.mem_append.1 hy with h | h
                · have := ownBlock_cells II.out.row (b := y) (by simpa using h)
                  exact ⟨this.1, this.2.1⟩
                · obtain ⟨z, hz, hzb⟩ := List.mem_flatMap.1 h
                  have := ownBlock_cells (II.out.sub z hz).1 (b := y) (by simpa using hzb)
                  exact ⟨this.1, this.2.1⟩))
              clear hAM hC AQ TQ hq hqn AK RM AA II KK
              go_upto_region 24 with fail
              go_loopw [16] (fun i wr => ∃ q : Nat, i = .int .i64 (q : Int) ∧ q ≤ n ∧ Below wM.heap.size wM wr) (fun i _ => n - (intOf i).toNat)
              case atStart => exact ⟨0, rfl, Nat.zero_le _, Below.refl _ _⟩
              case round =>
                obtain ⟨q, rfl, hq, hb⟩ := hrel
                have BQ := Lib.hid hb
                clear hb
                by_cases hrn : q < n
                · obtain ⟨⟨x, sv⟩, hz⟩ : ∃ z, zs[q]? = some z := ⟨_, List.getElem?_eq_getElem (by rw [ZL.out]; exact hrn)⟩
                  have hzm := congrArg (fun L : List Ac => L[q]?) ZK2.out
                  simp only [List.getElem?_map, hz, Option.map_some, Option.map_eq_some_iff] at hzm
                  obtain ⟨⟨x', sv2⟩, hz2, hxx⟩ := hzm
                  simp only at hxx
                  subst hxx
                  obtain ⟨g, c', hA, -, hgs, p0, p1, p2⟩ := IQ.out.rd hz
                  simp only [Value.slice.injEq] at hA
                  obtain ⟨rfl, -, rfl⟩ := hA
                  obtain ⟨g2, c'', hA2, -, hgs2, r0, r1, r2⟩ := KM.out.rd hz2
                  simp only [Value.slice.injEq] at hA2
                  obtain ⟨rfl, -, rfl⟩ := hA2
                  obtain ⟨hsv, hsm⟩ := IQ.out.sub _ (List.mem_of_getElem? hz)
                  obtain ⟨hsv2, -⟩ := KM.out.sub _ (List.mem_of_getElem? hz2)
                  obtain ⟨A7, c7, hsf⟩ : ∃ A c, sv = .slice A x'.sub.length c := hsv.form
                  obtain ⟨A9, c9, hsf2⟩ : ∃ A c, sv2 = .slice A x'.sub.length c := hsv2.form
                  subst hsf hsf2
                  simp only at p1 p2 r1 r2 hsv hsv2 hsm
                  have hok := all21_ok hsm
                  have SX := Lib.hid (hsv.rsl (F := fun _ => True) (fun _ _ => trivial) hok.sub)
                  have SY := Lib.hid (hsv2.rsl (F := fun _ => True) (fun _ _ => trivial) hok.sub)
                  have KP := Lib.hid (fun (V : World) (hV : Below wM.heap.size wM V) => (show (V.cell? ⟨g, q * 3, none⟩ = some (.bool true) ∧ V.cell? ⟨g, q * 3 + 1, none⟩ = some (.int .i64 x'.rule) ∧ V.cell? ⟨g, q * 3 + 2, none⟩ = some (.slice A7 x'.sub.length c7) ∧ V.cell? ⟨g2, q * 3, none⟩ = some (.bool true) ∧ V.cell? ⟨g2, q * 3 + 1, none⟩ = some (.int .i64 x'.rule) ∧ V.cell? ⟨g2, q * 3 + 2, none⟩ = some (.slice A9 x'.sub.length c9)) from
                    ⟨(hV.cell (p := ⟨g, q * 3, none⟩) hgs).trans p0, (hV.cell (p := ⟨g, q * 3 + 1, none⟩) hgs).trans p1, (hV.cell (p := ⟨g, q * 3 + 2, none⟩) hgs).trans p2, (hV.cell (p := ⟨g2, q * 3, none⟩) hgs2).trans r0, (hV.cell (p := ⟨g2, q * 3 + 1, none⟩) hgs2).trans r1, (hV.cell (p := ⟨g2, q * 3 + 2, none⟩) hgs2).trans r2⟩))
                  have CX := Lib.hid (fun (V : World) (H1 H2 : Nat) (hV : Below wM.heap.size wM V) (h1 : V.heap[H1]? = some (.cells #[.int .i64 x'.rule, .slice A7 x'.sub.length c7] 30 (0, 0))) (h2 : V.heap[H2]? = some (.cells #[.int .i64 x'.rule, .slice A9 x'.sub.length c9] 30 (0, 0))) =>
                    actsW (F := fun _ => True) (F' := fun _ => True) (.slice (some ⟨H1, 0, none⟩) 1 1) (.slice (some ⟨H2, 0, none⟩) 1 1) [x'] V (one_actA h1 trivial hok.rule (SX.out.keep (Kp.of_below hV))) (one_actA h2 trivial hok.rule (SY.out.keep (Kp.of_below hV))))
                  have D0 : Below wM.heap.size wM wr.drew := BQ.out.drew
                  have D1 : Below wM.heap.size wM (wr.alloc (.cells #[.int .i64 x'.rule, .slice A7 x'.sub.length c7] 30)) := BQ.out.alloc BQ.out.size _
                  have D2 : Below wM.heap.size wM (wr.alloc (.cells #[.int .i64 x'.rule, .slice A9 x'.sub.length c9] 30)) := BQ.out.alloc BQ.out.size _
                  have BDA := Lib.hid (show Below wM.heap.size wM ((wr.alloc (.cells #[.int .i64 x'.rule, .slice A7 x'.sub.length c7] 30)).alloc (.cells #[.int .i64 x'.rule, .slice A9 x'.sub.length c9] 30)).drew from (D1.alloc D1.size _).drew)
                  have BDB := Lib.hid (show Below wM.heap.size wM ((wr.alloc (.cells #[.int .i64 x'.rule, .slice A9 x'.sub.length c9] 30)).alloc (.cells #[.int .i64 x'.rule, .slice A7 x'.sub.length c7] 30)).drew from (D2.alloc D2.size _).drew)
                  have CXA := Lib.hid (CX.out _ wr.heap.size (wr.heap.size + 1) BDA.out (by rw [heap_drew, heap_alloc_old _ _ (by simp)]; exact heap_alloc_new wr _) (by rw [heap_drew]; have := heap_alloc_new (wr.alloc (.cells #[.int .i64 x'.rule, .slice A7 x'.sub.length c7] 30)) (.cells #[.int .i64 x'.rule, .slice A9 x'.sub.length c9] 30); simpa using this))
                  have CXB := Lib.hid (CX.out _ (wr.heap.size + 1) wr.heap.size BDB.out (by rw [heap_drew]; have := heap_alloc_new (wr.alloc (.cells #[.int .i64 x'.rule, .slice A9 x'.sub.length c9] 30)) (.cells #[.int .i64 x'.rule, .slice A7 x'.sub.length c7] 30); simpa using this) (by rw [heap_drew, heap_alloc_old _ _ (by simp)]; exact heap_alloc_new wr _))
                  have hS0 := KP.out _ D0
                  have e1 : (0 : Int) ≤ (q : Int) := by omega
                  have e2 : (q : Int) < (n : Int) := by omega
                  clear hz hz2 hsv hsv2 hsm hok p0 p1 p2 r0 r1 r2 hgs hgs2
                  go_upto_region 26 with fail
                  go_region_held3 (fun V : World => V.cell? ⟨g, q * 3, none⟩ = some (.bool true) ∧ V.cell? ⟨g, q * 3 + 1, none⟩ = some (.int .i64 x'.rule) ∧ V.cell? ⟨g, q * 3 + 2, none⟩ = some (.slice A7 x'.sub.length c7) ∧ V.cell? ⟨g2, q * 3, none⟩ = some (.bool true) ∧ V.cell? ⟨g2, q * 3 + 1, none⟩ = some (.int .i64 x'.rule) ∧ V.cell? ⟨g2, q * 3 + 2, none⟩ = some (.slice A9 x'.sub.length c9))
                    (first | with_reducible exact hS0 | with_reducible exact KP.out _ D1 | with_reducible exact KP.out _ D2 | with_reducible exact KP.out _ D1.drew | with_reducible exact KP.out _ D2.drew | with_reducible exact KP.out _ BDA.out | with_reducible exact KP.out _ BDB.out | with_reducible exact KP.out _ B9)
                    (first
                      | (go_at_call 13; with_reducible refine CXA.out.mono ?_; rintro e' w9 ⟨rfl, hb9⟩; have B9 := BDA.out.trans (hb9.mono BDA.out.size); clear hb9)
                      | (go_at_call 13; with_reducible refine CXB.out.mono ?_; rintro e' w9 ⟨rfl, hb9⟩; have B9 := BDB.out.trans (hb9.mono BDB.out.size); clear hb9))
                  all_goals
                    have B9 := Lib.hid B9
                    clear CX CXA CXB BDA BDB D0 D1 D2 KP SX SY hS0
                    go_wp2
                    exact ⟨⟨q + 1, by go_num, by omega, B9.out⟩, by simp [intOf]; omega⟩
                · obtain rfl : n = q := by omega
                  obtain ⟨wO, rfl⟩ : ∃ x, x = wr := ⟨_, rfl⟩
                  have OV0 := Lib.hid ((IQ.out.below BQ.out).over NE.out (cell_of_row _ _ 2 _ _ _ ((BQ.out.block _ (lt_of_heap RMM.out)).trans RMM.out)))
                  have AO := Lib.hid (AM.out.below BQ.out)
                  have LVO := Lib.hid (And.intro ((BQ.out.block _ (lt_of_heap LVM.out.1)).trans LVM.out.1) ((BQ.out.block _ (lt_of_heap LVM.out.2)).trans LVM.out.2))
                  have hMO : w3.heap.size ≤ wA.heap.size ∧ wA.heap.size ≤ wK.heap.size ∧ wK.heap.size ≤ wO.heap.size := ⟨BB.out.size, BK.out.size, Nat.le_trans SMK.out BQ.out.size⟩
                  have BO := Lib.hid (BM.out.trans (BQ.out.mono BM.out.size))
                  clear IQ BQ AM RMM LVM KM hq hrn ZK2
                  go_upto_region 29 with fail
                  go_loopw [17] (fun i wr => ∃ q : Nat, i = .int .i64 (q : Int) ∧ q ≤ n ∧ OvSt Hr Hr (.slice A5 n c5) zs wO wr) (fun i _ => n - (intOf i).toNat)
                  case atStart => exact ⟨0, rfl, Nat.zero_le _, OV0.out⟩
                  case round =>
                    obtain ⟨q, rfl, hq, hov⟩ := hrel
                    have OV := Lib.hid hov
                    clear hov
                    by_cases hon : q < n
                    · obtain ⟨⟨x, sv⟩, hz⟩ : ∃ z, zs[q]? = some z := ⟨_, List.getElem?_eq_getElem (by rw [ZL.out]; exact hon)⟩
                      have HZ := Lib.hid hz
                      obtain ⟨g, c', u, hA, y1, y2, -, hst⟩ := OV.out.rule hz
                      simp only [Value.slice.injEq] at hA
                      obtain ⟨rfl, -, rfl⟩ := hA
                      have OV1 := Lib.hid (hst (.int .i64 1))
                      have htwo : x.sub.length ≤ 2 := OV.out.two _ (List.mem_of_getElem? hz)
                      obtain ⟨csv, hsvo⟩ := OV.out.sub _ (List.mem_of_getElem? hz)
                      obtain ⟨A7, c7, hsf⟩ : ∃ A c, sv = .slice A x.sub.length c := own_form1 hsvo
                      subst hsf
                      have e1 : (0 : Int) ≤ (q : Int) := by omega
                      have e2 : (q : Int) < (n : Int) := by omega
                      clear hz hst hsvo OV
                      go_upto_region 33 with fail
                      obtain ⟨wS, hwS⟩ : ∃ wS, wS = wr.setCell ⟨g, q * 3 + 1, none⟩ (.int .i64 1) := ⟨_, rfl⟩
                      rw [← hwS] at OV1 ⊢
                      clear hwS y1 y2
                      go_loopw [18] (fun jv wr => ∃ r : Nat, jv = .int .i64 (r : Int) ∧ r ≤ x.sub.length ∧ OvSt Hr Hr (.slice (some ⟨g, 0, none⟩) n c5) zs wO wr) (fun jv _ => x.sub.length - (intOf jv).toNat)
                      case atStart => exact ⟨0, rfl, Nat.zero_le _, OV1.out⟩
                      case round =>
                        obtain ⟨r, rfl, hr, hov⟩ := hrel
                        obtain ⟨g', c', u, hA, -, -, y3, -⟩ := hov.rule HZ.out
                        simp only [Value.slice.injEq, Option.some.injEq, Addr.mk.injEq] at hA
                        obtain ⟨⟨rfl, -, -⟩, -, -⟩ := hA
                        simp only at y3
                        by_cases hrl : r < x.sub.length
                        · obtain ⟨g7, c'', u7, hs7, v1, v2, hst⟩ := hov.elt HZ.out hrl
                          simp only [Value.slice.injEq] at hs7
                          obtain ⟨rfl, -, rfl⟩ := hs7
                          have OVN := Lib.hid (hst (.int .i64 0))
                          have f1 : (0 : Int) ≤ (r : Int) := by omega
                          have f2 : (r : Int) < (x.sub.length : Int) := by omega
                          clear hov hst
                          go_wp2
                          exact ⟨⟨r + 1, by go_num, by omega, OVN.out⟩, by simp [intOf]; omega⟩
                        · obtain rfl : r = x.sub.length := by omega
                          have OVN := Lib.hid hov
                          clear hov
                          go_wp2
                          exact ⟨⟨q + 1, by go_num, by omega, OVN.out⟩, by simp [intOf]; omega⟩
                    · obtain rfl : n = q := by omega
                      obtain ⟨wP, rfl⟩ : ∃ x, x = wr := ⟨_, rfl⟩
                      have SB2 := Lib.hid (fun y hy => (show w3.heap.size ≤ y ∧ y < wK.heap.size by have := SB.out y hy; have := HR.out; omega))
                      have APP := Lib.hid (AO.out.step OV.out.T (fun y hy => by
                        have h1 := SB2.out y hy
                        have h2 := MCF.out
                        exact ⟨(mem_mm (by omega)).2 (.inr h1), by omega, by omega⟩) (fun _ h => h) (fun _ h => .inl h))
                      have LVP := Lib.hid (show wP.heap[w.heap.size]? = some (.cells #[.int .i64 0, .int .i64 0, .int .i64 0] 3 (0, 0)) ∧ wP.heap[w.heap.size + 1]? = some (.cells cs2 62 (0, 0)) from by
                        have h2 := LVL.out
                        have h3 := MCF.out
                        exact ⟨(OV.out.T.block _ (lt_of_heap LVO.out.1) (fun hm => by have := SB2.out _ hm; omega)).trans LVO.out.1, (OV.out.T.block _ (lt_of_heap LVO.out.2) (fun hm => by have := SB2.out _ hm; omega)).trans LVO.out.2⟩)
                      have R77 := Lib.hid OV.out.r77
                      have BP := Lib.hid (BO.out.trans (OV.out.T.below BO.out.size (fun y hy => by have := SB2.out y hy; have := MCF.out; omega)))
                      have SP := Lib.hid OV.out.T.size
                      clear OV AO LVO BO OV0 hq hon
                      go_upto_region 37 with fail
                      go_loopw [19] (fun i wr => ∃ q : Nat, i = .int .i64 (q : Int) ∧ q ≤ 3 ∧ (∃ cur : Array Value, cur.size = 3 ∧ wr.heap[w.heap.size]? = some (.cells cur 3 (0, 0))) ∧ Turns [w.heap.size] wP wr) (fun i _ => 3 - (intOf i).toNat)
                      case atStart => exact ⟨0, rfl, Nat.zero_le _, ⟨_, rfl, LVP.out.1⟩, Turns.refl _ _⟩
                      case round =>
                        obtain ⟨q, rfl, hq, ⟨cur, hcs, hrow⟩, hT⟩ := hrel
                        have TQ := Lib.hid hT
                        have RQ := Lib.hid hrow
                        clear hT
                        by_cases hqn : q < 3
                        · obtain ⟨u, hu⟩ : ∃ u, cur[q]? = some u := ⟨_, Array.getElem?_eq_getElem (by omega)⟩
                          have y1 : wr.cell? ⟨w.heap.size, q, none⟩ = some u := (cell_of_row _ _ q _ _ _ hrow).trans hu
                          have y2 : wr.frozen? ⟨w.heap.size, q, none⟩ = false := frozen_of_row _ _ _ _ _ hrow
                          have FIN := Lib.hid (fun (u : Value) => (show (∃ cur : Array Value, cur.size = 3 ∧ (wr.setCell ⟨w.heap.size, q, none⟩ u).heap[w.heap.size]? = some (.cells cur 3 (0, 0))) ∧ Turns [w.heap.size] wP (wr.setCell ⟨w.heap.size, q, none⟩ u) from
                            ⟨⟨_, by simp [hcs], heap_setCell_same _ _ q _ _ _ RQ.out⟩, TQ.out.setCell (.inl (by simp)) _⟩))
                          have e1 : (0 : Int) ≤ (q : Int) := by omega
                          have e2 : (q : Int) < 3 := by omega
                          clear hcs hrow hu
                          go_wp2
                          exact ⟨⟨q + 1, by go_num, by omega, FIN.out _⟩, by simp [intOf]; omega⟩
                        · obtain rfl : q = 3 := by omega
                          obtain ⟨wQ, rfl⟩ : ∃ x, x = wr := ⟨_, rfl⟩
                          have RLV := Lib.hid hrow
                          have LVQ := Lib.hid (show wQ.heap[w.heap.size + 1]? = some (.cells cs2 62 (0, 0)) from (TQ.out.block _ (lt_of_heap LVP.out.2) (by simp)).trans LVP.out.2)
                          clear hq hqn hrow hcs
                          go_upto_region 41 with fail
                          go_loopw [20] (fun i wr => ∃ q : Nat, i = .int .i64 (q : Int) ∧ q ≤ 4 ∧ (∃ cur : Array Value, cur.size = 12 ∧ wr.heap[w.heap.size + 1]? = some (.cells cur 62 (0, 0))) ∧ Turns [w.heap.size + 1] wQ wr) (fun i _ => 4 - (intOf i).toNat)
                          case atStart => exact ⟨0, rfl, Nat.zero_le _, ⟨_, LVL.out.2.2.2.2, LVQ.out⟩, Turns.refl _ _⟩
                          case round =>
                            obtain ⟨q, rfl, hq, ⟨cur, hcs, hrow⟩, hT⟩ := hrel
                            have TC := Lib.hid hT
                            have RQ2 := Lib.hid hrow
                            clear hT
                            by_cases hqf : q < 4
                            · obtain ⟨u0, hu0⟩ : ∃ u, cur[q * 3]? = some u := ⟨_, Array.getElem?_eq_getElem (by omega)⟩
                              obtain ⟨u1, hu1⟩ : ∃ u, cur[q * 3 + 1]? = some u := ⟨_, Array.getElem?_eq_getElem (by omega)⟩
                              obtain ⟨u2, hu2⟩ : ∃ u, cur[q * 3 + 2]? = some u := ⟨_, Array.getElem?_eq_getElem (by omega)⟩
                              have y0 : wr.cell? ⟨w.heap.size + 1, q * 3, none⟩ = some u0 := (cell_of_row _ _ _ _ _ _ hrow).trans hu0
                              have y1 : wr.cell? ⟨w.heap.size + 1, q * 3 + 1, none⟩ = some u1 := (cell_of_row _ _ _ _ _ _ hrow).trans hu1
                              have y2 : wr.cell? ⟨w.heap.size + 1, q * 3 + 2, none⟩ = some u2 := (cell_of_row _ _ _ _ _ _ hrow).trans hu2
                              have z0 : wr.frozen? ⟨w.heap.size + 1, q * 3, none⟩ = false := frozen_of_row _ _ _ _ _ hrow
                              have z1 : wr.frozen? ⟨w.heap.size + 1, q * 3 + 1, none⟩ = false := frozen_of_row _ _ _ _ _ hrow
                              have z2 : wr.frozen? ⟨w.heap.size + 1, q * 3 + 2, none⟩ = false := frozen_of_row _ _ _ _ _ hrow
                              have FIN := Lib.hid (fun (v0 v1 v2 : Value) => (show (∃ cur : Array Value, cur.size = 12 ∧ (((wr.setCell ⟨w.heap.size + 1, q * 3, none⟩ v0).setCell ⟨w.heap.size + 1, q * 3 + 1, none⟩ v1).setCell ⟨w.heap.size + 1, q * 3 + 2, none⟩ v2).heap[w.heap.size + 1]? = some (.cells cur 62 (0, 0))) ∧ Turns [w.heap.size + 1] wQ (((wr.setCell ⟨w.heap.size + 1, q * 3, none⟩ v0).setCell ⟨w.heap.size + 1, q * 3 + 1, none⟩ v1).setCell ⟨w.heap.size + 1, q * 3 + 2, none⟩ v2) from
                                ⟨⟨_, by simp [hcs], heap_setCell_same _ _ _ _ _ _ (heap_setCell_same _ _ _ _ _ _ (heap_setCell_same _ _ _ _ _ _ RQ2.out))⟩, ((TC.out.setCell (.inl (by simp)) _).setCell (.inl (by simp)) _).setCell (.inl (by simp)) _⟩))
                              have e1 : (0 : Int) ≤ (q : Int) := by omega
                              have e2 : (q : Int) < 4 := by omega
                              clear hcs hrow hu0 hu1 hu2
                              go_wp2
                              exact ⟨⟨q + 1, by go_num, by omega, FIN.out _ _ _⟩, by simp [intOf]; omega⟩
                            · obtain rfl : q = 4 := by omega
                              obtain ⟨wR, rfl⟩ : ∃ x, x = wr := ⟨_, rfl⟩
                              have hl3 := LVL.out
                              have hm3 := MCF.out
                              have hr3 := HR.out
                              have hr4 := HRL.out
                              have hsP := SP.out
                              have hsQ := TQ.out.size
                              have hsR := TC.out.size
                              obtain ⟨M9, hM9⟩ : ∃ M9, mm M3 w3.heap.size wK.heap.size = M9 := ⟨_, rfl⟩
                              have hAP := APP.out
                              rw [hM9] at hAP
                              have hmL : w.heap.size ∈ M9 ∧ w.heap.size + 1 ∈ M9 := by rw [← hM9]; exact ⟨(mem_mm (by omega)).2 (.inl hl3.2.1.1), (mem_mm (by omega)).2 (.inl hl3.2.1.2)⟩
                              have hAR := (hAP.step TQ.out (fun x hx => by rw [List.mem_singleton.1 hx]; exact ⟨hmL.1, by omega, by omega⟩) (fun _ h => h) (fun _ h => .inl h)).step TC.out (fun x hx => by rw [List.mem_singleton.1 hx]; exact ⟨hmL.2, by omega, by omega⟩) (fun _ h => h) (fun _ h => .inl h)
                              have ST0 := Lib.hid (show ApSt w M9 wR.heap.size p mc mf Hr ⟨[0, 0, 0], fourL, C, []⟩ n wR from
                                ⟨hAR.more, (TC.out.cell (by omega) (by simp; omega)).trans ((TQ.out.cell (by omega) (by simp; omega)).trans R77.out), Nat.le_refl _, BP.out.trans ((TQ.out.below BP.out.size (fun x hx => by rw [List.mem_singleton.1 hx]; omega)).trans (TC.out.below (by have := BP.out.size; omega) (fun x hx => by rw [List.mem_singleton.1 hx]; omega))), ⟨by omega, by omega, by omega, by omega⟩, fun x hx => by
                                  rw [← hM9] at hx
                                  rcases (mem_mm (by omega)).1 hx with h | h
                                  · have := ML3.out x h; omega
                                  · omega⟩)
                              have MF := Lib.hid (show w.heap.size ≤ mf ∧ mf ≠ Hr by omega)
                              obtain ⟨L, hL⟩ : ∃ L, sortA fourL C = L := ⟨_, rfl⟩
                              have AE := Lib.hid (show AllE ⟨[0, 0, 0], fourL, C, []⟩ L by rw [← hL]; exact allE CE.out CA.out CN.out)
                              have LU := Lib.hid (fun (i : Nat) (x y : Ac) (hx : L[i]? = some x) (hy : L[i + 1]? = some y) => (show numA x < numA y by rw [← hL] at hx hy; exact num_rise CA.out CN.out hx hy))
                              have LM := Lib.hid (fun a => (show a ∈ L ↔ a ∈ C by rw [← hL]; exact sort_mem))
                              have LA := Lib.hid (fun a (ha : a ∈ L) => CA.out a ((LM.out a).1 ha))
                              have hL0 : 0 < L.length ∧ L.length ≤ 21 := by
                                rw [← hL, (sortA_perm fourL C).length_eq]
                                exact ⟨List.length_pos_iff.2 CE.out, all21_len CA.out CN.out⟩
                              clear hl3 hm3 hr3 hr4 hsP hsQ hsR hAP hmL hAR hM9 hL TC TQ APP R77 BP SP hMO hq hqf RLV LVQ LVP LVL MCF HR SB SB2 BK BB BW B3 ML3 RQ RQ2 hcs hrow
                              have EL := Lib.hid (fun (V : World) (hV : ApSt w M9 wR.heap.size p mc mf Hr ⟨[0, 0, 0], fourL, C, []⟩ n V) => (AE.out.el ▸ eligibleW V hV.ag AE.out.len : Calls Tryd.prog 14 #[.pointer (some ⟨p, 0, none⟩)] V (LstRes L V)))
                              have CF := Lib.hid (fun (V : World) (hV : ApSt w M9 wR.heap.size p mc mf Hr ⟨[0, 0, 0], fourL, C, []⟩ n V) => (AE.out.cf ▸ conflictW V hV.ag AE.out.len : Calls Tryd.prog 15 #[.pointer (some ⟨p, 0, none⟩)] V (LstRes L V)))
                              have SC := Lib.hid (fun (V : World) (hV : ApSt w M9 wR.heap.size p mc mf Hr ⟨[0, 0, 0], fourL, C, []⟩ n V) => (AE.out.st ▸ stratumW V hV.ag : Calls Tryd.prog 12 #[.pointer (some ⟨p, 0, none⟩)] V fun e w' => e = .returned (.int .i64 0) ∧ Below V.heap.size V w'))
                              have TK := Lib.hid (fun (V : World) (hV : ApSt w M9 wR.heap.size p mc mf Hr ⟨[0, 0, 0], fourL, C, []⟩ n V) => (show Calls Tryd.prog 24 #[.pointer (some ⟨p, 0, none⟩), .int .i64 0] V (LstRes L V) from by
                                have := taken2W 0 V hV.ag AE.out.len (Nat.le_trans (eligLen _) AE.out.len)
                                rw [tkn_zero, AE.out.el] at this
                                exact this))
                              go_wp2_with fail
                              refine (EL.out _ ST0.out).mono ?_
                              intro e wa hr
                              obtain ⟨Ae, ce, ze, rfl, hze, hme, hba⟩ := hr.both
                              have ZE := Lib.hid hze
                              have ME := Lib.hid hme
                              have BA := Lib.hid hba
                              have ST1 := Lib.hid (ST0.out.below hba)
                              clear hr hze hme hba
                              go_wp2_with fail
                              refine (EL.out _ ST1.out).mono ?_
                              intro e wb hr
                              obtain ⟨Af, cf, zf, rfl, hze, hme, hba⟩ := hr.both
                              have ZF := Lib.hid hze
                              have MFf := Lib.hid hme
                              have BB := Lib.hid hba
                              have ST2 := Lib.hid (ST1.out.below hba)
                              clear hr hze hme hba
                              go_wp2_with fail
                              refine (CF.out _ ST2.out).mono ?_
                              intro e wc hr
                              obtain ⟨Ac', cc, zc, rfl, hze, hme, hba⟩ := hr.both
                              have ZC := Lib.hid hze
                              have MC := Lib.hid hme
                              have BC := Lib.hid hba
                              have ST3 := Lib.hid (ST2.out.below hba)
                              clear hr hze hme hba
                              go_wp2_with fail
                              refine (CF.out _ ST3.out).mono ?_
                              intro e wd hr
                              obtain ⟨Ad, cd, zd, rfl, hze, hme, hba⟩ := hr.both
                              have ZD := Lib.hid hze
                              have MD := Lib.hid hme
                              have BD := Lib.hid hba
                              have ST4 := Lib.hid (ST3.out.below hba)
                              clear hr hze hme hba
                              go_wp2_with fail
                              refine (TK.out _ ST4.out).mono ?_
                              intro e we hr
                              obtain ⟨Aq, cq, zq, rfl, hze, hme, hba⟩ := hr.both
                              have ZQ := Lib.hid hze
                              have MQ := Lib.hid hme
                              have BE := Lib.hid hba
                              have ST5 := Lib.hid (ST4.out.below hba)
                              have BAE := Lib.hid (BB.out.trans ((BC.out.trans ((BD.out.trans (hba.mono BD.out.size)).mono BC.out.size)).mono BB.out.size))
                              have CP := Lib.hid (lcopiedW (F := fun _ => True) (.slice Ae L.length ce) L we ((ZE.out.below BAE.out).rslT ME.out) (by omega) (fun a ha => all21_ok (LA.out a ha)))
                              clear hr hze hme hba TK
                              go_wp2_with fail
                              refine CP.out.mono ?_
                              intro e wf hr
                              obtain ⟨Aw, cw, zw, rfl, hze, hme, hba⟩ := hr.both
                              obtain ⟨gw, cw', hAw, -⟩ := hze.rd (i := 0) (z := zw[0]'(by have := congrArg List.length hme; rw [List.length_map] at this; omega)) (List.getElem?_eq_getElem _)
                              simp only [Value.slice.injEq] at hAw
                              obtain ⟨rfl, -, rfl⟩ := hAw
                              have ZW := Lib.hid hze
                              have MW := Lib.hid hme
                              have BF := Lib.hid hba
                              have ST6 := Lib.hid (ST5.out.below hba)
                              clear hr hze hme hba CP
                              have hne : ((L.length : Int) == 0) = false := beq_false_of_ne (by omega)
                              have BBW := Lib.hid (BC.out.trans ((BD.out.trans ((BE.out.trans (BF.out.mono BE.out.size)).mono BD.out.size)).mono BC.out.size))
                              have BCW := Lib.hid (BD.out.trans ((BE.out.trans (BF.out.mono BE.out.size)).mono BD.out.size))
                              have BDW := Lib.hid (BE.out.trans (BF.out.mono BE.out.size))
                              have CA1 := Lib.hid (zs_acts (ZF.out.below BBW.out) MFf.out ZW.out MW.out)
                              go_wp2_with fail
                              refine CA1.out.mono ?_
                              rintro e g1 ⟨rfl, hb1⟩
                              have CA2 := Lib.hid (zs_acts ((ZC.out.below BCW.out).below hb1) MC.out (ZW.out.below hb1) MW.out)
                              have G1 := Lib.hid hb1
                              clear hb1 CA1
                              go_wp2_with fail
                              refine CA2.out.mono ?_
                              rintro e g2 ⟨rfl, hb2⟩
                              have G2 := Lib.hid (G1.out.trans (hb2.mono G1.out.size))
                              have CA3 := Lib.hid (zs_acts ((ZD.out.below BDW.out).below G2.out) MD.out (ZW.out.below G2.out) MW.out)
                              clear hb2 CA2 G1
                              go_wp2_with fail
                              refine CA3.out.mono ?_
                              rintro e g3 ⟨rfl, hb3⟩
                              have G3 := Lib.hid (G2.out.trans (hb3.mono G2.out.size))
                              have CA4 := Lib.hid (zs_acts ((ZQ.out.below BF.out).below G3.out) MQ.out (ZW.out.below G3.out) MW.out)
                              clear hb3 CA3 G2
                              go_wp2_with fail
                              refine CA4.out.mono ?_
                              rintro e g4 ⟨rfl, hb4⟩
                              have G4 := Lib.hid (G3.out.trans (hb4.mono G3.out.size))
                              clear hb4 CA4 G3
                              go_wp2_with fail
                              refine (SC.out _ (ST6.out.below G4.out)).mono ?_
                              rintro e g5 ⟨rfl, hb5⟩
                              have G5 := Lib.hid (G4.out.trans (hb5.mono G4.out.size))
                              clear hb5 G4 hne
                              go_upto_region 54 with fail
                              go_loopw [28, 29, 30] (fun i pv ov wr => ∃ k : Nat, i = .int .i64 ((k : Int) + 1) ∧ k + 1 ≤ L.length ∧ Below wf.heap.size wf wr) (fun i _ _ _ => L.length - (intOf i).toNat)
                              case atStart => exact ⟨0, rfl, hL0.1, G5.out⟩
                              case round =>
                                obtain ⟨k, rfl, hk, hb⟩ := hrel
                                have BQ := Lib.hid hb
                                clear hb
                                by_cases hkl : k + 1 < L.length
                                · obtain ⟨x, hx⟩ : ∃ x, L[k]? = some x := ⟨_, List.getElem?_eq_getElem (by omega)⟩
                                  obtain ⟨y, hy⟩ : ∃ y, L[k + 1]? = some y := ⟨_, List.getElem?_eq_getElem (by omega)⟩
                                  have hxy := LU.out k x y hx hy
                                  have hrs := (ZW.out.below BQ.out).rslT MW.out
                                  have hcap : L.length ≤ cw ∧ cw ≤ maxLen := by
                                    obtain ⟨A', c2, e1, e2, e3, _⟩ := hrs
                                    simp only [Value.slice.injEq] at e1
                                    omega
                                  unfold maxLen at hcap
                                  have hcut := RSl.cut hrs (i := k) (j := k + 2) (by omega) (by omega)
                                  rw [two_cut hx hy, show k + 2 - k = 2 by omega, Nat.zero_add] at hcut
                                  have NW := Lib.hid (numbersW _ [x, y] wr hcut (fun a ha => by
                                    simp only [List.mem_cons, List.not_mem_nil, or_false] at ha
                                    rcases ha with rfl | rfl
                                    · exact LA.out _ (List.mem_of_getElem? hx)
                                    · exact LA.out _ (List.mem_of_getElem? hy)) (by simp))
                                  have e1 : (0 : Int) ≤ (k : Int) := by omega
                                  have e2 : (k : Int) ≤ (k : Int) + 1 + 1 := by omega
                                  have e3 : (k : Int) + 1 + 1 ≤ (cw : Int) := by omega
                                  have e4 : ((k : Int) + 1 + 1).toNat = k + 2 := by omega
                                  have e5 : (k : Int) + 1 < (L.length : Int) := by omega
                                  clear hx hy hrs hcut
                                  go_wp2_with fail
                                  refine NW.out.mono ?_
                                  rintro e w9 ⟨pv, rfl, hpo, hb9⟩
                                  obtain ⟨gp, cp, u0, hpv, -, -, hu0, p0, -⟩ := own_cell (show w9.ownsRow wr.heap.size 3 1 pv 2 (intVs (zN [numA x, numA y])) from hpo) (i := 0) (by omega)
                                  obtain ⟨gp', cp', u1, hpv', -, -, hu1, p1, -⟩ := own_cell (show w9.ownsRow wr.heap.size 3 1 pv 2 (intVs (zN [numA x, numA y])) from hpo) (i := 1) (by omega)
                                  subst hpv
                                  simp only [Value.slice.injEq, Option.some.injEq, Addr.mk.injEq] at hpv'
                                  obtain ⟨⟨rfl, -, -⟩, -, -⟩ := hpv'
                                  simp only [zN, intVs, List.map_cons, List.map_nil, List.getElem?_cons_zero, List.getElem?_cons_succ, Option.some.injEq] at hu0 hu1
                                  subst hu0 hu1
                                  have B9 := Lib.hid (BQ.out.trans (hb9.mono BQ.out.size))
                                  have hlt : ((numA x : Nat) : Int) < ((numA y : Nat) : Int) := by omega
                                  obtain ⟨nx, hnx⟩ : ∃ nx : Int, ((numA x : Nat) : Int) = nx := ⟨_, rfl⟩
                                  obtain ⟨ny, hny⟩ : ∃ ny : Int, ((numA y : Nat) : Int) = ny := ⟨_, rfl⟩
                                  rw [hnx] at hlt p0
                                  rw [hny] at hlt p1
                                  have hge : decide (ny ≤ nx) = false := decide_eq_false (by omega)
                                  have hge2 : decide (nx ≥ ny) = false := hge
                                  have hS0 : w9.drew.cell? ⟨gp, 0, none⟩ = some (.int .i64 nx) ∧ w9.drew.cell? ⟨gp, 1, none⟩ = some (.int .i64 ny) := ⟨p0, p1⟩
                                  clear hpo hb9 hxy hnx hny NW p0 p1
                                  go_upto_region 57 with fail
                                  go_region_held3 (fun V : World => V.cell? ⟨gp, 0, none⟩ = some (.int .i64 nx) ∧ V.cell? ⟨gp, 1, none⟩ = some (.int .i64 ny)) (with_reducible exact hS0) (fail)
                                  all_goals
                                    clear hS0
                                    trace_state
                                    go_wp2
                                    exact ⟨⟨k + 1, by go_num, by omega, B9.out.drew⟩, by simp [intOf]; omega⟩
                                · obtain ⟨t0, rfl⟩ : ∃ x, x = wr := ⟨_, rfl⟩
                                  have ST7 := Lib.hid (ST6.out.below BQ.out)
                                  obtain ⟨t1, ht1⟩ : ∃ t1, t1 = t0.alloc (.cells #[.slice Ae L.length ce, .slice Af L.length cf, .slice Ac' L.length cc, .slice Ad L.length cd, .slice Aq L.length cq] 23) := ⟨_, rfl⟩
                                  have hb1 : Below t0.heap.size t0 t1 := by rw [ht1]; exact (Below.refl _ _).alloc (Nat.le_refl _) _
                                  have hr1 : t1.heap[t0.heap.size]? = some (.cells #[.slice Ae L.length ce, .slice Af L.length cf, .slice Ac' L.length cc, .slice Ad L.length cd, .slice Aq L.length cq] 23 (0, 0)) := by rw [ht1]; exact heap_alloc_new t0 _
                                  have BW1 : Below we.heap.size we t1 := BF.out.trans ((BQ.out.trans (hb1.mono BQ.out.size)).mono BF.out.size)
                                  have hLS := ls5 BA.out BB.out BC.out BD.out BE.out BW1 ZE.out ZF.out ZC.out ZD.out ZQ.out
                                  have hwe : we.heap.size ≤ t0.heap.size := Nat.le_trans BF.out.size BQ.out.size
                                  have hlen : ∀ zs' : List (Ac × Value), zs'.map Prod.fst = L → zs'.length = L.length := fun zs' h => by rw [← h, List.length_map]
                                  have LW := Lib.hid (listsW 5 t0.heap.size _ _ _ t1 hLS (five (cell_of_row _ _ 0 _ _ _ hr1) (cell_of_row _ _ 1 _ _ _ hr1) (cell_of_row _ _ 2 _ _ _ hr1) (cell_of_row _ _ 3 _ _ _ hr1) (cell_of_row _ _ 4 _ _ _ hr1)) (lt_of_heap hr1) (fun b _ hb => by
                                    have : b < we.heap.size := hb
                                    omega) (by decide) (by
                                      rw [cat_five]
                                      simp only [List.length_append]
                                      rw [hlen _ ME.out, hlen _ MFf.out, hlen _ MC.out, hlen _ MD.out, hlen _ MQ.out]
                                      omega) (fun z hz => by
                                      have hz2 : z.1 ∈ L := by
                                        rw [cat_five] at hz
                                        simp only [List.mem_append] at hz
                                        rcases hz with hz | hz | hz | hz | hz
                                        · rw [← ME.out]; exact List.mem_map.2 ⟨z, hz, rfl⟩
                                        · rw [← MFf.out]; exact List.mem_map.2 ⟨z, hz, rfl⟩
                                        · rw [← MC.out]; exact List.mem_map.2 ⟨z, hz, rfl⟩
                                        · rw [← MD.out]; exact List.mem_map.2 ⟨z, hz, rfl⟩
                                        · rw [← MQ.out]; exact List.mem_map.2 ⟨z, hz, rfl⟩
                                      obtain ⟨⟨_, h2⟩, h3, _⟩ := all21_facts (LA.out _ hz2)
                                      omega))
                                  have WH := Lib.hid (show ∀ x ∈ _, wR.heap.size ≤ x ∧ x < we.heap.size from hLS.where)
                                  have ST8 := Lib.hid (ST7.out.below hb1)
                                  have ZW8 := Lib.hid ((ZW.out.below BQ.out).below hb1)
                                  clear hb1 hr1 BW1 hLS hwe hlen BQ ZE ZF ZC ZD ZQ ME MFf MC MD MQ BA BB BC BD BE BF BBW BCW BDW BAE ST0 ST1 ST2 ST3 ST4 ST5 ST6 ST7 G5 ZW LU
                                  go_wp2_with fail
                                  rw [← ht1]
                                  clear ht1
                                  refine LW.out.mono ?_
                                  rintro e t2 ⟨rfl, hT2⟩
                                  have ST9 := Lib.hid (ST8.out.turns hT2 (fun x hx => (WH.out x hx).1))
                                  have ZW9 := Lib.hid (ZW8.out.keep hT2 (fun x hx => .inl (WH.out x hx).2))
                                  have WW := Lib.hid (withinW (F := fun _ => True) t2 ST9.out.ag AE.out (ZW9.out.rslT MW.out))
                                  clear hT2 LW WH ST8 ZW8
                                  go_wp2_with fail
                                  refine WW.out.mono ?_
                                  rintro e t3 ⟨rfl, hb3⟩
                                  have ST10 := Lib.hid (ST9.out.below hb3)
                                  have ZW10 := Lib.hid (ZW9.out.below hb3)
                                  clear hb3 WW ST9 ZW9
                                  have PW := Lib.hid (fun (V : World) (hV : ApSt w M9 wR.heap.size p mc mf Hr ⟨[0, 0, 0], fourL, C, []⟩ n V) => (show Calls Tryd.prog 29 #[.pointer (some ⟨p, 0, none⟩), .int .i64 pick] V (PckRes2 L pick V) from by
                                    have := pick2W pick HP.out V hV.ag AE.out.len (by rw [AE.out.el]; intro h; rw [h] at hL0; simp at hL0)
                                    rw [AE.out.el] at this
                                    exact this))
                                  go_wp2_with fail
                                  refine (PW.out _ ST10.out).mono ?_
                                  rintro e t4 ⟨x, sv, rfl, ⟨hso, hxo⟩, hb4, hx⟩
                                  obtain ⟨Ax, cx, rfl⟩ := hso.form
                                  have SVB := Lib.hid (fun y (hy : y ∈ (Value.slice Ax x.sub.length cx).ownBlock.toList) => (show t3.heap.size ≤ y ∧ y < t4.heap.size from ⟨(ownBlock_cells hso (by simpa using hy)).1, (ownBlock_cells hso (by simpa using hy)).2.1⟩))
                                  have S3R := Lib.hid ST10.out.le
                                  have HX := Lib.hid hx
                                  have HXO := Lib.hid hxo
                                  have HXM := Lib.hid (show x ∈ all21 from LA.out _ (List.mem_of_getElem? hx))
                                  have HXC := Lib.hid ((LM.out x).1 (List.mem_of_getElem? hx))
                                  obtain ⟨t5, ht5⟩ : ∃ t5, t5 = t4.alloc (.cells #[.int .i64 x.rule, .slice Ax x.sub.length cx] 30) := ⟨_, rfl⟩
                                  have hb5 : Below t4.heap.size t4 t5 := by rw [ht5]; exact (Below.refl _ _).alloc (Nat.le_refl _) _
                                  have hr5 : t5.heap[t4.heap.size]? = some (.cells #[.int .i64 x.rule, .slice Ax x.sub.length cx] 30 (0, 0)) := by rw [ht5]; exact heap_alloc_new t4 _
                                  have ht5s := Lib.hid (show t5.heap.size = t4.heap.size + 1 by rw [ht5]; simp)
                                  have SV5 := Lib.hid (hso.below hb5)
                                  have B35 := Lib.hid (hb4.trans (hb5.mono hb4.size))
                                  have ST11 := Lib.hid (ST10.out.below B35.out)
                                  have R5 := Lib.hid hr5
                                  have S45 := Lib.hid hb4.size
                                  clear hso hxo hb4 hx hb5 hr5
                                  go_upto_region 62 with fail
                                  rw [← ht5]
                                  clear ht5
                                  go_wp2_with fail
                                  refine (PW.out _ ST11.out).mono ?_
                                  rintro e t6 ⟨x2, sv2, rfl, ⟨hso, -⟩, hb6, hx2⟩
                                  obtain rfl : x = x2 := Option.some.inj (HX.out.symm.trans hx2)
                                  obtain ⟨Ay, cy, rfl⟩ := hso.form
                                  have SYB := Lib.hid (fun y (hy : y ∈ (Value.slice Ay x.sub.length cy).ownBlock.toList) => (show t5.heap.size ≤ y ∧ y < t6.heap.size from ⟨(ownBlock_cells hso (by simpa using hy)).1, (ownBlock_cells hso (by simpa using hy)).2.1⟩))
                                  obtain ⟨t7, ht7⟩ : ∃ t7, t7 = t6.alloc (.cells #[.int .i64 x.rule, .slice Ay x.sub.length cy] 30) := ⟨_, rfl⟩
                                  have hb7 : Below t6.heap.size t6 t7 := by rw [ht7]; exact (Below.refl _ _).alloc (Nat.le_refl _) _
                                  have hr7 : t7.heap[t6.heap.size]? = some (.cells #[.int .i64 x.rule, .slice Ay x.sub.length cy] 30 (0, 0)) := by rw [ht7]; exact heap_alloc_new t6 _
                                  have S7B := Lib.hid (show t7.heap.size = t6.heap.size + 1 by rw [ht7]; simp)
                                  have B57 := Lib.hid (hb6.trans (hb7.mono hb6.size))
                                  have SY7 := Lib.hid (hso.below hb7)
                                  have SV7 := Lib.hid (SV5.out.below B57.out)
                                  have ST12 := Lib.hid (ST11.out.below B57.out)
                                  have RP := Lib.hid ((B57.out.block _ (lt_of_heap R5.out)).trans R5.out)
                                  have RO := Lib.hid hr7
                                  have S67B := Lib.hid (show t4.heap.size ≤ t5.heap.size by rw [ht5s.out]; omega)
                                  have S67 := Lib.hid (And.intro hb6.size (And.intro B35.out.size S45.out))
                                  have y0 : t7.cell? ⟨t4.heap.size, 0, none⟩ = some (.int .i64 x.rule) := cell_of_row _ _ 0 _ _ _ RP.out
                                  have y1 : t7.cell? ⟨t4.heap.size, 1, none⟩ = some (.slice Ax x.sub.length cx) := cell_of_row _ _ 1 _ _ _ RP.out
                                  have z0 : t7.cell? ⟨t6.heap.size, 0, none⟩ = some (.int .i64 x.rule) := cell_of_row _ _ 0 _ _ _ RO.out
                                  have z1 : t7.cell? ⟨t6.heap.size, 1, none⟩ = some (.slice Ay x.sub.length cy) := cell_of_row _ _ 1 _ _ _ RO.out
                                  have zz0 := fun (o : Obj) => show (t7.alloc o).cell? ⟨t6.heap.size, 0, none⟩ = some (.int .i64 x.rule) from (((Below.refl t7.heap.size t7).alloc (Nat.le_refl _) o).cell (p := ⟨t6.heap.size, 0, none⟩) (lt_of_heap RO.out)).trans z0
                                  have zz1 := fun (o : Obj) => show (t7.alloc o).cell? ⟨t6.heap.size, 1, none⟩ = some (.slice Ay x.sub.length cy) from (((Below.refl t7.heap.size t7).alloc (Nat.le_refl _) o).cell (p := ⟨t6.heap.size, 1, none⟩) (lt_of_heap RO.out)).trans z1
                                  have O2 := Lib.hid (one2 t7 HXO.out (SV7.out.rsl (fun _ _ => trivial) HXO.out.sub) (SY7.out.rsl (fun _ _ => trivial) HXO.out.sub))
                                  clear hso hb6 hb7 hr7 hx2 ST10 ST11 R5 SV5 PW
                                  go_upto_region 63 with fail
                                  rw [← ht7]
                                  clear ht7
                                  go_wp2_with fail
                                  refine O2.out.mono ?_
                                  rintro e t8 ⟨rfl, hb8⟩
                                  have y0' := (hb8.cell (p := ⟨t4.heap.size, 0, none⟩) (lt_of_heap RP.out)).trans y0
                                  have y1' := (hb8.cell (p := ⟨t4.heap.size, 1, none⟩) (lt_of_heap RP.out)).trans y1
                                  have B8 := Lib.hid hb8
                                  have SV8 := Lib.hid (SV7.out.below hb8)
                                  have CP := Lib.hid (one_copied t8 HXO.out (SV8.out.rsl (fun _ _ => trivial) HXO.out.sub))
                                  clear hb8 O2 y0 y1 z0 z1 zz0 zz1
                                  go_wp2_with fail
                                  refine CP.out.mono ?_
                                  intro e t9 hr
                                  obtain ⟨Az, cz, zx, rfl, hzx, hmx, hb9⟩ := hr.both
                                  have ZX9 := Lib.hid hzx
                                  have MX := Lib.hid hmx
                                  have B79 := Lib.hid (B8.out.trans (hb9.mono B8.out.size))
                                  have S89 := Lib.hid (And.intro B8.out.size hb9.size)
                                  have SV9 := Lib.hid (SV8.out.below hb9)
                                  have ST13 := Lib.hid (ST12.out.below B79.out)
                                  have RO9 := Lib.hid ((B79.out.block _ (lt_of_heap RO.out)).trans RO.out)
                                  have SY9 := Lib.hid (SY7.out.below B79.out)
                                  have w0' := (hb9.cell (p := ⟨t4.heap.size, 0, none⟩) (Nat.lt_of_lt_of_le (lt_of_heap RP.out) B8.out.size)).trans y0'
                                  have w1' := (hb9.cell (p := ⟨t4.heap.size, 1, none⟩) (Nat.lt_of_lt_of_le (lt_of_heap RP.out) B8.out.size)).trans y1'
                                  have SM := Lib.hid (one_smudged t9 (-4000) HXM.out SV9.out (by have := S67.out; have := B57.out.size; have := B79.out.size; omega) (by omega))
                                  clear hr hzx hmx hb9 CP y0' y1' ST12 RP SY7 RO SV7 SV8
                                  go_wp2_with fail
                                  refine SM.out.mono ?_
                                  rintro e t10 ⟨rfl, hT⟩
                                  have B37 := Lib.hid (B35.out.trans (B57.out.mono B35.out.size))
                                  have B39 := Lib.hid (B37.out.trans (B79.out.mono B37.out.size))
                                  have SZ := Lib.hid (show wR.heap.size ≤ t3.heap.size ∧ t3.heap.size ≤ t4.heap.size ∧ t4.heap.size ≤ t5.heap.size ∧ t5.heap.size ≤ t6.heap.size ∧ t6.heap.size ≤ t8.heap.size ∧ t8.heap.size ≤ t9.heap.size ∧ t6.heap.size ≠ t8.heap.size from by
                                    have h1 := S3R.out
                                    have h2 := S67.out
                                    have h3 := lt_of_heap RO9.out
                                    have h4 := S89.out
                                    have h5 := S67B.out
                                    have h6 := S7B.out
                                    omega)
                                  have B310 := Lib.hid (B39.out.trans (hT.below B39.out.size (fun y hy => (SVB.out y hy).1)))
                                  have ST14 := Lib.hid (ST13.out.turns hT (fun y hy => by have := SVB.out y hy; have := SZ.out; omega))
                                  have ZW14 := Lib.hid (ZW10.out.below B310.out)
                                  have RO10 := Lib.hid ((hT.block _ (lt_of_heap RO9.out) (fun hm => by have := SVB.out _ hm; have := SZ.out; omega)).trans RO9.out)
                                  have SY10 := Lib.hid (SY9.out.turns hT (fun b hb hm => by have := SVB.out _ hm; have := SYB.out b (by simpa using hb); have := SZ.out; omega))
                                  have ZX10 := Lib.hid (ZX9.out.keep hT (fun y hy => .inl (by have := SVB.out _ hy; have := SZ.out; omega)))
                                  have z0 : t10.cell? ⟨t6.heap.size, 0, none⟩ = some (.int .i64 x.rule) := cell_of_row _ _ 0 _ _ _ RO10.out
                                  have z1 : t10.cell? ⟨t6.heap.size, 1, none⟩ = some (.slice Ay x.sub.length cy) := cell_of_row _ _ 1 _ _ _ RO10.out
                                  have O1 := Lib.hid (one1 t10 HXO.out (SY10.out.rsl (fun _ _ => trivial) HXO.out.sub) ZX10.out MX.out)
                                  have ST10n := Lib.hid hT.size
                                  clear hT SM w0' w1' ST13 RO9 SY9 ZX9 SV9 ZW10
                                  go_wp2_with fail
                                  refine O1.out.mono ?_
                                  rintro e t11 ⟨rfl, hb11⟩
                                  have B11 := Lib.hid hb11
                                  have ST15 := Lib.hid (ST14.out.below hb11)
                                  clear hb11 O1 z0 z1
                                  go_wp2_with fail
                                  refine (EL.out _ ST15.out).mono ?_
                                  intro e t12 hr
                                  obtain ⟨A12, c12, z12, rfl, hz12, hm12, hb12⟩ := hr.both
                                  have B12 := Lib.hid (B11.out.trans (hb12.mono B11.out.size))
                                  have AC12 := Lib.hid (zs_acts hz12 hm12 (ZW14.out.below B12.out) MW.out)
                                  clear hr hz12 hm12 hb12 B11 ST15
                                  go_wp2_with fail
                                  refine AC12.out.mono ?_
                                  rintro e t13 ⟨rfl, hb13⟩
                                  have B13 := Lib.hid (B12.out.trans (hb13.mono B12.out.size))
                                  clear hb13 AC12 B12
                                  go_wp2_with fail
                                  refine (CF.out _ (ST14.out.below B13.out)).mono ?_
                                  intro e t14 hr
                                  obtain ⟨A14, c14, z14, rfl, hz14, hm14, hb14⟩ := hr.both
                                  have B14 := Lib.hid (B13.out.trans (hb14.mono B13.out.size))
                                  have AC14 := Lib.hid (zs_acts hz14 hm14 (ZW14.out.below B14.out) MW.out)
                                  clear hr hz14 hm14 hb14 B13
                                  go_wp2_with fail
                                  refine AC14.out.mono ?_
                                  rintro e t15 ⟨rfl, hb15⟩
                                  have B15 := Lib.hid (B14.out.trans (hb15.mono B14.out.size))
                                  have ST16 := Lib.hid (ST14.out.below B15.out)
                                  have RO15 := Lib.hid ((B15.out.block _ (lt_of_heap RO10.out)).trans RO10.out)
                                  have SY15 := Lib.hid (SY10.out.below B15.out)
                                  have ZX15 := Lib.hid (ZX10.out.below B15.out)
                                  have z0 : t15.cell? ⟨t6.heap.size, 0, none⟩ = some (.int .i64 x.rule) := cell_of_row _ _ 0 _ _ _ RO15.out
                                  have z1 : t15.cell? ⟨t6.heap.size, 1, none⟩ = some (.slice Ay x.sub.length cy) := cell_of_row _ _ 1 _ _ _ RO15.out
                                  have FW := Lib.hid (fireW x (.slice Ay x.sub.length cy) t15 ST16.out.ag (SY15.out.rsl (F := fun _ => True) (fun _ _ => trivial) HXO.out.sub) HXO.out ST16.out.lt (by unfold maxLen; omega) (HT.out _ ST16.out.B))
                                  have S15 := Lib.hid (show t9.heap.size ≤ t15.heap.size from Nat.le_trans ST10n.out B15.out.size)
                                  clear hb15 AC14 B14 ST14 RO10 SY10 ZX10 ZW14 EL CF SC B15
                                  go_wp2_with fail
                                  refine FW.out.mono ?_
                                  intro e t16 hr
                                  rw [fire_one CE.out CA.out CN.out HXC.out] at hr
                                  obtain ⟨rfl, hST, hT⟩ := ST16.out.fire hr MF.out.1 MF.out.2
                                  have hk := ST16.out.k
                                  have KK9 := Lib.hid hk
                                  have ST17 := Lib.hid hST
                                  have RO16 := Lib.hid ((hT.block _ (lt_of_heap RO15.out) (fun hm => by have := List.mem_singleton.1 hm; have := SZ.out; omega)).trans RO15.out)
                                  have SY16 := Lib.hid (SY15.out.turns hT (fun b hb hm => by have := List.mem_singleton.1 hm; have := SYB.out b (by simpa using hb); have := SZ.out; omega))
                                  have ZX16 := Lib.hid (ZX15.out.keep hT (fun y hy => .inl (by have := List.mem_singleton.1 hy; have := SZ.out; omega)))
                                  have y0 : t16.cell? ⟨t6.heap.size, 0, none⟩ = some (.int .i64 x.rule) := cell_of_row _ _ 0 _ _ _ RO16.out
                                  have y1 : t16.cell? ⟨t6.heap.size, 1, none⟩ = some (.slice Ay x.sub.length cy) := cell_of_row _ _ 1 _ _ _ RO16.out
                                  have S16 := Lib.hid hT.size
                                  have SM := Lib.hid (one_smudged t16 (-4100) HXM.out SY16.out (by have := S16.out; have := S15.out; have := SZ.out; omega) (by omega))
                                  clear hr hST hT hk FW z0 z1 RO15 SY15 ZX15 ST16
                                  go_wp2_with fail
                                  refine SM.out.mono ?_
                                  rintro e t17 ⟨rfl, hT⟩
                                  have ST18 := Lib.hid (ST17.out.turnsM hT (fun y hy => by
                                    have h1 := SYB.out y hy
                                    have h2 := KK9.out
                                    have h3 := SZ.out
                                    have h4 := S15.out
                                    exact ⟨.inl ((mem_mm (by omega)).2 (.inr (by omega))), by omega, by omega, by omega, by omega⟩))
                                  have ZX17 := Lib.hid (ZX16.out.keep hT (fun y hy => .inl (by have := SYB.out y hy; have := SZ.out; omega)))
                                  have S17 := Lib.hid hT.size
                                  have FD := Lib.hid (fun (V : World) (hV : ApSt w (mm M9 wR.heap.size t15.heap.size) t16.heap.size p mc mf Hr ⟨[0, 0, 0], fourL, C, [x]⟩ (n + 1) V) => (show Calls Tryd.prog 32 #[.pointer (some ⟨p, 0, none⟩)] V (LstRes [x] V) from by
                                    have := firedW V hV.ag (by simp)
                                    rw [sort_one] at this
                                    exact this))
                                  clear hT SM y0 y1 RO16 SY16 ZX16 ST17
                                  go_wp2_with fail
                                  refine (FD.out _ ST18.out).mono ?_
                                  intro e t18 hr
                                  obtain ⟨A18, c18, z18, rfl, hz18, hm18, hb18⟩ := hr.both
                                  have Z18 := Lib.hid hz18
                                  have M18 := Lib.hid hm18
                                  have B18 := Lib.hid hb18
                                  clear hr hz18 hm18 hb18
                                  go_wp2_with fail
                                  refine (FD.out _ (ST18.out.below B18.out)).mono ?_
                                  intro e t19 hr
                                  obtain ⟨A19, c19, z19, rfl, hz19, hm19, hb19⟩ := hr.both
                                  have Z19 := Lib.hid hz19
                                  have M19 := Lib.hid hm19
                                  have B19 := Lib.hid hb19
                                  have AY := Lib.hid (zs_acts (Z18.out.below hb19) M18.out ((ZX17.out.below B18.out).below hb19) MX.out)
                                  clear hr hz19 hm19 hb19
                                  go_wp2_with fail
                                  refine AY.out.mono ?_
                                  rintro e t20 ⟨rfl, hb20⟩
                                  have B20 := Lib.hid hb20
                                  have AZ := Lib.hid (zs_acts (Z19.out.below hb20) M19.out (((ZX17.out.below B18.out).below B19.out).below hb20) MX.out)
                                  clear hb20 AY
                                  go_wp2_with fail
                                  refine AZ.out.mono ?_
                                  rintro e t21 ⟨rfl, hb21⟩
                                  have B1921 := Lib.hid (B20.out.trans (hb21.mono B20.out.size))
                                  clear hb21 AZ B20
                                  obtain ⟨t22, ht22⟩ : ∃ t22, t22 = t21.alloc (.cells #[.slice A18 1 c18, .slice A19 1 c19] 23) := ⟨_, rfl⟩
                                  have hb22 : Below t21.heap.size t21 t22 := by rw [ht22]; exact (Below.refl _ _).alloc (Nat.le_refl _) _
                                  have hr22 : t22.heap[t21.heap.size]? = some (.cells #[.slice A18 1 c18, .slice A19 1 c19] 23 (0, 0)) := by rw [ht22]; exact heap_alloc_new t21 _
                                  have B1922 := Lib.hid (B1921.out.trans (hb22.mono B1921.out.size))
                                  have B1722 := Lib.hid (B18.out.trans ((B19.out.trans (B1922.out.mono B19.out.size)).mono B18.out.size))
                                  have hLS := ls2 B18.out B19.out B1922.out Z18.out Z19.out
                                  have h1921 := B1921.out.size
                                  have LW := Lib.hid (listsW 2 t21.heap.size _ _ _ t22 hLS (fun k hk => by
                                    match k with
                                    | 0 => exact cell_of_row _ _ 0 _ _ _ hr22
                                    | 1 => exact cell_of_row _ _ 1 _ _ _ hr22
                                    | k + 2 => omega) (lt_of_heap hr22) (fun b _ hb => by
                                    have : b < t19.heap.size := hb
                                    omega) (by decide) (by
                                      have h18 := congrArg List.length M18.out
                                      have h19 := congrArg List.length M19.out
                                      rw [List.length_map] at h18 h19
                                      rw [cat_two, List.length_append, h18, h19]
                                      simp) (fun z hz => by
                                      have hz2 : z.1 = x := by
                                        rw [cat_two] at hz
                                        rcases List.mem_append.1 hz with hz | hz
                                        · exact List.mem_singleton.1 (by rw [← M18.out]; exact List.mem_map.2 ⟨z, hz, rfl⟩)
                                        · exact List.mem_singleton.1 (by rw [← M19.out]; exact List.mem_map.2 ⟨z, hz, rfl⟩)
                                      rw [hz2]
                                      obtain ⟨⟨_, h2⟩, h3, _⟩ := all21_facts HXM.out
                                      omega))
                                  have WH := Lib.hid (show ∀ y ∈ _, t17.heap.size ≤ y ∧ y < t19.heap.size from hLS.where)
                                  clear hb22 hr22 hLS h1921 Z18 M18 Z19 M19
                                  go_wp2_with fail
                                  rw [← ht22]
                                  clear ht22
                                  refine LW.out.mono ?_
                                  rintro e t23 ⟨rfl, hT⟩
                                  have ST23 := Lib.hid ((ST18.out.below B1722.out).turns hT (fun y hy => by have := WH.out y hy; have := S17.out; omega))
                                  have ZX23 := Lib.hid (ZX17.out.below (B1722.out.trans (hT.below B1722.out.size (fun y hy => (WH.out y hy).1))))
                                  clear hT LW WH
                                  go_wp2_with fail
                                  refine (FD.out _ ST23.out).mono ?_
                                  intro e t24 hr
                                  obtain ⟨A24, c24, z24, rfl, hz24, hm24, hb24⟩ := hr.both
                                  have B24 := Lib.hid hb24
                                  have AX := Lib.hid (zs_acts hz24 hm24 (ZX23.out.below hb24) MX.out)
                                  clear hr hz24 hm24 hb24
                                  go_wp2_with fail
                                  refine AX.out.mono ?_
                                  rintro e t25 ⟨rfl, hb25⟩
                                  have ST25 := Lib.hid ((ST23.out.below B24.out).below hb25)
                                  have y77 : t25.cell? ⟨Hr, 2, none⟩ = some (.int .i64 77) := ST25.out.r77
                                  clear hb25 AX
                                  go_wp2
                                  go_ret
                                  exact ⟨ret_boolA rfl, ST25.out.B⟩
end Go.Proofs.YtjgigcnjgblekaaDoor
