/- The walk of the reference's Read. -/
import Derived.Test.YtblonickpmogiaaDoorNumber
namespace Go.Proofs.YtblonickpmogiaaDoor
open Go.RowKit

theorem num_wf (s : ByteArray) : (Lit.int .i64 (numB s)).wf = true := by
  unfold numB
  split
  · obtain ⟨q, h1, h2, h3⟩ := w64_eq (numF s.data.toList 0)
    exact wf_of_64 h2 h3
  · obtain ⟨q, h1, h2, h3⟩ := w64_eq (-(w64 (numF s.data.toList 0)))
    exact wf_of_64 h2 h3
/-- The two boxes. -/
theorem rr_pre (w : World) (k n : Int) (x : ByteArray) : Below w.heap.size w ((w.alloc (.cells #[.int .i64 0, .int .i64 0, .string ⟨#[]⟩] 25)).alloc (.cells #[.int .i64 k, .int .i64 n, .string x] 25)) ∧ ((w.alloc (.cells #[.int .i64 0, .int .i64 0, .string ⟨#[]⟩] 25)).alloc (.cells #[.int .i64 k, .int .i64 n, .string x] 25)).heap[w.heap.size + 1]? = some (.cells #[.int .i64 k, .int .i64 n, .string x] 25 (0, 0)) ∧
    ((w.alloc (.cells #[.int .i64 0, .int .i64 0, .string ⟨#[]⟩] 25)).alloc (.cells #[.int .i64 k, .int .i64 n, .string x] 25)).heap[w.heap.size]? = some (.cells #[.int .i64 0, .int .i64 0, .string ⟨#[]⟩] 25 (0, 0)) := by
  refine ⟨((Below.refl w.heap.size w).alloc (Nat.le_refl _) _).alloc (by simp) _, ?_, ?_⟩
  · simpa using heap_alloc_new (w.alloc (.cells #[.int .i64 0, .int .i64 0, .string ⟨#[]⟩] 25)) (.cells #[.int .i64 k, .int .i64 n, .string x] 25)
  · exact (Below.heap_alloc _ _ _ (by simp)).trans (heap_alloc_new w _)

set_option maxRecDepth 100000 in
set_option maxHeartbeats 8000000 in
theorem rreadW (s : ByteArray) (hs : s.size ≤ 140737488355328) (w : World) : Calls Tryd.prog 16 #[.string s] w fun e w' => e = .returned (.tuple #[.agg #[.int .i64 (readB s).1.k, .int .i64 (readB s).1.n, .string (readB s).1.s], .int .i64 (readB s).2]) ∧ Below w.heap.size w w' := by
  have okG := guess_ok s (by unfold maxLen; omega)
  by_cases h0 : s.size = 0
  · have hE : s.toList.isEmpty = true := by rw [ByteArray.toList_eq, List.isEmpty_iff]; exact List.eq_nil_of_length_eq_zero (by rw [← size_list]; exact h0)
    have R := Lib.hid (show readB s = (⟨0, 0, ⟨#[]⟩⟩, 5) from by unfold readB; rw [if_neg (fun h => h.1 h0)]; rfl)
    have HX := Lib.hid (heap_alloc_new w (.cells #[.int .i64 0, .int .i64 0, .string ⟨#[]⟩] 25))
    have HB := Lib.hid ((Below.refl w.heap.size w).alloc (Nat.le_refl _) (.cells #[.int .i64 0, .int .i64 0, .string ⟨#[]⟩] 25))
    clear h0 okG
    go_enter Tryd.func16, Tryd.ntmps16
    go_wp2_with fail
    have R0 := cell_of_row _ _ 0 _ _ _ HX.out; have R1 := cell_of_row _ _ 1 _ _ _ HX.out; have R2 := cell_of_row _ _ 2 _ _ _ HX.out
    refine bodyPost_ret (v := .tuple #[.agg #[.int .i64 0, .int .i64 0, .string ⟨#[]⟩], .int .i64 5]) (by simp [results, Tryd.results16, go_sem, R0, R1, R2]) rfl ⟨by rw [R.out], HB.out⟩
  have hE : s.toList.isEmpty = false := nonempty (by omega)
  by_cases hbig : 1022 < s.size
  · have hbig' : (1022 : Int) < (s.size : Int) := by omega
    have R := Lib.hid (show readB s = (⟨0, 0, ⟨#[]⟩⟩, 5) from by
      unfold readB
      rw [if_neg]
      · rfl
      · rintro ⟨h1, h2⟩
        have := text_len (text_valid h2 h1) okG.2.1
        rw [h2] at this
        omega)
    have HX := Lib.hid (heap_alloc_new w (.cells #[.int .i64 0, .int .i64 0, .string ⟨#[]⟩] 25))
    have HB := Lib.hid ((Below.refl w.heap.size w).alloc (Nat.le_refl _) (.cells #[.int .i64 0, .int .i64 0, .string ⟨#[]⟩] 25))
    clear h0 okG hbig
    go_enter Tryd.func16, Tryd.ntmps16
    go_wp2_with fail
    have R0 := cell_of_row _ _ 0 _ _ _ HX.out; have R1 := cell_of_row _ _ 1 _ _ _ HX.out; have R2 := cell_of_row _ _ 2 _ _ _ HX.out
    refine bodyPost_ret (v := .tuple #[.agg #[.int .i64 0, .int .i64 0, .string ⟨#[]⟩], .int .i64 5]) (by simp [results, Tryd.results16, go_sem, R0, R1, R2]) rfl ⟨by rw [R.out], HB.out⟩
  have hbig' : ¬ (1022 : Int) < (s.size : Int) := by omega
  have hz : 0 < s.size := by omega
  obtain ⟨RG0, RZ0⟩ := ref_read h0
  have RG := Lib.hid (fun (h : textB (rguess s) = s) (hw : (Lit.int .i64 (rguess s).n).wf = true) => RG0 h hw)
  have RZ := Lib.hid (fun (h : textB (rguess s) ≠ s) => RZ0 h okG.2.1)
  clear RG0 RZ0
  have hq0 : ∀ W, (Instr.index 9 (.string s) (.int .i64 0)).run Tryd.prog W = .ok (.int .u8 ((gB s 0).toNat : Int)) W := fun W => by rw [gB_at hz]; simp [go_sem, hz]
  clear okG
  by_cases h34 : gB s 0 = 34
  · have hg : rguess s = ⟨3, 0, ⟨(rplain (s.extract 1 (max 1 (s.size - 1))).data.toList).toArray⟩⟩ := by unfold rguess; exact if_pos h34
    obtain ⟨P, hP⟩ : ∃ P, P = s.extract 1 (max 1 (s.size - 1)) := ⟨_, rfl⟩
    have hPs : P.size ≤ s.size := by rw [hP, ByteArray.size_extract]; omega
    have PW := Lib.hid (fun W => plainW P (by omega) W)
    have hpl := rp_len _ P.data.toList (Nat.le_refl _)
    rw [← size_list P] at hpl
    rw [← hP] at hg
    obtain ⟨L, hL⟩ : ∃ L : ByteArray, L = ⟨(rplain P.data.toList).toArray⟩ := ⟨_, rfl⟩
    rw [← hL] at hg PW
    have hLs : L.size ≤ maxLen := by rw [hL, size_list]; unfold maxLen; show (rplain P.data.toList).length ≤ _; omega
    have okc : (⟨3, 0, L⟩ : Cst).ok := ok_mk (k := 3) (n := 0) (by decide) (by decide) hLs
    rw [hg] at RG RZ
    have RG := Lib.hid (fun h => RG.out h (wf_of_64 (n := 0) (by decide) (by decide)))
    have hsl : ∀ W, (Instr.slice 9 (.string s) (some (.int .i64 1)) (some (.int .i64 (max 1 ((s.size : Int) - 1)))) none).run Tryd.prog W = .ok (.string P) W := fun W => by
      have t1 : (max 1 ((s.size : Int) - 1)).toNat = max 1 (s.size - 1) := by omega
      have t2 : (1 : Int) ≤ max 1 ((s.size : Int) - 1) := by omega
      have t3 : max 1 ((s.size : Int) - 1) ≤ (s.size : Int) := by omega
      have t4 : (0 : Int) ≤ max 1 ((s.size : Int) - 1) := by omega
      rw [hP]
      simp [go_sem, t1, t2, t3, t4]
    rw [h34] at hq0
    have hq0 : ∀ W, (Instr.index 9 (.string s) (.int .i64 0)).run Tryd.prog W = .ok (.int .u8 34) W := hq0
    obtain ⟨BP, HP4, HP2⟩ := rr_pre w 3 0 ⟨#[]⟩
    have BP := Lib.hid BP
    have HP4 := Lib.hid HP4
    have HP2 := Lib.hid HP2
    clear h34 hg hP hL hpl hLs h0 hbig
    go_enter Tryd.func16, Tryd.ntmps16
    go_wp2_with fail
    refine (PW.out _).mono ?_
    rintro e w1 ⟨rfl, hb1⟩
    have r4 := (hb1.block _ (lt_of_heap HP4.out)).trans HP4.out
    have r2 := (hb1.block _ (lt_of_heap HP2.out)).trans HP2.out
    have hne : w.heap.size ≠ w.heap.size + 1 := by omega
    have R4 := Lib.hid (show (w1.setCell ⟨w.heap.size + 1, 2, none⟩ (.string L)).heap[w.heap.size + 1]? = some (.cells #[.int .i64 3, .int .i64 0, .string L] 25 (0, 0)) from heap_setCell_same w1 _ 2 _ _ (.string L) r4)
    have R2 := Lib.hid (show (w1.setCell ⟨w.heap.size + 1, 2, none⟩ (.string L)).heap[w.heap.size]? = _ from (heap_setCell_other w1 ⟨w.heap.size + 1, 2, none⟩ w.heap.size (.string L) hne).trans r2)
    have HU := Lib.hid ((BP.out.trans (hb1.mono BP.out.size)).setCell (p := ⟨w.heap.size + 1, 2, none⟩) (by show w.heap.size ≤ w.heap.size + 1; omega) (.string L))
    have y2 := cell_of_row w1 _ 2 _ _ _ r4; have z2 := frozen_of_row w1 _ 2 _ _ r4
    have q0 := cell_of_row _ _ 0 _ _ _ R4.out; have q1 := cell_of_row _ _ 1 _ _ _ R4.out; have q2 := cell_of_row _ _ 2 _ _ _ R4.out
    clear r4 r2 hb1
    go_wp2_with fail
    refine (rtextW ⟨3, 0, L⟩ okc _).mono ?_
    rintro e w3 ⟨rfl, hb3⟩
    have H3 := Lib.hid (HU.out.trans (hb3.mono HU.out.size))
    have hr4 := (hb3.block _ (lt_of_heap R4.out)).trans R4.out
    have hr2 := (hb3.block _ (lt_of_heap R2.out)).trans R2.out
    have c0 := cell_of_row w3 _ 0 _ _ _ hr4; have c1 := cell_of_row w3 _ 1 _ _ _ hr4; have c2 := cell_of_row w3 _ 2 _ _ _ hr4
    have y0 := cell_of_row w3 _ 0 _ _ _ hr2; have y1 := cell_of_row w3 _ 1 _ _ _ hr2; have y2 := cell_of_row w3 _ 2 _ _ _ hr2
    have z0 := frozen_of_row w3 _ 0 _ _ hr2; have z1 := frozen_of_row w3 _ 1 _ _ hr2; have z2 := frozen_of_row w3 _ 2 _ _ hr2
    try simp only [List.getElem?_toArray, List.getElem?_cons_zero, List.getElem?_cons_succ] at c0 c1 c2
    by_cases ht : textB ⟨3, 0, L⟩ = s
    · have hb : ((textB ⟨3, 0, L⟩).toList == s.toList) = true := by rw [ht]; simp
      have R := Lib.hid (RG.out ht)
      have HY := Lib.hid (show (((w3.setCell ⟨w.heap.size, 0, none⟩ (.int .i64 3)).setCell ⟨w.heap.size, 1, none⟩ (.int .i64 0)).setCell ⟨w.heap.size, 2, none⟩ (.string L)).heap[w.heap.size]? = some (.cells #[.int .i64 3, .int .i64 0, .string L] 25 (0, 0)) from heap_setCell_same _ _ 2 _ _ (.string L) (heap_setCell_same _ _ 1 _ _ (.int .i64 0) (heap_setCell_same _ _ 0 _ _ (.int .i64 3) hr2)))
      clear ht hb3 hr4 hr2 RG RZ okc R2 R4 HU
      go_wp2_with fail
      have R0 := cell_of_row _ _ 0 _ _ _ HY.out; have R1 := cell_of_row _ _ 1 _ _ _ HY.out; have R2 := cell_of_row _ _ 2 _ _ _ HY.out
      refine bodyPost_ret (v := .tuple #[.agg #[.int .i64 3, .int .i64 0, .string L], .int .i64 0]) (by simp [results, Tryd.results16, go_sem, R0, R1, R2]) rfl ⟨by rw [R.out], ((H3.out.setCell (p := ⟨w.heap.size, 0, none⟩) (Nat.le_refl _) _).setCell (p := ⟨w.heap.size, 1, none⟩) (Nat.le_refl _) _).setCell (p := ⟨w.heap.size, 2, none⟩) (Nat.le_refl _) _⟩
    · have hb : ((textB ⟨3, 0, L⟩).toList == s.toList) = false := beq_false_of_ne (fun e => ht (toList_inj e))
      have R := Lib.hid (show readB s = (⟨0, 0, ⟨#[]⟩⟩, 5) from RZ.out ht)
      have HY := Lib.hid (show (((w3.setCell ⟨w.heap.size, 0, none⟩ (.int .i64 0)).setCell ⟨w.heap.size, 1, none⟩ (.int .i64 0)).setCell ⟨w.heap.size, 2, none⟩ (.string ⟨#[]⟩)).heap[w.heap.size]? = some (.cells #[.int .i64 0, .int .i64 0, .string ⟨#[]⟩] 25 (0, 0)) from heap_setCell_same _ _ 2 _ _ (.string ⟨#[]⟩) (heap_setCell_same _ _ 1 _ _ (.int .i64 0) (heap_setCell_same _ _ 0 _ _ (.int .i64 0) hr2)))
      clear ht hb3 hr4 hr2 RG RZ okc R2 R4 HU
      go_wp2_with fail
      have R0 := cell_of_row _ _ 0 _ _ _ HY.out; have R1 := cell_of_row _ _ 1 _ _ _ HY.out; have R2 := cell_of_row _ _ 2 _ _ _ HY.out
      refine bodyPost_ret (v := .tuple #[.agg #[.int .i64 0, .int .i64 0, .string ⟨#[]⟩], .int .i64 5]) (by simp [results, Tryd.results16, go_sem, R0, R1, R2]) rfl ⟨by rw [R.out], ((H3.out.setCell (p := ⟨w.heap.size, 0, none⟩) (Nat.le_refl _) _).setCell (p := ⟨w.heap.size, 1, none⟩) (Nat.le_refl _) _).setCell (p := ⟨w.heap.size, 2, none⟩) (Nat.le_refl _) _⟩
  have m34 := ne_int h34
  have m34 : (((gB s 0).toNat : Int) == 34) = false := m34
  by_cases hlow : 97 ≤ (gB s 0).toNat ∧ (gB s 0).toNat ≤ 122
  · have hg : rguess s = ⟨2, 0, s⟩ := by unfold rguess; exact (if_neg h34).trans (if_pos hlow)
    have LW := Lib.hid (fun (W : World) => lowerW (n := ((gB s 0).toNat : Int)) (w := W))
    rw [show lowI ((gB s 0).toNat : Int) = true by unfold lowI; simp; omega] at LW
    have okc : (⟨2, 0, s⟩ : Cst).ok := ok_mk (k := 2) (n := 0) (by decide) (by decide) (by unfold maxLen; omega)
    rw [hg] at RG RZ
    have RG := Lib.hid (fun h => RG.out h (wf_of_64 (n := 0) (by decide) (by decide)))
    obtain ⟨x, hx⟩ : ∃ x : Int, x = ((gB s 0).toNat : Int) := ⟨_, rfl⟩
    rw [← hx] at m34 LW hq0
    obtain ⟨HU, R4, R2⟩ := rr_pre w 2 0 s
    have HU := Lib.hid HU
    have R4 := Lib.hid R4
    have R2 := Lib.hid R2
    clear h34 hg h0 hbig hlow hx
    go_enter Tryd.func16, Tryd.ntmps16
    go_wp2_with fail
    refine (LW.out _).mono ?_
    rintro e w1 ⟨rfl, rfl⟩
    go_wp2_with fail
    refine (rtextW ⟨2, 0, s⟩ okc _).mono ?_
    rintro e w3 ⟨rfl, hb3⟩
    have H3 := Lib.hid (HU.out.trans (hb3.mono HU.out.size))
    have hr4 := (hb3.block _ (lt_of_heap R4.out)).trans R4.out
    have hr2 := (hb3.block _ (lt_of_heap R2.out)).trans R2.out
    have c0 := cell_of_row w3 _ 0 _ _ _ hr4; have c1 := cell_of_row w3 _ 1 _ _ _ hr4; have c2 := cell_of_row w3 _ 2 _ _ _ hr4
    have y0 := cell_of_row w3 _ 0 _ _ _ hr2; have y1 := cell_of_row w3 _ 1 _ _ _ hr2; have y2 := cell_of_row w3 _ 2 _ _ _ hr2
    have z0 := frozen_of_row w3 _ 0 _ _ hr2; have z1 := frozen_of_row w3 _ 1 _ _ hr2; have z2 := frozen_of_row w3 _ 2 _ _ hr2
    try simp only [List.getElem?_toArray, List.getElem?_cons_zero, List.getElem?_cons_succ] at c0 c1 c2
    by_cases ht : textB ⟨2, 0, s⟩ = s
    · have hb : ((textB ⟨2, 0, s⟩).toList == s.toList) = true := by rw [ht]; simp
      have R := Lib.hid (RG.out ht)
      have HY := Lib.hid (show (((w3.setCell ⟨w.heap.size, 0, none⟩ (.int .i64 2)).setCell ⟨w.heap.size, 1, none⟩ (.int .i64 0)).setCell ⟨w.heap.size, 2, none⟩ (.string s)).heap[w.heap.size]? = some (.cells #[.int .i64 2, .int .i64 0, .string s] 25 (0, 0)) from heap_setCell_same _ _ 2 _ _ (.string s) (heap_setCell_same _ _ 1 _ _ (.int .i64 0) (heap_setCell_same _ _ 0 _ _ (.int .i64 2) hr2)))
      clear ht hb3 hr4 hr2 RG RZ okc R2 R4 HU
      go_wp2_with fail
      have R0 := cell_of_row _ _ 0 _ _ _ HY.out; have R1 := cell_of_row _ _ 1 _ _ _ HY.out; have R2 := cell_of_row _ _ 2 _ _ _ HY.out
      refine bodyPost_ret (v := .tuple #[.agg #[.int .i64 2, .int .i64 0, .string s], .int .i64 0]) (by simp [results, Tryd.results16, go_sem, R0, R1, R2]) rfl ⟨by rw [R.out], ((H3.out.setCell (p := ⟨w.heap.size, 0, none⟩) (Nat.le_refl _) _).setCell (p := ⟨w.heap.size, 1, none⟩) (Nat.le_refl _) _).setCell (p := ⟨w.heap.size, 2, none⟩) (Nat.le_refl _) _⟩
    · have hb : ((textB ⟨2, 0, s⟩).toList == s.toList) = false := beq_false_of_ne (fun e => ht (toList_inj e))
      have R := Lib.hid (show readB s = (⟨0, 0, ⟨#[]⟩⟩, 5) from RZ.out ht)
      have HY := Lib.hid (show (((w3.setCell ⟨w.heap.size, 0, none⟩ (.int .i64 0)).setCell ⟨w.heap.size, 1, none⟩ (.int .i64 0)).setCell ⟨w.heap.size, 2, none⟩ (.string ⟨#[]⟩)).heap[w.heap.size]? = some (.cells #[.int .i64 0, .int .i64 0, .string ⟨#[]⟩] 25 (0, 0)) from heap_setCell_same _ _ 2 _ _ (.string ⟨#[]⟩) (heap_setCell_same _ _ 1 _ _ (.int .i64 0) (heap_setCell_same _ _ 0 _ _ (.int .i64 0) hr2)))
      clear ht hb3 hr4 hr2 RG RZ okc R2 R4 HU
      go_wp2_with fail
      have R0 := cell_of_row _ _ 0 _ _ _ HY.out; have R1 := cell_of_row _ _ 1 _ _ _ HY.out; have R2 := cell_of_row _ _ 2 _ _ _ HY.out
      refine bodyPost_ret (v := .tuple #[.agg #[.int .i64 0, .int .i64 0, .string ⟨#[]⟩], .int .i64 5]) (by simp [results, Tryd.results16, go_sem, R0, R1, R2]) rfl ⟨by rw [R.out], ((H3.out.setCell (p := ⟨w.heap.size, 0, none⟩) (Nat.le_refl _) _).setCell (p := ⟨w.heap.size, 1, none⟩) (Nat.le_refl _) _).setCell (p := ⟨w.heap.size, 2, none⟩) (Nat.le_refl _) _⟩
  · have hg : rguess s = ⟨1, numB s, ⟨#[]⟩⟩ := by unfold rguess; exact (if_neg h34).trans (if_neg hlow)
    have LW := Lib.hid (fun (W : World) => lowerW (n := ((gB s 0).toNat : Int)) (w := W))
    rw [show lowI ((gB s 0).toNat : Int) = false by unfold lowI; simp; omega] at LW
    have NW := Lib.hid (fun (W : World) => numberW s hs W)
    have nwf := num_wf s
    rw [hg] at RG RZ
    obtain ⟨m, hm⟩ : ∃ m : Int, m = numB s := ⟨_, rfl⟩
    rw [← hm] at RG RZ nwf NW
    have okc : (⟨1, m, ⟨#[]⟩⟩ : Cst).ok := ok_mk (k := 1) (by decide) nwf (show 0 ≤ maxLen from Nat.zero_le _)
    have RG := Lib.hid (fun h => RG.out h nwf)
    obtain ⟨x, hx⟩ : ∃ x : Int, x = ((gB s 0).toNat : Int) := ⟨_, rfl⟩
    rw [← hx] at m34 LW hq0
    obtain ⟨HU, R4, R2⟩ := rr_pre w 1 m ⟨#[]⟩
    have HU := Lib.hid HU
    have R4 := Lib.hid R4
    have R2 := Lib.hid R2
    clear h34 hg h0 hbig hlow hx hm nwf
    go_enter Tryd.func16, Tryd.ntmps16
    go_wp2_with fail
    refine (LW.out _).mono ?_
    rintro e w1 ⟨rfl, rfl⟩
    go_wp2_with fail
    refine (NW.out _).mono ?_
    rintro e w1 ⟨rfl, rfl⟩
    go_wp2_with fail
    refine (rtextW ⟨1, m, ⟨#[]⟩⟩ okc _).mono ?_
    rintro e w3 ⟨rfl, hb3⟩
    have H3 := Lib.hid (HU.out.trans (hb3.mono HU.out.size))
    have hr4 := (hb3.block _ (lt_of_heap R4.out)).trans R4.out
    have hr2 := (hb3.block _ (lt_of_heap R2.out)).trans R2.out
    have c0 := cell_of_row w3 _ 0 _ _ _ hr4; have c1 := cell_of_row w3 _ 1 _ _ _ hr4; have c2 := cell_of_row w3 _ 2 _ _ _ hr4
    have y0 := cell_of_row w3 _ 0 _ _ _ hr2; have y1 := cell_of_row w3 _ 1 _ _ _ hr2; have y2 := cell_of_row w3 _ 2 _ _ _ hr2
    have z0 := frozen_of_row w3 _ 0 _ _ hr2; have z1 := frozen_of_row w3 _ 1 _ _ hr2; have z2 := frozen_of_row w3 _ 2 _ _ hr2
    try simp only [List.getElem?_toArray, List.getElem?_cons_zero, List.getElem?_cons_succ] at c0 c1 c2
    by_cases ht : textB ⟨1, m, ⟨#[]⟩⟩ = s
    · have hb : ((textB ⟨1, m, ⟨#[]⟩⟩).toList == s.toList) = true := by rw [ht]; simp
      have R := Lib.hid (RG.out ht)
      have HY := Lib.hid (show (((w3.setCell ⟨w.heap.size, 0, none⟩ (.int .i64 1)).setCell ⟨w.heap.size, 1, none⟩ (.int .i64 m)).setCell ⟨w.heap.size, 2, none⟩ (.string ⟨#[]⟩)).heap[w.heap.size]? = some (.cells #[.int .i64 1, .int .i64 m, .string ⟨#[]⟩] 25 (0, 0)) from heap_setCell_same _ _ 2 _ _ (.string ⟨#[]⟩) (heap_setCell_same _ _ 1 _ _ (.int .i64 m) (heap_setCell_same _ _ 0 _ _ (.int .i64 1) hr2)))
      clear ht hb3 hr4 hr2 RG RZ okc R2 R4 HU
      go_wp2_with fail
      have R0 := cell_of_row _ _ 0 _ _ _ HY.out; have R1 := cell_of_row _ _ 1 _ _ _ HY.out; have R2 := cell_of_row _ _ 2 _ _ _ HY.out
      refine bodyPost_ret (v := .tuple #[.agg #[.int .i64 1, .int .i64 m, .string ⟨#[]⟩], .int .i64 0]) (by simp [results, Tryd.results16, go_sem, R0, R1, R2]) rfl ⟨by rw [R.out], ((H3.out.setCell (p := ⟨w.heap.size, 0, none⟩) (Nat.le_refl _) _).setCell (p := ⟨w.heap.size, 1, none⟩) (Nat.le_refl _) _).setCell (p := ⟨w.heap.size, 2, none⟩) (Nat.le_refl _) _⟩
    · have hb : ((textB ⟨1, m, ⟨#[]⟩⟩).toList == s.toList) = false := beq_false_of_ne (fun e => ht (toList_inj e))
      have R := Lib.hid (show readB s = (⟨0, 0, ⟨#[]⟩⟩, 5) from RZ.out ht)
      have HY := Lib.hid (show (((w3.setCell ⟨w.heap.size, 0, none⟩ (.int .i64 0)).setCell ⟨w.heap.size, 1, none⟩ (.int .i64 0)).setCell ⟨w.heap.size, 2, none⟩ (.string ⟨#[]⟩)).heap[w.heap.size]? = some (.cells #[.int .i64 0, .int .i64 0, .string ⟨#[]⟩] 25 (0, 0)) from heap_setCell_same _ _ 2 _ _ (.string ⟨#[]⟩) (heap_setCell_same _ _ 1 _ _ (.int .i64 0) (heap_setCell_same _ _ 0 _ _ (.int .i64 0) hr2)))
      clear ht hb3 hr4 hr2 RG RZ okc R2 R4 HU
      go_wp2_with fail
      have R0 := cell_of_row _ _ 0 _ _ _ HY.out; have R1 := cell_of_row _ _ 1 _ _ _ HY.out; have R2 := cell_of_row _ _ 2 _ _ _ HY.out
      refine bodyPost_ret (v := .tuple #[.agg #[.int .i64 0, .int .i64 0, .string ⟨#[]⟩], .int .i64 5]) (by simp [results, Tryd.results16, go_sem, R0, R1, R2]) rfl ⟨by rw [R.out], ((H3.out.setCell (p := ⟨w.heap.size, 0, none⟩) (Nat.le_refl _) _).setCell (p := ⟨w.heap.size, 1, none⟩) (Nat.le_refl _) _).setCell (p := ⟨w.heap.size, 2, none⟩) (Nat.le_refl _) _⟩
end Go.Proofs.YtblonickpmogiaaDoor
