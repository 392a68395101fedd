/- The walks of sym.guess and sym.Read. -/
import Derived.Test.YtblonickpmogiaaDoorUnq
namespace Go.Proofs.YtblonickpmogiaaDoor
open Go.RowKit

/-- ParseInt: the number, or an error. -/
theorem parseW (s : ByteArray) (hs : s.size ≤ 281474976710656) (w : World) (hv : Ev w) : Calls Tryd.prog 42 #[.string s, .int .i64 10, .int .i64 64] w fun e w' =>
    ((∃ v, Lib.parseIntB 64 s.data.toList = .ok v ∧ e = .returned (.tuple #[.int .i64 v, .nilIface])) ∨ ((∀ v, Lib.parseIntB 64 s.data.toList ≠ .ok v) ∧ ∃ n N, e = .returned (.tuple #[.int .i64 n, .iface 83 (.pointer (some ⟨N, 0, none⟩))]))) ∧ Below w.heap.size w w' := by
  obtain ⟨⟨te, pe, h1⟩, tr, pr, h2⟩ := hv
  rcases hp : Lib.parseIntB 64 s.data.toList with v | _ | _
  · refine (Tryd.strconv_ParseInt_10_at64_ok s (by omega) v hp w).mono ?_
    rintro e w' ⟨rfl, rfl | ⟨t, rfl⟩⟩
    · exact ⟨.inl ⟨v, rfl, rfl⟩, Below.refl _ _⟩
    · exact ⟨.inl ⟨v, rfl, rfl⟩, Lib.bytesWorld_below w _ t⟩
  · refine (Tryd.strconv_ParseInt_10_at64_syntax s hs hp _ w h1 (.inr ⟨_, _, rfl⟩)).mono ?_
    rintro e w' ⟨N, rfl, _, _, hb⟩
    exact ⟨.inr ⟨fun v h => by (cases h), _, N, rfl⟩, hb⟩
  · refine (Tryd.strconv_ParseInt_10_at64_range s hs hp _ w h2 (.inr ⟨_, _, rfl⟩)).mono ?_
    rintro e w' ⟨N, rfl, _, _, hb⟩
    exact ⟨.inr ⟨fun v h => by (cases h), _, N, rfl⟩, hb⟩
theorem intG_ok {s : ByteArray} {v : Int} (h : Lib.parseIntB 64 s.data.toList = .ok v) : intG s = ⟨1, v, ⟨#[]⟩⟩ := by unfold intG; rw [h]
theorem intG_no {s : ByteArray} (h : ∀ v, Lib.parseIntB 64 s.data.toList ≠ .ok v) : intG s = zeroC := by
  unfold intG
  rcases hp : Lib.parseIntB 64 s.data.toList with v | _ | _
  · exact absurd hp (h v)
  · rfl
  · rfl

set_option maxRecDepth 100000 in
set_option maxHeartbeats 8000000 in
theorem guessW (s : ByteArray) (hs : s.size ≤ 140737488355328) (w : World) (hv : Ev w) : Calls Tryd.prog 30 #[.string s] w fun e w' => e = .returned (.agg #[.int .i64 (guessB s).k, .int .i64 (guessB s).n, .string (guessB s).s]) ∧ Below w.heap.size w w' := by
  have BA := Lib.hid ((Below.refl w.heap.size w).alloc (Nat.le_refl _) (.cells #[.int .i64 0, .int .i64 0, .string ⟨#[]⟩] 25))
  have hbx := heap_alloc_new w (.cells #[.int .i64 0, .int .i64 0, .string ⟨#[]⟩] 25)
  obtain ⟨W1, hW1⟩ : ∃ W1, W1 = w.alloc (.cells #[.int .i64 0, .int .i64 0, .string ⟨#[]⟩] 25) := ⟨_, rfl⟩
  have EV1 := Lib.hid (hv.below (Nat.le_refl _) BA.out)
  rw [← hW1] at BA hbx EV1
  have PI := Lib.hid (fun (W : World) (hb : Below W1.heap.size W1 W) => parseW s (by omega) W (EV1.out.below (Nat.le_refl _) hb))
  have HX := Lib.hid (fun (W : World) (hb : Below W1.heap.size W1 W) => (show W.heap[w.heap.size]? = some (.cells #[.int .i64 0, .int .i64 0, .string ⟨#[]⟩] 25 (0, 0)) from (hb.block _ (lt_of_heap hbx)).trans hbx))
  have NM := Lib.hid (fun W => isNameW s (by unfold maxLen; omega) W)
  clear hbx hv
  by_cases h2 : 2 ≤ s.size
  · have i2 : (2 : Int) ≤ (s.size : Int) := by omega
    have w1 : IntKind.i64.wrap ((s.size : Int) - 1) = (s.size : Int) - 1 := IntWalk.i64_in _ (by omega)
    have hq0 : ∀ W, (Instr.index 9 (.string s) (.int .i64 0)).run Tryd.prog W = .ok (.int .u8 ((gB s 0).toNat : Int)) W := fun W => by
      have z : (0 : Int) < (s.size : Int) := by omega
      rw [gB_at (show 0 < s.size by omega)]
      have z' : 0 < s.size := by omega
      simp [go_sem, z']
    have hq1 : ∀ W, (Instr.index 9 (.string s) (.int .i64 ((s.size : Int) - 1))).run Tryd.prog W = .ok (.int .u8 ((gB s (s.size - 1)).toNat : Int)) W := fun W => by
      have z : (s.size : Int) - 1 < (s.size : Int) := by omega
      have z0 : (0 : Int) ≤ (s.size : Int) - 1 := by omega
      have z1 : ((s.size : Int) - 1).toNat = s.size - 1 := by omega
      rw [gB_at (show s.size - 1 < s.size by omega)]
      have z3 : (1 : Int) ≤ (s.size : Int) := by omega
      simp [go_sem, z, z1, z3]
    obtain ⟨a, ha⟩ : ∃ a, a = gB s 0 := ⟨_, rfl⟩
    obtain ⟨b, hb⟩ : ∃ b, b = gB s (s.size - 1) := ⟨_, rfl⟩
    rw [← ha] at hq0
    rw [← hb] at hq1
    by_cases ha4 : a = 34
    · by_cases hb4 : b = 34
      · have HQ := Lib.hid (show isQ s from ⟨h2, by rw [← ha4, ha]; rfl, by rw [← hb4, hb]; rfl⟩)
        subst ha4
        subst hb4
        have hq0 : ∀ W, (Instr.index 9 (.string s) (.int .i64 0)).run Tryd.prog W = .ok (.int .u8 34) W := hq0
        have hq1 : ∀ W, (Instr.index 9 (.string s) (.int .i64 ((s.size : Int) - 1))).run Tryd.prog W = .ok (.int .u8 34) W := hq1
        obtain ⟨P, hP⟩ : ∃ P, P = s.extract 1 (s.size - 1) := ⟨_, rfl⟩
        have hsl : ∀ W, (Instr.slice 9 (.string s) (some (.int .i64 1)) (some (.int .i64 ((s.size : Int) - 1))) none).run Tryd.prog W = .ok (.string P) W := fun W => by
          have z : (1 : Int) ≤ (s.size : Int) - 1 := by omega
          have z0 : (s.size : Int) - 1 ≤ (s.size : Int) := by omega
          have z1 : ((s.size : Int) - 1).toNat = s.size - 1 := by omega
          rw [hP]
          simp [go_sem, z, z0, z1]
        have GS := Lib.hid (fun (t : List UInt8) (h : unq P.data.toList = some t) => (show guessB s = ⟨3, 0, ⟨t.toArray⟩⟩ by unfold guessB; rw [if_pos HQ.out, ← hP, h]))
        have GI := Lib.hid (fun (h : unq P.data.toList = none) => (show guessB s = intG s by unfold guessB; rw [if_pos HQ.out, ← hP, h]))
        have UW := Lib.hid (unquotedW P (by rw [hP, ByteArray.size_extract]; omega) W1 EV1.out)
        clear hP ha hb h2
        go_enter Tryd.func30, Tryd.ntmps30
        go_wp2_with fail
        rw [← hW1]
        clear hW1
        refine UW.out.mono ?_
        rintro e w2 ⟨⟨t, ht, rfl⟩ | ⟨ht, rfl⟩, hb2⟩
        · have H2 := Lib.hid hb2
          have G := Lib.hid (GS.out t ht)
          clear ht hb2
          have hx := HX.out w2 H2.out
          have y0 := cell_of_row w2 _ 0 _ _ _ hx; have y1 := cell_of_row w2 _ 1 _ _ _ hx; have y2 := cell_of_row w2 _ 2 _ _ _ hx
          have z0 := frozen_of_row w2 _ 0 _ _ hx; have z1 := frozen_of_row w2 _ 1 _ _ hx; have z2 := frozen_of_row w2 _ 2 _ _ hx
          have HY := Lib.hid (show (((w2.setCell ⟨w.heap.size, 0, none⟩ (.int .i64 3)).setCell ⟨w.heap.size, 1, none⟩ (.int .i64 0)).setCell ⟨w.heap.size, 2, none⟩ (.string ⟨t.toArray⟩)).heap[w.heap.size]? = some (.cells #[.int .i64 3, .int .i64 0, .string ⟨t.toArray⟩] 25 (0, 0)) from heap_setCell_same _ _ 2 _ _ (.string ⟨t.toArray⟩) (heap_setCell_same _ _ 1 _ _ (.int .i64 0) (heap_setCell_same _ _ 0 _ _ (.int .i64 3) hx)))
          have HF := Lib.hid (BA.out.trans (H2.out.mono BA.out.size))
          clear hx
          go_wp2_with fail
          have R0 := cell_of_row _ _ 0 _ _ _ HY.out; have R1 := cell_of_row _ _ 1 _ _ _ HY.out; have R2 := cell_of_row _ _ 2 _ _ _ HY.out
          refine bodyPost_ret (v := .agg #[.int .i64 3, .int .i64 0, .string ⟨t.toArray⟩]) (by simp [results, Tryd.results30, go_sem, R0, R1, R2]) rfl ⟨by rw [G.out], ((HF.out.setCell (p := ⟨w.heap.size, 0, none⟩) (Nat.le_refl _) _).setCell (p := ⟨w.heap.size, 1, none⟩) (Nat.le_refl _) _).setCell (p := ⟨w.heap.size, 2, none⟩) (Nat.le_refl _) _⟩
        · have H2 := Lib.hid hb2
          have G := Lib.hid (GI.out ht)
          clear ht hb2
          go_wp2_with fail
          refine (PI.out w2 H2.out).mono ?_
          rintro e wp ⟨⟨v, hv, rfl⟩ | ⟨hv, n, N, rfl⟩, hbp⟩
          · have HP := Lib.hid (below_step H2.out hbp)
            have HG := Lib.hid (G.out.trans (intG_ok hv))
            clear hv hbp
            have hx := HX.out wp HP.out
            have y0 := cell_of_row wp _ 0 _ _ _ hx; have y1 := cell_of_row wp _ 1 _ _ _ hx; have y2 := cell_of_row wp _ 2 _ _ _ hx
            have z0 := frozen_of_row wp _ 0 _ _ hx; have z1 := frozen_of_row wp _ 1 _ _ hx; have z2 := frozen_of_row wp _ 2 _ _ hx
            have HY := Lib.hid (show (((wp.setCell ⟨w.heap.size, 0, none⟩ (.int .i64 1)).setCell ⟨w.heap.size, 1, none⟩ (.int .i64 v)).setCell ⟨w.heap.size, 2, none⟩ (.string ⟨#[]⟩)).heap[w.heap.size]? = some (.cells #[.int .i64 1, .int .i64 v, .string ⟨#[]⟩] 25 (0, 0)) from heap_setCell_same _ _ 2 _ _ (.string ⟨#[]⟩) (heap_setCell_same _ _ 1 _ _ (.int .i64 v) (heap_setCell_same _ _ 0 _ _ (.int .i64 1) hx)))
            have HF := Lib.hid (BA.out.trans (HP.out.mono BA.out.size))
            clear hx
            go_wp2_with fail
            have R0 := cell_of_row _ _ 0 _ _ _ HY.out; have R1 := cell_of_row _ _ 1 _ _ _ HY.out; have R2 := cell_of_row _ _ 2 _ _ _ HY.out
            refine bodyPost_ret (v := .agg #[.int .i64 1, .int .i64 v, .string ⟨#[]⟩]) (by simp [results, Tryd.results30, go_sem, R0, R1, R2]) rfl ⟨by rw [HG.out], ((HF.out.setCell (p := ⟨w.heap.size, 0, none⟩) (Nat.le_refl _) _).setCell (p := ⟨w.heap.size, 1, none⟩) (Nat.le_refl _) _).setCell (p := ⟨w.heap.size, 2, none⟩) (Nat.le_refl _) _⟩
          · have HP := Lib.hid (below_step H2.out hbp)
            have HG := Lib.hid (show guessB s = ⟨0, 0, ⟨#[]⟩⟩ from G.out.trans (intG_no hv))
            clear hv hbp
            have hx := HX.out wp HP.out
            have y0 := cell_of_row wp _ 0 _ _ _ hx; have y1 := cell_of_row wp _ 1 _ _ _ hx; have y2 := cell_of_row wp _ 2 _ _ _ hx
            have z0 := frozen_of_row wp _ 0 _ _ hx; have z1 := frozen_of_row wp _ 1 _ _ hx; have z2 := frozen_of_row wp _ 2 _ _ hx
            have HY := Lib.hid (show (((wp.setCell ⟨w.heap.size, 0, none⟩ (.int .i64 0)).setCell ⟨w.heap.size, 1, none⟩ (.int .i64 0)).setCell ⟨w.heap.size, 2, none⟩ (.string ⟨#[]⟩)).heap[w.heap.size]? = some (.cells #[.int .i64 0, .int .i64 0, .string ⟨#[]⟩] 25 (0, 0)) from heap_setCell_same _ _ 2 _ _ (.string ⟨#[]⟩) (heap_setCell_same _ _ 1 _ _ (.int .i64 0) (heap_setCell_same _ _ 0 _ _ (.int .i64 0) hx)))
            have HF := Lib.hid (BA.out.trans (HP.out.mono BA.out.size))
            clear hx
            go_wp2_with fail
            have R0 := cell_of_row _ _ 0 _ _ _ HY.out; have R1 := cell_of_row _ _ 1 _ _ _ HY.out; have R2 := cell_of_row _ _ 2 _ _ _ HY.out
            refine bodyPost_ret (v := .agg #[.int .i64 0, .int .i64 0, .string ⟨#[]⟩]) (by simp [results, Tryd.results30, go_sem, R0, R1, R2]) rfl ⟨by rw [HG.out], ((HF.out.setCell (p := ⟨w.heap.size, 0, none⟩) (Nat.le_refl _) _).setCell (p := ⟨w.heap.size, 1, none⟩) (Nat.le_refl _) _).setCell (p := ⟨w.heap.size, 2, none⟩) (Nat.le_refl _) _⟩
      · have NQ := Lib.hid (show ¬ isQ s from fun h => hb4 (by rw [hb]; exact h.2.2))
        subst ha4
        have hq0 : ∀ W, (Instr.index 9 (.string s) (.int .i64 0)).run Tryd.prog W = .ok (.int .u8 34) W := hq0
        have m34 := ne_int hb4
        have m34 : ((b.toNat : Int) == 34) = false := m34
        clear ha hb h2 hb4
        have GN := Lib.hid (fun (h : nameB s = true) => (show guessB s = ⟨2, 0, s⟩ by unfold guessB; rw [if_neg NQ.out, if_pos h]))
        have GI := Lib.hid (fun (h : nameB s = false) => (show guessB s = intG s by unfold guessB; rw [if_neg NQ.out, if_neg (by rw [h]; simp)]))
        go_enter Tryd.func30, Tryd.ntmps30
        go_wp2_with fail
        rw [← hW1]
        clear hW1
        refine (NM.out _).mono ?_
        rintro e w2 ⟨rfl, hb2⟩
        have H2 := Lib.hid hb2
        clear hb2
        rcases hn : nameB s with _ | _
        · have G := Lib.hid (GI.out hn)
          clear hn
          go_wp2_with fail
          refine (PI.out w2 H2.out).mono ?_
          rintro e wp ⟨⟨v, hv, rfl⟩ | ⟨hv, n, N, rfl⟩, hbp⟩
          · have HP := Lib.hid (below_step H2.out hbp)
            have HG := Lib.hid (G.out.trans (intG_ok hv))
            clear hv hbp
            have hx := HX.out wp HP.out
            have y0 := cell_of_row wp _ 0 _ _ _ hx; have y1 := cell_of_row wp _ 1 _ _ _ hx; have y2 := cell_of_row wp _ 2 _ _ _ hx
            have z0 := frozen_of_row wp _ 0 _ _ hx; have z1 := frozen_of_row wp _ 1 _ _ hx; have z2 := frozen_of_row wp _ 2 _ _ hx
            have HY := Lib.hid (show (((wp.setCell ⟨w.heap.size, 0, none⟩ (.int .i64 1)).setCell ⟨w.heap.size, 1, none⟩ (.int .i64 v)).setCell ⟨w.heap.size, 2, none⟩ (.string ⟨#[]⟩)).heap[w.heap.size]? = some (.cells #[.int .i64 1, .int .i64 v, .string ⟨#[]⟩] 25 (0, 0)) from heap_setCell_same _ _ 2 _ _ (.string ⟨#[]⟩) (heap_setCell_same _ _ 1 _ _ (.int .i64 v) (heap_setCell_same _ _ 0 _ _ (.int .i64 1) hx)))
            have HF := Lib.hid (BA.out.trans (HP.out.mono BA.out.size))
            clear hx
            go_wp2_with fail
            have R0 := cell_of_row _ _ 0 _ _ _ HY.out; have R1 := cell_of_row _ _ 1 _ _ _ HY.out; have R2 := cell_of_row _ _ 2 _ _ _ HY.out
            refine bodyPost_ret (v := .agg #[.int .i64 1, .int .i64 v, .string ⟨#[]⟩]) (by simp [results, Tryd.results30, go_sem, R0, R1, R2]) rfl ⟨by rw [HG.out], ((HF.out.setCell (p := ⟨w.heap.size, 0, none⟩) (Nat.le_refl _) _).setCell (p := ⟨w.heap.size, 1, none⟩) (Nat.le_refl _) _).setCell (p := ⟨w.heap.size, 2, none⟩) (Nat.le_refl _) _⟩
          · have HP := Lib.hid (below_step H2.out hbp)
            have HG := Lib.hid (show guessB s = ⟨0, 0, ⟨#[]⟩⟩ from G.out.trans (intG_no hv))
            clear hv hbp
            have hx := HX.out wp HP.out
            have y0 := cell_of_row wp _ 0 _ _ _ hx; have y1 := cell_of_row wp _ 1 _ _ _ hx; have y2 := cell_of_row wp _ 2 _ _ _ hx
            have z0 := frozen_of_row wp _ 0 _ _ hx; have z1 := frozen_of_row wp _ 1 _ _ hx; have z2 := frozen_of_row wp _ 2 _ _ hx
            have HY := Lib.hid (show (((wp.setCell ⟨w.heap.size, 0, none⟩ (.int .i64 0)).setCell ⟨w.heap.size, 1, none⟩ (.int .i64 0)).setCell ⟨w.heap.size, 2, none⟩ (.string ⟨#[]⟩)).heap[w.heap.size]? = some (.cells #[.int .i64 0, .int .i64 0, .string ⟨#[]⟩] 25 (0, 0)) from heap_setCell_same _ _ 2 _ _ (.string ⟨#[]⟩) (heap_setCell_same _ _ 1 _ _ (.int .i64 0) (heap_setCell_same _ _ 0 _ _ (.int .i64 0) hx)))
            have HF := Lib.hid (BA.out.trans (HP.out.mono BA.out.size))
            clear hx
            go_wp2_with fail
            have R0 := cell_of_row _ _ 0 _ _ _ HY.out; have R1 := cell_of_row _ _ 1 _ _ _ HY.out; have R2 := cell_of_row _ _ 2 _ _ _ HY.out
            refine bodyPost_ret (v := .agg #[.int .i64 0, .int .i64 0, .string ⟨#[]⟩]) (by simp [results, Tryd.results30, go_sem, R0, R1, R2]) rfl ⟨by rw [HG.out], ((HF.out.setCell (p := ⟨w.heap.size, 0, none⟩) (Nat.le_refl _) _).setCell (p := ⟨w.heap.size, 1, none⟩) (Nat.le_refl _) _).setCell (p := ⟨w.heap.size, 2, none⟩) (Nat.le_refl _) _⟩
        · have G := Lib.hid (GN.out hn)
          clear hn
          have hx := HX.out w2 H2.out
          have y0 := cell_of_row w2 _ 0 _ _ _ hx; have y1 := cell_of_row w2 _ 1 _ _ _ hx; have y2 := cell_of_row w2 _ 2 _ _ _ hx
          have z0 := frozen_of_row w2 _ 0 _ _ hx; have z1 := frozen_of_row w2 _ 1 _ _ hx; have z2 := frozen_of_row w2 _ 2 _ _ hx
          have HY := Lib.hid (show (((w2.setCell ⟨w.heap.size, 0, none⟩ (.int .i64 2)).setCell ⟨w.heap.size, 1, none⟩ (.int .i64 0)).setCell ⟨w.heap.size, 2, none⟩ (.string s)).heap[w.heap.size]? = some (.cells #[.int .i64 2, .int .i64 0, .string s] 25 (0, 0)) from heap_setCell_same _ _ 2 _ _ (.string s) (heap_setCell_same _ _ 1 _ _ (.int .i64 0) (heap_setCell_same _ _ 0 _ _ (.int .i64 2) hx)))
          have HF := Lib.hid (BA.out.trans (H2.out.mono BA.out.size))
          clear hx
          go_wp2_with fail
          have R0 := cell_of_row _ _ 0 _ _ _ HY.out; have R1 := cell_of_row _ _ 1 _ _ _ HY.out; have R2 := cell_of_row _ _ 2 _ _ _ HY.out
          refine bodyPost_ret (v := .agg #[.int .i64 2, .int .i64 0, .string s]) (by simp [results, Tryd.results30, go_sem, R0, R1, R2]) rfl ⟨by rw [G.out], ((HF.out.setCell (p := ⟨w.heap.size, 0, none⟩) (Nat.le_refl _) _).setCell (p := ⟨w.heap.size, 1, none⟩) (Nat.le_refl _) _).setCell (p := ⟨w.heap.size, 2, none⟩) (Nat.le_refl _) _⟩
    · have NQ := Lib.hid (show ¬ isQ s from fun h => ha4 (by rw [ha]; exact h.2.1))
      have m34 := ne_int ha4
      have m34 : ((a.toNat : Int) == 34) = false := m34
      clear ha hb h2 ha4
      have GN := Lib.hid (fun (h : nameB s = true) => (show guessB s = ⟨2, 0, s⟩ by unfold guessB; rw [if_neg NQ.out, if_pos h]))
      have GI := Lib.hid (fun (h : nameB s = false) => (show guessB s = intG s by unfold guessB; rw [if_neg NQ.out, if_neg (by rw [h]; simp)]))
      go_enter Tryd.func30, Tryd.ntmps30
      go_wp2_with fail
      rw [← hW1]
      clear hW1
      refine (NM.out _).mono ?_
      rintro e w2 ⟨rfl, hb2⟩
      have H2 := Lib.hid hb2
      clear hb2
      rcases hn : nameB s with _ | _
      · have G := Lib.hid (GI.out hn)
        clear hn
        go_wp2_with fail
        refine (PI.out w2 H2.out).mono ?_
        rintro e wp ⟨⟨v, hv, rfl⟩ | ⟨hv, n, N, rfl⟩, hbp⟩
        · have HP := Lib.hid (below_step H2.out hbp)
          have HG := Lib.hid (G.out.trans (intG_ok hv))
          clear hv hbp
          have hx := HX.out wp HP.out
          have y0 := cell_of_row wp _ 0 _ _ _ hx; have y1 := cell_of_row wp _ 1 _ _ _ hx; have y2 := cell_of_row wp _ 2 _ _ _ hx
          have z0 := frozen_of_row wp _ 0 _ _ hx; have z1 := frozen_of_row wp _ 1 _ _ hx; have z2 := frozen_of_row wp _ 2 _ _ hx
          have HY := Lib.hid (show (((wp.setCell ⟨w.heap.size, 0, none⟩ (.int .i64 1)).setCell ⟨w.heap.size, 1, none⟩ (.int .i64 v)).setCell ⟨w.heap.size, 2, none⟩ (.string ⟨#[]⟩)).heap[w.heap.size]? = some (.cells #[.int .i64 1, .int .i64 v, .string ⟨#[]⟩] 25 (0, 0)) from heap_setCell_same _ _ 2 _ _ (.string ⟨#[]⟩) (heap_setCell_same _ _ 1 _ _ (.int .i64 v) (heap_setCell_same _ _ 0 _ _ (.int .i64 1) hx)))
          have HF := Lib.hid (BA.out.trans (HP.out.mono BA.out.size))
          clear hx
          go_wp2_with fail
          have R0 := cell_of_row _ _ 0 _ _ _ HY.out; have R1 := cell_of_row _ _ 1 _ _ _ HY.out; have R2 := cell_of_row _ _ 2 _ _ _ HY.out
          refine bodyPost_ret (v := .agg #[.int .i64 1, .int .i64 v, .string ⟨#[]⟩]) (by simp [results, Tryd.results30, go_sem, R0, R1, R2]) rfl ⟨by rw [HG.out], ((HF.out.setCell (p := ⟨w.heap.size, 0, none⟩) (Nat.le_refl _) _).setCell (p := ⟨w.heap.size, 1, none⟩) (Nat.le_refl _) _).setCell (p := ⟨w.heap.size, 2, none⟩) (Nat.le_refl _) _⟩
        · have HP := Lib.hid (below_step H2.out hbp)
          have HG := Lib.hid (show guessB s = ⟨0, 0, ⟨#[]⟩⟩ from G.out.trans (intG_no hv))
          clear hv hbp
          have hx := HX.out wp HP.out
          have y0 := cell_of_row wp _ 0 _ _ _ hx; have y1 := cell_of_row wp _ 1 _ _ _ hx; have y2 := cell_of_row wp _ 2 _ _ _ hx
          have z0 := frozen_of_row wp _ 0 _ _ hx; have z1 := frozen_of_row wp _ 1 _ _ hx; have z2 := frozen_of_row wp _ 2 _ _ hx
          have HY := Lib.hid (show (((wp.setCell ⟨w.heap.size, 0, none⟩ (.int .i64 0)).setCell ⟨w.heap.size, 1, none⟩ (.int .i64 0)).setCell ⟨w.heap.size, 2, none⟩ (.string ⟨#[]⟩)).heap[w.heap.size]? = some (.cells #[.int .i64 0, .int .i64 0, .string ⟨#[]⟩] 25 (0, 0)) from heap_setCell_same _ _ 2 _ _ (.string ⟨#[]⟩) (heap_setCell_same _ _ 1 _ _ (.int .i64 0) (heap_setCell_same _ _ 0 _ _ (.int .i64 0) hx)))
          have HF := Lib.hid (BA.out.trans (HP.out.mono BA.out.size))
          clear hx
          go_wp2_with fail
          have R0 := cell_of_row _ _ 0 _ _ _ HY.out; have R1 := cell_of_row _ _ 1 _ _ _ HY.out; have R2 := cell_of_row _ _ 2 _ _ _ HY.out
          refine bodyPost_ret (v := .agg #[.int .i64 0, .int .i64 0, .string ⟨#[]⟩]) (by simp [results, Tryd.results30, go_sem, R0, R1, R2]) rfl ⟨by rw [HG.out], ((HF.out.setCell (p := ⟨w.heap.size, 0, none⟩) (Nat.le_refl _) _).setCell (p := ⟨w.heap.size, 1, none⟩) (Nat.le_refl _) _).setCell (p := ⟨w.heap.size, 2, none⟩) (Nat.le_refl _) _⟩
      · have G := Lib.hid (GN.out hn)
        clear hn
        have hx := HX.out w2 H2.out
        have y0 := cell_of_row w2 _ 0 _ _ _ hx; have y1 := cell_of_row w2 _ 1 _ _ _ hx; have y2 := cell_of_row w2 _ 2 _ _ _ hx
        have z0 := frozen_of_row w2 _ 0 _ _ hx; have z1 := frozen_of_row w2 _ 1 _ _ hx; have z2 := frozen_of_row w2 _ 2 _ _ hx
        have HY := Lib.hid (show (((w2.setCell ⟨w.heap.size, 0, none⟩ (.int .i64 2)).setCell ⟨w.heap.size, 1, none⟩ (.int .i64 0)).setCell ⟨w.heap.size, 2, none⟩ (.string s)).heap[w.heap.size]? = some (.cells #[.int .i64 2, .int .i64 0, .string s] 25 (0, 0)) from heap_setCell_same _ _ 2 _ _ (.string s) (heap_setCell_same _ _ 1 _ _ (.int .i64 0) (heap_setCell_same _ _ 0 _ _ (.int .i64 2) hx)))
        have HF := Lib.hid (BA.out.trans (H2.out.mono BA.out.size))
        clear hx
        go_wp2_with fail
        have R0 := cell_of_row _ _ 0 _ _ _ HY.out; have R1 := cell_of_row _ _ 1 _ _ _ HY.out; have R2 := cell_of_row _ _ 2 _ _ _ HY.out
        refine bodyPost_ret (v := .agg #[.int .i64 2, .int .i64 0, .string s]) (by simp [results, Tryd.results30, go_sem, R0, R1, R2]) rfl ⟨by rw [G.out], ((HF.out.setCell (p := ⟨w.heap.size, 0, none⟩) (Nat.le_refl _) _).setCell (p := ⟨w.heap.size, 1, none⟩) (Nat.le_refl _) _).setCell (p := ⟨w.heap.size, 2, none⟩) (Nat.le_refl _) _⟩
  · have NQ := Lib.hid (show ¬ isQ s from fun h => h2 h.1)
    have i2 : ¬ (2 : Int) ≤ (s.size : Int) := by omega
    clear h2
    have GN := Lib.hid (fun (h : nameB s = true) => (show guessB s = ⟨2, 0, s⟩ by unfold guessB; rw [if_neg NQ.out, if_pos h]))
    have GI := Lib.hid (fun (h : nameB s = false) => (show guessB s = intG s by unfold guessB; rw [if_neg NQ.out, if_neg (by rw [h]; simp)]))
    go_enter Tryd.func30, Tryd.ntmps30
    go_wp2_with fail
    rw [← hW1]
    clear hW1
    refine (NM.out _).mono ?_
    rintro e w2 ⟨rfl, hb2⟩
    have H2 := Lib.hid hb2
    clear hb2
    rcases hn : nameB s with _ | _
    · have G := Lib.hid (GI.out hn)
      clear hn
      go_wp2_with fail
      refine (PI.out w2 H2.out).mono ?_
      rintro e wp ⟨⟨v, hv, rfl⟩ | ⟨hv, n, N, rfl⟩, hbp⟩
      · have HP := Lib.hid (below_step H2.out hbp)
        have HG := Lib.hid (G.out.trans (intG_ok hv))
        clear hv hbp
        have hx := HX.out wp HP.out
        have y0 := cell_of_row wp _ 0 _ _ _ hx; have y1 := cell_of_row wp _ 1 _ _ _ hx; have y2 := cell_of_row wp _ 2 _ _ _ hx
        have z0 := frozen_of_row wp _ 0 _ _ hx; have z1 := frozen_of_row wp _ 1 _ _ hx; have z2 := frozen_of_row wp _ 2 _ _ hx
        have HY := Lib.hid (show (((wp.setCell ⟨w.heap.size, 0, none⟩ (.int .i64 1)).setCell ⟨w.heap.size, 1, none⟩ (.int .i64 v)).setCell ⟨w.heap.size, 2, none⟩ (.string ⟨#[]⟩)).heap[w.heap.size]? = some (.cells #[.int .i64 1, .int .i64 v, .string ⟨#[]⟩] 25 (0, 0)) from heap_setCell_same _ _ 2 _ _ (.string ⟨#[]⟩) (heap_setCell_same _ _ 1 _ _ (.int .i64 v) (heap_setCell_same _ _ 0 _ _ (.int .i64 1) hx)))
        have HF := Lib.hid (BA.out.trans (HP.out.mono BA.out.size))
        clear hx
        go_wp2_with fail
        have R0 := cell_of_row _ _ 0 _ _ _ HY.out; have R1 := cell_of_row _ _ 1 _ _ _ HY.out; have R2 := cell_of_row _ _ 2 _ _ _ HY.out
        refine bodyPost_ret (v := .agg #[.int .i64 1, .int .i64 v, .string ⟨#[]⟩]) (by simp [results, Tryd.results30, go_sem, R0, R1, R2]) rfl ⟨by rw [HG.out], ((HF.out.setCell (p := ⟨w.heap.size, 0, none⟩) (Nat.le_refl _) _).setCell (p := ⟨w.heap.size, 1, none⟩) (Nat.le_refl _) _).setCell (p := ⟨w.heap.size, 2, none⟩) (Nat.le_refl _) _⟩
      · have HP := Lib.hid (below_step H2.out hbp)
        have HG := Lib.hid (show guessB s = ⟨0, 0, ⟨#[]⟩⟩ from G.out.trans (intG_no hv))
        clear hv hbp
        have hx := HX.out wp HP.out
        have y0 := cell_of_row wp _ 0 _ _ _ hx; have y1 := cell_of_row wp _ 1 _ _ _ hx; have y2 := cell_of_row wp _ 2 _ _ _ hx
        have z0 := frozen_of_row wp _ 0 _ _ hx; have z1 := frozen_of_row wp _ 1 _ _ hx; have z2 := frozen_of_row wp _ 2 _ _ hx
        have HY := Lib.hid (show (((wp.setCell ⟨w.heap.size, 0, none⟩ (.int .i64 0)).setCell ⟨w.heap.size, 1, none⟩ (.int .i64 0)).setCell ⟨w.heap.size, 2, none⟩ (.string ⟨#[]⟩)).heap[w.heap.size]? = some (.cells #[.int .i64 0, .int .i64 0, .string ⟨#[]⟩] 25 (0, 0)) from heap_setCell_same _ _ 2 _ _ (.string ⟨#[]⟩) (heap_setCell_same _ _ 1 _ _ (.int .i64 0) (heap_setCell_same _ _ 0 _ _ (.int .i64 0) hx)))
        have HF := Lib.hid (BA.out.trans (HP.out.mono BA.out.size))
        clear hx
        go_wp2_with fail
        have R0 := cell_of_row _ _ 0 _ _ _ HY.out; have R1 := cell_of_row _ _ 1 _ _ _ HY.out; have R2 := cell_of_row _ _ 2 _ _ _ HY.out
        refine bodyPost_ret (v := .agg #[.int .i64 0, .int .i64 0, .string ⟨#[]⟩]) (by simp [results, Tryd.results30, go_sem, R0, R1, R2]) rfl ⟨by rw [HG.out], ((HF.out.setCell (p := ⟨w.heap.size, 0, none⟩) (Nat.le_refl _) _).setCell (p := ⟨w.heap.size, 1, none⟩) (Nat.le_refl _) _).setCell (p := ⟨w.heap.size, 2, none⟩) (Nat.le_refl _) _⟩
    · have G := Lib.hid (GN.out hn)
      clear hn
      have hx := HX.out w2 H2.out
      have y0 := cell_of_row w2 _ 0 _ _ _ hx; have y1 := cell_of_row w2 _ 1 _ _ _ hx; have y2 := cell_of_row w2 _ 2 _ _ _ hx
      have z0 := frozen_of_row w2 _ 0 _ _ hx; have z1 := frozen_of_row w2 _ 1 _ _ hx; have z2 := frozen_of_row w2 _ 2 _ _ hx
      have HY := Lib.hid (show (((w2.setCell ⟨w.heap.size, 0, none⟩ (.int .i64 2)).setCell ⟨w.heap.size, 1, none⟩ (.int .i64 0)).setCell ⟨w.heap.size, 2, none⟩ (.string s)).heap[w.heap.size]? = some (.cells #[.int .i64 2, .int .i64 0, .string s] 25 (0, 0)) from heap_setCell_same _ _ 2 _ _ (.string s) (heap_setCell_same _ _ 1 _ _ (.int .i64 0) (heap_setCell_same _ _ 0 _ _ (.int .i64 2) hx)))
      have HF := Lib.hid (BA.out.trans (H2.out.mono BA.out.size))
      clear hx
      go_wp2_with fail
      have R0 := cell_of_row _ _ 0 _ _ _ HY.out; have R1 := cell_of_row _ _ 1 _ _ _ HY.out; have R2 := cell_of_row _ _ 2 _ _ _ HY.out
      refine bodyPost_ret (v := .agg #[.int .i64 2, .int .i64 0, .string s]) (by simp [results, Tryd.results30, go_sem, R0, R1, R2]) rfl ⟨by rw [G.out], ((HF.out.setCell (p := ⟨w.heap.size, 0, none⟩) (Nat.le_refl _) _).setCell (p := ⟨w.heap.size, 1, none⟩) (Nat.le_refl _) _).setCell (p := ⟨w.heap.size, 2, none⟩) (Nat.le_refl _) _⟩
end Go.Proofs.YtblonickpmogiaaDoor
