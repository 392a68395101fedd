/- The law's made: a valid constant, whatever the constant. -/
import Derived.Test.YtblonickpmogiaaDoorLawWord
namespace Go.Proofs.YtblonickpmogiaaDoor
open Go.RowKit

theorem valid1 (n : Int) : validB ⟨1, n, ⟨#[]⟩⟩ = true := by
  unfold validB
  show (⟨#[]⟩ : ByteArray).toList.isEmpty = true
  rw [ByteArray.toList_eq]
  rfl
theorem valid2 {r : ByteArray} (h : nameB r = true) : validB ⟨2, 0, r⟩ = true := by unfold validB; simp [h]
theorem valid3 {r : ByteArray} (h : r.size ≤ 255) : validB ⟨3, 0, r⟩ = true := by unfold validB; simp [h]
theorem wf_small {n : Int} (h : 0 ≤ n ∧ n ≤ 3) : (Lit.int .i64 n).wf = true := by
  simp [Lit.wf, IntKind.min, IntKind.max, IntKind.signed, IntKind.bits]
  omega

set_option maxRecDepth 100000 in
set_option maxHeartbeats 4000000 in
theorem madeW (c : Cst) (hok : c.ok) (w : World) : Calls Tryd.prog 18 #[.agg #[.int .i64 c.k, .int .i64 c.n, .string c.s]] w fun e w' => ∃ d : Cst, e = .returned (.agg #[.int .i64 d.k, .int .i64 d.n, .string d.s]) ∧ d.ok ∧ validB d = true ∧ Below w.heap.size w w' := by
  obtain ⟨hk, hn, hs⟩ := hok
  obtain ⟨k, n, s⟩ := c
  have WW := Lib.hid (lawWordW s hs)
  have hs' : s.size ≤ 9223372036854775807 := by have := hs; unfold maxLen at this; exact this
  obtain ⟨r, hr⟩ : ∃ r, r = k.tmod 3 := ⟨_, rfl⟩
  have hr' : k.tmod 3 = r := hr.symm
  by_cases h0 : r = 0
  · subst h0
    clear hr hk hs
    have HN := Lib.hid hn
    clear hn
    go_enter Tryd.func18, Tryd.ntmps18
    go_wp2
    refine bodyPost_ret (v := .agg #[.int .i64 1, .int .i64 n, .string ⟨#[]⟩]) (by simp [results, Tryd.results18, go_sem]) rfl ⟨⟨1, n, ⟨#[]⟩⟩, rfl, ⟨wf_small (n := 1) (by decide), HN.out, by show (0 : Nat) ≤ maxLen; exact Nat.zero_le _⟩, valid1 n, ((Below.refl w.heap.size w).alloc (Nat.le_refl _) _).alloc (by simp) _⟩
  by_cases h1 : r = 1
  · subst h1
    have e0 : ((1 : Int) == 0) = false := by decide
    have B2 := Lib.hid (((Below.refl w.heap.size w).alloc (Nat.le_refl _) (.cells #[.int .i64 k, .int .i64 n, .string s] 25)).alloc (by simp) (.cells #[.int .i64 0, .int .i64 0, .string ⟨#[]⟩] 25))
    have HX := Lib.hid (show ((w.alloc (.cells #[.int .i64 k, .int .i64 n, .string s] 25)).alloc (.cells #[.int .i64 0, .int .i64 0, .string ⟨#[]⟩] 25)).heap[w.heap.size + 1]? = some (.cells #[.int .i64 0, .int .i64 0, .string ⟨#[]⟩] 25 (0, 0)) from by simpa using heap_alloc_new (w.alloc (.cells #[.int .i64 k, .int .i64 n, .string s] 25)) (.cells #[.int .i64 0, .int .i64 0, .string ⟨#[]⟩] 25))
    clear hr hk hn hs
    go_enter Tryd.func18, Tryd.ntmps18
    go_wp2_with (go_at_call 33; refine (WW.out _).mono ?_; rintro e w' ⟨u, rfl, h1, h2, hbel⟩; have hx := (hbel.block (w.heap.size + 1) (by simp)).trans HX.out; have y0 := cell_of_row w' _ 0 _ _ _ hx; have y1 := cell_of_row w' _ 1 _ _ _ hx; have y2 := cell_of_row w' _ 2 _ _ _ hx; have z0 := frozen_of_row w' _ 0 _ _ hx; have z1 := frozen_of_row w' _ 1 _ _ hx; have z2 := frozen_of_row w' _ 2 _ _ hx; have HY := Lib.hid (show (((w'.setCell ⟨w.heap.size + 1, 0, none⟩ (.int .i64 2)).setCell ⟨w.heap.size + 1, 1, none⟩ (.int .i64 0)).setCell ⟨w.heap.size + 1, 2, none⟩ (.string u)).heap[w.heap.size + 1]? = some (.cells #[.int .i64 2, .int .i64 0, .string u] 25 (0, 0)) from heap_setCell_same _ _ 2 _ _ (.string u) (heap_setCell_same _ _ 1 _ _ (.int .i64 0) (heap_setCell_same _ _ 0 _ _ (.int .i64 2) hx))); have H1 := Lib.hid h1; have H2 := Lib.hid h2; have HF := Lib.hid (B2.out.trans (hbel.mono B2.out.size)); clear hx hbel h1 h2)
    have R0 := cell_of_row _ _ 0 _ _ _ HY.out
    have R1 := cell_of_row _ _ 1 _ _ _ HY.out
    have R2 := cell_of_row _ _ 2 _ _ _ HY.out
    refine bodyPost_ret (v := .agg #[.int .i64 2, .int .i64 0, .string u]) (by simp [results, Tryd.results18, go_sem, R0, R1, R2]) rfl ⟨⟨2, 0, u⟩, rfl, ⟨wf_small (n := 2) (by decide), wf_small (n := 0) (by decide), by have := H2.out; show u.size ≤ maxLen; unfold maxLen; omega⟩, valid2 H1.out, ((HF.out.setCell (p := ⟨w.heap.size + 1, 0, none⟩) (by simp) _).setCell (p := ⟨w.heap.size + 1, 1, none⟩) (by simp) _).setCell (p := ⟨w.heap.size + 1, 2, none⟩) (by simp) _⟩
  by_cases h2 : r = -1
  · subst h2
    have B2 := Lib.hid (((Below.refl w.heap.size w).alloc (Nat.le_refl _) (.cells #[.int .i64 k, .int .i64 n, .string s] 25)).alloc (by simp) (.cells #[.int .i64 0, .int .i64 0, .string ⟨#[]⟩] 25))
    have HX := Lib.hid (show ((w.alloc (.cells #[.int .i64 k, .int .i64 n, .string s] 25)).alloc (.cells #[.int .i64 0, .int .i64 0, .string ⟨#[]⟩] 25)).heap[w.heap.size + 1]? = some (.cells #[.int .i64 0, .int .i64 0, .string ⟨#[]⟩] 25 (0, 0)) from by simpa using heap_alloc_new (w.alloc (.cells #[.int .i64 k, .int .i64 n, .string s] 25)) (.cells #[.int .i64 0, .int .i64 0, .string ⟨#[]⟩] 25))
    clear hr hk hn hs
    go_enter Tryd.func18, Tryd.ntmps18
    go_wp2_with (go_at_call 33; refine (WW.out _).mono ?_; rintro e w' ⟨u, rfl, h1, h2, hbel⟩; have hx := (hbel.block (w.heap.size + 1) (by simp)).trans HX.out; have y0 := cell_of_row w' _ 0 _ _ _ hx; have y1 := cell_of_row w' _ 1 _ _ _ hx; have y2 := cell_of_row w' _ 2 _ _ _ hx; have z0 := frozen_of_row w' _ 0 _ _ hx; have z1 := frozen_of_row w' _ 1 _ _ hx; have z2 := frozen_of_row w' _ 2 _ _ hx; have HY := Lib.hid (show (((w'.setCell ⟨w.heap.size + 1, 0, none⟩ (.int .i64 2)).setCell ⟨w.heap.size + 1, 1, none⟩ (.int .i64 0)).setCell ⟨w.heap.size + 1, 2, none⟩ (.string u)).heap[w.heap.size + 1]? = some (.cells #[.int .i64 2, .int .i64 0, .string u] 25 (0, 0)) from heap_setCell_same _ _ 2 _ _ (.string u) (heap_setCell_same _ _ 1 _ _ (.int .i64 0) (heap_setCell_same _ _ 0 _ _ (.int .i64 2) hx))); have H1 := Lib.hid h1; have H2 := Lib.hid h2; have HF := Lib.hid (B2.out.trans (hbel.mono B2.out.size)); clear hx hbel h1 h2)
    have R0 := cell_of_row _ _ 0 _ _ _ HY.out
    have R1 := cell_of_row _ _ 1 _ _ _ HY.out
    have R2 := cell_of_row _ _ 2 _ _ _ HY.out
    refine bodyPost_ret (v := .agg #[.int .i64 2, .int .i64 0, .string u]) (by simp [results, Tryd.results18, go_sem, R0, R1, R2]) rfl ⟨⟨2, 0, u⟩, rfl, ⟨wf_small (n := 2) (by decide), wf_small (n := 0) (by decide), by have := H2.out; show u.size ≤ maxLen; unfold maxLen; omega⟩, valid2 H1.out, ((HF.out.setCell (p := ⟨w.heap.size + 1, 0, none⟩) (by simp) _).setCell (p := ⟨w.heap.size + 1, 1, none⟩) (by simp) _).setCell (p := ⟨w.heap.size + 1, 2, none⟩) (by simp) _⟩
  have e0 : (r == 0) = false := by simpa using h0
  have e1 : (r == 1) = false := by simpa using h1
  have e2 : (r == -1) = false := by simpa using h2
  clear hr hk hn hs h0 h1 h2
  by_cases hm : (s.size : Int) < 255
  · go_enter Tryd.func18, Tryd.ntmps18
    go_wp2
    refine bodyPost_ret (v := .agg #[.int .i64 3, .int .i64 0, .string s]) (by simp [results, Tryd.results18, go_sem]) rfl ⟨⟨3, 0, s⟩, rfl, ⟨wf_small (n := 3) (by decide), wf_small (n := 0) (by decide), by show s.size ≤ maxLen; unfold maxLen; omega⟩, valid3 (by omega), ((Below.refl w.heap.size w).alloc (Nat.le_refl _) _).alloc (by simp) _⟩
  · have hm' : decide ((s.size : Int) < 255) = false := by simpa using hm
    go_enter Tryd.func18, Tryd.ntmps18
    go_wp2
    refine bodyPost_ret (v := .agg #[.int .i64 3, .int .i64 0, .string (s.extract 0 255)]) (by simp [results, Tryd.results18, go_sem]) rfl ⟨⟨3, 0, s.extract 0 255⟩, rfl, ⟨wf_small (n := 3) (by decide), wf_small (n := 0) (by decide), by show (s.extract 0 255).size ≤ maxLen; unfold maxLen; rw [ByteArray.size_extract]; omega⟩, valid3 (by rw [ByteArray.size_extract]; omega), ((Below.refl w.heap.size w).alloc (Nat.le_refl _) _).alloc (by simp) _⟩
end Go.Proofs.YtblonickpmogiaaDoor
