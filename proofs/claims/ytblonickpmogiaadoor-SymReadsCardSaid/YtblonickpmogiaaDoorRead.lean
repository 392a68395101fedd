/- The walk of sym.Read. -/
import Derived.Test.YtblonickpmogiaaDoorGuess
import Derived.Lib.ParseIntBTie
namespace Go.Proofs.YtblonickpmogiaaDoor
open Go.RowKit

theorem unq_len : ∀ (n : Nat) (l t : List UInt8), l.length ≤ n → unq l = some t → t.length ≤ l.length := by
  intro n
  induction n with
  | zero =>
    intro l t hl h
    obtain rfl := List.eq_nil_of_length_eq_zero (Nat.le_zero.1 hl)
    rw [unq_nil] at h
    injection h with h
    rw [← h]
    exact Nat.le_refl _
  | succ n ih =>
    intro l t hl h
    match l, hl, h with
    | [], _, h =>
      rw [unq_nil] at h
      injection h with h
      rw [← h]
      exact Nat.le_refl _
    | c :: r, hl, h =>
      simp only [List.length_cons] at hl ⊢
      by_cases hc : c = 92
      · subst hc
        match r, hl, h with
        | [], _, h => rw [unq_end] at h; cases h
        | d :: q, hl, h =>
          simp only [List.length_cons] at hl ⊢
          cases hd : escV d with
          | some v =>
            rw [unq_esc hd, Option.map_eq_some_iff] at h
            obtain ⟨u, hu, rfl⟩ := h
            have := ih q u (by omega) hu
            simp
            omega
          | none =>
            by_cases h120 : d = 120
            · subst h120
              match q, hl, h with
              | [], _, h => rw [unq_short (by simp)] at h; cases h
              | [_], _, h => rw [unq_short (by simp)] at h; cases h
              | x :: y :: p, hl, h =>
                simp only [List.length_cons] at hl ⊢
                rw [unq_hex, Option.bind_eq_some_iff] at h
                obtain ⟨v, _, h⟩ := h
                rw [Option.map_eq_some_iff] at h
                obtain ⟨u, hu, rfl⟩ := h
                have := ih p u (by omega) hu
                simp
                omega
            · rw [unq_bad hd h120] at h; cases h
      · rw [unq_plain hc, Option.map_eq_some_iff] at h
        obtain ⟨u, hu, rfl⟩ := h
        have := ih r u (by omega) hu
        simp
        omega

theorem wf_of_64 {n : Int} (h0 : -9223372036854775808 ≤ n) (h1 : n ≤ 9223372036854775807) : (Lit.int .i64 n).wf = true := by
  simp [Lit.wf, IntKind.min, IntKind.max, IntKind.signed, IntKind.bits]
  omega
theorem ok_mk {k n : Int} {s : ByteArray} (hk : (Lit.int .i64 k).wf = true) (hn : (Lit.int .i64 n).wf = true) (hs : s.size ≤ maxLen) : (⟨k, n, s⟩ : Cst).ok := ⟨hk, hn, hs⟩
theorem intG_ok2 (s : ByteArray) : (intG s).ok := by
  unfold intG
  rcases hp : Lib.parseIntB 64 s.data.toList with v | _ | _
  · have := Lib.parseIntB_bounds hp
    exact ok_mk (k := 1) (by decide) (wf_of_64 (by simp at this; omega) (by simp at this; omega)) (show 0 ≤ maxLen from Nat.zero_le _)
  · exact ok_mk (k := 0) (n := 0) (by decide) (by decide) (show 0 ≤ maxLen from Nat.zero_le _)
  · exact ok_mk (k := 0) (n := 0) (by decide) (by decide) (show 0 ≤ maxLen from Nat.zero_le _)
theorem guess_ok (s : ByteArray) (hs : s.size ≤ maxLen) : (guessB s).ok := by
  unfold guessB
  split
  · cases hu : unq (s.extract 1 (s.size - 1)).data.toList with
    | some t =>
      refine ok_mk (k := 3) (n := 0) (by decide) (by decide) ?_
      have := unq_len _ _ _ (Nat.le_refl _) hu
      rw [← size_list, ByteArray.size_extract] at this
      show t.toArray.size ≤ maxLen
      simp
      omega
    | none => exact intG_ok2 s
  · split
    · exact ok_mk (k := 2) (n := 0) (by decide) (by decide) hs
    · exact intG_ok2 s

set_option maxRecDepth 100000 in
set_option maxHeartbeats 8000000 in
theorem readW (s : ByteArray) (hs : s.size ≤ 140737488355328) (w : World) (hv : Ev w) (ht : Tab w) : Calls Tryd.prog 15 #[.string s] w fun e w' => e = .returned (.tuple #[.agg #[.int .i64 (readB s).1.k, .int .i64 (readB s).1.n, .string (readB s).1.s], .int .i64 (readB s).2]) ∧ Below w.heap.size w w' := by
  have BA := Lib.hid ((Below.refl w.heap.size w).alloc (Nat.le_refl _) (.cells #[.int .i64 0, .int .i64 0, .string ⟨#[]⟩] 25))
  have hbx := heap_alloc_new w (.cells #[.int .i64 0, .int .i64 0, .string ⟨#[]⟩] 25)
  have okG := guess_ok s (by unfold maxLen; omega)
  have RG := Lib.hid (show s.size ≠ 0 → textB (guessB s) = s → readB s = (guessB s, 0) from fun h1 h2 => by unfold readB; rw [if_pos ⟨h1, h2⟩])
  have RZ := Lib.hid (show (s.size = 0 ∨ textB (guessB s) ≠ s) → readB s = (⟨0, 0, ⟨#[]⟩⟩, 5) from fun h => by unfold readB; rw [if_neg (by rintro ⟨h1, h2⟩; rcases h with h | h; exact h1 h; exact h h2)]; rfl)
  obtain ⟨W1, hW1⟩ : ∃ W1, W1 = w.alloc (.cells #[.int .i64 0, .int .i64 0, .string ⟨#[]⟩] 25) := ⟨_, rfl⟩
  have EV1 := Lib.hid (hv.below (Nat.le_refl _) BA.out)
  have TB1 := Lib.hid (ht.below (Nat.le_refl _) BA.out)
  rw [← hW1] at BA hbx EV1 TB1
  have HX := Lib.hid (fun (W : World) (hb : Below W1.heap.size W1 W) => (show W.heap[w.heap.size]? = some (.cells #[.int .i64 0, .int .i64 0, .string ⟨#[]⟩] 25 (0, 0)) from (hb.block _ (lt_of_heap hbx)).trans hbx))
  have GW := Lib.hid (guessW s hs W1 EV1.out)
  obtain ⟨⟨gk, gn, gs⟩, hg⟩ : ∃ g, g = guessB s := ⟨_, rfl⟩
  rw [← hg] at GW okG RG RZ
  have TW := Lib.hid (fun (W : World) (hb : Below W1.heap.size W1 W) => textW ⟨gk, gn, gs⟩ okG W (TB1.out.below (Nat.le_refl _) hb))
  clear hbx hv ht hg okG hs
  go_enter Tryd.func15, Tryd.ntmps15
  go_wp2_with fail
  rw [← hW1]
  clear hW1
  refine GW.out.mono ?_
  rintro e w2 ⟨rfl, hb2⟩
  have H2 := Lib.hid hb2
  have H2' := Lib.hid (H2.out.alloc H2.out.size (.cells #[.int .i64 gk, .int .i64 gn, .string gs] 25))
  have B2 := heap_alloc_new w2 (.cells #[.int .i64 gk, .int .i64 gn, .string gs] 25)
  have HB2 := Lib.hid B2
  clear hb2 B2
  by_cases h0 : s.size = 0
  · have hE : s.toList.isEmpty = true := by rw [ByteArray.toList_eq, List.isEmpty_iff]; exact List.eq_nil_of_length_eq_zero (by rw [← size_list]; exact h0)
    have R := Lib.hid (RZ.out (.inl h0))
    clear h0
    have hx := HX.out w2 H2.out
    have y0 := cell_of_row w2 _ 0 _ _ _ hx; have y1 := cell_of_row w2 _ 1 _ _ _ hx; have y2 := cell_of_row w2 _ 2 _ _ _ hx
    have z0 := frozen_of_row w2 _ 0 _ _ hx; have z1 := frozen_of_row w2 _ 1 _ _ hx; have z2 := frozen_of_row w2 _ 2 _ _ hx
    have hlw : w.heap.size < w2.heap.size := lt_of_heap hx
    have hnw : w2.heap.size ≠ w.heap.size := by omega
    have hx3 : ((((w2.setCell ⟨w.heap.size, 0, none⟩ (.int .i64 0)).setCell ⟨w.heap.size, 1, none⟩ (.int .i64 0)).setCell ⟨w.heap.size, 2, none⟩ (.string ⟨#[]⟩)).alloc (.cells #[.int .i64 gk, .int .i64 gn, .string gs] 25)).heap[w.heap.size]? = some (.cells #[.int .i64 0, .int .i64 0, .string ⟨#[]⟩] 25 (0, 0)) :=
      (Below.heap_alloc _ _ _ (by simp; exact hlw)).trans (heap_setCell_same _ _ 2 _ _ (.string ⟨#[]⟩) (heap_setCell_same _ _ 1 _ _ (.int .i64 0) (heap_setCell_same _ _ 0 _ _ (.int .i64 0) hx)))
    have HY := Lib.hid hx3
    have HF := Lib.hid (((((BA.out.trans (H2.out.mono BA.out.size)).setCell (p := ⟨w.heap.size, 0, none⟩) (Nat.le_refl _) (.int .i64 0)).setCell (p := ⟨w.heap.size, 1, none⟩) (Nat.le_refl _) (.int .i64 0)).setCell (p := ⟨w.heap.size, 2, none⟩) (Nat.le_refl _) (.string ⟨#[]⟩)).alloc (by simp; omega) (.cells #[.int .i64 gk, .int .i64 gn, .string gs] 25))
    clear hx hx3
    go_wp2_with fail
    have R0 := cell_of_row _ _ 0 _ _ _ HY.out; have R1 := cell_of_row _ _ 1 _ _ _ HY.out; have R2 := cell_of_row _ _ 2 _ _ _ HY.out
    refine bodyPost_ret (v := .tuple #[.agg #[.int .i64 0, .int .i64 0, .string ⟨#[]⟩], .int .i64 5]) (by simp [results, Tryd.results15, go_sem, R0, R1, R2]) rfl ⟨by rw [R.out], HF.out⟩
  · have hE : s.toList.isEmpty = false := nonempty (by omega)
    go_wp2_with fail
    refine (TW.out _ H2'.out).mono ?_
    rintro e w4 ⟨rfl, hb4⟩
    have H4 := Lib.hid (below_step H2'.out hb4)
    have hx4 := (hb4.block _ (lt_of_heap HB2.out)).trans HB2.out
    have c0 := cell_of_row w4 _ 0 _ _ _ hx4; have c1 := cell_of_row w4 _ 1 _ _ _ hx4; have c2 := cell_of_row w4 _ 2 _ _ _ hx4
    simp only [List.getElem?_toArray, List.getElem?_cons_zero, List.getElem?_cons_succ] at c0 c1 c2
    clear hb4 hx4
    by_cases ht : textB ⟨gk, gn, gs⟩ = s
    · have hb : ((textB ⟨gk, gn, gs⟩).toList == s.toList) = true := by rw [ht]; simp
      have R := Lib.hid (RG.out h0 ht)
      clear h0 ht
      have hx := HX.out w4 H4.out
      have y0 := cell_of_row w4 _ 0 _ _ _ hx; have y1 := cell_of_row w4 _ 1 _ _ _ hx; have y2 := cell_of_row w4 _ 2 _ _ _ hx
      have z0 := frozen_of_row w4 _ 0 _ _ hx; have z1 := frozen_of_row w4 _ 1 _ _ hx; have z2 := frozen_of_row w4 _ 2 _ _ hx
      have HY := Lib.hid (show (((w4.setCell ⟨w.heap.size, 0, none⟩ (.int .i64 gk)).setCell ⟨w.heap.size, 1, none⟩ (.int .i64 gn)).setCell ⟨w.heap.size, 2, none⟩ (.string gs)).heap[w.heap.size]? = some (.cells #[.int .i64 gk, .int .i64 gn, .string gs] 25 (0, 0)) from heap_setCell_same _ _ 2 _ _ (.string gs) (heap_setCell_same _ _ 1 _ _ (.int .i64 gn) (heap_setCell_same _ _ 0 _ _ (.int .i64 gk) hx)))
      have HF := Lib.hid (BA.out.trans (H4.out.mono BA.out.size))
      clear hx
      go_wp2_with fail
      have R0 := cell_of_row _ _ 0 _ _ _ HY.out; have R1 := cell_of_row _ _ 1 _ _ _ HY.out; have R2 := cell_of_row _ _ 2 _ _ _ HY.out
      refine bodyPost_ret (v := .tuple #[.agg #[.int .i64 gk, .int .i64 gn, .string gs], .int .i64 0]) (by simp [results, Tryd.results15, go_sem, R0, R1, R2]) rfl ⟨by rw [R.out], ((HF.out.setCell (p := ⟨w.heap.size, 0, none⟩) (Nat.le_refl _) _).setCell (p := ⟨w.heap.size, 1, none⟩) (Nat.le_refl _) _).setCell (p := ⟨w.heap.size, 2, none⟩) (Nat.le_refl _) _⟩
    · have hb : ((textB ⟨gk, gn, gs⟩).toList == s.toList) = false := beq_false_of_ne (fun e => ht (toList_inj e))
      have R := Lib.hid (RZ.out (.inr ht))
      clear h0 ht
      have hx := HX.out w4 H4.out
      have y0 := cell_of_row w4 _ 0 _ _ _ hx; have y1 := cell_of_row w4 _ 1 _ _ _ hx; have y2 := cell_of_row w4 _ 2 _ _ _ hx
      have z0 := frozen_of_row w4 _ 0 _ _ hx; have z1 := frozen_of_row w4 _ 1 _ _ hx; have z2 := frozen_of_row w4 _ 2 _ _ hx
      have HY := Lib.hid (show (((w4.setCell ⟨w.heap.size, 0, none⟩ (.int .i64 0)).setCell ⟨w.heap.size, 1, none⟩ (.int .i64 0)).setCell ⟨w.heap.size, 2, none⟩ (.string ⟨#[]⟩)).heap[w.heap.size]? = some (.cells #[.int .i64 0, .int .i64 0, .string ⟨#[]⟩] 25 (0, 0)) from heap_setCell_same _ _ 2 _ _ (.string ⟨#[]⟩) (heap_setCell_same _ _ 1 _ _ (.int .i64 0) (heap_setCell_same _ _ 0 _ _ (.int .i64 0) hx)))
      have HF := Lib.hid (BA.out.trans (H4.out.mono BA.out.size))
      clear hx
      go_wp2_with fail
      have R0 := cell_of_row _ _ 0 _ _ _ HY.out; have R1 := cell_of_row _ _ 1 _ _ _ HY.out; have R2 := cell_of_row _ _ 2 _ _ _ HY.out
      refine bodyPost_ret (v := .tuple #[.agg #[.int .i64 0, .int .i64 0, .string ⟨#[]⟩], .int .i64 5]) (by simp [results, Tryd.results15, go_sem, R0, R1, R2]) rfl ⟨by rw [R.out], ((HF.out.setCell (p := ⟨w.heap.size, 0, none⟩) (Nat.le_refl _) _).setCell (p := ⟨w.heap.size, 1, none⟩) (Nat.le_refl _) _).setCell (p := ⟨w.heap.size, 2, none⟩) (Nat.le_refl _) _⟩
end Go.Proofs.YtblonickpmogiaaDoor
