/- partialInsertionSort by a method value: the walk. Printed by wip/bin/sortw.py. slices.SortFunc at acts (the Agenda laws' door seat): laid by the kit's shelf, in plain words. breakPatterns by a method value: the walk. Printed by wip/bin/sortw.py. -/
import Derived.Test.YtjgigcnjgblekaaDoorKaq12
import Derived.Test.YtjgigcnjgblekaaDoorKaq13
import Derived.Deep.Cut
import Derived.Ground.SlsfProg
import Derived.Shelf.SlGeneric
import Derived.Shelf.SlSortCmp.BreakPatternsK
import Derived.Shelf.SlSortCmp.NoneTotal
import Derived.Shelf.SlSortCmp.WholeK
import Derived.Shelf.SlSortCmp.Xorshift
import Derived.Test.YtjgigcnjgblekaaDoorChecked
namespace Go.Proofs.YtjgigcnjgblekaaDoor
open Go Go.RowKit Go.Sort Classical

section
variable {α : Type} [Inhabited α] {E : SEnv α} {d : Array α} {W W' : World}
theorem scS_rng (lt : α → α → Bool) (d : Array α) (b : Nat) : ∀ (n i : Nat), b - i = n → i ≤ b → i ≤ scanSorted lt d b i ∧ scanSorted lt d b i ≤ b
  | 0, i, h, hi => by
    rw [scanSorted_stop lt d b i (.inl (by omega))]
    omega
  | n + 1, i, h, hi => by
    cases hl : lt d[i]! d[i - 1]! with
    | true => rw [scanSorted_stop lt d b i (.inr hl)]; omega
    | false =>
      rw [scanSorted_go lt d b i (by omega) hl]
      have := scS_rng lt d b n (i + 1) (by omega) (by omega)
      omega
set_option maxRecDepth 100000 in
set_option maxHeartbeats 8000000 in
theorem partInsW (HC : SC E) (a b : Nat) (d : Array α) (W : World) (h : SW E d W) (hab : a < b) (hb : b ≤ E.n) (hn : E.n ≤ 1000000000000000) :
    Calls Tryd.prog 83 #[.slice (some ⟨E.b, 0, none⟩) E.n E.cap, .int .i64 (a : Int), .int .i64 (b : Int), .func (.func 57) #[.pointer (some ⟨E.p, 0, none⟩)] #[]] W fun e w' => e = .returned (.bool (partialInsertionSort E.lt d a b).2) ∧ SW E (partialInsertionSort E.lt d a b).1 w' := by
  have HCH := Lib.hid HC
  have HH := Lib.hid h
  clear HC h
  obtain ⟨R, hR⟩ : ∃ R, partialInsertionSort E.lt d a b = R := ⟨_, rfl⟩
  rw [hR]
  have HR := Lib.hid (show partialIns E.lt a b (5 - 0) (a + 1) d = R from hR)
  clear hR
  go_enter Tryd.func83, Tryd.ntmps83
  go_wp2
  go_loopw [9, 10] (fun iv sv wr => ∃ (i s : Nat) (dk : Array α), iv = .int .i64 (i : Int) ∧ sv = .int .i64 (s : Int) ∧ s ≤ 5 ∧ a < i ∧ i ≤ b ∧ SW E dk wr ∧ Hid (partialIns E.lt a b (5 - s) i dk = R)) (fun _ sv _ => 5 - (intOf sv).toNat)
  case atStart => exact ⟨a + 1, 0, d, by go_num, rfl, by omega, by omega, by omega, HH.out, HR⟩
  case round =>
    obtain ⟨i, s, dk, rfl, rfl, hs5, hai, hib, hs, HO⟩ := hrel
    have HSA := Lib.hid hs
    clear hs
    by_cases h5 : s < 5
    · have n5 : (s : Int) < 5 := by omega
      go_upto_block 2 with fail
      go_cut [9] from 15 to 140 (fun t wx => t = .int .i64 ((scanSorted E.lt dk b i : Nat) : Int) ∧ SW E dk wx)
      case first =>
        go_wp2_with fail
        go_loopw [9] (fun sv wr => ∃ k : Nat, sv = .int .i64 (k : Int) ∧ a < k ∧ k ≤ b ∧ SW E dk wr ∧ Hid (scanSorted E.lt dk b k = scanSorted E.lt dk b i)) (fun sv _ => b - (intOf sv).toNat)
        case atStart => exact ⟨i, rfl, hai, hib, HSA.out, Lib.hid rfl⟩
        case round =>
          obtain ⟨k, rfl, hk0, hkm, hs, HI⟩ := hrel
          by_cases hle : k < b
          · obtain ⟨q, rfl⟩ : ∃ q, k = q + 1 := ⟨k - 1, by omega⟩
            have j1 : (q : Int) + 1 < (b : Int) := by omega
            have j2 : (q : Int) + 1 < (E.n : Int) := by omega
            have j3 : (q : Int) < (E.n : Int) := by omega
            have j4 : (0 : Int) ≤ (q : Int) + 1 := by omega
            have j5 : ((q : Int) + 1).toNat = q + 1 := by omega
            have j6 : IntKind.i64.wrap (q : Int) = (q : Int) := by rw [IntKind.wrap_i64]; omega
            have NE : Nonempty (Pt (Below wr.heap.size wr)) := ⟨⟨wr, Below.refl _ _⟩⟩
            have p0 := fun p : Pt (Below wr.heap.size wr) => (hs.step p.property).c0 (i := q + 1) (by omega)
            have p1 := fun p : Pt (Below wr.heap.size wr) => (hs.step p.property).c1 (i := q + 1) (by omega)
            have p2 := fun p : Pt (Below wr.heap.size wr) => (hs.step p.property).c0 (i := q) (by omega)
            have p3 := fun p : Pt (Below wr.heap.size wr) => (hs.step p.property).c1 (i := q) (by omega)
            have CC := Lib.hid (fun p : Pt (Below wr.heap.size wr) => HCH.out dk[q + 1]! dk[q]! p.val (hs.step p.property).turns)
            obtain ⟨x, hx⟩ : ∃ x, dk[q + 1]! = x := ⟨_, rfl⟩
            obtain ⟨y, hy⟩ : ∃ y, dk[q]! = y := ⟨_, rfl⟩
            rw [hx, hy] at CC
            rw [hx] at p0 p1
            rw [hy] at p2 p3
            have HSk := Lib.hid hs
            have SG := Lib.hid (fun (hp1 : E.lt x y = false) => (show scanSorted E.lt dk b (q + 1) = scanSorted E.lt dk b (q + 1 + 1) from scanSorted_go E.lt dk b (q + 1) hle (by rw [Nat.add_sub_cancel, hx, hy]; exact hp1)))
            have SE := Lib.hid (fun (hp1 : E.lt x y = true) => (show scanSorted E.lt dk b (q + 1) = q + 1 from scanSorted_stop E.lt dk b (q + 1) (.inr (by rw [Nat.add_sub_cancel, hx, hy]; exact hp1))))
            clear hs hx hy
            by_cases hl : E.cf x y < 0
            · have HN := Lib.hid ((SE.out (E.lt_t hl)).symm.trans HI.out)
              go_wp2_with fail
              refine wp_region_class (S := Below wr.heap.size wr) (Below.refl _ _).drew (by kernel_rfl) (by kernel_rfl) ?_
              repeat (go_big_quiet_step (first | (go_at_call 57; refine (CC.out _).mono ?_; rintro e w' ⟨rfl, hbel⟩; exact ⟨rfl, ⟨w', below_stepA (Pt.property _) hbel⟩, rfl⟩)))
              refine wpQuiet_nil ?_
              rintro W2 ⟨⟨_, hW⟩, rfl⟩
              have HS2 := Lib.hid (HSk.out.step hW)
              clear p0 p1 p2 p3 CC hW NE
              go_wp2
              go_meet
              exact ⟨congrArg (fun n : Nat => Value.int .i64 (n : Int)) HN.out, HS2.out⟩
            · have HN := Lib.hid ((SG.out (E.lt_f hl)).symm.trans HI.out)
              have hdd : decide (E.cf x y < 0) = false := decide_eq_false hl
              go_wp2_with fail
              refine wp_region_class (S := Below wr.heap.size wr) (Below.refl _ _).drew (by kernel_rfl) (by kernel_rfl) ?_
              repeat (go_big_quiet_step (first | (go_at_call 57; refine (CC.out _).mono ?_; rintro e w' ⟨rfl, hbel⟩; exact ⟨rfl, ⟨w', below_stepA (Pt.property _) hbel⟩, rfl⟩)))
              refine wpQuiet_nil ?_
              rintro W2 ⟨⟨_, hW⟩, rfl⟩
              have HS2 := Lib.hid (HSk.out.step hW)
              clear p0 p1 p2 p3 CC hW NE
              go_wp2
              exact ⟨⟨q + 1 + 1, by go_num, by omega, by omega, HS2.out, HN⟩, by simp [intOf]; omega⟩
          · have j1 : ¬ (k : Int) < (b : Int) := by omega
            have j3 : decide ((k : Int) < (b : Int)) = false := decide_eq_false j1
            have HN := Lib.hid ((scanSorted_stop E.lt dk b k (.inl hle)).symm.trans HI.out)
            have HS1 := Lib.hid (fun q => hs.step (((Turns.refl [] wr).drewN q).below (Nat.le_refl _) (fun x hx => by simp at hx)))
            clear hs
            go_wp2_with fail
            go_quiet (fail)
            go_wp2
            go_meet
            exact ⟨congrArg (fun n : Nat => Value.int .i64 (n : Int)) HN.out, HS1.out _⟩
      case rest =>
        obtain ⟨rfl, hsr⟩ := hcut
        obtain ⟨k, hk⟩ : ∃ n, scanSorted E.lt dk b i = n := ⟨_, rfl⟩
        have rg := scS_rng E.lt dk b _ i rfl hib
        rw [hk] at rg
        rw [hk]
        have HS_k := Lib.hid hsr
        clear hsr
        by_cases hkb : k = b
        · have HF := Lib.hid ((pi_true E.lt a b s i dk h5 (hk.trans hkb)).symm.trans HO.out)
          have m1 : ((k : Int) == (b : Int)) = true := by simp [hkb]
          subst hkb
          go_wp2
          go_ret
          rw [← HF.out]
          exact ⟨rfl, HS_k.out⟩
        · have m1 : ((k : Int) == (b : Int)) = false := by
            have : ¬ (k : Int) = (b : Int) := by omega
            simpa using this
          have m2 : ¬ (k : Int) = (b : Int) := by omega
          by_cases h50 : b - a < 50
          · have HF := Lib.hid ((pi_short E.lt a b s i dk h5 (by omega) h50).symm.trans HO.out)
            have m3 : (b : Int) - (a : Int) < 50 := by omega
            go_wp2
            go_ret
            rw [← HF.out]
            exact ⟨rfl, HS_k.out⟩
          · have HF := Lib.hid ((pi_go E.lt a b s i k dk h5 hk hkb h50).symm.trans HO.out)
            have m3 : ¬ (b : Int) - (a : Int) < 50 := by omega
            have m4 : (k : Int) < (E.n : Int) := by omega
            have m5 : (k : Int) - 1 < (E.n : Int) := by omega
            have m6 : (0 : Int) ≤ (k : Int) - 1 := by omega
            have m7 : ((k : Int) - 1).toNat = k - 1 := by omega
            have m8 : IntKind.i64.wrap ((k : Int) - 1) = (k : Int) - 1 := by rw [IntKind.wrap_i64]; omega
            obtain ⟨sx, hsx⟩ : ∃ x, dk[k]! = x := ⟨_, rfl⟩
            obtain ⟨sy, hsy⟩ : ∃ x, dk[k - 1]! = x := ⟨_, rfl⟩
            have z0 := HS_k.out.c0 (i := k) (by omega)
            have z1 := HS_k.out.c1 (i := k) (by omega)
            have z2 := HS_k.out.c0 (i := k - 1) (by omega)
            have z3 := HS_k.out.c1 (i := k - 1) (by omega)
            have fz := HS_k.out.fz
            have hsw := HS_k.out.swap (i := k) (j := k - 1) (by omega) (by omega)
            rw [hsx] at z0 z1
            rw [hsy] at z2 z3
            rw [hsx, hsy] at hsw
            obtain ⟨⟨u1, m1⟩, ⟨u2, m2⟩, ⟨u3, m3⟩, f1, f2, f3⟩ := HS_k.out.mid (i := k) (j := k - 1) (by omega) (by omega) (.int .i64 (E.r sy)) (.slice (E.A sy) (E.l sy) (E.c sy)) (.int .i64 (E.r sx))
            have HSW := Lib.hid hsw.drew
            clear hsw hsx hsy
            go_wp2_with fail
            go_big_region
            clear z0 z1 z2 z3 fz m1 m2 m3 f1 f2 f3
            obtain ⟨d2, hd2⟩ : ∃ x, swp dk k (k - 1) = x := ⟨_, rfl⟩
            have HF2 := HF.out
            rw [hd2] at HSW HF2
            obtain ⟨d3, hd3⟩ : ∃ x, fixDown E.lt a k d2 = x := ⟨_, rfl⟩
            obtain ⟨d4, hd4⟩ : ∃ x, fixUp E.lt b k d3 = x := ⟨_, rfl⟩
            rw [hd3, hd4] at HF2
            have HF := Lib.hid HF2
            have FDp := Lib.hid (fun (h2 : k - a ≥ 2) => (show d3 = shiftDown E.lt (k - 1) d2 by rw [← hd3]; unfold fixDown; rw [if_pos h2]))
            have FDn := Lib.hid (fun (h2 : ¬ k - a ≥ 2) => (show d3 = d2 by rw [← hd3]; unfold fixDown; rw [if_neg h2]))
            have FUp := Lib.hid (fun (h2 : b - k ≥ 2) => (show d4 = shiftUp E.lt b (k + 1) d3 by rw [← hd4]; unfold fixUp; rw [if_pos h2]))
            have FUn := Lib.hid (fun (h2 : ¬ b - k ≥ 2) => (show d4 = d3 by rw [← hd4]; unfold fixUp; rw [if_neg h2]))
            clear HF2 hd2 hd3 hd4 m1 m2 m3 m4 m5 m6 m7 m8 HO
            go_upto_if 65 with fail
            go_cut [11] from 15 to 140 (fun t wx => SW E d3 wx)
            case first =>
              by_cases h2 : k - a ≥ 2
              · have m1 : (2 : Int) ≤ (k : Int) - (a : Int) := by omega
                have FDp := Lib.hid (FDp.out h2)
                clear FDn FUp FUn HF
                go_wp2_with fail
                go_loopw [11] (fun sv wr => ∃ (j : Nat) (dj : Array α), sv = .int .i64 (j : Int) ∧ j ≤ k - 1 ∧ SW E dj wr ∧ Hid (shiftDown E.lt j dj = shiftDown E.lt (k - 1) d2)) (fun sv _ => (intOf sv).toNat)
                case atStart => exact ⟨k - 1, d2, by go_num, Nat.le_refl _, HSW.out, Lib.hid rfl⟩
                case round =>
                  obtain ⟨j, dj, rfl, hj, hs, HI⟩ := hrel
                  by_cases hj1 : 1 ≤ j
                  · obtain ⟨q, rfl⟩ : ∃ q, j = q + 1 := ⟨j - 1, by omega⟩
                    have n1 : (1 : Int) ≤ (q : Int) + 1 := by omega
                    have n2 : (q : Int) + 1 < (E.n : Int) := by omega
                    have n3 : (q : Int) < (E.n : Int) := by omega
                    have n5 : ((q : Int) + 1).toNat = q + 1 := by omega
                    have n6 : IntKind.i64.wrap (q : Int) = (q : Int) := by rw [IntKind.wrap_i64]; omega
                    have NE : Nonempty (Pt (Below wr.heap.size wr)) := ⟨⟨wr, Below.refl _ _⟩⟩
                    have p0 := fun p : Pt (Below wr.heap.size wr) => (hs.step p.property).c0 (i := q + 1) (by omega)
                    have p1 := fun p : Pt (Below wr.heap.size wr) => (hs.step p.property).c1 (i := q + 1) (by omega)
                    have p2 := fun p : Pt (Below wr.heap.size wr) => (hs.step p.property).c0 (i := q) (by omega)
                    have p3 := fun p : Pt (Below wr.heap.size wr) => (hs.step p.property).c1 (i := q) (by omega)
                    have CC := Lib.hid (fun p : Pt (Below wr.heap.size wr) => HCH.out dj[q + 1]! dj[q]! p.val (hs.step p.property).turns)
                    obtain ⟨x, hx⟩ : ∃ x, dj[q + 1]! = x := ⟨_, rfl⟩
                    obtain ⟨y, hy⟩ : ∃ y, dj[q]! = y := ⟨_, rfl⟩
                    rw [hx, hy] at CC
                    rw [hx] at p0 p1
                    rw [hy] at p2 p3
                    have SG := Lib.hid (fun (hp1 : E.lt x y = true) => (show shiftDown E.lt (q + 1) dj = shiftDown E.lt q (swp dj (q + 1) q) from shiftDown_go E.lt (q + 1) dj (by omega) (by rw [Nat.add_sub_cancel, hx, hy]; exact hp1)))
                    have SE := Lib.hid (fun (hp1 : E.lt x y = false) => (show shiftDown E.lt (q + 1) dj = dj from shiftDown_stop E.lt (q + 1) dj (.inr (by rw [Nat.add_sub_cancel, hx, hy]; exact hp1))))
                    have HSk := Lib.hid hs
                    clear hs hx hy
                    by_cases hl : E.cf x y < 0
                    · have HN := Lib.hid ((SG.out (E.lt_t hl)).symm.trans HI.out)
                      go_wp2_with fail
                      refine wp_region_class (S := Below wr.heap.size wr) (Below.refl _ _).drew (by kernel_rfl) (by kernel_rfl) ?_
                      repeat (go_big_quiet_step (first | (go_at_call 57; refine (CC.out _).mono ?_; rintro e w' ⟨rfl, hbel⟩; exact ⟨rfl, ⟨w', below_stepA (Pt.property _) hbel⟩, rfl⟩)))
                      refine wpQuiet_nil ?_
                      rintro W2 ⟨⟨_, hW⟩, rfl⟩
                      have HS2 := Lib.hid (HSk.out.step hW)
                      clear p0 p1 p2 p3 CC hW NE
                      obtain ⟨w2, hw2⟩ : ∃ w2, w2 = W2 := ⟨_, rfl⟩
                      rw [← hw2] at HS2
                      rw [← hw2]
                      clear hw2
                      obtain ⟨sx, hsx⟩ : ∃ x, dj[q + 1]! = x := ⟨_, rfl⟩
                      obtain ⟨sy, hsy⟩ : ∃ x, dj[q]! = x := ⟨_, rfl⟩
                      have z0 := HS2.out.c0 (i := q + 1) (by omega)
                      have z1 := HS2.out.c1 (i := q + 1) (by omega)
                      have z2 := HS2.out.c0 (i := q) (by omega)
                      have z3 := HS2.out.c1 (i := q) (by omega)
                      have fz := HS2.out.fz
                      have hsw := HS2.out.swap (i := q + 1) (j := q) (by omega) (by omega)
                      rw [hsx] at z0 z1
                      rw [hsy] at z2 z3
                      rw [hsx, hsy] at hsw
                      obtain ⟨⟨u1, m1⟩, ⟨u2, m2⟩, ⟨u3, m3⟩, f1, f2, f3⟩ := HS2.out.mid (i := q + 1) (j := q) (by omega) (by omega) (.int .i64 (E.r sy)) (.slice (E.A sy) (E.l sy) (E.c sy)) (.int .i64 (E.r sx))
                      have HSW := Lib.hid hsw.drew
                      clear hsw hsx hsy
                      go_wp2_with fail
                      go_big_region
                      clear z0 z1 z2 z3 fz m1 m2 m3 f1 f2 f3
                      go_wp2
                      exact ⟨⟨q, _, by go_num, by omega, HSW.out, HN⟩, by simp [intOf]⟩
                    · have HN := Lib.hid ((SE.out (E.lt_f hl)).symm.trans HI.out)
                      have hdd : decide (E.cf x y < 0) = false := decide_eq_false hl
                      go_wp2_with fail
                      refine wp_region_class (S := Below wr.heap.size wr) (Below.refl _ _).drew (by kernel_rfl) (by kernel_rfl) ?_
                      repeat (go_big_quiet_step (first | (go_at_call 57; refine (CC.out _).mono ?_; rintro e w' ⟨rfl, hbel⟩; exact ⟨rfl, ⟨w', below_stepA (Pt.property _) hbel⟩, rfl⟩)))
                      refine wpQuiet_nil ?_
                      rintro W2 ⟨⟨_, hW⟩, rfl⟩
                      have HS2 := Lib.hid (HSk.out.step hW)
                      clear p0 p1 p2 p3 CC hW NE
                      go_wp2
                      go_meet
                      rw [FDp.out, ← HN.out]
                      exact HS2.out
                  · have n1 : ¬ (1 : Int) ≤ (j : Int) := by omega
                    have HN := Lib.hid ((shiftDown_stop E.lt j dj (.inl (by omega))).symm.trans HI.out)
                    have HSk := Lib.hid hs
                    clear hs
                    go_wp2
                    go_meet
                    rw [FDp.out, ← HN.out]
                    exact HSk.out
              · have m1 : ¬ (2 : Int) ≤ (k : Int) - (a : Int) := by omega
                have FD := Lib.hid (FDn.out h2)
                go_wp2
                go_meet
                rw [FD.out]
                exact HSW.out
            case rest =>
              have HSD := Lib.hid hcut
              clear hcut HSW FDp FDn
              by_cases h2 : b - k ≥ 2
              · have m1 : (2 : Int) ≤ (b : Int) - (k : Int) := by omega
                have FUp := Lib.hid (FUp.out h2)
                clear FUn
                go_wp2_with fail
                go_loopw [12] (fun sv wr => ∃ (j : Nat) (dj : Array α), sv = .int .i64 (j : Int) ∧ 1 ≤ j ∧ j ≤ b ∧ SW E dj wr ∧ Hid (shiftUp E.lt b j dj = shiftUp E.lt b (k + 1) d3)) (fun sv _ => b - (intOf sv).toNat)
                case atStart => exact ⟨k + 1, d3, by go_num, by omega, by omega, HSD.out, Lib.hid rfl⟩
                case round =>
                  obtain ⟨j, dj, rfl, hj1, hjb, hs, HI⟩ := hrel
                  by_cases hjn : j < b
                  · obtain ⟨q, rfl⟩ : ∃ q, j = q + 1 := ⟨j - 1, by omega⟩
                    have n1 : (q : Int) + 1 < (b : Int) := by omega
                    have n2 : (q : Int) + 1 < (E.n : Int) := by omega
                    have n3 : (q : Int) < (E.n : Int) := by omega
                    have n4 : (0 : Int) ≤ (q : Int) + 1 := by omega
                    have n5 : ((q : Int) + 1).toNat = q + 1 := by omega
                    have n6 : IntKind.i64.wrap (q : Int) = (q : Int) := by rw [IntKind.wrap_i64]; omega
                    have NE : Nonempty (Pt (Below wr.heap.size wr)) := ⟨⟨wr, Below.refl _ _⟩⟩
                    have p0 := fun p : Pt (Below wr.heap.size wr) => (hs.step p.property).c0 (i := q + 1) (by omega)
                    have p1 := fun p : Pt (Below wr.heap.size wr) => (hs.step p.property).c1 (i := q + 1) (by omega)
                    have p2 := fun p : Pt (Below wr.heap.size wr) => (hs.step p.property).c0 (i := q) (by omega)
                    have p3 := fun p : Pt (Below wr.heap.size wr) => (hs.step p.property).c1 (i := q) (by omega)
                    have CC := Lib.hid (fun p : Pt (Below wr.heap.size wr) => HCH.out dj[q + 1]! dj[q]! p.val (hs.step p.property).turns)
                    obtain ⟨x, hx⟩ : ∃ x, dj[q + 1]! = x := ⟨_, rfl⟩
                    obtain ⟨y, hy⟩ : ∃ y, dj[q]! = y := ⟨_, rfl⟩
                    rw [hx, hy] at CC
                    rw [hx] at p0 p1
                    rw [hy] at p2 p3
                    have SG := Lib.hid (fun (hp1 : E.lt x y = true) => (show shiftUp E.lt b (q + 1) dj = shiftUp E.lt b (q + 1 + 1) (swp dj (q + 1) q) from shiftUp_go E.lt b (q + 1) dj hjn (by rw [Nat.add_sub_cancel, hx, hy]; exact hp1)))
                    have SE := Lib.hid (fun (hp1 : E.lt x y = false) => (show shiftUp E.lt b (q + 1) dj = dj from shiftUp_stop E.lt b (q + 1) dj (.inr (by rw [Nat.add_sub_cancel, hx, hy]; exact hp1))))
                    have HSk := Lib.hid hs
                    clear hs hx hy
                    by_cases hl : E.cf x y < 0
                    · have HN := Lib.hid ((SG.out (E.lt_t hl)).symm.trans HI.out)
                      go_wp2_with fail
                      refine wp_region_class (S := Below wr.heap.size wr) (Below.refl _ _).drew (by kernel_rfl) (by kernel_rfl) ?_
                      repeat (go_big_quiet_step (first | (go_at_call 57; refine (CC.out _).mono ?_; rintro e w' ⟨rfl, hbel⟩; exact ⟨rfl, ⟨w', below_stepA (Pt.property _) hbel⟩, rfl⟩)))
                      refine wpQuiet_nil ?_
                      rintro W2 ⟨⟨_, hW⟩, rfl⟩
                      have HS2 := Lib.hid (HSk.out.step hW)
                      clear p0 p1 p2 p3 CC hW NE
                      obtain ⟨w2, hw2⟩ : ∃ w2, w2 = W2 := ⟨_, rfl⟩
                      rw [← hw2] at HS2
                      rw [← hw2]
                      clear hw2
                      obtain ⟨sx, hsx⟩ : ∃ x, dj[q + 1]! = x := ⟨_, rfl⟩
                      obtain ⟨sy, hsy⟩ : ∃ x, dj[q]! = x := ⟨_, rfl⟩
                      have z0 := HS2.out.c0 (i := q + 1) (by omega)
                      have z1 := HS2.out.c1 (i := q + 1) (by omega)
                      have z2 := HS2.out.c0 (i := q) (by omega)
                      have z3 := HS2.out.c1 (i := q) (by omega)
                      have fz := HS2.out.fz
                      have hsw := HS2.out.swap (i := q + 1) (j := q) (by omega) (by omega)
                      rw [hsx] at z0 z1
                      rw [hsy] at z2 z3
                      rw [hsx, hsy] at hsw
                      obtain ⟨⟨u1, m1⟩, ⟨u2, m2⟩, ⟨u3, m3⟩, f1, f2, f3⟩ := HS2.out.mid (i := q + 1) (j := q) (by omega) (by omega) (.int .i64 (E.r sy)) (.slice (E.A sy) (E.l sy) (E.c sy)) (.int .i64 (E.r sx))
                      have HSW := Lib.hid hsw.drew
                      clear hsw hsx hsy
                      go_wp2_with fail
                      go_big_region
                      clear z0 z1 z2 z3 fz m1 m2 m3 f1 f2 f3
                      go_wp2
                      exact ⟨⟨q + 1 + 1, _, by go_num, by omega, by omega, HSW.out, HN⟩, by simp [intOf]; omega⟩
                    · have HN := Lib.hid ((SE.out (E.lt_f hl)).symm.trans HI.out)
                      have hdd : decide (E.cf x y < 0) = false := decide_eq_false hl
                      go_wp2_with fail
                      refine wp_region_class (S := Below wr.heap.size wr) (Below.refl _ _).drew (by kernel_rfl) (by kernel_rfl) ?_
                      repeat (go_big_quiet_step (first | (go_at_call 57; refine (CC.out _).mono ?_; rintro e w' ⟨rfl, hbel⟩; exact ⟨rfl, ⟨w', below_stepA (Pt.property _) hbel⟩, rfl⟩)))
                      refine wpQuiet_nil ?_
                      rintro W2 ⟨⟨_, hW⟩, rfl⟩
                      have HS2 := Lib.hid (HSk.out.step hW)
                      clear p0 p1 p2 p3 CC hW NE
                      go_wp2
                      exact ⟨⟨k, s + 1, d4, rfl, by go_num, by omega, by omega, by omega, (by rw [FUp.out, ← HN.out]; exact HS2.out), HF⟩, by simp [intOf]; omega⟩
                  · have n1 : ¬ (j : Int) < (b : Int) := by omega
                    have HN := Lib.hid ((shiftUp_stop E.lt b j dj (.inl hjn)).symm.trans HI.out)
                    have HSk := Lib.hid hs
                    clear hs
                    go_wp2
                    exact ⟨⟨k, s + 1, d4, rfl, by go_num, by omega, by omega, by omega, (by rw [FUp.out, ← HN.out]; exact HSk.out), HF⟩, by simp [intOf]; omega⟩
              · have m1 : ¬ (2 : Int) ≤ (b : Int) - (k : Int) := by omega
                have FU := Lib.hid (FUn.out h2)
                go_wp2
                exact ⟨⟨k, s + 1, d4, rfl, by go_num, by omega, by omega, by omega, (by rw [FU.out]; exact HSD.out), HF⟩, by simp [intOf]; omega⟩
    · obtain rfl : s = 5 := by omega
      have HF := Lib.hid (show (dk, false) = R from HO.out)
      go_wp2
      go_ret
      rw [← HF.out]
      exact ⟨rfl, HSA.out⟩
end
end Go.Proofs.YtjgigcnjgblekaaDoor

namespace Go.Proofs
open Go.Shelf
def Tryd.sortA_ren : Go.Shelf.Ren := ⟨fun | 6 => 56 | 15 => 69 | 14 => 68 | 28 => 86 | 29 => 87 | 20 => 78 | 21 => 79 | 22 => 80 | 23 => 81 | 24 => 82 | 25 => 83 | 26 => 84 | 27 => 85 | 46 => 92 | 47 => 93 | 48 => 94 | 49 => 95 | 50 => 96 | 57 => 104 | n => n, fun | 22 => 23 | 24 => 30 | 25 => 96 | 3 => 3 | 39 => 105 | 0 => 0 | 53 => 120 | 55 => 122 | 4 => 4 | 46 => 113 | 45 => 112 | 50 => 117 | 5 => 5 | 9 => 9 | 66 => 125 | 70 => 129 | 76 => 138 | 77 => 139 | n => n, fun | n => n⟩
theorem Tryd.sortA : Go.Proofs.SlLaysF0.n6 Tryd.prog Tryd.sortA_ren := {
  mixed := by kernel_rfl
  f6 := ⟨Tryd.f56.name, by decide, Tryd.func56.trans (congrArg some (by kernel_rfl))⟩
  f14 := ⟨Tryd.f68.name, by decide, Tryd.func68.trans (congrArg some (by kernel_rfl))⟩
  f15 := Tryd.func69.trans (congrArg some (by kernel_rfl))
  f20 := ⟨Tryd.f78.name, by decide, Tryd.func78.trans (congrArg some (by kernel_rfl))⟩
  f21 := ⟨Tryd.f79.name, by decide, Tryd.func79.trans (congrArg some (by kernel_rfl))⟩
  f22 := ⟨Tryd.f80.name, by decide, Tryd.func80.trans (congrArg some (by kernel_rfl))⟩
  f23 := ⟨Tryd.f81.name, by decide, Tryd.func81.trans (congrArg some (by kernel_rfl))⟩
  f24 := ⟨Tryd.f82.name, by decide, Tryd.func82.trans (congrArg some (by kernel_rfl))⟩
  f25 := ⟨Tryd.f83.name, by decide, Tryd.func83.trans (congrArg some (by kernel_rfl))⟩
  f26 := ⟨Tryd.f84.name, by decide, Tryd.func84.trans (congrArg some (by kernel_rfl))⟩
  f27 := ⟨Tryd.f85.name, by decide, Tryd.func85.trans (congrArg some (by kernel_rfl))⟩
  f28 := Tryd.func86.trans (congrArg some (by kernel_rfl))
  f29 := Tryd.func87.trans (congrArg some (by kernel_rfl))
  f46 := ⟨Tryd.f92.name, by decide, Tryd.func92.trans (congrArg some (by kernel_rfl))⟩
  f47 := Tryd.func93.trans (congrArg some (by kernel_rfl))
  f48 := Tryd.func94.trans (congrArg some (by kernel_rfl))
  f49 := ⟨Tryd.f95.name, by decide, Tryd.func95.trans (congrArg some (by kernel_rfl))⟩
  f50 := ⟨Tryd.f96.name, by decide, Tryd.func96.trans (congrArg some (by kernel_rfl))⟩
  f57 := ⟨Tryd.f104.name, by decide, Tryd.func104.trans (congrArg some (by kernel_rfl))⟩
  t0 := Tryd.underlying0
  a0 := Tryd.isAgg0
  z0 := Tryd.sizeOf0
  v0 := Tryd.zeroValue0
  t3 := Tryd.underlying3
  a3 := Tryd.isAgg3
  z3 := Tryd.sizeOf3
  v3 := Tryd.zeroValue3
  t4 := Tryd.underlying4
  a4 := Tryd.isAgg4
  z4 := Tryd.sizeOf4
  v4 := Tryd.zeroValue4
  t5 := Tryd.underlying5
  a5 := Tryd.isAgg5
  z5 := Tryd.sizeOf5
  v5 := Tryd.zeroValue5
  t9 := Tryd.underlying9
  a9 := Tryd.isAgg9
  z9 := Tryd.sizeOf9
  v9 := Tryd.zeroValue9
  t22 := Tryd.underlying23
  a22 := Tryd.isAgg23
  z22 := Tryd.sizeOf23
  v22 := Tryd.zeroValue23
  t25 := Tryd.underlying96
  a25 := Tryd.isAgg96
  z25 := Tryd.sizeOf96
  v25 := Tryd.zeroValue96
  t39 := Tryd.underlying105
  a39 := Tryd.isAgg105
  z39 := Tryd.sizeOf105
  v39 := Tryd.zeroValue105
  t45 := Tryd.underlying112
  a45 := Tryd.isAgg112
  z45 := Tryd.sizeOf112
  v45 := Tryd.zeroValue112
  t46 := Tryd.underlying113
  a46 := Tryd.isAgg113
  z46 := Tryd.sizeOf113
  v46 := Tryd.zeroValue113
  t50 := Tryd.underlying117
  a50 := Tryd.isAgg117
  z50 := Tryd.sizeOf117
  v50 := Tryd.zeroValue117
  t53 := Tryd.underlying120
  a53 := Tryd.isAgg120
  z53 := Tryd.sizeOf120
  v53 := Tryd.zeroValue120
  t55 := Tryd.underlying122
  a55 := Tryd.isAgg122
  z55 := Tryd.sizeOf122
  v55 := Tryd.zeroValue122
  t66 := Tryd.underlying125
  a66 := Tryd.isAgg125
  z66 := Tryd.sizeOf125
  v66 := Tryd.zeroValue125
  t70 := Tryd.underlying129
  a70 := Tryd.isAgg129
  z70 := Tryd.sizeOf129
  v70 := Tryd.zeroValue129
  t76 := Tryd.underlying138
  a76 := Tryd.isAgg138
  z76 := Tryd.sizeOf138
  v76 := Tryd.zeroValue138
  t77 := Tryd.underlying139
  a77 := Tryd.isAgg139
  z77 := Tryd.sizeOf139
  v77 := Tryd.zeroValue139 }
end Go.Proofs

namespace Go.Proofs.YtjgigcnjgblekaaDoor
open Go Go.RowKit Go.Sort Classical

section
variable {α : Type} [Inhabited α] {E : SEnv α} {d : Array α} {W W' : World}
/-- A state of the random numbers in a box. -/
def Rq (q : Nat) (r : Nat) (W : World) : Prop := W.heap[q]? = some (.cells #[.int .u64 (r : Int)] 125 (0, 0))
theorem Rq.step {q r : Nat} (h : Rq q r W) (hb : Below W.heap.size W W') : Rq q r W' := (hb.block _ (lt_of_heap h)).trans h
theorem Rq.set {q r t : Nat} (h : Rq q r W) (n : Nat) : Rq q t ((W.setCell ⟨q, 0, none⟩ (.int .u64 (t : Int))).drewN n) := by
  have := heap_setCell_same _ _ 0 _ _ (.int .u64 (t : Int)) h
  unfold Rq
  rw [show ((W.setCell ⟨q, 0, none⟩ (.int .u64 (t : Int))).drewN n).heap = (W.setCell ⟨q, 0, none⟩ (.int .u64 (t : Int))).heap from rfl, this]
  rfl
theorem Rq.swapped {q r : Nat} (h : Rq q r W) {b o1 o2 o3 o4 : Nat} {v1 v2 v3 v4 : Value} (hq : q ≠ b) : Rq q r ((((W.setCell ⟨b, o1, none⟩ v1).setCell ⟨b, o2, none⟩ v2).setCell ⟨b, o3, none⟩ v3).setCell ⟨b, o4, none⟩ v4).drew := by
  unfold Rq
  rw [show ((((W.setCell ⟨b, o1, none⟩ v1).setCell ⟨b, o2, none⟩ v2).setCell ⟨b, o3, none⟩ v3).setCell ⟨b, o4, none⟩ v4).drew.heap = ((((W.setCell ⟨b, o1, none⟩ v1).setCell ⟨b, o2, none⟩ v2).setCell ⟨b, o3, none⟩ v3).setCell ⟨b, o4, none⟩ v4).heap from rfl,
    Below.heap_setCell _ _ _ _ hq, Below.heap_setCell _ _ _ _ hq, Below.heap_setCell _ _ _ _ hq, Below.heap_setCell _ _ _ _ hq]
  exact h
theorem nextPowW (L : Nat) (hL : L < 4611686018427387904) (w : World) : Calls Tryd.prog 93 #[.int .i64 (L : Int)] w fun e w' => e = .returned (.int .u64 ((1 <<< bitsLen L : Nat) : Int)) ∧ w' = w :=
  AnyF.nextPowerOfTwo (P := Tryd.prog) (ρ := Tryd.sortA_ren) { Tryd.sortA with } L (by omega) w
theorem nextW (q X : Nat) (hX : X < 18446744073709551616) (w : World) (h : Rq q X w) : Calls Tryd.prog 94 #[.pointer (some ⟨q, 0, none⟩)] w fun e w' => e = .returned (.int .u64 (xorNextN X : Nat)) ∧ w' = (w.setCell ⟨q, 0, none⟩ (.int .u64 (xorNextN X : Nat))).drewN 3 :=
  AnyF.xorshift_Next (P := Tryd.prog) (ρ := Tryd.sortA_ren) { Tryd.sortA with } q 0 X hX w (cell_of_row _ _ 0 _ _ _ h) (frozen_of_row _ _ 0 _ _ h)
set_option maxRecDepth 100000 in
set_option maxHeartbeats 8000000 in
theorem breakW (a L : Nat) (d : Array α) (W : World) (h : SW E d W) (h8 : 8 ≤ L) (hb : a + L ≤ E.n) (hn : E.n ≤ 1000000000000000) :
    Calls Tryd.prog 80 #[.slice (some ⟨E.b, 0, none⟩) E.n E.cap, .int .i64 (a : Int), .int .i64 ((a + L : Nat) : Int), .func (.func 57) #[.pointer (some ⟨E.p, 0, none⟩)] #[]] W fun e w' => e = .returned (.tuple #[]) ∧ SW E (breakPatterns d a (a + L)) w' := by
  obtain ⟨w0, hw0⟩ : ∃ w0, w0 = W.alloc (.cells #[.int .u64 (L : Int)] 125) := ⟨_, rfl⟩
  have hq : Rq W.heap.size L w0 := by rw [hw0]; exact heap_alloc_new W _
  have hs0 : SW E d w0 := by rw [hw0]; exact h.step ((Below.refl _ _).alloc (Nat.le_refl _) _)
  have hne : W.heap.size ≠ E.b := by have := h.lt; omega
  have hle : E.w.heap.size ≤ W.heap.size := h.turns.size
  obtain ⟨M, hM⟩ : ∃ M : Nat, M = 1 <<< bitsLen L := ⟨_, rfl⟩
  have hM1 : 1 ≤ M := by rw [hM, Nat.one_shiftLeft]; exact Nat.two_pow_pos _
  have hM2 : M ≤ 2 * L := by rw [hM, Nat.one_shiftLeft]; exact two_pow_bitsLen_le (by omega)
  have NP := Lib.hid (hM ▸ nextPowW L (by omega) w0)
  rw [breakPatterns_eq d a L h8, ← hM]
  clear hM
  have hLz : ((a : Int) + (L : Int) - (a : Int)) = (L : Int) := by omega
  have h8z : (8 : Int) ≤ (L : Int) := by omega
  have HS0 := Lib.hid (And.intro hs0 hq)
  obtain ⟨q, hq0⟩ : ∃ q, W.heap.size = q := ⟨_, rfl⟩
  rw [hq0] at HS0 hne hle
  clear hs0 hq h
  go_enter Tryd.func80, Tryd.ntmps80
  go_upto_region 3 with fail
  rw [← hw0]
  clear hw0 hq0
  go_wp2_with fail
  refine NP.out.mono ?_
  rintro e w1 ⟨rfl, rfl⟩
  clear NP
  go_wp2
  go_loopw [11] (fun vi wr => ∃ (t : Nat) (r : UInt64) (dk : Array α), vi = .int .i64 ((a : Int) + (L : Int) / 4 * 2 - 1 + (t : Int)) ∧ t ≤ 3 ∧ SW E dk wr ∧ Rq q r.toNat wr ∧
      Hid (bpRest a L M (a + L / 4 * 2 - 1) (3 - t) t (r, dk) = bpRest a L M (a + L / 4 * 2 - 1) 3 0 (UInt64.ofNat L, d))) (fun vi _ => ((a : Int) + (L : Int) / 4 * 2 + 2 - intOf vi).toNat)
  case atStart =>
    refine ⟨0, UInt64.ofNat L, d, by simp, by omega, HS0.out.1, ?_, Lib.hid rfl⟩
    rw [show (UInt64.ofNat L).toNat = L from by simp; omega]
    exact HS0.out.2
  case round =>
    obtain ⟨t, r, dk, rfl, ht, hs, hrq, HR⟩ := hrel
    by_cases ht3 : t < 3
    · have hle3 : (a : Int) + (L : Int) / 4 * 2 - 1 + (t : Int) ≤ (a : Int) + (L : Int) / 4 * 2 + 1 := by omega
      obtain ⟨R0, hRr⟩ : ∃ R0 : Nat, R0 = r.toNat := ⟨_, rfl⟩
      have lR : R0 < 18446744073709551616 := by rw [hRr]; exact r.toNat_lt
      obtain ⟨R', hR'⟩ : ∃ R' : Nat, R' = xorNextN R0 := ⟨_, rfl⟩
      have lR' : R' < 18446744073709551616 := by rw [hR']; exact xorNextN_lt R0 lR
      obtain ⟨O, hO⟩ : ∃ O : Nat, O = R' &&& (M - 1) := ⟨_, rfl⟩
      have lO : O ≤ M - 1 := by rw [hO]; exact Nat.and_le_right
      have eAnd : bits .and .u64 (R' : Int) ((M : Int) - 1) = (O : Int) := by
        rw [show ((M : Int) - 1) = ((M - 1 : Nat) : Int) by omega, bits_and_u64_nat _ _ lR' (by omega), hO]
      rw [← hRr] at hrq
      have CN := Lib.hid (hR' ▸ nextW q R0 lR wr hrq)
      have HN : Hid (R' = (xorNext r).toNat ∧ O = (xorNext r).toNat &&& (M - 1)) := by
        have e : R' = (xorNext r).toNat := by rw [hR', hRr, xorNext_toNat]
        exact Lib.hid ⟨e, by rw [hO, e]⟩
      clear hRr hR' hO
      have S2 := Lib.hid ((hs.other (q := q) (o := 0) hne hle (.int .u64 (R' : Int))).step (((Turns.refl [] (wr.setCell ⟨q, 0, none⟩ (.int .u64 (R' : Int)))).drewN 3).below (Nat.le_refl _) (fun x hx => by simp at hx)))
      have HQ2 := Lib.hid (Rq.set (t := R') hrq 3)
      clear hs hrq HS0
      generalize (wr.setCell ⟨q, 0, none⟩ (.int .u64 (R' : Int))).drewN 3 = w2 at CN S2 HQ2
      by_cases hLO : L ≤ O
      · have hLOz : (L : Int) ≤ (O : Int) := by omega
        have ea : ((a : Int) + (L : Int) / 4 * 2 - 1 + (t : Int)).toNat = a + L / 4 * 2 - 1 + t := by omega
        have pa : (0 : Int) ≤ (a : Int) + (L : Int) / 4 * 2 - 1 + (t : Int) := by omega
        have ba : (a : Int) + (L : Int) / 4 * 2 - 1 + (t : Int) < (E.n : Int) := by omega
        have ra : IntKind.i64.wrap ((a : Int) + (L : Int) / 4 * 2 - 1 + (t : Int)) = (a : Int) + (L : Int) / 4 * 2 - 1 + (t : Int) := by rw [IntKind.wrap_i64]; omega
        have ec : ((a : Int) + ((O : Int) - (L : Int))).toNat = a + (O - L) := by omega
        have pc : (0 : Int) ≤ (a : Int) + ((O : Int) - (L : Int)) := by omega
        have bc : (a : Int) + ((O : Int) - (L : Int)) < (E.n : Int) := by omega
        have rc : IntKind.i64.wrap ((a : Int) + ((O : Int) - (L : Int))) = (a : Int) + ((O : Int) - (L : Int)) := by rw [IntKind.wrap_i64]; omega
        go_wp2_with fail
        refine CN.out.mono ?_
        rintro e w' ⟨rfl, hw'⟩
        obtain rfl : w2 = w' := hw'.symm
        clear CN
        obtain ⟨sx, hsx⟩ : ∃ x, dk[a + L / 4 * 2 - 1 + t]! = x := ⟨_, rfl⟩
        obtain ⟨sy, hsy⟩ : ∃ x, dk[a + (O - L)]! = x := ⟨_, rfl⟩
        have z0 := S2.out.c0 (i := a + L / 4 * 2 - 1 + t) (by omega)
        have z1 := S2.out.c1 (i := a + L / 4 * 2 - 1 + t) (by omega)
        have z2 := S2.out.c0 (i := a + (O - L)) (by omega)
        have z3 := S2.out.c1 (i := a + (O - L)) (by omega)
        have fz := S2.out.fz
        have hsw := S2.out.swap (i := a + L / 4 * 2 - 1 + t) (j := a + (O - L)) (by omega) (by omega)
        rw [hsx] at z0 z1
        rw [hsy] at z2 z3
        rw [hsx, hsy] at hsw
        obtain ⟨⟨u1, m1⟩, ⟨u2, m2⟩, ⟨u3, m3⟩, f1, f2, f3⟩ := S2.out.mid (i := a + L / 4 * 2 - 1 + t) (j := a + (O - L)) (by omega) (by omega) (.int .i64 (E.r sy)) (.slice (E.A sy) (E.l sy) (E.c sy)) (.int .i64 (E.r sx))
        have HSW := Lib.hid hsw.drew
        clear hsw hsx hsy
        go_wp2_with fail
        go_big_region
        clear z0 z1 z2 z3 fz m1 m2 m3 f1 f2 f3
        have HQ3 := Lib.hid (HQ2.out.swapped (b := E.b) (o1 := (a + L / 4 * 2 - 1 + t) * 2) (o2 := (a + L / 4 * 2 - 1 + t) * 2 + 1) (o3 := (a + (O - L)) * 2) (o4 := (a + (O - L)) * 2 + 1) (v1 := .int .i64 (E.r sy)) (v2 := .slice (E.A sy) (E.l sy) (E.c sy)) (v3 := .int .i64 (E.r sx)) (v4 := .slice (E.A sx) (E.l sx) (E.c sx)) hne)
        go_wp2
        exact ⟨⟨t + 1, xorNext r, _, by congr 1; push_cast; omega, by omega, HSW.out, by rw [← HN.out.1]; exact HQ3.out, Lib.hid ((bp_step a L M _ t r dk ((O - L)) ht3 (by rw [← HN.out.2, if_pos (by omega)])).symm.trans HR.out)⟩, by simp [intOf]; omega⟩
      · have hLOz : ¬ (L : Int) ≤ (O : Int) := by omega
        have ea : ((a : Int) + (L : Int) / 4 * 2 - 1 + (t : Int)).toNat = a + L / 4 * 2 - 1 + t := by omega
        have pa : (0 : Int) ≤ (a : Int) + (L : Int) / 4 * 2 - 1 + (t : Int) := by omega
        have ba : (a : Int) + (L : Int) / 4 * 2 - 1 + (t : Int) < (E.n : Int) := by omega
        have ra : IntKind.i64.wrap ((a : Int) + (L : Int) / 4 * 2 - 1 + (t : Int)) = (a : Int) + (L : Int) / 4 * 2 - 1 + (t : Int) := by rw [IntKind.wrap_i64]; omega
        have ec : ((a : Int) + (O : Int)).toNat = a + O := by omega
        have pc : (0 : Int) ≤ (a : Int) + (O : Int) := by omega
        have bc : (a : Int) + (O : Int) < (E.n : Int) := by omega
        have rc : IntKind.i64.wrap ((a : Int) + (O : Int)) = (a : Int) + (O : Int) := by rw [IntKind.wrap_i64]; omega
        go_wp2_with fail
        refine CN.out.mono ?_
        rintro e w' ⟨rfl, hw'⟩
        obtain rfl : w2 = w' := hw'.symm
        clear CN
        obtain ⟨sx, hsx⟩ : ∃ x, dk[a + L / 4 * 2 - 1 + t]! = x := ⟨_, rfl⟩
        obtain ⟨sy, hsy⟩ : ∃ x, dk[a + O]! = x := ⟨_, rfl⟩
        have z0 := S2.out.c0 (i := a + L / 4 * 2 - 1 + t) (by omega)
        have z1 := S2.out.c1 (i := a + L / 4 * 2 - 1 + t) (by omega)
        have z2 := S2.out.c0 (i := a + O) (by omega)
        have z3 := S2.out.c1 (i := a + O) (by omega)
        have fz := S2.out.fz
        have hsw := S2.out.swap (i := a + L / 4 * 2 - 1 + t) (j := a + O) (by omega) (by omega)
        rw [hsx] at z0 z1
        rw [hsy] at z2 z3
        rw [hsx, hsy] at hsw
        obtain ⟨⟨u1, m1⟩, ⟨u2, m2⟩, ⟨u3, m3⟩, f1, f2, f3⟩ := S2.out.mid (i := a + L / 4 * 2 - 1 + t) (j := a + O) (by omega) (by omega) (.int .i64 (E.r sy)) (.slice (E.A sy) (E.l sy) (E.c sy)) (.int .i64 (E.r sx))
        have HSW := Lib.hid hsw.drew
        clear hsw hsx hsy
        go_wp2_with fail
        go_big_region
        clear z0 z1 z2 z3 fz m1 m2 m3 f1 f2 f3
        have HQ3 := Lib.hid (HQ2.out.swapped (b := E.b) (o1 := (a + L / 4 * 2 - 1 + t) * 2) (o2 := (a + L / 4 * 2 - 1 + t) * 2 + 1) (o3 := (a + O) * 2) (o4 := (a + O) * 2 + 1) (v1 := .int .i64 (E.r sy)) (v2 := .slice (E.A sy) (E.l sy) (E.c sy)) (v3 := .int .i64 (E.r sx)) (v4 := .slice (E.A sx) (E.l sx) (E.c sx)) hne)
        go_wp2
        exact ⟨⟨t + 1, xorNext r, _, by congr 1; push_cast; omega, by omega, HSW.out, by rw [← HN.out.1]; exact HQ3.out, Lib.hid ((bp_step a L M _ t r dk (O) ht3 (by rw [← HN.out.2, if_neg (by omega)])).symm.trans HR.out)⟩, by simp [intOf]; omega⟩
    · obtain rfl : t = 3 := by omega
      have hle3 : ¬ ((a : Int) + (L : Int) / 4 * 2 - 1 + ((3 : Nat) : Int) ≤ (a : Int) + (L : Int) / 4 * 2 + 1) := by omega
      have HS := Lib.hid hs
      clear hs hrq HS0
      go_wp2
      go_end0
      refine ⟨rfl, ?_⟩
      rw [← HR.out]
      exact HS.out
end
end Go.Proofs.YtjgigcnjgblekaaDoor
