/- choosePivot by a method value: the walk. reverseRange, siftDown, heapSort by a method value: the walks. Printed by wip/bin/sortw.py. heapSort by a method value: the walk. Printed by wip/bin/sortw.py. -/
import Derived.Test.YtjgigcnjgblekaaDoorKaq11
import Derived.Deep.Cut
namespace Go.Proofs.YtjgigcnjgblekaaDoor
open Go Go.RowKit Go.Sort Classical

section
variable {α : Type} [Inhabited α] {E : SEnv α} {d : Array α} {W W' : World}
def hintZ : Hint → Int
  | .unknown => 0
  | .increasing => 1
  | .decreasing => 2
def hintS (s : Nat) : Hint := if s = 0 then .increasing else if s = 12 then .decreasing else .unknown
/-- The end of choosePivot: the count is looked at. -/
theorem hintS_z (s : Nat) : hintZ (hintS s) = if s = 0 then 1 else if s = 12 then 2 else 0 := by
  unfold hintS
  by_cases h1 : s = 0
  · rw [if_pos h1, if_pos h1]; rfl
  · by_cases h2 : s = 12
    · rw [if_neg h1, if_neg h1, if_pos h2, if_pos h2]; rfl
    · rw [if_neg h1, if_neg h1, if_neg h2, if_neg h2]; rfl
theorem pivot_big (lt : α → α → Bool) (d : Array α) (a L : Nat) (h : 50 ≤ L) : choosePivot lt d a (a + L) =
    (let ri := medianAdjacent lt d (a + L / 4) 0; let rj := medianAdjacent lt d (a + L / 4 * 2) ri.2; let rk := medianAdjacent lt d (a + L / 4 * 3) rj.2; let r := median lt d ri.1 rj.1 rk.1 rk.2; (r.1, hintS r.2)) := by
  unfold choosePivot hintS
  simp only [Nat.add_sub_cancel_left, Nat.mul_one]
  rw [if_pos (show L ≥ 8 by omega), if_pos (show L ≥ 50 by omega)]
theorem pivot_small (lt : α → α → Bool) (d : Array α) (a L : Nat) (h : 8 ≤ L) (h2 : L < 50) : choosePivot lt d a (a + L) =
    (let r := median lt d (a + L / 4) (a + L / 4 * 2) (a + L / 4 * 3) 0; (r.1, hintS r.2)) := by
  unfold choosePivot hintS
  simp only [Nat.add_sub_cancel_left, Nat.mul_one]
  rw [if_pos (show L ≥ 8 by omega), if_neg (show ¬ L ≥ 50 by omega)]
set_option maxRecDepth 100000 in
set_option maxHeartbeats 1000000 in
theorem pivotW (HC : SC E) (a L : Nat) (d : Array α) (W : World) (h : SW E d W) (hL : 8 ≤ L) (hb : a + L ≤ E.n) (hn : E.n ≤ 1000000000000000) :
    Calls Tryd.prog 81 #[.slice (some ⟨E.b, 0, none⟩) E.n E.cap, .int .i64 (a : Int), .int .i64 ((a + L : Nat) : Int), .func (.func 57) #[.pointer (some ⟨E.p, 0, none⟩)] #[]] W
      fun e w' => e = .returned (.tuple #[.int .i64 ((choosePivot E.lt d a (a + L)).1 : Int), .int .i64 (hintZ (choosePivot E.lt d a (a + L)).2)]) ∧ SW E d w' := by
  obtain ⟨w0, hw0⟩ : ∃ w0, w0 = W.alloc (.cells #[.int .i64 0] 3) := ⟨_, rfl⟩
  have hq : Sq W.heap.size 0 w0 := by rw [hw0]; exact heap_alloc_new W _
  have hs0 : SW E d w0 := by rw [hw0]; exact h.step ((Below.refl _ _).alloc (Nat.le_refl _) _)
  have hq1 : W.heap.size ≠ E.b := by have := h.lt; omega
  have hq2 : E.w.heap.size ≤ W.heap.size := h.turns.size
  obtain ⟨Q, hQ⟩ : ∃ Q, L / 4 = Q := ⟨_, rfl⟩
  have hQ4 : 4 * Q ≤ L ∧ L < 4 * Q + 4 := by omega
  have HS := Lib.hid (And.intro hs0 hq)
  by_cases h50 : 50 ≤ L
  · rw [pivot_big _ _ _ _ h50, hQ]
    obtain ⟨ri, hri⟩ : ∃ r, medianAdjacent E.lt d (a + Q) 0 = r := ⟨_, rfl⟩
    have A1 := medianAdjW HC (a + Q) W.heap.size 0 d w0 hs0 (by omega) (by omega) hn hq hq1 hq2 (by omega)
    have B1 := median_le E.lt d (a + Q - 1) (a + Q) (a + Q + 1) 0
    rw [show median E.lt d (a + Q - 1) (a + Q) (a + Q + 1) 0 = ri from hri] at B1
    rw [hri] at A1
    obtain ⟨rj, hrj⟩ : ∃ r, medianAdjacent E.lt d (a + Q * 2) ri.2 = r := ⟨_, rfl⟩
    have A2 := Lib.hid (fun w (hw : SW E d w) (hz : Sq W.heap.size ri.2 w) => medianAdjW HC (a + Q * 2) W.heap.size ri.2 d w hw (by omega) (by omega) hn hz hq1 hq2 (by omega))
    have B2 := median_le E.lt d (a + Q * 2 - 1) (a + Q * 2) (a + Q * 2 + 1) ri.2
    rw [show median E.lt d (a + Q * 2 - 1) (a + Q * 2) (a + Q * 2 + 1) ri.2 = rj from hrj] at B2
    rw [hrj] at A2
    obtain ⟨rk, hrk⟩ : ∃ r, medianAdjacent E.lt d (a + Q * 3) rj.2 = r := ⟨_, rfl⟩
    have A3 := Lib.hid (fun w (hw : SW E d w) (hz : Sq W.heap.size rj.2 w) => medianAdjW HC (a + Q * 3) W.heap.size rj.2 d w hw (by omega) (by omega) hn hz hq1 hq2 (by omega))
    have B3 := median_le E.lt d (a + Q * 3 - 1) (a + Q * 3) (a + Q * 3 + 1) rj.2
    rw [show median E.lt d (a + Q * 3 - 1) (a + Q * 3) (a + Q * 3 + 1) rj.2 = rk from hrk] at B3
    rw [hrk] at A3
    obtain ⟨r, hr⟩ : ∃ r, median E.lt d ri.1 rj.1 rk.1 rk.2 = r := ⟨_, rfl⟩
    have A4 := Lib.hid (fun w (hw : SW E d w) (hz : Sq W.heap.size rk.2 w) => medianW HC ri.1 rj.1 rk.1 W.heap.size rk.2 d w hw (by omega) (by omega) (by omega) hz hq1 hq2 (by omega))
    rw [hr] at A4
    simp only [hri, hrj, hrk, hr]
    have HZ := Lib.hid (hintS_z r.2)
    rw [show ((a + Q : Nat) : Int) = (a : Int) + ((a : Int) + (L : Int) - (a : Int)) / 4 by omega] at A1
    have A1 := Lib.hid A1
    have e2 : ((a + Q * 2 : Nat) : Int) = (a : Int) + ((a : Int) + (L : Int) - (a : Int)) / 4 * 2 := by omega
    have e3 : ((a + Q * 3 : Nat) : Int) = (a : Int) + ((a : Int) + (L : Int) - (a : Int)) / 4 * 3 := by omega
    rw [e2] at A2
    rw [e3] at A3
    have l1 : (50 : Int) ≤ (a : Int) + (L : Int) - (a : Int) := by omega
    have l2 : (8 : Int) ≤ (a : Int) + (L : Int) - (a : Int) := by omega
    clear hs0 hq h e2 e3 B1 B2 B3 hri hrj hrk hr h50
    go_enter Tryd.func81, Tryd.ntmps81
    go_upto_region 3 with fail
    rw [← hw0]
    clear hw0
    go_wp2_with fail
    with_reducible refine A1.out.mono ?_
    rintro e w1 ⟨rfl, hs1, hq3⟩
    have C := Lib.hid (A2.out w1 hs1 hq3)
    clear hs1 hq3
    go_wp2_with fail
    with_reducible refine C.out.mono ?_
    rintro e w2 ⟨rfl, hs1, hq3⟩
    have C := Lib.hid (A3.out w2 hs1 hq3)
    clear hs1 hq3
    go_wp2_with fail
    with_reducible refine C.out.mono ?_
    rintro e w3 ⟨rfl, hs1, hq3⟩
    have C := Lib.hid (A4.out w3 hs1 hq3)
    clear hs1 hq3
    go_wp2_with fail
    with_reducible refine C.out.mono ?_
    rintro e w4 ⟨rfl, hs1, hq3⟩
    have c0 := cell_of_row _ _ 0 _ _ _ hq3
    have HF := Lib.hid hs1
    clear hs1 hq3 C A2 A3 A4
    obtain ⟨s, hsr⟩ : ∃ s, r.2 = s := ⟨_, rfl⟩
    rw [hsr] at c0 HZ
    by_cases z0 : s = 0
    · have HR := Lib.hid (HZ.out.trans (if_pos z0))
      subst z0
      go_wp2
      go_ret2
      refine ⟨?_, HF.out⟩
      rw [hsr, HR.out]; rfl
    · by_cases z1 : s = 12
      · have HR := Lib.hid ((HZ.out.trans (if_neg z0)).trans (if_pos z1))
        subst z1
        go_wp2
        go_ret2
        refine ⟨?_, HF.out⟩
        rw [hsr, HR.out]; rfl
      · have HR := Lib.hid ((HZ.out.trans (if_neg z0)).trans (if_neg z1))
        have y1 : ¬ (s : Int) = 0 := by omega
        have y2 : ¬ (s : Int) = 12 := by omega
        have y3 : ((s : Int) == 0) = false := by simpa using y1
        have y4 : ((s : Int) == 12) = false := by simpa using y2
        go_wp2
        go_ret2
        refine ⟨?_, HF.out⟩
        rw [hsr, HR.out]; rfl
  · rw [pivot_small _ _ _ _ hL (by omega), hQ]
    obtain ⟨r, hr⟩ : ∃ r, median E.lt d (a + Q) (a + Q * 2) (a + Q * 3) 0 = r := ⟨_, rfl⟩
    have A1 := medianW HC (a + Q) (a + Q * 2) (a + Q * 3) W.heap.size 0 d w0 hs0 (by omega) (by omega) (by omega) hq hq1 hq2 (by omega)
    rw [hr] at A1
    simp only [hr]
    have HZ := Lib.hid (hintS_z r.2)
    rw [show ((a + Q : Nat) : Int) = (a : Int) + ((a : Int) + (L : Int) - (a : Int)) / 4 by omega, show ((a + Q * 2 : Nat) : Int) = (a : Int) + ((a : Int) + (L : Int) - (a : Int)) / 4 * 2 by omega, show ((a + Q * 3 : Nat) : Int) = (a : Int) + ((a : Int) + (L : Int) - (a : Int)) / 4 * 3 by omega] at A1
    have A1 := Lib.hid A1
    have l1 : ¬ (50 : Int) ≤ (a : Int) + (L : Int) - (a : Int) := by omega
    have l2 : (8 : Int) ≤ (a : Int) + (L : Int) - (a : Int) := by omega
    clear hs0 hq h hr h50
    go_enter Tryd.func81, Tryd.ntmps81
    go_upto_region 3 with fail
    rw [← hw0]
    clear hw0
    go_wp2_with fail
    with_reducible refine A1.out.mono ?_
    rintro e w4 ⟨rfl, hs1, hq3⟩
    have c0 := cell_of_row _ _ 0 _ _ _ hq3
    have HF := Lib.hid hs1
    clear hs1 hq3 A1
    obtain ⟨s, hsr⟩ : ∃ s, r.2 = s := ⟨_, rfl⟩
    rw [hsr] at c0 HZ
    by_cases z0 : s = 0
    · have HR := Lib.hid (HZ.out.trans (if_pos z0))
      subst z0
      go_wp2
      go_ret2
      refine ⟨?_, HF.out⟩
      rw [hsr, HR.out]; rfl
    · by_cases z1 : s = 12
      · have HR := Lib.hid ((HZ.out.trans (if_neg z0)).trans (if_pos z1))
        subst z1
        go_wp2
        go_ret2
        refine ⟨?_, HF.out⟩
        rw [hsr, HR.out]; rfl
      · have HR := Lib.hid ((HZ.out.trans (if_neg z0)).trans (if_neg z1))
        have y1 : ¬ (s : Int) = 0 := by omega
        have y2 : ¬ (s : Int) = 12 := by omega
        have y3 : ((s : Int) == 0) = false := by simpa using y1
        have y4 : ((s : Int) == 12) = false := by simpa using y2
        go_wp2
        go_ret2
        refine ⟨?_, HF.out⟩
        rw [hsr, HR.out]; rfl
end
end Go.Proofs.YtjgigcnjgblekaaDoor

namespace Go.Proofs.YtjgigcnjgblekaaDoor
open Go Go.RowKit Go.Sort Classical

section
variable {α : Type} [Inhabited α] {E : SEnv α} {d : Array α} {W W' : World}
set_option maxRecDepth 100000 in
set_option maxHeartbeats 4000000 in
theorem revW (a b : Nat) (d : Array α) (W : World) (h : SW E d W) (hab : a < b) (hb : b ≤ E.n) (hn : E.n ≤ 1000000000000000) :
    Calls Tryd.prog 82 #[.slice (some ⟨E.b, 0, none⟩) E.n E.cap, .int .i64 (a : Int), .int .i64 (b : Int), .func (.func 57) #[.pointer (some ⟨E.p, 0, none⟩)] #[]] W fun e w' => e = .returned (.tuple #[]) ∧ SW E (reverseRange d a b) w' := by
  have HH := Lib.hid h
  clear h
  go_enter Tryd.func82, Tryd.ntmps82
  go_wp2
  go_loopw [8, 9] (fun i j wr => ∃ (k m : Nat) (dk : Array α), i = .int .i64 (k : Int) ∧ j = .int .i64 (m : Int) ∧ k ≤ b ∧ m < b ∧ SW E dk wr ∧ Hid (reverseLoop k m dk = reverseRange d a b)) (fun i j _ => (intOf j).toNat + 1 - (intOf i).toNat)
  case atStart => exact ⟨a, b - 1, d, rfl, by go_num, by omega, by omega, HH.out, Lib.hid rfl⟩
  case round =>
    obtain ⟨k, m, dk, rfl, rfl, hk, hm, hs, HO⟩ := hrel
    by_cases hkm : k < m
    · have i1 : (k : Int) < (m : Int) := by omega
      have i2 : (m : Int) < (E.n : Int) := by omega
      have i3 : (k : Int) < (E.n : Int) := by omega
      have HS2 := Lib.hid hs
      have HO2 := Lib.hid (show reverseLoop (k + 1) (m - 1) (swp dk k m) = reverseRange d a b by rw [← HO.out]; conv => rhs; rw [reverseLoop, if_pos hkm])
      clear hs
      obtain ⟨sx, hsx⟩ : ∃ x, dk[k]! = x := ⟨_, rfl⟩
      obtain ⟨sy, hsy⟩ : ∃ x, dk[m]! = x := ⟨_, rfl⟩
      have z0 := HS2.out.c0 (i := k) (by omega)
      have z1 := HS2.out.c1 (i := k) (by omega)
      have z2 := HS2.out.c0 (i := m) (by omega)
      have z3 := HS2.out.c1 (i := m) (by omega)
      have fz := HS2.out.fz
      have hsw := HS2.out.swap (i := k) (j := m) (by omega) (by omega)
      rw [hsx] at z0 z1
      rw [hsy] at z2 z3
      rw [hsx, hsy] at hsw
      obtain ⟨⟨u1, m1⟩, ⟨u2, m2⟩, ⟨u3, m3⟩, f1, f2, f3⟩ := HS2.out.mid (i := k) (j := m) (by omega) (by omega) (.int .i64 (E.r sy)) (.slice (E.A sy) (E.l sy) (E.c sy)) (.int .i64 (E.r sx))
      have HSW := Lib.hid hsw.drew
      clear hsw hsx hsy
      go_wp2_with fail
      go_big_region
      clear z0 z1 z2 z3 fz m1 m2 m3 f1 f2 f3
      go_wp2
      exact ⟨⟨k + 1, m - 1, _, by go_num, by go_num, by omega, by omega, HSW.out, HO2⟩, by simp [intOf]; omega⟩
    · have HR := Lib.hid (show dk = reverseRange d a b by rw [← HO.out, reverseLoop, if_neg hkm])
      have HS := Lib.hid hs
      clear hs
      go_wp2
      go_end0
      refine ⟨rfl, ?_⟩
      rw [← HR.out]
      exact HS.out
theorem sift_stop (lt : α → α → Bool) (hi first root : Nat) (d : Array α) (h : hi ≤ 2 * root + 1) : siftDown lt hi first root d = d := by
  rw [siftDown, dif_pos h]
theorem sift_step (lt : α → α → Bool) (hi first root c : Nat) (d : Array α) (h : 2 * root + 1 < hi) (hc : (c = 2 * root + 2 ∧ 2 * root + 2 < hi ∧ lt d[first + (2 * root + 1)]! d[first + (2 * root + 2)]! = true) ∨ (c = 2 * root + 1 ∧ (2 * root + 2 < hi → lt d[first + (2 * root + 1)]! d[first + (2 * root + 2)]! = false))) :
    siftDown lt hi first root d = if lt d[first + root]! d[first + c]! = true then siftDown lt hi first c (swp d (first + root) (first + c)) else d := by
  rw [siftDown, dif_neg (by omega)]
  rcases hc with ⟨rfl, h2, h3⟩ | ⟨rfl, h3⟩
  · have h3' : lt d[first + (2 * root + 1)]! d[first + (2 * root + 1) + 1]! = true := h3
    rw [if_pos (by simp only [h3', Bool.and_true, decide_eq_true_eq]; omega)]
    cases lt d[first + root]! d[first + (2 * root + 2)]! with
    | true => simp only [Bool.not_true, Bool.false_eq_true, if_false, if_true]; rw [dif_pos h2]
    | false => simp
  · have h4 : ¬ ((decide (2 * root + 1 + 1 < hi) && lt d[first + (2 * root + 1)]! d[first + (2 * root + 1) + 1]!) = true) := by
      by_cases h2 : 2 * root + 2 < hi
      · have h5 : lt d[first + (2 * root + 1)]! d[first + (2 * root + 1) + 1]! = false := h3 h2
        rw [h5]; simp
      · rw [decide_eq_false (show ¬ 2 * root + 1 + 1 < hi by omega)]; simp
    rw [if_neg h4]
    cases lt d[first + root]! d[first + (2 * root + 1)]! with
    | true => simp
    | false => simp
set_option maxRecDepth 100000 in
set_option maxHeartbeats 4000000 in
theorem siftW (HC : SC E) (lo hi first : Nat) (d : Array α) (W : World) (h : SW E d W) (hlo : lo ≤ 1000000000000000) (hb : first + hi ≤ E.n) (hn : E.n ≤ 1000000000000000) :
    Calls Tryd.prog 92 #[.slice (some ⟨E.b, 0, none⟩) E.n E.cap, .int .i64 (lo : Int), .int .i64 (hi : Int), .int .i64 (first : Int), .func (.func 57) #[.pointer (some ⟨E.p, 0, none⟩)] #[]] W fun e w' => e = .returned (.tuple #[]) ∧ SW E (siftDown E.lt hi first lo d) w' := by
  have HCH := Lib.hid HC
  have HH := Lib.hid h
  clear HC h
  go_enter Tryd.func92, Tryd.ntmps92
  go_wp2
  go_loopw [10] (fun i wr => ∃ (k : Nat) (dk : Array α), i = .int .i64 (k : Int) ∧ k ≤ 1000000000000000 ∧ SW E dk wr ∧ Hid (siftDown E.lt hi first k dk = siftDown E.lt hi first lo d)) (fun i _ => hi - (intOf i).toNat)
  case atStart => exact ⟨lo, d, rfl, hlo, HH.out, Lib.hid rfl⟩
  case round =>
    obtain ⟨k, dk, rfl, hk, hs, HO⟩ := hrel
    by_cases hst : hi ≤ 2 * k + 1
    · have HR := Lib.hid ((sift_stop E.lt hi first k dk hst).symm.trans HO.out)
      have HS := Lib.hid hs
      have i1 : (hi : Int) ≤ 2 * (k : Int) + 1 := by omega
      clear hs
      go_wp2
      go_end0
      refine ⟨rfl, ?_⟩
      rw [← HR.out]
      exact HS.out
    · have i1 : ¬ (hi : Int) ≤ 2 * (k : Int) + 1 := by omega
      have HS := Lib.hid hs
      by_cases h2 : 2 * k + 2 < hi
      · have i2 : 2 * (k : Int) + 1 + 1 < (hi : Int) := by omega
        have e1 : ((first : Int) + (2 * (k : Int) + 1)).toNat = first + (2 * k + 1) := by omega
        have e2 : ((first : Int) + (2 * (k : Int) + 1) + 1).toNat = first + (2 * k + 2) := by omega
        have e3 : (first : Int) + (2 * (k : Int) + 1) + 1 < (E.n : Int) := by omega
        have e4 : (first : Int) + (2 * (k : Int) + 1) < (E.n : Int) := by omega
        have e11 : (0 : Int) ≤ (first : Int) + (2 * (k : Int) + 1) := by omega
        have e12 : (0 : Int) ≤ (first : Int) + (2 * (k : Int) + 1) + 1 := by omega
        have NE : Nonempty (Pt (Below wr.heap.size wr)) := ⟨⟨wr, Below.refl _ _⟩⟩
        have p0 := fun p : Pt (Below wr.heap.size wr) => (hs.step p.property).c0 (i := first + (2 * k + 1)) (by omega)
        have p1 := fun p : Pt (Below wr.heap.size wr) => (hs.step p.property).c1 (i := first + (2 * k + 1)) (by omega)
        have p2 := fun p : Pt (Below wr.heap.size wr) => (hs.step p.property).c0 (i := first + (2 * k + 2)) (by omega)
        have p3 := fun p : Pt (Below wr.heap.size wr) => (hs.step p.property).c1 (i := first + (2 * k + 2)) (by omega)
        have CC := Lib.hid (fun p : Pt (Below wr.heap.size wr) => HCH.out dk[first + (2 * k + 1)]! dk[first + (2 * k + 2)]! p.val (hs.step p.property).turns)
        obtain ⟨x, hx⟩ : ∃ x, dk[first + (2 * k + 1)]! = x := ⟨_, rfl⟩
        obtain ⟨y, hy⟩ : ∃ y, dk[first + (2 * k + 2)]! = y := ⟨_, rfl⟩
        rw [hx, hy] at CC
        rw [hx] at p0 p1
        rw [hy] at p2 p3
        have SS := Lib.hid (fun c hc => sift_step E.lt hi first k c dk (by omega) hc)
        rw [hx, hy] at SS
        clear hs hx hy
        by_cases hl : E.cf x y < 0
        · have ST := SS.out (2 * k + 2) (.inl ⟨rfl, h2, E.lt_t hl⟩)
          clear SS
          go_wp2_with fail
          refine wp_region_class (S := Below wr.heap.size wr) (Below.refl _ _).drew (by kernel_rfl) (by kernel_rfl) ?_
          repeat (go_big_quiet_step (first | (go_at_call 57; refine (CC.out _).mono ?_; rintro e w' ⟨rfl, hbel⟩; exact ⟨rfl, ⟨w', below_stepA (Pt.property _) hbel⟩, rfl⟩)))
          refine wpQuiet_nil ?_
          rintro W2 ⟨⟨_, hW⟩, rfl⟩
          have HS2 := Lib.hid (HS.out.step hW)
          clear p0 p1 p2 p3 CC hW NE
          obtain ⟨w2, hw2⟩ : ∃ w2, w2 = W2 := ⟨_, rfl⟩
          rw [← hw2] at HS2
          rw [← hw2]
          clear hw2
          clear e1 e2 e3 e4 e11 e12
          go_upto_region 5 with fail
          have e5 : ((first : Int) + (2 * (k : Int) + 1 + 1)).toNat = first + (2 * k + 2) := by omega
          have e6 : (first : Int) + (2 * (k : Int) + 1 + 1) < (E.n : Int) := by omega
          have e7 : (0 : Int) ≤ (first : Int) + (2 * (k : Int) + 1 + 1) := by omega
          have e8 : ((first : Int) + (k : Int)).toNat = first + k := by omega
          have e9 : (first : Int) + (k : Int) < (E.n : Int) := by omega
          have e10 : (0 : Int) ≤ (first : Int) + (k : Int) := by omega
          have hs := HS2.out
          have NE : Nonempty (Pt (Below w2.heap.size w2)) := ⟨⟨w2, Below.refl _ _⟩⟩
          have p0 := fun p : Pt (Below w2.heap.size w2) => (hs.step p.property).c0 (i := first + k) (by omega)
          have p1 := fun p : Pt (Below w2.heap.size w2) => (hs.step p.property).c1 (i := first + k) (by omega)
          have p2 := fun p : Pt (Below w2.heap.size w2) => (hs.step p.property).c0 (i := first + (2 * k + 2)) (by omega)
          have p3 := fun p : Pt (Below w2.heap.size w2) => (hs.step p.property).c1 (i := first + (2 * k + 2)) (by omega)
          have CC := Lib.hid (fun p : Pt (Below w2.heap.size w2) => HCH.out dk[first + k]! dk[first + (2 * k + 2)]! p.val (hs.step p.property).turns)
          obtain ⟨x, hx⟩ : ∃ x, dk[first + k]! = x := ⟨_, rfl⟩
          obtain ⟨y, hy⟩ : ∃ y, dk[first + (2 * k + 2)]! = y := ⟨_, rfl⟩
          rw [hx, hy] at CC
          rw [hx] at p0 p1
          rw [hy] at p2 p3
          rw [hx, hy] at ST
          have HX := Lib.hid (And.intro hx hy)
          clear hs hx hy
          by_cases hl : E.cf x y < 0
          · rw [if_pos (E.lt_t hl)] at ST
            go_wp2_with fail
            refine wp_region_class (S := Below w2.heap.size w2) (Below.refl _ _).drew (by kernel_rfl) (by kernel_rfl) ?_
            repeat (go_big_quiet_step (first | (go_at_call 57; refine (CC.out _).mono ?_; rintro e w' ⟨rfl, hbel⟩; exact ⟨rfl, ⟨w', below_stepA (Pt.property _) hbel⟩, rfl⟩)))
            refine wpQuiet_nil ?_
            rintro W2 ⟨⟨_, hW⟩, rfl⟩
            have HS3 := Lib.hid (HS2.out.step hW)
            clear p0 p1 p2 p3 CC hW NE
            obtain ⟨w3, hw2⟩ : ∃ w2, w2 = W2 := ⟨_, rfl⟩
            rw [← hw2] at HS3
            rw [← hw2]
            clear hw2
            obtain ⟨sx, hsx⟩ : ∃ x, dk[first + k]! = x := ⟨_, rfl⟩
            obtain ⟨sy, hsy⟩ : ∃ x, dk[first + (2 * k + 2)]! = x := ⟨_, rfl⟩
            have z0 := HS3.out.c0 (i := first + k) (by omega)
            have z1 := HS3.out.c1 (i := first + k) (by omega)
            have z2 := HS3.out.c0 (i := first + (2 * k + 2)) (by omega)
            have z3 := HS3.out.c1 (i := first + (2 * k + 2)) (by omega)
            have fz := HS3.out.fz
            have hsw := HS3.out.swap (i := first + k) (j := first + (2 * k + 2)) (by omega) (by omega)
            rw [hsx] at z0 z1
            rw [hsy] at z2 z3
            rw [hsx, hsy] at hsw
            obtain ⟨⟨u1, m1⟩, ⟨u2, m2⟩, ⟨u3, m3⟩, f1, f2, f3⟩ := HS3.out.mid (i := first + k) (j := first + (2 * k + 2)) (by omega) (by omega) (.int .i64 (E.r sy)) (.slice (E.A sy) (E.l sy) (E.c sy)) (.int .i64 (E.r sx))
            have HSW := Lib.hid hsw.drew
            clear hsw hsx hsy
            go_wp2_with fail
            go_big_region
            clear z0 z1 z2 z3 fz m1 m2 m3 f1 f2 f3
            go_wp2
            exact ⟨⟨2 * k + 2, _, by go_num, by omega, HSW.out, Lib.hid (ST.symm.trans HO.out)⟩, by simp [intOf]; omega⟩
          · rw [if_neg (by rw [E.lt_f hl]; decide)] at ST
            have HR := Lib.hid (ST.symm.trans HO.out)
            have hdd : decide (E.cf x y < 0) = false := decide_eq_false hl
            go_wp2_with fail
            refine wp_region_class (S := Below w2.heap.size w2) (Below.refl _ _).drew (by kernel_rfl) (by kernel_rfl) ?_
            repeat (go_big_quiet_step (first | (go_at_call 57; refine (CC.out _).mono ?_; rintro e w' ⟨rfl, hbel⟩; exact ⟨rfl, ⟨w', below_stepA (Pt.property _) hbel⟩, rfl⟩)))
            refine wpQuiet_nil ?_
            rintro W2 ⟨⟨_, hW⟩, rfl⟩
            have HS3 := Lib.hid (HS2.out.step hW)
            clear p0 p1 p2 p3 CC hW NE
            go_wp2
            refine bodyPost_ret (results_none rfl _ _ _) rfl ?_
            refine ⟨rfl, ?_⟩
            rw [← HR.out]
            exact HS3.out
        · have ST := SS.out (2 * k + 1) (.inr ⟨rfl, fun _ => E.lt_f hl⟩)
          clear SS
          go_wp2_with fail
          refine wp_region_class (S := Below wr.heap.size wr) (Below.refl _ _).drew (by kernel_rfl) (by kernel_rfl) ?_
          repeat (go_big_quiet_step (first | (go_at_call 57; refine (CC.out _).mono ?_; rintro e w' ⟨rfl, hbel⟩; exact ⟨rfl, ⟨w', below_stepA (Pt.property _) hbel⟩, rfl⟩)))
          refine wpQuiet_nil ?_
          rintro W2 ⟨⟨_, hW⟩, rfl⟩
          have HS2 := Lib.hid (HS.out.step hW)
          clear p0 p1 p2 p3 CC hW NE
          obtain ⟨w2, hw2⟩ : ∃ w2, w2 = W2 := ⟨_, rfl⟩
          rw [← hw2] at HS2
          rw [← hw2]
          clear hw2
          clear e1 e2 e3 e4 e11 e12
          go_upto_region 5 with fail
          have e5 : ((first : Int) + (2 * (k : Int) + 1)).toNat = first + (2 * k + 1) := by omega
          have e6 : (first : Int) + (2 * (k : Int) + 1) < (E.n : Int) := by omega
          have e7 : (0 : Int) ≤ (first : Int) + (2 * (k : Int) + 1) := by omega
          have e8 : ((first : Int) + (k : Int)).toNat = first + k := by omega
          have e9 : (first : Int) + (k : Int) < (E.n : Int) := by omega
          have e10 : (0 : Int) ≤ (first : Int) + (k : Int) := by omega
          have hs := HS2.out
          have NE : Nonempty (Pt (Below w2.heap.size w2)) := ⟨⟨w2, Below.refl _ _⟩⟩
          have p0 := fun p : Pt (Below w2.heap.size w2) => (hs.step p.property).c0 (i := first + k) (by omega)
          have p1 := fun p : Pt (Below w2.heap.size w2) => (hs.step p.property).c1 (i := first + k) (by omega)
          have p2 := fun p : Pt (Below w2.heap.size w2) => (hs.step p.property).c0 (i := first + (2 * k + 1)) (by omega)
          have p3 := fun p : Pt (Below w2.heap.size w2) => (hs.step p.property).c1 (i := first + (2 * k + 1)) (by omega)
          have CC := Lib.hid (fun p : Pt (Below w2.heap.size w2) => HCH.out dk[first + k]! dk[first + (2 * k + 1)]! p.val (hs.step p.property).turns)
          obtain ⟨x, hx⟩ : ∃ x, dk[first + k]! = x := ⟨_, rfl⟩
          obtain ⟨y, hy⟩ : ∃ y, dk[first + (2 * k + 1)]! = y := ⟨_, rfl⟩
          rw [hx, hy] at CC
          rw [hx] at p0 p1
          rw [hy] at p2 p3
          rw [hx, hy] at ST
          have HX := Lib.hid (And.intro hx hy)
          clear hs hx hy
          by_cases hl : E.cf x y < 0
          · rw [if_pos (E.lt_t hl)] at ST
            go_wp2_with fail
            refine wp_region_class (S := Below w2.heap.size w2) (Below.refl _ _).drew (by kernel_rfl) (by kernel_rfl) ?_
            repeat (go_big_quiet_step (first | (go_at_call 57; refine (CC.out _).mono ?_; rintro e w' ⟨rfl, hbel⟩; exact ⟨rfl, ⟨w', below_stepA (Pt.property _) hbel⟩, rfl⟩)))
            refine wpQuiet_nil ?_
            rintro W2 ⟨⟨_, hW⟩, rfl⟩
            have HS3 := Lib.hid (HS2.out.step hW)
            clear p0 p1 p2 p3 CC hW NE
            obtain ⟨w3, hw2⟩ : ∃ w2, w2 = W2 := ⟨_, rfl⟩
            rw [← hw2] at HS3
            rw [← hw2]
            clear hw2
            obtain ⟨sx, hsx⟩ : ∃ x, dk[first + k]! = x := ⟨_, rfl⟩
            obtain ⟨sy, hsy⟩ : ∃ x, dk[first + (2 * k + 1)]! = x := ⟨_, rfl⟩
            have z0 := HS3.out.c0 (i := first + k) (by omega)
            have z1 := HS3.out.c1 (i := first + k) (by omega)
            have z2 := HS3.out.c0 (i := first + (2 * k + 1)) (by omega)
            have z3 := HS3.out.c1 (i := first + (2 * k + 1)) (by omega)
            have fz := HS3.out.fz
            have hsw := HS3.out.swap (i := first + k) (j := first + (2 * k + 1)) (by omega) (by omega)
            rw [hsx] at z0 z1
            rw [hsy] at z2 z3
            rw [hsx, hsy] at hsw
            obtain ⟨⟨u1, m1⟩, ⟨u2, m2⟩, ⟨u3, m3⟩, f1, f2, f3⟩ := HS3.out.mid (i := first + k) (j := first + (2 * k + 1)) (by omega) (by omega) (.int .i64 (E.r sy)) (.slice (E.A sy) (E.l sy) (E.c sy)) (.int .i64 (E.r sx))
            have HSW := Lib.hid hsw.drew
            clear hsw hsx hsy
            go_wp2_with fail
            go_big_region
            clear z0 z1 z2 z3 fz m1 m2 m3 f1 f2 f3
            go_wp2
            exact ⟨⟨2 * k + 1, _, by go_num, by omega, HSW.out, Lib.hid (ST.symm.trans HO.out)⟩, by simp [intOf]; omega⟩
          · rw [if_neg (by rw [E.lt_f hl]; decide)] at ST
            have HR := Lib.hid (ST.symm.trans HO.out)
            have hdd : decide (E.cf x y < 0) = false := decide_eq_false hl
            go_wp2_with fail
            refine wp_region_class (S := Below w2.heap.size w2) (Below.refl _ _).drew (by kernel_rfl) (by kernel_rfl) ?_
            repeat (go_big_quiet_step (first | (go_at_call 57; refine (CC.out _).mono ?_; rintro e w' ⟨rfl, hbel⟩; exact ⟨rfl, ⟨w', below_stepA (Pt.property _) hbel⟩, rfl⟩)))
            refine wpQuiet_nil ?_
            rintro W2 ⟨⟨_, hW⟩, rfl⟩
            have HS3 := Lib.hid (HS2.out.step hW)
            clear p0 p1 p2 p3 CC hW NE
            go_wp2
            refine bodyPost_ret (results_none rfl _ _ _) rfl ?_
            refine ⟨rfl, ?_⟩
            rw [← HR.out]
            exact HS3.out
      · have i2 : ¬ 2 * (k : Int) + 1 + 1 < (hi : Int) := by omega
        have i3 : decide (2 * (k : Int) + 1 + 1 < (hi : Int)) = false := decide_eq_false i2
        have wq : IntKind.i64.wrap (2 * (k : Int) + 1 + 1) = 2 * (k : Int) + 1 + 1 := by rw [IntKind.wrap_i64]; omega
        have ST := sift_step E.lt hi first k (2 * k + 1) dk (by omega) (.inr ⟨rfl, fun h => absurd h h2⟩)
        have HS1 := Lib.hid (fun q => hs.step (((Turns.refl [] wr).drewN q).below (Nat.le_refl _) (fun x hx => by simp at hx)))
        clear hs
        go_wp2_with fail
        go_quiet (fail)
        go_upto_region 5 with fail
        have HS2 := Lib.hid (HS1.out nq)
        clear HS1
        generalize wr.drewN nq = w2 at HS2 ⊢
        have e5 : ((first : Int) + (2 * (k : Int) + 1)).toNat = first + (2 * k + 1) := by omega
        have e6 : (first : Int) + (2 * (k : Int) + 1) < (E.n : Int) := by omega
        have e7 : (0 : Int) ≤ (first : Int) + (2 * (k : Int) + 1) := by omega
        have e8 : ((first : Int) + (k : Int)).toNat = first + k := by omega
        have e9 : (first : Int) + (k : Int) < (E.n : Int) := by omega
        have e10 : (0 : Int) ≤ (first : Int) + (k : Int) := by omega
        have hs := HS2.out
        have NE : Nonempty (Pt (Below w2.heap.size w2)) := ⟨⟨w2, Below.refl _ _⟩⟩
        have p0 := fun p : Pt (Below w2.heap.size w2) => (hs.step p.property).c0 (i := first + k) (by omega)
        have p1 := fun p : Pt (Below w2.heap.size w2) => (hs.step p.property).c1 (i := first + k) (by omega)
        have p2 := fun p : Pt (Below w2.heap.size w2) => (hs.step p.property).c0 (i := first + (2 * k + 1)) (by omega)
        have p3 := fun p : Pt (Below w2.heap.size w2) => (hs.step p.property).c1 (i := first + (2 * k + 1)) (by omega)
        have CC := Lib.hid (fun p : Pt (Below w2.heap.size w2) => HCH.out dk[first + k]! dk[first + (2 * k + 1)]! p.val (hs.step p.property).turns)
        obtain ⟨x, hx⟩ : ∃ x, dk[first + k]! = x := ⟨_, rfl⟩
        obtain ⟨y, hy⟩ : ∃ y, dk[first + (2 * k + 1)]! = y := ⟨_, rfl⟩
        rw [hx, hy] at CC
        rw [hx] at p0 p1
        rw [hy] at p2 p3
        rw [hx, hy] at ST
        have HX := Lib.hid (And.intro hx hy)
        clear hs hx hy
        by_cases hl : E.cf x y < 0
        · rw [if_pos (E.lt_t hl)] at ST
          go_wp2_with fail
          refine wp_region_class (S := Below w2.heap.size w2) (Below.refl _ _).drew (by kernel_rfl) (by kernel_rfl) ?_
          repeat (go_big_quiet_step (first | (go_at_call 57; refine (CC.out _).mono ?_; rintro e w' ⟨rfl, hbel⟩; exact ⟨rfl, ⟨w', below_stepA (Pt.property _) hbel⟩, rfl⟩)))
          refine wpQuiet_nil ?_
          rintro W2 ⟨⟨_, hW⟩, rfl⟩
          have HS3 := Lib.hid (HS2.out.step hW)
          clear p0 p1 p2 p3 CC hW NE
          obtain ⟨w3, hw2⟩ : ∃ w2, w2 = W2 := ⟨_, rfl⟩
          rw [← hw2] at HS3
          rw [← hw2]
          clear hw2
          obtain ⟨sx, hsx⟩ : ∃ x, dk[first + k]! = x := ⟨_, rfl⟩
          obtain ⟨sy, hsy⟩ : ∃ x, dk[first + (2 * k + 1)]! = x := ⟨_, rfl⟩
          have z0 := HS3.out.c0 (i := first + k) (by omega)
          have z1 := HS3.out.c1 (i := first + k) (by omega)
          have z2 := HS3.out.c0 (i := first + (2 * k + 1)) (by omega)
          have z3 := HS3.out.c1 (i := first + (2 * k + 1)) (by omega)
          have fz := HS3.out.fz
          have hsw := HS3.out.swap (i := first + k) (j := first + (2 * k + 1)) (by omega) (by omega)
          rw [hsx] at z0 z1
          rw [hsy] at z2 z3
          rw [hsx, hsy] at hsw
          obtain ⟨⟨u1, m1⟩, ⟨u2, m2⟩, ⟨u3, m3⟩, f1, f2, f3⟩ := HS3.out.mid (i := first + k) (j := first + (2 * k + 1)) (by omega) (by omega) (.int .i64 (E.r sy)) (.slice (E.A sy) (E.l sy) (E.c sy)) (.int .i64 (E.r sx))
          have HSW := Lib.hid hsw.drew
          clear hsw hsx hsy
          go_wp2_with fail
          go_big_region
          clear z0 z1 z2 z3 fz m1 m2 m3 f1 f2 f3
          go_wp2
          exact ⟨⟨2 * k + 1, _, by go_num, by omega, HSW.out, Lib.hid (ST.symm.trans HO.out)⟩, by simp [intOf]; omega⟩
        · rw [if_neg (by rw [E.lt_f hl]; decide)] at ST
          have HR := Lib.hid (ST.symm.trans HO.out)
          have hdd : decide (E.cf x y < 0) = false := decide_eq_false hl
          go_wp2_with fail
          refine wp_region_class (S := Below w2.heap.size w2) (Below.refl _ _).drew (by kernel_rfl) (by kernel_rfl) ?_
          repeat (go_big_quiet_step (first | (go_at_call 57; refine (CC.out _).mono ?_; rintro e w' ⟨rfl, hbel⟩; exact ⟨rfl, ⟨w', below_stepA (Pt.property _) hbel⟩, rfl⟩)))
          refine wpQuiet_nil ?_
          rintro W2 ⟨⟨_, hW⟩, rfl⟩
          have HS3 := Lib.hid (HS2.out.step hW)
          clear p0 p1 p2 p3 CC hW NE
          go_wp2
          refine bodyPost_ret (results_none rfl _ _ _) rfl ?_
          refine ⟨rfl, ?_⟩
          rw [← HR.out]
          exact HS3.out
end
end Go.Proofs.YtjgigcnjgblekaaDoor

namespace Go.Proofs.YtjgigcnjgblekaaDoor
open Go Go.RowKit Go.Sort Classical

section
variable {α : Type} [Inhabited α] {E : SEnv α} {d : Array α} {W W' : World}
set_option maxRecDepth 100000 in
set_option maxHeartbeats 4000000 in
theorem heapW (HC : SC E) (a b : Nat) (d : Array α) (W : World) (h : SW E d W) (hab : a < b) (hb : b ≤ E.n) (hn : E.n ≤ 1000000000000000) :
    Calls Tryd.prog 79 #[.slice (some ⟨E.b, 0, none⟩) E.n E.cap, .int .i64 (a : Int), .int .i64 (b : Int), .func (.func 57) #[.pointer (some ⟨E.p, 0, none⟩)] #[]] W fun e w' => e = .returned (.tuple #[]) ∧ SW E (heapSort E.lt d a b) w' := by
  obtain ⟨L, hL⟩ : ∃ L, b - a = L := ⟨_, rfl⟩
  have eL : ((L : Nat) : Int) = (b : Int) - (a : Int) := by omega
  have S1 := Lib.hid (fun (i : Nat) (dk : Array α) (w : World) (hw : SW E dk w) (hi : i ≤ 1000000000000000) => eL ▸ siftW HC i L a dk w hw hi (by omega) hn)
  have S2 := Lib.hid (fun (q : Nat) (dk : Array α) (w : World) (hw : SW E dk w) (hq : a + q ≤ E.n) => (show ((0 : Nat) : Int) = 0 from rfl) ▸ siftW HC 0 q a dk w hw (by omega) hq hn)
  have HH := Lib.hid h
  clear HC h
  go_enter Tryd.func79, Tryd.ntmps79
  go_wp2
  go_loopw [11] (fun i wr => ∃ (k : Nat) (z : Int) (dk : Array α), i = .int .i64 z ∧ z = (k : Int) - 1 ∧ k ≤ L ∧ SW E dk wr ∧ Hid (heapBuild E.lt L a k dk = heapBuild E.lt L a ((L - 1) / 2 + 1) d)) (fun i _ => (intOf i + 1).toNat)
  case atStart => exact ⟨(L - 1) / 2 + 1, _, d, rfl, by omega, by omega, HH.out, Lib.hid rfl⟩
  case round =>
    obtain ⟨k, z, dk, rfl, hz, hk, hs, HO⟩ := hrel
    rcases (show (∃ q, k = q + 1) ∨ k = 0 by rcases k with _ | q; exact .inr rfl; exact .inl ⟨q, rfl⟩) with ⟨q, rfl⟩ | rfl
    · obtain rfl : z = (q : Int) := by omega
      have C := Lib.hid (S1.out q dk wr hs (by omega))
      have HO2 := Lib.hid (show heapBuild E.lt L a q (siftDown E.lt L a q dk) = heapBuild E.lt L a ((L - 1) / 2 + 1) d from HO.out)
      have i1 : (0 : Int) ≤ (q : Int) := by omega
      clear hs HO hz
      go_wp2_with fail
      with_reducible refine C.out.mono ?_
      rintro e w1 ⟨rfl, hs1⟩
      have HS := Lib.hid hs1
      clear hs1
      go_wp2
      exact ⟨⟨q, (q : Int) - 1, _, by go_num, rfl, by omega, HS.out, HO2⟩, by simp [intOf]⟩
    · obtain rfl : z = -1 := by omega
      have HB := Lib.hid (show dk = heapBuild E.lt L a ((L - 1) / 2 + 1) d from HO.out)
      have HS := Lib.hid hs
      clear hs HO hz
      go_wp2
      go_loopw [12] (fun i wr => ∃ (k : Nat) (z : Int) (dm : Array α), i = .int .i64 z ∧ z = (k : Int) - 1 ∧ k ≤ L ∧ SW E dm wr ∧ Hid (heapPop E.lt a k dm = heapPop E.lt a L dk)) (fun i _ => (intOf i + 1).toNat)
      case atStart => exact ⟨L, _, dk, rfl, by omega, by omega, HS.out, Lib.hid rfl⟩
      case round =>
        obtain ⟨k, z, dm, rfl, hz, hk, hs, HO⟩ := hrel
        rcases (show (∃ q, k = q + 1) ∨ k = 0 by rcases k with _ | q; exact .inr rfl; exact .inl ⟨q, rfl⟩) with ⟨q, rfl⟩ | rfl
        · obtain rfl : z = (q : Int) := by omega
          have HO2 := Lib.hid (show heapPop E.lt a q (siftDown E.lt q a 0 (swp dm a (a + q))) = heapPop E.lt a L dk from HO.out)
          have i1 : (0 : Int) ≤ (q : Int) := by omega
          have i2 : (a : Int) + (q : Int) < (E.n : Int) := by omega
          have i3 : ((a : Int) + (q : Int)).toNat = a + q := by omega
          have i4 : (0 : Int) ≤ (a : Int) + (q : Int) := by omega
          have i5 : (a : Int) < (E.n : Int) := by omega
          have HS2 := Lib.hid hs
          clear hs HO hz
          obtain ⟨sx, hsx⟩ : ∃ x, dm[a]! = x := ⟨_, rfl⟩
          obtain ⟨sy, hsy⟩ : ∃ x, dm[a + q]! = x := ⟨_, rfl⟩
          have z0 := HS2.out.c0 (i := a) (by omega)
          have z1 := HS2.out.c1 (i := a) (by omega)
          have z2 := HS2.out.c0 (i := a + q) (by omega)
          have z3 := HS2.out.c1 (i := a + q) (by omega)
          have fz := HS2.out.fz
          have hsw := HS2.out.swap (i := a) (j := a + q) (by omega) (by omega)
          rw [hsx] at z0 z1
          rw [hsy] at z2 z3
          rw [hsx, hsy] at hsw
          obtain ⟨⟨u1, m1⟩, ⟨u2, m2⟩, ⟨u3, m3⟩, f1, f2, f3⟩ := HS2.out.mid (i := a) (j := a + q) (by omega) (by omega) (.int .i64 (E.r sy)) (.slice (E.A sy) (E.l sy) (E.c sy)) (.int .i64 (E.r sx))
          have HSW := Lib.hid hsw.drew
          clear hsw hsx hsy
          go_wp2_with fail
          go_big_region
          clear z0 z1 z2 z3 fz m1 m2 m3 f1 f2 f3
          have HSW2 := HSW.out
          clear HSW
          go_upto_region 11 with fail
          revert HSW2
          generalize hwx : World.drew _ = wx
          clear hwx
          intro HSW2
          have C := Lib.hid (S2.out q _ wx HSW2 (by omega))
          clear HSW2
          go_wp2_with fail
          with_reducible refine C.out.mono ?_
          rintro e w1 ⟨rfl, hs1⟩
          have HS := Lib.hid hs1
          clear hs1
          go_wp2
          exact ⟨⟨q, (q : Int) - 1, _, by go_num, rfl, by omega, HS.out, HO2⟩, by simp [intOf]⟩
        · obtain rfl : z = -1 := by omega
          have HR := Lib.hid (show dm = heapSort E.lt d a b by
            unfold heapSort
            rw [hL, ← HB.out]
            exact HO.out)
          have HS := Lib.hid hs
          clear hs HO hz
          go_wp2
          go_end0
          refine ⟨rfl, ?_⟩
          rw [← HR.out]
          exact HS.out
end
end Go.Proofs.YtjgigcnjgblekaaDoor
