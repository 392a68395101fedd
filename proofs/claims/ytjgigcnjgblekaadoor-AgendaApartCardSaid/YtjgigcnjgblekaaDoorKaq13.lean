/- partitionEqual by a method value: the walk. Printed by wip/bin/sortw.py. partition by a method value: the walk. Printed by wip/bin/sortw.py. -/
import Derived.Test.YtjgigcnjgblekaaDoorKaq12
import Derived.Deep.Cut
import Derived.Deep.CutBlock
namespace Go.Proofs.YtjgigcnjgblekaaDoor
open Go Go.RowKit Go.Sort Classical

section
variable {α : Type} [Inhabited α] {E : SEnv α} {d : Array α} {W W' : World}
set_option maxRecDepth 100000 in
set_option maxHeartbeats 4000000 in
theorem partEqW (HC : SC E) (a b pivot : Nat) (d : Array α) (W : World) (h : SW E d W) (hap : a ≤ pivot) (hpb : pivot < b) (hb : b ≤ E.n) (hn : E.n ≤ 1000000000000000) :
    Calls Tryd.prog 84 #[.slice (some ⟨E.b, 0, none⟩) E.n E.cap, .int .i64 (a : Int), .int .i64 (b : Int), .int .i64 (pivot : Int), .func (.func 57) #[.pointer (some ⟨E.p, 0, none⟩)] #[]] W fun e w' => e = .returned (.int .i64 ((partitionEqual E.lt d a b pivot).1 : Int)) ∧ SW E (partitionEqual E.lt d a b pivot).2 w' ∧ a < (partitionEqual E.lt d a b pivot).1 ∧ (partitionEqual E.lt d a b pivot).1 ≤ b := by
  have HCH := Lib.hid HC
  have HS2 := Lib.hid h
  clear HC h
  have i1 : (a : Int) < (E.n : Int) := by omega
  have i2 : (pivot : Int) < (E.n : Int) := by omega
  obtain ⟨d1, hd1⟩ : ∃ x, swp d a pivot = x := ⟨_, rfl⟩
  obtain ⟨R, hR⟩ : ∃ R, partEqLoop E.lt a (a + 1) (b - 1) d1 = R := ⟨_, rfl⟩
  rw [show partitionEqual E.lt d a b pivot = R by unfold partitionEqual; rw [hd1]; exact hR]
  have HR := Lib.hid hR
  have HD1 := Lib.hid hd1
  clear hd1 hR
  go_enter Tryd.func84, Tryd.ntmps84
  obtain ⟨sx, hsx⟩ : ∃ x, d[a]! = x := ⟨_, rfl⟩
  obtain ⟨sy, hsy⟩ : ∃ x, d[pivot]! = x := ⟨_, rfl⟩
  have z0 := HS2.out.c0 (i := a) (by omega)
  have z1 := HS2.out.c1 (i := a) (by omega)
  have z2 := HS2.out.c0 (i := pivot) (by omega)
  have z3 := HS2.out.c1 (i := pivot) (by omega)
  have fz := HS2.out.fz
  have hsw := HS2.out.swap (i := a) (j := pivot) (by omega) (by omega)
  rw [hsx] at z0 z1
  rw [hsy] at z2 z3
  rw [hsx, hsy] at hsw
  obtain ⟨⟨u1, m1⟩, ⟨u2, m2⟩, ⟨u3, m3⟩, f1, f2, f3⟩ := HS2.out.mid (i := a) (j := pivot) (by omega) (by omega) (.int .i64 (E.r sy)) (.slice (E.A sy) (E.l sy) (E.c sy)) (.int .i64 (E.r sx))
  have HSW := Lib.hid hsw.drew
  clear hsw hsx hsy
  go_wp2_with fail
  go_big_region
  clear z0 z1 z2 z3 fz m1 m2 m3 f1 f2 f3
  rw [HD1.out] at HSW
  go_wp2
  go_loopw [11, 12] (fun iv jv wr => ∃ (i j : Nat) (dk : Array α), iv = .int .i64 (i : Int) ∧ jv = .int .i64 (j : Int) ∧ a < i ∧ i ≤ j + 1 ∧ j < b ∧ SW E dk wr ∧ Hid (partEqLoop E.lt a i j dk = R)) (fun iv jv _ => (intOf jv).toNat + 1 - (intOf iv).toNat)
  case atStart => exact ⟨a + 1, b - 1, d1, by go_num, by go_num, by omega, by omega, by omega, HSW.out, HR⟩
  case round =>
    obtain ⟨i, j, dk, rfl, rfl, hai, hij, hjb, hs, HO⟩ := hrel
    have HSA := Lib.hid hs
    clear hs HSW
    have PE := Lib.hid (partEqLoop_eq E.lt a i j dk)
    go_upto_block 2 with fail
    go_cut [11] from 31 to 88 (fun t wx => t = .int .i64 ((scanUp (fun z => !E.lt dk[a]! z) dk (j) (i) : Nat) : Int) ∧ SW E dk wx)
    case first =>
      go_wp2_with fail
      go_loopw [11] (fun sv wr => ∃ k : Nat, sv = .int .i64 (k : Int) ∧ (i) ≤ k ∧ k ≤ j + 1 ∧ SW E dk wr ∧ Hid (scanUp (fun z => !E.lt dk[a]! z) dk (j) (k) = scanUp (fun z => !E.lt dk[a]! z) dk (j) (i))) (fun sv _ => j + 1 - (intOf sv).toNat)
      case atStart => exact ⟨i, by first | rfl | go_num, by omega, by omega, HSA.out, Lib.hid rfl⟩
      case round =>
        obtain ⟨k, rfl, hk0, hkm, hs, HI⟩ := hrel
        by_cases hle : k ≤ j
        · have j1 : (k : Int) ≤ ((j : Nat) : Int) := by omega
          have j2 : (k : Int) < (E.n : Int) := by omega
          have NE : Nonempty (Pt (Below wr.heap.size wr)) := ⟨⟨wr, Below.refl _ _⟩⟩
          have p0 := fun p : Pt (Below wr.heap.size wr) => (hs.step p.property).c0 (i := a) (by omega)
          have p1 := fun p : Pt (Below wr.heap.size wr) => (hs.step p.property).c1 (i := a) (by omega)
          have p2 := fun p : Pt (Below wr.heap.size wr) => (hs.step p.property).c0 (i := k) (by omega)
          have p3 := fun p : Pt (Below wr.heap.size wr) => (hs.step p.property).c1 (i := k) (by omega)
          have CC := Lib.hid (fun p : Pt (Below wr.heap.size wr) => HCH.out dk[a]! dk[k]! p.val (hs.step p.property).turns)
          obtain ⟨x, hx⟩ : ∃ x, dk[a]! = x := ⟨_, rfl⟩
          obtain ⟨y, hy⟩ : ∃ y, dk[k]! = y := ⟨_, rfl⟩
          rw [hx, hy] at CC
          rw [hx] at p0 p1
          rw [hy] at p2 p3
          have HSk := Lib.hid hs
          have SG := Lib.hid (fun (hp1 : (!E.lt x y) = true) => (show scanUp (fun z => !E.lt dk[a]! z) dk (j) (k) = scanUp (fun z => !E.lt dk[a]! z) dk (j) (k + 1) from by have hp : (!E.lt dk[a]! dk[k]!) = true := (by rw [hx, hy]; exact hp1); exact scanUp_go (fun z => !E.lt dk[a]! z) dk (j) k hle hp))
          have SE := Lib.hid (fun (hp1 : (!E.lt x y) = false) => (show scanUp (fun z => !E.lt dk[a]! z) dk (j) (k) = k from by have hp : (!E.lt dk[a]! dk[k]!) = false := (by rw [hx, hy]; exact hp1); exact scanUp_end (fun z => !E.lt dk[a]! z) dk (j) k (.inr hp)))
          clear hs hx hy
          by_cases hl : E.cf x y < 0
          · have HN := Lib.hid ((SE.out (by rw [E.lt_t hl]; rfl)).symm.trans HI.out)
            go_wp2_with fail
            refine wp_region_class (S := Below wr.heap.size wr) (Below.refl _ _).drew (by kernel_rfl) (by kernel_rfl) ?_
            repeat (go_big_quiet_step (first | (go_at_call 57; refine (CC.out _).mono ?_; rintro e w' ⟨rfl, hbel⟩; exact ⟨rfl, ⟨w', below_stepA (Pt.property _) hbel⟩, rfl⟩)))
            refine wpQuiet_nil ?_
            rintro W2 ⟨⟨_, hW⟩, rfl⟩
            have HS2 := Lib.hid (HSk.out.step hW)
            clear p0 p1 p2 p3 CC hW NE
            go_wp2
            go_meet
            exact ⟨congrArg (fun n : Nat => Value.int .i64 (n : Int)) HN.out, HS2.out⟩
          · have hdd : decide (E.cf x y < 0) = false := decide_eq_false hl
            have HN := Lib.hid ((SG.out (by rw [E.lt_f hl]; rfl)).symm.trans HI.out)
            go_wp2_with fail
            refine wp_region_class (S := Below wr.heap.size wr) (Below.refl _ _).drew (by kernel_rfl) (by kernel_rfl) ?_
            repeat (go_big_quiet_step (first | (go_at_call 57; refine (CC.out _).mono ?_; rintro e w' ⟨rfl, hbel⟩; exact ⟨rfl, ⟨w', below_stepA (Pt.property _) hbel⟩, rfl⟩)))
            refine wpQuiet_nil ?_
            rintro W2 ⟨⟨_, hW⟩, rfl⟩
            have HS2 := Lib.hid (HSk.out.step hW)
            clear p0 p1 p2 p3 CC hW NE
            go_wp2
            exact ⟨⟨k + 1, by go_num, by omega, by omega, HS2.out, HN⟩, by simp [intOf]; omega⟩
        · have j1 : ¬ (k : Int) ≤ ((j : Nat) : Int) := by omega
          have j3 : decide ((k : Int) ≤ ((j : Nat) : Int)) = false := decide_eq_false j1
          have HN := Lib.hid ((scanUp_end (fun z => !E.lt dk[a]! z) dk (j) k (.inl hle)).symm.trans HI.out)
          have HS1 := Lib.hid (fun q => hs.step (((Turns.refl [] wr).drewN q).below (Nat.le_refl _) (fun x hx => by simp at hx)))
          clear hs
          go_wp2_with fail
          go_quiet (fail)
          go_wp2
          go_meet
          exact ⟨congrArg (fun n : Nat => Value.int .i64 (n : Int)) HN.out, HS1.out _⟩
    case rest =>
      obtain ⟨rfl, hsr⟩ := hcut
      obtain ⟨m, hm⟩ : ∃ n, scanUp (fun z => !E.lt dk[a]! z) dk (j) (i) = n := ⟨_, rfl⟩
      have sp_m := scanUp_spec (fun z => !E.lt dk[a]! z) dk (j) _ (i) rfl
      rw [hm] at sp_m
      rw [hm]
      have HS_m := Lib.hid hsr
      clear hsr
      have b4 := sp_m.2.1 hij
      have b5 := sp_m.1
      go_upto_block 4 with fail
      go_cut [12] from 31 to 88 (fun t wx => t = .int .i64 ((scanDown (fun z => E.lt dk[a]! z) dk (m) (j) : Nat) : Int) ∧ SW E dk wx)
      case first =>
        go_wp2_with fail
        go_loopw [12] (fun sv wr => ∃ k : Nat, sv = .int .i64 (k : Int) ∧ (m) ≤ k + 1 ∧ k ≤ j ∧ SW E dk wr ∧ Hid (scanDown (fun z => E.lt dk[a]! z) dk (m) (k) = scanDown (fun z => E.lt dk[a]! z) dk (m) (j))) (fun sv _ => (intOf sv).toNat)
        case atStart => exact ⟨j, by first | rfl | go_num, by omega, by omega, HS_m.out, Lib.hid rfl⟩
        case round =>
          obtain ⟨k, rfl, hk0, hkm, hs, HI⟩ := hrel
          by_cases hle : m ≤ k
          · have j1 : ((m : Nat) : Int) ≤ (k : Int) := by omega
            have j2 : (k : Int) < (E.n : Int) := by omega
            have NE : Nonempty (Pt (Below wr.heap.size wr)) := ⟨⟨wr, Below.refl _ _⟩⟩
            have p0 := fun p : Pt (Below wr.heap.size wr) => (hs.step p.property).c0 (i := a) (by omega)
            have p1 := fun p : Pt (Below wr.heap.size wr) => (hs.step p.property).c1 (i := a) (by omega)
            have p2 := fun p : Pt (Below wr.heap.size wr) => (hs.step p.property).c0 (i := k) (by omega)
            have p3 := fun p : Pt (Below wr.heap.size wr) => (hs.step p.property).c1 (i := k) (by omega)
            have CC := Lib.hid (fun p : Pt (Below wr.heap.size wr) => HCH.out dk[a]! dk[k]! p.val (hs.step p.property).turns)
            obtain ⟨x, hx⟩ : ∃ x, dk[a]! = x := ⟨_, rfl⟩
            obtain ⟨y, hy⟩ : ∃ y, dk[k]! = y := ⟨_, rfl⟩
            rw [hx, hy] at CC
            rw [hx] at p0 p1
            rw [hy] at p2 p3
            have HSk := Lib.hid hs
            have SG := Lib.hid (fun (hp1 : E.lt x y = true) => (show scanDown (fun z => E.lt dk[a]! z) dk (m) (k) = scanDown (fun z => E.lt dk[a]! z) dk (m) (k - 1) from by have hp : E.lt dk[a]! dk[k]! = true := (by rw [hx, hy]; exact hp1); exact scanDown_go (fun z => E.lt dk[a]! z) dk (m) k hle (by omega) hp))
            have SE := Lib.hid (fun (hp1 : E.lt x y = false) => (show scanDown (fun z => E.lt dk[a]! z) dk (m) (k) = k from by have hp : E.lt dk[a]! dk[k]! = false := (by rw [hx, hy]; exact hp1); exact scanDown_end (fun z => E.lt dk[a]! z) dk (m) k (.inr hp)))
            clear hs hx hy
            by_cases hl : E.cf x y < 0
            · have HN := Lib.hid ((SG.out (E.lt_t hl)).symm.trans HI.out)
              go_wp2_with fail
              refine wp_region_class (S := Below wr.heap.size wr) (Below.refl _ _).drew (by kernel_rfl) (by kernel_rfl) ?_
              repeat (go_big_quiet_step (first | (go_at_call 57; refine (CC.out _).mono ?_; rintro e w' ⟨rfl, hbel⟩; exact ⟨rfl, ⟨w', below_stepA (Pt.property _) hbel⟩, rfl⟩)))
              refine wpQuiet_nil ?_
              rintro W2 ⟨⟨_, hW⟩, rfl⟩
              have HS2 := Lib.hid (HSk.out.step hW)
              clear p0 p1 p2 p3 CC hW NE
              go_wp2
              exact ⟨⟨k - 1, by go_num, by omega, by omega, HS2.out, HN⟩, by simp [intOf]; omega⟩
            · have hdd : decide (E.cf x y < 0) = false := decide_eq_false hl
              have HN := Lib.hid ((SE.out (E.lt_f hl)).symm.trans HI.out)
              go_wp2_with fail
              refine wp_region_class (S := Below wr.heap.size wr) (Below.refl _ _).drew (by kernel_rfl) (by kernel_rfl) ?_
              repeat (go_big_quiet_step (first | (go_at_call 57; refine (CC.out _).mono ?_; rintro e w' ⟨rfl, hbel⟩; exact ⟨rfl, ⟨w', below_stepA (Pt.property _) hbel⟩, rfl⟩)))
              refine wpQuiet_nil ?_
              rintro W2 ⟨⟨_, hW⟩, rfl⟩
              have HS2 := Lib.hid (HSk.out.step hW)
              clear p0 p1 p2 p3 CC hW NE
              go_wp2
              go_meet
              exact ⟨congrArg (fun n : Nat => Value.int .i64 (n : Int)) HN.out, HS2.out⟩
          · have j1 : ¬ ((m : Nat) : Int) ≤ (k : Int) := by omega
            have j3 : decide (((m : Nat) : Int) ≤ (k : Int)) = false := decide_eq_false j1
            have HN := Lib.hid ((scanDown_end (fun z => E.lt dk[a]! z) dk (m) k (.inl hle)).symm.trans HI.out)
            have HS1 := Lib.hid (fun q => hs.step (((Turns.refl [] wr).drewN q).below (Nat.le_refl _) (fun x hx => by simp at hx)))
            clear hs
            go_wp2_with fail
            go_quiet (fail)
            go_wp2
            go_meet
            exact ⟨congrArg (fun n : Nat => Value.int .i64 (n : Int)) HN.out, HS1.out _⟩
      case rest =>
        obtain ⟨rfl, hsr⟩ := hcut
        obtain ⟨q, hq⟩ : ∃ n, scanDown (fun z => E.lt dk[a]! z) dk (m) (j) = n := ⟨_, rfl⟩
        have sp_q := scanDown_spec (fun z => E.lt dk[a]! z) dk (m) (j)
        rw [hq] at sp_q
        rw [hq]
        have HS_q := Lib.hid hsr
        clear hsr
        have b3 := sp_q.2.1 (by omega)
        have PE3 := PE.out
        rw [hm] at PE3
        rw [hq] at PE3
        have PE := Lib.hid (PE3.symm.trans HO.out)
        clear PE3
        by_cases hmq : m > q
        · rw [if_pos hmq] at PE
          have g1 : (q : Int) < (m : Int) := by omega
          go_wp2
          go_ret
          refine ⟨?_, ?_⟩
          · rw [← PE.out]; rfl
          · rw [← PE.out]
            have b1 := sp_m.1
            exact ⟨HS_q.out, by show a < m; omega, by show m ≤ b; omega⟩
        · rw [if_neg hmq] at PE
          have hne : m ≠ q := fun e => by
            subst e
            have f1 := sp_m.2.2.2 (by omega)
            have f2 := sp_q.2.2.2 (by omega) (by omega)
            change (!E.lt dk[a]! dk[m]!) = false at f1
            change E.lt dk[a]! dk[m]! = false at f2
            rw [f2] at f1
            exact absurd f1 (by decide)
          have b1 := sp_m.1
          have b2 := sp_q.1
          clear sp_m sp_q
          have g1 : ¬ (q : Int) < (m : Int) := by omega
          have g2 : (m : Int) < (E.n : Int) := by omega
          have g3 : (q : Int) < (E.n : Int) := by omega
          obtain ⟨sx, hsx⟩ : ∃ x, dk[m]! = x := ⟨_, rfl⟩
          obtain ⟨sy, hsy⟩ : ∃ x, dk[q]! = x := ⟨_, rfl⟩
          have z0 := HS_q.out.c0 (i := m) (by omega)
          have z1 := HS_q.out.c1 (i := m) (by omega)
          have z2 := HS_q.out.c0 (i := q) (by omega)
          have z3 := HS_q.out.c1 (i := q) (by omega)
          have fz := HS_q.out.fz
          have hsw := HS_q.out.swap (i := m) (j := q) (by omega) (by omega)
          rw [hsx] at z0 z1
          rw [hsy] at z2 z3
          rw [hsx, hsy] at hsw
          obtain ⟨⟨u1, m1⟩, ⟨u2, m2⟩, ⟨u3, m3⟩, f1, f2, f3⟩ := HS_q.out.mid (i := m) (j := q) (by omega) (by omega) (.int .i64 (E.r sy)) (.slice (E.A sy) (E.l sy) (E.c sy)) (.int .i64 (E.r sx))
          have HSW := Lib.hid hsw.drew
          clear hsw hsx hsy
          go_wp2_with fail
          go_big_region
          clear z0 z1 z2 z3 fz m1 m2 m3 f1 f2 f3
          go_wp2
          exact ⟨⟨m + 1, q - 1, _, by go_num, by go_num, by omega, by omega, by omega, HSW.out, PE⟩, by simp [intOf]; omega⟩
end
end Go.Proofs.YtjgigcnjgblekaaDoor

namespace Go.Proofs.YtjgigcnjgblekaaDoor
open Go Go.RowKit Go.Sort Classical

section
variable {α : Type} [Inhabited α] {E : SEnv α} {d : Array α} {W W' : World}
theorem part_eq (lt : α → α → Bool) (d d1 : Array α) (a b pivot m q : Nat) (h1 : swp d a pivot = d1) (hm : scanUp (fun z => lt z d1[a]!) d1 (b - 1) (a + 1) = m) (hq : scanDown (fun z => !lt z d1[a]!) d1 m (b - 1) = q) :
    partition lt d a b pivot = if m > q then (q, true, swp d1 q a) else ((partLoop lt a (m + 1) (q - 1) (swp d1 m q)).1, false, swp (partLoop lt a (m + 1) (q - 1) (swp d1 m q)).2 (partLoop lt a (m + 1) (q - 1) (swp d1 m q)).1 a) := by
  unfold partition
  simp only [h1, hm, hq]
set_option maxRecDepth 100000 in
set_option maxHeartbeats 8000000 in
theorem partW (HC : SC E) (a b pivot : Nat) (d : Array α) (W : World) (h : SW E d W) (hap : a ≤ pivot) (hpb : pivot < b) (hb : b ≤ E.n) (hn : E.n ≤ 1000000000000000) :
    Calls Tryd.prog 85 #[.slice (some ⟨E.b, 0, none⟩) E.n E.cap, .int .i64 (a : Int), .int .i64 (b : Int), .int .i64 (pivot : Int), .func (.func 57) #[.pointer (some ⟨E.p, 0, none⟩)] #[]] W fun e w' => e = .returned (.tuple #[.int .i64 ((partition E.lt d a b pivot).1 : Int), .bool (partition E.lt d a b pivot).2.1]) ∧ SW E (partition E.lt d a b pivot).2.2 w' ∧ a ≤ (partition E.lt d a b pivot).1 ∧ (partition E.lt d a b pivot).1 < b := by
  have HCH := Lib.hid HC
  have HS2 := Lib.hid h
  clear HC h
  have i1 : (a : Int) < (E.n : Int) := by omega
  have i2 : (pivot : Int) < (E.n : Int) := by omega
  obtain ⟨d1, hd1⟩ : ∃ x, swp d a pivot = x := ⟨_, rfl⟩
  have HP := Lib.hid (fun m q hm hq => part_eq E.lt d d1 a b pivot m q hd1 hm hq)
  have HD1 := Lib.hid hd1
  obtain ⟨R, hR⟩ : ∃ R, partition E.lt d a b pivot = R := ⟨_, rfl⟩
  rw [hR] at HP
  rw [hR]
  clear hd1 hR
  go_enter Tryd.func85, Tryd.ntmps85
  obtain ⟨sx, hsx⟩ : ∃ x, d[a]! = x := ⟨_, rfl⟩
  obtain ⟨sy, hsy⟩ : ∃ x, d[pivot]! = x := ⟨_, rfl⟩
  have z0 := HS2.out.c0 (i := a) (by omega)
  have z1 := HS2.out.c1 (i := a) (by omega)
  have z2 := HS2.out.c0 (i := pivot) (by omega)
  have z3 := HS2.out.c1 (i := pivot) (by omega)
  have fz := HS2.out.fz
  have hsw := HS2.out.swap (i := a) (j := pivot) (by omega) (by omega)
  rw [hsx] at z0 z1
  rw [hsy] at z2 z3
  rw [hsx, hsy] at hsw
  obtain ⟨⟨u1, m1⟩, ⟨u2, m2⟩, ⟨u3, m3⟩, f1, f2, f3⟩ := HS2.out.mid (i := a) (j := pivot) (by omega) (by omega) (.int .i64 (E.r sy)) (.slice (E.A sy) (E.l sy) (E.c sy)) (.int .i64 (E.r sx))
  have HSW := Lib.hid hsw.drew
  clear hsw hsx hsy
  go_wp2_with fail
  go_big_region
  clear z0 z1 z2 z3 fz m1 m2 m3 f1 f2 f3
  rw [HD1.out] at HSW
  have eb : ((b - 1 : Nat) : Int) = (b : Int) - 1 := by omega
  have HEB := Lib.hid eb
  clear eb
  go_upto_block 0 with fail
  go_cut [12] from 32 to 49 (fun t wx => t = .int .i64 ((scanUp (fun z => E.lt z d1[a]!) d1 (b - 1) (a + 1) : Nat) : Int) ∧ SW E d1 wx)
  case first =>
    go_wp2_with fail
    go_loopw [12] (fun sv wr => ∃ k : Nat, sv = .int .i64 (k : Int) ∧ (a + 1) ≤ k ∧ k ≤ b - 1 + 1 ∧ SW E d1 wr ∧ Hid (scanUp (fun z => E.lt z d1[a]!) d1 (b - 1) (k) = scanUp (fun z => E.lt z d1[a]!) d1 (b - 1) (a + 1))) (fun sv _ => b - 1 + 1 - (intOf sv).toNat)
    case atStart => exact ⟨a + 1, by first | rfl | go_num, by omega, by omega, HSW.out, Lib.hid rfl⟩
    case round =>
      obtain ⟨k, rfl, hk0, hkm, hs, HI⟩ := hrel
      by_cases hle : k ≤ b - 1
      · have j1 : (k : Int) ≤ (b : Int) - 1 := by omega
        have j2 : (k : Int) < (E.n : Int) := by omega
        have NE : Nonempty (Pt (Below wr.heap.size wr)) := ⟨⟨wr, Below.refl _ _⟩⟩
        have p0 := fun p : Pt (Below wr.heap.size wr) => (hs.step p.property).c0 (i := k) (by omega)
        have p1 := fun p : Pt (Below wr.heap.size wr) => (hs.step p.property).c1 (i := k) (by omega)
        have p2 := fun p : Pt (Below wr.heap.size wr) => (hs.step p.property).c0 (i := a) (by omega)
        have p3 := fun p : Pt (Below wr.heap.size wr) => (hs.step p.property).c1 (i := a) (by omega)
        have CC := Lib.hid (fun p : Pt (Below wr.heap.size wr) => HCH.out d1[k]! d1[a]! p.val (hs.step p.property).turns)
        obtain ⟨x, hx⟩ : ∃ x, d1[k]! = x := ⟨_, rfl⟩
        obtain ⟨y, hy⟩ : ∃ y, d1[a]! = y := ⟨_, rfl⟩
        rw [hx, hy] at CC
        rw [hx] at p0 p1
        rw [hy] at p2 p3
        have HSk := Lib.hid hs
        have SG := Lib.hid (fun (hp1 : E.lt x y = true) => (show scanUp (fun z => E.lt z d1[a]!) d1 (b - 1) (k) = scanUp (fun z => E.lt z d1[a]!) d1 (b - 1) (k + 1) from by have hp : E.lt d1[k]! d1[a]! = true := (by rw [hx, hy]; exact hp1); exact scanUp_go (fun z => E.lt z d1[a]!) d1 (b - 1) k hle hp))
        have SE := Lib.hid (fun (hp1 : E.lt x y = false) => (show scanUp (fun z => E.lt z d1[a]!) d1 (b - 1) (k) = k from by have hp : E.lt d1[k]! d1[a]! = false := (by rw [hx, hy]; exact hp1); exact scanUp_end (fun z => E.lt z d1[a]!) d1 (b - 1) k (.inr hp)))
        clear hs hx hy
        by_cases hl : E.cf x y < 0
        · have HN := Lib.hid ((SG.out (E.lt_t hl)).symm.trans HI.out)
          go_wp2_with fail
          refine wp_region_class (S := Below wr.heap.size wr) (Below.refl _ _).drew (by kernel_rfl) (by kernel_rfl) ?_
          repeat (go_big_quiet_step (first | (go_at_call 57; refine (CC.out _).mono ?_; rintro e w' ⟨rfl, hbel⟩; exact ⟨rfl, ⟨w', below_stepA (Pt.property _) hbel⟩, rfl⟩)))
          refine wpQuiet_nil ?_
          rintro W2 ⟨⟨_, hW⟩, rfl⟩
          have HS2 := Lib.hid (HSk.out.step hW)
          clear p0 p1 p2 p3 CC hW NE
          go_wp2
          exact ⟨⟨k + 1, by go_num, by omega, by omega, HS2.out, HN⟩, by simp [intOf]; omega⟩
        · have hdd : decide (E.cf x y < 0) = false := decide_eq_false hl
          have HN := Lib.hid ((SE.out (E.lt_f hl)).symm.trans HI.out)
          go_wp2_with fail
          refine wp_region_class (S := Below wr.heap.size wr) (Below.refl _ _).drew (by kernel_rfl) (by kernel_rfl) ?_
          repeat (go_big_quiet_step (first | (go_at_call 57; refine (CC.out _).mono ?_; rintro e w' ⟨rfl, hbel⟩; exact ⟨rfl, ⟨w', below_stepA (Pt.property _) hbel⟩, rfl⟩)))
          refine wpQuiet_nil ?_
          rintro W2 ⟨⟨_, hW⟩, rfl⟩
          have HS2 := Lib.hid (HSk.out.step hW)
          clear p0 p1 p2 p3 CC hW NE
          go_wp2
          go_meet
          exact ⟨congrArg (fun n : Nat => Value.int .i64 (n : Int)) HN.out, HS2.out⟩
      · have j1 : ¬ (k : Int) ≤ (b : Int) - 1 := by omega
        have j3 : decide ((k : Int) ≤ (b : Int) - 1) = false := decide_eq_false j1
        have HN := Lib.hid ((scanUp_end (fun z => E.lt z d1[a]!) d1 (b - 1) k (.inl hle)).symm.trans HI.out)
        have HS1 := Lib.hid (fun q => hs.step (((Turns.refl [] wr).drewN q).below (Nat.le_refl _) (fun x hx => by simp at hx)))
        clear hs
        go_wp2_with fail
        go_quiet (fail)
        go_wp2
        go_meet
        exact ⟨congrArg (fun n : Nat => Value.int .i64 (n : Int)) HN.out, HS1.out _⟩
  case rest =>
    obtain ⟨rfl, hsr⟩ := hcut
    obtain ⟨m, hm⟩ : ∃ n, scanUp (fun z => E.lt z d1[a]!) d1 (b - 1) (a + 1) = n := ⟨_, rfl⟩
    have sp_m := scanUp_spec (fun z => E.lt z d1[a]!) d1 (b - 1) _ (a + 1) rfl
    rw [hm] at sp_m
    rw [hm]
    have HS_m := Lib.hid hsr
    clear hsr
    have b4 := sp_m.2.1 (by omega)
    have b5 := sp_m.1
    go_upto_block 2 with fail
    go_cut [13] from 50 to 68 (fun t wx => t = .int .i64 ((scanDown (fun z => !E.lt z d1[a]!) d1 (m) (b - 1) : Nat) : Int) ∧ SW E d1 wx)
    case first =>
      go_wp2_with fail
      go_loopw [13] (fun sv wr => ∃ k : Nat, sv = .int .i64 (k : Int) ∧ (m) ≤ k + 1 ∧ k ≤ b - 1 ∧ SW E d1 wr ∧ Hid (scanDown (fun z => !E.lt z d1[a]!) d1 (m) (k) = scanDown (fun z => !E.lt z d1[a]!) d1 (m) (b - 1))) (fun sv _ => (intOf sv).toNat)
      case atStart => exact ⟨b - 1, by first | rfl | go_num, by omega, by omega, HS_m.out, Lib.hid rfl⟩
      case round =>
        obtain ⟨k, rfl, hk0, hkm, hs, HI⟩ := hrel
        by_cases hle : m ≤ k
        · have j1 : ((m : Nat) : Int) ≤ (k : Int) := by omega
          have j2 : (k : Int) < (E.n : Int) := by omega
          have NE : Nonempty (Pt (Below wr.heap.size wr)) := ⟨⟨wr, Below.refl _ _⟩⟩
          have p0 := fun p : Pt (Below wr.heap.size wr) => (hs.step p.property).c0 (i := k) (by omega)
          have p1 := fun p : Pt (Below wr.heap.size wr) => (hs.step p.property).c1 (i := k) (by omega)
          have p2 := fun p : Pt (Below wr.heap.size wr) => (hs.step p.property).c0 (i := a) (by omega)
          have p3 := fun p : Pt (Below wr.heap.size wr) => (hs.step p.property).c1 (i := a) (by omega)
          have CC := Lib.hid (fun p : Pt (Below wr.heap.size wr) => HCH.out d1[k]! d1[a]! p.val (hs.step p.property).turns)
          obtain ⟨x, hx⟩ : ∃ x, d1[k]! = x := ⟨_, rfl⟩
          obtain ⟨y, hy⟩ : ∃ y, d1[a]! = y := ⟨_, rfl⟩
          rw [hx, hy] at CC
          rw [hx] at p0 p1
          rw [hy] at p2 p3
          have HSk := Lib.hid hs
          have SG := Lib.hid (fun (hp1 : (!E.lt x y) = true) => (show scanDown (fun z => !E.lt z d1[a]!) d1 (m) (k) = scanDown (fun z => !E.lt z d1[a]!) d1 (m) (k - 1) from by have hp : (!E.lt d1[k]! d1[a]!) = true := (by rw [hx, hy]; exact hp1); exact scanDown_go (fun z => !E.lt z d1[a]!) d1 (m) k hle (by omega) hp))
          have SE := Lib.hid (fun (hp1 : (!E.lt x y) = false) => (show scanDown (fun z => !E.lt z d1[a]!) d1 (m) (k) = k from by have hp : (!E.lt d1[k]! d1[a]!) = false := (by rw [hx, hy]; exact hp1); exact scanDown_end (fun z => !E.lt z d1[a]!) d1 (m) k (.inr hp)))
          clear hs hx hy
          by_cases hl : E.cf x y < 0
          · have HN := Lib.hid ((SE.out (by rw [E.lt_t hl]; rfl)).symm.trans HI.out)
            go_wp2_with fail
            refine wp_region_class (S := Below wr.heap.size wr) (Below.refl _ _).drew (by kernel_rfl) (by kernel_rfl) ?_
            repeat (go_big_quiet_step (first | (go_at_call 57; refine (CC.out _).mono ?_; rintro e w' ⟨rfl, hbel⟩; exact ⟨rfl, ⟨w', below_stepA (Pt.property _) hbel⟩, rfl⟩)))
            refine wpQuiet_nil ?_
            rintro W2 ⟨⟨_, hW⟩, rfl⟩
            have HS2 := Lib.hid (HSk.out.step hW)
            clear p0 p1 p2 p3 CC hW NE
            go_wp2
            go_meet
            exact ⟨congrArg (fun n : Nat => Value.int .i64 (n : Int)) HN.out, HS2.out⟩
          · have hdd : decide (E.cf x y < 0) = false := decide_eq_false hl
            have HN := Lib.hid ((SG.out (by rw [E.lt_f hl]; rfl)).symm.trans HI.out)
            go_wp2_with fail
            refine wp_region_class (S := Below wr.heap.size wr) (Below.refl _ _).drew (by kernel_rfl) (by kernel_rfl) ?_
            repeat (go_big_quiet_step (first | (go_at_call 57; refine (CC.out _).mono ?_; rintro e w' ⟨rfl, hbel⟩; exact ⟨rfl, ⟨w', below_stepA (Pt.property _) hbel⟩, rfl⟩)))
            refine wpQuiet_nil ?_
            rintro W2 ⟨⟨_, hW⟩, rfl⟩
            have HS2 := Lib.hid (HSk.out.step hW)
            clear p0 p1 p2 p3 CC hW NE
            go_wp2
            exact ⟨⟨k - 1, by go_num, by omega, by omega, HS2.out, HN⟩, by simp [intOf]; omega⟩
        · have j1 : ¬ ((m : Nat) : Int) ≤ (k : Int) := by omega
          have j3 : decide (((m : Nat) : Int) ≤ (k : Int)) = false := decide_eq_false j1
          have HN := Lib.hid ((scanDown_end (fun z => !E.lt z d1[a]!) d1 (m) k (.inl hle)).symm.trans HI.out)
          have HS1 := Lib.hid (fun q => hs.step (((Turns.refl [] wr).drewN q).below (Nat.le_refl _) (fun x hx => by simp at hx)))
          clear hs
          go_wp2_with fail
          go_quiet (fail)
          go_wp2
          go_meet
          exact ⟨congrArg (fun n : Nat => Value.int .i64 (n : Int)) HN.out, HS1.out _⟩
    case rest =>
      obtain ⟨rfl, hsr⟩ := hcut
      obtain ⟨q, hq⟩ : ∃ n, scanDown (fun z => !E.lt z d1[a]!) d1 (m) (b - 1) = n := ⟨_, rfl⟩
      have sp_q := scanDown_spec (fun z => !E.lt z d1[a]!) d1 (m) (b - 1)
      rw [hq] at sp_q
      rw [hq]
      have HS_q := Lib.hid hsr
      clear hsr
      have c1 := sp_m.1
      have c2 := sp_m.2.1 (by omega)
      have c3 := sp_q.1
      have c4 := sp_q.2.1 (by omega)
      have HPQ := Lib.hid (HP.out m q hm hq)
      by_cases hmq : m > q
      · have hpq := HPQ.out
        rw [if_pos hmq] at hpq
        have HPF := Lib.hid hpq
        clear hpq
        have g1 : (q : Int) < (m : Int) := by omega
        have g2 : (q : Int) < (E.n : Int) := by omega
        clear sp_m sp_q
        obtain ⟨sx, hsx⟩ : ∃ x, d1[q]! = x := ⟨_, rfl⟩
        obtain ⟨sy, hsy⟩ : ∃ x, d1[a]! = x := ⟨_, rfl⟩
        have z0 := HS_q.out.c0 (i := q) (by omega)
        have z1 := HS_q.out.c1 (i := q) (by omega)
        have z2 := HS_q.out.c0 (i := a) (by omega)
        have z3 := HS_q.out.c1 (i := a) (by omega)
        have fz := HS_q.out.fz
        have hsw := HS_q.out.swap (i := q) (j := a) (by omega) (by omega)
        rw [hsx] at z0 z1
        rw [hsy] at z2 z3
        rw [hsx, hsy] at hsw
        obtain ⟨⟨u1, m1⟩, ⟨u2, m2⟩, ⟨u3, m3⟩, f1, f2, f3⟩ := HS_q.out.mid (i := q) (j := a) (by omega) (by omega) (.int .i64 (E.r sy)) (.slice (E.A sy) (E.l sy) (E.c sy)) (.int .i64 (E.r sx))
        have HSW := Lib.hid hsw.drew
        clear hsw hsx hsy
        go_wp2_with fail
        go_big_region
        clear z0 z1 z2 z3 fz m1 m2 m3 f1 f2 f3
        go_wp2
        go_ret2
        rw [HPF.out]
        exact ⟨rfl, HSW.out, by show a ≤ q; omega, by show q < b; omega⟩
      · have hpq := HPQ.out
        rw [if_neg hmq] at hpq
        have hne : m ≠ q := fun e => by
          subst e
          have f1 := sp_m.2.2.2 (by omega)
          have f2 := sp_q.2.2.2 (by omega) (by omega)
          change E.lt d1[m]! d1[a]! = false at f1
          change (!E.lt d1[m]! d1[a]!) = false at f2
          rw [f1] at f2
          exact absurd f2 (by decide)
        clear sp_m sp_q
        have g1 : ¬ (q : Int) < (m : Int) := by omega
        have g2 : (m : Int) < (E.n : Int) := by omega
        have g3 : (q : Int) < (E.n : Int) := by omega
        obtain ⟨sx, hsx⟩ : ∃ x, d1[m]! = x := ⟨_, rfl⟩
        obtain ⟨sy, hsy⟩ : ∃ x, d1[q]! = x := ⟨_, rfl⟩
        have z0 := HS_q.out.c0 (i := m) (by omega)
        have z1 := HS_q.out.c1 (i := m) (by omega)
        have z2 := HS_q.out.c0 (i := q) (by omega)
        have z3 := HS_q.out.c1 (i := q) (by omega)
        have fz := HS_q.out.fz
        have hsw := HS_q.out.swap (i := m) (j := q) (by omega) (by omega)
        rw [hsx] at z0 z1
        rw [hsy] at z2 z3
        rw [hsx, hsy] at hsw
        obtain ⟨⟨u1, m1⟩, ⟨u2, m2⟩, ⟨u3, m3⟩, f1, f2, f3⟩ := HS_q.out.mid (i := m) (j := q) (by omega) (by omega) (.int .i64 (E.r sy)) (.slice (E.A sy) (E.l sy) (E.c sy)) (.int .i64 (E.r sx))
        have HSW := Lib.hid hsw.drew
        clear hsw hsx hsy
        go_wp2_with fail
        go_big_region
        clear z0 z1 z2 z3 fz m1 m2 m3 f1 f2 f3
        obtain ⟨d2, hd2⟩ : ∃ x, swp d1 m q = x := ⟨_, rfl⟩
        rw [hd2] at HSW hpq
        obtain ⟨RL, hRL⟩ : ∃ x, partLoop E.lt a (m + 1) (q - 1) d2 = x := ⟨_, rfl⟩
        rw [hRL] at hpq
        have HPR := Lib.hid hpq
        have HRL := Lib.hid hRL
        clear hpq hRL hd2
        go_wp2
        go_loopw [12, 13] (fun iv jv wr => ∃ (i j : Nat) (dk : Array α), iv = .int .i64 (i : Int) ∧ jv = .int .i64 (j : Int) ∧ a < i ∧ i ≤ j + 1 ∧ j < b ∧ SW E dk wr ∧ Hid (partLoop E.lt a i j dk = RL)) (fun iv jv _ => (intOf jv).toNat + 1 - (intOf iv).toNat)
        case atStart => exact ⟨m + 1, q - 1, d2, by go_num, by go_num, by omega, by omega, by omega, HSW.out, HRL⟩
        case round =>
          obtain ⟨i, j, dk, rfl, rfl, hai, hij, hjb, hs, HO⟩ := hrel
          have HSA := Lib.hid hs
          clear hs HSW
          have PE := Lib.hid (partLoop_eq E.lt a i j dk)
          go_upto_block 6 with fail
          go_cut [12] from 105 to 162 (fun t wx => t = .int .i64 ((scanUp (fun z => E.lt z dk[a]!) dk (j) (i) : Nat) : Int) ∧ SW E dk wx)
          case first =>
            go_wp2_with fail
            go_loopw [12] (fun sv wr => ∃ k : Nat, sv = .int .i64 (k : Int) ∧ (i) ≤ k ∧ k ≤ j + 1 ∧ SW E dk wr ∧ Hid (scanUp (fun z => E.lt z dk[a]!) dk (j) (k) = scanUp (fun z => E.lt z dk[a]!) dk (j) (i))) (fun sv _ => j + 1 - (intOf sv).toNat)
            case atStart => exact ⟨i, by first | rfl | go_num, by omega, by omega, HSA.out, Lib.hid rfl⟩
            case round =>
              obtain ⟨k, rfl, hk0, hkm, hs, HI⟩ := hrel
              by_cases hle : k ≤ j
              · have j1 : (k : Int) ≤ ((j : Nat) : Int) := by omega
                have j2 : (k : Int) < (E.n : Int) := by omega
                have NE : Nonempty (Pt (Below wr.heap.size wr)) := ⟨⟨wr, Below.refl _ _⟩⟩
                have p0 := fun p : Pt (Below wr.heap.size wr) => (hs.step p.property).c0 (i := k) (by omega)
                have p1 := fun p : Pt (Below wr.heap.size wr) => (hs.step p.property).c1 (i := k) (by omega)
                have p2 := fun p : Pt (Below wr.heap.size wr) => (hs.step p.property).c0 (i := a) (by omega)
                have p3 := fun p : Pt (Below wr.heap.size wr) => (hs.step p.property).c1 (i := a) (by omega)
                have CC := Lib.hid (fun p : Pt (Below wr.heap.size wr) => HCH.out dk[k]! dk[a]! p.val (hs.step p.property).turns)
                obtain ⟨x, hx⟩ : ∃ x, dk[k]! = x := ⟨_, rfl⟩
                obtain ⟨y, hy⟩ : ∃ y, dk[a]! = y := ⟨_, rfl⟩
                rw [hx, hy] at CC
                rw [hx] at p0 p1
                rw [hy] at p2 p3
                have HSk := Lib.hid hs
                have SG := Lib.hid (fun (hp1 : E.lt x y = true) => (show scanUp (fun z => E.lt z dk[a]!) dk (j) (k) = scanUp (fun z => E.lt z dk[a]!) dk (j) (k + 1) from by have hp : E.lt dk[k]! dk[a]! = true := (by rw [hx, hy]; exact hp1); exact scanUp_go (fun z => E.lt z dk[a]!) dk (j) k hle hp))
                have SE := Lib.hid (fun (hp1 : E.lt x y = false) => (show scanUp (fun z => E.lt z dk[a]!) dk (j) (k) = k from by have hp : E.lt dk[k]! dk[a]! = false := (by rw [hx, hy]; exact hp1); exact scanUp_end (fun z => E.lt z dk[a]!) dk (j) k (.inr hp)))
                clear hs hx hy
                by_cases hl : E.cf x y < 0
                · have HN := Lib.hid ((SG.out (E.lt_t hl)).symm.trans HI.out)
                  go_wp2_with fail
                  refine wp_region_class (S := Below wr.heap.size wr) (Below.refl _ _).drew (by kernel_rfl) (by kernel_rfl) ?_
                  repeat (go_big_quiet_step (first | (go_at_call 57; refine (CC.out _).mono ?_; rintro e w' ⟨rfl, hbel⟩; exact ⟨rfl, ⟨w', below_stepA (Pt.property _) hbel⟩, rfl⟩)))
                  refine wpQuiet_nil ?_
                  rintro W2 ⟨⟨_, hW⟩, rfl⟩
                  have HS2 := Lib.hid (HSk.out.step hW)
                  clear p0 p1 p2 p3 CC hW NE
                  go_wp2
                  exact ⟨⟨k + 1, by go_num, by omega, by omega, HS2.out, HN⟩, by simp [intOf]; omega⟩
                · have hdd : decide (E.cf x y < 0) = false := decide_eq_false hl
                  have HN := Lib.hid ((SE.out (E.lt_f hl)).symm.trans HI.out)
                  go_wp2_with fail
                  refine wp_region_class (S := Below wr.heap.size wr) (Below.refl _ _).drew (by kernel_rfl) (by kernel_rfl) ?_
                  repeat (go_big_quiet_step (first | (go_at_call 57; refine (CC.out _).mono ?_; rintro e w' ⟨rfl, hbel⟩; exact ⟨rfl, ⟨w', below_stepA (Pt.property _) hbel⟩, rfl⟩)))
                  refine wpQuiet_nil ?_
                  rintro W2 ⟨⟨_, hW⟩, rfl⟩
                  have HS2 := Lib.hid (HSk.out.step hW)
                  clear p0 p1 p2 p3 CC hW NE
                  go_wp2
                  go_meet
                  exact ⟨congrArg (fun n : Nat => Value.int .i64 (n : Int)) HN.out, HS2.out⟩
              · have j1 : ¬ (k : Int) ≤ ((j : Nat) : Int) := by omega
                have j3 : decide ((k : Int) ≤ ((j : Nat) : Int)) = false := decide_eq_false j1
                have HN := Lib.hid ((scanUp_end (fun z => E.lt z dk[a]!) dk (j) k (.inl hle)).symm.trans HI.out)
                have HS1 := Lib.hid (fun q => hs.step (((Turns.refl [] wr).drewN q).below (Nat.le_refl _) (fun x hx => by simp at hx)))
                clear hs
                go_wp2_with fail
                go_quiet (fail)
                go_wp2
                go_meet
                exact ⟨congrArg (fun n : Nat => Value.int .i64 (n : Int)) HN.out, HS1.out _⟩
          case rest =>
            obtain ⟨rfl, hsr⟩ := hcut
            obtain ⟨mm, hmm⟩ : ∃ n, scanUp (fun z => E.lt z dk[a]!) dk (j) (i) = n := ⟨_, rfl⟩
            have sp_mm := scanUp_spec (fun z => E.lt z dk[a]!) dk (j) _ (i) rfl
            rw [hmm] at sp_mm
            rw [hmm]
            have HS_mm := Lib.hid hsr
            clear hsr
            have b4 := sp_mm.2.1 hij
            have b5 := sp_mm.1
            go_upto_block 8 with fail
            go_cut [13] from 105 to 162 (fun t wx => t = .int .i64 ((scanDown (fun z => !E.lt z dk[a]!) dk (mm) (j) : Nat) : Int) ∧ SW E dk wx)
            case first =>
              go_wp2_with fail
              go_loopw [13] (fun sv wr => ∃ k : Nat, sv = .int .i64 (k : Int) ∧ (mm) ≤ k + 1 ∧ k ≤ j ∧ SW E dk wr ∧ Hid (scanDown (fun z => !E.lt z dk[a]!) dk (mm) (k) = scanDown (fun z => !E.lt z dk[a]!) dk (mm) (j))) (fun sv _ => (intOf sv).toNat)
              case atStart => exact ⟨j, by first | rfl | go_num, by omega, by omega, HS_mm.out, Lib.hid rfl⟩
              case round =>
                obtain ⟨k, rfl, hk0, hkm, hs, HI⟩ := hrel
                by_cases hle : mm ≤ k
                · have j1 : ((mm : Nat) : Int) ≤ (k : Int) := by omega
                  have j2 : (k : Int) < (E.n : Int) := by omega
                  have NE : Nonempty (Pt (Below wr.heap.size wr)) := ⟨⟨wr, Below.refl _ _⟩⟩
                  have p0 := fun p : Pt (Below wr.heap.size wr) => (hs.step p.property).c0 (i := k) (by omega)
                  have p1 := fun p : Pt (Below wr.heap.size wr) => (hs.step p.property).c1 (i := k) (by omega)
                  have p2 := fun p : Pt (Below wr.heap.size wr) => (hs.step p.property).c0 (i := a) (by omega)
                  have p3 := fun p : Pt (Below wr.heap.size wr) => (hs.step p.property).c1 (i := a) (by omega)
                  have CC := Lib.hid (fun p : Pt (Below wr.heap.size wr) => HCH.out dk[k]! dk[a]! p.val (hs.step p.property).turns)
                  obtain ⟨x, hx⟩ : ∃ x, dk[k]! = x := ⟨_, rfl⟩
                  obtain ⟨y, hy⟩ : ∃ y, dk[a]! = y := ⟨_, rfl⟩
                  rw [hx, hy] at CC
                  rw [hx] at p0 p1
                  rw [hy] at p2 p3
                  have HSk := Lib.hid hs
                  have SG := Lib.hid (fun (hp1 : (!E.lt x y) = true) => (show scanDown (fun z => !E.lt z dk[a]!) dk (mm) (k) = scanDown (fun z => !E.lt z dk[a]!) dk (mm) (k - 1) from by have hp : (!E.lt dk[k]! dk[a]!) = true := (by rw [hx, hy]; exact hp1); exact scanDown_go (fun z => !E.lt z dk[a]!) dk (mm) k hle (by omega) hp))
                  have SE := Lib.hid (fun (hp1 : (!E.lt x y) = false) => (show scanDown (fun z => !E.lt z dk[a]!) dk (mm) (k) = k from by have hp : (!E.lt dk[k]! dk[a]!) = false := (by rw [hx, hy]; exact hp1); exact scanDown_end (fun z => !E.lt z dk[a]!) dk (mm) k (.inr hp)))
                  clear hs hx hy
                  by_cases hl : E.cf x y < 0
                  · have HN := Lib.hid ((SE.out (by rw [E.lt_t hl]; rfl)).symm.trans HI.out)
                    go_wp2_with fail
                    refine wp_region_class (S := Below wr.heap.size wr) (Below.refl _ _).drew (by kernel_rfl) (by kernel_rfl) ?_
                    repeat (go_big_quiet_step (first | (go_at_call 57; refine (CC.out _).mono ?_; rintro e w' ⟨rfl, hbel⟩; exact ⟨rfl, ⟨w', below_stepA (Pt.property _) hbel⟩, rfl⟩)))
                    refine wpQuiet_nil ?_
                    rintro W2 ⟨⟨_, hW⟩, rfl⟩
                    have HS2 := Lib.hid (HSk.out.step hW)
                    clear p0 p1 p2 p3 CC hW NE
                    go_wp2
                    go_meet
                    exact ⟨congrArg (fun n : Nat => Value.int .i64 (n : Int)) HN.out, HS2.out⟩
                  · have hdd : decide (E.cf x y < 0) = false := decide_eq_false hl
                    have HN := Lib.hid ((SG.out (by rw [E.lt_f hl]; rfl)).symm.trans HI.out)
                    go_wp2_with fail
                    refine wp_region_class (S := Below wr.heap.size wr) (Below.refl _ _).drew (by kernel_rfl) (by kernel_rfl) ?_
                    repeat (go_big_quiet_step (first | (go_at_call 57; refine (CC.out _).mono ?_; rintro e w' ⟨rfl, hbel⟩; exact ⟨rfl, ⟨w', below_stepA (Pt.property _) hbel⟩, rfl⟩)))
                    refine wpQuiet_nil ?_
                    rintro W2 ⟨⟨_, hW⟩, rfl⟩
                    have HS2 := Lib.hid (HSk.out.step hW)
                    clear p0 p1 p2 p3 CC hW NE
                    go_wp2
                    exact ⟨⟨k - 1, by go_num, by omega, by omega, HS2.out, HN⟩, by simp [intOf]; omega⟩
                · have j1 : ¬ ((mm : Nat) : Int) ≤ (k : Int) := by omega
                  have j3 : decide (((mm : Nat) : Int) ≤ (k : Int)) = false := decide_eq_false j1
                  have HN := Lib.hid ((scanDown_end (fun z => !E.lt z dk[a]!) dk (mm) k (.inl hle)).symm.trans HI.out)
                  have HS1 := Lib.hid (fun q => hs.step (((Turns.refl [] wr).drewN q).below (Nat.le_refl _) (fun x hx => by simp at hx)))
                  clear hs
                  go_wp2_with fail
                  go_quiet (fail)
                  go_wp2
                  go_meet
                  exact ⟨congrArg (fun n : Nat => Value.int .i64 (n : Int)) HN.out, HS1.out _⟩
            case rest =>
              obtain ⟨rfl, hsr⟩ := hcut
              obtain ⟨qq, hqq⟩ : ∃ n, scanDown (fun z => !E.lt z dk[a]!) dk (mm) (j) = n := ⟨_, rfl⟩
              have sp_qq := scanDown_spec (fun z => !E.lt z dk[a]!) dk (mm) (j)
              rw [hqq] at sp_qq
              rw [hqq]
              have HS_qq := Lib.hid hsr
              clear hsr
              have b3 := sp_qq.2.1 (by omega)
              have PE3 := PE.out
              rw [hmm] at PE3
              rw [hqq] at PE3
              have PE := Lib.hid (PE3.symm.trans HO.out)
              clear PE3
              have e1 := sp_mm.1
              have e2 := sp_qq.1
              by_cases hmq : mm > qq
              · rw [if_pos hmq] at PE
                have g1 : (qq : Int) < (mm : Int) := by omega
                have g2 : (qq : Int) < (E.n : Int) := by omega
                have HS5 := HS_qq
                have HPF := Lib.hid (show R = (qq, false, swp dk qq a) by rw [HPR.out, ← PE.out])
                clear sp_mm sp_qq PE HO HS_qq
                obtain ⟨sx, hsx⟩ : ∃ x, dk[qq]! = x := ⟨_, rfl⟩
                obtain ⟨sy, hsy⟩ : ∃ x, dk[a]! = x := ⟨_, rfl⟩
                have z0 := HS5.out.c0 (i := qq) (by omega)
                have z1 := HS5.out.c1 (i := qq) (by omega)
                have z2 := HS5.out.c0 (i := a) (by omega)
                have z3 := HS5.out.c1 (i := a) (by omega)
                have fz := HS5.out.fz
                have hsw := HS5.out.swap (i := qq) (j := a) (by omega) (by omega)
                rw [hsx] at z0 z1
                rw [hsy] at z2 z3
                rw [hsx, hsy] at hsw
                obtain ⟨⟨u1, m1⟩, ⟨u2, m2⟩, ⟨u3, m3⟩, f1, f2, f3⟩ := HS5.out.mid (i := qq) (j := a) (by omega) (by omega) (.int .i64 (E.r sy)) (.slice (E.A sy) (E.l sy) (E.c sy)) (.int .i64 (E.r sx))
                have HSW := Lib.hid hsw.drew
                clear hsw hsx hsy
                go_wp2_with fail
                go_big_region
                clear z0 z1 z2 z3 fz m1 m2 m3 f1 f2 f3
                go_wp2
                go_ret2
                rw [HPF.out]
                exact ⟨rfl, HSW.out, by show a ≤ qq; omega, by show qq < b; omega⟩
              · rw [if_neg hmq] at PE
                have hne : mm ≠ qq := fun e => by
                  subst e
                  have f1 := sp_mm.2.2.2 (by omega)
                  have f2 := sp_qq.2.2.2 (by omega) (by omega)
                  change E.lt dk[mm]! dk[a]! = false at f1
                  change (!E.lt dk[mm]! dk[a]!) = false at f2
                  rw [f1] at f2
                  exact absurd f2 (by decide)
                clear sp_mm sp_qq
                have g1 : ¬ (qq : Int) < (mm : Int) := by omega
                have g2 : (mm : Int) < (E.n : Int) := by omega
                have g3 : (qq : Int) < (E.n : Int) := by omega
                obtain ⟨sx, hsx⟩ : ∃ x, dk[mm]! = x := ⟨_, rfl⟩
                obtain ⟨sy, hsy⟩ : ∃ x, dk[qq]! = x := ⟨_, rfl⟩
                have z0 := HS_qq.out.c0 (i := mm) (by omega)
                have z1 := HS_qq.out.c1 (i := mm) (by omega)
                have z2 := HS_qq.out.c0 (i := qq) (by omega)
                have z3 := HS_qq.out.c1 (i := qq) (by omega)
                have fz := HS_qq.out.fz
                have hsw := HS_qq.out.swap (i := mm) (j := qq) (by omega) (by omega)
                rw [hsx] at z0 z1
                rw [hsy] at z2 z3
                rw [hsx, hsy] at hsw
                obtain ⟨⟨u1, m1⟩, ⟨u2, m2⟩, ⟨u3, m3⟩, f1, f2, f3⟩ := HS_qq.out.mid (i := mm) (j := qq) (by omega) (by omega) (.int .i64 (E.r sy)) (.slice (E.A sy) (E.l sy) (E.c sy)) (.int .i64 (E.r sx))
                have HSW := Lib.hid hsw.drew
                clear hsw hsx hsy
                go_wp2_with fail
                go_big_region
                clear z0 z1 z2 z3 fz m1 m2 m3 f1 f2 f3
                go_wp2
                exact ⟨⟨mm + 1, qq - 1, _, by go_num, by go_num, by omega, by omega, by omega, HSW.out, PE⟩, by simp [intOf]; omega⟩
end
end Go.Proofs.YtjgigcnjgblekaaDoor
