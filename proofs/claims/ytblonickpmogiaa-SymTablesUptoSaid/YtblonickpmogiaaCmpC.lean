/- The walk of sym.Compare. -/
import Derived.Test.YtblonickpmogiaaCmpW
import Derived.Deep.RegionHeld3
import Derived.Deep.QuietTactic
import Derived.BigQuiet
import Derived.Deep.DrawnRows
namespace Go.Proofs.Ytblonickpmogiaa
open Go.RowKit
attribute [local go_sem ↓] Go.wp_at_zero Go.wp_at_succ

/-- A constant as a value. -/
def Cst.val (c : Cst) : Value := .agg #[.int .i64 c.k, .int .i64 c.n, .string c.s]

theorem three_ints (w : World) (H : Nat) (hH : w.heap.size = H) (x1 x2 x3 : Int) (t : TypeId) (k : Nat) (hk : k < 3) :
    ((w.alloc (.cells #[.int .i64 x1, .int .i64 x2, .int .i64 x3] t)).drew).cell? ⟨H, 0 + k, none⟩ = some (.int .i64 ([x1, x2, x3].getD k 0)) := by
  subst hH
  rcases k with _ | _ | _ | k
  · simp
  · simp
  · simp
  · omega

set_option maxRecDepth 100000 in
theorem cmp_c (a b : Cst) (w : World) :
    Calls Try.prog 17 #[.agg #[.int .i64 a.k, .int .i64 a.n, .string a.s], .agg #[.int .i64 b.k, .int .i64 b.n, .string b.s]] w fun e w' => e = .returned (.int .i64 (cmpC a b)) ∧ Below w.heap.size w w' := by
  obtain ⟨ak, an, ax⟩ := a
  obtain ⟨bk, bn, bx⟩ := b
  unfold cmpC
  obtain ⟨x1, h1⟩ : ∃ x1, x1 = cmpI ak bk := ⟨_, rfl⟩
  obtain ⟨x2, h2⟩ : ∃ x2, x2 = cmpI an bn := ⟨_, rfl⟩
  obtain ⟨x3, h3⟩ : ∃ x3, x3 = cmpL ax.toList bx.toList := ⟨_, rfl⟩
  have c1 := fun W => cmp_int ak bk W
  have c2 := fun W => cmp_int64 an bn W
  have c3 := fun W => cmp_str ax bx W
  show Calls _ _ _ _ fun e w' => e = .returned (.int .i64 (firstNz [cmpI ak bk, cmpI an bn, cmpL ax.toList bx.toList])) ∧ Below w.heap.size w w'
  rw [← h1, ← h2, ← h3]
  simp only [← h1, ← h2, ← h3] at c1 c2 c3
  have C1 := Lib.hid c1; have C2 := Lib.hid c2; have C3 := Lib.hid c3
  clear h1 h2 h3 c1 c2 c3
  go_enter Try.func17, Try.ntmps17
  go_wp2
  go_region_held3 (fun w' => w'.cell? ⟨w.heap.size, 0, none⟩ = some (.int .i64 ak) ∧ w'.cell? ⟨w.heap.size, 1, none⟩ = some (.int .i64 an) ∧ w'.cell? ⟨w.heap.size, 2, none⟩ = some (.string ax) ∧
      w'.cell? ⟨w.heap.size + 1, 0, none⟩ = some (.int .i64 bk) ∧ w'.cell? ⟨w.heap.size + 1, 1, none⟩ = some (.int .i64 bn) ∧ w'.cell? ⟨w.heap.size + 1, 2, none⟩ = some (.string bx)) (go_keep)
    (first | (go_at_call 57; refine (C1.out _).mono ?_; rintro e w' ⟨rfl, rfl⟩) | (go_at_call 58; refine (C2.out _).mono ?_; rintro e w' ⟨rfl, rfl⟩) | (go_at_call 59; refine (C3.out _).mono ?_; rintro e w' ⟨rfl, rfl⟩) | (go_at_call 56; refine (or_int _ 0 3 _ [x1, x2, x3] _ rfl (by decide) ?_).mono ?_; exact three_ints _ _ (by simp) x1 x2 x3 _; rintro e w' ⟨rfl, rfl⟩))
  go_wp2
  go_ret
  refine ⟨rfl, ?_⟩
  repeat (first | exact Below.refl _ _ | refine Below.drew ?_ | refine Below.alloc ?_ (by first | (simp; done) | (simp; omega)) _)

theorem below_drewN {B : Nat} {a w : World} (h : Below B a w) (n : Nat) : Below B a (w.drewN n) := ⟨h.os, h.tape, h.output, h.size, h.block⟩

/-- The reference's Bytes: the two strings byte by byte. -/
theorem bytes_any (x y : ByteArray) (w : World) (hx : x.size ≤ maxLen) (_hy : y.size ≤ maxLen) :
    Calls Try.prog 60 #[.string x, .string y] w fun e w' => e = .returned (.int .i64 (cmpL x.toList y.toList)) ∧ Below w.heap.size w w' := by
  unfold maxLen at hx _hy
  go_enter Try.func60, Try.ntmps60
  go_wp2
  go_loopw [5] (fun i wr => ∃ k : Nat, k ≤ x.size ∧ k ≤ y.size ∧ i = .int .i64 k ∧ Hid (x.toList.take k = y.toList.take k) ∧ Below w.heap.size w wr) (fun i _ => x.size - (intOf i).toNat)
  case atStart => exact ⟨0, Nat.zero_le _, Nat.zero_le _, rfl, rfl, Below.refl _ _⟩
  case round =>
    obtain ⟨k, hk, hk2, rfl, hz, hb⟩ := hrel
    by_cases h1 : k < x.size
    · by_cases h2 : k < y.size
      · rcases Nat.lt_trichotomy x[k].toNat y[k].toNat with h | h | h
        · have E := Lib.hid (cmpS_at_lt hz.out h1 h2 h)
          clear hz
          go_wp2
          go_quiet (fail)
          go_wp2
          go_ret
          exact ⟨by rw [E.out]; rfl, below_drewN hb _⟩
        · have E := Lib.hid (takeS_at_eq hz.out h1 h2 h)
          have hlt : ¬ x[k].toNat < y[k].toNat := by omega
          have hgt : ¬ y[k].toNat < x[k].toNat := by omega
          clear h hz
          go_wp2
          go_quiet (fail)
          go_wp2
          go_quiet (fail)
          go_wp2
          go_roundw
          case rel => exact ⟨k + 1, by omega, by omega, by go_num, E, below_drewN hb _⟩
          case measure => simp [intOf]; omega
        · have E := Lib.hid (cmpS_at_gt hz.out h1 h2 h)
          clear hz
          have hlt : ¬ x[k].toNat < y[k].toNat := by omega
          go_wp2
          go_quiet (fail)
          go_wp2
          go_quiet (fail)
          go_wp2
          go_ret
          exact ⟨by rw [E.out]; rfl, below_drewN (below_drewN hb _) _⟩
      · have E := Lib.hid (cmpS_end hz.out (.inr (by omega)) hk hk2)
        clear hz
        rcases Nat.lt_trichotomy x.size y.size with h | h | h
        · omega
        · have h3 : ¬ x.size < y.size := by omega
          have h4 : ¬ y.size < x.size := by omega
          clear h
          go_wp2
          go_ret
          exact ⟨by rw [E.out, if_neg (by omega), if_neg (by omega)]; rfl, hb⟩
        · have h3 : ¬ x.size < y.size := by omega
          go_wp2
          go_ret
          exact ⟨by rw [E.out, if_neg (by omega), if_pos (by omega)]; rfl, hb⟩
    · have E := Lib.hid (cmpS_end hz.out (.inl (by omega)) hk hk2)
      clear hz
      rcases Nat.lt_trichotomy x.size y.size with h | h | h
      · go_wp2
        go_ret
        exact ⟨by rw [E.out, if_pos (by omega)]; rfl, hb⟩
      · have h3 : ¬ x.size < y.size := by omega
        have h4 : ¬ y.size < x.size := by omega
        clear h
        go_wp2
        go_ret
        exact ⟨by rw [E.out, if_neg (by omega), if_neg (by omega)]; rfl, hb⟩
      · omega

/-- The reference's Compare. -/
theorem rcmp_c (a b : Cst) (w : World) (ha : a.s.size ≤ maxLen) (hb : b.s.size ≤ maxLen) :
    Calls Try.prog 18 #[.agg #[.int .i64 a.k, .int .i64 a.n, .string a.s], .agg #[.int .i64 b.k, .int .i64 b.n, .string b.s]] w fun e w' => e = .returned (.int .i64 (cmpC a b)) ∧ Below w.heap.size w w' := by
  obtain ⟨ak, an, ax⟩ := a
  obtain ⟨bk, bn, bx⟩ := b
  by_cases h1 : ak = bk
  · by_cases h2 : an = bn
    · subst h1 h2
      have hfin : cmpC ⟨ak, an, ax⟩ ⟨ak, an, bx⟩ = cmpL ax.toList bx.toList := by rw [cmpC_eq]; simp [cmpI_self]
      have E := Lib.hid hfin
      clear hfin
      go_enter Try.func18, Try.ntmps18
      go_wp2_with (go_at_call 60; refine (bytes_any _ _ _ ha hb).mono ?_; rintro e w' ⟨rfl, hbel⟩)
      go_ret
      exact ⟨by rw [E.out]; rfl, (((Below.refl _ _).alloc (Nat.le_refl _) _).alloc (by simp) _).trans (hbel.mono (by simp; omega))⟩
    · have hfin : cmpC ⟨ak, an, ax⟩ ⟨bk, bn, bx⟩ = if an < bn then -1 else 1 := by
        rw [cmpC_eq]
        subst h1
        rw [if_pos (cmpI_self ak), if_neg (fun h => h2 (cmpI_zero.1 h))]
        exact cmpI_ne h2
      have E := Lib.hid hfin
      subst h1
      clear hfin ha hb
      have hne : ((an : Int) != bn) = true := by simp [h2]
      by_cases h3 : an < bn
      all_goals
        go_enter Try.func18, Try.ntmps18
        go_wp2
        go_ret
        exact ⟨by rw [E.out]; simp [h3], ((Below.refl _ _).alloc (Nat.le_refl _) _).alloc (by simp) _⟩
  · have hfin : cmpC ⟨ak, an, ax⟩ ⟨bk, bn, bx⟩ = if ak < bk then -1 else 1 := by
      rw [cmpC_eq, if_neg (fun h => h1 (cmpI_zero.1 h))]
      exact cmpI_ne h1
    have E := Lib.hid hfin
    clear hfin ha hb
    have hne : ((ak : Int) != bk) = true := by simp [h1]
    by_cases h3 : ak < bk
    all_goals
      go_enter Try.func18, Try.ntmps18
      go_wp2
      go_ret
      exact ⟨by rw [E.out]; simp [h3], ((Below.refl _ _).alloc (Nat.le_refl _) _).alloc (by simp) _⟩
end Go.Proofs.Ytblonickpmogiaa
