/- The walks of cmp.Compare, cmp.Or. The walk of sym.Compare. A region that draws its order, whose own operations only read, and whose callees lay new blocks: one walk of the text's order serves every order. Over any program. -/
import Derived.Test.YtjgigcnjgblekaaDoorKaq03
import Derived.Below
import Derived.BigQuiet
import Derived.Deep.DrawnRows
import Derived.Deep.QuietTactic
import Derived.Deep.RegionHeld3
import Derived.Lib.Hide
import Derived.Test.YtjgigcnjgblekaaDoorChecked
import Derived.WalkKit
import Derived.WalkLawsBesides
namespace Go.Proofs.YtjgigcnjgblekaaDoor
open Go.RowKit

theorem nan_int (x : Int) (w : World) : Calls Tryd.prog 88 #[.int .i64 x] w fun e w' => e = .returned (.bool false) ∧ w = w' := by
  go_enter Tryd.func88, Tryd.ntmps88
  go_wp2
  go_ret
  exact ⟨by simp, rfl⟩
theorem nan_int64 (x : Int) (w : World) : Calls Tryd.prog 105 #[.int .i64 x] w fun e w' => e = .returned (.bool false) ∧ w = w' := by
  go_enter Tryd.func105, Tryd.ntmps105
  go_wp2
  go_ret
  exact ⟨by simp, rfl⟩
theorem nan_str (x : ByteArray) (w : World) : Calls Tryd.prog 106 #[.string x] w fun e w' => e = .returned (.bool false) ∧ w = w' := by
  go_enter Tryd.func106, Tryd.ntmps106
  go_wp2
  go_ret
  exact ⟨by simp, rfl⟩

theorem cmp_int (x y : Int) (w : World) : Calls Tryd.prog 71 #[.int .i64 x, .int .i64 y] w fun e w' => e = .returned (.int .i64 (cmpI x y)) ∧ w = w' := by
  rcases Int.lt_trichotomy x y with h | rfl | h
  · have E : cmpI x y = -1 := by unfold cmpI; rw [if_pos h]
    rw [E]; clear E
    go_enter Tryd.func71, Tryd.ntmps71
    go_wp2_with (first | (go_at_call 88; refine (nan_int _ _).mono ?_; rintro e w' ⟨rfl, rfl⟩))
    go_ret
    exact ⟨rfl, rfl⟩
  · have E : cmpI x x = 0 := by unfold cmpI; rw [if_neg (by omega), if_neg (by omega)]
    rw [E]; clear E
    go_enter Tryd.func71, Tryd.ntmps71
    go_wp2_with (first | (go_at_call 88; refine (nan_int _ _).mono ?_; rintro e w' ⟨rfl, rfl⟩))
    go_ret
    exact ⟨rfl, rfl⟩
  · have E : cmpI x y = 1 := by unfold cmpI; rw [if_neg (by omega), if_pos h]
    rw [E]; clear E
    go_enter Tryd.func71, Tryd.ntmps71
    go_wp2_with (first | (go_at_call 88; refine (nan_int _ _).mono ?_; rintro e w' ⟨rfl, rfl⟩))
    go_ret
    exact ⟨rfl, rfl⟩
theorem cmp_int64 (x y : Int) (w : World) : Calls Tryd.prog 97 #[.int .i64 x, .int .i64 y] w fun e w' => e = .returned (.int .i64 (cmpI x y)) ∧ w = w' := by
  rcases Int.lt_trichotomy x y with h | rfl | h
  · have E : cmpI x y = -1 := by unfold cmpI; rw [if_pos h]
    rw [E]; clear E
    go_enter Tryd.func97, Tryd.ntmps97
    go_wp2_with (first | (go_at_call 105; refine (nan_int64 _ _).mono ?_; rintro e w' ⟨rfl, rfl⟩))
    go_ret
    exact ⟨rfl, rfl⟩
  · have E : cmpI x x = 0 := by unfold cmpI; rw [if_neg (by omega), if_neg (by omega)]
    rw [E]; clear E
    go_enter Tryd.func97, Tryd.ntmps97
    go_wp2_with (first | (go_at_call 105; refine (nan_int64 _ _).mono ?_; rintro e w' ⟨rfl, rfl⟩))
    go_ret
    exact ⟨rfl, rfl⟩
  · have E : cmpI x y = 1 := by unfold cmpI; rw [if_neg (by omega), if_pos h]
    rw [E]; clear E
    go_enter Tryd.func97, Tryd.ntmps97
    go_wp2_with (first | (go_at_call 105; refine (nan_int64 _ _).mono ?_; rintro e w' ⟨rfl, rfl⟩))
    go_ret
    exact ⟨rfl, rfl⟩
theorem cmp_str (x y : ByteArray) (w : World) : Calls Tryd.prog 98 #[.string x, .string y] w fun e w' => e = .returned (.int .i64 (cmpL x.toList y.toList)) ∧ w = w' := by
  by_cases h : Op.bytesLess x.toList y.toList = true
  · have E : cmpL x.toList y.toList = -1 := by unfold cmpL; rw [if_pos h]
    rw [E]; clear E
    go_enter Tryd.func98, Tryd.ntmps98
    go_wp2_with (first | (go_at_call 106; refine (nan_str _ _).mono ?_; rintro e w' ⟨rfl, rfl⟩))
    go_ret
    exact ⟨rfl, rfl⟩
  · replace h : Op.bytesLess x.toList y.toList = false := by simpa using h
    cases h2 : (x.toList == y.toList)
    · have E : cmpL x.toList y.toList = 1 := by unfold cmpL; rw [h, h2]; rfl
      rw [E]; clear E
      go_enter Tryd.func98, Tryd.ntmps98
      go_wp2_with (first | (go_at_call 106; refine (nan_str _ _).mono ?_; rintro e w' ⟨rfl, rfl⟩))
      go_ret
      exact ⟨rfl, rfl⟩
    · have E : cmpL x.toList y.toList = 0 := by unfold cmpL; rw [h, h2]; rfl
      rw [E]; clear E
      go_enter Tryd.func98, Tryd.ntmps98
      go_wp2_with (first | (go_at_call 106; refine (nan_str _ _).mono ?_; rintro e w' ⟨rfl, rfl⟩))
      go_ret
      exact ⟨rfl, rfl⟩

theorem firstNz_zeros : ∀ (xs : List Int) (k : Nat), (∀ j, j < k → xs.getD j 0 = 0) → firstNz xs = firstNz (xs.drop k)
  | xs, 0, _ => rfl
  | [], k + 1, _ => by simp
  | x :: r, k + 1, h => by
    have h0 : x = 0 := by simpa using h 0 (by omega)
    rw [firstNz, if_pos h0, List.drop_succ_cons]
    exact firstNz_zeros r k fun j hj => by simpa using h (j + 1) (by omega)
theorem firstNz_at (xs : List Int) (k : Nat) (hk : k < xs.length) (h : ∀ j, j < k → xs.getD j 0 = 0) (hx : xs.getD k 0 ≠ 0) : firstNz xs = xs.getD k 0 := by
  rw [firstNz_zeros xs k h, List.drop_eq_getElem_cons hk, firstNz]
  have : xs.getD k 0 = xs[k] := by simp [hk]
  rw [this] at hx ⊢
  rw [if_neg hx]
theorem firstNz_none (xs : List Int) (k : Nat) (hk : xs.length ≤ k) (h : ∀ j, j < k → xs.getD j 0 = 0) : firstNz xs = 0 := by
  rw [firstNz_zeros xs k h, List.drop_eq_nil_of_le hk, firstNz]

/-- cmp.Or over a list of ints that lies in a block: the first that is not 0. -/
theorem or_int (g off n cap : Nat) (xs : List Int) (w : World) (hn : xs.length = n) (hm : n ≤ 1000)
    (hc : ∀ k, k < n → w.cell? ⟨g, off + k, none⟩ = some (.int .i64 (xs.getD k 0))) :
    Calls Tryd.prog 70 #[.slice (some ⟨g, off, none⟩) n cap] w fun e w' => e = .returned (.int .i64 (firstNz xs)) ∧ w = w' := by
  go_enter Tryd.func70, Tryd.ntmps70
  go_wp2
  go_loop [8] (fun i => ∃ k : Nat, k ≤ n ∧ i = .int .i64 k ∧ Hid (∀ j, j < k → xs.getD j 0 = 0)) (fun i => n - (intOf i).toNat)
  case atStart => exact ⟨0, Nat.zero_le _, rfl, fun j hj => absurd hj (by omega)⟩
  case round =>
    obtain ⟨k, hk, rfl, hz⟩ := hrel
    by_cases hlt : k < n
    · have hcell := hc k hlt
      clear hc
      by_cases hx : xs.getD k 0 = 0
      · rw [hx] at hcell
        have HX := Lib.hid hx
        clear hx
        go_wp2
        go_round
        case rel => exact ⟨k + 1, by omega, by go_num, fun j hj => by rcases (show j < k ∨ j = k from by omega) with h | rfl; exact hz.out j h; exact HX.out⟩
        case measure => simp [intOf]; omega
      · have E := Lib.hid (firstNz_at xs k (by omega) hz.out hx)
        obtain ⟨x, hxx⟩ : ∃ x, x = xs.getD k 0 := ⟨_, rfl⟩
        rw [← hxx] at hcell E hx
        clear hxx hz
        go_wp2
        go_ret
        exact ⟨by rw [E.out]; rfl, rfl⟩
    · have E := Lib.hid (firstNz_none xs k (by omega) hz.out)
      clear hc hz
      go_wp2
      go_ret
      exact ⟨by rw [E.out]; rfl, rfl⟩
end Go.Proofs.YtjgigcnjgblekaaDoor

namespace Go.Proofs.YtjgigcnjgblekaaDoor
open Go.RowKit
attribute [local go_sem ↓] Go.wp_at_zero Go.wp_at_succ

/-- A constant as a value. -/
def Cst.val (c : Cst) : Value := .agg #[.int .i64 c.k, .int .i64 c.n, .string c.s]

theorem three_ints (w : World) (H : Nat) (hH : w.heap.size = H) (x1 x2 x3 : Int) (t : TypeId) (k : Nat) (hk : k < 3) :
    ((w.alloc (.cells #[.int .i64 x1, .int .i64 x2, .int .i64 x3] t)).drew).cell? ⟨H, 0 + k, none⟩ = some (.int .i64 ([x1, x2, x3].getD k 0)) := by
  subst hH
  rcases k with _ | _ | _ | k
  · simp
  · simp
  · simp
  · omega

set_option maxRecDepth 100000 in
theorem cmp_c (a b : Cst) (w : World) :
    Calls Tryd.prog 89 #[.agg #[.int .i64 a.k, .int .i64 a.n, .string a.s], .agg #[.int .i64 b.k, .int .i64 b.n, .string b.s]] w fun e w' => e = .returned (.int .i64 (cmpC a b)) ∧ Below w.heap.size w w' := by
  obtain ⟨ak, an, ax⟩ := a
  obtain ⟨bk, bn, bx⟩ := b
  unfold cmpC
  obtain ⟨x1, h1⟩ : ∃ x1, x1 = cmpI ak bk := ⟨_, rfl⟩
  obtain ⟨x2, h2⟩ : ∃ x2, x2 = cmpI an bn := ⟨_, rfl⟩
  obtain ⟨x3, h3⟩ : ∃ x3, x3 = cmpL ax.toList bx.toList := ⟨_, rfl⟩
  have c1 := fun W => cmp_int ak bk W
  have c2 := fun W => cmp_int64 an bn W
  have c3 := fun W => cmp_str ax bx W
  show Calls _ _ _ _ fun e w' => e = .returned (.int .i64 (firstNz [cmpI ak bk, cmpI an bn, cmpL ax.toList bx.toList])) ∧ Below w.heap.size w w'
  rw [← h1, ← h2, ← h3]
  simp only [← h1, ← h2, ← h3] at c1 c2 c3
  have C1 := Lib.hid c1; have C2 := Lib.hid c2; have C3 := Lib.hid c3
  clear h1 h2 h3 c1 c2 c3
  go_enter Tryd.func89, Tryd.ntmps89
  go_wp2
  go_region_held3 (fun w' => w'.cell? ⟨w.heap.size, 0, none⟩ = some (.int .i64 ak) ∧ w'.cell? ⟨w.heap.size, 1, none⟩ = some (.int .i64 an) ∧ w'.cell? ⟨w.heap.size, 2, none⟩ = some (.string ax) ∧
      w'.cell? ⟨w.heap.size + 1, 0, none⟩ = some (.int .i64 bk) ∧ w'.cell? ⟨w.heap.size + 1, 1, none⟩ = some (.int .i64 bn) ∧ w'.cell? ⟨w.heap.size + 1, 2, none⟩ = some (.string bx)) (go_keep)
    (first | (go_at_call 71; refine (C1.out _).mono ?_; rintro e w' ⟨rfl, rfl⟩) | (go_at_call 97; refine (C2.out _).mono ?_; rintro e w' ⟨rfl, rfl⟩) | (go_at_call 98; refine (C3.out _).mono ?_; rintro e w' ⟨rfl, rfl⟩) | (go_at_call 70; refine (or_int _ 0 3 _ [x1, x2, x3] _ rfl (by decide) ?_).mono ?_; exact three_ints _ _ (by simp) x1 x2 x3 _; rintro e w' ⟨rfl, rfl⟩))
  go_wp2
  go_ret
  refine ⟨rfl, ?_⟩
  repeat (first | exact Below.refl _ _ | refine Below.drew ?_ | refine Below.alloc ?_ (by first | (simp; done) | (simp; omega)) _)

theorem below_drewN {B : Nat} {a w : World} (h : Below B a w) (n : Nat) : Below B a (w.drewN n) := ⟨h.os, h.tape, h.output, h.size, h.block⟩

/-- The reference's Bytes: the two strings byte by byte. -/
theorem bytes_any (x y : ByteArray) (w : World) (hx : x.size ≤ maxLen) (_hy : y.size ≤ maxLen) :
    Calls Tryd.prog 99 #[.string x, .string y] w fun e w' => e = .returned (.int .i64 (cmpL x.toList y.toList)) ∧ Below w.heap.size w w' := by
  unfold maxLen at hx _hy
  go_enter Tryd.func99, Tryd.ntmps99
  go_wp2
  go_loopw [5] (fun i wr => ∃ k : Nat, k ≤ x.size ∧ k ≤ y.size ∧ i = .int .i64 k ∧ Hid (x.toList.take k = y.toList.take k) ∧ Below w.heap.size w wr) (fun i _ => x.size - (intOf i).toNat)
  case atStart => exact ⟨0, Nat.zero_le _, Nat.zero_le _, rfl, rfl, Below.refl _ _⟩
  case round =>
    obtain ⟨k, hk, hk2, rfl, hz, hb⟩ := hrel
    by_cases h1 : k < x.size
    · by_cases h2 : k < y.size
      · rcases Nat.lt_trichotomy x[k].toNat y[k].toNat with h | h | h
        · have E := Lib.hid (cmpS_at_lt hz.out h1 h2 h)
          clear hz
          go_wp2
          go_quiet (fail)
          go_wp2
          go_ret
          exact ⟨by rw [E.out]; rfl, below_drewN hb _⟩
        · have E := Lib.hid (takeS_at_eq hz.out h1 h2 h)
          have hlt : ¬ x[k].toNat < y[k].toNat := by omega
          have hgt : ¬ y[k].toNat < x[k].toNat := by omega
          clear h hz
          go_wp2
          go_quiet (fail)
          go_wp2
          go_quiet (fail)
          go_wp2
          go_roundw
          case rel => exact ⟨k + 1, by omega, by omega, by go_num, E, below_drewN hb _⟩
          case measure => simp [intOf]; omega
        · have E := Lib.hid (cmpS_at_gt hz.out h1 h2 h)
          clear hz
          have hlt : ¬ x[k].toNat < y[k].toNat := by omega
          go_wp2
          go_quiet (fail)
          go_wp2
          go_quiet (fail)
          go_wp2
          go_ret
          exact ⟨by rw [E.out]; rfl, below_drewN (below_drewN hb _) _⟩
      · have E := Lib.hid (cmpS_end hz.out (.inr (by omega)) hk hk2)
        clear hz
        rcases Nat.lt_trichotomy x.size y.size with h | h | h
        · omega
        · have h3 : ¬ x.size < y.size := by omega
          have h4 : ¬ y.size < x.size := by omega
          clear h
          go_wp2
          go_ret
          exact ⟨by rw [E.out, if_neg (by omega), if_neg (by omega)]; rfl, hb⟩
        · have h3 : ¬ x.size < y.size := by omega
          go_wp2
          go_ret
          exact ⟨by rw [E.out, if_neg (by omega), if_pos (by omega)]; rfl, hb⟩
    · have E := Lib.hid (cmpS_end hz.out (.inl (by omega)) hk hk2)
      clear hz
      rcases Nat.lt_trichotomy x.size y.size with h | h | h
      · go_wp2
        go_ret
        exact ⟨by rw [E.out, if_pos (by omega)]; rfl, hb⟩
      · have h3 : ¬ x.size < y.size := by omega
        have h4 : ¬ y.size < x.size := by omega
        clear h
        go_wp2
        go_ret
        exact ⟨by rw [E.out, if_neg (by omega), if_neg (by omega)]; rfl, hb⟩
      · omega

/-- The reference's Compare. -/
theorem rcmp_c (a b : Cst) (w : World) (ha : a.s.size ≤ maxLen) (hb : b.s.size ≤ maxLen) :
    Calls Tryd.prog 90 #[.agg #[.int .i64 a.k, .int .i64 a.n, .string a.s], .agg #[.int .i64 b.k, .int .i64 b.n, .string b.s]] w fun e w' => e = .returned (.int .i64 (cmpC a b)) ∧ Below w.heap.size w w' := by
  obtain ⟨ak, an, ax⟩ := a
  obtain ⟨bk, bn, bx⟩ := b
  by_cases h1 : ak = bk
  · by_cases h2 : an = bn
    · subst h1 h2
      have hfin : cmpC ⟨ak, an, ax⟩ ⟨ak, an, bx⟩ = cmpL ax.toList bx.toList := by rw [cmpC_eq]; simp [cmpI_self]
      have E := Lib.hid hfin
      clear hfin
      go_enter Tryd.func90, Tryd.ntmps90
      go_wp2_with (go_at_call 99; refine (bytes_any _ _ _ ha hb).mono ?_; rintro e w' ⟨rfl, hbel⟩)
      go_ret
      exact ⟨by rw [E.out]; rfl, (((Below.refl _ _).alloc (Nat.le_refl _) _).alloc (by simp) _).trans (hbel.mono (by simp; omega))⟩
    · have hfin : cmpC ⟨ak, an, ax⟩ ⟨bk, bn, bx⟩ = if an < bn then -1 else 1 := by
        rw [cmpC_eq]
        subst h1
        rw [if_pos (cmpI_self ak), if_neg (fun h => h2 (cmpI_zero.1 h))]
        exact cmpI_ne h2
      have E := Lib.hid hfin
      subst h1
      clear hfin ha hb
      have hne : ((an : Int) != bn) = true := by simp [h2]
      by_cases h3 : an < bn
      all_goals
        go_enter Tryd.func90, Tryd.ntmps90
        go_wp2
        go_ret
        exact ⟨by rw [E.out]; simp [h3], ((Below.refl _ _).alloc (Nat.le_refl _) _).alloc (by simp) _⟩
  · have hfin : cmpC ⟨ak, an, ax⟩ ⟨bk, bn, bx⟩ = if ak < bk then -1 else 1 := by
      rw [cmpC_eq, if_neg (fun h => h1 (cmpI_zero.1 h))]
      exact cmpI_ne h1
    have E := Lib.hid hfin
    clear hfin ha hb
    have hne : ((ak : Int) != bk) = true := by simp [h1]
    by_cases h3 : ak < bk
    all_goals
      go_enter Tryd.func90, Tryd.ntmps90
      go_wp2
      go_ret
      exact ⟨by rw [E.out]; simp [h3], ((Below.refl _ _).alloc (Nat.le_refl _) _).alloc (by simp) _⟩
end Go.Proofs.YtjgigcnjgblekaaDoor

namespace Go.Proofs.YtjgigcnjgblekaaDoor
open Go Go.RowKit

/-- A world of the class. -/
structure Pt (S : World → Prop) where
  val : World
  property : S val

theorem wp_region_class {P : Program} {S : World → Prop} {id : Nat} {Q : Exit → Act → World → Prop} {a : Act} {w : World} {l : List Oper} (hS : S w.drew) (hm : P.follows .mixedOrders = true) (hB : Region.lexB .any l.toArray = true)
    (h : wpQuiet P l.toArray (fun w' => ∃ p : Pt S, w' = p.val) (fun a' => ∀ w', (∃ p : Pt S, w' = p.val) → Q .normal a' w') l a) : (Code.region id l.toArray true).wp P Q a w :=
  wp_region_quiet (C := fun w' => ∃ p : Pt S, w' = p.val) hm hB ⟨⟨_, hS⟩, rfl⟩ (by simpa using h)
end Go.Proofs.YtjgigcnjgblekaaDoor
