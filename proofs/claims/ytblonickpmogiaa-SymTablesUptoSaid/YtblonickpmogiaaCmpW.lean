/- The walks of cmp.Compare, cmp.Or. -/
import Derived.Test.YtblonickpmogiaaChecked
import Derived.Test.YtblonickpmogiaaCmpLaw
import Derived.WalkKit
import Derived.WalkLawsBesides
import Derived.Lib.Hide
namespace Go.Proofs.Ytblonickpmogiaa
open Go.RowKit

theorem nan_int (x : Int) (w : World) : Calls Try.prog 96 #[.int .i64 x] w fun e w' => e = .returned (.bool false) ∧ w = w' := by
  go_enter Try.func96, Try.ntmps96
  go_wp2
  go_ret
  exact ⟨by simp, rfl⟩
theorem nan_int64 (x : Int) (w : World) : Calls Try.prog 97 #[.int .i64 x] w fun e w' => e = .returned (.bool false) ∧ w = w' := by
  go_enter Try.func97, Try.ntmps97
  go_wp2
  go_ret
  exact ⟨by simp, rfl⟩
theorem nan_str (x : ByteArray) (w : World) : Calls Try.prog 98 #[.string x] w fun e w' => e = .returned (.bool false) ∧ w = w' := by
  go_enter Try.func98, Try.ntmps98
  go_wp2
  go_ret
  exact ⟨by simp, rfl⟩

theorem cmp_int (x y : Int) (w : World) : Calls Try.prog 57 #[.int .i64 x, .int .i64 y] w fun e w' => e = .returned (.int .i64 (cmpI x y)) ∧ w = w' := by
  rcases Int.lt_trichotomy x y with h | rfl | h
  · have E : cmpI x y = -1 := by unfold cmpI; rw [if_pos h]
    rw [E]; clear E
    go_enter Try.func57, Try.ntmps57
    go_wp2_with (first | (go_at_call 96; refine (nan_int _ _).mono ?_; rintro e w' ⟨rfl, rfl⟩))
    go_ret
    exact ⟨rfl, rfl⟩
  · have E : cmpI x x = 0 := by unfold cmpI; rw [if_neg (by omega), if_neg (by omega)]
    rw [E]; clear E
    go_enter Try.func57, Try.ntmps57
    go_wp2_with (first | (go_at_call 96; refine (nan_int _ _).mono ?_; rintro e w' ⟨rfl, rfl⟩))
    go_ret
    exact ⟨rfl, rfl⟩
  · have E : cmpI x y = 1 := by unfold cmpI; rw [if_neg (by omega), if_pos h]
    rw [E]; clear E
    go_enter Try.func57, Try.ntmps57
    go_wp2_with (first | (go_at_call 96; refine (nan_int _ _).mono ?_; rintro e w' ⟨rfl, rfl⟩))
    go_ret
    exact ⟨rfl, rfl⟩
theorem cmp_int64 (x y : Int) (w : World) : Calls Try.prog 58 #[.int .i64 x, .int .i64 y] w fun e w' => e = .returned (.int .i64 (cmpI x y)) ∧ w = w' := by
  rcases Int.lt_trichotomy x y with h | rfl | h
  · have E : cmpI x y = -1 := by unfold cmpI; rw [if_pos h]
    rw [E]; clear E
    go_enter Try.func58, Try.ntmps58
    go_wp2_with (first | (go_at_call 97; refine (nan_int64 _ _).mono ?_; rintro e w' ⟨rfl, rfl⟩))
    go_ret
    exact ⟨rfl, rfl⟩
  · have E : cmpI x x = 0 := by unfold cmpI; rw [if_neg (by omega), if_neg (by omega)]
    rw [E]; clear E
    go_enter Try.func58, Try.ntmps58
    go_wp2_with (first | (go_at_call 97; refine (nan_int64 _ _).mono ?_; rintro e w' ⟨rfl, rfl⟩))
    go_ret
    exact ⟨rfl, rfl⟩
  · have E : cmpI x y = 1 := by unfold cmpI; rw [if_neg (by omega), if_pos h]
    rw [E]; clear E
    go_enter Try.func58, Try.ntmps58
    go_wp2_with (first | (go_at_call 97; refine (nan_int64 _ _).mono ?_; rintro e w' ⟨rfl, rfl⟩))
    go_ret
    exact ⟨rfl, rfl⟩
theorem cmp_str (x y : ByteArray) (w : World) : Calls Try.prog 59 #[.string x, .string y] w fun e w' => e = .returned (.int .i64 (cmpL x.toList y.toList)) ∧ w = w' := by
  by_cases h : Op.bytesLess x.toList y.toList = true
  · have E : cmpL x.toList y.toList = -1 := by unfold cmpL; rw [if_pos h]
    rw [E]; clear E
    go_enter Try.func59, Try.ntmps59
    go_wp2_with (first | (go_at_call 98; refine (nan_str _ _).mono ?_; rintro e w' ⟨rfl, rfl⟩))
    go_ret
    exact ⟨rfl, rfl⟩
  · replace h : Op.bytesLess x.toList y.toList = false := by simpa using h
    cases h2 : (x.toList == y.toList)
    · have E : cmpL x.toList y.toList = 1 := by unfold cmpL; rw [h, h2]; rfl
      rw [E]; clear E
      go_enter Try.func59, Try.ntmps59
      go_wp2_with (first | (go_at_call 98; refine (nan_str _ _).mono ?_; rintro e w' ⟨rfl, rfl⟩))
      go_ret
      exact ⟨rfl, rfl⟩
    · have E : cmpL x.toList y.toList = 0 := by unfold cmpL; rw [h, h2]; rfl
      rw [E]; clear E
      go_enter Try.func59, Try.ntmps59
      go_wp2_with (first | (go_at_call 98; refine (nan_str _ _).mono ?_; rintro e w' ⟨rfl, rfl⟩))
      go_ret
      exact ⟨rfl, rfl⟩

theorem firstNz_zeros : ∀ (xs : List Int) (k : Nat), (∀ j, j < k → xs.getD j 0 = 0) → firstNz xs = firstNz (xs.drop k)
  | xs, 0, _ => rfl
  | [], k + 1, _ => by simp
  | x :: r, k + 1, h => by
    have h0 : x = 0 := by simpa using h 0 (by omega)
    rw [firstNz, if_pos h0, List.drop_succ_cons]
    exact firstNz_zeros r k fun j hj => by simpa using h (j + 1) (by omega)
theorem firstNz_at (xs : List Int) (k : Nat) (hk : k < xs.length) (h : ∀ j, j < k → xs.getD j 0 = 0) (hx : xs.getD k 0 ≠ 0) : firstNz xs = xs.getD k 0 := by
  rw [firstNz_zeros xs k h, List.drop_eq_getElem_cons hk, firstNz]
  have : xs.getD k 0 = xs[k] := by simp [hk]
  rw [this] at hx ⊢
  rw [if_neg hx]
theorem firstNz_none (xs : List Int) (k : Nat) (hk : xs.length ≤ k) (h : ∀ j, j < k → xs.getD j 0 = 0) : firstNz xs = 0 := by
  rw [firstNz_zeros xs k h, List.drop_eq_nil_of_le hk, firstNz]

/-- cmp.Or over a list of ints that lies in a block: the first that is not 0. -/
theorem or_int (g off n cap : Nat) (xs : List Int) (w : World) (hn : xs.length = n) (hm : n ≤ 1000)
    (hc : ∀ k, k < n → w.cell? ⟨g, off + k, none⟩ = some (.int .i64 (xs.getD k 0))) :
    Calls Try.prog 56 #[.slice (some ⟨g, off, none⟩) n cap] w fun e w' => e = .returned (.int .i64 (firstNz xs)) ∧ w = w' := by
  go_enter Try.func56, Try.ntmps56
  go_wp2
  go_loop [8] (fun i => ∃ k : Nat, k ≤ n ∧ i = .int .i64 k ∧ Hid (∀ j, j < k → xs.getD j 0 = 0)) (fun i => n - (intOf i).toNat)
  case atStart => exact ⟨0, Nat.zero_le _, rfl, fun j hj => absurd hj (by omega)⟩
  case round =>
    obtain ⟨k, hk, rfl, hz⟩ := hrel
    by_cases hlt : k < n
    · have hcell := hc k hlt
      clear hc
      by_cases hx : xs.getD k 0 = 0
      · rw [hx] at hcell
        have HX := Lib.hid hx
        clear hx
        go_wp2
        go_round
        case rel => exact ⟨k + 1, by omega, by go_num, fun j hj => by rcases (show j < k ∨ j = k from by omega) with h | rfl; exact hz.out j h; exact HX.out⟩
        case measure => simp [intOf]; omega
      · have E := Lib.hid (firstNz_at xs k (by omega) hz.out hx)
        obtain ⟨x, hxx⟩ : ∃ x, x = xs.getD k 0 := ⟨_, rfl⟩
        rw [← hxx] at hcell E hx
        clear hxx hz
        go_wp2
        go_ret
        exact ⟨by rw [E.out]; rfl, rfl⟩
    · have E := Lib.hid (firstNz_none xs k (by omega) hz.out)
      clear hc hz
      go_wp2
      go_ret
      exact ⟨by rw [E.out]; rfl, rfl⟩
end Go.Proofs.Ytblonickpmogiaa
