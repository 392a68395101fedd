/- The walk of AgendaModulo: it returns true. -/
import Derived.Test.YtblonickpmogiaaAgIdx
import Derived.RowKit3
namespace Go.Proofs.Ytblonickpmogiaa.agendaModulo
open Go.RowKit
theorem idx_53 (w : World) : Calls Try.prog 15 #[.int .i64 5, .int .i64 3] w fun e w' => e = .returned (.int .i64 2) ∧ w = w' :=
  idx_pos 5 3 w (by decide) (by decide) (by decide) (by decide)
theorem idx_by0 (a : Int) (w : World) : Calls Try.prog 15 #[.int .i64 a, .int .i64 0] w fun e w' => e = .returned (.int .i64 0) ∧ w = w' :=
  idx_none a 0 w (by decide)
theorem idx_by1 (a : Int) (w : World) (h : (Lit.int .i64 a).wf = true) : Calls Try.prog 15 #[.int .i64 a, .int .i64 1] w fun e w' => e = .returned (.int .i64 0) ∧ w = w' := by
  have ⟨a01, a02⟩ := bounds_i64 h
  have := idx_pos a 1 w (by decide) (by decide) a01 a02
  rwa [Int.emod_one] at this

theorem idx_plus (a b : Int) (w : World) (hb : 0 < b) (hb2 : b ≤ 9223372036854775807) (h1 : -9223372036854775808 ≤ a) (h2 : a + b ≤ 9223372036854775807) :
    Calls Try.prog 15 #[.int .i64 (a + b), .int .i64 b] w fun e w' => e = .returned (.int .i64 (a % b)) ∧ w = w' := by
  have := idx_pos (a + b) b w hb hb2 (by omega) (by omega)
  rwa [Int.add_emod_right] at this
theorem idx_minus (a b : Int) (w : World) (hb : 0 < b) (hb2 : b ≤ 9223372036854775807) (h1 : -9223372036854775808 ≤ a - b) (h2 : a ≤ 9223372036854775807) :
    Calls Try.prog 15 #[.int .i64 (a - b), .int .i64 b] w fun e w' => e = .returned (.int .i64 (a % b)) ∧ w = w' := by
  have := idx_pos (a - b) b w hb hb2 (by omega) (by omega)
  rwa [Int.sub_emod_right] at this

theorem walk_a (a0 a1 : Int) (w0 : (Lit.int .i64 a0).wf = true) (a01 : -9223372036854775808 ≤ a0) (a02 : a0 ≤ 9223372036854775807) (hb : 0 < a1) (b2 : a1 ≤ 9223372036854775807) (h3 : a0 < 0) (w : World) :
    Calls Try.prog 4 #[.int .i64 a0, .int .i64 a1] w fun e w' => e = .returned (.bool true) ∧ Grown w w' := by
  have hk0 : 0 ≤ a0 % a1 := Int.emod_nonneg _ (by omega)
  have hk1 : a0 % a1 < a1 := Int.emod_lt_of_pos _ (by omega)
  by_cases hc : a0 < -9223372036854775808 + a1
  all_goals
    go_enter Try.func4, Try.ntmps4
    go_wp2_with (first | (go_at_call 15; with_reducible refine (idx_53 _).mono ?_; rintro e w' ⟨rfl, rfl⟩) | (go_at_call 15; with_reducible refine (idx_by0 a0 _).mono ?_; rintro e w' ⟨rfl, rfl⟩) | (go_at_call 15; with_reducible refine (idx_by1 a0 _ w0).mono ?_; rintro e w' ⟨rfl, rfl⟩) | (go_at_call 15; with_reducible refine (idx_plus a0 a1 _ hb b2 a01 (by omega)).mono ?_; rintro e w' ⟨rfl, rfl⟩) | (go_at_call 15; with_reducible refine (idx_minus a0 a1 _ hb b2 (by omega) a02).mono ?_; rintro e w' ⟨rfl, rfl⟩) | (go_at_call 15; with_reducible refine (idx_pos a0 a1 _ hb b2 a01 a02).mono ?_; rintro e w' ⟨rfl, rfl⟩))
    go_ret
    exact ⟨rfl, Grown.refl _⟩
theorem walk_b (a0 a1 : Int) (w0 : (Lit.int .i64 a0).wf = true) (a01 : -9223372036854775808 ≤ a0) (a02 : a0 ≤ 9223372036854775807) (hb : 0 < a1) (b2 : a1 ≤ 9223372036854775807) (h3 : a1 ≤ a0) (w : World) :
    Calls Try.prog 4 #[.int .i64 a0, .int .i64 a1] w fun e w' => e = .returned (.bool true) ∧ Grown w w' := by
  have hk0 : 0 ≤ a0 % a1 := Int.emod_nonneg _ (by omega)
  have hk1 : a0 % a1 < a1 := Int.emod_lt_of_pos _ (by omega)
  by_cases hc : a0 ≤ 9223372036854775807 - a1
  all_goals
    go_enter Try.func4, Try.ntmps4
    go_wp2_with (first | (go_at_call 15; with_reducible refine (idx_53 _).mono ?_; rintro e w' ⟨rfl, rfl⟩) | (go_at_call 15; with_reducible refine (idx_by0 a0 _).mono ?_; rintro e w' ⟨rfl, rfl⟩) | (go_at_call 15; with_reducible refine (idx_by1 a0 _ w0).mono ?_; rintro e w' ⟨rfl, rfl⟩) | (go_at_call 15; with_reducible refine (idx_plus a0 a1 _ hb b2 a01 (by omega)).mono ?_; rintro e w' ⟨rfl, rfl⟩) | (go_at_call 15; with_reducible refine (idx_minus a0 a1 _ hb b2 (by omega) a02).mono ?_; rintro e w' ⟨rfl, rfl⟩) | (go_at_call 15; with_reducible refine (idx_pos a0 a1 _ hb b2 a01 a02).mono ?_; rintro e w' ⟨rfl, rfl⟩))
    go_ret
    exact ⟨rfl, Grown.refl _⟩
theorem walk_c (a0 a1 : Int) (w0 : (Lit.int .i64 a0).wf = true) (a01 : -9223372036854775808 ≤ a0) (a02 : a0 ≤ 9223372036854775807) (hb : 0 < a1) (b2 : a1 ≤ 9223372036854775807) (h3 : 0 ≤ a0) (h4 : a0 < a1) (w : World) :
    Calls Try.prog 4 #[.int .i64 a0, .int .i64 a1] w fun e w' => e = .returned (.bool true) ∧ Grown w w' := by
  have hk0 : 0 ≤ a0 % a1 := Int.emod_nonneg _ (by omega)
  have hk1 : a0 % a1 < a1 := Int.emod_lt_of_pos _ (by omega)
  have he : ((a0 % a1 : Int) != a0) = false := by simp [Int.emod_eq_of_lt (a := a0) (b := a1) (by omega) (by omega)]
  by_cases hc : a0 ≤ 9223372036854775807 - a1
  all_goals
    go_enter Try.func4, Try.ntmps4
    go_wp2_with (first | (go_at_call 15; with_reducible refine (idx_53 _).mono ?_; rintro e w' ⟨rfl, rfl⟩) | (go_at_call 15; with_reducible refine (idx_by0 a0 _).mono ?_; rintro e w' ⟨rfl, rfl⟩) | (go_at_call 15; with_reducible refine (idx_by1 a0 _ w0).mono ?_; rintro e w' ⟨rfl, rfl⟩) | (go_at_call 15; with_reducible refine (idx_plus a0 a1 _ hb b2 a01 (by omega)).mono ?_; rintro e w' ⟨rfl, rfl⟩) | (go_at_call 15; with_reducible refine (idx_minus a0 a1 _ hb b2 (by omega) a02).mono ?_; rintro e w' ⟨rfl, rfl⟩) | (go_at_call 15; with_reducible refine (idx_pos a0 a1 _ hb b2 a01 a02).mono ?_; rintro e w' ⟨rfl, rfl⟩))
    go_ret
    exact ⟨rfl, Grown.refl _⟩
theorem walk (a0 : Int) (a1 : Int) (w0 : (Lit.int .i64 a0).wf = true) (w1 : (Lit.int .i64 a1).wf = true) (w : World) :
    Calls Try.prog 4 #[.int .i64 a0, .int .i64 a1] w fun e w' => e = .returned (.bool true) ∧ Grown w w' := by
  have ⟨a01, a02⟩ := bounds_i64 w0
  have ⟨a11, a12⟩ := bounds_i64 w1
  by_cases hb : a1 ≤ 0
  · go_enter Try.func4, Try.ntmps4
    go_wp2_with (first | (go_at_call 15; with_reducible refine (idx_53 _).mono ?_; rintro e w' ⟨rfl, rfl⟩) | (go_at_call 15; with_reducible refine (idx_by0 a0 _).mono ?_; rintro e w' ⟨rfl, rfl⟩) | (go_at_call 15; with_reducible refine (idx_by1 a0 _ w0).mono ?_; rintro e w' ⟨rfl, rfl⟩) | (go_at_call 15; with_reducible refine (idx_none a0 a1 _ hb).mono ?_; rintro e w' ⟨rfl, rfl⟩))
    go_ret
    exact ⟨rfl, Grown.refl _⟩
  · by_cases h3 : a0 < 0
    · exact walk_a a0 a1 w0 a01 a02 (by omega) a12 h3 w
    · by_cases h4 : a1 ≤ a0
      · exact walk_b a0 a1 w0 a01 a02 (by omega) a12 h4 w
      · exact walk_c a0 a1 w0 a01 a02 (by omega) a12 (by omega) (by omega) w
end Go.Proofs.Ytblonickpmogiaa.agendaModulo
