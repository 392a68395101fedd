/- Contracts of agenda.Index and of the reference's Index: both answer the pick modulo n (0 where n is none). -/
import Derived.Test.YtblonickpmogiaaChecked
import Derived.WalkKit
import Derived.WalkLawsBesides
import Derived.Lib.Hide
import Derived.OpenShut
namespace Go.Proofs.Ytblonickpmogiaa
open Go.RowKit Go.OpenShut

/-- The pick modulo n, from 0 to n-1; 0 where n is none. -/
def idxOf (a b : Int) : Int := if b ≤ 0 then 0 else a % b

theorem tmod_neg (a b : Int) (hb : 0 < b) (h : a.tmod b < 0) : a.tmod b + b = a % b := by
  have h1 := Int.tmod_eq_emod (a := a) (b := b)
  split at h1
  · have := Int.emod_nonneg a (b := b) (by omega)
    omega
  · have : (b.natAbs : Int) = b := by omega
    omega
theorem tmod_pos (a b : Int) (hb : 0 < b) (h : 0 ≤ a.tmod b) : a.tmod b = a % b := by
  have h1 := Int.tmod_eq_emod (a := a) (b := b)
  split at h1
  · simpa using h1
  · have := Int.emod_lt_of_pos a hb
    omega
theorem tmod_bds (a b : Int) (hb : 0 < b) : -b < a.tmod b ∧ a.tmod b < b := by
  have h1 := Int.lt_tmod_of_pos a hb
  have h2 := Int.tmod_lt_of_pos a hb
  exact ⟨h1, h2⟩

theorem idx_none (a b : Int) (w : World) (hb : b ≤ 0) :
    Calls Try.prog 15 #[.int .i64 a, .int .i64 b] w fun e w' => e = .returned (.int .i64 0) ∧ w = w' := by
  go_enter Try.func15, Try.ntmps15
  go_wp2
  go_ret
  exact ⟨rfl, rfl⟩

theorem idx_pos (a b : Int) (w : World) (hb : 0 < b) (hb2 : b ≤ 9223372036854775807) (ha1 : -9223372036854775808 ≤ a) (ha2 : a ≤ 9223372036854775807) :
    Calls Try.prog 15 #[.int .i64 a, .int .i64 b] w fun e w' => e = .returned (.int .i64 (a % b)) ∧ w = w' := by
  by_cases ha : 0 ≤ a
  · have h1 : 0 ≤ a % b := Int.emod_nonneg _ (by omega)
    have h2 : a % b < b := Int.emod_lt_of_pos _ hb
    go_enter Try.func15, Try.ntmps15
    go_wp2
    go_ret
    exact ⟨rfl, rfl⟩
  · have ⟨h1, h2⟩ := tmod_bds a b hb
    by_cases hn : a.tmod b < 0
    · have E := Lib.hid (tmod_neg a b hb hn)
      go_enter Try.func15, Try.ntmps15
      go_wp2
      go_ret
      exact ⟨by rw [E.out]; rfl, rfl⟩
    · have E := Lib.hid (tmod_pos a b hb (by omega))
      go_enter Try.func15, Try.ntmps15
      go_wp2
      go_ret
      exact ⟨by rw [E.out]; rfl, rfl⟩
theorem idx_any (a b : Int) (w : World) (ha : (Lit.int .i64 a).wf = true) (hb : (Lit.int .i64 b).wf = true) :
    Calls Try.prog 15 #[.int .i64 a, .int .i64 b] w fun e w' => e = .returned (.int .i64 (idxOf a b)) ∧ w = w' := by
  have := bounds_i64 ha
  have := bounds_i64 hb
  unfold idxOf
  split
  · exact idx_none a b w ‹_›
  · exact idx_pos a b w (by omega) (by omega) (by omega) (by omega)

theorem ridx_none (a b : Int) (w : World) (hb : b ≤ 0) :
    Calls Try.prog 16 #[.int .i64 a, .int .i64 b] w fun e w' => e = .returned (.int .i64 0) ∧ w = w' := by
  go_enter Try.func16, Try.ntmps16
  go_wp2
  go_ret
  exact ⟨rfl, rfl⟩
theorem tdiv_mul (a b : Int) : a - a.tdiv b * b = a.tmod b := by
  have := Int.tmod_add_mul_tdiv a b
  rw [Int.mul_comm] at this
  omega
theorem wrap_id (n : Int) (h1 : -9223372036854775808 ≤ n) (h2 : n ≤ 9223372036854775807) : wrap64 n = n := IntWalk.wrap64_in n ⟨h1, h2⟩
theorem tdiv_bds (a b : Int) (hb : 0 < b) (ha1 : -9223372036854775808 ≤ a) (ha2 : a ≤ 9223372036854775807) :
    (-9223372036854775808 ≤ a.tdiv b ∧ a.tdiv b ≤ 9223372036854775807) ∧ -9223372036854775808 ≤ a.tdiv b * b ∧ a.tdiv b * b ≤ 9223372036854775807 := by
  have h := tdiv_mul a b
  have h1 := Int.natAbs_tdiv_le_natAbs a b
  by_cases h0 : 0 ≤ a
  · have h2 := Int.tmod_nonneg (b := b) (a := a) h0
    have h3 : 0 ≤ a.tdiv b := Int.tdiv_nonneg h0 (by omega)
    have h4 : 0 ≤ a.tdiv b * b := Int.mul_nonneg h3 (by omega)
    omega
  · have h2 : (-a).tmod b = - a.tmod b := Int.neg_tmod ..
    have h2' := Int.tmod_nonneg (b := b) (a := -a) (by omega)
    have h3 : 0 ≤ (-a).tdiv b := Int.tdiv_nonneg (by omega) (by omega)
    rw [Int.neg_tdiv] at h3
    have h4 : 0 ≤ (- a.tdiv b) * b := Int.mul_nonneg h3 (by omega)
    rw [Int.neg_mul] at h4
    omega
theorem ridx_pos (a b : Int) (w : World) (hb : 0 < b) (hb2 : b ≤ 9223372036854775807) (ha1 : -9223372036854775808 ≤ a) (ha2 : a ≤ 9223372036854775807) :
    Calls Try.prog 16 #[.int .i64 a, .int .i64 b] w fun e w' => e = .returned (.int .i64 (a % b)) ∧ w = w' := by
  have ⟨h1, h2⟩ := tmod_bds a b hb
  have ⟨⟨h3, h4⟩, h5, h6⟩ := tdiv_bds a b hb ha1 ha2
  have E := Lib.hid (tdiv_mul a b)
  have h7 : -b < a - a.tdiv b * b := by rw [E.out]; exact h1
  have h8 : a - a.tdiv b * b < b := by rw [E.out]; exact h2
  by_cases hn : a.tmod b < 0
  · have E2 := Lib.hid (tmod_neg a b hb hn)
    have hn' : a - a.tdiv b * b < 0 := by rw [E.out]; exact hn
    clear h1 h2 hn
    go_enter Try.func16, Try.ntmps16
    go_wp2
    go_ret
    exact ⟨by rw [← E2.out, ← E.out]; rfl, rfl⟩
  · have E2 := Lib.hid (tmod_pos a b hb (by omega))
    have hn' : ¬ a - a.tdiv b * b < 0 := by rw [E.out]; exact hn
    clear h1 h2 hn
    go_enter Try.func16, Try.ntmps16
    go_wp2
    go_ret
    exact ⟨by rw [← E2.out, ← E.out]; rfl, rfl⟩
theorem ridx_any (a b : Int) (w : World) (ha : (Lit.int .i64 a).wf = true) (hb : (Lit.int .i64 b).wf = true) :
    Calls Try.prog 16 #[.int .i64 a, .int .i64 b] w fun e w' => e = .returned (.int .i64 (idxOf a b)) ∧ w = w' := by
  have := bounds_i64 ha
  have := bounds_i64 hb
  unfold idxOf
  split
  · exact ridx_none a b w ‹_›
  · exact ridx_pos a b w (by omega) (by omega) (by omega) (by omega)
end Go.Proofs.Ytblonickpmogiaa
