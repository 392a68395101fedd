/- IsVar on both sides (door seat). -/
import Derived.Test.YtblonickpmogiaaDoorValid
namespace Go.Proofs.YtblonickpmogiaaDoor
open Go.RowKit

section
variable (s : ByteArray) (hs : s.size ≤ maxLen)
include hs
set_option maxRecDepth 100000 in
set_option maxHeartbeats 4000000 in
theorem isVarW : Says 13 (.string s) (varB s) := by
  intro w
  unfold varB
  have W := Lib.hid (fun w => wordW 28 bigI (enters_of Tryd.func28 (by kernel_rfl) rfl) bigW s hs w)
  obtain ⟨x, hx⟩ : ∃ x, x = wordB bigI s := ⟨_, rfl⟩
  rw [← hx] at W ⊢
  clear hx
  go_enter Tryd.func13, Tryd.ntmps13
  go_wp2_with (go_at_call 24; refine (W.out _).mono ?_; rintro e w' ⟨rfl, hb⟩)
  go_ret
  exact ⟨by simp, hb⟩

set_option maxRecDepth 100000 in
set_option maxHeartbeats 4000000 in
theorem risVarW : Says 14 (.string s) (varB s) := by
  intro w
  unfold varB wordB bigI
  have W := Lib.hid (fun w => tailW s hs w)
  have hs' := hs
  unfold maxLen at hs'
  obtain ⟨x, hx⟩ : ∃ x, x = tailB s 1 := ⟨_, rfl⟩
  rw [← hx] at W
  by_cases h0 : 0 < s.size
  · rw [dif_pos h0, ← hx]
    have L := Lib.hid (fun w => upperW (s[0].toNat : Int) w)
    obtain ⟨y, hy⟩ : ∃ y, y = upI (s[0].toNat : Int) := ⟨_, rfl⟩
    rw [← hy] at L ⊢
    clear hx hy hs
    have h1 : decide ((s.size : Int) < 1) = false := by simp; omega
    by_cases h64 : s.size ≤ 64
    · have h64' : decide (64 < (s.size : Int)) = false := by simp; omega
      rcases y with _ | _
      · by_cases h95 : (s[0].toNat : Int) = 95
        · rw [h95] at L
          go_enter Tryd.func14, Tryd.ntmps14
          go_wp2_with (first | (go_at_call 29; refine (L.out _).mono ?_; rintro e w' ⟨rfl, rfl⟩) | (go_at_call 27; refine (W.out _).mono ?_; rintro e w' ⟨rfl, rfl⟩))
          go_ret
          exact ⟨by simp [h64, h95], Below.refl _ _⟩
        · have h95' : ((s[0].toNat : Int) == 95) = false := by simpa using h95
          go_enter Tryd.func14, Tryd.ntmps14
          go_wp2_with (first | (go_at_call 29; refine (L.out _).mono ?_; rintro e w' ⟨rfl, rfl⟩) | (go_at_call 27; refine (W.out _).mono ?_; rintro e w' ⟨rfl, rfl⟩))
          go_ret
          exact ⟨by simp [h95], Below.refl _ _⟩
      · go_enter Tryd.func14, Tryd.ntmps14
        go_wp2_with (first | (go_at_call 29; refine (L.out _).mono ?_; rintro e w' ⟨rfl, rfl⟩) | (go_at_call 27; refine (W.out _).mono ?_; rintro e w' ⟨rfl, rfl⟩))
        go_ret
        exact ⟨by simp [h64], Below.refl _ _⟩
    · have h64' : decide (64 < (s.size : Int)) = true := by simp; omega
      go_enter Tryd.func14, Tryd.ntmps14
      go_wp2
      go_ret
      exact ⟨by simp [h64], Below.refl _ _⟩
  · rw [dif_neg h0]
    have h1 : decide ((s.size : Int) < 1) = true := by simp; omega
    go_enter Tryd.func14, Tryd.ntmps14
    go_wp2
    go_ret
    exact ⟨by simp, Below.refl _ _⟩
end
end Go.Proofs.YtblonickpmogiaaDoor
