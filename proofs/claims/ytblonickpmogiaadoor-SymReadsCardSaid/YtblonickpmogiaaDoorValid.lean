/- IsName, IsVar, Valid, on both sides. -/
import Derived.Test.YtblonickpmogiaaDoorWord
import Derived.Shelf.Lay
namespace Go.Proofs.YtblonickpmogiaaDoor
open Go.RowKit

/-- What a call answers; below it nothing turns. -/
def Says (f : Nat) (v : Value) (b : Bool) : Prop := ∀ w, Calls Tryd.prog f #[v] w fun e w' => e = .returned (.bool b) ∧ Below w.heap.size w w'

section
variable (s : ByteArray) (hs : s.size ≤ maxLen)
include hs
set_option maxRecDepth 100000 in
set_option maxHeartbeats 4000000 in
theorem isNameW : Says 11 (.string s) (nameB s) := by
  intro w
  unfold nameB
  have W := Lib.hid (fun w => wordW 25 lowI (enters_of Tryd.func25 (by kernel_rfl) rfl) smallW s hs w)
  obtain ⟨x, hx⟩ : ∃ x, x = wordB lowI s := ⟨_, rfl⟩
  rw [← hx] at W ⊢
  clear hx
  rcases hn : (s.toList == [110, 111, 116]) with _ | _
  · go_enter Tryd.func11, Tryd.ntmps11
    go_wp2_with (go_at_call 24; refine (W.out _).mono ?_; rintro e w' ⟨rfl, hb⟩)
    go_ret
    exact ⟨by simp, hb⟩
  · go_enter Tryd.func11, Tryd.ntmps11
    go_wp2_with (go_at_call 24; refine (W.out _).mono ?_; rintro e w' ⟨rfl, hb⟩)
    go_ret
    exact ⟨by simp, Below.refl _ _⟩
set_option maxRecDepth 100000 in
set_option maxHeartbeats 4000000 in
theorem risNameW : Says 12 (.string s) (nameB s) := by
  intro w
  unfold nameB wordB
  have W := Lib.hid (fun w => tailW s hs w)
  have hs' := hs
  unfold maxLen at hs'
  obtain ⟨x, hx⟩ : ∃ x, x = tailB s 1 := ⟨_, rfl⟩
  rw [← hx] at W
  by_cases h0 : 0 < s.size
  · rw [dif_pos h0, ← hx]
    have L := Lib.hid (fun w => lowerW (s[0].toNat : Int) w)
    obtain ⟨y, hy⟩ : ∃ y, y = lowI (s[0].toNat : Int) := ⟨_, rfl⟩
    rw [← hy] at L ⊢
    clear hx hy hs
    have h1 : decide ((s.size : Int) < 1) = false := by simp; omega
    by_cases h64 : s.size ≤ 64
    · have h64' : decide (64 < (s.size : Int)) = false := by simp; omega
      rcases hn : (s.toList == [110, 111, 116]) with _ | _
      · rcases y with _ | _
        · go_enter Tryd.func12, Tryd.ntmps12
          go_wp2_with (first | (go_at_call 26; refine (L.out _).mono ?_; rintro e w' ⟨rfl, rfl⟩) | (go_at_call 27; refine (W.out _).mono ?_; rintro e w' ⟨rfl, rfl⟩))
          go_ret
          exact ⟨by simp, Below.refl _ _⟩
        · go_enter Tryd.func12, Tryd.ntmps12
          go_wp2_with (first | (go_at_call 26; refine (L.out _).mono ?_; rintro e w' ⟨rfl, rfl⟩) | (go_at_call 27; refine (W.out _).mono ?_; rintro e w' ⟨rfl, rfl⟩))
          go_ret
          exact ⟨by simp [h64], Below.refl _ _⟩
      · clear W L
        go_enter Tryd.func12, Tryd.ntmps12
        go_wp2
        go_ret
        exact ⟨by simp, Below.refl _ _⟩
    · have h64' : decide (64 < (s.size : Int)) = true := by simp; omega
      go_enter Tryd.func12, Tryd.ntmps12
      go_wp2
      go_ret
      exact ⟨by simp [h64], Below.refl _ _⟩
  · rw [dif_neg h0]
    have h1 : decide ((s.size : Int) < 1) = true := by simp; omega
    go_enter Tryd.func12, Tryd.ntmps12
    go_wp2
    go_ret
    exact ⟨by simp, Below.refl _ _⟩
end

set_option maxRecDepth 100000 in
set_option maxHeartbeats 8000000 in
theorem validW (c : Cst) (hs : c.s.size ≤ maxLen) : Says 7 (.agg #[.int .i64 c.k, .int .i64 c.n, .string c.s]) (validB c) := by
  intro w
  obtain ⟨k, n, s⟩ := c
  have W := Lib.hid (isNameW s hs)
  unfold validB
  show Calls _ _ _ _ fun e w' => e = .returned (.bool (if k = 1 then s.toList.isEmpty else if k = 2 then decide (n = 0) && nameB s else if k = 3 then decide (n = 0) && decide (s.size ≤ 255) else false)) ∧ Below w.heap.size w w'
  obtain ⟨x, hx⟩ : ∃ x, x = nameB s := ⟨_, rfl⟩
  rw [← hx] at W ⊢
  have hB := Lib.hid ((Below.refl w.heap.size w).alloc (Nat.le_refl _) (.cells #[.int .i64 k, .int .i64 n, .string s] 25))
  clear hx
  unfold maxLen at hs
  by_cases h1 : k = 1
  · subst h1
    go_enter Tryd.func7, Tryd.ntmps7
    go_wp2
    go_ret
    exact ⟨by simp, hB.out⟩
  rw [if_neg h1]
  by_cases h2 : k = 2
  · subst h2
    by_cases hn : n = 0
    · subst hn
      go_enter Tryd.func7, Tryd.ntmps7
      go_wp2_with (go_at_call 11; refine (W.out _).mono ?_; rintro e w' ⟨rfl, hb⟩)
      go_ret
      exact ⟨by simp, hB.out.trans (hb.mono hB.out.size)⟩
    · have hn' : (n == 0) = false := by simpa using hn
      go_enter Tryd.func7, Tryd.ntmps7
      go_wp2_with (go_at_call 11; refine (W.out _).mono ?_; rintro e w' ⟨rfl, hb⟩)
      go_ret
      exact ⟨by simp, hB.out⟩
  rw [if_neg h2]
  by_cases h3 : k = 3
  · subst h3
    by_cases hn : n = 0
    · subst hn
      go_enter Tryd.func7, Tryd.ntmps7
      go_wp2
      go_ret
      exact ⟨by simp; omega, hB.out⟩
    · have hn' : (n == 0) = false := by simpa using hn
      go_enter Tryd.func7, Tryd.ntmps7
      go_wp2
      go_ret
      exact ⟨by simp, hB.out⟩
  rw [if_neg h3]
  have k1 : (k == 1) = false := by simpa using h1
  have k2 : (k == 2) = false := by simpa using h2
  have k3 : (k == 3) = false := by simpa using h3
  go_enter Tryd.func7, Tryd.ntmps7
  go_wp2
  go_ret
  exact ⟨by simp, hB.out⟩

set_option maxRecDepth 100000 in
set_option maxHeartbeats 8000000 in
theorem rvalidW (c : Cst) (hs : c.s.size ≤ maxLen) : Says 8 (.agg #[.int .i64 c.k, .int .i64 c.n, .string c.s]) (validB c) := by
  intro w
  obtain ⟨k, n, s⟩ := c
  have W := Lib.hid (risNameW s hs)
  unfold validB
  show Calls _ _ _ _ fun e w' => e = .returned (.bool (if k = 1 then s.toList.isEmpty else if k = 2 then decide (n = 0) && nameB s else if k = 3 then decide (n = 0) && decide (s.size ≤ 255) else false)) ∧ Below w.heap.size w w'
  obtain ⟨x, hx⟩ : ∃ x, x = nameB s := ⟨_, rfl⟩
  rw [← hx] at W ⊢
  have hB := Lib.hid ((Below.refl w.heap.size w).alloc (Nat.le_refl _) (.cells #[.int .i64 k, .int .i64 n, .string s] 25))
  clear hx
  unfold maxLen at hs
  by_cases h1 : k = 1
  · subst h1
    go_enter Tryd.func8, Tryd.ntmps8
    go_wp2
    go_ret
    exact ⟨by simp, hB.out⟩
  rw [if_neg h1]
  by_cases h2 : k = 2
  · subst h2
    by_cases hn : n = 0
    · subst hn
      go_enter Tryd.func8, Tryd.ntmps8
      go_wp2_with (go_at_call 12; refine (W.out _).mono ?_; rintro e w' ⟨rfl, hb⟩)
      go_ret
      exact ⟨by simp, hB.out.trans (hb.mono hB.out.size)⟩
    · have hn' : (n == 0) = false := by simpa using hn
      go_enter Tryd.func8, Tryd.ntmps8
      go_wp2_with (go_at_call 12; refine (W.out _).mono ?_; rintro e w' ⟨rfl, hb⟩)
      go_ret
      exact ⟨by simp, hB.out⟩
  rw [if_neg h2]
  by_cases h3 : k = 3
  · subst h3
    by_cases hn : n = 0
    · subst hn
      go_enter Tryd.func8, Tryd.ntmps8
      go_wp2
      go_ret
      exact ⟨by simp; omega, hB.out⟩
    · have hn' : (n == 0) = false := by simpa using hn
      go_enter Tryd.func8, Tryd.ntmps8
      go_wp2
      go_ret
      exact ⟨by simp, hB.out⟩
  rw [if_neg h3]
  have k1 : (k == 1) = false := by simpa using h1
  have k2 : (k == 2) = false := by simpa using h2
  have k3 : (k == 3) = false := by simpa using h3
  go_enter Tryd.func8, Tryd.ntmps8
  go_wp2
  go_ret
  exact ⟨by simp, hB.out⟩
end Go.Proofs.YtblonickpmogiaaDoor
