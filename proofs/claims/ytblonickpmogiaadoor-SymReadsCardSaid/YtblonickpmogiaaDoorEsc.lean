/- How one byte of a text is written: the plain answer; sym.letter. -/
import Derived.Test.YtblonickpmogiaaDoorWord
import Derived.IntWalk
namespace Go.Proofs.YtblonickpmogiaaDoor
open Go.RowKit

def letB (n : Int) : Int := if n = 34 then 34 else if n = 92 then 92 else if n = 10 then 110 else if n = 9 then 116 else if n = 13 then 114 else 0
def hexL : List UInt8 := [48, 49, 50, 51, 52, 53, 54, 55, 56, 57, 97, 98, 99, 100, 101, 102]
def hexU (k : Nat) : UInt8 := hexL.getD k 0
/-- How one byte is written. -/
def escS (b : UInt8) : List UInt8 :=
  if b = 34 then [92, 34] else if b = 92 then [92, 92] else if b = 10 then [92, 110] else if b = 9 then [92, 116] else if b = 13 then [92, 114]
  else if 32 ≤ b.toNat ∧ b.toNat ≤ 126 then [b] else [92, 120, hexU (b.toNat / 16), hexU (b.toNat % 16)]
def quoteL (l : List UInt8) : List UInt8 := 34 :: (l.flatMap escS ++ [34])

set_option maxRecDepth 100000 in
theorem letterW (n : Int) (w : World) : Calls Tryd.prog 36 #[.int .u8 n] w fun e w' => e = .returned (.int .u8 (letB n)) ∧ w = w' := by
  unfold letB
  by_cases h1 : n = 34
  · subst h1
    go_enter Tryd.func36, Tryd.ntmps36
    go_wp2
    go_ret
    exact ⟨by simp, rfl⟩
  rw [if_neg h1]
  have e1 : (n == 34) = false := by simpa using h1
  by_cases h2 : n = 92
  · subst h2
    go_enter Tryd.func36, Tryd.ntmps36
    go_wp2
    go_ret
    exact ⟨by simp, rfl⟩
  rw [if_neg h2]
  have e2 : (n == 92) = false := by simpa using h2
  by_cases h3 : n = 10
  · subst h3
    go_enter Tryd.func36, Tryd.ntmps36
    go_wp2
    go_ret
    exact ⟨by simp, rfl⟩
  rw [if_neg h3]
  have e3 : (n == 10) = false := by simpa using h3
  by_cases h4 : n = 9
  · subst h4
    go_enter Tryd.func36, Tryd.ntmps36
    go_wp2
    go_ret
    exact ⟨by simp, rfl⟩
  rw [if_neg h4]
  have e4 : (n == 9) = false := by simpa using h4
  by_cases h5 : n = 13
  · subst h5
    go_enter Tryd.func36, Tryd.ntmps36
    go_wp2
    go_ret
    exact ⟨by simp, rfl⟩
  rw [if_neg h5]
  have e5 : (n == 13) = false := by simpa using h5
  go_enter Tryd.func36, Tryd.ntmps36
  go_wp2
  go_ret
  exact ⟨by simp, rfl⟩

def hexStr : ByteArray := ⟨#[48, 49, 50, 51, 52, 53, 54, 55, 56, 57, 97, 98, 99, 100, 101, 102]⟩
theorem esc_cases (b : UInt8) : (∃ l : UInt8, letB (b.toNat : Int) = (l.toNat : Int) ∧ (l.toNat : Int) ≠ 0 ∧ escS b = [92, l]) ∨ (letB (b.toNat : Int) = 0 ∧ 32 ≤ b.toNat ∧ b.toNat ≤ 126 ∧ escS b = [b]) ∨
    (letB (b.toNat : Int) = 0 ∧ ¬ (32 ≤ b.toNat ∧ b.toNat ≤ 126) ∧ escS b = [92, 120, hexU (b.toNat / 16), hexU (b.toNat % 16)]) := by
  have inj : ∀ n : Nat, n < 256 → ((b.toNat : Int) = (n : Int) ↔ b = UInt8.ofNat n) := by
    intro n hn
    constructor
    · intro h
      have h' : b.toNat = n := by exact_mod_cast h
      rw [← h']; simp
    · rintro rfl
      simp [Nat.mod_eq_of_lt hn]
  by_cases h1 : b = 34
  · exact .inl ⟨34, by subst h1; decide, by decide, by subst h1; decide⟩
  by_cases h2 : b = 92
  · exact .inl ⟨92, by subst h2; decide, by decide, by subst h2; decide⟩
  by_cases h3 : b = 10
  · exact .inl ⟨110, by subst h3; decide, by decide, by subst h3; decide⟩
  by_cases h4 : b = 9
  · exact .inl ⟨116, by subst h4; decide, by decide, by subst h4; decide⟩
  by_cases h5 : b = 13
  · exact .inl ⟨114, by subst h5; decide, by decide, by subst h5; decide⟩
  right
  have z : letB (b.toNat : Int) = 0 := by
    unfold letB
    have m1 : ¬ ((b.toNat : Int) = 34) := fun h => h1 ((inj 34 (by decide)).1 (by simpa using h))
    have m2 : ¬ ((b.toNat : Int) = 92) := fun h => h2 ((inj 92 (by decide)).1 (by simpa using h))
    have m3 : ¬ ((b.toNat : Int) = 10) := fun h => h3 ((inj 10 (by decide)).1 (by simpa using h))
    have m4 : ¬ ((b.toNat : Int) = 9) := fun h => h4 ((inj 9 (by decide)).1 (by simpa using h))
    have m5 : ¬ ((b.toNat : Int) = 13) := fun h => h5 ((inj 13 (by decide)).1 (by simpa using h))
    rw [if_neg m1, if_neg m2, if_neg m3, if_neg m4, if_neg m5]
  by_cases h6 : 32 ≤ b.toNat ∧ b.toNat ≤ 126
  · exact .inl ⟨z, h6.1, h6.2, by unfold escS; rw [if_neg h1, if_neg h2, if_neg h3, if_neg h4, if_neg h5, if_pos h6]⟩
  · exact .inr ⟨z, h6, by unfold escS; rw [if_neg h1, if_neg h2, if_neg h3, if_neg h4, if_neg h5, if_neg h6]⟩
theorem bytes_cases {k : Nat} (h : k < 16) : k = 0 ∨ k = 1 ∨ k = 2 ∨ k = 3 ∨ k = 4 ∨ k = 5 ∨ k = 6 ∨ k = 7 ∨ k = 8 ∨ k = 9 ∨ k = 10 ∨ k = 11 ∨ k = 12 ∨ k = 13 ∨ k = 14 ∨ k = 15 := by omega
theorem index_hex (k : Nat) (h : k < 16) (W : World) : (Instr.index 9 (.string ⟨#[48, 49, 50, 51, 52, 53, 54, 55, 56, 57, 97, 98, 99, 100, 101, 102]⟩) (.int .u8 (k : Int))).run Tryd.prog W = .ok (.int .u8 ((hexU k).toNat : Int)) W := by
  rcases bytes_cases h with rfl | rfl | rfl | rfl | rfl | rfl | rfl | rfl | rfl | rfl | rfl | rfl | rfl | rfl | rfl | rfl <;> (simp [go_sem]; rfl)
theorem and15 (m : Nat) (h : m < 256) : bits .and .u8 (m : Int) 15 = ((m % 16 : Nat) : Int) := by
  have a : ∀ k : Fin 256, bits .and .u8 ((k.val : Nat) : Int) 15 = ((k.val % 16 : Nat) : Int) := by decide +kernel
  exact a ⟨m, h⟩
theorem quo16 (m : Nat) (h : m < 256) : IntKind.u8.wrap ((m : Int).tdiv 16) = ((m / 16 : Nat) : Int) := by
  have e : (m : Int).tdiv 16 = ((m / 16 : Nat) : Int) := rfl
  rw [e]
  exact IntWalk.u8_in _ (by omega)
theorem rem16 (m : Nat) : (m : Int).tmod 16 = ((m % 16 : Nat) : Int) := rfl
end Go.Proofs.YtblonickpmogiaaDoor
