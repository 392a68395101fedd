/- The document's letter and Text. -/
import Derived.Test.YtblonickpmogiaaDoorEsc
import Derived.Test.YtblonickpmogiaaDoorValid
import Derived.Test.YtblonickpmogiaaDoorClass
namespace Go.Proofs.YtblonickpmogiaaDoor
open Go.RowKit

set_option maxRecDepth 100000 in
set_option maxHeartbeats 4000000 in
theorem rletterW (b : UInt8) (w : World) : Calls Tryd.prog 23 #[.int .u8 b.toNat] w fun e w' => e = .returned (.string ⟨(escS b).toArray⟩) ∧ Below w.heap.size w w' := by
  have hb256 : b.toNat < 256 := b.toNat_lt
  have inj : ∀ n : Nat, n < 256 → ((b.toNat : Int) = (n : Int) ↔ b = UInt8.ofNat n) := by
    intro n hn
    constructor
    · intro h
      have h' : b.toNat = n := by exact_mod_cast h
      rw [← h']; simp
    · rintro rfl
      simp [Nat.mod_eq_of_lt hn]
  by_cases h1 : b = 34
  · subst h1
    show Calls Tryd.prog 23 #[.int .u8 34] w fun e w' => e = .returned (.string ⟨#[92, 34]⟩) ∧ Below w.heap.size w w'
    clear inj hb256
    go_enter Tryd.func23, Tryd.ntmps23
    go_wp2
    go_ret
    exact ⟨by simp, Below.refl _ _⟩
  by_cases h2 : b = 92
  · subst h2
    show Calls Tryd.prog 23 #[.int .u8 92] w fun e w' => e = .returned (.string ⟨#[92, 92]⟩) ∧ Below w.heap.size w w'
    clear inj hb256
    go_enter Tryd.func23, Tryd.ntmps23
    go_wp2
    go_ret
    exact ⟨by simp, Below.refl _ _⟩
  by_cases h3 : b = 10
  · subst h3
    show Calls Tryd.prog 23 #[.int .u8 10] w fun e w' => e = .returned (.string ⟨#[92, 110]⟩) ∧ Below w.heap.size w w'
    clear inj hb256
    go_enter Tryd.func23, Tryd.ntmps23
    go_wp2
    go_ret
    exact ⟨by simp, Below.refl _ _⟩
  by_cases h4 : b = 9
  · subst h4
    show Calls Tryd.prog 23 #[.int .u8 9] w fun e w' => e = .returned (.string ⟨#[92, 116]⟩) ∧ Below w.heap.size w w'
    clear inj hb256
    go_enter Tryd.func23, Tryd.ntmps23
    go_wp2
    go_ret
    exact ⟨by simp, Below.refl _ _⟩
  by_cases h5 : b = 13
  · subst h5
    show Calls Tryd.prog 23 #[.int .u8 13] w fun e w' => e = .returned (.string ⟨#[92, 114]⟩) ∧ Below w.heap.size w w'
    clear inj hb256
    go_enter Tryd.func23, Tryd.ntmps23
    go_wp2
    go_ret
    exact ⟨by simp, Below.refl _ _⟩
  have m1 : ((b.toNat : Int) == 34) = false := by simpa using fun h => h1 ((inj 34 (by decide)).1 (by simpa using h))
  have m2 : ((b.toNat : Int) == 92) = false := by simpa using fun h => h2 ((inj 92 (by decide)).1 (by simpa using h))
  have m3 : ((b.toNat : Int) == 10) = false := by simpa using fun h => h3 ((inj 10 (by decide)).1 (by simpa using h))
  have m4 : ((b.toNat : Int) == 9) = false := by simpa using fun h => h4 ((inj 9 (by decide)).1 (by simpa using h))
  have m5 : ((b.toNat : Int) == 13) = false := by simpa using fun h => h5 ((inj 13 (by decide)).1 (by simpa using h))
  by_cases h6 : 32 ≤ b.toNat ∧ b.toNat ≤ 126
  · have e : escS b = [b] := by unfold escS; rw [if_neg h1, if_neg h2, if_neg h3, if_neg h4, if_neg h5, if_pos h6]
    rw [e]
    have f1 : (32 : Int) ≤ (b.toNat : Int) := by omega
    have f2 : (b.toNat : Int) ≤ 126 := by omega
    have hcv := run_convert_bytes_back (P := Tryd.prog) (w.alloc (.cells #[.int .u8 b.toNat] 5)) 44 9 5 ⟨w.heap.size, 0, none⟩ 1 [b] Tryd.underlying44 Tryd.underlying5 Tryd.underlying9 (fun j hj => by
      have hj0 : j = 0 := by simpa using hj
      subst hj0
      rw [show (⟨w.heap.size, 0, none⟩ : Addr).add 0 = ⟨w.heap.size, 0, none⟩ by simpa using add_none w.heap.size 0 0, cell_of_row _ w.heap.size 0 _ _ _ (heap_alloc_new w _)]
      rfl)
    simp only [List.length_cons, List.length_nil] at hcv
    clear e h1 h2 h3 h4 h5 h6 inj
    go_enter Tryd.func23, Tryd.ntmps23
    go_wp2
    go_ret
    exact ⟨by simp, (Below.refl _ _).alloc (Nat.le_refl _) _⟩
  · have e : escS b = [92, 120, hexU (b.toNat / 16), hexU (b.toNat % 16)] := by unfold escS; rw [if_neg h1, if_neg h2, if_neg h3, if_neg h4, if_neg h5, if_neg h6]
    rw [e]
    have X1 : ∀ W, (Instr.index 9 (.string ⟨#[48, 49, 50, 51, 52, 53, 54, 55, 56, 57, 97, 98, 99, 100, 101, 102]⟩) (.int .u8 ((b.toNat : Int) / 16))).run Tryd.prog W = .ok (.int .u8 ((hexU (b.toNat / 16)).toNat : Int)) W := fun W => index_hex (b.toNat / 16) (by omega) W
    have X2 : ∀ W, (Instr.index 9 (.string ⟨#[48, 49, 50, 51, 52, 53, 54, 55, 56, 57, 97, 98, 99, 100, 101, 102]⟩) (.int .u8 ((b.toNat : Int) % 16))).run Tryd.prog W = .ok (.int .u8 ((hexU (b.toNat % 16)).toNat : Int)) W := fun W => index_hex (b.toNat % 16) (by omega) W
    obtain ⟨hi, hhi⟩ : ∃ hi, hi = hexU (b.toNat / 16) := ⟨_, rfl⟩
    obtain ⟨lo, hlo⟩ : ∃ lo, lo = hexU (b.toNat % 16) := ⟨_, rfl⟩
    rw [← hhi] at X1 ⊢
    rw [← hlo] at X2 ⊢
    clear hhi hlo
    have hcv := run_convert_bytes_back (P := Tryd.prog) (w.alloc (.cells #[.int .u8 92, .int .u8 120, .int .u8 hi.toNat, .int .u8 lo.toNat] 5)).drew 44 9 5 ⟨w.heap.size, 0, none⟩ 4 [92, 120, hi, lo] Tryd.underlying44 Tryd.underlying5 Tryd.underlying9 (fun j hj => by
      rw [show (⟨w.heap.size, 0, none⟩ : Addr).add j = ⟨w.heap.size, j, none⟩ by simpa using add_none w.heap.size 0 j, cell_of_row _ w.heap.size j _ _ _ (show ((w.alloc _).drew).heap[w.heap.size]? = _ from heap_alloc_new w _)]
      match j, hj with
      | 0, _ => rfl
      | 1, _ => rfl
      | 2, _ => rfl
      | 3, _ => rfl
      | j + 4, hj => exact absurd hj (by simp))
    simp only [List.length_cons, List.length_nil] at hcv
    by_cases g1 : 32 ≤ b.toNat
    · have g2 : decide (b.toNat ≤ 126) = false := by simp; omega
      have g3 : decide ((b.toNat : Int) ≤ 126) = false := by simp; omega
      have g4 : (32 : Int) ≤ (b.toNat : Int) := by omega
      clear e h1 h2 h3 h4 h5 h6 inj
      go_enter Tryd.func23, Tryd.ntmps23
      go_wp2
      go_region
      go_wp2
      go_ret
      exact ⟨by simp, ((Below.refl _ _).alloc (Nat.le_refl _) _).drew⟩
    · have g2 : decide (32 ≤ b.toNat) = false := by simp; omega
      have g3 : decide ((32 : Int) ≤ (b.toNat : Int)) = false := by simp; omega
      clear e h1 h2 h3 h4 h5 h6 inj g1
      go_enter Tryd.func23, Tryd.ntmps23
      go_wp2
      go_region
      go_wp2
      go_ret
      exact ⟨by simp, ((Below.refl _ _).alloc (Nat.le_refl _) _).drew⟩

end Go.Proofs.YtblonickpmogiaaDoor
