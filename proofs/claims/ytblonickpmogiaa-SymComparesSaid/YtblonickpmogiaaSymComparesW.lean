/- The walk of SymCompares: it returns true. -/
import Derived.Test.YtblonickpmogiaaCmpC
import Derived.Test.YtblonickpmogiaaSl
namespace Go.Proofs.Ytblonickpmogiaa.symCompares
open Go.RowKit
attribute [local go_sem ↓] Go.wp_at_zero Go.wp_at_succ

set_option maxRecDepth 100000 in
set_option maxHeartbeats 1000000 in
theorem walk (A : Option Addr) (cap : Nat) (xs : List Cst) (w : World) (hok : ∀ a ∈ xs, a.ok) (hs : SlAt w w.heap.size 3 Cst.cells A xs) (hlen : xs.length ≤ 9223372036854775807) :
    Calls Try.prog 5 #[.slice A xs.length cap] w fun e w' => e = .returned (.bool true) ∧ Below w.heap.size w w' := by
  go_enter Try.func5, Try.ntmps5
  go_wp2
  go_loopw [3, 4] (fun i _ wr => ∃ k : Nat, k ≤ xs.length ∧ i = .int .i64 k ∧ Below w.heap.size w wr) (fun i _ _ => xs.length - (intOf i).toNat)
  case atStart => exact ⟨0, Nat.zero_le _, rfl, Below.refl _ _⟩
  case round =>
    obtain ⟨i, hi, rfl, hb⟩ := hrel
    by_cases hin : i < xs.length
    · obtain ⟨wo, rfl⟩ : ∃ wo : World, wo = wr := ⟨_, rfl⟩
      go_wp2
      go_loopw [4] (fun j wr => ∃ k : Nat, k ≤ xs.length ∧ j = .int .i64 k ∧ Below w.heap.size w wr) (fun j _ => xs.length - (intOf j).toNat)
      case atStart => exact ⟨0, Nat.zero_le _, rfl, hb⟩
      case round =>
        obtain ⟨j, hj, rfl, hb2⟩ := hrel
        by_cases hjn : j < xs.length
        · obtain ⟨b, off, rfl, hblt, hc⟩ := hs.form (by omega)
          have hci := (hc i xs[i] (List.getElem?_eq_getElem hin)).below hb2 hblt
          have hcj := (hc j xs[j] (List.getElem?_eq_getElem hjn)).below hb2 hblt
          have oki := hok _ (List.getElem_mem hin)
          have okj := hok _ (List.getElem_mem hjn)
          obtain ⟨a, ha⟩ : ∃ a, a = xs[i] := ⟨_, rfl⟩
          obtain ⟨c, hcc⟩ : ∃ c, c = xs[j] := ⟨_, rfl⟩
          rw [← ha] at hci oki
          rw [← hcc] at hcj okj
          clear ha hcc hc
          have i0 := hci 0 _ rfl; have i1 := hci 1 _ rfl; have i2 := hci 2 _ rfl
          have j0 := hcj 0 _ rfl; have j1 := hcj 1 _ rfl; have j2 := hcj 2 _ rfl
          simp only [Nat.add_zero] at i0 j0
          obtain ⟨x, hx⟩ : ∃ x, x = cmpC a c := ⟨_, rfl⟩
          have C1 := Lib.hid (fun W => cmp_c a c W)
          have C2 := Lib.hid (fun W => rcmp_c a c W oki.2.2 okj.2.2)
          rw [← hx] at C1 C2
          clear hci hcj oki okj hx
          have hii : (0 : Int) ≤ (i : Int) := by omega
          have hjj : (0 : Int) ≤ (j : Int) := by omega
          have hin' : (i : Int) < (xs.length : Int) := by omega
          have hjn' : (j : Int) < (xs.length : Int) := by omega
          have hbw : b < wr.heap.size := Nat.lt_of_lt_of_le hblt hb2.size
          go_wp2
          have hS : (fun w' : World => b < w'.heap.size ∧ Below w.heap.size w w' ∧ w'.cell? ⟨b, off + i * 3, none⟩ = some (.int .i64 a.k) ∧ w'.cell? ⟨b, off + i * 3 + 1, none⟩ = some (.int .i64 a.n) ∧ w'.cell? ⟨b, off + i * 3 + 2, none⟩ = some (.string a.s) ∧
              w'.cell? ⟨b, off + j * 3, none⟩ = some (.int .i64 c.k) ∧ w'.cell? ⟨b, off + j * 3 + 1, none⟩ = some (.int .i64 c.n) ∧ w'.cell? ⟨b, off + j * 3 + 2, none⟩ = some (.string c.s)) wr.drew := ⟨hbw, hb2.drew, i0, i1, i2, j0, j1, j2⟩
          go_region_held3 (fun w' => b < w'.heap.size ∧ Below w.heap.size w w' ∧ w'.cell? ⟨b, off + i * 3, none⟩ = some (.int .i64 a.k) ∧ w'.cell? ⟨b, off + i * 3 + 1, none⟩ = some (.int .i64 a.n) ∧ w'.cell? ⟨b, off + i * 3 + 2, none⟩ = some (.string a.s) ∧
              w'.cell? ⟨b, off + j * 3, none⟩ = some (.int .i64 c.k) ∧ w'.cell? ⟨b, off + j * 3 + 1, none⟩ = some (.int .i64 c.n) ∧ w'.cell? ⟨b, off + j * 3 + 2, none⟩ = some (.string c.s)) (first | go_keep | (exact ⟨hbw, hb2.drew, i0, i1, i2, j0, j1, j2⟩) | (go_split_ands; refine ⟨?_, ?_, ?_, ?_, ?_, ?_, ?_, ?_⟩; (exact Nat.lt_of_lt_of_le (by assumption) hbel.size); (exact below_step (by assumption) hbel); all_goals (refine (hbel.cell (p := ⟨b, _, none⟩) (by assumption)).trans ?_; assumption)))
            (first | (go_at_call 17; refine (C1.out _).mono ?_; rintro e w' ⟨rfl, hbel⟩) | (go_at_call 18; refine (C2.out _).mono ?_; rintro e w' ⟨rfl, hbel⟩))
          have hB : Below w.heap.size w _ := (by assumption : _ ∧ Below w.heap.size w _ ∧ _).2.1
          go_wp2
          go_roundw
          case rel => exact ⟨j + 1, by omega, by go_num, hB⟩
          case measure => simp [intOf]; omega
        · go_wp2
          go_roundw
          case rel => exact ⟨i + 1, by omega, by go_num, hb2⟩
          case measure => simp [intOf]; omega
    · go_wp2
      go_ret
      exact ⟨rfl, hb⟩
end Go.Proofs.Ytblonickpmogiaa.symCompares
