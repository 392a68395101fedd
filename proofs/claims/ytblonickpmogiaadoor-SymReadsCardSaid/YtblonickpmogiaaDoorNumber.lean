/- The walk of the reference's number. -/
import Derived.Test.YtblonickpmogiaaDoorPlain
namespace Go.Proofs.YtblonickpmogiaaDoor
open Go.RowKit

theorem wrap_w64 (n : Int) : wrap64 n = w64 n := by
  obtain ⟨q, h1, h2, h3⟩ := w64_eq n
  unfold wrap64
  omega
theorem num_step (N d : Int) : wrap64 (wrap64 (10 * w64 N) - d) = w64 (10 * N - d) := by
  obtain ⟨q, h1, h2, h3⟩ := w64_eq N
  obtain ⟨q2, h4, h5, h6⟩ := w64_eq (10 * N - d)
  unfold wrap64
  omega
theorem take_at {s : ByteArray} {k : Nat} (h : k < s.size) : s.data.toList.take (k + 1) = s.data.toList.take k ++ [gB s k] := by
  unfold gB
  rw [List.getD_eq_getElem?_getD, List.getElem?_eq_getElem (by rw [← size_list]; exact h), List.take_succ_eq_append_getElem (by rw [← size_list]; exact h)]
  rfl
theorem numF_snoc (l : List UInt8) (b : UInt8) : numF (l ++ [b]) 0 = if 48 ≤ b.toNat ∧ b.toNat ≤ 57 then 10 * numF l 0 - (b.toNat - 48 : Nat) else numF l 0 := by
  unfold numF
  rw [List.foldl_append]
  rfl

set_option maxRecDepth 100000 in
set_option maxHeartbeats 4000000 in
theorem numberW (s : ByteArray) (hs : s.size ≤ 140737488355328) (w : World) : Calls Tryd.prog 32 #[.string s] w fun e w' => e = .returned (.int .i64 (numB s)) ∧ w = w' := by
  go_enter Tryd.func32, Tryd.ntmps32
  go_wp2_with fail
  go_loopw [3, 4] (fun nv i wr => ∃ (k : Nat) (x : Int), i = .int .i64 k ∧ k ≤ s.size ∧ nv = .int .i64 x ∧ Hid (x = w64 (numF (s.data.toList.take k) 0)) ∧ wr = w) (fun _ i _ => s.size - (intOf i).toNat)
  case atStart => exact ⟨0, 0, rfl, Nat.zero_le _, rfl, by show (0 : Int) = w64 (numF (s.data.toList.take 0) 0); rw [List.take_zero]; decide, rfl⟩
  case round =>
    obtain ⟨k, x, rfl, hk, rfl, hx, rfl⟩ := hrel
    have hkk : (0 : Int) ≤ (k : Int) := by omega
    by_cases hk1 : k < s.size
    · have HK := Lib.hid hk1
      have k1 : (k : Int) < (s.size : Int) := by omega
      have hq : ∀ W, (Instr.index 9 (.string s) (.int .i64 (k : Int))).run Tryd.prog W = .ok (.int .u8 ((gB s k).toNat : Int)) W := fun W => by rw [gB_at hk1]; simp [go_sem, k1]
      have NS := numF_snoc (s.data.toList.take k) (gB s k)
      rw [← take_at hk1] at NS
      obtain ⟨b, hbe⟩ : ∃ b, b = gB s k := ⟨_, rfl⟩
      rw [← hbe] at hq NS
      have hbl := b.toNat_lt
      clear hbe hk1
      by_cases hd : 48 ≤ b.toNat ∧ b.toNat ≤ 57
      · rw [if_pos hd] at NS
        have hN : w64 (numF (s.data.toList.take (k + 1)) 0) = wrap64 (wrap64 (10 * x) - ((b.toNat : Int) - 48)) := by
          rw [NS, hx.out, num_step]
          congr 2
          omega
        have HN := Lib.hid hN
        have D := Lib.hid (fun (W : World) => digitW (n := (b.toNat : Int)) (w := W))
        rw [show digI (b.toNat : Int) = true by unfold digI; simp; omega] at D
        obtain ⟨d1, d2⟩ := hd
        have e1 : (48 : Int) ≤ (b.toNat : Int) := by omega
        have e2 : (b.toNat : Int) ≤ 57 := by omega
        clear NS hN hx
        go_wp2_with fail
        refine (D.out _).mono ?_
        rintro e w1 ⟨rfl, rfl⟩
        go_wp2_with fail
        exact ⟨⟨k + 1, _, by go_num, HK.out, rfl, HN.out.symm, trivial⟩, by simp [intOf]; have := HK.out; omega⟩
      · rw [if_neg hd] at NS
        have HN := Lib.hid (show x = w64 (numF (s.data.toList.take (k + 1)) 0) from by rw [NS]; exact hx.out)
        have D := Lib.hid (fun (W : World) => digitW (n := (b.toNat : Int)) (w := W))
        rw [show digI (b.toNat : Int) = false by unfold digI; simp; omega] at D
        clear NS hx hd
        go_wp2_with fail
        refine (D.out _).mono ?_
        rintro e w1 ⟨rfl, rfl⟩
        go_wp2_with fail
        exact ⟨⟨k + 1, x, by go_num, HK.out, rfl, HN.out, trivial⟩, by simp [intOf]; have := HK.out; omega⟩
    · obtain rfl : k = s.size := by omega
      have hx2 := hx.out
      rw [List.take_of_length_le (by rw [← size_list]; exact Nat.le_refl _)] at hx2
      by_cases hz : 0 < s.size
      · have hq0 : ∀ W, (Instr.index 9 (.string s) (.int .i64 0)).run Tryd.prog W = .ok (.int .u8 ((gB s 0).toNat : Int)) W := fun W => by rw [gB_at hz]; simp [go_sem, hz]
        have z1 : (0 : Int) < (s.size : Int) := by omega
        by_cases hc : gB s 0 = 45
        · have hB : numB s = x := by unfold numB; rw [if_pos ⟨hz, hc⟩, hx2]
          have HB := Lib.hid hB
          rw [hc] at hq0
          have hq0 : ∀ W, (Instr.index 9 (.string s) (.int .i64 0)).run Tryd.prog W = .ok (.int .u8 45) W := hq0
          clear hB hx hx2 hc
          go_wp2_with fail
          go_ret
          exact ⟨by rw [HB.out]; rfl, rfl⟩
        · have hB : numB s = wrap64 (-x) := by unfold numB; rw [if_neg (fun h => hc h.2), ← hx2, wrap_w64]
          have HB := Lib.hid hB
          have m := ne_int hc
          have m : (((gB s 0).toNat : Int) == 45) = false := m
          obtain ⟨y, hy⟩ : ∃ y : Int, y = ((gB s 0).toNat : Int) := ⟨_, rfl⟩
          rw [← hy] at hq0 m
          clear hB hx hx2 hc hy
          go_wp2_with fail
          go_ret
          exact ⟨by rw [HB.out]; rfl, rfl⟩
      · have hB : numB s = wrap64 (-x) := by unfold numB; rw [if_neg (fun h => hz h.1), ← hx2, wrap_w64]
        have HB := Lib.hid hB
        have z1 : ¬ (0 : Int) < (s.size : Int) := by omega
        clear hB hx hx2
        go_wp2_with fail
        go_ret
        exact ⟨by rw [HB.out]; rfl, rfl⟩
end Go.Proofs.YtblonickpmogiaaDoor
