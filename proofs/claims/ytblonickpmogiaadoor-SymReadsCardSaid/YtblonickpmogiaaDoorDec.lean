/- The document's decimal: strconv's numeral. -/
import Derived.Test.YtblonickpmogiaaDoorEsc
import Derived.Lib.ItoaNum
namespace Go.Proofs.YtblonickpmogiaaDoor
open Go.RowKit

theorem dec_big {M : Nat} (h : M / 10 ≠ 0) : Lib.decDigits M = Lib.decDigits (M / 10) ++ [UInt8.ofNat (48 + M % 10)] := by
  rw [Lib.decDigits, dif_neg (by omega)]
theorem dec_small {M : Nat} (h : M / 10 = 0) : Lib.decDigits M = [UInt8.ofNat (48 + M % 10)] := by
  rw [Lib.decDigits, dif_pos (by omega), Nat.mod_eq_of_lt (by omega)]
theorem cat1 (x : UInt8) (S : List UInt8) : (⟨#[x]⟩ : ByteArray) ++ (⟨S.toArray⟩ : ByteArray) = ⟨(x :: S).toArray⟩ := by
  apply ByteArray.ext
  simp

theorem dec_len : ∀ (k u : Nat), 0 < k → u < 10 ^ k → (Lib.decDigits u).length ≤ k
  | 0, _, h, _ => by omega
  | k + 1, u, _, hu => by
    rw [Lib.decDigits]
    by_cases h : u < 10
    · rw [dif_pos h]; simp
    · rw [dif_neg h, List.length_append]
      have hk : 0 < k := by
        rcases Nat.eq_zero_or_pos k with rfl | hp
        · simp at hu; omega
        · exact hp
      have := dec_len k (u / 10) hk (by rw [Nat.pow_succ] at hu; omega)
      simp
      omega
theorem dec_ne (u : Nat) : 1 ≤ (Lib.decDigits u).length := by
  rw [Lib.decDigits]
  split
  · simp
  · simp
/-- Never more than twenty digits. -/
theorem dec_room {n : Int} {M : Nat} {S : List UInt8} (h0 : -9223372036854775808 ≤ n) (h1 : n ≤ 9223372036854775807) (h : Lib.decDigits n.natAbs = Lib.decDigits M ++ S) : S.length + 1 ≤ 20 := by
  have e := congrArg List.length h
  rw [List.length_append] at e
  have := dec_ne M
  have := dec_len 20 n.natAbs (by decide) (by have : (10 : Nat) ^ 20 = 100000000000000000000 := by decide
                                              omega)
  omega
theorem itoa_pos {n : Int} (h : ¬ n < 0) {l : List UInt8} (hl : Lib.decDigits n.natAbs = l) : Lib.itoa n = l := by
  unfold Lib.itoa
  rw [if_neg h, ← hl]
  congr 1
  omega
theorem itoa_negv {n : Int} (h : n < 0) {l : List UInt8} (hl : Lib.decDigits n.natAbs = l) : Lib.itoa n = 45 :: l := by
  unfold Lib.itoa
  rw [if_pos h, hl]

set_option maxRecDepth 100000 in
set_option maxHeartbeats 4000000 in
theorem decimalW (n : Int) (h0 : -9223372036854775808 ≤ n) (h1 : n ≤ 9223372036854775807) (w : World) :
    Calls Tryd.prog 22 #[.int .i64 n] w fun e w' => e = .returned (.string ⟨(Lib.itoa n).toArray⟩) ∧ Below w.heap.size w w' := by
  go_enter Tryd.func22, Tryd.ntmps22
  go_wp2
  go_loopw [3, 4, 5] (fun sv mv _ wr => ∃ (S : List UInt8) (m : Int), sv = .string ⟨S.toArray⟩ ∧ mv = .int .i64 m ∧ -9223372036854775808 ≤ m ∧ m ≤ 9223372036854775807 ∧ Hid (Lib.decDigits n.natAbs = Lib.decDigits m.natAbs ++ S) ∧ S.length ≤ 100 ∧ Below w.heap.size w wr) (fun _ mv _ _ => (intOf mv).natAbs)
  case atStart => exact ⟨[], n, rfl, rfl, h0, h1, by show _ = _; simp, by simp, Below.refl _ _⟩
  case round =>
    obtain ⟨S, m, rfl, rfl, m0, m1, hT, hSl, hb⟩ := hrel
    obtain ⟨r, hr⟩ : ∃ r, r = m.tmod 10 := ⟨_, rfl⟩
    obtain ⟨q, hq⟩ : ∃ q, q = m.tdiv 10 := ⟨_, rfl⟩
    have rD : r.natAbs = m.natAbs % 10 := by rw [hr, Int.natAbs_tmod]; rfl
    have qD : q.natAbs = m.natAbs / 10 := by rw [hq, Int.natAbs_tdiv]; rfl
    obtain ⟨D, hD⟩ : ∃ D, D = m.natAbs % 10 := ⟨_, rfl⟩
    have hD10 : D < 10 := by omega
    have q0 : -9223372036854775808 ≤ q := by omega
    have q1 : q ≤ 9223372036854775807 := by omega
    have hu : (UInt8.ofNat (48 + D)).toNat = 48 + D := by simp; omega
    have hcv := run_convert_bytes_back (P := Tryd.prog) (wr.alloc (.cells #[.int .u8 (48 + (D : Int))] 5)) 44 9 5 ⟨wr.heap.size, 0, none⟩ 1 [UInt8.ofNat (48 + D)] Tryd.underlying44 Tryd.underlying5 Tryd.underlying9 (fun j hj => by
      have hj0 : j = 0 := by simpa using hj
      subst hj0
      rw [show (⟨wr.heap.size, 0, none⟩ : Addr).add 0 = ⟨wr.heap.size, 0, none⟩ by simpa using add_none wr.heap.size 0 0, cell_of_row _ wr.heap.size 0 _ _ _ (heap_alloc_new wr _)]
      show some (Value.int .u8 (48 + (D : Int))) = some (.int .u8 ((UInt8.ofNat (48 + D)).toNat : Int))
      rw [hu]; rfl)
    simp only [List.length_cons, List.length_nil] at hcv
    obtain ⟨x, hx⟩ : ∃ x, x = UInt8.ofNat (48 + D) := ⟨_, rfl⟩
    rw [← hx] at hcv
    have HT := hT
    have hS2 := Lib.hid (show (x :: S).length ≤ 100 from by have := dec_room h0 h1 hT; simp; omega)
    have hbn := Lib.hid ((hb.alloc hb.size (.cells #[.int .u8 (48 + (D : Int))] 5)))
    have w8 : IntKind.u8.wrap (48 + (D : Int)) = 48 + D := IntWalk.u8_in _ (by omega)
    have w64 : IntKind.i64.wrap (48 + (D : Int)) = 48 + D := IntWalk.i64_in _ (by omega)
    by_cases hr0 : r < 0
    · have r1 : m.tmod 10 = -(D : Int) := by omega
      have hDp : 0 < D := by omega
      by_cases hq0 : q = 0
      · subst hq0
        have HF := Lib.hid (show Lib.decDigits n.natAbs = x :: S from by
          have := hT
          unfold Hid at this
          rw [this, dec_small (by omega), hx, hD]; rfl)
        have q2 : m.tdiv 10 = 0 := hq.symm
        clear hT HT hr hq rD qD hD hx hu hr0
        by_cases hn : n < 0
        · have hn' : decide (n < 0) = true := by simpa using hn
          go_wp2
          go_ret
          exact ⟨by rw [itoa_negv hn HF.out]; simp [cat1], hbn.out⟩
        · have hn' : decide (n < 0) = false := by simpa using hn
          go_wp2
          go_ret
          exact ⟨by rw [itoa_pos (by omega) HF.out]; simp [cat1], hbn.out⟩
      · skip
        have HF := Lib.hid (show Lib.decDigits n.natAbs = Lib.decDigits q.natAbs ++ (x :: S) from by
          have := hT
          unfold Hid at this
          rw [this, dec_big (by omega), hx, hD, ← qD]; simp)
        have q2 : m.tdiv 10 = q := hq.symm
        have hq0' : (q == 0) = false := by simpa using hq0
        have hlt := Lib.hid (show q.natAbs < m.natAbs by omega)
        clear hT HT hr hq rD qD hD hx hu hr0 hq0
        go_wp2
        exact ⟨⟨x :: S, q, by rw [cat1], rfl, q0, q1, HF.out, hS2.out, hbn.out⟩, by simp [intOf]; exact hlt.out⟩
    · have r1 : m.tmod 10 = (D : Int) := by omega
      by_cases hq0 : q = 0
      · subst hq0
        have HF := Lib.hid (show Lib.decDigits n.natAbs = x :: S from by
          have := hT
          unfold Hid at this
          rw [this, dec_small (by omega), hx, hD]; rfl)
        have q2 : m.tdiv 10 = 0 := hq.symm
        clear hT HT hr hq rD qD hD hx hu hr0
        by_cases hn : n < 0
        · have hn' : decide (n < 0) = true := by simpa using hn
          go_wp2
          go_ret
          exact ⟨by rw [itoa_negv hn HF.out]; simp [cat1], hbn.out⟩
        · have hn' : decide (n < 0) = false := by simpa using hn
          go_wp2
          go_ret
          exact ⟨by rw [itoa_pos (by omega) HF.out]; simp [cat1], hbn.out⟩
      · skip
        have HF := Lib.hid (show Lib.decDigits n.natAbs = Lib.decDigits q.natAbs ++ (x :: S) from by
          have := hT
          unfold Hid at this
          rw [this, dec_big (by omega), hx, hD, ← qD]; simp)
        have q2 : m.tdiv 10 = q := hq.symm
        have hq0' : (q == 0) = false := by simpa using hq0
        have hlt := Lib.hid (show q.natAbs < m.natAbs by omega)
        clear hT HT hr hq rD qD hD hx hu hr0 hq0
        go_wp2
        exact ⟨⟨x :: S, q, by rw [cat1], rfl, q0, q1, HF.out, hS2.out, hbn.out⟩, by simp [intOf]; exact hlt.out⟩
end Go.Proofs.YtblonickpmogiaaDoor
