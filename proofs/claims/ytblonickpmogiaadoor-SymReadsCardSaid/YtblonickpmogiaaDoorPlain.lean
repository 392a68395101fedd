/- The walks of the reference's nibble, plain and number. -/
import Derived.Test.YtblonickpmogiaaDoorRefReadLaw
import Derived.Test.YtblonickpmogiaaDoorLawWord
namespace Go.Proofs.YtblonickpmogiaaDoor
open Go.RowKit

/-- A small hex digit's value, or -1. -/
def nibI (b : UInt8) : Int := match nibV b with | some v => (v : Int) | none => -1
theorem nibV_lt {b : UInt8} {v : Nat} (h : nibV b = some v) : v < 16 := by
  unfold nibV at h
  split at h
  · injection h with h; omega
  · split at h
    · injection h with h; omega
    · cases h
theorem nib_no {b : UInt8} (h : ∀ k : Nat, k < 16 → hexU k ≠ b) : nibV b = none := by
  have a : ∀ k : Fin 256, nibV (UInt8.ofNat k.val) = none ∨ ∃ j : Fin 16, hexU j.val = UInt8.ofNat k.val := by decide +kernel
  rcases a ⟨b.toNat, b.toNat_lt⟩ with h1 | ⟨j, h1⟩
  · simpa using h1
  · exact absurd (by simpa using h1) (h j.val j.isLt)
theorem index_hexI (k : Nat) (h : k < 16) (W : World) : (Instr.index 9 (.string ⟨#[48, 49, 50, 51, 52, 53, 54, 55, 56, 57, 97, 98, 99, 100, 101, 102]⟩) (.int .i64 (k : Int))).run Tryd.prog W = .ok (.int .u8 ((hexU k).toNat : Int)) W := by
  rcases bytes_cases h with rfl | rfl | rfl | rfl | rfl | rfl | rfl | rfl | rfl | rfl | rfl | rfl | rfl | rfl | rfl | rfl <;> rfl

set_option maxRecDepth 100000 in
theorem nibbleW (b : UInt8) (w : World) : Calls Tryd.prog 43 #[.int .u8 (b.toNat : Int)] w fun e w' => e = .returned (.int .i64 (nibI b)) ∧ w = w' := by
  go_enter Tryd.func43, Tryd.ntmps43
  go_wp2_with fail
  go_loopw [3] (fun i wr => ∃ k : Nat, i = .int .i64 k ∧ k ≤ 16 ∧ (∀ j : Nat, j < k → hexU j ≠ b) ∧ wr = w) (fun i _ => 16 - (intOf i).toNat)
  case atStart => exact ⟨0, rfl, Nat.zero_le _, fun j h => absurd h (Nat.not_lt_zero _), rfl⟩
  case round =>
    obtain ⟨k, rfl, hk, hno, rfl⟩ := hrel
    by_cases hk1 : k < 16
    · have hx := index_hexI k hk1
      have k1 : (k : Int) < 16 := by omega
      by_cases he : hexU k = b
      · have hv : nibI b = (k : Int) := by unfold nibI; rw [← he, nib_hexU k hk1]
        have HV := Lib.hid hv
        rw [he] at hx
        clear he hno hv
        go_wp2_with fail
        go_ret
        exact ⟨by rw [HV.out]; rfl, rfl⟩
      · have m := ne_int he
        have NO := Lib.hid (show ∀ j : Nat, j < k + 1 → hexU j ≠ b from fun j hj => by
          rcases Nat.lt_or_ge j k with h | h
          · exact hno j h
          · rw [show j = k by omega]; exact he)
        have HK := Lib.hid hk1
        clear he hno
        go_wp2_with fail
        exact ⟨⟨k + 1, by go_num, HK.out, NO.out, trivial⟩, by simp [intOf]; have := HK.out; omega⟩
    · have hv : nibI b = -1 := by unfold nibI; rw [nib_no (fun j h => hno j (by omega))]
      have HV := Lib.hid hv
      have k1 : ¬ (k : Int) < 16 := by omega
      clear hno hv hk1
      go_wp2_with fail
      go_ret
      exact ⟨by rw [HV.out]; rfl, rfl⟩

/-- Between two rounds. -/
structure Pl (s : ByteArray) (w wr : World) (v : Value) (k : Nat) (acc : List UInt8) : Prop where
  own : OwnB wr w.heap.size v acc
  spec : rplain s.data.toList = acc ++ rplain (s.data.toList.drop k)
  le : acc.length ≤ k
  below : Below w.heap.size w wr
section
variable {s : ByteArray} {k : Nat} {acc : List UInt8} (h : rplain s.data.toList = acc ++ rplain (s.data.toList.drop k))
include h
theorem pp_plain (hk : k < s.size) (hc : gB s k ≠ 92) : rplain s.data.toList = (acc ++ [gB s k]) ++ rplain (s.data.toList.drop (k + 1)) := by
  rw [h, drop_at hk, rp_plain hc]
  simp
theorem pp_end (hk : k + 1 = s.size) (hc : gB s k = 92) : rplain s.data.toList = (acc ++ [92]) ++ rplain (s.data.toList.drop (k + 1)) := by
  rw [h, drop_at (by omega), hc, List.drop_of_length_le (by rw [← size_list]; omega), rp_end]
  simp [rplain]
theorem pp_n (hk : k + 1 < s.size) (hc : gB s k = 92) (h2 : gB s (k + 1) = 110) : rplain s.data.toList = (acc ++ [10]) ++ rplain (s.data.toList.drop (k + 2)) := by
  rw [h, drop_at (by omega), hc, drop_at hk, h2, rp_n]
  simp
theorem pp_t (hk : k + 1 < s.size) (hc : gB s k = 92) (h2 : gB s (k + 1) = 116) : rplain s.data.toList = (acc ++ [9]) ++ rplain (s.data.toList.drop (k + 2)) := by
  rw [h, drop_at (by omega), hc, drop_at hk, h2, rp_t]
  simp
theorem pp_r (hk : k + 1 < s.size) (hc : gB s k = 92) (h2 : gB s (k + 1) = 114) : rplain s.data.toList = (acc ++ [13]) ++ rplain (s.data.toList.drop (k + 2)) := by
  rw [h, drop_at (by omega), hc, drop_at hk, h2, rp_r]
  simp
theorem pp_other (hk : k + 1 < s.size) (hc : gB s k = 92) (h1 : gB s (k + 1) ≠ 110) (h2 : gB s (k + 1) ≠ 116) (h3 : gB s (k + 1) ≠ 114) (h4 : gB s (k + 1) ≠ 120) : rplain s.data.toList = (acc ++ [gB s (k + 1)]) ++ rplain (s.data.toList.drop (k + 2)) := by
  rw [h, drop_at (by omega), hc, drop_at hk, rp_other h1 h2 h3 h4]
  simp
theorem pp_short (hk : k + 1 < s.size) (hc : gB s k = 92) (h2 : gB s (k + 1) = 120) (hk3 : s.size ≤ k + 3) : rplain s.data.toList = acc ++ rplain (s.data.toList.drop (k + 2)) := by
  rw [h, drop_at (by omega), hc, drop_at hk, h2, rp_short (by rw [List.length_drop, ← size_list]; omega)]
theorem pp_hex (hk : k + 3 < s.size) (hc : gB s k = 92) (h2 : gB s (k + 1) = 120) : rplain s.data.toList = acc ++ ((match nibV (gB s (k + 2)), nibV (gB s (k + 3)) with | some x, some y => [UInt8.ofNat (16 * x + y)] | _, _ => []) ++ rplain (s.data.toList.drop (k + 4))) := by
  rw [h, drop_at (by omega), hc, drop_at (by omega), h2, drop_at (by omega), drop_at hk, rp_hex]
  exact rfl
theorem pp_hexS (hk : k + 3 < s.size) (hc : gB s k = 92) (h2 : gB s (k + 1) = 120) {x y : Nat} (hx : nibV (gB s (k + 2)) = some x) (hy : nibV (gB s (k + 3)) = some y) : rplain s.data.toList = (acc ++ [UInt8.ofNat (16 * x + y)]) ++ rplain (s.data.toList.drop (k + 4)) := by
  rw [pp_hex h hk hc h2, hx, hy]
  simp
theorem pp_hexX (hk : k + 3 < s.size) (hc : gB s k = 92) (h2 : gB s (k + 1) = 120) (hx : nibV (gB s (k + 2)) = none) : rplain s.data.toList = acc ++ rplain (s.data.toList.drop (k + 4)) := by
  rw [pp_hex h hk hc h2, hx]
  rfl
theorem pp_hexY (hk : k + 3 < s.size) (hc : gB s k = 92) (h2 : gB s (k + 1) = 120) (hy : nibV (gB s (k + 3)) = none) : rplain s.data.toList = acc ++ rplain (s.data.toList.drop (k + 4)) := by
  rw [pp_hex h hk hc h2, hy]
  cases nibV (gB s (k + 2)) <;> rfl
theorem pp_done (hk : k = s.size) : rplain s.data.toList = acc := by
  rw [h, List.drop_of_length_le (by rw [← size_list]; omega)]
  simp [rplain]
end

set_option maxRecDepth 100000 in
set_option maxHeartbeats 16000000 in
theorem plainW (s : ByteArray) (hs : s.size ≤ 140737488355328) (w : World) : Calls Tryd.prog 31 #[.string s] w fun e w' =>
    e = .returned (.string ⟨(rplain s.data.toList).toArray⟩) ∧ Below w.heap.size w w' := by
  obtain ⟨i0, hi, hz0, hz1, hz2⟩ := info_parts infoB8
  go_enter Tryd.func31, Tryd.ntmps31
  go_wp2_with fail
  go_loopw [3, 4] (fun bv i wr => ∃ (v : Value) (k : Nat) (acc : List UInt8), bv = v ∧ i = .int .i64 k ∧ k ≤ s.size ∧ Hid (Pl s w wr v k acc)) (fun _ i _ => s.size - (intOf i).toNat)
  case atStart => exact ⟨_, 0, [], rfl, rfl, Nat.zero_le _, ⟨World.ownsRow_nil _ _ _ _, by simp, Nat.le_refl _, Below.refl _ _⟩⟩
  case round =>
    obtain ⟨v, k, acc, hvv, rfl, hk, hU⟩ := hrel
    obtain ⟨n, hn⟩ : ∃ n, n = acc.length := ⟨_, rfl⟩
    obtain ⟨A, c, hvf⟩ : ∃ A c, v = .slice A n c := by
      rcases hU.out.own.2 with ⟨rfl, h⟩ | ⟨g, cap, cur, rfl, _⟩
      · exact ⟨none, 0, by rw [hn, h]⟩
      · exact ⟨_, cap, by rw [hn]⟩
    subst hvf
    subst hvv
    have HO2 := Lib.hid (show wr.ownsRow w.heap.size 5 1 (.slice A n c) n (Lib.byteCells acc) from by have := hU.out.own; unfold OwnB at this; rwa [← hn] at this)
    have HL := Lib.hid hn.symm
    have LE := Lib.hid hU.out.le
    have HBW := Lib.hid hU.out.below
    have SPEC := hU.out.spec
    have hkk : (0 : Int) ≤ (k : Int) := by omega
    have hnk : n ≤ 140737488355328 := by have := LE.out; omega
    clear hn
    by_cases hk1 : k < s.size
    · have HK := Lib.hid hk1
      have k1 : (k : Int) < (s.size : Int) := by omega
      have hq : ∀ W, (Instr.index 9 (.string s) (.int .i64 (k : Int))).run Tryd.prog W = .ok (.int .u8 ((gB s k).toNat : Int)) W := fun W => by rw [gB_at hk1]; simp [go_sem, k1]
      have SPL := Lib.hid (fun (h : gB s k ≠ 92) => pp_plain SPEC hk1 h)
      have SPE := Lib.hid (fun (h : k + 1 = s.size) (h2 : gB s k = 92) => pp_end SPEC h h2)
      have SE := Lib.hid (fun (h : k + 1 < s.size) (h2 : gB s k = 92) => And.intro (fun (h3 : gB s (k + 1) = 110) => pp_n SPEC h h2 h3) (And.intro (fun (h3 : gB s (k + 1) = 116) => pp_t SPEC h h2 h3) (And.intro (fun (h3 : gB s (k + 1) = 114) => pp_r SPEC h h2 h3)
        (And.intro (fun (h3 : gB s (k + 1) ≠ 110) (h4 : gB s (k + 1) ≠ 116) (h5 : gB s (k + 1) ≠ 114) (h6 : gB s (k + 1) ≠ 120) => pp_other SPEC h h2 h3 h4 h5 h6) (And.intro (fun (h3 : gB s (k + 1) = 120) (h4 : s.size ≤ k + 3) => pp_short SPEC h h2 h3 h4)
          (fun (h3 : gB s (k + 1) = 120) (h4 : k + 3 < s.size) => And.intro (fun (x y : Nat) (hx : nibV (gB s (k + 2)) = some x) (hy : nibV (gB s (k + 3)) = some y) => pp_hexS SPEC h4 h2 h3 hx hy) (And.intro (fun (hx : nibV (gB s (k + 2)) = none) => pp_hexX SPEC h4 h2 h3 hx) (fun (hy : nibV (gB s (k + 3)) = none) => pp_hexY SPEC h4 h2 h3 hy))))))))
      clear SPEC
      obtain ⟨b, hbe⟩ : ∃ b, b = gB s k := ⟨_, rfl⟩
      rw [← hbe] at hq SPL SPE SE
      by_cases hb92 : b = 92
      · subst hb92
        have hq : ∀ W, (Instr.index 9 (.string s) (.int .i64 (k : Int))).run Tryd.prog W = .ok (.int .u8 92) W := hq
        by_cases hke : k + 1 < s.size
        · have k2 : ¬ (s.size : Int) ≤ (k : Int) + 1 := by omega
          have SE := Lib.hid (SE.out hke rfl)
          have hq2 : ∀ W, (Instr.index 9 (.string s) (.int .i64 ((k : Int) + 1))).run Tryd.prog W = .ok (.int .u8 ((gB s (k + 1)).toNat : Int)) W := fun W => by have z0 : (0 : Int) ≤ (k : Int) + 1 := (by omega); have z1 : (k : Int) + 1 < (s.size : Int) := (by omega); rw [gB_at hke]; simp [go_sem, z1, z0]
          obtain ⟨d, hde⟩ : ∃ d, d = gB s (k + 1) := ⟨_, rfl⟩
          rw [← hde] at hq2 SE
          have HK1 := Lib.hid hke
          clear hk1 hke hbe SPL SPE hk hU
          by_cases d110 : d = 110
          · subst d110
            have hq2 : ∀ W, (Instr.index 9 (.string s) (.int .i64 ((k : Int) + 1))).run Tryd.prog W = .ok (.int .u8 110) W := hq2
            have SP := Lib.hid (SE.out.1 rfl)
            have BA := Lib.hid ((Below.refl wr.heap.size wr).alloc (Nat.le_refl _) (.cells #[.int .u8 10] 5))
            clear hde SE
            go_wp2_with (at_builtin; refine wpList_append1k _ rfl (.tmp 43) (.tmp 44) 44 rfl w.heap.size 5 i0 _ 1 1 Tryd.underlying44 hi hz0 hz1 hz2 rfl (by decide) (.slice A n c) n (Lib.byteCells acc) rfl (ownsRow_turns HO2.out (Turns.of_below (S := []) BA.out) (fun _ _ => by simp)) ⟨wr.heap.size, 0, none⟩ 1 [.int .u8 10] rfl rfl (World.news_of_block (heap_alloc_new wr _)) (by simp [Value.oneCell']) (by omega) (by decide) (by have := HBW.out.size; simp; omega) _ rfl ?_; intro g cap w2 hown hgrow hat hlt; have HN := Lib.hid (uq_push (b := (10 : UInt8)) HL.out HO2.out HBW.out BA.out hown hgrow))
            exact ⟨⟨_, k + 2, _, rfl, by go_num, by have := HK.out; omega, ⟨HN.out.1, SP.out, by have := LE.out; rw [List.length_append]; simp; omega, HN.out.2⟩⟩, by simp [intOf]; have := HK.out; omega⟩
          have m110 := ne_int d110
          have m110 : ((d.toNat : Int) == 110) = false := m110
          by_cases d116 : d = 116
          · subst d116
            have hq2 : ∀ W, (Instr.index 9 (.string s) (.int .i64 ((k : Int) + 1))).run Tryd.prog W = .ok (.int .u8 116) W := hq2
            have SP := Lib.hid (SE.out.2.1 rfl)
            have BA := Lib.hid ((Below.refl wr.heap.size wr).alloc (Nat.le_refl _) (.cells #[.int .u8 9] 5))
            clear hde SE
            go_wp2_with (at_builtin; refine wpList_append1k _ rfl (.tmp 48) (.tmp 49) 44 rfl w.heap.size 5 i0 _ 1 1 Tryd.underlying44 hi hz0 hz1 hz2 rfl (by decide) (.slice A n c) n (Lib.byteCells acc) rfl (ownsRow_turns HO2.out (Turns.of_below (S := []) BA.out) (fun _ _ => by simp)) ⟨wr.heap.size, 0, none⟩ 1 [.int .u8 9] rfl rfl (World.news_of_block (heap_alloc_new wr _)) (by simp [Value.oneCell']) (by omega) (by decide) (by have := HBW.out.size; simp; omega) _ rfl ?_; intro g cap w2 hown hgrow hat hlt; have HN := Lib.hid (uq_push (b := (9 : UInt8)) HL.out HO2.out HBW.out BA.out hown hgrow))
            exact ⟨⟨_, k + 2, _, rfl, by go_num, by have := HK.out; omega, ⟨HN.out.1, SP.out, by have := LE.out; rw [List.length_append]; simp; omega, HN.out.2⟩⟩, by simp [intOf]; have := HK.out; omega⟩
          have m116 := ne_int d116
          have m116 : ((d.toNat : Int) == 116) = false := m116
          by_cases d114 : d = 114
          · subst d114
            have hq2 : ∀ W, (Instr.index 9 (.string s) (.int .i64 ((k : Int) + 1))).run Tryd.prog W = .ok (.int .u8 114) W := hq2
            have SP := Lib.hid (SE.out.2.2.1 rfl)
            have BA := Lib.hid ((Below.refl wr.heap.size wr).alloc (Nat.le_refl _) (.cells #[.int .u8 13] 5))
            clear hde SE
            go_wp2_with (at_builtin; refine wpList_append1k _ rfl (.tmp 53) (.tmp 54) 44 rfl w.heap.size 5 i0 _ 1 1 Tryd.underlying44 hi hz0 hz1 hz2 rfl (by decide) (.slice A n c) n (Lib.byteCells acc) rfl (ownsRow_turns HO2.out (Turns.of_below (S := []) BA.out) (fun _ _ => by simp)) ⟨wr.heap.size, 0, none⟩ 1 [.int .u8 13] rfl rfl (World.news_of_block (heap_alloc_new wr _)) (by simp [Value.oneCell']) (by omega) (by decide) (by have := HBW.out.size; simp; omega) _ rfl ?_; intro g cap w2 hown hgrow hat hlt; have HN := Lib.hid (uq_push (b := (13 : UInt8)) HL.out HO2.out HBW.out BA.out hown hgrow))
            exact ⟨⟨_, k + 2, _, rfl, by go_num, by have := HK.out; omega, ⟨HN.out.1, SP.out, by have := LE.out; rw [List.length_append]; simp; omega, HN.out.2⟩⟩, by simp [intOf]; have := HK.out; omega⟩
          have m114 := ne_int d114
          have m114 : ((d.toNat : Int) == 114) = false := m114
          by_cases d120 : d = 120
          · subst d120
            have hq2 : ∀ W, (Instr.index 9 (.string s) (.int .i64 ((k : Int) + 1))).run Tryd.prog W = .ok (.int .u8 120) W := hq2
            clear m110 m116 m114 d110 d116 d114 hde
            by_cases h3 : k + 3 < s.size
            · have k3 : (k : Int) + 1 + 2 < (s.size : Int) := by omega
              have hqx : ∀ W, (Instr.index 9 (.string s) (.int .i64 ((k : Int) + 1 + 1))).run Tryd.prog W = .ok (.int .u8 ((gB s (k + 2)).toNat : Int)) W := fun W => by have z0 : (0 : Int) ≤ (k : Int) + 1 + 1 := (by omega); have z1 : (k : Int) + 1 + 1 < (s.size : Int) := (by omega); have z2 : ((k : Int) + 1 + 1).toNat = k + 2 := (by omega); rw [gB_at (show k + 2 < s.size by omega)]; simp [go_sem, z1, z0, z2]
              have hqy : ∀ W, (Instr.index 9 (.string s) (.int .i64 ((k : Int) + 1 + 2))).run Tryd.prog W = .ok (.int .u8 ((gB s (k + 3)).toNat : Int)) W := fun W => by have z0 : (0 : Int) ≤ (k : Int) + 1 + 2 := (by omega); have z2 : ((k : Int) + 1 + 2).toNat = k + 3 := (by omega); rw [gB_at (show k + 3 < s.size by omega)]; simp [go_sem, k3, z0, z2]
              have SE := Lib.hid (SE.out.2.2.2.2.2 rfl h3)
              have HK3 := Lib.hid h3
              obtain ⟨x, hxe⟩ : ∃ x, x = gB s (k + 2) := ⟨_, rfl⟩
              obtain ⟨y, hye⟩ : ∃ y, y = gB s (k + 3) := ⟨_, rfl⟩
              rw [← hxe] at hqx
              rw [← hye] at hqy
              rw [← hxe, ← hye] at SE
              have NX := Lib.hid (nibbleW x wr)
              have NY := Lib.hid (nibbleW y wr)
              have LX := Lib.hid (fun (v : Nat) (h : nibV x = some v) => nibV_lt h)
              have LY := Lib.hid (fun (v : Nat) (h : nibV y = some v) => nibV_lt h)
              unfold nibI at NX NY
              clear hxe hye h3
              rcases hx : nibV x with _ | a
              · have SP := Lib.hid (SE.out.2.1 hx)
                rw [hx] at NX
                have NX : Hid (Calls Tryd.prog 43 #[.int .u8 (x.toNat : Int)] wr fun e w' => e = .returned (.int .i64 (-1)) ∧ wr = w') := NX
                obtain ⟨yy, hyy⟩ : ∃ yy : Int, yy = (match nibV y with | some v => (v : Int) | none => -1) := ⟨_, rfl⟩
                rw [← hyy] at NY
                clear SE hx hyy LX LY
                go_wp2_with fail
                refine NX.out.mono ?_
                rintro e w1 ⟨rfl, rfl⟩
                go_wp2_with fail
                refine NY.out.mono ?_
                rintro e w1 ⟨rfl, rfl⟩
                go_wp2_with fail
                exact ⟨⟨_, k + 4, acc, rfl, by go_num, by have := HK3.out; omega, ⟨by unfold OwnB; rw [HL.out]; exact HO2.out, SP.out, by have := LE.out; omega, HBW.out⟩⟩, by simp [intOf]; have := HK3.out; omega⟩
              rw [hx] at NX
              have NX : Hid (Calls Tryd.prog 43 #[.int .u8 (x.toNat : Int)] wr fun e w' => e = .returned (.int .i64 (a : Int)) ∧ wr = w') := NX
              have la := LX.out _ hx
              have pa : (0 : Int) ≤ (a : Int) := by omega
              rcases hy : nibV y with _ | b
              · have SP := Lib.hid (SE.out.2.2 hy)
                rw [hy] at NY
                have NY : Hid (Calls Tryd.prog 43 #[.int .u8 (y.toNat : Int)] wr fun e w' => e = .returned (.int .i64 (-1)) ∧ wr = w') := NY
                clear SE hx hy LX LY
                go_wp2_with fail
                refine NX.out.mono ?_
                rintro e w1 ⟨rfl, rfl⟩
                go_wp2_with fail
                refine NY.out.mono ?_
                rintro e w1 ⟨rfl, rfl⟩
                go_wp2_with fail
                exact ⟨⟨_, k + 4, acc, rfl, by go_num, by have := HK3.out; omega, ⟨by unfold OwnB; rw [HL.out]; exact HO2.out, SP.out, by have := LE.out; omega, HBW.out⟩⟩, by simp [intOf]; have := HK3.out; omega⟩
              rw [hy] at NY
              have NY : Hid (Calls Tryd.prog 43 #[.int .u8 (y.toNat : Int)] wr fun e w' => e = .returned (.int .i64 (b : Int)) ∧ wr = w') := NY
              have lb := LY.out _ hy
              have pb : (0 : Int) ≤ (b : Int) := by omega
              have SP := Lib.hid (SE.out.1 a b hx hy)
              obtain ⟨m, hm⟩ : ∃ m : Nat, m = 16 * a + b := ⟨_, rfl⟩
              have hm2 : (16 : Int) * (a : Int) + (b : Int) = (m : Int) := by omega
              have hu : IntKind.u8.wrap (m : Int) = (m : Int) := IntWalk.u8_in _ (by omega)
              have hbm : (((UInt8.ofNat m).toNat : Nat) : Int) = (m : Int) := by simp; omega
              have HBM := Lib.hid hbm
              rw [← hm] at SP
              have BA := Lib.hid ((Below.refl wr.heap.size wr).alloc (Nat.le_refl _) (.cells #[.int .u8 (m : Int)] 5))
              clear SE hx hy LX LY hm hbm
              go_wp2_with fail
              refine NX.out.mono ?_
              rintro e w1 ⟨rfl, rfl⟩
              go_wp2_with fail
              refine NY.out.mono ?_
              rintro e w1 ⟨rfl, rfl⟩
              go_wp2_with (at_builtin; refine wpList_append1k _ rfl (.tmp 79) (.tmp 85) 44 rfl w.heap.size 5 i0 _ 1 1 Tryd.underlying44 hi hz0 hz1 hz2 rfl (by decide) (.slice A n c) n (Lib.byteCells acc) rfl (ownsRow_turns HO2.out (Turns.of_below (S := []) BA.out) (fun _ _ => by simp)) ⟨wr.heap.size, 0, none⟩ 1 [.int .u8 (m : Int)] rfl rfl (World.news_of_block (heap_alloc_new wr _)) (by simp [Value.oneCell']) (by omega) (by decide) (by have := HBW.out.size; simp; omega) _ rfl ?_; intro g cap w2 hown hgrow hat hlt; have HN := Lib.hid (uq_push (b := UInt8.ofNat m) HL.out HO2.out HBW.out BA.out (by rw [HBM.out]; exact hown) hgrow))
              exact ⟨⟨_, k + 4, _, rfl, by go_num, by have := HK3.out; omega, ⟨HN.out.1, SP.out, by have := LE.out; rw [List.length_append]; simp; omega, HN.out.2⟩⟩, by simp [intOf]; have := HK3.out; omega⟩
            · have k3 : ¬ (k : Int) + 1 + 2 < (s.size : Int) := by omega
              have SP := Lib.hid (SE.out.2.2.2.2.1 rfl (by omega))
              clear h3 SE
              go_wp2_with fail
              exact ⟨⟨_, k + 2, acc, rfl, by go_num, by have := HK1.out; omega, ⟨by unfold OwnB; rw [HL.out]; exact HO2.out, SP.out, by have := LE.out; omega, HBW.out⟩⟩, by simp [intOf]; have := HK1.out; omega⟩
          have m120 := ne_int d120
          have m120 : ((d.toNat : Int) == 120) = false := m120
          have SP := Lib.hid (SE.out.2.2.2.1 d110 d116 d114 d120)
          have BA := Lib.hid ((Below.refl wr.heap.size wr).alloc (Nat.le_refl _) (.cells #[.int .u8 (d.toNat : Int)] 5))
          clear d110 d116 d114 d120 hde SE
          go_wp2_with (at_builtin; refine wpList_append1k _ rfl (.tmp 35) (.tmp 39) 44 rfl w.heap.size 5 i0 _ 1 1 Tryd.underlying44 hi hz0 hz1 hz2 rfl (by decide) (.slice A n c) n (Lib.byteCells acc) rfl (ownsRow_turns HO2.out (Turns.of_below (S := []) BA.out) (fun _ _ => by simp)) ⟨wr.heap.size, 0, none⟩ 1 [.int .u8 (d.toNat : Int)] rfl rfl (World.news_of_block (heap_alloc_new wr _)) (by simp [Value.oneCell']) (by omega) (by decide) (by have := HBW.out.size; simp; omega) _ rfl ?_; intro g cap w2 hown hgrow hat hlt; have HN := Lib.hid (uq_push (b := d) HL.out HO2.out HBW.out BA.out hown hgrow))
          exact ⟨⟨_, k + 2, _, rfl, by go_num, by have := HK.out; omega, ⟨HN.out.1, SP.out, by have := LE.out; rw [List.length_append]; simp; omega, HN.out.2⟩⟩, by simp [intOf]; have := HK.out; omega⟩
        · have SP := Lib.hid (SPE.out (by omega) rfl)
          have k2 : (s.size : Int) ≤ (k : Int) + 1 := by omega
          have BA := Lib.hid ((Below.refl wr.heap.size wr).alloc (Nat.le_refl _) (.cells #[.int .u8 92] 5))
          clear hk1 hke hbe SPL SPE SE hk hU
          go_wp2_with (at_builtin; refine wpList_append1k _ rfl (.tmp 26) (.tmp 28) 44 rfl w.heap.size 5 i0 _ 1 1 Tryd.underlying44 hi hz0 hz1 hz2 rfl (by decide) (.slice A n c) n (Lib.byteCells acc) rfl (ownsRow_turns HO2.out (Turns.of_below (S := []) BA.out) (fun _ _ => by simp)) ⟨wr.heap.size, 0, none⟩ 1 [.int .u8 92] rfl rfl (World.news_of_block (heap_alloc_new wr _)) (by simp [Value.oneCell']) (by omega) (by decide) (by have := HBW.out.size; simp; omega) _ rfl ?_; intro g cap w2 hown hgrow hat hlt; have HN := Lib.hid (uq_push (b := (92 : UInt8)) HL.out HO2.out HBW.out BA.out hown hgrow))
          exact ⟨⟨_, k + 1, _, rfl, by go_num, by have := HK.out; omega, ⟨HN.out.1, SP.out, by have := LE.out; rw [List.length_append]; simp; omega, HN.out.2⟩⟩, by simp [intOf]; have := HK.out; omega⟩
      · have m92 : ((b.toNat : Int) != 92) = true := by have := ne_int hb92; have : ((b.toNat : Int) == 92) = false := this; simp only [bne, this, Bool.not_false]
        have SP := Lib.hid (SPL.out hb92)
        have BA := Lib.hid ((Below.refl wr.heap.size wr).alloc (Nat.le_refl _) (.cells #[.int .u8 (b.toNat : Int)] 5))
        clear hk1 hbe SPL SPE SE hk hU hb92
        go_wp2_with (at_builtin; refine wpList_append1k _ rfl (.tmp 26) (.tmp 28) 44 rfl w.heap.size 5 i0 _ 1 1 Tryd.underlying44 hi hz0 hz1 hz2 rfl (by decide) (.slice A n c) n (Lib.byteCells acc) rfl (ownsRow_turns HO2.out (Turns.of_below (S := []) BA.out) (fun _ _ => by simp)) ⟨wr.heap.size, 0, none⟩ 1 [.int .u8 (b.toNat : Int)] rfl rfl (World.news_of_block (heap_alloc_new wr _)) (by simp [Value.oneCell']) (by omega) (by decide) (by have := HBW.out.size; simp; omega) _ rfl ?_; intro g cap w2 hown hgrow hat hlt; have HN := Lib.hid (uq_push (b := b) HL.out HO2.out HBW.out BA.out hown hgrow))
        exact ⟨⟨_, k + 1, _, rfl, by go_num, by have := HK.out; omega, ⟨HN.out.1, SP.out, by have := LE.out; rw [List.length_append]; simp; omega, HN.out.2⟩⟩, by simp [intOf]; have := HK.out; omega⟩
    · have HD := Lib.hid (pp_done SPEC (show k = s.size by omega))
      obtain rfl : k = s.size := by omega
      have hcv : (convert 44 9 (.slice A n c)).run Tryd.prog wr = .ok (.string ⟨acc.toArray⟩) wr := by
        have h0 := HL.out
        rcases HO2.out.2 with ⟨h, h1⟩ | ⟨g, cap, cur, h, _⟩
        · simp only [Value.slice.injEq] at h
          obtain ⟨rfl, rfl, rfl⟩ := h
          obtain rfl : acc = [] := List.eq_nil_of_length_eq_zero h0
          exact Lib.run_convert_nil_bytes wr _ _ _ _ Tryd.underlying44 Tryd.underlying5 Tryd.underlying9
        · simp only [Value.slice.injEq] at h
          obtain ⟨rfl, _, _⟩ := h
          have := run_convert_bytes_back (P := Tryd.prog) wr 44 9 5 ⟨g, 0, none⟩ c acc Tryd.underlying44 Tryd.underlying5 Tryd.underlying9 (fun j hj => by
            rw [add_none, Nat.zero_add, HO2.out.cellAt j (by omega), List.getElem?_eq_getElem (by rw [Lib.byteCells_length]; exact hj)]
            simp [Lib.byteCells])
          rwa [h0] at this
      clear hk1 hk hU SPEC
      go_wp2_with fail
      go_ret
      exact ⟨by rw [HD.out]; rfl, HBW.out⟩
end Go.Proofs.YtblonickpmogiaaDoor
