/- The walk of sym.unquoted. -/
import Derived.Test.YtblonickpmogiaaDoorUint
import Derived.Test.YtblonickpmogiaaDoorLawWord
import Derived.Lib.BufferRead
namespace Go.Proofs.YtblonickpmogiaaDoor
open Go.RowKit

theorem hex2_pre {s : ByteArray} {h k : UInt8} (e0 : s.data.toList.getD 0 0 = h) (e1 : s.data.toList.getD 1 0 = k) : hex2 h k = (pre2 s 2).map UInt8.ofNat := by
  subst e0; subst e1
  unfold hex2 pre2 pre2 pre2
  cases hexV (s.data.toList.getD 0 0) with
  | none => rfl
  | some x =>
    simp only [Option.bind_some, Option.map_some]
    cases hexV (s.data.toList.getD 1 0) with
    | none => rfl
    | some y => rw [Option.map_some, Option.map_some, show (0 * 16 + x) * 16 + y = 16 * x + y by omega]; rfl

/-- The library's two errors stand. -/
def Ev (w : World) : Prop := (∃ te pe, w.cell? ⟨1, 0, none⟩ = some (.iface te pe)) ∧ (∃ te pe, w.cell? ⟨2, 0, none⟩ = some (.iface te pe))
theorem cell_lt {w : World} {b o : Nat} {v : Value} (h : w.cell? ⟨b, o, none⟩ = some v) : b < w.heap.size := by
  rcases Nat.lt_or_ge b w.heap.size with h1 | h1
  · exact h1
  · simp [World.cell?, Array.getElem?_eq_none h1] at h
theorem Ev.below {w w' : World} {B : Nat} (h : Ev w) (hB : w.heap.size ≤ B) (hb : Below B w w') : Ev w' := by
  obtain ⟨⟨a, b, h1⟩, c, d, h2⟩ := h
  exact ⟨⟨a, b, (hb.cell (p := ⟨1, 0, none⟩) (Nat.lt_of_lt_of_le (cell_lt h1) hB)).trans h1⟩, c, d, (hb.cell (p := ⟨2, 0, none⟩) (Nat.lt_of_lt_of_le (cell_lt h2) hB)).trans h2⟩

set_option maxRecDepth 100000 in
theorem uintW (s : ByteArray) (hs : s.size = 2) (w : World) (hv : Ev w) : Calls Tryd.prog 49 #[.string s, .int .i64 16, .int .i64 8] w fun e w' =>
    ((∃ n, pre2 s 2 = some n ∧ n ≤ 255 ∧ e = .returned (.tuple #[.int .u64 (n : Int), .nilIface])) ∨ (pre2 s 2 = none ∧ ∃ N, e = .returned (.tuple #[.int .u64 0, .iface 83 (.pointer (some ⟨N, 0, none⟩))]))) ∧ Below w.heap.size w w' := by
  have IW := Lib.hid (iuintW s hs w)
  have TE := Lib.hid (fun (W : World) (hb : Below w.heap.size w W) => (show Calls Tryd.prog 51 #[.string ⟨#[80, 97, 114, 115, 101, 85, 105, 110, 116]⟩, .string s, .int .i64 16, .int .i64 8, .iface 82 (.int .i64 2)] W fun e w' => ∃ N, e = .returned (.iface 83 (.pointer (some ⟨N, 0, none⟩))) ∧ Below W.heap.size W w' by
    obtain ⟨⟨te, pe, h1⟩, _⟩ := hv.below (Nat.le_refl _) hb
    refine (Tryd.strconv_toError_syntax _ s 16 8 _ W (by omega) h1 (.inr ⟨_, _, rfl⟩)).mono ?_
    rintro e w' ⟨N, rfl, _, _, hb⟩
    exact ⟨N, rfl, hb⟩))
  clear hv hs
  go_enter Tryd.func49, Tryd.ntmps49
  go_wp2_with fail
  refine IW.out.mono ?_
  rintro e w1 ⟨⟨n, h1, h2, rfl⟩ | ⟨h1, rfl⟩, hb⟩
  · have HB := Lib.hid hb
    have H1 := Lib.hid (And.intro h1 h2)
    clear h1 h2 hb
    go_wp2_with fail
    go_ret2
    exact ⟨.inl ⟨n, H1.out.1, H1.out.2, rfl⟩, HB.out⟩
  · have HB := Lib.hid hb
    have H1 := Lib.hid h1
    clear h1 hb
    go_wp2_with fail
    refine (TE.out _ HB.out).mono ?_
    rintro e w2 ⟨N, rfl, hb2⟩
    have HB2 := Lib.hid (below_step HB.out hb2)
    clear hb2
    go_wp2_with fail
    go_ret2
    exact ⟨.inr ⟨H1.out, N, rfl⟩, HB2.out⟩

/-- Byte k. -/
def gB (s : ByteArray) (k : Nat) : UInt8 := s.data.toList.getD k 0
theorem gB_at {s : ByteArray} {k : Nat} (h : k < s.size) : gB s k = s[k] := str_at h
theorem drop_at {s : ByteArray} {k : Nat} (h : k < s.size) : s.data.toList.drop k = gB s k :: s.data.toList.drop (k + 1) := by
  unfold gB
  rw [List.getD_eq_getElem?_getD, List.getElem?_eq_getElem (by rw [← size_list]; exact h)]
  exact List.drop_eq_getElem_cons (by rw [← size_list]; exact h)

/-- Between two rounds. -/
structure Uq (s : ByteArray) (w wr : World) (v : Value) (k : Nat) (acc : List UInt8) : Prop where
  own : OwnB wr w.heap.size v acc
  spec : unq s.data.toList = (unq (s.data.toList.drop k)).map (acc ++ ·)
  le : acc.length ≤ k
  below : Below w.heap.size w wr

section
variable {s : ByteArray} {k : Nat} {acc : List UInt8} (h : unq s.data.toList = (unq (s.data.toList.drop k)).map (acc ++ ·))
include h
theorem sp_plain (hk : k < s.size) (hc : gB s k ≠ 92) : unq s.data.toList = (unq (s.data.toList.drop (k + 1))).map ((acc ++ [gB s k]) ++ ·) := by
  rw [h, drop_at hk, unq_plain hc, Option.map_map]
  congr 1
  funext r
  simp
theorem sp_end (hk : k + 1 = s.size) (hc : gB s k = 92) : unq s.data.toList = none := by
  rw [h, drop_at (by omega), hc, List.drop_of_length_le (by rw [← size_list]; omega), unq_end]
  rfl
theorem sp_esc (hk : k + 1 < s.size) (hc : gB s k = 92) {v : UInt8} (hv : escV (gB s (k + 1)) = some v) : unq s.data.toList = (unq (s.data.toList.drop (k + 2))).map ((acc ++ [v]) ++ ·) := by
  rw [h, drop_at (by omega), hc, drop_at hk, unq_esc hv, Option.map_map]
  congr 1
  funext r
  simp
theorem sp_bad (hk : k + 1 < s.size) (hc : gB s k = 92) (hv : escV (gB s (k + 1)) = none) (h2 : gB s (k + 1) ≠ 120) : unq s.data.toList = none := by
  rw [h, drop_at (by omega), hc, drop_at hk, unq_bad hv h2]
  rfl
theorem sp_short (hk : k + 1 < s.size) (hc : gB s k = 92) (h2 : gB s (k + 1) = 120) (hk3 : s.size ≤ k + 3) : unq s.data.toList = none := by
  rw [h, drop_at (by omega), hc, drop_at hk, h2, unq_short (by rw [List.length_drop, ← size_list]; omega)]
  rfl
theorem sp_hex (hk : k + 3 < s.size) (hc : gB s k = 92) (h2 : gB s (k + 1) = 120) : unq s.data.toList = ((hex2 (gB s (k + 2)) (gB s (k + 3))).bind fun v => (unq (s.data.toList.drop (k + 4))).map (v :: ·)).map (acc ++ ·) := by
  rw [h, drop_at (by omega), hc, drop_at (by omega), h2, drop_at (by omega), drop_at hk, unq_hex]
theorem sp_hexS (hk : k + 3 < s.size) (hc : gB s k = 92) (h2 : gB s (k + 1) = 120) {v : UInt8} (hv : hex2 (gB s (k + 2)) (gB s (k + 3)) = some v) : unq s.data.toList = (unq (s.data.toList.drop (k + 4))).map ((acc ++ [v]) ++ ·) := by
  rw [sp_hex h hk hc h2, hv, Option.bind_some, Option.map_map]
  congr 1
  funext r
  simp
theorem sp_hexN (hk : k + 3 < s.size) (hc : gB s k = 92) (h2 : gB s (k + 1) = 120) (hv : hex2 (gB s (k + 2)) (gB s (k + 3)) = none) : unq s.data.toList = none := by
  rw [sp_hex h hk hc h2, hv]
  rfl
theorem sp_done (hk : k = s.size) : unq s.data.toList = some acc := by
  rw [h, List.drop_of_length_le (by rw [← size_list]; omega), unq_nil]
  simp
end

theorem uq_push {w W w2 : World} {A : Option Addr} {n c g cap : Nat} {acc : List UInt8} {b : UInt8} {o : Obj} (hl : acc.length = n) (ho : W.ownsRow w.heap.size 5 1 (.slice A n c) n (Lib.byteCells acc)) (hb : Below w.heap.size w W) (ha : Below W.heap.size W (W.alloc o))
    (hown : w2.ownsRow w.heap.size 5 1 (.slice (some ⟨g, 0, none⟩) (n + 1) cap) (n + 1) (Lib.byteCells acc ++ [.int .u8 (b.toNat : Int)])) (hg : (W.alloc o).grownBy w2 (Value.slice A n c).ownBlock) :
    OwnB w2 w.heap.size (.slice (some ⟨g, 0, none⟩) (n + 1) cap) (acc ++ [b]) ∧ Below w.heap.size w w2 := by
  refine ⟨?_, (hb.trans (ha.mono hb.size)).trans ((Turns.of_grown hg).below (by have := hb.size; simp; omega) (fun x hx => (ownBlock_cells ho (by simpa using hx)).1))⟩
  unfold OwnB
  rw [List.length_append, hl]
  simpa [Lib.byteCells] using hown

theorem infoB8 : (Tryd.prog.info? 5).map (fun i => (i.zero, i.size, i.bytes)) = some (some (.int .u8 0), 1, 1) := by kernel_rfl
theorem escV_none {d : UInt8} (h1 : d ≠ 34) (h2 : d ≠ 92) (h3 : d ≠ 110) (h4 : d ≠ 116) (h5 : d ≠ 114) : escV d = none := by
  unfold escV
  rw [if_neg (by simp [h1, h2]), if_neg h3, if_neg h4, if_neg h5]
theorem ne_int {d e : UInt8} (h : d ≠ e) : ((d.toNat : Int) == (e.toNat : Int)) = false := by
  rw [Bool.eq_false_iff]
  intro q
  have q : (d.toNat : Int) = (e.toNat : Int) := by simpa using q
  exact h (UInt8.toNat_inj.1 (by exact_mod_cast q))

set_option maxRecDepth 100000 in
set_option maxHeartbeats 16000000 in
theorem unquotedW (s : ByteArray) (hs : s.size ≤ 140737488355328) (w : World) (hv : Ev w) : Calls Tryd.prog 41 #[.string s] w fun e w' =>
    ((∃ t, unq s.data.toList = some t ∧ e = .returned (.tuple #[.string ⟨t.toArray⟩, .bool true])) ∨ (unq s.data.toList = none ∧ e = .returned (.tuple #[.string ⟨#[]⟩, .bool false]))) ∧ Below w.heap.size w w' := by
  obtain ⟨i0, hi, hz0, hz1, hz2⟩ := info_parts infoB8
  have HV := Lib.hid hv
  clear hv
  go_enter Tryd.func41, Tryd.ntmps41
  go_wp2_with fail
  go_loopw [4, 5] (fun bv i wr => ∃ (v : Value) (k : Nat) (acc : List UInt8), bv = v ∧ i = .int .i64 k ∧ k ≤ s.size ∧ Hid (Uq s w wr v k acc)) (fun _ i _ => s.size - (intOf i).toNat)
  case atStart => exact ⟨_, 0, [], rfl, rfl, Nat.zero_le _, ⟨World.ownsRow_nil _ _ _ _, by simp, Nat.le_refl _, Below.refl _ _⟩⟩
  case round =>
    obtain ⟨v, k, acc, hvv, rfl, hk, hU⟩ := hrel
    obtain ⟨n, hn⟩ : ∃ n, n = acc.length := ⟨_, rfl⟩
    obtain ⟨A, c, hvf⟩ : ∃ A c, v = .slice A n c := by
      rcases hU.out.own.2 with ⟨rfl, h⟩ | ⟨g, cap, cur, rfl, _⟩
      · exact ⟨none, 0, by rw [hn, h]⟩
      · exact ⟨_, cap, by rw [hn]⟩
    subst hvf
    subst hvv
    have HO2 := Lib.hid (show wr.ownsRow w.heap.size 5 1 (.slice A n c) n (Lib.byteCells acc) from by have := hU.out.own; unfold OwnB at this; rwa [← hn] at this)
    have HL := Lib.hid hn.symm
    have LE := Lib.hid hU.out.le
    have HBW := Lib.hid hU.out.below
    have hkk : (0 : Int) ≤ (k : Int) := by omega
    have hnk : n ≤ 140737488355328 := by have := LE.out; omega
    clear hn
    by_cases hk1 : k < s.size
    · have HK := Lib.hid hk1
      have k1 : (k : Int) < (s.size : Int) := by omega
      have hq : ∀ W, (Instr.index 9 (.string s) (.int .i64 (k : Int))).run Tryd.prog W = .ok (.int .u8 ((gB s k).toNat : Int)) W := fun W => by rw [gB_at hk1]; simp [go_sem, k1]
      have SPL := Lib.hid (fun (h : gB s k ≠ 92) => sp_plain hU.out.spec hk1 h)
      have SPE := Lib.hid (fun (h : k + 1 = s.size) (h2 : gB s k = 92) => sp_end hU.out.spec h h2)
      have SE := Lib.hid (fun (h : k + 1 < s.size) (h2 : gB s k = 92) => And.intro (fun (v : UInt8) (hv : escV (gB s (k + 1)) = some v) => sp_esc hU.out.spec h h2 hv) (And.intro (fun (hv : escV (gB s (k + 1)) = none) (h3 : gB s (k + 1) ≠ 120) => sp_bad hU.out.spec h h2 hv h3) (And.intro (fun (h3 : gB s (k + 1) = 120) (h4 : s.size ≤ k + 3) => sp_short hU.out.spec h h2 h3 h4)
        (fun (h3 : gB s (k + 1) = 120) (h4 : k + 3 < s.size) => And.intro (fun (v : UInt8) (hv : hex2 (gB s (k + 2)) (gB s (k + 3)) = some v) => sp_hexS hU.out.spec h4 h2 h3 hv) (fun (hv : hex2 (gB s (k + 2)) (gB s (k + 3)) = none) => sp_hexN hU.out.spec h4 h2 h3 hv)))))
      obtain ⟨b, hbe⟩ : ∃ b, b = gB s k := ⟨_, rfl⟩
      rw [← hbe] at hq SPL SPE SE
      by_cases hb92 : b = 92
      · subst hb92
        have hq : ∀ W, (Instr.index 9 (.string s) (.int .i64 (k : Int))).run Tryd.prog W = .ok (.int .u8 92) W := hq
        by_cases hke : k + 1 < s.size
        · have k2 : (k : Int) + 1 < (s.size : Int) := by omega
          have k2' : ((k : Int) + 1 == (s.size : Int)) = false := by simp; omega
          have SE2 := Lib.hid (SE.out hke rfl)
          have hq2 : ∀ W, (Instr.index 9 (.string s) (.int .i64 ((k : Int) + 1))).run Tryd.prog W = .ok (.int .u8 ((gB s (k + 1)).toNat : Int)) W := fun W => by have z0 : (0 : Int) ≤ (k : Int) + 1 := (by omega); rw [gB_at hke]; simp [go_sem, k2, z0]
          obtain ⟨d, hde⟩ : ∃ d, d = gB s (k + 1) := ⟨_, rfl⟩
          rw [← hde] at hq2 SE2
          have HK1 := Lib.hid hke
          clear hk1 hke hbe SPL SPE SE hk hU
          by_cases d34 : d = 34
          · subst d34
            have hq2 : ∀ W, (Instr.index 9 (.string s) (.int .i64 ((k : Int) + 1))).run Tryd.prog W = .ok (.int .u8 34) W := hq2
            have SP := Lib.hid (SE2.out.1 34 (by decide))
            have BA := Lib.hid ((Below.refl wr.heap.size wr).alloc (Nat.le_refl _) (.cells #[.int .u8 34] 5))
            clear hde
            go_wp2_with (at_builtin; refine wpList_append1k _ rfl (.tmp 36) (.tmp 40) 44 rfl w.heap.size 5 i0 _ 1 1 Tryd.underlying44 hi hz0 hz1 hz2 rfl (by decide) (.slice A n c) n (Lib.byteCells acc) rfl (ownsRow_turns HO2.out (Turns.of_below (S := []) BA.out) (fun _ _ => by simp)) ⟨wr.heap.size, 0, none⟩ 1 [.int .u8 34] rfl rfl (World.news_of_block (heap_alloc_new wr _)) (by simp [Value.oneCell']) (by omega) (by decide) (by have := HBW.out.size; simp; omega) _ rfl ?_; intro g cap w2 hown hgrow hat hlt; have HN := Lib.hid (uq_push (b := (34 : UInt8)) HL.out HO2.out HBW.out BA.out hown hgrow))
            exact ⟨⟨_, k + 2, _, rfl, by go_num, by have := HK.out; omega, ⟨HN.out.1, SP.out, by have := LE.out; rw [List.length_append]; simp; omega, HN.out.2⟩⟩, by simp [intOf]; have := HK.out; omega⟩
          by_cases d92 : d = 92
          · subst d92
            have hq2 : ∀ W, (Instr.index 9 (.string s) (.int .i64 ((k : Int) + 1))).run Tryd.prog W = .ok (.int .u8 92) W := hq2
            have SP := Lib.hid (SE2.out.1 92 (by decide))
            have BA := Lib.hid ((Below.refl wr.heap.size wr).alloc (Nat.le_refl _) (.cells #[.int .u8 92] 5))
            clear hde
            go_wp2_with (at_builtin; refine wpList_append1k _ rfl (.tmp 36) (.tmp 40) 44 rfl w.heap.size 5 i0 _ 1 1 Tryd.underlying44 hi hz0 hz1 hz2 rfl (by decide) (.slice A n c) n (Lib.byteCells acc) rfl (ownsRow_turns HO2.out (Turns.of_below (S := []) BA.out) (fun _ _ => by simp)) ⟨wr.heap.size, 0, none⟩ 1 [.int .u8 92] rfl rfl (World.news_of_block (heap_alloc_new wr _)) (by simp [Value.oneCell']) (by omega) (by decide) (by have := HBW.out.size; simp; omega) _ rfl ?_; intro g cap w2 hown hgrow hat hlt; have HN := Lib.hid (uq_push (b := (92 : UInt8)) HL.out HO2.out HBW.out BA.out hown hgrow))
            exact ⟨⟨_, k + 2, _, rfl, by go_num, by have := HK.out; omega, ⟨HN.out.1, SP.out, by have := LE.out; rw [List.length_append]; simp; omega, HN.out.2⟩⟩, by simp [intOf]; have := HK.out; omega⟩
          by_cases d110 : d = 110
          · subst d110
            have hq2 : ∀ W, (Instr.index 9 (.string s) (.int .i64 ((k : Int) + 1))).run Tryd.prog W = .ok (.int .u8 110) W := hq2
            have SP := Lib.hid (SE2.out.1 10 (by decide))
            have BA := Lib.hid ((Below.refl wr.heap.size wr).alloc (Nat.le_refl _) (.cells #[.int .u8 10] 5))
            clear hde
            go_wp2_with (at_builtin; refine wpList_append1k _ rfl (.tmp 44) (.tmp 45) 44 rfl w.heap.size 5 i0 _ 1 1 Tryd.underlying44 hi hz0 hz1 hz2 rfl (by decide) (.slice A n c) n (Lib.byteCells acc) rfl (ownsRow_turns HO2.out (Turns.of_below (S := []) BA.out) (fun _ _ => by simp)) ⟨wr.heap.size, 0, none⟩ 1 [.int .u8 10] rfl rfl (World.news_of_block (heap_alloc_new wr _)) (by simp [Value.oneCell']) (by omega) (by decide) (by have := HBW.out.size; simp; omega) _ rfl ?_; intro g cap w2 hown hgrow hat hlt; have HN := Lib.hid (uq_push (b := (10 : UInt8)) HL.out HO2.out HBW.out BA.out hown hgrow))
            exact ⟨⟨_, k + 2, _, rfl, by go_num, by have := HK.out; omega, ⟨HN.out.1, SP.out, by have := LE.out; rw [List.length_append]; simp; omega, HN.out.2⟩⟩, by simp [intOf]; have := HK.out; omega⟩
          by_cases d116 : d = 116
          · subst d116
            have hq2 : ∀ W, (Instr.index 9 (.string s) (.int .i64 ((k : Int) + 1))).run Tryd.prog W = .ok (.int .u8 116) W := hq2
            have SP := Lib.hid (SE2.out.1 9 (by decide))
            have BA := Lib.hid ((Below.refl wr.heap.size wr).alloc (Nat.le_refl _) (.cells #[.int .u8 9] 5))
            clear hde
            go_wp2_with (at_builtin; refine wpList_append1k _ rfl (.tmp 49) (.tmp 50) 44 rfl w.heap.size 5 i0 _ 1 1 Tryd.underlying44 hi hz0 hz1 hz2 rfl (by decide) (.slice A n c) n (Lib.byteCells acc) rfl (ownsRow_turns HO2.out (Turns.of_below (S := []) BA.out) (fun _ _ => by simp)) ⟨wr.heap.size, 0, none⟩ 1 [.int .u8 9] rfl rfl (World.news_of_block (heap_alloc_new wr _)) (by simp [Value.oneCell']) (by omega) (by decide) (by have := HBW.out.size; simp; omega) _ rfl ?_; intro g cap w2 hown hgrow hat hlt; have HN := Lib.hid (uq_push (b := (9 : UInt8)) HL.out HO2.out HBW.out BA.out hown hgrow))
            exact ⟨⟨_, k + 2, _, rfl, by go_num, by have := HK.out; omega, ⟨HN.out.1, SP.out, by have := LE.out; rw [List.length_append]; simp; omega, HN.out.2⟩⟩, by simp [intOf]; have := HK.out; omega⟩
          by_cases d114 : d = 114
          · subst d114
            have hq2 : ∀ W, (Instr.index 9 (.string s) (.int .i64 ((k : Int) + 1))).run Tryd.prog W = .ok (.int .u8 114) W := hq2
            have SP := Lib.hid (SE2.out.1 13 (by decide))
            have BA := Lib.hid ((Below.refl wr.heap.size wr).alloc (Nat.le_refl _) (.cells #[.int .u8 13] 5))
            clear hde
            go_wp2_with (at_builtin; refine wpList_append1k _ rfl (.tmp 54) (.tmp 55) 44 rfl w.heap.size 5 i0 _ 1 1 Tryd.underlying44 hi hz0 hz1 hz2 rfl (by decide) (.slice A n c) n (Lib.byteCells acc) rfl (ownsRow_turns HO2.out (Turns.of_below (S := []) BA.out) (fun _ _ => by simp)) ⟨wr.heap.size, 0, none⟩ 1 [.int .u8 13] rfl rfl (World.news_of_block (heap_alloc_new wr _)) (by simp [Value.oneCell']) (by omega) (by decide) (by have := HBW.out.size; simp; omega) _ rfl ?_; intro g cap w2 hown hgrow hat hlt; have HN := Lib.hid (uq_push (b := (13 : UInt8)) HL.out HO2.out HBW.out BA.out hown hgrow))
            exact ⟨⟨_, k + 2, _, rfl, by go_num, by have := HK.out; omega, ⟨HN.out.1, SP.out, by have := LE.out; rw [List.length_append]; simp; omega, HN.out.2⟩⟩, by simp [intOf]; have := HK.out; omega⟩
          have m34 := ne_int d34; have m92 := ne_int d92; have m110 := ne_int d110; have m116 := ne_int d116; have m114 := ne_int d114
          have en := escV_none d34 d92 d110 d116 d114
          have m34 : ((d.toNat : Int) == 34) = false := m34
          have m92 : ((d.toNat : Int) == 92) = false := m92
          have m110 : ((d.toNat : Int) == 110) = false := m110
          have m116 : ((d.toNat : Int) == 116) = false := m116
          have m114 : ((d.toNat : Int) == 114) = false := m114
          by_cases d120 : d = 120
          · subst d120
            have hq2 : ∀ W, (Instr.index 9 (.string s) (.int .i64 ((k : Int) + 1))).run Tryd.prog W = .ok (.int .u8 120) W := hq2
            clear m34 m92 m110 m116 m114 en d34 d92 d110 d116 d114 hde
            by_cases h3 : k + 3 < s.size
            · have k3 : ¬ ((s.size : Int) ≤ (k : Int) + 1 + 2) := by omega
              have HH := Lib.hid (SE2.out.2.2.2 rfl h3)
              have z1 : (0 : Int) ≤ (k : Int) + 1 + 1 := by omega
              have z2 : (k : Int) + 1 + 1 ≤ (k : Int) + 1 + 3 := by omega
              have z3 : (k : Int) + 1 + 3 ≤ (s.size : Int) := by omega
              obtain ⟨P, hP⟩ : ∃ P, P = s.extract (k + 2) (k + 4) := ⟨_, rfl⟩
              have hsl : ∀ W, (Instr.slice 9 (.string s) (some (.int .i64 ((k : Int) + 1 + 1))) (some (.int .i64 ((k : Int) + 1 + 3))) none).run Tryd.prog W = .ok (.string P) W := fun W => by
                have t1 : ((k : Int) + 1 + 1).toNat = k + 2 := by omega
                have t2 : ((k : Int) + 1 + 3).toNat = k + 4 := by omega
                rw [hP]
                simp [go_sem, z1, z2, z3, t1, t2]
              have hP2 : P.size = 2 := by rw [hP, ByteArray.size_extract]; omega
              have hp0 : P.data.toList.getD 0 0 = gB s (k + 2) := by rw [hP, ext_list]; unfold gB; rw [List.getD_eq_getElem?_getD, List.getD_eq_getElem?_getD, List.getElem?_drop, List.getElem?_take_of_lt (by omega)]
              have hp1 : P.data.toList.getD 1 0 = gB s (k + 3) := by rw [hP, ext_list]; unfold gB; rw [List.getD_eq_getElem?_getD, List.getD_eq_getElem?_getD, List.getElem?_drop, List.getElem?_take_of_lt (by omega)]
              rw [hex2_pre hp0 hp1] at HH
              have UW := Lib.hid (uintW P hP2 wr (HV.out.below (Nat.le_refl _) HBW.out))
              have HK3 := Lib.hid h3
              clear hP hP2 hp0 hp1 h3 z1 z2 z3
              go_wp2_with fail
              refine UW.out.mono ?_
              rintro e w1 ⟨⟨m, hm, hm2, rfl⟩ | ⟨hm, N, rfl⟩, hb1⟩
              · have SP := Lib.hid (HH.out.1 (UInt8.ofNat m) (by rw [hm]; rfl))
                have hu : IntKind.u8.wrap (m : Int) = (m : Int) := IntWalk.u8_in _ (by omega)
                have hbm : (((UInt8.ofNat m).toNat : Nat) : Int) = (m : Int) := by simp; omega
                have HO3 := Lib.hid (ownsRow_turns HO2.out (Turns.of_below (S := []) hb1) (fun _ _ => by simp))
                have HB3 := Lib.hid (HBW.out.trans (hb1.mono HBW.out.size))
                have BA := Lib.hid ((Below.refl w1.heap.size w1).alloc (Nat.le_refl _) (.cells #[.int .u8 (m : Int)] 5))
                have HBM := Lib.hid hbm
                clear hm hm2 hb1 hbm
                go_wp2_with (at_builtin; refine wpList_append1k _ rfl (.tmp 76) (.tmp 79) 44 rfl w.heap.size 5 i0 _ 1 1 Tryd.underlying44 hi hz0 hz1 hz2 rfl (by decide) (.slice A n c) n (Lib.byteCells acc) rfl (ownsRow_turns HO3.out (Turns.of_below (S := []) BA.out) (fun _ _ => by simp)) ⟨w1.heap.size, 0, none⟩ 1 [.int .u8 (m : Int)] rfl rfl (World.news_of_block (heap_alloc_new w1 _)) (by simp [Value.oneCell']) (by omega) (by decide) (by have := HB3.out.size; simp; omega) _ rfl ?_; intro g cap w2 hown hgrow hat hlt; have HN := Lib.hid (uq_push (b := UInt8.ofNat m) HL.out HO3.out HB3.out BA.out (by rw [HBM.out]; exact hown) hgrow))
                exact ⟨⟨_, k + 4, _, rfl, by go_num, by have := HK3.out; omega, ⟨HN.out.1, SP.out, by have := LE.out; rw [List.length_append]; simp; omega, HN.out.2⟩⟩, by simp [intOf]; have := HK3.out; omega⟩
              · have U := Lib.hid (HH.out.2 (by rw [hm]; rfl))
                have HB3 := Lib.hid (HBW.out.trans (hb1.mono HBW.out.size))
                clear hm hb1
                go_wp2_with fail
                go_ret2
                exact ⟨.inr ⟨U.out, rfl⟩, HB3.out⟩
            · have k3 : (s.size : Int) ≤ (k : Int) + 1 + 2 := by omega
              have U := Lib.hid (SE2.out.2.2.1 rfl (by omega))
              clear h3
              go_wp2_with fail
              go_ret2
              exact ⟨.inr ⟨U.out, rfl⟩, HBW.out⟩
          have m120 := ne_int d120
          have m120 : ((d.toNat : Int) == 120) = false := m120
          have U := Lib.hid (SE2.out.2.1 en d120)
          clear d34 d92 d110 d116 d114 d120 hde
          go_wp2_with fail
          go_ret2
          exact ⟨.inr ⟨U.out, rfl⟩, HBW.out⟩
        · have U := Lib.hid (SPE.out (by omega) rfl)
          have k2 : ((k : Int) + 1 == (s.size : Int)) = true := by simp; omega
          clear hk1 hke hbe SPL SPE SE hk hU
          go_wp2_with fail
          go_ret2
          exact ⟨.inr ⟨U.out, rfl⟩, HBW.out⟩
      · have m92 := ne_int hb92
        have m92 : ((b.toNat : Int) == 92) = false := m92
        have SP := Lib.hid (SPL.out hb92)
        have BA := Lib.hid ((Below.refl wr.heap.size wr).alloc (Nat.le_refl _) (.cells #[.int .u8 (b.toNat : Int)] 5))
        clear hk1 hbe SPL SPE SE hk hU hb92
        go_wp2_with (at_builtin; refine wpList_append1k _ rfl (.tmp 18) (.tmp 22) 44 rfl w.heap.size 5 i0 _ 1 1 Tryd.underlying44 hi hz0 hz1 hz2 rfl (by decide) (.slice A n c) n (Lib.byteCells acc) rfl (ownsRow_turns HO2.out (Turns.of_below (S := []) BA.out) (fun _ _ => by simp)) ⟨wr.heap.size, 0, none⟩ 1 [.int .u8 (b.toNat : Int)] rfl rfl (World.news_of_block (heap_alloc_new wr _)) (by simp [Value.oneCell']) (by omega) (by decide) (by have := HBW.out.size; simp; omega) _ rfl ?_; intro g cap w2 hown hgrow hat hlt; have HN := Lib.hid (uq_push (b := b) HL.out HO2.out HBW.out BA.out hown hgrow))
        exact ⟨⟨_, k + 1, _, rfl, by go_num, by have := HK.out; omega, ⟨HN.out.1, SP.out, by have := LE.out; rw [List.length_append]; simp; omega, HN.out.2⟩⟩, by simp [intOf]; have := HK.out; omega⟩
    · have HD := Lib.hid (sp_done hU.out.spec (show k = s.size by omega))
      obtain rfl : k = s.size := by omega
      have hcv : (convert 44 9 (.slice A n c)).run Tryd.prog wr = .ok (.string ⟨acc.toArray⟩) wr := by
        have h0 := HL.out
        rcases HO2.out.2 with ⟨h, h1⟩ | ⟨g, cap, cur, h, _⟩
        · simp only [Value.slice.injEq] at h
          obtain ⟨rfl, rfl, rfl⟩ := h
          obtain rfl : acc = [] := List.eq_nil_of_length_eq_zero h0
          exact Lib.run_convert_nil_bytes wr _ _ _ _ Tryd.underlying44 Tryd.underlying5 Tryd.underlying9
        · simp only [Value.slice.injEq] at h
          obtain ⟨rfl, _, _⟩ := h
          have := run_convert_bytes_back (P := Tryd.prog) wr 44 9 5 ⟨g, 0, none⟩ c acc Tryd.underlying44 Tryd.underlying5 Tryd.underlying9 (fun j hj => by
            rw [add_none, Nat.zero_add, HO2.out.cellAt j (by omega), List.getElem?_eq_getElem (by rw [Lib.byteCells_length]; exact hj)]
            simp [Lib.byteCells])
          rwa [h0] at this
      clear hk1 hk hU
      go_wp2_with fail
      go_ret2
      exact ⟨.inl ⟨acc, HD.out, rfl⟩, HBW.out⟩
end Go.Proofs.YtblonickpmogiaaDoor
