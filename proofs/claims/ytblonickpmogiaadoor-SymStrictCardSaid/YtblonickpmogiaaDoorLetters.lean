/- The law's letters: bytes that stand for themselves, at most 255. -/
import Derived.Test.YtblonickpmogiaaDoorStrictLaw
namespace Go.Proofs.YtblonickpmogiaaDoor
open Go.RowKit

/-- Between two rounds. -/
structure Lt (w wr : World) (v : Value) (acc : List UInt8) : Prop where
  own : OwnB wr w.heap.size v acc
  self : ∀ b ∈ acc, selfB b
  len : acc.length ≤ 255
  below : Below w.heap.size w wr

set_option maxRecDepth 100000 in
set_option maxHeartbeats 8000000 in
theorem lettersW (s : ByteArray) (hs : s.size ≤ 140737488355328) (w : World) : Calls Tryd.prog 19 #[.string s] w fun e w' =>
    ∃ l : List UInt8, e = .returned (.string ⟨l.toArray⟩) ∧ (∀ b ∈ l, selfB b) ∧ l.length ≤ 255 ∧ Below w.heap.size w w' := by
  obtain ⟨i0, hi, hz0, hz1, hz2⟩ := info_parts infoB8
  go_enter Tryd.func19, Tryd.ntmps19
  go_wp2_with fail
  go_loopw [3, 4] (fun bv i wr => ∃ (v : Value) (k : Nat) (acc : List UInt8), bv = v ∧ i = .int .i64 k ∧ k ≤ s.size ∧ Hid (Lt w wr v acc)) (fun _ i _ => s.size - (intOf i).toNat)
  case atStart => exact ⟨_, 0, [], rfl, rfl, Nat.zero_le _, ⟨World.ownsRow_nil _ _ _ _, by simp, by simp, Below.refl _ _⟩⟩
  case round =>
    obtain ⟨v, k, acc, hvv, rfl, hk, hU⟩ := hrel
    obtain ⟨n, hn⟩ : ∃ n, n = acc.length := ⟨_, rfl⟩
    obtain ⟨A, c, hvf⟩ : ∃ A c, v = .slice A n c := by
      rcases hU.out.own.2 with ⟨rfl, h⟩ | ⟨g, cap, cur, rfl, _⟩
      · exact ⟨none, 0, by rw [hn, h]⟩
      · exact ⟨_, cap, by rw [hn]⟩
    subst hvf
    subst hvv
    have HO2 := Lib.hid (show wr.ownsRow w.heap.size 5 1 (.slice A n c) n (Lib.byteCells acc) from by have := hU.out.own; unfold OwnB at this; rwa [← hn] at this)
    have HL := Lib.hid hn.symm
    have HBW := Lib.hid hU.out.below
    have SELF := Lib.hid hU.out.self
    have hkk : (0 : Int) ≤ (k : Int) := by omega
    have hnk : n ≤ 255 := by rw [hn]; exact hU.out.len
    clear hn
    by_cases hk1 : k < s.size ∧ n < 255
    · obtain ⟨hk1, hn1⟩ := hk1
      have HK := Lib.hid hk1
      have HN1 := Lib.hid hn1
      have k1 : (k : Int) < (s.size : Int) := by omega
      have n1 : (n : Int) < 255 := by omega
      have hq : ∀ W, (Instr.index 9 (.string s) (.int .i64 (k : Int))).run Tryd.prog W = .ok (.int .u8 ((gB s k).toNat : Int)) W := fun W => by rw [gB_at hk1]; simp [go_sem, k1]
      obtain ⟨b, hbe⟩ : ∃ b, b = gB s k := ⟨_, rfl⟩
      rw [← hbe] at hq
      clear hbe hk1
      have hbl := b.toNat_lt
      by_cases c1 : 32 ≤ b.toNat
      · by_cases c2 : b.toNat ≤ 126
        · by_cases c3 : b = 34
          · subst c3
            have hq : ∀ W, (Instr.index 9 (.string s) (.int .i64 (k : Int))).run Tryd.prog W = .ok (.int .u8 34) W := hq
            clear c1 c2 hbl
            go_wp2_with fail
            exact ⟨⟨_, k + 1, acc, rfl, by go_num, HK.out, hU⟩, by simp [intOf]; have := HK.out; omega⟩
          by_cases c4 : b = 92
          · subst c4
            have hq : ∀ W, (Instr.index 9 (.string s) (.int .i64 (k : Int))).run Tryd.prog W = .ok (.int .u8 92) W := hq
            clear c1 c2 hbl
            go_wp2_with fail
            exact ⟨⟨_, k + 1, acc, rfl, by go_num, HK.out, hU⟩, by simp [intOf]; have := HK.out; omega⟩
          have SF := Lib.hid (show ∀ x ∈ acc ++ [b], selfB x from fun x hx => by
            rcases List.mem_append.1 hx with hx | hx
            · exact SELF.out x hx
            · rw [List.mem_singleton.1 hx]; exact ⟨c1, c2, c3, c4⟩)
          have m34 : ((b.toNat : Int) != 34) = true := by have := ne_int c3; have : ((b.toNat : Int) == 34) = false := this; simp only [bne, this, Bool.not_false]
          have m92 : ((b.toNat : Int) != 92) = true := by have := ne_int c4; have : ((b.toNat : Int) == 92) = false := this; simp only [bne, this, Bool.not_false]
          have e1 : (32 : Int) ≤ (b.toNat : Int) := by omega
          have e2 : (b.toNat : Int) ≤ 126 := by omega
          have BA := Lib.hid ((Below.refl wr.heap.size wr).alloc (Nat.le_refl _) (.cells #[.int .u8 (b.toNat : Int)] 5))
          clear hU c3 c4 hn1 hbl
          go_wp2_with (at_builtin; refine wpList_append1k _ rfl (.tmp 38) (.tmp 42) 44 rfl w.heap.size 5 i0 _ 1 1 Tryd.underlying44 hi hz0 hz1 hz2 rfl (by decide) (.slice A n c) n (Lib.byteCells acc) rfl (ownsRow_turns HO2.out (Turns.of_below (S := []) BA.out) (fun _ _ => by simp)) ⟨wr.heap.size, 0, none⟩ 1 [.int .u8 (b.toNat : Int)] rfl rfl (World.news_of_block (heap_alloc_new wr _)) (by simp [Value.oneCell']) (by omega) (by decide) (by have := HBW.out.size; simp; omega) _ rfl ?_; intro g cap w2 hown hgrow hat hlt; have HN := Lib.hid (uq_push (b := b) HL.out HO2.out HBW.out BA.out hown hgrow))
          exact ⟨⟨_, k + 1, _, rfl, by go_num, HK.out, ⟨HN.out.1, SF.out, by have := HL.out; have := HN1.out; rw [List.length_append]; simp; omega, HN.out.2⟩⟩, by simp [intOf]; have := HK.out; omega⟩
        · have e1 : (32 : Int) ≤ (b.toNat : Int) := by omega
          have e2 : ¬ (b.toNat : Int) ≤ 126 := by omega
          clear hbl
          go_wp2_with fail
          exact ⟨⟨_, k + 1, acc, rfl, by go_num, HK.out, hU⟩, by simp [intOf]; have := HK.out; omega⟩
      · have e1 : ¬ (32 : Int) ≤ (b.toNat : Int) := by omega
        clear hbl
        go_wp2_with fail
        exact ⟨⟨_, k + 1, acc, rfl, by go_num, HK.out, hU⟩, by simp [intOf]; have := HK.out; omega⟩
    · have hcv : (convert 44 9 (.slice A n c)).run Tryd.prog wr = .ok (.string ⟨acc.toArray⟩) wr := by
        have h0 := HL.out
        rcases HO2.out.2 with ⟨h, h1⟩ | ⟨g, cap, cur, h, _⟩
        · simp only [Value.slice.injEq] at h
          obtain ⟨rfl, rfl, rfl⟩ := h
          obtain rfl : acc = [] := List.eq_nil_of_length_eq_zero h0
          exact Lib.run_convert_nil_bytes wr _ _ _ _ Tryd.underlying44 Tryd.underlying5 Tryd.underlying9
        · simp only [Value.slice.injEq] at h
          obtain ⟨rfl, _, _⟩ := h
          have := run_convert_bytes_back (P := Tryd.prog) wr 44 9 5 ⟨g, 0, none⟩ c acc Tryd.underlying44 Tryd.underlying5 Tryd.underlying9 (fun j hj => by
            rw [add_none, Nat.zero_add, HO2.out.cellAt j (by omega), List.getElem?_eq_getElem (by rw [Lib.byteCells_length]; exact hj)]
            simp [Lib.byteCells])
          rwa [h0] at this
      have LEN := Lib.hid hU.out.len
      clear hU
      by_cases hk2 : k < s.size
      · have k1 : (k : Int) < (s.size : Int) := by omega
        have n1 : ¬ (n : Int) < 255 := by omega
        clear hk1
        go_wp2_with fail
        go_ret
        exact ⟨acc, rfl, SELF.out, LEN.out, HBW.out⟩
      · have k1 : ¬ (k : Int) < (s.size : Int) := by omega
        clear hk1
        go_wp2_with fail
        go_ret
        exact ⟨acc, rfl, SELF.out, LEN.out, HBW.out⟩
end Go.Proofs.YtblonickpmogiaaDoor
