/- The law's word: a name, whatever the string. -/
import Derived.Test.YtblonickpmogiaaDoorValid
import Derived.Test.YtblonickpmogiaaDoorKeep
import Derived.Test.YtblonickpmogiaaDoorTurns
import Derived.IntWalk
import Derived.Lib.UnsafeStr
namespace Go.Proofs.YtblonickpmogiaaDoor
open Go.RowKit

/-- A word in the making. -/
structure Wd (l : List UInt8) : Prop where
  pos : 0 < l.length
  first : ∀ b, l[0]? = some b → lowI (b.toNat : Int) = true
  rest : ∀ b ∈ l.drop 1, tailI (b.toNat : Int) = true
theorem Wd.one {b : UInt8} (h : lowI (b.toNat : Int) = true) : Wd [b] := ⟨by simp, fun c hc => by
    have e : b = c := by simpa using hc
    rw [← e]; exact h, fun c hc => by simp at hc⟩
theorem Wd.more {l : List UInt8} {b : UInt8} (h : Wd l) (hb : tailI (b.toNat : Int) = true) : Wd (l ++ [b]) := by
  obtain ⟨h1, h2, h3⟩ := h
  match l, h1 with
  | a :: l', _ =>
    refine ⟨by simp, fun c hc => h2 c (by simpa using hc), fun c hc => ?_⟩
    simp only [List.cons_append, List.drop_succ_cons, List.drop_zero, List.mem_append, List.mem_singleton] at hc
    rcases hc with hc | rfl
    · exact h3 c (by simpa using hc)
    · exact hb
theorem toList_mk (l : List UInt8) : (⟨l.toArray⟩ : ByteArray).toList = l := by
  rw [ByteArray.toList_eq]
theorem Wd.name {l : List UInt8} (h : Wd l) (hl : l.length ≤ 64) (hn : l ≠ [110, 111, 116]) : nameB ⟨l.toArray⟩ = true := by
  have hs : (⟨l.toArray⟩ : ByteArray).size = l.length := by show l.toArray.size = _; simp
  unfold nameB wordB
  rw [dif_pos (by rw [hs]; exact h.pos)]
  have e : ((⟨l.toArray⟩ : ByteArray).toList == [110, 111, 116]) = false := by
    rw [toList_mk]
    simpa using hn
  rw [e]
  simp only [Bool.not_false, Bool.true_and, Bool.and_eq_true, decide_eq_true_eq]
  refine ⟨by rw [hs]; exact hl, ?_, ?_⟩
  · have h0 : 0 < l.length := h.pos
    have : (⟨l.toArray⟩ : ByteArray)[0]'(by rw [hs]; exact h0) = l[0] := rfl
    rw [this]
    exact h.first _ (List.getElem?_eq_getElem h0)
  · unfold tailB
    rw [List.all_eq_true]
    intro b hb
    exact h.rest b hb

/-- A row of bytes of the call's own. -/
def OwnB (w : World) (base : Nat) (v : Value) (l : List UInt8) : Prop := w.ownsRow base 5 1 v l.length (Lib.byteCells l)
theorem infoU : (Tryd.prog.info? 5).map (fun i => (i.zero, i.size, i.bytes)) = some (some (.int .u8 0), 1, 1) := by kernel_rfl

set_option maxRecDepth 100000 in
set_option maxHeartbeats 8000000 in
theorem lawWordW (s : ByteArray) (hs : s.size ≤ maxLen) (w : World) : Calls Tryd.prog 33 #[.string s] w fun e w' => ∃ r : ByteArray, e = .returned (.string r) ∧ nameB r = true ∧ r.size ≤ 64 ∧ Below w.heap.size w w' := by
  unfold maxLen at hs
  obtain ⟨i0, hi, hz0, hz1, hz2⟩ := info_parts infoU
  by_cases h0 : 0 < s.size
  · have hE := nonempty h0
    have hm := s[0].toNat_lt
    have hb0 : (UInt8.ofNat (97 + s[0].toNat % 26)).toNat = 97 + s[0].toNat % 26 := by simp; omega
    have W0 := Lib.hid (Wd.one (b := UInt8.ofNat (97 + s[0].toNat % 26)) (by rw [hb0]; unfold lowI; simp; omega))
    have OB := Lib.hid (show OwnB (w.alloc (.cells #[.int .u8 ((97 : Int) + (s[0].toNat : Int) % 26)] 5)) w.heap.size (.slice (some ⟨w.heap.size, 0, none⟩) 1 1) [UInt8.ofNat (97 + s[0].toNat % 26)] from
      ⟨rfl, .inr ⟨w.heap.size, 1, _, rfl, Nat.le_refl _, heap_alloc_new w _, Nat.le_refl _, by decide, rfl, by
        show [Value.int .u8 ((97 : Int) + (s[0].toNat : Int) % 26)] = [Value.int .u8 ((UInt8.ofNat (97 + s[0].toNat % 26)).toNat : Int)]
        rw [hb0]; rfl⟩⟩)
    have B0 := Lib.hid ((Below.refl w.heap.size w).alloc (Nat.le_refl _) (.cells #[.int .u8 ((97 : Int) + (s[0].toNat : Int) % 26)] 5))
    have q1 : (0 : Int) ≤ (s[0].toNat : Int) % 26 := by omega
    have q2 : (s[0].toNat : Int) % 26 ≤ 25 := by omega
    have q3 : ((s[0].toNat : Int)).tmod 26 = (s[0].toNat : Int) % 26 := rfl
    clear hb0
    have H0 := Lib.hid h0
    go_enter Tryd.func33, Tryd.ntmps33
    go_wp2
    go_loopw [3, 4, 5] (fun lv i _ wr => ∃ (v : Value) (l : List UInt8), lv = v ∧ ∃ k : Nat, i = .int .i64 k ∧ l.length = k ∧ Hid (OwnB wr w.heap.size v l) ∧ Hid (Wd l) ∧ k ≤ s.size ∧ k ≤ 64 ∧ Below w.heap.size w wr) (fun _ i _ _ => s.size - (intOf i).toNat)
    case atStart => exact ⟨_, _, rfl, 1, rfl, rfl, OB.out, W0.out, by omega, by omega, B0.out⟩
    case round =>
      obtain ⟨v, l, hv, k, rfl, hl, HO, HW, hks, hk6, hb⟩ := hrel
      obtain ⟨A, c, hvf⟩ : ∃ A c, v = .slice A k c := by
        rcases HO.out.2 with ⟨rfl, h⟩ | ⟨g, cap, cur, rfl, _⟩
        · exact ⟨none, 0, by rw [← hl, h]⟩
        · exact ⟨_, cap, by rw [hl]⟩
      subst hvf
      subst hv
      have HO2 := Lib.hid (show wr.ownsRow w.heap.size 5 1 (.slice A k c) k (Lib.byteCells l) from by have := HO.out; unfold OwnB at this; rwa [hl] at this)
      have HL := Lib.hid hl
      have HB := Lib.hid hb
      have hkk : (0 : Int) ≤ (k : Int) := by omega
      by_cases hx : k < s.size ∧ k < 64
      · obtain ⟨hk1, hk2⟩ := hx
        have k1 : (k : Int) < (s.size : Int) := by omega
        have k2 : (k : Int) < 64 := by omega
        have HK := Lib.hid hk1
        have HK6 := Lib.hid hk2
        have hq : ∀ W, (Instr.index 9 (.string s) (.int .i64 (k : Int))).run Tryd.prog W = .ok (.int .u8 (s[k].toNat : Int)) W := fun W => by simp [go_sem, k1]; rfl
        have HX := s[k].toNat_lt
        obtain ⟨b, hbe⟩ : ∃ b, b = s[k] := ⟨_, rfl⟩
        rw [← hbe] at hq HX
        clear hbe
        clear hb hl
        by_cases c1 : 97 ≤ b.toNat
        · by_cases c2 : b.toNat ≤ 122
          · skip
            have e0 : (97 : Int) ≤ (b.toNat : Int) := by omega
            have d0 : 97 ≤ b.toNat := by omega
            have e1 : (b.toNat : Int) ≤ 122 := by omega
            have d1 : b.toNat ≤ 122 := by omega
            have TI := Lib.hid (show tailI (b.toNat : Int) = true by unfold tailI lowI upI digI; simp; omega)
            have BA := Lib.hid ((Below.refl wr.heap.size wr).alloc (Nat.le_refl _) (.cells #[.int .u8 (b.toNat : Int)] 5))
            clear HX
            go_wp2_with (at_builtin; refine wpList_append1k _ rfl (.tmp 53) (.tmp 55) 44 rfl w.heap.size 5 i0 _ 1 1 Tryd.underlying44 hi hz0 hz1 hz2 rfl (by decide) (.slice A k c) k (Lib.byteCells l) rfl (ownsRow_turns HO2.out (Turns.of_below (S := []) BA.out) (fun _ _ => by simp)) ⟨wr.heap.size, 0, none⟩ 1 [.int .u8 (b.toNat : Int)] rfl rfl (World.news_of_block (heap_alloc_new wr _)) (by simp [Value.oneCell']) (by omega) (by decide) (by have := HB.out.size; simp; omega) _ rfl ?_; intro g cap w2 hown hgrow hat hlt; have HN := Lib.hid (show OwnB w2 w.heap.size (.slice (some ⟨g, 0, none⟩) (k + 1) cap) (l ++ [b]) from by unfold OwnB; rw [List.length_append, HL.out]; simpa [Lib.byteCells] using hown); have HG := Lib.hid (show Below w.heap.size w w2 from (HB.out.trans (BA.out.mono HB.out.size)).trans ((Turns.of_grown hgrow).below (by have := HB.out.size; have := BA.out.size; omega) (fun x hx => (ownBlock_cells HO2.out (by simpa using hx)).1))); clear hown hgrow hat hlt)
            exact ⟨⟨_, l ++ [b], rfl, k + 1, by go_num, by simp [HL.out], HN.out, HW.out.more TI.out, by have := HK.out; omega, by have := HK6.out; omega, HG.out⟩, by simp [intOf]; have := HK.out; omega⟩
          · skip
            have e0 : (97 : Int) ≤ (b.toNat : Int) := by omega
            have d0 : 97 ≤ b.toNat := by omega
            have e1 : decide ((b.toNat : Int) ≤ 122) = false := by simp; omega
            have d1 : decide (b.toNat ≤ 122) = false := by simp; omega
            have e2 : (65 : Int) ≤ (b.toNat : Int) := by omega
            have d2 : 65 ≤ b.toNat := by omega
            have e3 : decide ((b.toNat : Int) ≤ 90) = false := by simp; omega
            have d3 : decide (b.toNat ≤ 90) = false := by simp; omega
            have e4 : (48 : Int) ≤ (b.toNat : Int) := by omega
            have d4 : 48 ≤ b.toNat := by omega
            have e5 : decide ((b.toNat : Int) ≤ 57) = false := by simp; omega
            have d5 : decide (b.toNat ≤ 57) = false := by simp; omega
            have e6 : ((b.toNat : Int) == 95) = false := by simp; omega
            have TI := Lib.hid (show tailI ((95 : UInt8).toNat : Int) = true by decide)
            have BA := Lib.hid ((Below.refl wr.heap.size wr).alloc (Nat.le_refl _) (.cells #[.int .u8 95] 5))
            clear HX
            go_wp2_with (at_builtin; refine wpList_append1k _ rfl (.tmp 57) (.tmp 58) 44 rfl w.heap.size 5 i0 _ 1 1 Tryd.underlying44 hi hz0 hz1 hz2 rfl (by decide) (.slice A k c) k (Lib.byteCells l) rfl (ownsRow_turns HO2.out (Turns.of_below (S := []) BA.out) (fun _ _ => by simp)) ⟨wr.heap.size, 0, none⟩ 1 [.int .u8 95] rfl rfl (World.news_of_block (heap_alloc_new wr _)) (by simp [Value.oneCell']) (by omega) (by decide) (by have := HB.out.size; simp; omega) _ rfl ?_; intro g cap w2 hown hgrow hat hlt; have HN := Lib.hid (show OwnB w2 w.heap.size (.slice (some ⟨g, 0, none⟩) (k + 1) cap) (l ++ [(95 : UInt8)]) from by unfold OwnB; rw [List.length_append, HL.out]; simpa [Lib.byteCells] using hown); have HG := Lib.hid (show Below w.heap.size w w2 from (HB.out.trans (BA.out.mono HB.out.size)).trans ((Turns.of_grown hgrow).below (by have := HB.out.size; have := BA.out.size; omega) (fun x hx => (ownBlock_cells HO2.out (by simpa using hx)).1))); clear hown hgrow hat hlt)
            exact ⟨⟨_, l ++ [(95 : UInt8)], rfl, k + 1, by go_num, by simp [HL.out], HN.out, HW.out.more TI.out, by have := HK.out; omega, by have := HK6.out; omega, HG.out⟩, by simp [intOf]; have := HK.out; omega⟩
        · by_cases c3 : 65 ≤ b.toNat
          · by_cases c4 : b.toNat ≤ 90
            · skip
              have e0 : decide ((97 : Int) ≤ (b.toNat : Int)) = false := by simp; omega
              have d0 : decide (97 ≤ b.toNat) = false := by simp; omega
              have e1 : (65 : Int) ≤ (b.toNat : Int) := by omega
              have d1 : 65 ≤ b.toNat := by omega
              have e2 : (b.toNat : Int) ≤ 90 := by omega
              have d2 : b.toNat ≤ 90 := by omega
              have TI := Lib.hid (show tailI (b.toNat : Int) = true by unfold tailI lowI upI digI; simp; omega)
              have BA := Lib.hid ((Below.refl wr.heap.size wr).alloc (Nat.le_refl _) (.cells #[.int .u8 (b.toNat : Int)] 5))
              clear HX
              go_wp2_with (at_builtin; refine wpList_append1k _ rfl (.tmp 53) (.tmp 55) 44 rfl w.heap.size 5 i0 _ 1 1 Tryd.underlying44 hi hz0 hz1 hz2 rfl (by decide) (.slice A k c) k (Lib.byteCells l) rfl (ownsRow_turns HO2.out (Turns.of_below (S := []) BA.out) (fun _ _ => by simp)) ⟨wr.heap.size, 0, none⟩ 1 [.int .u8 (b.toNat : Int)] rfl rfl (World.news_of_block (heap_alloc_new wr _)) (by simp [Value.oneCell']) (by omega) (by decide) (by have := HB.out.size; simp; omega) _ rfl ?_; intro g cap w2 hown hgrow hat hlt; have HN := Lib.hid (show OwnB w2 w.heap.size (.slice (some ⟨g, 0, none⟩) (k + 1) cap) (l ++ [b]) from by unfold OwnB; rw [List.length_append, HL.out]; simpa [Lib.byteCells] using hown); have HG := Lib.hid (show Below w.heap.size w w2 from (HB.out.trans (BA.out.mono HB.out.size)).trans ((Turns.of_grown hgrow).below (by have := HB.out.size; have := BA.out.size; omega) (fun x hx => (ownBlock_cells HO2.out (by simpa using hx)).1))); clear hown hgrow hat hlt)
              exact ⟨⟨_, l ++ [b], rfl, k + 1, by go_num, by simp [HL.out], HN.out, HW.out.more TI.out, by have := HK.out; omega, by have := HK6.out; omega, HG.out⟩, by simp [intOf]; have := HK.out; omega⟩
            · by_cases c5 : b.toNat = 95
              · skip
                obtain rfl : b = 95 := by rw [← UInt8.toNat_inj]; exact c5
                have hq' : ∀ W, (Instr.index 9 (.string s) (.int .i64 (k : Int))).run Tryd.prog W = .ok (.int .u8 95) W := hq
                clear hq
                have TI := Lib.hid (show tailI ((95 : UInt8).toNat : Int) = true by decide)
                have BA := Lib.hid ((Below.refl wr.heap.size wr).alloc (Nat.le_refl _) (.cells #[.int .u8 95] 5))
                clear HX
                go_wp2_with (at_builtin; refine wpList_append1k _ rfl (.tmp 53) (.tmp 55) 44 rfl w.heap.size 5 i0 _ 1 1 Tryd.underlying44 hi hz0 hz1 hz2 rfl (by decide) (.slice A k c) k (Lib.byteCells l) rfl (ownsRow_turns HO2.out (Turns.of_below (S := []) BA.out) (fun _ _ => by simp)) ⟨wr.heap.size, 0, none⟩ 1 [.int .u8 95] rfl rfl (World.news_of_block (heap_alloc_new wr _)) (by simp [Value.oneCell']) (by omega) (by decide) (by have := HB.out.size; simp; omega) _ rfl ?_; intro g cap w2 hown hgrow hat hlt; have HN := Lib.hid (show OwnB w2 w.heap.size (.slice (some ⟨g, 0, none⟩) (k + 1) cap) (l ++ [(95 : UInt8)]) from by unfold OwnB; rw [List.length_append, HL.out]; simpa [Lib.byteCells] using hown); have HG := Lib.hid (show Below w.heap.size w w2 from (HB.out.trans (BA.out.mono HB.out.size)).trans ((Turns.of_grown hgrow).below (by have := HB.out.size; have := BA.out.size; omega) (fun x hx => (ownBlock_cells HO2.out (by simpa using hx)).1))); clear hown hgrow hat hlt)
                exact ⟨⟨_, l ++ [(95 : UInt8)], rfl, k + 1, by go_num, by simp [HL.out], HN.out, HW.out.more TI.out, by have := HK.out; omega, by have := HK6.out; omega, HG.out⟩, by simp [intOf]; have := HK.out; omega⟩
              · skip
                have e0 : decide ((97 : Int) ≤ (b.toNat : Int)) = false := by simp; omega
                have d0 : decide (97 ≤ b.toNat) = false := by simp; omega
                have e1 : (65 : Int) ≤ (b.toNat : Int) := by omega
                have d1 : 65 ≤ b.toNat := by omega
                have e2 : decide ((b.toNat : Int) ≤ 90) = false := by simp; omega
                have d2 : decide (b.toNat ≤ 90) = false := by simp; omega
                have e3 : (48 : Int) ≤ (b.toNat : Int) := by omega
                have d3 : 48 ≤ b.toNat := by omega
                have e4 : decide ((b.toNat : Int) ≤ 57) = false := by simp; omega
                have d4 : decide (b.toNat ≤ 57) = false := by simp; omega
                have e5 : ((b.toNat : Int) == 95) = false := by simp; omega
                have TI := Lib.hid (show tailI ((95 : UInt8).toNat : Int) = true by decide)
                have BA := Lib.hid ((Below.refl wr.heap.size wr).alloc (Nat.le_refl _) (.cells #[.int .u8 95] 5))
                clear HX
                go_wp2_with (at_builtin; refine wpList_append1k _ rfl (.tmp 57) (.tmp 58) 44 rfl w.heap.size 5 i0 _ 1 1 Tryd.underlying44 hi hz0 hz1 hz2 rfl (by decide) (.slice A k c) k (Lib.byteCells l) rfl (ownsRow_turns HO2.out (Turns.of_below (S := []) BA.out) (fun _ _ => by simp)) ⟨wr.heap.size, 0, none⟩ 1 [.int .u8 95] rfl rfl (World.news_of_block (heap_alloc_new wr _)) (by simp [Value.oneCell']) (by omega) (by decide) (by have := HB.out.size; simp; omega) _ rfl ?_; intro g cap w2 hown hgrow hat hlt; have HN := Lib.hid (show OwnB w2 w.heap.size (.slice (some ⟨g, 0, none⟩) (k + 1) cap) (l ++ [(95 : UInt8)]) from by unfold OwnB; rw [List.length_append, HL.out]; simpa [Lib.byteCells] using hown); have HG := Lib.hid (show Below w.heap.size w w2 from (HB.out.trans (BA.out.mono HB.out.size)).trans ((Turns.of_grown hgrow).below (by have := HB.out.size; have := BA.out.size; omega) (fun x hx => (ownBlock_cells HO2.out (by simpa using hx)).1))); clear hown hgrow hat hlt)
                exact ⟨⟨_, l ++ [(95 : UInt8)], rfl, k + 1, by go_num, by simp [HL.out], HN.out, HW.out.more TI.out, by have := HK.out; omega, by have := HK6.out; omega, HG.out⟩, by simp [intOf]; have := HK.out; omega⟩
          · by_cases c6 : 48 ≤ b.toNat
            · by_cases c7 : b.toNat ≤ 57
              · skip
                have e0 : decide ((97 : Int) ≤ (b.toNat : Int)) = false := by simp; omega
                have d0 : decide (97 ≤ b.toNat) = false := by simp; omega
                have e1 : decide ((65 : Int) ≤ (b.toNat : Int)) = false := by simp; omega
                have d1 : decide (65 ≤ b.toNat) = false := by simp; omega
                have e2 : (48 : Int) ≤ (b.toNat : Int) := by omega
                have d2 : 48 ≤ b.toNat := by omega
                have e3 : (b.toNat : Int) ≤ 57 := by omega
                have d3 : b.toNat ≤ 57 := by omega
                have TI := Lib.hid (show tailI (b.toNat : Int) = true by unfold tailI lowI upI digI; simp; omega)
                have BA := Lib.hid ((Below.refl wr.heap.size wr).alloc (Nat.le_refl _) (.cells #[.int .u8 (b.toNat : Int)] 5))
                clear HX
                go_wp2_with (at_builtin; refine wpList_append1k _ rfl (.tmp 53) (.tmp 55) 44 rfl w.heap.size 5 i0 _ 1 1 Tryd.underlying44 hi hz0 hz1 hz2 rfl (by decide) (.slice A k c) k (Lib.byteCells l) rfl (ownsRow_turns HO2.out (Turns.of_below (S := []) BA.out) (fun _ _ => by simp)) ⟨wr.heap.size, 0, none⟩ 1 [.int .u8 (b.toNat : Int)] rfl rfl (World.news_of_block (heap_alloc_new wr _)) (by simp [Value.oneCell']) (by omega) (by decide) (by have := HB.out.size; simp; omega) _ rfl ?_; intro g cap w2 hown hgrow hat hlt; have HN := Lib.hid (show OwnB w2 w.heap.size (.slice (some ⟨g, 0, none⟩) (k + 1) cap) (l ++ [b]) from by unfold OwnB; rw [List.length_append, HL.out]; simpa [Lib.byteCells] using hown); have HG := Lib.hid (show Below w.heap.size w w2 from (HB.out.trans (BA.out.mono HB.out.size)).trans ((Turns.of_grown hgrow).below (by have := HB.out.size; have := BA.out.size; omega) (fun x hx => (ownBlock_cells HO2.out (by simpa using hx)).1))); clear hown hgrow hat hlt)
                exact ⟨⟨_, l ++ [b], rfl, k + 1, by go_num, by simp [HL.out], HN.out, HW.out.more TI.out, by have := HK.out; omega, by have := HK6.out; omega, HG.out⟩, by simp [intOf]; have := HK.out; omega⟩
              · skip
                have e0 : decide ((97 : Int) ≤ (b.toNat : Int)) = false := by simp; omega
                have d0 : decide (97 ≤ b.toNat) = false := by simp; omega
                have e1 : decide ((65 : Int) ≤ (b.toNat : Int)) = false := by simp; omega
                have d1 : decide (65 ≤ b.toNat) = false := by simp; omega
                have e2 : (48 : Int) ≤ (b.toNat : Int) := by omega
                have d2 : 48 ≤ b.toNat := by omega
                have e3 : decide ((b.toNat : Int) ≤ 57) = false := by simp; omega
                have d3 : decide (b.toNat ≤ 57) = false := by simp; omega
                have e4 : ((b.toNat : Int) == 95) = false := by simp; omega
                have TI := Lib.hid (show tailI ((95 : UInt8).toNat : Int) = true by decide)
                have BA := Lib.hid ((Below.refl wr.heap.size wr).alloc (Nat.le_refl _) (.cells #[.int .u8 95] 5))
                clear HX
                go_wp2_with (at_builtin; refine wpList_append1k _ rfl (.tmp 57) (.tmp 58) 44 rfl w.heap.size 5 i0 _ 1 1 Tryd.underlying44 hi hz0 hz1 hz2 rfl (by decide) (.slice A k c) k (Lib.byteCells l) rfl (ownsRow_turns HO2.out (Turns.of_below (S := []) BA.out) (fun _ _ => by simp)) ⟨wr.heap.size, 0, none⟩ 1 [.int .u8 95] rfl rfl (World.news_of_block (heap_alloc_new wr _)) (by simp [Value.oneCell']) (by omega) (by decide) (by have := HB.out.size; simp; omega) _ rfl ?_; intro g cap w2 hown hgrow hat hlt; have HN := Lib.hid (show OwnB w2 w.heap.size (.slice (some ⟨g, 0, none⟩) (k + 1) cap) (l ++ [(95 : UInt8)]) from by unfold OwnB; rw [List.length_append, HL.out]; simpa [Lib.byteCells] using hown); have HG := Lib.hid (show Below w.heap.size w w2 from (HB.out.trans (BA.out.mono HB.out.size)).trans ((Turns.of_grown hgrow).below (by have := HB.out.size; have := BA.out.size; omega) (fun x hx => (ownBlock_cells HO2.out (by simpa using hx)).1))); clear hown hgrow hat hlt)
                exact ⟨⟨_, l ++ [(95 : UInt8)], rfl, k + 1, by go_num, by simp [HL.out], HN.out, HW.out.more TI.out, by have := HK.out; omega, by have := HK6.out; omega, HG.out⟩, by simp [intOf]; have := HK.out; omega⟩
            · skip
              have e0 : decide ((97 : Int) ≤ (b.toNat : Int)) = false := by simp; omega
              have d0 : decide (97 ≤ b.toNat) = false := by simp; omega
              have e1 : decide ((65 : Int) ≤ (b.toNat : Int)) = false := by simp; omega
              have d1 : decide (65 ≤ b.toNat) = false := by simp; omega
              have e2 : decide ((48 : Int) ≤ (b.toNat : Int)) = false := by simp; omega
              have d2 : decide (48 ≤ b.toNat) = false := by simp; omega
              have e3 : ((b.toNat : Int) == 95) = false := by simp; omega
              have TI := Lib.hid (show tailI ((95 : UInt8).toNat : Int) = true by decide)
              have BA := Lib.hid ((Below.refl wr.heap.size wr).alloc (Nat.le_refl _) (.cells #[.int .u8 95] 5))
              clear HX
              go_wp2_with (at_builtin; refine wpList_append1k _ rfl (.tmp 57) (.tmp 58) 44 rfl w.heap.size 5 i0 _ 1 1 Tryd.underlying44 hi hz0 hz1 hz2 rfl (by decide) (.slice A k c) k (Lib.byteCells l) rfl (ownsRow_turns HO2.out (Turns.of_below (S := []) BA.out) (fun _ _ => by simp)) ⟨wr.heap.size, 0, none⟩ 1 [.int .u8 95] rfl rfl (World.news_of_block (heap_alloc_new wr _)) (by simp [Value.oneCell']) (by omega) (by decide) (by have := HB.out.size; simp; omega) _ rfl ?_; intro g cap w2 hown hgrow hat hlt; have HN := Lib.hid (show OwnB w2 w.heap.size (.slice (some ⟨g, 0, none⟩) (k + 1) cap) (l ++ [(95 : UInt8)]) from by unfold OwnB; rw [List.length_append, HL.out]; simpa [Lib.byteCells] using hown); have HG := Lib.hid (show Below w.heap.size w w2 from (HB.out.trans (BA.out.mono HB.out.size)).trans ((Turns.of_grown hgrow).below (by have := HB.out.size; have := BA.out.size; omega) (fun x hx => (ownBlock_cells HO2.out (by simpa using hx)).1))); clear hown hgrow hat hlt)
              exact ⟨⟨_, l ++ [(95 : UInt8)], rfl, k + 1, by go_num, by simp [HL.out], HN.out, HW.out.more TI.out, by have := HK.out; omega, by have := HK6.out; omega, HG.out⟩, by simp [intOf]; have := HK.out; omega⟩
      · obtain ⟨g, rfl⟩ : ∃ g, A = some ⟨g, 0, none⟩ := by
          rcases HO2.out.2 with ⟨_, h⟩ | ⟨g, cap, cur, h, _⟩
          · have := HW.out.pos; omega
          · simp only [Value.slice.injEq] at h; exact ⟨g, h.1⟩
        have hcv := run_convert_bytes_back (P := Tryd.prog) wr 44 9 5 ⟨g, 0, none⟩ c l Tryd.underlying44 Tryd.underlying5 Tryd.underlying9 (fun j hj => by
          rw [add_none, Nat.zero_add, HO2.out.cellAt j (by omega), List.getElem?_eq_getElem (by rw [Lib.byteCells_length]; exact hj)]
          simp [Lib.byteCells])
        rw [hl] at hcv
        by_cases hk1 : k < s.size
        · have hk2 : k = 64 := by omega
          subst hk2
          have k1 : (64 : Int) < (s.size : Int) := by omega
          rcases Classical.em (l = [110, 111, 116]) with hn | hn
          · have hc2 : ((⟨l.toArray⟩ : ByteArray).toList == [110, 111, 116]) = true := by rw [toList_mk]; simpa using hn
            have hc3 : (⟨l.toArray⟩ : ByteArray).toList = [110, 111, 116] := by rw [toList_mk]; exact hn
            clear hn hb hl
            go_wp2
            go_ret
            exact ⟨_, rfl, by decide +kernel, by decide, HB.out⟩
          · have hc2 : ((⟨l.toArray⟩ : ByteArray).toList == [110, 111, 116]) = false := by rw [toList_mk]; simpa using hn
            have NM := Lib.hid (HW.out.name (by omega) hn)
            have SZ := Lib.hid (show (⟨l.toArray⟩ : ByteArray).size ≤ 64 from by show l.toArray.size ≤ 64; simp; omega)
            clear hn hb hl
            go_wp2
            all_goals go_ret
            all_goals first | exact ⟨_, rfl, NM.out, SZ.out, HB.out⟩ | exact ⟨_, rfl, by decide +kernel, by decide, HB.out⟩
        · have k1 : decide ((k : Int) < (s.size : Int)) = false := by simp; omega
          have k2 : decide (k < s.size) = false := by simp; omega
          rcases Classical.em (l = [110, 111, 116]) with hn | hn
          · have hc2 : ((⟨l.toArray⟩ : ByteArray).toList == [110, 111, 116]) = true := by rw [toList_mk]; simpa using hn
            have hc3 : (⟨l.toArray⟩ : ByteArray).toList = [110, 111, 116] := by rw [toList_mk]; exact hn
            clear hn hb hl
            go_wp2
            go_ret
            exact ⟨_, rfl, by decide +kernel, by decide, HB.out⟩
          · have hc2 : ((⟨l.toArray⟩ : ByteArray).toList == [110, 111, 116]) = false := by rw [toList_mk]; simpa using hn
            have NM := Lib.hid (HW.out.name (by omega) hn)
            have SZ := Lib.hid (show (⟨l.toArray⟩ : ByteArray).size ≤ 64 from by show l.toArray.size ≤ 64; simp; omega)
            clear hn hb hl
            go_wp2
            all_goals go_ret
            all_goals first | exact ⟨_, rfl, NM.out, SZ.out, HB.out⟩ | exact ⟨_, rfl, by decide +kernel, by decide, HB.out⟩
  · have e0 : s.size = 0 := by omega
    have hs0 : s = ⟨#[]⟩ := by
      apply ByteArray.ext
      exact Array.eq_empty_of_size_eq_zero e0
    subst hs0
    clear h0 e0
    go_enter Tryd.func33, Tryd.ntmps33
    go_wp2
    go_ret
    exact ⟨_, rfl, by decide +kernel, by decide, Below.refl _ _⟩
end Go.Proofs.YtblonickpmogiaaDoor
