/- sym.quoted: a text's canonical text. -/
import Derived.Test.YtblonickpmogiaaDoorBuild
import Derived.Test.YtblonickpmogiaaDoorEsc
import Derived.Test.YtblonickpmogiaaDoorValid
namespace Go.Proofs.YtblonickpmogiaaDoor
open Go.RowKit

/-- The builder, and the row of the text's bytes that is gone through. -/
structure Qs (s : ByteArray) (w0 wr : World) (b rb : Nat) (v : Value) (bs : List UInt8) : Prop where
  bu : Bu wr w0.heap.size b v bs
  row : ∀ j, j < s.size → wr.cell? ⟨rb, j, none⟩ = some (.int .u8 ((s.data.toList.getD j 0).toNat : Int))
  lt : rb < wr.heap.size
  nb : rb ≠ b
  nv : v.ownBlock ≠ some rb
  below : Below w0.heap.size w0 wr
  hb : w0.heap.size ≤ b
theorem Qs.write {s : ByteArray} {w0 wr w' : World} {b rb : Nat} {v : Value} {bs bs' : List UInt8} (h : Qs s w0 wr b rb v bs) (hw : Wr wr w' w0.heap.size b v bs') : ∃ v', Qs s w0 w' b rb v' bs' := by
  obtain ⟨v', h1, h2, h3⟩ := hw
  have hn : rb ∉ b :: v.ownBlock.toList := by
    intro hm
    rcases List.mem_cons.1 hm with e | e
    · exact h.nb e
    · exact h.nv (by simpa using e)
  refine ⟨v', h1, fun j hj => (h2.cell h.lt hn).trans (h.row j hj), Nat.lt_of_lt_of_le h.lt h2.size, h.nb, fun e => ?_, h.below.trans (h2.below h.below.size (fun x hx => ?_)), h.hb⟩
  · rcases h3 with h3 | ⟨g, h3, h4⟩
    · exact h.nv (h3 ▸ e)
    · rw [h3] at e
      have := Option.some.inj e
      have := h.lt
      omega
  · rcases List.mem_cons.1 hx with e | e
    · rw [e]; exact h.hb
    · exact (ownBlock_cells h.bu.own (by simpa using e)).1
theorem Qs.laid {s : ByteArray} {w0 wr w' : World} {b rb : Nat} {v : Value} {bs : List UInt8} (h : Qs s w0 wr b rb v bs) (hw : Below wr.heap.size wr w') : Qs s w0 w' b rb v bs :=
  ⟨h.bu.turns (Turns.of_below (S := []) hw) (by simp) (fun _ _ => by simp), fun j hj => (hw.cell (p := ⟨rb, j, none⟩) h.lt).trans (h.row j hj), Nat.lt_of_lt_of_le h.lt hw.size, h.nb, h.nv, h.below.trans (hw.mono h.below.size), h.hb⟩

theorem esc_len (b : UInt8) : (escS b).length ≤ 4 := by
  unfold escS
  repeat' split
  all_goals simp
theorem escs_len : ∀ l : List UInt8, (l.flatMap escS).length ≤ 4 * l.length
  | [] => by simp
  | a :: l => by
    rw [List.flatMap_cons, List.length_append, List.length_cons]
    have := esc_len a
    have := escs_len l
    omega
theorem str_at {s : ByteArray} {j : Nat} (h : j < s.size) : s.data.toList.getD j 0 = s[j] := by
  rw [List.getD_eq_getElem?_getD, List.getElem?_eq_getElem (by exact h)]
  rfl
theorem escs_step {s : ByteArray} {k : Nat} (h : k < s.size) : (s.data.toList.take (k + 1)).flatMap escS = (s.data.toList.take k).flatMap escS ++ escS (s.data.toList.getD k 0) := by
  rw [str_at h, List.take_add_one, List.getElem?_eq_getElem (by exact h), List.flatMap_append]
  simp
  rfl
set_option maxRecDepth 100000 in
set_option maxHeartbeats 4000000 in
theorem quotedW (s : ByteArray) (hs : s.size ≤ 255) (w : World) :
    Calls Tryd.prog 21 #[.string s] w fun e w' => e = .returned (.string ⟨(quoteL s.data.toList).toArray⟩) ∧ Below w.heap.size w w' := by
  have W34 : ∀ (W : World) (H b : Nat) (v : Value) (bs : List UInt8), Bl W H b v bs → H ≤ W.heap.size → bs.length ≤ 100000 → Calls Tryd.prog 35 #[.pointer (some ⟨b, 0, none⟩), .int .u8 34] W fun e w' => e = .returned .nilIface ∧ Wr W w' H b v (bs ++ [34]) := fun _ _ _ _ _ h h1 h2 => writeByteW h h1 34 h2
  have BN : Bl (w.alloc (.cells #[.pointer none, .slice none 0 0] 47)) w.heap.size w.heap.size (.slice none 0 0) [] := ⟨.inl (heap_alloc_new w _), ⟨rfl, .inl ⟨rfl, rfl⟩⟩, by simp [Value.ownBlock]⟩
  have WQ := Lib.hid (W34 _ _ _ _ _ BN (by simp) (by simp))
  have W4 := Lib.hid W34
  clear W34 BN
  go_enter Tryd.func21, Tryd.ntmps21
  go_wp2_with fail
  refine WQ.out.mono ?_
  rintro e w2 ⟨rfl, v2, hu2, ht2, hv2⟩
  have hb2 : Below w.heap.size w w2 := ((Below.refl _ w).alloc (Nat.le_refl _) _).trans (ht2.below (by simp) (fun x hx => by simp [Value.ownBlock] at hx; omega))
  have hlt2 := lt_of_heap hu2.blk
  have hcv := Lib.run_convert_string_bytes (P := Tryd.prog) w2 9 44 5 s (u := .string) Tryd.underlying9 Tryd.underlying44 Tryd.underlying5
  have hbw := Lib.bytesWorld_below w2 5 s
  have hq : Qs s w (Lib.bytesWorld w2 5 s) w.heap.size w2.heap.size v2 [34] := by
    refine ⟨hu2.turns (Turns.of_below (S := []) hbw) (by simp) (fun _ _ => by simp), fun j hj => ?_, ?_, by omega, fun e => ?_, hb2.trans (hbw.mono hb2.size), Nat.le_refl _⟩
    · exact Lib.bytesWorld_cell w2 5 s j hj
    · rw [Lib.bytesWorld_size]; omega
    · have := (ownBlock_cells hu2.own e).2.1; omega
  obtain ⟨W3, hW3⟩ : ∃ W3, W3 = Lib.bytesWorld w2 5 s := ⟨_, rfl⟩
  rw [← hW3] at hcv hq
  have HQ := Lib.hid hq
  clear hW3 hbw hq hb2 ht2 hv2 hu2
  go_wp2
  go_loopw [11] (fun i wr => ∃ (k : Nat) (v : Value), i = .int .i64 k ∧ k ≤ s.size ∧ Hid (Qs s w wr w.heap.size w2.heap.size v (34 :: (s.data.toList.take k).flatMap escS))) (fun i _ => s.size - (intOf i).toNat)
  case atStart => exact ⟨0, v2, rfl, Nat.zero_le _, by simpa using HQ⟩
  case round =>
    obtain ⟨k, v, rfl, hk, hq⟩ := hrel
    obtain ⟨BS, hBS⟩ : ∃ BS, BS = 34 :: (s.data.toList.take k).flatMap escS := ⟨_, rfl⟩
    have hlen : BS.length ≤ 1025 := by
      rw [hBS, List.length_cons]
      have := escs_len (s.data.toList.take k)
      have := List.length_take_le k s.data.toList
      omega
    have hbs0 : 0 < BS.length := by rw [hBS]; simp
    rw [← hBS] at hq
    by_cases hks : k < s.size
    · have c1 := hq.out.row k hks
      have hkk : (0 : Int) ≤ (k : Int) := by omega
      have hks' : (k : Int) < (s.size : Int) := by omega
      have hks2 := Lib.hid hks
      have NX := Lib.hid (fun (W : World) (vv : Value) (hh : Qs s w W w.heap.size w2.heap.size vv (BS ++ escS (s.data.toList.getD k 0))) => (show ∃ (k' : Nat) (v : Value), Value.int .i64 ((k : Int) + 1) = .int .i64 k' ∧ k' ≤ s.size ∧ Hid (Qs s w W w.heap.size w2.heap.size v (34 :: (s.data.toList.take k').flatMap escS)) from
        ⟨k + 1, vv, by simp, hks2.out, by rw [escs_step hks2.out]; rw [hBS] at hh; exact hh⟩))
      have LW := Lib.hid (fun W => letterW ((s.data.toList.getD k 0).toNat : Int) W)
      have EC := esc_cases (s.data.toList.getD k 0)
      have hb256 : (s.data.toList.getD k 0).toNat < 256 := (s.data.toList.getD k 0).toNat_lt
      obtain ⟨b, hb⟩ : ∃ b, b = s.data.toList.getD k 0 := ⟨_, rfl⟩
      rw [← hb] at c1 NX LW EC hb256
      clear hb hks hBS hcv HQ
      rcases EC with ⟨l, e1, e2, e3⟩ | ⟨e1, e2, e3, e4⟩ | ⟨e1, e2, e3⟩
      · rw [e1] at LW
        rw [e3] at NX
        have e4 : ((l.toNat : Int) == 0) = false := by simpa using e2
        clear e1 e2 e3
        go_wp2_with (go_at_call 36; refine (LW.out _).mono ?_; rintro e w' ⟨rfl, rfl⟩)
        have QA := Lib.hid (hq.out.laid ((Below.refl wr.heap.size wr).alloc (Nat.le_refl _) (.cells #[.int .u8 92, .int .u8 l.toNat] 5)))
        have hblt := Lib.hid (lt_of_heap hq.out.bu.blk)
        refine (writeW QA.out.bu.bl QA.out.below.size wr.heap.size 2 2 [92, l] rfl (by decide) (by have := hblt.out; omega) (fun j u hj => ?_) (by simp) (by simp; omega)).mono ?_
        · rw [cell_of_row _ wr.heap.size j _ _ _ (heap_alloc_new wr _)]
          simpa [Lib.byteCells] using hj
        rintro e w' ⟨rfl, hw⟩
        obtain ⟨v', hq'⟩ := QA.out.write hw
        have HF := Lib.hid hq'
        clear hw hq' hq c1
        go_wp2
        exact ⟨NX.out _ _ HF.out, by simp [intOf]; have := hks2.out; omega⟩
      · rw [e1] at LW
        rw [e4] at NX
        have f1 : (32 : Int) ≤ (b.toNat : Int) := by omega
        have f2 : (b.toNat : Int) ≤ 126 := by omega
        clear e1 e2 e3 e4
        go_wp2_with (go_at_call 36; refine (LW.out _).mono ?_; rintro e w' ⟨rfl, rfl⟩)
        refine (writeByteW hq.out.bu.bl hq.out.below.size b (by omega)).mono ?_
        rintro e w' ⟨rfl, hw⟩
        obtain ⟨v', hq'⟩ := hq.out.write hw
        have HF := Lib.hid hq'
        clear hw hq' hq c1
        go_wp2
        exact ⟨NX.out _ _ HF.out, by simp [intOf]; have := hks2.out; omega⟩
      · rw [e1] at LW
        rw [e3] at NX
        have WS := Lib.hid (fun (W : World) (v : Value) (bs : List UInt8) (h : Bl W w.heap.size w.heap.size v bs) (h1 : w.heap.size ≤ W.heap.size) (h2 : 0 < bs.length) (h3 : bs.length ≤ 90000) => (show Calls Tryd.prog 38 #[.pointer (some ⟨w.heap.size, 0, none⟩), .string ⟨#[92, 120]⟩] W fun e w' => e = .returned (.tuple #[.int .i64 2, .nilIface]) ∧ Wr W w' w.heap.size w.heap.size v (bs ++ [92, 120]) from
          writeStringW h h1 h2 ⟨#[92, 120]⟩ (by show bs.length + 2 ≤ _; omega)))
        have A1 := and15 b.toNat hb256
        have S1 : (b.toNat : Int) / 16 = ((b.toNat / 16 : Nat) : Int) := rfl
        obtain ⟨hi, hhi⟩ : ∃ hi, hi = b.toNat / 16 := ⟨_, rfl⟩
        obtain ⟨lo, hlo⟩ : ∃ lo, lo = b.toNat % 16 := ⟨_, rfl⟩
        have X1 := fun W => index_hex hi (by omega) W
        have X2 := fun W => index_hex lo (by omega) W
        rw [← hhi] at S1 NX
        rw [← hlo] at A1 NX
        clear hhi hlo
        have hpos : 0 < BS.length := hbs0
        by_cases g1 : 32 ≤ b.toNat
        · have g2 : decide (b.toNat ≤ 126) = false := by simp; omega
          have g3 : decide ((b.toNat : Int) ≤ 126) = false := by simp; omega
          have g4 : (32 : Int) ≤ (b.toNat : Int) := by omega
          clear e1 e2 e3
          go_wp2_with (go_at_call 36; refine (LW.out _).mono ?_; rintro e w' ⟨rfl, rfl⟩)
          refine (WS.out _ _ _ hq.out.bu.bl hq.out.below.size hpos (by omega)).mono ?_
          rintro e w4 ⟨rfl, hw⟩
          obtain ⟨v4, hq4⟩ := hq.out.write hw
          have H4 := Lib.hid hq4
          clear hw hq4 hq c1
          go_wp2_with fail
          refine (writeByteW H4.out.bu.bl H4.out.below.size (hexU hi) (by simp; omega)).mono ?_
          rintro e w5 ⟨rfl, hw⟩
          obtain ⟨v5, hq5⟩ := H4.out.write hw
          have H5 := Lib.hid hq5
          clear hw hq5 H4
          go_wp2_with fail
          refine (writeByteW H5.out.bu.bl H5.out.below.size (hexU lo) (by simp; omega)).mono ?_
          rintro e w6 ⟨rfl, hw⟩
          obtain ⟨v6, hq6⟩ := H5.out.write hw
          have HF := Lib.hid (show Qs s w w6 w.heap.size w2.heap.size v6 (BS ++ [92, 120, hexU hi, hexU lo]) from by simpa using hq6)
          clear hw hq6 H5
          go_wp2
          exact ⟨NX.out _ _ HF.out, by simp [intOf]; have := hks2.out; omega⟩
        · have g2 : decide (32 ≤ b.toNat) = false := by simp; omega
          have g3 : decide ((32 : Int) ≤ (b.toNat : Int)) = false := by simp; omega
          clear e1 e2 e3 g1
          go_wp2_with (go_at_call 36; refine (LW.out _).mono ?_; rintro e w' ⟨rfl, rfl⟩)
          refine (WS.out _ _ _ hq.out.bu.bl hq.out.below.size hpos (by omega)).mono ?_
          rintro e w4 ⟨rfl, hw⟩
          obtain ⟨v4, hq4⟩ := hq.out.write hw
          have H4 := Lib.hid hq4
          clear hw hq4 hq c1
          go_wp2_with fail
          refine (writeByteW H4.out.bu.bl H4.out.below.size (hexU hi) (by simp; omega)).mono ?_
          rintro e w5 ⟨rfl, hw⟩
          obtain ⟨v5, hq5⟩ := H4.out.write hw
          have H5 := Lib.hid hq5
          clear hw hq5 H4
          go_wp2_with fail
          refine (writeByteW H5.out.bu.bl H5.out.below.size (hexU lo) (by simp; omega)).mono ?_
          rintro e w6 ⟨rfl, hw⟩
          obtain ⟨v6, hq6⟩ := H5.out.write hw
          have HF := Lib.hid (show Qs s w w6 w.heap.size w2.heap.size v6 (BS ++ [92, 120, hexU hi, hexU lo]) from by simpa using hq6)
          clear hw hq6 H5
          go_wp2
          exact ⟨NX.out _ _ HF.out, by simp [intOf]; have := hks2.out; omega⟩
    · obtain rfl : k = s.size := by omega
      have HB := Lib.hid (show BS ++ [34] = quoteL s.data.toList by
        rw [hBS, List.take_of_length_le (by exact Nat.le_refl s.size)]
        rfl)
      clear hBS hcv HQ
      go_wp2_with fail
      refine (W4.out _ _ _ _ _ hq.out.bu.bl hq.out.below.size (by omega)).mono ?_
      rintro e w' ⟨rfl, hw⟩
      obtain ⟨v', hq'⟩ := hq.out.write hw
      have HF := Lib.hid hq'
      clear hw hq' hq
      go_wp2_with fail
      refine (Tryd.Builder_String_any w.heap.size w.heap.size (BS ++ [34]) w' (.inr ⟨Nat.le_refl _, v', HF.out.bu.blk, by rw [Lib.byteCells_length]; exact HF.out.bu.own, HF.out.bu.ne⟩) HF.out.below.size).mono ?_
      rintro e w8 ⟨rfl, hb8⟩
      have HE := Lib.hid (HF.out.below.trans hb8)
      clear hb8
      go_wp2
      go_ret
      have hB := HB.out
      exact ⟨by rw [← hB]; first | rfl | simp, HE.out⟩
end Go.Proofs.YtblonickpmogiaaDoor
