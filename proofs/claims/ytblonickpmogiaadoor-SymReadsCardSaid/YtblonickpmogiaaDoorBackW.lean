/- The walk of SymBack: it returns true. -/
import Derived.Test.YtblonickpmogiaaDoorBackLaw
import Derived.Test.YtblonickpmogiaaDoorMade
import Derived.Test.YtblonickpmogiaaDoorClass
namespace Go.Proofs.YtblonickpmogiaaDoor
open Go.RowKit

/-- The two boxes of the arguments. -/
theorem back_pre (a b : Cst) (w : World) : ∃ W2, W2 = (w.alloc (.cells #[.int .i64 a.k, .int .i64 a.n, .string a.s] 25)).alloc (.cells #[.int .i64 b.k, .int .i64 b.n, .string b.s] 25) ∧ Below w.heap.size w W2 ∧ W2.heap.size = w.heap.size + 2 ∧
    ∀ W, Below W2.heap.size W2 W → W.cell? ⟨w.heap.size + 1, 0, none⟩ = some (.int .i64 b.k) ∧ W.cell? ⟨w.heap.size + 1, 1, none⟩ = some (.int .i64 b.n) ∧ W.cell? ⟨w.heap.size + 1, 2, none⟩ = some (.string b.s) := by
  refine ⟨_, rfl, ((Below.refl w.heap.size w).alloc (Nat.le_refl _) _).alloc (by simp) _, by simp, fun W hb => ?_⟩
  have h := box3 (c := b) hb
  simpa using h
/-- The box of a constant, held behind. -/
structure Bx (w : World) (b : Nat) (c : Cst) : Prop where
  c0 : w.cell? ⟨b, 0, none⟩ = some (.int .i64 c.k)
  c1 : w.cell? ⟨b, 1, none⟩ = some (.int .i64 c.n)
  c2 : w.cell? ⟨b, 2, none⟩ = some (.string c.s)
theorem Bx.below {w w' : World} {b B : Nat} {c : Cst} (h : Bx w b c) (hB : w.heap.size ≤ B) (hb : Below B w w') : Bx w' b c := by
  have := cell_lt h.c0
  exact ⟨(hb.cell (p := ⟨b, 0, none⟩) (by show b < B; omega)).trans h.c0, (hb.cell (p := ⟨b, 1, none⟩) (by show b < B; omega)).trans h.c1, (hb.cell (p := ⟨b, 2, none⟩) (by show b < B; omega)).trans h.c2⟩
theorem Bx.lt {w : World} {b : Nat} {c : Cst} (h : Bx w b c) : b < w.heap.size := cell_lt h.c0
theorem Bx.new (w : World) (c : Cst) : Bx (w.alloc (.cells #[.int .i64 c.k, .int .i64 c.n, .string c.s] 25)) w.heap.size c := by
  obtain ⟨h0, h1, h2⟩ := box3 (w := w) (c := c) (Below.refl _ _)
  exact ⟨h0, h1, h2⟩

set_option maxRecDepth 100000 in
set_option maxHeartbeats 8000000 in
theorem backW (a b : Cst) (ha : a.ok) (hb : b.ok) (w : World) (hv : Ev w) (ht : Tab w) : Calls Tryd.prog 5 #[.agg #[.int .i64 a.k, .int .i64 a.n, .string a.s], .agg #[.int .i64 b.k, .int .i64 b.n, .string b.s]] w fun e w' => e = .returned (.bool true) ∧ Below w.heap.size w w' := by
  have MA := Lib.hid (fun W => madeW a ha W)
  have MB := Lib.hid (fun W => madeW b hb W)
  have EV := Lib.hid (fun (W : World) (hW : Below w.heap.size w W) => hv.below (Nat.le_refl _) hW)
  have TB := Lib.hid (fun (W : World) (hW : Below w.heap.size w W) => ht.below (Nat.le_refl _) hW)
  obtain ⟨W2, hW2, hB, hS, hX⟩ := back_pre a b w
  have HX := Lib.hid hX
  have HB := Lib.hid hB
  have HS := Lib.hid hS
  clear ha hb hv ht hX hB hS
  go_enter Tryd.func5, Tryd.ntmps5
  go_wp2_with fail
  rw [← hW2]
  clear hW2
  refine (MA.out _).mono ?_
  rintro e w1 ⟨c, rfl, okc, vc, hb1⟩
  have OC := Lib.hid (And.intro okc vc)
  have H1 := Lib.hid (HB.out.trans (hb1.mono HB.out.size))
  have hxb : Bx w1 (w.heap.size + 1) b := by obtain ⟨b0, b1, b2⟩ := HX.out w1 hb1; exact ⟨b0, b1, b2⟩
  obtain ⟨b0, b1, b2⟩ := hxb.below (Nat.le_refl _) ((Below.refl _ w1).alloc (Nat.le_refl _) (.cells #[.int .i64 c.k, .int .i64 c.n, .string c.s] 25))
  have BC := Lib.hid (Bx.new w1 c)
  have H3 := Lib.hid (H1.out.alloc H1.out.size (.cells #[.int .i64 c.k, .int .i64 c.n, .string c.s] 25))
  clear okc vc hb1 HX hxb H1
  go_wp2_with fail
  refine (MB.out _).mono ?_
  rintro e w2 ⟨d, rfl, okd, vd, hb2⟩
  have OD := Lib.hid (And.intro okd vd)
  have H4 := Lib.hid (H3.out.trans (hb2.mono H3.out.size))
  have C2 := Lib.hid (BC.out.below (Nat.le_refl _) hb2)
  obtain ⟨c0, c1, c2⟩ := C2.out.below (Nat.le_refl _) ((Below.refl _ w2).alloc (Nat.le_refl _) (.cells #[.int .i64 d.k, .int .i64 d.n, .string d.s] 25))
  have D5 := Lib.hid (Bx.new w2 d)
  have C5 := Lib.hid (C2.out.below (Nat.le_refl _) ((Below.refl _ w2).alloc (Nat.le_refl _) (.cells #[.int .i64 d.k, .int .i64 d.n, .string d.s] 25)))
  have H5 := Lib.hid (H4.out.alloc H4.out.size (.cells #[.int .i64 d.k, .int .i64 d.n, .string d.s] 25))
  clear okd vd hb2 b0 b1 b2 BC H3 C2
  go_wp2_with fail
  refine (textW c OC.out.1 _ (TB.out _ H5.out)).mono ?_
  rintro e w3 ⟨rfl, hb3⟩
  have H6 := Lib.hid (H5.out.trans (hb3.mono H5.out.size))
  have C6 := Lib.hid (C5.out.below (Nat.le_refl _) hb3)
  have D6 := Lib.hid (D5.out.below (Nat.le_refl _) hb3)
  obtain ⟨d0, d1, d2⟩ := D6.out
  clear hb3 c0 c1 c2 D5 C5 H5 H4
  go_wp2_with fail
  refine (textW d OD.out.1 _ (TB.out _ H6.out)).mono ?_
  rintro e w4 ⟨rfl, hb4⟩
  have H7 := Lib.hid (H6.out.trans (hb4.mono H6.out.size))
  have C7 := Lib.hid (C6.out.below (Nat.le_refl _) hb4)
  have D7 := Lib.hid (D6.out.below (Nat.le_refl _) hb4)
  clear hb4 d0 d1 d2 C6 D6 H6
  obtain ⟨S, hS⟩ : ∃ S, S = textB c := ⟨_, rfl⟩
  obtain ⟨T, hT⟩ : ∃ T, T = textB d := ⟨_, rfl⟩
  obtain ⟨q, hq⟩ : ∃ q, q = sameB c d := ⟨_, rfl⟩
  have hST : (S.toList == T.toList) = q := by
    rw [hS, hT, hq, Bool.eq_iff_iff, sameB_iff, beq_iff_eq]
    exact ⟨fun h => text_inj OC.out.2 OD.out.2 OC.out.1.2.1 OD.out.1.2.1 (toList_inj h), fun h => by rw [h]⟩
  have hE : S.toList.isEmpty = false := by
    rw [hS]
    exact nonempty (by have := (guess_text OC.out.2 OC.out.1.2.1).2; omega)
  have VC := Lib.hid (fun W => validW c OC.out.1.2.2 W)
  have VD := Lib.hid (fun W => validW d OD.out.1.2.2 W)
  rw [OC.out.2] at VC
  rw [OD.out.2] at VD
  have EQ := fun W => eql_cst c d W
  rw [← hq] at EQ
  rw [← hS, ← hT]
  have HS1 := Lib.hid hS
  clear hS hT hq
  obtain ⟨c0, c1, c2⟩ := C7.out
  go_wp2_with fail
  refine (VC.out _).mono ?_
  rintro e w5 ⟨rfl, hb5⟩
  have H8 := Lib.hid (H7.out.trans (hb5.mono H7.out.size))
  have C8 := Lib.hid (C7.out.below (Nat.le_refl _) hb5)
  have D8 := Lib.hid (D7.out.below (Nat.le_refl _) hb5)
  obtain ⟨d0, d1, d2⟩ := D8.out
  clear hb5 c0 c1 c2 C7 D7 H7
  go_wp2_with fail
  refine (VD.out _).mono ?_
  rintro e w6 ⟨rfl, hb6⟩
  have H9 := Lib.hid (H8.out.trans (hb6.mono H8.out.size))
  have C9 := Lib.hid (C8.out.below (Nat.le_refl _) hb6)
  have D9 := Lib.hid (D8.out.below (Nat.le_refl _) hb6)
  obtain ⟨c0, c1, c2⟩ := C9.out
  clear hb6 d0 d1 d2 C8 D8 H8
  obtain ⟨d0, d1, d2⟩ := D9.out
  go_wp2_with fail
  clear EQ VC VD hST hE d0 d1 d2
  have TBY := Lib.hid (show ∀ k : Nat, k < S.size → vis (gB S k) from fun k hk => by rw [HS1.out] at hk ⊢; exact text_byte OC.out.2 hk)
  have hlen : S.size ≤ 1022 := by rw [HS1.out]; exact text_len OC.out.2 OC.out.1.2.1
  go_loopw [9] (fun i wr => ∃ k : Nat, i = .int .i64 k ∧ k ≤ S.size ∧ wr = w6) (fun i _ => S.size - (intOf i).toNat)
  case atStart => exact ⟨0, rfl, Nat.zero_le _, rfl⟩
  case round =>
    obtain ⟨k, rfl, hk, rfl⟩ := hrel
    by_cases hk1 : k < S.size
    · have k1 : (k : Int) < (S.size : Int) := by omega
      have hkk : (0 : Int) ≤ (k : Int) := by omega
      have hq : ∀ W, (Instr.index 9 (.string S) (.int .i64 (k : Int))).run Tryd.prog W = .ok (.int .u8 ((gB S k).toNat : Int)) W := fun W => by rw [gB_at hk1]; simp [go_sem, k1]
      obtain ⟨x, hx⟩ : ∃ x : Int, x = ((gB S k).toNat : Int) := ⟨_, rfl⟩
      obtain ⟨h1, h2⟩ := TBY.out k hk1
      have e1 : ¬ x < 32 := by omega
      have e2 : ¬ 126 < x := by omega
      rw [← hx] at hq
      have HK := Lib.hid hk1
      clear hx h1 h2 c0 c1 c2 hk1 hk
      go_wp2_with fail
      exact ⟨⟨k + 1, by go_num, HK.out, trivial⟩, by simp [intOf]; have := HK.out; omega⟩
    · have hz : 0 < S.size := by have := (guess_text OC.out.2 OC.out.1.2.1).2; rw [← HS1.out] at this; omega
      have k0 : (0 : Int) < (S.size : Int) := by omega
      have hq0 : ∀ W, (Instr.index 9 (.string S) (.int .i64 0)).run Tryd.prog W = .ok (.int .u8 ((gB S 0).toNat : Int)) W := fun W => by rw [gB_at hz]; simp [go_sem, hz]
      have RW := Lib.hid (fun W => fun (hW : Below w.heap.size w W) => readW S (by rw [HS1.out]; have := text_len OC.out.2 OC.out.1.2.1; omega) W (EV.out W hW) (TB.out W hW))
      have RT := Lib.hid (show readB S = (c, 0) from by rw [HS1.out]; exact read_text OC.out.2 OC.out.1.2.1)
      rw [RT.out] at RW
      have EQ := fun W => eql_cst c c W
      rw [show sameB c c = true from sameB_iff.2 rfl] at EQ
      have KD := text_first OC.out.2
      rw [← HS1.out] at KD
      obtain ⟨x, hx⟩ : ∃ x : Int, x = ((gB S 0).toNat : Int) := ⟨_, rfl⟩
      have KD2 : ((c.k = 1 ∧ (x == 34) = false ∧ ¬ 97 ≤ x) ∨ (c.k = 2 ∧ (x == 34) = false ∧ 97 ≤ x ∧ x ≤ 122)) ∨ (c.k = 3 ∧ x = 34) := by
        rcases KD with ⟨h1, h2, h3⟩ | ⟨h1, h2, h3⟩ | ⟨h1, h2⟩
        · exact .inl (.inl ⟨h1, by rw [beq_eq_false_iff_ne]; omega, by omega⟩)
        · exact .inl (.inr ⟨h1, by rw [beq_eq_false_iff_ne]; omega, by omega, by omega⟩)
        · exact .inr ⟨h1, by rw [hx, h2]; rfl⟩
      rw [← hx] at hq0
      clear KD hx k0 hz c0 c1 c2 RT HS1 TBY TB EV
      rcases KD2 with (⟨h1, h2, h3⟩ | ⟨h1, h2, h3, h4⟩) | ⟨h1, h2⟩
      · have hk : ((1 : Int) == c.k) = true := by rw [h1]; rfl
        clear h1
        go_wp2_with fail
        refine (RW.out _ H9.out).mono ?_
        rintro e w7 ⟨rfl, hb7⟩
        have C10 := Lib.hid ((C9.out.below (Nat.le_refl _) hb7).below (Nat.le_refl _) ((Below.refl _ w7).alloc (Nat.le_refl _) (.cells #[.int .i64 c.k, .int .i64 c.n, .string c.s] 25)))
        have H10 := Lib.hid ((H9.out.trans (hb7.mono H9.out.size)).alloc (by have := H9.out.size; have := hb7.size; omega) (.cells #[.int .i64 c.k, .int .i64 c.n, .string c.s] 25))
        obtain ⟨c0, c1, c2⟩ := C10.out
        clear hb7
        go_wp2_with fail
        go_ret
        exact ⟨rfl, H10.out⟩
      · have hk : ((2 : Int) == c.k) = true := by rw [h1]; rfl
        clear h1
        go_wp2_with fail
        refine (RW.out _ H9.out).mono ?_
        rintro e w7 ⟨rfl, hb7⟩
        have C10 := Lib.hid ((C9.out.below (Nat.le_refl _) hb7).below (Nat.le_refl _) ((Below.refl _ w7).alloc (Nat.le_refl _) (.cells #[.int .i64 c.k, .int .i64 c.n, .string c.s] 25)))
        have H10 := Lib.hid ((H9.out.trans (hb7.mono H9.out.size)).alloc (by have := H9.out.size; have := hb7.size; omega) (.cells #[.int .i64 c.k, .int .i64 c.n, .string c.s] 25))
        obtain ⟨c0, c1, c2⟩ := C10.out
        clear hb7
        go_wp2_with fail
        go_ret
        exact ⟨rfl, H10.out⟩
      · have hk : ((3 : Int) == c.k) = true := by rw [h1]; rfl
        clear h1
        subst h2
        go_wp2_with fail
        refine (RW.out _ H9.out).mono ?_
        rintro e w7 ⟨rfl, hb7⟩
        have C10 := Lib.hid ((C9.out.below (Nat.le_refl _) hb7).below (Nat.le_refl _) ((Below.refl _ w7).alloc (Nat.le_refl _) (.cells #[.int .i64 c.k, .int .i64 c.n, .string c.s] 25)))
        have H10 := Lib.hid ((H9.out.trans (hb7.mono H9.out.size)).alloc (by have := H9.out.size; have := hb7.size; omega) (.cells #[.int .i64 c.k, .int .i64 c.n, .string c.s] 25))
        obtain ⟨c0, c1, c2⟩ := C10.out
        clear hb7
        go_wp2_with fail
        go_ret
        exact ⟨rfl, H10.out⟩
end Go.Proofs.YtblonickpmogiaaDoor
