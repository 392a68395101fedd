/- The walk of SymStrict: it returns true. -/
import Derived.Test.YtblonickpmogiaaDoorLetters
import Derived.Test.YtblonickpmogiaaDoorBackW
namespace Go.Proofs.YtblonickpmogiaaDoor
open Go.RowKit

theorem letsz (l : List UInt8) : (((⟨#[34]⟩ ++ ⟨l.toArray⟩) ++ ⟨#[34]⟩ : ByteArray)).size = l.length + 2 := by
  rw [size_list, cat_list, cat_list]
  simp
theorem catsz (s : ByteArray) : (s ++ ⟨#[32]⟩ : ByteArray).size = s.size + 1 ∧ ((⟨#[32]⟩ : ByteArray) ++ s).size = s.size + 1 := by
  constructor
  · rw [size_list, cat_list, List.length_append, ← size_list]; rfl
  · rw [size_list, cat_list, List.length_append, ← size_list, Nat.add_comm]; rfl

set_option maxRecDepth 100000 in
set_option maxHeartbeats 8000000 in
theorem strictW (s : ByteArray) (hs : s.size ≤ 140737488351232) (w : World) (hv : Ev w) (ht : Tab w) : Calls Tryd.prog 6 #[.string s] w fun e w' => e = .returned (.bool true) ∧ Below w.heap.size w w' := by
  have EV := Lib.hid (fun (W : World) (hW : Below w.heap.size w W) => hv.below (Nat.le_refl _) hW)
  have TB := Lib.hid (fun (W : World) (hW : Below w.heap.size w W) => ht.below (Nat.le_refl _) hW)
  have LW := Lib.hid (fun W => lettersW s (by omega) W)
  have R0 := Lib.hid (readW s (by omega) w hv ht)
  clear hv ht
  rcases read_cases s with ⟨c, vc, tc, gc, _, rc⟩ | rc
  · have okc : c.ok := gc ▸ guess_ok s (by unfold maxLen; omega)
    rw [rc] at R0
    have RA := Lib.hid (fun (W : World) (hW : Below w.heap.size w W) => readW (s ++ ⟨#[32]⟩) (by have := catsz s; omega) W (EV.out W hW) (TB.out W hW))
    have RB := Lib.hid (fun (W : World) (hW : Below w.heap.size w W) => readW (⟨#[32]⟩ ++ s) (by have := catsz s; omega) W (EV.out W hW) (TB.out W hW))
    rw [read_behind] at RA
    rw [read_ahead] at RB
    have RA : Hid (∀ W, Below w.heap.size w W → Calls Tryd.prog 15 #[.string (s ++ ⟨#[32]⟩)] W fun e w' => e = .returned (.tuple #[.agg #[.int .i64 0, .int .i64 0, .string ⟨#[]⟩], .int .i64 5]) ∧ Below W.heap.size W w') := RA
    have RB : Hid (∀ W, Below w.heap.size w W → Calls Tryd.prog 15 #[.string (⟨#[32]⟩ ++ s)] W fun e w' => e = .returned (.tuple #[.agg #[.int .i64 0, .int .i64 0, .string ⟨#[]⟩], .int .i64 5]) ∧ Below W.heap.size W w') := RB
    have VC := Lib.hid (fun W => validW c okc.2.2 W)
    rw [vc] at VC
    have TC := Lib.hid (fun (W : World) (hW : Below w.heap.size w W) => textW c okc W (TB.out W hW))
    rw [tc] at TC
    clear rc gc tc vc okc
    go_enter Tryd.func6, Tryd.ntmps6
    go_wp2_with fail
    refine R0.out.mono ?_
    rintro e w1 ⟨rfl, hb1⟩
    have H2 := Lib.hid (hb1.alloc hb1.size (.cells #[.int .i64 c.k, .int .i64 c.n, .string c.s] 25))
    have C2 := Lib.hid (Bx.new w1 c)
    clear hb1 R0
    go_wp2_with fail
    refine (VC.out _).mono ?_
    rintro e w3 ⟨rfl, hb3⟩
    have H3 := Lib.hid (H2.out.trans (hb3.mono H2.out.size))
    obtain ⟨c0, c1, c2⟩ := C2.out.below (Nat.le_refl _) hb3
    clear hb3 VC C2 H2
    go_wp2_with fail
    refine (TC.out _ H3.out).mono ?_
    rintro e w4 ⟨rfl, hb4⟩
    have H4 := Lib.hid (H3.out.trans (hb4.mono H3.out.size))
    clear hb4 TC H3 c0 c1 c2
    go_wp2_with fail
    refine (RA.out _ H4.out).mono ?_
    rintro e w5 ⟨rfl, hb5⟩
    have H5 := Lib.hid ((H4.out.trans (hb5.mono H4.out.size)).alloc (by have := H4.out.size; have := hb5.size; omega) (.cells #[.int .i64 0, .int .i64 0, .string ⟨#[]⟩] 25))
    have C5 := Lib.hid (Bx.new w5 ⟨0, 0, ⟨#[]⟩⟩)
    clear hb5 H4 RA
    go_wp2_with fail
    refine (RB.out _ H5.out).mono ?_
    rintro e w6 ⟨rfl, hb6⟩
    have H6 := Lib.hid ((H5.out.trans (hb6.mono H5.out.size)).alloc (by have := H5.out.size; have := hb6.size; omega) (.cells #[.int .i64 0, .int .i64 0, .string ⟨#[]⟩] 25))
    have C6 := (C5.out.below (Nat.le_refl _) hb6).below (Nat.le_refl _) ((Below.refl _ w6).alloc (Nat.le_refl _) (.cells #[.int .i64 0, .int .i64 0, .string ⟨#[]⟩] 25))
    obtain ⟨z0, z1, z2⟩ := C6
    clear hb6 H5 RB C5
    go_wp2_with fail
    refine (LW.out _).mono ?_
    rintro e w7 ⟨l, rfl, hl1, hl2, hbA⟩
    have HA := Lib.hid (H6.out.trans (hbA.mono H6.out.size))
    have RL := Lib.hid (fun (W : World) (hW : Below w.heap.size w W) => readW ((⟨#[34]⟩ ++ ⟨l.toArray⟩) ++ ⟨#[34]⟩) (by have : (⟨l.toArray⟩ : ByteArray).size = l.length := (by rw [size_list]); have := letsz l; omega) W (EV.out W hW) (TB.out W hW))
    rw [read_letters hl1 hl2] at RL
    have hsz : (⟨l.toArray⟩ : ByteArray).size ≤ 255 := by rw [size_list]; exact hl2
    obtain ⟨L, hL⟩ : ∃ L : ByteArray, L = ⟨l.toArray⟩ := ⟨_, rfl⟩
    rw [← hL] at hsz RL
    have EQ := fun W => eql_cst ⟨3, 0, L⟩ ⟨3, 0, L⟩ W
    rw [show sameB ⟨3, 0, L⟩ ⟨3, 0, L⟩ = true from sameB_iff.2 rfl] at EQ
    rw [← hL]
    clear hL hl1 hl2 hbA EV TB LW
    go_wp2_with fail
    refine (RL.out _ HA.out).mono ?_
    rintro e w8 ⟨rfl, hbB⟩
    have HB := Lib.hid ((HA.out.trans (hbB.mono HA.out.size)).alloc (by have := HA.out.size; have := hbB.size; omega) (.cells #[.int .i64 3, .int .i64 0, .string L] 25))
    clear hbB RL
    go_wp2_with fail
    go_ret
    exact ⟨rfl, HB.out⟩
  · rw [rc] at R0
    have R0 : Hid (Calls Tryd.prog 15 #[.string s] w fun e w' => e = .returned (.tuple #[.agg #[.int .i64 0, .int .i64 0, .string ⟨#[]⟩], .int .i64 5]) ∧ Below w.heap.size w w') := R0
    clear rc
    go_enter Tryd.func6, Tryd.ntmps6
    go_wp2_with fail
    refine R0.out.mono ?_
    rintro e w1 ⟨rfl, hb1⟩
    have H2 := Lib.hid (hb1.alloc hb1.size (.cells #[.int .i64 0, .int .i64 0, .string ⟨#[]⟩] 25))
    clear hb1 R0
    go_wp2_with fail
    refine (LW.out _).mono ?_
    rintro e w7 ⟨l, rfl, hl1, hl2, hbA⟩
    have HA := Lib.hid (H2.out.trans (hbA.mono H2.out.size))
    have RL := Lib.hid (fun (W : World) (hW : Below w.heap.size w W) => readW ((⟨#[34]⟩ ++ ⟨l.toArray⟩) ++ ⟨#[34]⟩) (by have : (⟨l.toArray⟩ : ByteArray).size = l.length := (by rw [size_list]); have := letsz l; omega) W (EV.out W hW) (TB.out W hW))
    rw [read_letters hl1 hl2] at RL
    have hsz : (⟨l.toArray⟩ : ByteArray).size ≤ 255 := by rw [size_list]; exact hl2
    obtain ⟨L, hL⟩ : ∃ L : ByteArray, L = ⟨l.toArray⟩ := ⟨_, rfl⟩
    rw [← hL] at hsz RL
    have EQ := fun W => eql_cst ⟨3, 0, L⟩ ⟨3, 0, L⟩ W
    rw [show sameB ⟨3, 0, L⟩ ⟨3, 0, L⟩ = true from sameB_iff.2 rfl] at EQ
    rw [← hL]
    clear hL hl1 hl2 hbA EV TB LW
    go_wp2_with fail
    refine (RL.out _ HA.out).mono ?_
    rintro e w8 ⟨rfl, hbB⟩
    have HB := Lib.hid ((HA.out.trans (hbB.mono HA.out.size)).alloc (by have := HA.out.size; have := hbB.size; omega) (.cells #[.int .i64 3, .int .i64 0, .string L] 25))
    clear hbB RL
    go_wp2_with fail
    go_ret
    exact ⟨rfl, HB.out⟩
end Go.Proofs.YtblonickpmogiaaDoor
