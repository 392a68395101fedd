/- strconv.ParseUint of two bytes at base 16, 8 bits. -/
import Derived.Test.YtblonickpmogiaaDoorReadLaw
import Derived.Test.YtblonickpmogiaaDoorShelfR
import Derived.IntWalk
import Derived.Lib.AtoiErrMem
namespace Go.Proofs.YtblonickpmogiaaDoor
open Go.RowKit

/-- What the library makes of one byte. -/
inductive HexC (c : UInt8) : Prop
  | dig (h1 : 48 ≤ c.toNat) (h2 : c.toNat ≤ 57) (hv : hexV c = some (c.toNat - 48))
  | let1 (l : Nat) (hn : ¬ (48 ≤ c.toNat ∧ c.toNat ≤ 57)) (hl : bits .or .u8 (c.toNat : Int) 32 = (l : Int)) (h1 : 97 ≤ l) (h2 : l ≤ 102) (hv : hexV c = some (l - 87))
  | far (l : Nat) (hn : ¬ (48 ≤ c.toNat ∧ c.toNat ≤ 57)) (hl : bits .or .u8 (c.toNat : Int) 32 = (l : Int)) (h1 : 103 ≤ l) (h2 : l ≤ 122) (hv : hexV c = none)
  | out (l : Nat) (hn : ¬ (48 ≤ c.toNat ∧ c.toNat ≤ 57)) (hl : bits .or .u8 (c.toNat : Int) 32 = (l : Int)) (h1 : ¬ (97 ≤ l ∧ l ≤ 122)) (hv : hexV c = none)
theorem hexC (c : UInt8) : HexC c := by
  have a : ∀ k : Fin 256, (48 ≤ k.val ∧ k.val ≤ 57 ∧ hexV (UInt8.ofNat k.val) = some (k.val - 48)) ∨ (¬ (48 ≤ k.val ∧ k.val ≤ 57) ∧ bits .or .u8 ((k.val : Nat) : Int) 32 = ((k.val ||| 32 : Nat) : Int) ∧
    ((97 ≤ (k.val ||| 32) ∧ (k.val ||| 32) ≤ 102 ∧ hexV (UInt8.ofNat k.val) = some ((k.val ||| 32) - 87)) ∨ (103 ≤ (k.val ||| 32) ∧ (k.val ||| 32) ≤ 122 ∧ hexV (UInt8.ofNat k.val) = none) ∨ (¬ (97 ≤ (k.val ||| 32) ∧ (k.val ||| 32) ≤ 122) ∧ hexV (UInt8.ofNat k.val) = none))) := by decide +kernel
  have h := a ⟨c.toNat, c.toNat_lt⟩
  simp only [UInt8.ofNat_toNat] at h
  rcases h with ⟨h1, h2, h3⟩ | ⟨h1, h2, ⟨h3, h4, h5⟩ | ⟨h3, h4, h5⟩ | ⟨h3, h5⟩⟩
  · exact .dig h1 h2 h3
  · exact .let1 _ h1 h2 h3 h4 h5
  · exact .far _ h1 h2 h3 h4 h5
  · exact .out _ h1 h2 h3 h5

/-- What k of the two bytes say. -/
def pre2 (s : ByteArray) : Nat → Option Nat
  | 0 => some 0
  | k + 1 => (pre2 s k).bind fun n => (hexV (s.data.toList.getD k 0)).map fun d => n * 16 + d

theorem pre2_step {s : ByteArray} {k n : Nat} {c : UInt8} (h : pre2 s k = some n) (hc : s.data.toList.getD k 0 = c) : pre2 s (k + 1) = (hexV c).map fun d => n * 16 + d := by
  subst hc
  show (pre2 s k).bind _ = _
  rw [h]
  rfl
theorem pre2_none {s : ByteArray} {k : Nat} (hk : k < 2) (h : pre2 s (k + 1) = none) : pre2 s 2 = none := by
  have : k = 0 ∨ k = 1 := by omega
  rcases this with rfl | rfl
  · show (pre2 s 1).bind _ = _
    rw [h]
    rfl
  · exact h
theorem hexV_le {c : UInt8} {d : Nat} (h : hexV c = some d) : d ≤ 15 := by
  unfold hexV at h
  split at h
  · injection h with h; omega
  split at h
  · injection h with h; omega
  split at h
  · injection h with h; omega
  · cases h
theorem pre2_le {s : ByteArray} : (∀ n, pre2 s 1 = some n → n ≤ 15) ∧ (∀ n, pre2 s 2 = some n → n ≤ 255) := by
  have h1 : ∀ n, pre2 s 1 = some n → n ≤ 15 := by
    intro n h
    rw [pre2_step (k := 0) (n := 0) rfl rfl, Option.map_eq_some_iff] at h
    obtain ⟨d, hd, rfl⟩ := h
    have := hexV_le hd
    omega
  refine ⟨h1, fun n h => ?_⟩
  cases hp : pre2 s 1 with
  | none => rw [show pre2 s 2 = (pre2 s 1).bind _ from rfl, hp] at h; cases h
  | some m =>
    rw [pre2_step (k := 1) hp rfl, Option.map_eq_some_iff] at h
    obtain ⟨d, hd, rfl⟩ := h
    have := hexV_le hd
    have := h1 m hp
    omega

theorem no95 {q l : Nat} (hl : bits .or .u8 (q : Int) 32 = (l : Int)) (h : l ≤ 122) : ((q : Int) == 95) = false := by
  rw [Bool.eq_false_iff]
  intro e
  have e : (q : Int) = 95 := by simpa using e
  rw [e] at hl
  have : bits .or .u8 95 32 = 127 := by decide
  omega

set_option maxRecDepth 100000 in
set_option maxHeartbeats 8000000 in
theorem iuintW (s : ByteArray) (hs : s.size = 2) (w : World) : Calls Tryd.prog 58 #[.string s, .int .i64 16, .int .i64 8] w fun e w' =>
    ((∃ n, pre2 s 2 = some n ∧ n ≤ 255 ∧ e = .returned (.tuple #[.int .u64 (n : Int), .nilIface])) ∨ (pre2 s 2 = none ∧ e = .returned (.tuple #[.int .u64 0, .iface 82 (.int .i64 2)]))) ∧ Below w.heap.size w w' := by
  have hE : s.toList.isEmpty = false := nonempty (by omega)
  have hcv := Lib.run_convert_string_bytes (P := Tryd.prog) w 9 44 5 s (u := .string) Tryd.underlying9 Tryd.underlying44 Tryd.underlying5
  have hbw := Lib.bytesWorld_below w 5 s
  have hcl : Hid (∀ j, j < s.size → (Lib.bytesWorld w 5 s).cell? ⟨w.heap.size, j, none⟩ = some (.int .u8 ((s.data.toList.getD j 0).toNat : Int))) := fun j hj => Lib.bytesWorld_cell w 5 s j hj
  obtain ⟨W1, hW1⟩ : ∃ W1, W1 = Lib.bytesWorld w 5 s := ⟨_, rfl⟩
  rw [← hW1] at hcv hbw hcl
  rw [hs] at hcv hcl
  have HB := Lib.hid hbw
  clear hW1 hbw hs
  go_enter Tryd.func58, Tryd.ntmps58
  go_wp2_with fail
  go_loopw [12, 13, 101] (fun u n i wr => ∃ k m : Nat, u = .bool false ∧ n = .int .u64 (m : Int) ∧ i = .int .i64 k ∧ k ≤ 2 ∧ Hid (pre2 s k = some m) ∧ W1 = wr) (fun _ _ i _ => 2 - (intOf i).toNat)
  case atStart => exact ⟨0, 0, rfl, rfl, rfl, by omega, rfl, rfl⟩
  case round =>
    obtain ⟨k, m, rfl, rfl, rfl, hk2, hp, rfl⟩ := hrel
    by_cases hk : k < 2
    · have c1 := hcl.out k hk
      obtain ⟨c, hc⟩ : ∃ c, c = s.data.toList.getD k 0 := ⟨_, rfl⟩
      rw [← hc] at c1
      have hm : m ≤ 15 := by
        have : k = 0 ∨ k = 1 := by omega
        rcases this with rfl | rfl
        · have := hp.out; injection this with this; omega
        · exact pre2_le.1 m hp.out
      have PS := Lib.hid (pre2_step hp.out hc.symm)
      have HK := Lib.hid hk
      have kk : (0 : Int) ≤ (k : Int) := by omega
      have kl : (k : Int) < 2 := by omega
      have e16 : IntKind.u64.wrap ((m : Int) * 16) = (m : Int) * 16 := IntWalk.u64_in _ (by omega)
      have f1 : decide ((1152921504606846976 : Int) ≤ (m : Int)) = false := decide_eq_false (by omega)
      have HM := Lib.hid hm
      have hcc := hexC c
      have LW := Lib.hid (fun W => Tryd.internal_strconv_lower (c.toNat : Int) W)
      obtain ⟨q, hq⟩ : ∃ q : Nat, q = c.toNat := ⟨_, rfl⟩
      have hq2 : q < 256 := by rw [hq]; exact c.toNat_lt
      clear hc hp hk hm hk2 hcv hcl
      cases hcc with
      | dig h1 h2 hv =>
        rw [← hq] at c1 h1 h2 hv LW
        have P1 := Lib.hid (PS.out.trans (by rw [hv]))
        have g1 : (48 : Int) ≤ (q : Int) := by omega
        have g2 : (q : Int) ≤ 57 := by omega
        have g3 : IntKind.u8.wrap ((q : Int) - 48) = ((q - 48 : Nat) : Int) := by rw [IntWalk.u8_in _ (by omega)]; omega
        obtain ⟨d, hd⟩ : ∃ d, d = q - 48 := ⟨_, rfl⟩
        rw [← hd] at g3 P1
        have gd : IntKind.u64.wrap (d : Int) = (d : Int) := IntWalk.u64_in _ (by omega)
        have g4 : IntKind.u64.wrap ((m : Int) * 16 + (d : Int)) = (m : Int) * 16 + (d : Int) := IntWalk.u64_in _ (by have := HM.out; omega)
        have g5 : decide ((16 : Int) ≤ (d : Int)) = false := decide_eq_false (by omega)
        have g6 : decide ((m : Int) * 16 + (d : Int) < (m : Int) * 16) = false := decide_eq_false (by omega)
        have g7 : decide ((255 : Int) < (m : Int) * 16 + (d : Int)) = false := decide_eq_false (by have := HM.out; omega)
        have g8 : ((q : Int) == 95) = false := by simp; omega
        clear PS hv hd hq h1 h2 hq2
        go_wp2_with fail
        exact ⟨⟨k + 1, m * 16 + d, rfl, by go_num, by go_num, HK.out, P1, trivial⟩, by simp [intOf]; have := HK.out; omega⟩
      | let1 l hn hl h1 h2 hv =>
        rw [← hq] at c1 hn hl LW
        have P1 := Lib.hid (PS.out.trans (by rw [hv]))
        have g8 : ((q : Int) == 95) = false := no95 hl (by omega)
        rw [hl] at LW
        obtain ⟨d, hd⟩ : ∃ d, d = l - 87 := ⟨_, rfl⟩
        rw [← hd] at P1
        have l1 : (97 : Int) ≤ (l : Int) := by omega
        have l2 : (l : Int) ≤ 122 := by omega
        have w1 : IntKind.u8.wrap ((l : Int) - 97) = (l : Int) - 97 := IntWalk.u8_in _ (by omega)
        have w2 : IntKind.u8.wrap ((l : Int) - 97 + 10) = (d : Int) := by rw [IntWalk.u8_in _ (by omega)]; omega
        have gd : IntKind.u64.wrap (d : Int) = (d : Int) := IntWalk.u64_in _ (by omega)
        have g4 : IntKind.u64.wrap ((m : Int) * 16 + (d : Int)) = (m : Int) * 16 + (d : Int) := IntWalk.u64_in _ (by have := HM.out; omega)
        have g5 : decide ((16 : Int) ≤ (d : Int)) = false := decide_eq_false (by omega)
        have g6 : decide ((m : Int) * 16 + (d : Int) < (m : Int) * 16) = false := decide_eq_false (by omega)
        have g7 : decide ((255 : Int) < (m : Int) * 16 + (d : Int)) = false := decide_eq_false (by have := HM.out; omega)
        clear PS hv hd hq hl h1 h2 hq2
        by_cases h48 : (48 : Int) ≤ (q : Int)
        · have h57 : ¬ (q : Int) ≤ 57 := by omega
          clear hn
          go_wp2_with (go_at_call 65; refine (LW.out _).mono ?_; rintro e w' ⟨rfl, rfl⟩)
          all_goals exact ⟨⟨k + 1, m * 16 + d, rfl, by go_num, by go_num, HK.out, P1, trivial⟩, by simp [intOf]; have := HK.out; omega⟩
        · clear hn
          go_wp2_with (go_at_call 65; refine (LW.out _).mono ?_; rintro e w' ⟨rfl, rfl⟩)
          all_goals exact ⟨⟨k + 1, m * 16 + d, rfl, by go_num, by go_num, HK.out, P1, trivial⟩, by simp [intOf]; have := HK.out; omega⟩
      | far l hn hl h1 h2 hv =>
        rw [← hq] at c1 hn hl LW
        have P1 := Lib.hid (pre2_none HK.out (PS.out.trans (by rw [hv]; rfl)))
        have g8 : ((q : Int) == 95) = false := no95 hl (by omega)
        rw [hl] at LW
        have l1 : (97 : Int) ≤ (l : Int) := by omega
        have l2 : (l : Int) ≤ 122 := by omega
        have w1 : IntKind.u8.wrap ((l : Int) - 97) = (l : Int) - 97 := IntWalk.u8_in _ (by omega)
        have w2 : IntKind.u8.wrap ((l : Int) - 97 + 10) = (l : Int) - 97 + 10 := IntWalk.u8_in _ (by omega)
        have g5 : (16 : Int) ≤ (l : Int) - 97 + 10 := by omega
        clear PS hv hq hl h1 h2 hq2
        by_cases h48 : (48 : Int) ≤ (q : Int)
        · have h57 : ¬ (q : Int) ≤ 57 := by omega
          clear hn
          go_wp2_with (go_at_call 65; refine (LW.out _).mono ?_; rintro e w' ⟨rfl, rfl⟩)
          all_goals (go_ret2; exact ⟨.inr ⟨P1.out, rfl⟩, HB.out⟩)
        · clear hn
          go_wp2_with (go_at_call 65; refine (LW.out _).mono ?_; rintro e w' ⟨rfl, rfl⟩)
          all_goals (go_ret2; exact ⟨.inr ⟨P1.out, rfl⟩, HB.out⟩)
      | out l hn hl h1 hv =>
        rw [← hq] at c1 hn hl LW
        have P1 := Lib.hid (pre2_none HK.out (PS.out.trans (by rw [hv]; rfl)))
        by_cases h95 : q = 95
        · subst h95
          have e : bits .or .u8 95 32 = 127 := by decide
          have LW := Lib.hid (fun W => (show Calls Tryd.prog 65 #[.int .u8 95] W fun e w' => e = .returned (.int .u8 127) ∧ w' = W from by have := LW.out W; rw [show (((95 : Nat) : Int)) = 95 from rfl, e] at this; exact this))
          have c1 : W1.cell? ⟨w.heap.size, k, none⟩ = some (.int .u8 95) := c1
          clear PS hv hq hl h1 hq2 hn e
          go_wp2_with (go_at_call 65; refine (LW.out _).mono ?_; rintro e w' ⟨rfl, rfl⟩)
          all_goals (go_ret2; exact ⟨.inr ⟨P1.out, rfl⟩, HB.out⟩)
        have g8 : ((q : Int) == 95) = false := by simp; omega
        clear h95
        rw [hl] at LW
        have HL := Lib.hid h1
        clear PS hv hq hl h1 hq2
        by_cases h97 : (97 : Int) ≤ (l : Int)
        · have h122 : ¬ (l : Int) ≤ 122 := by have := HL.out; omega
          by_cases h48 : (48 : Int) ≤ (q : Int)
          · have h57 : ¬ (q : Int) ≤ 57 := by omega
            clear hn
            go_wp2_with (go_at_call 65; refine (LW.out _).mono ?_; rintro e w' ⟨rfl, rfl⟩)
            all_goals (go_ret2; exact ⟨.inr ⟨P1.out, rfl⟩, HB.out⟩)
          · clear hn
            go_wp2_with (go_at_call 65; refine (LW.out _).mono ?_; rintro e w' ⟨rfl, rfl⟩)
            all_goals (go_ret2; exact ⟨.inr ⟨P1.out, rfl⟩, HB.out⟩)
        · by_cases h48 : (48 : Int) ≤ (q : Int)
          · have h57 : ¬ (q : Int) ≤ 57 := by omega
            clear hn
            go_wp2_with (go_at_call 65; refine (LW.out _).mono ?_; rintro e w' ⟨rfl, rfl⟩)
            all_goals (go_ret2; exact ⟨.inr ⟨P1.out, rfl⟩, HB.out⟩)
          · clear hn
            go_wp2_with (go_at_call 65; refine (LW.out _).mono ?_; rintro e w' ⟨rfl, rfl⟩)
            all_goals (go_ret2; exact ⟨.inr ⟨P1.out, rfl⟩, HB.out⟩)
    · obtain rfl : k = 2 := by omega
      have HP := Lib.hid hp.out
      clear hcv hcl hk
      go_wp2_with fail
      go_ret2
      exact ⟨.inl ⟨m, HP.out, pre2_le.2 m HP.out, rfl⟩, HB.out⟩
end Go.Proofs.YtblonickpmogiaaDoor
