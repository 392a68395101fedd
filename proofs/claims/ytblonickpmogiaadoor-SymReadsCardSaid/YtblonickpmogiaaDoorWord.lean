/- Bytes and words: small, big, lower, upper, digit, word, tail, IsName, IsVar, Valid, on both sides: one plain answer. -/
import Derived.Test.YtblonickpmogiaaDoorSlR
import Derived.Lib.ConvBytes
import Derived.Lib.AtoiErrMem
import Derived.Lib.Strings
import Derived.BigQuiet
import Derived.BigCall
import Derived.WalkKit
import Derived.Lib.Hide
import Derived.Test.YtblonickpmogiaaDoorProg
namespace Go.Proofs.YtblonickpmogiaaDoor
open Go.RowKit

def lowI (n : Int) : Bool := decide (97 ≤ n) && decide (n ≤ 122)
def upI (n : Int) : Bool := decide (65 ≤ n) && decide (n ≤ 90)
def digI (n : Int) : Bool := decide (48 ≤ n) && decide (n ≤ 57)
def bigI (n : Int) : Bool := upI n || decide (n = 95)
def tailI (n : Int) : Bool := lowI n || upI n || digI n || decide (n = 95)
/-- May every byte from i on stand in a word? -/
def tailB (s : ByteArray) (i : Nat) : Bool := (s.data.toList.drop i).all fun b => tailI (b.toNat : Int)
theorem tailB_step {s : ByteArray} {i : Nat} (h : i < s.size) : tailB s i = (tailI (s[i].toNat : Int) && tailB s (i + 1)) := by
  unfold tailB
  rw [List.drop_eq_getElem_cons (by simpa using h)]
  simp only [List.all_cons]
  rfl
theorem tailB_end {s : ByteArray} {i : Nat} (h : s.size ≤ i) : tailB s i = true := by
  unfold tailB
  rw [List.drop_eq_nil_of_le (by simpa using h)]
  rfl
/-- A word of at most 64 bytes, its first byte by p. -/
def wordB (p : Int → Bool) (s : ByteArray) : Bool := if h : 0 < s.size then decide (s.size ≤ 64) && (p (s[0].toNat : Int) && tailB s 1) else false
def nameB (s : ByteArray) : Bool := !(s.toList == [110, 111, 116]) && wordB lowI s
def varB (s : ByteArray) : Bool := wordB bigI s
def validB (c : Cst) : Bool := if c.k = 1 then c.s.toList.isEmpty else if c.k = 2 then decide (c.n = 0) && nameB c.s else if c.k = 3 then decide (c.n = 0) && decide (c.s.size ≤ 255) else false

section
variable (n : Int) (w : World)
set_option maxRecDepth 100000 in
theorem smallW : Calls Tryd.prog 25 #[.int .u8 n] w fun e w' => e = .returned (.bool (lowI n)) ∧ w = w' := by
  unfold lowI
  go_enter Tryd.func25, Tryd.ntmps25
  by_cases h1 : 97 ≤ n
  · go_wp2
    go_ret
    exact ⟨by simp [h1], rfl⟩
  · have h2 : decide (97 ≤ n) = false := by simpa using h1
    go_wp2
    go_ret
    exact ⟨by simp, rfl⟩
set_option maxRecDepth 100000 in
theorem lowerW : Calls Tryd.prog 26 #[.int .u8 n] w fun e w' => e = .returned (.bool (lowI n)) ∧ w = w' := by
  unfold lowI
  go_enter Tryd.func26, Tryd.ntmps26
  by_cases h1 : 97 ≤ n
  · go_wp2
    go_ret
    exact ⟨by simp [h1], rfl⟩
  · have h2 : decide (97 ≤ n) = false := by simpa using h1
    go_wp2
    go_ret
    exact ⟨by simp, rfl⟩
set_option maxRecDepth 100000 in
theorem upperW : Calls Tryd.prog 29 #[.int .u8 n] w fun e w' => e = .returned (.bool (upI n)) ∧ w = w' := by
  unfold upI
  go_enter Tryd.func29, Tryd.ntmps29
  by_cases h1 : 65 ≤ n
  · go_wp2
    go_ret
    exact ⟨by simp [h1], rfl⟩
  · have h2 : decide (65 ≤ n) = false := by simpa using h1
    go_wp2
    go_ret
    exact ⟨by simp, rfl⟩
set_option maxRecDepth 100000 in
theorem digitW : Calls Tryd.prog 40 #[.int .u8 n] w fun e w' => e = .returned (.bool (digI n)) ∧ w = w' := by
  unfold digI
  go_enter Tryd.func40, Tryd.ntmps40
  by_cases h1 : 48 ≤ n
  · go_wp2
    go_ret
    exact ⟨by simp [h1], rfl⟩
  · have h2 : decide (48 ≤ n) = false := by simpa using h1
    go_wp2
    go_ret
    exact ⟨by simp, rfl⟩
set_option maxRecDepth 100000 in
theorem bigW : Calls Tryd.prog 28 #[.int .u8 n] w fun e w' => e = .returned (.bool (bigI n)) ∧ w = w' := by
  unfold bigI upI
  go_enter Tryd.func28, Tryd.ntmps28
  by_cases h1 : 65 ≤ n
  · by_cases h2 : n ≤ 90
    · go_wp2
      go_ret
      exact ⟨by simp [h1, h2], rfl⟩
    · have h3 : decide (n ≤ 90) = false := by simpa using h2
      go_wp2
      go_ret
      exact ⟨by simp; rfl, rfl⟩
  · have h2 : decide (65 ≤ n) = false := by simpa using h1
    go_wp2
    go_ret
    exact ⟨by simp; rfl, rfl⟩
end

set_option maxRecDepth 100000 in
set_option maxHeartbeats 4000000 in
theorem tailW (s : ByteArray) (hs : s.size ≤ maxLen) (w : World) : Calls Tryd.prog 27 #[.string s] w fun e w' => e = .returned (.bool (tailB s 1)) ∧ w = w' := by
  obtain ⟨T, hT⟩ : ∃ T, T = tailB s 1 := ⟨_, rfl⟩
  rw [← hT]
  have HS := Lib.hid hs
  go_enter Tryd.func27, Tryd.ntmps27
  go_wp2
  go_loopw [3] (fun i wr => ∃ k : Nat, i = .int .i64 k ∧ 1 ≤ k ∧ Hid (T = tailB s k) ∧ w = wr) (fun i _ => s.size - (intOf i).toNat)
  case atStart => exact ⟨1, rfl, Nat.le_refl _, hT, rfl⟩
  case round =>
    obtain ⟨k, rfl, hk1, hz, rfl⟩ := hrel
    by_cases hk : k < s.size
    · have hs' := HS.out
      unfold maxLen at hs'
      have E := Lib.hid (tailB_step hk)
      have fin (b : Bool) (hb : tailI (s[k].toNat : Int) = b) : Hid (T = (b && tailB s (k + 1))) := by rw [← hb]; exact Eq.trans hz E.out
      have fin' := Lib.hid fin
      have L := Lib.hid (fun w => lowerW (s[k].toNat : Int) w)
      have U := Lib.hid (fun w => upperW (s[k].toNat : Int) w)
      have D := Lib.hid (fun w => digitW (s[k].toNat : Int) w)
      have HZ := Lib.hid hz
      clear hz hT fin E HS
      rcases hl : lowI (s[k].toNat : Int) with _ | _
      · rcases hu : upI (s[k].toNat : Int) with _ | _
        · rcases hd : digI (s[k].toNat : Int) with _ | _
          · by_cases h95 : (s[k].toNat : Int) = 95
            · have F := fin'.out true (by unfold tailI; rw [hl, hu, hd]; simp [h95])
              rw [hl, h95] at L; rw [hu, h95] at U; rw [hd, h95] at D
              clear hl hu hd fin'
              go_wp2_with (first | (go_at_call 26; refine (L.out _).mono ?_; rintro e w' ⟨rfl, rfl⟩) | (go_at_call 29; refine (U.out _).mono ?_; rintro e w' ⟨rfl, rfl⟩) | (go_at_call 40; refine (D.out _).mono ?_; rintro e w' ⟨rfl, rfl⟩))
              exact ⟨⟨k + 1, by go_num, by omega, F, by first | rfl | trivial⟩, by simp [intOf]; omega⟩
            · have F := fin'.out false (by unfold tailI; rw [hl, hu, hd]; simpa using h95)
              rw [hl] at L; rw [hu] at U; rw [hd] at D
              clear hl hu hd fin'
              go_wp2_with (first | (go_at_call 26; refine (L.out _).mono ?_; rintro e w' ⟨rfl, rfl⟩) | (go_at_call 29; refine (U.out _).mono ?_; rintro e w' ⟨rfl, rfl⟩) | (go_at_call 40; refine (D.out _).mono ?_; rintro e w' ⟨rfl, rfl⟩))
              go_ret
              exact ⟨by rw [F]; first | rfl | simp, rfl⟩
          · have F := fin'.out true (by unfold tailI; rw [hl, hu, hd]; rfl)
            rw [hl] at L; rw [hu] at U; rw [hd] at D
            clear hl hu hd fin'
            go_wp2_with (first | (go_at_call 26; refine (L.out _).mono ?_; rintro e w' ⟨rfl, rfl⟩) | (go_at_call 29; refine (U.out _).mono ?_; rintro e w' ⟨rfl, rfl⟩) | (go_at_call 40; refine (D.out _).mono ?_; rintro e w' ⟨rfl, rfl⟩))
            exact ⟨⟨k + 1, by go_num, by omega, F, by first | rfl | trivial⟩, by simp [intOf]; omega⟩
        · have F := fin'.out true (by unfold tailI; rw [hl, hu]; rfl)
          rw [hl] at L; rw [hu] at U
          clear hl hu fin'
          go_wp2_with (first | (go_at_call 26; refine (L.out _).mono ?_; rintro e w' ⟨rfl, rfl⟩) | (go_at_call 29; refine (U.out _).mono ?_; rintro e w' ⟨rfl, rfl⟩))
          exact ⟨⟨k + 1, by go_num, by omega, F, by first | rfl | trivial⟩, by simp [intOf]; omega⟩
      · have F := fin'.out true (by unfold tailI; rw [hl]; rfl)
        rw [hl] at L
        clear hl fin'
        go_wp2_with (go_at_call 26; refine (L.out _).mono ?_; rintro e w' ⟨rfl, rfl⟩)
        exact ⟨⟨k + 1, by go_num, by omega, F, by first | rfl | trivial⟩, by simp [intOf]; omega⟩
    · have F : T = true := Eq.trans hz (tailB_end (by omega))
      have hs' := HS.out
      clear hz hT HS
      go_wp2
      go_ret
      exact ⟨by rw [F]; first | rfl | simp, rfl⟩

theorem tailI_eq (n : Int) : tailI n = (lowI n || (bigI n || digI n)) := by
  unfold tailI bigI
  cases lowI n <;> cases upI n <;> cases digI n <;> simp
theorem nonempty {s : ByteArray} (h : 0 < s.size) : s.toList.isEmpty = false := by
  rw [List.isEmpty_eq_false_iff]
  intro he
  have := len_toList s
  rw [he] at this
  simp at this
  omega
theorem rest_at {s : ByteArray} {j : Nat} (h : j + 1 < s.size) : ((s.extract 1 s.size).data.toList.getD j 0) = s[j + 1] := by
  rw [List.getD_eq_getElem?_getD]
  have : (s.extract 1 s.size).data.toList[j]? = some s[j + 1] := by
    rw [Array.getElem?_toList]
    simp only [ByteArray.data_extract, Array.getElem?_extract]
    rw [if_pos (by show j < min s.size s.data.size - 1; have : s.data.size = s.size := rfl; omega)]
    rw [Nat.add_comm 1 j, Array.getElem?_eq_getElem (by exact h)]
    rfl
  rw [this]
  rfl

set_option maxRecDepth 100000 in
set_option maxHeartbeats 8000000 in
theorem wordW (K : Nat) (p : Int → Bool) (hen : ∀ args w, (callFunc K args).run Tryd.prog w = .ok (.enter K args) w) (hp : ∀ n w, Calls Tryd.prog K #[.int .u8 n] w fun e w' => e = .returned (.bool (p n)) ∧ w = w') (s : ByteArray) (hs : s.size ≤ maxLen) (w : World) :
    Calls Tryd.prog 24 #[.string s, .func (.func K) #[] #[]] w fun e w' => e = .returned (.bool (wordB p s)) ∧ Below w.heap.size w w' := by
  unfold maxLen at hs
  unfold wordB
  by_cases h0 : 0 < s.size
  · rw [dif_pos h0]
    have hE := nonempty h0
    by_cases h64 : s.size ≤ 64
    · have h64' : decide (64 < (s.size : Int)) = false := by simp; omega
      have P := Lib.hid (fun w => hp (s[0].toNat : Int) w)
      rcases hq : p (s[0].toNat : Int) with _ | _
      · rw [hq] at P
        clear hq hp
        go_enter Tryd.func24, Tryd.ntmps24
        go_wp2_with (refine (P.out _).mono ?_; rintro e w' ⟨rfl, rfl⟩)
        go_ret
        exact ⟨by simp, Below.refl _ _⟩
      · rw [hq] at P
        clear hq hp
        have hcv := Lib.run_convert_string_bytes (P := Tryd.prog) w 9 44 5 (s.extract 1 s.size) (u := .string) Tryd.underlying9 Tryd.underlying44 Tryd.underlying5
        have hbw := Lib.bytesWorld_below w 5 (s.extract 1 s.size)
        have hex : (s.extract 1 s.size).size = s.size - 1 := by simp [ByteArray.size_extract]
        have hcl : Hid (∀ j, j + 1 < s.size → ∀ h : j + 1 < s.size, (Lib.bytesWorld w 5 (s.extract 1 s.size)).cell? ⟨w.heap.size, j, none⟩ = some (.int .u8 (s[j + 1].toNat : Int))) := by
          intro j _ h
          rw [← rest_at h]
          exact Lib.bytesWorld_cell w 5 (s.extract 1 s.size) j (by omega)
        obtain ⟨T, hT⟩ : ∃ T, T = tailB s 1 := ⟨_, rfl⟩
        rw [← hT]
        obtain ⟨W1, hW1⟩ : ∃ W1, W1 = Lib.bytesWorld w 5 (s.extract 1 s.size) := ⟨_, rfl⟩
        rw [← hW1] at hcv hbw hcl
        rw [hex] at hcv
        have HB := Lib.hid hbw
        have HT := Lib.hid hT
        clear hW1 hbw hT
        go_enter Tryd.func24, Tryd.ntmps24
        go_wp2_with (refine (P.out _).mono ?_; rintro e w' ⟨rfl, rfl⟩)
        go_loopw [25] (fun i wr => ∃ k : Nat, i = .int .i64 k ∧ k + 1 ≤ s.size ∧ Hid (T = tailB s (k + 1)) ∧ W1 = wr) (fun i _ => s.size - (intOf i).toNat)
        case atStart => exact ⟨0, rfl, by omega, HT.out, rfl⟩
        case round =>
          obtain ⟨k, rfl, hk1, hz, rfl⟩ := hrel
          by_cases hk : k + 1 < s.size
          · have c1 := hcl.out k hk hk
            have E := Lib.hid (tailB_step hk)
            have fin (b : Bool) (hb : tailI (s[k + 1].toNat : Int) = b) : Hid (T = (b && tailB s (k + 1 + 1))) := by rw [← hb]; exact Eq.trans hz E.out
            have fin' := Lib.hid fin
            obtain ⟨n, hn⟩ : ∃ n : Int, n = (s[k + 1].toNat : Int) := ⟨_, rfl⟩
            rw [← hn] at c1 fin'
            have L := Lib.hid (fun w => smallW n w)
            have U := Lib.hid (fun w => bigW n w)
            clear hz fin E hn hcv hcl HT P
            rw [tailI_eq] at fin'
            rcases hl : lowI n with _ | _
            · rcases hu : bigI n with _ | _
              · by_cases h48 : 48 ≤ n
                · by_cases h57 : n ≤ 57
                  · have F := fin'.out true (by rw [hl, hu]; simp [digI, h48, h57])
                    rw [hl] at L; rw [hu] at U
                    clear hl hu fin'
                    go_wp2_with (first | (go_at_call 25; refine (L.out _).mono ?_; rintro e w' ⟨rfl, rfl⟩) | (go_at_call 28; refine (U.out _).mono ?_; rintro e w' ⟨rfl, rfl⟩))
                    exact ⟨⟨k + 1, by go_num, by omega, F, by first | rfl | trivial⟩, by simp [intOf]; omega⟩
                  · have F := fin'.out false (by rw [hl, hu]; simp [digI]; omega)
                    rw [hl] at L; rw [hu] at U
                    clear hl hu fin'
                    go_wp2_with (first | (go_at_call 25; refine (L.out _).mono ?_; rintro e w' ⟨rfl, rfl⟩) | (go_at_call 28; refine (U.out _).mono ?_; rintro e w' ⟨rfl, rfl⟩))
                    go_ret
                    exact ⟨by rw [F]; simp, HB.out⟩
                · have F := fin'.out false (by rw [hl, hu]; simp [digI, h48])
                  rw [hl] at L; rw [hu] at U
                  clear hl hu fin'
                  go_wp2_with (first | (go_at_call 25; refine (L.out _).mono ?_; rintro e w' ⟨rfl, rfl⟩) | (go_at_call 28; refine (U.out _).mono ?_; rintro e w' ⟨rfl, rfl⟩))
                  go_ret
                  exact ⟨by rw [F]; simp, HB.out⟩
              · have F := fin'.out true (by rw [hl, hu]; rfl)
                rw [hl] at L; rw [hu] at U
                clear hl hu fin'
                go_wp2_with (first | (go_at_call 25; refine (L.out _).mono ?_; rintro e w' ⟨rfl, rfl⟩) | (go_at_call 28; refine (U.out _).mono ?_; rintro e w' ⟨rfl, rfl⟩))
                exact ⟨⟨k + 1, by go_num, by omega, F, by first | rfl | trivial⟩, by simp [intOf]; omega⟩
            · have F := fin'.out true (by rw [hl]; rfl)
              rw [hl] at L
              clear hl fin' U
              go_wp2_with (go_at_call 25; refine (L.out _).mono ?_; rintro e w' ⟨rfl, rfl⟩)
              exact ⟨⟨k + 1, by go_num, by omega, F, by first | rfl | trivial⟩, by simp [intOf]; omega⟩
          · have F : T = true := Eq.trans hz (tailB_end (by omega))
            clear hz hcv hcl HT P
            go_wp2
            go_ret
            exact ⟨by rw [F]; simp [h64], HB.out⟩
    · have h64' : decide (64 < (s.size : Int)) = true := by simp; omega
      go_enter Tryd.func24, Tryd.ntmps24
      go_wp2
      go_ret
      exact ⟨by simp [h64], Below.refl _ _⟩
  · rw [dif_neg h0]
    obtain rfl : s = ⟨#[]⟩ := by
      obtain ⟨d⟩ := s
      have : d.size = 0 := by simpa [ByteArray.size] using h0
      rw [Array.eq_empty_of_size_eq_zero this]
    go_enter Tryd.func24, Tryd.ntmps24
    go_wp2
    go_ret
    exact ⟨by simp, Below.refl _ _⟩
end Go.Proofs.YtblonickpmogiaaDoor
