/- The plain law of reading a constant's text. -/
import Derived.Test.YtblonickpmogiaaDoorText
import Derived.Lib.ParseIntBCases
import Derived.Lib.ItoaMem
namespace Go.Proofs.YtblonickpmogiaaDoor
open Go.RowKit

/-- A hex digit's value. -/
def hexV (b : UInt8) : Option Nat :=
  if 48 ≤ b.toNat ∧ b.toNat ≤ 57 then some (b.toNat - 48) else if 97 ≤ b.toNat ∧ b.toNat ≤ 102 then some (b.toNat - 87) else if 65 ≤ b.toNat ∧ b.toNat ≤ 70 then some (b.toNat - 55) else none
/-- The byte that a letter behind a backslash stands for. -/
def escV (d : UInt8) : Option UInt8 :=
  if d = 34 ∨ d = 92 then some d else if d = 110 then some 10 else if d = 116 then some 9 else if d = 114 then some 13 else none
/-- Two hex digits. -/
def hex2 (h k : UInt8) : Option UInt8 := (hexV h).bind fun x => (hexV k).map fun y => UInt8.ofNat (16 * x + y)
/-- What stands between the quotes, escapes undone. -/
def unq : List UInt8 → Option (List UInt8)
  | [] => some []
  | c :: r =>
    if c = 92 then
      match r with
      | [] => none
      | d :: r2 =>
        match escV d with
        | some v => (unq r2).map (v :: ·)
        | none =>
          if d = 120 then
            match r2 with
            | h :: k :: r3 => (hex2 h k).bind fun v => (unq r3).map (v :: ·)
            | _ => none
          else none
    else (unq r).map (c :: ·)
theorem unq_nil : unq [] = some [] := by simp [unq]
theorem unq_plain {c : UInt8} {r : List UInt8} (h : c ≠ 92) : unq (c :: r) = (unq r).map (c :: ·) := by rw [unq.eq_def]; simp only [if_neg h]
theorem unq_end : unq [92] = none := by simp [unq]
theorem unq_esc {d v : UInt8} {r : List UInt8} (h : escV d = some v) : unq (92 :: d :: r) = (unq r).map (v :: ·) := by
  rw [unq.eq_def]
  simp only [h, if_true]
theorem unq_hex {h k : UInt8} {r : List UInt8} : unq (92 :: 120 :: h :: k :: r) = (hex2 h k).bind fun v => (unq r).map (v :: ·) := by
  rw [unq.eq_def]
  simp only [show escV 120 = none by decide, if_true]
theorem unq_short {r : List UInt8} (h : r.length < 2) : unq (92 :: 120 :: r) = none := by
  rw [unq.eq_def]
  simp only [show escV 120 = none by decide, if_true]
  match r, h with
  | [], _ => rfl
  | [_], _ => rfl
theorem unq_bad {d : UInt8} {r : List UInt8} (h : escV d = none) (h2 : d ≠ 120) : unq (92 :: d :: r) = none := by
  rw [unq.eq_def]
  simp only [h, if_true, if_neg h2]

theorem hex2_hexU (b : UInt8) : hex2 (hexU (b.toNat / 16)) (hexU (b.toNat % 16)) = some b := by
  have a : ∀ k : Fin 256, hex2 (hexU (k.val / 16)) (hexU (k.val % 16)) = some (UInt8.ofNat k.val) := by decide +kernel
  have := a ⟨b.toNat, b.toNat_lt⟩
  simpa using this
theorem unq_step (b : UInt8) (r : List UInt8) : unq (escS b ++ r) = (unq r).map (b :: ·) := by
  unfold escS
  split
  · rename_i h; subst h; exact unq_esc (by decide)
  split
  · rename_i h; subst h; exact unq_esc (by decide)
  split
  · rename_i h; subst h; exact unq_esc (by decide)
  split
  · rename_i h; subst h; exact unq_esc (by decide)
  split
  · rename_i h; subst h; exact unq_esc (by decide)
  split
  · exact unq_plain (by assumption)
  · show unq (92 :: 120 :: hexU (b.toNat / 16) :: hexU (b.toNat % 16) :: r) = _
    rw [unq_hex, hex2_hexU]
    rfl
theorem unq_all (l : List UInt8) : unq (l.flatMap escS) = some l := by
  induction l with
  | nil => exact unq_nil
  | cons b l ih => rw [List.flatMap_cons, unq_step, ih]; rfl
theorem dec_digits : ∀ (u : Nat), ∀ b ∈ Lib.decDigits u, 48 ≤ b.toNat ∧ b.toNat ≤ 57 := by
  intro u
  induction u using Nat.strongRecOn with
  | ind u ih =>
    intro b hb
    rw [Lib.decDigits] at hb
    split at hb
    · rw [List.mem_singleton.1 hb]
      simp
      omega
    · rcases List.mem_append.1 hb with hb | hb
      · exact ih (u / 10) (by omega) b hb
      · rw [List.mem_singleton.1 hb]
        simp
        omega
theorem dec_cons (u : Nat) : ∃ c r, Lib.decDigits u = c :: r := by
  rw [Lib.decDigits]
  split
  · exact ⟨_, _, rfl⟩
  · cases h : Lib.decDigits (u / 10) with
    | nil => exact ⟨_, _, rfl⟩
    | cons c r => exact ⟨c, _, rfl⟩
theorem parse_dec : ∀ (u : Nat), u ≤ 9223372036854775808 → ∀ r, Lib.parseUintM 18446744073709551615 0 (Lib.decDigits u ++ r) = Lib.parseUintM 18446744073709551615 u r := by
  intro u
  induction u using Nat.strongRecOn with
  | ind u ih =>
    intro hu r
    rw [Lib.decDigits]
    split
    · have e : (UInt8.ofNat (48 + u)).toNat = 48 + u := by simp; omega
      rw [List.cons_append, List.nil_append, Lib.parseUintM, e, if_pos (by omega), if_neg (by omega), if_neg (by omega)]
      congr 1
      omega
    · have e : (UInt8.ofNat (48 + u % 10)).toNat = 48 + u % 10 := by simp; omega
      rw [List.append_assoc, ih (u / 10) (by omega) (by omega), List.cons_append, List.nil_append, Lib.parseUintM, e, if_pos (by omega), if_neg (by omega), if_neg (by omega)]
      congr 1
      omega
theorem parseU_dec (u : Nat) (hu : u ≤ 9223372036854775808) : Lib.parseUintB 64 (Lib.decDigits u) = .ok u := by
  obtain ⟨c, r, hc⟩ := dec_cons u
  unfold Lib.parseUintB
  rw [if_neg (by rw [hc]; simp)]
  have := parse_dec u hu []
  rw [List.append_nil] at this
  rw [show (2 ^ 64 - 1 : Nat) = 18446744073709551615 from rfl, this, Lib.parseUintM]
theorem parse_itoa (n : Int) (h0 : -9223372036854775808 ≤ n) (h1 : n ≤ 9223372036854775807) : Lib.parseIntB 64 (Lib.itoa n) = .ok n := by
  by_cases hn : n < 0
  · have : n = -((n.natAbs : Nat) : Int) := by omega
    unfold Lib.itoa
    rw [if_pos hn, Lib.parseIntB_minus, parseU_dec _ (by omega)]
    unfold Lib.signedC
    simp only
    rw [if_neg (by omega), ← this]
  · unfold Lib.itoa
    rw [if_neg hn]
    obtain ⟨c, r, hc⟩ := dec_cons n.toNat
    have hd := dec_digits n.toNat c (by rw [hc]; simp)
    have hp := parseU_dec n.toNat (by omega)
    rw [hc] at hp ⊢
    rw [Lib.parseIntB_plain 64 c r (by omega) (by omega), hp]
    unfold Lib.signlessC
    simp only
    rw [if_neg (by omega)]
    congr 1
    omega

theorem ext_list (s : ByteArray) (a b : Nat) : (s.extract a b).data.toList = (s.data.toList.take b).drop a := by
  rw [ByteArray.data_extract, Array.toList_extract, List.extract_eq_take_drop, List.drop_take]

/-- A text in quotes. -/
def isQ (s : ByteArray) : Prop := 2 ≤ s.size ∧ s.data.toList.getD 0 0 = 34 ∧ s.data.toList.getD (s.size - 1) 0 = 34
def zeroC : Cst := ⟨0, 0, ⟨#[]⟩⟩
/-- What the digits say. -/
def intG (s : ByteArray) : Cst := match Lib.parseIntB 64 s.data.toList with
  | .ok v => ⟨1, v, ⟨#[]⟩⟩
  | _ => zeroC
open Classical in
/-- What the text may be the text of. -/
noncomputable def guessB (s : ByteArray) : Cst :=
  if isQ s then (match unq (s.extract 1 (s.size - 1)).data.toList with | some t => ⟨3, 0, ⟨t.toArray⟩⟩ | none => intG s)
  else if nameB s = true then ⟨2, 0, s⟩ else intG s
open Classical in
/-- What Read answers. -/
noncomputable def readB (s : ByteArray) : Cst × Int := if s.size ≠ 0 ∧ textB (guessB s) = s then (guessB s, 0) else (zeroC, 5)

theorem list_ext {s t : ByteArray} (h : s.data.toList = t.data.toList) : s = t := by
  cases s; cases t
  congr 1
  exact Array.toList_inj.1 h
theorem name_first {s : ByteArray} (h : nameB s = true) : ∃ c r, s.data.toList = c :: r ∧ 97 ≤ c.toNat ∧ c.toNat ≤ 122 ∧ s.size ≤ 64 := by
  unfold nameB wordB at h
  simp only [Bool.and_eq_true] at h
  obtain ⟨_, h⟩ := h
  split at h
  · rename_i h0
    simp only [Bool.and_eq_true, decide_eq_true_eq, lowI] at h
    obtain ⟨h1, ⟨h2, h3⟩, _⟩ := h
    cases hl : s.data.toList with
    | nil => 
      have : s.size = 0 := by rw [← ByteArray.size_data, ← Array.length_toList, hl]; rfl
      omega
    | cons c r =>
      have e : s[0] = c := by
        have := str_get (s := s) h0
        rw [hl] at this
        exact this
      rw [e] at h2 h3
      exact ⟨c, r, rfl, by omega, by omega, h1⟩
  · cases h
theorem size_list (s : ByteArray) : s.size = s.data.toList.length := by rw [Array.length_toList]; rfl
theorem noQ {s : ByteArray} {c : UInt8} {r : List UInt8} (h : s.data.toList = c :: r) (hc : c ≠ 34) : ¬ isQ s := by
  rintro ⟨_, h1, _⟩
  rw [h] at h1
  exact hc h1
theorem noName {s : ByteArray} {c : UInt8} {r : List UInt8} (h : s.data.toList = c :: r) (hc : c.toNat < 97) : nameB s = false := by
  rw [Bool.eq_false_iff]
  intro hn
  obtain ⟨d, q, hd, h1, _⟩ := name_first hn
  rw [h] at hd
  injection hd with hd _
  subst hd
  omega
theorem itoa_first (n : Int) : ∃ c r, Lib.itoa n = c :: r ∧ 45 ≤ c.toNat ∧ c.toNat ≤ 57 := by
  unfold Lib.itoa
  split
  · exact ⟨45, _, rfl, by decide, by decide⟩
  · obtain ⟨c, r, hc⟩ := dec_cons n.toNat
    have := dec_digits n.toNat c (by rw [hc]; simp)
    exact ⟨c, r, hc, by omega, by omega⟩
/-- A text of a valid constant is read as that constant. -/
theorem guess_text {c : Cst} (hv : validB c = true) (hn : (Lit.int .i64 c.n).wf = true) : guessB (textB c) = c ∧ (textB c).size ≠ 0 := by
  obtain ⟨k, n, s⟩ := c
  have hn' := i64_of_wf hn
  unfold textB
  rw [if_pos hv]
  unfold validB at hv
  simp only at hv ⊢
  by_cases h1 : k = 1
  · subst h1
    simp only [if_true] at hv ⊢
    obtain ⟨c, r, hc, hc1, hc2⟩ := itoa_first n
    have hl : (⟨(Lib.itoa n).toArray⟩ : ByteArray).data.toList = c :: r := by simpa using hc
    have hsz : (⟨(Lib.itoa n).toArray⟩ : ByteArray).size ≠ 0 := by rw [size_list, hl]; simp
    refine ⟨?_, hsz⟩
    unfold guessB
    rw [if_neg (noQ hl (by rintro rfl; simp at hc1)), if_neg (by rw [noName hl (by omega)]; simp)]
    unfold intG
    rw [show (⟨(Lib.itoa n).toArray⟩ : ByteArray).data.toList = Lib.itoa n by simp, parse_itoa n hn'.1 hn'.2]
    simp only [Cst.mk.injEq, true_and]
    have hs : s.toList = [] := by simpa using hv
    rw [ByteArray.toList_eq] at hs
    exact list_ext (by rw [hs])
  · rw [if_neg h1] at hv
    simp only [if_neg h1]
    by_cases h2 : k = 2
    · subst h2
      simp only [if_true, Bool.and_eq_true, decide_eq_true_eq] at hv ⊢
      obtain ⟨c, r, hl, hc1, hc2, _⟩ := name_first hv.2
      refine ⟨?_, by rw [size_list, hl]; simp⟩
      unfold guessB
      rw [if_neg (noQ hl (by rintro rfl; simp at hc1)), if_pos hv.2]
      rw [hv.1]
    · rw [if_neg h2] at hv
      simp only [if_neg h2]
      by_cases h3 : k = 3
      · subst h3
        simp only [if_true, Bool.and_eq_true, decide_eq_true_eq] at hv
        have hl : (⟨(quoteL s.data.toList).toArray⟩ : ByteArray).data.toList = 34 :: (s.data.toList.flatMap escS ++ [34]) := by simp [quoteL]
        have hsz : (⟨(quoteL s.data.toList).toArray⟩ : ByteArray).size = (s.data.toList.flatMap escS).length + 2 := by rw [size_list, hl]; simp
        refine ⟨?_, by omega⟩
        unfold guessB
        rw [if_pos]
        · rw [ext_list, hl, hsz, show (s.data.toList.flatMap escS).length + 2 - 1 = (s.data.toList.flatMap escS).length + 1 from rfl, List.take_succ_cons, List.drop_succ_cons, List.drop_zero, List.take_left', unq_all]
          · rw [hv.1]
          · rfl
        · refine ⟨by omega, by rw [hl]; rfl, ?_⟩
          rw [hsz, hl, show (s.data.toList.flatMap escS).length + 2 - 1 = (s.data.toList.flatMap escS).length + 1 from rfl, List.getD_cons_succ, List.getD_eq_getElem?_getD, List.getElem?_append_right (Nat.le_refl _), Nat.sub_self]
          rfl
      · rw [if_neg h3] at hv
        cases hv
theorem read_text {c : Cst} (hv : validB c = true) (hn : (Lit.int .i64 c.n).wf = true) : readB (textB c) = (c, 0) := by
  obtain ⟨h1, h2⟩ := guess_text hv hn
  unfold readB
  rw [h1, if_pos ⟨h2, rfl⟩]
/-- What is read is valid, and its text is what was read. -/
theorem text_valid {c : Cst} {s : ByteArray} (h : textB c = s) (hs : s.size ≠ 0) : validB c = true := by
  cases hv : validB c with
  | true => rfl
  | false =>
    unfold textB at h
    rw [hv] at h
    subst h
    exact absurd rfl hs
theorem text_inj {c d : Cst} (hc : validB c = true) (hd : validB d = true) (nc : (Lit.int .i64 c.n).wf = true) (ndd : (Lit.int .i64 d.n).wf = true) (h : textB c = textB d) : c = d := by
  rw [← (guess_text hc nc).1, h, (guess_text hd ndd).1]
end Go.Proofs.YtblonickpmogiaaDoor
