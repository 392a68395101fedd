/- The plain law of the reference's Read. -/
import Derived.Test.YtblonickpmogiaaDoorBackLaw
namespace Go.Proofs.YtblonickpmogiaaDoor
open Go.RowKit

/-- A small hex digit's value. -/
def nibV (b : UInt8) : Option Nat := if 48 ≤ b.toNat ∧ b.toNat ≤ 57 then some (b.toNat - 48) else if 97 ≤ b.toNat ∧ b.toNat ≤ 102 then some (b.toNat - 87) else none
/-- What stands between the quotes, escapes undone roughly. -/
def rplain : List UInt8 → List UInt8
  | [] => []
  | c :: r =>
    if c = 92 then
      match r with
      | [] => [c]
      | d :: q =>
        if d = 110 then 10 :: rplain q else if d = 116 then 9 :: rplain q else if d = 114 then 13 :: rplain q
        else if d = 120 then
          match q with
          | h :: k :: p => (match nibV h, nibV k with | some x, some y => [UInt8.ofNat (16 * x + y)] | _, _ => []) ++ rplain p
          | [h] => rplain [h]
          | [] => []
        else d :: rplain q
    else c :: rplain r
theorem rp_plain {c : UInt8} {r : List UInt8} (h : c ≠ 92) : rplain (c :: r) = c :: rplain r := by rw [rplain.eq_def]; simp only [if_neg h]
theorem rp_end : rplain [92] = [92] := by rw [rplain.eq_def]; simp
theorem rp_n {q : List UInt8} : rplain (92 :: 110 :: q) = 10 :: rplain q := by rw [rplain.eq_def]; simp
theorem rp_t {q : List UInt8} : rplain (92 :: 116 :: q) = 9 :: rplain q := by rw [rplain.eq_def]; simp
theorem rp_r {q : List UInt8} : rplain (92 :: 114 :: q) = 13 :: rplain q := by rw [rplain.eq_def]; simp
theorem rp_hex {h k : UInt8} {p : List UInt8} : rplain (92 :: 120 :: h :: k :: p) = (match nibV h, nibV k with | some x, some y => [UInt8.ofNat (16 * x + y)] | _, _ => []) ++ rplain p := by rw [rplain.eq_def]; simp
theorem rp_short {q : List UInt8} (h : q.length < 2) : rplain (92 :: 120 :: q) = rplain q := by
  match q, h with
  | [], _ => rw [rplain.eq_def]; simp [rplain]
  | [x], _ => rw [rplain.eq_def]; simp
theorem rp_other {d : UInt8} {q : List UInt8} (h1 : d ≠ 110) (h2 : d ≠ 116) (h3 : d ≠ 114) (h4 : d ≠ 120) : rplain (92 :: d :: q) = d :: rplain q := by rw [rplain.eq_def]; simp [h1, h2, h3, h4]
theorem nib_hexU (k : Nat) (h : k < 16) : nibV (hexU k) = some k := by
  rcases bytes_cases h with rfl | rfl | rfl | rfl | rfl | rfl | rfl | rfl | rfl | rfl | rfl | rfl | rfl | rfl | rfl | rfl <;> decide
theorem rp_step (b : UInt8) (r : List UInt8) : rplain (escS b ++ r) = b :: rplain r := by
  unfold escS
  split
  · rename_i h; subst h; exact rp_other (by decide) (by decide) (by decide) (by decide)
  split
  · rename_i h; subst h; exact rp_other (by decide) (by decide) (by decide) (by decide)
  split
  · rename_i h; subst h; exact rp_n
  split
  · rename_i h; subst h; exact rp_t
  split
  · rename_i h; subst h; exact rp_r
  split
  · exact rp_plain (by assumption)
  · show rplain (92 :: 120 :: hexU (b.toNat / 16) :: hexU (b.toNat % 16) :: r) = _
    have := b.toNat_lt
    rw [rp_hex, nib_hexU _ (by omega), nib_hexU _ (by omega)]
    show [UInt8.ofNat (16 * (b.toNat / 16) + b.toNat % 16)] ++ rplain r = _
    rw [show 16 * (b.toNat / 16) + b.toNat % 16 = b.toNat by omega, UInt8.ofNat_toNat]
    rfl
theorem rp_all (l : List UInt8) : rplain (l.flatMap escS) = l := by
  induction l with
  | nil => simp [rplain]
  | cons b l ih => rw [List.flatMap_cons, rp_step, ih]

/-- The digits' number, below zero, without an end. -/
def numF (l : List UInt8) (a : Int) : Int := l.foldl (fun a b => if 48 ≤ b.toNat ∧ b.toNat ≤ 57 then 10 * a - (b.toNat - 48 : Nat) else a) a
theorem num_dec : ∀ (u : Nat), numF (Lib.decDigits u) 0 = -(u : Int) := by
  intro u
  induction u using Nat.strongRecOn with
  | ind u ih =>
    rw [Lib.decDigits]
    split
    · have e : (UInt8.ofNat (48 + u)).toNat = 48 + u := by simp; omega
      show (if 48 ≤ (UInt8.ofNat (48 + u)).toNat ∧ (UInt8.ofNat (48 + u)).toNat ≤ 57 then 10 * (0 : Int) - ((UInt8.ofNat (48 + u)).toNat - 48 : Nat) else 0) = _
      rw [e, if_pos (by omega)]
      omega
    · have e : (UInt8.ofNat (48 + u % 10)).toNat = 48 + u % 10 := by simp; omega
      have h := ih (u / 10) (by omega)
      unfold numF at h ⊢
      rw [List.foldl_append, h]
      show (if 48 ≤ (UInt8.ofNat (48 + u % 10)).toNat ∧ (UInt8.ofNat (48 + u % 10)).toNat ≤ 57 then 10 * (-((u / 10 : Nat) : Int)) - ((UInt8.ofNat (48 + u % 10)).toNat - 48 : Nat) else _) = _
      rw [e, if_pos (by omega)]
      omega
/-- Round about 2^64. -/
def w64 (n : Int) : Int := IntKind.i64.wrap n
/-- What the reference's number answers. -/
def numB (s : ByteArray) : Int := if 0 < s.size ∧ s.data.toList.getD 0 0 = 45 then w64 (numF s.data.toList 0) else w64 (-(w64 (numF s.data.toList 0)))
theorem w64_eq (n : Int) : ∃ q, w64 n = n + 18446744073709551616 * q ∧ -9223372036854775808 ≤ w64 n ∧ w64 n ≤ 9223372036854775807 := by
  have e : w64 n = if n % 18446744073709551616 ≥ 9223372036854775808 then n % 18446744073709551616 - 18446744073709551616 else n % 18446744073709551616 := by
    unfold w64 IntKind.wrap
    simp [IntKind.bits, IntKind.signed]
  by_cases h : n % 18446744073709551616 ≥ 9223372036854775808
  · rw [if_pos h] at e
    exact ⟨-(n / 18446744073709551616) - 1, by omega, by omega, by omega⟩
  · rw [if_neg h] at e
    exact ⟨-(n / 18446744073709551616), by omega, by omega, by omega⟩
theorem num_itoa (n : Int) (h0 : -9223372036854775808 ≤ n) (h1 : n ≤ 9223372036854775807) : numB ⟨(Lib.itoa n).toArray⟩ = n := by
  unfold numB
  have hd : (⟨(Lib.itoa n).toArray⟩ : ByteArray).data.toList = Lib.itoa n := by simp
  rw [size_list, hd]
  by_cases hn : n < 0
  · have e : Lib.itoa n = 45 :: Lib.decDigits n.natAbs := by unfold Lib.itoa; rw [if_pos hn]
    have f : numF (Lib.itoa n) 0 = n := by
      rw [e]
      show numF (Lib.decDigits n.natAbs) 0 = n
      rw [num_dec]
      omega
    rw [if_pos (by rw [e]; simp), f]
    obtain ⟨q, a, b, c⟩ := w64_eq n
    omega
  · have e : Lib.itoa n = Lib.decDigits n.toNat := by unfold Lib.itoa; rw [if_neg hn]
    obtain ⟨c, r, hc⟩ := dec_cons n.toNat
    have hdg := dec_digits n.toNat c (by rw [hc]; simp)
    rw [if_neg, e, num_dec]
    · obtain ⟨q, a, b, c⟩ := w64_eq (-(n.toNat : Int))
      obtain ⟨q2, a2, b2, c2⟩ := w64_eq (-(w64 (-(n.toNat : Int))))
      omega
    · rintro ⟨_, h⟩
      rw [e, hc] at h
      have h : c = 45 := h
      rw [h] at hdg
      exact absurd hdg.1 (by decide)

/-- What the reference takes the text for. -/
def rguess (s : ByteArray) : Cst :=
  if s.data.toList.getD 0 0 = 34 then ⟨3, 0, ⟨(rplain (s.extract 1 (max 1 (s.size - 1))).data.toList).toArray⟩⟩
  else if 97 ≤ (s.data.toList.getD 0 0).toNat ∧ (s.data.toList.getD 0 0).toNat ≤ 122 then ⟨2, 0, s⟩ else ⟨1, numB s, ⟨#[]⟩⟩
theorem rguess_text {c : Cst} (hv : validB c = true) (hn : (Lit.int .i64 c.n).wf = true) : rguess (textB c) = c := by
  have hn' := i64_of_wf hn
  have hv2 := hv
  obtain ⟨k, n, s⟩ := c
  unfold rguess
  cases kinds hv with
  | int hk ht =>
    subst hk
    obtain ⟨d, r, hd, h1, h2⟩ := itoa_first n
    have ht : (textB ⟨1, n, s⟩).data.toList = Lib.itoa n := ht
    rw [ht, hd, if_neg (by rintro h; have h : d = 34 := h; rw [h] at h1; exact absurd h1 (by decide)), if_neg (by rintro ⟨h, _⟩; have h : 97 ≤ d.toNat := h; omega)]
    have he : textB ⟨1, n, s⟩ = ⟨(Lib.itoa n).toArray⟩ := list_ext (by rw [ht])
    rw [he, num_itoa n hn'.1 hn'.2]
    unfold validB at hv2
    have hs : s.toList = [] := by simpa using hv2
    rw [ByteArray.toList_eq] at hs
    rw [show s = ⟨#[]⟩ from list_ext (by rw [hs])]
  | name hk hnm ht =>
    subst hk
    obtain ⟨d, r, hd, h1, h2, _⟩ := name_first hnm
    have ht : (textB ⟨2, n, s⟩).data.toList = s.data.toList := ht
    have hd : s.data.toList = d :: r := hd
    rw [ht, hd, if_neg (by rintro h; have h : d = 34 := h; rw [h] at h1; exact absurd h1 (by decide)), if_pos ⟨h1, h2⟩, list_ext ht]
    unfold validB at hv2
    simp at hv2
    rw [hv2.1]
  | text hk hs ht =>
    subst hk
    have ht : (textB ⟨3, n, s⟩).data.toList = quoteL s.data.toList := ht
    have hl : quoteL s.data.toList = 34 :: (s.data.toList.flatMap escS ++ [34]) := rfl
    have hz : (textB ⟨3, n, s⟩).size = (s.data.toList.flatMap escS).length + 2 := by rw [size_list, ht, hl]; simp
    rw [if_pos (by rw [ht]; rfl), ext_list, ht, hl, hz, show max 1 ((s.data.toList.flatMap escS).length + 2 - 1) = (s.data.toList.flatMap escS).length + 1 by omega, List.take_succ_cons, List.drop_succ_cons, List.drop_zero, List.take_left' rfl, rp_all]
    unfold validB at hv2
    simp at hv2
    rw [hv2.1]
theorem rp_len : ∀ (m : Nat) (l : List UInt8), l.length ≤ m → (rplain l).length ≤ l.length := by
  intro m
  induction m with
  | zero =>
    intro l hl
    obtain rfl := List.eq_nil_of_length_eq_zero (Nat.le_zero.1 hl)
    simp [rplain]
  | succ m ih =>
    intro l hl
    match l, hl with
    | [], _ => simp [rplain]
    | c :: r, hl =>
      simp only [List.length_cons] at hl ⊢
      by_cases hc : c = 92
      · subst hc
        match r, hl with
        | [], _ => rw [rp_end]; simp
        | d :: q, hl =>
          simp only [List.length_cons] at hl ⊢
          have hq := ih q (by omega)
          by_cases h1 : d = 110
          · subst h1; rw [rp_n]; simp; omega
          by_cases h2 : d = 116
          · subst h2; rw [rp_t]; simp; omega
          by_cases h3 : d = 114
          · subst h3; rw [rp_r]; simp; omega
          by_cases h4 : d = 120
          · subst h4
            by_cases hs : q.length < 2
            · rw [rp_short hs]; omega
            · match q, hl, hs with
              | x :: y :: p, hl, _ =>
                simp only [List.length_cons] at hl ⊢
                have hp := ih p (by omega)
                rw [rp_hex, List.length_append]
                split <;> simp <;> omega
              | [_], _, hs => simp at hs
              | [], _, hs => simp at hs
          rw [rp_other h1 h2 h3 h4]; simp; omega
      · have := ih r (by omega)
        rw [rp_plain hc]
        simp
        omega
/-- The reference's answer is the program's. -/
theorem ref_read {s : ByteArray} (hs : s.size ≠ 0) : (∀ h : textB (rguess s) = s, (Lit.int .i64 (rguess s).n).wf = true → readB s = (rguess s, 0)) ∧ (textB (rguess s) ≠ s → (Lit.int .i64 (guessB s).n).wf = true → readB s = (zeroC, 5)) := by
  refine ⟨fun h hw => ?_, fun h hw => ?_⟩
  · have := read_text (text_valid h hs) hw
    rw [h] at this
    exact this
  · unfold readB
    rw [if_neg]
    rintro ⟨_, h2⟩
    have := rguess_text (text_valid h2 hs) hw
    rw [h2] at this
    rw [this] at h
    exact h h2
end Go.Proofs.YtblonickpmogiaaDoor
