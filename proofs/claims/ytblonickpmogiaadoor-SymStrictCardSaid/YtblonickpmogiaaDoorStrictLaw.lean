/- The plain law of SymStrict: what is read, with a blank at an end; a quoted string of plain letters. -/
import Derived.Test.YtblonickpmogiaaDoorBackLaw
namespace Go.Proofs.YtblonickpmogiaaDoor
open Go.RowKit

theorem read_none {s : ByteArray} (h : ∀ c, validB c = true → textB c ≠ s) : readB s = (zeroC, 5) := by
  unfold readB
  rw [if_neg]
  rintro ⟨h1, h2⟩
  exact h _ (text_valid h2 h1) h2
/-- What Read answers: a valid constant, of which s is the text, or nothing. -/
theorem read_cases (s : ByteArray) : (∃ c, validB c = true ∧ textB c = s ∧ c = guessB s ∧ s.size ≠ 0 ∧ readB s = (c, 0)) ∨ readB s = (zeroC, 5) := by
  unfold readB
  by_cases h : s.size ≠ 0 ∧ textB (guessB s) = s
  · rw [if_pos h]
    exact .inl ⟨guessB s, text_valid h.2 h.1, h.2, rfl, h.1, rfl⟩
  · rw [if_neg h]
    exact .inr rfl
theorem itoa_ge (n : Int) : ∀ x ∈ Lib.itoa n, 45 ≤ x.toNat := by
  unfold Lib.itoa
  intro x hx
  split at hx
  · rcases List.mem_cons.1 hx with rfl | hx
    · decide
    · have := dec_digits _ x hx; omega
  · have := dec_digits _ x hx; omega
theorem tail_ge {b : UInt8} (h : tailI (b.toNat : Int) = true) : 48 ≤ b.toNat := by
  unfold tailI lowI upI digI at h
  simp only [Bool.or_eq_true, Bool.and_eq_true, decide_eq_true_eq] at h
  omega
theorem name_ge {s : ByteArray} (h : nameB s = true) : ∀ x ∈ s.data.toList, 45 ≤ x.toNat := by
  obtain ⟨c, r, hl, h1, h2, _⟩ := name_first h
  have ht : tailB s 1 = true := by
    unfold nameB wordB at h
    simp only [Bool.and_eq_true] at h
    obtain ⟨_, h⟩ := h
    split at h
    · simp only [Bool.and_eq_true] at h
      exact h.2.2
    · cases h
  unfold tailB at ht
  rw [hl, List.drop_succ_cons, List.drop_zero, List.all_eq_true] at ht
  intro x hx
  rw [hl] at hx
  rcases List.mem_cons.1 hx with rfl | hx
  · omega
  · have := tail_ge (ht x hx); omega
theorem cat_list (a b : ByteArray) : (a ++ b).data.toList = a.data.toList ++ b.data.toList := by simp
theorem no_blank_behind {c : Cst} {s : ByteArray} (hv : validB c = true) : textB c ≠ s ++ ⟨#[32]⟩ := by
  intro h
  have h : (textB c).data.toList = s.data.toList ++ [32] := by rw [h, cat_list]
  cases kinds hv with
  | int hk ht =>
    have := itoa_ge c.n 32 (by rw [← ht, h]; simp)
    exact absurd this (by decide)
  | name hk hn ht =>
    have := name_ge hn 32 (by rw [← ht, h]; simp)
    exact absurd this (by decide)
  | text hk hs ht =>
    rw [ht] at h
    unfold quoteL at h
    have h2 := congrArg List.getLast? h
    rw [← List.cons_append, List.getLast?_concat, List.getLast?_concat] at h2
    exact absurd h2 (by decide)
theorem no_blank_ahead {c : Cst} {s : ByteArray} (hv : validB c = true) : textB c ≠ ⟨#[32]⟩ ++ s := by
  intro h
  have h : (textB c).data.toList = 32 :: s.data.toList := by rw [h, cat_list]; rfl
  cases kinds hv with
  | int hk ht =>
    have := itoa_ge c.n 32 (by rw [← ht, h]; simp)
    exact absurd this (by decide)
  | name hk hn ht =>
    have := name_ge hn 32 (by rw [← ht, h]; simp)
    exact absurd this (by decide)
  | text hk hs ht =>
    rw [ht] at h
    unfold quoteL at h
    injection h with h1 h2
    exact absurd h1 (by decide)
theorem read_behind (s : ByteArray) : readB (s ++ ⟨#[32]⟩) = (zeroC, 5) := read_none fun _ hv => no_blank_behind hv
theorem read_ahead (s : ByteArray) : readB (⟨#[32]⟩ ++ s) = (zeroC, 5) := read_none fun _ hv => no_blank_ahead hv

/-- A byte that stands for itself. -/
def selfB (b : UInt8) : Prop := 32 ≤ b.toNat ∧ b.toNat ≤ 126 ∧ b ≠ 34 ∧ b ≠ 92
theorem esc_self {b : UInt8} (h : selfB b) : escS b = [b] := by
  obtain ⟨h1, h2, h3, h4⟩ := h
  unfold escS
  rw [if_neg h3, if_neg h4, if_neg (by rintro rfl; exact absurd h1 (by decide)), if_neg (by rintro rfl; exact absurd h1 (by decide)), if_neg (by rintro rfl; exact absurd h1 (by decide)), if_pos ⟨h1, h2⟩]
theorem escs_self {l : List UInt8} (h : ∀ b ∈ l, selfB b) : l.flatMap escS = l := by
  induction l with
  | nil => rfl
  | cons b l ih =>
    rw [List.flatMap_cons, esc_self (h b (by simp)), ih (fun x hx => h x (by simp [hx]))]
    rfl
theorem read_letters {l : List UInt8} (h : ∀ b ∈ l, selfB b) (hl : l.length ≤ 255) : readB ((⟨#[34]⟩ ++ ⟨l.toArray⟩) ++ ⟨#[34]⟩) = (⟨3, 0, ⟨l.toArray⟩⟩, 0) := by
  have hv : validB ⟨3, 0, ⟨l.toArray⟩⟩ = true := by
    unfold validB
    have : (⟨l.toArray⟩ : ByteArray).size = l.length := by rw [size_list]
    simp [this, hl]
  have ht : textB ⟨3, 0, ⟨l.toArray⟩⟩ = (⟨#[34]⟩ ++ ⟨l.toArray⟩) ++ ⟨#[34]⟩ := by
    unfold textB
    rw [if_pos hv]
    refine list_ext ?_
    rw [cat_list, cat_list]
    show quoteL l = _
    unfold quoteL
    rw [escs_self h]
    rfl
  rw [← ht]
  exact read_text hv (wf_of_64 (n := 0) (by decide) (by decide))
end Go.Proofs.YtblonickpmogiaaDoor
