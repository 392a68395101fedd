/- Plain law: the order of integers, of byte lists, of constants. No program in sight. -/
import Derived.Laws.Cover1
namespace Go.Proofs.YtblonickpmogiaaDoor
open Go

/-- -1, 0, 1: two integers. -/
def cmpI (a b : Int) : Int := if a < b then -1 else if b < a then 1 else 0
/-- -1, 0, 1: two lists of bytes, as Go compares strings. -/
def cmpL (x y : List UInt8) : Int := if Op.bytesLess x y = true then -1 else if (!(Op.bytesLess x y || x == y)) = true then 1 else 0
/-- The first that is not 0. -/
def firstNz : List Int → Int
  | [] => 0
  | x :: r => if x = 0 then firstNz r else x

structure Cst where
  k : Int
  n : Int
  s : ByteArray

def cmpC (a b : Cst) : Int := firstNz [cmpI a.k b.k, cmpI a.n b.n, cmpL a.s.toList b.s.toList]

theorem less_irrefl : ∀ x : List UInt8, Op.bytesLess x x = false
  | [] => rfl
  | a :: x => by simp [Op.bytesLess, less_irrefl x]
theorem less_nil : ∀ x : List UInt8, Op.bytesLess x [] = false
  | [] => rfl
  | _ :: _ => rfl
theorem less_trans : ∀ x y z : List UInt8, Op.bytesLess x y = true → Op.bytesLess y z = true → Op.bytesLess x z = true
  | [], [], z, h1, h2 => by simp [Op.bytesLess] at h1
  | [], _ :: _, [], h1, h2 => by simp [Op.bytesLess] at h2
  | [], _ :: _, _ :: _, h1, h2 => by simp [Op.bytesLess]
  | _ :: _, [], _, h1, h2 => by simp [Op.bytesLess] at h1
  | _ :: _, _ :: _, [], h1, h2 => by simp [Op.bytesLess] at h2
  | a :: x, b :: y, c :: z, h1, h2 => by
    simp only [Op.bytesLess, Bool.or_eq_true, Bool.and_eq_true, decide_eq_true_eq, beq_iff_eq] at h1 h2 ⊢
    rcases h1 with h1 | ⟨rfl, h1⟩ <;> rcases h2 with h2 | ⟨rfl, h2⟩
    · exact .inl (UInt8.lt_trans h1 h2)
    · exact .inl h1
    · exact .inl h2
    · exact .inr ⟨rfl, less_trans x y z h1 h2⟩
theorem less_asymm (x y : List UInt8) (h : Op.bytesLess x y = true) : Op.bytesLess y x = false := by
  cases h2 : Op.bytesLess y x with
  | false => rfl
  | true => have := less_trans _ _ _ h h2; rw [less_irrefl] at this; cases this
theorem less_total : ∀ x y : List UInt8, Op.bytesLess x y = true ∨ x = y ∨ Op.bytesLess y x = true
  | [], [] => .inr (.inl rfl)
  | [], _ :: _ => .inl rfl
  | _ :: _, [] => .inr (.inr rfl)
  | a :: x, b :: y => by
    simp only [Op.bytesLess, Bool.or_eq_true, Bool.and_eq_true, decide_eq_true_eq, beq_iff_eq, List.cons.injEq]
    have h := less_total x y
    by_cases hab : a = b
    · subst hab
      rcases h with h | h | h <;> simp [h]
    · rcases (show a < b ∨ b < a from by
        have : a.toNat ≠ b.toNat := fun h => hab (UInt8.toNat_inj.1 h)
        rw [UInt8.lt_iff_toNat_lt, UInt8.lt_iff_toNat_lt]; omega) with h' | h' <;> simp [h']
theorem cmpL_eq (x y : List UInt8) : cmpL x y = if Op.bytesLess x y = true then -1 else if Op.bytesLess y x = true then 1 else 0 := by
  unfold cmpL
  by_cases h : Op.bytesLess x y = true
  · simp [h]
  · rw [if_neg h, if_neg h]
    rcases less_total x y with h1 | rfl | h1
    · exact absurd h1 h
    · simp [less_irrefl]
    · have : (x == y) = false := by
        rw [beq_eq_false_iff_ne]
        rintro rfl
        rw [less_irrefl] at h1
        cases h1
      simp [h1, this, h]
theorem cmpL_self (x : List UInt8) : cmpL x x = 0 := by simp [cmpL_eq, less_irrefl]
theorem cmpL_zero {x y : List UInt8} : cmpL x y = 0 ↔ x = y := by
  constructor
  · intro h
    rw [cmpL_eq] at h
    rcases less_total x y with h1 | h1 | h1
    · simp [h1] at h
    · exact h1
    · have := less_asymm _ _ h1
      simp [h1, this] at h
  · rintro rfl; exact cmpL_self x
theorem cmpL_rng (x y : List UInt8) : cmpL x y = -1 ∨ cmpL x y = 0 ∨ cmpL x y = 1 := by
  unfold cmpL; split
  · simp
  · split <;> simp
theorem cmpL_neg (x y : List UInt8) : cmpL x y = - cmpL y x := by
  rw [cmpL_eq, cmpL_eq]
  rcases less_total x y with h | rfl | h
  · simp [h, less_asymm _ _ h]
  · simp [less_irrefl]
  · simp [h, less_asymm _ _ h]
theorem cmpL_lt {x y : List UInt8} : cmpL x y < 0 ↔ Op.bytesLess x y = true := by
  unfold cmpL
  by_cases h : Op.bytesLess x y = true
  · simp [h]
  · rw [if_neg h]; simp only [h]; split <;> simp
theorem cmpI_rng (x y : Int) : cmpI x y = -1 ∨ cmpI x y = 0 ∨ cmpI x y = 1 := by
  unfold cmpI; split
  · simp
  · split <;> simp
theorem cmpI_ne {x y : Int} (h : x ≠ y) : cmpI x y = if x < y then -1 else 1 := by
  unfold cmpI
  by_cases h1 : x < y
  · rw [if_pos h1, if_pos h1]
  · rw [if_neg h1, if_neg h1, if_pos (by omega)]
theorem cmpI_neg (x y : Int) : cmpI x y = - cmpI y x := by unfold cmpI; repeat split <;> omega
theorem cmpI_zero {x y : Int} : cmpI x y = 0 ↔ x = y := by unfold cmpI; repeat split <;> omega
theorem cmpI_lt {x y : Int} : cmpI x y < 0 ↔ x < y := by unfold cmpI; repeat split <;> omega
theorem cmpI_self (x : Int) : cmpI x x = 0 := cmpI_zero.2 rfl

theorem cmpC_eq (a b : Cst) : cmpC a b = if cmpI a.k b.k = 0 then (if cmpI a.n b.n = 0 then cmpL a.s.toList b.s.toList else cmpI a.n b.n) else cmpI a.k b.k := by
  unfold cmpC firstNz firstNz firstNz firstNz
  split
  · split
    · split
      · exact Eq.symm ‹_›
      · rfl
    · rfl
  · rfl
theorem cmpC_rng (a b : Cst) : cmpC a b = -1 ∨ cmpC a b = 0 ∨ cmpC a b = 1 := by
  rw [cmpC_eq]
  have := cmpI_rng a.k b.k; have := cmpI_rng a.n b.n; have := cmpL_rng a.s.toList b.s.toList
  split
  · split <;> assumption
  · assumption
theorem cmpC_neg (a b : Cst) : cmpC a b = - cmpC b a := by
  rw [cmpC_eq, cmpC_eq, cmpI_neg a.k b.k, cmpI_neg a.n b.n, cmpL_neg a.s.toList b.s.toList]
  simp only [Int.neg_eq_zero]
  split
  · split <;> rfl
  · rfl
theorem cmpC_self (a : Cst) : cmpC a a = 0 := by rw [cmpC_eq]; simp [cmpI_self, cmpL_self]
/-- 0 just for the same. -/
theorem cmpC_zero {a b : Cst} : cmpC a b = 0 ↔ a.k = b.k ∧ a.n = b.n ∧ a.s.toList = b.s.toList := by
  rw [cmpC_eq]
  have h1 := @cmpI_zero a.k b.k; have h2 := @cmpI_zero a.n b.n; have h3 := @cmpL_zero a.s.toList b.s.toList
  constructor
  · intro h
    split at h
    · rename_i e1
      split at h
      · rename_i e2; exact ⟨h1.1 e1, h2.1 e2, h3.1 h⟩
      · rename_i e2; exact absurd h e2
    · rename_i e1; exact absurd h e1
  · rintro ⟨e1, e2, e3⟩
    rw [if_pos (h1.2 e1), if_pos (h2.2 e2)]
    exact h3.2 e3
/-- a comes ahead of b. -/
def aheadC (a b : Cst) : Prop := a.k < b.k ∨ (a.k = b.k ∧ (a.n < b.n ∨ (a.n = b.n ∧ Op.bytesLess a.s.toList b.s.toList = true)))
theorem cmpC_lt {a b : Cst} : cmpC a b < 0 ↔ aheadC a b := by
  rw [cmpC_eq]
  unfold aheadC
  split
  · rename_i h1
    have e1 := cmpI_zero.1 h1
    split
    · rename_i h2
      have e2 := cmpI_zero.1 h2
      rw [cmpL_lt]
      constructor
      · intro h; exact .inr ⟨e1, .inr ⟨e2, h⟩⟩
      · rintro (h | ⟨_, h | ⟨_, h⟩⟩)
        · omega
        · omega
        · exact h
    · rename_i h2
      have e2 : ¬ a.n = b.n := fun h => h2 (cmpI_zero.2 h)
      rw [cmpI_lt]
      constructor
      · intro h; exact .inr ⟨e1, .inl h⟩
      · rintro (h | ⟨_, h | ⟨h, _⟩⟩)
        · omega
        · exact h
        · exact absurd h e2
  · rename_i h1
    have e1 : ¬ a.k = b.k := fun h => h1 (cmpI_zero.2 h)
    rw [cmpI_lt]
    constructor
    · intro h; exact .inl h
    · rintro (h | ⟨h, _⟩)
      · exact h
      · exact absurd h e1
theorem aheadC_trans {a b c : Cst} (h1 : aheadC a b) (h2 : aheadC b c) : aheadC a c := by
  unfold aheadC at *
  rcases h1 with h1 | ⟨e1, h1 | ⟨f1, h1⟩⟩ <;> rcases h2 with h2 | ⟨e2, h2 | ⟨f2, h2⟩⟩
  · exact .inl (by omega)
  · exact .inl (by omega)
  · exact .inl (by omega)
  · exact .inl (by omega)
  · exact .inr ⟨by omega, .inl (by omega)⟩
  · exact .inr ⟨by omega, .inl (by omega)⟩
  · exact .inl (by omega)
  · exact .inr ⟨by omega, .inl (by omega)⟩
  · exact .inr ⟨by omega, .inr ⟨by omega, less_trans _ _ _ h1 h2⟩⟩
theorem cmpC_le_trans {a b c : Cst} (h1 : cmpC a b ≤ 0) (h2 : cmpC b c ≤ 0) : cmpC a c ≤ 0 := by
  rcases (show cmpC a b < 0 ∨ cmpC a b = 0 from by omega) with g1 | g1
  · rcases (show cmpC b c < 0 ∨ cmpC b c = 0 from by omega) with g2 | g2
    · have := cmpC_lt.2 (aheadC_trans (cmpC_lt.1 g1) (cmpC_lt.1 g2)); omega
    · obtain ⟨e1, e2, e3⟩ := cmpC_zero.1 g2
      have : cmpC a c = cmpC a b := by rw [cmpC_eq, cmpC_eq, e1, e2, e3]
      omega
  · obtain ⟨e1, e2, e3⟩ := cmpC_zero.1 g1
    have : cmpC a c = cmpC b c := by rw [cmpC_eq, cmpC_eq, e1, e2, e3]
    omega

theorem less_prefix : ∀ (p x y : List UInt8), Op.bytesLess (p ++ x) (p ++ y) = Op.bytesLess x y
  | [], _, _ => rfl
  | a :: p, x, y => by simp [Op.bytesLess, less_prefix p x y]
theorem cmpL_prefix (p x y : List UInt8) : cmpL (p ++ x) (p ++ y) = cmpL x y := by rw [cmpL_eq, cmpL_eq, less_prefix, less_prefix]
theorem cmpL_drop {x y : List UInt8} {k : Nat} (h : x.take k = y.take k) : cmpL x y = cmpL (x.drop k) (y.drop k) := by
  have e : cmpL x y = cmpL (x.take k ++ x.drop k) (y.take k ++ y.drop k) := by rw [List.take_append_drop, List.take_append_drop]
  rw [e, h, cmpL_prefix]
theorem cmpL_at_lt {x y : List UInt8} {k : Nat} (h : x.take k = y.take k) (hx : k < x.length) (hy : k < y.length) (hl : x[k].toNat < y[k].toNat) : cmpL x y = -1 := by
  rw [cmpL_drop h, List.drop_eq_getElem_cons hx, List.drop_eq_getElem_cons hy, cmpL_eq, if_pos]
  simp only [Op.bytesLess, Bool.or_eq_true, decide_eq_true_eq]
  exact .inl (UInt8.lt_iff_toNat_lt.2 hl)
theorem cmpL_at_gt {x y : List UInt8} {k : Nat} (h : x.take k = y.take k) (hx : k < x.length) (hy : k < y.length) (hl : y[k].toNat < x[k].toNat) : cmpL x y = 1 := by
  have := cmpL_at_lt h.symm hy hx hl
  rw [cmpL_neg, this]; rfl
theorem take_at_eq {x y : List UInt8} {k : Nat} (h : x.take k = y.take k) (hx : k < x.length) (hy : k < y.length) (hl : x[k].toNat = y[k].toNat) : x.take (k + 1) = y.take (k + 1) := by
  rw [List.take_succ_eq_append_getElem hx, List.take_succ_eq_append_getElem hy, h, UInt8.toNat_inj.1 hl]
theorem cmpL_end {x y : List UInt8} {k : Nat} (h : x.take k = y.take k) (hk : x.length ≤ k ∨ y.length ≤ k) (hx : k ≤ x.length) (hy : k ≤ y.length) :
    cmpL x y = if x.length < y.length then -1 else if y.length < x.length then 1 else 0 := by
  rw [cmpL_drop h, cmpL_eq]
  have c1 : ∀ z : List UInt8, k < z.length → Op.bytesLess [] (z.drop k) = true := fun z hz => by rw [List.drop_eq_getElem_cons hz]; rfl
  have c2 : ∀ z : List UInt8, k < z.length → Op.bytesLess (z.drop k) [] = false := fun z hz => by rw [List.drop_eq_getElem_cons hz]; rfl
  have c3 : Op.bytesLess [] [] = false := rfl
  rcases hk with hk | hk
  · rw [List.drop_eq_nil_of_le hk]
    by_cases hl : x.length < y.length
    · simp [c1 y (by omega), hl]
    · have hl2 : ¬ y.length < x.length := by omega
      rw [List.drop_eq_nil_of_le (by omega : y.length ≤ k)]
      simp [c3, hl, hl2]
  · rw [List.drop_eq_nil_of_le hk]
    by_cases hl : y.length < x.length
    · have hl2 : ¬ x.length < y.length := by omega
      simp [c1 x (by omega), c2 x (by omega), hl, hl2]
    · have hl2 : ¬ x.length < y.length := by omega
      rw [List.drop_eq_nil_of_le (by omega : x.length ≤ k)]
      simp [c3, hl, hl2]
/-- the same said of byte arrays. -/
theorem len_toList (s : ByteArray) : s.toList.length = s.size := by rw [ByteArray.toList_eq]; simp
theorem toList_inj {s t : ByteArray} (h : s.toList = t.toList) : s = t := by
  rw [ByteArray.toList_eq, ByteArray.toList_eq] at h
  cases s; cases t
  simpa using h
theorem get_toList (s : ByteArray) (k : Nat) (h : k < s.size) : s.toList[k]'(by rw [len_toList]; exact h) = s[k] := by
  simp only [ByteArray.toList_eq]
  rfl
theorem cmpS_at_lt {x y : ByteArray} {k : Nat} (h : x.toList.take k = y.toList.take k) (hx : k < x.size) (hy : k < y.size) (hl : x[k].toNat < y[k].toNat) : cmpL x.toList y.toList = -1 :=
  cmpL_at_lt h (by rw [len_toList]; exact hx) (by rw [len_toList]; exact hy) (by rw [get_toList _ _ hx, get_toList _ _ hy]; exact hl)
theorem cmpS_at_gt {x y : ByteArray} {k : Nat} (h : x.toList.take k = y.toList.take k) (hx : k < x.size) (hy : k < y.size) (hl : y[k].toNat < x[k].toNat) : cmpL x.toList y.toList = 1 :=
  cmpL_at_gt h (by rw [len_toList]; exact hx) (by rw [len_toList]; exact hy) (by rw [get_toList _ _ hx, get_toList _ _ hy]; exact hl)
theorem takeS_at_eq {x y : ByteArray} {k : Nat} (h : x.toList.take k = y.toList.take k) (hx : k < x.size) (hy : k < y.size) (hl : x[k].toNat = y[k].toNat) : x.toList.take (k + 1) = y.toList.take (k + 1) :=
  take_at_eq h (by rw [len_toList]; exact hx) (by rw [len_toList]; exact hy) (by rw [get_toList _ _ hx, get_toList _ _ hy]; exact hl)
theorem cmpS_end {x y : ByteArray} {k : Nat} (h : x.toList.take k = y.toList.take k) (hk : x.size ≤ k ∨ y.size ≤ k) (hx : k ≤ x.size) (hy : k ≤ y.size) :
    cmpL x.toList y.toList = if x.size < y.size then -1 else if y.size < x.size then 1 else 0 := by
  have := cmpL_end h (by rw [len_toList, len_toList]; exact hk) (by rw [len_toList]; exact hx) (by rw [len_toList]; exact hy)
  rwa [len_toList, len_toList] at this
end Go.Proofs.YtblonickpmogiaaDoor
