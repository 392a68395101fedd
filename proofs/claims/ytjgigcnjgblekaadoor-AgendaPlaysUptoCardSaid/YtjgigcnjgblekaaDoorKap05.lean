/- Plain law: the order of integers, of byte lists, of constants. No program in sight. The order of the agenda's acts, in plain words. Over any program. What the agenda tells, in plain words. Over any program. -/
import Derived.Test.YtjgigcnjgblekaaDoorKap04
import Derived.Laws.Cover1
namespace Go.Proofs.YtjgigcnjgblekaaDoor
open Go

/-- -1, 0, 1: two integers. -/
def cmpI (a b : Int) : Int := if a < b then -1 else if b < a then 1 else 0
/-- -1, 0, 1: two lists of bytes, as Go compares strings. -/
def cmpL (x y : List UInt8) : Int := if Op.bytesLess x y = true then -1 else if (!(Op.bytesLess x y || x == y)) = true then 1 else 0
/-- The first that is not 0. -/
def firstNz : List Int → Int
  | [] => 0
  | x :: r => if x = 0 then firstNz r else x

structure Cst where
  k : Int
  n : Int
  s : ByteArray

def cmpC (a b : Cst) : Int := firstNz [cmpI a.k b.k, cmpI a.n b.n, cmpL a.s.toList b.s.toList]

theorem less_irrefl : ∀ x : List UInt8, Op.bytesLess x x = false
  | [] => rfl
  | a :: x => by simp [Op.bytesLess, less_irrefl x]
theorem less_nil : ∀ x : List UInt8, Op.bytesLess x [] = false
  | [] => rfl
  | _ :: _ => rfl
theorem less_trans : ∀ x y z : List UInt8, Op.bytesLess x y = true → Op.bytesLess y z = true → Op.bytesLess x z = true
  | [], [], z, h1, h2 => by simp [Op.bytesLess] at h1
  | [], _ :: _, [], h1, h2 => by simp [Op.bytesLess] at h2
  | [], _ :: _, _ :: _, h1, h2 => by simp [Op.bytesLess]
  | _ :: _, [], _, h1, h2 => by simp [Op.bytesLess] at h1
  | _ :: _, _ :: _, [], h1, h2 => by simp [Op.bytesLess] at h2
  | a :: x, b :: y, c :: z, h1, h2 => by
    simp only [Op.bytesLess, Bool.or_eq_true, Bool.and_eq_true, decide_eq_true_eq, beq_iff_eq] at h1 h2 ⊢
    rcases h1 with h1 | ⟨rfl, h1⟩ <;> rcases h2 with h2 | ⟨rfl, h2⟩
    · exact .inl (UInt8.lt_trans h1 h2)
    · exact .inl h1
    · exact .inl h2
    · exact .inr ⟨rfl, less_trans x y z h1 h2⟩
theorem less_asymm (x y : List UInt8) (h : Op.bytesLess x y = true) : Op.bytesLess y x = false := by
  cases h2 : Op.bytesLess y x with
  | false => rfl
  | true => have := less_trans _ _ _ h h2; rw [less_irrefl] at this; cases this
theorem less_total : ∀ x y : List UInt8, Op.bytesLess x y = true ∨ x = y ∨ Op.bytesLess y x = true
  | [], [] => .inr (.inl rfl)
  | [], _ :: _ => .inl rfl
  | _ :: _, [] => .inr (.inr rfl)
  | a :: x, b :: y => by
    simp only [Op.bytesLess, Bool.or_eq_true, Bool.and_eq_true, decide_eq_true_eq, beq_iff_eq, List.cons.injEq]
    have h := less_total x y
    by_cases hab : a = b
    · subst hab
      rcases h with h | h | h <;> simp [h]
    · rcases (show a < b ∨ b < a from by
        have : a.toNat ≠ b.toNat := fun h => hab (UInt8.toNat_inj.1 h)
        rw [UInt8.lt_iff_toNat_lt, UInt8.lt_iff_toNat_lt]; omega) with h' | h' <;> simp [h']
theorem cmpL_eq (x y : List UInt8) : cmpL x y = if Op.bytesLess x y = true then -1 else if Op.bytesLess y x = true then 1 else 0 := by
  unfold cmpL
  by_cases h : Op.bytesLess x y = true
  · simp [h]
  · rw [if_neg h, if_neg h]
    rcases less_total x y with h1 | rfl | h1
    · exact absurd h1 h
    · simp [less_irrefl]
    · have : (x == y) = false := by
        rw [beq_eq_false_iff_ne]
        rintro rfl
        rw [less_irrefl] at h1
        cases h1
      simp [h1, this, h]
theorem cmpL_self (x : List UInt8) : cmpL x x = 0 := by simp [cmpL_eq, less_irrefl]
theorem cmpL_zero {x y : List UInt8} : cmpL x y = 0 ↔ x = y := by
  constructor
  · intro h
    rw [cmpL_eq] at h
    rcases less_total x y with h1 | h1 | h1
    · simp [h1] at h
    · exact h1
    · have := less_asymm _ _ h1
      simp [h1, this] at h
  · rintro rfl; exact cmpL_self x
theorem cmpL_rng (x y : List UInt8) : cmpL x y = -1 ∨ cmpL x y = 0 ∨ cmpL x y = 1 := by
  unfold cmpL; split
  · simp
  · split <;> simp
theorem cmpL_neg (x y : List UInt8) : cmpL x y = - cmpL y x := by
  rw [cmpL_eq, cmpL_eq]
  rcases less_total x y with h | rfl | h
  · simp [h, less_asymm _ _ h]
  · simp [less_irrefl]
  · simp [h, less_asymm _ _ h]
theorem cmpL_lt {x y : List UInt8} : cmpL x y < 0 ↔ Op.bytesLess x y = true := by
  unfold cmpL
  by_cases h : Op.bytesLess x y = true
  · simp [h]
  · rw [if_neg h]; simp only [h]; split <;> simp
theorem cmpI_rng (x y : Int) : cmpI x y = -1 ∨ cmpI x y = 0 ∨ cmpI x y = 1 := by
  unfold cmpI; split
  · simp
  · split <;> simp
theorem cmpI_ne {x y : Int} (h : x ≠ y) : cmpI x y = if x < y then -1 else 1 := by
  unfold cmpI
  by_cases h1 : x < y
  · rw [if_pos h1, if_pos h1]
  · rw [if_neg h1, if_neg h1, if_pos (by omega)]
theorem cmpI_neg (x y : Int) : cmpI x y = - cmpI y x := by unfold cmpI; repeat split <;> omega
theorem cmpI_zero {x y : Int} : cmpI x y = 0 ↔ x = y := by unfold cmpI; repeat split <;> omega
theorem cmpI_lt {x y : Int} : cmpI x y < 0 ↔ x < y := by unfold cmpI; repeat split <;> omega
theorem cmpI_self (x : Int) : cmpI x x = 0 := cmpI_zero.2 rfl

theorem cmpC_eq (a b : Cst) : cmpC a b = if cmpI a.k b.k = 0 then (if cmpI a.n b.n = 0 then cmpL a.s.toList b.s.toList else cmpI a.n b.n) else cmpI a.k b.k := by
  unfold cmpC firstNz firstNz firstNz firstNz
  split
  · split
    · split
      · exact Eq.symm ‹_›
      · rfl
    · rfl
  · rfl
theorem cmpC_rng (a b : Cst) : cmpC a b = -1 ∨ cmpC a b = 0 ∨ cmpC a b = 1 := by
  rw [cmpC_eq]
  have := cmpI_rng a.k b.k; have := cmpI_rng a.n b.n; have := cmpL_rng a.s.toList b.s.toList
  split
  · split <;> assumption
  · assumption
theorem cmpC_neg (a b : Cst) : cmpC a b = - cmpC b a := by
  rw [cmpC_eq, cmpC_eq, cmpI_neg a.k b.k, cmpI_neg a.n b.n, cmpL_neg a.s.toList b.s.toList]
  simp only [Int.neg_eq_zero]
  split
  · split <;> rfl
  · rfl
theorem cmpC_self (a : Cst) : cmpC a a = 0 := by rw [cmpC_eq]; simp [cmpI_self, cmpL_self]
/-- 0 just for the same. -/
theorem cmpC_zero {a b : Cst} : cmpC a b = 0 ↔ a.k = b.k ∧ a.n = b.n ∧ a.s.toList = b.s.toList := by
  rw [cmpC_eq]
  have h1 := @cmpI_zero a.k b.k; have h2 := @cmpI_zero a.n b.n; have h3 := @cmpL_zero a.s.toList b.s.toList
  constructor
  · intro h
    split at h
    · rename_i e1
      split at h
      · rename_i e2; exact ⟨h1.1 e1, h2.1 e2, h3.1 h⟩
      · rename_i e2; exact absurd h e2
    · rename_i e1; exact absurd h e1
  · rintro ⟨e1, e2, e3⟩
    rw [if_pos (h1.2 e1), if_pos (h2.2 e2)]
    exact h3.2 e3
/-- a comes ahead of b. -/
def aheadC (a b : Cst) : Prop := a.k < b.k ∨ (a.k = b.k ∧ (a.n < b.n ∨ (a.n = b.n ∧ Op.bytesLess a.s.toList b.s.toList = true)))
theorem cmpC_lt {a b : Cst} : cmpC a b < 0 ↔ aheadC a b := by
  rw [cmpC_eq]
  unfold aheadC
  split
  · rename_i h1
    have e1 := cmpI_zero.1 h1
    split
    · rename_i h2
      have e2 := cmpI_zero.1 h2
      rw [cmpL_lt]
      constructor
      · intro h; exact .inr ⟨e1, .inr ⟨e2, h⟩⟩
      · rintro (h | ⟨_, h | ⟨_, h⟩⟩)
        · omega
        · omega
        · exact h
    · rename_i h2
      have e2 : ¬ a.n = b.n := fun h => h2 (cmpI_zero.2 h)
      rw [cmpI_lt]
      constructor
      · intro h; exact .inr ⟨e1, .inl h⟩
      · rintro (h | ⟨_, h | ⟨h, _⟩⟩)
        · omega
        · exact h
        · exact absurd h e2
  · rename_i h1
    have e1 : ¬ a.k = b.k := fun h => h1 (cmpI_zero.2 h)
    rw [cmpI_lt]
    constructor
    · intro h; exact .inl h
    · rintro (h | ⟨h, _⟩)
      · exact h
      · exact absurd h e1
theorem aheadC_trans {a b c : Cst} (h1 : aheadC a b) (h2 : aheadC b c) : aheadC a c := by
  unfold aheadC at *
  rcases h1 with h1 | ⟨e1, h1 | ⟨f1, h1⟩⟩ <;> rcases h2 with h2 | ⟨e2, h2 | ⟨f2, h2⟩⟩
  · exact .inl (by omega)
  · exact .inl (by omega)
  · exact .inl (by omega)
  · exact .inl (by omega)
  · exact .inr ⟨by omega, .inl (by omega)⟩
  · exact .inr ⟨by omega, .inl (by omega)⟩
  · exact .inl (by omega)
  · exact .inr ⟨by omega, .inl (by omega)⟩
  · exact .inr ⟨by omega, .inr ⟨by omega, less_trans _ _ _ h1 h2⟩⟩
theorem cmpC_le_trans {a b c : Cst} (h1 : cmpC a b ≤ 0) (h2 : cmpC b c ≤ 0) : cmpC a c ≤ 0 := by
  rcases (show cmpC a b < 0 ∨ cmpC a b = 0 from by omega) with g1 | g1
  · rcases (show cmpC b c < 0 ∨ cmpC b c = 0 from by omega) with g2 | g2
    · have := cmpC_lt.2 (aheadC_trans (cmpC_lt.1 g1) (cmpC_lt.1 g2)); omega
    · obtain ⟨e1, e2, e3⟩ := cmpC_zero.1 g2
      have : cmpC a c = cmpC a b := by rw [cmpC_eq, cmpC_eq, e1, e2, e3]
      omega
  · obtain ⟨e1, e2, e3⟩ := cmpC_zero.1 g1
    have : cmpC a c = cmpC b c := by rw [cmpC_eq, cmpC_eq, e1, e2, e3]
    omega

theorem less_prefix : ∀ (p x y : List UInt8), Op.bytesLess (p ++ x) (p ++ y) = Op.bytesLess x y
  | [], _, _ => rfl
  | a :: p, x, y => by simp [Op.bytesLess, less_prefix p x y]
theorem cmpL_prefix (p x y : List UInt8) : cmpL (p ++ x) (p ++ y) = cmpL x y := by rw [cmpL_eq, cmpL_eq, less_prefix, less_prefix]
theorem cmpL_drop {x y : List UInt8} {k : Nat} (h : x.take k = y.take k) : cmpL x y = cmpL (x.drop k) (y.drop k) := by
  have e : cmpL x y = cmpL (x.take k ++ x.drop k) (y.take k ++ y.drop k) := by rw [List.take_append_drop, List.take_append_drop]
  rw [e, h, cmpL_prefix]
theorem cmpL_at_lt {x y : List UInt8} {k : Nat} (h : x.take k = y.take k) (hx : k < x.length) (hy : k < y.length) (hl : x[k].toNat < y[k].toNat) : cmpL x y = -1 := by
  rw [cmpL_drop h, List.drop_eq_getElem_cons hx, List.drop_eq_getElem_cons hy, cmpL_eq, if_pos]
  simp only [Op.bytesLess, Bool.or_eq_true, decide_eq_true_eq]
  exact .inl (UInt8.lt_iff_toNat_lt.2 hl)
theorem cmpL_at_gt {x y : List UInt8} {k : Nat} (h : x.take k = y.take k) (hx : k < x.length) (hy : k < y.length) (hl : y[k].toNat < x[k].toNat) : cmpL x y = 1 := by
  have := cmpL_at_lt h.symm hy hx hl
  rw [cmpL_neg, this]; rfl
theorem take_at_eq {x y : List UInt8} {k : Nat} (h : x.take k = y.take k) (hx : k < x.length) (hy : k < y.length) (hl : x[k].toNat = y[k].toNat) : x.take (k + 1) = y.take (k + 1) := by
  rw [List.take_succ_eq_append_getElem hx, List.take_succ_eq_append_getElem hy, h, UInt8.toNat_inj.1 hl]
theorem cmpL_end {x y : List UInt8} {k : Nat} (h : x.take k = y.take k) (hk : x.length ≤ k ∨ y.length ≤ k) (hx : k ≤ x.length) (hy : k ≤ y.length) :
    cmpL x y = if x.length < y.length then -1 else if y.length < x.length then 1 else 0 := by
  rw [cmpL_drop h, cmpL_eq]
  have c1 : ∀ z : List UInt8, k < z.length → Op.bytesLess [] (z.drop k) = true := fun z hz => by rw [List.drop_eq_getElem_cons hz]; rfl
  have c2 : ∀ z : List UInt8, k < z.length → Op.bytesLess (z.drop k) [] = false := fun z hz => by rw [List.drop_eq_getElem_cons hz]; rfl
  have c3 : Op.bytesLess [] [] = false := rfl
  rcases hk with hk | hk
  · rw [List.drop_eq_nil_of_le hk]
    by_cases hl : x.length < y.length
    · simp [c1 y (by omega), hl]
    · have hl2 : ¬ y.length < x.length := by omega
      rw [List.drop_eq_nil_of_le (by omega : y.length ≤ k)]
      simp [c3, hl, hl2]
  · rw [List.drop_eq_nil_of_le hk]
    by_cases hl : y.length < x.length
    · have hl2 : ¬ x.length < y.length := by omega
      simp [c1 x (by omega), c2 x (by omega), hl, hl2]
    · have hl2 : ¬ x.length < y.length := by omega
      rw [List.drop_eq_nil_of_le (by omega : x.length ≤ k)]
      simp [c3, hl, hl2]
/-- the same said of byte arrays. -/
theorem len_toList (s : ByteArray) : s.toList.length = s.size := by rw [ByteArray.toList_eq]; simp
theorem toList_inj {s t : ByteArray} (h : s.toList = t.toList) : s = t := by
  rw [ByteArray.toList_eq, ByteArray.toList_eq] at h
  cases s; cases t
  simpa using h
theorem get_toList (s : ByteArray) (k : Nat) (h : k < s.size) : s.toList[k]'(by rw [len_toList]; exact h) = s[k] := by
  simp only [ByteArray.toList_eq]
  rfl
theorem cmpS_at_lt {x y : ByteArray} {k : Nat} (h : x.toList.take k = y.toList.take k) (hx : k < x.size) (hy : k < y.size) (hl : x[k].toNat < y[k].toNat) : cmpL x.toList y.toList = -1 :=
  cmpL_at_lt h (by rw [len_toList]; exact hx) (by rw [len_toList]; exact hy) (by rw [get_toList _ _ hx, get_toList _ _ hy]; exact hl)
theorem cmpS_at_gt {x y : ByteArray} {k : Nat} (h : x.toList.take k = y.toList.take k) (hx : k < x.size) (hy : k < y.size) (hl : y[k].toNat < x[k].toNat) : cmpL x.toList y.toList = 1 :=
  cmpL_at_gt h (by rw [len_toList]; exact hx) (by rw [len_toList]; exact hy) (by rw [get_toList _ _ hx, get_toList _ _ hy]; exact hl)
theorem takeS_at_eq {x y : ByteArray} {k : Nat} (h : x.toList.take k = y.toList.take k) (hx : k < x.size) (hy : k < y.size) (hl : x[k].toNat = y[k].toNat) : x.toList.take (k + 1) = y.toList.take (k + 1) :=
  take_at_eq h (by rw [len_toList]; exact hx) (by rw [len_toList]; exact hy) (by rw [get_toList _ _ hx, get_toList _ _ hy]; exact hl)
theorem cmpS_end {x y : ByteArray} {k : Nat} (h : x.toList.take k = y.toList.take k) (hk : x.size ≤ k ∨ y.size ≤ k) (hx : k ≤ x.size) (hy : k ≤ y.size) :
    cmpL x.toList y.toList = if x.size < y.size then -1 else if y.size < x.size then 1 else 0 := by
  have := cmpL_end h (by rw [len_toList, len_toList]; exact hk) (by rw [len_toList]; exact hx) (by rw [len_toList]; exact hy)
  rwa [len_toList, len_toList] at this
end Go.Proofs.YtjgigcnjgblekaaDoor

namespace Go.Proofs.YtjgigcnjgblekaaDoor
open Go Go.RowKit

/-- A comparison that orders, up to being alike; one that tells all apart. -/
structure Pre3 {α : Type} (c : α → α → Int) : Prop where
  neg : ∀ x y, c x y = - c y x
  tr : ∀ x y z, c x y ≤ 0 → c y z ≤ 0 → c x z ≤ 0
structure Ord3 {α : Type} (c : α → α → Int) : Prop extends Pre3 c where
  zero : ∀ x y, c x y = 0 → x = y
section
variable {α β : Type} {c c1 c2 : α → α → Int}
theorem Pre3.self (h : Pre3 c) (x : α) : c x x = 0 := by have := h.neg x x; omega
theorem Pre3.ze (h : Pre3 c) {x y z : α} (h1 : c x y = 0) (h2 : c y z = 0) : c x z = 0 := by
  have a := h.tr x y z (by omega) (by omega)
  have b := h.tr z y x (by have := h.neg y z; omega) (by have := h.neg x y; omega)
  have := h.neg x z
  omega
theorem Pre3.lt (h : Pre3 c) {x y z : α} (h1 : c x y < 0) (h2 : c y z ≤ 0) : c x z < 0 := by
  have a := h.tr x y z (by omega) h2
  rcases Int.lt_or_eq_of_le a with h3 | h3
  · exact h3
  · have b := h.tr y z x h2 (by have := h.neg x z; omega)
    have := h.neg x y
    omega
theorem Pre3.lt' (h : Pre3 c) {x y z : α} (h1 : c x y ≤ 0) (h2 : c y z < 0) : c x z < 0 := by
  have a := h.tr x y z h1 (by omega)
  rcases Int.lt_or_eq_of_le a with h3 | h3
  · exact h3
  · have b := h.tr z x y (by have := h.neg x z; omega) h1
    have := h.neg y z
    omega
theorem Pre3.comap (h : Pre3 c) (f : β → α) : Pre3 (fun x y => c (f x) (f y)) := ⟨fun _x _y => h.neg _ _, fun _x _y _z => h.tr _ _ _⟩
theorem Pre3.lex (h1 : Pre3 c1) (h2 : Pre3 c2) : Pre3 (fun x y => if c1 x y = 0 then c2 x y else c1 x y) := by
  refine ⟨fun x y => ?_, fun x y z => ?_⟩
  · have n1 := h1.neg x y
    have n2 := h2.neg x y
    by_cases e : c1 x y = 0
    · rw [if_pos e, if_pos (by omega)]; exact n2
    · rw [if_neg e, if_neg (by omega)]; exact n1
  · intro a b
    by_cases e1 : c1 x y = 0
    · rw [if_pos e1] at a
      by_cases e2 : c1 y z = 0
      · rw [if_pos e2] at b
        rw [if_pos (h1.ze e1 e2)]
        exact h2.tr x y z a b
      · rw [if_neg e2] at b
        have := h1.lt' (x := x) (y := y) (z := z) (by omega) (by omega)
        rw [if_neg (by omega)]; omega
    · rw [if_neg e1] at a
      have hb : c1 y z ≤ 0 := by
        by_cases e2 : c1 y z = 0
        · omega
        · rw [if_neg e2] at b; exact b
      have := h1.lt (x := x) (y := y) (z := z) (by omega) hb
      rw [if_neg (by omega)]; omega
theorem lex_zero {a b : Int} (h : (if a = 0 then b else a) = 0) : a = 0 ∧ b = 0 := by
  by_cases e : a = 0
  · rw [if_pos e] at h; exact ⟨e, h⟩
  · rw [if_neg e] at h; exact absurd h e
end
/-- Lists, element by element. -/
def cmpLx {α : Type} (c : α → α → Int) : List α → List α → Int
  | [], [] => 0
  | [], _ :: _ => -1
  | _ :: _, [] => 1
  | x :: r, y :: s => if c x y = 0 then cmpLx c r s else c x y
theorem ord_lx {α : Type} {c : α → α → Int} (h : Ord3 c) : Ord3 (cmpLx c) := by
  refine ⟨⟨?_, ?_⟩, ?_⟩
  · intro x
    induction x with
    | nil => intro y; cases y <;> simp [cmpLx]
    | cons a r ih =>
      intro y
      cases y with
      | nil => simp [cmpLx]
      | cons b s =>
        have n := h.neg a b
        simp only [cmpLx]
        by_cases e : c a b = 0
        · rw [if_pos e, if_pos (by omega)]; exact ih s
        · rw [if_neg e, if_neg (by omega)]; exact n
  · intro x
    induction x with
    | nil => intro y z _ _; cases z <;> simp [cmpLx]
    | cons a r ih =>
      intro y z h1 h2
      cases y with
      | nil => simp [cmpLx] at h1
      | cons b s =>
        cases z with
        | nil => simp [cmpLx] at h2
        | cons d t =>
          simp only [cmpLx] at h1 h2 ⊢
          by_cases e1 : c a b = 0
          · rw [if_pos e1] at h1
            have := h.zero _ _ e1
            subst this
            by_cases e2 : c a d = 0
            · rw [if_pos e2] at h2 ⊢
              exact ih s t h1 h2
            · rw [if_neg e2] at h2 ⊢
              exact h2
          · rw [if_neg e1] at h1
            have hb : c b d ≤ 0 := by
              by_cases e2 : c b d = 0
              · omega
              · rw [if_neg e2] at h2; exact h2
            have := h.toPre3.lt (x := a) (y := b) (z := d) (by omega) hb
            rw [if_neg (by omega)]; omega
  · intro x
    induction x with
    | nil => intro y e; cases y with
      | nil => rfl
      | cons b s => simp [cmpLx] at e
    | cons a r ih =>
      intro y e
      cases y with
      | nil => simp [cmpLx] at e
      | cons b s =>
        simp only [cmpLx] at e
        obtain ⟨e1, e2⟩ := lex_zero e
        rw [h.zero _ _ e1, ih s e2]
instance instCstA : Inhabited Cst := ⟨⟨0, 0, ⟨#[]⟩⟩⟩
/-- Ids by their constants, then by themselves. -/
def cmpId (cs : List Cst) (x y : Int) : Int := if cmpC (cs.getD x.toNat default) (cs.getD y.toNat default) = 0 then cmpI x y else cmpC (cs.getD x.toNat default) (cs.getD y.toNat default)
def cmpA (cs : List Cst) (a b : Ac) : Int := if cmpI a.rule b.rule = 0 then cmpLx (cmpId cs) a.sub b.sub else cmpI a.rule b.rule
theorem pre_I : Pre3 cmpI := ⟨cmpI_neg, fun x y z => by unfold cmpI; intro h1 h2; split at h1 <;> split at h2 <;> split <;> omega⟩
theorem pre_C : Pre3 cmpC := ⟨cmpC_neg, fun _ _ _ h1 h2 => cmpC_le_trans h1 h2⟩
theorem ord_id (cs : List Cst) : Ord3 (cmpId cs) :=
  ⟨(pre_C.comap (fun x : Int => cs.getD x.toNat default)).lex pre_I, fun _x _y h => cmpI_zero.1 (lex_zero h).2⟩
theorem ord_A (cs : List Cst) : Ord3 (cmpA cs) := by
  refine ⟨(pre_I.comap Ac.rule).lex ((ord_lx (ord_id cs)).toPre3.comap Ac.sub), fun x y h => ?_⟩
  obtain ⟨h1, h2⟩ := lex_zero h
  have e1 := cmpI_zero.1 h1
  have e2 := (ord_lx (ord_id cs)).zero _ _ h2
  obtain ⟨xr, xs⟩ := x
  obtain ⟨yr, ys⟩ := y
  simp only at e1 e2
  subst e1 e2
  rfl
/-- In order; the one list in order with the same acts. -/
def leA (cs : List Cst) (a b : Ac) : Bool := decide (cmpA cs a b ≤ 0)
def SdA (cs : List Cst) (l : List Ac) : Prop := l.Pairwise (fun a b => leA cs a b = true)
theorem leA_trans (cs : List Cst) (a b c : Ac) (h1 : leA cs a b = true) (h2 : leA cs b c = true) : leA cs a c = true := by
  unfold leA at *
  simp only [decide_eq_true_eq] at *
  exact (ord_A cs).tr a b c h1 h2
theorem leA_total (cs : List Cst) (a b : Ac) : (leA cs a b || leA cs b a) = true := by
  unfold leA
  have := (ord_A cs).neg a b
  simp only [Bool.or_eq_true, decide_eq_true_eq]
  omega
theorem leA_anti {cs : List Cst} {a b : Ac} (h1 : leA cs a b = true) (h2 : leA cs b a = true) : a = b := by
  unfold leA at *
  simp only [decide_eq_true_eq] at *
  have := (ord_A cs).neg a b
  exact (ord_A cs).zero a b (by omega)
theorem sdA_eq {cs : List Cst} {l m : List Ac} (hl : SdA cs l) (hm : SdA cs m) (h : l.Perm m) : l = m :=
  h.eq_of_pairwise (fun _a _b _ _ h1 h2 => leA_anti h1 h2) hl hm
def sortA (cs : List Cst) (l : List Ac) : List Ac := l.mergeSort (leA cs)
theorem sortA_perm (cs : List Cst) (l : List Ac) : (sortA cs l).Perm l := List.mergeSort_perm l _
theorem sortA_sd (cs : List Cst) (l : List Ac) : SdA cs (sortA cs l) := List.pairwise_mergeSort (leA_trans cs) (leA_total cs) l
theorem sortA_of {cs : List Cst} {l m : List Ac} (hm : SdA cs m) (h : m.Perm l) : m = sortA cs l := sdA_eq hm (sortA_sd cs l) (h.trans (sortA_perm cs l).symm)
theorem sortA_congr {cs : List Cst} {l m : List Ac} (h : l.Perm m) : sortA cs l = sortA cs m := sortA_of (sortA_sd cs l) ((sortA_perm cs l).trans h)
end Go.Proofs.YtjgigcnjgblekaaDoor

namespace Go.Proofs.YtjgigcnjgblekaaDoor
open Go Go.RowKit Classical

/-- An agenda: strata, constants, the conflict set, what has fired. -/
structure Agd where
  lv : List Int
  cs : List Cst
  C : List Ac
  D : List Ac
/-- One of the agenda's acts? -/
def ownA (g : Agd) (a : Ac) : Prop := (0 ≤ a.rule ∧ a.rule < (g.lv.length : Int)) ∧ ∀ i ∈ a.sub, 0 ≤ i ∧ i < (g.cs.length : Int)
def lvl (lv : List Int) (a : Ac) : Int := lv.getD a.rule.toNat 0
/-- All is well in it. -/
structure AgOk (g : Agd) : Prop where
  lv : ∀ l ∈ g.lv, 0 ≤ l
  ownC : ∀ a ∈ g.C, ownA g a
  ownD : ∀ a ∈ g.D, ownA g a
  nodC : g.C.Nodup
  nodD : g.D.Nodup
theorem lvl_pos {g : Agd} (h : AgOk g) (a : Ac) : 0 ≤ lvl g.lv a := by
  unfold lvl
  rw [List.getD_eq_getElem?_getD]
  cases e : g.lv[a.rule.toNat]? with
  | none => exact Int.le_refl _
  | some l => exact h.lv l (List.mem_of_getElem? e)
noncomputable def openA (g : Agd) : List Ac := g.C.filter fun a => decide (a ∉ g.D)
/-- The lowest stratum, act by act. -/
noncomputable def lowS (lv : List Int) (s : Int) (a : Ac) : Int := if s < 0 ∨ lvl lv a < s then lvl lv a else s
noncomputable def strL (lv : List Int) (l : List Ac) : Int := l.foldl (lowS lv) (-1)
noncomputable def strA (g : Agd) : Int := strL g.lv (openA g)
noncomputable def eligA (g : Agd) : List Ac := sortA g.cs ((openA g).filter fun a => decide (lvl g.lv a = strA g))
/-- The lowest: none where there is no act; else one that is met, and no act lies lower. -/
def Low (lv : List Int) (l : List Ac) (s : Int) : Prop := (l = [] ∧ s = -1) ∨ (∃ a ∈ l, lvl lv a = s) ∧ ∀ a ∈ l, s ≤ lvl lv a
theorem low_un {lv : List Int} {l m : List Ac} {s t : Int} (hm : ∀ a, a ∈ l ↔ a ∈ m) (h : Low lv l s) (h' : Low lv m t) : s = t := by
  rcases h with ⟨rfl, rfl⟩ | ⟨⟨a, ha, rfl⟩, h2⟩ <;> rcases h' with ⟨rfl, rfl⟩ | ⟨⟨b, hb, rfl⟩, h4⟩
  · rfl
  · exact absurd ((hm b).2 hb) (by simp)
  · exact absurd ((hm a).1 ha) (by simp)
  · have h5 := h2 b ((hm b).2 hb)
    have h6 := h4 a ((hm a).1 ha)
    omega
theorem low_step {lv : List Int} {l : List Ac} {s : Int} (hp : ∀ a ∈ l, 0 ≤ lvl lv a) (h : Low lv l s) (a : Ac) : Low lv (l ++ [a]) (lowS lv s a) := by
  right
  unfold lowS
  rcases h with ⟨rfl, rfl⟩ | ⟨⟨b, hb, rfl⟩, h2⟩
  · rw [if_pos (.inl (by omega))]
    exact ⟨⟨a, by simp, rfl⟩, fun x hx => by simp at hx; rw [hx]; exact Int.le_refl _⟩
  · have hb0 := hp b hb
    by_cases h3 : lvl lv a < lvl lv b
    · rw [if_pos (.inr h3)]
      refine ⟨⟨a, by simp, rfl⟩, fun x hx => ?_⟩
      rcases List.mem_append.1 hx with hx | hx
      · have := h2 x hx; omega
      · rw [List.mem_singleton.1 hx]; exact Int.le_refl _
    · rw [if_neg (by omega)]
      refine ⟨⟨b, List.mem_append_left _ hb, rfl⟩, fun x hx => ?_⟩
      rcases List.mem_append.1 hx with hx | hx
      · exact h2 x hx
      · rw [List.mem_singleton.1 hx]; omega
theorem low_strL {lv : List Int} : ∀ (m l : List Ac) (s : Int), (∀ a, a ∈ l ∨ a ∈ m → 0 ≤ lvl lv a) → Low lv l s → Low lv (l ++ m) (m.foldl (lowS lv) s)
  | [], l, s, _, h => by simpa using h
  | a :: m, l, s, hp, h => by
    have := low_strL m (l ++ [a]) (lowS lv s a) (fun x hx => hp x (by
      rcases hx with hx | hx
      · rcases List.mem_append.1 hx with hx | hx
        · exact .inl hx
        · exact .inr (by rw [List.mem_singleton.1 hx]; exact List.mem_cons_self ..)
      · exact .inr (List.mem_cons_of_mem _ hx))) (low_step (fun x hx => hp x (.inl hx)) h a)
    simpa using this
theorem strL_low {lv : List Int} (hl : ∀ a, 0 ≤ lvl lv a) (l : List Ac) : Low lv l (strL lv l) := by
  have := low_strL l [] (-1) (fun a _ => hl a) (.inl ⟨rfl, rfl⟩)
  simpa [strL] using this
/-- Two agendas that hold the same acts tell the same. -/
structure Alike (g h : Agd) : Prop where
  lv : g.lv = h.lv
  cs : g.cs = h.cs
  C : g.C.Perm h.C
  D : ∀ a, a ∈ g.D ↔ a ∈ h.D
theorem Alike.open {g h : Agd} (k : Alike g h) : (openA g).Perm (openA h) := by
  unfold openA
  have e : (fun a => decide (a ∉ g.D)) = (fun a => decide (a ∉ h.D)) := by
    funext a
    exact decide_eq_decide.2 (not_congr (k.D a))
  rw [e]
  exact k.C.filter _
theorem Alike.str {g h : Agd} (k : Alike g h) (hg : AgOk g) : strA g = strA h := by
  unfold strA
  have l2 := strL_low (lvl_pos hg) (openA h)
  rw [k.lv] at l2
  have l1 := strL_low (lvl_pos hg) (openA g)
  rw [k.lv] at l1 ⊢
  exact low_un (fun a => k.open.mem_iff) l1 l2
theorem Alike.elig {g h : Agd} (k : Alike g h) (hg : AgOk g) : eligA g = eligA h := by
  unfold eligA
  rw [k.str hg, k.lv, k.cs]
  exact sortA_congr (k.open.filter _)
end Go.Proofs.YtjgigcnjgblekaaDoor
