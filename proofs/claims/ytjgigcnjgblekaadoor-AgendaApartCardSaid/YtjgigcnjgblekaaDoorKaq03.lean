/- Plain law: the order of integers, of byte lists, of constants. No program in sight. Words for slices that are read: cells from a place on; a slice that holds a list; the opening of a slice argument whose elements are constants. The opening of arguments, with the form's own reach: strings and slices are no longer than a process can address. -/
import Derived.Test.YtjgigcnjgblekaaDoorKaq01
import Derived.Laws.Cover1
namespace Go.Proofs.YtjgigcnjgblekaaDoor
open Go

/-- -1, 0, 1: two integers. -/
def cmpI (a b : Int) : Int := if a < b then -1 else if b < a then 1 else 0
/-- -1, 0, 1: two lists of bytes, as Go compares strings. -/
def cmpL (x y : List UInt8) : Int := if Op.bytesLess x y = true then -1 else if (!(Op.bytesLess x y || x == y)) = true then 1 else 0
/-- The first that is not 0. -/
def firstNz : List Int → Int
  | [] => 0
  | x :: r => if x = 0 then firstNz r else x

structure Cst where
  k : Int
  n : Int
  s : ByteArray

def cmpC (a b : Cst) : Int := firstNz [cmpI a.k b.k, cmpI a.n b.n, cmpL a.s.toList b.s.toList]

theorem less_irrefl : ∀ x : List UInt8, Op.bytesLess x x = false
  | [] => rfl
  | a :: x => by simp [Op.bytesLess, less_irrefl x]
theorem less_nil : ∀ x : List UInt8, Op.bytesLess x [] = false
  | [] => rfl
  | _ :: _ => rfl
theorem less_trans : ∀ x y z : List UInt8, Op.bytesLess x y = true → Op.bytesLess y z = true → Op.bytesLess x z = true
  | [], [], z, h1, h2 => by simp [Op.bytesLess] at h1
  | [], _ :: _, [], h1, h2 => by simp [Op.bytesLess] at h2
  | [], _ :: _, _ :: _, h1, h2 => by simp [Op.bytesLess]
  | _ :: _, [], _, h1, h2 => by simp [Op.bytesLess] at h1
  | _ :: _, _ :: _, [], h1, h2 => by simp [Op.bytesLess] at h2
  | a :: x, b :: y, c :: z, h1, h2 => by
    simp only [Op.bytesLess, Bool.or_eq_true, Bool.and_eq_true, decide_eq_true_eq, beq_iff_eq] at h1 h2 ⊢
    rcases h1 with h1 | ⟨rfl, h1⟩ <;> rcases h2 with h2 | ⟨rfl, h2⟩
    · exact .inl (UInt8.lt_trans h1 h2)
    · exact .inl h1
    · exact .inl h2
    · exact .inr ⟨rfl, less_trans x y z h1 h2⟩
theorem less_asymm (x y : List UInt8) (h : Op.bytesLess x y = true) : Op.bytesLess y x = false := by
  cases h2 : Op.bytesLess y x with
  | false => rfl
  | true => have := less_trans _ _ _ h h2; rw [less_irrefl] at this; cases this
theorem less_total : ∀ x y : List UInt8, Op.bytesLess x y = true ∨ x = y ∨ Op.bytesLess y x = true
  | [], [] => .inr (.inl rfl)
  | [], _ :: _ => .inl rfl
  | _ :: _, [] => .inr (.inr rfl)
  | a :: x, b :: y => by
    simp only [Op.bytesLess, Bool.or_eq_true, Bool.and_eq_true, decide_eq_true_eq, beq_iff_eq, List.cons.injEq]
    have h := less_total x y
    by_cases hab : a = b
    · subst hab
      rcases h with h | h | h <;> simp [h]
    · rcases (show a < b ∨ b < a from by
        have : a.toNat ≠ b.toNat := fun h => hab (UInt8.toNat_inj.1 h)
        rw [UInt8.lt_iff_toNat_lt, UInt8.lt_iff_toNat_lt]; omega) with h' | h' <;> simp [h']
theorem cmpL_eq (x y : List UInt8) : cmpL x y = if Op.bytesLess x y = true then -1 else if Op.bytesLess y x = true then 1 else 0 := by
  unfold cmpL
  by_cases h : Op.bytesLess x y = true
  · simp [h]
  · rw [if_neg h, if_neg h]
    rcases less_total x y with h1 | rfl | h1
    · exact absurd h1 h
    · simp [less_irrefl]
    · have : (x == y) = false := by
        rw [beq_eq_false_iff_ne]
        rintro rfl
        rw [less_irrefl] at h1
        cases h1
      simp [h1, this, h]
theorem cmpL_self (x : List UInt8) : cmpL x x = 0 := by simp [cmpL_eq, less_irrefl]
theorem cmpL_zero {x y : List UInt8} : cmpL x y = 0 ↔ x = y := by
  constructor
  · intro h
    rw [cmpL_eq] at h
    rcases less_total x y with h1 | h1 | h1
    · simp [h1] at h
    · exact h1
    · have := less_asymm _ _ h1
      simp [h1, this] at h
  · rintro rfl; exact cmpL_self x
theorem cmpL_rng (x y : List UInt8) : cmpL x y = -1 ∨ cmpL x y = 0 ∨ cmpL x y = 1 := by
  unfold cmpL; split
  · simp
  · split <;> simp
theorem cmpL_neg (x y : List UInt8) : cmpL x y = - cmpL y x := by
  rw [cmpL_eq, cmpL_eq]
  rcases less_total x y with h | rfl | h
  · simp [h, less_asymm _ _ h]
  · simp [less_irrefl]
  · simp [h, less_asymm _ _ h]
theorem cmpL_lt {x y : List UInt8} : cmpL x y < 0 ↔ Op.bytesLess x y = true := by
  unfold cmpL
  by_cases h : Op.bytesLess x y = true
  · simp [h]
  · rw [if_neg h]; simp only [h]; split <;> simp
theorem cmpI_rng (x y : Int) : cmpI x y = -1 ∨ cmpI x y = 0 ∨ cmpI x y = 1 := by
  unfold cmpI; split
  · simp
  · split <;> simp
theorem cmpI_ne {x y : Int} (h : x ≠ y) : cmpI x y = if x < y then -1 else 1 := by
  unfold cmpI
  by_cases h1 : x < y
  · rw [if_pos h1, if_pos h1]
  · rw [if_neg h1, if_neg h1, if_pos (by omega)]
theorem cmpI_neg (x y : Int) : cmpI x y = - cmpI y x := by unfold cmpI; repeat split <;> omega
theorem cmpI_zero {x y : Int} : cmpI x y = 0 ↔ x = y := by unfold cmpI; repeat split <;> omega
theorem cmpI_lt {x y : Int} : cmpI x y < 0 ↔ x < y := by unfold cmpI; repeat split <;> omega
theorem cmpI_self (x : Int) : cmpI x x = 0 := cmpI_zero.2 rfl

theorem cmpC_eq (a b : Cst) : cmpC a b = if cmpI a.k b.k = 0 then (if cmpI a.n b.n = 0 then cmpL a.s.toList b.s.toList else cmpI a.n b.n) else cmpI a.k b.k := by
  unfold cmpC firstNz firstNz firstNz firstNz
  split
  · split
    · split
      · exact Eq.symm ‹_›
      · rfl
    · rfl
  · rfl
theorem cmpC_rng (a b : Cst) : cmpC a b = -1 ∨ cmpC a b = 0 ∨ cmpC a b = 1 := by
  rw [cmpC_eq]
  have := cmpI_rng a.k b.k; have := cmpI_rng a.n b.n; have := cmpL_rng a.s.toList b.s.toList
  split
  · split <;> assumption
  · assumption
theorem cmpC_neg (a b : Cst) : cmpC a b = - cmpC b a := by
  rw [cmpC_eq, cmpC_eq, cmpI_neg a.k b.k, cmpI_neg a.n b.n, cmpL_neg a.s.toList b.s.toList]
  simp only [Int.neg_eq_zero]
  split
  · split <;> rfl
  · rfl
theorem cmpC_self (a : Cst) : cmpC a a = 0 := by rw [cmpC_eq]; simp [cmpI_self, cmpL_self]
/-- 0 just for the same. -/
theorem cmpC_zero {a b : Cst} : cmpC a b = 0 ↔ a.k = b.k ∧ a.n = b.n ∧ a.s.toList = b.s.toList := by
  rw [cmpC_eq]
  have h1 := @cmpI_zero a.k b.k; have h2 := @cmpI_zero a.n b.n; have h3 := @cmpL_zero a.s.toList b.s.toList
  constructor
  · intro h
    split at h
    · rename_i e1
      split at h
      · rename_i e2; exact ⟨h1.1 e1, h2.1 e2, h3.1 h⟩
      · rename_i e2; exact absurd h e2
    · rename_i e1; exact absurd h e1
  · rintro ⟨e1, e2, e3⟩
    rw [if_pos (h1.2 e1), if_pos (h2.2 e2)]
    exact h3.2 e3
/-- a comes ahead of b. -/
def aheadC (a b : Cst) : Prop := a.k < b.k ∨ (a.k = b.k ∧ (a.n < b.n ∨ (a.n = b.n ∧ Op.bytesLess a.s.toList b.s.toList = true)))
theorem cmpC_lt {a b : Cst} : cmpC a b < 0 ↔ aheadC a b := by
  rw [cmpC_eq]
  unfold aheadC
  split
  · rename_i h1
    have e1 := cmpI_zero.1 h1
    split
    · rename_i h2
      have e2 := cmpI_zero.1 h2
      rw [cmpL_lt]
      constructor
      · intro h; exact .inr ⟨e1, .inr ⟨e2, h⟩⟩
      · rintro (h | ⟨_, h | ⟨_, h⟩⟩)
        · omega
        · omega
        · exact h
    · rename_i h2
      have e2 : ¬ a.n = b.n := fun h => h2 (cmpI_zero.2 h)
      rw [cmpI_lt]
      constructor
      · intro h; exact .inr ⟨e1, .inl h⟩
      · rintro (h | ⟨_, h | ⟨h, _⟩⟩)
        · omega
        · exact h
        · exact absurd h e2
  · rename_i h1
    have e1 : ¬ a.k = b.k := fun h => h1 (cmpI_zero.2 h)
    rw [cmpI_lt]
    constructor
    · intro h; exact .inl h
    · rintro (h | ⟨h, _⟩)
      · exact h
      · exact absurd h e1
theorem aheadC_trans {a b c : Cst} (h1 : aheadC a b) (h2 : aheadC b c) : aheadC a c := by
  unfold aheadC at *
  rcases h1 with h1 | ⟨e1, h1 | ⟨f1, h1⟩⟩ <;> rcases h2 with h2 | ⟨e2, h2 | ⟨f2, h2⟩⟩
  · exact .inl (by omega)
  · exact .inl (by omega)
  · exact .inl (by omega)
  · exact .inl (by omega)
  · exact .inr ⟨by omega, .inl (by omega)⟩
  · exact .inr ⟨by omega, .inl (by omega)⟩
  · exact .inl (by omega)
  · exact .inr ⟨by omega, .inl (by omega)⟩
  · exact .inr ⟨by omega, .inr ⟨by omega, less_trans _ _ _ h1 h2⟩⟩
theorem cmpC_le_trans {a b c : Cst} (h1 : cmpC a b ≤ 0) (h2 : cmpC b c ≤ 0) : cmpC a c ≤ 0 := by
  rcases (show cmpC a b < 0 ∨ cmpC a b = 0 from by omega) with g1 | g1
  · rcases (show cmpC b c < 0 ∨ cmpC b c = 0 from by omega) with g2 | g2
    · have := cmpC_lt.2 (aheadC_trans (cmpC_lt.1 g1) (cmpC_lt.1 g2)); omega
    · obtain ⟨e1, e2, e3⟩ := cmpC_zero.1 g2
      have : cmpC a c = cmpC a b := by rw [cmpC_eq, cmpC_eq, e1, e2, e3]
      omega
  · obtain ⟨e1, e2, e3⟩ := cmpC_zero.1 g1
    have : cmpC a c = cmpC b c := by rw [cmpC_eq, cmpC_eq, e1, e2, e3]
    omega

theorem less_prefix : ∀ (p x y : List UInt8), Op.bytesLess (p ++ x) (p ++ y) = Op.bytesLess x y
  | [], _, _ => rfl
  | a :: p, x, y => by simp [Op.bytesLess, less_prefix p x y]
theorem cmpL_prefix (p x y : List UInt8) : cmpL (p ++ x) (p ++ y) = cmpL x y := by rw [cmpL_eq, cmpL_eq, less_prefix, less_prefix]
theorem cmpL_drop {x y : List UInt8} {k : Nat} (h : x.take k = y.take k) : cmpL x y = cmpL (x.drop k) (y.drop k) := by
  have e : cmpL x y = cmpL (x.take k ++ x.drop k) (y.take k ++ y.drop k) := by rw [List.take_append_drop, List.take_append_drop]
  rw [e, h, cmpL_prefix]
theorem cmpL_at_lt {x y : List UInt8} {k : Nat} (h : x.take k = y.take k) (hx : k < x.length) (hy : k < y.length) (hl : x[k].toNat < y[k].toNat) : cmpL x y = -1 := by
  rw [cmpL_drop h, List.drop_eq_getElem_cons hx, List.drop_eq_getElem_cons hy, cmpL_eq, if_pos]
  simp only [Op.bytesLess, Bool.or_eq_true, decide_eq_true_eq]
  exact .inl (UInt8.lt_iff_toNat_lt.2 hl)
theorem cmpL_at_gt {x y : List UInt8} {k : Nat} (h : x.take k = y.take k) (hx : k < x.length) (hy : k < y.length) (hl : y[k].toNat < x[k].toNat) : cmpL x y = 1 := by
  have := cmpL_at_lt h.symm hy hx hl
  rw [cmpL_neg, this]; rfl
theorem take_at_eq {x y : List UInt8} {k : Nat} (h : x.take k = y.take k) (hx : k < x.length) (hy : k < y.length) (hl : x[k].toNat = y[k].toNat) : x.take (k + 1) = y.take (k + 1) := by
  rw [List.take_succ_eq_append_getElem hx, List.take_succ_eq_append_getElem hy, h, UInt8.toNat_inj.1 hl]
theorem cmpL_end {x y : List UInt8} {k : Nat} (h : x.take k = y.take k) (hk : x.length ≤ k ∨ y.length ≤ k) (hx : k ≤ x.length) (hy : k ≤ y.length) :
    cmpL x y = if x.length < y.length then -1 else if y.length < x.length then 1 else 0 := by
  rw [cmpL_drop h, cmpL_eq]
  have c1 : ∀ z : List UInt8, k < z.length → Op.bytesLess [] (z.drop k) = true := fun z hz => by rw [List.drop_eq_getElem_cons hz]; rfl
  have c2 : ∀ z : List UInt8, k < z.length → Op.bytesLess (z.drop k) [] = false := fun z hz => by rw [List.drop_eq_getElem_cons hz]; rfl
  have c3 : Op.bytesLess [] [] = false := rfl
  rcases hk with hk | hk
  · rw [List.drop_eq_nil_of_le hk]
    by_cases hl : x.length < y.length
    · simp [c1 y (by omega), hl]
    · have hl2 : ¬ y.length < x.length := by omega
      rw [List.drop_eq_nil_of_le (by omega : y.length ≤ k)]
      simp [c3, hl, hl2]
  · rw [List.drop_eq_nil_of_le hk]
    by_cases hl : y.length < x.length
    · have hl2 : ¬ x.length < y.length := by omega
      simp [c1 x (by omega), c2 x (by omega), hl, hl2]
    · have hl2 : ¬ x.length < y.length := by omega
      rw [List.drop_eq_nil_of_le (by omega : x.length ≤ k)]
      simp [c3, hl, hl2]
/-- the same said of byte arrays. -/
theorem len_toList (s : ByteArray) : s.toList.length = s.size := by rw [ByteArray.toList_eq]; simp
theorem toList_inj {s t : ByteArray} (h : s.toList = t.toList) : s = t := by
  rw [ByteArray.toList_eq, ByteArray.toList_eq] at h
  cases s; cases t
  simpa using h
theorem get_toList (s : ByteArray) (k : Nat) (h : k < s.size) : s.toList[k]'(by rw [len_toList]; exact h) = s[k] := by
  simp only [ByteArray.toList_eq]
  rfl
theorem cmpS_at_lt {x y : ByteArray} {k : Nat} (h : x.toList.take k = y.toList.take k) (hx : k < x.size) (hy : k < y.size) (hl : x[k].toNat < y[k].toNat) : cmpL x.toList y.toList = -1 :=
  cmpL_at_lt h (by rw [len_toList]; exact hx) (by rw [len_toList]; exact hy) (by rw [get_toList _ _ hx, get_toList _ _ hy]; exact hl)
theorem cmpS_at_gt {x y : ByteArray} {k : Nat} (h : x.toList.take k = y.toList.take k) (hx : k < x.size) (hy : k < y.size) (hl : y[k].toNat < x[k].toNat) : cmpL x.toList y.toList = 1 :=
  cmpL_at_gt h (by rw [len_toList]; exact hx) (by rw [len_toList]; exact hy) (by rw [get_toList _ _ hx, get_toList _ _ hy]; exact hl)
theorem takeS_at_eq {x y : ByteArray} {k : Nat} (h : x.toList.take k = y.toList.take k) (hx : k < x.size) (hy : k < y.size) (hl : x[k].toNat = y[k].toNat) : x.toList.take (k + 1) = y.toList.take (k + 1) :=
  take_at_eq h (by rw [len_toList]; exact hx) (by rw [len_toList]; exact hy) (by rw [get_toList _ _ hx, get_toList _ _ hy]; exact hl)
theorem cmpS_end {x y : ByteArray} {k : Nat} (h : x.toList.take k = y.toList.take k) (hk : x.size ≤ k ∨ y.size ≤ k) (hx : k ≤ x.size) (hy : k ≤ y.size) :
    cmpL x.toList y.toList = if x.size < y.size then -1 else if y.size < x.size then 1 else 0 := by
  have := cmpL_end h (by rw [len_toList, len_toList]; exact hk) (by rw [len_toList]; exact hx) (by rw [len_toList]; exact hy)
  rwa [len_toList, len_toList] at this
end Go.Proofs.YtjgigcnjgblekaaDoor

namespace Go.Proofs.YtjgigcnjgblekaaDoor
open Go.ChangeShapes Go.WideShapes Go.ChangeAt Go.RowKit Go.Deep

theorem below_step {w W w' : World} (h : Below w.heap.size w W) (h2 : Below W.heap.size W w') : Below w.heap.size w w' := h.trans (h2.mono h.size)

theorem block_add (a : Addr) (n : Nat) : (a.add n).block = a.block := by unfold Addr.add; split <;> rfl
theorem add_add' (a : Addr) (i j : Nat) : (a.add i).add j = a.add (i + j) := by
  unfold Addr.add
  by_cases hi : i = 0 <;> by_cases hj : j = 0 <;> simp [hi, hj, Nat.add_assoc]
theorem add_none (b off n : Nat) : (Addr.add ⟨b, off, none⟩ n) = ⟨b, off + n, none⟩ := by
  unfold Addr.add
  by_cases h : n = 0 <;> simp [h]

/-- The cells cs lie in block b from place o on. -/
def CsAt (w : World) (b o : Nat) (cs : List Value) : Prop := ∀ j u, cs[j]? = some u → w.cell? ⟨b, o + j, none⟩ = some u
theorem CsAt.below {w w' : World} {B b o : Nat} {cs : List Value} (h : CsAt w b o cs) (hb : Below B w w') (hlt : b < B) : CsAt w' b o cs :=
  fun j u hu => (hb.cell (p := ⟨b, o + j, none⟩) hlt).trans (h j u hu)

/-- A slice at address A with the elements xs, each of sz cells, in a block below B. -/
def SlAt {α : Type} (w : World) (B sz : Nat) (enc : α → List Value) (A : Option Addr) (xs : List α) : Prop :=
  xs = [] ∨ ∃ b off, A = some ⟨b, off, none⟩ ∧ b < B ∧ ∀ i x, xs[i]? = some x → CsAt w b (off + i * sz) (enc x)

theorem SlAt.below {α : Type} {w w' : World} {B sz : Nat} {enc : α → List Value} {A : Option Addr} {xs : List α} (h : SlAt w B sz enc A xs) {B' : Nat} (hb : Below B' w w') (hB : B ≤ B') : SlAt w' B sz enc A xs := by
  rcases h with h | ⟨b, off, hA, hlt, hc⟩
  · exact .inl h
  · exact .inr ⟨b, off, hA, hlt, fun i x hx => (hc i x hx).below hb (by omega)⟩
theorem SlAt.form {α : Type} {w : World} {B sz : Nat} {enc : α → List Value} {A : Option Addr} {xs : List α} (h : SlAt w B sz enc A xs) (hne : 0 < xs.length) :
    ∃ b off, A = some ⟨b, off, none⟩ ∧ b < B ∧ ∀ i x, xs[i]? = some x → CsAt w b (off + i * sz) (enc x) := by
  rcases h with rfl | h
  · simp at hne
  · exact h

/-- A constant's cells. -/
def Cst.cells (c : Cst) : List Value := [.int .i64 c.k, .int .i64 c.n, .string c.s]
def Cst.ok (c : Cst) : Prop := (Lit.int .i64 c.k).wf = true ∧ (Lit.int .i64 c.n).wf = true ∧ c.s.size ≤ maxLen

section
variable {H : Type} {enc : TypeId × Value → H} {P : Program} {w : World} {base : Nat} {spare : Nat → Bool} {held : Bool}

theorem spot_none {w : World} {a : Addr} {v : Value} (h : w.cell? a = some v) : a.spot = none := World.cell?_spot h

/-- The three cells of a constant. -/
theorem open_cst {e : TypeId} {f0 f1 f2 : Field} {fuel : Nat} {cs : List Value} {x : DataW H × List MemPlace} (he : P.underlying e = some (.struct #[f0, f1, f2])) (hone : oneCellFields P #[f0, f1, f2] = true)
    (h0 : P.underlying f0.type = some (.int .i64)) (h1 : P.underlying f1.type = some (.int .i64)) (h2 : P.underlying f2.type = some .string) (hC : P.cellsOf e = 3)
    (h : DataW.trod enc P w base spare held fuel e cs = some x) : ∃ c : Cst, c.ok ∧ cs = c.cells := by
  obtain ⟨ys, n, _, _, hlen, _, hf⟩ := DataW.trod_struct he h
  obtain ⟨o0, k0⟩ := hone_of hone 0 f0 rfl
  obtain ⟨o1, k1⟩ := hone_of hone 1 f1 rfl
  obtain ⟨o2, k2⟩ := hone_of hone 2 f2 rfl
  have g0 := hf 0 f0 rfl
  have g1 := hf 1 f1 rfl
  have g2 := hf 2 f2 rfl
  rw [o0, k0] at g0; rw [o1, k1] at g1; rw [o2, k2] at g2
  rw [hC] at hlen
  obtain ⟨a, b, c, rfl⟩ : ∃ a b c, cs = [a, b, c] := by
    match cs, hlen with
    | [a, b, c], _ => exact ⟨a, b, c, rfl⟩
  simp only [List.drop_zero, List.take_succ_cons, List.take_zero, List.drop_succ_cons] at g0 g1 g2
  have y0 : ∃ y, ys[0]? = some y := by cases hy : ys[0]? with | none => (have := List.getElem?_eq_none_iff.1 hy; simp_all) | some y => exact ⟨y, rfl⟩
  have y1 : ∃ y, ys[1]? = some y := by cases hy : ys[1]? with | none => (have := List.getElem?_eq_none_iff.1 hy; simp_all) | some y => exact ⟨y, rfl⟩
  have y2 : ∃ y, ys[2]? = some y := by cases hy : ys[2]? with | none => (have := List.getElem?_eq_none_iff.1 hy; simp_all) | some y => exact ⟨y, rfl⟩
  obtain ⟨y0, e0⟩ := y0; obtain ⟨y1, e1⟩ := y1; obtain ⟨y2, e2⟩ := y2
  rw [e0] at g0; rw [e1] at g1; rw [e2] at g2
  obtain ⟨k, hk, _, wk⟩ := DataW.trod_int h0 g0
  obtain ⟨m, hm, _, wm⟩ := DataW.trod_int h1 g1
  obtain ⟨s, hs, _, ws⟩ := DataW.trod_string h2 g2
  simp only [List.cons.injEq, and_true] at hk hm hs
  subst hk; subst hm; subst hs
  exact ⟨⟨k, m, s⟩, ⟨wk, wm, ws⟩, rfl⟩

/-- A slice argument, each element of a known make. -/
theorem open_sl {α : Type} {t e : TypeId} {fuel : Nat} {v : Value} {x : DataW H × List MemPlace} {sz : Nat} {cells : α → List Value} {ok : α → Prop} (ht : P.underlying t = some (.slice e)) (hC : P.cellsOf e = sz) (hsz : 0 < sz)
    (hcells : ∀ a, (cells a).length = sz)
    (hel : ∀ (fuel : Nat) (cs : List Value) (x : DataW H × List MemPlace), DataW.trod enc P w base spare held fuel e cs = some x → ∃ a, ok a ∧ cs = cells a)
    (h : DataW.trod enc P w base spare held fuel t [v] = some x) :
    ∃ (A : Option Addr) (cap : Nat) (xs : List α), v = .slice A xs.length cap ∧ xs.length ≤ cap ∧ cap ≤ maxLen ∧ (∀ a ∈ xs, ok a) ∧ SlAt w w.heap.size sz cells A xs := by
  rcases open_slice ht h with ⟨hv, _⟩ | ⟨a, len, cap, m, n, D, Pl, hv, hb, hl, hm, hmm, hx, hi⟩
  · simp only [List.cons.injEq, and_true] at hv
    subst hv
    exact ⟨none, 0, [], rfl, Nat.le_refl _, Nat.zero_le _, by simp, .inl rfl⟩
  · simp only [List.cons.injEq, and_true] at hv
    subst hv
    have hml : len ≤ m := by rw [hmm]; split <;> omega
    have hq : ∀ i, i < len → ∃ a' : α, ok a' ∧ ∀ j u, (cells a')[j]? = some u → w.cell? ((a.add (i * sz)).add j) = some u := by
      intro i hil
      obtain ⟨cs', hc, ht'⟩ := hi i (by omega)
      rw [hC] at hc
      obtain ⟨a', hok, rfl⟩ := hel _ _ _ ht'
      obtain ⟨_, hcl, hat⟩ := World.cells?_some hc
      refine ⟨a', hok, fun j u hu => ?_⟩
      have hj : j < sz := by
        have := (List.getElem?_eq_some_iff.1 hu).1
        rw [hcells] at this; exact this
      rw [hat j hj, hu]
    rcases Nat.eq_zero_or_pos len with h0 | hpos
    · subst h0
      exact ⟨some a, cap, [], rfl, Nat.zero_le _, hm, by simp, .inl rfl⟩
    · have hne : ∃ _ : α, True := by obtain ⟨a', _, _⟩ := hq 0 hpos; exact ⟨a', trivial⟩
      obtain ⟨dflt, _⟩ := hne
      have hch : ∃ f : Nat → α, ∀ i, i < len → ok (f i) ∧ ∀ j u, (cells (f i))[j]? = some u → w.cell? ((a.add (i * sz)).add j) = some u := by
        refine ⟨fun i => if hil : i < len then (hq i hil).choose else dflt, fun i hil => ?_⟩
        simp only [dif_pos hil]
        exact (hq i hil).choose_spec
      obtain ⟨f, hf⟩ := hch
      obtain ⟨b, off, spot⟩ := a
      have hspot : spot = none := by
        have h0 := (hf 0 hpos).2 0 ((cells (f 0))[0]'(by rw [hcells]; exact hsz)) (List.getElem?_eq_getElem _)
        have := spot_none h0
        simpa [Addr.add] using this
      subst hspot
      have hblt : b < w.heap.size := by
        have h0 := (hf 0 hpos).2 0 ((cells (f 0))[0]'(by rw [hcells]; exact hsz)) (List.getElem?_eq_getElem _)
        have := World.block_lt_of_cell? w _ h0
        rwa [block_add, block_add] at this
      refine ⟨some ⟨b, off, none⟩, cap, (List.range len).map f, by simp, by simpa using hl, hm, ?_, .inr ⟨b, off, rfl, hblt, ?_⟩⟩
      · intro a' ha'
        obtain ⟨i, hi', rfl⟩ := List.mem_map.1 ha'
        exact (hf i (List.mem_range.1 hi')).1
      · intro i x hx j u hu
        have hil : i < len := by
          have := (List.getElem?_eq_some_iff.1 hx).1
          simpa using this
        have hx' : f i = x := by simpa [List.getElem?_map, List.getElem?_range hil] using hx
        subst hx'
        have := (hf i hil).2 j u hu
        rw [add_add', add_none] at this
        rw [← this]
        simp [Nat.add_assoc]
end
end Go.Proofs.YtjgigcnjgblekaaDoor

namespace Go.Proofs.YtjgigcnjgblekaaDoor
open Go.ChangeShapes Go.WideShapes Go.ChangeAt Go.RowKit Go.Deep

/-- Within the reach. -/
def InReach {H : Type} (P : Program) (t : TypeId) (d : DataW H) : Prop := ∀ n ∈ d.weights P t, n ≤ reachBytes
def Cst.okR (c : Cst) : Prop := c.ok ∧ c.s.size ≤ 140737488351232

section
variable {H : Type} {enc : TypeId × Value → H} {P : Program} {w : World} {base : Nat} {spare : Nat → Bool} {held : Bool}

theorem reach_each {ts : List TypeId} {ds : List (DataW H)} (h : (DataW.weightsEach P ts ds).all (· ≤ reachBytes) = true) {j : Nat} {t : TypeId} {d : DataW H} (ht : ts[j]? = some t) (hd : ds[j]? = some d) : InReach P t d := by
  intro n hn
  have := List.all_eq_true.1 h n (DataW.weights_mem_each ht hd n hn)
  simpa using this
theorem reach_all {e : TypeId} : ∀ {l : List (DataW H)} {d : DataW H} {n : Nat}, d ∈ l → n ∈ d.weights P e → n ∈ DataW.weightsAll P e l
  | d0 :: l, d, n, hd, hn => by
    simp only [DataW.weightsAll, List.mem_append]
    rcases List.mem_cons.1 hd with rfl | h
    · exact .inl hn
    · exact .inr (reach_all h hn)
theorem reach_slice {t e : TypeId} {elems sp : List (DataW H)} (ht : P.underlying t = some (.slice e)) (h : InReach P t (.slice elems sp)) :
    (elems.length + sp.length) * P.bytesOf e ≤ reachBytes ∧ ∀ d ∈ elems, InReach P e d := by
  unfold InReach at h
  simp only [DataW.weights, ht] at h
  refine ⟨h _ (List.mem_cons_self ..), fun d hd n hn => h n (List.mem_cons_of_mem _ (List.mem_append_left _ (reach_all hd hn)))⟩
theorem reach_struct {t : TypeId} {fs : Array Field} {parts : List (DataW H)} (ht : P.underlying t = some (.struct fs)) (h : InReach P t (.agg parts)) {j : Nat} {f : Field} {d : DataW H} (hf : fs[j]? = some f) (hd : parts[j]? = some d) : InReach P f.type d := by
  intro n hn
  refine h n ?_
  simp only [DataW.weights, ht]
  exact DataW.weights_mem_each (j := j) (t := f.type) (by rw [List.getElem?_map, Array.getElem?_toList, hf]; rfl) hd n hn
theorem reach_string {t : TypeId} {bytes : List UInt8} (h : InReach (H := H) P t (.lit (.string bytes))) : bytes.length ≤ 140737488351232 := by
  have := h bytes.length (by simp [DataW.weights])
  simpa [reachBytes] using this

/-- The three cells of a constant. -/
theorem open_cstR {e : TypeId} {f0 f1 f2 : Field} {fuel : Nat} {cs : List Value} {x : DataW H × List MemPlace} (he : P.underlying e = some (.struct #[f0, f1, f2])) (hone : oneCellFields P #[f0, f1, f2] = true)
    (h0 : P.underlying f0.type = some (.int .i64)) (h1 : P.underlying f1.type = some (.int .i64)) (h2 : P.underlying f2.type = some .string) (hC : P.cellsOf e = 3)
    (h : DataW.trod enc P w base spare held fuel e cs = some x) (hR : InReach P e x.1) : ∃ c : Cst, c.okR ∧ cs = c.cells := by
  obtain ⟨c, hok, hcs⟩ := open_cst he hone h0 h1 h2 hC h
  refine ⟨c, ⟨hok, ?_⟩, hcs⟩
  obtain ⟨ys, n, _, hx, hlen, hyl, hf⟩ := DataW.trod_struct he h
  obtain ⟨o2, k2⟩ := hone_of hone 2 f2 rfl
  have g2 := hf 2 f2 rfl
  rw [o2, k2, hcs] at g2
  simp only [Cst.cells, List.take_succ_cons, List.take_zero, List.drop_succ_cons, List.drop_zero] at g2
  have y2 : ∃ y, ys[2]? = some y := by
    have hl : 2 < ys.length := by rw [hyl]; show 2 < 3; decide
    exact ⟨ys[2], List.getElem?_eq_getElem hl⟩
  obtain ⟨y2, e2⟩ := y2
  rw [e2] at g2
  obtain ⟨s, hs, hy, _⟩ := DataW.trod_string h2 g2
  simp only [List.cons.injEq, and_true, Value.string.injEq] at hs
  rw [hx] at hR
  have := reach_struct he hR (j := 2) (f := f2) (d := y2.1) rfl (by rw [List.getElem?_map, e2]; rfl)
  rw [hy] at this
  have hb := reach_string this
  rw [← hs] at hb
  have e3 : c.s.data.toList.length = c.s.size := by rw [Array.length_toList]; rfl
  omega

/-- A slice argument, each element of a known make. -/
theorem open_slR {α : Type} {t e : TypeId} {fuel : Nat} {v : Value} {x : DataW H × List MemPlace} {sz bytes : Nat} {cells : α → List Value} {ok : α → Prop} (ht : P.underlying t = some (.slice e)) (hC : P.cellsOf e = sz) (hB : P.bytesOf e = bytes) (hsz : 0 < sz)
    (hcells : ∀ a, (cells a).length = sz)
    (hel : ∀ (fuel : Nat) (cs : List Value) (x : DataW H × List MemPlace), DataW.trod enc P w base spare held fuel e cs = some x → InReach P e x.1 → ∃ a, ok a ∧ cs = cells a)
    (h : DataW.trod enc P w base spare held fuel t [v] = some x) (hR : InReach P t x.1) :
    ∃ (A : Option Addr) (cap : Nat) (xs : List α), v = .slice A xs.length cap ∧ xs.length ≤ cap ∧ cap ≤ maxLen ∧ xs.length * bytes ≤ 140737488351232 ∧ (∀ a ∈ xs, ok a) ∧ SlAt w w.heap.size sz cells A xs := by
  rcases open_slice ht h with ⟨hv, _⟩ | ⟨a, len, cap, m, n, D, Pl, hv, hb, hl, hm, hmm, hx, hi⟩
  · simp only [List.cons.injEq, and_true] at hv
    subst hv
    exact ⟨none, 0, [], rfl, Nat.le_refl _, Nat.zero_le _, by simp, by simp, .inl rfl⟩
  · simp only [List.cons.injEq, and_true] at hv
    subst hv
    rw [hx] at hR
    obtain ⟨hR1, hR2⟩ := reach_slice ht hR
    rw [hB] at hR1
    have hlb : len * bytes ≤ 140737488351232 := by
      simp only [List.length_map, List.length_range, reachBytes] at hR1
      exact Nat.le_trans (Nat.mul_le_mul_right _ (by omega)) hR1
    have hml : len ≤ m := by rw [hmm]; split <;> omega
    have hq : ∀ i, i < len → ∃ a' : α, ok a' ∧ ∀ j u, (cells a')[j]? = some u → w.cell? ((a.add (i * sz)).add j) = some u := by
      intro i hil
      obtain ⟨cs', hc, ht'⟩ := hi i (by omega)
      rw [hC] at hc
      obtain ⟨a', hok, rfl⟩ := hel _ _ _ ht' (hR2 _ (List.mem_map.2 ⟨i, List.mem_range.2 hil, rfl⟩))
      obtain ⟨_, hcl, hat⟩ := World.cells?_some hc
      refine ⟨a', hok, fun j u hu => ?_⟩
      have hj : j < sz := by
        have := (List.getElem?_eq_some_iff.1 hu).1
        rw [hcells] at this; exact this
      rw [hat j hj, hu]
    rcases Nat.eq_zero_or_pos len with h0 | hpos
    · subst h0
      exact ⟨some a, cap, [], rfl, Nat.zero_le _, hm, by simp, by simp, .inl rfl⟩
    · have hne : ∃ _ : α, True := by obtain ⟨a', _, _⟩ := hq 0 hpos; exact ⟨a', trivial⟩
      obtain ⟨dflt, _⟩ := hne
      have hch : ∃ f : Nat → α, ∀ i, i < len → ok (f i) ∧ ∀ j u, (cells (f i))[j]? = some u → w.cell? ((a.add (i * sz)).add j) = some u := by
        refine ⟨fun i => if hil : i < len then (hq i hil).choose else dflt, fun i hil => ?_⟩
        simp only [dif_pos hil]
        exact (hq i hil).choose_spec
      obtain ⟨f, hf⟩ := hch
      obtain ⟨b, off, spot⟩ := a
      have hspot : spot = none := by
        have h0 := (hf 0 hpos).2 0 ((cells (f 0))[0]'(by rw [hcells]; exact hsz)) (List.getElem?_eq_getElem _)
        have := spot_none h0
        simpa [Addr.add] using this
      subst hspot
      have hblt : b < w.heap.size := by
        have h0 := (hf 0 hpos).2 0 ((cells (f 0))[0]'(by rw [hcells]; exact hsz)) (List.getElem?_eq_getElem _)
        have := World.block_lt_of_cell? w _ h0
        rwa [block_add, block_add] at this
      refine ⟨some ⟨b, off, none⟩, cap, (List.range len).map f, by simp, by simpa using hl, hm, by simpa using hlb, ?_, .inr ⟨b, off, rfl, hblt, ?_⟩⟩
      · intro a' ha'
        obtain ⟨i, hi', rfl⟩ := List.mem_map.1 ha'
        exact (hf i (List.mem_range.1 hi')).1
      · intro i x hx j u hu
        have hil : i < len := by
          have := (List.getElem?_eq_some_iff.1 hx).1
          simpa using this
        have hx' : f i = x := by simpa [List.getElem?_map, List.getElem?_range hil] using hx
        subst hx'
        have := (hf i hil).2 j u hu
        rw [add_add', add_none] at this
        rw [← this]
        simp [Nat.add_assoc]
end
end Go.Proofs.YtjgigcnjgblekaaDoor
