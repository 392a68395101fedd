/- Plain law: lists of constants in order; merging runs. No program in sight. -/
import Derived.Test.YtblonickpmogiaaCmpLaw
namespace Go.Proofs.Ytblonickpmogiaa
open Go

def leC (a b : Cst) : Bool := decide (cmpC a b ≤ 0)
def Sd (l : List Cst) : Prop := l.Pairwise (fun a b => leC a b = true)
theorem leC_trans (a b c : Cst) (h1 : leC a b = true) (h2 : leC b c = true) : leC a c = true := by
  simp only [leC, decide_eq_true_eq] at *
  exact cmpC_le_trans h1 h2
theorem leC_total (a b : Cst) : (leC a b || leC b a) = true := by
  have := cmpC_neg a b
  simp only [leC, Bool.or_eq_true, decide_eq_true_eq]
  omega
theorem leC_anti {a b : Cst} (h1 : leC a b = true) (h2 : leC b a = true) : a = b := by
  have := cmpC_neg a b
  simp only [leC, decide_eq_true_eq] at *
  obtain ⟨e1, e2, e3⟩ := cmpC_zero.1 (show cmpC a b = 0 by omega)
  cases a; cases b
  simp only at e1 e2 e3
  subst e1; subst e2
  rw [toList_inj e3]
/-- Two lists in order with the same members are one. -/
theorem sd_eq {l m : List Cst} (hl : Sd l) (hm : Sd m) (h : l.Perm m) : l = m :=
  List.Perm.eq_of_pairwise (le := fun a b => leC a b = true) (fun _ _ _ _ => leC_anti) hl hm h

def mergeC (a b : List Cst) : List Cst := List.merge a b leC
theorem merge_sd {a b : List Cst} (ha : Sd a) (hb : Sd b) : Sd (mergeC a b) := List.pairwise_merge leC_trans leC_total a b ha hb
theorem merge_perm (a b : List Cst) : (mergeC a b).Perm (a ++ b) := List.merge_perm_append leC
theorem merge_len (a b : List Cst) : (mergeC a b).length = a.length + b.length := by
  rw [(merge_perm a b).length_eq, List.length_append]

/-- What is still to be merged. -/
def mg (a b : List Cst) (i j : Nat) : List Cst := mergeC (a.drop i) (b.drop j)
theorem mg_left {a b : List Cst} {i j : Nat} (hi : i < a.length) (hj : j < b.length) (h : cmpC a[i] b[j] ≤ 0) : mg a b i j = a[i] :: mg a b (i + 1) j := by
  unfold mg mergeC
  rw [List.drop_eq_getElem_cons hi, List.drop_eq_getElem_cons hj, List.cons_merge_cons_pos _ _ _ (by simpa [leC] using h)]
theorem mg_right {a b : List Cst} {i j : Nat} (hi : i < a.length) (hj : j < b.length) (h : ¬ cmpC a[i] b[j] ≤ 0) : mg a b i j = b[j] :: mg a b i (j + 1) := by
  unfold mg mergeC
  rw [List.drop_eq_getElem_cons hi, List.drop_eq_getElem_cons hj, List.cons_merge_cons_neg _ _ _ (by simpa [leC] using h)]
theorem mg_rest {a b : List Cst} {i j : Nat} (hi : i < a.length) (hj : b.length ≤ j) : mg a b i j = a[i] :: mg a b (i + 1) j := by
  unfold mg mergeC
  rw [List.drop_eq_getElem_cons hi, List.drop_eq_nil_of_le hj, List.merge_right, List.merge_right]
theorem mg_rest' {a b : List Cst} {i j : Nat} (hi : a.length ≤ i) (hj : j < b.length) : mg a b i j = b[j] :: mg a b i (j + 1) := by
  unfold mg mergeC
  rw [List.drop_eq_getElem_cons hj, List.drop_eq_nil_of_le hi, List.nil_merge, List.nil_merge]
theorem mg_end {a b : List Cst} {i j : Nat} (hi : a.length ≤ i) (hj : b.length ≤ j) : mg a b i j = [] := by
  unfold mg mergeC
  rw [List.drop_eq_nil_of_le hi, List.drop_eq_nil_of_le hj, List.merge_right]
theorem mg_start (a b : List Cst) : mg a b 0 0 = mergeC a b := rfl
theorem snoc_mg {o r m : List Cst} {x : Cst} (h : o ++ m = r) {m' : List Cst} (hm : m = x :: m') : (o ++ [x]) ++ m' = r := by rw [← h, hm]; simp

/-- Every run of w is in order. -/
def Runs (w : Nat) (l : List Cst) : Prop := ∀ c, Sd ((l.drop (c * w)).take w)
theorem sd_short {l : List Cst} (h : l.length ≤ 1) : Sd l := by
  match l, h with
  | [], _ => exact List.Pairwise.nil
  | [a], _ => exact List.pairwise_singleton _ _
theorem sd_take {l : List Cst} (h : Sd l) (n : Nat) : Sd (l.take n) := List.Pairwise.sublist (List.take_sublist _ _) h
theorem runs_one (l : List Cst) : Runs 1 l := fun _ => sd_short (by rw [List.length_take]; omega)
theorem runs_all {w : Nat} {l : List Cst} (h : Runs w l) (hl : l.length ≤ w) : Sd l := by
  have := h 0
  rwa [Nat.zero_mul, List.drop_zero, List.take_of_length_le hl] at this

/-- Between two merges of a pass: the first i are merged. -/
structure Pass (w i : Nat) (l m : List Cst) : Prop where
  at_ : ∃ c, i = c * (2 * w)
  perm : m.Perm (l.take i)
  runs : Runs (2 * w) m
theorem pass_start (w : Nat) (l : List Cst) : Pass w 0 l [] := ⟨⟨0, by omega⟩, by simp, fun c => by simp [Sd]⟩
def part (w i : Nat) (l : List Cst) : List Cst := mergeC ((l.drop i).take w) ((l.drop (i + w)).take w)
theorem part_len {w i : Nat} {l : List Cst} : (part w i l).length = min (2 * w) (l.length - i) := by
  unfold part
  rw [merge_len]
  simp only [List.length_take, List.length_drop]
  omega
theorem pass_step {w i : Nat} {l m : List Cst} (h : Pass w i l m) (hr : Runs w l) (hi : i < l.length) : Pass w (i + 2 * w) l (m ++ part w i l) := by
  obtain ⟨⟨c, hc⟩, hp, hm⟩ := h
  have hml : m.length = i := by rw [hp.length_eq, List.length_take]; omega
  have e1 : i = 2 * c * w := by rw [hc]; rw [Nat.mul_comm 2 w, ← Nat.mul_assoc, Nat.mul_comm (c * w) 2, Nat.mul_assoc]
  have e2 : i + w = (2 * c + 1) * w := by rw [e1, Nat.add_mul, Nat.one_mul]
  have s1 : Sd ((l.drop i).take w) := by have := hr (2 * c); rwa [← e1] at this
  have s2 : Sd ((l.drop (i + w)).take w) := by have := hr (2 * c + 1); rwa [← e2] at this
  have hsd : Sd (part w i l) := merge_sd s1 s2
  refine ⟨⟨c + 1, by rw [hc, Nat.add_mul]; omega⟩, ?_, ?_⟩
  · have e3 : l.take (i + 2 * w) = l.take i ++ ((l.drop i).take w ++ (l.drop (i + w)).take w) := by
      rw [show i + 2 * w = i + (w + w) by omega, List.take_add, List.take_add, List.drop_drop]
    rw [e3]
    exact List.Perm.append hp (merge_perm _ _)
  · intro c'
    have hpl := part_len (w := w) (i := i) (l := l)
    rcases Nat.lt_trichotomy c' c with hlt | rfl | hgt
    · have hle : (c' + 1) * (2 * w) ≤ c * (2 * w) := Nat.mul_le_mul_right _ hlt
      rw [Nat.add_mul, Nat.one_mul, ← hc] at hle
      have := hm c'
      rw [List.drop_append_of_le_length (by omega), List.take_append_of_le_length (by rw [List.length_drop]; omega)]
      exact this
    · rw [← hc, List.drop_append_of_le_length (by omega), List.drop_of_length_le (by omega), List.nil_append]
      exact sd_take hsd _
    · have hle : (c + 1) * (2 * w) ≤ c' * (2 * w) := Nat.mul_le_mul_right _ hgt
      rw [Nat.add_mul, Nat.one_mul, ← hc] at hle
      rw [List.drop_of_length_le (by rw [List.length_append]; omega)]
      simp [Sd]
theorem pass_len {w i : Nat} {l m : List Cst} (h : Pass w i l m) : m.length = min i l.length := by rw [h.perm.length_eq, List.length_take]
theorem pass_end {w i : Nat} {l m : List Cst} (h : Pass w i l m) (hi : l.length ≤ i) : m.Perm l ∧ Runs (2 * w) m := by
  have := h.perm
  rw [List.take_of_length_le hi] at this
  exact ⟨this, h.runs⟩
end Go.Proofs.Ytblonickpmogiaa
