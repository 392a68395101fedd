/- What a node says of its pattern, place by place. No program in sight. -/
import Derived.Test.YtonkbjdeaneicaaPlanS
namespace Go.Proofs.Ytonkbjdeaneicaa.Pln
open Classical

theorem linksK_pre (args : List Slt) (w : Int) (i : Nat) : ∀ d, ∃ r, linksK args w (i + d) = linksK args w i ++ r
  | 0 => ⟨[], by simp⟩
  | d + 1 => by
    obtain ⟨r, h⟩ := linksK_pre args w i d
    exact ⟨r ++ linkAt args w (i + d), by rw [← Nat.add_assoc, linksK_succ, h, List.append_assoc]⟩
theorem newK_pre (args : List Slt) (w : Int) (i : Nat) : ∀ d, ∃ r, newK args w (i + d) = newK args w i ++ r
  | 0 => ⟨[], by simp⟩
  | d + 1 => by
    obtain ⟨r, h⟩ := newK_pre args w i d
    exact ⟨r ++ newAt args w (i + d), by rw [← Nat.add_assoc, newK_succ, h, List.append_assoc]⟩
theorem linksK_at {args : List Slt} {w : Int} {i k : Nat} {x : Int × Int} (h : linkAt args w i = [x]) (hk : i < k) : (linksK args w k)[(linksK args w i).length]? = some x := by
  obtain ⟨r, hr⟩ := linksK_pre args w (i + 1) (k - (i + 1))
  rw [show i + 1 + (k - (i + 1)) = k by omega, linksK_succ, h, List.append_assoc] at hr
  rw [hr, List.getElem?_append_right (Nat.le_refl _), Nat.sub_self]
  rfl
theorem newK_at {args : List Slt} {w : Int} {i k : Nat} {x : Int} (h : newAt args w i = [x]) (hk : i < k) : (newK args w k)[(newK args w i).length]? = some x := by
  obtain ⟨r, hr⟩ := newK_pre args w (i + 1) (k - (i + 1))
  rw [show i + 1 + (k - (i + 1)) = k by omega, newK_succ, h, List.append_assoc] at hr
  rw [hr, List.getElem?_append_right (Nat.le_refl _), Nat.sub_self]
  rfl
theorem linkAt_one (args : List Slt) (w : Int) (i : Nat) : (linkAt args w i).length ≤ 1 := by
  unfold linkAt
  split
  · split <;> simp
  · simp
theorem newAt_one (args : List Slt) (w : Int) (i : Nat) : (newAt args w i).length ≤ 1 := by
  unfold newAt
  split
  · split <;> simp
  · simp
theorem linksK_le (args : List Slt) (w : Int) : ∀ k, (linksK args w k).length ≤ k
  | 0 => by simp [linksK_zero]
  | k + 1 => by
    rw [linksK_succ, List.length_append]
    have h1 := linksK_le args w k
    have h2 := linkAt_one args w k
    omega
theorem newK_le (args : List Slt) (w : Int) : ∀ k, (newK args w k).length ≤ k
  | 0 => by simp [newK_zero]
  | k + 1 => by
    rw [newK_succ, List.length_append]
    have h1 := newK_le args w k
    have h2 := newAt_one args w k
    omega
section
variable {args : List Slt} {w : Nat} {i : Nat} {s : Slt}
/-- A constant's place. -/
theorem place_const (h : args[i]? = some s) (hv : s.v = false) : cellF args s = s.n ∧ linkAt args w i = [] ∧ newAt args w i = [] := by
  refine ⟨by unfold cellF; rw [hv]; rfl, ?_, ?_⟩
  · unfold linkAt; simp only [h]; rw [if_neg (by rw [hv]; intro h; exact absurd h.1 (by decide))]
  · unfold newAt; simp only [h]; rw [if_neg (by rw [hv]; intro h; exact absurd h.1 (by decide))]
/-- A variable's place. -/
theorem place_var (h : args[i]? = some s) (hv : s.v = true) : cellF args s = -1 - (firstV args s.n : Int) ∧ firstV args s.n ≤ i ∧ args[firstV args s.n]? = some s := by
  have hle := firstV_le h hv
  refine ⟨by unfold cellF; rw [hv]; rfl, hle, ?_⟩
  rw [firstV_at (Nat.lt_of_le_of_lt hle (List.getElem?_eq_some_iff.1 h).1), ← slt_var hv]
theorem place_again (h : args[i]? = some s) (hj : firstV args s.n < i) : linkAt args w i = [] ∧ newAt args w i = [] := by
  refine ⟨?_, ?_⟩
  · unfold linkAt; simp only [h]; rw [if_neg (by intro h; have := h.2.1; omega)]
  · unfold newAt; simp only [h]; rw [if_neg (by intro h; have := h.2.1; omega)]
theorem place_first (h : args[i]? = some s) (hv : s.v = true) (hj : firstV args s.n = i) : ∀ k, k < i → ∀ t, args[k]? = some t → t ≠ s := by
  intro k hk t ht e
  subst e
  refine firstV_first k (by rw [hj]; exact hk) ?_
  rw [ht]
  exact congrArg some (slt_var hv)
theorem place_link (h : args[i]? = some s) (hv : s.v = true) (hj : firstV args s.n = i) (hw : s.n < (w : Int)) : linkAt args w i = [((i : Int), s.n)] ∧ newAt args w i = [] := by
  refine ⟨?_, ?_⟩
  · unfold linkAt; simp only [h]; rw [if_pos ⟨hv, hj, hw⟩]
  · unfold newAt; simp only [h]; rw [if_neg (by intro h; exact h.2.2 hw)]
theorem place_new (ok : okA args w) (h : args[i]? = some s) (hv : s.v = true) (hj : firstV args s.n = i) (hw : ¬ s.n < (w : Int)) : linkAt args w i = [] ∧ newAt args w i = [(i : Int)] ∧ s.n = (w : Int) + (newK args w i).length := by
  refine ⟨?_, ?_, ?_⟩
  · unfold linkAt; simp only [h]; rw [if_neg (by intro h; exact hw h.2.2)]
  · unfold newAt; simp only [h]; rw [if_pos ⟨hv, hj, hw⟩]
  · rw [fresh_at ok h hv hj hw]
    have := new_count ok i (Nat.le_of_lt (List.getElem?_eq_some_iff.1 h).1)
    omega
end
end Go.Proofs.Ytonkbjdeaneicaa.Pln
