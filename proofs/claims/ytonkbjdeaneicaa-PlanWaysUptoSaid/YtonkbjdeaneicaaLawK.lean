/- Kids of all nodes, put together. No program in sight. -/
import Derived.Test.YtonkbjdeaneicaaChain
import Derived.Test.YtonkbjdeaneicaaLawS
namespace Go.Proofs.Ytonkbjdeaneicaa.Pln
open Classical
theorem kidAt_mem {ns : List Nd} {node : Int} {i x : Nat} (h : x ∈ kidAt ns node i) : x = i ∧ ∃ n, ns[i]? = some n ∧ n.parent = node := by
  unfold kidAt at h
  split at h
  · rename_i n hn
    split at h
    · rename_i hp
      exact ⟨List.mem_singleton.1 h, n, hn, hp⟩
    · cases h
  · cases h
theorem kids_at {ns : List Nd} {node : Int} {k j x : Nat} (h : (kidsK ns node k)[j]? = some x) : x < k ∧ (∃ n, ns[x]? = some n ∧ n.parent = node) ∧ (kidsK ns node x).length = j := by
  obtain ⟨i, a, b, c⟩ := flat_at (kidAt ns node) (kidAt_one ns node) k j x h
  obtain ⟨rfl, n, h1, h2⟩ := kidAt_mem (show x ∈ kidAt ns node i by rw [b]; simp)
  exact ⟨a, ⟨n, h1, h2⟩, c⟩
theorem kids_rise {ns : List Nd} {node : Int} {k j x y : Nat} (hx : (kidsK ns node k)[j]? = some x) (hy : (kidsK ns node k)[j + 1]? = some y) : x < y := by
  obtain ⟨_, _, h1⟩ := kids_at hx
  obtain ⟨_, _, h2⟩ := kids_at hy
  rcases Nat.lt_or_ge x y with h | h
  · exact h
  · have := flat_mono (kidAt ns node) h
    unfold kidsK at h1 h2
    omega
/-- How many nodes lie below the first n nodes. -/
noncomputable def belowN (ns : List Nd) (n : Nat) : Nat := ns.countP (fun d => decide (0 ≤ d.parent ∧ d.parent < (n : Int)))
theorem kids_count (ns : List Nd) (node : Int) : ∀ k, k ≤ ns.length → (kidsK ns node k).length = (ns.take k).countP (fun d => decide (d.parent = node))
  | 0, _ => by simp [kidsK]
  | k + 1, hk => by
    have hn : ns[k]? = some ns[k] := List.getElem?_eq_getElem hk
    rw [kidsK_succ, List.length_append, kids_count ns node k (by omega), List.take_add_one, List.countP_append, hn]
    congr 1
    unfold kidAt
    rw [hn]
    simp only
    by_cases h : ns[k].parent = node
    · simp [h]
    · simp [h]
theorem countP_split {α : Type} (p q r : α → Bool) (h : ∀ x, r x = (p x || q x)) (hd : ∀ x, p x = true → q x = false) (l : List α) : l.countP r = l.countP p + l.countP q := by
  induction l with
  | nil => rfl
  | cons a l ih =>
    rw [List.countP_cons, List.countP_cons, List.countP_cons, ih, h a]
    cases hp : p a with
    | true => rw [hd a hp]; simp; omega
    | false => cases hq : q a <;> simp <;> omega
theorem belowN_next (ns : List Nd) (n : Nat) : belowN ns (n + 1) = belowN ns n + (kidsK ns n ns.length).length := by
  rw [kids_count ns n _ (Nat.le_refl _), List.take_length]
  unfold belowN
  refine countP_split _ _ _ (fun x => ?_) (fun x hx => ?_) ns
  · by_cases h1 : 0 ≤ x.parent ∧ x.parent < (n : Int)
    · rw [decide_eq_true h1, decide_eq_true (show 0 ≤ x.parent ∧ x.parent < ((n + 1 : Nat) : Int) by omega)]; rfl
    · by_cases h2 : x.parent = (n : Int)
      · rw [decide_eq_true h2, decide_eq_true (show 0 ≤ x.parent ∧ x.parent < ((n + 1 : Nat) : Int) by omega), Bool.or_true]
      · have : ¬ (0 ≤ x.parent ∧ x.parent < ((n + 1 : Nat) : Int)) := by omega
        rw [decide_eq_false this, decide_eq_false h1, decide_eq_false h2]; rfl
  · have := of_decide_eq_true hx
    exact decide_eq_false (by omega)
theorem belowN_zero (ns : List Nd) : belowN ns 0 = 0 := by
  unfold belowN
  rw [List.countP_eq_zero]
  intro d _ h
  have := of_decide_eq_true h
  omega
theorem belowN_all {ns : List Nd} (h0 : ns[0]? = some rootN) (hp : Par ns) : belowN ns ns.length + 1 = ns.length := by
  match hns : ns, h0 with
  | a :: r, h0 =>
    have ha : a = rootN := by simpa using h0
    unfold belowN
    rw [List.countP_cons, ha]
    have e1 : decide (0 ≤ rootN.parent ∧ rootN.parent < (((a :: r).length : Nat) : Int)) = false := decide_eq_false (by show ¬ ((0 : Int) ≤ -1 ∧ _); omega)
    have e1' : decide (0 ≤ rootN.parent ∧ rootN.parent < (((rootN :: r).length : Nat) : Int)) = false := decide_eq_false (by show ¬ ((0 : Int) ≤ -1 ∧ _); omega)
    rw [e1']
    have e2 : r.countP (fun d => decide (0 ≤ d.parent ∧ d.parent < (((rootN :: r).length : Nat) : Int))) = r.length := by
      rw [List.countP_eq_length]
      intro d hd
      obtain ⟨i, hi, rfl⟩ := List.getElem_of_mem hd
      obtain ⟨u, h1, h2⟩ := hp (i + 1) r[i] (by simp [List.getElem?_eq_getElem hi]) (by omega)
      rw [decide_eq_true_eq, h2]
      simp only [List.length_cons]
      omega
    rw [e2]
    simp
end Go.Proofs.Ytonkbjdeaneicaa.Pln
