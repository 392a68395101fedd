/- `joined`, then `full`: three plans of the caller's own in one. equalSlots of the law package. Rows of numbers, of truth values, that are the call's own (OwnI, OwnB). -/
import Derived.Test.YtonkbjdeaneicaaKpo09
import Derived.Test.YtonkbjdeaneicaaKpo22
import Derived.Test.YtonkbjdeaneicaaKpo23
import Derived.Deep.OwnRows
import Derived.Deep.RegionWith
import Derived.Laws.AppendOwnNone
import Derived.StillTailTactics
namespace Go.Proofs.Ytonkbjdeaneicaa
open Go Go.RowKit Pln Classical Go.Maps

abbrev tri {α : Type} (a b c : α) : Nat → α := fun i => match i with | 0 => a | 1 => b | _ => c
theorem three3 {p : Nat → Prop} (h0 : p 0) (h1 : p 1) (h2 : p 2) : ∀ i, i < 3 → p i := by
  intro i hi
  have : i = 0 ∨ i = 1 ∨ i = 2 := by omega
  rcases this with rfl | rfl | rfl
  · exact h0
  · exact h1
  · exact h2
theorem loc_ex (l : Nat → Nat) {k : Nat} (h : k < sumN l 3) : ∃ i j, i < 3 ∧ j < l i ∧ k = sumN l i + j := by
  simp only [sumN] at h
  rcases Nat.lt_or_ge k (l 0) with h0 | h0
  · exact ⟨0, k, by decide, h0, by simp [sumN]⟩
  · rcases Nat.lt_or_ge k (l 0 + l 1) with h1 | h1
    · exact ⟨1, k - l 0, by decide, by omega, by simp only [sumN]; omega⟩
    · exact ⟨2, k - l 0 - l 1, by decide, by omega, by simp only [sumN]; omega⟩
theorem sum_le (l : Nat → Nat) : ∀ i j, i < 3 → j < l i → sumN l i + j < sumN l 3 := by
  intro i j hi hj
  have : i = 0 ∨ i = 1 ∨ i = 2 := by omega
  rcases this with rfl | rfl | rfl <;> simp only [sumN] <;> omega
theorem loc_un (l : Nat → Nat) {i j i' j' : Nat} (hi : i < 3) (hj : j < l i) (hi' : i' < 3) (hj' : j' < l i') (h : sumN l i + j = sumN l i' + j') : i = i' ∧ j = j' := by
  have a : i = 0 ∨ i = 1 ∨ i = 2 := by omega
  have b : i' = 0 ∨ i' = 1 ∨ i' = 2 := by omega
  rcases a with rfl | rfl | rfl <;> rcases b with rfl | rfl | rfl <;> simp only [sumN] at h <;> omega
theorem cat_len (f : Nat → List Value) {l : Nat → Nat} {sz : Nat} (h : ∀ i, i < 3 → (f i).length = l i * sz) : ∀ i, i ≤ 3 → (catL f i).length = sumN l i * sz
  | 0, _ => by simp [catL, sumN]
  | i + 1, hi => by
    simp only [catL, sumN, List.length_append]
    rw [cat_len f h i (by omega), h i (by omega), Nat.add_mul]
theorem cat_at (f : Nat → List Value) {l : Nat → Nat} {sz : Nat} (h : ∀ i, i < 3 → (f i).length = l i * sz) {i q : Nat} (hi : i < 3) (hq : q < l i * sz) (more : List Value) : (catL f 3 ++ more)[sumN l i * sz + q]? = (f i)[q]? := by
  have l0 := cat_len f h 0 (by omega)
  have l1 := cat_len f h 1 (by omega)
  have l2 := cat_len f h 2 (by omega)
  have e0 := h 0 (by omega)
  have e1 := h 1 (by omega)
  have e2 := h 2 (by omega)
  have a : i = 0 ∨ i = 1 ∨ i = 2 := by omega
  have s3 : catL f 3 ++ more = catL f 2 ++ (f 2 ++ more) := by simp [catL]
  have s2 : catL f 2 = catL f 1 ++ f 1 := rfl
  have s1 : catL f 1 = f 0 := by simp [catL]
  rcases a with rfl | rfl | rfl
  · rw [s3, s2, s1]
    simp only [sumN, Nat.zero_mul, Nat.zero_add, List.append_assoc]
    rw [List.getElem?_append_left (by omega)]
  · rw [s3, s2, List.append_assoc, List.getElem?_append_right (by omega), l1, Nat.add_sub_cancel_left, List.getElem?_append_left (by omega)]
  · rw [s3, List.getElem?_append_right (by omega), l2, Nat.add_sub_cancel_left, List.getElem?_append_left (by omega)]
theorem end_at (f : Nat → List Value) (l : Nat → Nat) (sz n : Nat) (h : ∀ i, i < 3 → (f i).length = l i * sz) (ev : Nat → Value) {i q : Nat} (hi : i < 3) (hq : q < 11) (hn : sumN l 3 * sz = n) : (catL f 3 ++ catL (fun k => endNd (ev k)) 3)[n + i * 11 + q]? = (endNd (ev i))[q]? := by
  have l3 := cat_len f h 3 (by omega)
  rw [List.getElem?_append_right (by omega), l3, hn, show n + i * 11 + q - n = i * 11 + q by omega]
  have a : i = 0 ∨ i = 1 ∨ i = 2 := by omega
  have s3 : catL (fun k => endNd (ev k)) 3 = endNd (ev 0) ++ (endNd (ev 1) ++ endNd (ev 2)) := by simp [catL]
  have len : ∀ v, (endNd v).length = 11 := fun v => rfl
  rw [s3]
  rcases a with rfl | rfl | rfl
  · rw [List.getElem?_append_left (by rw [len]; omega)]
    congr 1
    omega
  · rw [List.getElem?_append_right (by rw [len]; omega), List.getElem?_append_left (by rw [len, len]; omega), len]
    congr 1
    omega
  · rw [List.getElem?_append_right (by rw [len]; omega), List.getElem?_append_right (by rw [len, len]; omega), len, len]
    congr 1
    omega
/-- Three plans of the caller's own, one behind the other. -/
structure Fam (W : World) (lo hi : Nat → Nat) (av nv ev : Nat → Value) (p : Nat → List Shp × List Nd × List Int) (xa xn xe : Nat → List Value) (G : Nat → Nat → Nat → Option Slo) : Prop where
  u : ∀ i, i < 3 → PlU (lo i) (hi i) W (av i) (nv i) (ev i) (p i) (xa i) (xn i) (xe i) (G i)
  ord : ∀ i j, i < j → j < 3 → hi i ≤ lo j
  lens : ∀ i, i < 3 → (p i).1.length ≤ 100000000 ∧ (p i).2.1.length ≤ 100000000 ∧ (p i).2.2.length ≤ 1048576
/-- Which list stands at place k of the joined plan. -/
def Src (la ln : Nat → Nat) (ev : Nat → Value) (le : Nat → Nat) (xe : Nat → List Value) (G : Nat → Nat → Nat → Option Slo) (k : Nat) (s : Slo) : Prop :=
  (∃ i j, i < 3 ∧ j < la i ∧ k = sumN la i + j ∧ G i 0 j = some s) ∨
  (∃ i j t, i < 3 ∧ j < ln i ∧ t < 2 ∧ k = sumN la 3 + 2 * (sumN ln i + j) + t ∧ G i (t + 1) j = some s) ∨
  (∃ i, i < 3 ∧ k = sumN la 3 + 2 * (sumN ln 3 + i) ∧ s = ⟨.slice none 0 0, true, 0, []⟩) ∨
  (∃ i, i < 3 ∧ k = sumN la 3 + 2 * (sumN ln 3 + i) + 1 ∧ s = ⟨ev i, false, le i, xe i⟩)
/-- The lists in their order. -/
noncomputable def srcL (R : Nat → Slo → Prop) (n : Nat) : List Slo := (List.range n).map fun k => if h : ∃ s, R k s then Classical.choose h else ⟨.slice none 0 0, false, 0, []⟩
theorem srcL_len (R : Nat → Slo → Prop) (n : Nat) : (srcL R n).length = n := by simp [srcL]
theorem srcL_at {R : Nat → Slo → Prop} {n : Nat} (h : ∀ k, k < n → ∃ s, R k s) {k : Nat} {s : Slo} (hs : (srcL R n)[k]? = some s) : R k s := by
  have hk := (List.getElem?_eq_some_iff.1 hs).1
  rw [srcL_len] at hk
  have h1 := h k hk
  simp only [srcL, List.getElem?_map, List.getElem?_range hk, Option.map_some, Option.some.injEq] at hs
  rw [dif_pos h1] at hs
  rw [← hs]
  exact Classical.choose_spec h1
section
variable {W W1 : World} {lo hi : Nat → Nat} {av nv ev : Nat → Value} {p : Nat → List Shp × List Nd × List Int} {xa xn xe : Nat → List Value} {G : Nat → Nat → Nat → Option Slo}
theorem Fam.same (h : Fam W lo hi av nv ev p xa xn xe G) {i j b : Nat} (hi' : i < 3) (hj : j < 3) (h1 : lo i ≤ b ∧ b < hi i) (h2 : lo j ≤ b ∧ b < hi j) : i = j := by
  rcases Nat.lt_trichotomy i j with hl | he | hl
  · have := h.ord i j hl hj; omega
  · exact he
  · have := h.ord j i hl hi'; omega
/-- What a place in the joined plan is. -/
theorem Fam.src_ex (h : Fam W lo hi av nv ev p xa xn xe G) {k : Nat} (hk : k < sumN (fun i => (p i).1.length) 3 + 2 * (sumN (fun i => (p i).2.1.length) 3 + 3)) :
    ∃ s, Src (fun i => (p i).1.length) (fun i => (p i).2.1.length) ev (fun i => (p i).2.2.length) xe G k s := by
  rcases Nat.lt_or_ge k (sumN (fun i => (p i).1.length) 3) with h1 | h1
  · obtain ⟨i, j, hi', hj, rfl⟩ := loc_ex _ h1
    obtain ⟨s, hs⟩ := (h.u i hi').inn.all0 j hj
    exact ⟨s, .inl ⟨i, j, hi', hj, rfl, hs⟩⟩
  · obtain ⟨q, t, ht, rfl⟩ : ∃ q t, t < 2 ∧ k = sumN (fun i => (p i).1.length) 3 + 2 * q + t := ⟨(k - sumN (fun i => (p i).1.length) 3) / 2, (k - sumN (fun i => (p i).1.length) 3) % 2, Nat.mod_lt _ (by decide), by omega⟩
    rcases Nat.lt_or_ge q (sumN (fun i => (p i).2.1.length) 3) with h2 | h2
    · obtain ⟨i, j, hi', hj, rfl⟩ := loc_ex _ h2
      have ht2 : t = 0 ∨ t = 1 := by omega
      rcases ht2 with rfl | rfl
      · obtain ⟨s, hs⟩ := (h.u i hi').inn.all1 j hj
        exact ⟨s, .inr (.inl ⟨i, j, 0, hi', hj, by decide, rfl, hs⟩)⟩
      · obtain ⟨s, hs⟩ := (h.u i hi').inn.all2 j hj
        exact ⟨s, .inr (.inl ⟨i, j, 1, hi', hj, by decide, rfl, hs⟩)⟩
    · obtain ⟨i, rfl⟩ : ∃ i, q = sumN (fun i => (p i).2.1.length) 3 + i := ⟨q - sumN (fun i => (p i).2.1.length) 3, by omega⟩
      have ht2 : t = 0 ∨ t = 1 := by omega
      rcases ht2 with rfl | rfl
      · exact ⟨_, .inr (.inr (.inl ⟨i, by omega, rfl, rfl⟩))⟩
      · exact ⟨_, .inr (.inr (.inr ⟨i, by omega, rfl, rfl⟩))⟩
/-- The block of a list: in its plan's stretch; which list it is. -/
theorem Fam.src_blk (h : Fam W lo hi av nv ev p xa xn xe G) {k : Nat} {s : Slo} (hs : Src (fun i => (p i).1.length) (fun i => (p i).2.1.length) ev (fun i => (p i).2.2.length) xe G k s) {b : Nat} (hb : s.v.ownBlock = some b) :
    ∃ i, i < 3 ∧ (lo i ≤ b ∧ b < hi i) ∧
      ((∃ t j, G i t j = some s ∧ (ev i).ownBlock ≠ some b ∧ ((t = 0 ∧ j < (p i).1.length ∧ k = sumN (fun i => (p i).1.length) i + j) ∨ (0 < t ∧ t < 3 ∧ j < (p i).2.1.length ∧ k = sumN (fun i => (p i).1.length) 3 + 2 * (sumN (fun i => (p i).2.1.length) i + j) + (t - 1)))) ∨
        ((ev i).ownBlock = some b ∧ k = sumN (fun i => (p i).1.length) 3 + 2 * (sumN (fun i => (p i).2.1.length) 3 + i) + 1)) := by
  rcases hs with ⟨i, j, hi', hj, rfl, hs⟩ | ⟨i, j, t, hi', hj, ht, rfl, hs⟩ | ⟨i, hi', rfl, rfl⟩ | ⟨i, hi', rfl, rfl⟩
  · obtain ⟨f1, f2, f3⟩ := (h.u i hi').inn.foot 0 j s b hs hb
    exact ⟨i, hi', ⟨f1, f2⟩, .inl ⟨0, j, hs, f3, .inl ⟨rfl, hj, rfl⟩⟩⟩
  · obtain ⟨f1, f2, f3⟩ := (h.u i hi').inn.foot (t + 1) j s b hs hb
    exact ⟨i, hi', ⟨f1, f2⟩, .inl ⟨t + 1, j, hs, f3, .inr ⟨by omega, by omega, hj, by simp⟩⟩⟩
  · simp [Value.ownBlock] at hb
  · exact ⟨i, hi', ⟨(ownBlock_cells (h.u i hi').en hb).1, (h.u i hi').top b (.inr (.inr hb))⟩, .inr ⟨hb, rfl⟩⟩
theorem Fam.src_apart (h : Fam W lo hi av nv ev p xa xn xe G) {k k' : Nat} {s s' : Slo} (hs : Src (fun i => (p i).1.length) (fun i => (p i).2.1.length) ev (fun i => (p i).2.2.length) xe G k s)
    (hs' : Src (fun i => (p i).1.length) (fun i => (p i).2.1.length) ev (fun i => (p i).2.2.length) xe G k' s') {b : Nat} (hb : s.v.ownBlock = some b) (hb' : s'.v.ownBlock = some b) : k = k' := by
  obtain ⟨i, hi', r1, c1⟩ := h.src_blk hs hb
  obtain ⟨i', hi2, r2, c2⟩ := h.src_blk hs' hb'
  obtain rfl := h.same hi' hi2 r1 r2
  rcases c1 with ⟨t, j, g1, n1, q1⟩ | ⟨e1, q1⟩ <;> rcases c2 with ⟨t', j', g2, n2, q2⟩ | ⟨e2, q2⟩
  · obtain ⟨rfl, rfl⟩ := (h.u i hi').inn.apart t j t' j' s s' b g1 g2 hb hb'
    rcases q1 with ⟨_, _, q1⟩ | ⟨_, _, _, q1⟩ <;> rcases q2 with ⟨_, _, q2⟩ | ⟨_, _, _, q2⟩
    · rw [q1, q2]
    · omega
    · omega
    · rw [q1, q2]
  · exact absurd e2 n1
  · exact absurd e1 n2
  · rw [q1, q2]
theorem Fam.src_own (h : Fam W lo hi av nv ev p xa xn xe G) {k : Nat} {s : Slo} (hs : Src (fun i => (p i).1.length) (fun i => (p i).2.1.length) ev (fun i => (p i).2.2.length) xe G k s) : W.ownsRow 0 s.e s.sz s.v s.n s.x ∧ s.n ≤ 30000000 := by
  rcases hs with ⟨i, j, hi', hj, rfl, hs⟩ | ⟨i, j, t, hi', hj, ht, rfl, hs⟩ | ⟨i, hi', rfl, rfl⟩ | ⟨i, hi', rfl, rfl⟩
  · obtain ⟨h1, h2⟩ := (h.u i hi').inn.own 0 j s hs
    exact ⟨own_lower h1 (Nat.zero_le _), h2⟩
  · obtain ⟨h1, h2⟩ := (h.u i hi').inn.own (t + 1) j s hs
    exact ⟨own_lower h1 (Nat.zero_le _), h2⟩
  · exact ⟨World.ownsRow_nil _ _ _ _, Nat.zero_le _⟩
  · refine ⟨own_lower (h.u i hi').en (Nat.zero_le _), ?_⟩
    have := (h.lens i hi').2.2
    show (p i).2.2.length ≤ _
    omega
theorem Fam.src_kind (h : Fam W lo hi av nv ev p xa xn xe G) {k : Nat} {s : Slo} (hs : Src (fun i => (p i).1.length) (fun i => (p i).2.1.length) ev (fun i => (p i).2.2.length) xe G k s) : s.l = decide (sumN (fun i => (p i).1.length) 3 ≤ k ∧ (k - sumN (fun i => (p i).1.length) 3) % 2 = 0) := by
  rcases hs with ⟨i, j, hi', hj, rfl, hs⟩ | ⟨i, j, t, hi', hj, ht, rfl, hs⟩ | ⟨i, hi', rfl, rfl⟩ | ⟨i, hi', rfl, rfl⟩
  · have h1 : s.l = false := by rcases (h.u i hi').inn.dom 0 j s hs with ⟨_, _, h1⟩ | ⟨h1, _⟩ | ⟨h1, _⟩ <;> first | exact h1 | omega
    have h2 := sum_le (fun i => (p i).1.length) i j hi' hj
    rw [h1]
    exact (decide_eq_false (by omega)).symm
  · have ht2 : t = 0 ∨ t = 1 := by omega
    rcases ht2 with rfl | rfl
    · have h1 : s.l = true := by rcases (h.u i hi').inn.dom 1 j s hs with ⟨h1, _⟩ | ⟨_, _, h1⟩ | ⟨h1, _⟩ <;> first | exact h1 | omega
      rw [h1]
      exact (decide_eq_true (by omega)).symm
    · have h1 : s.l = false := by rcases (h.u i hi').inn.dom 2 j s hs with ⟨h1, _⟩ | ⟨h1, _⟩ | ⟨_, _, h1⟩ <;> first | exact h1 | omega
      rw [h1]
      exact (decide_eq_false (by omega)).symm
  · exact (decide_eq_true (by omega)).symm
  · exact (decide_eq_false (by omega)).symm
/-- Where its header stands, in the rows of the joined plan. -/
theorem Fam.src_out (h : Fam W lo hi av nv ev p xa xn xe G) {k : Nat} {s : Slo} (hs : Src (fun i => (p i).1.length) (fun i => (p i).2.1.length) ev (fun i => (p i).2.2.length) xe G k s)
    {lo' A N ca cn : Nat} {Aa : Option Addr} (hA : 0 < sumN (fun i => (p i).1.length) 3 → Aa = some ⟨A, 0, none⟩)
    (oa : W1.ownsRow lo' 79 2 (.slice Aa (sumN (fun i => (p i).1.length) 3) ca) (sumN (fun i => (p i).1.length) 3) (catL xa 3))
    (on : W1.ownsRow lo' 54 11 (.slice (some ⟨N, 0, none⟩) (sumN (fun i => (p i).2.1.length) 3 + 3) cn) (sumN (fun i => (p i).2.1.length) 3 + 3) (catL xn 3 ++ catL (fun k => endNd (ev k)) 3)) :
    W1.cell? ⟨plB (sumN (fun i => (p i).1.length) 3) A N k, plO (sumN (fun i => (p i).1.length) 3) k, none⟩ = some s.v := by
  have la : ∀ i, i < 3 → (xa i).length = (p i).1.length * 2 := fun i hi => (h.u i hi).al.1
  have ln : ∀ i, i < 3 → (xn i).length = (p i).2.1.length * 11 := fun i hi => (h.u i hi).ns.1
  -- what a header's row holds at its place
  have old : ∀ (i t j : Nat) (s : Slo), i < 3 → G i t j = some s → (t = 0 ∧ (xa i)[inO t j]? = some s.v) ∨ (t ≠ 0 ∧ (xn i)[inO t j]? = some s.v) := by
    intro i t j s hi' hs
    obtain ⟨b, h1, h2⟩ := (h.u i hi').inn.out t j s hs
    by_cases e : t = 0
    · subst e
      have e2 : inV (av i) (nv i) 0 = av i := rfl
      rw [e2] at h1
      obtain ⟨a', c', hf⟩ := own_form (h.u i hi').al
      have ho := (h.u i hi').al
      rw [hf] at ho h1
      refine .inl ⟨rfl, ?_⟩
      cases a' with
      | none => simp [Value.ownBlock] at h1
      | some a' =>
        have hj : j < (p i).1.length := by rcases (h.u i hi').inn.dom 0 j s hs with ⟨_, h3, _⟩ | ⟨h3, _⟩ | ⟨h3, _⟩ <;> omega
        obtain ⟨g, hg⟩ := own_addr ho (by omega)
        rw [hg] at ho h1
        obtain rfl : g = b := by simpa [Value.ownBlock] using h1
        have := World.ownsRow.cellAt ho (inO 0 j) (by unfold inO; rw [if_pos rfl]; omega)
        rw [← this]
        exact h2
    · have e2 : inV (av i) (nv i) t = nv i := by unfold inV; rw [if_neg e]
      rw [e2] at h1
      obtain ⟨a', c', hf⟩ := own_form (h.u i hi').ns
      have ho := (h.u i hi').ns
      rw [hf] at ho h1
      refine .inr ⟨e, ?_⟩
      have hj : j < (p i).2.1.length ∧ inO t j < (p i).2.1.length * 11 := by
        unfold inO
        rw [if_neg e]
        rcases (h.u i hi').inn.dom t j s hs with ⟨h3, _⟩ | ⟨h3, h4, _⟩ | ⟨h3, h4, _⟩
        · exact absurd h3 e
        · rw [if_pos h3]; omega
        · rw [if_neg (by omega)]; omega
      obtain ⟨g, hg⟩ := own_addr ho (by omega)
      rw [hg] at ho h1
      obtain rfl : g = b := by simpa [Value.ownBlock] using h1
      have := World.ownsRow.cellAt ho (inO t j) hj.2
      rw [← this]
      exact h2
  rcases hs with ⟨i, j, hi', hj, rfl, hs⟩ | ⟨i, j, t, hi', hj, ht, rfl, hs⟩ | ⟨i, hi', rfl, rfl⟩ | ⟨i, hi', rfl, rfl⟩
  · have hj : j < (p i).1.length := hj
    have h2 := sum_le (fun i => (p i).1.length) i j hi' hj
    have h3 := old i 0 j s hi' hs
    have h4 : (xa i)[2 * j + 1]? = some s.v := by
      rcases h3 with ⟨_, h3⟩ | ⟨h3, _⟩
      · unfold inO at h3; rw [if_pos rfl, Nat.mul_comm] at h3; exact h3
      · exact absurd rfl h3
    rw [hA (by omega)] at oa
    unfold plB plO
    rw [if_pos h2, if_pos h2, World.ownsRow.cellAt oa _ (by omega)]
    have := cat_at xa la hi' (q := 2 * j + 1) (by omega) []
    rw [List.append_nil] at this
    rw [← h4, ← this]
    congr 1
    omega
  · have hj : j < (p i).2.1.length := hj
    have h2 := sum_le (fun i => (p i).2.1.length) i j hi' hj
    have h3 := old i (t + 1) j s hi' hs
    have h4 : (xn i)[11 * j + 3 + t]? = some s.v := by
      rcases h3 with ⟨h3, _⟩ | ⟨_, h3⟩
      · omega
      · unfold inO at h3
        rw [if_neg (by omega)] at h3
        have ht2 : t = 0 ∨ t = 1 := by omega
        rcases ht2 with rfl | rfl
        · rw [if_pos rfl, Nat.mul_comm] at h3; exact h3
        · rw [if_neg (by omega), Nat.mul_comm] at h3; exact h3
    unfold plB plO
    rw [if_neg (by omega), if_neg (by omega), World.ownsRow.cellAt on _ (by omega)]
    have := cat_at xn ln hi' (q := 11 * j + 3 + t) (by omega) (catL (fun k => endNd (ev k)) 3)
    rw [← h4, ← this]
    congr 1
    omega
  · unfold plB plO
    rw [if_neg (by omega), if_neg (by omega), World.ownsRow.cellAt on _ (by omega)]
    have := end_at xn (fun i => (p i).2.1.length) 11 _ ln ev hi' (q := 3) (by decide) rfl
    rw [show (some (Value.slice none 0 0)) = (endNd (ev i))[3]? from rfl, ← this]
    congr 1
    omega
  · unfold plB plO
    rw [if_neg (by omega), if_neg (by omega), World.ownsRow.cellAt on _ (by omega)]
    have := end_at xn (fun i => (p i).2.1.length) 11 _ ln ev hi' (q := 4) (by decide) rfl
    rw [show (some (ev i)) = (endNd (ev i))[4]? from rfl, ← this]
    congr 1
    omega
theorem pick {α : Type} [Inhabited α] {q : Nat → α → Prop} (h : ∀ i, i < 3 → ∃ x, q i x) : ∃ f : Nat → α, ∀ i, i < 3 → q i (f i) := by
  have h2 : ∀ i, ∃ x, i < 3 → q i x := fun i => by
    by_cases hi : i < 3
    · obtain ⟨x, hx⟩ := h i hi; exact ⟨x, fun _ => hx⟩
    · exact ⟨default, fun h => absurd h hi⟩
  exact ⟨fun i => Classical.choose (h2 i), fun i hi => Classical.choose_spec (h2 i) hi⟩
theorem joinedU (h : Fam W lo hi av nv ev p xa xn xe G) (hlo : ∀ i, i < 3 → lo 0 ≤ lo i) (hsz : lo 0 ≤ W.heap.size) :
    Calls Try.prog 14 #[.agg #[av 0, nv 0, ev 0], .agg #[av 1, nv 1, ev 1], .agg #[av 2, nv 2, ev 2]] W fun e W1 => (Below (lo 0) W W1 ∧ ∀ (b : Nat) (cs : Array Value), W.heap[b]? = some (Obj.cells cs 27 (0, 0)) → W1.heap[b]? = some (Obj.cells cs 27 (0, 0))) ∧ ∃ pa pn, e = .returned (.agg #[pa, pn, .slice none 0 0]) ∧
      Calls Try.prog 13 #[.agg #[pa, pn, .slice none 0 0]] W1 fun e W2 => e = .returned (.bool true) ∧ Below (lo 0) W1 W2 ∧ ∀ (b : Nat) (cs : Array Value), W1.heap[b]? = some (Obj.cells cs 27 (0, 0)) → W2.heap[b]? = some (Obj.cells cs 27 (0, 0)) := by
  obtain ⟨fa, hfa⟩ := pick (q := fun i (x : Option Addr × Nat) => av i = .slice x.1 (p i).1.length x.2) (fun i hi' => by obtain ⟨a, c, e⟩ := own_form (h.u i hi').al; exact ⟨(a, c), e⟩)
  obtain ⟨fn, hfn⟩ := pick (q := fun i (x : Option Addr × Nat) => nv i = .slice x.1 (p i).2.1.length x.2) (fun i hi' => by obtain ⟨a, c, e⟩ := own_form (h.u i hi').ns; exact ⟨(a, c), e⟩)
  obtain ⟨fe, hfe⟩ := pick (q := fun i (x : Option Addr × Nat) => ev i = .slice x.1 (p i).2.2.length x.2) (fun i hi' => by obtain ⟨a, c, e⟩ := own_form (h.u i hi').en; exact ⟨(a, c), e⟩)
  have hJ := joinedW W (fun i => (fa i).1) (fun i => (fn i).1) (fun i => (fe i).1) (fun i => (fa i).2) (fun i => (fn i).2) (fun i => (fe i).2) (fun i => (p i).1.length) (fun i => (p i).2.1.length) (fun i => (p i).2.2.length) 0 xa xn
    (fun i hi' => by rw [← hfa i hi']; exact own_lower (h.u i hi').al (Nat.zero_le _)) (fun i hi' => by rw [← hfn i hi']; exact own_lower (h.u i hi').ns (Nat.zero_le _)) (fun i hi' => (h.u i hi').oneA) (fun i hi' => (h.u i hi').oneN)
    ⟨fun i j b hi' hj h1 h2 => by
      rw [← hfa i hi'] at h1
      rw [← hfa j hj] at h2
      exact h.same hi' hj ⟨(ownBlock_cells (h.u i hi').al h1).1, (h.u i hi').top b (.inl h1)⟩ ⟨(ownBlock_cells (h.u j hj).al h2).1, (h.u j hj).top b (.inl h2)⟩,
     fun i j b hi' hj h1 h2 => by
      rw [← hfn i hi'] at h1
      rw [← hfn j hj] at h2
      exact h.same hi' hj ⟨(ownBlock_cells (h.u i hi').ns h1).1, (h.u i hi').top b (.inr (.inl h1))⟩ ⟨(ownBlock_cells (h.u j hj).ns h2).1, (h.u j hj).top b (.inr (.inl h2))⟩⟩
    (fun i hi' => (h.lens i hi').1) (fun i hi' => (h.lens i hi').2.1)
  rw [← hfa 0 (by decide), ← hfa 1 (by decide), ← hfa 2 (by decide), ← hfn 0 (by decide), ← hfn 1 (by decide), ← hfn 2 (by decide), ← hfe 0 (by decide), ← hfe 1 (by decide), ← hfe 2 (by decide)] at hJ
  refine hJ.mono ?_
  rintro e W1 ⟨pa, pn, rfl, oa, on, ht⟩
  have hS : ∀ b, b ∈ jS (fun i => .slice (fa i).1 (p i).1.length (fa i).2) (fun i => .slice (fn i).1 (p i).2.1.length (fn i).2) → lo 0 ≤ b ∧ ∃ c, W.heap[b]? = some (.cells c 79 (0, 0)) ∨ W.heap[b]? = some (.cells c 54 (0, 0)) := by
    intro b hb
    rcases jS_cases hb with ⟨i, hi', h1⟩ | ⟨i, hi', h1⟩
    · rw [← hfa i hi'] at h1
      obtain ⟨h2, _, c, h3⟩ := ownBlock_cells (h.u i hi').al h1
      exact ⟨Nat.le_trans (hlo i hi') h2, c, .inl h3⟩
    · rw [← hfn i hi'] at h1
      obtain ⟨h2, _, c, h3⟩ := ownBlock_cells (h.u i hi').ns h1
      exact ⟨Nat.le_trans (hlo i hi') h2, c, .inr h3⟩
  have hcat : catL (fun k => endNd (.slice (fe k).1 (p k).2.2.length (fe k).2)) 3 = catL (fun k => endNd (ev k)) 3 := by
    simp only [catL]
    rw [← hfe 0 (by decide), ← hfe 1 (by decide), ← hfe 2 (by decide)]
  simp only [hcat] at on
  have hsum := jsum (f := fun i => (p i).1.length) (fun i hi' => (h.lens i hi').1) 3 (by decide)
  have hsum2 := jsum (f := fun i => (p i).2.1.length) (fun i hi' => (h.lens i hi').2.1) 3 (by decide)
  refine ⟨⟨ht.below hsz (fun b hb => (hS b hb).1), fun b cs hb => (ht.block b (lt_of_heap hb) (fun hm => ?_)).trans hb⟩, pa, pn, rfl, ?_⟩
  · obtain ⟨_, c', h3 | h3⟩ := hS b hm
    · rw [hb] at h3; simp at h3
    · rw [hb] at h3; simp at h3
  obtain ⟨Aa, ca, rfl⟩ := own_form oa
  obtain ⟨An, cn, rfl⟩ := own_form on
  obtain ⟨N, rfl⟩ := own_addr on (by omega)
  obtain ⟨A, hA⟩ : ∃ A, 0 < sumN (fun i => (p i).1.length) 3 → Aa = some ⟨A, 0, none⟩ := by
    by_cases h0 : 0 < sumN (fun i => (p i).1.length) 3
    · obtain ⟨b, hb⟩ := own_addr oa h0
      exact ⟨b, fun _ => hb⟩
    · exact ⟨0, fun h1 => absurd h1 h0⟩
  have hsrc : ∀ k s, (srcL (Src (fun i => (p i).1.length) (fun i => (p i).2.1.length) ev (fun i => (p i).2.2.length) xe G) (sumN (fun i => (p i).1.length) 3 + 2 * (sumN (fun i => (p i).2.1.length) 3 + 3)))[k]? = some s →
      Src (fun i => (p i).1.length) (fun i => (p i).2.1.length) ev (fun i => (p i).2.2.length) xe G k s := fun k s hs => srcL_at (fun k hk => h.src_ex hk) hs
  generalize hL : srcL (Src (fun i => (p i).1.length) (fun i => (p i).2.1.length) ev (fun i => (p i).2.2.length) xe G) (sumN (fun i => (p i).1.length) 3 + 2 * (sumN (fun i => (p i).2.1.length) 3 + 3)) = L at hsrc
  have hlen : L.length = sumN (fun i => (p i).1.length) 3 + 2 * (sumN (fun i => (p i).2.1.length) 3 + 3) := by rw [← hL]; exact srcL_len _ _
  have hW1 := ht.size
  have F0 : FS0 W1 ((Value.slice Aa (sumN (fun i => (p i).1.length) 3) ca).ownBlock.toList ++ N :: L.flatMap (fun s => s.v.ownBlock.toList)) A N (sumN (fun i => (p i).1.length) 3) L := by
    refine ⟨?_, ?_, ?_, ?_, ?_, ?_, ?_, ?_⟩
    · intro k s hs
      have ho := (h.src_own (hsrc k s hs)).1
      refine ownsRow_turns ho ht (fun b hb hm => ?_)
      obtain ⟨_, _, c, hc⟩ := ownBlock_cells ho hb
      have he : s.e ≠ 54 ∧ s.e ≠ 79 := by
        unfold Slo.e
        split <;> decide
      obtain ⟨_, c', h3 | h3⟩ := hS b hm
      · rw [hc] at h3
        simp only [Option.some.injEq, Obj.cells.injEq] at h3
        exact he.2 h3.2.1
      · rw [hc] at h3
        simp only [Option.some.injEq, Obj.cells.injEq] at h3
        exact he.1 h3.2.1
    · intro k k' s s' b hs hs' hb hb'
      exact h.src_apart (hsrc k s hs) (hsrc k' s' hs') hb hb'
    · intro k s hs
      exact h.src_out (hsrc k s hs) hA oa on
    · intro h0
      obtain ⟨_, _, c, hc⟩ := ownBlock_cells oa (b := A) (by rw [hA h0]; rfl)
      exact ⟨c, hc⟩
    · obtain ⟨_, _, c, hc⟩ := ownBlock_cells on (b := N) rfl
      exact ⟨c, hc⟩
    · intro k s b hs hb
      refine List.mem_append_right _ (List.mem_cons_of_mem _ (List.mem_flatMap.2 ⟨s, List.mem_of_getElem? hs, ?_⟩))
      simp [hb]
    · intro h0
      rw [hA h0]
      simp [Value.ownBlock]
    · simp
  refine (fullW W1 _ A N (sumN (fun i => (p i).1.length) 3) (sumN (fun i => (p i).2.1.length) 3 + 3) ca cn Aa L hA F0 hlen (fun k s hs => h.src_kind (hsrc k s hs)) (fun k s hs => (h.src_own (hsrc k s hs)).2) (by omega) (by omega)).mono ?_
  rintro e W2 ⟨rfl, ht2⟩
  refine ⟨rfl, ht2.below (Nat.le_trans hsz hW1) (fun b hb => ?_), fun b cs hb => (ht2.block b (lt_of_heap hb) (fun hm => ?_)).trans hb⟩
  rotate_left
  · rcases List.mem_append.1 hm with h1 | h1
    · have h2 : (Value.slice Aa (sumN (fun i => (p i).1.length) 3) ca).ownBlock = some b := by simpa only [Option.mem_toList] using h1
      obtain ⟨_, _, c, hc⟩ := ownBlock_cells oa h2
      rw [hb] at hc; simp at hc
    · rcases List.mem_cons.1 h1 with rfl | h1
      · obtain ⟨_, _, c, hc⟩ := ownBlock_cells on (b := b) rfl
        rw [hb] at hc; simp at hc
      · obtain ⟨s, hs, hb2⟩ := List.mem_flatMap.1 h1
        obtain ⟨k, hk⟩ := List.getElem?_of_mem hs
        obtain ⟨_, _, c, hc⟩ := ownBlock_cells (F0.own k s hk) (b := b) (by simpa only [Option.mem_toList] using hb2)
        rw [hb] at hc
        simp only [Option.some.injEq, Obj.cells.injEq] at hc
        have he : s.e ≠ 27 := by
          unfold Slo.e
          split <;> decide
        exact he hc.2.1.symm
  rcases List.mem_append.1 hb with h1 | h1
  · have h2 : (Value.slice Aa (sumN (fun i => (p i).1.length) 3) ca).ownBlock = some b := by simpa only [Option.mem_toList] using h1
    have := (ownBlock_cells oa h2).1
    omega
  · rcases List.mem_cons.1 h1 with rfl | h1
    · have := (ownBlock_cells on (b := b) rfl).1
      omega
    · obtain ⟨s, hs, hb2⟩ := List.mem_flatMap.1 h1
      obtain ⟨k, hk⟩ := List.getElem?_of_mem hs
      obtain ⟨i, hi', r, _⟩ := h.src_blk (hsrc k s hk) (b := b) (by simpa only [Option.mem_toList] using hb2)
      exact Nat.le_trans (hlo i hi') r.1
end
end Go.Proofs.Ytonkbjdeaneicaa

namespace Go.Proofs.Ytonkbjdeaneicaa
open Go.RowKit Pln Classical
set_option maxRecDepth 100000 in
theorem equalSlotsW {F G : Nat → Prop} (va vb : Value) (xs ys : List Slt) (w : World) (ha : RSl F w 2 ESlt va xs) (hb : RSl G w 2 ESlt vb ys) :
    Calls Try.prog 58 #[va, vb] w fun e w' => e = .returned (.bool (eqB xs ys)) ∧ Below w.heap.size w w' := by
  obtain ⟨A, ca, rfl⟩ := ha.form
  obtain ⟨B, cb, rfl⟩ := hb.form
  have hm := ha.len
  have hm2 := hb.len
  unfold maxLen at hm hm2
  have HA := Lib.hid ha
  have HB := Lib.hid hb
  clear ha hb
  by_cases hl : xs.length = ys.length
  · have HL := Lib.hid hl
    have hl2 : ((xs.length : Int) != (ys.length : Int)) = false := by simp; omega
    clear hl
    go_enter Try.func58, Try.ntmps58
    go_wp2
    go_loopw [5] (fun i wr => ∃ k : Nat, i = .int .i64 k ∧ k ≤ xs.length ∧ (∀ i, i < k → xs[i]? = ys[i]?) ∧ Below w.heap.size w wr) (fun i _ => xs.length - (intOf i).toNat)
    case atStart => exact ⟨0, rfl, Nat.zero_le _, fun i h => by omega, Below.refl _ _⟩
    case round =>
      obtain ⟨k, rfl, hk, hq, hbl⟩ := hrel
      by_cases hkn : k < xs.length
      · obtain ⟨x, hx⟩ : ∃ x, xs[k]? = some x := ⟨_, List.getElem?_eq_getElem hkn⟩
        obtain ⟨y, hy⟩ : ∃ y, ys[k]? = some y := ⟨_, List.getElem?_eq_getElem (by have := HL.out; omega)⟩
        obtain ⟨b1, o1, rfl, _, _, cs1, ⟨rfl, _⟩, hc1⟩ := (HA.out.keep (Kp.of_below hbl)).at hx
        obtain ⟨b2, o2, rfl, _, _, cs2, ⟨rfl, _⟩, hc2⟩ := (HB.out.keep (Kp.of_below hbl)).at hy
        have d1 := hc1 0 _ rfl
        have d2 := hc2 0 _ rfl
        have d3 := hc1 1 _ rfl
        have d4 := hc2 1 _ rfl
        simp only [Nat.add_zero] at d1 d2
        have e1 : (0 : Int) ≤ (k : Int) := by omega
        have e2 : (k : Int) < (xs.length : Int) := by omega
        have e3 : (k : Int) < (ys.length : Int) := by have := HL.out; omega
        have HX := Lib.hid hx
        have HY := Lib.hid hy
        have HQ := Lib.hid hq
        have HK := Lib.hid hkn
        have HBL := Lib.hid hbl
        clear hc1 hc2 hx hy hq hkn hbl
        by_cases hxy : x = y
        · subst hxy
          have hne := fun W => neq_slt_same x W
          have HQ2 := Lib.hid (show ∀ i, i < k + 1 → xs[i]? = ys[i]? from fun i hi => by
            rcases Nat.lt_or_ge i k with h1 | h1
            · exact HQ.out i h1
            · rw [show i = k by omega, HX.out, HY.out])
          go_wp2
          go_quiet (fail)
          have HB2 := Lib.hid (drewN_below HBL.out nq)
          go_wp2
          exact ⟨⟨k + 1, by go_num, HK.out, HQ2.out, HB2.out⟩, by simp [intOf]; have := HK.out; omega⟩
        · have hne := fun W => neq_slt_diff hxy W
          have HF := Lib.hid (eqB_ne (xs := xs) (ys := ys) (fun e => hxy (by
            have h1 := HX.out
            rw [e, HY.out] at h1
            exact (Option.some.inj h1).symm)))
          clear hxy
          go_wp2
          go_quiet (fail)
          have HB2 := Lib.hid (drewN_below HBL.out nq)
          go_wp2
          go_ret
          exact ⟨ret_bool HF.out.symm, HB2.out⟩
      · obtain rfl : k = xs.length := by omega
        have HF := Lib.hid (eqB_eq (list_eq HL.out hq))
        clear hq
        go_wp2
        go_ret
        exact ⟨ret_bool HF.out.symm, hbl⟩
  · have HF := Lib.hid (eqB_ne (xs := xs) (ys := ys) (fun e => hl (by rw [e])))
    have hl2 : ((xs.length : Int) != (ys.length : Int)) = true := by simp; omega
    clear hl
    go_enter Try.func58, Try.ntmps58
    go_wp2
    go_ret
    exact ⟨ret_bool HF.out.symm, Below.refl _ _⟩
end Go.Proofs.Ytonkbjdeaneicaa

namespace Go.Proofs.Ytonkbjdeaneicaa
open Go.RowKit Pln Classical Go.Maps

def natVs (l : List Nat) : List Value := l.map fun (n : Nat) => .int .i64 n
/-- A list of numbers of the call's own. -/
def OwnI (w : World) (base : Nat) (v : Value) (l : List Nat) : Prop := w.ownsRow base 3 1 v l.length (natVs l)
theorem OwnI.below {w w' : World} {base : Nat} {v : Value} {l : List Nat} (h : OwnI w base v l) (hb : Below w.heap.size w w') : OwnI w' base v l :=
  ownsRow_turns h (Turns.of_below (S := []) hb) (by simp)
theorem ownI_one {w : World} {base k : Nat} (hb : base ≤ w.heap.size) : OwnI (w.alloc (.cells #[.int .i64 k] 3)) base (.slice (some ⟨w.heap.size, 0, none⟩) 1 1) [k] :=
  ⟨rfl, .inr ⟨w.heap.size, 1, #[.int .i64 k], rfl, hb, heap_alloc_new w _, Nat.le_refl _, by unfold maxLen; decide, rfl, rfl⟩⟩
theorem natVs_one (l : List Nat) : ∀ u ∈ natVs l, u.oneCell' = true := by
  intro u hu
  obtain ⟨n, _, rfl⟩ := List.mem_map.1 hu
  rfl
theorem wpList_append_I {w : World} {ops : Array Oper} {rest : List Oper} {o : Oper} {a : Act} {Q : Exit → Act → World → Prop} (hgd : o.guard = none) (s x : Operand)
    (ho : o.op = .call { callee := .builtin .append, args := #[s, x], argTypes := #[25, 25] })
    (base base2 : Nat) (v v2 : Value) (xs ys : List Nat) (hs : a.eval s = v) (hown : OwnI w base v xs) (hx : a.eval x = v2) (hown2 : OwnI w base2 v2 ys)
    (hlen : xs.length + ys.length ≤ 1000000000) (hbase : base ≤ w.heap.size)
    (h : ∀ v' w', OwnI w' base v' (xs ++ ys) → w.grownBy w' v.ownBlock → wpList Try.prog ops Q rest (a.put o.dst v') w') : wpList Try.prog ops Q (o :: rest) a w := by
  obtain ⟨i0, hi0, hz0, hz1, hz2⟩ := info_parts infoIntR
  have h2 := hown2
  rcases hown2.2 with ⟨rfl, h0⟩ | ⟨g, cap, cur, rfl, hg, hh, h3, h4, h5, h6⟩
  · obtain rfl := List.eq_nil_of_length_eq_zero h0
    refine wpList_append_own_none hgd s x 25 ho base 3 i0 1 Try.underlying25 hi0 v _ _ hs hown hx ?_
    exact h v w (by simpa using hown) ⟨rfl, rfl, rfl, Nat.le_refl _, fun _ _ _ => rfl⟩
  · refine wpList_append_own w hgd s x 25 ho base 3 i0 (.int .i64 0) 1 8 Try.underlying25 hi0 hz0 hz1 hz2 rfl (by decide) v _ _ hs hown ⟨g, 0, none⟩ ys.length cap (natVs ys) hx (by simp [natVs]) (fun j u hu => h2.cells (g := g) rfl j u hu) (natVs_one _) (by unfold maxLen; omega) (by omega) hbase ?_
    intro v' w' h1 h2' _
    refine h v' w' ?_ h2'
    unfold OwnI natVs
    rw [List.length_append, List.map_append]
    exact h1

/-- A row of numbers, to be read. -/
theorem OwnI.form {w : World} {base : Nat} {v : Value} {l : List Nat} (h : OwnI w base v l) : ∃ A c, v = .slice A l.length c ∧ l.length ≤ c := by
  rcases h.2 with ⟨rfl, h0⟩ | ⟨g, cap, cur, rfl, _, _, h1, h2, _⟩
  · exact ⟨none, 0, by rw [h0], by omega⟩
  · exact ⟨_, cap, rfl, h1⟩
theorem OwnI.at {w : World} {base : Nat} {A : Option Addr} {n c : Nat} {l : List Nat} (h : OwnI w base (.slice A n c) l) {t u : Nat} (hu : l[t]? = some u) : ∃ g, A = some ⟨g, 0, none⟩ ∧ base ≤ g ∧ w.cell? ⟨g, t, none⟩ = some (.int .i64 (u : Int)) := by
  have hlt := (List.getElem?_eq_some_iff.1 hu).1
  rcases h.2 with ⟨_, h0⟩ | ⟨g, cap, cur, he, hg, hh, h1, h2, _⟩
  · omega
  · simp only [Value.slice.injEq] at he
    obtain ⟨rfl, rfl, rfl⟩ := he
    refine ⟨g, rfl, hg, ?_⟩
    have := World.ownsRow.cellAt (show w.ownsRow base 3 1 (.slice (some ⟨g, 0, none⟩) l.length c) l.length (natVs l) from h) t (by omega)
    rw [this]
    unfold natVs
    rw [List.getElem?_map, hu]
    rfl
theorem OwnI.turns {w w' : World} {base x : Nat} {v : Value} {l : List Nat} (h : OwnI w base v l) (ht : Turns [x] w w') (hx : x < base) : OwnI w' base v l :=
  ownsRow_turns h ht (fun b hb hm => by
    have := (ownBlock_cells h hb).1
    rw [List.mem_singleton.1 hm] at this
    omega)
theorem OwnI.step {w w' : World} {base : Nat} {v : Value} {l : List Nat} (h : OwnI w base v l) (ht : Below w.heap.size w w') : OwnI w' base v l :=
  ownsRow_turns h (Turns.of_below (S := []) ht) (fun _ _ => by simp)
theorem OwnI.rsl {w : World} {base : Nat} {v : Value} {l : List Nat} (h : OwnI w base v l) (hl : ∀ u ∈ l, u < 1000000000) : RSl (fun b => base ≤ b) w 1 EInt v (l.map fun (n : Nat) => (n : Int)) := by
  refine RSl.of_own h (by simp) (fun b hb => (ownBlock_cells h hb).1) (fun i x hx => ?_)
  rw [List.getElem?_map, Option.map_eq_some_iff] at hx
  obtain ⟨u, hu, rfl⟩ := hx
  have := hl u (List.mem_of_getElem? hu)
  refine ⟨[.int .i64 u], ⟨rfl, ?_⟩, fun j v hv => ?_⟩
  · unfold i64ok
    simp [Lit.wf, IntKind.min, IntKind.max, IntKind.signed, IntKind.bits]
    omega
  · match j with
    | 0 =>
      simp only [List.getElem?_cons_zero, Option.some.injEq] at hv
      subst hv
      rw [Nat.mul_one, Nat.add_zero]
      unfold natVs
      rw [List.getElem?_map, hu]
      rfl
    | j + 1 => simp at hv
theorem RSl.take {α : Type} {F : Nat → Prop} {w : World} {sz : Nat} {E : List Value → α → Prop} {A : Option Addr} {n c : Nat} {xs : List α} (h : RSl F w sz E (.slice A n c) xs) {k : Nat} (hk : k ≤ xs.length) : RSl F w sz E (.slice A k c) (xs.take k) := by
  obtain ⟨A', c', h1, h2, h3, h5, h4⟩ := h
  simp only [Value.slice.injEq] at h1
  obtain ⟨rfl, rfl, rfl⟩ := h1
  have e : (xs.take k).length = k := by rw [List.length_take]; omega
  refine ⟨A, c, by rw [e], by omega, h3, h5, ?_⟩
  rcases h4 with rfl | ⟨b, off, hA, hf, hb, hc⟩
  · exact .inl (by simp)
  · refine .inr ⟨b, off, hA, hf, hb, fun i x hx => hc i x ?_⟩
    rw [List.getElem?_take] at hx
    split at hx
    · exact hx
    · cases hx
theorem run_cutI (A : Option Addr) (l c n : Nat) (h : n ≤ l) (hc : l ≤ c) (W : World) : (Instr.slice 25 (.slice A l c) none (some (.int .i64 (n : Int))) none).run Try.prog W = .ok (.slice A n c) W := by
  rw [run_slice_h (t := 25) (ht := by kernel_rfl) (h0 := by omega) (h2 := by omega)]
  have hs : (sizeOf (Try.prog.elem 25)).run Try.prog W = .ok 1 W := by kernel_rfl
  rw [hs]
  have e : (if c = 0 then A else A.map (fun a => a.add (0 * 1))) = A := by
    split
    · rfl
    · cases A <;> simp [Addr.add]
  simp only [Result.andThen, sliced, Int.toNat_natCast, Nat.sub_zero, e]

/-- The nodes of a way, each the next one's parent. -/
def Up (st : St) (l : List Nat) : Prop := ∀ i u, l[i]? = some u → 0 < u ∧ (0 :: l).getD i 0 < u ∧ ∃ n, st.ns[u]? = some n ∧ n.parent = (((0 :: l).getD i 0 : Nat) : Int)
end Go.Proofs.Ytonkbjdeaneicaa
