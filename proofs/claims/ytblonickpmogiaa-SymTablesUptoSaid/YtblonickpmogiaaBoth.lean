/- An Ids of strings and the document's beside each other: they answer alike. -/
import Derived.Test.YtblonickpmogiaaIdsS
import Derived.Test.YtblonickpmogiaaRefIds
namespace Go.Proofs.Ytblonickpmogiaa
open Go.RowKit Go.Maps

/-- The two between two calls. -/
structure Both (base : Nat) (w : World) (g1 m1 : Nat) (s1 : Value) (g2 : Nat) (s2 : Value) (ks : List ByteArray) : Prop where
  x : IdsAt Try.prog kindS base w g1 m1 s1 ks
  y : RefAt base w g2 s2 ks
  disj : ∀ b ∈ foot g1 m1 s1, b ∉ rfoot g2 s2
  hb : base ≤ w.heap.size
  wf : ∀ k ∈ ks, k.size ≤ maxLen

section
variable {base : Nat} {w w' : World} {g1 m1 : Nat} {s1 : Value} {g2 : Nat} {s2 : Value} {ks : List ByteArray}
theorem Both.below (h : Both base w g1 m1 s1 g2 s2 ks) (hb : Below w.heap.size w w') : Both base w' g1 m1 s1 g2 s2 ks := ⟨h.x.below hb, h.y.below hb, h.disj, Nat.le_trans h.hb hb.size, h.wf⟩
theorem Both.nodup (h : Both base w g1 m1 s1 g2 s2 ks) : ks.Nodup := by
  have := h.x.map.nodup
  exact List.Pairwise.of_map _ (fun a b h e => h (by rw [e])) this

/-- Between the call on the first and the call on the second. -/
structure Mid (base : Nat) (w : World) (g1 m1 : Nat) (s1 : Value) (ks : List ByteArray) (g2 : Nat) (s2 : Value) (ls : List ByteArray) : Prop where
  x : IdsAt Try.prog kindS base w g1 m1 s1 ks
  y : RefAt base w g2 s2 ls
  disj : ∀ b ∈ foot g1 m1 s1, b ∉ rfoot g2 s2
  hb : base ≤ w.heap.size
theorem Mid.below {ls : List ByteArray} (h : Mid base w g1 m1 s1 ks g2 s2 ls) (hb : Below w.heap.size w w') : Mid base w' g1 m1 s1 ks g2 s2 ls := ⟨h.x.below hb, h.y.below hb, h.disj, Nat.le_trans h.hb hb.size⟩
theorem Mid.leftX {ks' ls : List ByteArray} (h : Mid base w g1 m1 s1 ks g2 s2 ls) (hl : Left Try.prog kindS base w g1 m1 s1 ks' w') : ∃ s1', Mid base w' g1 m1 s1' ks' g2 s2 ls ∧ Below base w w' := by
  obtain ⟨s1', hx, ht, hat⟩ := hl
  refine ⟨s1', ⟨hx, h.y.turns ht (fun b hb hm => h.disj b hm hb), ?_, Nat.le_trans h.hb ht.size⟩, ht.below h.hb (fun b hb => (h.x.foot_lt b hb).1)⟩
  intro b hb
  simp only [foot, List.mem_cons, Option.mem_toList] at hb
  rcases hb with rfl | rfl | hb
  · exact h.disj _ (by simp [foot])
  · exact h.disj _ (by simp [foot])
  · rcases hat b hb with h1 | h1
    · exact h.disj _ (by simp [foot, h1])
    · intro hm; have := (h.y.foot_lt b hm).2; omega
theorem Mid.leftY {ls ls' : List ByteArray} (h : Mid base w g1 m1 s1 ks g2 s2 ls) (hl : RefLeft base w g2 s2 ls' w') : ∃ s2', Mid base w' g1 m1 s1 ks g2 s2' ls' ∧ Below base w w' := by
  obtain ⟨s2', hy, ht, hat⟩ := hl
  refine ⟨s2', ⟨h.x.turns ht (fun b hb hm => h.disj b hb hm), hy, ?_, Nat.le_trans h.hb ht.size⟩, ht.below h.hb (fun b hb => (h.y.foot_lt b hb).1)⟩
  intro b hb hm
  simp only [rfoot, List.mem_cons, Option.mem_toList] at hm
  rcases hm with rfl | hm
  · exact h.disj _ hb (by simp [rfoot])
  · rcases hat b hm with h1 | h1
    · exact h.disj _ hb (by simp [rfoot, h1])
    · have := (h.x.foot_lt b hb).2; omega
theorem Both.mid (h : Both base w g1 m1 s1 g2 s2 ks) : Mid base w g1 m1 s1 ks g2 s2 ks := ⟨h.x, h.y, h.disj, h.hb⟩
theorem Mid.both (h : Mid base w g1 m1 s1 ks g2 s2 ks) (hw : ∀ k ∈ ks, k.size ≤ maxLen) : Both base w g1 m1 s1 g2 s2 ks := ⟨h.x, h.y, h.disj, h.hb, hw⟩
end

/-- A key's first place. -/
theorem first_place {ks : List ByteArray} {k : ByteArray} (h : k ∈ ks) : ∃ i : Nat, ks[i]? = some k ∧ ∀ j, j < i → ks[j]? ≠ some k := by
  induction ks with
  | nil => cases h
  | cons a l ih =>
    by_cases ha : a = k
    · exact ⟨0, by simp [ha], by intro j hj; omega⟩
    · rcases List.mem_cons.1 h with rfl | hm
      · exact absurd rfl ha
      · obtain ⟨i, h1, h2⟩ := ih hm
        refine ⟨i + 1, by simpa using h1, ?_⟩
        intro j hj
        match j with
        | 0 => simpa using ha
        | j + 1 => simpa using h2 j (by omega)

/-- Find on both. -/
theorem find_two {ks : List ByteArray} (k : ByteArray) (hk : k.size ≤ maxLen) (hlen : ks.length ≤ 6000000000000) : ∃ r : Int,
    (∀ (base : Nat) (w : World) (g m : Nat) (s : Value), IdsAt Try.prog kindS base w g m s ks → Calls Try.prog 48 #[.pointer (some ⟨g, 0, none⟩), .string k] w fun e w' => e = .returned (.int .i64 r) ∧ w = w') ∧
    (∀ (base : Nat) (w : World) (g : Nat) (s : Value), RefAt base w g s ks → Calls Try.prog 65 #[.pointer (some ⟨g, 0, none⟩), .string k] w fun e w' => e = .returned (.int .i64 r) ∧ w = w') := by
  by_cases h : k ∈ ks
  · obtain ⟨i, h1, h2⟩ := first_place h
    exact ⟨i, fun base w g m s hx => findS_hit hx h1, fun base w g s hy => findR hy hlen k i (.inl ⟨i, rfl, h1, h2⟩)⟩
  · exact ⟨-1, fun base w g m s hx => findS_miss hx hk h, fun base w g s hy => findR hy hlen k (-1) (.inr ⟨rfl, h⟩)⟩

/-- At on both. -/
theorem at_two {ks : List ByteArray} (n : Int) : ∃ (v : ByteArray) (ok : Bool),
    (∀ (base : Nat) (w : World) (g m : Nat) (s : Value), IdsAt Try.prog kindS base w g m s ks → Calls Try.prog 47 #[.pointer (some ⟨g, 0, none⟩), .int .i64 n] w fun e w' => e = .returned (.tuple #[.string v, .bool ok]) ∧ w = w') ∧
    (∀ (base : Nat) (w : World) (g : Nat) (s : Value), RefAt base w g s ks → Calls Try.prog 66 #[.pointer (some ⟨g, 0, none⟩), .int .i64 n] w fun e w' => e = .returned (.tuple #[.string v, .bool ok]) ∧ w = w') := by
  by_cases hN : n < 0 ∨ (ks.length : Int) ≤ n
  · exact ⟨⟨#[]⟩, false, fun base w g m s hx => atS_out hx hN, fun base w g s hy => atR_out hy hN⟩
  · obtain ⟨i, rfl⟩ : ∃ i : Nat, n = (i : Int) := ⟨n.toNat, by omega⟩
    have h1 : ks[i]? = some (ks[i]'(by omega)) := List.getElem?_eq_getElem (by omega)
    exact ⟨_, true, fun base w g m s hx => atS_in hx h1, fun base w g s hy => atR_in hy h1⟩

open Classical in
/-- The keys behind Intern. -/
noncomputable def addK (ks : List ByteArray) (k : ByteArray) : List ByteArray := if k ∈ ks then ks else ks ++ [k]
theorem addK_len (ks : List ByteArray) (k : ByteArray) : (addK ks k).length ≤ ks.length + 1 := by unfold addK; split <;> simp
theorem addK_wf {ks : List ByteArray} {k : ByteArray} (h : ∀ x ∈ ks, x.size ≤ maxLen) (hk : k.size ≤ maxLen) : ∀ x ∈ addK ks k, x.size ≤ maxLen := by
  unfold addK
  split
  · exact h
  · intro x hx
    rcases List.mem_append.1 hx with hx | hx
    · exact h x hx
    · rw [List.mem_singleton.1 hx]; exact hk

/-- What is left where nothing has turned. -/
theorem left_same {base : Nat} {w : World} {g m : Nat} {s : Value} {ks : List ByteArray} (h : IdsAt Try.prog kindS base w g m s ks) : Left Try.prog kindS base w g m s ks w := ⟨s, h, Turns.refl _ _, fun _ hb => .inl hb⟩
theorem refLeft_same {base : Nat} {w : World} {g : Nat} {s : Value} {ks : List ByteArray} (h : RefAt base w g s ks) : RefLeft base w g s ks w := ⟨s, h, Turns.refl _ _, fun _ hb => .inl hb⟩

/-- Intern on both. -/
theorem intern_two {ks : List ByteArray} (k : ByteArray) (hk : k.size ≤ maxLen) (hlen : ks.length ≤ 6000000000000) : ∃ r : Int,
    (∀ (base : Nat) (w : World) (g m : Nat) (s : Value), base ≤ w.heap.size → IdsAt Try.prog kindS base w g m s ks → Calls Try.prog 64 #[.pointer (some ⟨g, 0, none⟩), .string k] w fun e w' => e = .returned (.int .i64 r) ∧ Left Try.prog kindS base w g m s (addK ks k) w') ∧
    (∀ (base : Nat) (w : World) (g : Nat) (s : Value), base ≤ w.heap.size → RefAt base w g s ks → Calls Try.prog 63 #[.pointer (some ⟨g, 0, none⟩), .string k] w fun e w' => e = .returned (.int .i64 r) ∧ RefLeft base w g s (addK ks k) w') := by
  unfold addK
  by_cases h : k ∈ ks
  · obtain ⟨i, h1, h2⟩ := first_place h
    rw [if_pos h]
    exact ⟨i, fun base w g m s hb hx => (internS_old hx h1).mono fun e w' ⟨he, hw⟩ => ⟨he, hw ▸ left_same hx⟩, fun base w g s hb hy => (internR_old hy hlen h1 h2).mono fun e w' ⟨he, hw⟩ => ⟨he, hw ▸ refLeft_same hy⟩⟩
  · rw [if_neg h]
    exact ⟨ks.length, fun base w g m s hb hx => internS_new hx hb hk h hlen, fun base w g s hb hy => internR_new hy hb hlen h⟩
end Go.Proofs.Ytblonickpmogiaa
