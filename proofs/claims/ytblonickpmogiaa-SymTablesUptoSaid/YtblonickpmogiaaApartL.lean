/- SymApart: lists of numbers that are the caller's own: plain laws. -/
import Derived.Test.YtblonickpmogiaaFilledU
import Derived.Test.YtblonickpmogiaaNumbers
namespace Go.Proofs.Ytblonickpmogiaa
open Go.RowKit Go.Maps Go.Shelf

/-- Rows of numbers, at different blocks. -/
structure Nm (B : Nat) (E : Nat → List Nat) (W : World) (vs : List Value) : Prop where
  nums : ∀ (j : Nat) (v : Value), vs[j]? = some v → OwnN W B v (E j)
  apart : ∀ (i j : Nat) (vi vj : Value) (b : Nat), vs[i]? = some vi → vs[j]? = some vj → vi.ownBlock = some b → vj.ownBlock = some b → i = j
theorem Nm.turns {B : Nat} {E : Nat → List Nat} {W W' : World} {vs : List Value} (h : Nm B E W vs) {S : List Nat} (T : Turns S W W') (hS : ∀ (j : Nat) (v : Value) (b : Nat), vs[j]? = some v → v.ownBlock = some b → b ∉ S) : Nm B E W' vs :=
  ⟨fun j v hv => (h.nums j v hv).turns T (fun b hb => hS j v b hv hb), h.apart⟩
theorem Nm.below {B : Nat} {E : Nat → List Nat} {W W' : World} {vs : List Value} (h : Nm B E W vs) (hb : Below W.heap.size W W') : Nm B E W' vs := h.turns (Turns.of_below (S := []) hb) (fun _ _ _ _ _ => by simp)
theorem Nm.add {B : Nat} {E : Nat → List Nat} {W W' : World} {vs : List Value} {u : Value} (h : Nm B E W vs) (hB : B ≤ W.heap.size) (hb : Below W.heap.size W W') (ho : OwnN W' W.heap.size u (E vs.length)) : Nm B E W' (vs ++ [u]) := by
  have h' := h.below hb
  have old : ∀ (j : Nat) (v : Value) (b : Nat), vs[j]? = some v → v.ownBlock = some b → b < W.heap.size := fun j v b hv hb => (ownBlock_cells (h.nums j v hv) hb).2.1
  have new : ∀ b, u.ownBlock = some b → W.heap.size ≤ b := fun b hb => (ownBlock_cells ho hb).1
  have split : ∀ (j : Nat) (v : Value), (vs ++ [u])[j]? = some v → vs[j]? = some v ∨ (j = vs.length ∧ v = u) := by
    intro j v hv
    by_cases hj : j < vs.length
    · rw [List.getElem?_append_left hj] at hv
      exact .inl hv
    · have hl := (List.getElem?_eq_some_iff.1 hv).1
      have : j = vs.length := by simp at hl; omega
      subst this
      rw [List.getElem?_append_right (Nat.le_refl _), Nat.sub_self] at hv
      exact .inr ⟨rfl, by simpa using hv.symm⟩
  refine ⟨fun j v hv => ?_, fun i j vi vj b h1 h2 b1 b2 => ?_⟩
  · rcases split j v hv with h1 | ⟨rfl, rfl⟩
    · exact h'.nums j v h1
    · exact ownsRow_weakT ho hB
  · rcases split i vi h1 with q1 | ⟨rfl, rfl⟩ <;> rcases split j vj h2 with q2 | ⟨rfl, rfl⟩
    · exact h.apart i j vi vj b q1 q2 b1 b2
    · have := old i vi b q1 b1; have := new b b2; omega
    · have := old j vj b q2 b2; have := new b b1; omega
    · rfl
/-- The list that holds them takes more: they stay. -/
theorem Nm.listed {B : Nat} {E : Nat → List Nat} {W W' : World} {vs : List Value} (h : Nm B E W vs) {base n : Nat} {lv : Value} {xs : List Value} (hl : W.ownsRow base 66 1 lv n xs) (hg : W.grownBy W' lv.ownBlock) : Nm B E W' vs := by
  refine h.turns (Turns.of_grown hg) (fun j v b hv hb hm => ?_)
  obtain ⟨_, _, c1, e1⟩ := ownBlock_cells (h.nums j v hv) hb
  obtain ⟨_, _, c2, e2⟩ := ownBlock_cells hl (b := b) (by simpa using hm)
  rw [e1] at e2
  simp only [Option.some.injEq, Obj.cells.injEq] at e2
  exact absurd e2.2.1 (by decide)
/-- As 'numbers' wants them. -/
theorem Nm.rowSet {B : Nat} {E : Nat → List Nat} {W : World} {vs : List Value} (h : Nm B E W vs) : RowSet (vs.flatMap fun v => v.ownBlock.toList) W.heap.size vs where
  apart := h.apart
  old j v b hv hb := (ownBlock_cells (h.nums j v hv) hb).2.1
  ins j v b hv hb := List.mem_flatMap.2 ⟨v, List.mem_of_getElem? hv, by simp [hb]⟩
theorem Nm.far {B : Nat} {E : Nat → List Nat} {W : World} {vs : List Value} (h : Nm B E W vs) : ∀ x ∈ vs.flatMap (fun v => v.ownBlock.toList), B ≤ x ∧ ∃ cur, W.heap[x]? = some (.cells cur 3 (0, 0)) := by
  intro x hx
  obtain ⟨v, hv, hb⟩ := List.mem_flatMap.1 hx
  obtain ⟨j, hj, e⟩ := List.getElem_of_mem hv
  have hv' : vs[j]? = some v := by rw [List.getElem?_eq_getElem hj, e]
  obtain ⟨h1, _, h2⟩ := ownBlock_cells (h.nums j v hv') (by simpa using hb)
  exact ⟨h1, h2⟩

/-- Ids sorted: there is such a list. -/
theorem sdIds_is (ks : List Cst) : ∃ l : List Nat, l.Perm (List.range ks.length) ∧ SdIds ks l := by
  refine ⟨(List.range ks.length).mergeSort (fun i j => leC (ks.getD i cst0) (ks.getD j cst0)), List.mergeSort_perm _ _, ?_⟩
  have := List.pairwise_mergeSort (le := fun i j => leC (ks.getD i cst0) (ks.getD j cst0)) (fun _ _ _ => leC_trans _ _ _) (fun _ _ => leC_total _ _) (List.range ks.length)
  unfold SdIds
  refine this.imp (fun {a b} h => ?_)
  simpa [leC] using h

/-- What the lists are, in turns. -/
def Ea (l1 : List Nat) (n : Nat) (j : Nat) : List Nat := if j % 4 = 0 then l1 else if j % 4 = 1 then rk l1 n else [2, 1, 0]
theorem Ea_len {l1 : List Nat} {n : Nat} (h : l1.length = n) (hn : n ≤ 70000) (j : Nat) : (Ea l1 n j).length ≤ 70000 := by
  unfold Ea
  split
  · omega
  · split
    · rw [rk_length]; omega
    · simp
theorem Ea_back (l1 : List Nat) (n : Nat) {j : Nat} (h : 4 ≤ j) : Ea l1 n (j - 4) = Ea l1 n j := by
  unfold Ea
  rw [show (j - 4) % 4 = j % 4 by omega]

def k987 : List Cst := [⟨1, 9, ⟨#[]⟩⟩, ⟨1, 8, ⟨#[]⟩⟩, ⟨1, 7, ⟨#[]⟩⟩]
theorem cmp_ci (a b : Int) : cmpC ⟨1, a, ⟨#[]⟩⟩ ⟨1, b, ⟨#[]⟩⟩ = cmpI a b := by
  rw [cmpC_eq]
  rw [if_pos (cmpI_self 1)]
  split
  · rename_i h
    rw [cmpL_self, h]
  · rfl
theorem sd987 {l : List Nat} (nd : k987.Nodup) (h1 : l.Perm (List.range k987.length)) (h2 : SdIds k987 l) : l = [2, 1, 0] := by
  refine sdIds_unique nd h1 ?_ h2 ?_
  · decide
  · have h10 : cmpC (k987.getD 2 cst0) (k987.getD 1 cst0) ≤ 0 := by show cmpC ⟨1, 7, ⟨#[]⟩⟩ ⟨1, 8, ⟨#[]⟩⟩ ≤ 0; rw [cmp_ci]; decide
    have h20 : cmpC (k987.getD 2 cst0) (k987.getD 0 cst0) ≤ 0 := by show cmpC ⟨1, 7, ⟨#[]⟩⟩ ⟨1, 9, ⟨#[]⟩⟩ ≤ 0; rw [cmp_ci]; decide
    have h21 : cmpC (k987.getD 1 cst0) (k987.getD 0 cst0) ≤ 0 := by show cmpC ⟨1, 8, ⟨#[]⟩⟩ ⟨1, 9, ⟨#[]⟩⟩ ≤ 0; rw [cmp_ci]; decide
    unfold SdIds
    simp only [List.pairwise_cons, List.mem_cons, List.not_mem_nil, or_false, forall_eq_or_imp, forall_eq, List.Pairwise.nil, and_true]
    exact ⟨⟨h10, h20⟩, h21, fun _ h => h.elim⟩
theorem rk210 : rk [2, 1, 0] 3 = [2, 1, 0] := by decide

/-- Four calls' answers. -/
theorem sorted_l {base : Nat} {w : World} {g m : Nat} {sv : Value} {ks : List Cst} {l : List Nat} (h : IdsAt Try.prog kindT base w g m sv ks) (nd : ks.Nodup) (hl : l.Perm (List.range ks.length)) (hs : SdIds ks l) (hlen : ks.length ≤ 70000) :
    Calls Try.prog 38 #[.pointer (some ⟨g, 0, none⟩)] w fun e w' => ∃ a c, e = .returned (.slice a l.length c) ∧ OwnN w' w.heap.size (.slice a l.length c) l ∧ Below w.heap.size w w' := by
  refine (sortedW h hlen).mono ?_
  rintro e w' ⟨u, l', rfl, h1, h2, h3, h4⟩
  obtain rfl := sdIds_unique nd hl h2 hs h3
  obtain ⟨a, c, rfl⟩ := h1.form
  exact ⟨a, c, rfl, h1, h4⟩
theorem ranks_l {base : Nat} {w : World} {g m : Nat} {sv : Value} {ks : List Cst} {l : List Nat} (h : IdsAt Try.prog kindT base w g m sv ks) (nd : ks.Nodup) (hl : l.Perm (List.range ks.length)) (hs : SdIds ks l) (hlen : ks.length ≤ 70000) :
    Calls Try.prog 39 #[.pointer (some ⟨g, 0, none⟩)] w fun e w' => ∃ a c, e = .returned (.slice a l.length c) ∧ OwnN w' w.heap.size (.slice a l.length c) (rk l ks.length) ∧ Below w.heap.size w w' := by
  refine (ranksW h hlen).mono ?_
  rintro e w' ⟨u, l', rfl, h2, h3, h1, h4⟩
  obtain rfl := sdIds_unique nd hl h2 hs h3
  obtain ⟨a, c, rfl⟩ := h1.form
  rw [rk_length] at h1 ⊢
  exact ⟨a, c, rfl, h1, h4⟩

theorem OwnN.below {w w' : World} {base : Nat} {v : Value} {l : List Nat} (h : OwnN w base v l) (hb : Below w.heap.size w w') : OwnN w' base v l := h.turns (Turns.of_below (S := []) hb) (fun _ _ => by simp)
theorem ownN_210 (w : World) : OwnN (w.alloc (.cells #[.int .i64 2, .int .i64 1, .int .i64 0] 3)) w.heap.size (.slice (some ⟨w.heap.size, 0, none⟩) 3 3) [2, 1, 0] :=
  World.ownsRow_lit (size := 1) w _ 3 (Nat.le_refl _) (by decide) rfl
end Go.Proofs.Ytblonickpmogiaa
