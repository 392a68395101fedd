/- An Ids in memory: its struct's block, its keys' row, its map. -/
import Derived.Test.YtblonickpmogiaaTurns
import Derived.Test.YtblonickpmogiaaMap
import Derived.WalkSmall
namespace Go.Proofs.Ytblonickpmogiaa
open Go.RowKit

/-- How an Ids of one key type lies: the types' numbers, a key's cells, a key as a value. -/
structure IdsKind (κ : Type) where
  tK : TypeId
  tE : TypeId
  tT : TypeId
  sz : Nat
  cells : κ → List Value
  val : κ → Value
  ne : tK ≠ tT
  len : ∀ k, (cells k).length = sz

structure IdsAt {κ : Type} (P : Program) (I : IdsKind κ) (base : Nat) (w : World) (g m : Nat) (sv : Value) (ks : List κ) : Prop where
  blk : w.heap[g]? = some (.cells #[sv, .map (some m)] I.tT (0, 0))
  own : w.ownsRow base I.tK I.sz sv ks.length (ks.flatMap I.cells)
  map : MapIs P I.tK I.tE w m (ks.map I.val)
  gb : base ≤ g
  mb : base ≤ m

section
variable {κ : Type} {P : Program} {I : IdsKind κ} {base : Nat} {w w' : World} {g m : Nat} {sv : Value} {ks : List κ}

/-- The blocks of an Ids. -/
def foot (g m : Nat) (sv : Value) : List Nat := g :: m :: sv.ownBlock.toList

theorem IdsAt.c0 (h : IdsAt P I base w g m sv ks) : w.cell? ⟨g, 0, none⟩ = some sv := cell_of_row w g 0 _ _ _ h.blk
theorem IdsAt.c1 (h : IdsAt P I base w g m sv ks) : w.cell? ⟨g, 1, none⟩ = some (.map (some m)) := cell_of_row w g 1 _ _ _ h.blk
theorem IdsAt.f0 (h : IdsAt P I base w g m sv ks) (i : Nat) : w.frozen? ⟨g, i, none⟩ = false := by
  have := h.blk
  simp [World.frozen?, this]
theorem IdsAt.g_lt (h : IdsAt P I base w g m sv ks) : g < w.heap.size := lt_of_heap h.blk
theorem IdsAt.m_lt (h : IdsAt P I base w g m sv ks) : m < w.heap.size := h.map.lt
theorem IdsAt.g_ne_m (h : IdsAt P I base w g m sv ks) : g ≠ m := by
  rintro rfl
  obtain ⟨n, D, ⟨es, c, hb, _⟩, _⟩ := h.map
  have := h.blk
  rw [hb] at this
  cases this
theorem IdsAt.row_ne (h : IdsAt P I base w g m sv ks) {b : Nat} (hb : sv.ownBlock = some b) : b ≠ g ∧ b ≠ m ∧ base ≤ b ∧ b < w.heap.size := by
  obtain ⟨h1, h2, cur, h3⟩ := ownBlock_cells h.own hb
  refine ⟨?_, ?_, h1, h2⟩
  · rintro rfl
    have := h.blk
    rw [h3] at this
    injection this with this
    injection this with _ ht
    exact I.ne ht
  · rintro rfl
    obtain ⟨n, D, ⟨es, c, hb', _⟩, _⟩ := h.map
    rw [h3] at hb'
    cases hb'
theorem IdsAt.foot_lt (h : IdsAt P I base w g m sv ks) : ∀ x ∈ foot g m sv, base ≤ x ∧ x < w.heap.size := by
  intro x hx
  simp only [foot, List.mem_cons, Option.mem_toList] at hx
  rcases hx with rfl | rfl | hx
  · exact ⟨h.gb, h.g_lt⟩
  · exact ⟨h.mb, h.m_lt⟩
  · exact ⟨(h.row_ne hx).2.2.1, (h.row_ne hx).2.2.2⟩
theorem IdsAt.turns (h : IdsAt P I base w g m sv ks) {S : List Nat} (ht : Turns S w w') (hs : ∀ x ∈ foot g m sv, x ∉ S) : IdsAt P I base w' g m sv ks :=
  ⟨(ht.block g h.g_lt (hs g (by simp [foot]))).trans h.blk, ownsRow_turns h.own ht (fun b hb => hs b (by simp [foot, hb])), h.map.of_block (ht.block m h.m_lt (hs m (by simp [foot]))), h.gb, h.mb⟩
theorem IdsAt.below (h : IdsAt P I base w g m sv ks) (hb : Below w.heap.size w w') : IdsAt P I base w' g m sv ks :=
  h.turns (S := []) (.of_below hb) (fun _ _ => by simp)

/-- What a call on an Ids leaves: the keys ks', the Ids' own blocks turned and no other old one. -/
def Left {κ : Type} (P : Program) (I : IdsKind κ) (base : Nat) (w : World) (g m : Nat) (sv : Value) (ks' : List κ) (w' : World) : Prop :=
  ∃ sv', IdsAt P I base w' g m sv' ks' ∧ Turns (foot g m sv) w w' ∧ ∀ b, sv'.ownBlock = some b → sv.ownBlock = some b ∨ w.heap.size ≤ b

/-- Behind the store into the map: the Ids but for its map, which bears one key more. -/
structure Half {κ : Type} (P : Program) (I : IdsKind κ) (base : Nat) (w : World) (g m : Nat) (sv : Value) (ks : List κ) (k : κ) (w1 : World) : Prop where
  blk : w1.heap[g]? = some (.cells #[sv, .map (some m)] I.tT (0, 0))
  own : w1.ownsRow base I.tK I.sz sv ks.length (ks.flatMap I.cells)
  map : MapIs P I.tK I.tE w1 m ((ks ++ [k]).map I.val)
  gb : base ≤ g
  mb : base ≤ m
  tn : Turns (foot g m sv) w w1

theorem Half.mk' {w1 : World} {k : κ} (h : IdsAt P I base w g m sv ks) (hm : MapIs P I.tK I.tE w1 m (ks.map I.val ++ [I.val k])) (hg : w.drew.grownBy w1 (some m)) : Half P I base w g m sv ks k w1 := by
  have T1 : Turns [m] w w1 := (Turns.refl [m] w).drew.trans (Turns.of_grown hg) (fun x hx => .inl (by simpa using hx))
  refine ⟨(T1.block g h.g_lt (by simpa using h.g_ne_m)).trans h.blk, ownsRow_turns h.own T1 (fun b hb => by simpa using (h.row_ne hb).2.1), by rw [List.map_append]; exact hm, h.gb, h.mb, T1.mono (by simp [foot])⟩
theorem Half.mk2 {w1 wd : World} {k : κ} (h : IdsAt P I base w g m sv ks) (hm : MapIs P I.tK I.tE w1 m (ks.map I.val ++ [I.val k])) (hwd : Turns [] w wd) (hg : wd.grownBy w1 (some m)) : Half P I base w g m sv ks k w1 := by
  have T1 : Turns [m] w w1 := (hwd.mono (by simp)).trans (Turns.of_grown hg) (fun x hx => .inl (by simpa using hx))
  refine ⟨(T1.block g h.g_lt (by simpa using h.g_ne_m)).trans h.blk, ownsRow_turns h.own T1 (fun b hb => by simpa using (h.row_ne hb).2.1), by rw [List.map_append]; exact hm, h.gb, h.mb, T1.mono (by simp [foot])⟩
theorem Half.c0 {w1 : World} {k : κ} (h : Half P I base w g m sv ks k w1) : w1.cell? ⟨g, 0, none⟩ = some sv := cell_of_row w1 g 0 _ _ _ h.blk
theorem Half.f0 {w1 : World} {k : κ} (h : Half P I base w g m sv ks k w1) : w1.frozen? ⟨g, 0, none⟩ = false := by
  have := h.blk
  simp [World.frozen?, this]
theorem Half.lt {w1 : World} {k : κ} (h : Half P I base w g m sv ks k w1) : g < w1.heap.size := lt_of_heap h.blk
theorem Half.row_ne {w1 : World} {k : κ} (h : Half P I base w g m sv ks k w1) {b : Nat} (hb : sv.ownBlock = some b) : b ≠ g := by
  obtain ⟨_, _, cur, h3⟩ := ownBlock_cells h.own hb
  rintro rfl
  have := h.blk
  rw [h3] at this
  injection this with this
  injection this with _ ht
  exact I.ne ht

theorem Half.far {w1 wa w2 : World} {k : κ} (h : Half P I base w g m sv ks k w1) (hwa : Turns [] w1 wa) (hg : wa.grownBy w2 sv.ownBlock) : w2.cell? ⟨g, 0, none⟩ = some sv ∧ w2.frozen? ⟨g, 0, none⟩ = false := by
  have T2 : Turns sv.ownBlock.toList w1 w2 := (hwa.mono (by simp)).trans (Turns.of_grown hg) (fun x hx => .inl hx)
  have hgs : g ∉ sv.ownBlock.toList := fun hm => h.row_ne (by simpa using hm) rfl
  have e2 : w2.heap[g]? = some (.cells #[sv, .map (some m)] I.tT (0, 0)) := (T2.block g h.lt hgs).trans h.blk
  exact ⟨cell_of_row w2 g 0 _ _ _ e2, by simp [World.frozen?, e2]⟩

/-- Behind the append and the store into the struct. -/
theorem Half.done {w1 wa w2 : World} {k : κ} {v' : Value} (h : Half P I base w g m sv ks k w1) (hwa : Turns [] w1 wa) (ho : w2.ownsRow base I.tK I.sz v' (ks.length + 1) (ks.flatMap I.cells ++ I.cells k)) (hg : wa.grownBy w2 sv.ownBlock)
    (hat : v'.ownBlock = sv.ownBlock ∨ ∃ b, v'.ownBlock = some b ∧ w1.heap.size ≤ b) : Left P I base w g m sv (ks ++ [k]) (w2.setCell ⟨g, 0, none⟩ v') := by
  have T2 : Turns sv.ownBlock.toList w1 w2 := (hwa.mono (by simp)).trans (Turns.of_grown hg) (fun x hx => .inl hx)
  have hgs : g ∉ sv.ownBlock.toList := fun hm => h.row_ne (by simpa using hm) rfl
  have e2 : w2.heap[g]? = some (.cells #[sv, .map (some m)] I.tT (0, 0)) := (T2.block g h.lt hgs).trans h.blk
  have hmm : m ≠ g := by
    rintro rfl
    obtain ⟨n, D, ⟨es, c, hb, _⟩, _⟩ := h.map
    have := h.blk
    rw [hb] at this
    cases this
  have hms : m ∉ sv.ownBlock.toList := by
    intro hm
    obtain ⟨_, _, cur, h3⟩ := ownBlock_cells h.own (by simpa using hm)
    obtain ⟨n, D, ⟨es, c, hb, _⟩, _⟩ := h.map
    rw [h3] at hb
    cases hb
  have T3 : Turns (foot g m sv) w (w2.setCell ⟨g, 0, none⟩ v') :=
    (h.tn.trans T2 (fun x hx => .inl (by simp [foot]; right; right; simpa using hx))).setCell (.inl (by simp [foot])) _
  have hvg : ∀ b, v'.ownBlock = some b → b ∉ [g] := by
    intro b hb
    obtain ⟨_, hlt, cur, h3⟩ := ownBlock_cells ho hb
    simp only [List.mem_singleton]
    rintro rfl
    rw [e2] at h3
    injection h3 with h3
    injection h3 with _ ht
    exact I.ne ht.symm
  have T4 : Turns [g] w2 (w2.setCell ⟨g, 0, none⟩ v') := (Turns.refl _ _).setCell (.inl (by simp)) _
  refine ⟨v', ⟨?_, ?_, ?_, h.gb, h.mb⟩, T3, ?_⟩
  · simp [World.setCell, Array.getElem?_modify, e2]
  · have := ownsRow_turns ho T4 hvg
    simpa [List.flatMap_append] using this
  · refine (h.map.of_block ((T2.block m h.map.lt hms).symm.trans ?_).symm)
    exact (T4.block m (Nat.lt_of_lt_of_le h.map.lt T2.size) (by simpa using hmm)).symm
  · intro b hb
    rcases hat with hat | ⟨b', hb', hle⟩
    · exact .inl (hat ▸ hb)
    · right
      rw [hb] at hb'
      injection hb' with hb'
      have := h.tn.size
      omega

theorem flat_len : ∀ ks : List κ, (ks.flatMap I.cells).length = ks.length * I.sz
  | [] => by simp
  | a :: l => by rw [List.flatMap_cons, List.length_append, flat_len l, I.len, List.length_cons, Nat.add_mul]; omega

/-- The last key apart. -/
theorem IdsAt.last {j : Nat} (h : IdsAt P I base w g m sv (ks.take j)) (hj : 0 < j) (hjl : j ≤ ks.length) :
    ∃ (k : κ) (b c : Nat), sv = .slice (some ⟨b, 0, none⟩) ((ks.take (j - 1)).length + 1) c ∧ (ks.take (j - 1)).length = j - 1 ∧ j ≤ c ∧ c ≤ maxLen ∧ IdsAt P I base w g m (.slice (some ⟨b, 0, none⟩) ((ks.take (j - 1)).length + 1) c) (ks.take (j - 1) ++ [k]) ∧ ks[j - 1]? = some k := by
  have e : ks.take j = ks.take (j - 1) ++ [ks[j - 1]'(by omega)] := by
    have := List.take_succ_eq_append_getElem (l := ks) (i := j - 1) (by omega)
    rwa [show j - 1 + 1 = j from by omega] at this
  have hl : (ks.take (j - 1)).length = j - 1 := by rw [List.length_take]; omega
  rw [e] at h
  have hn : (ks.take (j - 1) ++ [ks[j - 1]'(by omega)]).length = (ks.take (j - 1)).length + 1 := by rw [List.length_append]; rfl
  rcases h.own.2 with ⟨_, h0⟩ | ⟨b, c, cur, hv, _, _, h1, h2, _⟩
  · omega
  · rw [hn] at hv h1
    subst hv
    exact ⟨_, b, c, rfl, hl, by omega, h2, h, List.getElem?_eq_getElem _⟩

/-- One key cut off: the map's entry deleted (w1), the slice cut and stored. -/
theorem IdsAt.cut1 {k : κ} {b c : Nat} {w1 wd : World} (h : IdsAt P I base w g m (.slice (some ⟨b, 0, none⟩) (ks.length + 1) c) (ks ++ [k])) (hm : MapIs P I.tK I.tE w1 m (ks.map I.val)) (hwd : Turns [] w wd) (hg : wd.grownBy w1 (some m)) :
    IdsAt P I base (w1.drew.setCell ⟨g, 0, none⟩ (.slice (some ⟨b, 0, none⟩) ks.length c)) g m (.slice (some ⟨b, 0, none⟩) ks.length c) ks ∧
      Turns [g, m] w (w1.drew.setCell ⟨g, 0, none⟩ (.slice (some ⟨b, 0, none⟩) ks.length c)) ∧ w1.cell? ⟨g, 0, none⟩ = some (.slice (some ⟨b, 0, none⟩) (ks.length + 1) c) ∧ w1.frozen? ⟨g, 0, none⟩ = false := by
  have T1 : Turns [m] w w1 := (hwd.mono (by simp)).trans (Turns.of_grown hg) (fun x hx => .inl (by simpa using hx))
  have e1 : w1.heap[g]? = some (.cells #[.slice (some ⟨b, 0, none⟩) (ks.length + 1) c, .map (some m)] I.tT (0, 0)) := (T1.block g h.g_lt (by simpa using h.g_ne_m)).trans h.blk
  have T2 : Turns [g, m] w (w1.drew.setCell ⟨g, 0, none⟩ (.slice (some ⟨b, 0, none⟩) ks.length c)) := ((T1.mono (by simp)).drew).setCell (.inl (by simp)) _
  have T3 : Turns [g] w1.drew (w1.drew.setCell ⟨g, 0, none⟩ (.slice (some ⟨b, 0, none⟩) ks.length c)) := (Turns.refl _ _).setCell (.inl (by simp)) _
  have hbn := h.row_ne (b := b) rfl
  refine ⟨⟨?_, ?_, ?_, h.gb, h.mb⟩, T2, cell_of_row w1 g 0 _ _ _ e1, by simp [World.frozen?, e1]⟩
  · have : w1.drew.heap[g]? = w1.heap[g]? := rfl
    simp [World.setCell, Array.getElem?_modify, this, e1]
  · have ho := h.own
    have ho1 := ownsRow_turns ho T2 (fun b' hb' => by
      have : b = b' := by simpa [Value.ownBlock] using hb'
      subst this
      simp [hbn.1, hbn.2.1])
    rw [List.flatMap_append, List.length_append] at ho1
    simp only [List.length_cons, List.length_nil, Nat.zero_add] at ho1
    exact ownsRow_pop (flat_len ks) ho1
  · refine (hm.of_block ?_)
    have hmg : m ∉ [g] := by simpa using fun e => h.g_ne_m e.symm
    exact (T3.block m hm.lt hmg)
end
/-- How many keys the struct in block g tells of. -/
def keyCount (w : World) (g : Nat) : Nat := match w.cell? ⟨g, 0, none⟩ with | some (.slice _ n _) => n | _ => 0

end Go.Proofs.Ytblonickpmogiaa
