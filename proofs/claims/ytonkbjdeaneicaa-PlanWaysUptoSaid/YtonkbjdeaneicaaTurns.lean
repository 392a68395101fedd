/- 'Turns S w w'': of what was there only the blocks of S may have turned. Over any program. -/
import Derived.WalkKit
import Derived.Below
import Derived.Deep.Draws
import Derived.Deep.AppendLies
namespace Go.Proofs.Ytonkbjdeaneicaa
open Go.RowKit

structure Turns (S : List Nat) (w w' : World) : Prop where
  os : w'.os = w.os
  tape : w'.tape = w.tape
  output : w'.output = w.output
  size : w.heap.size ≤ w'.heap.size
  block : ∀ k, k < w.heap.size → k ∉ S → w'.heap[k]? = w.heap[k]?

theorem Turns.refl (S : List Nat) (w : World) : Turns S w w := ⟨rfl, rfl, rfl, Nat.le_refl _, fun _ _ _ => rfl⟩
theorem Turns.mono {S S' : List Nat} {w w' : World} (h : Turns S w w') (hs : ∀ k ∈ S, k ∈ S') : Turns S' w w' :=
  ⟨h.os, h.tape, h.output, h.size, fun k hk hn => h.block k hk (fun hi => hn (hs k hi))⟩
/-- Two steps; the second's blocks are the first's, or are new. -/
theorem Turns.trans {S S' : List Nat} {a b c : World} (h : Turns S a b) (k : Turns S' b c) (hs : ∀ x ∈ S', x ∈ S ∨ a.heap.size ≤ x) : Turns S a c :=
  ⟨k.os.trans h.os, k.tape.trans h.tape, k.output.trans h.output, Nat.le_trans h.size k.size, fun i hi hn =>
    (k.block i (Nat.lt_of_lt_of_le hi h.size) (fun hm => by rcases hs i hm with h1 | h1; exact hn h1; omega)).trans (h.block i hi hn)⟩
theorem Turns.of_below {S : List Nat} {w w' : World} (h : Below w.heap.size w w') : Turns S w w' := ⟨h.os, h.tape, h.output, h.size, fun k hk _ => h.block k hk⟩
theorem Turns.below {S : List Nat} {B : Nat} {w w' : World} (h : Turns S w w') (hB : B ≤ w.heap.size) (hs : ∀ x ∈ S, B ≤ x) : Below B w w' :=
  ⟨h.os, h.tape, h.output, h.size, fun k hk => h.block k (by omega) (fun hm => by have := hs k hm; omega)⟩
theorem Turns.of_grown {w w' : World} {row : Option Nat} (h : w.grownBy w' row) : Turns row.toList w w' :=
  ⟨h.os, h.tape, h.output, h.size, fun k hk hn => h.block k hk (fun e => hn (by rw [← e]; simp))⟩
theorem Turns.drewN {S : List Nat} {a w : World} (h : Turns S a w) (n : Nat) : Turns S a (w.drewN n) := ⟨h.os, h.tape, h.output, h.size, h.block⟩
theorem Turns.drew {S : List Nat} {a w : World} (h : Turns S a w) : Turns S a w.drew := ⟨h.os, h.tape, h.output, h.size, h.block⟩
theorem Turns.alloc {S : List Nat} {a w : World} (h : Turns S a w) (o : Obj) : Turns S a (w.alloc o) :=
  h.trans (S' := []) (.of_below ((Below.refl _ _).alloc (Nat.le_refl _) o)) (fun x hx => by simp at hx)
theorem Turns.setCell {S : List Nat} {a w : World} (h : Turns S a w) {p : Addr} (hp : p.block ∈ S ∨ a.heap.size ≤ p.block) (u : Value) : Turns S a (w.setCell p u) :=
  h.trans (S' := [p.block]) ⟨rfl, rfl, rfl, by simp [World.setCell], fun k _ hn => Below.heap_setCell _ _ _ _ (by simpa using hn)⟩ (fun x hx => by rw [List.mem_singleton.1 hx]; exact hp)
theorem Turns.cell {S : List Nat} {w w' : World} (h : Turns S w w') {b o : Nat} (hb : b < w.heap.size) (hs : b ∉ S) : w'.cell? ⟨b, o, none⟩ = w.cell? ⟨b, o, none⟩ :=
  World.cell?_of_block (a := ⟨b, o, none⟩) (h.block b hb hs)

/-- A row of the call's own stays, where its block does not turn. -/
theorem ownsRow_turns {S : List Nat} {w w' : World} {base : Nat} {e : TypeId} {size : Nat} {v : Value} {n : Nat} {xs : List Value} (h : w.ownsRow base e size v n xs) (ht : Turns S w w') (hs : ∀ b, v.ownBlock = some b → b ∉ S) : w'.ownsRow base e size v n xs := by
  obtain ⟨h1, h2⟩ := h
  refine ⟨h1, ?_⟩
  rcases h2 with h2 | ⟨g, cap, cur, hv, hg, hh, r⟩
  · exact Or.inl h2
  · have hlt : g < w.heap.size := by
      rcases Nat.lt_or_ge g w.heap.size with h | h
      · exact h
      · rw [Array.getElem?_eq_none h] at hh; cases hh
    exact Or.inr ⟨g, cap, cur, hv, hg, by rw [ht.block g hlt (hs g (by rw [hv]; rfl))]; exact hh, r⟩
/-- The block of an owned row is there, and is of its element's type. -/
theorem ownBlock_cells {w : World} {base : Nat} {e : TypeId} {size : Nat} {v : Value} {n : Nat} {xs : List Value} (h : w.ownsRow base e size v n xs) {b : Nat} (hb : v.ownBlock = some b) :
    base ≤ b ∧ b < w.heap.size ∧ ∃ cur, w.heap[b]? = some (.cells cur e (0, 0)) := by
  rcases h.2 with ⟨rfl, _⟩ | ⟨g, cap, cur, rfl, hg, hh, _⟩
  · simp [Value.ownBlock] at hb
  · have : g = b := by simpa [Value.ownBlock] using hb
    subst this
    refine ⟨hg, ?_, cur, hh⟩
    rcases Nat.lt_or_ge g w.heap.size with h | h
    · exact h
    · rw [Array.getElem?_eq_none h] at hh; cases hh
theorem lt_of_heap {w : World} {b : Nat} {o : Obj} (h : w.heap[b]? = some o) : b < w.heap.size := by
  rcases Nat.lt_or_ge b w.heap.size with h1 | h1
  · exact h1
  · rw [Array.getElem?_eq_none h1] at h; cases h
end Go.Proofs.Ytonkbjdeaneicaa
