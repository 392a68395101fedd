/- The law AgendaOrderless in plain words: made acts, changes, what is left. Over any program. The agenda's calls in plain words. Over any program. 'Turns S w w'': of what was there only the blocks of S may have turned. Over any program. -/
import Derived.Test.YtjgigcnjgblekaaDoorKap05
import Derived.Below
import Derived.Deep.AppendLies
import Derived.Deep.Draws
import Derived.WalkKit
namespace Go.Proofs.YtjgigcnjgblekaaDoor
open Go Go.RowKit Classical

/-- k modulo n, from 0 on. -/
def modZ (k n : Int) : Int := k % n
theorem modZ_rng {k n : Int} (h : 0 < n) : 0 ≤ modZ k n ∧ modZ k n < n := ⟨Int.emod_nonneg _ (by omega), Int.emod_lt_of_pos _ h⟩
/-- The act that is made of any. -/
def madeSub (x : Ac) (k : Nat) : List Int := (List.range k).map fun i => modZ (x.sub.getD i 0) 4
def madeA (x : Ac) : Ac := ⟨modZ x.rule 3, madeSub x (modZ x.rule 3).toNat⟩
theorem madeSub_succ (x : Ac) (k : Nat) : madeSub x (k + 1) = madeSub x k ++ [modZ (x.sub.getD k 0) 4] := by simp [madeSub, List.range_succ]
theorem made_own {g : Agd} (h1 : 3 ≤ g.lv.length) (h2 : g.cs.length = 4) (x : Ac) : ownA g (madeA x) := by
  have h3 := modZ_rng (k := x.rule) (n := 3) (by omega)
  refine ⟨⟨h3.1, by show modZ x.rule 3 < _; omega⟩, fun i hi => ?_⟩
  obtain ⟨j, _, rfl⟩ := List.mem_map.1 (show i ∈ madeSub x _ from hi)
  have h4 := modZ_rng (k := x.sub.getD j 0) (n := 4) (by omega)
  exact ⟨h4.1, by rw [h2]; exact h4.2⟩
/-- An act comes: where it is not there yet. -/
noncomputable def addA (C : List Ac) (a : Ac) : List Ac := if a ∈ C then C else C ++ [a]
noncomputable def dropA (C : List Ac) (a : Ac) : List Ac := C.filter fun b => decide (b ≠ a)
theorem nod_snoc {C : List Ac} {a : Ac} (h : C.Nodup) (ha : a ∉ C) : (C ++ [a]).Nodup := by
  rw [List.nodup_append]
  exact ⟨h, by simp, fun b hb c hc e => ha (by rw [List.mem_singleton.1 hc] at e; rw [← e]; exact hb)⟩
theorem addA_nod {C : List Ac} (h : C.Nodup) (a : Ac) : (addA C a).Nodup := by
  unfold addA
  by_cases ha : a ∈ C
  · rw [if_pos ha]; exact h
  · rw [if_neg ha]; exact nod_snoc h ha
theorem dropA_nod {C : List Ac} (h : C.Nodup) (a : Ac) : (dropA C a).Nodup := h.filter _
theorem dropA_mem {C : List Ac} {a b : Ac} : b ∈ dropA C a ↔ b ∈ C ∧ b ≠ a := by simp [dropA]
theorem AgOk.add {g : Agd} (h : AgOk g) {a : Ac} (ho : ownA g a) (ha : a ∉ g.C) : AgOk { g with C := g.C ++ [a] } :=
  ⟨h.lv, fun b hb => by
    rcases List.mem_append.1 hb with hb | hb
    · exact h.ownC b hb
    · rw [List.mem_singleton.1 hb]; exact ho, h.ownD, nod_snoc h.nodC ha, h.nodD⟩
theorem AgOk.drop {g : Agd} (h : AgOk g) (a : Ac) : AgOk { g with C := dropA g.C a } :=
  ⟨h.lv, fun b hb => h.ownC b (dropA_mem.1 hb).1, h.ownD, dropA_nod h.nodC a, h.nodD⟩
theorem AgOk.fire {g : Agd} (h : AgOk g) {a : Ac} (ho : ownA g a) (ha : a ∉ g.D) : AgOk { g with D := g.D ++ [a] } :=
  ⟨h.lv, h.ownC, fun b hb => by
    rcases List.mem_append.1 hb with hb | hb
    · exact h.ownD b hb
    · rw [List.mem_singleton.1 hb]; exact ho, h.nodC, nod_snoc h.nodD ha⟩
/-- All taken out again: nothing is left. -/
theorem drop_all : ∀ (l C : List Ac), (∀ a ∈ C, a ∈ l) → l.foldl dropA C = []
  | [], C, h => by
    cases C with
    | nil => rfl
    | cons a r => exact absurd (h a (List.mem_cons_self ..)) (by simp)
  | a :: l, C, h => drop_all l (dropA C a) (fun b hb => by
      obtain ⟨h1, h2⟩ := dropA_mem.1 hb
      rcases List.mem_cons.1 (h b h1) with e | e
      · exact absurd e h2
      · exact e)
theorem drop_mem : ∀ (l C : List Ac) (b : Ac), b ∈ l.foldl dropA C ↔ b ∈ C ∧ b ∉ l
  | [], C, b => by simp
  | a :: l, C, b => by
    rw [List.foldl_cons, drop_mem l (dropA C a) b, dropA_mem]
    simp only [List.mem_cons, not_or]
    exact ⟨fun ⟨⟨h1, h2⟩, h3⟩ => ⟨h1, h2, h3⟩, fun ⟨h1, h2, h3⟩ => ⟨⟨h1, h2⟩, h3⟩⟩
/-- What may fire: some just if something is open. -/
theorem elig_ne {g : Agd} (h : AgOk g) : eligA g = [] ↔ openA g = [] := by
  unfold eligA
  constructor
  · intro e
    have e2 : (openA g).filter (fun a => decide (lvl g.lv a = strA g)) = [] := by
      have := (sortA_perm g.cs ((openA g).filter fun a => decide (lvl g.lv a = strA g))).length_eq
      rw [e] at this
      exact List.eq_nil_of_length_eq_zero this.symm
    rcases strL_low (lvl_pos h) (openA g) with ⟨h1, _⟩ | ⟨⟨a, ha, h2⟩, _⟩
    · exact h1
    · have h3 : a ∈ (openA g).filter (fun a => decide (lvl g.lv a = strA g)) := List.mem_filter.2 ⟨ha, decide_eq_true h2⟩
      rw [e2] at h3
      cases h3
  · intro e
    rw [e]
    simp [sortA]
theorem str_none {g : Agd} (h : AgOk g) : strA g = -1 ↔ openA g = [] := by
  constructor
  · intro e
    rcases strL_low (lvl_pos h) (openA g) with ⟨h1, _⟩ | ⟨⟨a, ha, h2⟩, _⟩
    · exact h1
    · have := lvl_pos h a
      unfold strA at e
      omega
  · intro e
    unfold strA
    rw [e]
    rfl
theorem open_noD {g : Agd} (h : g.D = []) : openA g = g.C := by
  unfold openA
  rw [h]
  simp
end Go.Proofs.YtjgigcnjgblekaaDoor

namespace Go.Proofs.YtjgigcnjgblekaaDoor
open Go Go.RowKit Classical

/-- One change: the error, what is left. -/
noncomputable def chgF (g : Agd) (came : Bool) (a : Ac) : Int × Agd :=
  if ¬ ownA g a then (2, g)
  else if came = true then (if a ∈ g.C then (51, g) else (0, { g with C := g.C ++ [a] }))
  else if a ∈ g.C then (0, { g with C := dropA g.C a }) else (50, g)
/-- Changes, up to the first that may not be. -/
noncomputable def appF : Agd → List (Bool × Ac) → Nat → Nat × Int × Agd
  | g, [], n => (n, 0, g)
  | g, x :: r, n => if (chgF g x.1 x.2).1 = 0 then appF (chgF g x.1 x.2).2 r (n + 1) else (n, (chgF g x.1 x.2).1, g)
/-- An act fires. -/
noncomputable def fireF (g : Agd) (a : Ac) : Int × Agd :=
  if ¬ ownA g a then (2, g) else if a ∈ g.D then (51, g) else if a ∉ g.C then (50, g) else if strA g < lvl g.lv a then (53, g) else (0, { g with D := g.D ++ [a] })
theorem chg_ok {g : Agd} (h : AgOk g) (came : Bool) (a : Ac) : AgOk (chgF g came a).2 := by
  unfold chgF
  by_cases h1 : ownA g a
  · rw [if_neg (by simpa using h1)]
    cases came with
    | true =>
      rw [if_pos rfl]
      by_cases h2 : a ∈ g.C
      · rw [if_pos h2]; exact h
      · rw [if_neg h2]; exact h.add h1 h2
    | false =>
      rw [if_neg (by simp)]
      by_cases h2 : a ∈ g.C
      · rw [if_pos h2]; exact h.drop a
      · rw [if_neg h2]; exact h
  · rw [if_pos h1]; exact h
theorem app_ok : ∀ (l : List (Bool × Ac)) {g : Agd} (n : Nat), AgOk g → AgOk (appF g l n).2.2
  | [], _, _, h => h
  | x :: r, g, n, h => by
    unfold appF
    by_cases h1 : (chgF g x.1 x.2).1 = 0
    · rw [if_pos h1]; exact app_ok r (n + 1) (chg_ok h x.1 x.2)
    · rw [if_neg h1]; exact h
theorem fire_ok {g : Agd} (h : AgOk g) (a : Ac) : AgOk (fireF g a).2 := by
  unfold fireF
  by_cases h1 : ownA g a
  · rw [if_neg (by simpa using h1)]
    by_cases h2 : a ∈ g.D
    · rw [if_pos h2]; exact h
    · rw [if_neg h2]
      by_cases h3 : a ∈ g.C
      · rw [if_neg (by simpa using h3)]
        by_cases h4 : strA g < lvl g.lv a
        · rw [if_pos h4]; exact h
        · rw [if_neg h4]; exact h.fire h1 h2
      · rw [if_pos h3]; exact h
  · rw [if_pos h1]; exact h
/-- Acts that are not there yet, no two alike: all come. -/
theorem app_come : ∀ (l : List Ac) (g : Agd) (n : Nat), (∀ a ∈ l, ownA g a) → l.Nodup → (∀ a ∈ l, a ∉ g.C) → appF g (l.map fun a => (true, a)) n = (n + l.length, 0, { g with C := g.C ++ l })
  | [], g, n, _, _, _ => by simp [appF]
  | a :: l, g, n, ho, hn, hc => by
    rw [List.nodup_cons] at hn
    have e : chgF g true a = (0, { g with C := g.C ++ [a] }) := by
      unfold chgF
      rw [if_neg (by simpa using ho a (List.mem_cons_self ..)), if_pos rfl, if_neg (hc a (List.mem_cons_self ..))]
    simp only [List.map_cons, appF, e, if_true]
    rw [app_come l { g with C := g.C ++ [a] } (n + 1) (fun b hb => ho b (List.mem_cons_of_mem _ hb)) hn.2 (fun b hb hm => by
      rcases List.mem_append.1 hm with hm | hm
      · exact hc b (List.mem_cons_of_mem _ hb) hm
      · rw [List.mem_singleton.1 hm] at hb; exact hn.1 hb)]
    simp only [List.length_cons, List.append_assoc, List.cons_append, List.nil_append]
    congr 1
    omega
/-- Acts that are there, no two alike: all go. -/
theorem app_go : ∀ (l : List Ac) (g : Agd) (n : Nat), (∀ a ∈ l, ownA g a) → l.Nodup → (∀ a ∈ l, a ∈ g.C) → appF g (l.map fun a => (false, a)) n = (n + l.length, 0, { g with C := l.foldl dropA g.C })
  | [], g, n, _, _, _ => by simp [appF]
  | a :: l, g, n, ho, hn, hc => by
    rw [List.nodup_cons] at hn
    have e : chgF g false a = (0, { g with C := dropA g.C a }) := by
      unfold chgF
      rw [if_neg (by simpa using ho a (List.mem_cons_self ..)), if_neg (by simp), if_pos (hc a (List.mem_cons_self ..))]
    simp only [List.map_cons, appF, e, if_true]
    rw [app_go l { g with C := dropA g.C a } (n + 1) (fun b hb => ho b (List.mem_cons_of_mem _ hb)) hn.2 (fun b hb => dropA_mem.2 ⟨hc b (List.mem_cons_of_mem _ hb), fun e => hn.1 (e ▸ hb)⟩)]
    simp only [List.length_cons, List.foldl_cons]
    congr 1
    omega
end Go.Proofs.YtjgigcnjgblekaaDoor

namespace Go.Proofs.YtjgigcnjgblekaaDoor
open Go.RowKit

structure Turns (S : List Nat) (w w' : World) : Prop where
  os : w'.os = w.os
  tape : w'.tape = w.tape
  output : w'.output = w.output
  size : w.heap.size ≤ w'.heap.size
  block : ∀ k, k < w.heap.size → k ∉ S → w'.heap[k]? = w.heap[k]?

theorem Turns.refl (S : List Nat) (w : World) : Turns S w w := ⟨rfl, rfl, rfl, Nat.le_refl _, fun _ _ _ => rfl⟩
theorem Turns.mono {S S' : List Nat} {w w' : World} (h : Turns S w w') (hs : ∀ k ∈ S, k ∈ S') : Turns S' w w' :=
  ⟨h.os, h.tape, h.output, h.size, fun k hk hn => h.block k hk (fun hi => hn (hs k hi))⟩
/-- Two steps; the second's blocks are the first's, or are new. -/
theorem Turns.trans {S S' : List Nat} {a b c : World} (h : Turns S a b) (k : Turns S' b c) (hs : ∀ x ∈ S', x ∈ S ∨ a.heap.size ≤ x) : Turns S a c :=
  ⟨k.os.trans h.os, k.tape.trans h.tape, k.output.trans h.output, Nat.le_trans h.size k.size, fun i hi hn =>
    (k.block i (Nat.lt_of_lt_of_le hi h.size) (fun hm => by rcases hs i hm with h1 | h1; exact hn h1; omega)).trans (h.block i hi hn)⟩
theorem Turns.of_below {S : List Nat} {w w' : World} (h : Below w.heap.size w w') : Turns S w w' := ⟨h.os, h.tape, h.output, h.size, fun k hk _ => h.block k hk⟩
theorem Turns.below {S : List Nat} {B : Nat} {w w' : World} (h : Turns S w w') (hB : B ≤ w.heap.size) (hs : ∀ x ∈ S, B ≤ x) : Below B w w' :=
  ⟨h.os, h.tape, h.output, h.size, fun k hk => h.block k (by omega) (fun hm => by have := hs k hm; omega)⟩
theorem Turns.of_grown {w w' : World} {row : Option Nat} (h : w.grownBy w' row) : Turns row.toList w w' :=
  ⟨h.os, h.tape, h.output, h.size, fun k hk hn => h.block k hk (fun e => hn (by rw [← e]; simp))⟩
theorem Turns.drewN {S : List Nat} {a w : World} (h : Turns S a w) (n : Nat) : Turns S a (w.drewN n) := ⟨h.os, h.tape, h.output, h.size, h.block⟩
theorem Turns.drew {S : List Nat} {a w : World} (h : Turns S a w) : Turns S a w.drew := ⟨h.os, h.tape, h.output, h.size, h.block⟩
theorem Turns.alloc {S : List Nat} {a w : World} (h : Turns S a w) (o : Obj) : Turns S a (w.alloc o) :=
  h.trans (S' := []) (.of_below ((Below.refl _ _).alloc (Nat.le_refl _) o)) (fun x hx => by simp at hx)
theorem Turns.setCell {S : List Nat} {a w : World} (h : Turns S a w) {p : Addr} (hp : p.block ∈ S ∨ a.heap.size ≤ p.block) (u : Value) : Turns S a (w.setCell p u) :=
  h.trans (S' := [p.block]) ⟨rfl, rfl, rfl, by simp [World.setCell], fun k _ hn => Below.heap_setCell _ _ _ _ (by simpa using hn)⟩ (fun x hx => by rw [List.mem_singleton.1 hx]; exact hp)
theorem Turns.cell {S : List Nat} {w w' : World} (h : Turns S w w') {b o : Nat} (hb : b < w.heap.size) (hs : b ∉ S) : w'.cell? ⟨b, o, none⟩ = w.cell? ⟨b, o, none⟩ :=
  World.cell?_of_block (a := ⟨b, o, none⟩) (h.block b hb hs)

/-- A row of the call's own stays, where its block does not turn. -/
theorem ownsRow_turns {S : List Nat} {w w' : World} {base : Nat} {e : TypeId} {size : Nat} {v : Value} {n : Nat} {xs : List Value} (h : w.ownsRow base e size v n xs) (ht : Turns S w w') (hs : ∀ b, v.ownBlock = some b → b ∉ S) : w'.ownsRow base e size v n xs := by
  obtain ⟨h1, h2⟩ := h
  refine ⟨h1, ?_⟩
  rcases h2 with h2 | ⟨g, cap, cur, hv, hg, hh, r⟩
  · exact Or.inl h2
  · have hlt : g < w.heap.size := by
      rcases Nat.lt_or_ge g w.heap.size with h | h
      · exact h
      · rw [Array.getElem?_eq_none h] at hh; cases hh
    exact Or.inr ⟨g, cap, cur, hv, hg, by rw [ht.block g hlt (hs g (by rw [hv]; rfl))]; exact hh, r⟩
/-- The block of an owned row is there, and is of its element's type. -/
theorem ownBlock_cells {w : World} {base : Nat} {e : TypeId} {size : Nat} {v : Value} {n : Nat} {xs : List Value} (h : w.ownsRow base e size v n xs) {b : Nat} (hb : v.ownBlock = some b) :
    base ≤ b ∧ b < w.heap.size ∧ ∃ cur, w.heap[b]? = some (.cells cur e (0, 0)) := by
  rcases h.2 with ⟨rfl, _⟩ | ⟨g, cap, cur, rfl, hg, hh, _⟩
  · simp [Value.ownBlock] at hb
  · have : g = b := by simpa [Value.ownBlock] using hb
    subst this
    refine ⟨hg, ?_, cur, hh⟩
    rcases Nat.lt_or_ge g w.heap.size with h | h
    · exact h
    · rw [Array.getElem?_eq_none h] at hh; cases hh
theorem lt_of_heap {w : World} {b : Nat} {o : Obj} (h : w.heap[b]? = some o) : b < w.heap.size := by
  rcases Nat.lt_or_ge b w.heap.size with h1 | h1
  · exact h1
  · rw [Array.getElem?_eq_none h1] at h; cases h
end Go.Proofs.YtjgigcnjgblekaaDoor
