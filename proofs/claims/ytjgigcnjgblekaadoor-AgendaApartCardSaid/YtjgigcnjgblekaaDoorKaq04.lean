/- 'Turns S w w'': of what was there only the blocks of S may have turned. Over any program. Plans, in plain Lean: what Compile makes of rules. No program in sight. Words for data with depth that are read: slices of structs with slices in them; their blocks stay. Over any program. -/
import Derived.Below
import Derived.Deep.AppendLies
import Derived.Deep.Draws
import Derived.WalkKit
namespace Go.Proofs.YtjgigcnjgblekaaDoor
open Go.RowKit

structure Turns (S : List Nat) (w w' : World) : Prop where
  os : w'.os = w.os
  tape : w'.tape = w.tape
  output : w'.output = w.output
  size : w.heap.size ≤ w'.heap.size
  block : ∀ k, k < w.heap.size → k ∉ S → w'.heap[k]? = w.heap[k]?

theorem Turns.refl (S : List Nat) (w : World) : Turns S w w := ⟨rfl, rfl, rfl, Nat.le_refl _, fun _ _ _ => rfl⟩
theorem Turns.mono {S S' : List Nat} {w w' : World} (h : Turns S w w') (hs : ∀ k ∈ S, k ∈ S') : Turns S' w w' :=
  ⟨h.os, h.tape, h.output, h.size, fun k hk hn => h.block k hk (fun hi => hn (hs k hi))⟩
/-- Two steps; the second's blocks are the first's, or are new. -/
theorem Turns.trans {S S' : List Nat} {a b c : World} (h : Turns S a b) (k : Turns S' b c) (hs : ∀ x ∈ S', x ∈ S ∨ a.heap.size ≤ x) : Turns S a c :=
  ⟨k.os.trans h.os, k.tape.trans h.tape, k.output.trans h.output, Nat.le_trans h.size k.size, fun i hi hn =>
    (k.block i (Nat.lt_of_lt_of_le hi h.size) (fun hm => by rcases hs i hm with h1 | h1; exact hn h1; omega)).trans (h.block i hi hn)⟩
theorem Turns.of_below {S : List Nat} {w w' : World} (h : Below w.heap.size w w') : Turns S w w' := ⟨h.os, h.tape, h.output, h.size, fun k hk _ => h.block k hk⟩
theorem Turns.below {S : List Nat} {B : Nat} {w w' : World} (h : Turns S w w') (hB : B ≤ w.heap.size) (hs : ∀ x ∈ S, B ≤ x) : Below B w w' :=
  ⟨h.os, h.tape, h.output, h.size, fun k hk => h.block k (by omega) (fun hm => by have := hs k hm; omega)⟩
theorem Turns.of_grown {w w' : World} {row : Option Nat} (h : w.grownBy w' row) : Turns row.toList w w' :=
  ⟨h.os, h.tape, h.output, h.size, fun k hk hn => h.block k hk (fun e => hn (by rw [← e]; simp))⟩
theorem Turns.drewN {S : List Nat} {a w : World} (h : Turns S a w) (n : Nat) : Turns S a (w.drewN n) := ⟨h.os, h.tape, h.output, h.size, h.block⟩
theorem Turns.drew {S : List Nat} {a w : World} (h : Turns S a w) : Turns S a w.drew := ⟨h.os, h.tape, h.output, h.size, h.block⟩
theorem Turns.alloc {S : List Nat} {a w : World} (h : Turns S a w) (o : Obj) : Turns S a (w.alloc o) :=
  h.trans (S' := []) (.of_below ((Below.refl _ _).alloc (Nat.le_refl _) o)) (fun x hx => by simp at hx)
theorem Turns.setCell {S : List Nat} {a w : World} (h : Turns S a w) {p : Addr} (hp : p.block ∈ S ∨ a.heap.size ≤ p.block) (u : Value) : Turns S a (w.setCell p u) :=
  h.trans (S' := [p.block]) ⟨rfl, rfl, rfl, by simp [World.setCell], fun k _ hn => Below.heap_setCell _ _ _ _ (by simpa using hn)⟩ (fun x hx => by rw [List.mem_singleton.1 hx]; exact hp)
theorem Turns.cell {S : List Nat} {w w' : World} (h : Turns S w w') {b o : Nat} (hb : b < w.heap.size) (hs : b ∉ S) : w'.cell? ⟨b, o, none⟩ = w.cell? ⟨b, o, none⟩ :=
  World.cell?_of_block (a := ⟨b, o, none⟩) (h.block b hb hs)

/-- A row of the call's own stays, where its block does not turn. -/
theorem ownsRow_turns {S : List Nat} {w w' : World} {base : Nat} {e : TypeId} {size : Nat} {v : Value} {n : Nat} {xs : List Value} (h : w.ownsRow base e size v n xs) (ht : Turns S w w') (hs : ∀ b, v.ownBlock = some b → b ∉ S) : w'.ownsRow base e size v n xs := by
  obtain ⟨h1, h2⟩ := h
  refine ⟨h1, ?_⟩
  rcases h2 with h2 | ⟨g, cap, cur, hv, hg, hh, r⟩
  · exact Or.inl h2
  · have hlt : g < w.heap.size := by
      rcases Nat.lt_or_ge g w.heap.size with h | h
      · exact h
      · rw [Array.getElem?_eq_none h] at hh; cases hh
    exact Or.inr ⟨g, cap, cur, hv, hg, by rw [ht.block g hlt (hs g (by rw [hv]; rfl))]; exact hh, r⟩
/-- The block of an owned row is there, and is of its element's type. -/
theorem ownBlock_cells {w : World} {base : Nat} {e : TypeId} {size : Nat} {v : Value} {n : Nat} {xs : List Value} (h : w.ownsRow base e size v n xs) {b : Nat} (hb : v.ownBlock = some b) :
    base ≤ b ∧ b < w.heap.size ∧ ∃ cur, w.heap[b]? = some (.cells cur e (0, 0)) := by
  rcases h.2 with ⟨rfl, _⟩ | ⟨g, cap, cur, rfl, hg, hh, _⟩
  · simp [Value.ownBlock] at hb
  · have : g = b := by simpa [Value.ownBlock] using hb
    subst this
    refine ⟨hg, ?_, cur, hh⟩
    rcases Nat.lt_or_ge g w.heap.size with h | h
    · exact h
    · rw [Array.getElem?_eq_none h] at hh; cases hh
theorem lt_of_heap {w : World} {b : Nat} {o : Obj} (h : w.heap[b]? = some o) : b < w.heap.size := by
  rcases Nat.lt_or_ge b w.heap.size with h1 | h1
  · exact h1
  · rw [Array.getElem?_eq_none h1] at h; cases h
end Go.Proofs.YtjgigcnjgblekaaDoor

namespace Go.Proofs.YtjgigcnjgblekaaDoor.Pln
open Classical

/-- A slot: a variable's number, or a constant's id. -/
structure Slt where
  v : Bool
  n : Int
structure Pat where
  pred : Int
  args : List Slt
structure Tst where
  op : Int
  l : Slt
  r : Slt
/-- A rule. -/
structure Rl where
  head : Pat
  pos : List Pat
  tests : List Tst
  neg : List Pat
  vars : List ByteArray
  clause : Int
structure Shp where
  pred : Int
  cells : List Int
structure Nd where
  kind : Int
  parent : Int
  alpha : Int
  links : List (Int × Int)
  new : List Int
  test : Tst
  width : Int
/-- A condition: of kind 1 (an atom), 2 (a test), 3 (a negated atom). -/
structure Cnd where
  kind : Int
  p : Pat
  t : Tst

def noSlt : Slt := ⟨false, 0⟩
def noTst : Tst := ⟨0, noSlt, noSlt⟩
def noPat : Pat := ⟨0, []⟩
def rootN : Nd := ⟨0, -1, -1, [], [], noTst, 0⟩
def conds (r : Rl) : List Cnd := r.pos.map (fun p => ⟨1, p, noTst⟩) ++ r.tests.map (fun t => ⟨2, noPat, t⟩) ++ r.neg.map (fun p => ⟨3, p, noTst⟩)

/-- The first place that holds the variable n. -/
def firstV : List Slt → Int → Nat
  | [], _ => 0
  | s :: r, n => if s.v = true ∧ s.n = n then 0 else firstV r n + 1
/-- A place's cell. -/
def cellF (args : List Slt) (s : Slt) : Int := if s.v = true then -1 - (firstV args s.n : Int) else s.n
def shapeF (p : Pat) : Shp := ⟨p.pred, p.args.map (cellF p.args)⟩

/-- The links of the first k places, under which w variables are bound; the new ones. -/
noncomputable def linkAt (args : List Slt) (w : Int) (i : Nat) : List (Int × Int) := match args[i]? with
  | some s => if s.v = true ∧ firstV args s.n = i ∧ s.n < w then [((i : Int), s.n)] else []
  | none => []
noncomputable def newAt (args : List Slt) (w : Int) (i : Nat) : List Int := match args[i]? with
  | some s => if s.v = true ∧ firstV args s.n = i ∧ ¬ s.n < w then [(i : Int)] else []
  | none => []
noncomputable def linksK (args : List Slt) (w : Int) (k : Nat) : List (Int × Int) := (List.range k).flatMap (linkAt args w)
noncomputable def newK (args : List Slt) (w : Int) (k : Nat) : List Int := (List.range k).flatMap (newAt args w)
theorem linksK_zero (args : List Slt) (w : Int) : linksK args w 0 = [] := rfl
theorem newK_zero (args : List Slt) (w : Int) : newK args w 0 = [] := rfl
theorem linksK_succ (args : List Slt) (w : Int) (k : Nat) : linksK args w (k + 1) = linksK args w k ++ linkAt args w k := by
  unfold linksK; rw [List.range_succ, List.flatMap_append]; simp
theorem newK_succ (args : List Slt) (w : Int) (k : Nat) : newK args w (k + 1) = newK args w k ++ newAt args w k := by
  unfold newK; rw [List.range_succ, List.flatMap_append]; simp

/-- The first place of x, or the end. -/
noncomputable def placeF {α : Type} : List α → α → Nat
  | [], _ => 0
  | y :: r, x => if y = x then 0 else placeF r x + 1
theorem placeF_lt {α : Type} {l : List α} {x : α} (h : x ∈ l) : placeF l x < l.length ∧ l[placeF l x]? = some x := by
  induction l with
  | nil => cases h
  | cons y r ih =>
    unfold placeF
    by_cases hy : y = x
    · rw [if_pos hy]
      exact ⟨by simp, by simp [hy]⟩
    · rw [if_neg hy]
      rcases List.mem_cons.1 h with h | h
      · exact absurd h.symm hy
      · obtain ⟨h1, h2⟩ := ih h
        exact ⟨by simp; omega, by simpa using h2⟩
theorem placeF_first {α : Type} {l : List α} {x : α} : ∀ j, j < placeF l x → l[j]? ≠ some x := by
  induction l with
  | nil => intro j h; simp
  | cons y r ih =>
    intro j h
    unfold placeF at h
    by_cases hy : y = x
    · rw [if_pos hy] at h; omega
    · rw [if_neg hy] at h
      match j with
      | 0 => simpa using hy
      | j + 1 => simpa using ih j (by omega)
theorem placeF_none {α : Type} {l : List α} {x : α} (h : x ∉ l) : placeF l x = l.length := by
  induction l with
  | nil => rfl
  | cons y r ih =>
    unfold placeF
    rw [if_neg (fun e => h (by simp [e])), ih (fun hm => h (by simp [hm]))]
    rfl
theorem placeF_at {α : Type} {l : List α} {x : α} {i : Nat} (h : l[i]? = some x) (hf : ∀ j, j < i → l[j]? ≠ some x) : placeF l x = i := by
  have hm : x ∈ l := List.mem_of_getElem? h
  have h2 := (placeF_lt hm).2
  rcases Nat.lt_trichotomy (placeF l x) i with h3 | h3 | h3
  · exact absurd h2 (hf _ h3)
  · exact h3
  · exact absurd h (placeF_first i h3)
theorem placeF_app {α : Type} {l r : List α} {x : α} (h : x ∈ l) : placeF (l ++ r) x = placeF l x := by
  obtain ⟨h1, h2⟩ := placeF_lt h
  refine placeF_at (by rw [List.getElem?_append_left h1]; exact h2) (fun j hj => ?_)
  rw [List.getElem?_append_left (by omega)]
  exact placeF_first j hj
theorem placeF_inj {α : Type} {l : List α} {x y : α} (hx : x ∈ l) (hy : y ∈ l) (h : placeF l x = placeF l y) : x = y := by
  have h1 := (placeF_lt hx).2
  have h2 := (placeF_lt hy).2
  rw [h] at h1
  exact Option.some.inj (h1.symm.trans h2)
/-- The list with x, at its end where it is not there. -/
noncomputable def addF {α : Type} (l : List α) (x : α) : List α := if x ∈ l then l else l ++ [x]
theorem addF_mem {α : Type} (l : List α) (x : α) : x ∈ addF l x := by
  unfold addF
  by_cases h : x ∈ l
  · rw [if_pos h]; exact h
  · rw [if_neg h]; simp
theorem addF_place {α : Type} (l : List α) (x : α) : placeF (addF l x) x = placeF l x := by
  unfold addF
  by_cases h : x ∈ l
  · rw [if_pos h]
  · rw [if_neg h, placeF_none h]
    exact placeF_at (by simp) (fun j hj he => h (by rw [List.getElem?_append_left hj] at he; exact List.mem_of_getElem? he))
theorem addF_at {α : Type} (l : List α) (x : α) : (addF l x)[placeF l x]? = some x := by
  rw [← addF_place]; exact (placeF_lt (addF_mem l x)).2
theorem addF_pre {α : Type} (l : List α) (x : α) : ∃ r, addF l x = l ++ r ∧ r.length ≤ 1 := by
  unfold addF
  by_cases h : x ∈ l
  · rw [if_pos h]; exact ⟨[], by simp, by simp⟩
  · rw [if_neg h]; exact ⟨[x], rfl, by simp⟩
theorem addF_nodup {α : Type} {l : List α} {x : α} (h : l.Nodup) : (addF l x).Nodup := by
  unfold addF
  by_cases hx : x ∈ l
  · rw [if_pos hx]; exact h
  · rw [if_neg hx]
    exact List.nodup_append.2 ⟨h, by simp, by intro a ha b hb; rw [List.mem_singleton.1 hb]; rintro rfl; exact hx ha⟩

/-- A plan on its way: shapes and nodes. -/
structure St where
  al : List Shp
  ns : List Nd
def widthAt (st : St) (u : Nat) : Int := match st.ns[u]? with | some n => n.width | none => 0
/-- The node of a pattern below u. -/
noncomputable def nodeOf (st : St) (kind : Int) (u : Nat) (p : Pat) : Nd :=
  ⟨kind, u, (placeF st.al (shapeF p) : Int), linksK p.args (widthAt st u) p.args.length, newK p.args (widthAt st u) p.args.length, noTst, widthAt st u + (newK p.args (widthAt st u) p.args.length).length⟩
noncomputable def patF (kind : Int) (x : Nat × St) (p : Pat) : Nat × St :=
  (placeF x.2.ns (nodeOf x.2 kind x.1 p), ⟨addF x.2.al (shapeF p), addF x.2.ns (nodeOf x.2 kind x.1 p)⟩)
def testOf (st : St) (u : Nat) (t : Tst) : Nd := ⟨2, u, -1, [], [], t, widthAt st u⟩
noncomputable def tstF (x : Nat × St) (t : Tst) : Nat × St := (placeF x.2.ns (testOf x.2 x.1 t), ⟨x.2.al, addF x.2.ns (testOf x.2 x.1 t)⟩)
/-- A rule's way. -/
noncomputable def ruleF (st : St) (r : Rl) : Nat × St := r.neg.foldl (patF 3) (r.tests.foldl tstF (r.pos.foldl (patF 1) (0, st)))
noncomputable def endF (x : St × List Nat) (r : Rl) : St × List Nat := ((ruleF x.1 r).2, x.2 ++ [(ruleF x.1 r).1])
/-- All rules' ways. -/
noncomputable def compF (rs : List Rl) : St × List Nat := rs.foldl endF (⟨[], [rootN]⟩, [])

/-- One condition. -/
noncomputable def nodeC (st : St) (u : Nat) (c : Cnd) : Nd := if c.kind = 2 then testOf st u c.t else nodeOf st c.kind u c.p
noncomputable def stepF (x : Nat × St) (c : Cnd) : Nat × St := if c.kind = 2 then tstF x c.t else patF c.kind x c.p
theorem ruleF_conds (st : St) (r : Rl) : ruleF st r = (conds r).foldl stepF (0, st) := by
  unfold ruleF conds
  rw [List.foldl_append, List.foldl_append, List.foldl_map, List.foldl_map, List.foldl_map]
  rfl

/-- A later state. -/
def Ext (a b : St) : Prop := (∃ r, b.al = a.al ++ r) ∧ (∃ r, b.ns = a.ns ++ r)
theorem Ext.refl (a : St) : Ext a a := ⟨⟨[], by simp⟩, ⟨[], by simp⟩⟩
theorem Ext.trans {a b c : St} (h : Ext a b) (k : Ext b c) : Ext a c := by
  obtain ⟨⟨r1, h1⟩, ⟨r2, h2⟩⟩ := h
  obtain ⟨⟨r3, h3⟩, ⟨r4, h4⟩⟩ := k
  exact ⟨⟨r1 ++ r3, by rw [h3, h1, List.append_assoc]⟩, ⟨r2 ++ r4, by rw [h4, h2, List.append_assoc]⟩⟩
theorem Ext.ns {a b : St} (h : Ext a b) {i : Nat} (hi : i < a.ns.length) : b.ns[i]? = a.ns[i]? := by
  obtain ⟨_, ⟨r, h⟩⟩ := h
  rw [h, List.getElem?_append_left hi]
theorem Ext.len {a b : St} (h : Ext a b) : a.ns.length ≤ b.ns.length := by
  obtain ⟨_, ⟨r, h⟩⟩ := h
  rw [h]; simp
theorem Ext.width {a b : St} (h : Ext a b) {i : Nat} (hi : i < a.ns.length) : widthAt b i = widthAt a i := by
  unfold widthAt; rw [h.ns hi]
theorem Ext.al {a b : St} (h : Ext a b) {i : Nat} {s : Shp} (hi : a.al[i]? = some s) : b.al[i]? = some s := by
  obtain ⟨⟨r, h⟩, _⟩ := h
  rw [h, List.getElem?_append_left (List.getElem?_eq_some_iff.1 hi).1]; exact hi
theorem ext_patF (kind : Int) (x : Nat × St) (p : Pat) : Ext x.2 (patF kind x p).2 := by
  obtain ⟨r1, h1, _⟩ := addF_pre x.2.al (shapeF p)
  obtain ⟨r2, h2, _⟩ := addF_pre x.2.ns (nodeOf x.2 kind x.1 p)
  exact ⟨⟨r1, h1⟩, ⟨r2, h2⟩⟩
theorem ext_tstF (x : Nat × St) (t : Tst) : Ext x.2 (tstF x t).2 := by
  obtain ⟨r2, h2, _⟩ := addF_pre x.2.ns (testOf x.2 x.1 t)
  exact ⟨⟨[], by simp [tstF]⟩, ⟨r2, h2⟩⟩
theorem ext_stepF (x : Nat × St) (c : Cnd) : Ext x.2 (stepF x c).2 := by
  unfold stepF
  split
  · exact ext_tstF x _
  · exact ext_patF _ x _
theorem ext_fold (cs : List Cnd) : ∀ x : Nat × St, Ext x.2 (cs.foldl stepF x).2 := by
  induction cs with
  | nil => intro x; exact Ext.refl _
  | cons c r ih => intro x; exact (ext_stepF x c).trans (ih _)
theorem ext_endF (x : St × List Nat) (r : Rl) : Ext x.1 (endF x r).1 := by
  unfold endF; rw [ruleF_conds]; exact ext_fold _ _
theorem ext_comp (rs : List Rl) : ∀ x : St × List Nat, Ext x.1 (rs.foldl endF x).1 := by
  induction rs with
  | nil => intro x; exact Ext.refl _
  | cons c r ih => intro x; exact (ext_endF x c).trans (ih _)

/-- A condition's shape stands among the shapes. -/
def Shaped (st : St) (c : Cnd) : Prop := c.kind ≠ 2 → shapeF c.p ∈ st.al
theorem nodeC_ext {a b : St} (h : Ext a b) {u : Nat} (hu : u < a.ns.length) {c : Cnd} (hc : Shaped a c) : nodeC b u c = nodeC a u c := by
  unfold nodeC
  split
  · unfold testOf; rw [h.width hu]
  · rename_i hk
    have hm := hc hk
    have e : placeF b.al (shapeF c.p) = placeF a.al (shapeF c.p) := by
      obtain ⟨⟨r, hr⟩, _⟩ := h
      rw [hr, placeF_app hm]
    unfold nodeOf; rw [h.width hu, e]
/-- What a step does. -/
theorem stepF_facts (x : Nat × St) (c : Cnd) (hu : x.1 < x.2.ns.length) : Shaped (stepF x c).2 c ∧ nodeC (stepF x c).2 x.1 c ∈ (stepF x c).2.ns ∧ (stepF x c).1 = placeF (stepF x c).2.ns (nodeC (stepF x c).2 x.1 c) ∧ (stepF x c).1 < (stepF x c).2.ns.length := by
  have hE := ext_stepF x c
  unfold stepF at hE ⊢
  by_cases hk : c.kind = 2
  · rw [if_pos hk] at hE ⊢
    have e : nodeC (tstF x c.t).2 x.1 c = testOf x.2 x.1 c.t := by
      unfold nodeC; rw [if_pos hk]; unfold testOf; rw [hE.width hu]
    rw [e]
    refine ⟨fun h => absurd hk h, addF_mem _ _, ?_, ?_⟩
    · exact (addF_place _ _).symm
    · have := (placeF_lt (addF_mem x.2.ns (testOf x.2 x.1 c.t))).1
      rw [addF_place] at this
      exact this
  · rw [if_neg hk] at hE ⊢
    have hs : Shaped (patF c.kind x c.p).2 c := fun _ => addF_mem _ _
    have e : nodeC (patF c.kind x c.p).2 x.1 c = nodeOf x.2 c.kind x.1 c.p := by
      unfold nodeC; rw [if_neg hk]
      have e1 : placeF (patF c.kind x c.p).2.al (shapeF c.p) = placeF x.2.al (shapeF c.p) := addF_place _ _
      unfold nodeOf; rw [hE.width hu, e1]
    rw [e]
    refine ⟨hs, addF_mem _ _, ?_, ?_⟩
    · exact (addF_place _ _).symm
    · have := (placeF_lt (addF_mem x.2.ns (nodeOf x.2 c.kind x.1 c.p))).1
      rw [addF_place] at this
      exact this

/-- The way of conditions from u on, read off a state. -/
noncomputable def wayF (st : St) : Nat → List Cnd → List Nat
  | _, [] => []
  | u, c :: r => placeF st.ns (nodeC st u c) :: wayF st (placeF st.ns (nodeC st u c)) r
/-- The conditions' nodes stand in the state. -/
def Stands (st : St) : Nat → List Cnd → Prop
  | _, [] => True
  | u, c :: r => u < st.ns.length ∧ Shaped st c ∧ nodeC st u c ∈ st.ns ∧ Stands st (placeF st.ns (nodeC st u c)) r
theorem stands_ext {a b : St} (h : Ext a b) : ∀ (cs : List Cnd) (u : Nat), Stands a u cs → Stands b u cs ∧ wayF b u cs = wayF a u cs
  | [], _, _ => ⟨trivial, rfl⟩
  | c :: r, u, ⟨hu, hs, hm, hr⟩ => by
    have e := nodeC_ext h hu hs
    have e2 : placeF b.ns (nodeC a u c) = placeF a.ns (nodeC a u c) := by
      obtain ⟨_, ⟨r, h⟩⟩ := h
      rw [h, placeF_app hm]
    obtain ⟨i1, i2⟩ := stands_ext h r _ hr
    refine ⟨⟨Nat.lt_of_lt_of_le hu h.len, fun hk => ?_, ?_, ?_⟩, ?_⟩
    · obtain ⟨⟨r, h⟩, _⟩ := h
      rw [h]; exact List.mem_append_left _ (hs hk)
    · obtain ⟨_, ⟨r, h⟩⟩ := h
      rw [e, h]; exact List.mem_append_left _ hm
    · rw [e, e2]; exact i1
    · simp only [wayF]; rw [e, e2, i2]
theorem stands_fold : ∀ (cs : List Cnd) (x : Nat × St), x.1 < x.2.ns.length → Stands (cs.foldl stepF x).2 x.1 cs ∧ (cs.foldl stepF x).1 = ((wayF (cs.foldl stepF x).2 x.1 cs).getLast?.getD x.1) ∧ (cs.foldl stepF x).1 < (cs.foldl stepF x).2.ns.length
  | [], x, hx => ⟨trivial, rfl, hx⟩
  | c :: r, x, hx => by
    obtain ⟨s1, s2, s3, s4⟩ := stepF_facts x c hx
    have hE := ext_fold r (stepF x c)
    obtain ⟨i1, i2, i3⟩ := stands_fold r (stepF x c) s4
    rw [List.foldl_cons]
    have hx' : x.1 < (stepF x c).2.ns.length := Nat.lt_of_lt_of_le hx (ext_stepF x c).len
    have e := nodeC_ext hE hx' s1
    have e2 : placeF (r.foldl stepF (stepF x c)).2.ns (nodeC (stepF x c).2 x.1 c) = (stepF x c).1 := by
      rw [s3]
      obtain ⟨_, ⟨q, h⟩⟩ := hE
      rw [h, placeF_app s2]
    refine ⟨⟨Nat.lt_of_lt_of_le hx' hE.len, fun hk => ?_, ?_, ?_⟩, ?_, i3⟩
    · obtain ⟨⟨q, h⟩, _⟩ := hE
      rw [h]; exact List.mem_append_left _ (s1 hk)
    · obtain ⟨_, ⟨q, h⟩⟩ := hE
      rw [e, h]; exact List.mem_append_left _ s2
    · rw [e, e2]; exact i1
    · rw [i2]
      simp only [wayF]
      rw [e, e2]
      cases hw : wayF (r.foldl stepF (stepF x c)).2 (stepF x c).1 r with
      | nil => rfl
      | cons a l =>
        rw [List.getLast?_cons_cons]
        cases hl : (a :: l).getLast? with
        | none => simp at hl
        | some z => rfl
end Go.Proofs.YtjgigcnjgblekaaDoor.Pln

namespace Go.Proofs.YtjgigcnjgblekaaDoor
open Go.RowKit

theorem rd_add (b off n : Nat) : (Addr.add ⟨b, off, none⟩ n) = ⟨b, off + n, none⟩ := by
  unfold Addr.add
  by_cases h : n = 0 <;> simp [h]

/-- The cells cs lie in block b from place o on. -/
def CsIn (w : World) (b o : Nat) (cs : List Value) : Prop := ∀ j u, cs[j]? = some u → w.cell? ⟨b, o + j, none⟩ = some u

/-- The blocks of F stay. -/
structure Kp (F : Nat → Prop) (w w' : World) : Prop where
  size : w.heap.size ≤ w'.heap.size
  block : ∀ b, b < w.heap.size → F b → w'.heap[b]? = w.heap[b]?
theorem Kp.refl (F : Nat → Prop) (w : World) : Kp F w w := ⟨Nat.le_refl _, fun _ _ _ => rfl⟩
theorem Kp.trans {F : Nat → Prop} {a b c : World} (h : Kp F a b) (k : Kp F b c) : Kp F a c :=
  ⟨Nat.le_trans h.size k.size, fun i hi hf => (k.block i (Nat.lt_of_lt_of_le hi h.size) hf).trans (h.block i hi hf)⟩
theorem Kp.of_below {F : Nat → Prop} {w w' : World} (h : Below w.heap.size w w') : Kp F w w' := ⟨h.size, fun b hb _ => h.block b hb⟩
theorem Kp.of_turns {F : Nat → Prop} {S : List Nat} {w w' : World} (h : Turns S w w') (hs : ∀ x ∈ S, ¬ F x) : Kp F w w' := ⟨h.size, fun b hb hf => h.block b hb (fun hm => hs b hm hf)⟩
theorem Kp.cell {F : Nat → Prop} {w w' : World} (h : Kp F w w') {b o : Nat} (hb : b < w.heap.size) (hf : F b) : w'.cell? ⟨b, o, none⟩ = w.cell? ⟨b, o, none⟩ :=
  World.cell?_of_block (a := ⟨b, o, none⟩) (h.block b hb hf)
theorem CsIn.kp {F : Nat → Prop} {w w' : World} {b o : Nat} {cs : List Value} (h : CsIn w b o cs) (hk : Kp F w w') (hb : b < w.heap.size) (hf : F b) : CsIn w' b o cs :=
  fun j u hu => (hk.cell hb hf).trans (h j u hu)

section
variable {α : Type}
/-- v is a slice with the elements xs, each of sz cells that say it as E says, in a block of F. -/
def RSl (F : Nat → Prop) (w : World) (sz : Nat) (E : List Value → α → Prop) (v : Value) (xs : List α) : Prop :=
  ∃ A c, v = .slice A xs.length c ∧ xs.length ≤ c ∧ c ≤ maxLen ∧ (A = none → c = 0) ∧ (xs = [] ∨ ∃ b off, A = some ⟨b, off, none⟩ ∧ F b ∧ b < w.heap.size ∧ ∀ i x, xs[i]? = some x → ∃ cs, E cs x ∧ CsIn w b (off + i * sz) cs)

variable {F F' : Nat → Prop} {w w' : World} {sz : Nat} {E E' : List Value → α → Prop} {v : Value} {xs : List α}
theorem RSl.kp (h : RSl F w sz E v xs) (hk : Kp F w w') (hF : ∀ b, b < w.heap.size → F b → F' b) (hE : ∀ cs x, E cs x → E' cs x) : RSl F' w' sz E' v xs := by
  obtain ⟨A, c, h1, h2, h3, h5, h4⟩ := h
  refine ⟨A, c, h1, h2, h3, h5, ?_⟩
  rcases h4 with h4 | ⟨b, off, hA, hf, hb, hc⟩
  · exact .inl h4
  · refine .inr ⟨b, off, hA, hF b hb hf, Nat.lt_of_lt_of_le hb hk.size, fun i x hx => ?_⟩
    obtain ⟨cs, e1, e2⟩ := hc i x hx
    exact ⟨cs, hE cs x e1, e2.kp hk hb hf⟩
theorem RSl.keep (h : RSl F w sz E v xs) (hk : Kp F w w') : RSl F w' sz E v xs := h.kp hk (fun _ _ h => h) (fun _ _ h => h)
theorem RSl.len (h : RSl F w sz E v xs) : xs.length ≤ maxLen := by
  obtain ⟨A, c, h1, h2, h3, _⟩ := h; omega
theorem RSl.form (h : RSl F w sz E v xs) : ∃ A c, v = .slice A xs.length c := by
  obtain ⟨A, c, h1, _⟩ := h; exact ⟨A, c, h1⟩
/-- Element i. -/
theorem RSl.at {A : Option Addr} {n c : Nat} (h : RSl F w sz E (.slice A n c) xs) {i : Nat} {x : α} (hx : xs[i]? = some x) :
    ∃ b off, A = some ⟨b, off, none⟩ ∧ F b ∧ b < w.heap.size ∧ ∃ cs, E cs x ∧ CsIn w b (off + i * sz) cs := by
  obtain ⟨A', c', h1, h2, h3, _, h4⟩ := h
  simp only [Value.slice.injEq] at h1
  obtain ⟨rfl, rfl, rfl⟩ := h1
  rcases h4 with rfl | ⟨b, off, hA, hf, hb, hc⟩
  · simp at hx
  · exact ⟨b, off, hA, hf, hb, hc i x hx⟩
theorem RSl.nil : RSl F w sz E (.slice none 0 0) ([] : List α) := ⟨none, 0, rfl, Nat.le_refl _, Nat.zero_le _, fun _ => rfl, .inl rfl⟩
/-- Out of a row of the call's own. -/
theorem RSl.of_own {base : Nat} {e : TypeId} {cells : List Value} {n : Nat} (h : w.ownsRow base e sz v n cells) (hn : n = xs.length) (hF : ∀ b, v.ownBlock = some b → F b)
    (hE : ∀ i x, xs[i]? = some x → ∃ cs, E cs x ∧ ∀ j u, cs[j]? = some u → cells[i * sz + j]? = some u) : RSl F w sz E v xs := by
  subst hn
  rcases h.2 with ⟨rfl, h0⟩ | ⟨g, cap, cur, rfl, hg, hh, h1, h2, h3, h4⟩
  · rw [List.eq_nil_of_length_eq_zero h0]; exact RSl.nil
  · refine ⟨_, cap, rfl, h1, h2, (fun h => by cases h), .inr ⟨g, 0, rfl, hF g rfl, lt_of_heap hh, fun i x hx => ?_⟩⟩
    obtain ⟨cs, e1, e2⟩ := hE i x hx
    refine ⟨cs, e1, fun j u hu => ?_⟩
    have := h.cells (g := g) rfl (i * sz + j) u (e2 j u hu)
    rw [rd_add] at this
    rw [Nat.zero_add]
    simpa using this
end

open Pln
def i64ok (n : Int) : Prop := (Lit.int .i64 n).wf = true
theorem i64ok.lo {n : Int} (h : i64ok n) : -9223372036854775808 ≤ n ∧ n ≤ 9223372036854775807 := by
  unfold i64ok at h
  simp [Lit.wf, IntKind.min, IntKind.max, IntKind.signed, IntKind.bits] at h
  exact h
def EInt (cs : List Value) (n : Int) : Prop := cs = [.int .i64 n] ∧ i64ok n
def EStr (cs : List Value) (s : ByteArray) : Prop := cs = [.string s] ∧ s.size ≤ maxLen
def ESlt (cs : List Value) (s : Slt) : Prop := cs = [.bool s.v, .int .i64 s.n] ∧ i64ok s.n
def ELnk (cs : List Value) (l : Int × Int) : Prop := cs = [.int .i64 l.1, .int .i64 l.2] ∧ i64ok l.1 ∧ i64ok l.2
def ETst (cs : List Value) (t : Tst) : Prop := cs = [.int .i64 t.op, .bool t.l.v, .int .i64 t.l.n, .bool t.r.v, .int .i64 t.r.n] ∧ i64ok t.op ∧ i64ok t.l.n ∧ i64ok t.r.n
def EPat (F : Nat → Prop) (w : World) (cs : List Value) (p : Pat) : Prop := ∃ v, cs = [.int .i64 p.pred, v] ∧ i64ok p.pred ∧ RSl F w 2 ESlt v p.args
def EShp (F : Nat → Prop) (w : World) (cs : List Value) (s : Shp) : Prop := ∃ v, cs = [.int .i64 s.pred, v] ∧ i64ok s.pred ∧ RSl F w 1 EInt v s.cells
structure ERl (F : Nat → Prop) (w : World) (cs : List Value) (r : Rl) (hv pv tv nv vv : Value) : Prop where
  cells : cs = [.int .i64 r.head.pred, hv, pv, tv, nv, vv, .int .i64 r.clause]
  hok : i64ok r.head.pred
  cok : i64ok r.clause
  head : RSl F w 2 ESlt hv r.head.args
  pos : RSl F w 2 (EPat F w) pv r.pos
  tests : RSl F w 5 ETst tv r.tests
  neg : RSl F w 2 (EPat F w) nv r.neg
  vars : RSl F w 1 EStr vv r.vars
def ERule (F : Nat → Prop) (w : World) (cs : List Value) (r : Rl) : Prop := ∃ hv pv tv nv vv, ERl F w cs r hv pv tv nv vv
structure ENd (F : Nat → Prop) (w : World) (cs : List Value) (n : Nd) (lv nv : Value) : Prop where
  cells : cs = [.int .i64 n.kind, .int .i64 n.parent, .int .i64 n.alpha, lv, nv, .int .i64 n.test.op, .bool n.test.l.v, .int .i64 n.test.l.n, .bool n.test.r.v, .int .i64 n.test.r.n, .int .i64 n.width]
  ok : i64ok n.kind ∧ i64ok n.parent ∧ i64ok n.alpha ∧ i64ok n.width ∧ i64ok n.test.op ∧ i64ok n.test.l.n ∧ i64ok n.test.r.n
  links : RSl F w 2 ELnk lv n.links
  new : RSl F w 1 EInt nv n.new
def ENode (F : Nat → Prop) (w : World) (cs : List Value) (n : Nd) : Prop := ∃ lv nv, ENd F w cs n lv nv

section
variable {F F' : Nat → Prop} {w w' : World} {cs : List Value}
theorem EPat.kp {p : Pat} (h : EPat F w cs p) (hk : Kp F w w') (hF : ∀ b, b < w.heap.size → F b → F' b) : EPat F' w' cs p := by
  obtain ⟨v, h1, h2, h3⟩ := h
  exact ⟨v, h1, h2, h3.kp hk hF (fun _ _ h => h)⟩
theorem EShp.kp {p : Shp} (h : EShp F w cs p) (hk : Kp F w w') (hF : ∀ b, b < w.heap.size → F b → F' b) : EShp F' w' cs p := by
  obtain ⟨v, h1, h2, h3⟩ := h
  exact ⟨v, h1, h2, h3.kp hk hF (fun _ _ h => h)⟩
theorem ERl.kp {r : Rl} {hv pv tv nv vv : Value} (h : ERl F w cs r hv pv tv nv vv) (hk : Kp F w w') (hF : ∀ b, b < w.heap.size → F b → F' b) : ERl F' w' cs r hv pv tv nv vv :=
  ⟨h.cells, h.hok, h.cok, h.head.kp hk hF (fun _ _ h => h), h.pos.kp hk hF (fun _ _ h => h.kp hk hF), h.tests.kp hk hF (fun _ _ h => h), h.neg.kp hk hF (fun _ _ h => h.kp hk hF), h.vars.kp hk hF (fun _ _ h => h)⟩
theorem ERule.kp {r : Rl} (h : ERule F w cs r) (hk : Kp F w w') (hF : ∀ b, b < w.heap.size → F b → F' b) : ERule F' w' cs r := by
  obtain ⟨hv, pv, tv, nv, vv, h⟩ := h
  exact ⟨hv, pv, tv, nv, vv, h.kp hk hF⟩
theorem ENd.kp {n : Nd} {lv nv : Value} (h : ENd F w cs n lv nv) (hk : Kp F w w') (hF : ∀ b, b < w.heap.size → F b → F' b) : ENd F' w' cs n lv nv :=
  ⟨h.cells, h.ok, h.links.kp hk hF (fun _ _ h => h), h.new.kp hk hF (fun _ _ h => h)⟩
theorem ENode.kp {n : Nd} (h : ENode F w cs n) (hk : Kp F w w') (hF : ∀ b, b < w.heap.size → F b → F' b) : ENode F' w' cs n := by
  obtain ⟨lv, nv, h⟩ := h
  exact ⟨lv, nv, h.kp hk hF⟩
/-- The rules' list. -/
abbrev RRules (F : Nat → Prop) (w : World) (v : Value) (rs : List Rl) : Prop := RSl F w 7 (ERule F w) v rs
theorem RRules.kp {v : Value} {rs : List Rl} (h : RRules F w v rs) (hk : Kp F w w') (hF : ∀ b, b < w.heap.size → F b → F' b) : RRules F' w' v rs := RSl.kp h hk hF (fun _ _ h => h.kp hk hF)
abbrev RPats (F : Nat → Prop) (w : World) (v : Value) (ps : List Pat) : Prop := RSl F w 2 (EPat F w) v ps
theorem RPats.kp {v : Value} {rs : List Pat} (h : RPats F w v rs) (hk : Kp F w w') (hF : ∀ b, b < w.heap.size → F b → F' b) : RPats F' w' v rs := RSl.kp h hk hF (fun _ _ h => h.kp hk hF)
end
end Go.Proofs.YtjgigcnjgblekaaDoor
