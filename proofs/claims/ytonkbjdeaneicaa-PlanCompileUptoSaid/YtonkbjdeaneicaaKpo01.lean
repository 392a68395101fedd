/- The builtin copy at elements of several cells, as one step of a region that draws its order. Over any program. 'Turns S w w'': of what was there only the blocks of S may have turned. Over any program. Plans, in plain Lean: what Compile makes of rules. No program in sight. -/
import Derived.Below
import Derived.Deep.AppendLies
import Derived.Deep.Draws
import Derived.Laws.CopyOwn
import Derived.Laws.CopyRow
import Derived.WalkKit
namespace Go.Proofs.Ytonkbjdeaneicaa
open Go Go.RowKit

section
variable {P : Program}
theorem run_copy_rowN (w : World) (dT sT ty elem : TypeId) (g o dLen dCap : Nat) (a : Addr) (sLen sCap sz : Nat) (cur : Array Value) (t : TypeId) (cs : List Value)
    (hu : P.underlying dT = some (.slice elem)) (hs : (P.info? elem).map (·.size) = some sz)
    (hg : w.heap[g]? = some (.cells cur t (0, 0))) (hn : cs.length = Nat.min sLen dLen * sz)
    (hsrc : ∀ j v, cs[j]? = some v → w.cell? (a.add j) = some v) (hfit : o + cs.length ≤ cur.size) (h1 : ∀ v ∈ cs, v.oneCell' = true) :
    (Builtin.copy_ #[dT, sT] ty #[.slice (some ⟨g, o, none⟩) dLen dCap, .slice (some a) sLen sCap]).run P w =
      .ok (goInt (Nat.min sLen dLen)) (w.setRow g (cur.toList.take o ++ cs ++ cur.toList.drop (o + cs.length)).toArray) := by
  have hl := run_loadCells_list (P := P) w a cs hsrc
  have hst := run_storeCells_at P g o t cs 0 cur w hg (by simpa using hfit) h1
  cases hq : P.info? elem with
  | none => simp [hq] at hs
  | some i =>
    have hi : i.size = sz := by simpa [hq] using hs
    simp [Builtin.copy_, run_underlying hu, Builtin.lenOf, Builtin.firstCells, sizeOf, typeInfo, hq, hi, ← hn, hl, hst]
theorem run_copy_noneN (w : World) (dT sT ty elem : TypeId) (d a : Option Addr) (dLen dCap sLen sCap sz : Nat) (hu : P.underlying dT = some (.slice elem)) (hs : (P.info? elem).map (·.size) = some sz) (hn : Nat.min sLen dLen = 0) :
    (Builtin.copy_ #[dT, sT] ty #[.slice d dLen dCap, .slice a sLen sCap]).run P w = .ok (goInt 0) w := by
  cases hq : P.info? elem with
  | none => simp [hq] at hs
  | some i =>
    have hl : ∀ (x : Addr), (loadCells x 0).run P w = .ok #[] w := fun x => by simpa using run_loadCells_list (P := P) w x [] (by simp)
    cases d <;> cases a <;> simp [Builtin.copy_, run_underlying hu, Builtin.lenOf, Builtin.firstCells, sizeOf, typeInfo, hq, hn, storeCells, hl]

theorem step_copyN {ops : Array Oper} {o : Oper} {a : Act} {w : World} {K : Act → World → Prop} {Q : Exit → Act → World → Prop} {E : Prop} (hgd : o.guard = none) (d s : Operand) (dT sT : TypeId)
    (ho : o.op = .call { callee := .builtin .copy, args := #[d, s], argTypes := #[dT, sT] }) (elem : TypeId) (hu : P.underlying dT = some (.slice elem)) {sz : Nat} (hsz : (P.info? elem).map (·.size) = some sz)
    (dp sp : Option Addr) (dLen dCap sLen sCap : Nat) (hd : a.eval d = .slice dp dLen dCap) (hs : a.eval s = .slice sp sLen sCap)
    (g off : Nat) (cur : List Value) (t : TypeId) (hg : w.heap[g]? = some (.cells cur.toArray t (0, 0))) (cs : List Value) (hn : cs.length = Nat.min sLen dLen * sz)
    (hpos : 0 < Nat.min sLen dLen → dp = some ⟨g, off, none⟩ ∧ ∃ ad, sp = some ad ∧ ∀ j v, cs[j]? = some v → w.cell? (ad.add j) = some v)
    (hfit : off + cs.length ≤ cur.length) (h1 : ∀ v ∈ cs, v.oneCell' = true) (B : Nat) (w0 : World) (hb : Below B w0 w) (hBg : B ≤ g)
    (h : ∀ w', Hid (w'.heap[g]? = some (.cells (splice cur off cs).toArray t (0, 0))) → Below B w0 w' → K (a.put o.dst (goInt (Nat.min sLen dLen))) w') :
    if Region.wanted o (yielded ops a.tmps) = true then Oper.wp P o a w K Q else E := by
  have hw : Region.wanted o (yielded ops a.tmps) = true := by simp [Region.wanted, hgd]
  rw [if_pos hw]
  by_cases h0 : Nat.min sLen dLen = 0
  · obtain rfl : cs = [] := List.eq_nil_of_length_eq_zero (by rw [hn, h0, Nat.zero_mul])
    have hrun := run_copy_noneN (P := P) w dT sT o.type elem dp sp dLen dCap sLen sCap sz hu hsz h0
    have hh := h w (show _ = _ by simpa [splice] using hg) hb
    rw [h0] at hh
    unfold Oper.wp
    simp [execOp, ho, resolve, invoke, builtin, hd, hs, hrun, Result.andThen]
    exact hh
  · obtain ⟨rfl, ad, rfl, hsrc⟩ := hpos (by omega)
    have hrun := run_copy_rowN (P := P) w dT sT o.type elem g off dLen dCap ad sLen sCap sz cur.toArray t cs hu hsz hg hn hsrc (by simpa using hfit) h1
    unfold Oper.wp
    simp [execOp, ho, resolve, invoke, builtin, hd, hs, hrun, Result.andThen]
    exact h _ (show _ = _ by simpa [splice] using setRow_heap w g _ _ t _ hg) (below_setRow hb hBg _)
end
end Go.Proofs.Ytonkbjdeaneicaa

namespace Go.Proofs.Ytonkbjdeaneicaa
open Go.RowKit

structure Turns (S : List Nat) (w w' : World) : Prop where
  os : w'.os = w.os
  tape : w'.tape = w.tape
  output : w'.output = w.output
  size : w.heap.size ≤ w'.heap.size
  block : ∀ k, k < w.heap.size → k ∉ S → w'.heap[k]? = w.heap[k]?

theorem Turns.refl (S : List Nat) (w : World) : Turns S w w := ⟨rfl, rfl, rfl, Nat.le_refl _, fun _ _ _ => rfl⟩
theorem Turns.mono {S S' : List Nat} {w w' : World} (h : Turns S w w') (hs : ∀ k ∈ S, k ∈ S') : Turns S' w w' :=
  ⟨h.os, h.tape, h.output, h.size, fun k hk hn => h.block k hk (fun hi => hn (hs k hi))⟩
/-- Two steps; the second's blocks are the first's, or are new. -/
theorem Turns.trans {S S' : List Nat} {a b c : World} (h : Turns S a b) (k : Turns S' b c) (hs : ∀ x ∈ S', x ∈ S ∨ a.heap.size ≤ x) : Turns S a c :=
  ⟨k.os.trans h.os, k.tape.trans h.tape, k.output.trans h.output, Nat.le_trans h.size k.size, fun i hi hn =>
    (k.block i (Nat.lt_of_lt_of_le hi h.size) (fun hm => by rcases hs i hm with h1 | h1; exact hn h1; omega)).trans (h.block i hi hn)⟩
theorem Turns.of_below {S : List Nat} {w w' : World} (h : Below w.heap.size w w') : Turns S w w' := ⟨h.os, h.tape, h.output, h.size, fun k hk _ => h.block k hk⟩
theorem Turns.below {S : List Nat} {B : Nat} {w w' : World} (h : Turns S w w') (hB : B ≤ w.heap.size) (hs : ∀ x ∈ S, B ≤ x) : Below B w w' :=
  ⟨h.os, h.tape, h.output, h.size, fun k hk => h.block k (by omega) (fun hm => by have := hs k hm; omega)⟩
theorem Turns.of_grown {w w' : World} {row : Option Nat} (h : w.grownBy w' row) : Turns row.toList w w' :=
  ⟨h.os, h.tape, h.output, h.size, fun k hk hn => h.block k hk (fun e => hn (by rw [← e]; simp))⟩
theorem Turns.drewN {S : List Nat} {a w : World} (h : Turns S a w) (n : Nat) : Turns S a (w.drewN n) := ⟨h.os, h.tape, h.output, h.size, h.block⟩
theorem Turns.drew {S : List Nat} {a w : World} (h : Turns S a w) : Turns S a w.drew := ⟨h.os, h.tape, h.output, h.size, h.block⟩
theorem Turns.alloc {S : List Nat} {a w : World} (h : Turns S a w) (o : Obj) : Turns S a (w.alloc o) :=
  h.trans (S' := []) (.of_below ((Below.refl _ _).alloc (Nat.le_refl _) o)) (fun x hx => by simp at hx)
theorem Turns.setCell {S : List Nat} {a w : World} (h : Turns S a w) {p : Addr} (hp : p.block ∈ S ∨ a.heap.size ≤ p.block) (u : Value) : Turns S a (w.setCell p u) :=
  h.trans (S' := [p.block]) ⟨rfl, rfl, rfl, by simp [World.setCell], fun k _ hn => Below.heap_setCell _ _ _ _ (by simpa using hn)⟩ (fun x hx => by rw [List.mem_singleton.1 hx]; exact hp)
theorem Turns.cell {S : List Nat} {w w' : World} (h : Turns S w w') {b o : Nat} (hb : b < w.heap.size) (hs : b ∉ S) : w'.cell? ⟨b, o, none⟩ = w.cell? ⟨b, o, none⟩ :=
  World.cell?_of_block (a := ⟨b, o, none⟩) (h.block b hb hs)

/-- A row of the call's own stays, where its block does not turn. -/
theorem ownsRow_turns {S : List Nat} {w w' : World} {base : Nat} {e : TypeId} {size : Nat} {v : Value} {n : Nat} {xs : List Value} (h : w.ownsRow base e size v n xs) (ht : Turns S w w') (hs : ∀ b, v.ownBlock = some b → b ∉ S) : w'.ownsRow base e size v n xs := by
  obtain ⟨h1, h2⟩ := h
  refine ⟨h1, ?_⟩
  rcases h2 with h2 | ⟨g, cap, cur, hv, hg, hh, r⟩
  · exact Or.inl h2
  · have hlt : g < w.heap.size := by
      rcases Nat.lt_or_ge g w.heap.size with h | h
      · exact h
      · rw [Array.getElem?_eq_none h] at hh; cases hh
    exact Or.inr ⟨g, cap, cur, hv, hg, by rw [ht.block g hlt (hs g (by rw [hv]; rfl))]; exact hh, r⟩
/-- The block of an owned row is there, and is of its element's type. -/
theorem ownBlock_cells {w : World} {base : Nat} {e : TypeId} {size : Nat} {v : Value} {n : Nat} {xs : List Value} (h : w.ownsRow base e size v n xs) {b : Nat} (hb : v.ownBlock = some b) :
    base ≤ b ∧ b < w.heap.size ∧ ∃ cur, w.heap[b]? = some (.cells cur e (0, 0)) := by
  rcases h.2 with ⟨rfl, _⟩ | ⟨g, cap, cur, rfl, hg, hh, _⟩
  · simp [Value.ownBlock] at hb
  · have : g = b := by simpa [Value.ownBlock] using hb
    subst this
    refine ⟨hg, ?_, cur, hh⟩
    rcases Nat.lt_or_ge g w.heap.size with h | h
    · exact h
    · rw [Array.getElem?_eq_none h] at hh; cases hh
theorem lt_of_heap {w : World} {b : Nat} {o : Obj} (h : w.heap[b]? = some o) : b < w.heap.size := by
  rcases Nat.lt_or_ge b w.heap.size with h1 | h1
  · exact h1
  · rw [Array.getElem?_eq_none h1] at h; cases h
end Go.Proofs.Ytonkbjdeaneicaa

namespace Go.Proofs.Ytonkbjdeaneicaa.Pln
open Classical

/-- A slot: a variable's number, or a constant's id. -/
structure Slt where
  v : Bool
  n : Int
structure Pat where
  pred : Int
  args : List Slt
structure Tst where
  op : Int
  l : Slt
  r : Slt
/-- A rule. -/
structure Rl where
  head : Pat
  pos : List Pat
  tests : List Tst
  neg : List Pat
  vars : List ByteArray
  clause : Int
structure Shp where
  pred : Int
  cells : List Int
structure Nd where
  kind : Int
  parent : Int
  alpha : Int
  links : List (Int × Int)
  new : List Int
  test : Tst
  width : Int
/-- A condition: of kind 1 (an atom), 2 (a test), 3 (a negated atom). -/
structure Cnd where
  kind : Int
  p : Pat
  t : Tst

def noSlt : Slt := ⟨false, 0⟩
def noTst : Tst := ⟨0, noSlt, noSlt⟩
def noPat : Pat := ⟨0, []⟩
def rootN : Nd := ⟨0, -1, -1, [], [], noTst, 0⟩
def conds (r : Rl) : List Cnd := r.pos.map (fun p => ⟨1, p, noTst⟩) ++ r.tests.map (fun t => ⟨2, noPat, t⟩) ++ r.neg.map (fun p => ⟨3, p, noTst⟩)

/-- The first place that holds the variable n. -/
def firstV : List Slt → Int → Nat
  | [], _ => 0
  | s :: r, n => if s.v = true ∧ s.n = n then 0 else firstV r n + 1
/-- A place's cell. -/
def cellF (args : List Slt) (s : Slt) : Int := if s.v = true then -1 - (firstV args s.n : Int) else s.n
def shapeF (p : Pat) : Shp := ⟨p.pred, p.args.map (cellF p.args)⟩

/-- The links of the first k places, under which w variables are bound; the new ones. -/
noncomputable def linkAt (args : List Slt) (w : Int) (i : Nat) : List (Int × Int) := match args[i]? with
  | some s => if s.v = true ∧ firstV args s.n = i ∧ s.n < w then [((i : Int), s.n)] else []
  | none => []
noncomputable def newAt (args : List Slt) (w : Int) (i : Nat) : List Int := match args[i]? with
  | some s => if s.v = true ∧ firstV args s.n = i ∧ ¬ s.n < w then [(i : Int)] else []
  | none => []
noncomputable def linksK (args : List Slt) (w : Int) (k : Nat) : List (Int × Int) := (List.range k).flatMap (linkAt args w)
noncomputable def newK (args : List Slt) (w : Int) (k : Nat) : List Int := (List.range k).flatMap (newAt args w)
theorem linksK_zero (args : List Slt) (w : Int) : linksK args w 0 = [] := rfl
theorem newK_zero (args : List Slt) (w : Int) : newK args w 0 = [] := rfl
theorem linksK_succ (args : List Slt) (w : Int) (k : Nat) : linksK args w (k + 1) = linksK args w k ++ linkAt args w k := by
  unfold linksK; rw [List.range_succ, List.flatMap_append]; simp
theorem newK_succ (args : List Slt) (w : Int) (k : Nat) : newK args w (k + 1) = newK args w k ++ newAt args w k := by
  unfold newK; rw [List.range_succ, List.flatMap_append]; simp

/-- The first place of x, or the end. -/
noncomputable def placeF {α : Type} : List α → α → Nat
  | [], _ => 0
  | y :: r, x => if y = x then 0 else placeF r x + 1
theorem placeF_lt {α : Type} {l : List α} {x : α} (h : x ∈ l) : placeF l x < l.length ∧ l[placeF l x]? = some x := by
  induction l with
  | nil => cases h
  | cons y r ih =>
    unfold placeF
    by_cases hy : y = x
    · rw [if_pos hy]
      exact ⟨by simp, by simp [hy]⟩
    · rw [if_neg hy]
      rcases List.mem_cons.1 h with h | h
      · exact absurd h.symm hy
      · obtain ⟨h1, h2⟩ := ih h
        exact ⟨by simp; omega, by simpa using h2⟩
theorem placeF_first {α : Type} {l : List α} {x : α} : ∀ j, j < placeF l x → l[j]? ≠ some x := by
  induction l with
  | nil => intro j h; simp
  | cons y r ih =>
    intro j h
    unfold placeF at h
    by_cases hy : y = x
    · rw [if_pos hy] at h; omega
    · rw [if_neg hy] at h
      match j with
      | 0 => simpa using hy
      | j + 1 => simpa using ih j (by omega)
theorem placeF_none {α : Type} {l : List α} {x : α} (h : x ∉ l) : placeF l x = l.length := by
  induction l with
  | nil => rfl
  | cons y r ih =>
    unfold placeF
    rw [if_neg (fun e => h (by simp [e])), ih (fun hm => h (by simp [hm]))]
    rfl
theorem placeF_at {α : Type} {l : List α} {x : α} {i : Nat} (h : l[i]? = some x) (hf : ∀ j, j < i → l[j]? ≠ some x) : placeF l x = i := by
  have hm : x ∈ l := List.mem_of_getElem? h
  have h2 := (placeF_lt hm).2
  rcases Nat.lt_trichotomy (placeF l x) i with h3 | h3 | h3
  · exact absurd h2 (hf _ h3)
  · exact h3
  · exact absurd h (placeF_first i h3)
theorem placeF_app {α : Type} {l r : List α} {x : α} (h : x ∈ l) : placeF (l ++ r) x = placeF l x := by
  obtain ⟨h1, h2⟩ := placeF_lt h
  refine placeF_at (by rw [List.getElem?_append_left h1]; exact h2) (fun j hj => ?_)
  rw [List.getElem?_append_left (by omega)]
  exact placeF_first j hj
theorem placeF_inj {α : Type} {l : List α} {x y : α} (hx : x ∈ l) (hy : y ∈ l) (h : placeF l x = placeF l y) : x = y := by
  have h1 := (placeF_lt hx).2
  have h2 := (placeF_lt hy).2
  rw [h] at h1
  exact Option.some.inj (h1.symm.trans h2)
/-- The list with x, at its end where it is not there. -/
noncomputable def addF {α : Type} (l : List α) (x : α) : List α := if x ∈ l then l else l ++ [x]
theorem addF_mem {α : Type} (l : List α) (x : α) : x ∈ addF l x := by
  unfold addF
  by_cases h : x ∈ l
  · rw [if_pos h]; exact h
  · rw [if_neg h]; simp
theorem addF_place {α : Type} (l : List α) (x : α) : placeF (addF l x) x = placeF l x := by
  unfold addF
  by_cases h : x ∈ l
  · rw [if_pos h]
  · rw [if_neg h, placeF_none h]
    exact placeF_at (by simp) (fun j hj he => h (by rw [List.getElem?_append_left hj] at he; exact List.mem_of_getElem? he))
theorem addF_at {α : Type} (l : List α) (x : α) : (addF l x)[placeF l x]? = some x := by
  rw [← addF_place]; exact (placeF_lt (addF_mem l x)).2
theorem addF_pre {α : Type} (l : List α) (x : α) : ∃ r, addF l x = l ++ r ∧ r.length ≤ 1 := by
  unfold addF
  by_cases h : x ∈ l
  · rw [if_pos h]; exact ⟨[], by simp, by simp⟩
  · rw [if_neg h]; exact ⟨[x], rfl, by simp⟩
theorem addF_nodup {α : Type} {l : List α} {x : α} (h : l.Nodup) : (addF l x).Nodup := by
  unfold addF
  by_cases hx : x ∈ l
  · rw [if_pos hx]; exact h
  · rw [if_neg hx]
    exact List.nodup_append.2 ⟨h, by simp, by intro a ha b hb; rw [List.mem_singleton.1 hb]; rintro rfl; exact hx ha⟩

/-- A plan on its way: shapes and nodes. -/
structure St where
  al : List Shp
  ns : List Nd
def widthAt (st : St) (u : Nat) : Int := match st.ns[u]? with | some n => n.width | none => 0
/-- The node of a pattern below u. -/
noncomputable def nodeOf (st : St) (kind : Int) (u : Nat) (p : Pat) : Nd :=
  ⟨kind, u, (placeF st.al (shapeF p) : Int), linksK p.args (widthAt st u) p.args.length, newK p.args (widthAt st u) p.args.length, noTst, widthAt st u + (newK p.args (widthAt st u) p.args.length).length⟩
noncomputable def patF (kind : Int) (x : Nat × St) (p : Pat) : Nat × St :=
  (placeF x.2.ns (nodeOf x.2 kind x.1 p), ⟨addF x.2.al (shapeF p), addF x.2.ns (nodeOf x.2 kind x.1 p)⟩)
def testOf (st : St) (u : Nat) (t : Tst) : Nd := ⟨2, u, -1, [], [], t, widthAt st u⟩
noncomputable def tstF (x : Nat × St) (t : Tst) : Nat × St := (placeF x.2.ns (testOf x.2 x.1 t), ⟨x.2.al, addF x.2.ns (testOf x.2 x.1 t)⟩)
/-- A rule's way. -/
noncomputable def ruleF (st : St) (r : Rl) : Nat × St := r.neg.foldl (patF 3) (r.tests.foldl tstF (r.pos.foldl (patF 1) (0, st)))
noncomputable def endF (x : St × List Nat) (r : Rl) : St × List Nat := ((ruleF x.1 r).2, x.2 ++ [(ruleF x.1 r).1])
/-- All rules' ways. -/
noncomputable def compF (rs : List Rl) : St × List Nat := rs.foldl endF (⟨[], [rootN]⟩, [])

/-- One condition. -/
noncomputable def nodeC (st : St) (u : Nat) (c : Cnd) : Nd := if c.kind = 2 then testOf st u c.t else nodeOf st c.kind u c.p
noncomputable def stepF (x : Nat × St) (c : Cnd) : Nat × St := if c.kind = 2 then tstF x c.t else patF c.kind x c.p
theorem ruleF_conds (st : St) (r : Rl) : ruleF st r = (conds r).foldl stepF (0, st) := by
  unfold ruleF conds
  rw [List.foldl_append, List.foldl_append, List.foldl_map, List.foldl_map, List.foldl_map]
  rfl

/-- A later state. -/
def Ext (a b : St) : Prop := (∃ r, b.al = a.al ++ r) ∧ (∃ r, b.ns = a.ns ++ r)
theorem Ext.refl (a : St) : Ext a a := ⟨⟨[], by simp⟩, ⟨[], by simp⟩⟩
theorem Ext.trans {a b c : St} (h : Ext a b) (k : Ext b c) : Ext a c := by
  obtain ⟨⟨r1, h1⟩, ⟨r2, h2⟩⟩ := h
  obtain ⟨⟨r3, h3⟩, ⟨r4, h4⟩⟩ := k
  exact ⟨⟨r1 ++ r3, by rw [h3, h1, List.append_assoc]⟩, ⟨r2 ++ r4, by rw [h4, h2, List.append_assoc]⟩⟩
theorem Ext.ns {a b : St} (h : Ext a b) {i : Nat} (hi : i < a.ns.length) : b.ns[i]? = a.ns[i]? := by
  obtain ⟨_, ⟨r, h⟩⟩ := h
  rw [h, List.getElem?_append_left hi]
theorem Ext.len {a b : St} (h : Ext a b) : a.ns.length ≤ b.ns.length := by
  obtain ⟨_, ⟨r, h⟩⟩ := h
  rw [h]; simp
theorem Ext.width {a b : St} (h : Ext a b) {i : Nat} (hi : i < a.ns.length) : widthAt b i = widthAt a i := by
  unfold widthAt; rw [h.ns hi]
theorem Ext.al {a b : St} (h : Ext a b) {i : Nat} {s : Shp} (hi : a.al[i]? = some s) : b.al[i]? = some s := by
  obtain ⟨⟨r, h⟩, _⟩ := h
  rw [h, List.getElem?_append_left (List.getElem?_eq_some_iff.1 hi).1]; exact hi
theorem ext_patF (kind : Int) (x : Nat × St) (p : Pat) : Ext x.2 (patF kind x p).2 := by
  obtain ⟨r1, h1, _⟩ := addF_pre x.2.al (shapeF p)
  obtain ⟨r2, h2, _⟩ := addF_pre x.2.ns (nodeOf x.2 kind x.1 p)
  exact ⟨⟨r1, h1⟩, ⟨r2, h2⟩⟩
theorem ext_tstF (x : Nat × St) (t : Tst) : Ext x.2 (tstF x t).2 := by
  obtain ⟨r2, h2, _⟩ := addF_pre x.2.ns (testOf x.2 x.1 t)
  exact ⟨⟨[], by simp [tstF]⟩, ⟨r2, h2⟩⟩
theorem ext_stepF (x : Nat × St) (c : Cnd) : Ext x.2 (stepF x c).2 := by
  unfold stepF
  split
  · exact ext_tstF x _
  · exact ext_patF _ x _
theorem ext_fold (cs : List Cnd) : ∀ x : Nat × St, Ext x.2 (cs.foldl stepF x).2 := by
  induction cs with
  | nil => intro x; exact Ext.refl _
  | cons c r ih => intro x; exact (ext_stepF x c).trans (ih _)
theorem ext_endF (x : St × List Nat) (r : Rl) : Ext x.1 (endF x r).1 := by
  unfold endF; rw [ruleF_conds]; exact ext_fold _ _
theorem ext_comp (rs : List Rl) : ∀ x : St × List Nat, Ext x.1 (rs.foldl endF x).1 := by
  induction rs with
  | nil => intro x; exact Ext.refl _
  | cons c r ih => intro x; exact (ext_endF x c).trans (ih _)

/-- A condition's shape stands among the shapes. -/
def Shaped (st : St) (c : Cnd) : Prop := c.kind ≠ 2 → shapeF c.p ∈ st.al
theorem nodeC_ext {a b : St} (h : Ext a b) {u : Nat} (hu : u < a.ns.length) {c : Cnd} (hc : Shaped a c) : nodeC b u c = nodeC a u c := by
  unfold nodeC
  split
  · unfold testOf; rw [h.width hu]
  · rename_i hk
    have hm := hc hk
    have e : placeF b.al (shapeF c.p) = placeF a.al (shapeF c.p) := by
      obtain ⟨⟨r, hr⟩, _⟩ := h
      rw [hr, placeF_app hm]
    unfold nodeOf; rw [h.width hu, e]
/-- What a step does. -/
theorem stepF_facts (x : Nat × St) (c : Cnd) (hu : x.1 < x.2.ns.length) : Shaped (stepF x c).2 c ∧ nodeC (stepF x c).2 x.1 c ∈ (stepF x c).2.ns ∧ (stepF x c).1 = placeF (stepF x c).2.ns (nodeC (stepF x c).2 x.1 c) ∧ (stepF x c).1 < (stepF x c).2.ns.length := by
  have hE := ext_stepF x c
  unfold stepF at hE ⊢
  by_cases hk : c.kind = 2
  · rw [if_pos hk] at hE ⊢
    have e : nodeC (tstF x c.t).2 x.1 c = testOf x.2 x.1 c.t := by
      unfold nodeC; rw [if_pos hk]; unfold testOf; rw [hE.width hu]
    rw [e]
    refine ⟨fun h => absurd hk h, addF_mem _ _, ?_, ?_⟩
    · exact (addF_place _ _).symm
    · have := (placeF_lt (addF_mem x.2.ns (testOf x.2 x.1 c.t))).1
      rw [addF_place] at this
      exact this
  · rw [if_neg hk] at hE ⊢
    have hs : Shaped (patF c.kind x c.p).2 c := fun _ => addF_mem _ _
    have e : nodeC (patF c.kind x c.p).2 x.1 c = nodeOf x.2 c.kind x.1 c.p := by
      unfold nodeC; rw [if_neg hk]
      have e1 : placeF (patF c.kind x c.p).2.al (shapeF c.p) = placeF x.2.al (shapeF c.p) := addF_place _ _
      unfold nodeOf; rw [hE.width hu, e1]
    rw [e]
    refine ⟨hs, addF_mem _ _, ?_, ?_⟩
    · exact (addF_place _ _).symm
    · have := (placeF_lt (addF_mem x.2.ns (nodeOf x.2 c.kind x.1 c.p))).1
      rw [addF_place] at this
      exact this

/-- The way of conditions from u on, read off a state. -/
noncomputable def wayF (st : St) : Nat → List Cnd → List Nat
  | _, [] => []
  | u, c :: r => placeF st.ns (nodeC st u c) :: wayF st (placeF st.ns (nodeC st u c)) r
/-- The conditions' nodes stand in the state. -/
def Stands (st : St) : Nat → List Cnd → Prop
  | _, [] => True
  | u, c :: r => u < st.ns.length ∧ Shaped st c ∧ nodeC st u c ∈ st.ns ∧ Stands st (placeF st.ns (nodeC st u c)) r
theorem stands_ext {a b : St} (h : Ext a b) : ∀ (cs : List Cnd) (u : Nat), Stands a u cs → Stands b u cs ∧ wayF b u cs = wayF a u cs
  | [], _, _ => ⟨trivial, rfl⟩
  | c :: r, u, ⟨hu, hs, hm, hr⟩ => by
    have e := nodeC_ext h hu hs
    have e2 : placeF b.ns (nodeC a u c) = placeF a.ns (nodeC a u c) := by
      obtain ⟨_, ⟨r, h⟩⟩ := h
      rw [h, placeF_app hm]
    obtain ⟨i1, i2⟩ := stands_ext h r _ hr
    refine ⟨⟨Nat.lt_of_lt_of_le hu h.len, fun hk => ?_, ?_, ?_⟩, ?_⟩
    · obtain ⟨⟨r, h⟩, _⟩ := h
      rw [h]; exact List.mem_append_left _ (hs hk)
    · obtain ⟨_, ⟨r, h⟩⟩ := h
      rw [e, h]; exact List.mem_append_left _ hm
    · rw [e, e2]; exact i1
    · simp only [wayF]; rw [e, e2, i2]
theorem stands_fold : ∀ (cs : List Cnd) (x : Nat × St), x.1 < x.2.ns.length → Stands (cs.foldl stepF x).2 x.1 cs ∧ (cs.foldl stepF x).1 = ((wayF (cs.foldl stepF x).2 x.1 cs).getLast?.getD x.1) ∧ (cs.foldl stepF x).1 < (cs.foldl stepF x).2.ns.length
  | [], x, hx => ⟨trivial, rfl, hx⟩
  | c :: r, x, hx => by
    obtain ⟨s1, s2, s3, s4⟩ := stepF_facts x c hx
    have hE := ext_fold r (stepF x c)
    obtain ⟨i1, i2, i3⟩ := stands_fold r (stepF x c) s4
    rw [List.foldl_cons]
    have hx' : x.1 < (stepF x c).2.ns.length := Nat.lt_of_lt_of_le hx (ext_stepF x c).len
    have e := nodeC_ext hE hx' s1
    have e2 : placeF (r.foldl stepF (stepF x c)).2.ns (nodeC (stepF x c).2 x.1 c) = (stepF x c).1 := by
      rw [s3]
      obtain ⟨_, ⟨q, h⟩⟩ := hE
      rw [h, placeF_app s2]
    refine ⟨⟨Nat.lt_of_lt_of_le hx' hE.len, fun hk => ?_, ?_, ?_⟩, ?_, i3⟩
    · obtain ⟨⟨q, h⟩, _⟩ := hE
      rw [h]; exact List.mem_append_left _ (s1 hk)
    · obtain ⟨_, ⟨q, h⟩⟩ := hE
      rw [e, h]; exact List.mem_append_left _ s2
    · rw [e, e2]; exact i1
    · rw [i2]
      simp only [wayF]
      rw [e, e2]
      cases hw : wayF (r.foldl stepF (stepF x c)).2 (stepF x c).1 r with
      | nil => rfl
      | cons a l =>
        rw [List.getLast?_cons_cons]
        cases hl : (a :: l).getLast? with
        | none => simp at hl
        | some z => rfl
end Go.Proofs.Ytonkbjdeaneicaa.Pln
