/- Plans, in plain Lean: what Compile makes of rules. No program in sight. Plans, in plain Lean: rules that may be compiled; what a node says of its condition; ways that are one as far as the chains agree. -/
import Derived.WalkKit
namespace Go.Proofs.Ytonkbjdeaneicaa.Pln
open Classical

/-- A slot: a variable's number, or a constant's id. -/
structure Slt where
  v : Bool
  n : Int
structure Pat where
  pred : Int
  args : List Slt
structure Tst where
  op : Int
  l : Slt
  r : Slt
/-- A rule. -/
structure Rl where
  head : Pat
  pos : List Pat
  tests : List Tst
  neg : List Pat
  vars : List ByteArray
  clause : Int
structure Shp where
  pred : Int
  cells : List Int
structure Nd where
  kind : Int
  parent : Int
  alpha : Int
  links : List (Int × Int)
  new : List Int
  test : Tst
  width : Int
/-- A condition: of kind 1 (an atom), 2 (a test), 3 (a negated atom). -/
structure Cnd where
  kind : Int
  p : Pat
  t : Tst

def noSlt : Slt := ⟨false, 0⟩
def noTst : Tst := ⟨0, noSlt, noSlt⟩
def noPat : Pat := ⟨0, []⟩
def rootN : Nd := ⟨0, -1, -1, [], [], noTst, 0⟩
def conds (r : Rl) : List Cnd := r.pos.map (fun p => ⟨1, p, noTst⟩) ++ r.tests.map (fun t => ⟨2, noPat, t⟩) ++ r.neg.map (fun p => ⟨3, p, noTst⟩)

/-- The first place that holds the variable n. -/
def firstV : List Slt → Int → Nat
  | [], _ => 0
  | s :: r, n => if s.v = true ∧ s.n = n then 0 else firstV r n + 1
/-- A place's cell. -/
def cellF (args : List Slt) (s : Slt) : Int := if s.v = true then -1 - (firstV args s.n : Int) else s.n
def shapeF (p : Pat) : Shp := ⟨p.pred, p.args.map (cellF p.args)⟩

/-- The links of the first k places, under which w variables are bound; the new ones. -/
noncomputable def linkAt (args : List Slt) (w : Int) (i : Nat) : List (Int × Int) := match args[i]? with
  | some s => if s.v = true ∧ firstV args s.n = i ∧ s.n < w then [((i : Int), s.n)] else []
  | none => []
noncomputable def newAt (args : List Slt) (w : Int) (i : Nat) : List Int := match args[i]? with
  | some s => if s.v = true ∧ firstV args s.n = i ∧ ¬ s.n < w then [(i : Int)] else []
  | none => []
noncomputable def linksK (args : List Slt) (w : Int) (k : Nat) : List (Int × Int) := (List.range k).flatMap (linkAt args w)
noncomputable def newK (args : List Slt) (w : Int) (k : Nat) : List Int := (List.range k).flatMap (newAt args w)
theorem linksK_zero (args : List Slt) (w : Int) : linksK args w 0 = [] := rfl
theorem newK_zero (args : List Slt) (w : Int) : newK args w 0 = [] := rfl
theorem linksK_succ (args : List Slt) (w : Int) (k : Nat) : linksK args w (k + 1) = linksK args w k ++ linkAt args w k := by
  unfold linksK; rw [List.range_succ, List.flatMap_append]; simp
theorem newK_succ (args : List Slt) (w : Int) (k : Nat) : newK args w (k + 1) = newK args w k ++ newAt args w k := by
  unfold newK; rw [List.range_succ, List.flatMap_append]; simp

/-- The first place of x, or the end. -/
noncomputable def placeF {α : Type} : List α → α → Nat
  | [], _ => 0
  | y :: r, x => if y = x then 0 else placeF r x + 1
theorem placeF_lt {α : Type} {l : List α} {x : α} (h : x ∈ l) : placeF l x < l.length ∧ l[placeF l x]? = some x := by
  induction l with
  | nil => cases h
  | cons y r ih =>
    unfold placeF
    by_cases hy : y = x
    · rw [if_pos hy]
      exact ⟨by simp, by simp [hy]⟩
    · rw [if_neg hy]
      rcases List.mem_cons.1 h with h | h
      · exact absurd h.symm hy
      · obtain ⟨h1, h2⟩ := ih h
        exact ⟨by simp; omega, by simpa using h2⟩
theorem placeF_first {α : Type} {l : List α} {x : α} : ∀ j, j < placeF l x → l[j]? ≠ some x := by
  induction l with
  | nil => intro j h; simp
  | cons y r ih =>
    intro j h
    unfold placeF at h
    by_cases hy : y = x
    · rw [if_pos hy] at h; omega
    · rw [if_neg hy] at h
      match j with
      | 0 => simpa using hy
      | j + 1 => simpa using ih j (by omega)
theorem placeF_none {α : Type} {l : List α} {x : α} (h : x ∉ l) : placeF l x = l.length := by
  induction l with
  | nil => rfl
  | cons y r ih =>
    unfold placeF
    rw [if_neg (fun e => h (by simp [e])), ih (fun hm => h (by simp [hm]))]
    rfl
theorem placeF_at {α : Type} {l : List α} {x : α} {i : Nat} (h : l[i]? = some x) (hf : ∀ j, j < i → l[j]? ≠ some x) : placeF l x = i := by
  have hm : x ∈ l := List.mem_of_getElem? h
  have h2 := (placeF_lt hm).2
  rcases Nat.lt_trichotomy (placeF l x) i with h3 | h3 | h3
  · exact absurd h2 (hf _ h3)
  · exact h3
  · exact absurd h (placeF_first i h3)
theorem placeF_app {α : Type} {l r : List α} {x : α} (h : x ∈ l) : placeF (l ++ r) x = placeF l x := by
  obtain ⟨h1, h2⟩ := placeF_lt h
  refine placeF_at (by rw [List.getElem?_append_left h1]; exact h2) (fun j hj => ?_)
  rw [List.getElem?_append_left (by omega)]
  exact placeF_first j hj
theorem placeF_inj {α : Type} {l : List α} {x y : α} (hx : x ∈ l) (hy : y ∈ l) (h : placeF l x = placeF l y) : x = y := by
  have h1 := (placeF_lt hx).2
  have h2 := (placeF_lt hy).2
  rw [h] at h1
  exact Option.some.inj (h1.symm.trans h2)
/-- The list with x, at its end where it is not there. -/
noncomputable def addF {α : Type} (l : List α) (x : α) : List α := if x ∈ l then l else l ++ [x]
theorem addF_mem {α : Type} (l : List α) (x : α) : x ∈ addF l x := by
  unfold addF
  by_cases h : x ∈ l
  · rw [if_pos h]; exact h
  · rw [if_neg h]; simp
theorem addF_place {α : Type} (l : List α) (x : α) : placeF (addF l x) x = placeF l x := by
  unfold addF
  by_cases h : x ∈ l
  · rw [if_pos h]
  · rw [if_neg h, placeF_none h]
    exact placeF_at (by simp) (fun j hj he => h (by rw [List.getElem?_append_left hj] at he; exact List.mem_of_getElem? he))
theorem addF_at {α : Type} (l : List α) (x : α) : (addF l x)[placeF l x]? = some x := by
  rw [← addF_place]; exact (placeF_lt (addF_mem l x)).2
theorem addF_pre {α : Type} (l : List α) (x : α) : ∃ r, addF l x = l ++ r ∧ r.length ≤ 1 := by
  unfold addF
  by_cases h : x ∈ l
  · rw [if_pos h]; exact ⟨[], by simp, by simp⟩
  · rw [if_neg h]; exact ⟨[x], rfl, by simp⟩
theorem addF_nodup {α : Type} {l : List α} {x : α} (h : l.Nodup) : (addF l x).Nodup := by
  unfold addF
  by_cases hx : x ∈ l
  · rw [if_pos hx]; exact h
  · rw [if_neg hx]
    exact List.nodup_append.2 ⟨h, by simp, by intro a ha b hb; rw [List.mem_singleton.1 hb]; rintro rfl; exact hx ha⟩

/-- A plan on its way: shapes and nodes. -/
structure St where
  al : List Shp
  ns : List Nd
def widthAt (st : St) (u : Nat) : Int := match st.ns[u]? with | some n => n.width | none => 0
/-- The node of a pattern below u. -/
noncomputable def nodeOf (st : St) (kind : Int) (u : Nat) (p : Pat) : Nd :=
  ⟨kind, u, (placeF st.al (shapeF p) : Int), linksK p.args (widthAt st u) p.args.length, newK p.args (widthAt st u) p.args.length, noTst, widthAt st u + (newK p.args (widthAt st u) p.args.length).length⟩
noncomputable def patF (kind : Int) (x : Nat × St) (p : Pat) : Nat × St :=
  (placeF x.2.ns (nodeOf x.2 kind x.1 p), ⟨addF x.2.al (shapeF p), addF x.2.ns (nodeOf x.2 kind x.1 p)⟩)
def testOf (st : St) (u : Nat) (t : Tst) : Nd := ⟨2, u, -1, [], [], t, widthAt st u⟩
noncomputable def tstF (x : Nat × St) (t : Tst) : Nat × St := (placeF x.2.ns (testOf x.2 x.1 t), ⟨x.2.al, addF x.2.ns (testOf x.2 x.1 t)⟩)
/-- A rule's way. -/
noncomputable def ruleF (st : St) (r : Rl) : Nat × St := r.neg.foldl (patF 3) (r.tests.foldl tstF (r.pos.foldl (patF 1) (0, st)))
noncomputable def endF (x : St × List Nat) (r : Rl) : St × List Nat := ((ruleF x.1 r).2, x.2 ++ [(ruleF x.1 r).1])
/-- All rules' ways. -/
noncomputable def compF (rs : List Rl) : St × List Nat := rs.foldl endF (⟨[], [rootN]⟩, [])

/-- One condition. -/
noncomputable def nodeC (st : St) (u : Nat) (c : Cnd) : Nd := if c.kind = 2 then testOf st u c.t else nodeOf st c.kind u c.p
noncomputable def stepF (x : Nat × St) (c : Cnd) : Nat × St := if c.kind = 2 then tstF x c.t else patF c.kind x c.p
theorem ruleF_conds (st : St) (r : Rl) : ruleF st r = (conds r).foldl stepF (0, st) := by
  unfold ruleF conds
  rw [List.foldl_append, List.foldl_append, List.foldl_map, List.foldl_map, List.foldl_map]
  rfl

/-- A later state. -/
def Ext (a b : St) : Prop := (∃ r, b.al = a.al ++ r) ∧ (∃ r, b.ns = a.ns ++ r)
theorem Ext.refl (a : St) : Ext a a := ⟨⟨[], by simp⟩, ⟨[], by simp⟩⟩
theorem Ext.trans {a b c : St} (h : Ext a b) (k : Ext b c) : Ext a c := by
  obtain ⟨⟨r1, h1⟩, ⟨r2, h2⟩⟩ := h
  obtain ⟨⟨r3, h3⟩, ⟨r4, h4⟩⟩ := k
  exact ⟨⟨r1 ++ r3, by rw [h3, h1, List.append_assoc]⟩, ⟨r2 ++ r4, by rw [h4, h2, List.append_assoc]⟩⟩
theorem Ext.ns {a b : St} (h : Ext a b) {i : Nat} (hi : i < a.ns.length) : b.ns[i]? = a.ns[i]? := by
  obtain ⟨_, ⟨r, h⟩⟩ := h
  rw [h, List.getElem?_append_left hi]
theorem Ext.len {a b : St} (h : Ext a b) : a.ns.length ≤ b.ns.length := by
  obtain ⟨_, ⟨r, h⟩⟩ := h
  rw [h]; simp
theorem Ext.width {a b : St} (h : Ext a b) {i : Nat} (hi : i < a.ns.length) : widthAt b i = widthAt a i := by
  unfold widthAt; rw [h.ns hi]
theorem Ext.al {a b : St} (h : Ext a b) {i : Nat} {s : Shp} (hi : a.al[i]? = some s) : b.al[i]? = some s := by
  obtain ⟨⟨r, h⟩, _⟩ := h
  rw [h, List.getElem?_append_left (List.getElem?_eq_some_iff.1 hi).1]; exact hi
theorem ext_patF (kind : Int) (x : Nat × St) (p : Pat) : Ext x.2 (patF kind x p).2 := by
  obtain ⟨r1, h1, _⟩ := addF_pre x.2.al (shapeF p)
  obtain ⟨r2, h2, _⟩ := addF_pre x.2.ns (nodeOf x.2 kind x.1 p)
  exact ⟨⟨r1, h1⟩, ⟨r2, h2⟩⟩
theorem ext_tstF (x : Nat × St) (t : Tst) : Ext x.2 (tstF x t).2 := by
  obtain ⟨r2, h2, _⟩ := addF_pre x.2.ns (testOf x.2 x.1 t)
  exact ⟨⟨[], by simp [tstF]⟩, ⟨r2, h2⟩⟩
theorem ext_stepF (x : Nat × St) (c : Cnd) : Ext x.2 (stepF x c).2 := by
  unfold stepF
  split
  · exact ext_tstF x _
  · exact ext_patF _ x _
theorem ext_fold (cs : List Cnd) : ∀ x : Nat × St, Ext x.2 (cs.foldl stepF x).2 := by
  induction cs with
  | nil => intro x; exact Ext.refl _
  | cons c r ih => intro x; exact (ext_stepF x c).trans (ih _)
theorem ext_endF (x : St × List Nat) (r : Rl) : Ext x.1 (endF x r).1 := by
  unfold endF; rw [ruleF_conds]; exact ext_fold _ _
theorem ext_comp (rs : List Rl) : ∀ x : St × List Nat, Ext x.1 (rs.foldl endF x).1 := by
  induction rs with
  | nil => intro x; exact Ext.refl _
  | cons c r ih => intro x; exact (ext_endF x c).trans (ih _)

/-- A condition's shape stands among the shapes. -/
def Shaped (st : St) (c : Cnd) : Prop := c.kind ≠ 2 → shapeF c.p ∈ st.al
theorem nodeC_ext {a b : St} (h : Ext a b) {u : Nat} (hu : u < a.ns.length) {c : Cnd} (hc : Shaped a c) : nodeC b u c = nodeC a u c := by
  unfold nodeC
  split
  · unfold testOf; rw [h.width hu]
  · rename_i hk
    have hm := hc hk
    have e : placeF b.al (shapeF c.p) = placeF a.al (shapeF c.p) := by
      obtain ⟨⟨r, hr⟩, _⟩ := h
      rw [hr, placeF_app hm]
    unfold nodeOf; rw [h.width hu, e]
/-- What a step does. -/
theorem stepF_facts (x : Nat × St) (c : Cnd) (hu : x.1 < x.2.ns.length) : Shaped (stepF x c).2 c ∧ nodeC (stepF x c).2 x.1 c ∈ (stepF x c).2.ns ∧ (stepF x c).1 = placeF (stepF x c).2.ns (nodeC (stepF x c).2 x.1 c) ∧ (stepF x c).1 < (stepF x c).2.ns.length := by
  have hE := ext_stepF x c
  unfold stepF at hE ⊢
  by_cases hk : c.kind = 2
  · rw [if_pos hk] at hE ⊢
    have e : nodeC (tstF x c.t).2 x.1 c = testOf x.2 x.1 c.t := by
      unfold nodeC; rw [if_pos hk]; unfold testOf; rw [hE.width hu]
    rw [e]
    refine ⟨fun h => absurd hk h, addF_mem _ _, ?_, ?_⟩
    · exact (addF_place _ _).symm
    · have := (placeF_lt (addF_mem x.2.ns (testOf x.2 x.1 c.t))).1
      rw [addF_place] at this
      exact this
  · rw [if_neg hk] at hE ⊢
    have hs : Shaped (patF c.kind x c.p).2 c := fun _ => addF_mem _ _
    have e : nodeC (patF c.kind x c.p).2 x.1 c = nodeOf x.2 c.kind x.1 c.p := by
      unfold nodeC; rw [if_neg hk]
      have e1 : placeF (patF c.kind x c.p).2.al (shapeF c.p) = placeF x.2.al (shapeF c.p) := addF_place _ _
      unfold nodeOf; rw [hE.width hu, e1]
    rw [e]
    refine ⟨hs, addF_mem _ _, ?_, ?_⟩
    · exact (addF_place _ _).symm
    · have := (placeF_lt (addF_mem x.2.ns (nodeOf x.2 c.kind x.1 c.p))).1
      rw [addF_place] at this
      exact this

/-- The way of conditions from u on, read off a state. -/
noncomputable def wayF (st : St) : Nat → List Cnd → List Nat
  | _, [] => []
  | u, c :: r => placeF st.ns (nodeC st u c) :: wayF st (placeF st.ns (nodeC st u c)) r
/-- The conditions' nodes stand in the state. -/
def Stands (st : St) : Nat → List Cnd → Prop
  | _, [] => True
  | u, c :: r => u < st.ns.length ∧ Shaped st c ∧ nodeC st u c ∈ st.ns ∧ Stands st (placeF st.ns (nodeC st u c)) r
theorem stands_ext {a b : St} (h : Ext a b) : ∀ (cs : List Cnd) (u : Nat), Stands a u cs → Stands b u cs ∧ wayF b u cs = wayF a u cs
  | [], _, _ => ⟨trivial, rfl⟩
  | c :: r, u, ⟨hu, hs, hm, hr⟩ => by
    have e := nodeC_ext h hu hs
    have e2 : placeF b.ns (nodeC a u c) = placeF a.ns (nodeC a u c) := by
      obtain ⟨_, ⟨r, h⟩⟩ := h
      rw [h, placeF_app hm]
    obtain ⟨i1, i2⟩ := stands_ext h r _ hr
    refine ⟨⟨Nat.lt_of_lt_of_le hu h.len, fun hk => ?_, ?_, ?_⟩, ?_⟩
    · obtain ⟨⟨r, h⟩, _⟩ := h
      rw [h]; exact List.mem_append_left _ (hs hk)
    · obtain ⟨_, ⟨r, h⟩⟩ := h
      rw [e, h]; exact List.mem_append_left _ hm
    · rw [e, e2]; exact i1
    · simp only [wayF]; rw [e, e2, i2]
theorem stands_fold : ∀ (cs : List Cnd) (x : Nat × St), x.1 < x.2.ns.length → Stands (cs.foldl stepF x).2 x.1 cs ∧ (cs.foldl stepF x).1 = ((wayF (cs.foldl stepF x).2 x.1 cs).getLast?.getD x.1) ∧ (cs.foldl stepF x).1 < (cs.foldl stepF x).2.ns.length
  | [], x, hx => ⟨trivial, rfl, hx⟩
  | c :: r, x, hx => by
    obtain ⟨s1, s2, s3, s4⟩ := stepF_facts x c hx
    have hE := ext_fold r (stepF x c)
    obtain ⟨i1, i2, i3⟩ := stands_fold r (stepF x c) s4
    rw [List.foldl_cons]
    have hx' : x.1 < (stepF x c).2.ns.length := Nat.lt_of_lt_of_le hx (ext_stepF x c).len
    have e := nodeC_ext hE hx' s1
    have e2 : placeF (r.foldl stepF (stepF x c)).2.ns (nodeC (stepF x c).2 x.1 c) = (stepF x c).1 := by
      rw [s3]
      obtain ⟨_, ⟨q, h⟩⟩ := hE
      rw [h, placeF_app s2]
    refine ⟨⟨Nat.lt_of_lt_of_le hx' hE.len, fun hk => ?_, ?_, ?_⟩, ?_, i3⟩
    · obtain ⟨⟨q, h⟩, _⟩ := hE
      rw [h]; exact List.mem_append_left _ (s1 hk)
    · obtain ⟨_, ⟨q, h⟩⟩ := hE
      rw [e, h]; exact List.mem_append_left _ s2
    · rw [e, e2]; exact i1
    · rw [i2]
      simp only [wayF]
      rw [e, e2]
      cases hw : wayF (r.foldl stepF (stepF x c)).2 (stepF x c).1 r with
      | nil => rfl
      | cons a l =>
        rw [List.getLast?_cons_cons]
        cases hl : (a :: l).getLast? with
        | none => simp at hl
        | some z => rfl
end Go.Proofs.Ytonkbjdeaneicaa.Pln

namespace Go.Proofs.Ytonkbjdeaneicaa.Pln
open Classical

/-- How many variables are bound behind the slots. -/
noncomputable def scanD : List Slt → Nat → Nat
  | [], w => w
  | s :: r, w => scanD r (if s.v = true ∧ s.n = (w : Int) then w + 1 else w)
/-- Numbers 0 and above; new variables come in order. -/
def okA : List Slt → Nat → Prop
  | [], _ => True
  | s :: r, w => 0 ≤ s.n ∧ (s.v = true → s.n ≤ (w : Int)) ∧ okA r (if s.v = true ∧ s.n = (w : Int) then w + 1 else w)
def belowP (w : Nat) (s : Slt) : Prop := 0 ≤ s.n ∧ (s.v = true → s.n < (w : Int))

theorem scanD_app (a b : List Slt) : ∀ w, scanD (a ++ b) w = scanD b (scanD a w) := by
  induction a with
  | nil => intro w; rfl
  | cons s r ih => intro w; exact ih _
theorem okA_app (a b : List Slt) : ∀ w, okA (a ++ b) w ↔ okA a w ∧ okA b (scanD a w) := by
  induction a with
  | nil => intro w; simp [okA, scanD]
  | cons s r ih =>
    intro w
    simp only [List.cons_append, okA, scanD]
    rw [ih]
    constructor
    · rintro ⟨h1, h2, h3, h4⟩; exact ⟨⟨h1, h2, h3⟩, h4⟩
    · rintro ⟨⟨h1, h2, h3⟩, h4⟩; exact ⟨h1, h2, h3, h4⟩
theorem scanD_succ {args : List Slt} {k : Nat} {s : Slt} (h : args[k]? = some s) (w : Nat) : scanD (args.take (k + 1)) w = if s.v = true ∧ s.n = (scanD (args.take k) w : Int) then scanD (args.take k) w + 1 else scanD (args.take k) w := by
  rw [List.take_add_one, h, scanD_app]
  simp only [Option.toList_some, scanD]
theorem okA_take {args : List Slt} {w : Nat} (h : okA args w) (k : Nat) : okA (args.take k) w := by
  rw [← List.take_append_drop k args, okA_app] at h
  exact h.1
theorem okA_at {args : List Slt} {w : Nat} (h : okA args w) {k : Nat} {s : Slt} (hs : args[k]? = some s) : 0 ≤ s.n ∧ (s.v = true → s.n ≤ (scanD (args.take k) w : Int)) := by
  have h1 := okA_take h (k + 1)
  rw [List.take_add_one, hs, okA_app] at h1
  simp only [Option.toList_some, okA] at h1
  exact ⟨h1.2.1, h1.2.2.1⟩
theorem okA_snoc {args : List Slt} {w k : Nat} {s : Slt} (hs : args[k]? = some s) (h : okA (args.take k) w) (h0 : 0 ≤ s.n) (h1 : s.v = true → s.n ≤ (scanD (args.take k) w : Int)) : okA (args.take (k + 1)) w := by
  rw [List.take_add_one, hs, okA_app]
  exact ⟨h, by simp only [Option.toList_some, okA]; exact ⟨h0, h1, trivial⟩⟩
theorem scanD_le (a : List Slt) : ∀ w, w ≤ scanD a w := by
  induction a with
  | nil => intro w; exact Nat.le_refl _
  | cons s r ih =>
    intro w
    refine Nat.le_trans ?_ (ih _)
    split <;> omega
theorem scanD_len (a : List Slt) : ∀ w, scanD a w ≤ w + a.length := by
  induction a with
  | nil => intro w; exact Nat.le_refl _
  | cons s r ih =>
    intro w
    refine Nat.le_trans (ih _) ?_
    simp only [List.length_cons]
    split <;> omega
theorem scanD_mono {args : List Slt} {w j k : Nat} (h : j ≤ k) : scanD (args.take j) w ≤ scanD (args.take k) w := by
  have e : args.take k = args.take j ++ (args.drop j).take (k - j) := by
    obtain ⟨d, rfl⟩ : ∃ d, k = j + d := ⟨k - j, by omega⟩
    rw [Nat.add_sub_cancel_left, List.take_add]
  rw [e, scanD_app]
  exact scanD_le _ _
theorem below_okA {args : List Slt} {w : Nat} (h : ∀ s ∈ args, belowP w s) : okA args w ∧ scanD args w = w := by
  induction args with
  | nil => exact ⟨trivial, rfl⟩
  | cons s r ih =>
    obtain ⟨h0, h1⟩ := h s (List.mem_cons_self ..)
    obtain ⟨i1, i2⟩ := ih (fun t ht => h t (List.mem_cons_of_mem _ ht))
    have e : ¬ (s.v = true ∧ s.n = (w : Int)) := fun hh => by have := h1 hh.1; omega
    simp only [okA, scanD]
    rw [if_neg e]
    exact ⟨⟨h0, fun hv => by have := h1 hv; omega, i1⟩, i2⟩
/-- A variable that is bound behind k places and not ahead stands among them. -/
theorem seen {args : List Slt} {w : Nat} : ∀ (k : Nat), k ≤ args.length → ∀ n : Nat, w ≤ n → n < scanD (args.take k) w → ∃ j, j < k ∧ args[j]? = some ⟨true, n⟩
  | 0, _, n, h1, h2 => by simp [scanD] at h2; omega
  | k + 1, hk, n, h1, h2 => by
    obtain ⟨s, hs⟩ : ∃ s, args[k]? = some s := ⟨_, List.getElem?_eq_getElem (by omega)⟩
    rw [scanD_succ hs] at h2
    by_cases hlt : n < scanD (args.take k) w
    · obtain ⟨j, hj, h⟩ := seen k (by omega) n h1 hlt
      exact ⟨j, by omega, h⟩
    · by_cases hc : s.v = true ∧ s.n = (scanD (args.take k) w : Int)
      · rw [if_pos hc] at h2
        obtain rfl : n = scanD (args.take k) w := by omega
        refine ⟨k, by omega, ?_⟩
        rw [hs]
        obtain ⟨v, m⟩ := s
        obtain ⟨h3, h4⟩ := hc
        simp only at h3 h4
        rw [h3, h4]
      · rw [if_neg hc] at h2; omega

theorem firstV_le {args : List Slt} {k : Nat} {s : Slt} (h : args[k]? = some s) (hv : s.v = true) : firstV args s.n ≤ k := by
  induction args generalizing k with
  | nil => simp at h
  | cons a r ih =>
    unfold firstV
    split
    · omega
    · rename_i hn
      match k with
      | 0 =>
        simp at h
        subst h
        exact absurd ⟨hv, rfl⟩ hn
      | k + 1 =>
        have := ih (k := k) (by simpa using h)
        omega
theorem firstV_at {args : List Slt} {n : Int} (h : firstV args n < args.length) : args[firstV args n]? = some ⟨true, n⟩ := by
  induction args with
  | nil => simp at h
  | cons a r ih =>
    unfold firstV at h ⊢
    split
    · rename_i hn
      obtain ⟨v, m⟩ := a
      obtain ⟨h3, h4⟩ := hn
      simp only at h3 h4
      simp [h3, h4]
    · rename_i hn
      rw [if_neg hn] at h
      simp only [List.getElem?_cons_succ]
      exact ih (by simpa using h)
theorem firstV_first {args : List Slt} {n : Int} : ∀ j, j < firstV args n → args[j]? ≠ some ⟨true, n⟩ := by
  induction args with
  | nil => intro j h; simp
  | cons a r ih =>
    intro j h
    unfold firstV at h
    split at h
    · omega
    · rename_i hn
      match j with
      | 0 =>
        intro he
        simp at he
        subst he
        exact hn ⟨rfl, rfl⟩
      | j + 1 => simpa using ih j (by omega)
theorem slt_var {s : Slt} (h : s.v = true) : s = ⟨true, s.n⟩ := by
  obtain ⟨v, n⟩ := s
  simp only at h
  rw [h]

/-- A variable that comes for the first time and is not bound ahead is the next one. -/
theorem fresh_at {args : List Slt} {w k : Nat} {s : Slt} (h : okA args w) (hs : args[k]? = some s) (hv : s.v = true) (hf : firstV args s.n = k) (hw : ¬ s.n < (w : Int)) : s.n = (scanD (args.take k) w : Int) := by
  obtain ⟨h0, h1⟩ := okA_at h hs
  have h1 := h1 hv
  obtain ⟨n, hn⟩ := Int.eq_ofNat_of_zero_le h0
  rcases Int.lt_or_eq_of_le h1 with hlt | heq
  · obtain ⟨j, hj, he⟩ := seen (args := args) (w := w) k (Nat.le_of_lt (List.getElem?_eq_some_iff.1 hs).1) n (by omega) (by omega)
    exact absurd he (by have := firstV_first (args := args) (n := s.n) j (by omega); rw [hn] at this; exact this)
  · exact heq
/-- The next variable comes for the first time. -/
theorem next_first {args : List Slt} {w k : Nat} {s : Slt} (h : okA args w) (hs : args[k]? = some s) (hv : s.v = true) (hn : s.n = (scanD (args.take k) w : Int)) : firstV args s.n = k ∧ ¬ s.n < (w : Int) := by
  have hle := firstV_le hs hv
  have hl := (List.getElem?_eq_some_iff.1 hs).1
  refine ⟨?_, by have := scanD_le (args.take k) w; omega⟩
  rcases Nat.lt_or_ge (firstV args s.n) k with hlt | hge
  · exfalso
    have ha := firstV_at (args := args) (n := s.n) (by omega)
    obtain ⟨-, h1⟩ := okA_at h ha
    have h1 := h1 rfl
    have hm := scanD_mono (args := args) (w := w) (j := firstV args s.n + 1) (k := k) (by omega)
    have hm0 := scanD_mono (args := args) (w := w) (j := firstV args s.n) (k := k) (by omega)
    rw [scanD_succ ha] at hm
    simp only [true_and] at h1 hm
    rw [if_pos (by omega)] at hm
    omega
  · omega
theorem new_count {args : List Slt} {w : Nat} (h : okA args w) : ∀ k, k ≤ args.length → w + (newK args w k).length = scanD (args.take k) w
  | 0, _ => by simp [newK_zero, scanD]
  | k + 1, hk => by
    obtain ⟨s, hs⟩ : ∃ s, args[k]? = some s := ⟨_, List.getElem?_eq_getElem (by omega)⟩
    have ih := new_count h k (by omega)
    rw [scanD_succ hs, newK_succ, List.length_append]
    unfold newAt
    rw [hs]
    by_cases hc : s.v = true ∧ s.n = (scanD (args.take k) w : Int)
    · obtain ⟨h1, h2⟩ := next_first h hs hc.1 hc.2
      rw [if_pos hc]
      simp only
      rw [if_pos ⟨hc.1, h1, h2⟩]
      simp only [List.length_singleton]
      omega
    · rw [if_neg hc]
      simp only
      rw [if_neg (fun hh => hc ⟨hh.1, fresh_at h hs hh.1 hh.2.1 hh.2.2⟩)]
      simp only [List.length_nil]
      omega
theorem new_below {args : List Slt} {w : Nat} (h : ∀ s ∈ args, belowP w s) (k : Nat) (hk : k ≤ args.length) : newK args w k = [] := by
  obtain ⟨h1, h2⟩ := below_okA h
  have := new_count h1 k hk
  have hm := scanD_mono (args := args) (w := w) hk
  rw [List.take_length, h2] at hm
  exact List.eq_nil_of_length_eq_zero (by omega)

/-- May a rule be compiled? w variables. -/
structure Fit (r : Rl) (w : Nat) : Prop where
  many : r.pos.length + r.tests.length + r.neg.length ≤ 16
  pats : ∀ p ∈ r.pos, 0 ≤ p.pred ∧ p.args.length ≤ 8
  ok : okA (r.pos.flatMap Pat.args) 0
  wid : scanD (r.pos.flatMap Pat.args) 0 = w
  w16 : w ≤ 16
  tst : ∀ t ∈ r.tests, 1 ≤ t.op ∧ t.op ≤ 6 ∧ belowP w t.l ∧ belowP w t.r
  ngs : ∀ p ∈ r.neg, 0 ≤ p.pred ∧ p.args.length ≤ 8 ∧ ∀ s ∈ p.args, belowP w s
def mayP (r : Rl) : Prop := ∃ w, Fit r w

/-- The conditions fit, under which w variables are bound: how many are bound behind them. -/
def okC (w : Nat) (c : Cnd) : Prop :=
  (c.kind = 1 ∧ c.t = noTst ∧ okA c.p.args w) ∨ (c.kind = 2 ∧ c.p = noPat ∧ belowP w c.t.l ∧ belowP w c.t.r) ∨ (c.kind = 3 ∧ c.t = noTst ∧ ∀ s ∈ c.p.args, belowP w s)
noncomputable def nextW (w : Nat) (c : Cnd) : Nat := if c.kind = 1 then scanD c.p.args w else w
def okCs : Nat → List Cnd → Prop
  | _, [] => True
  | w, c :: r => okC w c ∧ okCs (nextW w c) r
theorem okCs_pos (w' : Nat) (cs : List Cnd) : ∀ (pos : List Pat) (w : Nat), okA (pos.flatMap Pat.args) w → scanD (pos.flatMap Pat.args) w = w' → okCs w' cs → okCs w (pos.map (fun p => (⟨1, p, noTst⟩ : Cnd)) ++ cs)
  | [], w, _, h2, h3 => by
    have e : w = w' := h2
    rw [e]; exact h3
  | p :: l, w, h1, h2, h3 => by
    rw [List.flatMap_cons, okA_app] at h1
    rw [List.flatMap_cons, scanD_app] at h2
    refine ⟨.inl ⟨rfl, rfl, h1.1⟩, ?_⟩
    simp only [nextW, if_true]
    exact okCs_pos w' cs l _ h1.2 h2 h3
theorem okCs_const (w : Nat) : ∀ (cs : List Cnd), (∀ c ∈ cs, okC w c ∧ c.kind ≠ 1) → okCs w cs
  | [], _ => trivial
  | c :: l, h => by
    obtain ⟨h1, h2⟩ := h c (List.mem_cons_self ..)
    refine ⟨h1, ?_⟩
    unfold nextW
    rw [if_neg h2]
    exact okCs_const w l (fun d hd => h d (List.mem_cons_of_mem _ hd))
theorem Fit.okCs {r : Rl} {w : Nat} (h : Fit r w) : okCs 0 (conds r) := by
  unfold conds
  rw [List.append_assoc]
  refine okCs_pos w _ r.pos 0 h.ok h.wid (okCs_const w _ (fun c hc => ?_))
  rcases List.mem_append.1 hc with hc | hc
  · obtain ⟨t, ht, rfl⟩ := List.mem_map.1 hc
    obtain ⟨_, _, h1, h2⟩ := h.tst t ht
    exact ⟨.inr (.inl ⟨rfl, rfl, h1, h2⟩), by show (2 : Int) ≠ 1; decide⟩
  · obtain ⟨p, hp, rfl⟩ := List.mem_map.1 hc
    obtain ⟨_, _, h1⟩ := h.ngs p hp
    exact ⟨.inr (.inr ⟨rfl, rfl, h1⟩), by show (3 : Int) ≠ 1; decide⟩
theorem conds_len (r : Rl) : (conds r).length = r.pos.length + r.tests.length + r.neg.length := by
  unfold conds; simp; omega
theorem okC.okA {w : Nat} {c : Cnd} (h : okC w c) (hk : c.kind ≠ 2) : okA c.p.args w := by
  rcases h with ⟨_, _, h⟩ | ⟨h, _⟩ | ⟨_, _, h⟩
  · exact h
  · exact absurd h hk
  · exact (below_okA h).1
theorem okC.next {w : Nat} {c : Cnd} (h : okC w c) (hk : c.kind ≠ 2) : nextW w c = w + (newK c.p.args w c.p.args.length).length := by
  rcases h with ⟨h1, _, h⟩ | ⟨h, _⟩ | ⟨h1, _, h⟩
  · unfold nextW
    rw [if_pos h1, new_count h _ (Nat.le_refl _), List.take_length]
  · exact absurd h hk
  · unfold nextW
    rw [if_neg (by rw [h1]; decide), new_below h _ (Nat.le_refl _)]
    rfl
theorem nodeC_width {st : St} {u w : Nat} {c : Cnd} (h : okC w c) (hw : widthAt st u = w) : (nodeC st u c).width = nextW w c := by
  unfold nodeC
  by_cases hk : c.kind = 2
  · rw [if_pos hk]
    unfold nextW
    rw [if_neg (by rw [hk]; decide)]
    exact hw
  · rw [if_neg hk, h.next hk]
    unfold nodeOf
    rw [hw]
    simp

/-- Two patterns of one shape, with the same links and new places. -/
theorem pat_inj {p q : Pat} {w : Nat} (hp : okA p.args w) (hq : okA q.args w) (hs : shapeF p = shapeF q) (hl : linksK p.args w p.args.length = linksK q.args w q.args.length) (hn : newK p.args w p.args.length = newK q.args w q.args.length) : p = q := by
  obtain ⟨pp, pa⟩ := p
  obtain ⟨qp, qa⟩ := q
  simp only [shapeF, Shp.mk.injEq] at hs hl hn hp hq
  obtain ⟨rfl, hc⟩ := hs
  have hlen : pa.length = qa.length := by have := congrArg List.length hc; simpa using this
  suffices h : ∀ k, k ≤ pa.length → pa.take k = qa.take k ∧ linksK pa w k = linksK qa w k ∧ newK pa w k = newK qa w k by
    have := (h pa.length (Nat.le_refl _)).1
    rw [List.take_length, hlen, List.take_length] at this
    rw [this]
  have pre : ∀ (a : List Slt) (k : Nat), k ≤ a.length → ∃ r, linksK a w a.length = linksK a w k ++ r ∧ ∀ x ∈ r, (k : Int) ≤ x.1 := by
    intro a k hk
    obtain ⟨d, hd⟩ : ∃ d, a.length = k + d := ⟨a.length - k, by omega⟩
    rw [hd]
    clear hd hk
    induction d with
    | zero => exact ⟨[], by simp, by simp⟩
    | succ d ih =>
      obtain ⟨r, h1, h2⟩ := ih
      refine ⟨r ++ linkAt a w (k + d), by rw [← Nat.add_assoc, linksK_succ, h1, List.append_assoc], fun x hx => ?_⟩
      rcases List.mem_append.1 hx with hx | hx
      · exact h2 x hx
      · unfold linkAt at hx
        split at hx
        · split at hx
          · rw [List.mem_singleton.1 hx]; simp; omega
          · simp at hx
        · simp at hx
  have pren : ∀ (a : List Slt) (k : Nat), k ≤ a.length → ∃ r, newK a w a.length = newK a w k ++ r ∧ ∀ x ∈ r, (k : Int) ≤ x := by
    intro a k hk
    obtain ⟨d, hd⟩ : ∃ d, a.length = k + d := ⟨a.length - k, by omega⟩
    rw [hd]
    clear hd hk
    induction d with
    | zero => exact ⟨[], by simp, by simp⟩
    | succ d ih =>
      obtain ⟨r, h1, h2⟩ := ih
      refine ⟨r ++ newAt a w (k + d), by rw [← Nat.add_assoc, newK_succ, h1, List.append_assoc], fun x hx => ?_⟩
      rcases List.mem_append.1 hx with hx | hx
      · exact h2 x hx
      · unfold newAt at hx
        split at hx
        · split at hx
          · rw [List.mem_singleton.1 hx]; omega
          · simp at hx
        · simp at hx
  intro k
  induction k with
  | zero => intro _; exact ⟨by simp, rfl, rfl⟩
  | succ k ih =>
    intro hk
    obtain ⟨i1, i2, i3⟩ := ih (by omega)
    obtain ⟨s, hs⟩ : ∃ s, pa[k]? = some s := ⟨_, List.getElem?_eq_getElem (by omega)⟩
    obtain ⟨t, ht⟩ : ∃ t, qa[k]? = some t := ⟨_, List.getElem?_eq_getElem (by omega)⟩
    have hcell : cellF pa s = cellF qa t := by
      have h1 : (pa.map (cellF pa))[k]? = some (cellF pa s) := by rw [List.getElem?_map, hs]; rfl
      have h2 : (qa.map (cellF qa))[k]? = some (cellF qa t) := by rw [List.getElem?_map, ht]; rfl
      rw [hc, h2] at h1
      exact (Option.some.inj h1).symm
    have s0 := (okA_at hp hs).1
    have t0 := (okA_at hq ht).1
    have hv : s.v = t.v ∧ (s.v = false → s.n = t.n) ∧ (s.v = true → firstV pa s.n = firstV qa t.n) := by
      unfold cellF at hcell
      by_cases h1 : s.v = true <;> by_cases h2 : t.v = true
      · rw [if_pos h1, if_pos h2] at hcell
        exact ⟨by rw [h1, h2], fun h => absurd (h1.symm.trans h) (by decide), fun _ => by omega⟩
      · rw [if_pos h1, if_neg h2] at hcell; omega
      · rw [if_neg h1, if_pos h2] at hcell; omega
      · rw [if_neg h1, if_neg h2] at hcell
        exact ⟨by simp only [Bool.not_eq_true] at h1 h2; rw [h1, h2], fun _ => hcell, fun h => absurd h h1⟩
    obtain ⟨hv1, hv2, hv3⟩ := hv
    have hst : s = t := by
      obtain ⟨sv, sn⟩ := s
      obtain ⟨tv, tn⟩ := t
      simp only at hv1 hv2 hv3 hs ht s0 t0
      subst hv1
      cases sv with
      | false => rw [hv2 rfl]
      | true =>
        have hf := hv3 rfl
        have hle := firstV_le hs rfl
        simp only at hle
        rcases Nat.lt_or_ge (firstV pa sn) k with hlt | hge
        · have h1 := firstV_at (args := pa) (n := sn) (by omega)
          have h2 := firstV_at (args := qa) (n := tn) (by omega)
          have h3 : (pa.take k)[firstV pa sn]? = (qa.take k)[firstV qa tn]? := by rw [i1, hf]
          rw [List.getElem?_take_of_lt hlt, List.getElem?_take_of_lt (by omega), h1, h2] at h3
          exact Option.some.inj h3
        · have e1 : firstV pa sn = k := by omega
          have e2 : firstV qa tn = k := by omega
          obtain ⟨rp, l1, l2⟩ := pre pa (k + 1) hk
          obtain ⟨rq, l3, l4⟩ := pre qa (k + 1) (by omega)
          rw [linksK_succ] at l1 l3
          rw [l1, l3, i2, List.append_assoc, List.append_assoc] at hl
          have hl := List.append_cancel_left hl
          unfold linkAt at hl
          rw [hs, ht] at hl
          simp only [e1, e2, true_and] at hl
          by_cases c1 : sn < (w : Int) <;> by_cases c2 : tn < (w : Int)
          · rw [if_pos c1, if_pos c2] at hl
            simp only [List.singleton_append, List.cons.injEq, Prod.mk.injEq, true_and] at hl
            rw [hl.1]
          · rw [if_pos c1, if_neg c2] at hl
            have := l4 ((k : Int), sn) (by rw [← show [((k : Int), sn)] ++ rp = rq by simpa using hl]; simp)
            simp at this
            omega
          · rw [if_neg c1, if_pos c2] at hl
            have := l2 ((k : Int), tn) (by rw [show rp = [((k : Int), tn)] ++ rq by simpa using hl]; simp)
            simp at this
            omega
          · have f1 := fresh_at hp hs rfl e1 c1
            have f2 := fresh_at hq ht rfl e2 c2
            rw [i1] at f1
            simp only at f1 f2
            rw [f1, f2]
    subst hst
    have i1' : pa.take (k + 1) = qa.take (k + 1) := by rw [List.take_add_one, List.take_add_one, hs, ht, i1]
    have hff : s.v = true → firstV pa s.n = firstV qa s.n := hv3
    refine ⟨i1', ?_, ?_⟩
    · rw [linksK_succ, linksK_succ, i2]
      unfold linkAt
      rw [hs, ht]
      by_cases h1 : s.v = true
      · simp only [hff h1]
      · simp only
        rw [if_neg (fun h : s.v = true ∧ _ => h1 h.1), if_neg (fun h : s.v = true ∧ _ => h1 h.1)]
    · rw [newK_succ, newK_succ, i3]
      unfold newAt
      rw [hs, ht]
      by_cases h1 : s.v = true
      · simp only [hff h1]
      · simp only
        rw [if_neg (fun h : s.v = true ∧ _ => h1 h.1), if_neg (fun h : s.v = true ∧ _ => h1 h.1)]

theorem nodeC_inj {st : St} {u w : Nat} {c d : Cnd} (hc : okC w c) (hd : okC w d) (hw : widthAt st u = w) (sc : Shaped st c) (sd : Shaped st d) (h : nodeC st u c = nodeC st u d) : c = d := by
  obtain ⟨ck, cp, ct⟩ := c
  obtain ⟨dk, dp, dt⟩ := d
  have hk : ck = dk := by
    have := congrArg Nd.kind h
    unfold nodeC at this
    by_cases h1 : ck = 2 <;> by_cases h2 : dk = 2
    · rw [h1, h2]
    · simp only [h1, h2, if_true, if_false, testOf, nodeOf] at this; exact absurd this.symm h2
    · simp only [h1, h2, if_true, if_false, testOf, nodeOf] at this
    · simp only [h1, h2, if_false, nodeOf] at this; exact this
  subst hk
  by_cases h1 : ck = 2
  · subst h1
    unfold nodeC at h
    simp only [if_true, testOf, Nd.mk.injEq, true_and, and_true] at h
    rcases hc with ⟨hh, _⟩ | ⟨_, e1, _⟩ | ⟨hh, _⟩
    · exact absurd hh (by intro h; cases h)
    · rcases hd with ⟨hh, _⟩ | ⟨_, e2, _⟩ | ⟨hh, _⟩
      · exact absurd hh (by intro h; cases h)
      · simp only at e1 e2
        rw [e1, e2, h]
      · exact absurd hh (by intro h; cases h)
    · exact absurd hh (by intro h; cases h)
  · have o1 := hc.okA h1
    have o2 := hd.okA h1
    unfold nodeC at h
    simp only [h1, if_false, nodeOf, Nd.mk.injEq, true_and] at h
    obtain ⟨ha, hl, hn, _⟩ := h
    rw [hw] at hl hn
    have hs := placeF_inj (sc h1) (sd h1) (Int.ofNat.inj ha)
    have e := pat_inj o1 o2 hs hl hn
    simp only at e
    have t1 : ct = noTst := by
      rcases hc with ⟨_, e1, _⟩ | ⟨hh, _⟩ | ⟨_, e1, _⟩
      · exact e1
      · exact absurd hh h1
      · exact e1
    have t2 : dt = noTst := by
      rcases hd with ⟨_, e1, _⟩ | ⟨hh, _⟩ | ⟨_, e1, _⟩
      · exact e1
      · exact absurd hh h1
      · exact e1
    rw [e, t1, t2]
end Go.Proofs.Ytonkbjdeaneicaa.Pln
