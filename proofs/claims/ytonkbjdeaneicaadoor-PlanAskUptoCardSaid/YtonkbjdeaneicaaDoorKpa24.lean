/- A well formed plan is what the rules that are read back from it compile to. No program in sight. The opening of arguments: a plan; how long its lists are. The reference's small functions: pattern, slots, first, equalInts, equalShape. -/
import Derived.Test.YtonkbjdeaneicaaDoorKpa06
import Derived.Test.YtonkbjdeaneicaaDoorKpa10
import Derived.Test.YtonkbjdeaneicaaDoorKpa13
import Derived.Test.YtonkbjdeaneicaaDoorKpa14
import Derived.Test.YtonkbjdeaneicaaDoorKpa21
import Derived.Test.YtonkbjdeaneicaaDoorKpa23
import Derived.Deep.Cut
namespace Go.Proofs.YtonkbjdeaneicaaDoor.Pln
open Classical

/-- The pattern of a node, read back. -/
noncomputable def backP (al : List Shp) (n : Nd) (w : Int) : Option Pat :=
  if 0 ≤ n.alpha ∧ n.alpha < (al.length : Int) then match al[n.alpha.toNat]? with
    | some s => (backK s.cells n.links n.new w s.cells.length).map (fun a => ⟨s.pred, a⟩)
    | none => none
  else none
/-- A rule that is being read back. -/
structure RB where
  w : Int
  pos : List Pat
  tests : List Tst
  neg : List Pat
noncomputable def rbS (al : List Shp) (ns : List Nd) (x : Option RB) (v : Nat) : Option RB := match x, ns[v]? with
  | some b, some n => if n.kind = 2 then some ⟨b.w, b.pos, b.tests ++ [n.test], b.neg⟩ else match backP al n b.w with
    | some p => if n.kind = 1 then some ⟨b.w + (n.new.length : Int), b.pos ++ [p], b.tests, b.neg⟩ else some ⟨b.w, b.pos, b.tests, b.neg ++ [p]⟩
    | none => none
  | _, _ => none
def rb0 : RB := ⟨0, [], [], []⟩
/-- The way to any number, if the parents lead there. -/
def wayO (ns : List Nd) : Nat → Int → Option (List Nat)
  | f, e => if e = 0 then some [] else match f with
    | 0 => none
    | f + 1 => if e < 0 then none else match ns[e.toNat]? with
      | none => none
      | some n => if e ≤ n.parent then none else (wayO ns f n.parent).map (· ++ [e.toNat])
def wayR (ns : List Nd) (e : Int) : Option (List Nat) := wayO ns e.toNat e
def rlOf (b : RB) : Rl := ⟨noPat, b.pos, b.tests, b.neg, [], 0⟩
noncomputable def ruleB (al : List Shp) (ns : List Nd) (e : Int) : Option Rl := match wayR ns e with
  | none => none
  | some l => (l.foldl (rbS al ns) (some rb0)).map rlOf
noncomputable def rulesS (al : List Shp) (ns : List Nd) (x : Option (List Rl)) (e : Int) : Option (List Rl) := match x, ruleB al ns e with
  | some l, some r => some (l ++ [r])
  | _, _ => none
noncomputable def rulesB (al : List Shp) (ns : List Nd) (es : List Int) : Option (List Rl) := es.foldl (rulesS al ns) (some [])
/-- The plan is what the rules read back compile to. -/
def refP (al : List Shp) (ns : List Nd) (es : List Int) : Prop := ns ≠ [] ∧ ∃ rs, rulesB al ns es = some rs ∧ (∀ r ∈ rs, mayP r) ∧ (compF rs).1 = ⟨al, ns⟩ ∧ ((compF rs).2.map fun (e : Nat) => (e : Int)) = es

theorem wayO_eq {ns : List Nd} (h : Par ns) : ∀ (f e : Nat), e ≤ f → e < ns.length → wayO ns f (e : Int) = some (wayG ns f e)
  | 0, e, he, _ => by
    obtain rfl : e = 0 := by omega
    simp [wayO, wayG]
  | f + 1, e, he, hn => by
    unfold wayO wayG
    by_cases h0 : e = 0
    · rw [if_pos (by omega), if_pos h0]
    · rw [if_neg (by omega), if_neg h0]
      obtain ⟨n, hne⟩ : ∃ n, ns[e]? = some n := ⟨_, List.getElem?_eq_getElem hn⟩
      obtain ⟨u, hu, hp⟩ := h e n hne (by omega)
      have hpo : parentOf ns e = u := by unfold parentOf; rw [hne]; simp only; omega
      simp only
      rw [if_neg (by omega), Int.toNat_natCast, hne]
      simp only
      rw [if_neg (by omega), hp, wayO_eq h f u (by omega) (by omega), hpo]
      rfl
theorem wayR_eq {ns : List Nd} (h : Par ns) {e : Int} (h0 : 0 ≤ e) (h1 : e < (ns.length : Int)) : wayR ns e = some (wayN ns e.toNat) := by
  obtain ⟨k, rfl⟩ := Int.eq_ofNat_of_zero_le h0
  unfold wayR wayN
  rw [Int.toNat_natCast]
  exact wayO_eq h k k (Nat.le_refl _) (by omega)

/-- Each is the parent of the next. -/
def Lnk (ns : List Nd) : Nat → List Nat → Prop
  | _, [] => True
  | u, v :: r => u < v ∧ (∃ n, ns[v]? = some n ∧ n.parent = u) ∧ Lnk ns v r
theorem lnk_of {al : List Shp} {ns : List Nd} : ∀ (l : List Nat) (u : Nat), (∀ (i v : Nat), l[i]? = some v → (u :: l).getD i 0 < v ∧ ∃ m, ns[v]? = some m ∧ m.parent = ((u :: l).getD i 0 : Nat)) → Lnk ns u l
  | [], _, _ => trivial
  | v :: r, u, h => by
    obtain ⟨h1, m, h2, h3⟩ := h 0 v rfl
    refine ⟨h1, ⟨m, h2, h3⟩, lnk_of (al := al) r v (fun i x hx => ?_)⟩
    have := h (i + 1) x (by simpa using hx)
    simpa using this

theorem take_seen {α : Type} {l : List α} {v m : Nat} {x : α} (hx : l[v]? = some x) (hf : ∀ j, j < v → l[j]? ≠ some x) (hm : v < m) : placeF (l.take m) x = v ∧ addF (l.take m) x = l.take m := by
  have h1 : (l.take m)[v]? = some x := by rw [List.getElem?_take_of_lt hm]; exact hx
  refine ⟨placeF_at h1 (fun j hj => by rw [List.getElem?_take_of_lt (by omega)]; exact hf j hj), ?_⟩
  unfold addF
  rw [if_pos (List.mem_of_getElem? h1)]
theorem take_new {α : Type} {l : List α} {m : Nat} {x : α} (hx : l[m]? = some x) (hf : ∀ j, j < m → l[j]? ≠ some x) : placeF (l.take m) x = m ∧ addF (l.take m) x = l.take (m + 1) := by
  have hl := (List.getElem?_eq_some_iff.1 hx).1
  have hn : x ∉ l.take m := fun h => by
    obtain ⟨j, hj⟩ := List.getElem?_of_mem h
    have h2 := (List.getElem?_eq_some_iff.1 hj).1
    rw [List.length_take] at h2
    rw [List.getElem?_take_of_lt (by omega)] at hj
    exact hf j (by omega) hj
  refine ⟨by rw [placeF_none hn, List.length_take]; omega, ?_⟩
  unfold addF
  rw [if_neg hn, List.take_add_one, hx]
  rfl
theorem need_up {m : Nat} : ∀ (ns : List Nd) (q q' : Nat), ns.foldl (needF m) (some q) = some q' → q ≤ q'
  | [], q, q', h => by simp only [List.foldl_nil, Option.some.injEq] at h; omega
  | a :: r, q, q', h => by
    rw [List.foldl_cons] at h
    cases hx : needF m (some q) a with
    | none => rw [hx, needs_none] at h; cases h
    | some b =>
      rw [hx] at h
      have h1 := need_up r b q' h
      have h2 : q ≤ b := by
        unfold needF at hx
        simp only at hx
        split at hx
        · split at hx
          · split at hx
            · injection hx with hx; omega
            · injection hx with hx; omega
          · cases hx
        · injection hx with hx; omega
      omega
theorem need_lt {m : Nat} : ∀ (ns : List Nd) (q q' : Nat), ns.foldl (needF m) (some q) = some q' → ∀ n ∈ ns, n.kind = 1 ∨ n.kind = 3 → n.alpha < (q' : Int)
  | [], _, _, _, n, hn, _ => by cases hn
  | a :: r, q, q', h, n, hn, hk => by
    rw [List.foldl_cons] at h
    cases hx : needF m (some q) a with
    | none => rw [hx, needs_none] at h; cases h
    | some b =>
      rw [hx] at h
      rcases List.mem_cons.1 hn with rfl | hn
      · have h1 := need_up r b q' h
        unfold needF at hx
        simp only at hx
        rw [if_pos hk] at hx
        split at hx
        · split at hx
          · injection hx with hx; omega
          · injection hx with hx; omega
        · cases hx
      · exact need_lt r b q' h n hn hk

/-- What a well formed node says. -/
structure Cnode (al : List Shp) (n : Nd) (u w : Nat) (c : Cnd) : Prop where
  kind : c.kind = n.kind
  atom : n.kind ≠ 2 → backP al n w = some c.p ∧ c.t = noTst ∧ 0 ≤ c.p.pred ∧ c.p.args.length ≤ 8 ∧ ∃ ai : Nat, n.alpha = ai ∧ al[ai]? = some (shapeF c.p)
  pos : n.kind = 1 → okA c.p.args w ∧ n.width = (scanD c.p.args w : Int) ∧ n.width = (w : Int) + (n.new.length : Int) ∧ n.width ≤ 16
  neg : n.kind = 3 → (∀ s ∈ c.p.args, belowP w s) ∧ n.width = (w : Int)
  test : n.kind = 2 → c.p = noPat ∧ c.t = n.test ∧ 1 ≤ c.t.op ∧ c.t.op ≤ 6 ∧ belowP w c.t.l ∧ belowP w c.t.r ∧ n.width = (w : Int)
  node : ∀ st : St, widthAt st u = (w : Int) → (n.kind ≠ 2 → (placeF st.al (shapeF c.p) : Int) = n.alpha) → nodeC st u c = n
theorem cnode_of {al : List Shp} {n up : Nd} {u w : Nat} (hn : nodeP al n up) (hp : n.parent = u) (hw : up.width = (w : Int)) (hv : ∀ ai s, n.kind ≠ 2 → n.alpha = (ai : Nat) → al[ai]? = some s → validS s ∧ s.cells.length ≤ 8) : ∃ c, Cnode al n u w c := by
  have atom : n.kind = 1 ∨ (n.kind = 3 ∧ n.new = []) → placesN al n up.width → ∃ c, Cnode al n u w c := by
    rintro hk ⟨ai, s, h1, h2, ⟨h3, h4, h5⟩, h6, h7, h8⟩
    have hk2 : n.kind ≠ 2 := by omega
    obtain ⟨v1, v2⟩ := hv ai s hk2 h1 h2
    rw [hw] at h6
    have P : PlOk s.cells n.links n.new w := ⟨h6, h7, h8, fun i c hc h0 => v1.2 i (List.getElem?_eq_some_iff.1 hc).1 c hc h0⟩
    obtain ⟨b1, b2, b3, b4, b5, b6⟩ := P.all
    have hsh : shapeF ⟨s.pred, argsB s.cells n.links n.new w⟩ = s := by
      unfold shapeF
      simp only
      rw [b4]
    have hl := (List.getElem?_eq_some_iff.1 h2).1
    refine ⟨⟨n.kind, ⟨s.pred, argsB s.cells n.links n.new w⟩, noTst⟩, rfl, fun _ => ⟨?_, rfl, v1.1, by simp only; omega, ai, h1, by rw [hsh]; exact h2⟩, ?_, ?_, fun h => absurd h hk2, ?_⟩
    · unfold backP
      rw [if_pos ⟨by omega, by omega⟩, h1, Int.toNat_natCast, h2]
      simp only
      rw [b1]
      rfl
    · intro _
      refine ⟨b3, ?_, by rw [← hw]; exact h4, h5⟩
      simp only
      have := new_count b3 (argsB s.cells n.links n.new w).length (Nat.le_refl _)
      rw [List.take_length, b6] at this
      omega
    · intro h
      have hnew : n.new = [] := by
        rcases hk with hk | hk
        · omega
        · exact hk.2
      refine ⟨?_, by rw [h4, hnew, hw]; simp⟩
      simp only
      have P' := P
      rw [hnew] at P' ⊢
      exact P'.below
    · intro st hst hpl
      have hpl := hpl hk2
      unfold nodeC
      simp only
      rw [if_neg hk2]
      unfold nodeOf
      simp only at hpl ⊢
      rw [hpl, hst, b5, b6, ← hw, ← h4, ← hp, ← h3]
  rcases hn with ⟨h1, _, h3⟩ | ⟨h1, h2, h3⟩ | ⟨h1, h2⟩
  · exact atom (.inl h1) h3
  · exact atom (.inr ⟨h1, h2⟩) h3
  · obtain ⟨t1, t2, t3, t4, t5, t6, t7, t8, t9⟩ := h2
    rw [hw] at t8 t9 t5
    refine ⟨⟨2, noPat, n.test⟩, h1.symm, fun h => absurd h1 h, fun h => by omega, fun h => by omega, fun _ => ⟨rfl, rfl, t6, t7, t8, t9, t5⟩, ?_⟩
    intro st hst _
    unfold nodeC
    rw [if_pos rfl]
    unfold testOf
    simp only
    rw [hst, ← t5, ← hp, ← t2, ← h1]
    obtain ⟨_, _, _, l, m, _, _⟩ := n
    simp only at t3 t4
    subst t3; subst t4
    rfl

section
variable {al : List Shp} {ns : List Nd} {es : List Int}
theorem valid_at (h : shapesP al ns) {ai : Nat} {s : Shp} (hs : al[ai]? = some s) : validS s ∧ s.cells.length ≤ 8 ∧ ∀ k, k < ai → al[k]? ≠ some s := h.1 ai (List.getElem?_eq_some_iff.1 hs).1 s hs
theorem node_first (h : nodesP al ns) {v : Nat} {n : Nd} (hv : 1 ≤ v) (hn : ns[v]? = some n) : ∀ j, j < v → ns[j]? ≠ some n := by
  intro j hj
  obtain ⟨u, up, _, _, _, _, h1, h2⟩ := h.2 v hv (List.getElem?_eq_some_iff.1 hn).1 n hn
  rcases Nat.eq_zero_or_pos j with h0 | h0
  · subst h0
    rw [h.1]
    intro e
    have e := congrArg Nd.kind (Option.some.inj e)
    rcases h1 with ⟨h1, _⟩ | ⟨h1, _⟩ | ⟨h1, _⟩ <;> (rw [h1] at e; simp [rootN] at e)
  · exact h2 j h0 hj
/-- One node of a way. -/
theorem step_at (hs : shapesP al ns) (h : nodesP al ns) {u v w m q : Nat} {n : Nd} {c : Cnd} (hv : 1 ≤ v) (hn : ns[v]? = some n) (C : Cnode al n u w c) (hw : widthAt ⟨al, ns⟩ u = (w : Int)) (hu : u < v) (hvm : v ≤ m) (hq : needs al.length (ns.take m) = some q) :
    ∃ m' q', onF (some m) v = some m' ∧ stepF (u, ⟨al.take q, ns.take m⟩) c = (v, ⟨al.take q', ns.take m'⟩) ∧ needs al.length (ns.take m') = some q' ∧ v < m' ∧ m ≤ m' := by
  have hl := (List.getElem?_eq_some_iff.1 hn).1
  have hws : widthAt ⟨al.take q, ns.take m⟩ u = (w : Int) := by
    rw [← hw]
    unfold widthAt
    simp only
    rw [List.getElem?_take_of_lt (by omega)]
  have hnf := node_first h hv hn
  have stp : ∀ x : Nat × St, stepF x c = (placeF x.2.ns (nodeC x.2 x.1 c), ⟨if c.kind = 2 then x.2.al else addF x.2.al (shapeF c.p), addF x.2.ns (nodeC x.2 x.1 c)⟩) := by
    intro x
    unfold stepF nodeC
    by_cases h2 : c.kind = 2
    · simp only [if_pos h2]; rfl
    · simp only [if_neg h2]; rfl
  rcases Nat.lt_or_ge v m with hlt | hge
  · -- the node is there
    have hmem : n ∈ ns.take m := List.mem_of_getElem? (i := v) (by rw [List.getElem?_take_of_lt hlt]; exact hn)
    have hal : n.kind ≠ 2 → placeF (al.take q) (shapeF c.p) = n.alpha.toNat ∧ addF (al.take q) (shapeF c.p) = al.take q ∧ 0 ≤ n.alpha := fun hk => by
      obtain ⟨_, _, _, _, ai, a1, a2⟩ := C.atom hk
      have hk13 : n.kind = 1 ∨ n.kind = 3 := by
        obtain ⟨_, _, _, _, _, _, h1, _⟩ := h.2 v hv hl n hn
        rcases h1 with ⟨h1, _⟩ | ⟨h1, _⟩ | ⟨h1, _⟩
        · exact .inl h1
        · exact .inr h1
        · exact absurd h1 hk
      have := need_lt _ _ _ hq n hmem hk13
      obtain ⟨p1, p2⟩ := take_seen a2 (valid_at hs a2).2.2 (m := q) (by omega)
      exact ⟨by rw [p1]; omega, p2, by omega⟩
    have e := C.node ⟨al.take q, ns.take m⟩ hws (fun hk => by
      obtain ⟨p1, p2, p3⟩ := hal hk
      simp only
      omega)
    obtain ⟨p1, p2⟩ := take_seen hn hnf hlt
    refine ⟨m, q, by unfold onF; simp only; rw [if_pos hvm, if_neg (by omega)], ?_, hq, hlt, Nat.le_refl _⟩
    rw [stp]
    simp only
    rw [e, p1, p2]
    by_cases h2 : c.kind = 2
    · rw [if_pos h2]
    · rw [if_neg h2, (hal (by rw [← C.kind]; exact h2)).2.1]
  · obtain rfl : v = m := by omega
    obtain ⟨q', hq'⟩ : ∃ q', needs al.length (ns.take (v + 1)) = some q' := by
      cases hx : needs al.length (ns.take (v + 1)) with
      | none => have := needs_stop hx; rw [hs.2] at this; cases this
      | some q' => exact ⟨q', rfl⟩
    have hnx := hq'
    rw [needs_take hn, hq] at hnx
    have hal : n.kind ≠ 2 → placeF (al.take q) (shapeF c.p) = n.alpha.toNat ∧ addF (al.take q) (shapeF c.p) = al.take q' ∧ 0 ≤ n.alpha := fun hk => by
      obtain ⟨_, _, _, _, ai, a1, a2⟩ := C.atom hk
      have hk13 : n.kind = 1 ∨ n.kind = 3 := by
        obtain ⟨_, _, _, _, _, _, h1, _⟩ := h.2 v hv hl n hn
        rcases h1 with ⟨h1, _⟩ | ⟨h1, _⟩ | ⟨h1, _⟩
        · exact .inl h1
        · exact .inr h1
        · exact absurd h1 hk
      unfold needF at hnx
      simp only at hnx
      rw [if_pos hk13] at hnx
      split at hnx
      · rename_i hc
        split at hnx
        · rename_i hqe
          injection hnx with hnx
          obtain rfl : ai = q := by omega
          obtain ⟨p1, p2⟩ := take_new a2 (valid_at hs a2).2.2
          exact ⟨by rw [p1]; omega, by rw [p2, hnx], by omega⟩
        · injection hnx with hnx
          obtain ⟨p1, p2⟩ := take_seen a2 (valid_at hs a2).2.2 (m := q) (by omega)
          exact ⟨by rw [p1]; omega, by rw [p2, hnx], by omega⟩
      · cases hnx
    have hal2 : n.kind = 2 → q' = q := fun hk => by
      unfold needF at hnx
      simp only at hnx
      rw [if_neg (by omega)] at hnx
      injection hnx with hnx
      exact hnx.symm
    have e := C.node ⟨al.take q, ns.take v⟩ hws (fun hk => by
      obtain ⟨p1, p2, p3⟩ := hal hk
      simp only
      omega)
    obtain ⟨p1, p2⟩ := take_new hn hnf
    refine ⟨v + 1, q', by unfold onF; simp, ?_, hq', by omega, by omega⟩
    rw [stp]
    simp only
    rw [e, p1, p2]
    by_cases h2 : c.kind = 2
    · rw [if_pos h2, hal2 (by rw [← C.kind]; exact h2)]
    · rw [if_neg h2, (hal (by rw [← C.kind]; exact h2)).2.1]

/-- The conditions that a way says: fit, read back, compiled. -/
theorem way_back (hs : shapesP al ns) (h : nodesP al ns) : ∀ (l : List Nat) (u w : Nat) (up : Nd) (b : RB) (m q m' : Nat), ns[u]? = some up → up.width = (w : Int) → w ≤ 16 → b.w = (w : Int) → Lnk ns u l → u < m → needs al.length (ns.take m) = some q → l.foldl onF (some m) = some m' →
    ∃ (pos : List Pat) (tests : List Tst) (neg : List Pat) (wp : Nat) (b' : RB), (up.kind = 2 → pos = []) ∧ (up.kind = 3 → pos = [] ∧ tests = []) ∧ pos.length + tests.length + neg.length = l.length ∧
      l.foldl (rbS al ns) (some b) = some b' ∧ b'.pos = b.pos ++ pos ∧ b'.tests = b.tests ++ tests ∧ b'.neg = b.neg ++ neg ∧
      (okA (pos.flatMap Pat.args) w ∧ scanD (pos.flatMap Pat.args) w = wp ∧ wp ≤ 16 ∧ (∀ p ∈ pos, 0 ≤ p.pred ∧ p.args.length ≤ 8) ∧ (∀ t ∈ tests, 1 ≤ t.op ∧ t.op ≤ 6 ∧ belowP wp t.l ∧ belowP wp t.r) ∧ ∀ p ∈ neg, 0 ≤ p.pred ∧ p.args.length ≤ 8 ∧ ∀ s ∈ p.args, belowP wp s) ∧
      ∃ q', needs al.length (ns.take m') = some q' ∧ m ≤ m' ∧ (pos.map (fun p => (⟨1, p, noTst⟩ : Cnd)) ++ tests.map (fun t => (⟨2, noPat, t⟩ : Cnd)) ++ neg.map (fun p => (⟨3, p, noTst⟩ : Cnd))).foldl stepF (u, ⟨al.take q, ns.take m⟩) = ((u :: l).getLast?.getD 0, ⟨al.take q', ns.take m'⟩)
  | [], u, w, up, b, m, q, m', hup, hw, h16, hb, _, hum, hq, hon => by
    simp only [List.foldl_nil, Option.some.injEq] at hon
    subst hon
    exact ⟨[], [], [], w, b, fun _ => rfl, fun _ => ⟨rfl, rfl⟩, rfl, rfl, by simp, by simp, by simp, ⟨trivial, rfl, h16, by simp, by simp, by simp⟩, q, hq, Nat.le_refl _, rfl⟩
  | v :: r, u, w, up, b, m, q, m', hup, hw, h16, hb, ⟨huv, ⟨n, hn, hpar⟩, hL⟩, hum, hq, hon => by
    have hl := (List.getElem?_eq_some_iff.1 hn).1
    obtain ⟨u', up', hu1, hu2, hu3, _, hnp, _⟩ := h.2 v (by omega) hl n hn
    obtain rfl : u' = u := by omega
    rw [hup] at hu3
    obtain rfl := Option.some.inj hu3
    obtain ⟨c, C⟩ := cnode_of hnp hpar hw (fun ai s hk ha hs' => ⟨(valid_at hs hs').1, (valid_at hs hs').2.1⟩)
    have hwu : widthAt ⟨al, ns⟩ u' = (w : Int) := by unfold widthAt; simp only; rw [hup]; exact hw
    have hvm : v ≤ m := by
      rw [List.foldl_cons] at hon
      by_cases hle : v ≤ m
      · exact hle
      · exfalso
        have : onF (some m) v = none := by unfold onF; simp only; rw [if_neg hle]
        rw [this, onF_none] at hon
        cases hon
    obtain ⟨m1, q1, s1, s2, s3, s4, s5⟩ := step_at hs h (by omega) hn C hwu huv hvm hq
    rw [List.foldl_cons, s1] at hon
    have hlast : ((u' :: v :: r).getLast?.getD 0) = ((v :: r).getLast?.getD 0) := by rw [List.getLast?_cons_cons]
    have hrb : (v :: r).foldl (rbS al ns) (some b) = r.foldl (rbS al ns) (rbS al ns (some b) v) := rfl
    rcases hnp with ⟨k1, ku, _⟩ | ⟨k1, k2, _⟩ | ⟨k1, k2⟩
    · obtain ⟨a1, a2, a3, a4, _⟩ := C.atom (by omega)
      obtain ⟨c1, c2, c3, c4⟩ := C.pos k1
      have hc : c = ⟨1, c.p, noTst⟩ := by obtain ⟨ck, cp, ct⟩ := c; have := C.kind; simp only at this a2; rw [this, k1, a2]
      have e1 : rbS al ns (some b) v = some ⟨b.w + (n.new.length : Int), b.pos ++ [c.p], b.tests, b.neg⟩ := by
        unfold rbS
        rw [hn]
        simp only
        rw [if_neg (by omega), hb, a1]
        simp only
        rw [if_pos k1]
      obtain ⟨pos, tests, neg, wp, b', f1, f2, f3, f4, f5, f6, f7, ⟨g1, g2, g3, g4, g5, g6⟩, q', g7, g8, g9⟩ := way_back hs h r v (scanD c.p.args w) n ⟨b.w + (n.new.length : Int), b.pos ++ [c.p], b.tests, b.neg⟩ m1 q1 m' hn c2 (by omega) (by simp only; omega) hL s4 s3 hon
      refine ⟨c.p :: pos, tests, neg, wp, b', fun hh => by omega, fun hh => by omega, by simp only [List.length_cons]; omega, by rw [hrb, e1]; exact f4, by rw [f5]; simp, f6, f7, ⟨?_, ?_, g3, ?_, g5, g6⟩, q', g7, by omega, ?_⟩
      · rw [List.flatMap_cons, okA_app]
        exact ⟨c1, g1⟩
      · rw [List.flatMap_cons, scanD_app]
        exact g2
      · intro p hp
        rcases List.mem_cons.1 hp with rfl | hp
        · exact ⟨a3, a4⟩
        · exact g4 p hp
      · rw [hlast, ← g9, List.map_cons, List.cons_append, List.cons_append, List.foldl_cons, ← hc, s2]
    · obtain ⟨a1, a2, a3, a4, _⟩ := C.atom (by omega)
      obtain ⟨c1, c2⟩ := C.neg k1
      have hc : c = ⟨3, c.p, noTst⟩ := by obtain ⟨ck, cp, ct⟩ := c; have := C.kind; simp only at this a2; rw [this, k1, a2]
      have e1 : rbS al ns (some b) v = some ⟨b.w, b.pos, b.tests, b.neg ++ [c.p]⟩ := by
        unfold rbS
        rw [hn]
        simp only
        rw [if_neg (by omega), hb, a1]
        simp only
        rw [if_neg (by omega)]
      obtain ⟨pos, tests, neg, wp, b', f1, f2, f3, f4, f5, f6, f7, ⟨g1, g2, g3, g4, g5, g6⟩, q', g7, g8, g9⟩ := way_back hs h r v w n ⟨b.w, b.pos, b.tests, b.neg ++ [c.p]⟩ m1 q1 m' hn c2 h16 hb hL s4 s3 hon
      obtain ⟨rfl, rfl⟩ := f2 k1
      have hwp : wp = w := g2.symm
      refine ⟨[], [], c.p :: neg, wp, b', fun _ => rfl, fun _ => ⟨rfl, rfl⟩, by simp only [List.length_cons, List.length_nil] at f3 ⊢; omega, by rw [hrb, e1]; exact f4, f5, f6, by rw [f7]; simp, ⟨g1, g2, g3, g4, g5, ?_⟩, q', g7, by omega, ?_⟩
      · intro p hp
        rcases List.mem_cons.1 hp with rfl | hp
        · exact ⟨a3, a4, by rw [hwp]; exact c1⟩
        · exact g6 p hp
      · rw [hlast, ← g9, List.map_cons]
        simp only [List.map_nil, List.nil_append, List.foldl_cons]
        rw [← hc, s2]
    · obtain ⟨a1, a2, a3, a4, a5, a6, a7⟩ := C.test k1
      have hc : c = ⟨2, noPat, n.test⟩ := by obtain ⟨ck, cp, ct⟩ := c; have := C.kind; simp only at this a1 a2; rw [this, k1, a1, a2]
      have e1 : rbS al ns (some b) v = some ⟨b.w, b.pos, b.tests ++ [n.test], b.neg⟩ := by
        unfold rbS
        rw [hn]
        simp only
        rw [if_pos k1]
      obtain ⟨pos, tests, neg, wp, b', f1, f2, f3, f4, f5, f6, f7, ⟨g1, g2, g3, g4, g5, g6⟩, q', g7, g8, g9⟩ := way_back hs h r v w n ⟨b.w, b.pos, b.tests ++ [n.test], b.neg⟩ m1 q1 m' hn a7 h16 hb hL s4 s3 hon
      obtain rfl := f1 k1
      have hwp : wp = w := g2.symm
      refine ⟨[], n.test :: tests, neg, wp, b', fun _ => rfl, fun hh => absurd hh k2.1, by simp only [List.length_cons, List.length_nil] at f3 ⊢; omega, by rw [hrb, e1]; exact f4, f5, by rw [f6]; simp, f7, ⟨g1, g2, g3, g4, ?_, g6⟩, q', g7, by omega, ?_⟩
      · intro t ht
        rcases List.mem_cons.1 ht with rfl | ht
        · rw [a2] at a3 a4 a5 a6
          rw [hwp]
          exact ⟨a3, a4, a5, a6⟩
        · exact g5 t ht
      · rw [hlast, ← g9, List.map_cons]
        simp only [List.map_nil, List.nil_append, List.foldl_cons, List.cons_append]
        rw [← hc, s2]
theorem rule_back (hs : shapesP al ns) (h : nodesP al ns) {e : Int} {m q m' : Nat} (h1 : 1 ≤ m) (hq : needs al.length (ns.take m) = some q) (he : endE ns (some m) e = some m') :
    0 ≤ e ∧ ∃ r, ruleB al ns e = some r ∧ mayP r ∧ ∃ q', needs al.length (ns.take m') = some q' ∧ m ≤ m' ∧ ruleF ⟨al.take q, ns.take m⟩ r = (e.toNat, ⟨al.take q', ns.take m'⟩) := by
  unfold endE at he
  simp only at he
  split at he
  · rename_i hc
    obtain ⟨e0, e1⟩ := hc
    refine ⟨e0, ?_⟩
    have hP := nodesP_par h
    have hlt : e.toNat < ns.length := by omega
    obtain ⟨u1, u2, u3⟩ := wayN_up hP al hlt
    have hL : Lnk ns 0 (wayN ns e.toNat) := lnk_of (al := al) _ 0 (fun i v hv => by
      obtain ⟨j1, j2, n, j3, j4⟩ := u1 i v hv
      exact ⟨j2, n, j3, j4⟩)
    obtain ⟨pos, tests, neg, wp, b', f1, f2, f3, f4, f5, f6, f7, ⟨g1, g2, g3, g4, g5, g6⟩, q', g7, g8, g9⟩ := way_back hs h _ 0 0 rootN rb0 m q m' h.1 rfl (by omega) rfl hL (by omega) hq he
    have hr : rlOf b' = ⟨noPat, pos, tests, neg, [], 0⟩ := by
      unfold rlOf
      rw [f5, f6, f7]
      simp [rb0]
    refine ⟨rlOf b', ?_, ?_, q', g7, g8, ?_⟩
    · unfold ruleB
      rw [wayR_eq hP e0 e1]
      simp only
      rw [f4]
      rfl
    · rw [hr]
      have := way_short h hlt
      exact ⟨wp, by simp only; omega, g4, g1, g2, g3, g5, g6⟩
    · rw [hr, ruleF_conds]
      unfold conds
      simp only
      rw [g9]
      have hlast : ((0 :: wayN ns e.toNat).getLast?.getD 0) = e.toNat := by
        rw [List.getLast?_eq_getElem?, List.length_cons, Nat.add_sub_cancel, ← List.getD_eq_getElem?_getD]
        exact u2
      rw [hlast]
  · cases he
theorem rules_back (hs : shapesP al ns) (h : nodesP al ns) : ∀ (es : List Int) (m q M : Nat) (acc : List Rl) (x2 : List Nat), 1 ≤ m → needs al.length (ns.take m) = some q → es.foldl (endE ns) (some m) = some M →
    ∃ rs, es.foldl (rulesS al ns) (some acc) = some (acc ++ rs) ∧ (∀ r ∈ rs, mayP r) ∧ ∃ q' ends, needs al.length (ns.take M) = some q' ∧ rs.foldl endF (⟨al.take q, ns.take m⟩, x2) = (⟨al.take q', ns.take M⟩, x2 ++ ends) ∧ (ends.map fun (e : Nat) => (e : Int)) = es
  | [], m, q, M, acc, x2, h1, hq, hf => by
    simp only [List.foldl_nil, Option.some.injEq] at hf
    subst hf
    exact ⟨[], by simp, by simp, q, [], hq, by simp, rfl⟩
  | e :: r, m, q, M, acc, x2, h1, hq, hf => by
    rw [List.foldl_cons] at hf
    cases hx : endE ns (some m) e with
    | none => rw [hx, endE_none] at hf; cases hf
    | some m1 =>
      rw [hx] at hf
      obtain ⟨e0, rl, b1, b2, q1, b3, b4, b5⟩ := rule_back hs h h1 hq hx
      obtain ⟨rs, c1, c2, q', ends, c3, c4, c5⟩ := rules_back hs h r m1 q1 M (acc ++ [rl]) (x2 ++ [e.toNat]) (by omega) b3 hf
      refine ⟨rl :: rs, ?_, ?_, q', e.toNat :: ends, c3, ?_, by rw [List.map_cons, c5, Int.toNat_of_nonneg e0]⟩
      · have e1 : rulesS al ns (some acc) e = some (acc ++ [rl]) := by
          unfold rulesS
          rw [b1]
        rw [List.foldl_cons, e1, c1, List.append_assoc]
        rfl
      · intro x hx2
        rcases List.mem_cons.1 hx2 with rfl | hx2
        · exact b2
        · exact c2 x hx2
      · rw [List.foldl_cons]
        have e2 : endF (⟨al.take q, ns.take m⟩, x2) rl = (⟨al.take q1, ns.take m1⟩, x2 ++ [e.toNat]) := by
          unfold endF
          simp only
          rw [b5]
        rw [e2, c4, List.append_assoc]
        rfl
/-- The law of Check. -/
theorem ref_check : refP al ns es ↔ checkP al ns es := by
  constructor
  · rintro ⟨_, rs, _, h2, h3, h4⟩
    have := comp_check rs h2
    rw [h3, h4] at this
    exact this
  · rintro ⟨hs, hn, he⟩
    have hl : 0 < ns.length := (List.getElem?_eq_some_iff.1 hn.1).1
    have h1 : ns.take 1 = [rootN] := by
      rw [List.take_add_one, hn.1]; rfl
    have hq : needs al.length (ns.take 1) = some 0 := by rw [h1]; rfl
    obtain ⟨rs, b1, b2, q', ends, b3, b4, b5⟩ := rules_back hs hn es 1 0 ns.length [] [] (Nat.le_refl _) hq he
    rw [List.take_length] at b3 b4
    rw [hs.2] at b3
    obtain rfl := Option.some.inj b3
    rw [List.take_length, h1] at b4
    have e : compF rs = (⟨al, ns⟩, ends) := by
      unfold compF
      simpa using b4
    refine ⟨fun h0 => by rw [h0] at hl; simp at hl, rs, by unfold rulesB; simpa using b1, b2, by rw [e], by rw [e]; exact b5⟩
end
end Go.Proofs.YtonkbjdeaneicaaDoor.Pln

namespace Go.Proofs.YtonkbjdeaneicaaDoor
open Go.ChangeShapes Go.WideShapes Go.ChangeAt Go.RowKit Go.Deep
open Pln

/-- All lists of a shape, a node are at most n long. -/
def shpSm (n : Nat) (s : Shp) : Prop := s.cells.length ≤ n
def ndSm (n : Nat) (s : Nd) : Prop := s.links.length ≤ n ∧ s.new.length ≤ n
theorem shpSm.mono {m n : Nat} {p : Shp} (h : m ≤ n) (hp : shpSm m p) : shpSm n p := Nat.le_trans hp h
theorem ndSm.mono {m n : Nat} {p : Nd} (h : m ≤ n) (hp : ndSm m p) : ndSm n p := ⟨Nat.le_trans hp.1 h, Nat.le_trans hp.2 h⟩
structure plSm (n : Nat) (al : List Shp) (ns : List Nd) (es : List Int) : Prop where
  al : al.length ≤ n ∧ ∀ s ∈ al, shpSm n s
  ns : ns.length ≤ n ∧ ∀ s ∈ ns, ndSm n s
  en : es.length ≤ n
/-- v is a plan. -/
structure RPl (F : Nat → Prop) (w : World) (av nv ev : Value) (al : List Shp) (ns : List Nd) (es : List Int) : Prop where
  al : RSl F w 2 (EShp F w) av al
  ns : RSl F w 11 (ENode F w) nv ns
  en : RSl F w 1 EInt ev es
theorem RPl.kp {F F' : Nat → Prop} {w w' : World} {av nv ev : Value} {al : List Shp} {ns : List Nd} {es : List Int} (h : RPl F w av nv ev al ns es) (hk : Kp F w w') (hF : ∀ b, b < w.heap.size → F b → F' b) : RPl F' w' av nv ev al ns es :=
  ⟨h.al.kp hk hF (fun _ _ h => h.kp hk hF), h.ns.kp hk hF (fun _ _ h => h.kp hk hF), h.en.kp hk hF (fun _ _ h => h)⟩
theorem RPl.below {F : Nat → Prop} {w w' : World} {av nv ev : Value} {al : List Shp} {ns : List Nd} {es : List Int} (h : RPl F w av nv ev al ns es) (hb : Below w.heap.size w w') : RPl F w' av nv ev al ns es := h.kp (Kp.of_below hb) (fun _ _ h => h)
section
variable {H : Type} {enc : TypeId × Value → H} {w : World} {base : Nat} {spare : Nat → Bool} {held : Bool} {fuel : Nat} {cs : List Value} {x : DataW H × List MemPlace}
theorem cLnkR : Tryd.prog.cellsOf 56 = 2 := by kernel_rfl
theorem cShpR : Tryd.prog.cellsOf 54 = 2 := by kernel_rfl
theorem cNdR : Tryd.prog.cellsOf 40 = 11 := by kernel_rfl
theorem cPlR : Tryd.prog.cellsOf 26 = 3 := by kernel_rfl
theorem cSInt : Tryd.prog.cellsOf 24 = 1 := by kernel_rfl
theorem cSLnk : Tryd.prog.cellsOf 34 = 1 := by kernel_rfl
theorem cSShp : Tryd.prog.cellsOf 22 = 1 := by kernel_rfl
theorem cSNd : Tryd.prog.cellsOf 23 = 1 := by kernel_rfl
theorem list_eleven {α : Type} {l : List α} (h : l.length = 11) : ∃ a b c d e f g h i j k, l = [a, b, c, d, e, f, g, h, i, j, k] := by
  match l, h with
  | [a, b, c, d, e, f, g, h, i, j, k], _ => exact ⟨a, b, c, d, e, f, g, h, i, j, k, rfl⟩

theorem open_int (h : DataW.trod enc Tryd.prog w base spare held fuel 3 cs = some x) : ∃ s : Int, EInt cs s ∧ True := by
  obtain ⟨k, hk, _, wk⟩ := DataW.trod_int Tryd.underlying3 h
  exact ⟨k, ⟨hk, wk⟩, trivial⟩
theorem open_ints {v : Value} (h : DataW.trod enc Tryd.prog w base spare held fuel 24 [v] = some x) : ∃ xs : List Int, RSl (fun b => b < w.heap.size) w 1 EInt v xs ∧ xs.length ≤ Rows.uptoBulk x.1 := by
  obtain ⟨xs, r1, r2, _⟩ := open_rsl (E := EInt) (Sm := fun _ _ => True) (fun _ _ _ _ _ => trivial) Tryd.underlying24 cIntR (by decide) (fun _ _ _ h => open_int h) h
  exact ⟨xs, r1, r2⟩
theorem open_lnk (h : DataW.trod enc Tryd.prog w base spare held fuel 56 cs = some x) : ∃ s : Int × Int, ELnk cs s ∧ True := by
  obtain ⟨ys, n, _, _, hlen, hyl, hf⟩ := DataW.trod_struct Tryd.underlying56 h
  rw [cLnkR] at hlen
  obtain ⟨a, b, rfl⟩ := list_two hlen
  obtain ⟨y0, y1, rfl⟩ := list_two (show ys.length = 2 from hyl)
  have g0 := hf 0 _ rfl
  change DataW.trod enc Tryd.prog w base spare held n 3 (List.take (Tryd.prog.cellsOf 3) (List.drop 0 [a, b])) = some y0 at g0
  rw [cIntR] at g0
  have g1 := hf 1 _ rfl
  change DataW.trod enc Tryd.prog w base spare held n 3 (List.take (Tryd.prog.cellsOf 3) (List.drop 1 [a, b])) = some y1 at g1
  rw [cIntR] at g1
  simp only [List.drop_zero, List.take_succ_cons, List.take_zero, List.drop_succ_cons] at g0 g1
  obtain ⟨v, hv, _, wv⟩ := DataW.trod_int Tryd.underlying3 g0
  obtain ⟨k, hk, _, wk⟩ := DataW.trod_int Tryd.underlying3 g1
  simp only [List.cons.injEq, and_true] at hv hk
  subst hv; subst hk
  exact ⟨(v, k), ⟨rfl, wv, wk⟩, trivial⟩
theorem open_shp (h : DataW.trod enc Tryd.prog w base spare held fuel 54 cs = some x) : ∃ p : Shp, EShp (fun b => b < w.heap.size) w cs p ∧ shpSm (Rows.uptoBulk x.1) p := by
  obtain ⟨ys, n, _, hx, hlen, hyl, hf⟩ := DataW.trod_struct Tryd.underlying54 h
  rw [cShpR] at hlen
  obtain ⟨a, b, rfl⟩ := list_two hlen
  obtain ⟨y0, y1, rfl⟩ := list_two (show ys.length = 2 from hyl)
  have g0 := hf 0 _ rfl
  change DataW.trod enc Tryd.prog w base spare held n 3 (List.take (Tryd.prog.cellsOf 3) (List.drop 0 [a, b])) = some y0 at g0
  rw [cIntR] at g0
  have g1 := hf 1 _ rfl
  change DataW.trod enc Tryd.prog w base spare held n 24 (List.take (Tryd.prog.cellsOf 24) (List.drop 1 [a, b])) = some y1 at g1
  rw [cSInt] at g1
  simp only [List.drop_zero, List.take_succ_cons, List.take_zero, List.drop_succ_cons] at g0 g1
  obtain ⟨k, hk, _, wk⟩ := DataW.trod_int Tryd.underlying3 g0
  simp only [List.cons.injEq, and_true] at hk
  subst hk
  obtain ⟨xs, r1, r2⟩ := open_ints g1
  refine ⟨⟨k, xs⟩, ⟨b, rfl, wk, r1⟩, ?_⟩
  have := bulk_part (d := x.1) (by rw [hx]) (show y1 ∈ [y0, y1] by simp)
  exact Nat.le_trans r2 this
theorem open_nd (h : DataW.trod enc Tryd.prog w base spare held fuel 40 cs = some x) : ∃ r : Nd, ENode (fun b => b < w.heap.size) w cs r ∧ ndSm (Rows.uptoBulk x.1) r := by
  obtain ⟨ys, n, _, hx, hlen, hyl, hf⟩ := DataW.trod_struct Tryd.underlying40 h
  rw [cNdR] at hlen
  obtain ⟨a, b, c, d, e, f, g, p, q, r, s, rfl⟩ := list_eleven hlen
  obtain ⟨y0, y1, y2, y3, y4, y5, y6, rfl⟩ := list_seven (show ys.length = 7 from hyl)
  have g0 := hf 0 _ rfl
  change DataW.trod enc Tryd.prog w base spare held n 3 (List.take (Tryd.prog.cellsOf 3) (List.drop 0 [a, b, c, d, e, f, g, p, q, r, s])) = some y0 at g0
  rw [cIntR] at g0
  have g1 := hf 1 _ rfl
  change DataW.trod enc Tryd.prog w base spare held n 3 (List.take (Tryd.prog.cellsOf 3) (List.drop 1 [a, b, c, d, e, f, g, p, q, r, s])) = some y1 at g1
  rw [cIntR] at g1
  have g2 := hf 2 _ rfl
  change DataW.trod enc Tryd.prog w base spare held n 3 (List.take (Tryd.prog.cellsOf 3) (List.drop 2 [a, b, c, d, e, f, g, p, q, r, s])) = some y2 at g2
  rw [cIntR] at g2
  have g3 := hf 3 _ rfl
  change DataW.trod enc Tryd.prog w base spare held n 34 (List.take (Tryd.prog.cellsOf 34) (List.drop 3 [a, b, c, d, e, f, g, p, q, r, s])) = some y3 at g3
  rw [cSLnk] at g3
  have g4 := hf 4 _ rfl
  change DataW.trod enc Tryd.prog w base spare held n 24 (List.take (Tryd.prog.cellsOf 24) (List.drop 4 [a, b, c, d, e, f, g, p, q, r, s])) = some y4 at g4
  rw [cSInt] at g4
  have g5 := hf 5 _ rfl
  change DataW.trod enc Tryd.prog w base spare held n 38 (List.take (Tryd.prog.cellsOf 38) (List.drop 5 [a, b, c, d, e, f, g, p, q, r, s])) = some y5 at g5
  rw [cTstR] at g5
  have g6 := hf 6 _ rfl
  change DataW.trod enc Tryd.prog w base spare held n 3 (List.take (Tryd.prog.cellsOf 3) (List.drop 10 [a, b, c, d, e, f, g, p, q, r, s])) = some y6 at g6
  rw [cIntR] at g6
  simp only [List.drop_zero, List.take_succ_cons, List.take_zero, List.drop_succ_cons] at g0 g1 g2 g3 g4 g5 g6
  obtain ⟨k0, h0, _, w0⟩ := DataW.trod_int Tryd.underlying3 g0
  obtain ⟨k1, h1, _, w1⟩ := DataW.trod_int Tryd.underlying3 g1
  obtain ⟨k2, h2, _, w2⟩ := DataW.trod_int Tryd.underlying3 g2
  obtain ⟨ls, l1, l2, _⟩ := open_rsl (E := ELnk) (Sm := fun _ _ => True) (fun _ _ _ _ _ => trivial) Tryd.underlying34 cLnkR (by decide) (fun _ _ _ h => open_lnk h) g3
  obtain ⟨nw, n1, n2⟩ := open_ints g4
  obtain ⟨t, ⟨h5, t1, t2, t3⟩, _⟩ := open_tst g5
  obtain ⟨k6, h6, _, w6⟩ := DataW.trod_int Tryd.underlying3 g6
  simp only [List.cons.injEq, and_true] at h0 h1 h2 h5 h6
  obtain ⟨rfl, rfl, rfl, rfl, rfl⟩ := h5
  subst h0; subst h1; subst h2; subst h6
  have B : ∀ y ∈ [y0, y1, y2, y3, y4, y5, y6], Rows.uptoBulk y.1 ≤ Rows.uptoBulk x.1 := fun y hy => bulk_part (d := x.1) (by rw [hx]) hy
  exact ⟨⟨k0, k1, k2, ls, nw, t, k6⟩, ⟨d, e, ⟨rfl, ⟨w0, w1, w2, w6, t1, t2, t3⟩, l1, n1⟩⟩, ⟨Nat.le_trans l2 (B y3 (by simp)), Nat.le_trans n2 (B y4 (by simp))⟩⟩
theorem open_plan (h : DataW.trod enc Tryd.prog w base spare held fuel 26 cs = some x) : ∃ av nv ev al ns es, cs = [av, nv, ev] ∧ RPl (fun b => b < w.heap.size) w av nv ev al ns es ∧ plSm (Rows.uptoBulk x.1) al ns es := by
  obtain ⟨ys, n, _, hx, hlen, hyl, hf⟩ := DataW.trod_struct Tryd.underlying26 h
  rw [cPlR] at hlen
  obtain ⟨a, b, c, rfl⟩ := list_three hlen
  obtain ⟨y0, y1, y2, rfl⟩ := list_three (show ys.length = 3 from hyl)
  have g0 := hf 0 _ rfl
  change DataW.trod enc Tryd.prog w base spare held n 22 (List.take (Tryd.prog.cellsOf 22) (List.drop 0 [a, b, c])) = some y0 at g0
  rw [cSShp] at g0
  have g1 := hf 1 _ rfl
  change DataW.trod enc Tryd.prog w base spare held n 23 (List.take (Tryd.prog.cellsOf 23) (List.drop 1 [a, b, c])) = some y1 at g1
  rw [cSNd] at g1
  have g2 := hf 2 _ rfl
  change DataW.trod enc Tryd.prog w base spare held n 24 (List.take (Tryd.prog.cellsOf 24) (List.drop 2 [a, b, c])) = some y2 at g2
  rw [cSInt] at g2
  simp only [List.drop_zero, List.take_succ_cons, List.take_zero, List.drop_succ_cons] at g0 g1 g2
  obtain ⟨al, a1, a2, a3⟩ := open_rsl (E := EShp (fun b => b < w.heap.size) w) (Sm := shpSm) (fun _ _ _ h h' => h'.mono h) Tryd.underlying22 cShpR (by decide) (fun _ _ _ h => open_shp h) g0
  obtain ⟨ns, n1, n2, n3⟩ := open_rsl (E := ENode (fun b => b < w.heap.size) w) (Sm := ndSm) (fun _ _ _ h h' => h'.mono h) Tryd.underlying23 cNdR (by decide) (fun _ _ _ h => open_nd h) g1
  obtain ⟨es, e1, e2⟩ := open_ints g2
  have B : ∀ y ∈ [y0, y1, y2], Rows.uptoBulk y.1 ≤ Rows.uptoBulk x.1 := fun y hy => bulk_part (d := x.1) (by rw [hx]) hy
  have b0 := B y0 (by simp); have b1 := B y1 (by simp); have b2 := B y2 (by simp)
  exact ⟨a, b, c, al, ns, es, rfl, ⟨a1, n1, e1⟩, ⟨⟨Nat.le_trans a2 b0, fun p hp => (a3 p hp).mono b0⟩, ⟨Nat.le_trans n2 b1, fun p hp => (n3 p hp).mono b1⟩, Nat.le_trans e2 b2⟩⟩
end
end Go.Proofs.YtonkbjdeaneicaaDoor

namespace Go.Proofs.YtonkbjdeaneicaaDoor
open Go.RowKit Pln Classical Go.Maps

set_option maxRecDepth 100000 in
theorem requalIntsW {F G : Nat → Prop} (va vb : Value) (xs ys : List Int) (w : World) (ha : RSl F w 1 EInt va xs) (hb : RSl G w 1 EInt vb ys) :
    Calls Tryd.prog 34 #[va, vb] w fun e w' => e = .returned (.bool (eqB xs ys)) ∧ Below w.heap.size w w' := by
  obtain ⟨A, ca, rfl⟩ := ha.form
  obtain ⟨B, cb, rfl⟩ := hb.form
  have hm := ha.len
  have hm2 := hb.len
  unfold maxLen at hm hm2
  have HA := Lib.hid ha
  have HB := Lib.hid hb
  clear ha hb
  by_cases hl : xs.length = ys.length
  · have HL := Lib.hid hl
    have hl2 : ((xs.length : Int) != (ys.length : Int)) = false := by simp; omega
    clear hl
    go_enter Tryd.func34, Tryd.ntmps34
    go_wp2
    go_loopw [5] (fun i wr => ∃ k : Nat, i = .int .i64 k ∧ k ≤ xs.length ∧ (∀ i, i < k → xs[i]? = ys[i]?) ∧ Below w.heap.size w wr) (fun i _ => xs.length - (intOf i).toNat)
    case atStart => exact ⟨0, rfl, Nat.zero_le _, fun i h => by omega, Below.refl _ _⟩
    case round =>
      obtain ⟨k, rfl, hk, hq, hbl⟩ := hrel
      by_cases hkn : k < xs.length
      · obtain ⟨x, hx⟩ : ∃ x, xs[k]? = some x := ⟨_, List.getElem?_eq_getElem hkn⟩
        obtain ⟨y, hy⟩ : ∃ y, ys[k]? = some y := ⟨_, List.getElem?_eq_getElem (by have := HL.out; omega)⟩
        obtain ⟨b1, o1, rfl, _, _, cs1, ⟨rfl, _⟩, hc1⟩ := (HA.out.keep (Kp.of_below hbl)).at hx
        obtain ⟨b2, o2, rfl, _, _, cs2, ⟨rfl, _⟩, hc2⟩ := (HB.out.keep (Kp.of_below hbl)).at hy
        have d1 := hc1 0 _ rfl
        have d2 := hc2 0 _ rfl
        simp only [Nat.add_zero, Nat.mul_one] at d1 d2
        have e1 : (0 : Int) ≤ (k : Int) := by omega
        have e2 : (k : Int) < (xs.length : Int) := by omega
        have e3 : (k : Int) < (ys.length : Int) := by have := HL.out; omega
        have HX := Lib.hid hx
        have HY := Lib.hid hy
        have HQ := Lib.hid hq
        have HK := Lib.hid hkn
        have HBL := Lib.hid hbl
        clear hc1 hc2 hx hy hq hkn hbl
        by_cases hxy : x = y
        · subst hxy
          have hne : (x != x) = false := by simp
          have HQ2 := Lib.hid (show ∀ i, i < k + 1 → xs[i]? = ys[i]? from fun i hi => by
            rcases Nat.lt_or_ge i k with h1 | h1
            · exact HQ.out i h1
            · rw [show i = k by omega, HX.out, HY.out])
          go_wp2
          go_quiet (fail)
          have HB2 := Lib.hid (drewN_below HBL.out nq)
          go_wp2
          exact ⟨⟨k + 1, by go_num, HK.out, HQ2.out, HB2.out⟩, by simp [intOf]; have := HK.out; omega⟩
        · have hne : (x != y) = true := by simpa using hxy
          have HF := Lib.hid (eqB_ne (xs := xs) (ys := ys) (fun e => hxy (by
            have h1 := HX.out
            rw [e, HY.out] at h1
            exact (Option.some.inj h1).symm)))
          clear hxy
          go_wp2
          go_quiet (fail)
          have HB2 := Lib.hid (drewN_below HBL.out nq)
          go_wp2
          go_ret
          exact ⟨ret_bool HF.out.symm, HB2.out⟩
      · obtain rfl : k = xs.length := by omega
        have HF := Lib.hid (eqB_eq (list_eq HL.out hq))
        clear hq
        go_wp2
        go_ret
        exact ⟨ret_bool HF.out.symm, hbl⟩
  · have HF := Lib.hid (eqB_ne (xs := xs) (ys := ys) (fun e => hl (by rw [e])))
    have hl2 : ((xs.length : Int) != (ys.length : Int)) = true := by simp; omega
    clear hl
    go_enter Tryd.func34, Tryd.ntmps34
    go_wp2
    go_ret
    exact ⟨ret_bool HF.out.symm, Below.refl _ _⟩

set_option maxRecDepth 100000 in
theorem rpatternW {F : Nat → Prop} (p : Pat) (v : Value) (w : World) (h : RSl F w 2 ESlt v p.args) :
    Calls Tryd.prog 88 #[.agg #[.int .i64 p.pred, v]] w fun e w' => e = .returned (.bool (decide (0 ≤ p.pred ∧ p.args.length ≤ 8))) ∧ Below w.heap.size w w' := by
  obtain ⟨A, c, rfl⟩ := h.form
  clear h
  obtain ⟨R, hR⟩ : ∃ R, decide (0 ≤ p.pred ∧ p.args.length ≤ 8) = R := ⟨_, rfl⟩
  rw [hR]
  have HR := Lib.hid hR
  clear hR
  go_enter Tryd.func88, Tryd.ntmps88
  by_cases h1 : 0 ≤ p.pred
  · by_cases h2 : p.args.length ≤ 8
    · have e1 : (p.args.length : Int) ≤ 8 := by omega
      have HF := Lib.hid (show R = true by rw [← HR.out]; exact decide_eq_true ⟨h1, h2⟩)
      go_wp2
      go_ret
      exact ⟨by rw [HF.out]; rfl, (Below.refl _ _).alloc (Nat.le_refl _) _⟩
    · have e1 : ¬ (p.args.length : Int) ≤ 8 := by omega
      have HF := Lib.hid (show R = false by rw [← HR.out]; exact decide_eq_false (fun h => h2 h.2))
      go_wp2
      go_ret
      exact ⟨by rw [HF.out]; rfl, (Below.refl _ _).alloc (Nat.le_refl _) _⟩
  · have HF := Lib.hid (show R = false by rw [← HR.out]; exact decide_eq_false (fun h => h1 h.1))
    go_wp2
    go_ret
    exact ⟨by rw [HF.out]; rfl, (Below.refl _ _).alloc (Nat.le_refl _) _⟩

set_option maxRecDepth 100000 in
set_option maxHeartbeats 4000000 in
theorem rslotsW {F : Nat → Prop} (xs : List Slt) (v : Value) (wd : Nat) (w : World) (h : RSl F w 2 ESlt v xs) :
    Calls Tryd.prog 89 #[v, .int .i64 (wd : Int)] w fun e w' => e = .returned (.bool (decide (∀ s ∈ xs, belowP wd s))) ∧ Below w.heap.size w w' := by
  obtain ⟨A, c, rfl⟩ := h.form
  have hm := h.len
  unfold maxLen at hm
  have H := Lib.hid h
  clear h
  obtain ⟨R, hR⟩ : ∃ R, decide (∀ s ∈ xs, belowP wd s) = R := ⟨_, rfl⟩
  rw [hR]
  have HR := Lib.hid hR
  clear hR
  go_enter Tryd.func89, Tryd.ntmps89
  go_wp2
  go_loopw [5] (fun i wr => ∃ k : Nat, i = .int .i64 k ∧ k ≤ xs.length ∧ (∀ s ∈ xs.take k, belowP wd s) ∧ wr = w) (fun i _ => xs.length - (intOf i).toNat)
  case atStart => exact ⟨0, rfl, Nat.zero_le _, by simp, rfl⟩
  case round =>
    obtain ⟨k, rfl, hk, hq, rfl⟩ := hrel
    by_cases hkn : k < xs.length
    · obtain ⟨s, hs⟩ : ∃ s, xs[k]? = some s := ⟨_, List.getElem?_eq_getElem hkn⟩
      obtain ⟨b, o, rfl, -, -, cs, ⟨rfl, -⟩, hc⟩ := RSl.at H.out hs
      have d0 := hc 0 _ rfl
      have d1 := hc 1 _ rfl
      simp only [Nat.add_zero] at d0
      have e1 : (0 : Int) ≤ (k : Int) := by omega
      have e2 : (k : Int) < (xs.length : Int) := by omega
      have HK := Lib.hid hkn
      have YES := Lib.hid (show belowP wd s → ∀ t ∈ xs.take (k + 1), belowP wd t from fun h t ht => by
        rw [List.take_add_one, hs] at ht
        rcases List.mem_append.1 ht with ht | ht
        · exact hq t ht
        · simp at ht; rw [ht]; exact h)
      have NO := Lib.hid (show ¬ belowP wd s → R = false from fun h => by
        rw [← HR.out]
        exact decide_eq_false (fun h2 => h (h2 s (List.mem_of_getElem? hs))))
      clear hc hs hq hkn
      obtain ⟨sv, sn⟩ := s
      simp only at d0 d1
      by_cases h0 : sn < 0
      · have HF := Lib.hid (NO.out (fun h => by have := h.1; simp only at this; omega))
        go_wp2
        go_ret
        exact ⟨by rw [HF.out]; rfl, Below.refl _ _⟩
      · cases sv with
        | false =>
          have HY := Lib.hid (YES.out ⟨by simp only; omega, fun h => by cases h⟩)
          go_wp2
          exact ⟨⟨k + 1, by go_num, HK.out, HY.out, trivial⟩, by simp [intOf]; have := HK.out; omega⟩
        | true =>
          by_cases h1 : sn < (wd : Int)
          · have e3 : ¬ (wd : Int) ≤ sn := by omega
            have HY := Lib.hid (YES.out ⟨by simp only; omega, fun _ => h1⟩)
            go_wp2
            exact ⟨⟨k + 1, by go_num, HK.out, HY.out, trivial⟩, by simp [intOf]; have := HK.out; omega⟩
          · have e3 : (wd : Int) ≤ sn := by omega
            have HF := Lib.hid (NO.out (fun h => h1 (h.2 rfl)))
            go_wp2
            go_ret
            exact ⟨by rw [HF.out]; rfl, Below.refl _ _⟩
    · obtain rfl : k = xs.length := by omega
      rw [List.take_length] at hq
      have HF := Lib.hid (show R = true by rw [← HR.out]; exact decide_eq_true hq)
      clear hq hkn
      go_wp2
      go_ret
      exact ⟨by rw [HF.out]; rfl, Below.refl _ _⟩

set_option maxRecDepth 100000 in
set_option maxHeartbeats 4000000 in
theorem rfirstW {F : Nat → Prop} (p : Pat) (v : Value) (n : Int) (w : World) (h : RSl F w 2 ESlt v p.args) (hf : firstV p.args n < p.args.length) :
    Calls Tryd.prog 91 #[.agg #[.int .i64 p.pred, v], .int .i64 n] w fun e w' => e = .returned (.int .i64 (firstV p.args n : Nat)) ∧ Below w.heap.size w w' := by
  obtain ⟨A, c, rfl⟩ := h.form
  have hm := h.len
  unfold maxLen at hm
  have H := Lib.hid h
  have hat := firstV_at hf
  have hno := firstV_first (args := p.args) (n := n)
  obtain ⟨q, hq⟩ : ∃ q, firstV p.args n = q := ⟨_, rfl⟩
  rw [hq] at hf hat hno ⊢
  have HA := Lib.hid hat
  have HNO := Lib.hid hno
  clear h hq hat hno
  go_enter Tryd.func91, Tryd.ntmps91
  go_wp2
  go_loopw [5] (fun i wr => ∃ k : Nat, i = .int .i64 k ∧ k ≤ q ∧ Below (w.heap.size + 1) (w.alloc (.cells #[.int .i64 p.pred, .slice A p.args.length c] 80)) wr) (fun i _ => q - (intOf i).toNat)
  case atStart => exact ⟨0, rfl, Nat.zero_le _, Below.refl _ _⟩
  case round =>
    obtain ⟨k, rfl, hk, hb⟩ := hrel
    obtain ⟨s, hs⟩ : ∃ s, p.args[k]? = some s := ⟨_, List.getElem?_eq_getElem (by omega)⟩
    obtain ⟨b, o, rfl, -, hbl, cs, ⟨rfl, -⟩, hc⟩ := RSl.at H.out hs
    have d0 := ((box_below hb).cell (p := ⟨b, o + k * 2 + 0, none⟩) hbl).trans (hc 0 _ rfl)
    have d1 := ((box_below hb).cell (p := ⟨b, o + k * 2 + 1, none⟩) hbl).trans (hc 1 _ rfl)
    simp only [Nat.add_zero] at d0
    have y1 := box_cellL hb 1 rfl
    have e1 : (0 : Int) ≤ (k : Int) := by omega
    have e2 : (k : Int) < (p.args.length : Int) := by omega
    have HB := Lib.hid hb
    have HS := Lib.hid hs
    clear hc hs hb
    by_cases hkq : k < q
    · have hne := HNO.out k hkq
      rw [HS.out] at hne
      obtain ⟨sv, sn⟩ := s
      simp only at d0 d1
      cases sv with
      | false =>
        clear hne
        go_wp2
        exact ⟨⟨k + 1, by go_num, hkq, HB.out⟩, by simp [intOf]; omega⟩
      | true =>
        have hsn : ¬ sn = n := fun h => hne (by rw [h])
        have hsn2 : (sn == n) = false := by simpa using hsn
        clear hne
        go_wp2
        exact ⟨⟨k + 1, by go_num, hkq, HB.out⟩, by simp [intOf]; omega⟩
    · obtain rfl : k = q := by omega
      have hs2 := HS.out
      rw [HA.out] at hs2
      have hs3 := Option.some.inj hs2
      subst hs3
      simp only at d0 d1
      clear hs2 hkq
      go_wp2
      go_ret
      exact ⟨rfl, box_below HB.out⟩

set_option maxRecDepth 100000 in
set_option maxHeartbeats 4000000 in
theorem requalShapeW {F G : Nat → Prop} (a b : Shp) (va vb : Value) (w : World) (ha : RSl F w 1 EInt va a.cells) (hb : RSl G w 1 EInt vb b.cells) :
    Calls Tryd.prog 35 #[.agg #[.int .i64 a.pred, va], .agg #[.int .i64 b.pred, vb]] w fun e w' => e = .returned (.bool (decide (a = b))) ∧ Below w.heap.size w w' := by
  have b2 : Below w.heap.size w ((w.alloc (.cells #[.int .i64 a.pred, va] 54)).alloc (.cells #[.int .i64 b.pred, vb] 54)) := ((Below.refl _ _).alloc (Nat.le_refl _) _).alloc (by simp) _
  have EQ := Lib.hid (requalIntsW va vb a.cells b.cells _ (ha.keep (Kp.of_below b2)) (hb.keep (Kp.of_below b2)))
  have HB2 := Lib.hid b2
  obtain ⟨A, ca, rfl⟩ := ha.form
  obtain ⟨B, cb, rfl⟩ := hb.form
  clear ha hb b2
  obtain ⟨R, hR⟩ : ∃ R, decide (a = b) = R := ⟨_, rfl⟩
  rw [hR]
  have HR := Lib.hid hR
  clear hR
  go_enter Tryd.func35, Tryd.ntmps35
  by_cases hp : a.pred = b.pred
  · have HF := Lib.hid (show R = eqB a.cells b.cells from by
      rw [← HR.out]
      obtain ⟨ap, ac⟩ := a
      obtain ⟨bp, bc⟩ := b
      simp only at hp
      subst hp
      unfold eqB
      exact decide_eq_decide.2 (by simp))
    have hpd : (a.pred == b.pred) = true := by simp [hp]
    clear hp
    go_wp2_with fail
    refine EQ.out.mono ?_
    rintro e w2 ⟨rfl, hb2⟩
    have HB := Lib.hid (HB2.out.trans (hb2.mono HB2.out.size))
    clear hb2 EQ
    go_wp2
    go_ret
    exact ⟨by rw [HF.out]; rfl, HB.out⟩
  · have HF := Lib.hid (show R = false by rw [← HR.out]; exact decide_eq_false (fun h => hp (by rw [h])))
    have hp2 : (a.pred == b.pred) = false := by simpa using hp
    go_wp2
    go_ret
    exact ⟨by rw [HF.out]; rfl, HB2.out⟩
end Go.Proofs.YtonkbjdeaneicaaDoor
