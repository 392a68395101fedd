/- What a node says of its pattern, place by place. No program in sight. What the nodes of a way say of the conditions. No program in sight. The plan of rules is well formed: a node's places. No program in sight. -/
import Derived.Test.YtonkbjdeaneicaaDoorKpa05
import Derived.Test.YtonkbjdeaneicaaDoorKpa14
import Derived.Test.YtonkbjdeaneicaaDoorKpa20
namespace Go.Proofs.YtonkbjdeaneicaaDoor.Pln
open Classical

theorem linksK_pre (args : List Slt) (w : Int) (i : Nat) : ∀ d, ∃ r, linksK args w (i + d) = linksK args w i ++ r
  | 0 => ⟨[], by simp⟩
  | d + 1 => by
    obtain ⟨r, h⟩ := linksK_pre args w i d
    exact ⟨r ++ linkAt args w (i + d), by rw [← Nat.add_assoc, linksK_succ, h, List.append_assoc]⟩
theorem newK_pre (args : List Slt) (w : Int) (i : Nat) : ∀ d, ∃ r, newK args w (i + d) = newK args w i ++ r
  | 0 => ⟨[], by simp⟩
  | d + 1 => by
    obtain ⟨r, h⟩ := newK_pre args w i d
    exact ⟨r ++ newAt args w (i + d), by rw [← Nat.add_assoc, newK_succ, h, List.append_assoc]⟩
theorem linksK_at {args : List Slt} {w : Int} {i k : Nat} {x : Int × Int} (h : linkAt args w i = [x]) (hk : i < k) : (linksK args w k)[(linksK args w i).length]? = some x := by
  obtain ⟨r, hr⟩ := linksK_pre args w (i + 1) (k - (i + 1))
  rw [show i + 1 + (k - (i + 1)) = k by omega, linksK_succ, h, List.append_assoc] at hr
  rw [hr, List.getElem?_append_right (Nat.le_refl _), Nat.sub_self]
  rfl
theorem newK_at {args : List Slt} {w : Int} {i k : Nat} {x : Int} (h : newAt args w i = [x]) (hk : i < k) : (newK args w k)[(newK args w i).length]? = some x := by
  obtain ⟨r, hr⟩ := newK_pre args w (i + 1) (k - (i + 1))
  rw [show i + 1 + (k - (i + 1)) = k by omega, newK_succ, h, List.append_assoc] at hr
  rw [hr, List.getElem?_append_right (Nat.le_refl _), Nat.sub_self]
  rfl
theorem linkAt_one (args : List Slt) (w : Int) (i : Nat) : (linkAt args w i).length ≤ 1 := by
  unfold linkAt
  split
  · split <;> simp
  · simp
theorem newAt_one (args : List Slt) (w : Int) (i : Nat) : (newAt args w i).length ≤ 1 := by
  unfold newAt
  split
  · split <;> simp
  · simp
theorem linksK_le (args : List Slt) (w : Int) : ∀ k, (linksK args w k).length ≤ k
  | 0 => by simp [linksK_zero]
  | k + 1 => by
    rw [linksK_succ, List.length_append]
    have h1 := linksK_le args w k
    have h2 := linkAt_one args w k
    omega
theorem newK_le (args : List Slt) (w : Int) : ∀ k, (newK args w k).length ≤ k
  | 0 => by simp [newK_zero]
  | k + 1 => by
    rw [newK_succ, List.length_append]
    have h1 := newK_le args w k
    have h2 := newAt_one args w k
    omega
section
variable {args : List Slt} {w : Nat} {i : Nat} {s : Slt}
/-- A constant's place. -/
theorem place_const (h : args[i]? = some s) (hv : s.v = false) : cellF args s = s.n ∧ linkAt args w i = [] ∧ newAt args w i = [] := by
  refine ⟨by unfold cellF; rw [hv]; rfl, ?_, ?_⟩
  · unfold linkAt; simp only [h]; rw [if_neg (by rw [hv]; intro h; exact absurd h.1 (by decide))]
  · unfold newAt; simp only [h]; rw [if_neg (by rw [hv]; intro h; exact absurd h.1 (by decide))]
/-- A variable's place. -/
theorem place_var (h : args[i]? = some s) (hv : s.v = true) : cellF args s = -1 - (firstV args s.n : Int) ∧ firstV args s.n ≤ i ∧ args[firstV args s.n]? = some s := by
  have hle := firstV_le h hv
  refine ⟨by unfold cellF; rw [hv]; rfl, hle, ?_⟩
  rw [firstV_at (Nat.lt_of_le_of_lt hle (List.getElem?_eq_some_iff.1 h).1), ← slt_var hv]
theorem place_again (h : args[i]? = some s) (hj : firstV args s.n < i) : linkAt args w i = [] ∧ newAt args w i = [] := by
  refine ⟨?_, ?_⟩
  · unfold linkAt; simp only [h]; rw [if_neg (by intro h; have := h.2.1; omega)]
  · unfold newAt; simp only [h]; rw [if_neg (by intro h; have := h.2.1; omega)]
theorem place_first (h : args[i]? = some s) (hv : s.v = true) (hj : firstV args s.n = i) : ∀ k, k < i → ∀ t, args[k]? = some t → t ≠ s := by
  intro k hk t ht e
  subst e
  refine firstV_first k (by rw [hj]; exact hk) ?_
  rw [ht]
  exact congrArg some (slt_var hv)
theorem place_link (h : args[i]? = some s) (hv : s.v = true) (hj : firstV args s.n = i) (hw : s.n < (w : Int)) : linkAt args w i = [((i : Int), s.n)] ∧ newAt args w i = [] := by
  refine ⟨?_, ?_⟩
  · unfold linkAt; simp only [h]; rw [if_pos ⟨hv, hj, hw⟩]
  · unfold newAt; simp only [h]; rw [if_neg (by intro h; exact h.2.2 hw)]
theorem place_new (ok : okA args w) (h : args[i]? = some s) (hv : s.v = true) (hj : firstV args s.n = i) (hw : ¬ s.n < (w : Int)) : linkAt args w i = [] ∧ newAt args w i = [(i : Int)] ∧ s.n = (w : Int) + (newK args w i).length := by
  refine ⟨?_, ?_, ?_⟩
  · unfold linkAt; simp only [h]; rw [if_neg (by intro h; exact hw h.2.2)]
  · unfold newAt; simp only [h]; rw [if_pos ⟨hv, hj, hw⟩]
  · rw [fresh_at ok h hv hj hw]
    have := new_count ok i (Nat.le_of_lt (List.getElem?_eq_some_iff.1 h).1)
    omega
end
end Go.Proofs.YtonkbjdeaneicaaDoor.Pln

namespace Go.Proofs.YtonkbjdeaneicaaDoor.Pln
open Classical

theorem way_node {st : St} (hwf : Wf st) {cs : List Cnd} (hst : Stands st 0 cs) (ok : okCs 0 cs) (k3 : ∀ c ∈ cs, ok3 c) {j v : Nat} (hv : (wayF st 0 cs)[j]? = some v) :
    ∃ (c : Cnd) (n : Nd) (w : Nat), cs[j]? = some c ∧ st.ns[v]? = some n ∧ n = nodeC st ((0 :: wayF st 0 cs).getD j 0) c ∧ widthAt st ((0 :: wayF st 0 cs).getD j 0) = (w : Int) ∧ okC w c ∧ Shaped st c := by
  obtain ⟨c, c1, c2, c3, _⟩ := way_at hwf cs 0 hst k3 j v hv
  have w0 : widthAt st 0 = ((0 : Nat) : Int) := by unfold widthAt; rw [hwf.root]; rfl
  obtain ⟨w, h1, h2, h3⟩ := way_width cs 0 0 hst ok w0 j c c1
  exact ⟨c, _, w, c1, c3, rfl, h1, h2, h3⟩
theorem width_node {st : St} {v : Nat} {n : Nd} (h : st.ns[v]? = some n) : widthAt st v = n.width := by
  unfold widthAt; rw [h]
theorem getD_next {l : List Nat} {j v : Nat} (h : l[j]? = some v) : (0 :: l).getD (j + 1) 0 = v := by
  rw [List.getD_cons_succ, List.getD_eq_getElem?_getD, h]; rfl

/-- A node that says a pattern, under which w variables are bound. -/
structure SaysOf (st : St) (n : Nd) (k : Int) (p : Pat) (w ai : Nat) : Prop where
  kind : n.kind = k
  al : st.al[ai]? = some (shapeF p)
  alpha : n.alpha = ai
  links : n.links = linksK p.args w p.args.length
  new : n.new = newK p.args w p.args.length
  width : n.width = (w : Int) + ((newK p.args w p.args.length).length : Int)
  ok : okA p.args w
theorem says_of {st : St} {u w : Nat} {n : Nd} {k : Int} {p : Pat} (hk : k = 1 ∨ k = 3) (hn : n = nodeC st u ⟨k, p, noTst⟩) (hw : widthAt st u = (w : Int)) (ok : okC w ⟨k, p, noTst⟩) (hs : Shaped st ⟨k, p, noTst⟩) : ∃ ai, SaysOf st n k p w ai := by
  have h2 : ¬ k = 2 := by omega
  have e : n = nodeOf st k u p := by rw [hn]; unfold nodeC; rw [if_neg h2]
  refine ⟨placeF st.al (shapeF p), ?_, (placeF_lt (hs h2)).2, ?_, ?_, ?_, ?_, ok.okA h2⟩
  · rw [e]; rfl
  · rw [e]; rfl
  · rw [e]; unfold nodeOf; simp only; rw [hw]
  · rw [e]; unfold nodeOf; simp only; rw [hw]
  · rw [e]; unfold nodeOf; simp only; rw [hw]
theorem neg_new {w : Nat} {p : Pat} (ok : okC w ⟨3, p, noTst⟩) : newK p.args w p.args.length = [] := by
  rcases ok with ⟨h, _⟩ | ⟨h, _⟩ | ⟨_, _, h⟩
  · exact absurd h (show ¬ (3 : Int) = 1 by decide)
  · exact absurd h (show ¬ (3 : Int) = 2 by decide)
  · exact new_below h _ (Nat.le_refl _)
theorem test_of {st : St} {u w : Nat} {n : Nd} {t : Tst} (hn : n = nodeC st u ⟨2, noPat, t⟩) (hw : widthAt st u = (w : Int)) : n.kind = 2 ∧ n.alpha = -1 ∧ n.links = [] ∧ n.new = [] ∧ n.test = t ∧ n.width = (w : Int) := by
  have e : n = testOf st u t := by rw [hn]; unfold nodeC; rw [if_pos rfl]
  rw [e]
  exact ⟨rfl, rfl, rfl, rfl, rfl, hw⟩
/-- A condition's place tells its list. -/
theorem cond_at {r : Rl} {j : Nat} {c : Cnd} (h : (conds r)[j]? = some c) :
    (∃ p, j < r.pos.length ∧ r.pos[j]? = some p ∧ c = ⟨1, p, noTst⟩) ∨ (∃ t k, j = r.pos.length + k ∧ r.tests[k]? = some t ∧ c = ⟨2, noPat, t⟩) ∨ (∃ p k, j = r.pos.length + r.tests.length + k ∧ r.neg[k]? = some p ∧ c = ⟨3, p, noTst⟩) := by
  have hl := (List.getElem?_eq_some_iff.1 h).1
  rw [conds_len] at hl
  rcases Nat.lt_or_ge j r.pos.length with h1 | h1
  · have hp : r.pos[j]? = some r.pos[j] := List.getElem?_eq_getElem h1
    have := cond_pos hp
    rw [h] at this
    exact .inl ⟨_, h1, hp, Option.some.inj this⟩
  · rcases Nat.lt_or_ge j (r.pos.length + r.tests.length) with h2 | h2
    · obtain ⟨k, rfl⟩ : ∃ k, j = r.pos.length + k := ⟨j - r.pos.length, by omega⟩
      have hp : r.tests[k]? = some (r.tests[k]'(by omega)) := List.getElem?_eq_getElem (by omega)
      have := cond_test hp
      rw [h] at this
      exact .inr (.inl ⟨_, k, rfl, hp, Option.some.inj this⟩)
    · obtain ⟨k, rfl⟩ : ∃ k, j = r.pos.length + r.tests.length + k := ⟨j - r.pos.length - r.tests.length, by omega⟩
      have hp : r.neg[k]? = some (r.neg[k]'(by omega)) := List.getElem?_eq_getElem (by omega)
      have := cond_neg hp
      rw [h] at this
      exact .inr (.inr ⟨_, k, rfl, hp, Option.some.inj this⟩)
end Go.Proofs.YtonkbjdeaneicaaDoor.Pln

namespace Go.Proofs.YtonkbjdeaneicaaDoor.Pln
open Classical

/-- Links and new places, told place by place. -/
theorem count_flat {α : Type} (f : Nat → List α) (g : α → Int) (hf : ∀ i, ∀ x ∈ f i, g x = (i : Int)) (i : Nat) : ∀ k, (((List.range k).flatMap f).map g).count (i : Int) = if i < k then (f i).length else 0
  | 0 => by simp
  | k + 1 => by
    rw [List.range_succ, List.flatMap_append, List.map_append, List.count_append, count_flat f g hf i k]
    simp only [List.flatMap_cons, List.flatMap_nil, List.append_nil]
    by_cases h : i = k
    · subst h
      rw [if_neg (by omega), if_pos (by omega)]
      have : ((f i).map g).count (i : Int) = (f i).length := by
        rw [List.count_eq_length.2 (fun b hb => by obtain ⟨x, hx, rfl⟩ := List.mem_map.1 hb; exact (hf i x hx).symm), List.length_map]
      omega
    · have : ((f k).map g).count (i : Int) = 0 := by
        rw [List.count_eq_zero]
        intro hm
        obtain ⟨x, hx, he⟩ := List.mem_map.1 hm
        have := hf k x hx
        omega
      rw [this]
      by_cases h2 : i < k
      · rw [if_pos h2, if_pos (by omega)]; omega
      · rw [if_neg h2, if_neg (by omega)]
theorem linkAt_fst {args : List Slt} {w : Int} (i : Nat) : ∀ x ∈ linkAt args w i, x.1 = (i : Int) := by
  intro x hx
  unfold linkAt at hx
  split at hx
  · split at hx
    · simp only [List.mem_singleton] at hx; rw [hx]
    · simp at hx
  · simp at hx
theorem newAt_fst {args : List Slt} {w : Int} (i : Nat) : ∀ x ∈ newAt args w i, id x = (i : Int) := by
  intro x hx
  unfold newAt at hx
  split at hx
  · split at hx
    · simp only [List.mem_singleton] at hx; rw [hx]; rfl
    · simp at hx
  · simp at hx
theorem cell_count (args : List Slt) (w : Int) (i : Nat) (hi : i < args.length) : ((linksK args w args.length).map Prod.fst ++ newK args w args.length).count (i : Int) = (linkAt args w i).length + (newAt args w i).length := by
  rw [List.count_append]
  have h1 := count_flat (linkAt args w) Prod.fst linkAt_fst i args.length
  have h2 := count_flat (newAt args w) id newAt_fst i args.length
  rw [if_pos hi] at h1 h2
  rw [List.map_id] at h2
  unfold linksK newK
  omega
theorem cells_ok {args : List Slt} {w : Nat} (ok : okA args w) (i : Nat) (hi : i < args.length) : cellOk (args.map (cellF args)) ((linksK args w args.length).map Prod.fst ++ newK args w args.length) i := by
  intro c hc
  rw [List.getElem?_map, Option.map_eq_some_iff] at hc
  obtain ⟨s, hs, rfl⟩ := hc
  rw [cell_count _ _ _ hi]
  by_cases hv : s.v = true
  · obtain ⟨h1, h2, h3⟩ := place_var hs hv
    rw [h1]
    by_cases hf : firstV args s.n = i
    · rw [if_pos (by rw [hf])]
      by_cases hw : s.n < (w : Int)
      · obtain ⟨e1, e2⟩ := place_link hs hv hf hw
        rw [e1, e2]; rfl
      · obtain ⟨e1, e2, _⟩ := place_new ok hs hv hf hw
        rw [e1, e2]; rfl
    · rw [if_neg (by omega)]
      obtain ⟨e1, e2⟩ := place_again (w := w) hs (by omega : firstV args s.n < i)
      rw [e1, e2]; rfl
  · have hv : s.v = false := by simpa using hv
    obtain ⟨h1, h2, h3⟩ := place_const (w := w) hs hv
    have h0 := (okA_at ok hs).1
    rw [h1, h2, h3, if_neg (by omega)]; rfl

/-- The k-th element of a flat list that has at most one for each number. -/
theorem flat_at {α : Type} (f : Nat → List α) (h1 : ∀ i, (f i).length ≤ 1) : ∀ (n k : Nat) (x : α), ((List.range n).flatMap f)[k]? = some x → ∃ i, i < n ∧ f i = [x] ∧ ((List.range i).flatMap f).length = k
  | 0, k, x, h => by simp at h
  | n + 1, k, x, h => by
    rw [List.range_succ, List.flatMap_append] at h
    simp only [List.flatMap_cons, List.flatMap_nil, List.append_nil] at h
    rcases Nat.lt_or_ge k ((List.range n).flatMap f).length with hlt | hge
    · rw [List.getElem?_append_left hlt] at h
      obtain ⟨i, a, b, c⟩ := flat_at f h1 n k x h
      exact ⟨i, by omega, b, c⟩
    · rw [List.getElem?_append_right hge] at h
      have hl := (List.getElem?_eq_some_iff.1 h).1
      have := h1 n
      have e : k = ((List.range n).flatMap f).length := by omega
      refine ⟨n, by omega, ?_, e.symm⟩
      rw [e, Nat.sub_self] at h
      match hf : f n with
      | [] => rw [hf] at h; simp at h
      | [y] => rw [hf] at h; simp at h; rw [h]
      | y :: z :: l => rw [hf] at this; simp at this
theorem flat_mono {α : Type} (f : Nat → List α) {i j : Nat} (h : i ≤ j) : ((List.range i).flatMap f).length ≤ ((List.range j).flatMap f).length := by
  induction j with
  | zero => have : i = 0 := by omega
            subst this; exact Nat.le_refl _
  | succ j ih =>
    by_cases e : i = j + 1
    · subst e; exact Nat.le_refl _
    · rw [List.range_succ, List.flatMap_append, List.length_append]
      have := ih (by omega)
      omega
/-- Places rise. -/
theorem flat_last {α : Type} (f : Nat → List α) (g : α → Int) (hf : ∀ i, ∀ x ∈ f i, g x = (i : Int)) (h1 : ∀ i, (f i).length ≤ 1) {n k : Nat} {x : α} (h : ((List.range n).flatMap f)[k]? = some x) : lastF g ((List.range n).flatMap f) k < g x := by
  obtain ⟨i, a, b, c⟩ := flat_at f h1 n k x h
  have hx : g x = (i : Int) := hf i x (by rw [b]; simp)
  rw [hx]
  match k with
  | 0 => simp [lastF]; omega
  | k + 1 =>
    have hl := (List.getElem?_eq_some_iff.1 h).1
    obtain ⟨y, hy⟩ : ∃ y, ((List.range n).flatMap f)[k]? = some y := ⟨_, List.getElem?_eq_getElem (by omega)⟩
    rw [lastF_next hy]
    obtain ⟨i', a', b', c'⟩ := flat_at f h1 n k y hy
    rw [hf i' y (by rw [b']; simp)]
    have : i' < i := by
      rcases Nat.lt_or_ge i' i with h | h
      · exact h
      · have := flat_mono f h
        omega
    omega
/-- A pattern's node: its places are right. -/
theorem says_places {st : St} {n : Nd} {k : Int} {p : Pat} {w ai : Nat} (h : SaysOf st n k p w ai) (ht : n.test = noTst) (h16 : w + (newK p.args w p.args.length).length ≤ 16) : placesP (shapeF p).cells n (w : Int) := by
  have hl : (shapeF p).cells.length = p.args.length := by simp [shapeF]
  refine ⟨⟨ht, by rw [h.width, h.new], by rw [h.width]; omega⟩, ?_, ?_, ?_⟩
  · intro q _ x hx
    rw [h.links] at hx ⊢
    rw [hl]
    have hlast := flat_last (linkAt p.args w) Prod.fst linkAt_fst (linkAt_one p.args w) hx
    obtain ⟨i, a, b, c⟩ := flat_at _ (linkAt_one p.args w) _ _ _ hx
    have hmem : x ∈ linkAt p.args w i := by rw [b]; simp
    have hxi := linkAt_fst i x hmem
    have facts : ∃ s, p.args[i]? = some s ∧ s.v = true ∧ firstV p.args s.n = i ∧ s.n < (w : Int) ∧ x.2 = s.n := by
      unfold linkAt at hmem
      split at hmem
      · rename_i s hs
        split at hmem
        · rename_i hc
          simp only [List.mem_singleton] at hmem
          exact ⟨s, hs, hc.1, hc.2.1, hc.2.2, by rw [hmem]⟩
        · simp at hmem
      · simp at hmem
    obtain ⟨s, s1, s2, s3, s4, s5⟩ := facts
    refine ⟨hlast, by omega, by rw [s5]; exact (okA_at h.ok s1).1, by rw [s5]; exact s4, ?_⟩
    intro q' hq' y hy hyx
    obtain ⟨i', a', b', c'⟩ := flat_at _ (linkAt_one p.args w) _ _ _ hy
    have hmem' : y ∈ linkAt p.args w i' := by rw [b']; simp
    have facts' : ∃ s' : Slt, firstV p.args s'.n = i' ∧ y.2 = s'.n := by
      unfold linkAt at hmem'
      split at hmem'
      · rename_i s' hs'
        split at hmem'
        · rename_i hc
          simp only [List.mem_singleton] at hmem'
          exact ⟨s', hc.2.1, by rw [hmem']⟩
        · simp at hmem'
      · simp at hmem'
    obtain ⟨s', t1, t2⟩ := facts'
    have : s'.n = s.n := by rw [← t2, ← s5, hyx]
    rw [this, s3] at t1
    subst t1
    omega
  · intro q _ x hx
    rw [h.new] at hx ⊢
    rw [hl]
    have hlast := flat_last (newAt p.args w) id newAt_fst (newAt_one p.args w) hx
    obtain ⟨i, a, b, c⟩ := flat_at _ (newAt_one p.args w) _ _ _ hx
    have hxi := newAt_fst i x (by rw [b]; simp)
    simp only [id] at hxi
    exact ⟨hlast, by omega⟩
  · intro i hi
    rw [h.links, h.new]
    rw [hl] at hi
    exact cells_ok h.ok i hi
/-- A pattern's shape is one that a pattern can have. -/
theorem shape_valid {p : Pat} {w : Nat} (ok : okA p.args w) (hp : 0 ≤ p.pred) : validS (shapeF p) := by
  refine ⟨hp, fun i _ c hc hc0 => ?_⟩
  simp only [shapeF] at hc ⊢
  rw [List.getElem?_map, Option.map_eq_some_iff] at hc
  obtain ⟨s, hs, rfl⟩ := hc
  by_cases hv : s.v = true
  · obtain ⟨h1, h2, h3⟩ := place_var hs hv
    refine ⟨firstV p.args s.n, by rw [h1]; omega, h2, ?_⟩
    rw [List.getElem?_map, h3]
    rfl
  · have hv : s.v = false := by simpa using hv
    have h0 := (okA_at ok hs).1
    rw [(place_const (w := w) hs hv).1] at hc0
    omega
end Go.Proofs.YtonkbjdeaneicaaDoor.Pln
