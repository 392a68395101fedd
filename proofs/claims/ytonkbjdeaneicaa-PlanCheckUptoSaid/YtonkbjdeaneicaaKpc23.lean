/- What a node says of its pattern, place by place. No program in sight. What the nodes of a way say of the conditions. No program in sight. -/
import Derived.Test.YtonkbjdeaneicaaKpc01
import Derived.Test.YtonkbjdeaneicaaKpc12
namespace Go.Proofs.Ytonkbjdeaneicaa.Pln
open Classical

theorem linksK_pre (args : List Slt) (w : Int) (i : Nat) : ∀ d, ∃ r, linksK args w (i + d) = linksK args w i ++ r
  | 0 => ⟨[], by simp⟩
  | d + 1 => by
    obtain ⟨r, h⟩ := linksK_pre args w i d
    exact ⟨r ++ linkAt args w (i + d), by rw [← Nat.add_assoc, linksK_succ, h, List.append_assoc]⟩
theorem newK_pre (args : List Slt) (w : Int) (i : Nat) : ∀ d, ∃ r, newK args w (i + d) = newK args w i ++ r
  | 0 => ⟨[], by simp⟩
  | d + 1 => by
    obtain ⟨r, h⟩ := newK_pre args w i d
    exact ⟨r ++ newAt args w (i + d), by rw [← Nat.add_assoc, newK_succ, h, List.append_assoc]⟩
theorem linksK_at {args : List Slt} {w : Int} {i k : Nat} {x : Int × Int} (h : linkAt args w i = [x]) (hk : i < k) : (linksK args w k)[(linksK args w i).length]? = some x := by
  obtain ⟨r, hr⟩ := linksK_pre args w (i + 1) (k - (i + 1))
  rw [show i + 1 + (k - (i + 1)) = k by omega, linksK_succ, h, List.append_assoc] at hr
  rw [hr, List.getElem?_append_right (Nat.le_refl _), Nat.sub_self]
  rfl
theorem newK_at {args : List Slt} {w : Int} {i k : Nat} {x : Int} (h : newAt args w i = [x]) (hk : i < k) : (newK args w k)[(newK args w i).length]? = some x := by
  obtain ⟨r, hr⟩ := newK_pre args w (i + 1) (k - (i + 1))
  rw [show i + 1 + (k - (i + 1)) = k by omega, newK_succ, h, List.append_assoc] at hr
  rw [hr, List.getElem?_append_right (Nat.le_refl _), Nat.sub_self]
  rfl
theorem linkAt_one (args : List Slt) (w : Int) (i : Nat) : (linkAt args w i).length ≤ 1 := by
  unfold linkAt
  split
  · split <;> simp
  · simp
theorem newAt_one (args : List Slt) (w : Int) (i : Nat) : (newAt args w i).length ≤ 1 := by
  unfold newAt
  split
  · split <;> simp
  · simp
theorem linksK_le (args : List Slt) (w : Int) : ∀ k, (linksK args w k).length ≤ k
  | 0 => by simp [linksK_zero]
  | k + 1 => by
    rw [linksK_succ, List.length_append]
    have h1 := linksK_le args w k
    have h2 := linkAt_one args w k
    omega
theorem newK_le (args : List Slt) (w : Int) : ∀ k, (newK args w k).length ≤ k
  | 0 => by simp [newK_zero]
  | k + 1 => by
    rw [newK_succ, List.length_append]
    have h1 := newK_le args w k
    have h2 := newAt_one args w k
    omega
section
variable {args : List Slt} {w : Nat} {i : Nat} {s : Slt}
/-- A constant's place. -/
theorem place_const (h : args[i]? = some s) (hv : s.v = false) : cellF args s = s.n ∧ linkAt args w i = [] ∧ newAt args w i = [] := by
  refine ⟨by unfold cellF; rw [hv]; rfl, ?_, ?_⟩
  · unfold linkAt; simp only [h]; rw [if_neg (by rw [hv]; intro h; exact absurd h.1 (by decide))]
  · unfold newAt; simp only [h]; rw [if_neg (by rw [hv]; intro h; exact absurd h.1 (by decide))]
/-- A variable's place. -/
theorem place_var (h : args[i]? = some s) (hv : s.v = true) : cellF args s = -1 - (firstV args s.n : Int) ∧ firstV args s.n ≤ i ∧ args[firstV args s.n]? = some s := by
  have hle := firstV_le h hv
  refine ⟨by unfold cellF; rw [hv]; rfl, hle, ?_⟩
  rw [firstV_at (Nat.lt_of_le_of_lt hle (List.getElem?_eq_some_iff.1 h).1), ← slt_var hv]
theorem place_again (h : args[i]? = some s) (hj : firstV args s.n < i) : linkAt args w i = [] ∧ newAt args w i = [] := by
  refine ⟨?_, ?_⟩
  · unfold linkAt; simp only [h]; rw [if_neg (by intro h; have := h.2.1; omega)]
  · unfold newAt; simp only [h]; rw [if_neg (by intro h; have := h.2.1; omega)]
theorem place_first (h : args[i]? = some s) (hv : s.v = true) (hj : firstV args s.n = i) : ∀ k, k < i → ∀ t, args[k]? = some t → t ≠ s := by
  intro k hk t ht e
  subst e
  refine firstV_first k (by rw [hj]; exact hk) ?_
  rw [ht]
  exact congrArg some (slt_var hv)
theorem place_link (h : args[i]? = some s) (hv : s.v = true) (hj : firstV args s.n = i) (hw : s.n < (w : Int)) : linkAt args w i = [((i : Int), s.n)] ∧ newAt args w i = [] := by
  refine ⟨?_, ?_⟩
  · unfold linkAt; simp only [h]; rw [if_pos ⟨hv, hj, hw⟩]
  · unfold newAt; simp only [h]; rw [if_neg (by intro h; exact h.2.2 hw)]
theorem place_new (ok : okA args w) (h : args[i]? = some s) (hv : s.v = true) (hj : firstV args s.n = i) (hw : ¬ s.n < (w : Int)) : linkAt args w i = [] ∧ newAt args w i = [(i : Int)] ∧ s.n = (w : Int) + (newK args w i).length := by
  refine ⟨?_, ?_, ?_⟩
  · unfold linkAt; simp only [h]; rw [if_neg (by intro h; exact hw h.2.2)]
  · unfold newAt; simp only [h]; rw [if_pos ⟨hv, hj, hw⟩]
  · rw [fresh_at ok h hv hj hw]
    have := new_count ok i (Nat.le_of_lt (List.getElem?_eq_some_iff.1 h).1)
    omega
end
end Go.Proofs.Ytonkbjdeaneicaa.Pln

namespace Go.Proofs.Ytonkbjdeaneicaa.Pln
open Classical

theorem way_node {st : St} (hwf : Wf st) {cs : List Cnd} (hst : Stands st 0 cs) (ok : okCs 0 cs) (k3 : ∀ c ∈ cs, ok3 c) {j v : Nat} (hv : (wayF st 0 cs)[j]? = some v) :
    ∃ (c : Cnd) (n : Nd) (w : Nat), cs[j]? = some c ∧ st.ns[v]? = some n ∧ n = nodeC st ((0 :: wayF st 0 cs).getD j 0) c ∧ widthAt st ((0 :: wayF st 0 cs).getD j 0) = (w : Int) ∧ okC w c ∧ Shaped st c := by
  obtain ⟨c, c1, c2, c3, _⟩ := way_at hwf cs 0 hst k3 j v hv
  have w0 : widthAt st 0 = ((0 : Nat) : Int) := by unfold widthAt; rw [hwf.root]; rfl
  obtain ⟨w, h1, h2, h3⟩ := way_width cs 0 0 hst ok w0 j c c1
  exact ⟨c, _, w, c1, c3, rfl, h1, h2, h3⟩
theorem width_node {st : St} {v : Nat} {n : Nd} (h : st.ns[v]? = some n) : widthAt st v = n.width := by
  unfold widthAt; rw [h]
theorem getD_next {l : List Nat} {j v : Nat} (h : l[j]? = some v) : (0 :: l).getD (j + 1) 0 = v := by
  rw [List.getD_cons_succ, List.getD_eq_getElem?_getD, h]; rfl

/-- A node that says a pattern, under which w variables are bound. -/
structure SaysOf (st : St) (n : Nd) (k : Int) (p : Pat) (w ai : Nat) : Prop where
  kind : n.kind = k
  al : st.al[ai]? = some (shapeF p)
  alpha : n.alpha = ai
  links : n.links = linksK p.args w p.args.length
  new : n.new = newK p.args w p.args.length
  width : n.width = (w : Int) + ((newK p.args w p.args.length).length : Int)
  ok : okA p.args w
theorem says_of {st : St} {u w : Nat} {n : Nd} {k : Int} {p : Pat} (hk : k = 1 ∨ k = 3) (hn : n = nodeC st u ⟨k, p, noTst⟩) (hw : widthAt st u = (w : Int)) (ok : okC w ⟨k, p, noTst⟩) (hs : Shaped st ⟨k, p, noTst⟩) : ∃ ai, SaysOf st n k p w ai := by
  have h2 : ¬ k = 2 := by omega
  have e : n = nodeOf st k u p := by rw [hn]; unfold nodeC; rw [if_neg h2]
  refine ⟨placeF st.al (shapeF p), ?_, (placeF_lt (hs h2)).2, ?_, ?_, ?_, ?_, ok.okA h2⟩
  · rw [e]; rfl
  · rw [e]; rfl
  · rw [e]; unfold nodeOf; simp only; rw [hw]
  · rw [e]; unfold nodeOf; simp only; rw [hw]
  · rw [e]; unfold nodeOf; simp only; rw [hw]
theorem neg_new {w : Nat} {p : Pat} (ok : okC w ⟨3, p, noTst⟩) : newK p.args w p.args.length = [] := by
  rcases ok with ⟨h, _⟩ | ⟨h, _⟩ | ⟨_, _, h⟩
  · exact absurd h (show ¬ (3 : Int) = 1 by decide)
  · exact absurd h (show ¬ (3 : Int) = 2 by decide)
  · exact new_below h _ (Nat.le_refl _)
theorem test_of {st : St} {u w : Nat} {n : Nd} {t : Tst} (hn : n = nodeC st u ⟨2, noPat, t⟩) (hw : widthAt st u = (w : Int)) : n.kind = 2 ∧ n.alpha = -1 ∧ n.links = [] ∧ n.new = [] ∧ n.test = t ∧ n.width = (w : Int) := by
  have e : n = testOf st u t := by rw [hn]; unfold nodeC; rw [if_pos rfl]
  rw [e]
  exact ⟨rfl, rfl, rfl, rfl, rfl, hw⟩
/-- A condition's place tells its list. -/
theorem cond_at {r : Rl} {j : Nat} {c : Cnd} (h : (conds r)[j]? = some c) :
    (∃ p, j < r.pos.length ∧ r.pos[j]? = some p ∧ c = ⟨1, p, noTst⟩) ∨ (∃ t k, j = r.pos.length + k ∧ r.tests[k]? = some t ∧ c = ⟨2, noPat, t⟩) ∨ (∃ p k, j = r.pos.length + r.tests.length + k ∧ r.neg[k]? = some p ∧ c = ⟨3, p, noTst⟩) := by
  have hl := (List.getElem?_eq_some_iff.1 h).1
  rw [conds_len] at hl
  rcases Nat.lt_or_ge j r.pos.length with h1 | h1
  · have hp : r.pos[j]? = some r.pos[j] := List.getElem?_eq_getElem h1
    have := cond_pos hp
    rw [h] at this
    exact .inl ⟨_, h1, hp, Option.some.inj this⟩
  · rcases Nat.lt_or_ge j (r.pos.length + r.tests.length) with h2 | h2
    · obtain ⟨k, rfl⟩ : ∃ k, j = r.pos.length + k := ⟨j - r.pos.length, by omega⟩
      have hp : r.tests[k]? = some (r.tests[k]'(by omega)) := List.getElem?_eq_getElem (by omega)
      have := cond_test hp
      rw [h] at this
      exact .inr (.inl ⟨_, k, rfl, hp, Option.some.inj this⟩)
    · obtain ⟨k, rfl⟩ : ∃ k, j = r.pos.length + r.tests.length + k := ⟨j - r.pos.length - r.tests.length, by omega⟩
      have hp : r.neg[k]? = some (r.neg[k]'(by omega)) := List.getElem?_eq_getElem (by omega)
      have := cond_neg hp
      rw [h] at this
      exact .inr (.inr ⟨_, k, rfl, hp, Option.some.inj this⟩)
end Go.Proofs.Ytonkbjdeaneicaa.Pln
