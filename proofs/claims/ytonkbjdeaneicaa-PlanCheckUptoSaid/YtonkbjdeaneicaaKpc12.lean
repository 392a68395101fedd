/- Plans, in plain Lean: what holds behind the first conditions of a rule. What can be read back from a well formed node: a pattern that it says. No program in sight. -/
import Derived.Test.YtonkbjdeaneicaaKpc02
import Derived.Test.YtonkbjdeaneicaaKpc11
namespace Go.Proofs.Ytonkbjdeaneicaa.Pln
open Classical

/-- Behind the first i conditions. -/
noncomputable def upTo (st : St) (r : Rl) (i : Nat) : Nat × St := ((conds r).take i).foldl stepF (0, st)
theorem upTo_zero (st : St) (r : Rl) : upTo st r 0 = (0, st) := rfl
theorem upTo_succ (st : St) {r : Rl} {i : Nat} {c : Cnd} (h : (conds r)[i]? = some c) : upTo st r (i + 1) = stepF (upTo st r i) c := by
  unfold upTo
  rw [List.take_add_one, h, List.foldl_append]
  rfl
theorem upTo_all (st : St) (r : Rl) : upTo st r (r.pos.length + r.tests.length + r.neg.length) = ruleF st r := by
  unfold upTo
  rw [← conds_len, List.take_length, ruleF_conds]
theorem cond_pos {r : Rl} {j : Nat} {p : Pat} (h : r.pos[j]? = some p) : (conds r)[j]? = some ⟨1, p, noTst⟩ := by
  unfold conds
  have hl := (List.getElem?_eq_some_iff.1 h).1
  rw [List.getElem?_append_left (by simp; omega), List.getElem?_append_left (by simpa using hl), List.getElem?_map, h]
  rfl
theorem cond_test {r : Rl} {j : Nat} {t : Tst} (h : r.tests[j]? = some t) : (conds r)[r.pos.length + j]? = some ⟨2, noPat, t⟩ := by
  unfold conds
  have hl := (List.getElem?_eq_some_iff.1 h).1
  rw [List.getElem?_append_left (by simp; omega), List.getElem?_append_right (by simp), List.length_map, Nat.add_sub_cancel_left, List.getElem?_map, h]
  rfl
theorem cond_neg {r : Rl} {j : Nat} {p : Pat} (h : r.neg[j]? = some p) : (conds r)[r.pos.length + r.tests.length + j]? = some ⟨3, p, noTst⟩ := by
  unfold conds
  rw [List.getElem?_append_right (by simp), List.getElem?_map]
  have e : r.pos.length + r.tests.length + j - (r.pos.map (fun p => (⟨1, p, noTst⟩ : Cnd)) ++ r.tests.map (fun t => (⟨2, noPat, t⟩ : Cnd))).length = j := by simp
  rw [e, h]
  rfl
theorem okCs_at : ∀ (cs : List Cnd) (w : Nat), okCs w cs → ∀ c ∈ cs, ∃ w', okC w' c
  | [], _, _, c, h => by cases h
  | d :: l, w, ⟨h1, h2⟩, c, h => by
    rcases List.mem_cons.1 h with rfl | h
    · exact ⟨w, h1⟩
    · exact okCs_at l _ h2 c h
theorem fold_width : ∀ (cs : List Cnd) (x : Nat × St) (w : Nat), okCs w cs → (∀ c ∈ cs, c.p.args.length ≤ 8) → x.1 < x.2.ns.length → widthAt x.2 x.1 = (w : Int) →
    ∃ w' : Nat, widthAt (cs.foldl stepF x).2 (cs.foldl stepF x).1 = (w' : Int) ∧ w' ≤ w + 8 * cs.length
  | [], x, w, _, _, _, hw => ⟨w, hw, by simp⟩
  | c :: r, x, w, ⟨h1, h2⟩, h8, hx, hw => by
    obtain ⟨s1, s2, s3, s4⟩ := stepF_facts x c hx
    have hE := ext_stepF x c
    have hw2 : widthAt (stepF x c).2 x.1 = (w : Int) := by rw [hE.width hx]; exact hw
    have e : widthAt (stepF x c).2 (stepF x c).1 = (nextW w c : Int) := by
      unfold widthAt
      rw [s3, (placeF_lt s2).2]
      exact nodeC_width h1 hw2
    obtain ⟨w', i1, i2⟩ := fold_width r (stepF x c) _ h2 (fun d hd => h8 d (List.mem_cons_of_mem _ hd)) s4 e
    refine ⟨w', i1, Nat.le_trans i2 ?_⟩
    have h3 : nextW w c ≤ w + 8 := by
      unfold nextW
      split
      · have := scanD_len c.p.args w
        have := h8 c (List.mem_cons_self ..)
        omega
      · omega
    simp only [List.length_cons]
    omega
theorem fold_len : ∀ (cs : List Cnd) (x : Nat × St), (cs.foldl stepF x).2.ns.length ≤ x.2.ns.length + cs.length ∧ (cs.foldl stepF x).2.al.length ≤ x.2.al.length + cs.length
  | [], x => by simp
  | c :: r, x => by
    obtain ⟨i1, i2⟩ := fold_len r (stepF x c)
    rw [List.foldl_cons]
    have h : (stepF x c).2.ns.length ≤ x.2.ns.length + 1 ∧ (stepF x c).2.al.length ≤ x.2.al.length + 1 := by
      unfold stepF
      split
      · obtain ⟨q, h1, h2⟩ := addF_pre x.2.ns (testOf x.2 x.1 c.t)
        refine ⟨?_, by simp [tstF]⟩
        show (addF _ _).length ≤ _
        rw [h1, List.length_append]; omega
      · obtain ⟨q, h1, h2⟩ := addF_pre x.2.ns (nodeOf x.2 c.kind x.1 c.p)
        obtain ⟨q', h3, h4⟩ := addF_pre x.2.al (shapeF c.p)
        refine ⟨?_, ?_⟩
        · show (addF _ _).length ≤ _
          rw [h1, List.length_append]; omega
        · show (addF _ _).length ≤ _
          rw [h3, List.length_append]; omega
    simp only [List.length_cons]
    omega
theorem okCs_take : ∀ (cs : List Cnd) (w i : Nat), okCs w cs → okCs w (cs.take i)
  | [], _, i, _ => by simp [okCs]
  | c :: r, w, 0, _ => trivial
  | c :: r, w, i + 1, ⟨h1, h2⟩ => ⟨h1, okCs_take r _ i h2⟩
theorem Fit.args8 {r : Rl} {w : Nat} (h : Fit r w) : ∀ c ∈ conds r, c.p.args.length ≤ 8 := by
  intro c hc
  unfold conds at hc
  rcases List.mem_append.1 hc with hc | hc
  · rcases List.mem_append.1 hc with hc | hc
    · obtain ⟨p, hp, rfl⟩ := List.mem_map.1 hc
      exact (h.pats p hp).2
    · obtain ⟨t, ht, rfl⟩ := List.mem_map.1 hc
      simp [noPat]
  · obtain ⟨p, hp, rfl⟩ := List.mem_map.1 hc
    exact (h.ngs p hp).2.1
/-- What holds behind the first i conditions of a rule that fits. -/
theorem upTo_facts {st : St} (hwf : Wf st) {r : Rl} {w : Nat} (h : Fit r w) {i : Nat} (hi : i ≤ r.pos.length + r.tests.length + r.neg.length) :
    (upTo st r i).1 < (upTo st r i).2.ns.length ∧ (∃ w' : Nat, widthAt (upTo st r i).2 (upTo st r i).1 = (w' : Int) ∧ w' ≤ 128) ∧ (upTo st r i).2.ns.length ≤ st.ns.length + 16 ∧ (upTo st r i).2.al.length ≤ st.al.length + 16 := by
  have hl : ((conds r).take i).length ≤ 16 := by
    rw [List.length_take, conds_len]
    have := h.many
    omega
  have w0 : widthAt st 0 = ((0 : Nat) : Int) := by unfold widthAt; rw [hwf.root]; rfl
  obtain ⟨w', h1, h2⟩ := fold_width ((conds r).take i) (0, st) 0 (okCs_take _ _ _ h.okCs) (fun c hc => h.args8 c (List.mem_of_mem_take hc)) hwf.len w0
  obtain ⟨h3, h4⟩ := fold_len ((conds r).take i) (0, st)
  refine ⟨(stands_fold ((conds r).take i) (0, st) hwf.len).2.2, ⟨w', h1, by omega⟩, ?_, ?_⟩
  · exact Nat.le_trans h3 (by simp only; omega)
  · exact Nat.le_trans h4 (by simp only; omega)
theorem comp_len (rs : List Rl) (hf : ∀ r ∈ rs, mayP r) : ∀ k, k ≤ rs.length → (compF (rs.take k)).1.ns.length ≤ 1 + 16 * k ∧ (compF (rs.take k)).1.al.length ≤ 16 * k
  | 0, _ => by simp [compF]
  | k + 1, hk => by
    obtain ⟨i1, i2⟩ := comp_len rs hf k (by omega)
    have hr : rs[k]? = some rs[k] := List.getElem?_eq_getElem (by omega)
    obtain ⟨w, hw⟩ := hf rs[k] (List.getElem_mem _)
    obtain ⟨_, _, h3, h4⟩ := upTo_facts (made_comp (rs.take k)).wf hw (Nat.le_refl _)
    rw [upTo_all] at h3 h4
    rw [comp_take_succ hr]
    simp only [endF]
    omega
end Go.Proofs.Ytonkbjdeaneicaa.Pln

namespace Go.Proofs.Ytonkbjdeaneicaa.Pln
open Classical

/-- What the free place i of a node holds. -/
noncomputable def linkOf : List (Int × Int) → Int → Option Int
  | [], _ => none
  | x :: r, i => if x.1 = i then some x.2 else linkOf r i
noncomputable def heldF (ls : List (Int × Int)) (nw : List Int) (w : Int) (i : Int) : Int := match linkOf ls i with
  | some v => v
  | none => if i ∈ nw then w + (placeF nw i : Int) else -1
noncomputable def backS (ls : List (Int × Int)) (nw : List Int) (w : Int) (out : List Slt) (i : Nat) (c : Int) : Option (List Slt) :=
  if 0 ≤ c then some (out ++ [⟨false, c⟩])
  else if -1 - c < (i : Int) then (match out[(-1 - c).toNat]? with | some s => some (out ++ [s]) | none => none)
  else if (i : Int) < -1 - c ∨ heldF ls nw w i < 0 then none else some (out ++ [⟨true, heldF ls nw w i⟩])
noncomputable def backK (cells : List Int) (ls : List (Int × Int)) (nw : List Int) (w : Int) : Nat → Option (List Slt)
  | 0 => some []
  | k + 1 => match backK cells ls nw w k, cells[k]? with
    | some out, some c => backS ls nw w out k c
    | _, _ => none

theorem sorted_of {α : Type} (f : α → Int) (l : List α) (h : ∀ k x, l[k]? = some x → lastF f l k < f x) : l.Pairwise (fun a b => f a < f b) := by
  rw [List.pairwise_iff_getElem]
  intro i j hi hj hij
  induction j with
  | zero => omega
  | succ j ih =>
    have h1 := h (j + 1) _ (List.getElem?_eq_getElem hj)
    rw [lastF_next (List.getElem?_eq_getElem (by omega : j < l.length))] at h1
    rcases Nat.lt_or_ge i j with hlt | hge
    · have := ih (by omega) hlt
      omega
    · obtain rfl : i = j := by omega
      exact h1
theorem filter_gt {α : Type} (f : α → Int) (k : Int) : ∀ l : List α, (∀ x ∈ l, k < f x) → l.filter (fun x => decide (f x < k + 1)) = [] ∧ l.filter (fun x => decide (f x < k)) = [] ∧ l.filter (fun x => decide (f x = k)) = [] := by
  intro l h
  refine ⟨?_, ?_, ?_⟩ <;>
  · rw [List.filter_eq_nil_iff]
    intro x hx
    have := h x hx
    simp only [decide_eq_true_eq]
    omega
theorem filter_next {α : Type} (f : α → Int) (k : Int) : ∀ l : List α, l.Pairwise (fun a b => f a < f b) → l.filter (fun x => decide (f x < k + 1)) = l.filter (fun x => decide (f x < k)) ++ l.filter (fun x => decide (f x = k))
  | [], _ => rfl
  | a :: r, h => by
    obtain ⟨h1, h2⟩ := List.pairwise_cons.1 h
    have ih := filter_next f k r h2
    rcases Int.lt_trichotomy (f a) k with hlt | heq | hgt
    · rw [List.filter_cons_of_pos (by simp; omega), List.filter_cons_of_pos (by simp; omega), List.filter_cons_of_neg (by simp; omega), ih]
      rfl
    · obtain ⟨e1, e2, e3⟩ := filter_gt f k r (fun x hx => by have := h1 x hx; omega)
      rw [List.filter_cons_of_pos (by simp; omega), List.filter_cons_of_neg (by simp; omega), List.filter_cons_of_pos (by simp; omega), e1, e2, e3]
      rfl
    · obtain ⟨e1, e2, e3⟩ := filter_gt f k (a :: r) (fun x hx => by
        rcases List.mem_cons.1 hx with rfl | hx
        · exact hgt
        · have := h1 x hx; omega)
      rw [e1, e2, e3]
      rfl
theorem filter_all {α : Type} (f : α → Int) (k : Int) (l : List α) (h : ∀ x ∈ l, f x < k) : l.filter (fun x => decide (f x < k)) = l := by
  rw [List.filter_eq_self]
  intro x hx
  simpa using h x hx
theorem filter_zero {α : Type} (f : α → Int) (l : List α) (h : ∀ x ∈ l, 0 ≤ f x) : l.filter (fun x => decide (f x < ((0 : Nat) : Int))) = [] := by
  rw [List.filter_eq_nil_iff]
  intro x hx
  have := h x hx
  simp only [decide_eq_true_eq]
  omega
theorem count_filter {α : Type} (f : α → Int) (k : Int) (l : List α) : (l.map f).count k = (l.filter (fun x => decide (f x = k))).length := by
  induction l with
  | nil => rfl
  | cons a r ih =>
    rw [List.map_cons, List.count_cons, List.filter_cons, ih]
    by_cases h : f a = k
    · simp [h]
    · simp [h]
theorem link_some {ls : List (Int × Int)} {i : Int} {x : Int × Int} (h : ls.filter (fun x => decide (x.1 = i)) = [x]) : linkOf ls i = some x.2 ∧ x ∈ ls ∧ x.1 = i := by
  have hm : x ∈ ls.filter (fun x => decide (x.1 = i)) := by rw [h]; simp
  obtain ⟨h1, h2⟩ := List.mem_filter.1 hm
  refine ⟨?_, h1, by simpa using h2⟩
  clear hm h1 h2
  induction ls with
  | nil => simp at h
  | cons a r ih =>
    unfold linkOf
    by_cases ha : a.1 = i
    · rw [if_pos ha]
      rw [List.filter_cons_of_pos (by simpa using ha)] at h
      injection h with h1 h2
      rw [h1]
    · rw [if_neg ha]
      rw [List.filter_cons_of_neg (by simpa using ha)] at h
      exact ih h
theorem link_none {ls : List (Int × Int)} {i : Int} (h : ls.filter (fun x => decide (x.1 = i)) = []) : linkOf ls i = none := by
  induction ls with
  | nil => rfl
  | cons a r ih =>
    unfold linkOf
    by_cases ha : a.1 = i
    · rw [List.filter_cons_of_pos (by simpa using ha)] at h
      cases h
    · rw [if_neg ha]
      rw [List.filter_cons_of_neg (by simpa using ha)] at h
      exact ih h
theorem place_filter : ∀ (l : List Int) (i : Int), l.Pairwise (fun a b => id a < id b) → i ∈ l → placeF l i = (l.filter (fun x => decide (id x < i))).length
  | [], _, _, h => by cases h
  | a :: r, i, hs, h => by
    obtain ⟨h1, h2⟩ := List.pairwise_cons.1 hs
    unfold placeF
    by_cases ha : a = i
    · subst ha
      obtain ⟨-, e2, -⟩ := filter_gt id a r h1
      rw [if_pos rfl, List.filter_cons_of_neg (by simp), e2]
      rfl
    · have hr : i ∈ r := by
        rcases List.mem_cons.1 h with h | h
        · exact absurd h.symm ha
        · exact h
      have := h1 i hr
      rw [if_neg ha, List.filter_cons_of_pos (by simpa using this), place_filter r i h2 hr]
      rfl

/-- Links and new places of a shape, under which w variables are bound. -/
structure PlOk (cells : List Int) (ls : List (Int × Int)) (nw : List Int) (w : Nat) : Prop where
  lok : ∀ k, k < ls.length → linkOk cells.length w ls k
  nok : ∀ k, k < nw.length → newOk cells.length nw k
  ce : ∀ i, i < cells.length → cellOk cells (ls.map Prod.fst ++ nw) i
  va : ∀ i c, cells[i]? = some c → c < 0 → ∃ j : Nat, (j : Int) = -1 - c ∧ j ≤ i ∧ cells[j]? = some c
section
variable {cells : List Int} {ls : List (Int × Int)} {nw : List Int} {w : Nat}
theorem PlOk.lsort (h : PlOk cells ls nw w) : ls.Pairwise (fun a b => a.1 < b.1) := sorted_of Prod.fst ls (fun k x hx => (h.lok k (List.getElem?_eq_some_iff.1 hx).1 x hx).1)
theorem PlOk.nsort (h : PlOk cells ls nw w) : nw.Pairwise (fun a b => id a < id b) := sorted_of id nw (fun k x hx => (h.nok k (List.getElem?_eq_some_iff.1 hx).1 x hx).1)
theorem PlOk.lmem (h : PlOk cells ls nw w) {x : Int × Int} (hx : x ∈ ls) : 0 ≤ x.1 ∧ x.1 < (cells.length : Int) ∧ 0 ≤ x.2 ∧ x.2 < (w : Int) := by
  obtain ⟨k, hk⟩ := List.getElem?_of_mem hx
  have hl := (List.getElem?_eq_some_iff.1 hk).1
  obtain ⟨h1, h2, h3, h4, _⟩ := h.lok k hl x hk
  have := last_link k (by omega) (fun q hq => h.lok q (by omega))
  exact ⟨by omega, h2, h3, h4⟩
theorem PlOk.nmem (h : PlOk cells ls nw w) {x : Int} (hx : x ∈ nw) : 0 ≤ x ∧ x < (cells.length : Int) := by
  obtain ⟨k, hk⟩ := List.getElem?_of_mem hx
  have hl := (List.getElem?_eq_some_iff.1 hk).1
  obtain ⟨h1, h2⟩ := h.nok k hl x hk
  have := last_new k (by omega) (fun q hq => h.nok q (by omega))
  exact ⟨by omega, h2⟩
/-- Two links of one variable are one. -/
theorem PlOk.linj (h : PlOk cells ls nw w) {x y : Int × Int} (hx : x ∈ ls) (hy : y ∈ ls) (e : x.2 = y.2) : x = y := by
  obtain ⟨k, hk⟩ := List.getElem?_of_mem hx
  obtain ⟨q, hq⟩ := List.getElem?_of_mem hy
  have hl := (List.getElem?_eq_some_iff.1 hk).1
  have hm := (List.getElem?_eq_some_iff.1 hq).1
  rcases Nat.lt_trichotomy k q with h1 | h1 | h1
  · exact absurd e ((h.lok q hm y hq).2.2.2.2 k h1 x hk)
  · subst h1
    rw [hk] at hq
    exact Option.some.inj hq
  · exact absurd e.symm ((h.lok k hl x hk).2.2.2.2 q h1 y hq)
/-- A place that is free stands in one of the two lists, another in none. -/
theorem PlOk.free (h : PlOk cells ls nw w) {i : Nat} {c : Int} (hc : cells[i]? = some c) (hf : c = -1 - (i : Int)) :
    (∃ v, ls.filter (fun x => decide (x.1 = (i : Int))) = [((i : Int), v)] ∧ nw.filter (fun x => decide (id x = (i : Int))) = []) ∨ (ls.filter (fun x => decide (x.1 = (i : Int))) = [] ∧ nw.filter (fun x => decide (id x = (i : Int))) = [(i : Int)]) := by
  have h1 := h.ce i (List.getElem?_eq_some_iff.1 hc).1 c hc
  rw [if_pos hf, List.count_append, count_filter, show nw = nw.map id by simp, count_filter] at h1
  have e1 : ∀ x ∈ ls.filter (fun x => decide (x.1 = (i : Int))), x.1 = (i : Int) := fun x hx => by simpa using (List.mem_filter.1 hx).2
  have e2 : ∀ x ∈ nw.filter (fun x => decide (id x = (i : Int))), x = (i : Int) := fun x hx => by simpa using (List.mem_filter.1 hx).2
  obtain ⟨L, hL⟩ : ∃ L, ls.filter (fun x => decide (x.1 = (i : Int))) = L := ⟨_, rfl⟩
  obtain ⟨M, hM⟩ : ∃ M, nw.filter (fun x => decide (id x = (i : Int))) = M := ⟨_, rfl⟩
  rw [hL] at e1 h1 ⊢
  rw [hM] at e2 h1 ⊢
  match L, M with
  | [], [] => simp at h1
  | [a], [] => exact .inl ⟨a.2, congrArg (fun z => [z]) (Prod.ext (e1 a (by simp)) rfl), rfl⟩
  | [], [b] => exact .inr ⟨rfl, congrArg (fun z => [z]) (e2 b (by simp))⟩
  | a :: b :: l, m => simp at h1; omega
  | [a], b :: l => simp at h1; omega
  | [], a :: b :: l => simp at h1; omega
theorem PlOk.none (h : PlOk cells ls nw w) {i : Nat} {c : Int} (hc : cells[i]? = some c) (hf : ¬ c = -1 - (i : Int)) : ls.filter (fun x => decide (x.1 = (i : Int))) = [] ∧ nw.filter (fun x => decide (id x = (i : Int))) = [] := by
  have h1 := h.ce i (List.getElem?_eq_some_iff.1 hc).1 c hc
  rw [if_neg hf, List.count_append, count_filter, show nw = nw.map id by simp, count_filter] at h1
  exact ⟨List.eq_nil_of_length_eq_zero (by omega), List.eq_nil_of_length_eq_zero (by omega)⟩
/-- What a free place holds. -/
theorem PlOk.held (h : PlOk cells ls nw w) {i : Nat} {c : Int} (hc : cells[i]? = some c) (hf : c = -1 - (i : Int)) :
    (∃ v, ls.filter (fun x => decide (x.1 = (i : Int))) = [((i : Int), v)] ∧ nw.filter (fun x => decide (id x = (i : Int))) = [] ∧ heldF ls nw w i = v ∧ ((i : Int), v) ∈ ls ∧ 0 ≤ v ∧ v < (w : Int)) ∨
    (ls.filter (fun x => decide (x.1 = (i : Int))) = [] ∧ nw.filter (fun x => decide (id x = (i : Int))) = [(i : Int)] ∧ (i : Int) ∈ nw ∧ heldF ls nw w i = (w : Int) + ((nw.filter (fun x => decide (id x < (i : Int)))).length : Int)) := by
  rcases h.free hc hf with ⟨v, h1, h2⟩ | ⟨h1, h2⟩
  · obtain ⟨e1, e2, _⟩ := link_some h1
    obtain ⟨_, _, e3, e4⟩ := h.lmem e2
    exact .inl ⟨v, h1, h2, by unfold heldF; rw [e1], e2, e3, e4⟩
  · have hm : (i : Int) ∈ nw := by
      have : (i : Int) ∈ nw.filter (fun x => decide (id x = (i : Int))) := by rw [h2]; simp
      exact (List.mem_filter.1 this).1
    refine .inr ⟨h1, h2, hm, ?_⟩
    unfold heldF
    rw [link_none h1]
    simp only
    rw [if_pos hm, place_filter nw i h.nsort hm]
theorem PlOk.held0 (h : PlOk cells ls nw w) {i : Nat} {c : Int} (hc : cells[i]? = some c) (hf : c = -1 - (i : Int)) : 0 ≤ heldF ls nw w i := by
  rcases h.held hc hf with ⟨v, _, _, e, _, e1, _⟩ | ⟨_, _, _, e⟩
  · rw [e]; exact e1
  · rw [e]; omega
theorem PlOk.hinj (h : PlOk cells ls nw w) {i j : Nat} {c d : Int} (hc : cells[i]? = some c) (hf : c = -1 - (i : Int)) (hd : cells[j]? = some d) (hg : d = -1 - (j : Int)) (e : heldF ls nw w i = heldF ls nw w j) : i = j := by
  rcases h.held hc hf with ⟨v, _, _, e1, m1, _, l1⟩ | ⟨_, _, m1, e1⟩ <;> rcases h.held hd hg with ⟨u, _, _, e2, m2, _, l2⟩ | ⟨_, _, m2, e2⟩
  · have := h.linj m1 m2 (by simp only; omega)
    simp only [Prod.mk.injEq] at this
    omega
  · omega
  · omega
  · rw [← place_filter nw i h.nsort m1] at e1
    rw [← place_filter nw j h.nsort m2] at e2
    have := placeF_inj m1 m2 (by omega)
    omega
/-- A cell's slot. -/
noncomputable def slotOf (ls : List (Int × Int)) (nw : List Int) (w : Int) (c : Int) : Slt := if 0 ≤ c then ⟨false, c⟩ else ⟨true, heldF ls nw w (-1 - c)⟩
noncomputable def argsB (cells : List Int) (ls : List (Int × Int)) (nw : List Int) (w : Int) : List Slt := cells.map (slotOf ls nw w)
theorem argsB_at {k : Nat} {c : Int} (hc : cells[k]? = some c) : (argsB cells ls nw w)[k]? = some (slotOf ls nw w c) := by
  unfold argsB; rw [List.getElem?_map, hc]; rfl
theorem PlOk.back (h : PlOk cells ls nw w) : ∀ k, k ≤ cells.length → backK cells ls nw w k = some ((argsB cells ls nw w).take k)
  | 0, _ => by simp [backK]
  | k + 1, hk => by
    obtain ⟨c, hc⟩ : ∃ c, cells[k]? = some c := ⟨_, List.getElem?_eq_getElem (by omega)⟩
    have ih := h.back k (by omega)
    unfold backK
    rw [ih, hc]
    simp only
    rw [List.take_add_one, argsB_at hc]
    simp only [Option.toList_some]
    unfold backS
    by_cases h0 : 0 ≤ c
    · rw [if_pos h0]
      unfold slotOf
      rw [if_pos h0]
    · rw [if_neg h0]
      obtain ⟨j, j1, j2, j3⟩ := h.va k c hc (by omega)
      by_cases h1 : -1 - c < (k : Int)
      · rw [if_pos h1]
        have e : (-1 - c).toNat = j := by omega
        rw [e, List.getElem?_take_of_lt (by omega), argsB_at j3]
      · rw [if_neg h1]
        have e : c = -1 - (k : Int) := by omega
        have h2 := h.held0 hc e
        rw [if_neg (by omega)]
        unfold slotOf
        rw [if_neg h0, show -1 - c = (k : Int) by omega]
theorem PlOk.first (h : PlOk cells ls nw w) {j : Nat} {c : Int} (hc : cells[j]? = some c) (hf : c = -1 - (j : Int)) : firstV (argsB cells ls nw w) (heldF ls nw w j) = j := by
  have ha : (argsB cells ls nw w)[j]? = some ⟨true, heldF ls nw w j⟩ := by
    rw [argsB_at hc]
    unfold slotOf
    rw [if_neg (by omega), show -1 - c = (j : Int) by omega]
  have hle := firstV_le ha rfl
  simp only at hle
  rcases Nat.lt_or_ge (firstV (argsB cells ls nw w) (heldF ls nw w j)) j with hlt | hge
  · exfalso
    have hl := (List.getElem?_eq_some_iff.1 ha).1
    have h1 := firstV_at (args := argsB cells ls nw w) (n := heldF ls nw w j) (by omega)
    have hl2 : (argsB cells ls nw w).length = cells.length := by simp [argsB]
    obtain ⟨d, hd⟩ : ∃ d, cells[firstV (argsB cells ls nw w) (heldF ls nw w j)]? = some d := ⟨_, List.getElem?_eq_getElem (by omega)⟩
    rw [argsB_at hd] at h1
    unfold slotOf at h1
    by_cases h0 : 0 ≤ d
    · rw [if_pos h0] at h1
      simp at h1
    · rw [if_neg h0] at h1
      obtain ⟨q, q1, q2, q3⟩ := h.va _ d hd (by omega)
      rw [← q1] at h1
      simp only [Option.some.injEq, Slt.mk.injEq, true_and] at h1
      have := h.hinj q3 (by omega) hc hf h1
      omega
  · omega
/-- A place of the arguments. -/
theorem PlOk.at (h : PlOk cells ls nw w) {k : Nat} {c : Int} (hc : cells[k]? = some c) :
    cellF (argsB cells ls nw w) (slotOf ls nw w c) = c ∧ linkAt (argsB cells ls nw w) w k = ls.filter (fun x => decide (x.1 = (k : Int))) ∧ newAt (argsB cells ls nw w) w k = nw.filter (fun x => decide (id x = (k : Int))) := by
  have ha := argsB_at (ls := ls) (nw := nw) (w := w) hc
  by_cases h0 : 0 ≤ c
  · have e : slotOf ls nw w c = ⟨false, c⟩ := by unfold slotOf; rw [if_pos h0]
    rw [e] at ha ⊢
    obtain ⟨n1, n2⟩ := h.none hc (by omega)
    rw [n1, n2]
    refine ⟨by unfold cellF; rfl, ?_, ?_⟩
    · unfold linkAt; rw [ha]; simp
    · unfold newAt; rw [ha]; simp
  · obtain ⟨j, j1, j2, j3⟩ := h.va k c hc (by omega)
    have e : slotOf ls nw w c = ⟨true, heldF ls nw w j⟩ := by unfold slotOf; rw [if_neg h0, j1]
    rw [e] at ha ⊢
    have hfv := h.first j3 (by omega)
    refine ⟨by unfold cellF; simp only [if_true]; rw [hfv]; omega, ?_⟩
    by_cases hjk : j = k
    · subst hjk
      rcases h.held hc (by omega) with ⟨v, e1, e2, e3, _, _, e4⟩ | ⟨e1, e2, _, e3⟩
      · rw [e1, e2]
        refine ⟨?_, ?_⟩
        · unfold linkAt; rw [ha]; simp only; rw [if_pos ⟨trivial, hfv, by omega⟩, e3]
        · unfold newAt; rw [ha]; simp only; rw [if_neg (fun hh => hh.2.2 (by omega))]
      · rw [e1, e2]
        refine ⟨?_, ?_⟩
        · unfold linkAt; rw [ha]; simp only; rw [if_neg (fun hh => by have := hh.2.2; omega)]
        · unfold newAt; rw [ha]; simp only; rw [if_pos ⟨trivial, hfv, by omega⟩]
    · obtain ⟨n1, n2⟩ := h.none hc (by omega)
      rw [n1, n2]
      refine ⟨?_, ?_⟩
      · unfold linkAt; rw [ha]; simp only; rw [if_neg (fun hh => by have := hh.2.1; omega)]
      · unfold newAt; rw [ha]; simp only; rw [if_neg (fun hh => by have := hh.2.1; omega)]
theorem PlOk.upto (h : PlOk cells ls nw w) : ∀ k, k ≤ cells.length → linksK (argsB cells ls nw w) w k = ls.filter (fun x => decide (x.1 < (k : Int))) ∧ newK (argsB cells ls nw w) w k = nw.filter (fun x => decide (id x < (k : Int)))
  | 0, _ => by
    rw [filter_zero Prod.fst ls (fun x hx => (h.lmem hx).1), filter_zero id nw (fun x hx => (h.nmem hx).1)]
    exact ⟨rfl, rfl⟩
  | k + 1, hk => by
    obtain ⟨c, hc⟩ : ∃ c, cells[k]? = some c := ⟨_, List.getElem?_eq_getElem (by omega)⟩
    obtain ⟨i1, i2⟩ := h.upto k (by omega)
    obtain ⟨_, a1, a2⟩ := h.at hc
    rw [linksK_succ, newK_succ, i1, i2, a1, a2]
    have e1 := filter_next Prod.fst (k : Int) ls h.lsort
    have e2 := filter_next id (k : Int) nw h.nsort
    rw [show ((k + 1 : Nat) : Int) = (k : Int) + 1 by omega]
    exact ⟨e1.symm, e2.symm⟩
theorem PlOk.scan (h : PlOk cells ls nw w) : ∀ k, k ≤ cells.length → okA ((argsB cells ls nw w).take k) w ∧ scanD ((argsB cells ls nw w).take k) w = w + (nw.filter (fun x => decide (id x < (k : Int)))).length
  | 0, _ => by
    rw [filter_zero id nw (fun x hx => (h.nmem hx).1)]
    exact ⟨trivial, rfl⟩
  | k + 1, hk => by
    obtain ⟨c, hc⟩ : ∃ c, cells[k]? = some c := ⟨_, List.getElem?_eq_getElem (by omega)⟩
    obtain ⟨i1, i2⟩ := h.scan k (by omega)
    have ha := argsB_at (ls := ls) (nw := nw) (w := w) hc
    have e2 := filter_next id (k : Int) nw h.nsort
    rw [show ((k + 1 : Nat) : Int) = (k : Int) + 1 by omega, e2, List.length_append]
    rw [scanD_succ ha, i2]
    by_cases h0 : 0 ≤ c
    · have e : slotOf ls nw w c = ⟨false, c⟩ := by unfold slotOf; rw [if_pos h0]
      rw [e] at ha ⊢
      obtain ⟨n1, n2⟩ := h.none hc (by omega)
      rw [n2, if_neg (by simp)]
      exact ⟨okA_snoc ha i1 h0 (by simp), by simp only [List.length_nil]; omega⟩
    · obtain ⟨j, j1, j2, j3⟩ := h.va k c hc (by omega)
      have e : slotOf ls nw w c = ⟨true, heldF ls nw w j⟩ := by unfold slotOf; rw [if_neg h0, j1]
      rw [e] at ha ⊢
      have hh0 := h.held0 j3 (by omega)
      by_cases hjk : j = k
      · subst hjk
        rcases h.held hc (by omega) with ⟨v, f1, f2, f3, _, _, f4⟩ | ⟨f1, f2, _, f3⟩
        · rw [f2, if_neg (by simp only [true_and]; omega)]
          exact ⟨okA_snoc ha i1 hh0 (fun _ => by rw [i2]; simp only; omega), by simp only [List.length_nil]; omega⟩
        · rw [f2, if_pos ⟨rfl, by simp only; omega⟩]
          exact ⟨okA_snoc ha i1 hh0 (fun _ => by rw [i2]; simp only; omega), by simp only [List.length_singleton]; omega⟩
      · obtain ⟨n1, n2⟩ := h.none hc (by omega)
        have hlt : heldF ls nw w j < (w : Int) + ((nw.filter (fun x => decide (id x < (k : Int)))).length : Int) := by
          rcases h.held j3 (by omega) with ⟨v, f1, f2, f3, _, _, f4⟩ | ⟨f1, f2, _, f3⟩
          · omega
          · rw [f3]
            have e3 := filter_next id (j : Int) nw h.nsort
            rw [f2] at e3
            have l3 := congrArg List.length e3
            rw [List.length_append] at l3
            have l4 : (nw.filter (fun x => decide (id x < (j : Int) + 1))).length ≤ (nw.filter (fun x => decide (id x < (k : Int)))).length := by
              rw [← List.countP_eq_length_filter, ← List.countP_eq_length_filter]
              exact List.countP_mono_left (fun x _ hx => by simp only [decide_eq_true_eq] at hx ⊢; omega)
            simp only [List.length_singleton] at l3
            omega
        rw [n2, if_neg (by simp only [true_and]; omega)]
        exact ⟨okA_snoc ha i1 hh0 (fun _ => by rw [i2]; simp only; omega), by simp only [List.length_nil, List.length_singleton]; omega⟩
/-- All in all. -/
theorem PlOk.all (h : PlOk cells ls nw w) : backK cells ls nw w cells.length = some (argsB cells ls nw w) ∧ (argsB cells ls nw w).length = cells.length ∧ okA (argsB cells ls nw w) w ∧ (argsB cells ls nw w).map (cellF (argsB cells ls nw w)) = cells ∧
    linksK (argsB cells ls nw w) w (argsB cells ls nw w).length = ls ∧ newK (argsB cells ls nw w) w (argsB cells ls nw w).length = nw := by
  have hl : (argsB cells ls nw w).length = cells.length := by simp [argsB]
  have h1 := h.back cells.length (Nat.le_refl _)
  obtain ⟨h2, _⟩ := h.scan cells.length (Nat.le_refl _)
  obtain ⟨h3, h4⟩ := h.upto cells.length (Nat.le_refl _)
  rw [← hl, List.take_length] at h1 h2
  rw [hl] at h1
  refine ⟨h1, hl, h2, ?_, ?_, ?_⟩
  · refine List.ext_getElem? fun k => ?_
    rw [List.getElem?_map]
    rcases hc : cells[k]? with _ | c
    · rw [List.getElem?_eq_none (by rw [hl]; exact List.getElem?_eq_none_iff.1 hc)]
      rfl
    · rw [argsB_at hc]
      simp only [Option.map_some, (h.at hc).1]
  · rw [hl, h3]
    exact filter_all Prod.fst _ ls (fun x hx => (h.lmem hx).2.1)
  · rw [hl, h4]
    exact filter_all id _ nw (fun x hx => (h.nmem hx).2)
theorem PlOk.below (h : PlOk cells ls [] w) : ∀ s ∈ argsB cells ls [] w, belowP w s := by
  intro s hs
  obtain ⟨k, hk⟩ := List.getElem?_of_mem hs
  have hl := (List.getElem?_eq_some_iff.1 hk).1
  have hl2 : (argsB cells ls [] w).length = cells.length := by simp [argsB]
  obtain ⟨c, hc⟩ : ∃ c, cells[k]? = some c := ⟨_, List.getElem?_eq_getElem (by omega)⟩
  rw [argsB_at hc] at hk
  obtain rfl := Option.some.inj hk
  by_cases h0 : 0 ≤ c
  · have e : slotOf ls [] w c = ⟨false, c⟩ := by unfold slotOf; rw [if_pos h0]
    rw [e]
    exact ⟨h0, by simp⟩
  · obtain ⟨j, j1, j2, j3⟩ := h.va k c hc (by omega)
    have e : slotOf ls [] w c = ⟨true, heldF ls [] w j⟩ := by unfold slotOf; rw [if_neg h0, j1]
    rw [e]
    rcases h.held j3 (by omega) with ⟨v, f1, f2, f3, _, f5, f4⟩ | ⟨f1, f2, _, f3⟩
    · exact ⟨by simp only; omega, fun _ => by simp only; omega⟩
    · simp at f2
end
end Go.Proofs.Ytonkbjdeaneicaa.Pln
