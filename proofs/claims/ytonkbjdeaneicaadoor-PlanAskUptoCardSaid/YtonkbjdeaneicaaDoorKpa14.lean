/- Plans, in plain Lean: what holds behind the first conditions of a rule. What can be read back from a well formed node: a pattern that it says. No program in sight. placesRight, walked. -/
import Derived.Test.YtonkbjdeaneicaaDoorKpa06
import Derived.Test.YtonkbjdeaneicaaDoorKpa13
namespace Go.Proofs.YtonkbjdeaneicaaDoor.Pln
open Classical

/-- Behind the first i conditions. -/
noncomputable def upTo (st : St) (r : Rl) (i : Nat) : Nat × St := ((conds r).take i).foldl stepF (0, st)
theorem upTo_zero (st : St) (r : Rl) : upTo st r 0 = (0, st) := rfl
theorem upTo_succ (st : St) {r : Rl} {i : Nat} {c : Cnd} (h : (conds r)[i]? = some c) : upTo st r (i + 1) = stepF (upTo st r i) c := by
  unfold upTo
  rw [List.take_add_one, h, List.foldl_append]
  rfl
theorem upTo_all (st : St) (r : Rl) : upTo st r (r.pos.length + r.tests.length + r.neg.length) = ruleF st r := by
  unfold upTo
  rw [← conds_len, List.take_length, ruleF_conds]
theorem cond_pos {r : Rl} {j : Nat} {p : Pat} (h : r.pos[j]? = some p) : (conds r)[j]? = some ⟨1, p, noTst⟩ := by
  unfold conds
  have hl := (List.getElem?_eq_some_iff.1 h).1
  rw [List.getElem?_append_left (by simp; omega), List.getElem?_append_left (by simpa using hl), List.getElem?_map, h]
  rfl
theorem cond_test {r : Rl} {j : Nat} {t : Tst} (h : r.tests[j]? = some t) : (conds r)[r.pos.length + j]? = some ⟨2, noPat, t⟩ := by
  unfold conds
  have hl := (List.getElem?_eq_some_iff.1 h).1
  rw [List.getElem?_append_left (by simp; omega), List.getElem?_append_right (by simp), List.length_map, Nat.add_sub_cancel_left, List.getElem?_map, h]
  rfl
theorem cond_neg {r : Rl} {j : Nat} {p : Pat} (h : r.neg[j]? = some p) : (conds r)[r.pos.length + r.tests.length + j]? = some ⟨3, p, noTst⟩ := by
  unfold conds
  rw [List.getElem?_append_right (by simp), List.getElem?_map]
  have e : r.pos.length + r.tests.length + j - (r.pos.map (fun p => (⟨1, p, noTst⟩ : Cnd)) ++ r.tests.map (fun t => (⟨2, noPat, t⟩ : Cnd))).length = j := by simp
  rw [e, h]
  rfl
theorem okCs_at : ∀ (cs : List Cnd) (w : Nat), okCs w cs → ∀ c ∈ cs, ∃ w', okC w' c
  | [], _, _, c, h => by cases h
  | d :: l, w, ⟨h1, h2⟩, c, h => by
    rcases List.mem_cons.1 h with rfl | h
    · exact ⟨w, h1⟩
    · exact okCs_at l _ h2 c h
theorem fold_width : ∀ (cs : List Cnd) (x : Nat × St) (w : Nat), okCs w cs → (∀ c ∈ cs, c.p.args.length ≤ 8) → x.1 < x.2.ns.length → widthAt x.2 x.1 = (w : Int) →
    ∃ w' : Nat, widthAt (cs.foldl stepF x).2 (cs.foldl stepF x).1 = (w' : Int) ∧ w' ≤ w + 8 * cs.length
  | [], x, w, _, _, _, hw => ⟨w, hw, by simp⟩
  | c :: r, x, w, ⟨h1, h2⟩, h8, hx, hw => by
    obtain ⟨s1, s2, s3, s4⟩ := stepF_facts x c hx
    have hE := ext_stepF x c
    have hw2 : widthAt (stepF x c).2 x.1 = (w : Int) := by rw [hE.width hx]; exact hw
    have e : widthAt (stepF x c).2 (stepF x c).1 = (nextW w c : Int) := by
      unfold widthAt
      rw [s3, (placeF_lt s2).2]
      exact nodeC_width h1 hw2
    obtain ⟨w', i1, i2⟩ := fold_width r (stepF x c) _ h2 (fun d hd => h8 d (List.mem_cons_of_mem _ hd)) s4 e
    refine ⟨w', i1, Nat.le_trans i2 ?_⟩
    have h3 : nextW w c ≤ w + 8 := by
      unfold nextW
      split
      · have := scanD_len c.p.args w
        have := h8 c (List.mem_cons_self ..)
        omega
      · omega
    simp only [List.length_cons]
    omega
theorem fold_len : ∀ (cs : List Cnd) (x : Nat × St), (cs.foldl stepF x).2.ns.length ≤ x.2.ns.length + cs.length ∧ (cs.foldl stepF x).2.al.length ≤ x.2.al.length + cs.length
  | [], x => by simp
  | c :: r, x => by
    obtain ⟨i1, i2⟩ := fold_len r (stepF x c)
    rw [List.foldl_cons]
    have h : (stepF x c).2.ns.length ≤ x.2.ns.length + 1 ∧ (stepF x c).2.al.length ≤ x.2.al.length + 1 := by
      unfold stepF
      split
      · obtain ⟨q, h1, h2⟩ := addF_pre x.2.ns (testOf x.2 x.1 c.t)
        refine ⟨?_, by simp [tstF]⟩
        show (addF _ _).length ≤ _
        rw [h1, List.length_append]; omega
      · obtain ⟨q, h1, h2⟩ := addF_pre x.2.ns (nodeOf x.2 c.kind x.1 c.p)
        obtain ⟨q', h3, h4⟩ := addF_pre x.2.al (shapeF c.p)
        refine ⟨?_, ?_⟩
        · show (addF _ _).length ≤ _
          rw [h1, List.length_append]; omega
        · show (addF _ _).length ≤ _
          rw [h3, List.length_append]; omega
    simp only [List.length_cons]
    omega
theorem okCs_take : ∀ (cs : List Cnd) (w i : Nat), okCs w cs → okCs w (cs.take i)
  | [], _, i, _ => by simp [okCs]
  | c :: r, w, 0, _ => trivial
  | c :: r, w, i + 1, ⟨h1, h2⟩ => ⟨h1, okCs_take r _ i h2⟩
theorem Fit.args8 {r : Rl} {w : Nat} (h : Fit r w) : ∀ c ∈ conds r, c.p.args.length ≤ 8 := by
  intro c hc
  unfold conds at hc
  rcases List.mem_append.1 hc with hc | hc
  · rcases List.mem_append.1 hc with hc | hc
    · obtain ⟨p, hp, rfl⟩ := List.mem_map.1 hc
      exact (h.pats p hp).2
    · obtain ⟨t, ht, rfl⟩ := List.mem_map.1 hc
      simp [noPat]
  · obtain ⟨p, hp, rfl⟩ := List.mem_map.1 hc
    exact (h.ngs p hp).2.1
/-- What holds behind the first i conditions of a rule that fits. -/
theorem upTo_facts {st : St} (hwf : Wf st) {r : Rl} {w : Nat} (h : Fit r w) {i : Nat} (hi : i ≤ r.pos.length + r.tests.length + r.neg.length) :
    (upTo st r i).1 < (upTo st r i).2.ns.length ∧ (∃ w' : Nat, widthAt (upTo st r i).2 (upTo st r i).1 = (w' : Int) ∧ w' ≤ 128) ∧ (upTo st r i).2.ns.length ≤ st.ns.length + 16 ∧ (upTo st r i).2.al.length ≤ st.al.length + 16 := by
  have hl : ((conds r).take i).length ≤ 16 := by
    rw [List.length_take, conds_len]
    have := h.many
    omega
  have w0 : widthAt st 0 = ((0 : Nat) : Int) := by unfold widthAt; rw [hwf.root]; rfl
  obtain ⟨w', h1, h2⟩ := fold_width ((conds r).take i) (0, st) 0 (okCs_take _ _ _ h.okCs) (fun c hc => h.args8 c (List.mem_of_mem_take hc)) hwf.len w0
  obtain ⟨h3, h4⟩ := fold_len ((conds r).take i) (0, st)
  refine ⟨(stands_fold ((conds r).take i) (0, st) hwf.len).2.2, ⟨w', h1, by omega⟩, ?_, ?_⟩
  · exact Nat.le_trans h3 (by simp only; omega)
  · exact Nat.le_trans h4 (by simp only; omega)
theorem comp_len (rs : List Rl) (hf : ∀ r ∈ rs, mayP r) : ∀ k, k ≤ rs.length → (compF (rs.take k)).1.ns.length ≤ 1 + 16 * k ∧ (compF (rs.take k)).1.al.length ≤ 16 * k
  | 0, _ => by simp [compF]
  | k + 1, hk => by
    obtain ⟨i1, i2⟩ := comp_len rs hf k (by omega)
    have hr : rs[k]? = some rs[k] := List.getElem?_eq_getElem (by omega)
    obtain ⟨w, hw⟩ := hf rs[k] (List.getElem_mem _)
    obtain ⟨_, _, h3, h4⟩ := upTo_facts (made_comp (rs.take k)).wf hw (Nat.le_refl _)
    rw [upTo_all] at h3 h4
    rw [comp_take_succ hr]
    simp only [endF]
    omega
end Go.Proofs.YtonkbjdeaneicaaDoor.Pln

namespace Go.Proofs.YtonkbjdeaneicaaDoor.Pln
open Classical

/-- What the free place i of a node holds. -/
noncomputable def linkOf : List (Int × Int) → Int → Option Int
  | [], _ => none
  | x :: r, i => if x.1 = i then some x.2 else linkOf r i
noncomputable def heldF (ls : List (Int × Int)) (nw : List Int) (w : Int) (i : Int) : Int := match linkOf ls i with
  | some v => v
  | none => if i ∈ nw then w + (placeF nw i : Int) else -1
noncomputable def backS (ls : List (Int × Int)) (nw : List Int) (w : Int) (out : List Slt) (i : Nat) (c : Int) : Option (List Slt) :=
  if 0 ≤ c then some (out ++ [⟨false, c⟩])
  else if -1 - c < (i : Int) then (match out[(-1 - c).toNat]? with | some s => some (out ++ [s]) | none => none)
  else if (i : Int) < -1 - c ∨ heldF ls nw w i < 0 then none else some (out ++ [⟨true, heldF ls nw w i⟩])
noncomputable def backK (cells : List Int) (ls : List (Int × Int)) (nw : List Int) (w : Int) : Nat → Option (List Slt)
  | 0 => some []
  | k + 1 => match backK cells ls nw w k, cells[k]? with
    | some out, some c => backS ls nw w out k c
    | _, _ => none

theorem sorted_of {α : Type} (f : α → Int) (l : List α) (h : ∀ k x, l[k]? = some x → lastF f l k < f x) : l.Pairwise (fun a b => f a < f b) := by
  rw [List.pairwise_iff_getElem]
  intro i j hi hj hij
  induction j with
  | zero => omega
  | succ j ih =>
    have h1 := h (j + 1) _ (List.getElem?_eq_getElem hj)
    rw [lastF_next (List.getElem?_eq_getElem (by omega : j < l.length))] at h1
    rcases Nat.lt_or_ge i j with hlt | hge
    · have := ih (by omega) hlt
      omega
    · obtain rfl : i = j := by omega
      exact h1
theorem filter_gt {α : Type} (f : α → Int) (k : Int) : ∀ l : List α, (∀ x ∈ l, k < f x) → l.filter (fun x => decide (f x < k + 1)) = [] ∧ l.filter (fun x => decide (f x < k)) = [] ∧ l.filter (fun x => decide (f x = k)) = [] := by
  intro l h
  refine ⟨?_, ?_, ?_⟩ <;>
  · rw [List.filter_eq_nil_iff]
    intro x hx
    have := h x hx
    simp only [decide_eq_true_eq]
    omega
theorem filter_next {α : Type} (f : α → Int) (k : Int) : ∀ l : List α, l.Pairwise (fun a b => f a < f b) → l.filter (fun x => decide (f x < k + 1)) = l.filter (fun x => decide (f x < k)) ++ l.filter (fun x => decide (f x = k))
  | [], _ => rfl
  | a :: r, h => by
    obtain ⟨h1, h2⟩ := List.pairwise_cons.1 h
    have ih := filter_next f k r h2
    rcases Int.lt_trichotomy (f a) k with hlt | heq | hgt
    · rw [List.filter_cons_of_pos (by simp; omega), List.filter_cons_of_pos (by simp; omega), List.filter_cons_of_neg (by simp; omega), ih]
      rfl
    · obtain ⟨e1, e2, e3⟩ := filter_gt f k r (fun x hx => by have := h1 x hx; omega)
      rw [List.filter_cons_of_pos (by simp; omega), List.filter_cons_of_neg (by simp; omega), List.filter_cons_of_pos (by simp; omega), e1, e2, e3]
      rfl
    · obtain ⟨e1, e2, e3⟩ := filter_gt f k (a :: r) (fun x hx => by
        rcases List.mem_cons.1 hx with rfl | hx
        · exact hgt
        · have := h1 x hx; omega)
      rw [e1, e2, e3]
      rfl
theorem filter_all {α : Type} (f : α → Int) (k : Int) (l : List α) (h : ∀ x ∈ l, f x < k) : l.filter (fun x => decide (f x < k)) = l := by
  rw [List.filter_eq_self]
  intro x hx
  simpa using h x hx
theorem filter_zero {α : Type} (f : α → Int) (l : List α) (h : ∀ x ∈ l, 0 ≤ f x) : l.filter (fun x => decide (f x < ((0 : Nat) : Int))) = [] := by
  rw [List.filter_eq_nil_iff]
  intro x hx
  have := h x hx
  simp only [decide_eq_true_eq]
  omega
theorem count_filter {α : Type} (f : α → Int) (k : Int) (l : List α) : (l.map f).count k = (l.filter (fun x => decide (f x = k))).length := by
  induction l with
  | nil => rfl
  | cons a r ih =>
    rw [List.map_cons, List.count_cons, List.filter_cons, ih]
    by_cases h : f a = k
    · simp [h]
    · simp [h]
theorem link_some {ls : List (Int × Int)} {i : Int} {x : Int × Int} (h : ls.filter (fun x => decide (x.1 = i)) = [x]) : linkOf ls i = some x.2 ∧ x ∈ ls ∧ x.1 = i := by
  have hm : x ∈ ls.filter (fun x => decide (x.1 = i)) := by rw [h]; simp
  obtain ⟨h1, h2⟩ := List.mem_filter.1 hm
  refine ⟨?_, h1, by simpa using h2⟩
  clear hm h1 h2
  induction ls with
  | nil => simp at h
  | cons a r ih =>
    unfold linkOf
    by_cases ha : a.1 = i
    · rw [if_pos ha]
      rw [List.filter_cons_of_pos (by simpa using ha)] at h
      injection h with h1 h2
      rw [h1]
    · rw [if_neg ha]
      rw [List.filter_cons_of_neg (by simpa using ha)] at h
      exact ih h
theorem link_none {ls : List (Int × Int)} {i : Int} (h : ls.filter (fun x => decide (x.1 = i)) = []) : linkOf ls i = none := by
  induction ls with
  | nil => rfl
  | cons a r ih =>
    unfold linkOf
    by_cases ha : a.1 = i
    · rw [List.filter_cons_of_pos (by simpa using ha)] at h
      cases h
    · rw [if_neg ha]
      rw [List.filter_cons_of_neg (by simpa using ha)] at h
      exact ih h
theorem place_filter : ∀ (l : List Int) (i : Int), l.Pairwise (fun a b => id a < id b) → i ∈ l → placeF l i = (l.filter (fun x => decide (id x < i))).length
  | [], _, _, h => by cases h
  | a :: r, i, hs, h => by
    obtain ⟨h1, h2⟩ := List.pairwise_cons.1 hs
    unfold placeF
    by_cases ha : a = i
    · subst ha
      obtain ⟨-, e2, -⟩ := filter_gt id a r h1
      rw [if_pos rfl, List.filter_cons_of_neg (by simp), e2]
      rfl
    · have hr : i ∈ r := by
        rcases List.mem_cons.1 h with h | h
        · exact absurd h.symm ha
        · exact h
      have := h1 i hr
      rw [if_neg ha, List.filter_cons_of_pos (by simpa using this), place_filter r i h2 hr]
      rfl

/-- Links and new places of a shape, under which w variables are bound. -/
structure PlOk (cells : List Int) (ls : List (Int × Int)) (nw : List Int) (w : Nat) : Prop where
  lok : ∀ k, k < ls.length → linkOk cells.length w ls k
  nok : ∀ k, k < nw.length → newOk cells.length nw k
  ce : ∀ i, i < cells.length → cellOk cells (ls.map Prod.fst ++ nw) i
  va : ∀ i c, cells[i]? = some c → c < 0 → ∃ j : Nat, (j : Int) = -1 - c ∧ j ≤ i ∧ cells[j]? = some c
section
variable {cells : List Int} {ls : List (Int × Int)} {nw : List Int} {w : Nat}
theorem PlOk.lsort (h : PlOk cells ls nw w) : ls.Pairwise (fun a b => a.1 < b.1) := sorted_of Prod.fst ls (fun k x hx => (h.lok k (List.getElem?_eq_some_iff.1 hx).1 x hx).1)
theorem PlOk.nsort (h : PlOk cells ls nw w) : nw.Pairwise (fun a b => id a < id b) := sorted_of id nw (fun k x hx => (h.nok k (List.getElem?_eq_some_iff.1 hx).1 x hx).1)
theorem PlOk.lmem (h : PlOk cells ls nw w) {x : Int × Int} (hx : x ∈ ls) : 0 ≤ x.1 ∧ x.1 < (cells.length : Int) ∧ 0 ≤ x.2 ∧ x.2 < (w : Int) := by
  obtain ⟨k, hk⟩ := List.getElem?_of_mem hx
  have hl := (List.getElem?_eq_some_iff.1 hk).1
  obtain ⟨h1, h2, h3, h4, _⟩ := h.lok k hl x hk
  have := last_link k (by omega) (fun q hq => h.lok q (by omega))
  exact ⟨by omega, h2, h3, h4⟩
theorem PlOk.nmem (h : PlOk cells ls nw w) {x : Int} (hx : x ∈ nw) : 0 ≤ x ∧ x < (cells.length : Int) := by
  obtain ⟨k, hk⟩ := List.getElem?_of_mem hx
  have hl := (List.getElem?_eq_some_iff.1 hk).1
  obtain ⟨h1, h2⟩ := h.nok k hl x hk
  have := last_new k (by omega) (fun q hq => h.nok q (by omega))
  exact ⟨by omega, h2⟩
/-- Two links of one variable are one. -/
theorem PlOk.linj (h : PlOk cells ls nw w) {x y : Int × Int} (hx : x ∈ ls) (hy : y ∈ ls) (e : x.2 = y.2) : x = y := by
  obtain ⟨k, hk⟩ := List.getElem?_of_mem hx
  obtain ⟨q, hq⟩ := List.getElem?_of_mem hy
  have hl := (List.getElem?_eq_some_iff.1 hk).1
  have hm := (List.getElem?_eq_some_iff.1 hq).1
  rcases Nat.lt_trichotomy k q with h1 | h1 | h1
  · exact absurd e ((h.lok q hm y hq).2.2.2.2 k h1 x hk)
  · subst h1
    rw [hk] at hq
    exact Option.some.inj hq
  · exact absurd e.symm ((h.lok k hl x hk).2.2.2.2 q h1 y hq)
/-- A place that is free stands in one of the two lists, another in none. -/
theorem PlOk.free (h : PlOk cells ls nw w) {i : Nat} {c : Int} (hc : cells[i]? = some c) (hf : c = -1 - (i : Int)) :
    (∃ v, ls.filter (fun x => decide (x.1 = (i : Int))) = [((i : Int), v)] ∧ nw.filter (fun x => decide (id x = (i : Int))) = []) ∨ (ls.filter (fun x => decide (x.1 = (i : Int))) = [] ∧ nw.filter (fun x => decide (id x = (i : Int))) = [(i : Int)]) := by
  have h1 := h.ce i (List.getElem?_eq_some_iff.1 hc).1 c hc
  rw [if_pos hf, List.count_append, count_filter, show nw = nw.map id by simp, count_filter] at h1
  have e1 : ∀ x ∈ ls.filter (fun x => decide (x.1 = (i : Int))), x.1 = (i : Int) := fun x hx => by simpa using (List.mem_filter.1 hx).2
  have e2 : ∀ x ∈ nw.filter (fun x => decide (id x = (i : Int))), x = (i : Int) := fun x hx => by simpa using (List.mem_filter.1 hx).2
  obtain ⟨L, hL⟩ : ∃ L, ls.filter (fun x => decide (x.1 = (i : Int))) = L := ⟨_, rfl⟩
  obtain ⟨M, hM⟩ : ∃ M, nw.filter (fun x => decide (id x = (i : Int))) = M := ⟨_, rfl⟩
  rw [hL] at e1 h1 ⊢
  rw [hM] at e2 h1 ⊢
  match L, M with
  | [], [] => simp at h1
  | [a], [] => exact .inl ⟨a.2, congrArg (fun z => [z]) (Prod.ext (e1 a (by simp)) rfl), rfl⟩
  | [], [b] => exact .inr ⟨rfl, congrArg (fun z => [z]) (e2 b (by simp))⟩
  | a :: b :: l, m => simp at h1; omega
  | [a], b :: l => simp at h1; omega
  | [], a :: b :: l => simp at h1; omega
theorem PlOk.none (h : PlOk cells ls nw w) {i : Nat} {c : Int} (hc : cells[i]? = some c) (hf : ¬ c = -1 - (i : Int)) : ls.filter (fun x => decide (x.1 = (i : Int))) = [] ∧ nw.filter (fun x => decide (id x = (i : Int))) = [] := by
  have h1 := h.ce i (List.getElem?_eq_some_iff.1 hc).1 c hc
  rw [if_neg hf, List.count_append, count_filter, show nw = nw.map id by simp, count_filter] at h1
  exact ⟨List.eq_nil_of_length_eq_zero (by omega), List.eq_nil_of_length_eq_zero (by omega)⟩
/-- What a free place holds. -/
theorem PlOk.held (h : PlOk cells ls nw w) {i : Nat} {c : Int} (hc : cells[i]? = some c) (hf : c = -1 - (i : Int)) :
    (∃ v, ls.filter (fun x => decide (x.1 = (i : Int))) = [((i : Int), v)] ∧ nw.filter (fun x => decide (id x = (i : Int))) = [] ∧ heldF ls nw w i = v ∧ ((i : Int), v) ∈ ls ∧ 0 ≤ v ∧ v < (w : Int)) ∨
    (ls.filter (fun x => decide (x.1 = (i : Int))) = [] ∧ nw.filter (fun x => decide (id x = (i : Int))) = [(i : Int)] ∧ (i : Int) ∈ nw ∧ heldF ls nw w i = (w : Int) + ((nw.filter (fun x => decide (id x < (i : Int)))).length : Int)) := by
  rcases h.free hc hf with ⟨v, h1, h2⟩ | ⟨h1, h2⟩
  · obtain ⟨e1, e2, _⟩ := link_some h1
    obtain ⟨_, _, e3, e4⟩ := h.lmem e2
    exact .inl ⟨v, h1, h2, by unfold heldF; rw [e1], e2, e3, e4⟩
  · have hm : (i : Int) ∈ nw := by
      have : (i : Int) ∈ nw.filter (fun x => decide (id x = (i : Int))) := by rw [h2]; simp
      exact (List.mem_filter.1 this).1
    refine .inr ⟨h1, h2, hm, ?_⟩
    unfold heldF
    rw [link_none h1]
    simp only
    rw [if_pos hm, place_filter nw i h.nsort hm]
theorem PlOk.held0 (h : PlOk cells ls nw w) {i : Nat} {c : Int} (hc : cells[i]? = some c) (hf : c = -1 - (i : Int)) : 0 ≤ heldF ls nw w i := by
  rcases h.held hc hf with ⟨v, _, _, e, _, e1, _⟩ | ⟨_, _, _, e⟩
  · rw [e]; exact e1
  · rw [e]; omega
theorem PlOk.hinj (h : PlOk cells ls nw w) {i j : Nat} {c d : Int} (hc : cells[i]? = some c) (hf : c = -1 - (i : Int)) (hd : cells[j]? = some d) (hg : d = -1 - (j : Int)) (e : heldF ls nw w i = heldF ls nw w j) : i = j := by
  rcases h.held hc hf with ⟨v, _, _, e1, m1, _, l1⟩ | ⟨_, _, m1, e1⟩ <;> rcases h.held hd hg with ⟨u, _, _, e2, m2, _, l2⟩ | ⟨_, _, m2, e2⟩
  · have := h.linj m1 m2 (by simp only; omega)
    simp only [Prod.mk.injEq] at this
    omega
  · omega
  · omega
  · rw [← place_filter nw i h.nsort m1] at e1
    rw [← place_filter nw j h.nsort m2] at e2
    have := placeF_inj m1 m2 (by omega)
    omega
/-- A cell's slot. -/
noncomputable def slotOf (ls : List (Int × Int)) (nw : List Int) (w : Int) (c : Int) : Slt := if 0 ≤ c then ⟨false, c⟩ else ⟨true, heldF ls nw w (-1 - c)⟩
noncomputable def argsB (cells : List Int) (ls : List (Int × Int)) (nw : List Int) (w : Int) : List Slt := cells.map (slotOf ls nw w)
theorem argsB_at {k : Nat} {c : Int} (hc : cells[k]? = some c) : (argsB cells ls nw w)[k]? = some (slotOf ls nw w c) := by
  unfold argsB; rw [List.getElem?_map, hc]; rfl
theorem PlOk.back (h : PlOk cells ls nw w) : ∀ k, k ≤ cells.length → backK cells ls nw w k = some ((argsB cells ls nw w).take k)
  | 0, _ => by simp [backK]
  | k + 1, hk => by
    obtain ⟨c, hc⟩ : ∃ c, cells[k]? = some c := ⟨_, List.getElem?_eq_getElem (by omega)⟩
    have ih := h.back k (by omega)
    unfold backK
    rw [ih, hc]
    simp only
    rw [List.take_add_one, argsB_at hc]
    simp only [Option.toList_some]
    unfold backS
    by_cases h0 : 0 ≤ c
    · rw [if_pos h0]
      unfold slotOf
      rw [if_pos h0]
    · rw [if_neg h0]
      obtain ⟨j, j1, j2, j3⟩ := h.va k c hc (by omega)
      by_cases h1 : -1 - c < (k : Int)
      · rw [if_pos h1]
        have e : (-1 - c).toNat = j := by omega
        rw [e, List.getElem?_take_of_lt (by omega), argsB_at j3]
      · rw [if_neg h1]
        have e : c = -1 - (k : Int) := by omega
        have h2 := h.held0 hc e
        rw [if_neg (by omega)]
        unfold slotOf
        rw [if_neg h0, show -1 - c = (k : Int) by omega]
theorem PlOk.first (h : PlOk cells ls nw w) {j : Nat} {c : Int} (hc : cells[j]? = some c) (hf : c = -1 - (j : Int)) : firstV (argsB cells ls nw w) (heldF ls nw w j) = j := by
  have ha : (argsB cells ls nw w)[j]? = some ⟨true, heldF ls nw w j⟩ := by
    rw [argsB_at hc]
    unfold slotOf
    rw [if_neg (by omega), show -1 - c = (j : Int) by omega]
  have hle := firstV_le ha rfl
  simp only at hle
  rcases Nat.lt_or_ge (firstV (argsB cells ls nw w) (heldF ls nw w j)) j with hlt | hge
  · exfalso
    have hl := (List.getElem?_eq_some_iff.1 ha).1
    have h1 := firstV_at (args := argsB cells ls nw w) (n := heldF ls nw w j) (by omega)
    have hl2 : (argsB cells ls nw w).length = cells.length := by simp [argsB]
    obtain ⟨d, hd⟩ : ∃ d, cells[firstV (argsB cells ls nw w) (heldF ls nw w j)]? = some d := ⟨_, List.getElem?_eq_getElem (by omega)⟩
    rw [argsB_at hd] at h1
    unfold slotOf at h1
    by_cases h0 : 0 ≤ d
    · rw [if_pos h0] at h1
      simp at h1
    · rw [if_neg h0] at h1
      obtain ⟨q, q1, q2, q3⟩ := h.va _ d hd (by omega)
      rw [← q1] at h1
      simp only [Option.some.injEq, Slt.mk.injEq, true_and] at h1
      have := h.hinj q3 (by omega) hc hf h1
      omega
  · omega
/-- A place of the arguments. -/
theorem PlOk.at (h : PlOk cells ls nw w) {k : Nat} {c : Int} (hc : cells[k]? = some c) :
    cellF (argsB cells ls nw w) (slotOf ls nw w c) = c ∧ linkAt (argsB cells ls nw w) w k = ls.filter (fun x => decide (x.1 = (k : Int))) ∧ newAt (argsB cells ls nw w) w k = nw.filter (fun x => decide (id x = (k : Int))) := by
  have ha := argsB_at (ls := ls) (nw := nw) (w := w) hc
  by_cases h0 : 0 ≤ c
  · have e : slotOf ls nw w c = ⟨false, c⟩ := by unfold slotOf; rw [if_pos h0]
    rw [e] at ha ⊢
    obtain ⟨n1, n2⟩ := h.none hc (by omega)
    rw [n1, n2]
    refine ⟨by unfold cellF; rfl, ?_, ?_⟩
    · unfold linkAt; rw [ha]; simp
    · unfold newAt; rw [ha]; simp
  · obtain ⟨j, j1, j2, j3⟩ := h.va k c hc (by omega)
    have e : slotOf ls nw w c = ⟨true, heldF ls nw w j⟩ := by unfold slotOf; rw [if_neg h0, j1]
    rw [e] at ha ⊢
    have hfv := h.first j3 (by omega)
    refine ⟨by unfold cellF; simp only [if_true]; rw [hfv]; omega, ?_⟩
    by_cases hjk : j = k
    · subst hjk
      rcases h.held hc (by omega) with ⟨v, e1, e2, e3, _, _, e4⟩ | ⟨e1, e2, _, e3⟩
      · rw [e1, e2]
        refine ⟨?_, ?_⟩
        · unfold linkAt; rw [ha]; simp only; rw [if_pos ⟨trivial, hfv, by omega⟩, e3]
        · unfold newAt; rw [ha]; simp only; rw [if_neg (fun hh => hh.2.2 (by omega))]
      · rw [e1, e2]
        refine ⟨?_, ?_⟩
        · unfold linkAt; rw [ha]; simp only; rw [if_neg (fun hh => by have := hh.2.2; omega)]
        · unfold newAt; rw [ha]; simp only; rw [if_pos ⟨trivial, hfv, by omega⟩]
    · obtain ⟨n1, n2⟩ := h.none hc (by omega)
      rw [n1, n2]
      refine ⟨?_, ?_⟩
      · unfold linkAt; rw [ha]; simp only; rw [if_neg (fun hh => by have := hh.2.1; omega)]
      · unfold newAt; rw [ha]; simp only; rw [if_neg (fun hh => by have := hh.2.1; omega)]
theorem PlOk.upto (h : PlOk cells ls nw w) : ∀ k, k ≤ cells.length → linksK (argsB cells ls nw w) w k = ls.filter (fun x => decide (x.1 < (k : Int))) ∧ newK (argsB cells ls nw w) w k = nw.filter (fun x => decide (id x < (k : Int)))
  | 0, _ => by
    rw [filter_zero Prod.fst ls (fun x hx => (h.lmem hx).1), filter_zero id nw (fun x hx => (h.nmem hx).1)]
    exact ⟨rfl, rfl⟩
  | k + 1, hk => by
    obtain ⟨c, hc⟩ : ∃ c, cells[k]? = some c := ⟨_, List.getElem?_eq_getElem (by omega)⟩
    obtain ⟨i1, i2⟩ := h.upto k (by omega)
    obtain ⟨_, a1, a2⟩ := h.at hc
    rw [linksK_succ, newK_succ, i1, i2, a1, a2]
    have e1 := filter_next Prod.fst (k : Int) ls h.lsort
    have e2 := filter_next id (k : Int) nw h.nsort
    rw [show ((k + 1 : Nat) : Int) = (k : Int) + 1 by omega]
    exact ⟨e1.symm, e2.symm⟩
theorem PlOk.scan (h : PlOk cells ls nw w) : ∀ k, k ≤ cells.length → okA ((argsB cells ls nw w).take k) w ∧ scanD ((argsB cells ls nw w).take k) w = w + (nw.filter (fun x => decide (id x < (k : Int)))).length
  | 0, _ => by
    rw [filter_zero id nw (fun x hx => (h.nmem hx).1)]
    exact ⟨trivial, rfl⟩
  | k + 1, hk => by
    obtain ⟨c, hc⟩ : ∃ c, cells[k]? = some c := ⟨_, List.getElem?_eq_getElem (by omega)⟩
    obtain ⟨i1, i2⟩ := h.scan k (by omega)
    have ha := argsB_at (ls := ls) (nw := nw) (w := w) hc
    have e2 := filter_next id (k : Int) nw h.nsort
    rw [show ((k + 1 : Nat) : Int) = (k : Int) + 1 by omega, e2, List.length_append]
    rw [scanD_succ ha, i2]
    by_cases h0 : 0 ≤ c
    · have e : slotOf ls nw w c = ⟨false, c⟩ := by unfold slotOf; rw [if_pos h0]
      rw [e] at ha ⊢
      obtain ⟨n1, n2⟩ := h.none hc (by omega)
      rw [n2, if_neg (by simp)]
      exact ⟨okA_snoc ha i1 h0 (by simp), by simp only [List.length_nil]; omega⟩
    · obtain ⟨j, j1, j2, j3⟩ := h.va k c hc (by omega)
      have e : slotOf ls nw w c = ⟨true, heldF ls nw w j⟩ := by unfold slotOf; rw [if_neg h0, j1]
      rw [e] at ha ⊢
      have hh0 := h.held0 j3 (by omega)
      by_cases hjk : j = k
      · subst hjk
        rcases h.held hc (by omega) with ⟨v, f1, f2, f3, _, _, f4⟩ | ⟨f1, f2, _, f3⟩
        · rw [f2, if_neg (by simp only [true_and]; omega)]
          exact ⟨okA_snoc ha i1 hh0 (fun _ => by rw [i2]; simp only; omega), by simp only [List.length_nil]; omega⟩
        · rw [f2, if_pos ⟨rfl, by simp only; omega⟩]
          exact ⟨okA_snoc ha i1 hh0 (fun _ => by rw [i2]; simp only; omega), by simp only [List.length_singleton]; omega⟩
      · obtain ⟨n1, n2⟩ := h.none hc (by omega)
        have hlt : heldF ls nw w j < (w : Int) + ((nw.filter (fun x => decide (id x < (k : Int)))).length : Int) := by
          rcases h.held j3 (by omega) with ⟨v, f1, f2, f3, _, _, f4⟩ | ⟨f1, f2, _, f3⟩
          · omega
          · rw [f3]
            have e3 := filter_next id (j : Int) nw h.nsort
            rw [f2] at e3
            have l3 := congrArg List.length e3
            rw [List.length_append] at l3
            have l4 : (nw.filter (fun x => decide (id x < (j : Int) + 1))).length ≤ (nw.filter (fun x => decide (id x < (k : Int)))).length := by
              rw [← List.countP_eq_length_filter, ← List.countP_eq_length_filter]
              exact List.countP_mono_left (fun x _ hx => by simp only [decide_eq_true_eq] at hx ⊢; omega)
            simp only [List.length_singleton] at l3
            omega
        rw [n2, if_neg (by simp only [true_and]; omega)]
        exact ⟨okA_snoc ha i1 hh0 (fun _ => by rw [i2]; simp only; omega), by simp only [List.length_nil, List.length_singleton]; omega⟩
/-- All in all. -/
theorem PlOk.all (h : PlOk cells ls nw w) : backK cells ls nw w cells.length = some (argsB cells ls nw w) ∧ (argsB cells ls nw w).length = cells.length ∧ okA (argsB cells ls nw w) w ∧ (argsB cells ls nw w).map (cellF (argsB cells ls nw w)) = cells ∧
    linksK (argsB cells ls nw w) w (argsB cells ls nw w).length = ls ∧ newK (argsB cells ls nw w) w (argsB cells ls nw w).length = nw := by
  have hl : (argsB cells ls nw w).length = cells.length := by simp [argsB]
  have h1 := h.back cells.length (Nat.le_refl _)
  obtain ⟨h2, _⟩ := h.scan cells.length (Nat.le_refl _)
  obtain ⟨h3, h4⟩ := h.upto cells.length (Nat.le_refl _)
  rw [← hl, List.take_length] at h1 h2
  rw [hl] at h1
  refine ⟨h1, hl, h2, ?_, ?_, ?_⟩
  · refine List.ext_getElem? fun k => ?_
    rw [List.getElem?_map]
    rcases hc : cells[k]? with _ | c
    · rw [List.getElem?_eq_none (by rw [hl]; exact List.getElem?_eq_none_iff.1 hc)]
      rfl
    · rw [argsB_at hc]
      simp only [Option.map_some, (h.at hc).1]
  · rw [hl, h3]
    exact filter_all Prod.fst _ ls (fun x hx => (h.lmem hx).2.1)
  · rw [hl, h4]
    exact filter_all id _ nw (fun x hx => (h.nmem hx).2)
theorem PlOk.below (h : PlOk cells ls [] w) : ∀ s ∈ argsB cells ls [] w, belowP w s := by
  intro s hs
  obtain ⟨k, hk⟩ := List.getElem?_of_mem hs
  have hl := (List.getElem?_eq_some_iff.1 hk).1
  have hl2 : (argsB cells ls [] w).length = cells.length := by simp [argsB]
  obtain ⟨c, hc⟩ : ∃ c, cells[k]? = some c := ⟨_, List.getElem?_eq_getElem (by omega)⟩
  rw [argsB_at hc] at hk
  obtain rfl := Option.some.inj hk
  by_cases h0 : 0 ≤ c
  · have e : slotOf ls [] w c = ⟨false, c⟩ := by unfold slotOf; rw [if_pos h0]
    rw [e]
    exact ⟨h0, by simp⟩
  · obtain ⟨j, j1, j2, j3⟩ := h.va k c hc (by omega)
    have e : slotOf ls [] w c = ⟨true, heldF ls [] w j⟩ := by unfold slotOf; rw [if_neg h0, j1]
    rw [e]
    rcases h.held j3 (by omega) with ⟨v, f1, f2, f3, _, f5, f4⟩ | ⟨f1, f2, _, f3⟩
    · exact ⟨by simp only; omega, fun _ => by simp only; omega⟩
    · simp at f2
end
end Go.Proofs.YtonkbjdeaneicaaDoor.Pln

namespace Go.Proofs.YtonkbjdeaneicaaDoor
open Go.RowKit Pln Classical Go.Maps

/-- Two boxes. -/
structure Two (W W2 : World) (a b : Array Value) (ta tb : TypeId) : Prop where
  below : Below W.heap.size W W2
  size : W2.heap.size = W.heap.size + 1 + 1
  ha : W2.heap[W.heap.size]? = some (.cells a ta (0, 0))
  hb : W2.heap[W.heap.size + 1]? = some (.cells b tb (0, 0))
theorem two (W : World) (a b : Array Value) (ta tb : TypeId) : Two W ((W.alloc (.cells a ta)).alloc (.cells b tb)) a b ta tb := by
  refine ⟨((Below.refl _ _).alloc (Nat.le_refl _) _).alloc (by simp) _, by simp, ?_, ?_⟩
  · rw [Below.heap_alloc _ _ _ (by simp)]
    exact heap_alloc_new W _
  · have := heap_alloc_new (W.alloc (.cells a ta)) (.cells b tb)
    simpa using this
section
variable {W W2 wr : World} {a b : Array Value} {ta tb : TypeId}
theorem Two.ca (h : Two W W2 a b ta tb) (hb : Below W2.heap.size W2 wr) (j : Nat) {u : Value} (hu : a.toList[j]? = some u) : wr.cell? ⟨W.heap.size, j, none⟩ = some u := rboxL ((hb.block _ (by have := h.size; omega)).trans h.ha) j hu
theorem Two.cb (h : Two W W2 a b ta tb) (hb : Below W2.heap.size W2 wr) (j : Nat) {u : Value} (hu : b.toList[j]? = some u) : wr.cell? ⟨W.heap.size + 1, j, none⟩ = some u := rboxL ((hb.block _ (by have := h.size; omega)).trans h.hb) j hu
theorem Two.all (h : Two W W2 a b ta tb) (hb : Below W2.heap.size W2 wr) : Below W.heap.size W wr := h.below.trans (hb.mono (by have := h.size; omega))
end
/-- The two arrays, behind the boxes. -/
structure PS (W2 wr : World) (tm hd : List Value) : Prop where
  below : Below W2.heap.size W2 wr
  tm : Arr wr W2.heap.size 108 tm
  hd : Arr wr (W2.heap.size + 1) 140 hd
section
variable {W2 wr wr' : World} {tm hd : List Value}
theorem PS.step (h : PS W2 wr tm hd) (hb : Below wr.heap.size wr wr') : PS W2 wr' tm hd := ⟨h.below.trans (hb.mono h.below.size), h.tm.step hb, h.hd.step hb⟩
theorem PS.putT (h : PS W2 wr tm hd) (j : Nat) (v : Value) : PS W2 (wr.setCell ⟨W2.heap.size, j, none⟩ v) (tm.set j v) hd := by
  obtain ⟨h1, h2⟩ := h.tm.put j v
  exact ⟨h.below.trans (h2.below h.below.size (fun x hx => by rw [List.mem_singleton.1 hx]; exact Nat.le_refl _)), h1, h.hd.turns h2 (by simp)⟩
theorem PS.putH (h : PS W2 wr tm hd) (j : Nat) (v : Value) : PS W2 (wr.setCell ⟨W2.heap.size + 1, j, none⟩ v) tm (hd.set j v) := by
  obtain ⟨h1, h2⟩ := h.hd.put j v
  exact ⟨h.below.trans (h2.below h.below.size (fun x hx => by rw [List.mem_singleton.1 hx]; exact Nat.le_succ _)), h.tm.turns h2 (by simp), h1⟩
end
theorem ps_new (W2 : World) : PS W2 ((W2.alloc (.cells #[.int .i64 0, .int .i64 0, .int .i64 0, .int .i64 0, .int .i64 0, .int .i64 0, .int .i64 0, .int .i64 0] 108)).alloc (.cells #[.bool false, .bool false, .bool false, .bool false, .bool false, .bool false, .bool false, .bool false, .bool false, .bool false, .bool false, .bool false, .bool false, .bool false, .bool false, .bool false] 140)) (tmL []) (hdL []) := by
  have h1 := Arr.new W2 108 #[.int .i64 0, .int .i64 0, .int .i64 0, .int .i64 0, .int .i64 0, .int .i64 0, .int .i64 0, .int .i64 0] (by unfold maxLen; decide)
  have h2 := Arr.new (W2.alloc (.cells #[.int .i64 0, .int .i64 0, .int .i64 0, .int .i64 0, .int .i64 0, .int .i64 0, .int .i64 0, .int .i64 0] 108)) 140 #[.bool false, .bool false, .bool false, .bool false, .bool false, .bool false, .bool false, .bool false, .bool false, .bool false, .bool false, .bool false, .bool false, .bool false, .bool false, .bool false] (by unfold maxLen; decide)
  refine ⟨((Below.refl _ _).alloc (Nat.le_refl _) _).alloc (by simp) _, ?_, ?_⟩
  · exact h1.step ((Below.refl _ _).alloc (Nat.le_refl _) _)
  · have e : hdL [] = List.replicate 16 (.bool false) := by
      apply List.ext_getElem?
      intro i
      by_cases hi : i < 16
      · rw [hdL_at _ hi, List.getElem?_replicate, if_pos hi]; simp
      · rw [List.getElem?_eq_none (by rw [hdL_len]; omega), List.getElem?_eq_none (by simp; omega)]
    rw [e]
    simpa using h2
theorem neq_tst (a b : Tst) (w : World) : (binOp .neq 38 (.agg #[.int .i64 a.op, .bool a.l.v, .int .i64 a.l.n, .bool a.r.v, .int .i64 a.r.n]) (.agg #[.int .i64 b.op, .bool b.l.v, .int .i64 b.l.n, .bool b.r.v, .int .i64 b.r.n])).run Tryd.prog w = .ok (.bool (!decide (a = b))) w := by
  obtain ⟨ao, ⟨alv, aln⟩, ⟨arv, arn⟩⟩ := a
  obtain ⟨bo, ⟨blv, bln⟩, ⟨brv, brn⟩⟩ := b
  rw [show decide ((⟨ao, ⟨alv, aln⟩, ⟨arv, arn⟩⟩ : Tst) = ⟨bo, ⟨blv, bln⟩, ⟨brv, brn⟩⟩) = decide (ao = bo ∧ (alv = blv ∧ aln = bln) ∧ (arv = brv ∧ arn = brn)) from by simp only [Tst.mk.injEq, Slt.mk.injEq]]
  by_cases h1 : ao = bo
  · by_cases h0 : alv = blv
    · by_cases h2 : aln = bln
      · by_cases h4 : arv = brv
        · by_cases h3 : arn = brn
          · simp [go_sem, h0, h1, h2, h3, h4]
          · simp [go_sem, h0, h1, h2, h3, h4]
        · simp [go_sem, h0, h1, h2, h4]
      · simp [go_sem, h0, h1, h2]
    · simp [go_sem, h0, h1]
  · simp [go_sem, h1]

theorem take_map_next {α β : Type} (f : α → β) {l : List α} {k : Nat} {x : α} (h : l[k]? = some x) : (l.take (k + 1)).map f = (l.take k).map f ++ [f x] := by
  rw [List.take_add_one, h]; simp
theorem count_le (l : List Int) (x : Int) (k : Nat) (h : l.length ≤ k) : l.count x ≤ k := Nat.le_trans List.count_le_length h

set_option maxRecDepth 200000 in
set_option maxHeartbeats 8000000 in
theorem placesW {F : Nat → Prop} (W : World) (av nv ev : Value) (al : List Shp) (hA : RSl F W 2 (EShp F W) av al) (n : Nd) (ncs : List Value) (lv mv : Value) (hN : ENd F W ncs n lv mv) (ai : Nat) (s : Shp) (hs : al[ai]? = some s) (ha : n.alpha = ai) (h8 : s.cells.length ≤ 8) (w : Nat) (hw : w ≤ 16) (hml : n.new.length ≤ 1000000000) :
    Calls Tryd.prog 79 #[.agg #[av, nv, ev], .agg #[.int .i64 n.kind, .int .i64 n.parent, .int .i64 n.alpha, lv, mv, .int .i64 n.test.op, .bool n.test.l.v, .int .i64 n.test.l.n, .bool n.test.r.v, .int .i64 n.test.r.n, .int .i64 n.width], .int .i64 (w : Int)] W
      fun e W' => e = .returned (.bool (decide (placesP s.cells n w))) ∧ Below W.heap.size W W' := by
  obtain ⟨Aa, ca, rfl⟩ := hA.form
  have ham := hA.len
  unfold maxLen at ham
  have hail := (List.getElem?_eq_some_iff.1 hs).1
  obtain ⟨ab, ao, scs, rfl, ⟨sv, rfl, -, hsv⟩, hsc⟩ := hA.rd hs
  obtain ⟨Al, cl, rfl⟩ := hN.links.form
  obtain ⟨Am, cm, rfl⟩ := hN.new.form
  obtain ⟨As, cc, rfl⟩ := hsv.form
  have hll := hN.links.len
  unfold maxLen at hll
  have hwo := hN.ok.2.2.2.1.lo
  rw [ha]
  obtain ⟨R, hR⟩ : ∃ R, decide (placesP s.cells n w) = R := ⟨_, rfl⟩
  rw [hR]
  have HR := Lib.hid hR
  have HL := Lib.hid hN.links
  have HM := Lib.hid hN.new
  have HSV := Lib.hid hsv
  have T := Lib.hid (two W #[.slice (some ⟨ab, ao, none⟩) al.length ca, nv, ev] #[.int .i64 n.kind, .int .i64 n.parent, .int .i64 (ai : Int), .slice Al n.links.length cl, .slice Am n.new.length cm, .int .i64 n.test.op, .bool n.test.l.v, .int .i64 n.test.l.n, .bool n.test.r.v, .int .i64 n.test.r.n, .int .i64 n.width] 26 40)
  have e1 : (0 : Int) ≤ (ai : Int) := by omega
  have e2 : (ai : Int) < (al.length : Int) := by omega
  have e3 : IntKind.i64.wrap ((w : Int) + (n.new.length : Int)) = (w : Int) + (n.new.length : Int) := IntWalk.i64_in _ (by omega)
  clear hR hA hs hN hsv ha
  go_enter Tryd.func79, Tryd.ntmps79
  go_upto_region 1 with fail
  obtain ⟨W2, hW2⟩ : ∃ W2, W2 = ((W.alloc (.cells #[.slice (some ⟨ab, ao, none⟩) al.length ca, nv, ev] 26)).alloc (.cells #[.int .i64 n.kind, .int .i64 n.parent, .int .i64 (ai : Int), .slice Al n.links.length cl, .slice Am n.new.length cm, .int .i64 n.test.op, .bool n.test.l.v, .int .i64 n.test.l.n, .bool n.test.r.v, .int .i64 n.test.r.n, .int .i64 n.width] 40)) := ⟨_, rfl⟩
  rw [← hW2] at T ⊢
  clear hW2
  have y0 := T.out.ca (Below.refl _ _) 0 rfl
  have b2 := T.out.cb (Below.refl _ _) 2 rfl
  have b4 := T.out.cb (Below.refl _ _) 4 rfl
  have b5 := T.out.cb (Below.refl _ _) 5 rfl
  have b6 := T.out.cb (Below.refl _ _) 6 rfl
  have b7 := T.out.cb (Below.refl _ _) 7 rfl
  have b8 := T.out.cb (Below.refl _ _) 8 rfl
  have b9 := T.out.cb (Below.refl _ _) 9 rfl
  have b10 := T.out.cb (Below.refl _ _) 10 rfl
  have c1 := hsc _ (T.out.all (Below.refl _ _)) 1 _ rfl
  have hne := fun W => neq_tst n.test noTst W
  simp only [noTst, noSlt] at hne
  clear hsc
  have DT := Lib.hid (Below.refl W2.heap.size W2)
  by_cases t1 : n.test = noTst
  · have t1d : decide (n.test = noTst) = true := decide_eq_true t1
    simp only [noTst, noSlt] at t1d
    rw [t1d] at hne
    simp only [Bool.not_true] at hne
    by_cases t2 : n.width = (w : Int) + (n.new.length : Int)
    · by_cases t3 : n.width ≤ 16
      · have HT := Lib.hid (show n.test = noTst ∧ n.width = (w : Int) + (n.new.length : Int) ∧ n.width ≤ 16 from ⟨t1, t2, t3⟩)
        have t3' : (w : Int) + (n.new.length : Int) ≤ 16 := by omega
        have t3n : ¬ (16 : Int) < (w : Int) + (n.new.length : Int) := by omega
        rw [t2] at b10
        clear t1 t1d t2 t3
        go_upto_region 6 with fail
        have P0 := Lib.hid (ps_new W2)
        obtain ⟨W4, hW4⟩ : ∃ W4, W4 = ((W2.alloc (.cells #[.int .i64 0, .int .i64 0, .int .i64 0, .int .i64 0, .int .i64 0, .int .i64 0, .int .i64 0, .int .i64 0] 108)).alloc (.cells #[.bool false, .bool false, .bool false, .bool false, .bool false, .bool false, .bool false, .bool false, .bool false, .bool false, .bool false, .bool false, .bool false, .bool false, .bool false, .bool false] 140)) := ⟨_, rfl⟩
        rw [← hW4] at P0 ⊢
        clear hW4 y0 b2 b4 b5 b6 b7 b8 b9 b10 c1 hne
        have b3 := T.out.cb P0.out.below 3 rfl
        go_wp2_with fail
        clear b3
        go_loopw [10, 47] (fun lav kv wr => ∃ k : Nat, kv = .int .i64 k ∧ lav = .int .i64 (lastF Prod.fst n.links k) ∧ k ≤ n.links.length ∧ (∀ q, q < k → linkOk s.cells.length w n.links q) ∧ PS W2 wr (tmL ((n.links.take k).map Prod.fst)) (hdL ((n.links.take k).map Prod.snd))) (fun _ k _ => n.links.length - (intOf k).toNat)
        case atStart => exact ⟨0, rfl, rfl, Nat.zero_le _, fun q hq => by omega, P0.out⟩
        case round =>
          obtain ⟨k, rfl, rfl, hk, hO, hP⟩ := hrel
          clear P0
          have hla := last_link k hk hO
          obtain ⟨la, hlae⟩ : ∃ la, lastF Prod.fst n.links k = la := ⟨_, rfl⟩
          rw [hlae] at hla ⊢
          have HLA := Lib.hid hlae
          clear hlae
          by_cases hkn : k < n.links.length
          · obtain ⟨x, hx⟩ : ∃ x, n.links[k]? = some x := ⟨_, List.getElem?_eq_getElem hkn⟩
            obtain ⟨lb, lo, cs, rfl, ⟨rfl, ok1, ok2⟩, hc⟩ := HL.out.rd hx
            have c0 := hc _ (T.out.all hP.below) 0 _ rfl
            have c1 := hc _ (T.out.all hP.below) 1 _ rfl
            simp only [Nat.add_zero] at c0
            have e4 : (0 : Int) ≤ (k : Int) := by omega
            have e5 : (k : Int) < (n.links.length : Int) := by omega
            obtain ⟨wa, hwa⟩ : ∃ wa, wa = wr.alloc (.cells #[.int .i64 x.1, .int .i64 x.2] 56) := ⟨_, rfl⟩
            have hrow : wa.heap[wr.heap.size]? = some (.cells #[.int .i64 x.1, .int .i64 x.2] 56 (0, 0)) := by rw [hwa]; exact heap_alloc_new wr _
            have hPa : PS W2 wa (tmL ((n.links.take k).map Prod.fst)) (hdL ((n.links.take k).map Prod.snd)) := by rw [hwa]; exact hP.step ((Below.refl _ _).alloc (Nat.le_refl _) _)
            have hlt := hP.hd.lt
            have z0 := rboxL hrow 0 rfl
            have z1 := rboxL hrow 1 rfl
            have HK := Lib.hid hkn
            have HX := Lib.hid hx
            have HO := Lib.hid hO
            have HPA := Lib.hid hPa
            have HROW := Lib.hid hrow
            clear hc hx hkn hP hPa hrow hO ok1 ok2
            go_upto_region 10 with fail
            rw [← hwa]
            clear hwa c0 c1
            have NO := Lib.hid (show ¬ (la < x.1 ∧ x.1 < (s.cells.length : Int) ∧ 0 ≤ x.2 ∧ x.2 < (w : Int) ∧ x.2 ∉ (n.links.take k).map Prod.snd) → R = false from fun hno => by
              rw [← HR.out]
              refine decide_eq_false (fun h => hno ?_)
              have h2 := h.2.1 k HK.out x HX.out
              rw [HLA.out] at h2
              refine ⟨h2.1, h2.2.1, h2.2.2.1, h2.2.2.2.1, fun hm => ?_⟩
              obtain ⟨y, hy, hyx⟩ := List.mem_map.1 hm
              obtain ⟨q, hq, rfl⟩ := List.getElem_of_mem hy
              rw [List.length_take] at hq
              refine h2.2.2.2.2 q (by omega) _ ?_ hyx
              rw [List.getElem_take, List.getElem?_eq_getElem (by omega)])
            obtain ⟨xp, xv⟩ := x
            simp only at z0 z1 NO HROW
            by_cases h1 : la < xp
            · have h1n : ¬ xp ≤ la := by omega
              by_cases h2 : xp < (s.cells.length : Int)
              · have h2n : ¬ (s.cells.length : Int) ≤ xp := by omega
                by_cases h3 : 0 ≤ xv
                · have h3n : ¬ xv < 0 := by omega
                  by_cases h4 : xv < (w : Int)
                  · have h4n : ¬ (w : Int) ≤ xv := by omega
                    obtain ⟨vn, rfl⟩ : ∃ vn : Nat, xv = (vn : Int) := ⟨xv.toNat, by omega⟩
                    obtain ⟨pn, rfl⟩ : ∃ pn : Nat, xp = (pn : Int) := ⟨xp.toNat, by omega⟩
                    have hh := HPA.out.hd.cell (hdL_at _ (show vn < 16 by omega))
                    have f1 : (vn : Int) < 16 := by omega
                    have f2 : (pn : Int) < 8 := by omega
                    have f3 : (0 : Int) ≤ (pn : Int) := by omega
                    by_cases h5 : (vn : Int) ∈ (n.links.take k).map Prod.snd
                    · rw [decide_eq_true h5] at hh
                      have HF := Lib.hid (NO.out (fun h => h.2.2.2.2 h5))
                      clear h5
                      go_wp2
                      go_ret
                      exact ⟨by rw [HF.out]; rfl, T.out.all HPA.out.below⟩
                    · rw [decide_eq_false h5] at hh
                      have HOK2 := Lib.hid (show ∀ q, q < k + 1 → linkOk s.cells.length w n.links q from fun q hq => by
                        by_cases e : q = k
                        · subst e
                          intro y hy
                          rw [HX.out] at hy
                          injection hy with hy
                          subst hy
                          rw [HLA.out]
                          refine ⟨h1, h2, h3, h4, fun q' hq' y hy he => h5 ?_⟩
                          have he : y.2 = (vn : Int) := he
                          rw [← he]
                          refine List.mem_map_of_mem ?_
                          have hql := (List.getElem?_eq_some_iff.1 hy).1
                          have : (n.links.take q)[q']? = some y := by rw [List.getElem?_take, if_pos hq']; exact hy
                          exact List.mem_of_getElem? this
                        · exact HO.out q (by omega))
                      obtain ⟨wh, hwh⟩ : ∃ wh, wh = wa.setCell ⟨W2.heap.size + 1, vn, none⟩ (.bool true) := ⟨_, rfl⟩
                      have hPh := HPA.out.putH vn (.bool true)
                      have hTh := (HPA.out.hd.put vn (.bool true)).2
                      rw [← hwh] at hPh hTh
                      have hrow2 := (hTh.block _ (lt_of_heap HROW.out) (by simp; omega)).trans HROW.out
                      have u0 := rboxL hrow2 0 rfl
                      have u1 := rboxL hrow2 1 rfl
                      obtain ⟨ct, hct⟩ : ∃ ct, ((n.links.take k).map Prod.fst).count (pn : Int) = ct := ⟨_, rfl⟩
                      have hctl : ct ≤ k := by rw [← hct]; exact count_le _ _ _ (by simp; omega)
                      have tt := hPh.tm.cell (tmL_at _ (show pn < 8 by omega))
                      rw [hct] at tt
                      have f4 := hPh.tm.frozen pn
                      have f5 := HPA.out.hd.frozen vn
                      have f6 : IntKind.i64.wrap ((ct : Int) + 1) = (ct : Int) + 1 := IntWalk.i64_in _ (by have := HK.out; omega)
                      have hput := hPh.putT pn (.int .i64 ((ct : Int) + 1))
                      rw [← hct, ← tmL_put _ (show pn < 8 by omega), ← hdL_put _ (show vn < 16 by omega), ← take_map_next Prod.fst HX.out, ← take_map_next Prod.snd HX.out] at hput
                      rw [hct] at hput
                      have HPUT := Lib.hid hput
                      have HNX := Lib.hid (lastF_next (f := Prod.fst) HX.out)
                      clear h5 hPh hTh hrow2 hct hput
                      go_upto_region 14 with fail
                      rw [← hwh]
                      clear hwh hh z0 z1 f5
                      go_wp2_with fail
                      exact ⟨⟨k + 1, by go_num, by rw [HNX.out], HK.out, HOK2.out, HPUT.out⟩, by simp [intOf]; have := HK.out; omega⟩
                  · have h4n : (w : Int) ≤ xv := by omega
                    have HF := Lib.hid (NO.out (fun h => h4 h.2.2.2.1))
                    clear h4
                    go_wp2
                    go_ret
                    exact ⟨by rw [HF.out]; rfl, T.out.all HPA.out.below⟩
                · have h3n : xv < 0 := by omega
                  have HF := Lib.hid (NO.out (fun h => h3 h.2.2.1))
                  clear h3
                  go_wp2
                  go_ret
                  exact ⟨by rw [HF.out]; rfl, T.out.all HPA.out.below⟩
              · have h2n : (s.cells.length : Int) ≤ xp := by omega
                have HF := Lib.hid (NO.out (fun h => h2 h.2.1))
                clear h2
                go_wp2
                go_ret
                exact ⟨by rw [HF.out]; rfl, T.out.all HPA.out.below⟩
            · have h1n : xp ≤ la := by omega
              have HF := Lib.hid (NO.out (fun h => h1 h.1))
              clear h1
              go_wp2
              go_ret
              exact ⟨by rw [HF.out]; rfl, T.out.all HPA.out.below⟩
          · obtain rfl : k = n.links.length := by omega
            simp only [List.take_length] at hP
            have HO := Lib.hid hO
            have HP1 := Lib.hid hP
            have HLB := Lib.hid (show n.links.length + n.new.length + 1 ≤ 9223372036854775807 by have := links_len HO.out; omega)
            have b4 := T.out.cb hP.below 4 rfl
            clear hO hP hkn hla
            go_wp2
            clear b4
            go_loopw [10, 94] (fun lav kv wr => ∃ k : Nat, kv = .int .i64 k ∧ lav = .int .i64 (lastF id n.new k) ∧ k ≤ n.new.length ∧ (∀ q, q < k → newOk s.cells.length n.new q) ∧ PS W2 wr (tmL (n.links.map Prod.fst ++ n.new.take k)) (hdL (n.links.map Prod.snd))) (fun _ k _ => n.new.length - (intOf k).toNat)
            case atStart => exact ⟨0, rfl, rfl, Nat.zero_le _, fun q hq => by omega, by simpa using HP1.out⟩
            case round =>
              obtain ⟨k, rfl, rfl, hk, hN, hP⟩ := hrel
              clear HP1
              have hla := last_new k hk hN
              obtain ⟨la, hlae⟩ : ∃ la, lastF id n.new k = la := ⟨_, rfl⟩
              rw [hlae] at hla ⊢
              have HLA2 := Lib.hid hlae
              clear hlae
              by_cases hkn : k < n.new.length
              · obtain ⟨x, hx⟩ : ∃ x, n.new[k]? = some x := ⟨_, List.getElem?_eq_getElem hkn⟩
                obtain ⟨lb, lo, cs, rfl, ⟨rfl, ok1⟩, hc⟩ := HM.out.rd hx
                have c0 := hc _ (T.out.all hP.below) 0 _ rfl
                simp only [Nat.add_zero, Nat.mul_one] at c0
                have e4 : (0 : Int) ≤ (k : Int) := by omega
                have e5 : (k : Int) < (n.new.length : Int) := by omega
                have HK := Lib.hid hkn
                have HX := Lib.hid hx
                have HN := Lib.hid hN
                have HPA := Lib.hid hP
                have NO := Lib.hid (show ¬ (la < x ∧ x < (s.cells.length : Int)) → R = false from fun hno => by
                  rw [← HR.out]
                  refine decide_eq_false (fun h => hno ?_)
                  have h2 := h.2.2.1 k HK.out x HX.out
                  rw [HLA2.out] at h2
                  exact h2)
                have hTL := hP.tm
                clear hc hx hkn hN ok1 hP
                by_cases h1 : la < x
                · have h1n : ¬ x ≤ la := by omega
                  by_cases h2 : x < (s.cells.length : Int)
                  · have h2n : ¬ (s.cells.length : Int) ≤ x := by omega
                    obtain ⟨pn, rfl⟩ : ∃ pn : Nat, x = (pn : Int) := ⟨x.toNat, by omega⟩
                    have f2 : (pn : Int) < 8 := by omega
                    have f3 : (0 : Int) ≤ (pn : Int) := by omega
                    have HOK2 := Lib.hid (show ∀ q, q < k + 1 → newOk s.cells.length n.new q from fun q hq => by
                      by_cases e : q = k
                      · subst e
                        intro y hy
                        rw [HX.out] at hy
                        injection hy with hy
                        subst hy
                        rw [HLA2.out]
                        exact ⟨h1, h2⟩
                      · exact HN.out q (by omega))
                    obtain ⟨ct, hct⟩ : ∃ ct, (n.links.map Prod.fst ++ n.new.take k).count (pn : Int) = ct := ⟨_, rfl⟩
                    have hctl : ct ≤ n.links.length + k := by rw [← hct]; exact count_le _ _ _ (by simp; omega)
                    have tt := hTL.cell (tmL_at _ (show pn < 8 by omega))
                    rw [hct] at tt
                    have f4 := hTL.frozen pn
                    have f6 : IntKind.i64.wrap ((ct : Int) + 1) = (ct : Int) + 1 := IntWalk.i64_in _ (by have := HLB.out; omega)
                    have hput := HPA.out.putT pn (.int .i64 ((ct : Int) + 1))
                    rw [← hct, ← tmL_put _ (show pn < 8 by omega)] at hput
                    rw [hct] at hput
                    have hnx : n.links.map Prod.fst ++ n.new.take k ++ [(pn : Int)] = n.links.map Prod.fst ++ n.new.take (k + 1) := by
                      rw [List.take_add_one, HX.out, List.append_assoc]; rfl
                    rw [hnx] at hput
                    have HPUT := Lib.hid hput
                    have HNX := Lib.hid (lastF_next (f := id) HX.out)
                    clear hct hput hnx hTL
                    go_wp2_with fail
                    exact ⟨⟨k + 1, by go_num, by rw [HNX.out]; rfl, HK.out, HOK2.out, HPUT.out⟩, by simp [intOf]; have := HK.out; omega⟩
                  · have h2n : (s.cells.length : Int) ≤ x := by omega
                    have HF := Lib.hid (NO.out (fun h => h2 h.2))
                    clear h2 hTL
                    go_wp2
                    go_ret
                    exact ⟨by rw [HF.out]; rfl, T.out.all HPA.out.below⟩
                · have h1n : x ≤ la := by omega
                  have HF := Lib.hid (NO.out (fun h => h1 h.1))
                  clear h1 hTL
                  go_wp2
                  go_ret
                  exact ⟨by rw [HF.out]; rfl, T.out.all HPA.out.below⟩
              · obtain rfl : k = n.new.length := by omega
                simp only [List.take_length] at hP
                have HN := Lib.hid hN
                have HP2 := Lib.hid hP
                clear hN hP hkn hla
                go_wp2
                go_loopw [116] (fun kv wr => ∃ k : Nat, kv = .int .i64 k ∧ k ≤ s.cells.length ∧ (∀ q, q < k → cellOk s.cells (n.links.map Prod.fst ++ n.new) q) ∧ PS W2 wr (tmL (n.links.map Prod.fst ++ n.new)) (hdL (n.links.map Prod.snd))) (fun k _ => s.cells.length - (intOf k).toNat)
                case atStart => exact ⟨0, rfl, Nat.zero_le _, fun q hq => by omega, HP2.out⟩
                case round =>
                  obtain ⟨i, rfl, hi, hC, hP⟩ := hrel
                  clear HP2
                  by_cases hin : i < s.cells.length
                  · obtain ⟨c, hcx⟩ : ∃ c, s.cells[i]? = some c := ⟨_, List.getElem?_eq_getElem hin⟩
                    obtain ⟨lb, lo, cs, rfl, ⟨rfl, ok1⟩, hc⟩ := HSV.out.rd hcx
                    have c0 := hc _ (T.out.all hP.below) 0 _ rfl
                    simp only [Nat.add_zero, Nat.mul_one] at c0
                    have e4 : (0 : Int) ≤ (i : Int) := by omega
                    have e5 : (i : Int) < (s.cells.length : Int) := by omega
                    have e6 : (i : Int) < 8 := by omega
                    have e7 : IntKind.i64.wrap (-1 - (i : Int)) = -1 - (i : Int) := IntWalk.i64_in _ (by omega)
                    obtain ⟨ct, hct⟩ : ∃ ct, (n.links.map Prod.fst ++ n.new).count (i : Int) = ct := ⟨_, rfl⟩
                    have tt := hP.tm.cell (tmL_at _ (show i < 8 by omega))
                    rw [hct] at tt
                    have HI := Lib.hid hin
                    have HX := Lib.hid hcx
                    have HC := Lib.hid hC
                    have HP := Lib.hid hP
                    have HCT := Lib.hid hct
                    clear hc hcx hin hC hP ok1 hct
                    have NXT := Lib.hid (show ((ct : Int) = if c = -1 - (i : Int) then 1 else 0) → ∀ q, q < i + 1 → cellOk s.cells (n.links.map Prod.fst ++ n.new) q from fun h q hq => by
                      by_cases e : q = i
                      · subst e
                        intro y hy
                        rw [HX.out] at hy
                        injection hy with hy
                        subst hy
                        rw [HCT.out]
                        exact h
                      · exact HC.out q (by omega))
                    have NO := Lib.hid (show ¬ ((ct : Int) = if c = -1 - (i : Int) then 1 else 0) → R = false from fun hno => by
                      rw [← HR.out]
                      refine decide_eq_false (fun h => hno ?_)
                      have := h.2.2.2 i HI.out c HX.out
                      rw [HCT.out] at this
                      exact this)
                    by_cases hc1 : c = -1 - (i : Int)
                    · rw [if_pos hc1] at NXT NO
                      subst hc1
                      by_cases hc2 : ct = 1
                      · subst hc2
                        have HN2 := Lib.hid (NXT.out rfl)
                        clear NXT NO
                        go_wp2_with fail
                        exact ⟨⟨i + 1, by go_num, HI.out, HN2.out, HP.out⟩, by simp [intOf]; have := HI.out; omega⟩
                      · have hn : ¬ (ct : Int) = 1 := by omega
                        have hn2 : ((ct : Int) == 1) = false := by simpa using hn
                        have hn3 : ((ct : Int) != 1) = true := by simpa using hn
                        have HF := Lib.hid (NO.out hn)
                        clear NXT NO hc2
                        go_wp2
                        go_ret
                        exact ⟨by rw [HF.out]; rfl, T.out.all HP.out.below⟩
                    · rw [if_neg hc1] at NXT NO
                      have hc1b : (c == -1 - (i : Int)) = false := by simpa using hc1
                      by_cases hc2 : ct = 0
                      · subst hc2
                        have HN2 := Lib.hid (NXT.out rfl)
                        clear NXT NO
                        go_wp2_with fail
                        exact ⟨⟨i + 1, by go_num, HI.out, HN2.out, HP.out⟩, by simp [intOf]; have := HI.out; omega⟩
                      · have hn : ¬ (ct : Int) = 0 := by omega
                        have hn2 : ((ct : Int) == 0) = false := by simpa using hn
                        have hn3 : ((ct : Int) != 0) = true := by simpa using hn
                        have HF := Lib.hid (NO.out hn)
                        clear NXT NO hc2
                        go_wp2
                        go_ret
                        exact ⟨by rw [HF.out]; rfl, T.out.all HP.out.below⟩
                  · obtain rfl : i = s.cells.length := by omega
                    have HF := Lib.hid (show R = true by rw [← HR.out]; exact decide_eq_true ⟨HT.out, HO.out, HN.out, hC⟩)
                    have HB := Lib.hid (T.out.all hP.below)
                    clear hC hP hin
                    go_wp2
                    go_ret
                    exact ⟨by rw [HF.out]; rfl, HB.out⟩
      · have HF := Lib.hid (show R = false by rw [← HR.out]; exact decide_eq_false (fun h => t3 h.1.2.2))
        have t3n : (16 : Int) < n.width := by omega
        clear t1 t1d t3
        go_wp2
        go_ret
        exact ⟨by rw [HF.out]; rfl, T.out.all (Below.refl _ _)⟩
    · have HF := Lib.hid (show R = false by rw [← HR.out]; exact decide_eq_false (fun h => t2 h.1.2.1))
      clear t1 t1d
      go_wp2
      go_ret
      exact ⟨by rw [HF.out]; rfl, T.out.all (Below.refl _ _)⟩
  · have t1d : decide (n.test = noTst) = false := decide_eq_false t1
    simp only [noTst, noSlt] at t1d
    rw [t1d] at hne
    simp only [Bool.not_false] at hne
    have HF := Lib.hid (show R = false by rw [← HR.out]; exact decide_eq_false (fun h => t1 h.1.1))
    clear t1 t1d
    go_wp2
    go_ret
    exact ⟨by rw [HF.out]; rfl, T.out.all (Below.refl _ _)⟩
end Go.Proofs.YtonkbjdeaneicaaDoor
