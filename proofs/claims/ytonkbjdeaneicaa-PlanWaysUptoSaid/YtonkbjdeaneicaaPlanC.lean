/- Plans, in plain Lean: what holds behind the first conditions of a rule. -/
import Derived.Test.YtonkbjdeaneicaaPlanT
namespace Go.Proofs.Ytonkbjdeaneicaa.Pln
open Classical

/-- Behind the first i conditions. -/
noncomputable def upTo (st : St) (r : Rl) (i : Nat) : Nat × St := ((conds r).take i).foldl stepF (0, st)
theorem upTo_zero (st : St) (r : Rl) : upTo st r 0 = (0, st) := rfl
theorem upTo_succ (st : St) {r : Rl} {i : Nat} {c : Cnd} (h : (conds r)[i]? = some c) : upTo st r (i + 1) = stepF (upTo st r i) c := by
  unfold upTo
  rw [List.take_add_one, h, List.foldl_append]
  rfl
theorem upTo_all (st : St) (r : Rl) : upTo st r (r.pos.length + r.tests.length + r.neg.length) = ruleF st r := by
  unfold upTo
  rw [← conds_len, List.take_length, ruleF_conds]
theorem cond_pos {r : Rl} {j : Nat} {p : Pat} (h : r.pos[j]? = some p) : (conds r)[j]? = some ⟨1, p, noTst⟩ := by
  unfold conds
  have hl := (List.getElem?_eq_some_iff.1 h).1
  rw [List.getElem?_append_left (by simp; omega), List.getElem?_append_left (by simpa using hl), List.getElem?_map, h]
  rfl
theorem cond_test {r : Rl} {j : Nat} {t : Tst} (h : r.tests[j]? = some t) : (conds r)[r.pos.length + j]? = some ⟨2, noPat, t⟩ := by
  unfold conds
  have hl := (List.getElem?_eq_some_iff.1 h).1
  rw [List.getElem?_append_left (by simp; omega), List.getElem?_append_right (by simp), List.length_map, Nat.add_sub_cancel_left, List.getElem?_map, h]
  rfl
theorem cond_neg {r : Rl} {j : Nat} {p : Pat} (h : r.neg[j]? = some p) : (conds r)[r.pos.length + r.tests.length + j]? = some ⟨3, p, noTst⟩ := by
  unfold conds
  rw [List.getElem?_append_right (by simp), List.getElem?_map]
  have e : r.pos.length + r.tests.length + j - (r.pos.map (fun p => (⟨1, p, noTst⟩ : Cnd)) ++ r.tests.map (fun t => (⟨2, noPat, t⟩ : Cnd))).length = j := by simp
  rw [e, h]
  rfl
theorem okCs_at : ∀ (cs : List Cnd) (w : Nat), okCs w cs → ∀ c ∈ cs, ∃ w', okC w' c
  | [], _, _, c, h => by cases h
  | d :: l, w, ⟨h1, h2⟩, c, h => by
    rcases List.mem_cons.1 h with rfl | h
    · exact ⟨w, h1⟩
    · exact okCs_at l _ h2 c h
theorem fold_width : ∀ (cs : List Cnd) (x : Nat × St) (w : Nat), okCs w cs → (∀ c ∈ cs, c.p.args.length ≤ 8) → x.1 < x.2.ns.length → widthAt x.2 x.1 = (w : Int) →
    ∃ w' : Nat, widthAt (cs.foldl stepF x).2 (cs.foldl stepF x).1 = (w' : Int) ∧ w' ≤ w + 8 * cs.length
  | [], x, w, _, _, _, hw => ⟨w, hw, by simp⟩
  | c :: r, x, w, ⟨h1, h2⟩, h8, hx, hw => by
    obtain ⟨s1, s2, s3, s4⟩ := stepF_facts x c hx
    have hE := ext_stepF x c
    have hw2 : widthAt (stepF x c).2 x.1 = (w : Int) := by rw [hE.width hx]; exact hw
    have e : widthAt (stepF x c).2 (stepF x c).1 = (nextW w c : Int) := by
      unfold widthAt
      rw [s3, (placeF_lt s2).2]
      exact nodeC_width h1 hw2
    obtain ⟨w', i1, i2⟩ := fold_width r (stepF x c) _ h2 (fun d hd => h8 d (List.mem_cons_of_mem _ hd)) s4 e
    refine ⟨w', i1, Nat.le_trans i2 ?_⟩
    have h3 : nextW w c ≤ w + 8 := by
      unfold nextW
      split
      · have := scanD_len c.p.args w
        have := h8 c (List.mem_cons_self ..)
        omega
      · omega
    simp only [List.length_cons]
    omega
theorem fold_len : ∀ (cs : List Cnd) (x : Nat × St), (cs.foldl stepF x).2.ns.length ≤ x.2.ns.length + cs.length ∧ (cs.foldl stepF x).2.al.length ≤ x.2.al.length + cs.length
  | [], x => by simp
  | c :: r, x => by
    obtain ⟨i1, i2⟩ := fold_len r (stepF x c)
    rw [List.foldl_cons]
    have h : (stepF x c).2.ns.length ≤ x.2.ns.length + 1 ∧ (stepF x c).2.al.length ≤ x.2.al.length + 1 := by
      unfold stepF
      split
      · obtain ⟨q, h1, h2⟩ := addF_pre x.2.ns (testOf x.2 x.1 c.t)
        refine ⟨?_, by simp [tstF]⟩
        show (addF _ _).length ≤ _
        rw [h1, List.length_append]; omega
      · obtain ⟨q, h1, h2⟩ := addF_pre x.2.ns (nodeOf x.2 c.kind x.1 c.p)
        obtain ⟨q', h3, h4⟩ := addF_pre x.2.al (shapeF c.p)
        refine ⟨?_, ?_⟩
        · show (addF _ _).length ≤ _
          rw [h1, List.length_append]; omega
        · show (addF _ _).length ≤ _
          rw [h3, List.length_append]; omega
    simp only [List.length_cons]
    omega
theorem okCs_take : ∀ (cs : List Cnd) (w i : Nat), okCs w cs → okCs w (cs.take i)
  | [], _, i, _ => by simp [okCs]
  | c :: r, w, 0, _ => trivial
  | c :: r, w, i + 1, ⟨h1, h2⟩ => ⟨h1, okCs_take r _ i h2⟩
theorem Fit.args8 {r : Rl} {w : Nat} (h : Fit r w) : ∀ c ∈ conds r, c.p.args.length ≤ 8 := by
  intro c hc
  unfold conds at hc
  rcases List.mem_append.1 hc with hc | hc
  · rcases List.mem_append.1 hc with hc | hc
    · obtain ⟨p, hp, rfl⟩ := List.mem_map.1 hc
      exact (h.pats p hp).2
    · obtain ⟨t, ht, rfl⟩ := List.mem_map.1 hc
      simp [noPat]
  · obtain ⟨p, hp, rfl⟩ := List.mem_map.1 hc
    exact (h.ngs p hp).2.1
/-- What holds behind the first i conditions of a rule that fits. -/
theorem upTo_facts {st : St} (hwf : Wf st) {r : Rl} {w : Nat} (h : Fit r w) {i : Nat} (hi : i ≤ r.pos.length + r.tests.length + r.neg.length) :
    (upTo st r i).1 < (upTo st r i).2.ns.length ∧ (∃ w' : Nat, widthAt (upTo st r i).2 (upTo st r i).1 = (w' : Int) ∧ w' ≤ 128) ∧ (upTo st r i).2.ns.length ≤ st.ns.length + 16 ∧ (upTo st r i).2.al.length ≤ st.al.length + 16 := by
  have hl : ((conds r).take i).length ≤ 16 := by
    rw [List.length_take, conds_len]
    have := h.many
    omega
  have w0 : widthAt st 0 = ((0 : Nat) : Int) := by unfold widthAt; rw [hwf.root]; rfl
  obtain ⟨w', h1, h2⟩ := fold_width ((conds r).take i) (0, st) 0 (okCs_take _ _ _ h.okCs) (fun c hc => h.args8 c (List.mem_of_mem_take hc)) hwf.len w0
  obtain ⟨h3, h4⟩ := fold_len ((conds r).take i) (0, st)
  refine ⟨(stands_fold ((conds r).take i) (0, st) hwf.len).2.2, ⟨w', h1, by omega⟩, ?_, ?_⟩
  · exact Nat.le_trans h3 (by simp only; omega)
  · exact Nat.le_trans h4 (by simp only; omega)
theorem comp_len (rs : List Rl) (hf : ∀ r ∈ rs, mayP r) : ∀ k, k ≤ rs.length → (compF (rs.take k)).1.ns.length ≤ 1 + 16 * k ∧ (compF (rs.take k)).1.al.length ≤ 16 * k
  | 0, _ => by simp [compF]
  | k + 1, hk => by
    obtain ⟨i1, i2⟩ := comp_len rs hf k (by omega)
    have hr : rs[k]? = some rs[k] := List.getElem?_eq_getElem (by omega)
    obtain ⟨w, hw⟩ := hf rs[k] (List.getElem_mem _)
    obtain ⟨_, _, h3, h4⟩ := upTo_facts (made_comp (rs.take k)).wf hw (Nat.le_refl _)
    rw [upTo_all] at h3 h4
    rw [comp_take_succ hr]
    simp only [endF]
    omega
end Go.Proofs.Ytonkbjdeaneicaa.Pln
