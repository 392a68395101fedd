/- The plan of rules is well formed: shapes and ends; the law. No program in sight. -/
import Derived.Test.YtonkbjdeaneicaaLawN
namespace Go.Proofs.Ytonkbjdeaneicaa.Pln
open Classical

theorem needs_mono {m : Nat} : ∀ (ns : List Nd) (q q' : Nat), ns.foldl (needF m) (some q) = some q' → ns.foldl (needF (m + 1)) (some q) = some q'
  | [], _, _, h => h
  | n :: r, q, q', h => by
    rw [List.foldl_cons] at h ⊢
    cases hx : needF m (some q) n with
    | none => rw [hx, needs_none] at h; cases h
    | some a =>
      rw [hx] at h
      have : needF (m + 1) (some q) n = some a := by
        unfold needF at hx ⊢
        simp only at hx ⊢
        split at hx
        · rename_i hk
          rw [if_pos hk]
          split at hx
          · rename_i hc
            rw [if_pos ⟨hc.1, hc.2.1, by omega⟩]
            exact hx
          · cases hx
        · rename_i hk
          rw [if_neg hk]
          exact hx
      rw [this]
      exact needs_mono r a q' h
/-- A pattern that has a shape. -/
def GoodP (p : Pat) : Prop := 0 ≤ p.pred ∧ p.args.length ≤ 8 ∧ ∃ w, okA p.args w
structure ShInv (st : St) : Prop where
  good : ∀ s ∈ st.al, ∃ p, GoodP p ∧ s = shapeF p
  need : needs st.al.length st.ns = some st.al.length
theorem shInv_start : ShInv ⟨[], [rootN]⟩ := ⟨by simp, rfl⟩
theorem ShInv.pat {x : Nat × St} (h : ShInv x.2) {k : Int} (hk : k = 1 ∨ k = 3) {p : Pat} (hp : GoodP p) : ShInv (patF k x p).2 := by
  obtain ⟨n, hn⟩ : ∃ n, nodeOf x.2 k x.1 p = n := ⟨_, rfl⟩
  have hkind : n.kind = 1 ∨ n.kind = 3 := by rw [← hn]; exact hk
  have halpha : n.alpha = (placeF x.2.al (shapeF p) : Int) := by rw [← hn]; rfl
  refine ⟨?_, ?_⟩
  · intro s hs
    simp only [patF] at hs
    unfold addF at hs
    split at hs
    · exact h.good s hs
    · rcases List.mem_append.1 hs with hs | hs
      · exact h.good s hs
      · exact ⟨p, hp, List.mem_singleton.1 hs⟩
  · simp only [patF]
    rw [hn]
    by_cases hm : shapeF p ∈ x.2.al
    · have e1 : addF x.2.al (shapeF p) = x.2.al := by unfold addF; rw [if_pos hm]
      rw [e1]
      by_cases hnm : n ∈ x.2.ns
      · have e2 : addF x.2.ns n = x.2.ns := by unfold addF; rw [if_pos hnm]
        rw [e2]; exact h.need
      · have e2 : addF x.2.ns n = x.2.ns ++ [n] := by unfold addF; rw [if_neg hnm]
        rw [e2]
        unfold needs
        rw [List.foldl_append]
        have := h.need
        unfold needs at this
        rw [this]
        have hlt := (placeF_lt hm).1
        simp only [List.foldl_cons, List.foldl_nil]
        unfold needF
        simp only
        rw [if_pos hkind, if_pos (by rw [halpha]; omega), if_neg (by rw [halpha]; omega)]
    · have e1 : addF x.2.al (shapeF p) = x.2.al ++ [shapeF p] := by unfold addF; rw [if_neg hm]
      have hpl := placeF_none hm
      have hnm : n ∉ x.2.ns := by
        intro hnm
        have := need_alpha x.2.ns 0 _ h.need n hnm hkind
        rw [halpha, hpl] at this
        omega
      have e2 : addF x.2.ns n = x.2.ns ++ [n] := by unfold addF; rw [if_neg hnm]
      rw [e1, e2, List.length_append]
      unfold needs
      rw [List.foldl_append]
      have := needs_mono x.2.ns 0 _ h.need
      simp only [List.length_cons, List.length_nil] at this ⊢
      rw [this]
      simp only [List.foldl_cons, List.foldl_nil]
      unfold needF
      simp only
      rw [if_pos hkind, if_pos (by rw [halpha, hpl]; omega), if_pos (by rw [halpha, hpl])]
theorem ShInv.tst {x : Nat × St} (h : ShInv x.2) (t : Tst) : ShInv (tstF x t).2 := by
  refine ⟨h.good, ?_⟩
  simp only [tstF]
  by_cases hnm : testOf x.2 x.1 t ∈ x.2.ns
  · have e2 : addF x.2.ns (testOf x.2 x.1 t) = x.2.ns := by unfold addF; rw [if_pos hnm]
    rw [e2]; exact h.need
  · have e2 : addF x.2.ns (testOf x.2 x.1 t) = x.2.ns ++ [testOf x.2 x.1 t] := by unfold addF; rw [if_neg hnm]
    rw [e2]
    unfold needs
    rw [List.foldl_append]
    have := h.need
    unfold needs at this
    rw [this]
    simp only [List.foldl_cons, List.foldl_nil]
    unfold needF
    simp only
    rw [if_neg (by show ¬ ((2 : Int) = 1 ∨ (2 : Int) = 3); decide)]
theorem ShInv.step {x : Nat × St} (h : ShInv x.2) {c : Cnd} (h3 : ok3 c) (hc : c.kind ≠ 2 → GoodP c.p) : ShInv (stepF x c).2 := by
  unfold stepF
  by_cases hk : c.kind = 2
  · rw [if_pos hk]; exact h.tst _
  · rw [if_neg hk]
    exact h.pat (by rcases h3 with h | h | h; exact .inl h; exact absurd h hk; exact .inr h) (hc hk)
theorem ShInv.fold : ∀ (cs : List Cnd) {x : Nat × St}, ShInv x.2 → (∀ c ∈ cs, ok3 c ∧ (c.kind ≠ 2 → GoodP c.p)) → ShInv (cs.foldl stepF x).2
  | [], _, h, _ => h
  | c :: r, x, h, hc => by
    rw [List.foldl_cons]
    exact ShInv.fold r (h.step (hc c (by simp)).1 (hc c (by simp)).2) (fun d hd => hc d (by simp [hd]))
theorem conds_good {r : Rl} (h : mayP r) : ∀ c ∈ conds r, ok3 c ∧ (c.kind ≠ 2 → GoodP c.p) := by
  obtain ⟨w, hf⟩ := h
  intro c hc
  refine ⟨conds_ok3 r c hc, fun hk => ?_⟩
  obtain ⟨w', hw'⟩ := okCs_at (conds r) 0 hf.okCs c hc
  have hokA := hw'.okA hk
  obtain ⟨j, hj, hjc⟩ := List.getElem_of_mem hc
  rcases cond_at (show (conds r)[j]? = some c by rw [List.getElem?_eq_getElem hj, hjc]) with ⟨p, g1, g2, rfl⟩ | ⟨t, k, g1, g2, rfl⟩ | ⟨p, k, g1, g2, rfl⟩
  · have := hf.pats p (List.mem_of_getElem? g2)
    exact ⟨this.1, this.2, w', hokA⟩
  · exact absurd rfl hk
  · have := hf.ngs p (List.mem_of_getElem? g2)
    exact ⟨this.1, this.2.1, w', hokA⟩
theorem comp_inv (rs : List Rl) (hf : ∀ r ∈ rs, mayP r) : ∀ k, k ≤ rs.length → ShInv (compF (rs.take k)).1
  | 0, _ => shInv_start
  | k + 1, hk => by
    have hr : rs[k]? = some rs[k] := List.getElem?_eq_getElem (by omega)
    rw [comp_take_succ hr]
    unfold endF
    rw [ruleF_conds]
    exact ShInv.fold _ (x := (0, (compF (rs.take k)).1)) (comp_inv rs hf k (by omega)) (conds_good (hf _ (List.mem_of_getElem? hr)))
theorem comp_shapes (rs : List Rl) (hf : ∀ r ∈ rs, mayP r) : shapesP (compF rs).1.al (compF rs).1.ns := by
  have hI := comp_inv rs hf rs.length (Nat.le_refl _)
  rw [List.take_length] at hI
  have hM := made_comp rs
  refine ⟨fun i hi s hs => ?_, hI.need⟩
  obtain ⟨p, ⟨hp1, hp2, w, hp3⟩, rfl⟩ := hI.good s (List.mem_of_getElem? hs)
  refine ⟨shape_valid hp3 hp1, by simpa [shapeF] using hp2, fun k hk he => ?_⟩
  obtain ⟨a1, a2⟩ := List.getElem?_eq_some_iff.1 he
  obtain ⟨b1, b2⟩ := List.getElem?_eq_some_iff.1 hs
  have := (List.getElem_inj hM.wf.adup).1 (a2.trans b2.symm)
  omega

/-- The way of a node is the one chain of parents. -/
theorem wayG_eq {ns : List Nd} {al : List Shp} : ∀ (f : Nat) (l : List Nat) (e : Nat), Up ⟨al, ns⟩ l → (0 :: l).getD l.length 0 = e → e ≤ f → wayG ns f e = l
  | 0, l, e, hl, he, hf => by
    obtain rfl : e = 0 := by omega
    rcases List.eq_nil_or_concat l with rfl | ⟨m, x, rfl⟩
    · rfl
    · have := (hl m.length x (by simp)).1
      simp [List.getD] at he
      omega
  | f + 1, l, e, hl, he, hf => by
    rcases List.eq_nil_or_concat l with rfl | ⟨m, x, rfl⟩
    · have : e = 0 := by simpa using he.symm
      subst this
      simp [wayG]
    · have hx : e = x := by simp [List.getD] at he; exact he.symm
      subst hx
      obtain ⟨h1, h2, n, h3, h4⟩ := hl m.length e (by simp)
      have e1 : (0 :: m.concat e).getD m.length 0 = (0 :: m).getD m.length 0 := by
        rw [List.concat_eq_append, List.getD_eq_getElem?_getD, List.getD_eq_getElem?_getD, ← List.cons_append, List.getElem?_append_left (by simp)]
      rw [e1] at h2 h4
      have hpo : parentOf ns e = (0 :: m).getD m.length 0 := by
        have h3' : ns[e]? = some n := h3
        unfold parentOf
        rw [h3']
        simp only
        omega
      have hm : Up ⟨al, ns⟩ m := by
        intro i u hu
        have hi := (List.getElem?_eq_some_iff.1 hu).1
        obtain ⟨g1, g2, n', g3, g4⟩ := hl i u (by rw [List.concat_eq_append, List.getElem?_append_left hi]; exact hu)
        have e2 : (0 :: m.concat e).getD i 0 = (0 :: m).getD i 0 := by
          rw [List.concat_eq_append, List.getD_eq_getElem?_getD, List.getD_eq_getElem?_getD, ← List.cons_append, List.getElem?_append_left (by simp; omega)]
        rw [e2] at g2 g4
        exact ⟨g1, g2, n', g3, g4⟩
      simp only [wayG]
      rw [if_neg (by omega), hpo, wayG_eq f m _ hm rfl (by omega), List.concat_eq_append]
theorem made_way {rs : List Rl} {st : St} {es : List Nat} (h : Made rs st es) {i : Nat} {r : Rl} {e : Nat} (hr : rs[i]? = some r) (he : es[i]? = some e) : wayN st.ns e = wayF st 0 (conds r) ∧ e < st.ns.length := by
  obtain ⟨h1, e', h2, h3, h4⟩ := h.ways i r hr
  rw [he] at h2
  injection h2 with h2
  subst h2
  exact ⟨wayG_eq (al := st.al) e _ e (up_way' h.wf h1 (conds_ok3 r)) (by rw [way_last', h3]) (Nat.le_refl _), h4⟩
where
  up_way' {st : St} (hwf : Wf st) {cs : List Cnd} (h : Stands st 0 cs) (hc : ∀ c ∈ cs, ok3 c) : Up st (wayF st 0 cs) := by
    intro i u hu
    obtain ⟨c, h1, h2, h3, h4⟩ := way_at hwf cs 0 h hc i u hu
    exact ⟨by omega, h4, _, h3, by unfold nodeC; split <;> rfl⟩
  way_last' {st : St} {cs : List Cnd} : (0 :: wayF st 0 cs).getD (wayF st 0 cs).length 0 = (wayF st 0 cs).getLast?.getD 0 := by
    generalize wayF st 0 cs = l
    rcases List.eq_nil_or_concat l with rfl | ⟨m, x, rfl⟩
    · rfl
    · simp [List.getD]
/-- The nodes that a rule's way adds are the next ones. -/
theorem on_fold : ∀ (cs : List Cnd) (x : Nat × St), x.1 < x.2.ns.length → (wayF (cs.foldl stepF x).2 x.1 cs).foldl onF (some x.2.ns.length) = some (cs.foldl stepF x).2.ns.length
  | [], x, _ => rfl
  | c :: r, x, hx => by
    obtain ⟨s1, s2, s3, s4⟩ := stepF_facts x c hx
    have hE := ext_fold r (stepF x c)
    rw [List.foldl_cons]
    have hx' : x.1 < (stepF x c).2.ns.length := Nat.lt_of_lt_of_le hx (ext_stepF x c).len
    have e := nodeC_ext hE hx' s1
    have e2 : placeF (r.foldl stepF (stepF x c)).2.ns (nodeC (stepF x c).2 x.1 c) = (stepF x c).1 := by
      rw [s3]
      obtain ⟨_, ⟨q, h⟩⟩ := hE
      rw [h, placeF_app s2]
    simp only [wayF]
    rw [e, e2, List.foldl_cons]
    have hon : onF (some x.2.ns.length) (stepF x c).1 = some (stepF x c).2.ns.length := by
      have key : ∀ n : Nd, (stepF x c).1 = placeF x.2.ns n → (stepF x c).2.ns = addF x.2.ns n → onF (some x.2.ns.length) (stepF x c).1 = some (stepF x c).2.ns.length := by
        intro n h1 h2
        rw [h1, h2]
        unfold onF addF
        by_cases hm : n ∈ x.2.ns
        · have := (placeF_lt hm).1
          simp only
          rw [if_pos (by omega), if_neg (by omega), if_pos hm]
        · rw [placeF_none hm]
          simp [hm]
      unfold stepF at key ⊢
      by_cases hk : c.kind = 2
      · rw [if_pos hk] at key ⊢
        exact key (testOf x.2 x.1 c.t) rfl rfl
      · rw [if_neg hk] at key ⊢
        exact key (nodeOf x.2 c.kind x.1 c.p) rfl rfl
    rw [hon]
    exact on_fold r (stepF x c) s4
theorem ends_take (rs : List Rl) {k : Nat} (hk : k ≤ rs.length) : (compF (rs.take k)).2 = (compF rs).2.take k := by
  have hlen : ∀ j, j ≤ rs.length → (compF (rs.take j)).2.length = j := fun j hj => by rw [(made_comp (rs.take j)).len, List.length_take]; omega
  have hpre : ∀ d, k + d ≤ rs.length → (compF (rs.take (k + d))).2.take k = (compF (rs.take k)).2 := by
    intro d
    induction d with
    | zero => intro _; rw [Nat.add_zero, List.take_of_length_le (by rw [hlen k hk]; exact Nat.le_refl _)]
    | succ d ih =>
      intro hd
      have hr : rs[k + d]? = some rs[k + d] := List.getElem?_eq_getElem (by omega)
      rw [← Nat.add_assoc, comp_take_succ hr]
      unfold endF
      simp only
      rw [List.take_append_of_le_length (by rw [hlen (k + d) (by omega)]; omega)]
      exact ih (by omega)
  have := hpre (rs.length - k) (by omega)
  rw [show k + (rs.length - k) = rs.length by omega, List.take_length] at this
  exact this.symm
theorem comp_ends (rs : List Rl) : endsP (compF rs).1.ns ((compF rs).2.map fun (e : Nat) => (e : Int)) := by
  have hM := made_comp rs
  suffices h : ∀ k, k ≤ rs.length → (((compF rs).2.map fun (e : Nat) => (e : Int)).take k).foldl (endE (compF rs).1.ns) (some 1) = some (compF (rs.take k)).1.ns.length by
    have := h rs.length (Nat.le_refl _)
    rw [List.take_length, List.take_of_length_le (by rw [List.length_map, hM.len]; exact Nat.le_refl _)] at this
    exact this
  intro k
  induction k with
  | zero => intro _; rfl
  | succ k ih =>
    intro hk
    have hr : rs[k]? = some rs[k] := List.getElem?_eq_getElem (by omega)
    obtain ⟨e, he⟩ : ∃ e, (compF rs).2[k]? = some e := ⟨_, List.getElem?_eq_getElem (by rw [hM.len]; omega)⟩
    obtain ⟨h1, h2⟩ := made_way hM hr he
    rw [fold_next (endE (compF rs).1.ns) (some 1) (k := k) (x := (e : Int)) (by rw [List.getElem?_map, he]; rfl), ih (by omega)]
    unfold endE
    simp only
    rw [if_pos ⟨by omega, by omega⟩, Int.toNat_natCast, h1]
    have hst := (made_comp (rs.take k))
    have hof := on_fold (conds rs[k]) (0, (compF (rs.take k)).1) hst.wf.len
    have hext : Ext ((conds rs[k]).foldl stepF (0, (compF (rs.take k)).1)).2 (compF rs).1 := by
      have e1 : ((conds rs[k]).foldl stepF (0, (compF (rs.take k)).1)).2 = (compF (rs.take (k + 1))).1 := by rw [comp_take_succ hr]; unfold endF; rw [ruleF_conds]
      rw [e1]
      have := ext_comp (rs.drop (k + 1)) (compF (rs.take (k + 1)))
      have e2 : (rs.drop (k + 1)).foldl endF (compF (rs.take (k + 1))) = compF rs := by
        unfold compF
        rw [← List.foldl_append, List.take_append_drop]
      rw [e2] at this
      exact this
    have hsd := (stands_fold (conds rs[k]) (0, (compF (rs.take k)).1) hst.wf.len).1
    rw [(stands_ext hext (conds rs[k]) 0 hsd).2]
    rw [hof, comp_take_succ hr]
    unfold endF
    rw [ruleF_conds]
/-- A compiled plan is well formed. -/
theorem comp_check (rs : List Rl) (hf : ∀ r ∈ rs, mayP r) : checkP (compF rs).1.al (compF rs).1.ns ((compF rs).2.map fun (e : Nat) => (e : Int)) :=
  ⟨comp_shapes rs hf, comp_nodes (made_comp rs) hf, comp_ends rs⟩
end Go.Proofs.Ytonkbjdeaneicaa.Pln
