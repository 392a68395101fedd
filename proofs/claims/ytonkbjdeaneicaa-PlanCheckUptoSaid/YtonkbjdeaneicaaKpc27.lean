/- The plan of rules is well formed: shapes and ends; the law. No program in sight. A well formed plan is what the rules that are read back from it compile to. No program in sight. -/
import Derived.Test.YtonkbjdeaneicaaKpc12
import Derived.Test.YtonkbjdeaneicaaKpc26
namespace Go.Proofs.Ytonkbjdeaneicaa.Pln
open Classical

theorem needs_mono {m : Nat} : ∀ (ns : List Nd) (q q' : Nat), ns.foldl (needF m) (some q) = some q' → ns.foldl (needF (m + 1)) (some q) = some q'
  | [], _, _, h => h
  | n :: r, q, q', h => by
    rw [List.foldl_cons] at h ⊢
    cases hx : needF m (some q) n with
    | none => rw [hx, needs_none] at h; cases h
    | some a =>
      rw [hx] at h
      have : needF (m + 1) (some q) n = some a := by
        unfold needF at hx ⊢
        simp only at hx ⊢
        split at hx
        · rename_i hk
          rw [if_pos hk]
          split at hx
          · rename_i hc
            rw [if_pos ⟨hc.1, hc.2.1, by omega⟩]
            exact hx
          · cases hx
        · rename_i hk
          rw [if_neg hk]
          exact hx
      rw [this]
      exact needs_mono r a q' h
/-- A pattern that has a shape. -/
def GoodP (p : Pat) : Prop := 0 ≤ p.pred ∧ p.args.length ≤ 8 ∧ ∃ w, okA p.args w
structure ShInv (st : St) : Prop where
  good : ∀ s ∈ st.al, ∃ p, GoodP p ∧ s = shapeF p
  need : needs st.al.length st.ns = some st.al.length
theorem shInv_start : ShInv ⟨[], [rootN]⟩ := ⟨by simp, rfl⟩
theorem ShInv.pat {x : Nat × St} (h : ShInv x.2) {k : Int} (hk : k = 1 ∨ k = 3) {p : Pat} (hp : GoodP p) : ShInv (patF k x p).2 := by
  obtain ⟨n, hn⟩ : ∃ n, nodeOf x.2 k x.1 p = n := ⟨_, rfl⟩
  have hkind : n.kind = 1 ∨ n.kind = 3 := by rw [← hn]; exact hk
  have halpha : n.alpha = (placeF x.2.al (shapeF p) : Int) := by rw [← hn]; rfl
  refine ⟨?_, ?_⟩
  · intro s hs
    simp only [patF] at hs
    unfold addF at hs
    split at hs
    · exact h.good s hs
    · rcases List.mem_append.1 hs with hs | hs
      · exact h.good s hs
      · exact ⟨p, hp, List.mem_singleton.1 hs⟩
  · simp only [patF]
    rw [hn]
    by_cases hm : shapeF p ∈ x.2.al
    · have e1 : addF x.2.al (shapeF p) = x.2.al := by unfold addF; rw [if_pos hm]
      rw [e1]
      by_cases hnm : n ∈ x.2.ns
      · have e2 : addF x.2.ns n = x.2.ns := by unfold addF; rw [if_pos hnm]
        rw [e2]; exact h.need
      · have e2 : addF x.2.ns n = x.2.ns ++ [n] := by unfold addF; rw [if_neg hnm]
        rw [e2]
        unfold needs
        rw [List.foldl_append]
        have := h.need
        unfold needs at this
        rw [this]
        have hlt := (placeF_lt hm).1
        simp only [List.foldl_cons, List.foldl_nil]
        unfold needF
        simp only
        rw [if_pos hkind, if_pos (by rw [halpha]; omega), if_neg (by rw [halpha]; omega)]
    · have e1 : addF x.2.al (shapeF p) = x.2.al ++ [shapeF p] := by unfold addF; rw [if_neg hm]
      have hpl := placeF_none hm
      have hnm : n ∉ x.2.ns := by
        intro hnm
        have := need_alpha x.2.ns 0 _ h.need n hnm hkind
        rw [halpha, hpl] at this
        omega
      have e2 : addF x.2.ns n = x.2.ns ++ [n] := by unfold addF; rw [if_neg hnm]
      rw [e1, e2, List.length_append]
      unfold needs
      rw [List.foldl_append]
      have := needs_mono x.2.ns 0 _ h.need
      simp only [List.length_cons, List.length_nil] at this ⊢
      rw [this]
      simp only [List.foldl_cons, List.foldl_nil]
      unfold needF
      simp only
      rw [if_pos hkind, if_pos (by rw [halpha, hpl]; omega), if_pos (by rw [halpha, hpl])]
theorem ShInv.tst {x : Nat × St} (h : ShInv x.2) (t : Tst) : ShInv (tstF x t).2 := by
  refine ⟨h.good, ?_⟩
  simp only [tstF]
  by_cases hnm : testOf x.2 x.1 t ∈ x.2.ns
  · have e2 : addF x.2.ns (testOf x.2 x.1 t) = x.2.ns := by unfold addF; rw [if_pos hnm]
    rw [e2]; exact h.need
  · have e2 : addF x.2.ns (testOf x.2 x.1 t) = x.2.ns ++ [testOf x.2 x.1 t] := by unfold addF; rw [if_neg hnm]
    rw [e2]
    unfold needs
    rw [List.foldl_append]
    have := h.need
    unfold needs at this
    rw [this]
    simp only [List.foldl_cons, List.foldl_nil]
    unfold needF
    simp only
    rw [if_neg (by show ¬ ((2 : Int) = 1 ∨ (2 : Int) = 3); decide)]
theorem ShInv.step {x : Nat × St} (h : ShInv x.2) {c : Cnd} (h3 : ok3 c) (hc : c.kind ≠ 2 → GoodP c.p) : ShInv (stepF x c).2 := by
  unfold stepF
  by_cases hk : c.kind = 2
  · rw [if_pos hk]; exact h.tst _
  · rw [if_neg hk]
    exact h.pat (by rcases h3 with h | h | h; exact .inl h; exact absurd h hk; exact .inr h) (hc hk)
theorem ShInv.fold : ∀ (cs : List Cnd) {x : Nat × St}, ShInv x.2 → (∀ c ∈ cs, ok3 c ∧ (c.kind ≠ 2 → GoodP c.p)) → ShInv (cs.foldl stepF x).2
  | [], _, h, _ => h
  | c :: r, x, h, hc => by
    rw [List.foldl_cons]
    exact ShInv.fold r (h.step (hc c (by simp)).1 (hc c (by simp)).2) (fun d hd => hc d (by simp [hd]))
theorem conds_good {r : Rl} (h : mayP r) : ∀ c ∈ conds r, ok3 c ∧ (c.kind ≠ 2 → GoodP c.p) := by
  obtain ⟨w, hf⟩ := h
  intro c hc
  refine ⟨conds_ok3 r c hc, fun hk => ?_⟩
  obtain ⟨w', hw'⟩ := okCs_at (conds r) 0 hf.okCs c hc
  have hokA := hw'.okA hk
  obtain ⟨j, hj, hjc⟩ := List.getElem_of_mem hc
  rcases cond_at (show (conds r)[j]? = some c by rw [List.getElem?_eq_getElem hj, hjc]) with ⟨p, g1, g2, rfl⟩ | ⟨t, k, g1, g2, rfl⟩ | ⟨p, k, g1, g2, rfl⟩
  · have := hf.pats p (List.mem_of_getElem? g2)
    exact ⟨this.1, this.2, w', hokA⟩
  · exact absurd rfl hk
  · have := hf.ngs p (List.mem_of_getElem? g2)
    exact ⟨this.1, this.2.1, w', hokA⟩
theorem comp_inv (rs : List Rl) (hf : ∀ r ∈ rs, mayP r) : ∀ k, k ≤ rs.length → ShInv (compF (rs.take k)).1
  | 0, _ => shInv_start
  | k + 1, hk => by
    have hr : rs[k]? = some rs[k] := List.getElem?_eq_getElem (by omega)
    rw [comp_take_succ hr]
    unfold endF
    rw [ruleF_conds]
    exact ShInv.fold _ (x := (0, (compF (rs.take k)).1)) (comp_inv rs hf k (by omega)) (conds_good (hf _ (List.mem_of_getElem? hr)))
theorem comp_shapes (rs : List Rl) (hf : ∀ r ∈ rs, mayP r) : shapesP (compF rs).1.al (compF rs).1.ns := by
  have hI := comp_inv rs hf rs.length (Nat.le_refl _)
  rw [List.take_length] at hI
  have hM := made_comp rs
  refine ⟨fun i hi s hs => ?_, hI.need⟩
  obtain ⟨p, ⟨hp1, hp2, w, hp3⟩, rfl⟩ := hI.good s (List.mem_of_getElem? hs)
  refine ⟨shape_valid hp3 hp1, by simpa [shapeF] using hp2, fun k hk he => ?_⟩
  obtain ⟨a1, a2⟩ := List.getElem?_eq_some_iff.1 he
  obtain ⟨b1, b2⟩ := List.getElem?_eq_some_iff.1 hs
  have := (List.getElem_inj hM.wf.adup).1 (a2.trans b2.symm)
  omega

/-- The way of a node is the one chain of parents. -/
theorem wayG_eq {ns : List Nd} {al : List Shp} : ∀ (f : Nat) (l : List Nat) (e : Nat), Up ⟨al, ns⟩ l → (0 :: l).getD l.length 0 = e → e ≤ f → wayG ns f e = l
  | 0, l, e, hl, he, hf => by
    obtain rfl : e = 0 := by omega
    rcases List.eq_nil_or_concat l with rfl | ⟨m, x, rfl⟩
    · rfl
    · have := (hl m.length x (by simp)).1
      simp [List.getD] at he
      omega
  | f + 1, l, e, hl, he, hf => by
    rcases List.eq_nil_or_concat l with rfl | ⟨m, x, rfl⟩
    · have : e = 0 := by simpa using he.symm
      subst this
      simp [wayG]
    · have hx : e = x := by simp [List.getD] at he; exact he.symm
      subst hx
      obtain ⟨h1, h2, n, h3, h4⟩ := hl m.length e (by simp)
      have e1 : (0 :: m.concat e).getD m.length 0 = (0 :: m).getD m.length 0 := by
        rw [List.concat_eq_append, List.getD_eq_getElem?_getD, List.getD_eq_getElem?_getD, ← List.cons_append, List.getElem?_append_left (by simp)]
      rw [e1] at h2 h4
      have hpo : parentOf ns e = (0 :: m).getD m.length 0 := by
        have h3' : ns[e]? = some n := h3
        unfold parentOf
        rw [h3']
        simp only
        omega
      have hm : Up ⟨al, ns⟩ m := by
        intro i u hu
        have hi := (List.getElem?_eq_some_iff.1 hu).1
        obtain ⟨g1, g2, n', g3, g4⟩ := hl i u (by rw [List.concat_eq_append, List.getElem?_append_left hi]; exact hu)
        have e2 : (0 :: m.concat e).getD i 0 = (0 :: m).getD i 0 := by
          rw [List.concat_eq_append, List.getD_eq_getElem?_getD, List.getD_eq_getElem?_getD, ← List.cons_append, List.getElem?_append_left (by simp; omega)]
        rw [e2] at g2 g4
        exact ⟨g1, g2, n', g3, g4⟩
      simp only [wayG]
      rw [if_neg (by omega), hpo, wayG_eq f m _ hm rfl (by omega), List.concat_eq_append]
theorem made_way {rs : List Rl} {st : St} {es : List Nat} (h : Made rs st es) {i : Nat} {r : Rl} {e : Nat} (hr : rs[i]? = some r) (he : es[i]? = some e) : wayN st.ns e = wayF st 0 (conds r) ∧ e < st.ns.length := by
  obtain ⟨h1, e', h2, h3, h4⟩ := h.ways i r hr
  rw [he] at h2
  injection h2 with h2
  subst h2
  exact ⟨wayG_eq (al := st.al) e _ e (up_way' h.wf h1 (conds_ok3 r)) (by rw [way_last', h3]) (Nat.le_refl _), h4⟩
where
  up_way' {st : St} (hwf : Wf st) {cs : List Cnd} (h : Stands st 0 cs) (hc : ∀ c ∈ cs, ok3 c) : Up st (wayF st 0 cs) := by
    intro i u hu
    obtain ⟨c, h1, h2, h3, h4⟩ := way_at hwf cs 0 h hc i u hu
    exact ⟨by omega, h4, _, h3, by unfold nodeC; split <;> rfl⟩
  way_last' {st : St} {cs : List Cnd} : (0 :: wayF st 0 cs).getD (wayF st 0 cs).length 0 = (wayF st 0 cs).getLast?.getD 0 := by
    generalize wayF st 0 cs = l
    rcases List.eq_nil_or_concat l with rfl | ⟨m, x, rfl⟩
    · rfl
    · simp [List.getD]
/-- The nodes that a rule's way adds are the next ones. -/
theorem on_fold : ∀ (cs : List Cnd) (x : Nat × St), x.1 < x.2.ns.length → (wayF (cs.foldl stepF x).2 x.1 cs).foldl onF (some x.2.ns.length) = some (cs.foldl stepF x).2.ns.length
  | [], x, _ => rfl
  | c :: r, x, hx => by
    obtain ⟨s1, s2, s3, s4⟩ := stepF_facts x c hx
    have hE := ext_fold r (stepF x c)
    rw [List.foldl_cons]
    have hx' : x.1 < (stepF x c).2.ns.length := Nat.lt_of_lt_of_le hx (ext_stepF x c).len
    have e := nodeC_ext hE hx' s1
    have e2 : placeF (r.foldl stepF (stepF x c)).2.ns (nodeC (stepF x c).2 x.1 c) = (stepF x c).1 := by
      rw [s3]
      obtain ⟨_, ⟨q, h⟩⟩ := hE
      rw [h, placeF_app s2]
    simp only [wayF]
    rw [e, e2, List.foldl_cons]
    have hon : onF (some x.2.ns.length) (stepF x c).1 = some (stepF x c).2.ns.length := by
      have key : ∀ n : Nd, (stepF x c).1 = placeF x.2.ns n → (stepF x c).2.ns = addF x.2.ns n → onF (some x.2.ns.length) (stepF x c).1 = some (stepF x c).2.ns.length := by
        intro n h1 h2
        rw [h1, h2]
        unfold onF addF
        by_cases hm : n ∈ x.2.ns
        · have := (placeF_lt hm).1
          simp only
          rw [if_pos (by omega), if_neg (by omega), if_pos hm]
        · rw [placeF_none hm]
          simp [hm]
      unfold stepF at key ⊢
      by_cases hk : c.kind = 2
      · rw [if_pos hk] at key ⊢
        exact key (testOf x.2 x.1 c.t) rfl rfl
      · rw [if_neg hk] at key ⊢
        exact key (nodeOf x.2 c.kind x.1 c.p) rfl rfl
    rw [hon]
    exact on_fold r (stepF x c) s4
theorem ends_take (rs : List Rl) {k : Nat} (hk : k ≤ rs.length) : (compF (rs.take k)).2 = (compF rs).2.take k := by
  have hlen : ∀ j, j ≤ rs.length → (compF (rs.take j)).2.length = j := fun j hj => by rw [(made_comp (rs.take j)).len, List.length_take]; omega
  have hpre : ∀ d, k + d ≤ rs.length → (compF (rs.take (k + d))).2.take k = (compF (rs.take k)).2 := by
    intro d
    induction d with
    | zero => intro _; rw [Nat.add_zero, List.take_of_length_le (by rw [hlen k hk]; exact Nat.le_refl _)]
    | succ d ih =>
      intro hd
      have hr : rs[k + d]? = some rs[k + d] := List.getElem?_eq_getElem (by omega)
      rw [← Nat.add_assoc, comp_take_succ hr]
      unfold endF
      simp only
      rw [List.take_append_of_le_length (by rw [hlen (k + d) (by omega)]; omega)]
      exact ih (by omega)
  have := hpre (rs.length - k) (by omega)
  rw [show k + (rs.length - k) = rs.length by omega, List.take_length] at this
  exact this.symm
theorem comp_ends (rs : List Rl) : endsP (compF rs).1.ns ((compF rs).2.map fun (e : Nat) => (e : Int)) := by
  have hM := made_comp rs
  suffices h : ∀ k, k ≤ rs.length → (((compF rs).2.map fun (e : Nat) => (e : Int)).take k).foldl (endE (compF rs).1.ns) (some 1) = some (compF (rs.take k)).1.ns.length by
    have := h rs.length (Nat.le_refl _)
    rw [List.take_length, List.take_of_length_le (by rw [List.length_map, hM.len]; exact Nat.le_refl _)] at this
    exact this
  intro k
  induction k with
  | zero => intro _; rfl
  | succ k ih =>
    intro hk
    have hr : rs[k]? = some rs[k] := List.getElem?_eq_getElem (by omega)
    obtain ⟨e, he⟩ : ∃ e, (compF rs).2[k]? = some e := ⟨_, List.getElem?_eq_getElem (by rw [hM.len]; omega)⟩
    obtain ⟨h1, h2⟩ := made_way hM hr he
    rw [fold_next (endE (compF rs).1.ns) (some 1) (k := k) (x := (e : Int)) (by rw [List.getElem?_map, he]; rfl), ih (by omega)]
    unfold endE
    simp only
    rw [if_pos ⟨by omega, by omega⟩, Int.toNat_natCast, h1]
    have hst := (made_comp (rs.take k))
    have hof := on_fold (conds rs[k]) (0, (compF (rs.take k)).1) hst.wf.len
    have hext : Ext ((conds rs[k]).foldl stepF (0, (compF (rs.take k)).1)).2 (compF rs).1 := by
      have e1 : ((conds rs[k]).foldl stepF (0, (compF (rs.take k)).1)).2 = (compF (rs.take (k + 1))).1 := by rw [comp_take_succ hr]; unfold endF; rw [ruleF_conds]
      rw [e1]
      have := ext_comp (rs.drop (k + 1)) (compF (rs.take (k + 1)))
      have e2 : (rs.drop (k + 1)).foldl endF (compF (rs.take (k + 1))) = compF rs := by
        unfold compF
        rw [← List.foldl_append, List.take_append_drop]
      rw [e2] at this
      exact this
    have hsd := (stands_fold (conds rs[k]) (0, (compF (rs.take k)).1) hst.wf.len).1
    rw [(stands_ext hext (conds rs[k]) 0 hsd).2]
    rw [hof, comp_take_succ hr]
    unfold endF
    rw [ruleF_conds]
/-- A compiled plan is well formed. -/
theorem comp_check (rs : List Rl) (hf : ∀ r ∈ rs, mayP r) : checkP (compF rs).1.al (compF rs).1.ns ((compF rs).2.map fun (e : Nat) => (e : Int)) :=
  ⟨comp_shapes rs hf, comp_nodes (made_comp rs) hf, comp_ends rs⟩
end Go.Proofs.Ytonkbjdeaneicaa.Pln

namespace Go.Proofs.Ytonkbjdeaneicaa.Pln
open Classical

/-- The pattern of a node, read back. -/
noncomputable def backP (al : List Shp) (n : Nd) (w : Int) : Option Pat :=
  if 0 ≤ n.alpha ∧ n.alpha < (al.length : Int) then match al[n.alpha.toNat]? with
    | some s => (backK s.cells n.links n.new w s.cells.length).map (fun a => ⟨s.pred, a⟩)
    | none => none
  else none
/-- A rule that is being read back. -/
structure RB where
  w : Int
  pos : List Pat
  tests : List Tst
  neg : List Pat
noncomputable def rbS (al : List Shp) (ns : List Nd) (x : Option RB) (v : Nat) : Option RB := match x, ns[v]? with
  | some b, some n => if n.kind = 2 then some ⟨b.w, b.pos, b.tests ++ [n.test], b.neg⟩ else match backP al n b.w with
    | some p => if n.kind = 1 then some ⟨b.w + (n.new.length : Int), b.pos ++ [p], b.tests, b.neg⟩ else some ⟨b.w, b.pos, b.tests, b.neg ++ [p]⟩
    | none => none
  | _, _ => none
def rb0 : RB := ⟨0, [], [], []⟩
/-- The way to any number, if the parents lead there. -/
def wayO (ns : List Nd) : Nat → Int → Option (List Nat)
  | f, e => if e = 0 then some [] else match f with
    | 0 => none
    | f + 1 => if e < 0 then none else match ns[e.toNat]? with
      | none => none
      | some n => if e ≤ n.parent then none else (wayO ns f n.parent).map (· ++ [e.toNat])
def wayR (ns : List Nd) (e : Int) : Option (List Nat) := wayO ns e.toNat e
def rlOf (b : RB) : Rl := ⟨noPat, b.pos, b.tests, b.neg, [], 0⟩
noncomputable def ruleB (al : List Shp) (ns : List Nd) (e : Int) : Option Rl := match wayR ns e with
  | none => none
  | some l => (l.foldl (rbS al ns) (some rb0)).map rlOf
noncomputable def rulesS (al : List Shp) (ns : List Nd) (x : Option (List Rl)) (e : Int) : Option (List Rl) := match x, ruleB al ns e with
  | some l, some r => some (l ++ [r])
  | _, _ => none
noncomputable def rulesB (al : List Shp) (ns : List Nd) (es : List Int) : Option (List Rl) := es.foldl (rulesS al ns) (some [])
/-- The plan is what the rules read back compile to. -/
def refP (al : List Shp) (ns : List Nd) (es : List Int) : Prop := ns ≠ [] ∧ ∃ rs, rulesB al ns es = some rs ∧ (∀ r ∈ rs, mayP r) ∧ (compF rs).1 = ⟨al, ns⟩ ∧ ((compF rs).2.map fun (e : Nat) => (e : Int)) = es

theorem wayO_eq {ns : List Nd} (h : Par ns) : ∀ (f e : Nat), e ≤ f → e < ns.length → wayO ns f (e : Int) = some (wayG ns f e)
  | 0, e, he, _ => by
    obtain rfl : e = 0 := by omega
    simp [wayO, wayG]
  | f + 1, e, he, hn => by
    unfold wayO wayG
    by_cases h0 : e = 0
    · rw [if_pos (by omega), if_pos h0]
    · rw [if_neg (by omega), if_neg h0]
      obtain ⟨n, hne⟩ : ∃ n, ns[e]? = some n := ⟨_, List.getElem?_eq_getElem hn⟩
      obtain ⟨u, hu, hp⟩ := h e n hne (by omega)
      have hpo : parentOf ns e = u := by unfold parentOf; rw [hne]; simp only; omega
      simp only
      rw [if_neg (by omega), Int.toNat_natCast, hne]
      simp only
      rw [if_neg (by omega), hp, wayO_eq h f u (by omega) (by omega), hpo]
      rfl
theorem wayR_eq {ns : List Nd} (h : Par ns) {e : Int} (h0 : 0 ≤ e) (h1 : e < (ns.length : Int)) : wayR ns e = some (wayN ns e.toNat) := by
  obtain ⟨k, rfl⟩ := Int.eq_ofNat_of_zero_le h0
  unfold wayR wayN
  rw [Int.toNat_natCast]
  exact wayO_eq h k k (Nat.le_refl _) (by omega)

/-- Each is the parent of the next. -/
def Lnk (ns : List Nd) : Nat → List Nat → Prop
  | _, [] => True
  | u, v :: r => u < v ∧ (∃ n, ns[v]? = some n ∧ n.parent = u) ∧ Lnk ns v r
theorem lnk_of {al : List Shp} {ns : List Nd} : ∀ (l : List Nat) (u : Nat), (∀ (i v : Nat), l[i]? = some v → (u :: l).getD i 0 < v ∧ ∃ m, ns[v]? = some m ∧ m.parent = ((u :: l).getD i 0 : Nat)) → Lnk ns u l
  | [], _, _ => trivial
  | v :: r, u, h => by
    obtain ⟨h1, m, h2, h3⟩ := h 0 v rfl
    refine ⟨h1, ⟨m, h2, h3⟩, lnk_of (al := al) r v (fun i x hx => ?_)⟩
    have := h (i + 1) x (by simpa using hx)
    simpa using this

theorem take_seen {α : Type} {l : List α} {v m : Nat} {x : α} (hx : l[v]? = some x) (hf : ∀ j, j < v → l[j]? ≠ some x) (hm : v < m) : placeF (l.take m) x = v ∧ addF (l.take m) x = l.take m := by
  have h1 : (l.take m)[v]? = some x := by rw [List.getElem?_take_of_lt hm]; exact hx
  refine ⟨placeF_at h1 (fun j hj => by rw [List.getElem?_take_of_lt (by omega)]; exact hf j hj), ?_⟩
  unfold addF
  rw [if_pos (List.mem_of_getElem? h1)]
theorem take_new {α : Type} {l : List α} {m : Nat} {x : α} (hx : l[m]? = some x) (hf : ∀ j, j < m → l[j]? ≠ some x) : placeF (l.take m) x = m ∧ addF (l.take m) x = l.take (m + 1) := by
  have hl := (List.getElem?_eq_some_iff.1 hx).1
  have hn : x ∉ l.take m := fun h => by
    obtain ⟨j, hj⟩ := List.getElem?_of_mem h
    have h2 := (List.getElem?_eq_some_iff.1 hj).1
    rw [List.length_take] at h2
    rw [List.getElem?_take_of_lt (by omega)] at hj
    exact hf j (by omega) hj
  refine ⟨by rw [placeF_none hn, List.length_take]; omega, ?_⟩
  unfold addF
  rw [if_neg hn, List.take_add_one, hx]
  rfl
theorem need_up {m : Nat} : ∀ (ns : List Nd) (q q' : Nat), ns.foldl (needF m) (some q) = some q' → q ≤ q'
  | [], q, q', h => by simp only [List.foldl_nil, Option.some.injEq] at h; omega
  | a :: r, q, q', h => by
    rw [List.foldl_cons] at h
    cases hx : needF m (some q) a with
    | none => rw [hx, needs_none] at h; cases h
    | some b =>
      rw [hx] at h
      have h1 := need_up r b q' h
      have h2 : q ≤ b := by
        unfold needF at hx
        simp only at hx
        split at hx
        · split at hx
          · split at hx
            · injection hx with hx; omega
            · injection hx with hx; omega
          · cases hx
        · injection hx with hx; omega
      omega
theorem need_lt {m : Nat} : ∀ (ns : List Nd) (q q' : Nat), ns.foldl (needF m) (some q) = some q' → ∀ n ∈ ns, n.kind = 1 ∨ n.kind = 3 → n.alpha < (q' : Int)
  | [], _, _, _, n, hn, _ => by cases hn
  | a :: r, q, q', h, n, hn, hk => by
    rw [List.foldl_cons] at h
    cases hx : needF m (some q) a with
    | none => rw [hx, needs_none] at h; cases h
    | some b =>
      rw [hx] at h
      rcases List.mem_cons.1 hn with rfl | hn
      · have h1 := need_up r b q' h
        unfold needF at hx
        simp only at hx
        rw [if_pos hk] at hx
        split at hx
        · split at hx
          · injection hx with hx; omega
          · injection hx with hx; omega
        · cases hx
      · exact need_lt r b q' h n hn hk

/-- What a well formed node says. -/
structure Cnode (al : List Shp) (n : Nd) (u w : Nat) (c : Cnd) : Prop where
  kind : c.kind = n.kind
  atom : n.kind ≠ 2 → backP al n w = some c.p ∧ c.t = noTst ∧ 0 ≤ c.p.pred ∧ c.p.args.length ≤ 8 ∧ ∃ ai : Nat, n.alpha = ai ∧ al[ai]? = some (shapeF c.p)
  pos : n.kind = 1 → okA c.p.args w ∧ n.width = (scanD c.p.args w : Int) ∧ n.width = (w : Int) + (n.new.length : Int) ∧ n.width ≤ 16
  neg : n.kind = 3 → (∀ s ∈ c.p.args, belowP w s) ∧ n.width = (w : Int)
  test : n.kind = 2 → c.p = noPat ∧ c.t = n.test ∧ 1 ≤ c.t.op ∧ c.t.op ≤ 6 ∧ belowP w c.t.l ∧ belowP w c.t.r ∧ n.width = (w : Int)
  node : ∀ st : St, widthAt st u = (w : Int) → (n.kind ≠ 2 → (placeF st.al (shapeF c.p) : Int) = n.alpha) → nodeC st u c = n
theorem cnode_of {al : List Shp} {n up : Nd} {u w : Nat} (hn : nodeP al n up) (hp : n.parent = u) (hw : up.width = (w : Int)) (hv : ∀ ai s, n.kind ≠ 2 → n.alpha = (ai : Nat) → al[ai]? = some s → validS s ∧ s.cells.length ≤ 8) : ∃ c, Cnode al n u w c := by
  have atom : n.kind = 1 ∨ (n.kind = 3 ∧ n.new = []) → placesN al n up.width → ∃ c, Cnode al n u w c := by
    rintro hk ⟨ai, s, h1, h2, ⟨h3, h4, h5⟩, h6, h7, h8⟩
    have hk2 : n.kind ≠ 2 := by omega
    obtain ⟨v1, v2⟩ := hv ai s hk2 h1 h2
    rw [hw] at h6
    have P : PlOk s.cells n.links n.new w := ⟨h6, h7, h8, fun i c hc h0 => v1.2 i (List.getElem?_eq_some_iff.1 hc).1 c hc h0⟩
    obtain ⟨b1, b2, b3, b4, b5, b6⟩ := P.all
    have hsh : shapeF ⟨s.pred, argsB s.cells n.links n.new w⟩ = s := by
      unfold shapeF
      simp only
      rw [b4]
    have hl := (List.getElem?_eq_some_iff.1 h2).1
    refine ⟨⟨n.kind, ⟨s.pred, argsB s.cells n.links n.new w⟩, noTst⟩, rfl, fun _ => ⟨?_, rfl, v1.1, by simp only; omega, ai, h1, by rw [hsh]; exact h2⟩, ?_, ?_, fun h => absurd h hk2, ?_⟩
    · unfold backP
      rw [if_pos ⟨by omega, by omega⟩, h1, Int.toNat_natCast, h2]
      simp only
      rw [b1]
      rfl
    · intro _
      refine ⟨b3, ?_, by rw [← hw]; exact h4, h5⟩
      simp only
      have := new_count b3 (argsB s.cells n.links n.new w).length (Nat.le_refl _)
      rw [List.take_length, b6] at this
      omega
    · intro h
      have hnew : n.new = [] := by
        rcases hk with hk | hk
        · omega
        · exact hk.2
      refine ⟨?_, by rw [h4, hnew, hw]; simp⟩
      simp only
      have P' := P
      rw [hnew] at P' ⊢
      exact P'.below
    · intro st hst hpl
      have hpl := hpl hk2
      unfold nodeC
      simp only
      rw [if_neg hk2]
      unfold nodeOf
      simp only at hpl ⊢
      rw [hpl, hst, b5, b6, ← hw, ← h4, ← hp, ← h3]
  rcases hn with ⟨h1, _, h3⟩ | ⟨h1, h2, h3⟩ | ⟨h1, h2⟩
  · exact atom (.inl h1) h3
  · exact atom (.inr ⟨h1, h2⟩) h3
  · obtain ⟨t1, t2, t3, t4, t5, t6, t7, t8, t9⟩ := h2
    rw [hw] at t8 t9 t5
    refine ⟨⟨2, noPat, n.test⟩, h1.symm, fun h => absurd h1 h, fun h => by omega, fun h => by omega, fun _ => ⟨rfl, rfl, t6, t7, t8, t9, t5⟩, ?_⟩
    intro st hst _
    unfold nodeC
    rw [if_pos rfl]
    unfold testOf
    simp only
    rw [hst, ← t5, ← hp, ← t2, ← h1]
    obtain ⟨_, _, _, l, m, _, _⟩ := n
    simp only at t3 t4
    subst t3; subst t4
    rfl

section
variable {al : List Shp} {ns : List Nd} {es : List Int}
theorem valid_at (h : shapesP al ns) {ai : Nat} {s : Shp} (hs : al[ai]? = some s) : validS s ∧ s.cells.length ≤ 8 ∧ ∀ k, k < ai → al[k]? ≠ some s := h.1 ai (List.getElem?_eq_some_iff.1 hs).1 s hs
theorem node_first (h : nodesP al ns) {v : Nat} {n : Nd} (hv : 1 ≤ v) (hn : ns[v]? = some n) : ∀ j, j < v → ns[j]? ≠ some n := by
  intro j hj
  obtain ⟨u, up, _, _, _, _, h1, h2⟩ := h.2 v hv (List.getElem?_eq_some_iff.1 hn).1 n hn
  rcases Nat.eq_zero_or_pos j with h0 | h0
  · subst h0
    rw [h.1]
    intro e
    have e := congrArg Nd.kind (Option.some.inj e)
    rcases h1 with ⟨h1, _⟩ | ⟨h1, _⟩ | ⟨h1, _⟩ <;> (rw [h1] at e; simp [rootN] at e)
  · exact h2 j h0 hj
/-- One node of a way. -/
theorem step_at (hs : shapesP al ns) (h : nodesP al ns) {u v w m q : Nat} {n : Nd} {c : Cnd} (hv : 1 ≤ v) (hn : ns[v]? = some n) (C : Cnode al n u w c) (hw : widthAt ⟨al, ns⟩ u = (w : Int)) (hu : u < v) (hvm : v ≤ m) (hq : needs al.length (ns.take m) = some q) :
    ∃ m' q', onF (some m) v = some m' ∧ stepF (u, ⟨al.take q, ns.take m⟩) c = (v, ⟨al.take q', ns.take m'⟩) ∧ needs al.length (ns.take m') = some q' ∧ v < m' ∧ m ≤ m' := by
  have hl := (List.getElem?_eq_some_iff.1 hn).1
  have hws : widthAt ⟨al.take q, ns.take m⟩ u = (w : Int) := by
    rw [← hw]
    unfold widthAt
    simp only
    rw [List.getElem?_take_of_lt (by omega)]
  have hnf := node_first h hv hn
  have stp : ∀ x : Nat × St, stepF x c = (placeF x.2.ns (nodeC x.2 x.1 c), ⟨if c.kind = 2 then x.2.al else addF x.2.al (shapeF c.p), addF x.2.ns (nodeC x.2 x.1 c)⟩) := by
    intro x
    unfold stepF nodeC
    by_cases h2 : c.kind = 2
    · simp only [if_pos h2]; rfl
    · simp only [if_neg h2]; rfl
  rcases Nat.lt_or_ge v m with hlt | hge
  · -- the node is there
    have hmem : n ∈ ns.take m := List.mem_of_getElem? (i := v) (by rw [List.getElem?_take_of_lt hlt]; exact hn)
    have hal : n.kind ≠ 2 → placeF (al.take q) (shapeF c.p) = n.alpha.toNat ∧ addF (al.take q) (shapeF c.p) = al.take q ∧ 0 ≤ n.alpha := fun hk => by
      obtain ⟨_, _, _, _, ai, a1, a2⟩ := C.atom hk
      have hk13 : n.kind = 1 ∨ n.kind = 3 := by
        obtain ⟨_, _, _, _, _, _, h1, _⟩ := h.2 v hv hl n hn
        rcases h1 with ⟨h1, _⟩ | ⟨h1, _⟩ | ⟨h1, _⟩
        · exact .inl h1
        · exact .inr h1
        · exact absurd h1 hk
      have := need_lt _ _ _ hq n hmem hk13
      obtain ⟨p1, p2⟩ := take_seen a2 (valid_at hs a2).2.2 (m := q) (by omega)
      exact ⟨by rw [p1]; omega, p2, by omega⟩
    have e := C.node ⟨al.take q, ns.take m⟩ hws (fun hk => by
      obtain ⟨p1, p2, p3⟩ := hal hk
      simp only
      omega)
    obtain ⟨p1, p2⟩ := take_seen hn hnf hlt
    refine ⟨m, q, by unfold onF; simp only; rw [if_pos hvm, if_neg (by omega)], ?_, hq, hlt, Nat.le_refl _⟩
    rw [stp]
    simp only
    rw [e, p1, p2]
    by_cases h2 : c.kind = 2
    · rw [if_pos h2]
    · rw [if_neg h2, (hal (by rw [← C.kind]; exact h2)).2.1]
  · obtain rfl : v = m := by omega
    obtain ⟨q', hq'⟩ : ∃ q', needs al.length (ns.take (v + 1)) = some q' := by
      cases hx : needs al.length (ns.take (v + 1)) with
      | none => have := needs_stop hx; rw [hs.2] at this; cases this
      | some q' => exact ⟨q', rfl⟩
    have hnx := hq'
    rw [needs_take hn, hq] at hnx
    have hal : n.kind ≠ 2 → placeF (al.take q) (shapeF c.p) = n.alpha.toNat ∧ addF (al.take q) (shapeF c.p) = al.take q' ∧ 0 ≤ n.alpha := fun hk => by
      obtain ⟨_, _, _, _, ai, a1, a2⟩ := C.atom hk
      have hk13 : n.kind = 1 ∨ n.kind = 3 := by
        obtain ⟨_, _, _, _, _, _, h1, _⟩ := h.2 v hv hl n hn
        rcases h1 with ⟨h1, _⟩ | ⟨h1, _⟩ | ⟨h1, _⟩
        · exact .inl h1
        · exact .inr h1
        · exact absurd h1 hk
      unfold needF at hnx
      simp only at hnx
      rw [if_pos hk13] at hnx
      split at hnx
      · rename_i hc
        split at hnx
        · rename_i hqe
          injection hnx with hnx
          obtain rfl : ai = q := by omega
          obtain ⟨p1, p2⟩ := take_new a2 (valid_at hs a2).2.2
          exact ⟨by rw [p1]; omega, by rw [p2, hnx], by omega⟩
        · injection hnx with hnx
          obtain ⟨p1, p2⟩ := take_seen a2 (valid_at hs a2).2.2 (m := q) (by omega)
          exact ⟨by rw [p1]; omega, by rw [p2, hnx], by omega⟩
      · cases hnx
    have hal2 : n.kind = 2 → q' = q := fun hk => by
      unfold needF at hnx
      simp only at hnx
      rw [if_neg (by omega)] at hnx
      injection hnx with hnx
      exact hnx.symm
    have e := C.node ⟨al.take q, ns.take v⟩ hws (fun hk => by
      obtain ⟨p1, p2, p3⟩ := hal hk
      simp only
      omega)
    obtain ⟨p1, p2⟩ := take_new hn hnf
    refine ⟨v + 1, q', by unfold onF; simp, ?_, hq', by omega, by omega⟩
    rw [stp]
    simp only
    rw [e, p1, p2]
    by_cases h2 : c.kind = 2
    · rw [if_pos h2, hal2 (by rw [← C.kind]; exact h2)]
    · rw [if_neg h2, (hal (by rw [← C.kind]; exact h2)).2.1]

/-- The conditions that a way says: fit, read back, compiled. -/
theorem way_back (hs : shapesP al ns) (h : nodesP al ns) : ∀ (l : List Nat) (u w : Nat) (up : Nd) (b : RB) (m q m' : Nat), ns[u]? = some up → up.width = (w : Int) → w ≤ 16 → b.w = (w : Int) → Lnk ns u l → u < m → needs al.length (ns.take m) = some q → l.foldl onF (some m) = some m' →
    ∃ (pos : List Pat) (tests : List Tst) (neg : List Pat) (wp : Nat) (b' : RB), (up.kind = 2 → pos = []) ∧ (up.kind = 3 → pos = [] ∧ tests = []) ∧ pos.length + tests.length + neg.length = l.length ∧
      l.foldl (rbS al ns) (some b) = some b' ∧ b'.pos = b.pos ++ pos ∧ b'.tests = b.tests ++ tests ∧ b'.neg = b.neg ++ neg ∧
      (okA (pos.flatMap Pat.args) w ∧ scanD (pos.flatMap Pat.args) w = wp ∧ wp ≤ 16 ∧ (∀ p ∈ pos, 0 ≤ p.pred ∧ p.args.length ≤ 8) ∧ (∀ t ∈ tests, 1 ≤ t.op ∧ t.op ≤ 6 ∧ belowP wp t.l ∧ belowP wp t.r) ∧ ∀ p ∈ neg, 0 ≤ p.pred ∧ p.args.length ≤ 8 ∧ ∀ s ∈ p.args, belowP wp s) ∧
      ∃ q', needs al.length (ns.take m') = some q' ∧ m ≤ m' ∧ (pos.map (fun p => (⟨1, p, noTst⟩ : Cnd)) ++ tests.map (fun t => (⟨2, noPat, t⟩ : Cnd)) ++ neg.map (fun p => (⟨3, p, noTst⟩ : Cnd))).foldl stepF (u, ⟨al.take q, ns.take m⟩) = ((u :: l).getLast?.getD 0, ⟨al.take q', ns.take m'⟩)
  | [], u, w, up, b, m, q, m', hup, hw, h16, hb, _, hum, hq, hon => by
    simp only [List.foldl_nil, Option.some.injEq] at hon
    subst hon
    exact ⟨[], [], [], w, b, fun _ => rfl, fun _ => ⟨rfl, rfl⟩, rfl, rfl, by simp, by simp, by simp, ⟨trivial, rfl, h16, by simp, by simp, by simp⟩, q, hq, Nat.le_refl _, rfl⟩
  | v :: r, u, w, up, b, m, q, m', hup, hw, h16, hb, ⟨huv, ⟨n, hn, hpar⟩, hL⟩, hum, hq, hon => by
    have hl := (List.getElem?_eq_some_iff.1 hn).1
    obtain ⟨u', up', hu1, hu2, hu3, _, hnp, _⟩ := h.2 v (by omega) hl n hn
    obtain rfl : u' = u := by omega
    rw [hup] at hu3
    obtain rfl := Option.some.inj hu3
    obtain ⟨c, C⟩ := cnode_of hnp hpar hw (fun ai s hk ha hs' => ⟨(valid_at hs hs').1, (valid_at hs hs').2.1⟩)
    have hwu : widthAt ⟨al, ns⟩ u' = (w : Int) := by unfold widthAt; simp only; rw [hup]; exact hw
    have hvm : v ≤ m := by
      rw [List.foldl_cons] at hon
      by_cases hle : v ≤ m
      · exact hle
      · exfalso
        have : onF (some m) v = none := by unfold onF; simp only; rw [if_neg hle]
        rw [this, onF_none] at hon
        cases hon
    obtain ⟨m1, q1, s1, s2, s3, s4, s5⟩ := step_at hs h (by omega) hn C hwu huv hvm hq
    rw [List.foldl_cons, s1] at hon
    have hlast : ((u' :: v :: r).getLast?.getD 0) = ((v :: r).getLast?.getD 0) := by rw [List.getLast?_cons_cons]
    have hrb : (v :: r).foldl (rbS al ns) (some b) = r.foldl (rbS al ns) (rbS al ns (some b) v) := rfl
    rcases hnp with ⟨k1, ku, _⟩ | ⟨k1, k2, _⟩ | ⟨k1, k2⟩
    · obtain ⟨a1, a2, a3, a4, _⟩ := C.atom (by omega)
      obtain ⟨c1, c2, c3, c4⟩ := C.pos k1
      have hc : c = ⟨1, c.p, noTst⟩ := by obtain ⟨ck, cp, ct⟩ := c; have := C.kind; simp only at this a2; rw [this, k1, a2]
      have e1 : rbS al ns (some b) v = some ⟨b.w + (n.new.length : Int), b.pos ++ [c.p], b.tests, b.neg⟩ := by
        unfold rbS
        rw [hn]
        simp only
        rw [if_neg (by omega), hb, a1]
        simp only
        rw [if_pos k1]
      obtain ⟨pos, tests, neg, wp, b', f1, f2, f3, f4, f5, f6, f7, ⟨g1, g2, g3, g4, g5, g6⟩, q', g7, g8, g9⟩ := way_back hs h r v (scanD c.p.args w) n ⟨b.w + (n.new.length : Int), b.pos ++ [c.p], b.tests, b.neg⟩ m1 q1 m' hn c2 (by omega) (by simp only; omega) hL s4 s3 hon
      refine ⟨c.p :: pos, tests, neg, wp, b', fun hh => by omega, fun hh => by omega, by simp only [List.length_cons]; omega, by rw [hrb, e1]; exact f4, by rw [f5]; simp, f6, f7, ⟨?_, ?_, g3, ?_, g5, g6⟩, q', g7, by omega, ?_⟩
      · rw [List.flatMap_cons, okA_app]
        exact ⟨c1, g1⟩
      · rw [List.flatMap_cons, scanD_app]
        exact g2
      · intro p hp
        rcases List.mem_cons.1 hp with rfl | hp
        · exact ⟨a3, a4⟩
        · exact g4 p hp
      · rw [hlast, ← g9, List.map_cons, List.cons_append, List.cons_append, List.foldl_cons, ← hc, s2]
    · obtain ⟨a1, a2, a3, a4, _⟩ := C.atom (by omega)
      obtain ⟨c1, c2⟩ := C.neg k1
      have hc : c = ⟨3, c.p, noTst⟩ := by obtain ⟨ck, cp, ct⟩ := c; have := C.kind; simp only at this a2; rw [this, k1, a2]
      have e1 : rbS al ns (some b) v = some ⟨b.w, b.pos, b.tests, b.neg ++ [c.p]⟩ := by
        unfold rbS
        rw [hn]
        simp only
        rw [if_neg (by omega), hb, a1]
        simp only
        rw [if_neg (by omega)]
      obtain ⟨pos, tests, neg, wp, b', f1, f2, f3, f4, f5, f6, f7, ⟨g1, g2, g3, g4, g5, g6⟩, q', g7, g8, g9⟩ := way_back hs h r v w n ⟨b.w, b.pos, b.tests, b.neg ++ [c.p]⟩ m1 q1 m' hn c2 h16 hb hL s4 s3 hon
      obtain ⟨rfl, rfl⟩ := f2 k1
      have hwp : wp = w := g2.symm
      refine ⟨[], [], c.p :: neg, wp, b', fun _ => rfl, fun _ => ⟨rfl, rfl⟩, by simp only [List.length_cons, List.length_nil] at f3 ⊢; omega, by rw [hrb, e1]; exact f4, f5, f6, by rw [f7]; simp, ⟨g1, g2, g3, g4, g5, ?_⟩, q', g7, by omega, ?_⟩
      · intro p hp
        rcases List.mem_cons.1 hp with rfl | hp
        · exact ⟨a3, a4, by rw [hwp]; exact c1⟩
        · exact g6 p hp
      · rw [hlast, ← g9, List.map_cons]
        simp only [List.map_nil, List.nil_append, List.foldl_cons]
        rw [← hc, s2]
    · obtain ⟨a1, a2, a3, a4, a5, a6, a7⟩ := C.test k1
      have hc : c = ⟨2, noPat, n.test⟩ := by obtain ⟨ck, cp, ct⟩ := c; have := C.kind; simp only at this a1 a2; rw [this, k1, a1, a2]
      have e1 : rbS al ns (some b) v = some ⟨b.w, b.pos, b.tests ++ [n.test], b.neg⟩ := by
        unfold rbS
        rw [hn]
        simp only
        rw [if_pos k1]
      obtain ⟨pos, tests, neg, wp, b', f1, f2, f3, f4, f5, f6, f7, ⟨g1, g2, g3, g4, g5, g6⟩, q', g7, g8, g9⟩ := way_back hs h r v w n ⟨b.w, b.pos, b.tests ++ [n.test], b.neg⟩ m1 q1 m' hn a7 h16 hb hL s4 s3 hon
      obtain rfl := f1 k1
      have hwp : wp = w := g2.symm
      refine ⟨[], n.test :: tests, neg, wp, b', fun _ => rfl, fun hh => absurd hh k2.1, by simp only [List.length_cons, List.length_nil] at f3 ⊢; omega, by rw [hrb, e1]; exact f4, f5, by rw [f6]; simp, f7, ⟨g1, g2, g3, g4, ?_, g6⟩, q', g7, by omega, ?_⟩
      · intro t ht
        rcases List.mem_cons.1 ht with rfl | ht
        · rw [a2] at a3 a4 a5 a6
          rw [hwp]
          exact ⟨a3, a4, a5, a6⟩
        · exact g5 t ht
      · rw [hlast, ← g9, List.map_cons]
        simp only [List.map_nil, List.nil_append, List.foldl_cons, List.cons_append]
        rw [← hc, s2]
theorem rule_back (hs : shapesP al ns) (h : nodesP al ns) {e : Int} {m q m' : Nat} (h1 : 1 ≤ m) (hq : needs al.length (ns.take m) = some q) (he : endE ns (some m) e = some m') :
    0 ≤ e ∧ ∃ r, ruleB al ns e = some r ∧ mayP r ∧ ∃ q', needs al.length (ns.take m') = some q' ∧ m ≤ m' ∧ ruleF ⟨al.take q, ns.take m⟩ r = (e.toNat, ⟨al.take q', ns.take m'⟩) := by
  unfold endE at he
  simp only at he
  split at he
  · rename_i hc
    obtain ⟨e0, e1⟩ := hc
    refine ⟨e0, ?_⟩
    have hP := nodesP_par h
    have hlt : e.toNat < ns.length := by omega
    obtain ⟨u1, u2, u3⟩ := wayN_up hP al hlt
    have hL : Lnk ns 0 (wayN ns e.toNat) := lnk_of (al := al) _ 0 (fun i v hv => by
      obtain ⟨j1, j2, n, j3, j4⟩ := u1 i v hv
      exact ⟨j2, n, j3, j4⟩)
    obtain ⟨pos, tests, neg, wp, b', f1, f2, f3, f4, f5, f6, f7, ⟨g1, g2, g3, g4, g5, g6⟩, q', g7, g8, g9⟩ := way_back hs h _ 0 0 rootN rb0 m q m' h.1 rfl (by omega) rfl hL (by omega) hq he
    have hr : rlOf b' = ⟨noPat, pos, tests, neg, [], 0⟩ := by
      unfold rlOf
      rw [f5, f6, f7]
      simp [rb0]
    refine ⟨rlOf b', ?_, ?_, q', g7, g8, ?_⟩
    · unfold ruleB
      rw [wayR_eq hP e0 e1]
      simp only
      rw [f4]
      rfl
    · rw [hr]
      have := way_short h hlt
      exact ⟨wp, by simp only; omega, g4, g1, g2, g3, g5, g6⟩
    · rw [hr, ruleF_conds]
      unfold conds
      simp only
      rw [g9]
      have hlast : ((0 :: wayN ns e.toNat).getLast?.getD 0) = e.toNat := by
        rw [List.getLast?_eq_getElem?, List.length_cons, Nat.add_sub_cancel, ← List.getD_eq_getElem?_getD]
        exact u2
      rw [hlast]
  · cases he
theorem rules_back (hs : shapesP al ns) (h : nodesP al ns) : ∀ (es : List Int) (m q M : Nat) (acc : List Rl) (x2 : List Nat), 1 ≤ m → needs al.length (ns.take m) = some q → es.foldl (endE ns) (some m) = some M →
    ∃ rs, es.foldl (rulesS al ns) (some acc) = some (acc ++ rs) ∧ (∀ r ∈ rs, mayP r) ∧ ∃ q' ends, needs al.length (ns.take M) = some q' ∧ rs.foldl endF (⟨al.take q, ns.take m⟩, x2) = (⟨al.take q', ns.take M⟩, x2 ++ ends) ∧ (ends.map fun (e : Nat) => (e : Int)) = es
  | [], m, q, M, acc, x2, h1, hq, hf => by
    simp only [List.foldl_nil, Option.some.injEq] at hf
    subst hf
    exact ⟨[], by simp, by simp, q, [], hq, by simp, rfl⟩
  | e :: r, m, q, M, acc, x2, h1, hq, hf => by
    rw [List.foldl_cons] at hf
    cases hx : endE ns (some m) e with
    | none => rw [hx, endE_none] at hf; cases hf
    | some m1 =>
      rw [hx] at hf
      obtain ⟨e0, rl, b1, b2, q1, b3, b4, b5⟩ := rule_back hs h h1 hq hx
      obtain ⟨rs, c1, c2, q', ends, c3, c4, c5⟩ := rules_back hs h r m1 q1 M (acc ++ [rl]) (x2 ++ [e.toNat]) (by omega) b3 hf
      refine ⟨rl :: rs, ?_, ?_, q', e.toNat :: ends, c3, ?_, by rw [List.map_cons, c5, Int.toNat_of_nonneg e0]⟩
      · have e1 : rulesS al ns (some acc) e = some (acc ++ [rl]) := by
          unfold rulesS
          rw [b1]
        rw [List.foldl_cons, e1, c1, List.append_assoc]
        rfl
      · intro x hx2
        rcases List.mem_cons.1 hx2 with rfl | hx2
        · exact b2
        · exact c2 x hx2
      · rw [List.foldl_cons]
        have e2 : endF (⟨al.take q, ns.take m⟩, x2) rl = (⟨al.take q1, ns.take m1⟩, x2 ++ [e.toNat]) := by
          unfold endF
          simp only
          rw [b5]
        rw [e2, c4, List.append_assoc]
        rfl
/-- The law of Check. -/
theorem ref_check : refP al ns es ↔ checkP al ns es := by
  constructor
  · rintro ⟨_, rs, _, h2, h3, h4⟩
    have := comp_check rs h2
    rw [h3, h4] at this
    exact this
  · rintro ⟨hs, hn, he⟩
    have hl : 0 < ns.length := (List.getElem?_eq_some_iff.1 hn.1).1
    have h1 : ns.take 1 = [rootN] := by
      rw [List.take_add_one, hn.1]; rfl
    have hq : needs al.length (ns.take 1) = some 0 := by rw [h1]; rfl
    obtain ⟨rs, b1, b2, q', ends, b3, b4, b5⟩ := rules_back hs hn es 1 0 ns.length [] [] (Nat.le_refl _) hq he
    rw [List.take_length] at b3 b4
    rw [hs.2] at b3
    obtain rfl := Option.some.inj b3
    rw [List.take_length, h1] at b4
    have e : compF rs = (⟨al, ns⟩, ends) := by
      unfold compF
      simpa using b4
    refine ⟨fun h0 => by rw [h0] at hl; simp at hl, rs, by unfold rulesB; simpa using b1, b2, by rw [e], by rw [e]; exact b5⟩
end
end Go.Proofs.Ytonkbjdeaneicaa.Pln
