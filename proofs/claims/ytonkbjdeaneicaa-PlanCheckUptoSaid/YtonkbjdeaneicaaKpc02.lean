/- Plans, in plain Lean: the plan of all rules: parents, ways, no idle node. The frame of a law's row, once for every law: out of a walk that ends in 'returned true, below the old heap nothing has turned' comes what the row asks. Over any program. -/
import Derived.Test.YtonkbjdeaneicaaKpc01
import Derived.Below
import Derived.ChangeOld
import Derived.Deep.CondSized
import Derived.Deep.Fields
import Derived.Deep.Slices
import Derived.OpenShut
import Derived.ProofKit
import Derived.ShutString
import Derived.SizedLaws
import Derived.WalkKit
namespace Go.Proofs.Ytonkbjdeaneicaa.Pln
open Classical

/-- Parents come ahead; the root stands first, and there alone. -/
structure Wf (st : St) : Prop where
  root : st.ns[0]? = some rootN
  dup : st.ns.Nodup
  par : ∀ (i : Nat) (n : Nd), st.ns[i]? = some n → 0 < i → ∃ u : Nat, u < i ∧ n.parent = u ∧ (n.kind = 1 ∨ n.kind = 2 ∨ n.kind = 3)
  adup : st.al.Nodup
theorem Wf.len {st : St} (h : Wf st) : 0 < st.ns.length := (List.getElem?_eq_some_iff.1 h.root).1
theorem wf_start : Wf ⟨[], [rootN]⟩ := ⟨rfl, by simp, fun i n h h0 => by
  have := (List.getElem?_eq_some_iff.1 h).1
  simp at this
  omega, by simp⟩
theorem Wf.add {st : St} (h : Wf st) {u : Nat} (hu : u < st.ns.length) {n : Nd} (hp : n.parent = u) (hk : n.kind = 1 ∨ n.kind = 2 ∨ n.kind = 3) {al : List Shp} (ha : al.Nodup) : Wf ⟨al, addF st.ns n⟩ := by
  refine ⟨?_, addF_nodup h.dup, ?_, ha⟩
  · obtain ⟨r, hr, _⟩ := addF_pre st.ns n
    show (addF st.ns n)[0]? = _
    rw [hr, List.getElem?_append_left h.len]
    exact h.root
  · intro i m hm h0
    have hm : (addF st.ns n)[i]? = some m := hm
    unfold addF at hm
    split at hm
    · exact h.par i m hm h0
    · rcases Nat.lt_or_ge i st.ns.length with hlt | hge
      · rw [List.getElem?_append_left hlt] at hm
        exact h.par i m hm h0
      · have hl := (List.getElem?_eq_some_iff.1 hm).1
        simp at hl
        obtain rfl : i = st.ns.length := by omega
        rw [List.getElem?_append_right (Nat.le_refl _), Nat.sub_self] at hm
        simp at hm
        subst hm
        exact ⟨u, hu, hp, hk⟩
def ok3 (c : Cnd) : Prop := c.kind = 1 ∨ c.kind = 2 ∨ c.kind = 3
theorem Wf.step {x : Nat × St} (h : Wf x.2) (hu : x.1 < x.2.ns.length) {c : Cnd} (hc : ok3 c) : Wf (stepF x c).2 := by
  unfold stepF
  by_cases hk : c.kind = 2
  · rw [if_pos hk]
    exact h.add hu rfl (.inr (.inl rfl)) h.adup
  · rw [if_neg hk]
    exact h.add (n := nodeOf x.2 c.kind x.1 c.p) hu rfl hc (addF_nodup h.adup)
theorem Wf.fold : ∀ (cs : List Cnd) {x : Nat × St}, Wf x.2 → x.1 < x.2.ns.length → (∀ c ∈ cs, ok3 c) → Wf (cs.foldl stepF x).2
  | [], _, h, _, _ => h
  | c :: r, x, h, hu, hc => by
    rw [List.foldl_cons]
    exact Wf.fold r (h.step hu (hc c (List.mem_cons_self ..))) (stepF_facts x c hu).2.2.2 (fun d hd => hc d (List.mem_cons_of_mem _ hd))
theorem conds_ok3 (r : Rl) : ∀ c ∈ conds r, ok3 c := by
  intro c hc
  unfold conds at hc
  rcases List.mem_append.1 hc with hc | hc
  · rcases List.mem_append.1 hc with hc | hc
    · obtain ⟨p, _, rfl⟩ := List.mem_map.1 hc; exact .inl rfl
    · obtain ⟨p, _, rfl⟩ := List.mem_map.1 hc; exact .inr (.inl rfl)
  · obtain ⟨p, _, rfl⟩ := List.mem_map.1 hc; exact .inr (.inr rfl)

/-- The nodes that a fold adds lie on its way. -/
theorem fold_used : ∀ (cs : List Cnd) (x : Nat × St), x.1 < x.2.ns.length → ∀ k, x.2.ns.length ≤ k → k < (cs.foldl stepF x).2.ns.length → k ∈ wayF (cs.foldl stepF x).2 x.1 cs
  | [], x, _, k, h1, h2 => by simp at h2; omega
  | c :: r, x, hx, k, h1, h2 => by
    obtain ⟨s1, s2, s3, s4⟩ := stepF_facts x c hx
    have hE := ext_fold r (stepF x c)
    rw [List.foldl_cons] at h2 ⊢
    have hx' : x.1 < (stepF x c).2.ns.length := Nat.lt_of_lt_of_le hx (ext_stepF x c).len
    have e := nodeC_ext hE hx' s1
    have e2 : placeF (r.foldl stepF (stepF x c)).2.ns (nodeC (stepF x c).2 x.1 c) = (stepF x c).1 := by
      rw [s3]
      obtain ⟨_, ⟨q, h⟩⟩ := hE
      rw [h, placeF_app s2]
    simp only [wayF]
    rw [e, e2]
    rcases Nat.lt_or_ge k (stepF x c).2.ns.length with hlt | hge
    · have hk : k = (stepF x c).1 := by
        unfold stepF at hlt ⊢
        by_cases hk : c.kind = 2
        · rw [if_pos hk] at hlt ⊢
          simp only [tstF] at hlt ⊢
          unfold addF at hlt
          split at hlt
          · omega
          · rename_i hn
            rw [placeF_none hn]
            simp at hlt
            omega
        · rw [if_neg hk] at hlt ⊢
          simp only [patF] at hlt ⊢
          unfold addF at hlt
          split at hlt
          · omega
          · rename_i hn
            rw [placeF_none hn]
            simp at hlt
            omega
      rw [hk]
      exact List.mem_cons_self ..
    · exact List.mem_cons_of_mem _ (fold_used r (stepF x c) s4 k hge h2)

/-- What stands behind the first rules. -/
structure Made (rs : List Rl) (st : St) (es : List Nat) : Prop where
  wf : Wf st
  len : es.length = rs.length
  ways : ∀ (i : Nat) (r : Rl), rs[i]? = some r → Stands st 0 (conds r) ∧ ∃ e, es[i]? = some e ∧ e = (wayF st 0 (conds r)).getLast?.getD 0 ∧ e < st.ns.length
  used : ∀ k, 0 < k → k < st.ns.length → ∃ (i : Nat) (r : Rl), rs[i]? = some r ∧ k ∈ wayF st 0 (conds r)
theorem made_start : Made [] ⟨[], [rootN]⟩ [] := ⟨wf_start, rfl, fun i r h => by simp at h, fun k h1 h2 => by simp at h2; omega⟩
theorem Made.next {rs : List Rl} {st : St} {es : List Nat} (h : Made rs st es) (r : Rl) : Made (rs ++ [r]) (ruleF st r).2 (es ++ [(ruleF st r).1]) := by
  rw [ruleF_conds]
  obtain ⟨i1, i2, i3⟩ := stands_fold (conds r) (0, st) h.wf.len
  have hE : Ext st ((conds r).foldl stepF (0, st)).2 := ext_fold (conds r) (0, st)
  refine ⟨Wf.fold (conds r) h.wf h.wf.len (conds_ok3 r), by simp [h.len], ?_, ?_⟩
  · intro i q hi
    rcases Nat.lt_or_ge i rs.length with hlt | hge
    · rw [List.getElem?_append_left hlt] at hi
      obtain ⟨h1, e, h2, h3, h4⟩ := h.ways i q hi
      obtain ⟨j1, j2⟩ := stands_ext hE (conds q) 0 h1
      exact ⟨j1, e, by rw [List.getElem?_append_left (by rw [h.len]; exact hlt)]; exact h2, by rw [j2]; exact h3, Nat.lt_of_lt_of_le h4 hE.len⟩
    · have hl := (List.getElem?_eq_some_iff.1 hi).1
      simp at hl
      obtain rfl : i = rs.length := by omega
      rw [List.getElem?_append_right (Nat.le_refl _), Nat.sub_self] at hi
      simp at hi
      subst hi
      exact ⟨i1, _, by rw [← h.len, List.getElem?_append_right (Nat.le_refl _), Nat.sub_self]; rfl, i2, i3⟩
  · intro k hk0 hk
    rcases Nat.lt_or_ge k st.ns.length with hlt | hge
    · obtain ⟨i, q, h1, h2⟩ := h.used k hk0 hlt
      obtain ⟨j1, j2⟩ := stands_ext hE (conds q) 0 (h.ways i q h1).1
      exact ⟨i, q, by rw [List.getElem?_append_left (List.getElem?_eq_some_iff.1 h1).1]; exact h1, by rw [j2]; exact h2⟩
    · exact ⟨rs.length, r, by simp, fold_used (conds r) (0, st) h.wf.len k hge hk⟩
theorem comp_take_succ {rs : List Rl} {i : Nat} {r : Rl} (h : rs[i]? = some r) : compF (rs.take (i + 1)) = endF (compF (rs.take i)) r := by
  unfold compF
  rw [List.take_add_one, h, List.foldl_append]
  rfl
theorem made_comp (rs : List Rl) : Made rs (compF rs).1 (compF rs).2 := by
  suffices h : ∀ k, k ≤ rs.length → Made (rs.take k) (compF (rs.take k)).1 (compF (rs.take k)).2 by
    have := h rs.length (Nat.le_refl _)
    rwa [List.take_length] at this
  intro k
  induction k with
  | zero => intro _; exact made_start
  | succ k ih =>
    intro hk
    have hr : rs[k]? = some rs[k] := List.getElem?_eq_getElem (by omega)
    have := (ih (by omega)).next rs[k]
    rw [comp_take_succ hr]
    have e : rs.take (k + 1) = rs.take k ++ [rs[k]] := by rw [List.take_add_one, hr]; rfl
    rw [e]
    exact this

/-- Each step of a way: a node, its parent, its content. -/
theorem way_at {st : St} (hwf : Wf st) : ∀ (cs : List Cnd) (u : Nat), Stands st u cs → (∀ c ∈ cs, ok3 c) → ∀ (j : Nat) (v : Nat), (wayF st u cs)[j]? = some v →
    ∃ c, cs[j]? = some c ∧ (u :: wayF st u cs)[j]? = some ((u :: wayF st u cs).getD j 0) ∧ st.ns[v]? = some (nodeC st ((u :: wayF st u cs).getD j 0) c) ∧ (u :: wayF st u cs).getD j 0 < v
  | [], _, _, _, j, v, h => by simp [wayF] at h
  | c :: r, u, ⟨hu, hs, hm, hr⟩, hc, j, v, h => by
    have hp := (placeF_lt hm).2
    have hpos : u < placeF st.ns (nodeC st u c) := by
      have h0 : 0 < placeF st.ns (nodeC st u c) := by
        rcases Nat.eq_zero_or_pos (placeF st.ns (nodeC st u c)) with h0 | h0
        · exfalso
          rw [h0, hwf.root] at hp
          have := congrArg Nd.kind (Option.some.inj hp)
          unfold nodeC at this
          have h3 := hc c (List.mem_cons_self ..)
          split at this
          · exact absurd this (by intro h; cases h)
          · simp only [rootN, nodeOf] at this
            rcases h3 with h3 | h3 | h3 <;> rw [h3] at this <;> exact absurd this (by decide)
        · exact h0
      obtain ⟨u', h1, h2, _⟩ := hwf.par _ _ hp h0
      have : (nodeC st u c).parent = u := by unfold nodeC; split <;> rfl
      omega
    match j with
    | 0 =>
      simp only [wayF, List.getElem?_cons_zero, Option.some.injEq] at h
      subst h
      exact ⟨c, rfl, rfl, hp, hpos⟩
    | j + 1 =>
      simp only [wayF, List.getElem?_cons_succ] at h
      obtain ⟨d, h1, h2, h3, h4⟩ := way_at hwf r _ hr (fun d hd => hc d (List.mem_cons_of_mem _ hd)) j v h
      refine ⟨d, by simpa using h1, ?_, ?_, ?_⟩
      · simp only [wayF, List.getElem?_cons_succ, List.getD_cons_succ]; exact h2
      · simp only [wayF, List.getD_cons_succ]; exact h3
      · simp only [wayF, List.getD_cons_succ]; exact h4
theorem way_len (st : St) : ∀ (cs : List Cnd) (u : Nat), (wayF st u cs).length = cs.length
  | [], _ => rfl
  | c :: r, u => by simp only [wayF, List.length_cons]; rw [way_len st r]
theorem way_take (st : St) : ∀ (cs : List Cnd) (u k : Nat), (wayF st u cs).take k = wayF st u (cs.take k)
  | [], _, k => by simp [wayF]
  | c :: r, u, 0 => rfl
  | c :: r, u, k + 1 => by simp only [wayF, List.take_succ_cons]; rw [way_take st r]
/-- How many variables are bound at the way's places. -/
theorem way_width {st : St} : ∀ (cs : List Cnd) (u w : Nat), Stands st u cs → okCs w cs → widthAt st u = w → ∀ (j : Nat) (c : Cnd), cs[j]? = some c →
    ∃ w' : Nat, widthAt st ((u :: wayF st u cs).getD j 0) = (w' : Int) ∧ okC w' c ∧ Shaped st c
  | [], _, _, _, _, _, j, c, h => by simp at h
  | d :: r, u, w, ⟨hu, hs, hm, hr⟩, ⟨ho, hos⟩, hw, j, c, h => by
    match j with
    | 0 =>
      simp only [List.getElem?_cons_zero, Option.some.injEq] at h
      subst h
      exact ⟨w, hw, ho, hs⟩
    | j + 1 =>
      simp only [List.getElem?_cons_succ] at h
      have e : widthAt st (placeF st.ns (nodeC st u d)) = (nextW w d : Int) := by
        unfold widthAt
        rw [(placeF_lt hm).2]
        exact nodeC_width ho hw
      obtain ⟨w', h1, h2⟩ := way_width r _ _ hr hos e j c h
      exact ⟨w', by simp only [wayF, List.getD_cons_succ]; exact h1, h2⟩

/-- How many of two lists' heads agree. -/
noncomputable def lcp {α : Type} : List α → List α → Nat
  | a :: l, b :: r => if a = b then lcp l r + 1 else 0
  | _, _ => 0
theorem lcp_le {α : Type} : ∀ (a b : List α), lcp a b ≤ a.length ∧ lcp a b ≤ b.length
  | [], _ => by simp [lcp]
  | _ :: _, [] => by simp [lcp]
  | a :: l, b :: r => by
    have := lcp_le l r
    unfold lcp
    split
    · simp only [List.length_cons]; omega
    · simp
theorem lcp_take {α : Type} : ∀ (a b : List α), a.take (lcp a b) = b.take (lcp a b)
  | [], b => by simp [lcp]
  | _ :: _, [] => by simp [lcp]
  | a :: l, b :: r => by
    unfold lcp
    split
    · rename_i h
      rw [List.take_succ_cons, List.take_succ_cons, h, lcp_take l r]
    · simp
theorem lcp_ne {α : Type} : ∀ (a b : List α) (x y : α), a[lcp a b]? = some x → b[lcp a b]? = some y → x ≠ y
  | [], b, x, y, h, _ => by simp at h
  | _ :: _, [], x, y, _, h => by simp at h
  | a :: l, b :: r, x, y, h1, h2 => by
    unfold lcp at h1 h2
    split at h1
    · rename_i h
      rw [if_pos h] at h2
      simp only [List.getElem?_cons_succ] at h1 h2
      exact lcp_ne l r x y h1 h2
    · rename_i h
      rw [if_neg h] at h2
      simp only [List.getElem?_cons_zero, Option.some.injEq] at h1 h2
      rw [← h1, ← h2]
      exact h
/-- Two ways are one as far as the chains agree, and part there. -/
theorem ways_share {st : St} (hwf : Wf st) {a b : List Cnd} (ha : Stands st 0 a) (hb : Stands st 0 b) (oa : okCs 0 a) (ob : okCs 0 b) (ka : ∀ c ∈ a, ok3 c) (kb : ∀ c ∈ b, ok3 c) :
    (wayF st 0 a).take (lcp a b) = (wayF st 0 b).take (lcp a b) ∧ ∀ x y, (wayF st 0 a)[lcp a b]? = some x → (wayF st 0 b)[lcp a b]? = some y → x ≠ y := by
  have e1 : (wayF st 0 a).take (lcp a b) = (wayF st 0 b).take (lcp a b) := by rw [way_take, way_take, lcp_take]
  have w0 : widthAt st 0 = ((0 : Nat) : Int) := by unfold widthAt; rw [hwf.root]; rfl
  refine ⟨e1, fun x y hx hy hxy => ?_⟩
  subst hxy
  obtain ⟨c, c1, c2, c3, _⟩ := way_at hwf a 0 ha ka _ x hx
  obtain ⟨d, d1, d2, d3, _⟩ := way_at hwf b 0 hb kb _ x hy
  obtain ⟨w1, w2, w3, w4⟩ := way_width a 0 0 ha oa w0 _ c c1
  obtain ⟨v1, v2, v3, v4⟩ := way_width b 0 0 hb ob w0 _ d d1
  have e2 : (0 :: wayF st 0 a).getD (lcp a b) 0 = (0 :: wayF st 0 b).getD (lcp a b) 0 := by
    match h : lcp a b with
    | 0 => rfl
    | k + 1 =>
      rw [h] at e1
      simp only [List.getD_cons_succ]
      have h1 : ((wayF st 0 a).take (k + 1))[k]? = ((wayF st 0 b).take (k + 1))[k]? := by rw [e1]
      rw [List.getElem?_take_of_lt (by omega), List.getElem?_take_of_lt (by omega)] at h1
      rw [List.getD_eq_getElem?_getD, List.getD_eq_getElem?_getD, h1]
  rw [e2] at c3 w2
  rw [c3] at d3
  have e3 : w1 = v1 := by omega
  subst e3
  exact lcp_ne a b c d c1 d1 (nodeC_inj w3 v3 w2 w4 v4 (Option.some.inj d3))
end Go.Proofs.Ytonkbjdeaneicaa.Pln

namespace Go.Proofs.Ytonkbjdeaneicaa.Frm
open Go.ChangeShapes Go.WideShapes Go.ChangeAt Go.RowKit Go.Deep

section
variable {H : Type} {enc : TypeId × Value → H} {P : Program}

/-- All arguments read behind the call as they read before it. -/
theorem trodAll_below (hl : laidOutB P = true) {W W' : World} (hb : Below W.heap.size W W') :
    ∀ (ts : List TypeId) (vs : List Value) (ds : List (DataW H)) (ps : List MemPlace), (∀ t ∈ ts, P.readableRec t = true ∧ t < P.types.size) →
      DataW.TrodAll enc P W 0 (fun _ => true) true ts vs ds ps → (∀ x ∈ ps, x.block < W.heap.size) → DataW.TrodAll enc P W' 0 (fun b => decide (b < W.heap.size)) true ts vs ds ps
  | [], [], [], ps, _, h, _ => h
  | t :: ts, v :: vs, d :: ds, ps, ht, h, hlt => by
    obtain ⟨p, q, h1, h2, rfl⟩ := h
    obtain ⟨r1, r2⟩ := ht t (List.mem_cons_self ..)
    exact ⟨p, q, Below.trod hl r1 r2 h1 hb (fun x hx => hlt x (List.mem_append_left _ hx)),
      trodAll_below hl hb ts vs ds q (fun t' ht' => ht t' (List.mem_cons_of_mem _ ht')) h2 (fun x hx => hlt x (List.mem_append_right _ hx)), rfl⟩
  | [], _ :: _, _, _, _, h, _ => by simp [DataW.TrodAll] at h
  | [], [], _ :: _, _, _, h, _ => by simp [DataW.TrodAll] at h
  | _ :: _, [], _, _, _, h, _ => by simp [DataW.TrodAll] at h
  | _ :: _, _ :: _, [], _, _, h, _ => by simp [DataW.TrodAll] at h

/-- 'post' of a law. -/
theorem post_true {f : Func} {s : ChangeSpec} {W W' : World} {args : Array Value} {ds : List (DataW H)} {p : List MemPlace} {tb : TypeId}
    (hl : laidOutB P = true) (hread : ∀ t ∈ f.params.toList, P.readableRec t = true ∧ t < P.types.size) (hvars : s.vars = [])
    (hret : f.resultTypes = #[tb]) (hub : P.underlying tb = some .bool) (hs : s.fn H ds = { results := [.lit (.bool true)], args := ds })
    (hW : DataW.Whole enc P f.params.toList s.vars false W args.toList ds [] p) (hA : DataW.TrodAll enc P W 0 (fun _ => true) true f.params.toList args.toList ds p) (hb : Below W.heap.size W W') :
    s.post enc P f false true false false W args (.bool true) W' := by
  have hlt : ∀ x ∈ p, x.block < W.heap.size := fun x hx => hW.lt x hx
  refine ⟨ds, [], p, [], p, [], hW, ?_, ?_, ?_, hb.frame _, fun h => by cases h⟩
  · rw [List.append_nil, hs, hret]
    exact trodAll_mk1 (shut_bool hub _)
  · rw [List.append_nil, hs]
    exact trodAll_below hl hb _ _ _ _ hread hA hlt
  · rw [List.append_nil, hs, hvars]
    rfl
end

section
variable {H : Type} {enc : TypeId × Value → H} {C : Checked}

/-- THE FRAME: what a law's walk owes, and what it gives. -/
theorem law_lifted {os : Os} {F : FuncId} {fn : Func} {s : ChangeSpec} {tb : TypeId}
    (own : ownKnob C.prog.godebug = none) (started : os.Started) (noInit : C.prog.inits.idxOf? F = none) (hfn : C.prog.funcs[F]? = some fn)
    (witness : ∃ (w : World) (tape : Tape) (i : Input), w.os = os ∧ (w.forCall tape i).Shaped C.prog ∧ i.vars = [] ∧ Input.okWide C.prog (w.forCall tape i) .any w.heap.size F i ∧
      s.pre6 enc C.prog fn [] false (w.forCall tape i).memory i.args ∧ Assume.holds {} C.prog (lone (Frame.enter C.prog F i.args .normal) [] (w.forCall tape i)))
    (hl : laidOutB C.prog = true) (hread : ∀ t ∈ fn.params.toList, C.prog.readableRec t = true ∧ t < C.prog.types.size) (hvars : s.vars = [])
    (hret : fn.resultTypes = #[tb]) (hub : C.prog.underlying tb = some .bool) (hs : ∀ ds : List (DataW H), ds.length = fn.params.size → s.fn H ds = { results := [.lit (.bool true)], args := ds })
    (walk : ∀ (W : World) (base : Nat) (args : Array Value) (ds : List (DataW H)) (p : List MemPlace), (∀ (j : Nat) t v, fn.params[j]? = some t → args[j]? = some v → Value.okWide C.prog W .any base t v) →
      DataW.TrodAll enc C.prog W 0 (fun _ => true) true fn.params.toList args.toList ds p → (∀ x ∈ p, x.block < W.heap.size) →
      (DataW.weightsEach C.prog fn.params.toList ds).all (· ≤ reachBytes) = true →
      Calls C.prog F args W fun e w' => e = .returned (.bool true) ∧ Below W.heap.size W w') :
    ReturnsInHanded {} C os F .any (s.pre6 enc C.prog fn [] false) (s.post enc C.prog fn false true false false) := by
  refine returnsInHanded_of_change_sized (C := C) own started noInit hfn witness ?_
  intro W base args ds gs before hval hW _ hz _
  have hW' := hW
  obtain ⟨p, q, hA, hV, hp, _, _⟩ := hW
  have hv : s.vars = [] := hvars
  rw [hv] at hV
  have hgs : gs = [] ∧ q = [] := by
    cases gs with
    | nil => exact ⟨rfl, by simpa [DataW.TrodVars] using hV⟩
    | cons _ _ => simp [DataW.TrodVars] at hV
  obtain ⟨rfl, rfl⟩ := hgs
  rw [List.append_nil] at hp
  subst hp
  have hlt : ∀ x ∈ before, x.block < W.heap.size := fun x hx => hW'.lt x hx
  have hz' : (DataW.weightsEach C.prog fn.params.toList ds).all (· ≤ reachBytes) = true := by
    have e : s.plain.varTypes C.prog = [] := by simp [ChangeSpec.plain, DataSpec.varTypes, hv]
    rw [e, List.append_nil, List.append_nil] at hz
    exact hz
  refine (walk W base args ds before hval hA hlt hz').mono fun e W' ⟨he, hb⟩ => ?_
  have hlen : ds.length = fn.params.size := by
    have : ∀ (ts : List TypeId) (vs : List Value) (ds : List (DataW H)) (ps : List MemPlace), DataW.TrodAll enc C.prog W 0 (fun _ => true) true ts vs ds ps → ds.length = ts.length := by
      intro ts
      induction ts with
      | nil => intro vs ds ps h; cases vs <;> cases ds <;> simp [DataW.TrodAll] at h ⊢
      | cons t ts ih =>
        intro vs ds ps h
        cases vs <;> cases ds <;> simp [DataW.TrodAll] at h ⊢
        obtain ⟨_, _, _, h2, _⟩ := h
        exact ih _ _ _ h2
    rw [this _ _ _ _ hA, Array.length_toList]
  exact ⟨_, he, post_true hl hread hvars hret hub (hs ds hlen) hW' hA hb⟩
end
end Go.Proofs.Ytonkbjdeaneicaa.Frm
