/- Plans, in plain Lean: the plan of all rules: parents, ways, no idle node. The frame of a law's row, once for every law: out of a walk that ends in 'returned true, below the old heap nothing has turned' comes what the row asks. Over any program. The opening of arguments: lists of rules; how long the lists are. -/
import Derived.Test.YtonkbjdeaneicaaKpo02
import Derived.Below
import Derived.ChangeOld
import Derived.Deep.CondSized
import Derived.Deep.Fields
import Derived.Deep.Slices
import Derived.OpenShut
import Derived.ProofKit
import Derived.ShutString
import Derived.SizedLaws
import Derived.Test.YtonkbjdeaneicaaRows
import Derived.WalkKit
namespace Go.Proofs.Ytonkbjdeaneicaa.Pln
open Classical

/-- Parents come ahead; the root stands first, and there alone. -/
structure Wf (st : St) : Prop where
  root : st.ns[0]? = some rootN
  dup : st.ns.Nodup
  par : ∀ (i : Nat) (n : Nd), st.ns[i]? = some n → 0 < i → ∃ u : Nat, u < i ∧ n.parent = u ∧ (n.kind = 1 ∨ n.kind = 2 ∨ n.kind = 3)
  adup : st.al.Nodup
theorem Wf.len {st : St} (h : Wf st) : 0 < st.ns.length := (List.getElem?_eq_some_iff.1 h.root).1
theorem wf_start : Wf ⟨[], [rootN]⟩ := ⟨rfl, by simp, fun i n h h0 => by
  have := (List.getElem?_eq_some_iff.1 h).1
  simp at this
  omega, by simp⟩
theorem Wf.add {st : St} (h : Wf st) {u : Nat} (hu : u < st.ns.length) {n : Nd} (hp : n.parent = u) (hk : n.kind = 1 ∨ n.kind = 2 ∨ n.kind = 3) {al : List Shp} (ha : al.Nodup) : Wf ⟨al, addF st.ns n⟩ := by
  refine ⟨?_, addF_nodup h.dup, ?_, ha⟩
  · obtain ⟨r, hr, _⟩ := addF_pre st.ns n
    show (addF st.ns n)[0]? = _
    rw [hr, List.getElem?_append_left h.len]
    exact h.root
  · intro i m hm h0
    have hm : (addF st.ns n)[i]? = some m := hm
    unfold addF at hm
    split at hm
    · exact h.par i m hm h0
    · rcases Nat.lt_or_ge i st.ns.length with hlt | hge
      · rw [List.getElem?_append_left hlt] at hm
        exact h.par i m hm h0
      · have hl := (List.getElem?_eq_some_iff.1 hm).1
        simp at hl
        obtain rfl : i = st.ns.length := by omega
        rw [List.getElem?_append_right (Nat.le_refl _), Nat.sub_self] at hm
        simp at hm
        subst hm
        exact ⟨u, hu, hp, hk⟩
def ok3 (c : Cnd) : Prop := c.kind = 1 ∨ c.kind = 2 ∨ c.kind = 3
theorem Wf.step {x : Nat × St} (h : Wf x.2) (hu : x.1 < x.2.ns.length) {c : Cnd} (hc : ok3 c) : Wf (stepF x c).2 := by
  unfold stepF
  by_cases hk : c.kind = 2
  · rw [if_pos hk]
    exact h.add hu rfl (.inr (.inl rfl)) h.adup
  · rw [if_neg hk]
    exact h.add (n := nodeOf x.2 c.kind x.1 c.p) hu rfl hc (addF_nodup h.adup)
theorem Wf.fold : ∀ (cs : List Cnd) {x : Nat × St}, Wf x.2 → x.1 < x.2.ns.length → (∀ c ∈ cs, ok3 c) → Wf (cs.foldl stepF x).2
  | [], _, h, _, _ => h
  | c :: r, x, h, hu, hc => by
    rw [List.foldl_cons]
    exact Wf.fold r (h.step hu (hc c (List.mem_cons_self ..))) (stepF_facts x c hu).2.2.2 (fun d hd => hc d (List.mem_cons_of_mem _ hd))
theorem conds_ok3 (r : Rl) : ∀ c ∈ conds r, ok3 c := by
  intro c hc
  unfold conds at hc
  rcases List.mem_append.1 hc with hc | hc
  · rcases List.mem_append.1 hc with hc | hc
    · obtain ⟨p, _, rfl⟩ := List.mem_map.1 hc; exact .inl rfl
    · obtain ⟨p, _, rfl⟩ := List.mem_map.1 hc; exact .inr (.inl rfl)
  · obtain ⟨p, _, rfl⟩ := List.mem_map.1 hc; exact .inr (.inr rfl)

/-- The nodes that a fold adds lie on its way. -/
theorem fold_used : ∀ (cs : List Cnd) (x : Nat × St), x.1 < x.2.ns.length → ∀ k, x.2.ns.length ≤ k → k < (cs.foldl stepF x).2.ns.length → k ∈ wayF (cs.foldl stepF x).2 x.1 cs
  | [], x, _, k, h1, h2 => by simp at h2; omega
  | c :: r, x, hx, k, h1, h2 => by
    obtain ⟨s1, s2, s3, s4⟩ := stepF_facts x c hx
    have hE := ext_fold r (stepF x c)
    rw [List.foldl_cons] at h2 ⊢
    have hx' : x.1 < (stepF x c).2.ns.length := Nat.lt_of_lt_of_le hx (ext_stepF x c).len
    have e := nodeC_ext hE hx' s1
    have e2 : placeF (r.foldl stepF (stepF x c)).2.ns (nodeC (stepF x c).2 x.1 c) = (stepF x c).1 := by
      rw [s3]
      obtain ⟨_, ⟨q, h⟩⟩ := hE
      rw [h, placeF_app s2]
    simp only [wayF]
    rw [e, e2]
    rcases Nat.lt_or_ge k (stepF x c).2.ns.length with hlt | hge
    · have hk : k = (stepF x c).1 := by
        unfold stepF at hlt ⊢
        by_cases hk : c.kind = 2
        · rw [if_pos hk] at hlt ⊢
          simp only [tstF] at hlt ⊢
          unfold addF at hlt
          split at hlt
          · omega
          · rename_i hn
            rw [placeF_none hn]
            simp at hlt
            omega
        · rw [if_neg hk] at hlt ⊢
          simp only [patF] at hlt ⊢
          unfold addF at hlt
          split at hlt
          · omega
          · rename_i hn
            rw [placeF_none hn]
            simp at hlt
            omega
      rw [hk]
      exact List.mem_cons_self ..
    · exact List.mem_cons_of_mem _ (fold_used r (stepF x c) s4 k hge h2)

/-- What stands behind the first rules. -/
structure Made (rs : List Rl) (st : St) (es : List Nat) : Prop where
  wf : Wf st
  len : es.length = rs.length
  ways : ∀ (i : Nat) (r : Rl), rs[i]? = some r → Stands st 0 (conds r) ∧ ∃ e, es[i]? = some e ∧ e = (wayF st 0 (conds r)).getLast?.getD 0 ∧ e < st.ns.length
  used : ∀ k, 0 < k → k < st.ns.length → ∃ (i : Nat) (r : Rl), rs[i]? = some r ∧ k ∈ wayF st 0 (conds r)
theorem made_start : Made [] ⟨[], [rootN]⟩ [] := ⟨wf_start, rfl, fun i r h => by simp at h, fun k h1 h2 => by simp at h2; omega⟩
theorem Made.next {rs : List Rl} {st : St} {es : List Nat} (h : Made rs st es) (r : Rl) : Made (rs ++ [r]) (ruleF st r).2 (es ++ [(ruleF st r).1]) := by
  rw [ruleF_conds]
  obtain ⟨i1, i2, i3⟩ := stands_fold (conds r) (0, st) h.wf.len
  have hE : Ext st ((conds r).foldl stepF (0, st)).2 := ext_fold (conds r) (0, st)
  refine ⟨Wf.fold (conds r) h.wf h.wf.len (conds_ok3 r), by simp [h.len], ?_, ?_⟩
  · intro i q hi
    rcases Nat.lt_or_ge i rs.length with hlt | hge
    · rw [List.getElem?_append_left hlt] at hi
      obtain ⟨h1, e, h2, h3, h4⟩ := h.ways i q hi
      obtain ⟨j1, j2⟩ := stands_ext hE (conds q) 0 h1
      exact ⟨j1, e, by rw [List.getElem?_append_left (by rw [h.len]; exact hlt)]; exact h2, by rw [j2]; exact h3, Nat.lt_of_lt_of_le h4 hE.len⟩
    · have hl := (List.getElem?_eq_some_iff.1 hi).1
      simp at hl
      obtain rfl : i = rs.length := by omega
      rw [List.getElem?_append_right (Nat.le_refl _), Nat.sub_self] at hi
      simp at hi
      subst hi
      exact ⟨i1, _, by rw [← h.len, List.getElem?_append_right (Nat.le_refl _), Nat.sub_self]; rfl, i2, i3⟩
  · intro k hk0 hk
    rcases Nat.lt_or_ge k st.ns.length with hlt | hge
    · obtain ⟨i, q, h1, h2⟩ := h.used k hk0 hlt
      obtain ⟨j1, j2⟩ := stands_ext hE (conds q) 0 (h.ways i q h1).1
      exact ⟨i, q, by rw [List.getElem?_append_left (List.getElem?_eq_some_iff.1 h1).1]; exact h1, by rw [j2]; exact h2⟩
    · exact ⟨rs.length, r, by simp, fold_used (conds r) (0, st) h.wf.len k hge hk⟩
theorem comp_take_succ {rs : List Rl} {i : Nat} {r : Rl} (h : rs[i]? = some r) : compF (rs.take (i + 1)) = endF (compF (rs.take i)) r := by
  unfold compF
  rw [List.take_add_one, h, List.foldl_append]
  rfl
theorem made_comp (rs : List Rl) : Made rs (compF rs).1 (compF rs).2 := by
  suffices h : ∀ k, k ≤ rs.length → Made (rs.take k) (compF (rs.take k)).1 (compF (rs.take k)).2 by
    have := h rs.length (Nat.le_refl _)
    rwa [List.take_length] at this
  intro k
  induction k with
  | zero => intro _; exact made_start
  | succ k ih =>
    intro hk
    have hr : rs[k]? = some rs[k] := List.getElem?_eq_getElem (by omega)
    have := (ih (by omega)).next rs[k]
    rw [comp_take_succ hr]
    have e : rs.take (k + 1) = rs.take k ++ [rs[k]] := by rw [List.take_add_one, hr]; rfl
    rw [e]
    exact this

/-- Each step of a way: a node, its parent, its content. -/
theorem way_at {st : St} (hwf : Wf st) : ∀ (cs : List Cnd) (u : Nat), Stands st u cs → (∀ c ∈ cs, ok3 c) → ∀ (j : Nat) (v : Nat), (wayF st u cs)[j]? = some v →
    ∃ c, cs[j]? = some c ∧ (u :: wayF st u cs)[j]? = some ((u :: wayF st u cs).getD j 0) ∧ st.ns[v]? = some (nodeC st ((u :: wayF st u cs).getD j 0) c) ∧ (u :: wayF st u cs).getD j 0 < v
  | [], _, _, _, j, v, h => by simp [wayF] at h
  | c :: r, u, ⟨hu, hs, hm, hr⟩, hc, j, v, h => by
    have hp := (placeF_lt hm).2
    have hpos : u < placeF st.ns (nodeC st u c) := by
      have h0 : 0 < placeF st.ns (nodeC st u c) := by
        rcases Nat.eq_zero_or_pos (placeF st.ns (nodeC st u c)) with h0 | h0
        · exfalso
          rw [h0, hwf.root] at hp
          have := congrArg Nd.kind (Option.some.inj hp)
          unfold nodeC at this
          have h3 := hc c (List.mem_cons_self ..)
          split at this
          · exact absurd this (by intro h; cases h)
          · simp only [rootN, nodeOf] at this
            rcases h3 with h3 | h3 | h3 <;> rw [h3] at this <;> exact absurd this (by decide)
        · exact h0
      obtain ⟨u', h1, h2, _⟩ := hwf.par _ _ hp h0
      have : (nodeC st u c).parent = u := by unfold nodeC; split <;> rfl
      omega
    match j with
    | 0 =>
      simp only [wayF, List.getElem?_cons_zero, Option.some.injEq] at h
      subst h
      exact ⟨c, rfl, rfl, hp, hpos⟩
    | j + 1 =>
      simp only [wayF, List.getElem?_cons_succ] at h
      obtain ⟨d, h1, h2, h3, h4⟩ := way_at hwf r _ hr (fun d hd => hc d (List.mem_cons_of_mem _ hd)) j v h
      refine ⟨d, by simpa using h1, ?_, ?_, ?_⟩
      · simp only [wayF, List.getElem?_cons_succ, List.getD_cons_succ]; exact h2
      · simp only [wayF, List.getD_cons_succ]; exact h3
      · simp only [wayF, List.getD_cons_succ]; exact h4
theorem way_len (st : St) : ∀ (cs : List Cnd) (u : Nat), (wayF st u cs).length = cs.length
  | [], _ => rfl
  | c :: r, u => by simp only [wayF, List.length_cons]; rw [way_len st r]
theorem way_take (st : St) : ∀ (cs : List Cnd) (u k : Nat), (wayF st u cs).take k = wayF st u (cs.take k)
  | [], _, k => by simp [wayF]
  | c :: r, u, 0 => rfl
  | c :: r, u, k + 1 => by simp only [wayF, List.take_succ_cons]; rw [way_take st r]
/-- How many variables are bound at the way's places. -/
theorem way_width {st : St} : ∀ (cs : List Cnd) (u w : Nat), Stands st u cs → okCs w cs → widthAt st u = w → ∀ (j : Nat) (c : Cnd), cs[j]? = some c →
    ∃ w' : Nat, widthAt st ((u :: wayF st u cs).getD j 0) = (w' : Int) ∧ okC w' c ∧ Shaped st c
  | [], _, _, _, _, _, j, c, h => by simp at h
  | d :: r, u, w, ⟨hu, hs, hm, hr⟩, ⟨ho, hos⟩, hw, j, c, h => by
    match j with
    | 0 =>
      simp only [List.getElem?_cons_zero, Option.some.injEq] at h
      subst h
      exact ⟨w, hw, ho, hs⟩
    | j + 1 =>
      simp only [List.getElem?_cons_succ] at h
      have e : widthAt st (placeF st.ns (nodeC st u d)) = (nextW w d : Int) := by
        unfold widthAt
        rw [(placeF_lt hm).2]
        exact nodeC_width ho hw
      obtain ⟨w', h1, h2⟩ := way_width r _ _ hr hos e j c h
      exact ⟨w', by simp only [wayF, List.getD_cons_succ]; exact h1, h2⟩

/-- How many of two lists' heads agree. -/
noncomputable def lcp {α : Type} : List α → List α → Nat
  | a :: l, b :: r => if a = b then lcp l r + 1 else 0
  | _, _ => 0
theorem lcp_le {α : Type} : ∀ (a b : List α), lcp a b ≤ a.length ∧ lcp a b ≤ b.length
  | [], _ => by simp [lcp]
  | _ :: _, [] => by simp [lcp]
  | a :: l, b :: r => by
    have := lcp_le l r
    unfold lcp
    split
    · simp only [List.length_cons]; omega
    · simp
theorem lcp_take {α : Type} : ∀ (a b : List α), a.take (lcp a b) = b.take (lcp a b)
  | [], b => by simp [lcp]
  | _ :: _, [] => by simp [lcp]
  | a :: l, b :: r => by
    unfold lcp
    split
    · rename_i h
      rw [List.take_succ_cons, List.take_succ_cons, h, lcp_take l r]
    · simp
theorem lcp_ne {α : Type} : ∀ (a b : List α) (x y : α), a[lcp a b]? = some x → b[lcp a b]? = some y → x ≠ y
  | [], b, x, y, h, _ => by simp at h
  | _ :: _, [], x, y, _, h => by simp at h
  | a :: l, b :: r, x, y, h1, h2 => by
    unfold lcp at h1 h2
    split at h1
    · rename_i h
      rw [if_pos h] at h2
      simp only [List.getElem?_cons_succ] at h1 h2
      exact lcp_ne l r x y h1 h2
    · rename_i h
      rw [if_neg h] at h2
      simp only [List.getElem?_cons_zero, Option.some.injEq] at h1 h2
      rw [← h1, ← h2]
      exact h
/-- Two ways are one as far as the chains agree, and part there. -/
theorem ways_share {st : St} (hwf : Wf st) {a b : List Cnd} (ha : Stands st 0 a) (hb : Stands st 0 b) (oa : okCs 0 a) (ob : okCs 0 b) (ka : ∀ c ∈ a, ok3 c) (kb : ∀ c ∈ b, ok3 c) :
    (wayF st 0 a).take (lcp a b) = (wayF st 0 b).take (lcp a b) ∧ ∀ x y, (wayF st 0 a)[lcp a b]? = some x → (wayF st 0 b)[lcp a b]? = some y → x ≠ y := by
  have e1 : (wayF st 0 a).take (lcp a b) = (wayF st 0 b).take (lcp a b) := by rw [way_take, way_take, lcp_take]
  have w0 : widthAt st 0 = ((0 : Nat) : Int) := by unfold widthAt; rw [hwf.root]; rfl
  refine ⟨e1, fun x y hx hy hxy => ?_⟩
  subst hxy
  obtain ⟨c, c1, c2, c3, _⟩ := way_at hwf a 0 ha ka _ x hx
  obtain ⟨d, d1, d2, d3, _⟩ := way_at hwf b 0 hb kb _ x hy
  obtain ⟨w1, w2, w3, w4⟩ := way_width a 0 0 ha oa w0 _ c c1
  obtain ⟨v1, v2, v3, v4⟩ := way_width b 0 0 hb ob w0 _ d d1
  have e2 : (0 :: wayF st 0 a).getD (lcp a b) 0 = (0 :: wayF st 0 b).getD (lcp a b) 0 := by
    match h : lcp a b with
    | 0 => rfl
    | k + 1 =>
      rw [h] at e1
      simp only [List.getD_cons_succ]
      have h1 : ((wayF st 0 a).take (k + 1))[k]? = ((wayF st 0 b).take (k + 1))[k]? := by rw [e1]
      rw [List.getElem?_take_of_lt (by omega), List.getElem?_take_of_lt (by omega)] at h1
      rw [List.getD_eq_getElem?_getD, List.getD_eq_getElem?_getD, h1]
  rw [e2] at c3 w2
  rw [c3] at d3
  have e3 : w1 = v1 := by omega
  subst e3
  exact lcp_ne a b c d c1 d1 (nodeC_inj w3 v3 w2 w4 v4 (Option.some.inj d3))
end Go.Proofs.Ytonkbjdeaneicaa.Pln

namespace Go.Proofs.Ytonkbjdeaneicaa.Frm
open Go.ChangeShapes Go.WideShapes Go.ChangeAt Go.RowKit Go.Deep

section
variable {H : Type} {enc : TypeId × Value → H} {P : Program}

/-- All arguments read behind the call as they read before it. -/
theorem trodAll_below (hl : laidOutB P = true) {W W' : World} (hb : Below W.heap.size W W') :
    ∀ (ts : List TypeId) (vs : List Value) (ds : List (DataW H)) (ps : List MemPlace), (∀ t ∈ ts, P.readableRec t = true ∧ t < P.types.size) →
      DataW.TrodAll enc P W 0 (fun _ => true) true ts vs ds ps → (∀ x ∈ ps, x.block < W.heap.size) → DataW.TrodAll enc P W' 0 (fun b => decide (b < W.heap.size)) true ts vs ds ps
  | [], [], [], ps, _, h, _ => h
  | t :: ts, v :: vs, d :: ds, ps, ht, h, hlt => by
    obtain ⟨p, q, h1, h2, rfl⟩ := h
    obtain ⟨r1, r2⟩ := ht t (List.mem_cons_self ..)
    exact ⟨p, q, Below.trod hl r1 r2 h1 hb (fun x hx => hlt x (List.mem_append_left _ hx)),
      trodAll_below hl hb ts vs ds q (fun t' ht' => ht t' (List.mem_cons_of_mem _ ht')) h2 (fun x hx => hlt x (List.mem_append_right _ hx)), rfl⟩
  | [], _ :: _, _, _, _, h, _ => by simp [DataW.TrodAll] at h
  | [], [], _ :: _, _, _, h, _ => by simp [DataW.TrodAll] at h
  | _ :: _, [], _, _, _, h, _ => by simp [DataW.TrodAll] at h
  | _ :: _, _ :: _, [], _, _, h, _ => by simp [DataW.TrodAll] at h

/-- 'post' of a law. -/
theorem post_true {f : Func} {s : ChangeSpec} {W W' : World} {args : Array Value} {ds : List (DataW H)} {p : List MemPlace} {tb : TypeId}
    (hl : laidOutB P = true) (hread : ∀ t ∈ f.params.toList, P.readableRec t = true ∧ t < P.types.size) (hvars : s.vars = [])
    (hret : f.resultTypes = #[tb]) (hub : P.underlying tb = some .bool) (hs : s.fn H ds = { results := [.lit (.bool true)], args := ds })
    (hW : DataW.Whole enc P f.params.toList s.vars false W args.toList ds [] p) (hA : DataW.TrodAll enc P W 0 (fun _ => true) true f.params.toList args.toList ds p) (hb : Below W.heap.size W W') :
    s.post enc P f false true false false W args (.bool true) W' := by
  have hlt : ∀ x ∈ p, x.block < W.heap.size := fun x hx => hW.lt x hx
  refine ⟨ds, [], p, [], p, [], hW, ?_, ?_, ?_, hb.frame _, fun h => by cases h⟩
  · rw [List.append_nil, hs, hret]
    exact trodAll_mk1 (shut_bool hub _)
  · rw [List.append_nil, hs]
    exact trodAll_below hl hb _ _ _ _ hread hA hlt
  · rw [List.append_nil, hs, hvars]
    rfl
end

section
variable {H : Type} {enc : TypeId × Value → H} {C : Checked}

/-- THE FRAME: what a law's walk owes, and what it gives. -/
theorem law_lifted {os : Os} {F : FuncId} {fn : Func} {s : ChangeSpec} {tb : TypeId}
    (own : ownKnob C.prog.godebug = none) (started : os.Started) (noInit : C.prog.inits.idxOf? F = none) (hfn : C.prog.funcs[F]? = some fn)
    (witness : ∃ (w : World) (tape : Tape) (i : Input), w.os = os ∧ (w.forCall tape i).Shaped C.prog ∧ i.vars = [] ∧ Input.okWide C.prog (w.forCall tape i) .any w.heap.size F i ∧
      s.pre6 enc C.prog fn [] false (w.forCall tape i).memory i.args ∧ Assume.holds {} C.prog (lone (Frame.enter C.prog F i.args .normal) [] (w.forCall tape i)))
    (hl : laidOutB C.prog = true) (hread : ∀ t ∈ fn.params.toList, C.prog.readableRec t = true ∧ t < C.prog.types.size) (hvars : s.vars = [])
    (hret : fn.resultTypes = #[tb]) (hub : C.prog.underlying tb = some .bool) (hs : ∀ ds : List (DataW H), ds.length = fn.params.size → s.fn H ds = { results := [.lit (.bool true)], args := ds })
    (walk : ∀ (W : World) (base : Nat) (args : Array Value) (ds : List (DataW H)) (p : List MemPlace), (∀ (j : Nat) t v, fn.params[j]? = some t → args[j]? = some v → Value.okWide C.prog W .any base t v) →
      DataW.TrodAll enc C.prog W 0 (fun _ => true) true fn.params.toList args.toList ds p → (∀ x ∈ p, x.block < W.heap.size) →
      (DataW.weightsEach C.prog fn.params.toList ds).all (· ≤ reachBytes) = true →
      Calls C.prog F args W fun e w' => e = .returned (.bool true) ∧ Below W.heap.size W w') :
    ReturnsInHanded {} C os F .any (s.pre6 enc C.prog fn [] false) (s.post enc C.prog fn false true false false) := by
  refine returnsInHanded_of_change_sized (C := C) own started noInit hfn witness ?_
  intro W base args ds gs before hval hW _ hz _
  have hW' := hW
  obtain ⟨p, q, hA, hV, hp, _, _⟩ := hW
  have hv : s.vars = [] := hvars
  rw [hv] at hV
  have hgs : gs = [] ∧ q = [] := by
    cases gs with
    | nil => exact ⟨rfl, by simpa [DataW.TrodVars] using hV⟩
    | cons _ _ => simp [DataW.TrodVars] at hV
  obtain ⟨rfl, rfl⟩ := hgs
  rw [List.append_nil] at hp
  subst hp
  have hlt : ∀ x ∈ before, x.block < W.heap.size := fun x hx => hW'.lt x hx
  have hz' : (DataW.weightsEach C.prog fn.params.toList ds).all (· ≤ reachBytes) = true := by
    have e : s.plain.varTypes C.prog = [] := by simp [ChangeSpec.plain, DataSpec.varTypes, hv]
    rw [e, List.append_nil, List.append_nil] at hz
    exact hz
  refine (walk W base args ds before hval hA hlt hz').mono fun e W' ⟨he, hb⟩ => ?_
  have hlen : ds.length = fn.params.size := by
    have : ∀ (ts : List TypeId) (vs : List Value) (ds : List (DataW H)) (ps : List MemPlace), DataW.TrodAll enc C.prog W 0 (fun _ => true) true ts vs ds ps → ds.length = ts.length := by
      intro ts
      induction ts with
      | nil => intro vs ds ps h; cases vs <;> cases ds <;> simp [DataW.TrodAll] at h ⊢
      | cons t ts ih =>
        intro vs ds ps h
        cases vs <;> cases ds <;> simp [DataW.TrodAll] at h ⊢
        obtain ⟨_, _, _, h2, _⟩ := h
        exact ih _ _ _ h2
    rw [this _ _ _ _ hA, Array.length_toList]
  exact ⟨_, he, post_true hl hread hvars hret hub (hs ds hlen) hW' hA hb⟩
end
end Go.Proofs.Ytonkbjdeaneicaa.Frm

namespace Go.Proofs.Ytonkbjdeaneicaa
open Go.ChangeShapes Go.WideShapes Go.ChangeAt Go.RowKit Go.Deep
open Pln

/-- What the bound gives: how long the lists are. -/
theorem bulk_ge {H : Type} (l : List (DataW H)) : l.length ≤ Rows.uptoBulkAll l := by
  induction l with
  | nil => simp [Rows.uptoBulkAll]
  | cons d l ih =>
    have : 1 ≤ Rows.uptoBulk d := by
      cases d with
      | lit l => cases l <;> simp [Rows.uptoBulk]
      | nil => simp [Rows.uptoBulk]
      | ptr d => simp [Rows.uptoBulk]
      | slice e s => simp [Rows.uptoBulk]
      | agg p => simp [Rows.uptoBulk]
      | iface t d => simp [Rows.uptoBulk]
      | map e => simp [Rows.uptoBulk]
      | held h => simp [Rows.uptoBulk]
    simp only [Rows.uptoBulkAll, List.length_cons]
    omega
theorem bulk_mem {H : Type} {l : List (DataW H)} {d : DataW H} (h : d ∈ l) : Rows.uptoBulk d ≤ Rows.uptoBulkAll l := by
  induction l with
  | nil => cases h
  | cons a l ih =>
    simp only [Rows.uptoBulkAll]
    rcases List.mem_cons.1 h with rfl | h
    · omega
    · have := ih h; omega
theorem bulk_arg {H : Type} {ds : List (DataW H)} (h : Rows.uptoSmall H ds = true) {j : Nat} {d : DataW H} (hd : ds[j]? = some d) : Rows.uptoBulk d ≤ 1048576 := by
  have h : Rows.uptoBulkAll ds ≤ 1048576 := of_decide_eq_true h
  have := bulk_mem (List.mem_of_getElem? hd)
  omega

section
variable {H : Type} {enc : TypeId × Value → H} {P : Program} {w : World} {base : Nat} {spare : Nat → Bool} {held : Bool}
theorem open_rsl {α : Type} {t e : TypeId} {fuel : Nat} {v : Value} {x : DataW H × List MemPlace} {sz : Nat} {E : List Value → α → Prop} {Sm : Nat → α → Prop} (mono : ∀ m n a, m ≤ n → Sm m a → Sm n a)
    (ht : P.underlying t = some (.slice e)) (hC : P.cellsOf e = sz) (hsz : 0 < sz)
    (hel : ∀ (fuel : Nat) (cs : List Value) (x : DataW H × List MemPlace), DataW.trod enc P w base spare held fuel e cs = some x → ∃ a, E cs a ∧ Sm (Rows.uptoBulk x.1) a)
    (h : DataW.trod enc P w base spare held fuel t [v] = some x) :
    ∃ xs : List α, RSl (fun b => b < w.heap.size) w sz E v xs ∧ xs.length ≤ Rows.uptoBulk x.1 ∧ ∀ a ∈ xs, Sm (Rows.uptoBulk x.1) a := by
  rcases open_slice ht h with ⟨hv, _⟩ | ⟨a, len, cap, m, n, D, Pl, hv, hb, hl, hm, hmm, hx, hi⟩
  · simp only [List.cons.injEq, and_true] at hv
    subst hv
    exact ⟨[], RSl.nil, by simp, by simp⟩
  · simp only [List.cons.injEq, and_true] at hv
    subst hv
    have hml : len ≤ m := by rw [hmm]; split <;> omega
    have hbk : Rows.uptoBulkAll ((List.range len).map D) + 1 ≤ Rows.uptoBulk x.1 := by rw [hx]; simp only [Rows.uptoBulk]; omega
    have hbl := bulk_ge ((List.range len).map D)
    simp only [List.length_map, List.length_range] at hbl
    have hq : ∀ i, i < len → ∃ a' : α, Sm (Rows.uptoBulk x.1) a' ∧ ∃ cs, E cs a' ∧ cs.length = sz ∧ ∀ j u, cs[j]? = some u → w.cell? ((a.add (i * sz)).add j) = some u := by
      intro i hil
      obtain ⟨cs', hc, ht'⟩ := hi i (by omega)
      rw [hC] at hc
      obtain ⟨a', hE, hS⟩ := hel _ _ _ ht'
      obtain ⟨_, hcl, hat⟩ := World.cells?_some hc
      have hD : Rows.uptoBulk (D i) ≤ Rows.uptoBulkAll ((List.range len).map D) := bulk_mem (List.mem_map.2 ⟨i, List.mem_range.2 hil, rfl⟩)
      refine ⟨a', mono _ _ _ (show Rows.uptoBulk (D i) ≤ _ by omega) hS, cs', hE, hcl, fun j u hu => ?_⟩
      have hj : j < sz := by
        have := (List.getElem?_eq_some_iff.1 hu).1
        omega
      rw [hat j hj, hu]
    rcases Nat.eq_zero_or_pos len with h0 | hpos
    · subst h0
      exact ⟨[], ⟨some a, cap, rfl, Nat.zero_le _, hm, fun h => (by cases h), .inl rfl⟩, by simp, by simp⟩
    · have hne : ∃ _ : α, True := by obtain ⟨a', _, _⟩ := hq 0 hpos; exact ⟨a', trivial⟩
      obtain ⟨dflt, _⟩ := hne
      have hch : ∃ f : Nat → α, ∀ i, i < len → Sm (Rows.uptoBulk x.1) (f i) ∧ ∃ cs, E cs (f i) ∧ cs.length = sz ∧ ∀ j u, cs[j]? = some u → w.cell? ((a.add (i * sz)).add j) = some u := by
        refine ⟨fun i => if hil : i < len then (hq i hil).choose else dflt, fun i hil => ?_⟩
        simp only [dif_pos hil]
        exact (hq i hil).choose_spec
      obtain ⟨f, hf⟩ := hch
      obtain ⟨b, off, spot⟩ := a
      obtain ⟨_, cs0, _, hl0, hc0⟩ := hf 0 hpos
      have h00 := hc0 0 (cs0[0]'(by omega)) (List.getElem?_eq_getElem _)
      have hspot : spot = none := by
        have := World.cell?_spot h00
        simpa [Addr.add] using this
      subst hspot
      have hblt : b < w.heap.size := by
        have := World.block_lt_of_cell? w _ h00
        rwa [rd_add, rd_add] at this
      refine ⟨(List.range len).map f, ⟨some ⟨b, off, none⟩, cap, by simp, by simpa using hl, hm, (fun h => by cases h), .inr ⟨b, off, rfl, hblt, hblt, ?_⟩⟩, by simp; omega, ?_⟩
      · intro i y hy
        have hil : i < len := by
          have := (List.getElem?_eq_some_iff.1 hy).1
          simpa using this
        have hx' : f i = y := by simpa [List.getElem?_map, List.getElem?_range hil] using hy
        subst hx'
        obtain ⟨_, cs, h1, h2, h3⟩ := hf i hil
        refine ⟨cs, h1, fun j u hu => ?_⟩
        have := h3 j u hu
        rw [rd_add, rd_add] at this
        exact this
      · intro a' ha'
        obtain ⟨i, hi', rfl⟩ := List.mem_map.1 ha'
        exact (hf i (List.mem_range.1 hi')).1
end

/-- All lists of a pattern, a rule are at most n long. -/
def patSm (n : Nat) (p : Pat) : Prop := p.args.length ≤ n
structure rlSm (n : Nat) (r : Rl) : Prop where
  head : patSm n r.head
  pos : r.pos.length ≤ n ∧ ∀ p ∈ r.pos, patSm n p
  tests : r.tests.length ≤ n
  neg : r.neg.length ≤ n ∧ ∀ p ∈ r.neg, patSm n p
  vars : r.vars.length ≤ n
theorem patSm.mono {m n : Nat} {p : Pat} (h : m ≤ n) (hp : patSm m p) : patSm n p := Nat.le_trans hp h
theorem rlSm.mono {m n : Nat} {r : Rl} (h : m ≤ n) (hp : rlSm m r) : rlSm n r :=
  ⟨hp.head.mono h, ⟨Nat.le_trans hp.pos.1 h, fun p hh => (hp.pos.2 p hh).mono h⟩, Nat.le_trans hp.tests h, ⟨Nat.le_trans hp.neg.1 h, fun p hh => (hp.neg.2 p hh).mono h⟩, Nat.le_trans hp.vars h⟩

section
variable {H : Type} {enc : TypeId × Value → H} {w : World} {base : Nat} {spare : Nat → Bool} {held : Bool} {fuel : Nat} {cs : List Value} {x : DataW H × List MemPlace}
theorem cIntR : Try.prog.cellsOf 3 = 1 := by kernel_rfl
theorem cBoolR : Try.prog.cellsOf 4 = 1 := by kernel_rfl
theorem cStrR : Try.prog.cellsOf 9 = 1 := by kernel_rfl
theorem cSltR : Try.prog.cellsOf 50 = 2 := by kernel_rfl
theorem cPatR : Try.prog.cellsOf 34 = 2 := by kernel_rfl
theorem cTstR : Try.prog.cellsOf 52 = 5 := by kernel_rfl
theorem cRlR : Try.prog.cellsOf 39 = 7 := by kernel_rfl
theorem cSPat : Try.prog.cellsOf 35 = 1 := by kernel_rfl
theorem cSSlt : Try.prog.cellsOf 32 = 1 := by kernel_rfl
theorem cSTst : Try.prog.cellsOf 36 = 1 := by kernel_rfl
theorem cSStr : Try.prog.cellsOf 37 = 1 := by kernel_rfl

theorem list_one {α : Type} {l : List α} (h : l.length = 1) : ∃ a, l = [a] := by
  match l, h with
  | [a], _ => exact ⟨a, rfl⟩
theorem list_two {α : Type} {l : List α} (h : l.length = 2) : ∃ a b, l = [a, b] := by
  match l, h with
  | [a, b], _ => exact ⟨a, b, rfl⟩
theorem list_five {α : Type} {l : List α} (h : l.length = 5) : ∃ a b c d e, l = [a, b, c, d, e] := by
  match l, h with
  | [a, b, c, d, e], _ => exact ⟨a, b, c, d, e, rfl⟩
theorem list_seven {α : Type} {l : List α} (h : l.length = 7) : ∃ a b c d e f g, l = [a, b, c, d, e, f, g] := by
  match l, h with
  | [a, b, c, d, e, f, g], _ => exact ⟨a, b, c, d, e, f, g, rfl⟩
theorem list_six {α : Type} {l : List α} (h : l.length = 6) : ∃ a b c d e f, l = [a, b, c, d, e, f] := by
  match l, h with
  | [a, b, c, d, e, f], _ => exact ⟨a, b, c, d, e, f, rfl⟩
theorem list_three {α : Type} {l : List α} (h : l.length = 3) : ∃ a b c, l = [a, b, c] := by
  match l, h with
  | [a, b, c], _ => exact ⟨a, b, c, rfl⟩
theorem bulk_part {d : DataW H} {ys : List (DataW H × List MemPlace)} (hx : d = .agg (ys.map (·.1))) {y : DataW H × List MemPlace} (hy : y ∈ ys) : Rows.uptoBulk y.1 ≤ Rows.uptoBulk d := by
  have := bulk_mem (List.mem_map.2 ⟨y, hy, rfl⟩ : y.1 ∈ ys.map (·.1))
  rw [hx]
  simp only [Rows.uptoBulk]
  omega

theorem open_slt (h : DataW.trod enc Try.prog w base spare held fuel 50 cs = some x) : ∃ s : Slt, ESlt cs s ∧ True := by
  obtain ⟨ys, n, _, _, hlen, hyl, hf⟩ := DataW.trod_struct Try.underlying50 h
  rw [cSltR] at hlen
  obtain ⟨a, b, rfl⟩ := list_two hlen
  obtain ⟨y0, y1, rfl⟩ := list_two (show ys.length = 2 from hyl)
  have g0 := hf 0 _ rfl
  change DataW.trod enc Try.prog w base spare held n 4 (List.take (Try.prog.cellsOf 4) (List.drop 0 [a, b])) = some y0 at g0
  rw [cBoolR] at g0
  have g1 := hf 1 _ rfl
  change DataW.trod enc Try.prog w base spare held n 3 (List.take (Try.prog.cellsOf 3) (List.drop 1 [a, b])) = some y1 at g1
  rw [cIntR] at g1
  simp only [List.drop_zero, List.take_succ_cons, List.take_zero, List.drop_succ_cons] at g0 g1
  obtain ⟨v, hv, _⟩ := DataW.trod_bool Try.underlying4 g0
  obtain ⟨k, hk, _, wk⟩ := DataW.trod_int Try.underlying3 g1
  simp only [List.cons.injEq, and_true] at hv hk
  subst hv; subst hk
  exact ⟨⟨v, k⟩, ⟨rfl, wk⟩, trivial⟩
theorem open_str (h : DataW.trod enc Try.prog w base spare held fuel 9 cs = some x) : ∃ s : ByteArray, EStr cs s ∧ s.size ≤ Rows.uptoBulk x.1 := by
  obtain ⟨s, hs, hx, ws⟩ := DataW.trod_string Try.underlying9 h
  refine ⟨s, ⟨hs, ws⟩, ?_⟩
  have e3 : s.data.toList.length = s.size := by rw [Array.length_toList]; rfl
  rw [hx]
  simp only [Rows.uptoBulk]
  omega
theorem open_pat (h : DataW.trod enc Try.prog w base spare held fuel 34 cs = some x) : ∃ p : Pat, EPat (fun b => b < w.heap.size) w cs p ∧ patSm (Rows.uptoBulk x.1) p := by
  obtain ⟨ys, n, _, hx, hlen, hyl, hf⟩ := DataW.trod_struct Try.underlying34 h
  rw [cPatR] at hlen
  obtain ⟨a, b, rfl⟩ := list_two hlen
  obtain ⟨y0, y1, rfl⟩ := list_two (show ys.length = 2 from hyl)
  have g0 := hf 0 _ rfl
  change DataW.trod enc Try.prog w base spare held n 3 (List.take (Try.prog.cellsOf 3) (List.drop 0 [a, b])) = some y0 at g0
  rw [cIntR] at g0
  have g1 := hf 1 _ rfl
  change DataW.trod enc Try.prog w base spare held n 32 (List.take (Try.prog.cellsOf 32) (List.drop 1 [a, b])) = some y1 at g1
  rw [cSSlt] at g1
  simp only [List.drop_zero, List.take_succ_cons, List.take_zero, List.drop_succ_cons] at g0 g1
  obtain ⟨k, hk, _, wk⟩ := DataW.trod_int Try.underlying3 g0
  simp only [List.cons.injEq, and_true] at hk
  subst hk
  obtain ⟨xs, r1, r2, _⟩ := open_rsl (E := ESlt) (Sm := fun _ _ => True) (fun _ _ _ _ _ => trivial) Try.underlying32 cSltR (by decide) (fun _ _ _ h => open_slt h) g1
  refine ⟨⟨k, xs⟩, ⟨b, rfl, wk, r1⟩, ?_⟩
  have := bulk_part (d := x.1) (by rw [hx]) (show y1 ∈ [y0, y1] by simp)
  exact Nat.le_trans r2 this
theorem open_tst (h : DataW.trod enc Try.prog w base spare held fuel 52 cs = some x) : ∃ t : Tst, ETst cs t ∧ True := by
  obtain ⟨ys, n, _, hx, hlen, hyl, hf⟩ := DataW.trod_struct Try.underlying52 h
  rw [cTstR] at hlen
  obtain ⟨a, b, c, d, e, rfl⟩ := list_five hlen
  obtain ⟨y0, y1, y2, rfl⟩ := list_three (show ys.length = 3 from hyl)
  have g0 := hf 0 _ rfl
  change DataW.trod enc Try.prog w base spare held n 3 (List.take (Try.prog.cellsOf 3) (List.drop 0 [a, b, c, d, e])) = some y0 at g0
  rw [cIntR] at g0
  have g1 := hf 1 _ rfl
  change DataW.trod enc Try.prog w base spare held n 50 (List.take (Try.prog.cellsOf 50) (List.drop 1 [a, b, c, d, e])) = some y1 at g1
  rw [cSltR] at g1
  have g2 := hf 2 _ rfl
  change DataW.trod enc Try.prog w base spare held n 50 (List.take (Try.prog.cellsOf 50) (List.drop 3 [a, b, c, d, e])) = some y2 at g2
  rw [cSltR] at g2
  simp only [List.drop_zero, List.take_succ_cons, List.take_zero, List.drop_succ_cons] at g0 g1 g2
  obtain ⟨k, hk, _, wk⟩ := DataW.trod_int Try.underlying3 g0
  obtain ⟨s1, ⟨e1, k1⟩, _⟩ := open_slt g1
  obtain ⟨s2, ⟨e2, k2⟩, _⟩ := open_slt g2
  simp only [List.cons.injEq, and_true] at hk e1 e2
  obtain ⟨rfl, rfl⟩ := e1
  obtain ⟨rfl, rfl⟩ := e2
  subst hk
  exact ⟨⟨k, s1, s2⟩, ⟨rfl, wk, k1, k2⟩, trivial⟩
theorem open_rl (h : DataW.trod enc Try.prog w base spare held fuel 39 cs = some x) : ∃ r : Rl, ERule (fun b => b < w.heap.size) w cs r ∧ rlSm (Rows.uptoBulk x.1) r := by
  obtain ⟨ys, n, _, hx, hlen, hyl, hf⟩ := DataW.trod_struct Try.underlying39 h
  rw [cRlR] at hlen
  obtain ⟨a, b, c, d, e, f, g, rfl⟩ := list_seven hlen
  obtain ⟨y0, y1, y2, y3, y4, y5, rfl⟩ := list_six (show ys.length = 6 from hyl)
  have g0 := hf 0 _ rfl
  change DataW.trod enc Try.prog w base spare held n 34 (List.take (Try.prog.cellsOf 34) (List.drop 0 [a, b, c, d, e, f, g])) = some y0 at g0
  rw [cPatR] at g0
  have g1 := hf 1 _ rfl
  change DataW.trod enc Try.prog w base spare held n 35 (List.take (Try.prog.cellsOf 35) (List.drop 2 [a, b, c, d, e, f, g])) = some y1 at g1
  rw [cSPat] at g1
  have g2 := hf 2 _ rfl
  change DataW.trod enc Try.prog w base spare held n 36 (List.take (Try.prog.cellsOf 36) (List.drop 3 [a, b, c, d, e, f, g])) = some y2 at g2
  rw [cSTst] at g2
  have g3 := hf 3 _ rfl
  change DataW.trod enc Try.prog w base spare held n 35 (List.take (Try.prog.cellsOf 35) (List.drop 4 [a, b, c, d, e, f, g])) = some y3 at g3
  rw [cSPat] at g3
  have g4 := hf 4 _ rfl
  change DataW.trod enc Try.prog w base spare held n 37 (List.take (Try.prog.cellsOf 37) (List.drop 5 [a, b, c, d, e, f, g])) = some y4 at g4
  rw [cSStr] at g4
  have g5 := hf 5 _ rfl
  change DataW.trod enc Try.prog w base spare held n 3 (List.take (Try.prog.cellsOf 3) (List.drop 6 [a, b, c, d, e, f, g])) = some y5 at g5
  rw [cIntR] at g5
  simp only [List.drop_zero, List.take_succ_cons, List.take_zero, List.drop_succ_cons] at g0 g1 g2 g3 g4 g5
  obtain ⟨hd, ⟨hv, h1, h2, h3⟩, h4⟩ := open_pat g0
  simp only [List.cons.injEq, and_true] at h1
  obtain ⟨rfl, rfl⟩ := h1
  obtain ⟨ps, p1, p2, p3⟩ := open_rsl (E := EPat (fun b => b < w.heap.size) w) (Sm := patSm) (fun _ _ _ h h' => h'.mono h) Try.underlying35 cPatR (by decide) (fun _ _ _ h => open_pat h) g1
  obtain ⟨ts, t1, t2, _⟩ := open_rsl (E := ETst) (Sm := fun _ _ => True) (fun _ _ _ _ _ => trivial) Try.underlying36 cTstR (by decide) (fun _ _ _ h => open_tst h) g2
  obtain ⟨ns, n1, n2, n3⟩ := open_rsl (E := EPat (fun b => b < w.heap.size) w) (Sm := patSm) (fun _ _ _ h h' => h'.mono h) Try.underlying35 cPatR (by decide) (fun _ _ _ h => open_pat h) g3
  obtain ⟨vs, v1, v2, _⟩ := open_rsl (E := EStr) (Sm := fun _ _ => True) (fun _ _ _ _ _ => trivial) Try.underlying37 cStrR (by decide) (fun _ _ _ h => by obtain ⟨s, h1, _⟩ := open_str h; exact ⟨s, h1, trivial⟩) g4
  obtain ⟨k, hk, _, wk⟩ := DataW.trod_int Try.underlying3 g5
  simp only [List.cons.injEq, and_true] at hk
  subst hk
  have B : ∀ y ∈ [y0, y1, y2, y3, y4, y5], Rows.uptoBulk y.1 ≤ Rows.uptoBulk x.1 := fun y hy => bulk_part (d := x.1) (by rw [hx]) hy
  have b0 := B y0 (by simp); have b1 := B y1 (by simp); have b2 := B y2 (by simp); have b3 := B y3 (by simp); have b4 := B y4 (by simp)
  exact ⟨⟨hd, ps, ts, ns, vs, k⟩, ⟨_, c, d, e, f, ⟨rfl, h2, wk, h3, p1, t1, n1, v1⟩⟩,
    ⟨h4.mono b0, ⟨Nat.le_trans p2 b1, fun p hp => (p3 p hp).mono b1⟩, Nat.le_trans t2 b2, ⟨Nat.le_trans n2 b3, fun p hp => (n3 p hp).mono b3⟩, Nat.le_trans v2 b4⟩⟩
theorem open_rules {v : Value} (h : DataW.trod enc Try.prog w base spare held fuel 22 [v] = some x) : ∃ rs : List Rl, RRules (fun b => b < w.heap.size) w v rs ∧ rs.length ≤ Rows.uptoBulk x.1 ∧ ∀ r ∈ rs, rlSm (Rows.uptoBulk x.1) r :=
  open_rsl (Sm := rlSm) (fun _ _ _ h h' => h'.mono h) Try.underlying22 cRlR (by decide) (fun _ _ _ h => open_rl h) h
end
end Go.Proofs.Ytonkbjdeaneicaa
