/- Plans, in plain Lean: the plan of all rules: parents, ways, no idle node. Words for data with depth that are read: slices of structs with slices in them; their blocks stay. Over any program. The opening of arguments: lists of rules; how long the lists are. -/
import Derived.Test.YtonkbjdeaneicaaDoorKpa01
import Derived.Test.YtonkbjdeaneicaaDoorKpa04
import Derived.Test.YtonkbjdeaneicaaDoorKpa05
import Derived.Test.YtonkbjdeaneicaaDoorRows
namespace Go.Proofs.YtonkbjdeaneicaaDoor.Pln
open Classical

/-- Parents come ahead; the root stands first, and there alone. -/
structure Wf (st : St) : Prop where
  root : st.ns[0]? = some rootN
  dup : st.ns.Nodup
  par : ∀ (i : Nat) (n : Nd), st.ns[i]? = some n → 0 < i → ∃ u : Nat, u < i ∧ n.parent = u ∧ (n.kind = 1 ∨ n.kind = 2 ∨ n.kind = 3)
  adup : st.al.Nodup
theorem Wf.len {st : St} (h : Wf st) : 0 < st.ns.length := (List.getElem?_eq_some_iff.1 h.root).1
theorem wf_start : Wf ⟨[], [rootN]⟩ := ⟨rfl, by simp, fun i n h h0 => by
  have := (List.getElem?_eq_some_iff.1 h).1
  simp at this
  omega, by simp⟩
theorem Wf.add {st : St} (h : Wf st) {u : Nat} (hu : u < st.ns.length) {n : Nd} (hp : n.parent = u) (hk : n.kind = 1 ∨ n.kind = 2 ∨ n.kind = 3) {al : List Shp} (ha : al.Nodup) : Wf ⟨al, addF st.ns n⟩ := by
  refine ⟨?_, addF_nodup h.dup, ?_, ha⟩
  · obtain ⟨r, hr, _⟩ := addF_pre st.ns n
    show (addF st.ns n)[0]? = _
    rw [hr, List.getElem?_append_left h.len]
    exact h.root
  · intro i m hm h0
    have hm : (addF st.ns n)[i]? = some m := hm
    unfold addF at hm
    split at hm
    · exact h.par i m hm h0
    · rcases Nat.lt_or_ge i st.ns.length with hlt | hge
      · rw [List.getElem?_append_left hlt] at hm
        exact h.par i m hm h0
      · have hl := (List.getElem?_eq_some_iff.1 hm).1
        simp at hl
        obtain rfl : i = st.ns.length := by omega
        rw [List.getElem?_append_right (Nat.le_refl _), Nat.sub_self] at hm
        simp at hm
        subst hm
        exact ⟨u, hu, hp, hk⟩
def ok3 (c : Cnd) : Prop := c.kind = 1 ∨ c.kind = 2 ∨ c.kind = 3
theorem Wf.step {x : Nat × St} (h : Wf x.2) (hu : x.1 < x.2.ns.length) {c : Cnd} (hc : ok3 c) : Wf (stepF x c).2 := by
  unfold stepF
  by_cases hk : c.kind = 2
  · rw [if_pos hk]
    exact h.add hu rfl (.inr (.inl rfl)) h.adup
  · rw [if_neg hk]
    exact h.add (n := nodeOf x.2 c.kind x.1 c.p) hu rfl hc (addF_nodup h.adup)
theorem Wf.fold : ∀ (cs : List Cnd) {x : Nat × St}, Wf x.2 → x.1 < x.2.ns.length → (∀ c ∈ cs, ok3 c) → Wf (cs.foldl stepF x).2
  | [], _, h, _, _ => h
  | c :: r, x, h, hu, hc => by
    rw [List.foldl_cons]
    exact Wf.fold r (h.step hu (hc c (List.mem_cons_self ..))) (stepF_facts x c hu).2.2.2 (fun d hd => hc d (List.mem_cons_of_mem _ hd))
theorem conds_ok3 (r : Rl) : ∀ c ∈ conds r, ok3 c := by
  intro c hc
  unfold conds at hc
  rcases List.mem_append.1 hc with hc | hc
  · rcases List.mem_append.1 hc with hc | hc
    · obtain ⟨p, _, rfl⟩ := List.mem_map.1 hc; exact .inl rfl
    · obtain ⟨p, _, rfl⟩ := List.mem_map.1 hc; exact .inr (.inl rfl)
  · obtain ⟨p, _, rfl⟩ := List.mem_map.1 hc; exact .inr (.inr rfl)

/-- The nodes that a fold adds lie on its way. -/
theorem fold_used : ∀ (cs : List Cnd) (x : Nat × St), x.1 < x.2.ns.length → ∀ k, x.2.ns.length ≤ k → k < (cs.foldl stepF x).2.ns.length → k ∈ wayF (cs.foldl stepF x).2 x.1 cs
  | [], x, _, k, h1, h2 => by simp at h2; omega
  | c :: r, x, hx, k, h1, h2 => by
    obtain ⟨s1, s2, s3, s4⟩ := stepF_facts x c hx
    have hE := ext_fold r (stepF x c)
    rw [List.foldl_cons] at h2 ⊢
    have hx' : x.1 < (stepF x c).2.ns.length := Nat.lt_of_lt_of_le hx (ext_stepF x c).len
    have e := nodeC_ext hE hx' s1
    have e2 : placeF (r.foldl stepF (stepF x c)).2.ns (nodeC (stepF x c).2 x.1 c) = (stepF x c).1 := by
      rw [s3]
      obtain ⟨_, ⟨q, h⟩⟩ := hE
      rw [h, placeF_app s2]
    simp only [wayF]
    rw [e, e2]
    rcases Nat.lt_or_ge k (stepF x c).2.ns.length with hlt | hge
    · have hk : k = (stepF x c).1 := by
        unfold stepF at hlt ⊢
        by_cases hk : c.kind = 2
        · rw [if_pos hk] at hlt ⊢
          simp only [tstF] at hlt ⊢
          unfold addF at hlt
          split at hlt
          · omega
          · rename_i hn
            rw [placeF_none hn]
            simp at hlt
            omega
        · rw [if_neg hk] at hlt ⊢
          simp only [patF] at hlt ⊢
          unfold addF at hlt
          split at hlt
          · omega
          · rename_i hn
            rw [placeF_none hn]
            simp at hlt
            omega
      rw [hk]
      exact List.mem_cons_self ..
    · exact List.mem_cons_of_mem _ (fold_used r (stepF x c) s4 k hge h2)

/-- What stands behind the first rules. -/
structure Made (rs : List Rl) (st : St) (es : List Nat) : Prop where
  wf : Wf st
  len : es.length = rs.length
  ways : ∀ (i : Nat) (r : Rl), rs[i]? = some r → Stands st 0 (conds r) ∧ ∃ e, es[i]? = some e ∧ e = (wayF st 0 (conds r)).getLast?.getD 0 ∧ e < st.ns.length
  used : ∀ k, 0 < k → k < st.ns.length → ∃ (i : Nat) (r : Rl), rs[i]? = some r ∧ k ∈ wayF st 0 (conds r)
theorem made_start : Made [] ⟨[], [rootN]⟩ [] := ⟨wf_start, rfl, fun i r h => by simp at h, fun k h1 h2 => by simp at h2; omega⟩
theorem Made.next {rs : List Rl} {st : St} {es : List Nat} (h : Made rs st es) (r : Rl) : Made (rs ++ [r]) (ruleF st r).2 (es ++ [(ruleF st r).1]) := by
  rw [ruleF_conds]
  obtain ⟨i1, i2, i3⟩ := stands_fold (conds r) (0, st) h.wf.len
  have hE : Ext st ((conds r).foldl stepF (0, st)).2 := ext_fold (conds r) (0, st)
  refine ⟨Wf.fold (conds r) h.wf h.wf.len (conds_ok3 r), by simp [h.len], ?_, ?_⟩
  · intro i q hi
    rcases Nat.lt_or_ge i rs.length with hlt | hge
    · rw [List.getElem?_append_left hlt] at hi
      obtain ⟨h1, e, h2, h3, h4⟩ := h.ways i q hi
      obtain ⟨j1, j2⟩ := stands_ext hE (conds q) 0 h1
      exact ⟨j1, e, by rw [List.getElem?_append_left (by rw [h.len]; exact hlt)]; exact h2, by rw [j2]; exact h3, Nat.lt_of_lt_of_le h4 hE.len⟩
    · have hl := (List.getElem?_eq_some_iff.1 hi).1
      simp at hl
      obtain rfl : i = rs.length := by omega
      rw [List.getElem?_append_right (Nat.le_refl _), Nat.sub_self] at hi
      simp at hi
      subst hi
      exact ⟨i1, _, by rw [← h.len, List.getElem?_append_right (Nat.le_refl _), Nat.sub_self]; rfl, i2, i3⟩
  · intro k hk0 hk
    rcases Nat.lt_or_ge k st.ns.length with hlt | hge
    · obtain ⟨i, q, h1, h2⟩ := h.used k hk0 hlt
      obtain ⟨j1, j2⟩ := stands_ext hE (conds q) 0 (h.ways i q h1).1
      exact ⟨i, q, by rw [List.getElem?_append_left (List.getElem?_eq_some_iff.1 h1).1]; exact h1, by rw [j2]; exact h2⟩
    · exact ⟨rs.length, r, by simp, fold_used (conds r) (0, st) h.wf.len k hge hk⟩
theorem comp_take_succ {rs : List Rl} {i : Nat} {r : Rl} (h : rs[i]? = some r) : compF (rs.take (i + 1)) = endF (compF (rs.take i)) r := by
  unfold compF
  rw [List.take_add_one, h, List.foldl_append]
  rfl
theorem made_comp (rs : List Rl) : Made rs (compF rs).1 (compF rs).2 := by
  suffices h : ∀ k, k ≤ rs.length → Made (rs.take k) (compF (rs.take k)).1 (compF (rs.take k)).2 by
    have := h rs.length (Nat.le_refl _)
    rwa [List.take_length] at this
  intro k
  induction k with
  | zero => intro _; exact made_start
  | succ k ih =>
    intro hk
    have hr : rs[k]? = some rs[k] := List.getElem?_eq_getElem (by omega)
    have := (ih (by omega)).next rs[k]
    rw [comp_take_succ hr]
    have e : rs.take (k + 1) = rs.take k ++ [rs[k]] := by rw [List.take_add_one, hr]; rfl
    rw [e]
    exact this

/-- Each step of a way: a node, its parent, its content. -/
theorem way_at {st : St} (hwf : Wf st) : ∀ (cs : List Cnd) (u : Nat), Stands st u cs → (∀ c ∈ cs, ok3 c) → ∀ (j : Nat) (v : Nat), (wayF st u cs)[j]? = some v →
    ∃ c, cs[j]? = some c ∧ (u :: wayF st u cs)[j]? = some ((u :: wayF st u cs).getD j 0) ∧ st.ns[v]? = some (nodeC st ((u :: wayF st u cs).getD j 0) c) ∧ (u :: wayF st u cs).getD j 0 < v
  | [], _, _, _, j, v, h => by simp [wayF] at h
  | c :: r, u, ⟨hu, hs, hm, hr⟩, hc, j, v, h => by
    have hp := (placeF_lt hm).2
    have hpos : u < placeF st.ns (nodeC st u c) := by
      have h0 : 0 < placeF st.ns (nodeC st u c) := by
        rcases Nat.eq_zero_or_pos (placeF st.ns (nodeC st u c)) with h0 | h0
        · exfalso
          rw [h0, hwf.root] at hp
          have := congrArg Nd.kind (Option.some.inj hp)
          unfold nodeC at this
          have h3 := hc c (List.mem_cons_self ..)
          split at this
          · exact absurd this (by intro h; cases h)
          · simp only [rootN, nodeOf] at this
            rcases h3 with h3 | h3 | h3 <;> rw [h3] at this <;> exact absurd this (by decide)
        · exact h0
      obtain ⟨u', h1, h2, _⟩ := hwf.par _ _ hp h0
      have : (nodeC st u c).parent = u := by unfold nodeC; split <;> rfl
      omega
    match j with
    | 0 =>
      simp only [wayF, List.getElem?_cons_zero, Option.some.injEq] at h
      subst h
      exact ⟨c, rfl, rfl, hp, hpos⟩
    | j + 1 =>
      simp only [wayF, List.getElem?_cons_succ] at h
      obtain ⟨d, h1, h2, h3, h4⟩ := way_at hwf r _ hr (fun d hd => hc d (List.mem_cons_of_mem _ hd)) j v h
      refine ⟨d, by simpa using h1, ?_, ?_, ?_⟩
      · simp only [wayF, List.getElem?_cons_succ, List.getD_cons_succ]; exact h2
      · simp only [wayF, List.getD_cons_succ]; exact h3
      · simp only [wayF, List.getD_cons_succ]; exact h4
theorem way_len (st : St) : ∀ (cs : List Cnd) (u : Nat), (wayF st u cs).length = cs.length
  | [], _ => rfl
  | c :: r, u => by simp only [wayF, List.length_cons]; rw [way_len st r]
theorem way_take (st : St) : ∀ (cs : List Cnd) (u k : Nat), (wayF st u cs).take k = wayF st u (cs.take k)
  | [], _, k => by simp [wayF]
  | c :: r, u, 0 => rfl
  | c :: r, u, k + 1 => by simp only [wayF, List.take_succ_cons]; rw [way_take st r]
/-- How many variables are bound at the way's places. -/
theorem way_width {st : St} : ∀ (cs : List Cnd) (u w : Nat), Stands st u cs → okCs w cs → widthAt st u = w → ∀ (j : Nat) (c : Cnd), cs[j]? = some c →
    ∃ w' : Nat, widthAt st ((u :: wayF st u cs).getD j 0) = (w' : Int) ∧ okC w' c ∧ Shaped st c
  | [], _, _, _, _, _, j, c, h => by simp at h
  | d :: r, u, w, ⟨hu, hs, hm, hr⟩, ⟨ho, hos⟩, hw, j, c, h => by
    match j with
    | 0 =>
      simp only [List.getElem?_cons_zero, Option.some.injEq] at h
      subst h
      exact ⟨w, hw, ho, hs⟩
    | j + 1 =>
      simp only [List.getElem?_cons_succ] at h
      have e : widthAt st (placeF st.ns (nodeC st u d)) = (nextW w d : Int) := by
        unfold widthAt
        rw [(placeF_lt hm).2]
        exact nodeC_width ho hw
      obtain ⟨w', h1, h2⟩ := way_width r _ _ hr hos e j c h
      exact ⟨w', by simp only [wayF, List.getD_cons_succ]; exact h1, h2⟩

/-- How many of two lists' heads agree. -/
noncomputable def lcp {α : Type} : List α → List α → Nat
  | a :: l, b :: r => if a = b then lcp l r + 1 else 0
  | _, _ => 0
theorem lcp_le {α : Type} : ∀ (a b : List α), lcp a b ≤ a.length ∧ lcp a b ≤ b.length
  | [], _ => by simp [lcp]
  | _ :: _, [] => by simp [lcp]
  | a :: l, b :: r => by
    have := lcp_le l r
    unfold lcp
    split
    · simp only [List.length_cons]; omega
    · simp
theorem lcp_take {α : Type} : ∀ (a b : List α), a.take (lcp a b) = b.take (lcp a b)
  | [], b => by simp [lcp]
  | _ :: _, [] => by simp [lcp]
  | a :: l, b :: r => by
    unfold lcp
    split
    · rename_i h
      rw [List.take_succ_cons, List.take_succ_cons, h, lcp_take l r]
    · simp
theorem lcp_ne {α : Type} : ∀ (a b : List α) (x y : α), a[lcp a b]? = some x → b[lcp a b]? = some y → x ≠ y
  | [], b, x, y, h, _ => by simp at h
  | _ :: _, [], x, y, _, h => by simp at h
  | a :: l, b :: r, x, y, h1, h2 => by
    unfold lcp at h1 h2
    split at h1
    · rename_i h
      rw [if_pos h] at h2
      simp only [List.getElem?_cons_succ] at h1 h2
      exact lcp_ne l r x y h1 h2
    · rename_i h
      rw [if_neg h] at h2
      simp only [List.getElem?_cons_zero, Option.some.injEq] at h1 h2
      rw [← h1, ← h2]
      exact h
/-- Two ways are one as far as the chains agree, and part there. -/
theorem ways_share {st : St} (hwf : Wf st) {a b : List Cnd} (ha : Stands st 0 a) (hb : Stands st 0 b) (oa : okCs 0 a) (ob : okCs 0 b) (ka : ∀ c ∈ a, ok3 c) (kb : ∀ c ∈ b, ok3 c) :
    (wayF st 0 a).take (lcp a b) = (wayF st 0 b).take (lcp a b) ∧ ∀ x y, (wayF st 0 a)[lcp a b]? = some x → (wayF st 0 b)[lcp a b]? = some y → x ≠ y := by
  have e1 : (wayF st 0 a).take (lcp a b) = (wayF st 0 b).take (lcp a b) := by rw [way_take, way_take, lcp_take]
  have w0 : widthAt st 0 = ((0 : Nat) : Int) := by unfold widthAt; rw [hwf.root]; rfl
  refine ⟨e1, fun x y hx hy hxy => ?_⟩
  subst hxy
  obtain ⟨c, c1, c2, c3, _⟩ := way_at hwf a 0 ha ka _ x hx
  obtain ⟨d, d1, d2, d3, _⟩ := way_at hwf b 0 hb kb _ x hy
  obtain ⟨w1, w2, w3, w4⟩ := way_width a 0 0 ha oa w0 _ c c1
  obtain ⟨v1, v2, v3, v4⟩ := way_width b 0 0 hb ob w0 _ d d1
  have e2 : (0 :: wayF st 0 a).getD (lcp a b) 0 = (0 :: wayF st 0 b).getD (lcp a b) 0 := by
    match h : lcp a b with
    | 0 => rfl
    | k + 1 =>
      rw [h] at e1
      simp only [List.getD_cons_succ]
      have h1 : ((wayF st 0 a).take (k + 1))[k]? = ((wayF st 0 b).take (k + 1))[k]? := by rw [e1]
      rw [List.getElem?_take_of_lt (by omega), List.getElem?_take_of_lt (by omega)] at h1
      rw [List.getD_eq_getElem?_getD, List.getD_eq_getElem?_getD, h1]
  rw [e2] at c3 w2
  rw [c3] at d3
  have e3 : w1 = v1 := by omega
  subst e3
  exact lcp_ne a b c d c1 d1 (nodeC_inj w3 v3 w2 w4 v4 (Option.some.inj d3))
end Go.Proofs.YtonkbjdeaneicaaDoor.Pln

namespace Go.Proofs.YtonkbjdeaneicaaDoor
open Go.RowKit

theorem rd_add (b off n : Nat) : (Addr.add ⟨b, off, none⟩ n) = ⟨b, off + n, none⟩ := by
  unfold Addr.add
  by_cases h : n = 0 <;> simp [h]

/-- The cells cs lie in block b from place o on. -/
def CsIn (w : World) (b o : Nat) (cs : List Value) : Prop := ∀ j u, cs[j]? = some u → w.cell? ⟨b, o + j, none⟩ = some u

/-- The blocks of F stay. -/
structure Kp (F : Nat → Prop) (w w' : World) : Prop where
  size : w.heap.size ≤ w'.heap.size
  block : ∀ b, b < w.heap.size → F b → w'.heap[b]? = w.heap[b]?
theorem Kp.refl (F : Nat → Prop) (w : World) : Kp F w w := ⟨Nat.le_refl _, fun _ _ _ => rfl⟩
theorem Kp.trans {F : Nat → Prop} {a b c : World} (h : Kp F a b) (k : Kp F b c) : Kp F a c :=
  ⟨Nat.le_trans h.size k.size, fun i hi hf => (k.block i (Nat.lt_of_lt_of_le hi h.size) hf).trans (h.block i hi hf)⟩
theorem Kp.of_below {F : Nat → Prop} {w w' : World} (h : Below w.heap.size w w') : Kp F w w' := ⟨h.size, fun b hb _ => h.block b hb⟩
theorem Kp.of_turns {F : Nat → Prop} {S : List Nat} {w w' : World} (h : Turns S w w') (hs : ∀ x ∈ S, ¬ F x) : Kp F w w' := ⟨h.size, fun b hb hf => h.block b hb (fun hm => hs b hm hf)⟩
theorem Kp.cell {F : Nat → Prop} {w w' : World} (h : Kp F w w') {b o : Nat} (hb : b < w.heap.size) (hf : F b) : w'.cell? ⟨b, o, none⟩ = w.cell? ⟨b, o, none⟩ :=
  World.cell?_of_block (a := ⟨b, o, none⟩) (h.block b hb hf)
theorem CsIn.kp {F : Nat → Prop} {w w' : World} {b o : Nat} {cs : List Value} (h : CsIn w b o cs) (hk : Kp F w w') (hb : b < w.heap.size) (hf : F b) : CsIn w' b o cs :=
  fun j u hu => (hk.cell hb hf).trans (h j u hu)

section
variable {α : Type}
/-- v is a slice with the elements xs, each of sz cells that say it as E says, in a block of F. -/
def RSl (F : Nat → Prop) (w : World) (sz : Nat) (E : List Value → α → Prop) (v : Value) (xs : List α) : Prop :=
  ∃ A c, v = .slice A xs.length c ∧ xs.length ≤ c ∧ c ≤ maxLen ∧ (A = none → c = 0) ∧ (xs = [] ∨ ∃ b off, A = some ⟨b, off, none⟩ ∧ F b ∧ b < w.heap.size ∧ ∀ i x, xs[i]? = some x → ∃ cs, E cs x ∧ CsIn w b (off + i * sz) cs)

variable {F F' : Nat → Prop} {w w' : World} {sz : Nat} {E E' : List Value → α → Prop} {v : Value} {xs : List α}
theorem RSl.kp (h : RSl F w sz E v xs) (hk : Kp F w w') (hF : ∀ b, b < w.heap.size → F b → F' b) (hE : ∀ cs x, E cs x → E' cs x) : RSl F' w' sz E' v xs := by
  obtain ⟨A, c, h1, h2, h3, h5, h4⟩ := h
  refine ⟨A, c, h1, h2, h3, h5, ?_⟩
  rcases h4 with h4 | ⟨b, off, hA, hf, hb, hc⟩
  · exact .inl h4
  · refine .inr ⟨b, off, hA, hF b hb hf, Nat.lt_of_lt_of_le hb hk.size, fun i x hx => ?_⟩
    obtain ⟨cs, e1, e2⟩ := hc i x hx
    exact ⟨cs, hE cs x e1, e2.kp hk hb hf⟩
theorem RSl.keep (h : RSl F w sz E v xs) (hk : Kp F w w') : RSl F w' sz E v xs := h.kp hk (fun _ _ h => h) (fun _ _ h => h)
theorem RSl.len (h : RSl F w sz E v xs) : xs.length ≤ maxLen := by
  obtain ⟨A, c, h1, h2, h3, _⟩ := h; omega
theorem RSl.form (h : RSl F w sz E v xs) : ∃ A c, v = .slice A xs.length c := by
  obtain ⟨A, c, h1, _⟩ := h; exact ⟨A, c, h1⟩
/-- Element i. -/
theorem RSl.at {A : Option Addr} {n c : Nat} (h : RSl F w sz E (.slice A n c) xs) {i : Nat} {x : α} (hx : xs[i]? = some x) :
    ∃ b off, A = some ⟨b, off, none⟩ ∧ F b ∧ b < w.heap.size ∧ ∃ cs, E cs x ∧ CsIn w b (off + i * sz) cs := by
  obtain ⟨A', c', h1, h2, h3, _, h4⟩ := h
  simp only [Value.slice.injEq] at h1
  obtain ⟨rfl, rfl, rfl⟩ := h1
  rcases h4 with rfl | ⟨b, off, hA, hf, hb, hc⟩
  · simp at hx
  · exact ⟨b, off, hA, hf, hb, hc i x hx⟩
theorem RSl.nil : RSl F w sz E (.slice none 0 0) ([] : List α) := ⟨none, 0, rfl, Nat.le_refl _, Nat.zero_le _, fun _ => rfl, .inl rfl⟩
/-- Out of a row of the call's own. -/
theorem RSl.of_own {base : Nat} {e : TypeId} {cells : List Value} {n : Nat} (h : w.ownsRow base e sz v n cells) (hn : n = xs.length) (hF : ∀ b, v.ownBlock = some b → F b)
    (hE : ∀ i x, xs[i]? = some x → ∃ cs, E cs x ∧ ∀ j u, cs[j]? = some u → cells[i * sz + j]? = some u) : RSl F w sz E v xs := by
  subst hn
  rcases h.2 with ⟨rfl, h0⟩ | ⟨g, cap, cur, rfl, hg, hh, h1, h2, h3, h4⟩
  · rw [List.eq_nil_of_length_eq_zero h0]; exact RSl.nil
  · refine ⟨_, cap, rfl, h1, h2, (fun h => by cases h), .inr ⟨g, 0, rfl, hF g rfl, lt_of_heap hh, fun i x hx => ?_⟩⟩
    obtain ⟨cs, e1, e2⟩ := hE i x hx
    refine ⟨cs, e1, fun j u hu => ?_⟩
    have := h.cells (g := g) rfl (i * sz + j) u (e2 j u hu)
    rw [rd_add] at this
    rw [Nat.zero_add]
    simpa using this
end

open Pln
def i64ok (n : Int) : Prop := (Lit.int .i64 n).wf = true
theorem i64ok.lo {n : Int} (h : i64ok n) : -9223372036854775808 ≤ n ∧ n ≤ 9223372036854775807 := by
  unfold i64ok at h
  simp [Lit.wf, IntKind.min, IntKind.max, IntKind.signed, IntKind.bits] at h
  exact h
def EInt (cs : List Value) (n : Int) : Prop := cs = [.int .i64 n] ∧ i64ok n
def EStr (cs : List Value) (s : ByteArray) : Prop := cs = [.string s] ∧ s.size ≤ maxLen
def ESlt (cs : List Value) (s : Slt) : Prop := cs = [.bool s.v, .int .i64 s.n] ∧ i64ok s.n
def ELnk (cs : List Value) (l : Int × Int) : Prop := cs = [.int .i64 l.1, .int .i64 l.2] ∧ i64ok l.1 ∧ i64ok l.2
def ETst (cs : List Value) (t : Tst) : Prop := cs = [.int .i64 t.op, .bool t.l.v, .int .i64 t.l.n, .bool t.r.v, .int .i64 t.r.n] ∧ i64ok t.op ∧ i64ok t.l.n ∧ i64ok t.r.n
def EPat (F : Nat → Prop) (w : World) (cs : List Value) (p : Pat) : Prop := ∃ v, cs = [.int .i64 p.pred, v] ∧ i64ok p.pred ∧ RSl F w 2 ESlt v p.args
def EShp (F : Nat → Prop) (w : World) (cs : List Value) (s : Shp) : Prop := ∃ v, cs = [.int .i64 s.pred, v] ∧ i64ok s.pred ∧ RSl F w 1 EInt v s.cells
structure ERl (F : Nat → Prop) (w : World) (cs : List Value) (r : Rl) (hv pv tv nv vv : Value) : Prop where
  cells : cs = [.int .i64 r.head.pred, hv, pv, tv, nv, vv, .int .i64 r.clause]
  hok : i64ok r.head.pred
  cok : i64ok r.clause
  head : RSl F w 2 ESlt hv r.head.args
  pos : RSl F w 2 (EPat F w) pv r.pos
  tests : RSl F w 5 ETst tv r.tests
  neg : RSl F w 2 (EPat F w) nv r.neg
  vars : RSl F w 1 EStr vv r.vars
def ERule (F : Nat → Prop) (w : World) (cs : List Value) (r : Rl) : Prop := ∃ hv pv tv nv vv, ERl F w cs r hv pv tv nv vv
structure ENd (F : Nat → Prop) (w : World) (cs : List Value) (n : Nd) (lv nv : Value) : Prop where
  cells : cs = [.int .i64 n.kind, .int .i64 n.parent, .int .i64 n.alpha, lv, nv, .int .i64 n.test.op, .bool n.test.l.v, .int .i64 n.test.l.n, .bool n.test.r.v, .int .i64 n.test.r.n, .int .i64 n.width]
  ok : i64ok n.kind ∧ i64ok n.parent ∧ i64ok n.alpha ∧ i64ok n.width ∧ i64ok n.test.op ∧ i64ok n.test.l.n ∧ i64ok n.test.r.n
  links : RSl F w 2 ELnk lv n.links
  new : RSl F w 1 EInt nv n.new
def ENode (F : Nat → Prop) (w : World) (cs : List Value) (n : Nd) : Prop := ∃ lv nv, ENd F w cs n lv nv

section
variable {F F' : Nat → Prop} {w w' : World} {cs : List Value}
theorem EPat.kp {p : Pat} (h : EPat F w cs p) (hk : Kp F w w') (hF : ∀ b, b < w.heap.size → F b → F' b) : EPat F' w' cs p := by
  obtain ⟨v, h1, h2, h3⟩ := h
  exact ⟨v, h1, h2, h3.kp hk hF (fun _ _ h => h)⟩
theorem EShp.kp {p : Shp} (h : EShp F w cs p) (hk : Kp F w w') (hF : ∀ b, b < w.heap.size → F b → F' b) : EShp F' w' cs p := by
  obtain ⟨v, h1, h2, h3⟩ := h
  exact ⟨v, h1, h2, h3.kp hk hF (fun _ _ h => h)⟩
theorem ERl.kp {r : Rl} {hv pv tv nv vv : Value} (h : ERl F w cs r hv pv tv nv vv) (hk : Kp F w w') (hF : ∀ b, b < w.heap.size → F b → F' b) : ERl F' w' cs r hv pv tv nv vv :=
  ⟨h.cells, h.hok, h.cok, h.head.kp hk hF (fun _ _ h => h), h.pos.kp hk hF (fun _ _ h => h.kp hk hF), h.tests.kp hk hF (fun _ _ h => h), h.neg.kp hk hF (fun _ _ h => h.kp hk hF), h.vars.kp hk hF (fun _ _ h => h)⟩
theorem ERule.kp {r : Rl} (h : ERule F w cs r) (hk : Kp F w w') (hF : ∀ b, b < w.heap.size → F b → F' b) : ERule F' w' cs r := by
  obtain ⟨hv, pv, tv, nv, vv, h⟩ := h
  exact ⟨hv, pv, tv, nv, vv, h.kp hk hF⟩
theorem ENd.kp {n : Nd} {lv nv : Value} (h : ENd F w cs n lv nv) (hk : Kp F w w') (hF : ∀ b, b < w.heap.size → F b → F' b) : ENd F' w' cs n lv nv :=
  ⟨h.cells, h.ok, h.links.kp hk hF (fun _ _ h => h), h.new.kp hk hF (fun _ _ h => h)⟩
theorem ENode.kp {n : Nd} (h : ENode F w cs n) (hk : Kp F w w') (hF : ∀ b, b < w.heap.size → F b → F' b) : ENode F' w' cs n := by
  obtain ⟨lv, nv, h⟩ := h
  exact ⟨lv, nv, h.kp hk hF⟩
/-- The rules' list. -/
abbrev RRules (F : Nat → Prop) (w : World) (v : Value) (rs : List Rl) : Prop := RSl F w 7 (ERule F w) v rs
theorem RRules.kp {v : Value} {rs : List Rl} (h : RRules F w v rs) (hk : Kp F w w') (hF : ∀ b, b < w.heap.size → F b → F' b) : RRules F' w' v rs := RSl.kp h hk hF (fun _ _ h => h.kp hk hF)
abbrev RPats (F : Nat → Prop) (w : World) (v : Value) (ps : List Pat) : Prop := RSl F w 2 (EPat F w) v ps
theorem RPats.kp {v : Value} {rs : List Pat} (h : RPats F w v rs) (hk : Kp F w w') (hF : ∀ b, b < w.heap.size → F b → F' b) : RPats F' w' v rs := RSl.kp h hk hF (fun _ _ h => h.kp hk hF)
end
end Go.Proofs.YtonkbjdeaneicaaDoor

namespace Go.Proofs.YtonkbjdeaneicaaDoor
open Go.ChangeShapes Go.WideShapes Go.ChangeAt Go.RowKit Go.Deep
open Pln

/-- What the bound gives: how long the lists are. -/
theorem bulk_ge {H : Type} (l : List (DataW H)) : l.length ≤ Rows.uptoBulkAll l := by
  induction l with
  | nil => simp [Rows.uptoBulkAll]
  | cons d l ih =>
    have : 1 ≤ Rows.uptoBulk d := by
      cases d with
      | lit l => cases l <;> simp [Rows.uptoBulk]
      | nil => simp [Rows.uptoBulk]
      | ptr d => simp [Rows.uptoBulk]
      | slice e s => simp [Rows.uptoBulk]
      | agg p => simp [Rows.uptoBulk]
      | iface t d => simp [Rows.uptoBulk]
      | map e => simp [Rows.uptoBulk]
      | held h => simp [Rows.uptoBulk]
    simp only [Rows.uptoBulkAll, List.length_cons]
    omega
theorem bulk_mem {H : Type} {l : List (DataW H)} {d : DataW H} (h : d ∈ l) : Rows.uptoBulk d ≤ Rows.uptoBulkAll l := by
  induction l with
  | nil => cases h
  | cons a l ih =>
    simp only [Rows.uptoBulkAll]
    rcases List.mem_cons.1 h with rfl | h
    · omega
    · have := ih h; omega
theorem bulk_arg {H : Type} {ds : List (DataW H)} (h : Rows.uptoSmall H ds = true) {j : Nat} {d : DataW H} (hd : ds[j]? = some d) : Rows.uptoBulk d ≤ 1048576 := by
  have h : Rows.uptoBulkAll ds ≤ 1048576 := of_decide_eq_true h
  have := bulk_mem (List.mem_of_getElem? hd)
  omega

section
variable {H : Type} {enc : TypeId × Value → H} {P : Program} {w : World} {base : Nat} {spare : Nat → Bool} {held : Bool}
theorem open_rsl {α : Type} {t e : TypeId} {fuel : Nat} {v : Value} {x : DataW H × List MemPlace} {sz : Nat} {E : List Value → α → Prop} {Sm : Nat → α → Prop} (mono : ∀ m n a, m ≤ n → Sm m a → Sm n a)
    (ht : P.underlying t = some (.slice e)) (hC : P.cellsOf e = sz) (hsz : 0 < sz)
    (hel : ∀ (fuel : Nat) (cs : List Value) (x : DataW H × List MemPlace), DataW.trod enc P w base spare held fuel e cs = some x → ∃ a, E cs a ∧ Sm (Rows.uptoBulk x.1) a)
    (h : DataW.trod enc P w base spare held fuel t [v] = some x) :
    ∃ xs : List α, RSl (fun b => b < w.heap.size) w sz E v xs ∧ xs.length ≤ Rows.uptoBulk x.1 ∧ ∀ a ∈ xs, Sm (Rows.uptoBulk x.1) a := by
  rcases open_slice ht h with ⟨hv, _⟩ | ⟨a, len, cap, m, n, D, Pl, hv, hb, hl, hm, hmm, hx, hi⟩
  · simp only [List.cons.injEq, and_true] at hv
    subst hv
    exact ⟨[], RSl.nil, by simp, by simp⟩
  · simp only [List.cons.injEq, and_true] at hv
    subst hv
    have hml : len ≤ m := by rw [hmm]; split <;> omega
    have hbk : Rows.uptoBulkAll ((List.range len).map D) + 1 ≤ Rows.uptoBulk x.1 := by rw [hx]; simp only [Rows.uptoBulk]; omega
    have hbl := bulk_ge ((List.range len).map D)
    simp only [List.length_map, List.length_range] at hbl
    have hq : ∀ i, i < len → ∃ a' : α, Sm (Rows.uptoBulk x.1) a' ∧ ∃ cs, E cs a' ∧ cs.length = sz ∧ ∀ j u, cs[j]? = some u → w.cell? ((a.add (i * sz)).add j) = some u := by
      intro i hil
      obtain ⟨cs', hc, ht'⟩ := hi i (by omega)
      rw [hC] at hc
      obtain ⟨a', hE, hS⟩ := hel _ _ _ ht'
      obtain ⟨_, hcl, hat⟩ := World.cells?_some hc
      have hD : Rows.uptoBulk (D i) ≤ Rows.uptoBulkAll ((List.range len).map D) := bulk_mem (List.mem_map.2 ⟨i, List.mem_range.2 hil, rfl⟩)
      refine ⟨a', mono _ _ _ (show Rows.uptoBulk (D i) ≤ _ by omega) hS, cs', hE, hcl, fun j u hu => ?_⟩
      have hj : j < sz := by
        have := (List.getElem?_eq_some_iff.1 hu).1
        omega
      rw [hat j hj, hu]
    rcases Nat.eq_zero_or_pos len with h0 | hpos
    · subst h0
      exact ⟨[], ⟨some a, cap, rfl, Nat.zero_le _, hm, fun h => (by cases h), .inl rfl⟩, by simp, by simp⟩
    · have hne : ∃ _ : α, True := by obtain ⟨a', _, _⟩ := hq 0 hpos; exact ⟨a', trivial⟩
      obtain ⟨dflt, _⟩ := hne
      have hch : ∃ f : Nat → α, ∀ i, i < len → Sm (Rows.uptoBulk x.1) (f i) ∧ ∃ cs, E cs (f i) ∧ cs.length = sz ∧ ∀ j u, cs[j]? = some u → w.cell? ((a.add (i * sz)).add j) = some u := by
        refine ⟨fun i => if hil : i < len then (hq i hil).choose else dflt, fun i hil => ?_⟩
        simp only [dif_pos hil]
        exact (hq i hil).choose_spec
      obtain ⟨f, hf⟩ := hch
      obtain ⟨b, off, spot⟩ := a
      obtain ⟨_, cs0, _, hl0, hc0⟩ := hf 0 hpos
      have h00 := hc0 0 (cs0[0]'(by omega)) (List.getElem?_eq_getElem _)
      have hspot : spot = none := by
        have := World.cell?_spot h00
        simpa [Addr.add] using this
      subst hspot
      have hblt : b < w.heap.size := by
        have := World.block_lt_of_cell? w _ h00
        rwa [rd_add, rd_add] at this
      refine ⟨(List.range len).map f, ⟨some ⟨b, off, none⟩, cap, by simp, by simpa using hl, hm, (fun h => by cases h), .inr ⟨b, off, rfl, hblt, hblt, ?_⟩⟩, by simp; omega, ?_⟩
      · intro i y hy
        have hil : i < len := by
          have := (List.getElem?_eq_some_iff.1 hy).1
          simpa using this
        have hx' : f i = y := by simpa [List.getElem?_map, List.getElem?_range hil] using hy
        subst hx'
        obtain ⟨_, cs, h1, h2, h3⟩ := hf i hil
        refine ⟨cs, h1, fun j u hu => ?_⟩
        have := h3 j u hu
        rw [rd_add, rd_add] at this
        exact this
      · intro a' ha'
        obtain ⟨i, hi', rfl⟩ := List.mem_map.1 ha'
        exact (hf i (List.mem_range.1 hi')).1
end

/-- All lists of a pattern, a rule are at most n long. -/
def patSm (n : Nat) (p : Pat) : Prop := p.args.length ≤ n
structure rlSm (n : Nat) (r : Rl) : Prop where
  head : patSm n r.head
  pos : r.pos.length ≤ n ∧ ∀ p ∈ r.pos, patSm n p
  tests : r.tests.length ≤ n
  neg : r.neg.length ≤ n ∧ ∀ p ∈ r.neg, patSm n p
  vars : r.vars.length ≤ n
theorem patSm.mono {m n : Nat} {p : Pat} (h : m ≤ n) (hp : patSm m p) : patSm n p := Nat.le_trans hp h
theorem rlSm.mono {m n : Nat} {r : Rl} (h : m ≤ n) (hp : rlSm m r) : rlSm n r :=
  ⟨hp.head.mono h, ⟨Nat.le_trans hp.pos.1 h, fun p hh => (hp.pos.2 p hh).mono h⟩, Nat.le_trans hp.tests h, ⟨Nat.le_trans hp.neg.1 h, fun p hh => (hp.neg.2 p hh).mono h⟩, Nat.le_trans hp.vars h⟩

section
variable {H : Type} {enc : TypeId × Value → H} {w : World} {base : Nat} {spare : Nat → Bool} {held : Bool} {fuel : Nat} {cs : List Value} {x : DataW H × List MemPlace}
theorem cIntR : Tryd.prog.cellsOf 3 = 1 := by kernel_rfl
theorem cBoolR : Tryd.prog.cellsOf 4 = 1 := by kernel_rfl
theorem cStrR : Tryd.prog.cellsOf 9 = 1 := by kernel_rfl
theorem cSltR : Tryd.prog.cellsOf 36 = 2 := by kernel_rfl
theorem cPatR : Tryd.prog.cellsOf 80 = 2 := by kernel_rfl
theorem cTstR : Tryd.prog.cellsOf 38 = 5 := by kernel_rfl
theorem cRlR : Tryd.prog.cellsOf 85 = 7 := by kernel_rfl
theorem cSPat : Tryd.prog.cellsOf 81 = 1 := by kernel_rfl
theorem cSSlt : Tryd.prog.cellsOf 78 = 1 := by kernel_rfl
theorem cSTst : Tryd.prog.cellsOf 82 = 1 := by kernel_rfl
theorem cSStr : Tryd.prog.cellsOf 83 = 1 := by kernel_rfl

theorem list_one {α : Type} {l : List α} (h : l.length = 1) : ∃ a, l = [a] := by
  match l, h with
  | [a], _ => exact ⟨a, rfl⟩
theorem list_two {α : Type} {l : List α} (h : l.length = 2) : ∃ a b, l = [a, b] := by
  match l, h with
  | [a, b], _ => exact ⟨a, b, rfl⟩
theorem list_five {α : Type} {l : List α} (h : l.length = 5) : ∃ a b c d e, l = [a, b, c, d, e] := by
  match l, h with
  | [a, b, c, d, e], _ => exact ⟨a, b, c, d, e, rfl⟩
theorem list_seven {α : Type} {l : List α} (h : l.length = 7) : ∃ a b c d e f g, l = [a, b, c, d, e, f, g] := by
  match l, h with
  | [a, b, c, d, e, f, g], _ => exact ⟨a, b, c, d, e, f, g, rfl⟩
theorem list_six {α : Type} {l : List α} (h : l.length = 6) : ∃ a b c d e f, l = [a, b, c, d, e, f] := by
  match l, h with
  | [a, b, c, d, e, f], _ => exact ⟨a, b, c, d, e, f, rfl⟩
theorem list_three {α : Type} {l : List α} (h : l.length = 3) : ∃ a b c, l = [a, b, c] := by
  match l, h with
  | [a, b, c], _ => exact ⟨a, b, c, rfl⟩
theorem bulk_part {d : DataW H} {ys : List (DataW H × List MemPlace)} (hx : d = .agg (ys.map (·.1))) {y : DataW H × List MemPlace} (hy : y ∈ ys) : Rows.uptoBulk y.1 ≤ Rows.uptoBulk d := by
  have := bulk_mem (List.mem_map.2 ⟨y, hy, rfl⟩ : y.1 ∈ ys.map (·.1))
  rw [hx]
  simp only [Rows.uptoBulk]
  omega

theorem open_slt (h : DataW.trod enc Tryd.prog w base spare held fuel 36 cs = some x) : ∃ s : Slt, ESlt cs s ∧ True := by
  obtain ⟨ys, n, _, _, hlen, hyl, hf⟩ := DataW.trod_struct Tryd.underlying36 h
  rw [cSltR] at hlen
  obtain ⟨a, b, rfl⟩ := list_two hlen
  obtain ⟨y0, y1, rfl⟩ := list_two (show ys.length = 2 from hyl)
  have g0 := hf 0 _ rfl
  change DataW.trod enc Tryd.prog w base spare held n 4 (List.take (Tryd.prog.cellsOf 4) (List.drop 0 [a, b])) = some y0 at g0
  rw [cBoolR] at g0
  have g1 := hf 1 _ rfl
  change DataW.trod enc Tryd.prog w base spare held n 3 (List.take (Tryd.prog.cellsOf 3) (List.drop 1 [a, b])) = some y1 at g1
  rw [cIntR] at g1
  simp only [List.drop_zero, List.take_succ_cons, List.take_zero, List.drop_succ_cons] at g0 g1
  obtain ⟨v, hv, _⟩ := DataW.trod_bool Tryd.underlying4 g0
  obtain ⟨k, hk, _, wk⟩ := DataW.trod_int Tryd.underlying3 g1
  simp only [List.cons.injEq, and_true] at hv hk
  subst hv; subst hk
  exact ⟨⟨v, k⟩, ⟨rfl, wk⟩, trivial⟩
theorem open_str (h : DataW.trod enc Tryd.prog w base spare held fuel 9 cs = some x) : ∃ s : ByteArray, EStr cs s ∧ s.size ≤ Rows.uptoBulk x.1 := by
  obtain ⟨s, hs, hx, ws⟩ := DataW.trod_string Tryd.underlying9 h
  refine ⟨s, ⟨hs, ws⟩, ?_⟩
  have e3 : s.data.toList.length = s.size := by rw [Array.length_toList]; rfl
  rw [hx]
  simp only [Rows.uptoBulk]
  omega
theorem open_pat (h : DataW.trod enc Tryd.prog w base spare held fuel 80 cs = some x) : ∃ p : Pat, EPat (fun b => b < w.heap.size) w cs p ∧ patSm (Rows.uptoBulk x.1) p := by
  obtain ⟨ys, n, _, hx, hlen, hyl, hf⟩ := DataW.trod_struct Tryd.underlying80 h
  rw [cPatR] at hlen
  obtain ⟨a, b, rfl⟩ := list_two hlen
  obtain ⟨y0, y1, rfl⟩ := list_two (show ys.length = 2 from hyl)
  have g0 := hf 0 _ rfl
  change DataW.trod enc Tryd.prog w base spare held n 3 (List.take (Tryd.prog.cellsOf 3) (List.drop 0 [a, b])) = some y0 at g0
  rw [cIntR] at g0
  have g1 := hf 1 _ rfl
  change DataW.trod enc Tryd.prog w base spare held n 78 (List.take (Tryd.prog.cellsOf 78) (List.drop 1 [a, b])) = some y1 at g1
  rw [cSSlt] at g1
  simp only [List.drop_zero, List.take_succ_cons, List.take_zero, List.drop_succ_cons] at g0 g1
  obtain ⟨k, hk, _, wk⟩ := DataW.trod_int Tryd.underlying3 g0
  simp only [List.cons.injEq, and_true] at hk
  subst hk
  obtain ⟨xs, r1, r2, _⟩ := open_rsl (E := ESlt) (Sm := fun _ _ => True) (fun _ _ _ _ _ => trivial) Tryd.underlying78 cSltR (by decide) (fun _ _ _ h => open_slt h) g1
  refine ⟨⟨k, xs⟩, ⟨b, rfl, wk, r1⟩, ?_⟩
  have := bulk_part (d := x.1) (by rw [hx]) (show y1 ∈ [y0, y1] by simp)
  exact Nat.le_trans r2 this
theorem open_tst (h : DataW.trod enc Tryd.prog w base spare held fuel 38 cs = some x) : ∃ t : Tst, ETst cs t ∧ True := by
  obtain ⟨ys, n, _, hx, hlen, hyl, hf⟩ := DataW.trod_struct Tryd.underlying38 h
  rw [cTstR] at hlen
  obtain ⟨a, b, c, d, e, rfl⟩ := list_five hlen
  obtain ⟨y0, y1, y2, rfl⟩ := list_three (show ys.length = 3 from hyl)
  have g0 := hf 0 _ rfl
  change DataW.trod enc Tryd.prog w base spare held n 3 (List.take (Tryd.prog.cellsOf 3) (List.drop 0 [a, b, c, d, e])) = some y0 at g0
  rw [cIntR] at g0
  have g1 := hf 1 _ rfl
  change DataW.trod enc Tryd.prog w base spare held n 36 (List.take (Tryd.prog.cellsOf 36) (List.drop 1 [a, b, c, d, e])) = some y1 at g1
  rw [cSltR] at g1
  have g2 := hf 2 _ rfl
  change DataW.trod enc Tryd.prog w base spare held n 36 (List.take (Tryd.prog.cellsOf 36) (List.drop 3 [a, b, c, d, e])) = some y2 at g2
  rw [cSltR] at g2
  simp only [List.drop_zero, List.take_succ_cons, List.take_zero, List.drop_succ_cons] at g0 g1 g2
  obtain ⟨k, hk, _, wk⟩ := DataW.trod_int Tryd.underlying3 g0
  obtain ⟨s1, ⟨e1, k1⟩, _⟩ := open_slt g1
  obtain ⟨s2, ⟨e2, k2⟩, _⟩ := open_slt g2
  simp only [List.cons.injEq, and_true] at hk e1 e2
  obtain ⟨rfl, rfl⟩ := e1
  obtain ⟨rfl, rfl⟩ := e2
  subst hk
  exact ⟨⟨k, s1, s2⟩, ⟨rfl, wk, k1, k2⟩, trivial⟩
theorem open_rl (h : DataW.trod enc Tryd.prog w base spare held fuel 85 cs = some x) : ∃ r : Rl, ERule (fun b => b < w.heap.size) w cs r ∧ rlSm (Rows.uptoBulk x.1) r := by
  obtain ⟨ys, n, _, hx, hlen, hyl, hf⟩ := DataW.trod_struct Tryd.underlying85 h
  rw [cRlR] at hlen
  obtain ⟨a, b, c, d, e, f, g, rfl⟩ := list_seven hlen
  obtain ⟨y0, y1, y2, y3, y4, y5, rfl⟩ := list_six (show ys.length = 6 from hyl)
  have g0 := hf 0 _ rfl
  change DataW.trod enc Tryd.prog w base spare held n 80 (List.take (Tryd.prog.cellsOf 80) (List.drop 0 [a, b, c, d, e, f, g])) = some y0 at g0
  rw [cPatR] at g0
  have g1 := hf 1 _ rfl
  change DataW.trod enc Tryd.prog w base spare held n 81 (List.take (Tryd.prog.cellsOf 81) (List.drop 2 [a, b, c, d, e, f, g])) = some y1 at g1
  rw [cSPat] at g1
  have g2 := hf 2 _ rfl
  change DataW.trod enc Tryd.prog w base spare held n 82 (List.take (Tryd.prog.cellsOf 82) (List.drop 3 [a, b, c, d, e, f, g])) = some y2 at g2
  rw [cSTst] at g2
  have g3 := hf 3 _ rfl
  change DataW.trod enc Tryd.prog w base spare held n 81 (List.take (Tryd.prog.cellsOf 81) (List.drop 4 [a, b, c, d, e, f, g])) = some y3 at g3
  rw [cSPat] at g3
  have g4 := hf 4 _ rfl
  change DataW.trod enc Tryd.prog w base spare held n 83 (List.take (Tryd.prog.cellsOf 83) (List.drop 5 [a, b, c, d, e, f, g])) = some y4 at g4
  rw [cSStr] at g4
  have g5 := hf 5 _ rfl
  change DataW.trod enc Tryd.prog w base spare held n 3 (List.take (Tryd.prog.cellsOf 3) (List.drop 6 [a, b, c, d, e, f, g])) = some y5 at g5
  rw [cIntR] at g5
  simp only [List.drop_zero, List.take_succ_cons, List.take_zero, List.drop_succ_cons] at g0 g1 g2 g3 g4 g5
  obtain ⟨hd, ⟨hv, h1, h2, h3⟩, h4⟩ := open_pat g0
  simp only [List.cons.injEq, and_true] at h1
  obtain ⟨rfl, rfl⟩ := h1
  obtain ⟨ps, p1, p2, p3⟩ := open_rsl (E := EPat (fun b => b < w.heap.size) w) (Sm := patSm) (fun _ _ _ h h' => h'.mono h) Tryd.underlying81 cPatR (by decide) (fun _ _ _ h => open_pat h) g1
  obtain ⟨ts, t1, t2, _⟩ := open_rsl (E := ETst) (Sm := fun _ _ => True) (fun _ _ _ _ _ => trivial) Tryd.underlying82 cTstR (by decide) (fun _ _ _ h => open_tst h) g2
  obtain ⟨ns, n1, n2, n3⟩ := open_rsl (E := EPat (fun b => b < w.heap.size) w) (Sm := patSm) (fun _ _ _ h h' => h'.mono h) Tryd.underlying81 cPatR (by decide) (fun _ _ _ h => open_pat h) g3
  obtain ⟨vs, v1, v2, _⟩ := open_rsl (E := EStr) (Sm := fun _ _ => True) (fun _ _ _ _ _ => trivial) Tryd.underlying83 cStrR (by decide) (fun _ _ _ h => by obtain ⟨s, h1, _⟩ := open_str h; exact ⟨s, h1, trivial⟩) g4
  obtain ⟨k, hk, _, wk⟩ := DataW.trod_int Tryd.underlying3 g5
  simp only [List.cons.injEq, and_true] at hk
  subst hk
  have B : ∀ y ∈ [y0, y1, y2, y3, y4, y5], Rows.uptoBulk y.1 ≤ Rows.uptoBulk x.1 := fun y hy => bulk_part (d := x.1) (by rw [hx]) hy
  have b0 := B y0 (by simp); have b1 := B y1 (by simp); have b2 := B y2 (by simp); have b3 := B y3 (by simp); have b4 := B y4 (by simp)
  exact ⟨⟨hd, ps, ts, ns, vs, k⟩, ⟨_, c, d, e, f, ⟨rfl, h2, wk, h3, p1, t1, n1, v1⟩⟩,
    ⟨h4.mono b0, ⟨Nat.le_trans p2 b1, fun p hp => (p3 p hp).mono b1⟩, Nat.le_trans t2 b2, ⟨Nat.le_trans n2 b3, fun p hp => (n3 p hp).mono b3⟩, Nat.le_trans v2 b4⟩⟩
theorem open_rules {v : Value} (h : DataW.trod enc Tryd.prog w base spare held fuel 43 [v] = some x) : ∃ rs : List Rl, RRules (fun b => b < w.heap.size) w v rs ∧ rs.length ≤ Rows.uptoBulk x.1 ∧ ∀ r ∈ rs, rlSm (Rows.uptoBulk x.1) r :=
  open_rsl (Sm := rlSm) (fun _ _ _ h h' => h'.mono h) Tryd.underlying43 cRlR (by decide) (fun _ _ _ h => open_rl h) h
end
end Go.Proofs.YtonkbjdeaneicaaDoor
