/- Check: a plan is well formed. The plan of rules is well formed: nodes, shapes, ends. No program in sight. The plan of rules is well formed: shapes and ends; the law. No program in sight. -/
import Derived.Test.YtonkbjdeaneicaaDoorKpa21
import Derived.Test.YtonkbjdeaneicaaDoorKpa22
namespace Go.Proofs.YtonkbjdeaneicaaDoor.Pln
open Classical
def checkP (al : List Shp) (ns : List Nd) (es : List Int) : Prop := shapesP al ns ∧ nodesP al ns ∧ endsP ns es
theorem nodesP_par {al : List Shp} {ns : List Nd} (h : nodesP al ns) : Par ns := by
  intro i n hn hi
  obtain ⟨u, _, h1, h2, _⟩ := h.2 i hi (List.getElem?_eq_some_iff.1 hn).1 n hn
  exact ⟨u, h2, h1⟩
theorem wayG_dep {ns : List Nd} (h : Par ns) : ∀ (f e : Nat), e ≤ f → e < ns.length → (wayG ns f e).length = depOf ns e
  | 0, e, he, _ => by
    obtain rfl : e = 0 := by omega
    rfl
  | f + 1, e, he, hn => by
    by_cases h0 : e = 0
    · subst h0
      simp only [wayG, if_true]
      rfl
    · obtain ⟨n, hne⟩ : ∃ n, ns[e]? = some n := ⟨_, List.getElem?_eq_getElem hn⟩
      obtain ⟨u, hu, hp⟩ := h e n hne (by omega)
      have hpo : parentOf ns e = u := by unfold parentOf; rw [hne]; simp only; omega
      simp only [wayG, if_neg h0, hpo, List.length_append, List.length_cons, List.length_nil]
      rw [wayG_dep h f u (by omega) (by omega), depOf_next hpo hu]
theorem way_short {al : List Shp} {ns : List Nd} (h : nodesP al ns) {e : Nat} (he : e < ns.length) : (wayN ns e).length ≤ 16 := by
  unfold wayN
  rw [wayG_dep (nodesP_par h) e e (Nat.le_refl _) he]
  rcases Nat.eq_zero_or_pos e with rfl | hp
  · rw [depOf_zero]; omega
  · obtain ⟨_, _, _, _, _, h4, _⟩ := h.2 e hp he _ (List.getElem?_eq_getElem he)
    exact h4
end Go.Proofs.YtonkbjdeaneicaaDoor.Pln
namespace Go.Proofs.YtonkbjdeaneicaaDoor
open Go.RowKit Pln Classical Go.Maps

set_option maxRecDepth 200000 in
set_option maxHeartbeats 4000000 in
theorem checkW {F : Nat → Prop} (W : World) (av nv ev : Value) (al : List Shp) (ns : List Nd) (es : List Int) (hA : RSl F W 2 (EShp F W) av al) (hN : RSl F W 11 (ENode F W) nv ns) (hE : RSl F W 1 EInt ev es) (hm : ns.length ≤ 1000000000) (hml : ∀ n ∈ ns, n.new.length ≤ 1000000000) :
    Calls Tryd.prog 17 #[.agg #[av, nv, ev]] W fun e W' => e = .returned (.int .i64 (if checkP al ns es then 0 else 2)) ∧ Below W.heap.size W W' := by
  have kpA := fun (Wx : World) (hb : Below W.heap.size W Wx) => RSl.kp (F' := F) (E' := EShp F Wx) hA (Kp.of_below hb) (fun _ _ h => h) (fun _ _ h => h.kp (Kp.of_below hb) (fun _ _ h => h))
  have kpN := fun (Wx : World) (hb : Below W.heap.size W Wx) => RSl.kp (F' := F) (E' := ENode F Wx) hN (Kp.of_below hb) (fun _ _ h => h) (fun _ _ h => h.kp (Kp.of_below hb) (fun _ _ h => h))
  have SW := Lib.hid (fun (Wx : World) (hb : Below W.heap.size W Wx) => shapesW Wx av nv ev al ns (kpA Wx hb) (kpN Wx hb))
  have NW := Lib.hid (fun (Wx : World) (hb : Below W.heap.size W Wx) (hs : shapesP al ns) => nodesW Wx av nv ev al ns (kpA Wx hb) (kpN Wx hb) hs hm hml)
  have EW := Lib.hid (fun (Wx : World) (hb : Below W.heap.size W Wx) (hn : nodesP al ns) => endsW Wx av nv ev al ns es (kpN Wx hb) (hE.keep (Kp.of_below hb)) (nodesP_par hn) (List.getElem?_eq_some_iff.1 hn.1).1 hm (fun e he => Nat.le_trans (way_short hn he) (by omega)))
  obtain ⟨R, hR⟩ : ∃ R : Int, (if checkP al ns es then 0 else 2) = R := ⟨_, rfl⟩
  rw [hR]
  have HR := Lib.hid hR
  clear hR hA hN hE kpA kpN
  have NO := Lib.hid (show ¬ checkP al ns es → R = 2 from fun h => by rw [← HR.out, if_neg h])
  have hB0 : Below (W.heap.size + 1) (W.alloc (.cells #[av, nv, ev] 26)) (W.alloc (.cells #[av, nv, ev] 26)) := Below.refl _ _
  have y0 := box_cellL hB0 0 rfl
  have y1 := box_cellL hB0 1 rfl
  have y2 := box_cellL hB0 2 rfl
  have HB0 := Lib.hid hB0
  have C1 := Lib.hid (SW.out _ (box_below hB0))
  clear hB0
  go_enter Tryd.func17, Tryd.ntmps17
  go_wp2_with fail
  refine C1.out.mono ?_
  rintro e w2 ⟨rfl, hb2⟩
  have hB2 := box_step HB0.out hb2
  have y0 := box_cellL hB2 0 rfl
  have y1 := box_cellL hB2 1 rfl
  have y2 := box_cellL hB2 2 rfl
  have HB2 := Lib.hid hB2
  clear hb2 hB2 C1
  by_cases hs : shapesP al ns
  · rw [decide_eq_true hs]
    have C2 := Lib.hid (NW.out _ (box_below HB2.out) hs)
    go_wp2_with fail
    refine C2.out.mono ?_
    rintro e w3 ⟨rfl, hb3⟩
    have hB3 := box_step HB2.out hb3
    have y0 := box_cellL hB3 0 rfl
    have y1 := box_cellL hB3 1 rfl
    have y2 := box_cellL hB3 2 rfl
    have HB3 := Lib.hid hB3
    clear hb3 hB3 C2
    by_cases hn : nodesP al ns
    · rw [decide_eq_true hn]
      have C3 := Lib.hid (EW.out _ (box_below HB3.out) hn)
      go_wp2_with fail
      refine C3.out.mono ?_
      rintro e w4 ⟨rfl, hb4⟩
      have HB4 := Lib.hid (box_below (box_step HB3.out hb4))
      clear hb4 C3
      by_cases he : endsP ns es
      · rw [decide_eq_true he]
        have HF := Lib.hid (show R = 0 by rw [← HR.out, if_pos ⟨hs, hn, he⟩])
        clear he
        go_wp2
        go_ret
        exact ⟨by rw [HF.out]; rfl, HB4.out⟩
      · rw [decide_eq_false he]
        have HF := Lib.hid (NO.out (fun h => he h.2.2))
        clear he
        go_wp2
        go_ret
        exact ⟨by rw [HF.out]; rfl, HB4.out⟩
    · rw [decide_eq_false hn]
      have HF := Lib.hid (NO.out (fun h => hn h.2.1))
      clear hn
      go_wp2
      go_ret
      exact ⟨by rw [HF.out]; rfl, box_below HB3.out⟩
  · rw [decide_eq_false hs]
    have HF := Lib.hid (NO.out (fun h => hs h.1))
    clear hs
    go_wp2
    go_ret
    exact ⟨by rw [HF.out]; rfl, box_below HB2.out⟩
end Go.Proofs.YtonkbjdeaneicaaDoor

namespace Go.Proofs.YtonkbjdeaneicaaDoor.Pln
open Classical

/-- How many variables are bound behind the first conditions. -/
noncomputable def foldW (cs : List Cnd) : Nat := cs.foldl nextW 0
theorem nextW_le (w : Nat) (c : Cnd) : w ≤ nextW w c := by
  unfold nextW
  split
  · exact scanD_le _ _
  · exact Nat.le_refl _
theorem foldl_nextW_le (cs : List Cnd) : ∀ w, w ≤ cs.foldl nextW w := by
  induction cs with
  | nil => intro w; exact Nat.le_refl _
  | cons c r ih => intro w; exact Nat.le_trans (nextW_le w c) (ih _)
theorem foldW_take (cs : List Cnd) (j : Nat) : foldW (cs.take j) ≤ foldW cs := by
  unfold foldW
  rw [← List.take_append_drop j cs, List.foldl_append, List.take_append_drop]
  exact foldl_nextW_le _ _
theorem foldW_pos : ∀ (pos : List Pat) (w : Nat), (pos.map (fun p => (⟨1, p, noTst⟩ : Cnd))).foldl nextW w = scanD (pos.flatMap Pat.args) w
  | [], w => rfl
  | p :: r, w => by
    rw [List.map_cons, List.foldl_cons, foldW_pos r, List.flatMap_cons, scanD_app]
    rfl
theorem foldW_const : ∀ (cs : List Cnd), (∀ c ∈ cs, c.kind ≠ 1) → ∀ w, cs.foldl nextW w = w
  | [], _, w => rfl
  | c :: r, h, w => by
    rw [List.foldl_cons]
    have : nextW w c = w := by unfold nextW; rw [if_neg (h c (by simp))]
    rw [this]
    exact foldW_const r (fun d hd => h d (by simp [hd])) w
theorem Fit.foldW {r : Rl} {w : Nat} (h : Fit r w) : foldW (conds r) = w := by
  unfold Pln.foldW conds
  rw [List.foldl_append, List.foldl_append, foldW_pos, h.wid]
  rw [foldW_const (r.tests.map _) (by intro c hc; obtain ⟨t, _, rfl⟩ := List.mem_map.1 hc; show (2 : Int) ≠ 1; decide), foldW_const (r.neg.map _) (by intro c hc; obtain ⟨t, _, rfl⟩ := List.mem_map.1 hc; show (3 : Int) ≠ 1; decide)]
theorem way_fold {st : St} : ∀ (cs : List Cnd) (u w : Nat), Stands st u cs → okCs w cs → widthAt st u = w → ∀ j, j ≤ cs.length → widthAt st ((u :: wayF st u cs).getD j 0) = (((cs.take j).foldl nextW w : Nat) : Int)
  | [], u, w, _, _, hw, j, hj => by
    have : j = 0 := by simpa using hj
    subst this
    exact hw
  | d :: r, u, w, ⟨hu, hs, hm, hr⟩, ⟨ho, hos⟩, hw, j, hj => by
    match j with
    | 0 => exact hw
    | j + 1 =>
      have e : widthAt st (placeF st.ns (nodeC st u d)) = (nextW w d : Int) := by
        unfold widthAt
        rw [(placeF_lt hm).2]
        exact nodeC_width ho hw
      have := way_fold r _ _ hr hos e j (by simpa using hj)
      simp only [wayF, List.getD_cons_succ, List.take_succ_cons, List.foldl_cons]
      exact this

section
variable {rs : List Rl} {st : St} {es : List Nat}
/-- A node but the root, as a rule's way has it. -/
theorem node_on (h : Made rs st es) (hf : ∀ r ∈ rs, mayP r) {k : Nat} {n : Nd} (hn : st.ns[k]? = some n) (hk : 1 ≤ k) :
    ∃ (r : Rl) (j : Nat) (c : Cnd) (w : Nat), r ∈ rs ∧ mayP r ∧ Stands st 0 (conds r) ∧ (wayF st 0 (conds r))[j]? = some k ∧ (conds r)[j]? = some c ∧ n = nodeC st ((0 :: wayF st 0 (conds r)).getD j 0) c ∧ widthAt st ((0 :: wayF st 0 (conds r)).getD j 0) = (w : Int) ∧ okC w c ∧ Shaped st c ∧ nextW w c ≤ 16 := by
  obtain ⟨i, r, hr, hm⟩ := h.used k (by omega) (List.getElem?_eq_some_iff.1 hn).1
  obtain ⟨j, hj, hjk⟩ := List.getElem_of_mem hm
  have hj' : (wayF st 0 (conds r))[j]? = some k := by rw [List.getElem?_eq_getElem hj, hjk]
  have hst := (h.ways i r hr).1
  have hrm := List.mem_of_getElem? hr
  obtain ⟨wr, hfit⟩ := hf r hrm
  obtain ⟨c, n', w, h1, h2, h3, h4, h5, h6⟩ := way_node h.wf hst hfit.okCs (conds_ok3 r) hj'
  rw [hn] at h2
  have e : n = n' := Option.some.inj h2
  have w0 : widthAt st 0 = ((0 : Nat) : Int) := by unfold widthAt; rw [h.wf.root]; rfl
  have hfw := way_fold (conds r) 0 0 hst hfit.okCs w0 j (by rw [← way_len st _ 0]; omega)
  have hfn : nextW w c ≤ 16 := by
    have e1 : w = (conds r |>.take j).foldl nextW 0 := by omega
    have e2 : nextW w c = foldW ((conds r).take (j + 1)) := by
      unfold foldW
      rw [fold_next nextW 0 h1, e1]
    rw [e2]
    exact Nat.le_trans (foldW_take _ _) (by rw [hfit.foldW]; exact hfit.w16)
  exact ⟨r, j, c, w, hrm, ⟨wr, hfit⟩, hst, hj', h1, by rw [e]; exact h3, h4, h5, h6, hfn⟩
theorem up_node (h : Made rs st es) {r : Rl} (hst : Stands st 0 (conds r)) {j : Nat} (hj : j ≤ (wayF st 0 (conds r)).length) :
    ∃ up, st.ns[(0 :: wayF st 0 (conds r)).getD j 0]? = some up ∧ ((j = 0 ∧ up = rootN) ∨ ∃ j' c, j = j' + 1 ∧ (conds r)[j']? = some c ∧ up.kind = c.kind) := by
  match j, hj with
  | 0, _ => exact ⟨rootN, h.wf.root, .inl ⟨rfl, rfl⟩⟩
  | j + 1, hj =>
    obtain ⟨v, hv⟩ : ∃ v, (wayF st 0 (conds r))[j]? = some v := ⟨_, List.getElem?_eq_getElem hj⟩
    obtain ⟨c, c1, c2, c3, _⟩ := way_at h.wf (conds r) 0 hst (conds_ok3 r) j v hv
    refine ⟨nodeC st ((0 :: wayF st 0 (conds r)).getD j 0) c, by rw [getD_next hv]; exact c3, .inr ⟨j, c, rfl, c1, ?_⟩⟩
    unfold nodeC
    split
    · rename_i hk; exact hk.symm
    · rfl
theorem depth_on (h : Made rs st es) {r : Rl} (hst : Stands st 0 (conds r)) : ∀ (j v : Nat), (wayF st 0 (conds r))[j]? = some v → depOf st.ns v = j + 1
  | j, v, hv => by
    obtain ⟨c, c1, c2, c3, c4⟩ := way_at h.wf (conds r) 0 hst (conds_ok3 r) j v hv
    obtain ⟨u, hu⟩ : ∃ u, (0 :: wayF st 0 (conds r)).getD j 0 = u := ⟨_, rfl⟩
    rw [hu] at c3 c4
    have hpo : parentOf st.ns v = u := by
      have hp := nodeC_parent' st u c
      unfold parentOf
      rw [c3]
      simp only
      rw [hp, Int.toNat_natCast]
    rw [depOf_next hpo c4]
    match j with
    | 0 =>
      have : u = 0 := hu.symm
      rw [this, depOf_zero]
    | j + 1 =>
      obtain ⟨v', hv'⟩ : ∃ v', (wayF st 0 (conds r))[j]? = some v' := ⟨_, List.getElem?_eq_getElem (by have := (List.getElem?_eq_some_iff.1 hv).1; omega)⟩
      rw [getD_next hv'] at hu
      rw [← hu, depth_on h hst j v' hv']
where
  nodeC_parent' (st : St) (u : Nat) (c : Cnd) : (nodeC st u c).parent = (u : Int) := by
    unfold nodeC
    split <;> rfl
/-- Conditions come in three runs. -/
theorem cond_ahead {r : Rl} {j : Nat} {c d : Cnd} (hc : (conds r)[j + 1]? = some c) (hd : (conds r)[j]? = some d) : (c.kind = 1 → d.kind = 1) ∧ (c.kind = 2 → d.kind ≠ 3) := by
  rcases cond_at hc with ⟨p, h1, h2, rfl⟩ | ⟨t, k, h1, h2, rfl⟩ | ⟨p, k, h1, h2, rfl⟩
  · rcases cond_at hd with ⟨p', g1, g2, rfl⟩ | ⟨t', k', g1, g2, rfl⟩ | ⟨p', k', g1, g2, rfl⟩
    · exact ⟨fun _ => rfl, fun _ => by show (1 : Int) ≠ 3; decide⟩
    · omega
    · omega
  · rcases cond_at hd with ⟨p', g1, g2, rfl⟩ | ⟨t', k', g1, g2, rfl⟩ | ⟨p', k', g1, g2, rfl⟩
    · exact ⟨fun h => absurd h (by show ¬ (2 : Int) = 1; decide), fun _ => by show (1 : Int) ≠ 3; decide⟩
    · exact ⟨fun h => absurd h (by show ¬ (2 : Int) = 1; decide), fun _ => by show (2 : Int) ≠ 3; decide⟩
    · have := (List.getElem?_eq_some_iff.1 h2).1
      omega
  · exact ⟨fun h => absurd h (by show ¬ (3 : Int) = 1; decide), fun h => absurd h (by show ¬ (3 : Int) = 2; decide)⟩
/-- Nodes are right. -/
theorem comp_nodes (h : Made rs st es) (hf : ∀ r ∈ rs, mayP r) : nodesP st.al st.ns := by
  refine ⟨h.wf.root, fun i hi1 hi n hn => ?_⟩
  obtain ⟨r, j, c, w, hr, ⟨wr, hfit⟩, hst, hj, hc, hnc, hw, hok, hsh, h16⟩ := node_on h hf hn hi1
  obtain ⟨c', c1, _, c3, c4⟩ := way_at h.wf (conds r) 0 hst (conds_ok3 r) j i hj
  obtain ⟨u, hu⟩ : ∃ u, (0 :: wayF st 0 (conds r)).getD j 0 = u := ⟨_, rfl⟩
  obtain ⟨up, hup, hupk⟩ := up_node h hst (j := j) (Nat.le_of_lt (List.getElem?_eq_some_iff.1 hj).1)
  rw [hu] at hup hnc hw c4
  have hpar : n.parent = (u : Int) := by rw [hnc]; unfold nodeC; split <;> rfl
  have hupw : up.width = (w : Int) := by rw [← width_node hup]; exact hw
  refine ⟨u, up, hpar, c4, hup, ?_, ?_, ?_⟩
  · rw [depth_on h hst j i hj]
    have h1 := (List.getElem?_eq_some_iff.1 hj).1
    rw [way_len, conds_len] at h1
    have := hfit.many
    omega
  · rcases cond_at hc with ⟨p, g1, g2, rfl⟩ | ⟨t, k, g1, g2, rfl⟩ | ⟨p, k, g1, g2, rfl⟩
    · obtain ⟨ai, hs⟩ := says_of (.inl rfl) hnc hw hok hsh
      have hnw : nextW w ⟨1, p, noTst⟩ = w + (newK p.args w p.args.length).length := hok.next (by show ¬ (1 : Int) = 2; decide)
      refine .inl ⟨hs.kind, ?_, ai, shapeF p, hs.alpha, hs.al, by rw [hupw]; exact says_places hs (by rw [hnc]; rfl) (by omega)⟩
      rcases hupk with ⟨_, rfl⟩ | ⟨j', d, rfl, hd, hk⟩
      · exact .inl rfl
      · exact .inr (by rw [hk]; exact (cond_ahead hc hd).1 rfl)
    · obtain ⟨t1, t2, t3, t4, t5, t6⟩ := test_of hnc hw
      obtain ⟨x1, x2, x3, x4⟩ := hfit.tst t (List.mem_of_getElem? g2)
      rcases hok with ⟨hh, _⟩ | ⟨_, _, b1, b2⟩ | ⟨hh, _⟩
      · exact absurd hh (by show ¬ (2 : Int) = 1; decide)
      · refine .inr (.inr ⟨t1, ?_, t2, t3, t4, by rw [t6, hupw], by rw [t5]; exact x1, by rw [t5]; exact x2, by rw [t5, hupw]; exact b1, by rw [t5, hupw]; exact b2⟩)
        rcases hupk with ⟨_, rfl⟩ | ⟨j', d, rfl, hd, hk⟩
        · show (0 : Int) ≠ 3; decide
        · rw [hk]; exact (cond_ahead hc hd).2 rfl
      · exact absurd hh (by show ¬ (2 : Int) = 3; decide)
    · obtain ⟨ai, hs⟩ := says_of (.inr rfl) hnc hw hok hsh
      have hnn := neg_new hok
      have hnw : nextW w ⟨3, p, noTst⟩ = w := by unfold nextW; rw [if_neg (by show ¬ (3 : Int) = 1; decide)]
      refine .inr (.inl ⟨hs.kind, by rw [hs.new, hnn], ai, shapeF p, hs.alpha, hs.al, by rw [hupw]; exact says_places hs (by rw [hnc]; rfl) (by rw [hnn]; simp; omega)⟩)
  · intro k hk1 hki he
    have := (List.getElem?_eq_some_iff.1 he)
    have h2 := (List.getElem?_eq_some_iff.1 hn)
    obtain ⟨a1, a2⟩ := this
    obtain ⟨b1, b2⟩ := h2
    have := (List.getElem_inj h.wf.dup).1 (a2.trans b2.symm)
    omega
end
end Go.Proofs.YtonkbjdeaneicaaDoor.Pln

namespace Go.Proofs.YtonkbjdeaneicaaDoor.Pln
open Classical

theorem needs_mono {m : Nat} : ∀ (ns : List Nd) (q q' : Nat), ns.foldl (needF m) (some q) = some q' → ns.foldl (needF (m + 1)) (some q) = some q'
  | [], _, _, h => h
  | n :: r, q, q', h => by
    rw [List.foldl_cons] at h ⊢
    cases hx : needF m (some q) n with
    | none => rw [hx, needs_none] at h; cases h
    | some a =>
      rw [hx] at h
      have : needF (m + 1) (some q) n = some a := by
        unfold needF at hx ⊢
        simp only at hx ⊢
        split at hx
        · rename_i hk
          rw [if_pos hk]
          split at hx
          · rename_i hc
            rw [if_pos ⟨hc.1, hc.2.1, by omega⟩]
            exact hx
          · cases hx
        · rename_i hk
          rw [if_neg hk]
          exact hx
      rw [this]
      exact needs_mono r a q' h
/-- A pattern that has a shape. -/
def GoodP (p : Pat) : Prop := 0 ≤ p.pred ∧ p.args.length ≤ 8 ∧ ∃ w, okA p.args w
structure ShInv (st : St) : Prop where
  good : ∀ s ∈ st.al, ∃ p, GoodP p ∧ s = shapeF p
  need : needs st.al.length st.ns = some st.al.length
theorem shInv_start : ShInv ⟨[], [rootN]⟩ := ⟨by simp, rfl⟩
theorem ShInv.pat {x : Nat × St} (h : ShInv x.2) {k : Int} (hk : k = 1 ∨ k = 3) {p : Pat} (hp : GoodP p) : ShInv (patF k x p).2 := by
  obtain ⟨n, hn⟩ : ∃ n, nodeOf x.2 k x.1 p = n := ⟨_, rfl⟩
  have hkind : n.kind = 1 ∨ n.kind = 3 := by rw [← hn]; exact hk
  have halpha : n.alpha = (placeF x.2.al (shapeF p) : Int) := by rw [← hn]; rfl
  refine ⟨?_, ?_⟩
  · intro s hs
    simp only [patF] at hs
    unfold addF at hs
    split at hs
    · exact h.good s hs
    · rcases List.mem_append.1 hs with hs | hs
      · exact h.good s hs
      · exact ⟨p, hp, List.mem_singleton.1 hs⟩
  · simp only [patF]
    rw [hn]
    by_cases hm : shapeF p ∈ x.2.al
    · have e1 : addF x.2.al (shapeF p) = x.2.al := by unfold addF; rw [if_pos hm]
      rw [e1]
      by_cases hnm : n ∈ x.2.ns
      · have e2 : addF x.2.ns n = x.2.ns := by unfold addF; rw [if_pos hnm]
        rw [e2]; exact h.need
      · have e2 : addF x.2.ns n = x.2.ns ++ [n] := by unfold addF; rw [if_neg hnm]
        rw [e2]
        unfold needs
        rw [List.foldl_append]
        have := h.need
        unfold needs at this
        rw [this]
        have hlt := (placeF_lt hm).1
        simp only [List.foldl_cons, List.foldl_nil]
        unfold needF
        simp only
        rw [if_pos hkind, if_pos (by rw [halpha]; omega), if_neg (by rw [halpha]; omega)]
    · have e1 : addF x.2.al (shapeF p) = x.2.al ++ [shapeF p] := by unfold addF; rw [if_neg hm]
      have hpl := placeF_none hm
      have hnm : n ∉ x.2.ns := by
        intro hnm
        have := need_alpha x.2.ns 0 _ h.need n hnm hkind
        rw [halpha, hpl] at this
        omega
      have e2 : addF x.2.ns n = x.2.ns ++ [n] := by unfold addF; rw [if_neg hnm]
      rw [e1, e2, List.length_append]
      unfold needs
      rw [List.foldl_append]
      have := needs_mono x.2.ns 0 _ h.need
      simp only [List.length_cons, List.length_nil] at this ⊢
      rw [this]
      simp only [List.foldl_cons, List.foldl_nil]
      unfold needF
      simp only
      rw [if_pos hkind, if_pos (by rw [halpha, hpl]; omega), if_pos (by rw [halpha, hpl])]
theorem ShInv.tst {x : Nat × St} (h : ShInv x.2) (t : Tst) : ShInv (tstF x t).2 := by
  refine ⟨h.good, ?_⟩
  simp only [tstF]
  by_cases hnm : testOf x.2 x.1 t ∈ x.2.ns
  · have e2 : addF x.2.ns (testOf x.2 x.1 t) = x.2.ns := by unfold addF; rw [if_pos hnm]
    rw [e2]; exact h.need
  · have e2 : addF x.2.ns (testOf x.2 x.1 t) = x.2.ns ++ [testOf x.2 x.1 t] := by unfold addF; rw [if_neg hnm]
    rw [e2]
    unfold needs
    rw [List.foldl_append]
    have := h.need
    unfold needs at this
    rw [this]
    simp only [List.foldl_cons, List.foldl_nil]
    unfold needF
    simp only
    rw [if_neg (by show ¬ ((2 : Int) = 1 ∨ (2 : Int) = 3); decide)]
theorem ShInv.step {x : Nat × St} (h : ShInv x.2) {c : Cnd} (h3 : ok3 c) (hc : c.kind ≠ 2 → GoodP c.p) : ShInv (stepF x c).2 := by
  unfold stepF
  by_cases hk : c.kind = 2
  · rw [if_pos hk]; exact h.tst _
  · rw [if_neg hk]
    exact h.pat (by rcases h3 with h | h | h; exact .inl h; exact absurd h hk; exact .inr h) (hc hk)
theorem ShInv.fold : ∀ (cs : List Cnd) {x : Nat × St}, ShInv x.2 → (∀ c ∈ cs, ok3 c ∧ (c.kind ≠ 2 → GoodP c.p)) → ShInv (cs.foldl stepF x).2
  | [], _, h, _ => h
  | c :: r, x, h, hc => by
    rw [List.foldl_cons]
    exact ShInv.fold r (h.step (hc c (by simp)).1 (hc c (by simp)).2) (fun d hd => hc d (by simp [hd]))
theorem conds_good {r : Rl} (h : mayP r) : ∀ c ∈ conds r, ok3 c ∧ (c.kind ≠ 2 → GoodP c.p) := by
  obtain ⟨w, hf⟩ := h
  intro c hc
  refine ⟨conds_ok3 r c hc, fun hk => ?_⟩
  obtain ⟨w', hw'⟩ := okCs_at (conds r) 0 hf.okCs c hc
  have hokA := hw'.okA hk
  obtain ⟨j, hj, hjc⟩ := List.getElem_of_mem hc
  rcases cond_at (show (conds r)[j]? = some c by rw [List.getElem?_eq_getElem hj, hjc]) with ⟨p, g1, g2, rfl⟩ | ⟨t, k, g1, g2, rfl⟩ | ⟨p, k, g1, g2, rfl⟩
  · have := hf.pats p (List.mem_of_getElem? g2)
    exact ⟨this.1, this.2, w', hokA⟩
  · exact absurd rfl hk
  · have := hf.ngs p (List.mem_of_getElem? g2)
    exact ⟨this.1, this.2.1, w', hokA⟩
theorem comp_inv (rs : List Rl) (hf : ∀ r ∈ rs, mayP r) : ∀ k, k ≤ rs.length → ShInv (compF (rs.take k)).1
  | 0, _ => shInv_start
  | k + 1, hk => by
    have hr : rs[k]? = some rs[k] := List.getElem?_eq_getElem (by omega)
    rw [comp_take_succ hr]
    unfold endF
    rw [ruleF_conds]
    exact ShInv.fold _ (x := (0, (compF (rs.take k)).1)) (comp_inv rs hf k (by omega)) (conds_good (hf _ (List.mem_of_getElem? hr)))
theorem comp_shapes (rs : List Rl) (hf : ∀ r ∈ rs, mayP r) : shapesP (compF rs).1.al (compF rs).1.ns := by
  have hI := comp_inv rs hf rs.length (Nat.le_refl _)
  rw [List.take_length] at hI
  have hM := made_comp rs
  refine ⟨fun i hi s hs => ?_, hI.need⟩
  obtain ⟨p, ⟨hp1, hp2, w, hp3⟩, rfl⟩ := hI.good s (List.mem_of_getElem? hs)
  refine ⟨shape_valid hp3 hp1, by simpa [shapeF] using hp2, fun k hk he => ?_⟩
  obtain ⟨a1, a2⟩ := List.getElem?_eq_some_iff.1 he
  obtain ⟨b1, b2⟩ := List.getElem?_eq_some_iff.1 hs
  have := (List.getElem_inj hM.wf.adup).1 (a2.trans b2.symm)
  omega

/-- The way of a node is the one chain of parents. -/
theorem wayG_eq {ns : List Nd} {al : List Shp} : ∀ (f : Nat) (l : List Nat) (e : Nat), Up ⟨al, ns⟩ l → (0 :: l).getD l.length 0 = e → e ≤ f → wayG ns f e = l
  | 0, l, e, hl, he, hf => by
    obtain rfl : e = 0 := by omega
    rcases List.eq_nil_or_concat l with rfl | ⟨m, x, rfl⟩
    · rfl
    · have := (hl m.length x (by simp)).1
      simp [List.getD] at he
      omega
  | f + 1, l, e, hl, he, hf => by
    rcases List.eq_nil_or_concat l with rfl | ⟨m, x, rfl⟩
    · have : e = 0 := by simpa using he.symm
      subst this
      simp [wayG]
    · have hx : e = x := by simp [List.getD] at he; exact he.symm
      subst hx
      obtain ⟨h1, h2, n, h3, h4⟩ := hl m.length e (by simp)
      have e1 : (0 :: m.concat e).getD m.length 0 = (0 :: m).getD m.length 0 := by
        rw [List.concat_eq_append, List.getD_eq_getElem?_getD, List.getD_eq_getElem?_getD, ← List.cons_append, List.getElem?_append_left (by simp)]
      rw [e1] at h2 h4
      have hpo : parentOf ns e = (0 :: m).getD m.length 0 := by
        have h3' : ns[e]? = some n := h3
        unfold parentOf
        rw [h3']
        simp only
        omega
      have hm : Up ⟨al, ns⟩ m := by
        intro i u hu
        have hi := (List.getElem?_eq_some_iff.1 hu).1
        obtain ⟨g1, g2, n', g3, g4⟩ := hl i u (by rw [List.concat_eq_append, List.getElem?_append_left hi]; exact hu)
        have e2 : (0 :: m.concat e).getD i 0 = (0 :: m).getD i 0 := by
          rw [List.concat_eq_append, List.getD_eq_getElem?_getD, List.getD_eq_getElem?_getD, ← List.cons_append, List.getElem?_append_left (by simp; omega)]
        rw [e2] at g2 g4
        exact ⟨g1, g2, n', g3, g4⟩
      simp only [wayG]
      rw [if_neg (by omega), hpo, wayG_eq f m _ hm rfl (by omega), List.concat_eq_append]
theorem made_way {rs : List Rl} {st : St} {es : List Nat} (h : Made rs st es) {i : Nat} {r : Rl} {e : Nat} (hr : rs[i]? = some r) (he : es[i]? = some e) : wayN st.ns e = wayF st 0 (conds r) ∧ e < st.ns.length := by
  obtain ⟨h1, e', h2, h3, h4⟩ := h.ways i r hr
  rw [he] at h2
  injection h2 with h2
  subst h2
  exact ⟨wayG_eq (al := st.al) e _ e (up_way' h.wf h1 (conds_ok3 r)) (by rw [way_last', h3]) (Nat.le_refl _), h4⟩
where
  up_way' {st : St} (hwf : Wf st) {cs : List Cnd} (h : Stands st 0 cs) (hc : ∀ c ∈ cs, ok3 c) : Up st (wayF st 0 cs) := by
    intro i u hu
    obtain ⟨c, h1, h2, h3, h4⟩ := way_at hwf cs 0 h hc i u hu
    exact ⟨by omega, h4, _, h3, by unfold nodeC; split <;> rfl⟩
  way_last' {st : St} {cs : List Cnd} : (0 :: wayF st 0 cs).getD (wayF st 0 cs).length 0 = (wayF st 0 cs).getLast?.getD 0 := by
    generalize wayF st 0 cs = l
    rcases List.eq_nil_or_concat l with rfl | ⟨m, x, rfl⟩
    · rfl
    · simp [List.getD]
/-- The nodes that a rule's way adds are the next ones. -/
theorem on_fold : ∀ (cs : List Cnd) (x : Nat × St), x.1 < x.2.ns.length → (wayF (cs.foldl stepF x).2 x.1 cs).foldl onF (some x.2.ns.length) = some (cs.foldl stepF x).2.ns.length
  | [], x, _ => rfl
  | c :: r, x, hx => by
    obtain ⟨s1, s2, s3, s4⟩ := stepF_facts x c hx
    have hE := ext_fold r (stepF x c)
    rw [List.foldl_cons]
    have hx' : x.1 < (stepF x c).2.ns.length := Nat.lt_of_lt_of_le hx (ext_stepF x c).len
    have e := nodeC_ext hE hx' s1
    have e2 : placeF (r.foldl stepF (stepF x c)).2.ns (nodeC (stepF x c).2 x.1 c) = (stepF x c).1 := by
      rw [s3]
      obtain ⟨_, ⟨q, h⟩⟩ := hE
      rw [h, placeF_app s2]
    simp only [wayF]
    rw [e, e2, List.foldl_cons]
    have hon : onF (some x.2.ns.length) (stepF x c).1 = some (stepF x c).2.ns.length := by
      have key : ∀ n : Nd, (stepF x c).1 = placeF x.2.ns n → (stepF x c).2.ns = addF x.2.ns n → onF (some x.2.ns.length) (stepF x c).1 = some (stepF x c).2.ns.length := by
        intro n h1 h2
        rw [h1, h2]
        unfold onF addF
        by_cases hm : n ∈ x.2.ns
        · have := (placeF_lt hm).1
          simp only
          rw [if_pos (by omega), if_neg (by omega), if_pos hm]
        · rw [placeF_none hm]
          simp [hm]
      unfold stepF at key ⊢
      by_cases hk : c.kind = 2
      · rw [if_pos hk] at key ⊢
        exact key (testOf x.2 x.1 c.t) rfl rfl
      · rw [if_neg hk] at key ⊢
        exact key (nodeOf x.2 c.kind x.1 c.p) rfl rfl
    rw [hon]
    exact on_fold r (stepF x c) s4
theorem ends_take (rs : List Rl) {k : Nat} (hk : k ≤ rs.length) : (compF (rs.take k)).2 = (compF rs).2.take k := by
  have hlen : ∀ j, j ≤ rs.length → (compF (rs.take j)).2.length = j := fun j hj => by rw [(made_comp (rs.take j)).len, List.length_take]; omega
  have hpre : ∀ d, k + d ≤ rs.length → (compF (rs.take (k + d))).2.take k = (compF (rs.take k)).2 := by
    intro d
    induction d with
    | zero => intro _; rw [Nat.add_zero, List.take_of_length_le (by rw [hlen k hk]; exact Nat.le_refl _)]
    | succ d ih =>
      intro hd
      have hr : rs[k + d]? = some rs[k + d] := List.getElem?_eq_getElem (by omega)
      rw [← Nat.add_assoc, comp_take_succ hr]
      unfold endF
      simp only
      rw [List.take_append_of_le_length (by rw [hlen (k + d) (by omega)]; omega)]
      exact ih (by omega)
  have := hpre (rs.length - k) (by omega)
  rw [show k + (rs.length - k) = rs.length by omega, List.take_length] at this
  exact this.symm
theorem comp_ends (rs : List Rl) : endsP (compF rs).1.ns ((compF rs).2.map fun (e : Nat) => (e : Int)) := by
  have hM := made_comp rs
  suffices h : ∀ k, k ≤ rs.length → (((compF rs).2.map fun (e : Nat) => (e : Int)).take k).foldl (endE (compF rs).1.ns) (some 1) = some (compF (rs.take k)).1.ns.length by
    have := h rs.length (Nat.le_refl _)
    rw [List.take_length, List.take_of_length_le (by rw [List.length_map, hM.len]; exact Nat.le_refl _)] at this
    exact this
  intro k
  induction k with
  | zero => intro _; rfl
  | succ k ih =>
    intro hk
    have hr : rs[k]? = some rs[k] := List.getElem?_eq_getElem (by omega)
    obtain ⟨e, he⟩ : ∃ e, (compF rs).2[k]? = some e := ⟨_, List.getElem?_eq_getElem (by rw [hM.len]; omega)⟩
    obtain ⟨h1, h2⟩ := made_way hM hr he
    rw [fold_next (endE (compF rs).1.ns) (some 1) (k := k) (x := (e : Int)) (by rw [List.getElem?_map, he]; rfl), ih (by omega)]
    unfold endE
    simp only
    rw [if_pos ⟨by omega, by omega⟩, Int.toNat_natCast, h1]
    have hst := (made_comp (rs.take k))
    have hof := on_fold (conds rs[k]) (0, (compF (rs.take k)).1) hst.wf.len
    have hext : Ext ((conds rs[k]).foldl stepF (0, (compF (rs.take k)).1)).2 (compF rs).1 := by
      have e1 : ((conds rs[k]).foldl stepF (0, (compF (rs.take k)).1)).2 = (compF (rs.take (k + 1))).1 := by rw [comp_take_succ hr]; unfold endF; rw [ruleF_conds]
      rw [e1]
      have := ext_comp (rs.drop (k + 1)) (compF (rs.take (k + 1)))
      have e2 : (rs.drop (k + 1)).foldl endF (compF (rs.take (k + 1))) = compF rs := by
        unfold compF
        rw [← List.foldl_append, List.take_append_drop]
      rw [e2] at this
      exact this
    have hsd := (stands_fold (conds rs[k]) (0, (compF (rs.take k)).1) hst.wf.len).1
    rw [(stands_ext hext (conds rs[k]) 0 hsd).2]
    rw [hof, comp_take_succ hr]
    unfold endF
    rw [ruleF_conds]
/-- A compiled plan is well formed. -/
theorem comp_check (rs : List Rl) (hf : ∀ r ∈ rs, mayP r) : checkP (compF rs).1.al (compF rs).1.ns ((compF rs).2.map fun (e : Nat) => (e : Int)) :=
  ⟨comp_shapes rs hf, comp_nodes (made_comp rs) hf, comp_ends rs⟩
end Go.Proofs.YtonkbjdeaneicaaDoor.Pln
