/- Check: a plan is well formed. The plan of rules is well formed: nodes, shapes, ends. No program in sight. -/
import Derived.Test.YtonkbjdeaneicaaKpc24
import Derived.Test.YtonkbjdeaneicaaKpc25
namespace Go.Proofs.Ytonkbjdeaneicaa.Pln
open Classical
def checkP (al : List Shp) (ns : List Nd) (es : List Int) : Prop := shapesP al ns ∧ nodesP al ns ∧ endsP ns es
theorem nodesP_par {al : List Shp} {ns : List Nd} (h : nodesP al ns) : Par ns := by
  intro i n hn hi
  obtain ⟨u, _, h1, h2, _⟩ := h.2 i hi (List.getElem?_eq_some_iff.1 hn).1 n hn
  exact ⟨u, h2, h1⟩
theorem wayG_dep {ns : List Nd} (h : Par ns) : ∀ (f e : Nat), e ≤ f → e < ns.length → (wayG ns f e).length = depOf ns e
  | 0, e, he, _ => by
    obtain rfl : e = 0 := by omega
    rfl
  | f + 1, e, he, hn => by
    by_cases h0 : e = 0
    · subst h0
      simp only [wayG, if_true]
      rfl
    · obtain ⟨n, hne⟩ : ∃ n, ns[e]? = some n := ⟨_, List.getElem?_eq_getElem hn⟩
      obtain ⟨u, hu, hp⟩ := h e n hne (by omega)
      have hpo : parentOf ns e = u := by unfold parentOf; rw [hne]; simp only; omega
      simp only [wayG, if_neg h0, hpo, List.length_append, List.length_cons, List.length_nil]
      rw [wayG_dep h f u (by omega) (by omega), depOf_next hpo hu]
theorem way_short {al : List Shp} {ns : List Nd} (h : nodesP al ns) {e : Nat} (he : e < ns.length) : (wayN ns e).length ≤ 16 := by
  unfold wayN
  rw [wayG_dep (nodesP_par h) e e (Nat.le_refl _) he]
  rcases Nat.eq_zero_or_pos e with rfl | hp
  · rw [depOf_zero]; omega
  · obtain ⟨_, _, _, _, _, h4, _⟩ := h.2 e hp he _ (List.getElem?_eq_getElem he)
    exact h4
end Go.Proofs.Ytonkbjdeaneicaa.Pln
namespace Go.Proofs.Ytonkbjdeaneicaa
open Go.RowKit Pln Classical Go.Maps

set_option maxRecDepth 200000 in
set_option maxHeartbeats 4000000 in
theorem checkW {F : Nat → Prop} (W : World) (av nv ev : Value) (al : List Shp) (ns : List Nd) (es : List Int) (hA : RSl F W 2 (EShp F W) av al) (hN : RSl F W 11 (ENode F W) nv ns) (hE : RSl F W 1 EInt ev es) (hm : ns.length ≤ 1000000000) (hml : ∀ n ∈ ns, n.new.length ≤ 1000000000) :
    Calls Try.prog 22 #[.agg #[av, nv, ev]] W fun e W' => e = .returned (.int .i64 (if checkP al ns es then 0 else 2)) ∧ Below W.heap.size W W' := by
  have kpA := fun (Wx : World) (hb : Below W.heap.size W Wx) => RSl.kp (F' := F) (E' := EShp F Wx) hA (Kp.of_below hb) (fun _ _ h => h) (fun _ _ h => h.kp (Kp.of_below hb) (fun _ _ h => h))
  have kpN := fun (Wx : World) (hb : Below W.heap.size W Wx) => RSl.kp (F' := F) (E' := ENode F Wx) hN (Kp.of_below hb) (fun _ _ h => h) (fun _ _ h => h.kp (Kp.of_below hb) (fun _ _ h => h))
  have SW := Lib.hid (fun (Wx : World) (hb : Below W.heap.size W Wx) => shapesW Wx av nv ev al ns (kpA Wx hb) (kpN Wx hb))
  have NW := Lib.hid (fun (Wx : World) (hb : Below W.heap.size W Wx) (hs : shapesP al ns) => nodesW Wx av nv ev al ns (kpA Wx hb) (kpN Wx hb) hs hm hml)
  have EW := Lib.hid (fun (Wx : World) (hb : Below W.heap.size W Wx) (hn : nodesP al ns) => endsW Wx av nv ev al ns es (kpN Wx hb) (hE.keep (Kp.of_below hb)) (nodesP_par hn) (List.getElem?_eq_some_iff.1 hn.1).1 hm (fun e he => Nat.le_trans (way_short hn he) (by omega)))
  obtain ⟨R, hR⟩ : ∃ R : Int, (if checkP al ns es then 0 else 2) = R := ⟨_, rfl⟩
  rw [hR]
  have HR := Lib.hid hR
  clear hR hA hN hE kpA kpN
  have NO := Lib.hid (show ¬ checkP al ns es → R = 2 from fun h => by rw [← HR.out, if_neg h])
  have hB0 : Below (W.heap.size + 1) (W.alloc (.cells #[av, nv, ev] 27)) (W.alloc (.cells #[av, nv, ev] 27)) := Below.refl _ _
  have y0 := box_cellL hB0 0 rfl
  have y1 := box_cellL hB0 1 rfl
  have y2 := box_cellL hB0 2 rfl
  have HB0 := Lib.hid hB0
  have C1 := Lib.hid (SW.out _ (box_below hB0))
  clear hB0
  go_enter Try.func22, Try.ntmps22
  go_wp2_with fail
  refine C1.out.mono ?_
  rintro e w2 ⟨rfl, hb2⟩
  have hB2 := box_step HB0.out hb2
  have y0 := box_cellL hB2 0 rfl
  have y1 := box_cellL hB2 1 rfl
  have y2 := box_cellL hB2 2 rfl
  have HB2 := Lib.hid hB2
  clear hb2 hB2 C1
  by_cases hs : shapesP al ns
  · rw [decide_eq_true hs]
    have C2 := Lib.hid (NW.out _ (box_below HB2.out) hs)
    go_wp2_with fail
    refine C2.out.mono ?_
    rintro e w3 ⟨rfl, hb3⟩
    have hB3 := box_step HB2.out hb3
    have y0 := box_cellL hB3 0 rfl
    have y1 := box_cellL hB3 1 rfl
    have y2 := box_cellL hB3 2 rfl
    have HB3 := Lib.hid hB3
    clear hb3 hB3 C2
    by_cases hn : nodesP al ns
    · rw [decide_eq_true hn]
      have C3 := Lib.hid (EW.out _ (box_below HB3.out) hn)
      go_wp2_with fail
      refine C3.out.mono ?_
      rintro e w4 ⟨rfl, hb4⟩
      have HB4 := Lib.hid (box_below (box_step HB3.out hb4))
      clear hb4 C3
      by_cases he : endsP ns es
      · rw [decide_eq_true he]
        have HF := Lib.hid (show R = 0 by rw [← HR.out, if_pos ⟨hs, hn, he⟩])
        clear he
        go_wp2
        go_ret
        exact ⟨by rw [HF.out]; rfl, HB4.out⟩
      · rw [decide_eq_false he]
        have HF := Lib.hid (NO.out (fun h => he h.2.2))
        clear he
        go_wp2
        go_ret
        exact ⟨by rw [HF.out]; rfl, HB4.out⟩
    · rw [decide_eq_false hn]
      have HF := Lib.hid (NO.out (fun h => hn h.2.1))
      clear hn
      go_wp2
      go_ret
      exact ⟨by rw [HF.out]; rfl, box_below HB3.out⟩
  · rw [decide_eq_false hs]
    have HF := Lib.hid (NO.out (fun h => hs h.1))
    clear hs
    go_wp2
    go_ret
    exact ⟨by rw [HF.out]; rfl, box_below HB2.out⟩
end Go.Proofs.Ytonkbjdeaneicaa

namespace Go.Proofs.Ytonkbjdeaneicaa.Pln
open Classical

/-- How many variables are bound behind the first conditions. -/
noncomputable def foldW (cs : List Cnd) : Nat := cs.foldl nextW 0
theorem nextW_le (w : Nat) (c : Cnd) : w ≤ nextW w c := by
  unfold nextW
  split
  · exact scanD_le _ _
  · exact Nat.le_refl _
theorem foldl_nextW_le (cs : List Cnd) : ∀ w, w ≤ cs.foldl nextW w := by
  induction cs with
  | nil => intro w; exact Nat.le_refl _
  | cons c r ih => intro w; exact Nat.le_trans (nextW_le w c) (ih _)
theorem foldW_take (cs : List Cnd) (j : Nat) : foldW (cs.take j) ≤ foldW cs := by
  unfold foldW
  rw [← List.take_append_drop j cs, List.foldl_append, List.take_append_drop]
  exact foldl_nextW_le _ _
theorem foldW_pos : ∀ (pos : List Pat) (w : Nat), (pos.map (fun p => (⟨1, p, noTst⟩ : Cnd))).foldl nextW w = scanD (pos.flatMap Pat.args) w
  | [], w => rfl
  | p :: r, w => by
    rw [List.map_cons, List.foldl_cons, foldW_pos r, List.flatMap_cons, scanD_app]
    rfl
theorem foldW_const : ∀ (cs : List Cnd), (∀ c ∈ cs, c.kind ≠ 1) → ∀ w, cs.foldl nextW w = w
  | [], _, w => rfl
  | c :: r, h, w => by
    rw [List.foldl_cons]
    have : nextW w c = w := by unfold nextW; rw [if_neg (h c (by simp))]
    rw [this]
    exact foldW_const r (fun d hd => h d (by simp [hd])) w
theorem Fit.foldW {r : Rl} {w : Nat} (h : Fit r w) : foldW (conds r) = w := by
  unfold Pln.foldW conds
  rw [List.foldl_append, List.foldl_append, foldW_pos, h.wid]
  rw [foldW_const (r.tests.map _) (by intro c hc; obtain ⟨t, _, rfl⟩ := List.mem_map.1 hc; show (2 : Int) ≠ 1; decide), foldW_const (r.neg.map _) (by intro c hc; obtain ⟨t, _, rfl⟩ := List.mem_map.1 hc; show (3 : Int) ≠ 1; decide)]
theorem way_fold {st : St} : ∀ (cs : List Cnd) (u w : Nat), Stands st u cs → okCs w cs → widthAt st u = w → ∀ j, j ≤ cs.length → widthAt st ((u :: wayF st u cs).getD j 0) = (((cs.take j).foldl nextW w : Nat) : Int)
  | [], u, w, _, _, hw, j, hj => by
    have : j = 0 := by simpa using hj
    subst this
    exact hw
  | d :: r, u, w, ⟨hu, hs, hm, hr⟩, ⟨ho, hos⟩, hw, j, hj => by
    match j with
    | 0 => exact hw
    | j + 1 =>
      have e : widthAt st (placeF st.ns (nodeC st u d)) = (nextW w d : Int) := by
        unfold widthAt
        rw [(placeF_lt hm).2]
        exact nodeC_width ho hw
      have := way_fold r _ _ hr hos e j (by simpa using hj)
      simp only [wayF, List.getD_cons_succ, List.take_succ_cons, List.foldl_cons]
      exact this

section
variable {rs : List Rl} {st : St} {es : List Nat}
/-- A node but the root, as a rule's way has it. -/
theorem node_on (h : Made rs st es) (hf : ∀ r ∈ rs, mayP r) {k : Nat} {n : Nd} (hn : st.ns[k]? = some n) (hk : 1 ≤ k) :
    ∃ (r : Rl) (j : Nat) (c : Cnd) (w : Nat), r ∈ rs ∧ mayP r ∧ Stands st 0 (conds r) ∧ (wayF st 0 (conds r))[j]? = some k ∧ (conds r)[j]? = some c ∧ n = nodeC st ((0 :: wayF st 0 (conds r)).getD j 0) c ∧ widthAt st ((0 :: wayF st 0 (conds r)).getD j 0) = (w : Int) ∧ okC w c ∧ Shaped st c ∧ nextW w c ≤ 16 := by
  obtain ⟨i, r, hr, hm⟩ := h.used k (by omega) (List.getElem?_eq_some_iff.1 hn).1
  obtain ⟨j, hj, hjk⟩ := List.getElem_of_mem hm
  have hj' : (wayF st 0 (conds r))[j]? = some k := by rw [List.getElem?_eq_getElem hj, hjk]
  have hst := (h.ways i r hr).1
  have hrm := List.mem_of_getElem? hr
  obtain ⟨wr, hfit⟩ := hf r hrm
  obtain ⟨c, n', w, h1, h2, h3, h4, h5, h6⟩ := way_node h.wf hst hfit.okCs (conds_ok3 r) hj'
  rw [hn] at h2
  have e : n = n' := Option.some.inj h2
  have w0 : widthAt st 0 = ((0 : Nat) : Int) := by unfold widthAt; rw [h.wf.root]; rfl
  have hfw := way_fold (conds r) 0 0 hst hfit.okCs w0 j (by rw [← way_len st _ 0]; omega)
  have hfn : nextW w c ≤ 16 := by
    have e1 : w = (conds r |>.take j).foldl nextW 0 := by omega
    have e2 : nextW w c = foldW ((conds r).take (j + 1)) := by
      unfold foldW
      rw [fold_next nextW 0 h1, e1]
    rw [e2]
    exact Nat.le_trans (foldW_take _ _) (by rw [hfit.foldW]; exact hfit.w16)
  exact ⟨r, j, c, w, hrm, ⟨wr, hfit⟩, hst, hj', h1, by rw [e]; exact h3, h4, h5, h6, hfn⟩
theorem up_node (h : Made rs st es) {r : Rl} (hst : Stands st 0 (conds r)) {j : Nat} (hj : j ≤ (wayF st 0 (conds r)).length) :
    ∃ up, st.ns[(0 :: wayF st 0 (conds r)).getD j 0]? = some up ∧ ((j = 0 ∧ up = rootN) ∨ ∃ j' c, j = j' + 1 ∧ (conds r)[j']? = some c ∧ up.kind = c.kind) := by
  match j, hj with
  | 0, _ => exact ⟨rootN, h.wf.root, .inl ⟨rfl, rfl⟩⟩
  | j + 1, hj =>
    obtain ⟨v, hv⟩ : ∃ v, (wayF st 0 (conds r))[j]? = some v := ⟨_, List.getElem?_eq_getElem hj⟩
    obtain ⟨c, c1, c2, c3, _⟩ := way_at h.wf (conds r) 0 hst (conds_ok3 r) j v hv
    refine ⟨nodeC st ((0 :: wayF st 0 (conds r)).getD j 0) c, by rw [getD_next hv]; exact c3, .inr ⟨j, c, rfl, c1, ?_⟩⟩
    unfold nodeC
    split
    · rename_i hk; exact hk.symm
    · rfl
theorem depth_on (h : Made rs st es) {r : Rl} (hst : Stands st 0 (conds r)) : ∀ (j v : Nat), (wayF st 0 (conds r))[j]? = some v → depOf st.ns v = j + 1
  | j, v, hv => by
    obtain ⟨c, c1, c2, c3, c4⟩ := way_at h.wf (conds r) 0 hst (conds_ok3 r) j v hv
    obtain ⟨u, hu⟩ : ∃ u, (0 :: wayF st 0 (conds r)).getD j 0 = u := ⟨_, rfl⟩
    rw [hu] at c3 c4
    have hpo : parentOf st.ns v = u := by
      have hp := nodeC_parent' st u c
      unfold parentOf
      rw [c3]
      simp only
      rw [hp, Int.toNat_natCast]
    rw [depOf_next hpo c4]
    match j with
    | 0 =>
      have : u = 0 := hu.symm
      rw [this, depOf_zero]
    | j + 1 =>
      obtain ⟨v', hv'⟩ : ∃ v', (wayF st 0 (conds r))[j]? = some v' := ⟨_, List.getElem?_eq_getElem (by have := (List.getElem?_eq_some_iff.1 hv).1; omega)⟩
      rw [getD_next hv'] at hu
      rw [← hu, depth_on h hst j v' hv']
where
  nodeC_parent' (st : St) (u : Nat) (c : Cnd) : (nodeC st u c).parent = (u : Int) := by
    unfold nodeC
    split <;> rfl
/-- Conditions come in three runs. -/
theorem cond_ahead {r : Rl} {j : Nat} {c d : Cnd} (hc : (conds r)[j + 1]? = some c) (hd : (conds r)[j]? = some d) : (c.kind = 1 → d.kind = 1) ∧ (c.kind = 2 → d.kind ≠ 3) := by
  rcases cond_at hc with ⟨p, h1, h2, rfl⟩ | ⟨t, k, h1, h2, rfl⟩ | ⟨p, k, h1, h2, rfl⟩
  · rcases cond_at hd with ⟨p', g1, g2, rfl⟩ | ⟨t', k', g1, g2, rfl⟩ | ⟨p', k', g1, g2, rfl⟩
    · exact ⟨fun _ => rfl, fun _ => by show (1 : Int) ≠ 3; decide⟩
    · omega
    · omega
  · rcases cond_at hd with ⟨p', g1, g2, rfl⟩ | ⟨t', k', g1, g2, rfl⟩ | ⟨p', k', g1, g2, rfl⟩
    · exact ⟨fun h => absurd h (by show ¬ (2 : Int) = 1; decide), fun _ => by show (1 : Int) ≠ 3; decide⟩
    · exact ⟨fun h => absurd h (by show ¬ (2 : Int) = 1; decide), fun _ => by show (2 : Int) ≠ 3; decide⟩
    · have := (List.getElem?_eq_some_iff.1 h2).1
      omega
  · exact ⟨fun h => absurd h (by show ¬ (3 : Int) = 1; decide), fun h => absurd h (by show ¬ (3 : Int) = 2; decide)⟩
/-- Nodes are right. -/
theorem comp_nodes (h : Made rs st es) (hf : ∀ r ∈ rs, mayP r) : nodesP st.al st.ns := by
  refine ⟨h.wf.root, fun i hi1 hi n hn => ?_⟩
  obtain ⟨r, j, c, w, hr, ⟨wr, hfit⟩, hst, hj, hc, hnc, hw, hok, hsh, h16⟩ := node_on h hf hn hi1
  obtain ⟨c', c1, _, c3, c4⟩ := way_at h.wf (conds r) 0 hst (conds_ok3 r) j i hj
  obtain ⟨u, hu⟩ : ∃ u, (0 :: wayF st 0 (conds r)).getD j 0 = u := ⟨_, rfl⟩
  obtain ⟨up, hup, hupk⟩ := up_node h hst (j := j) (Nat.le_of_lt (List.getElem?_eq_some_iff.1 hj).1)
  rw [hu] at hup hnc hw c4
  have hpar : n.parent = (u : Int) := by rw [hnc]; unfold nodeC; split <;> rfl
  have hupw : up.width = (w : Int) := by rw [← width_node hup]; exact hw
  refine ⟨u, up, hpar, c4, hup, ?_, ?_, ?_⟩
  · rw [depth_on h hst j i hj]
    have h1 := (List.getElem?_eq_some_iff.1 hj).1
    rw [way_len, conds_len] at h1
    have := hfit.many
    omega
  · rcases cond_at hc with ⟨p, g1, g2, rfl⟩ | ⟨t, k, g1, g2, rfl⟩ | ⟨p, k, g1, g2, rfl⟩
    · obtain ⟨ai, hs⟩ := says_of (.inl rfl) hnc hw hok hsh
      have hnw : nextW w ⟨1, p, noTst⟩ = w + (newK p.args w p.args.length).length := hok.next (by show ¬ (1 : Int) = 2; decide)
      refine .inl ⟨hs.kind, ?_, ai, shapeF p, hs.alpha, hs.al, by rw [hupw]; exact says_places hs (by rw [hnc]; rfl) (by omega)⟩
      rcases hupk with ⟨_, rfl⟩ | ⟨j', d, rfl, hd, hk⟩
      · exact .inl rfl
      · exact .inr (by rw [hk]; exact (cond_ahead hc hd).1 rfl)
    · obtain ⟨t1, t2, t3, t4, t5, t6⟩ := test_of hnc hw
      obtain ⟨x1, x2, x3, x4⟩ := hfit.tst t (List.mem_of_getElem? g2)
      rcases hok with ⟨hh, _⟩ | ⟨_, _, b1, b2⟩ | ⟨hh, _⟩
      · exact absurd hh (by show ¬ (2 : Int) = 1; decide)
      · refine .inr (.inr ⟨t1, ?_, t2, t3, t4, by rw [t6, hupw], by rw [t5]; exact x1, by rw [t5]; exact x2, by rw [t5, hupw]; exact b1, by rw [t5, hupw]; exact b2⟩)
        rcases hupk with ⟨_, rfl⟩ | ⟨j', d, rfl, hd, hk⟩
        · show (0 : Int) ≠ 3; decide
        · rw [hk]; exact (cond_ahead hc hd).2 rfl
      · exact absurd hh (by show ¬ (2 : Int) = 3; decide)
    · obtain ⟨ai, hs⟩ := says_of (.inr rfl) hnc hw hok hsh
      have hnn := neg_new hok
      have hnw : nextW w ⟨3, p, noTst⟩ = w := by unfold nextW; rw [if_neg (by show ¬ (3 : Int) = 1; decide)]
      refine .inr (.inl ⟨hs.kind, by rw [hs.new, hnn], ai, shapeF p, hs.alpha, hs.al, by rw [hupw]; exact says_places hs (by rw [hnc]; rfl) (by rw [hnn]; simp; omega)⟩)
  · intro k hk1 hki he
    have := (List.getElem?_eq_some_iff.1 he)
    have h2 := (List.getElem?_eq_some_iff.1 hn)
    obtain ⟨a1, a2⟩ := this
    obtain ⟨b1, b2⟩ := h2
    have := (List.getElem_inj h.wf.dup).1 (a2.trans b2.symm)
    omega
end
end Go.Proofs.Ytonkbjdeaneicaa.Pln
