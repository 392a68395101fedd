/- The reference's Compile: all rules' ways. Compile, told at once: the plan, its lists, the error. -/
import Derived.Test.YtonkbjdeaneicaaKpo13
import Derived.Test.YtonkbjdeaneicaaKpo14
import Derived.Test.YtonkbjdeaneicaaKpo19
import Derived.StillTailTactics
namespace Go.Proofs.Ytonkbjdeaneicaa
open Go.RowKit Pln Classical Go.Maps

/-- What Compile leaves. -/
def RCompRes (rs : List Rl) (W : World) (e : Ending) (W' : World) : Prop :=
  Below W.heap.size W W' ∧ (((∀ r ∈ rs, mayP r) ∧ ∃ av nv ev, e = .returned (.tuple #[.agg #[av, nv, ev], .int .i64 0]) ∧ RPl (fun b => W.heap.size ≤ b) W' av nv ev (compF rs).1.al (compF rs).1.ns ((compF rs).2.map fun (e : Nat) => (e : Int))) ∨
    ((∃ r ∈ rs, ¬ mayP r) ∧ e = .returned (.tuple #[.agg #[.slice none 0 0, .slice none 0 0, .slice none 0 0], .int .i64 2])))
structure RCst (W wr : World) (S : List Nat) (st : St) (es : List Nat) : Prop where
  mkr : RMkr (W.heap.size + 1) (W.heap.size + 1) wr S st es
  rb : wr.heap[W.heap.size]? = some (.cells #[.slice none 0 0, .slice none 0 0, .slice none 0 0] 27 (0, 0))
  below : Below W.heap.size W wr
section
variable {W wr wr' : World} {S : List Nat} {st st' : St} {es es' : List Nat}
theorem RCst.step (h : RCst W wr S st es) (hb : Below wr.heap.size wr wr') : RCst W wr' S st es :=
  ⟨h.mkr.step hb, (hb.block _ (lt_of_heap h.rb)).trans h.rb, h.below.trans (hb.mono h.below.size)⟩
theorem RCst.to (h : RCst W wr S st es) (ht : RMkrTo (W.heap.size + 1) (W.heap.size + 1) wr S st' es' wr') : ∃ S', RCst W wr' S' st' es' := by
  obtain ⟨S', h1, h2, h3⟩ := ht
  have hf := h.mkr.foot
  exact ⟨S', h1, (h2.block _ (lt_of_heap h.rb) (fun hm => by have := (hf.2 _ hm).1; omega)).trans h.rb, h.below.trans (h2.below h.below.size (fun x hx => by have := (hf.2 x hx).1; omega))⟩
end
theorem RMkr.width {base g : Nat} {W : World} {S : List Nat} {st : St} {es : List Nat} (h : RMkr base g W S st es) {u : Nat} (hu : u < st.ns.length) {wd : Nat} (hwd : widthAt st u = wd) :
    ∃ b off C, W.cell? ⟨g, 1, none⟩ = some (.slice (some ⟨b, off, none⟩) st.ns.length C) ∧ b < W.heap.size ∧ W.cell? ⟨b, off + u * 11 + 10, none⟩ = some (.int .i64 wd) ∧ g < W.heap.size := by
  obtain ⟨av, nv, ev, rfl, hM⟩ := h
  obtain ⟨A0, C0, rfl⟩ := hM.ns.form
  obtain ⟨nd, hnd⟩ : ∃ nd, st.ns[u]? = some nd := ⟨_, List.getElem?_eq_getElem hu⟩
  have hw : nd.width = (wd : Int) := by unfold widthAt at hwd; rw [hnd] at hwd; exact hwd
  obtain ⟨b, off, rfl, hFb0, hbs, cs, ⟨ln0, nn0, hE⟩, hc⟩ := (hM.ns.rsl (G := fun b => b < W.heap.size) (fun b hb => (hM.ns.block hb).2.1)).at hnd
  have hcs := hE.cells
  subst hcs
  exact ⟨b, off, C0, hM.cell 1 rfl, hbs, by rw [← hw]; exact hc 10 _ rfl, hM.lt⟩
theorem rcst_start (W : World) : RCst W (((W.alloc (.cells #[.slice none 0 0, .slice none 0 0, .slice none 0 0] 27)).alloc (.cells #[.slice none 0 0, .slice (some ⟨W.heap.size + 1 + 1, 0, none⟩) 1 1, .slice none 0 0] 65)).alloc (.cells rootCells.toArray 54)) [W.heap.size + 1, W.heap.size + 1 + 1] ⟨[], [rootN]⟩ [] := by
  have hb1 : Below (W.heap.size + 1) (W.alloc (.cells #[.slice none 0 0, .slice none 0 0, .slice none 0 0] 27)) (((W.alloc (.cells #[.slice none 0 0, .slice none 0 0, .slice none 0 0] 27)).alloc (.cells #[.slice none 0 0, .slice (some ⟨W.heap.size + 1 + 1, 0, none⟩) 1 1, .slice none 0 0] 65)).alloc (.cells rootCells.toArray 54)) := ((Below.refl _ _).alloc (by simp) _).alloc (by simp) _
  have hm : (((W.alloc (.cells #[.slice none 0 0, .slice none 0 0, .slice none 0 0] 27)).alloc (.cells #[.slice none 0 0, .slice (some ⟨W.heap.size + 1 + 1, 0, none⟩) 1 1, .slice none 0 0] 65)).alloc (.cells rootCells.toArray 54)).heap[W.heap.size + 1]? = some (.cells #[.slice none 0 0, .slice (some ⟨W.heap.size + 1 + 1, 0, none⟩) 1 1, .slice none 0 0] 65 (0, 0)) := by
    rw [Below.heap_alloc _ _ _ (by simp)]
    have := heap_alloc_new (W.alloc (.cells #[.slice none 0 0, .slice none 0 0, .slice none 0 0] 27)) (.cells #[.slice none 0 0, .slice (some ⟨W.heap.size + 1 + 1, 0, none⟩) 1 1, .slice none 0 0] 65)
    simpa using this
  have hr : (((W.alloc (.cells #[.slice none 0 0, .slice none 0 0, .slice none 0 0] 27)).alloc (.cells #[.slice none 0 0, .slice (some ⟨W.heap.size + 1 + 1, 0, none⟩) 1 1, .slice none 0 0] 65)).alloc (.cells rootCells.toArray 54)).heap[W.heap.size + 1 + 1]? = some (.cells rootCells.toArray 54 (0, 0)) := by
    have := heap_alloc_new ((W.alloc (.cells #[.slice none 0 0, .slice none 0 0, .slice none 0 0] 27)).alloc (.cells #[.slice none 0 0, .slice (some ⟨W.heap.size + 1 + 1, 0, none⟩) 1 1, .slice none 0 0] 65)) (.cells rootCells.toArray 54)
    simpa using this
  refine ⟨⟨.slice none 0 0, .slice (some ⟨W.heap.size + 1 + 1, 0, none⟩) 1 1, .slice none 0 0, rfl, hm, OwnF.nil, ?_, OwnF.nil, Nat.le_refl _⟩, (hb1.block _ (by simp)).trans (heap_alloc_new W _), box_below hb1⟩
  refine ⟨rootCells, ⟨rfl, .inr ⟨W.heap.size + 1 + 1, 1, rootCells.toArray, rfl, by omega, hr, Nat.le_refl _, by unfold maxLen; decide, rfl, rfl⟩⟩, fun i x hx => ?_⟩
  match i with
  | 0 =>
    simp only [List.getElem?_cons_zero, Option.some.injEq] at hx
    subst hx
    have m1 : i64ok (-1) := by unfold i64ok; decide
    exact ⟨rootCells, ⟨_, _, rfl, ⟨ok0, m1, m1, ok0, ok0, ok0, ok0⟩, RSl.nil, RSl.nil⟩, fun j u hu => by simpa using hu⟩
  | i + 1 => simp at hx
theorem comp_len_take {rs : List Rl} {k : Nat} (h : ∀ r ∈ rs.take k, mayP r) (hk : k ≤ rs.length) : (compF (rs.take k)).1.ns.length ≤ 1 + 16 * k ∧ (compF (rs.take k)).1.al.length ≤ 16 * k := by
  have := comp_len (rs.take k) h (rs.take k).length (Nat.le_refl _)
  rw [List.take_length, List.length_take, Nat.min_eq_left hk] at this
  exact this

set_option maxRecDepth 200000 in
set_option maxHeartbeats 16000000 in
theorem rcompileW {F : Nat → Prop} (v : Value) (rs : List Rl) (W : World) (h : RRules F W v rs) (hS : rs.length ≤ 1048576 ∧ ∀ r ∈ rs, rlSm 1048576 r) :
    Calls Try.prog 8 #[v] W (RCompRes rs W) := by
  obtain ⟨A, c, rfl⟩ := h.form
  have hm := hS.1
  have H := Lib.hid (RRules.kp (F' := fun b => b < W.heap.size) h (Kp.refl _ _) (fun b hb _ => hb))
  have SM := Lib.hid hS
  clear h hS
  go_enter Try.func8, Try.ntmps8
  go_wp2
  go_loopw [5] (fun i wr => ∃ (k : Nat) (S : List Nat), i = .int .i64 k ∧ k ≤ rs.length ∧ (∀ r ∈ rs.take k, mayP r) ∧ RCst W wr S (compF (rs.take k)).1 (compF (rs.take k)).2) (fun i _ => rs.length - (intOf i).toNat)
  case atStart => exact ⟨0, _, rfl, Nat.zero_le _, by simp, rcst_start W⟩
  case round =>
    obtain ⟨k, S, rfl, hk, hq, hC⟩ := hrel
    have bw := hC.below
    by_cases hkn : k < rs.length
    · obtain ⟨r, hr⟩ : ∃ r, rs[k]? = some r := ⟨_, List.getElem?_eq_getElem hkn⟩
      obtain ⟨b, off, rfl, hFb, hbs, cs, ⟨hv, pv, tv, nv, vv, hE⟩, hc⟩ := H.out.at hr
      have hcs := hE.cells
      subst hcs
      have hsm := SM.out.2 r (List.mem_of_getElem? hr)
      have CY := Lib.hid (rfitW r wr (hE.kp (F' := fun b => b < W.heap.size) (Kp.of_below bw) (fun _ _ h => h)) hsm)
      obtain ⟨Ah, ch, rfl⟩ := hE.head.form
      obtain ⟨Ap, cp, rfl⟩ := hE.pos.form
      obtain ⟨At, ct, rfl⟩ := hE.tests.form
      obtain ⟨An, cn, rfl⟩ := hE.neg.form
      obtain ⟨Av, cv, rfl⟩ := hE.vars.form
      have cc := fun (Wx : World) (hx : Below W.heap.size W Wx) (i : Nat) (u : Value) hu => (hx.cell (p := ⟨b, off + k * 7 + i, none⟩) hbs).trans (hc i u hu)
      have c0 := cc wr bw 0 _ rfl
      have c1 := cc wr bw 1 _ rfl
      have c2 := cc wr bw 2 _ rfl
      have c3 := cc wr bw 3 _ rfl
      have c4 := cc wr bw 4 _ rfl
      have c5 := cc wr bw 5 _ rfl
      have c6 := cc wr bw 6 _ rfl
      simp only [Nat.add_zero] at c0
      have e1 : (0 : Int) ≤ (k : Int) := by omega
      have e2 : (k : Int) < (rs.length : Int) := by omega
      have HR := Lib.hid hr
      have HK := Lib.hid hkn
      have HQ := Lib.hid hq
      have HC := Lib.hid hC
      have HCC := Lib.hid cc
      have HE := Lib.hid hE
      clear hc cc hr hkn hq hC hE hsm
      by_cases hmp : mayP r
      case neg =>
        have HM := Lib.hid (mayB_false hmp)
        have HF := Lib.hid hmp
        clear hmp bw
        go_wp2_with fail
        refine CY.out.mono ?_
        rintro e w2 ⟨nn, he, hb2⟩
        rw [HM.out] at he
        subst he
        have HC2 := HC.out.step hb2
        have eb := HC2.rb
        have f0 := cell_of_row _ _ 0 _ _ _ eb
        have f1 := cell_of_row _ _ 1 _ _ _ eb
        have f2 := cell_of_row _ _ 2 _ _ _ eb
        simp only [List.getElem?_toArray, List.getElem?_cons_zero, List.getElem?_cons_succ] at f0 f1 f2
        have fz : ∀ o, w2.frozen? ⟨W.heap.size, o, none⟩ = false := fun o => by simp [World.frozen?, eb]
        have ef := Lib.hid (heap_setCell_same _ _ 2 _ _ (.slice none 0 0) (heap_setCell_same _ _ 1 _ _ (.slice none 0 0) (heap_setCell_same _ _ 0 _ _ (.slice none 0 0) eb)))
        have hwl := lt_of_heap eb
        have HB3 := Lib.hid HC2.below
        clear hb2 HC2 eb
        go_wp2
        exact bodyPost_ret (v := .tuple #[.agg #[.slice none 0 0, .slice none 0 0, .slice none 0 0], .int .i64 2]) (results_row_slot rfl _ _ W.heap.size 27 #[.slice none 0 0, .slice none 0 0, .slice none 0 0] (0, 0) _ _ rfl rfl ef.out Try.underlying27 rfl sizePlan) rfl
          ⟨((HB3.out.setCell (Nat.le_refl _) _).setCell (Nat.le_refl _) _).setCell (Nat.le_refl _) _, .inr ⟨⟨r, List.mem_of_getElem? HR.out, HF.out⟩, rfl⟩⟩
      have HM := Lib.hid (mayB_true hmp)
      have HQ2 := Lib.hid (take_all HQ.out HR.out hmp)
      obtain ⟨fw, hfit⟩ := hmp
      obtain ⟨lN, lA⟩ := comp_len_take HQ.out hk
      have hmany := hfit.many
      have hwf := (made_comp (rs.take k)).wf
      obtain ⟨st, hst⟩ : ∃ st, (compF (rs.take k)).1 = st := ⟨_, rfl⟩
      obtain ⟨es, hes⟩ : ∃ es, (compF (rs.take k)).2 = es := ⟨_, rfl⟩
      have CE := Lib.hid (comp_take_succ HR.out)
      rw [hst] at lN lA hwf HC
      rw [hes] at HC
      have UF := Lib.hid (fun i hi => upTo_facts hwf hfit (i := i) hi)
      have HST := Lib.hid (And.intro hst hes)
      have HFIT := Lib.hid hfit
      clear hst hes hfit hwf bw
      go_wp2_with fail
      refine CY.out.mono ?_
      rintro e w2 ⟨nn, he, hb2⟩
      rw [HM.out] at he
      subst he
      have HC2 := Lib.hid (HC.out.step hb2)
      clear hb2 CY c0 c1 c2 c3 c4 c5 c6
      go_wp2_with fail
      go_loopw [8, 9] (fun u i wr => ∃ (j : Nat) (S : List Nat), i = .int .i64 j ∧ u = .int .i64 (upTo st r j).1 ∧ j ≤ r.pos.length ∧ RCst W wr S (upTo st r j).2 es) (fun _ i _ => r.pos.length - (intOf i).toNat)
      case atStart => exact ⟨0, S, rfl, rfl, Nat.zero_le _, HC2.out⟩
      case round =>
        obtain ⟨j, S, rfl, rfl, hj, hI⟩ := hrel
        clear HC2
        have bw := hI.below
        have c2 := HCC.out wr bw 2 _ rfl
        by_cases hjn : j < r.pos.length
        · obtain ⟨p, hp⟩ : ∃ p, r.pos[j]? = some p := ⟨_, List.getElem?_eq_getElem hjn⟩
          obtain ⟨b', off', rfl, hFb', hbs', cs', ⟨av', rfl, pok, ha⟩, hc'⟩ := (RPats.kp HE.out.pos (Kp.of_below bw) (fun _ _ h => h)).at hp
          have c0' := hc' 0 _ rfl
          have c1' := hc' 1 _ rfl
          simp only [Nat.add_zero] at c0'
          obtain ⟨hu, ⟨wd, hwd, hwd2⟩, hn1, hn2⟩ := UF.out j (by omega)
          have hfa := fit_at ⟨fw, HFIT.out⟩ hp
          have m1 : i64ok 1 := by unfold i64ok; decide
          have CP := Lib.hid (ratomW hI.mkr 1 m1 _ hu wd hwd (by omega) (F := fun b => b < W.heap.size) (fun b hb => by omega) p _ ha pok hfa.2.2 (by omega) (by omega))
          obtain ⟨Aa, ca, rfl⟩ := ha.form
          have hstep := upTo_succ st (cond_pos hp)
          have HS := Lib.hid (show upTo st r (j + 1) = patF 1 ((upTo st r j).1, (upTo st r j).2) p from hstep)
          have f1 : (0 : Int) ≤ (j : Int) := by omega
          have f2 : (j : Int) < (r.pos.length : Int) := by omega
          have HJ := Lib.hid hjn
          have HI := Lib.hid hI
          clear hc' hp ha hwd hfa hstep hjn hI hu bw m1
          go_wp2_with fail
          refine CP.out.mono ?_
          rintro e w5 ⟨rfl, hT⟩
          obtain ⟨S', hI'⟩ := HI.out.to hT
          rw [← HS.out] at hI' ⊢
          have HI' := Lib.hid hI'
          clear hT hI'
          go_wp2_with fail
          exact ⟨⟨j + 1, S', by go_num, rfl, HJ.out, HI'.out⟩, by simp [intOf]; have := HJ.out; omega⟩
        · obtain rfl : j = r.pos.length := by omega
          have HI := Lib.hid hI
          clear bw hI
          go_wp2_with fail
          clear c2
          go_loopw [8, 10] (fun u i wr => ∃ (j : Nat) (S : List Nat), i = .int .i64 j ∧ u = .int .i64 (upTo st r (r.pos.length + j)).1 ∧ j ≤ r.tests.length ∧ RCst W wr S (upTo st r (r.pos.length + j)).2 es) (fun _ i _ => r.tests.length - (intOf i).toNat)
          case atStart => exact ⟨0, S, rfl, rfl, Nat.zero_le _, HI.out⟩
          case round =>
            obtain ⟨j, S, rfl, rfl, hj, hI⟩ := hrel
            clear HI
            have bw := hI.below
            have c3 := HCC.out wr bw 3 _ rfl
            by_cases hjn : j < r.tests.length
            · obtain ⟨t, ht⟩ : ∃ t, r.tests[j]? = some t := ⟨_, List.getElem?_eq_getElem hjn⟩
              obtain ⟨b', off', rfl, hFb', hbs', cs', ⟨rfl, ok1, ok2, ok3⟩, hc'⟩ := HE.out.tests.at ht
              obtain ⟨hu, ⟨wd, hwd, hwd2⟩, hn1, hn2⟩ := UF.out (r.pos.length + j) (by omega)
              obtain ⟨u, hue⟩ : ∃ u, (upTo st r (r.pos.length + j)).1 = u := ⟨_, rfl⟩
              have hstep := upTo_succ st (cond_test ht)
              have HS := Lib.hid (show upTo st r (r.pos.length + (j + 1)) = tstF ((upTo st r (r.pos.length + j)).1, (upTo st r (r.pos.length + j)).2) t from hstep)
              have hT0 : testOf (upTo st r (r.pos.length + j)).2 (upTo st r (r.pos.length + j)).1 t = ⟨2, ((upTo st r (r.pos.length + j)).1 : Int), -1, [], [], t, wd⟩ := by unfold testOf; rw [hwd]
              rw [hue] at hu hwd HS hT0 ⊢
              have m1 : i64ok (-1) := by unfold i64ok; decide
              have m2 : i64ok 2 := by unfold i64ok; decide
              have hok : NdOk ⟨2, (u : Int), -1, [], [], t, wd⟩ := ⟨⟨m2, okNat (by omega), m1, okNat (by omega), ok1, ok2, ok3⟩, by simp, by simp, by simp, by simp⟩
              have CN := Lib.hid (fun W' (hb : Below wr.heap.size wr W') => rnodeW (hI.mkr.step hb) (cs := [.int .i64 2, .int .i64 u, .int .i64 (-1), .slice none 0 0, .slice none 0 0, .int .i64 t.op, .bool t.l.v, .int .i64 t.l.n, .bool t.r.v, .int .i64 t.r.n, .int .i64 wd]) (lv := .slice none 0 0) (nv := .slice none 0 0) ⟨2, (u : Int), -1, [], [], t, wd⟩ ⟨rfl, hok.ints, RSl.nil, RSl.nil⟩ (by omega))
              have MW := Lib.hid (fun W' (hb : Below wr.heap.size wr W') => (hI.mkr.step hb).width hu hwd)
              have hcz := Lib.hid (fun W' (hb : Below wr.heap.size wr W') (i : Nat) (u : Value) hu => ((bw.trans (hb.mono bw.size)).cell (p := ⟨b', off' + j * 5 + i, none⟩) hbs').trans (hc' i u hu))
              have f1 : (0 : Int) ≤ (j : Int) := by omega
              have f2 : (j : Int) < (r.tests.length : Int) := by omega
              have f3 : (0 : Int) ≤ (u : Int) := by omega
              have f4 : (u : Int) < ((upTo st r (r.pos.length + j)).2.ns.length : Int) := by omega
              have HJ := Lib.hid hjn
              have HI := Lib.hid hI
              have HT0 := Lib.hid hT0
              have HUE := Lib.hid hue
              have BWW := Lib.hid bw
              clear hc' ht hwd hstep hjn hI hu bw hok hT0 hue
              go_wp2_with fail
              have hB0 : Below wr.heap.size wr wr.drew := (Below.refl _ _).drew
              refine wp_region_still_tail 20 (by kernel_rfl) (by kernel_rfl) ?_
              change wpStill _ _ wr.drew (fun a' => wpList _ _ _ _ a' wr.drew) _ _
              generalize wr.drew = wz at hB0 ⊢
              obtain ⟨nb, noff, nC, n1, n2, n3, n4⟩ := MW.out wz hB0
              clear c3
              have c3 := HCC.out wz (BWW.out.trans (hB0.mono BWW.out.size)) 3 _ rfl
              have y0 := hcz.out wz hB0 0 _ rfl
              have y1 := hcz.out wz hB0 1 _ rfl
              have y2 := hcz.out wz hB0 2 _ rfl
              have y3 := hcz.out wz hB0 3 _ rfl
              have y4 := hcz.out wz hB0 4 _ rfl
              simp only [Nat.add_zero] at y0
              have BZ := Lib.hid hB0
              clear hB0
              simp only [List.take_succ_cons, List.take_zero, List.drop_succ_cons, List.drop_zero]
              repeat still_step
              refine wpStill_nil ?_
              go_wp2_with fail
              refine (CN.out _ BZ.out).mono ?_
              rintro e w5 ⟨rfl, hT⟩
              obtain ⟨S', hI'⟩ := (HI.out.step BZ.out).to hT
              have hst2 : (upTo st r (r.pos.length + (j + 1))).2 = ⟨(upTo st r (r.pos.length + j)).2.al, addF (upTo st r (r.pos.length + j)).2.ns ⟨2, (u : Int), -1, [], [], t, wd⟩⟩ := by
                rw [HS.out]
                simp only [tstF]
                rw [HT0.out]
              rw [← hst2] at hI'
              have HU2 := Lib.hid (show (placeF (upTo st r (r.pos.length + j)).2.ns ⟨2, (u : Int), -1, [], [], t, wd⟩) = (upTo st r (r.pos.length + (j + 1))).1 by
                rw [HS.out]
                simp only [tstF]
                rw [HT0.out])
              have HI' := Lib.hid hI'
              rw [HU2.out]
              clear hT hI' hst2 y0 y1 y2 y3 y4 n1 n2 n3 n4 c3
              go_wp2_with fail
              exact ⟨⟨j + 1, S', by go_num, rfl, HJ.out, HI'.out⟩, by simp [intOf]; have := HJ.out; omega⟩
            · obtain rfl : j = r.tests.length := by omega
              have HI := Lib.hid hI
              clear bw hI
              go_wp2_with fail
              clear c3
              go_loopw [8, 11] (fun u i wr => ∃ (j : Nat) (S : List Nat), i = .int .i64 j ∧ u = .int .i64 (upTo st r (r.pos.length + r.tests.length + j)).1 ∧ j ≤ r.neg.length ∧ RCst W wr S (upTo st r (r.pos.length + r.tests.length + j)).2 es) (fun _ i _ => r.neg.length - (intOf i).toNat)
              case atStart => exact ⟨0, S, rfl, rfl, Nat.zero_le _, HI.out⟩
              case round =>
                obtain ⟨j, S, rfl, rfl, hj, hI⟩ := hrel
                clear HI
                have bw := hI.below
                have c4 := HCC.out wr bw 4 _ rfl
                by_cases hjn : j < r.neg.length
                · obtain ⟨p, hp⟩ : ∃ p, r.neg[j]? = some p := ⟨_, List.getElem?_eq_getElem hjn⟩
                  obtain ⟨b', off', rfl, hFb', hbs', cs', ⟨av', rfl, pok, ha⟩, hc'⟩ := (RPats.kp HE.out.neg (Kp.of_below bw) (fun _ _ h => h)).at hp
                  have c0' := hc' 0 _ rfl
                  have c1' := hc' 1 _ rfl
                  simp only [Nat.add_zero] at c0'
                  obtain ⟨hu, ⟨wd, hwd, hwd2⟩, hn1, hn2⟩ := UF.out (r.pos.length + r.tests.length + j) (by omega)
                  have hfa := HFIT.out.ngs p (List.mem_of_getElem? hp)
                  have m3 : i64ok 3 := by unfold i64ok; decide
                  have CP := Lib.hid (ratomW hI.mkr 3 m3 _ hu wd hwd (by omega) (F := fun b => b < W.heap.size) (fun b hb => by omega) p _ ha pok hfa.2.1 (by omega) (by omega))
                  obtain ⟨Aa, ca, rfl⟩ := ha.form
                  have hstep := upTo_succ st (cond_neg hp)
                  have HS := Lib.hid (show upTo st r (r.pos.length + r.tests.length + (j + 1)) = patF 3 ((upTo st r (r.pos.length + r.tests.length + j)).1, (upTo st r (r.pos.length + r.tests.length + j)).2) p from hstep)
                  have f1 : (0 : Int) ≤ (j : Int) := by omega
                  have f2 : (j : Int) < (r.neg.length : Int) := by omega
                  have HJ := Lib.hid hjn
                  have HI := Lib.hid hI
                  clear hc' hp ha hwd hfa hstep hjn hI hu bw m3
                  go_wp2_with fail
                  refine CP.out.mono ?_
                  rintro e w5 ⟨rfl, hT⟩
                  obtain ⟨S', hI'⟩ := HI.out.to hT
                  rw [← HS.out] at hI' ⊢
                  have HI' := Lib.hid hI'
                  clear hT hI'
                  go_wp2_with fail
                  exact ⟨⟨j + 1, S', by go_num, rfl, HJ.out, HI'.out⟩, by simp [intOf]; have := HJ.out; omega⟩
                · obtain rfl : j = r.neg.length := by omega
                  obtain ⟨hu, _, hn1, hn2⟩ := UF.out (r.pos.length + r.tests.length + r.neg.length) (Nat.le_refl _)
                  obtain ⟨u, hue⟩ : ∃ u, (upTo st r (r.pos.length + r.tests.length + r.neg.length)).1 = u := ⟨_, rfl⟩
                  obtain ⟨st2, hse⟩ : ∃ st2, (upTo st r (r.pos.length + r.tests.length + r.neg.length)).2 = st2 := ⟨_, rfl⟩
                  have hcomp : (compF (rs.take (k + 1))).1 = st2 ∧ (compF (rs.take (k + 1))).2 = es ++ [u] := by
                    rw [CE.out]
                    simp only [endF]
                    rw [HST.out.1, HST.out.2, ← upTo_all, hue, hse]
                    exact ⟨rfl, rfl⟩
                  rw [hue] at hu ⊢
                  rw [hse] at hI hu hn1 hn2
                  have hel : es.length ≤ k := by
                    have := (made_comp (rs.take k)).len
                    rw [HST.out.2] at this
                    rw [this]
                    exact List.length_take_le _ _
                  have HI := Lib.hid hI
                  have hrb := hI.rb
                  have hbw := hI.below
                  obtain ⟨av, nv, ev, hSS, hM⟩ := hI.mkr
                  obtain ⟨A1, C1, rfl⟩ := hM.en.form
                  simp only [List.length_map] at hM hSS
                  have x2 := hM.cell 2 rfl
                  have hgl := hM.lt
                  have hbase2 : W.heap.size + 1 ≤ wr.heap.size := by omega
                  have UOK := Lib.hid (okNat (k := u) (by omega))
                  have HM := Lib.hid hM
                  have HCO := Lib.hid hcomp
                  have HSS := Lib.hid hSS
                  clear hI hM hcomp hue hse bw hrb hbw hSS
                  go_wp2_with (at_builtin; refine wpList_append_F HM.out.en (fun b hb hf => hf.2 (by simp [rfoot, hb])) rfl (.tmp 115) (.tmp 117) 25 rfl Try.underlying25 infoIntR rfl (by decide) rfl #[.int .i64 u] _ rfl rfl (x := (u : Int)) ⟨rfl, UOK.out⟩ (by rw [List.length_map]; omega) (by decide) hbase2 ?_; intro g' cap w5 ho ht hat hlt5; have hgn := (HM.out.apart).2.2; have e3 := (ht.block _ HM.out.lt (fun hm => hgn _ (by simpa using hm) rfl)).trans HM.out.blk; have q1 := (cell_of_row _ _ 2 _ _ _ e3).trans (show _ = some (Value.slice A1 es.length C1) from rfl); have q2 : ∀ o, w5.frozen? ⟨W.heap.size + 1, o, none⟩ = false := (fun o => by simp [World.frozen?, e3]); have q3 := lt_of_heap e3; have GR0 := HM.out.grow_en ho ht hat; simp only [List.length_map] at GR0; have GR := Lib.hid GR0; clear ho ht hat hlt5 hgn e3 GR0)
                  obtain ⟨S', hI'⟩ := HI.out.to ⟨_, ⟨_, _, _, rfl, GR.out.1⟩, by rw [HSS.out]; exact GR.out.2.1, by rw [HSS.out]; exact GR.out.2.2⟩
                  exact ⟨⟨k + 1, S', by go_num, HK.out, HQ2.out, by rw [HCO.out.1, HCO.out.2]; exact hI'⟩, by simp [intOf]; have := HK.out; omega⟩
    · obtain rfl : k = rs.length := by omega
      rw [List.take_length] at hC hq
      have HQ := Lib.hid hq
      have eb := hC.rb
      have hbw := hC.below
      obtain ⟨av, nv, ev, rfl, hM⟩ := hC.mkr
      obtain ⟨A1, C1, rfl⟩ := hM.en.form
      obtain ⟨A2, C2, rfl⟩ := hM.ns.form
      obtain ⟨A3, C3, rfl⟩ := hM.al.form
      have x0 := hM.cell 0 rfl
      have x1 := hM.cell 1 rfl
      have x2 := hM.cell 2 rfl
      have hgl := hM.lt
      have f0 := rbox (j := 0) eb rfl
      have f1 := rbox (j := 1) eb rfl
      have f2 := rbox (j := 2) eb rfl
      have hrl := lt_of_heap eb
      have fz : ∀ o, wr.frozen? ⟨W.heap.size, o, none⟩ = false := fun o => by simp [World.frozen?, eb]
      have ef := Lib.hid (heap_setCell_same _ _ 2 _ _ (.slice A1 ((compF rs).2.map fun (e : Nat) => (e : Int)).length C1) (heap_setCell_same _ _ 1 _ _ (.slice A2 (compF rs).1.ns.length C2) (heap_setCell_same _ _ 0 _ _ (.slice A3 (compF rs).1.al.length C3) eb)))
      have HM := Lib.hid hM
      have BW := Lib.hid hbw
      clear hM eb hC bw hkn hbw hq
      obtain ⟨ln, hln⟩ : ∃ ln, ((compF rs).2.map fun (e : Nat) => (e : Int)).length = ln := ⟨_, rfl⟩
      rw [hln] at x2 ef
      have HLN := Lib.hid hln
      clear hln
      go_wp2
      refine bodyPost_ret (v := .tuple #[.agg #[.slice A3 (compF rs).1.al.length C3, .slice A2 (compF rs).1.ns.length C2, .slice A1 ln C1], .int .i64 0]) (results_row_slot rfl _ _ W.heap.size 27 #[.slice A3 (compF rs).1.al.length C3, .slice A2 (compF rs).1.ns.length C2, .slice A1 ln C1] (0, 0) _ _ rfl rfl ef.out Try.underlying27 rfl sizePlan) rfl ?_
      have T : Turns [W.heap.size] wr (((wr.setCell ⟨W.heap.size, 0, none⟩ (.slice A3 (compF rs).1.al.length C3)).setCell ⟨W.heap.size, 1, none⟩ (.slice A2 (compF rs).1.ns.length C2)).setCell ⟨W.heap.size, 2, none⟩ (.slice A1 ln C1)) :=
        (((Turns.refl _ _).setCell (.inl (by simp)) _).setCell (.inl (by simp)) _).setCell (.inl (by simp)) _
      have K : ∀ (G : Nat → Prop), (∀ b, G b → W.heap.size + 1 ≤ b) → Kp G wr _ := fun G hG => Kp.of_turns T (fun x hx hf => by have := hG x hf; rw [List.mem_singleton.1 hx] at this; omega)
      refine ⟨((BW.out.setCell (Nat.le_refl _) _).setCell (Nat.le_refl _) _).setCell (Nat.le_refl _) _, .inl ⟨HQ.out, _, _, _, rfl, ?_, ?_, ?_⟩⟩
      · exact (HM.out.al.rsl (G := fun b => W.heap.size + 1 ≤ b) (fun b hb => (HM.out.al.block hb).1)).kp (K _ (fun _ h => h)) (fun b _ hb => by omega) (fun cs p hp => EShp.kp hp (K _ (fun b hb => hb.1)) (fun b _ hb => by have := hb.1; omega))
      · exact (HM.out.ns.rsl (G := fun b => W.heap.size + 1 ≤ b) (fun b hb => (HM.out.ns.block hb).1)).kp (K _ (fun _ h => h)) (fun b _ hb => by omega) (fun cs p hp => ENode.kp hp (K _ (fun b hb => hb.1)) (fun b _ hb => by have := hb.1; omega))
      · have := (HM.out.en.rsl (G := fun b => W.heap.size + 1 ≤ b) (fun b hb => (HM.out.en.block hb).1)).kp (F' := fun b => W.heap.size ≤ b) (K _ (fun _ h => h)) (fun b _ hb => by omega) (fun _ _ h => h)
        rw [HLN.out] at this
        exact this
end Go.Proofs.Ytonkbjdeaneicaa

namespace Go.Proofs.Ytonkbjdeaneicaa
open Go.RowKit Pln Classical Go.Maps

/-- The plan that Compile answers. -/
noncomputable def plF (rs : List Rl) : List Shp × List Nd × List Int := if ∀ r ∈ rs, mayP r then ((compF rs).1.al, (compF rs).1.ns, (compF rs).2.map fun (e : Nat) => (e : Int)) else ([], [], [])
noncomputable def erF (rs : List Rl) : Int := if ∀ r ∈ rs, mayP r then 0 else 2
theorem own_lower {w : World} {lo base : Nat} {e : TypeId} {sz : Nat} {v : Value} {n : Nat} {xs : List Value} (h : w.ownsRow base e sz v n xs) (hl : lo ≤ base) : w.ownsRow lo e sz v n xs :=
  ⟨h.1, h.2.imp id (fun ⟨g, cap, cur, q1, q2, r⟩ => ⟨g, cap, cur, q1, Nat.le_trans hl q2, r⟩)⟩
theorem Inn.lower {F F' : Nat → Prop} {lo base : Nat} {W : World} {av nv : Value} {al m : Nat} {G : Nat → Nat → Option Slo} (h : Inn F base W av nv al m G) (hl : lo ≤ base) (hF : ∀ b, F b → F' b) : Inn F' lo W av nv al m G :=
  ⟨h.all0, h.all1, h.all2, h.dom, fun t i s hs => ⟨own_lower (h.own t i s hs).1 hl, (h.own t i s hs).2⟩, h.apart, h.out, fun t i s b hs hb => hF b (h.foot t i s b hs hb)⟩
theorem inn_nil {F : Nat → Prop} {base : Nat} {W : World} {av nv : Value} : Inn F base W av nv 0 0 (fun _ _ => none) := by
  refine ⟨fun i h => by omega, fun i h => by omega, fun i h => by omega, ?_, ?_, ?_, ?_, ?_⟩
  · intro t i s h; cases h
  · intro t i s h; cases h
  · intro t i t' i' s s' b h; cases h
  · intro t i s h; cases h
  · intro t i s b h; cases h
/-- All cells of a row of elements are one cell each. -/
theorem OwnF.one {α : Type} {F : Nat → Prop} {B : Nat} {w : World} {e : TypeId} {C : Cdc α} {v : Value} {xs : List α} (h : OwnF F B w e C v xs) (hsz : 0 < C.sz) : ∃ cells, w.ownsRow B e C.sz v xs.length cells ∧ ∀ u ∈ cells, u.oneCell' = true := by
  obtain ⟨cells, h1, h2⟩ := h
  refine ⟨cells, h1, fun u hu => ?_⟩
  obtain ⟨k, hk⟩ := List.getElem?_of_mem hu
  have hlt := (List.getElem?_eq_some_iff.1 hk).1
  rw [h1.1] at hlt
  have hd : k / C.sz < xs.length := Nat.div_lt_of_lt_mul (by rw [Nat.mul_comm]; exact hlt)
  obtain ⟨cs, c1, c2⟩ := h2 (k / C.sz) _ (List.getElem?_eq_getElem hd)
  have hm : k % C.sz < cs.length := by rw [C.len _ _ _ _ c1]; exact Nat.mod_lt _ hsz
  have h3 := c2 (k % C.sz) _ (List.getElem?_eq_getElem hm)
  rw [Nat.div_add_mod', hk] at h3
  rw [Option.some.inj h3]
  exact C.one _ _ _ _ c1 _ (List.getElem_mem hm)
/-- A plan of the caller's own, all its blocks from lo on and below hi. -/
structure PlU (lo hi : Nat) (W : World) (av nv ev : Value) (p : List Shp × List Nd × List Int) (xa xn xe : List Value) (G : Nat → Nat → Option Slo) : Prop where
  rd : RPl (fun b => lo ≤ b ∧ b < hi) W av nv ev p.1 p.2.1 p.2.2
  al : W.ownsRow lo 79 2 av p.1.length xa
  ns : W.ownsRow lo 54 11 nv p.2.1.length xn
  en : W.ownsRow lo 3 1 ev p.2.2.length xe
  oneA : ∀ u ∈ xa, u.oneCell' = true
  oneN : ∀ u ∈ xn, u.oneCell' = true
  inn : Inn (fun b => lo ≤ b ∧ b < hi ∧ ev.ownBlock ≠ some b) lo W av nv p.1.length p.2.1.length G
  top : ∀ b, av.ownBlock = some b ∨ nv.ownBlock = some b ∨ ev.ownBlock = some b → b < hi
theorem PlU.below {lo hi : Nat} {W W' : World} {av nv ev : Value} {p : List Shp × List Nd × List Int} {xa xn xe : List Value} {G : Nat → Nat → Option Slo} (h : PlU lo hi W av nv ev p xa xn xe G) (hb : Below W.heap.size W W') : PlU lo hi W' av nv ev p xa xn xe G := by
  have ht : Turns ([] : List Nat) W W' := Turns.of_below hb
  exact ⟨h.rd.below hb, ownsRow_turns h.al ht (fun _ _ => by simp), ownsRow_turns h.ns ht (fun _ _ => by simp), ownsRow_turns h.en ht (fun _ _ => by simp), h.oneA, h.oneN, h.inn.below hb, h.top⟩
theorem plu_nil (lo hi : Nat) (W : World) : PlU lo hi W (.slice none 0 0) (.slice none 0 0) (.slice none 0 0) ([], [], []) [] [] [] (fun _ _ => none) :=
  ⟨⟨RSl.nil, RSl.nil, RSl.nil⟩, World.ownsRow_nil _ _ _ _, World.ownsRow_nil _ _ _ _, World.ownsRow_nil _ _ _ _, by simp, by simp, inn_nil, fun b h => by rcases h with h | h | h <;> simp [Value.ownBlock] at h⟩
theorem MkAt.plu {base g mb lo : Nat} {W : World} {av nv ev : Value} {st : St} {es : List Nat} (h : MkAt base g mb W av nv ev st es) (hl : lo ≤ base) : ∃ xa xn xe G, PlU lo W.heap.size W av nv ev (st.al, st.ns, es.map fun (e : Nat) => (e : Int)) xa xn xe G := by
  obtain ⟨xa, a1, a2⟩ := h.al.one (by decide)
  obtain ⟨xn, n1, n2⟩ := h.ns.one (by decide)
  obtain ⟨xe, e1, e2⟩ := h.en.one (by decide)
  obtain ⟨G, hG⟩ := h.inn
  have hF : ∀ b, Off base (mfoot g mb av nv ev) b → b < W.heap.size → lo ≤ b ∧ b < W.heap.size := fun b hb h => ⟨Nat.le_trans hl hb.1, h⟩
  refine ⟨xa, xn, xe, G, ⟨⟨?_, ?_, ?_⟩, own_lower a1 hl, own_lower n1 hl, own_lower e1 hl, a2, n2, ?_, ?_⟩⟩
  · exact RSl.kp (h.al.rsl (G := fun b => lo ≤ b ∧ b < W.heap.size) (fun _b hb => ⟨Nat.le_trans hl (h.al.block hb).1, (h.al.block hb).2.1⟩)) (Kp.refl _ _) (fun _ _ h => h) (fun _ _ h => cdShp.kp _ _ _ _ _ _ h (Kp.refl _ _) (fun b hb h => hF b h hb))
  · exact RSl.kp (h.ns.rsl (G := fun b => lo ≤ b ∧ b < W.heap.size) (fun _b hb => ⟨Nat.le_trans hl (h.ns.block hb).1, (h.ns.block hb).2.1⟩)) (Kp.refl _ _) (fun _ _ h => h) (fun _ _ h => cdNd.kp _ _ _ _ _ _ h (Kp.refl _ _) (fun b hb h => hF b h hb))
  · exact RSl.kp (h.en.rsl (G := fun b => lo ≤ b ∧ b < W.heap.size) (fun _b hb => ⟨Nat.le_trans hl (h.en.block hb).1, (h.en.block hb).2.1⟩)) (Kp.refl _ _) (fun _ _ h => h) (fun _ _ h => cdInt.kp _ _ _ _ _ _ h (Kp.refl _ _) (fun b hb h => hF b h hb))
  · refine ⟨hG.all0, hG.all1, hG.all2, hG.dom, fun t i s hs => ⟨own_lower (hG.own t i s hs).1 hl, (hG.own t i s hs).2⟩, hG.apart, hG.out, fun t i s b hs hb => ?_⟩
    obtain ⟨q1, q2⟩ := hG.foot t i s b hs hb
    exact ⟨Nat.le_trans hl q1, (hG.lt hs hb).2, fun e => q2 (by simp [mfoot, e])⟩
  · rintro b (hb | hb | hb)
    · exact (h.al.block hb).2.1
    · exact (h.ns.block hb).2.1
    · exact (h.en.block hb).2.1
/-- What Compile leaves, whatever the rules. -/
def CmpU (rs : List Rl) (W : World) (e : Ending) (W' : World) : Prop :=
  Below W.heap.size W W' ∧ ∃ av nv ev xa xn xe G, e = .returned (.tuple #[.agg #[av, nv, ev], .int .i64 (erF rs)]) ∧ PlU W.heap.size W'.heap.size W' av nv ev (plF rs) xa xn xe G
theorem compileU {F : Nat → Prop} (v : Value) (rs : List Rl) (W : World) (h : RRules F W v rs) (hS : rs.length ≤ 1048576 ∧ ∀ r ∈ rs, rlSm 1048576 r) :
    Calls Try.prog 10 #[v] W (CmpU rs W) := by
  refine (compileW v rs W h hS).mono ?_
  rintro e W' ⟨hb, ⟨hy, av, nv, ev, base, g, mb, hl, rfl, hM⟩ | ⟨⟨r, hr, hno⟩, rfl⟩⟩
  · refine ⟨hb, ?_⟩
    obtain ⟨xa, xn, xe, G, hP⟩ := hM.plu hl
    unfold plF erF
    rw [if_pos hy, if_pos hy]
    exact ⟨av, nv, ev, xa, xn, xe, G, rfl, hP⟩
  · have hn : ¬ ∀ r ∈ rs, mayP r := fun hy => hno (hy r hr)
    refine ⟨hb, ?_⟩
    unfold plF erF
    rw [if_neg hn, if_neg hn]
    exact ⟨_, _, _, _, _, _, _, rfl, plu_nil _ _ _⟩
/-- What the reference's Compile leaves. -/
def RCmpU (rs : List Rl) (W : World) (e : Ending) (W' : World) : Prop :=
  Below W.heap.size W W' ∧ ∃ av nv ev, e = .returned (.tuple #[.agg #[av, nv, ev], .int .i64 (erF rs)]) ∧ RPl (fun b => W.heap.size ≤ b) W' av nv ev (plF rs).1 (plF rs).2.1 (plF rs).2.2
theorem rcompileU {F : Nat → Prop} (v : Value) (rs : List Rl) (W : World) (h : RRules F W v rs) (hS : rs.length ≤ 1048576 ∧ ∀ r ∈ rs, rlSm 1048576 r) :
    Calls Try.prog 8 #[v] W (RCmpU rs W) := by
  refine (rcompileW v rs W h hS).mono ?_
  rintro e W' ⟨hb, ⟨hy, av, nv, ev, rfl, hP⟩ | ⟨⟨r, hr, hno⟩, rfl⟩⟩
  · refine ⟨hb, ?_⟩
    unfold plF erF
    rw [if_pos hy, if_pos hy]
    exact ⟨av, nv, ev, rfl, hP⟩
  · have hn : ¬ ∀ r ∈ rs, mayP r := fun hy => hno (hy r hr)
    refine ⟨hb, ?_⟩
    unfold plF erF
    rw [if_neg hn, if_neg hn]
    exact ⟨_, _, _, rfl, ⟨RSl.nil, RSl.nil, RSl.nil⟩⟩
/-- How long its lists are. -/
theorem plF_len {rs : List Rl} (hl : rs.length ≤ 1048576) : (plF rs).1.length ≤ 100000000 ∧ (plF rs).2.1.length ≤ 100000000 ∧ (plF rs).2.2.length ≤ 1048576 := by
  unfold plF
  split
  · rename_i hy
    have hcl := comp_len rs hy rs.length (Nat.le_refl _)
    rw [List.take_length] at hcl
    refine ⟨?_, ?_, ?_⟩
    · show (compF rs).1.al.length ≤ _
      have := hcl.2; omega
    · show (compF rs).1.ns.length ≤ _
      have := hcl.1; omega
    · show ((compF rs).2.map fun (e : Nat) => (e : Int)).length ≤ _
      rw [List.length_map, (made_comp rs).len]; omega
  · simp
end Go.Proofs.Ytonkbjdeaneicaa
