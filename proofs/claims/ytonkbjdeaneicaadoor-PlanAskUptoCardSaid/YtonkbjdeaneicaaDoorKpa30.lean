/- The reference's Compile: all rules' ways. The reference's Equal: are two plans the same? -/
import Derived.Test.YtonkbjdeaneicaaDoorKpa14
import Derived.Test.YtonkbjdeaneicaaDoorKpa19
import Derived.Test.YtonkbjdeaneicaaDoorKpa22
import Derived.Test.YtonkbjdeaneicaaDoorKpa24
import Derived.Test.YtonkbjdeaneicaaDoorKpa25
import Derived.Test.YtonkbjdeaneicaaDoorKpa28
import Derived.Test.YtonkbjdeaneicaaDoorKpa29
import Derived.StillTailTactics
namespace Go.Proofs.YtonkbjdeaneicaaDoor
open Go.RowKit Pln Classical Go.Maps

/-- What Compile leaves. -/
def RCompRes (rs : List Rl) (W : World) (e : Ending) (W' : World) : Prop :=
  Below W.heap.size W W' ∧ (((∀ r ∈ rs, mayP r) ∧ ∃ av nv ev, e = .returned (.tuple #[.agg #[av, nv, ev], .int .i64 0]) ∧ RPl (fun b => W.heap.size ≤ b) W' av nv ev (compF rs).1.al (compF rs).1.ns ((compF rs).2.map fun (e : Nat) => (e : Int))) ∨
    ((∃ r ∈ rs, ¬ mayP r) ∧ e = .returned (.tuple #[.agg #[.slice none 0 0, .slice none 0 0, .slice none 0 0], .int .i64 2])))
structure RCst (W wr : World) (S : List Nat) (st : St) (es : List Nat) : Prop where
  mkr : RMkr (W.heap.size + 1) (W.heap.size + 1) wr S st es
  rb : wr.heap[W.heap.size]? = some (.cells #[.slice none 0 0, .slice none 0 0, .slice none 0 0] 26 (0, 0))
  below : Below W.heap.size W wr
section
variable {W wr wr' : World} {S : List Nat} {st st' : St} {es es' : List Nat}
theorem RCst.step (h : RCst W wr S st es) (hb : Below wr.heap.size wr wr') : RCst W wr' S st es :=
  ⟨h.mkr.step hb, (hb.block _ (lt_of_heap h.rb)).trans h.rb, h.below.trans (hb.mono h.below.size)⟩
theorem RCst.to (h : RCst W wr S st es) (ht : RMkrTo (W.heap.size + 1) (W.heap.size + 1) wr S st' es' wr') : ∃ S', RCst W wr' S' st' es' := by
  obtain ⟨S', h1, h2, h3⟩ := ht
  have hf := h.mkr.foot
  exact ⟨S', h1, (h2.block _ (lt_of_heap h.rb) (fun hm => by have := (hf.2 _ hm).1; omega)).trans h.rb, h.below.trans (h2.below h.below.size (fun x hx => by have := (hf.2 x hx).1; omega))⟩
end
theorem RMkr.width {base g : Nat} {W : World} {S : List Nat} {st : St} {es : List Nat} (h : RMkr base g W S st es) {u : Nat} (hu : u < st.ns.length) {wd : Nat} (hwd : widthAt st u = wd) :
    ∃ b off C, W.cell? ⟨g, 1, none⟩ = some (.slice (some ⟨b, off, none⟩) st.ns.length C) ∧ b < W.heap.size ∧ W.cell? ⟨b, off + u * 11 + 10, none⟩ = some (.int .i64 wd) ∧ g < W.heap.size := by
  obtain ⟨av, nv, ev, rfl, hM⟩ := h
  obtain ⟨A0, C0, rfl⟩ := hM.ns.form
  obtain ⟨nd, hnd⟩ : ∃ nd, st.ns[u]? = some nd := ⟨_, List.getElem?_eq_getElem hu⟩
  have hw : nd.width = (wd : Int) := by unfold widthAt at hwd; rw [hnd] at hwd; exact hwd
  obtain ⟨b, off, rfl, hFb0, hbs, cs, ⟨ln0, nn0, hE⟩, hc⟩ := (hM.ns.rsl (G := fun b => b < W.heap.size) (fun b hb => (hM.ns.block hb).2.1)).at hnd
  have hcs := hE.cells
  subst hcs
  exact ⟨b, off, C0, hM.cell 1 rfl, hbs, by rw [← hw]; exact hc 10 _ rfl, hM.lt⟩
theorem rcst_start (W : World) : RCst W (((W.alloc (.cells #[.slice none 0 0, .slice none 0 0, .slice none 0 0] 26)).alloc (.cells #[.slice none 0 0, .slice (some ⟨W.heap.size + 1 + 1, 0, none⟩) 1 1, .slice none 0 0] 129)).alloc (.cells rootCells.toArray 40)) [W.heap.size + 1, W.heap.size + 1 + 1] ⟨[], [rootN]⟩ [] := by
  have hb1 : Below (W.heap.size + 1) (W.alloc (.cells #[.slice none 0 0, .slice none 0 0, .slice none 0 0] 26)) (((W.alloc (.cells #[.slice none 0 0, .slice none 0 0, .slice none 0 0] 26)).alloc (.cells #[.slice none 0 0, .slice (some ⟨W.heap.size + 1 + 1, 0, none⟩) 1 1, .slice none 0 0] 129)).alloc (.cells rootCells.toArray 40)) := ((Below.refl _ _).alloc (by simp) _).alloc (by simp) _
  have hm : (((W.alloc (.cells #[.slice none 0 0, .slice none 0 0, .slice none 0 0] 26)).alloc (.cells #[.slice none 0 0, .slice (some ⟨W.heap.size + 1 + 1, 0, none⟩) 1 1, .slice none 0 0] 129)).alloc (.cells rootCells.toArray 40)).heap[W.heap.size + 1]? = some (.cells #[.slice none 0 0, .slice (some ⟨W.heap.size + 1 + 1, 0, none⟩) 1 1, .slice none 0 0] 129 (0, 0)) := by
    rw [Below.heap_alloc _ _ _ (by simp)]
    have := heap_alloc_new (W.alloc (.cells #[.slice none 0 0, .slice none 0 0, .slice none 0 0] 26)) (.cells #[.slice none 0 0, .slice (some ⟨W.heap.size + 1 + 1, 0, none⟩) 1 1, .slice none 0 0] 129)
    simpa using this
  have hr : (((W.alloc (.cells #[.slice none 0 0, .slice none 0 0, .slice none 0 0] 26)).alloc (.cells #[.slice none 0 0, .slice (some ⟨W.heap.size + 1 + 1, 0, none⟩) 1 1, .slice none 0 0] 129)).alloc (.cells rootCells.toArray 40)).heap[W.heap.size + 1 + 1]? = some (.cells rootCells.toArray 40 (0, 0)) := by
    have := heap_alloc_new ((W.alloc (.cells #[.slice none 0 0, .slice none 0 0, .slice none 0 0] 26)).alloc (.cells #[.slice none 0 0, .slice (some ⟨W.heap.size + 1 + 1, 0, none⟩) 1 1, .slice none 0 0] 129)) (.cells rootCells.toArray 40)
    simpa using this
  refine ⟨⟨.slice none 0 0, .slice (some ⟨W.heap.size + 1 + 1, 0, none⟩) 1 1, .slice none 0 0, rfl, hm, OwnF.nil, ?_, OwnF.nil, Nat.le_refl _⟩, (hb1.block _ (by simp)).trans (heap_alloc_new W _), box_below hb1⟩
  refine ⟨rootCells, ⟨rfl, .inr ⟨W.heap.size + 1 + 1, 1, rootCells.toArray, rfl, by omega, hr, Nat.le_refl _, by unfold maxLen; decide, rfl, rfl⟩⟩, fun i x hx => ?_⟩
  match i with
  | 0 =>
    simp only [List.getElem?_cons_zero, Option.some.injEq] at hx
    subst hx
    have m1 : i64ok (-1) := by unfold i64ok; decide
    exact ⟨rootCells, ⟨_, _, rfl, ⟨ok0, m1, m1, ok0, ok0, ok0, ok0⟩, RSl.nil, RSl.nil⟩, fun j u hu => by simpa using hu⟩
  | i + 1 => simp at hx
theorem comp_len_take {rs : List Rl} {k : Nat} (h : ∀ r ∈ rs.take k, mayP r) (hk : k ≤ rs.length) : (compF (rs.take k)).1.ns.length ≤ 1 + 16 * k ∧ (compF (rs.take k)).1.al.length ≤ 16 * k := by
  have := comp_len (rs.take k) h (rs.take k).length (Nat.le_refl _)
  rw [List.take_length, List.length_take, Nat.min_eq_left hk] at this
  exact this

set_option maxRecDepth 200000 in
set_option maxHeartbeats 16000000 in
theorem rcompileW {F : Nat → Prop} (v : Value) (rs : List Rl) (W : World) (h : RRules F W v rs) (hS : rs.length ≤ 1048576 ∧ ∀ r ∈ rs, rlSm 1048576 r) :
    Calls Tryd.prog 55 #[v] W (RCompRes rs W) := by
  obtain ⟨A, c, rfl⟩ := h.form
  have hm := hS.1
  have H := Lib.hid (RRules.kp (F' := fun b => b < W.heap.size) h (Kp.refl _ _) (fun b hb _ => hb))
  have SM := Lib.hid hS
  clear h hS
  go_enter Tryd.func55, Tryd.ntmps55
  go_wp2
  go_loopw [5] (fun i wr => ∃ (k : Nat) (S : List Nat), i = .int .i64 k ∧ k ≤ rs.length ∧ (∀ r ∈ rs.take k, mayP r) ∧ RCst W wr S (compF (rs.take k)).1 (compF (rs.take k)).2) (fun i _ => rs.length - (intOf i).toNat)
  case atStart => exact ⟨0, _, rfl, Nat.zero_le _, by simp, rcst_start W⟩
  case round =>
    obtain ⟨k, S, rfl, hk, hq, hC⟩ := hrel
    have bw := hC.below
    by_cases hkn : k < rs.length
    · obtain ⟨r, hr⟩ : ∃ r, rs[k]? = some r := ⟨_, List.getElem?_eq_getElem hkn⟩
      obtain ⟨b, off, rfl, hFb, hbs, cs, ⟨hv, pv, tv, nv, vv, hE⟩, hc⟩ := H.out.at hr
      have hcs := hE.cells
      subst hcs
      have hsm := SM.out.2 r (List.mem_of_getElem? hr)
      have CY := Lib.hid (rfitW r wr (hE.kp (F' := fun b => b < W.heap.size) (Kp.of_below bw) (fun _ _ h => h)) hsm)
      obtain ⟨Ah, ch, rfl⟩ := hE.head.form
      obtain ⟨Ap, cp, rfl⟩ := hE.pos.form
      obtain ⟨At, ct, rfl⟩ := hE.tests.form
      obtain ⟨An, cn, rfl⟩ := hE.neg.form
      obtain ⟨Av, cv, rfl⟩ := hE.vars.form
      have cc := fun (Wx : World) (hx : Below W.heap.size W Wx) (i : Nat) (u : Value) hu => (hx.cell (p := ⟨b, off + k * 7 + i, none⟩) hbs).trans (hc i u hu)
      have c0 := cc wr bw 0 _ rfl
      have c1 := cc wr bw 1 _ rfl
      have c2 := cc wr bw 2 _ rfl
      have c3 := cc wr bw 3 _ rfl
      have c4 := cc wr bw 4 _ rfl
      have c5 := cc wr bw 5 _ rfl
      have c6 := cc wr bw 6 _ rfl
      simp only [Nat.add_zero] at c0
      have e1 : (0 : Int) ≤ (k : Int) := by omega
      have e2 : (k : Int) < (rs.length : Int) := by omega
      have HR := Lib.hid hr
      have HK := Lib.hid hkn
      have HQ := Lib.hid hq
      have HC := Lib.hid hC
      have HCC := Lib.hid cc
      have HE := Lib.hid hE
      clear hc cc hr hkn hq hC hE hsm
      by_cases hmp : mayP r
      case neg =>
        have HM := Lib.hid (mayB_false hmp)
        have HF := Lib.hid hmp
        clear hmp bw
        go_wp2_with fail
        refine CY.out.mono ?_
        rintro e w2 ⟨nn, he, hb2⟩
        rw [HM.out] at he
        subst he
        have HC2 := HC.out.step hb2
        have eb := HC2.rb
        have f0 := cell_of_row _ _ 0 _ _ _ eb
        have f1 := cell_of_row _ _ 1 _ _ _ eb
        have f2 := cell_of_row _ _ 2 _ _ _ eb
        simp only [List.getElem?_toArray, List.getElem?_cons_zero, List.getElem?_cons_succ] at f0 f1 f2
        have fz : ∀ o, w2.frozen? ⟨W.heap.size, o, none⟩ = false := fun o => by simp [World.frozen?, eb]
        have ef := Lib.hid (heap_setCell_same _ _ 2 _ _ (.slice none 0 0) (heap_setCell_same _ _ 1 _ _ (.slice none 0 0) (heap_setCell_same _ _ 0 _ _ (.slice none 0 0) eb)))
        have hwl := lt_of_heap eb
        have HB3 := Lib.hid HC2.below
        clear hb2 HC2 eb
        go_wp2
        exact bodyPost_ret (v := .tuple #[.agg #[.slice none 0 0, .slice none 0 0, .slice none 0 0], .int .i64 2]) (results_row_slot rfl _ _ W.heap.size 26 #[.slice none 0 0, .slice none 0 0, .slice none 0 0] (0, 0) _ _ rfl rfl ef.out Tryd.underlying26 rfl sizePlan) rfl
          ⟨((HB3.out.setCell (Nat.le_refl _) _).setCell (Nat.le_refl _) _).setCell (Nat.le_refl _) _, .inr ⟨⟨r, List.mem_of_getElem? HR.out, HF.out⟩, rfl⟩⟩
      have HM := Lib.hid (mayB_true hmp)
      have HQ2 := Lib.hid (take_all HQ.out HR.out hmp)
      obtain ⟨fw, hfit⟩ := hmp
      obtain ⟨lN, lA⟩ := comp_len_take HQ.out hk
      have hmany := hfit.many
      have hwf := (made_comp (rs.take k)).wf
      obtain ⟨st, hst⟩ : ∃ st, (compF (rs.take k)).1 = st := ⟨_, rfl⟩
      obtain ⟨es, hes⟩ : ∃ es, (compF (rs.take k)).2 = es := ⟨_, rfl⟩
      have CE := Lib.hid (comp_take_succ HR.out)
      rw [hst] at lN lA hwf HC
      rw [hes] at HC
      have UF := Lib.hid (fun i hi => upTo_facts hwf hfit (i := i) hi)
      have HST := Lib.hid (And.intro hst hes)
      have HFIT := Lib.hid hfit
      clear hst hes hfit hwf bw
      go_wp2_with fail
      refine CY.out.mono ?_
      rintro e w2 ⟨nn, he, hb2⟩
      rw [HM.out] at he
      subst he
      have HC2 := Lib.hid (HC.out.step hb2)
      clear hb2 CY c0 c1 c2 c3 c4 c5 c6
      go_wp2_with fail
      go_loopw [8, 9] (fun u i wr => ∃ (j : Nat) (S : List Nat), i = .int .i64 j ∧ u = .int .i64 (upTo st r j).1 ∧ j ≤ r.pos.length ∧ RCst W wr S (upTo st r j).2 es) (fun _ i _ => r.pos.length - (intOf i).toNat)
      case atStart => exact ⟨0, S, rfl, rfl, Nat.zero_le _, HC2.out⟩
      case round =>
        obtain ⟨j, S, rfl, rfl, hj, hI⟩ := hrel
        clear HC2
        have bw := hI.below
        have c2 := HCC.out wr bw 2 _ rfl
        by_cases hjn : j < r.pos.length
        · obtain ⟨p, hp⟩ : ∃ p, r.pos[j]? = some p := ⟨_, List.getElem?_eq_getElem hjn⟩
          obtain ⟨b', off', rfl, hFb', hbs', cs', ⟨av', rfl, pok, ha⟩, hc'⟩ := (RPats.kp HE.out.pos (Kp.of_below bw) (fun _ _ h => h)).at hp
          have c0' := hc' 0 _ rfl
          have c1' := hc' 1 _ rfl
          simp only [Nat.add_zero] at c0'
          obtain ⟨hu, ⟨wd, hwd, hwd2⟩, hn1, hn2⟩ := UF.out j (by omega)
          have hfa := fit_at ⟨fw, HFIT.out⟩ hp
          have m1 : i64ok 1 := by unfold i64ok; decide
          have CP := Lib.hid (ratomW hI.mkr 1 m1 _ hu wd hwd (by omega) (F := fun b => b < W.heap.size) (fun b hb => by omega) p _ ha pok hfa.2.2 (by omega) (by omega))
          obtain ⟨Aa, ca, rfl⟩ := ha.form
          have hstep := upTo_succ st (cond_pos hp)
          have HS := Lib.hid (show upTo st r (j + 1) = patF 1 ((upTo st r j).1, (upTo st r j).2) p from hstep)
          have f1 : (0 : Int) ≤ (j : Int) := by omega
          have f2 : (j : Int) < (r.pos.length : Int) := by omega
          have HJ := Lib.hid hjn
          have HI := Lib.hid hI
          clear hc' hp ha hwd hfa hstep hjn hI hu bw m1
          go_wp2_with fail
          refine CP.out.mono ?_
          rintro e w5 ⟨rfl, hT⟩
          obtain ⟨S', hI'⟩ := HI.out.to hT
          rw [← HS.out] at hI' ⊢
          have HI' := Lib.hid hI'
          clear hT hI'
          go_wp2_with fail
          exact ⟨⟨j + 1, S', by go_num, rfl, HJ.out, HI'.out⟩, by simp [intOf]; have := HJ.out; omega⟩
        · obtain rfl : j = r.pos.length := by omega
          have HI := Lib.hid hI
          clear bw hI
          go_wp2_with fail
          clear c2
          go_loopw [8, 10] (fun u i wr => ∃ (j : Nat) (S : List Nat), i = .int .i64 j ∧ u = .int .i64 (upTo st r (r.pos.length + j)).1 ∧ j ≤ r.tests.length ∧ RCst W wr S (upTo st r (r.pos.length + j)).2 es) (fun _ i _ => r.tests.length - (intOf i).toNat)
          case atStart => exact ⟨0, S, rfl, rfl, Nat.zero_le _, HI.out⟩
          case round =>
            obtain ⟨j, S, rfl, rfl, hj, hI⟩ := hrel
            clear HI
            have bw := hI.below
            have c3 := HCC.out wr bw 3 _ rfl
            by_cases hjn : j < r.tests.length
            · obtain ⟨t, ht⟩ : ∃ t, r.tests[j]? = some t := ⟨_, List.getElem?_eq_getElem hjn⟩
              obtain ⟨b', off', rfl, hFb', hbs', cs', ⟨rfl, ok1, ok2, ok3⟩, hc'⟩ := HE.out.tests.at ht
              obtain ⟨hu, ⟨wd, hwd, hwd2⟩, hn1, hn2⟩ := UF.out (r.pos.length + j) (by omega)
              obtain ⟨u, hue⟩ : ∃ u, (upTo st r (r.pos.length + j)).1 = u := ⟨_, rfl⟩
              have hstep := upTo_succ st (cond_test ht)
              have HS := Lib.hid (show upTo st r (r.pos.length + (j + 1)) = tstF ((upTo st r (r.pos.length + j)).1, (upTo st r (r.pos.length + j)).2) t from hstep)
              have hT0 : testOf (upTo st r (r.pos.length + j)).2 (upTo st r (r.pos.length + j)).1 t = ⟨2, ((upTo st r (r.pos.length + j)).1 : Int), -1, [], [], t, wd⟩ := by unfold testOf; rw [hwd]
              rw [hue] at hu hwd HS hT0 ⊢
              have m1 : i64ok (-1) := by unfold i64ok; decide
              have m2 : i64ok 2 := by unfold i64ok; decide
              have hok : NdOk ⟨2, (u : Int), -1, [], [], t, wd⟩ := ⟨⟨m2, okNat (by omega), m1, okNat (by omega), ok1, ok2, ok3⟩, by simp, by simp, by simp, by simp⟩
              have CN := Lib.hid (fun W' (hb : Below wr.heap.size wr W') => rnodeW (hI.mkr.step hb) (cs := [.int .i64 2, .int .i64 u, .int .i64 (-1), .slice none 0 0, .slice none 0 0, .int .i64 t.op, .bool t.l.v, .int .i64 t.l.n, .bool t.r.v, .int .i64 t.r.n, .int .i64 wd]) (lv := .slice none 0 0) (nv := .slice none 0 0) ⟨2, (u : Int), -1, [], [], t, wd⟩ ⟨rfl, hok.ints, RSl.nil, RSl.nil⟩ (by omega))
              have MW := Lib.hid (fun W' (hb : Below wr.heap.size wr W') => (hI.mkr.step hb).width hu hwd)
              have hcz := Lib.hid (fun W' (hb : Below wr.heap.size wr W') (i : Nat) (u : Value) hu => ((bw.trans (hb.mono bw.size)).cell (p := ⟨b', off' + j * 5 + i, none⟩) hbs').trans (hc' i u hu))
              have f1 : (0 : Int) ≤ (j : Int) := by omega
              have f2 : (j : Int) < (r.tests.length : Int) := by omega
              have f3 : (0 : Int) ≤ (u : Int) := by omega
              have f4 : (u : Int) < ((upTo st r (r.pos.length + j)).2.ns.length : Int) := by omega
              have HJ := Lib.hid hjn
              have HI := Lib.hid hI
              have HT0 := Lib.hid hT0
              have HUE := Lib.hid hue
              have BWW := Lib.hid bw
              clear hc' ht hwd hstep hjn hI hu bw hok hT0 hue
              go_wp2_with fail
              have hB0 : Below wr.heap.size wr wr.drew := (Below.refl _ _).drew
              refine wp_region_still_tail 20 (by kernel_rfl) (by kernel_rfl) ?_
              change wpStill _ _ wr.drew (fun a' => wpList _ _ _ _ a' wr.drew) _ _
              generalize wr.drew = wz at hB0 ⊢
              obtain ⟨nb, noff, nC, n1, n2, n3, n4⟩ := MW.out wz hB0
              clear c3
              have c3 := HCC.out wz (BWW.out.trans (hB0.mono BWW.out.size)) 3 _ rfl
              have y0 := hcz.out wz hB0 0 _ rfl
              have y1 := hcz.out wz hB0 1 _ rfl
              have y2 := hcz.out wz hB0 2 _ rfl
              have y3 := hcz.out wz hB0 3 _ rfl
              have y4 := hcz.out wz hB0 4 _ rfl
              simp only [Nat.add_zero] at y0
              have BZ := Lib.hid hB0
              clear hB0
              simp only [List.take_succ_cons, List.take_zero, List.drop_succ_cons, List.drop_zero]
              repeat still_step
              refine wpStill_nil ?_
              go_wp2_with fail
              refine (CN.out _ BZ.out).mono ?_
              rintro e w5 ⟨rfl, hT⟩
              obtain ⟨S', hI'⟩ := (HI.out.step BZ.out).to hT
              have hst2 : (upTo st r (r.pos.length + (j + 1))).2 = ⟨(upTo st r (r.pos.length + j)).2.al, addF (upTo st r (r.pos.length + j)).2.ns ⟨2, (u : Int), -1, [], [], t, wd⟩⟩ := by
                rw [HS.out]
                simp only [tstF]
                rw [HT0.out]
              rw [← hst2] at hI'
              have HU2 := Lib.hid (show (placeF (upTo st r (r.pos.length + j)).2.ns ⟨2, (u : Int), -1, [], [], t, wd⟩) = (upTo st r (r.pos.length + (j + 1))).1 by
                rw [HS.out]
                simp only [tstF]
                rw [HT0.out])
              have HI' := Lib.hid hI'
              rw [HU2.out]
              clear hT hI' hst2 y0 y1 y2 y3 y4 n1 n2 n3 n4 c3
              go_wp2_with fail
              exact ⟨⟨j + 1, S', by go_num, rfl, HJ.out, HI'.out⟩, by simp [intOf]; have := HJ.out; omega⟩
            · obtain rfl : j = r.tests.length := by omega
              have HI := Lib.hid hI
              clear bw hI
              go_wp2_with fail
              clear c3
              go_loopw [8, 11] (fun u i wr => ∃ (j : Nat) (S : List Nat), i = .int .i64 j ∧ u = .int .i64 (upTo st r (r.pos.length + r.tests.length + j)).1 ∧ j ≤ r.neg.length ∧ RCst W wr S (upTo st r (r.pos.length + r.tests.length + j)).2 es) (fun _ i _ => r.neg.length - (intOf i).toNat)
              case atStart => exact ⟨0, S, rfl, rfl, Nat.zero_le _, HI.out⟩
              case round =>
                obtain ⟨j, S, rfl, rfl, hj, hI⟩ := hrel
                clear HI
                have bw := hI.below
                have c4 := HCC.out wr bw 4 _ rfl
                by_cases hjn : j < r.neg.length
                · obtain ⟨p, hp⟩ : ∃ p, r.neg[j]? = some p := ⟨_, List.getElem?_eq_getElem hjn⟩
                  obtain ⟨b', off', rfl, hFb', hbs', cs', ⟨av', rfl, pok, ha⟩, hc'⟩ := (RPats.kp HE.out.neg (Kp.of_below bw) (fun _ _ h => h)).at hp
                  have c0' := hc' 0 _ rfl
                  have c1' := hc' 1 _ rfl
                  simp only [Nat.add_zero] at c0'
                  obtain ⟨hu, ⟨wd, hwd, hwd2⟩, hn1, hn2⟩ := UF.out (r.pos.length + r.tests.length + j) (by omega)
                  have hfa := HFIT.out.ngs p (List.mem_of_getElem? hp)
                  have m3 : i64ok 3 := by unfold i64ok; decide
                  have CP := Lib.hid (ratomW hI.mkr 3 m3 _ hu wd hwd (by omega) (F := fun b => b < W.heap.size) (fun b hb => by omega) p _ ha pok hfa.2.1 (by omega) (by omega))
                  obtain ⟨Aa, ca, rfl⟩ := ha.form
                  have hstep := upTo_succ st (cond_neg hp)
                  have HS := Lib.hid (show upTo st r (r.pos.length + r.tests.length + (j + 1)) = patF 3 ((upTo st r (r.pos.length + r.tests.length + j)).1, (upTo st r (r.pos.length + r.tests.length + j)).2) p from hstep)
                  have f1 : (0 : Int) ≤ (j : Int) := by omega
                  have f2 : (j : Int) < (r.neg.length : Int) := by omega
                  have HJ := Lib.hid hjn
                  have HI := Lib.hid hI
                  clear hc' hp ha hwd hfa hstep hjn hI hu bw m3
                  go_wp2_with fail
                  refine CP.out.mono ?_
                  rintro e w5 ⟨rfl, hT⟩
                  obtain ⟨S', hI'⟩ := HI.out.to hT
                  rw [← HS.out] at hI' ⊢
                  have HI' := Lib.hid hI'
                  clear hT hI'
                  go_wp2_with fail
                  exact ⟨⟨j + 1, S', by go_num, rfl, HJ.out, HI'.out⟩, by simp [intOf]; have := HJ.out; omega⟩
                · obtain rfl : j = r.neg.length := by omega
                  obtain ⟨hu, _, hn1, hn2⟩ := UF.out (r.pos.length + r.tests.length + r.neg.length) (Nat.le_refl _)
                  obtain ⟨u, hue⟩ : ∃ u, (upTo st r (r.pos.length + r.tests.length + r.neg.length)).1 = u := ⟨_, rfl⟩
                  obtain ⟨st2, hse⟩ : ∃ st2, (upTo st r (r.pos.length + r.tests.length + r.neg.length)).2 = st2 := ⟨_, rfl⟩
                  have hcomp : (compF (rs.take (k + 1))).1 = st2 ∧ (compF (rs.take (k + 1))).2 = es ++ [u] := by
                    rw [CE.out]
                    simp only [endF]
                    rw [HST.out.1, HST.out.2, ← upTo_all, hue, hse]
                    exact ⟨rfl, rfl⟩
                  rw [hue] at hu ⊢
                  rw [hse] at hI hu hn1 hn2
                  have hel : es.length ≤ k := by
                    have := (made_comp (rs.take k)).len
                    rw [HST.out.2] at this
                    rw [this]
                    exact List.length_take_le _ _
                  have HI := Lib.hid hI
                  have hrb := hI.rb
                  have hbw := hI.below
                  obtain ⟨av, nv, ev, hSS, hM⟩ := hI.mkr
                  obtain ⟨A1, C1, rfl⟩ := hM.en.form
                  simp only [List.length_map] at hM hSS
                  have x2 := hM.cell 2 rfl
                  have hgl := hM.lt
                  have hbase2 : W.heap.size + 1 ≤ wr.heap.size := by omega
                  have UOK := Lib.hid (okNat (k := u) (by omega))
                  have HM := Lib.hid hM
                  have HCO := Lib.hid hcomp
                  have HSS := Lib.hid hSS
                  clear hI hM hcomp hue hse bw hrb hbw hSS
                  go_wp2_with (at_builtin; refine wpList_append_F HM.out.en (fun b hb hf => hf.2 (by simp [rfoot, hb])) rfl (.tmp 115) (.tmp 117) 24 rfl Tryd.underlying24 infoIntR rfl (by decide) rfl #[.int .i64 u] _ rfl rfl (x := (u : Int)) ⟨rfl, UOK.out⟩ (by rw [List.length_map]; omega) (by decide) hbase2 ?_; intro g' cap w5 ho ht hat hlt5; have hgn := (HM.out.apart).2.2; have e3 := (ht.block _ HM.out.lt (fun hm => hgn _ (by simpa using hm) rfl)).trans HM.out.blk; have q1 := (cell_of_row _ _ 2 _ _ _ e3).trans (show _ = some (Value.slice A1 es.length C1) from rfl); have q2 : ∀ o, w5.frozen? ⟨W.heap.size + 1, o, none⟩ = false := (fun o => by simp [World.frozen?, e3]); have q3 := lt_of_heap e3; have GR0 := HM.out.grow_en ho ht hat; simp only [List.length_map] at GR0; have GR := Lib.hid GR0; clear ho ht hat hlt5 hgn e3 GR0)
                  obtain ⟨S', hI'⟩ := HI.out.to ⟨_, ⟨_, _, _, rfl, GR.out.1⟩, by rw [HSS.out]; exact GR.out.2.1, by rw [HSS.out]; exact GR.out.2.2⟩
                  exact ⟨⟨k + 1, S', by go_num, HK.out, HQ2.out, by rw [HCO.out.1, HCO.out.2]; exact hI'⟩, by simp [intOf]; have := HK.out; omega⟩
    · obtain rfl : k = rs.length := by omega
      rw [List.take_length] at hC hq
      have HQ := Lib.hid hq
      have eb := hC.rb
      have hbw := hC.below
      obtain ⟨av, nv, ev, rfl, hM⟩ := hC.mkr
      obtain ⟨A1, C1, rfl⟩ := hM.en.form
      obtain ⟨A2, C2, rfl⟩ := hM.ns.form
      obtain ⟨A3, C3, rfl⟩ := hM.al.form
      have x0 := hM.cell 0 rfl
      have x1 := hM.cell 1 rfl
      have x2 := hM.cell 2 rfl
      have hgl := hM.lt
      have f0 := rbox (j := 0) eb rfl
      have f1 := rbox (j := 1) eb rfl
      have f2 := rbox (j := 2) eb rfl
      have hrl := lt_of_heap eb
      have fz : ∀ o, wr.frozen? ⟨W.heap.size, o, none⟩ = false := fun o => by simp [World.frozen?, eb]
      have ef := Lib.hid (heap_setCell_same _ _ 2 _ _ (.slice A1 ((compF rs).2.map fun (e : Nat) => (e : Int)).length C1) (heap_setCell_same _ _ 1 _ _ (.slice A2 (compF rs).1.ns.length C2) (heap_setCell_same _ _ 0 _ _ (.slice A3 (compF rs).1.al.length C3) eb)))
      have HM := Lib.hid hM
      have BW := Lib.hid hbw
      clear hM eb hC bw hkn hbw hq
      obtain ⟨ln, hln⟩ : ∃ ln, ((compF rs).2.map fun (e : Nat) => (e : Int)).length = ln := ⟨_, rfl⟩
      rw [hln] at x2 ef
      have HLN := Lib.hid hln
      clear hln
      go_wp2
      refine bodyPost_ret (v := .tuple #[.agg #[.slice A3 (compF rs).1.al.length C3, .slice A2 (compF rs).1.ns.length C2, .slice A1 ln C1], .int .i64 0]) (results_row_slot rfl _ _ W.heap.size 26 #[.slice A3 (compF rs).1.al.length C3, .slice A2 (compF rs).1.ns.length C2, .slice A1 ln C1] (0, 0) _ _ rfl rfl ef.out Tryd.underlying26 rfl sizePlan) rfl ?_
      have T : Turns [W.heap.size] wr (((wr.setCell ⟨W.heap.size, 0, none⟩ (.slice A3 (compF rs).1.al.length C3)).setCell ⟨W.heap.size, 1, none⟩ (.slice A2 (compF rs).1.ns.length C2)).setCell ⟨W.heap.size, 2, none⟩ (.slice A1 ln C1)) :=
        (((Turns.refl _ _).setCell (.inl (by simp)) _).setCell (.inl (by simp)) _).setCell (.inl (by simp)) _
      have K : ∀ (G : Nat → Prop), (∀ b, G b → W.heap.size + 1 ≤ b) → Kp G wr _ := fun G hG => Kp.of_turns T (fun x hx hf => by have := hG x hf; rw [List.mem_singleton.1 hx] at this; omega)
      refine ⟨((BW.out.setCell (Nat.le_refl _) _).setCell (Nat.le_refl _) _).setCell (Nat.le_refl _) _, .inl ⟨HQ.out, _, _, _, rfl, ?_, ?_, ?_⟩⟩
      · exact (HM.out.al.rsl (G := fun b => W.heap.size + 1 ≤ b) (fun b hb => (HM.out.al.block hb).1)).kp (K _ (fun _ h => h)) (fun b _ hb => by omega) (fun cs p hp => EShp.kp hp (K _ (fun b hb => hb.1)) (fun b _ hb => by have := hb.1; omega))
      · exact (HM.out.ns.rsl (G := fun b => W.heap.size + 1 ≤ b) (fun b hb => (HM.out.ns.block hb).1)).kp (K _ (fun _ h => h)) (fun b _ hb => by omega) (fun cs p hp => ENode.kp hp (K _ (fun b hb => hb.1)) (fun b _ hb => by have := hb.1; omega))
      · have := (HM.out.en.rsl (G := fun b => W.heap.size + 1 ≤ b) (fun b hb => (HM.out.en.block hb).1)).kp (F' := fun b => W.heap.size ≤ b) (K _ (fun _ h => h)) (fun b _ hb => by omega) (fun _ _ h => h)
        rw [HLN.out] at this
        exact this
end Go.Proofs.YtonkbjdeaneicaaDoor

namespace Go.Proofs.YtonkbjdeaneicaaDoor
open Go.RowKit Pln Classical Go.Maps

/-- The worlds of Equal: two boxes ahead of all. -/
structure EqS (W : World) (a b : Array Value) (wr : World) : Prop where
  ha : wr.heap[W.heap.size]? = some (.cells a 26 (0, 0))
  hb : wr.heap[W.heap.size + 1]? = some (.cells b 26 (0, 0))
  below : Below W.heap.size W wr
section
variable {W wr wr' : World} {a b : Array Value}
theorem EqS.lt (h : EqS W a b wr) : W.heap.size + 1 < wr.heap.size := lt_of_heap h.hb
theorem EqS.step (h : EqS W a b wr) (hx : Below wr.heap.size wr wr') : EqS W a b wr' :=
  ⟨(hx.block _ (by have := h.lt; omega)).trans h.ha, (hx.block _ h.lt).trans h.hb, h.below.trans (hx.mono h.below.size)⟩
theorem EqS.drew (h : EqS W a b wr) : EqS W a b wr.drew := h.step (Below.refl _ _).drew
theorem EqS.start : EqS W a b ((W.alloc (.cells a 26)).alloc (.cells b 26)) := by
  refine ⟨?_, ?_, ((Below.refl _ _).alloc (Nat.le_refl _) _).alloc (by simp) _⟩
  · rw [Below.heap_alloc _ _ _ (by simp)]
    exact heap_alloc_new W _
  · have := heap_alloc_new (W.alloc (.cells a 26)) (.cells b 26)
    simpa using this
end
set_option maxRecDepth 200000 in
set_option maxHeartbeats 8000000 in
theorem requalW {F G : Nat → Prop} (W : World) (av nv ev bv mv fv : Value) (al bl : List Shp) (ns ms : List Nd) (es fs : List Int) (h : RPl F W av nv ev al ns es) (h' : RPl G W bv mv fv bl ms fs) (l1 : al.length ≤ 1000000000) (l2 : ns.length ≤ 1000000000) (l3 : bl.length ≤ 1000000000) (l4 : ms.length ≤ 1000000000) :
    Calls Tryd.prog 15 #[.agg #[av, nv, ev], .agg #[bv, mv, fv]] W fun e W' => e = .returned (.bool (decide (al = bl ∧ ns = ms ∧ es = fs))) ∧ Below W.heap.size W W' := by
  have HA := Lib.hid h
  have HB := Lib.hid h'
  have EI := Lib.hid (fun (Wx : World) (hb : Below W.heap.size W Wx) => requalIntsW ev fv es fs Wx ((HA.out.below hb).en) ((HB.out.below hb).en))
  obtain ⟨Aa, ca, rfl⟩ := h.al.form
  obtain ⟨An, cn, rfl⟩ := h.ns.form
  obtain ⟨Ab, cb, rfl⟩ := h'.al.form
  obtain ⟨Am, cm, rfl⟩ := h'.ns.form
  obtain ⟨R, hR⟩ : ∃ R, decide (al = bl ∧ ns = ms ∧ es = fs) = R := ⟨_, rfl⟩
  rw [hR]
  have NO := Lib.hid (show ¬ (al = bl ∧ ns = ms ∧ es = fs) → R = false from fun h => by rw [← hR]; exact decide_eq_false h)
  have YES := Lib.hid (show al = bl → ns = ms → es = fs → R = true from fun h1 h2 h3 => by rw [← hR]; exact decide_eq_true ⟨h1, h2, h3⟩)
  clear hR h h'
  have h80 : EqS W #[.slice Aa al.length ca, .slice An ns.length cn, ev] #[.slice Ab bl.length cb, .slice Am ms.length cm, fv] ((W.alloc (.cells #[.slice Aa al.length ca, .slice An ns.length cn, ev] 26)).alloc (.cells #[.slice Ab bl.length cb, .slice Am ms.length cm, fv] 26)) := EqS.start
  have C1 := Lib.hid (EI.out _ h80.below)
  have HB2 := Lib.hid h80
  clear h80 EI
  go_enter Tryd.func15, Tryd.ntmps15
  by_cases hl1 : al.length = bl.length
  case neg =>
    have e1 : ((al.length : Int) != (bl.length : Int)) = true := by simp; omega
    have HF := Lib.hid (NO.out (fun h => hl1 (by rw [h.1])))
    clear hl1
    go_wp2
    go_ret
    exact ⟨by rw [HF.out]; rfl, HB2.out.below⟩
  have e1 : ((al.length : Int) != (bl.length : Int)) = false := by simp; omega
  by_cases hl2 : ns.length = ms.length
  case neg =>
    have e2 : ((ns.length : Int) != (ms.length : Int)) = true := by simp; omega
    have HF := Lib.hid (NO.out (fun h => hl2 (by rw [h.2.1])))
    clear hl1 hl2
    go_wp2
    go_ret
    exact ⟨by rw [HF.out]; rfl, HB2.out.below⟩
  have e2 : ((ns.length : Int) != (ms.length : Int)) = false := by simp; omega
  have HL := Lib.hid (And.intro hl1 hl2)
  clear hl1 hl2
  go_wp2_with fail
  refine C1.out.mono ?_
  rintro e w2 ⟨rfl, hb2⟩
  have HE2 := Lib.hid (HB2.out.step hb2)
  clear hb2 C1
  by_cases hes : es = fs
  case neg =>
    have HF := Lib.hid (NO.out (fun h => hes h.2.2))
    rw [show eqB es fs = false from eqB_ne hes]
    clear hes
    go_wp2
    go_ret
    exact ⟨by rw [HF.out]; rfl, HE2.out.below⟩
  rw [show eqB es fs = true from eqB_eq hes]
  have HES := Lib.hid hes
  clear hes HB2
  go_wp2
  go_loopw [5] (fun iv wr => ∃ k : Nat, iv = .int .i64 k ∧ k ≤ al.length ∧ (∀ j, j < k → al[j]? = bl[j]?) ∧ EqS W #[.slice Aa al.length ca, .slice An ns.length cn, ev] #[.slice Ab bl.length cb, .slice Am ms.length cm, fv] wr) (fun iv _ => al.length - (intOf iv).toNat)
  case atStart => exact ⟨0, rfl, Nat.zero_le _, fun j h => by omega, HE2.out⟩
  case round =>
    obtain ⟨k, rfl, hk, hq, hst⟩ := hrel
    clear HE2
    have hlt := hst.lt
    have y0 := rboxL hst.ha 0 rfl
    have y1 := rboxL hst.ha 1 rfl
    by_cases hkn : k < al.length
    · obtain ⟨a, ha⟩ : ∃ a, al[k]? = some a := ⟨_, List.getElem?_eq_getElem hkn⟩
      obtain ⟨b, hb⟩ : ∃ b, bl[k]? = some b := ⟨_, List.getElem?_eq_getElem (by have := HL.out.1; omega)⟩
      obtain ⟨b1, o1, rfl, -, hl1, cs1, ⟨v1, rfl, -, ea⟩, hc1⟩ := HA.out.al.at ha
      obtain ⟨b2, o2, rfl, -, hl2, cs2, ⟨v2, rfl, -, eb⟩, hc2⟩ := HB.out.al.at hb
      obtain ⟨A1, c1, rfl⟩ := ea.form
      obtain ⟨A2, c2, rfl⟩ := eb.form
      obtain ⟨S, hSe⟩ : ∃ S, S = EqS W #[.slice (some ⟨b1, o1, none⟩) al.length ca, .slice An ns.length cn, ev] #[.slice (some ⟨b2, o2, none⟩) bl.length cb, .slice Am ms.length cm, fv] := ⟨_, rfl⟩
      have bn := fun (p : Pt S) => (congrFun hSe p.val).mp p.property
      have CE := Lib.hid (fun (Wx : World) (hx : Below W.heap.size W Wx) => requalShapeW a b _ _ Wx (ea.keep (Kp.of_below hx)) (eb.keep (Kp.of_below hx)))
      have x0 := fun (p : Pt S) => ((bn p).below.cell (p := ⟨b1, o1 + k * 2 + 0, none⟩) hl1).trans (hc1 0 _ rfl)
      have x1 := fun (p : Pt S) => ((bn p).below.cell (p := ⟨b1, o1 + k * 2 + 1, none⟩) hl1).trans (hc1 1 _ rfl)
      have x2 := fun (p : Pt S) => ((bn p).below.cell (p := ⟨b2, o2 + k * 2 + 0, none⟩) hl2).trans (hc2 0 _ rfl)
      have x3 := fun (p : Pt S) => ((bn p).below.cell (p := ⟨b2, o2 + k * 2 + 1, none⟩) hl2).trans (hc2 1 _ rfl)
      simp only [Nat.add_zero] at x0 x2
      have z0 := fun (p : Pt S) => rboxL (bn p).ha 0 rfl
      have z1 := fun (p : Pt S) => rboxL (bn p).hb 0 rfl
      have NE : Nonempty (Pt S) := ⟨⟨wr, (congrFun hSe wr).mpr hst⟩⟩
      have HDD := Lib.hid ((congrFun hSe wr.drew).mpr hst.drew)
      have SE := Lib.hid hSe
      have KPP := Lib.hid bn
      have e3 : (0 : Int) ≤ (k : Int) := by omega
      have e4 : (k : Int) < (al.length : Int) := by omega
      have e5 : (k : Int) < (bl.length : Int) := by have := HL.out.1; omega
      have HX := Lib.hid (And.intro ha hb)
      have HQ := Lib.hid hq
      have HK := Lib.hid hkn
      clear hc1 hc2 ha hb hq hkn ea eb hst bn hSe
      by_cases has : a = b
      · rw [decide_eq_true has] at CE
        have HQ2 := Lib.hid (show ∀ j, j < k + 1 → al[j]? = bl[j]? from fun j hj => by
          rcases Nat.lt_or_ge j k with h1 | h1
          · exact HQ.out j h1
          · rw [show j = k by omega, HX.out.1, HX.out.2, has])
        clear has
        go_wp2_with fail
        refine wp_region_class (S := S) HDD.out (by kernel_rfl) (by kernel_rfl) ?_
        repeat (go_big_quiet_step ((go_at_call 35; refine (CE.out _ (KPP.out _).below).mono ?_; rintro e w' ⟨rfl, hbel⟩; exact ⟨rfl, ⟨w', (congrFun SE.out w').mpr ((KPP.out _).step hbel)⟩, rfl⟩)))
        refine wpQuiet_nil ?_
        rintro wq ⟨⟨_, hW⟩, rfl⟩
        have HF := Lib.hid ((congrFun SE.out wq).mp hW)
        clear x0 x1 x2 x3 z0 z1 NE hW y0 y1
        go_wp2
        exact ⟨⟨k + 1, by go_num, HK.out, HQ2.out, HF.out⟩, by simp [intOf]; have := HK.out; omega⟩
      · rw [decide_eq_false has] at CE
        have HR := Lib.hid (NO.out (fun h => has (by
          have h1 := HX.out.1
          rw [h.1, HX.out.2] at h1
          exact (Option.some.inj h1).symm)))
        clear has
        go_wp2_with fail
        refine wp_region_class (S := S) HDD.out (by kernel_rfl) (by kernel_rfl) ?_
        repeat (go_big_quiet_step ((go_at_call 35; refine (CE.out _ (KPP.out _).below).mono ?_; rintro e w' ⟨rfl, hbel⟩; exact ⟨rfl, ⟨w', (congrFun SE.out w').mpr ((KPP.out _).step hbel)⟩, rfl⟩)))
        refine wpQuiet_nil ?_
        rintro wq ⟨⟨_, hW⟩, rfl⟩
        have HF := Lib.hid ((congrFun SE.out wq).mp hW)
        clear x0 x1 x2 x3 z0 z1 NE hW y0 y1
        go_wp2
        go_ret
        exact ⟨by rw [HR.out]; rfl, HF.out.below⟩
    · obtain rfl : k = al.length := by omega
      have HAB := Lib.hid (list_eq HL.out.1 hq)
      have HE2 := Lib.hid hst
      clear hq hkn hst
      go_wp2
      clear y0 y1 hlt
      go_loopw [6] (fun iv wr => ∃ k : Nat, iv = .int .i64 k ∧ k ≤ ns.length ∧ (∀ j, j < k → ns[j]? = ms[j]?) ∧ EqS W #[.slice Aa al.length ca, .slice An ns.length cn, ev] #[.slice Ab bl.length cb, .slice Am ms.length cm, fv] wr) (fun iv _ => ns.length - (intOf iv).toNat)
      case atStart => exact ⟨0, rfl, Nat.zero_le _, fun j h => by omega, HE2.out⟩
      case round =>
        obtain ⟨k, rfl, hk, hq, hst⟩ := hrel
        clear HE2
        have hlt := hst.lt
        have y1 := rboxL hst.ha 1 rfl
        by_cases hkn : k < ns.length
        · obtain ⟨a, ha⟩ : ∃ a, ns[k]? = some a := ⟨_, List.getElem?_eq_getElem hkn⟩
          obtain ⟨b, hb⟩ : ∃ b, ms[k]? = some b := ⟨_, List.getElem?_eq_getElem (by have := HL.out.2; omega)⟩
          obtain ⟨b1, o1, rfl, -, hl1, cs1, ⟨lv1, mv1, ea⟩, hc1⟩ := HA.out.ns.at ha
          obtain ⟨b2, o2, rfl, -, hl2, cs2, ⟨lv2, mv2, eb⟩, hc2⟩ := HB.out.ns.at hb
          have hcs1 := ea.cells
          subst hcs1
          have hcs2 := eb.cells
          subst hcs2
          obtain ⟨A1, c1, rfl⟩ := ea.links.form
          obtain ⟨A2, c2, rfl⟩ := ea.new.form
          obtain ⟨A3, c3, rfl⟩ := eb.links.form
          obtain ⟨A4, c4, rfl⟩ := eb.new.form
          obtain ⟨S, hSe⟩ : ∃ S, S = EqS W #[.slice Aa al.length ca, .slice (some ⟨b1, o1, none⟩) ns.length cn, ev] #[.slice Ab bl.length cb, .slice (some ⟨b2, o2, none⟩) ms.length cm, fv] := ⟨_, rfl⟩
          have bn := fun (p : Pt S) => (congrFun hSe p.val).mp p.property
          have CE := Lib.hid (fun (Wx : World) (hx : Below W.heap.size W Wx) => requalNodeW Wx a b _ _ _ _ _ _ (ea.kp (Kp.of_below hx) (fun _ _ h => h)) (eb.kp (Kp.of_below hx) (fun _ _ h => h)))
          have xx := fun (p : Pt S) (i : Nat) (u : Value) hu => ((bn p).below.cell (p := ⟨b1, o1 + k * 11 + i, none⟩) hl1).trans (hc1 i u hu)
          have xy := fun (p : Pt S) (i : Nat) (u : Value) hu => ((bn p).below.cell (p := ⟨b2, o2 + k * 11 + i, none⟩) hl2).trans (hc2 i u hu)
          have x0 := fun (p : Pt S) => xx p 0 _ rfl
          have w0 := fun (p : Pt S) => xy p 0 _ rfl
          have x1 := fun (p : Pt S) => xx p 1 _ rfl
          have w1 := fun (p : Pt S) => xy p 1 _ rfl
          have x2 := fun (p : Pt S) => xx p 2 _ rfl
          have w2 := fun (p : Pt S) => xy p 2 _ rfl
          have x3 := fun (p : Pt S) => xx p 3 _ rfl
          have w3 := fun (p : Pt S) => xy p 3 _ rfl
          have x4 := fun (p : Pt S) => xx p 4 _ rfl
          have w4 := fun (p : Pt S) => xy p 4 _ rfl
          have x5 := fun (p : Pt S) => xx p 5 _ rfl
          have w5 := fun (p : Pt S) => xy p 5 _ rfl
          have x6 := fun (p : Pt S) => xx p 6 _ rfl
          have w6 := fun (p : Pt S) => xy p 6 _ rfl
          have x7 := fun (p : Pt S) => xx p 7 _ rfl
          have w7 := fun (p : Pt S) => xy p 7 _ rfl
          have x8 := fun (p : Pt S) => xx p 8 _ rfl
          have w8 := fun (p : Pt S) => xy p 8 _ rfl
          have x9 := fun (p : Pt S) => xx p 9 _ rfl
          have w9 := fun (p : Pt S) => xy p 9 _ rfl
          have x10 := fun (p : Pt S) => xx p 10 _ rfl
          have w10 := fun (p : Pt S) => xy p 10 _ rfl
          simp only [Nat.add_zero] at x0 w0
          have z0 := fun (p : Pt S) => rboxL (bn p).ha 1 rfl
          have z1 := fun (p : Pt S) => rboxL (bn p).hb 1 rfl
          have NE : Nonempty (Pt S) := ⟨⟨wr, (congrFun hSe wr).mpr hst⟩⟩
          have HDD := Lib.hid ((congrFun hSe wr.drew).mpr hst.drew)
          have SE := Lib.hid hSe
          have KPP := Lib.hid bn
          have e3 : (0 : Int) ≤ (k : Int) := by omega
          have e4 : (k : Int) < (ns.length : Int) := by omega
          have e5 : (k : Int) < (ms.length : Int) := by have := HL.out.2; omega
          have HX := Lib.hid (And.intro ha hb)
          have HQ := Lib.hid hq
          have HK := Lib.hid hkn
          clear hc1 hc2 ha hb hq hkn ea eb hst bn hSe xx xy
          by_cases has : a = b
          · rw [decide_eq_true has] at CE
            have HQ2 := Lib.hid (show ∀ j, j < k + 1 → ns[j]? = ms[j]? from fun j hj => by
              rcases Nat.lt_or_ge j k with h1 | h1
              · exact HQ.out j h1
              · rw [show j = k by omega, HX.out.1, HX.out.2, has])
            clear has
            go_wp2_with fail
            refine wp_region_class (S := S) HDD.out (by kernel_rfl) (by kernel_rfl) ?_
            repeat (go_big_quiet_step ((go_at_call 36; refine (CE.out _ (KPP.out _).below).mono ?_; rintro e w' ⟨rfl, hbel⟩; exact ⟨rfl, ⟨w', (congrFun SE.out w').mpr ((KPP.out _).step hbel)⟩, rfl⟩)))
            refine wpQuiet_nil ?_
            rintro wq ⟨⟨_, hW⟩, rfl⟩
            have HF := Lib.hid ((congrFun SE.out wq).mp hW)
            clear x0 w0 x1 w1 x2 w2 x3 w3 x4 w4 x5 w5 x6 w6 x7 w7 x8 w8 x9 w9 x10 w10 z0 z1 NE hW y1
            go_wp2
            exact ⟨⟨k + 1, by go_num, HK.out, HQ2.out, HF.out⟩, by simp [intOf]; have := HK.out; omega⟩
          · rw [decide_eq_false has] at CE
            have HR := Lib.hid (NO.out (fun h => has (by
              have h1 := HX.out.1
              rw [h.2.1, HX.out.2] at h1
              exact (Option.some.inj h1).symm)))
            clear has
            go_wp2_with fail
            refine wp_region_class (S := S) HDD.out (by kernel_rfl) (by kernel_rfl) ?_
            repeat (go_big_quiet_step ((go_at_call 36; refine (CE.out _ (KPP.out _).below).mono ?_; rintro e w' ⟨rfl, hbel⟩; exact ⟨rfl, ⟨w', (congrFun SE.out w').mpr ((KPP.out _).step hbel)⟩, rfl⟩)))
            refine wpQuiet_nil ?_
            rintro wq ⟨⟨_, hW⟩, rfl⟩
            have HF := Lib.hid ((congrFun SE.out wq).mp hW)
            clear x0 w0 x1 w1 x2 w2 x3 w3 x4 w4 x5 w5 x6 w6 x7 w7 x8 w8 x9 w9 x10 w10 z0 z1 NE hW y1
            go_wp2
            go_ret
            exact ⟨by rw [HR.out]; rfl, HF.out.below⟩
        · obtain rfl : k = ns.length := by omega
          have HF := Lib.hid (YES.out HAB.out (list_eq HL.out.2 hq) HES.out)
          have HE3 := Lib.hid hst
          clear hq hkn hst
          go_wp2
          go_ret
          exact ⟨by rw [HF.out]; rfl, HE3.out.below⟩
end Go.Proofs.YtonkbjdeaneicaaDoor
