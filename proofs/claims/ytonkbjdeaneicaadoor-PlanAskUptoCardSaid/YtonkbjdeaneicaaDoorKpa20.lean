/- `made`: the law's compilation, looked through before it is used. plan.way: the nodes from the one below the root to a node. nodesRight: what it looks for; its state. -/
import Derived.Test.YtonkbjdeaneicaaDoorKpa13
import Derived.Test.YtonkbjdeaneicaaDoorKpa15
import Derived.Test.YtonkbjdeaneicaaDoorKpa17
import Derived.Test.YtonkbjdeaneicaaDoorKpa18
import Derived.Test.YtonkbjdeaneicaaDoorKpa19
namespace Go.Proofs.YtonkbjdeaneicaaDoor
open Go.RowKit Pln Classical Go.Maps

section
variable {α : Type} {F : Nat → Prop} {w : World} {sz : Nat} {E : List Value → α → Prop} {xs : List α}
/-- Every element out of one block. -/
theorem RSl.base {v : Value} (h : RSl F w sz E v xs) (h0 : 0 < xs.length) :
    ∃ b off c, v = .slice (some ⟨b, off, none⟩) xs.length c ∧ F b ∧ b < w.heap.size ∧ ∀ i x, xs[i]? = some x → ∃ cs, E cs x ∧ CsIn w b (off + i * sz) cs := by
  obtain ⟨A', c', h1, h2, h3, _, h4⟩ := h
  rcases h4 with rfl | ⟨b, off, hA, hf, hb, hc⟩
  · simp at h0
  · exact ⟨b, off, c', by rw [h1, hA], hf, hb, hc⟩
end
/-- A plan that is read. -/
structure RPlan (F : Nat → Prop) (W : World) (av nv ev : Value) (st : St) (es : List Nat) : Prop where
  al : RSl F W 2 (cdShp.E F W) av st.al
  ns : RSl F W 11 (cdNd.E F W) nv st.ns
  en : RSl F W 1 (cdInt.E F W) ev (es.map fun (e : Nat) => (e : Int))
theorem RPlan.kp {F F' : Nat → Prop} {W W' : World} {av nv ev : Value} {st : St} {es : List Nat} (h : RPlan F W av nv ev st es) (hk : Kp F W W') (hF : ∀ b, b < W.heap.size → F b → F' b) : RPlan F' W' av nv ev st es :=
  ⟨RSl.kp h.al hk hF (fun _ _ h => cdShp.kp _ _ _ _ _ _ h hk hF), RSl.kp h.ns hk hF (fun _ _ h => cdNd.kp _ _ _ _ _ _ h hk hF), RSl.kp h.en hk hF (fun _ _ h => cdInt.kp _ _ _ _ _ _ h hk hF)⟩
theorem RPlan.below {W W' : World} {av nv ev : Value} {st : St} {es : List Nat} (h : RPlan (fun b => b < W.heap.size) W av nv ev st es) (hb : Below W.heap.size W W') : RPlan (fun b => b < W'.heap.size) W' av nv ev st es :=
  h.kp (Kp.of_below hb) (fun b h _ => by have := hb.size; omega)
theorem MkAt.plan {base g mb : Nat} {W : World} {av nv ev : Value} {st : St} {es : List Nat} (h : MkAt base g mb W av nv ev st es) : RPlan (fun b => b < W.heap.size) W av nv ev st es :=
  ⟨RSl.kp (h.al.rsl (G := fun b => b < W.heap.size) (fun _b hb => (h.al.block hb).2.1)) (Kp.refl _ _) (fun _ _ h => h) (fun _ _ h => cdShp.kp _ _ _ _ _ _ h (Kp.refl _ _) (fun _b hb _ => hb)),
    RSl.kp (h.ns.rsl (G := fun b => b < W.heap.size) (fun _b hb => (h.ns.block hb).2.1)) (Kp.refl _ _) (fun _ _ h => h) (fun _ _ h => cdNd.kp _ _ _ _ _ _ h (Kp.refl _ _) (fun _b hb _ => hb)),
    RSl.kp (h.en.rsl (G := fun b => b < W.heap.size) (fun _b hb => (h.en.block hb).2.1)) (Kp.refl _ _) (fun _ _ h => h) (fun _ _ h => cdInt.kp _ _ _ _ _ _ h (Kp.refl _ _) (fun _b hb _ => hb))⟩

/-- What `made` leaves. -/
def MadeRes (rs : List Rl) (W : World) (e : Ending) (W' : World) : Prop :=
  Below W.heap.size W W' ∧ (((∀ r ∈ rs, mayP r) ∧ ∃ av nv ev, e = .returned (.tuple #[.agg #[av, nv, ev], .bool true, .bool true]) ∧ RPlan (fun b => b < W'.heap.size) W' av nv ev (compF rs).1 (compF rs).2) ∨
    ((∃ r ∈ rs, ¬ mayP r) ∧ e = .returned (.tuple #[.agg #[.slice none 0 0, .slice none 0 0, .slice none 0 0], .bool false, .bool true])))
theorem made_no {rs : List Rl} {W W' : World} (hb : Below W.heap.size W W') (h : ∃ r ∈ rs, ¬ mayP r) : MadeRes rs W (.returned (.tuple #[.agg #[.slice none 0 0, .slice none 0 0, .slice none 0 0], .bool false, .bool true])) W' :=
  ⟨hb, .inr ⟨h, rfl⟩⟩
theorem results_row_slot2 {P : Program} {fn : Func} {p q q' : Tmp} {ty : TypeId} (h : fn.results = #[.cell p ty, .tmp q, .tmp q']) (tmps : Array Value) (w : World) (g : Nat) (t : TypeId) (cs : Array Value) (fr : Nat × Nat) (d : TypeDesc) (v v' : Value)
    (hp : tmps.getD p undef = .pointer (some ⟨g, 0, none⟩)) (hq : tmps.getD q undef = v) (hq' : tmps.getD q' undef = v') (hg : w.heap[g]? = some (.cells cs t fr))
    (hu : P.underlying ty = some d) (hd : (match d with | .struct _ | .array _ _ => true | _ => false) = true) (hi : (P.info? ty).map (·.size) = some cs.size) :
    (results fn tmps).run P w = .ok (.tuple #[.agg cs, v, v']) w := by
  have hp' : tmps[p]?.getD undef = .pointer (some ⟨g, 0, none⟩) := by simpa using hp
  have h1 : tmps[q]?.getD undef = v := by simpa using hq
  have h2 : tmps[q']?.getD undef = v' := by simpa using hq'
  simp [results, h, hp', h1, h2, asAddr, run_loadVar_row w g t ty cs fr d hg hu hd hi]

/-- rulesOf and then Compile. -/
theorem bothW (rs : List Rl) (W W1 W2 : World) (v' : Value) (hS : rs.length ≤ 1048576 ∧ ∀ r ∈ rs, rlSm 1048576 r) (h : OwnL W.heap.size W1 85 cdRl v' rs) (hb : Below W1.heap.size W1 W2) :
    Calls Tryd.prog 18 #[v'] W2 (CompRes rs W2) := by
  have h2 : RRules (fun b => b < W2.heap.size) W2 v' rs := (h.below hb).rsl' (F := fun b => b < W2.heap.size) (fun b _ h => h)
  exact compileW v' rs W2 h2 hS

theorem MkAt.plan2 {base g mb : Nat} {W : World} {av nv ev : Value} {st : St} {es : List Nat} (h : MkAt base g mb W av nv ev st es) : RPlan (fun b => base ≤ b) W av nv ev st es :=
  ⟨RSl.kp (h.al.rsl (G := fun b => base ≤ b) (fun _b hb => (h.al.block hb).1)) (Kp.refl _ _) (fun _ _ h => h) (fun _ _ h => cdShp.kp _ _ _ _ _ _ h (Kp.refl _ _) (fun _b _ hb => hb.1)),
    RSl.kp (h.ns.rsl (G := fun b => base ≤ b) (fun _b hb => (h.ns.block hb).1)) (Kp.refl _ _) (fun _ _ h => h) (fun _ _ h => cdNd.kp _ _ _ _ _ _ h (Kp.refl _ _) (fun _b _ hb => hb.1)),
    RSl.kp (h.en.rsl (G := fun b => base ≤ b) (fun _b hb => (h.en.block hb).1)) (Kp.refl _ _) (fun _ _ h => h) (fun _ _ h => cdInt.kp _ _ _ _ _ _ h (Kp.refl _ _) (fun _b _ hb => hb.1))⟩
/-- What the loops find. -/
structure Sound (base : Nat) (W : World) (av nv ev : Value) (st : St) (es : List Nat) (n : Nat) : Prop where
  plan : RPlan (fun b => base ≤ b) W av nv ev st es
  wf : Wf st
  len : es.length = n
  ends : ∀ e ∈ es, e < st.ns.length
theorem sound_of {base : Nat} {rs : List Rl} {W : World} {av nv ev : Value} (h : RPlan (fun b => base ≤ b) W av nv ev (compF rs).1 (compF rs).2) : Sound base W av nv ev (compF rs).1 (compF rs).2 rs.length := by
  have hm := made_comp rs
  refine ⟨h, hm.wf, hm.len, fun e he => ?_⟩
  obtain ⟨i, hi, rfl⟩ := List.getElem_of_mem he
  obtain ⟨r, hr⟩ : ∃ r, rs[i]? = some r := ⟨_, List.getElem?_eq_getElem (by rw [← hm.len]; exact hi)⟩
  obtain ⟨_, e', h1, _, h2⟩ := hm.ways i r hr
  rw [List.getElem?_eq_getElem hi] at h1
  injection h1 with h1
  omega

set_option maxRecDepth 200000 in
set_option maxHeartbeats 8000000 in
theorem madeW {F : Nat → Prop} (v : Value) (rs : List Rl) (W : World) (h : RRules F W v rs) (hS : rs.length ≤ 1048576 ∧ ∀ r ∈ rs, rlSm 1048576 r) :
    Calls Tryd.prog 16 #[v] W (MadeRes rs W) := by
  obtain ⟨A, c, rfl⟩ := h.form
  have hm := hS.1
  have H := Lib.hid (RRules.kp (F' := fun b => b < W.heap.size) h (Kp.refl _ _) (fun b hb _ => hb))
  have SM := Lib.hid hS
  clear h hS
  go_enter Tryd.func16, Tryd.ntmps16
  go_wp2
  go_loopw [5] (fun i wr => ∃ k : Nat, i = .int .i64 k ∧ k ≤ rs.length ∧ (∀ r ∈ rs.take k, mayP r) ∧ Below (W.heap.size + 1) (W.alloc (.cells #[.slice none 0 0, .slice none 0 0, .slice none 0 0] 26)) wr) (fun i _ => rs.length - (intOf i).toNat)
  case atStart => exact ⟨0, rfl, Nat.zero_le _, by simp, Below.refl _ _⟩
  case round =>
    obtain ⟨k, rfl, hk, hq, hb⟩ := hrel
    have bw := box_below hb
    have hwz : W.heap.size < wr.heap.size := by have := hb.size; simp at this; omega
    by_cases hkn : k < rs.length
    · obtain ⟨r, hr⟩ : ∃ r, rs[k]? = some r := ⟨_, List.getElem?_eq_getElem hkn⟩
      obtain ⟨b, off, rfl, hFb, hbs, cs, ⟨hv, pv, tv, nv, vv, hE⟩, hc⟩ := (RRules.kp H.out (Kp.of_below bw) (fun _ _ h => h)).at hr
      have hcs := hE.cells
      subst hcs
      have c0 := hc 0 _ rfl
      have c1 := hc 1 _ rfl
      have c2 := hc 2 _ rfl
      have c3 := hc 3 _ rfl
      have c4 := hc 4 _ rfl
      have c5 := hc 5 _ rfl
      have c6 := hc 6 _ rfl
      simp only [Nat.add_zero] at c0
      have hsm := SM.out.2 r (List.mem_of_getElem? hr)
      have CY := Lib.hid (widthW r wr hE hsm)
      obtain ⟨Ah, ch, rfl⟩ := hE.head.form
      obtain ⟨Ap, cp, rfl⟩ := hE.pos.form
      obtain ⟨At, ct, rfl⟩ := hE.tests.form
      obtain ⟨An, cn, rfl⟩ := hE.neg.form
      obtain ⟨Av, cv, rfl⟩ := hE.vars.form
      have e1 : (0 : Int) ≤ (k : Int) := by omega
      have e2 : (k : Int) < (rs.length : Int) := by omega
      have HR := Lib.hid hr
      have HK := Lib.hid hkn
      have HQ := Lib.hid hq
      have HB := Lib.hid hb
      clear hc hr hkn hq hE hsm
      by_cases hmp : mayP r
      · have HM := Lib.hid (mayB_true hmp)
        have HQ2 := Lib.hid (take_all HQ.out HR.out hmp)
        clear hmp bw hb
        go_wp2_with fail
        refine CY.out.mono ?_
        rintro e w2 ⟨n, he, hb2⟩
        rw [HM.out] at he
        subst he
        have HB2 := Lib.hid (box_step HB.out hb2)
        clear hb2
        go_wp2
        exact ⟨⟨k + 1, by go_num, HK.out, HQ2.out, HB2.out⟩, by simp [intOf]; have := HK.out; omega⟩
      · have HM := Lib.hid (mayB_false hmp)
        have HF := Lib.hid (show ∃ r ∈ rs, ¬ mayP r from ⟨r, List.mem_of_getElem? HR.out, hmp⟩)
        clear hmp bw hb
        go_wp2_with fail
        refine CY.out.mono ?_
        rintro e w2 ⟨n, he, hb2⟩
        rw [HM.out] at he
        subst he
        have hb3 := box_step HB.out hb2
        have HB3 := Lib.hid hb3
        clear hb2 hb3
        go_wp2_with fail
        refine (rulesOfW _ rs w2 (RRules.kp H.out (Kp.of_below (box_below HB3.out)) (fun _ _ h => h)) SM.out).mono ?_
        rintro e w4 ⟨v', rfl, hO, hb4⟩
        have hb5 := box_step HB3.out hb4
        have HB5 := Lib.hid hb5
        have HO := Lib.hid hO
        clear hb4 hb5 hO
        go_wp2_with fail
        refine (bothW rs w2 w4 w4 v' SM.out HO.out (Below.refl _ _)).mono ?_
        rintro e w6 ⟨hb6, hres⟩
        rcases hres with ⟨hall, _⟩ | ⟨_, rfl⟩
        · exact absurd hall (fun hall => by obtain ⟨r, hr, hn⟩ := HF.out; exact hn (hall r hr))
        have hb7 := box_step HB5.out (hb6.trans ((Below.refl _ _).alloc hb6.size (.cells #[.slice none 0 0, .slice none 0 0, .slice none 0 0] 26)))
        have eb : (w6.alloc (.cells #[.slice none 0 0, .slice none 0 0, .slice none 0 0] 26)).heap[W.heap.size]? = some (.cells #[.slice none 0 0, .slice none 0 0, .slice none 0 0] 26 (0, 0)) := (hb7.block _ (by simp)).trans (heap_alloc_new W _)
        have f0 := cell_of_row _ _ 0 _ _ _ eb
        have f1 := cell_of_row _ _ 1 _ _ _ eb
        have f2 := cell_of_row _ _ 2 _ _ _ eb
        simp only [List.getElem?_toArray, List.getElem?_cons_zero, List.getElem?_cons_succ] at f0 f1 f2
        have fz : ∀ o, (w6.alloc (.cells #[.slice none 0 0, .slice none 0 0, .slice none 0 0] 26)).frozen? ⟨W.heap.size, o, none⟩ = false := fun o => by simp [World.frozen?, eb]
        have ef := Lib.hid (heap_setCell_same _ _ 2 _ _ (.slice none 0 0) (heap_setCell_same _ _ 1 _ _ (.slice none 0 0) (heap_setCell_same _ _ 0 _ _ (.slice none 0 0) eb)))
        have HB7 := Lib.hid (box_below hb7)
        clear hb6 hb7 eb
        go_wp2
        exact bodyPost_ret (v := .tuple #[.agg #[.slice none 0 0, .slice none 0 0, .slice none 0 0], .bool false, .bool true]) (results_row_slot2 rfl _ _ W.heap.size 26 #[.slice none 0 0, .slice none 0 0, .slice none 0 0] (0, 0) _ _ _ rfl rfl rfl ef.out Tryd.underlying26 rfl sizePlan) rfl
          (made_no (((HB7.out.setCell (Nat.le_refl _) _).setCell (Nat.le_refl _) _).setCell (Nat.le_refl _) _) HF.out)
    · obtain rfl : k = rs.length := by omega
      rw [List.take_length] at hq
      have HQ := Lib.hid hq
      have HQ0 := Lib.hid hq
      have HB := Lib.hid hb
      clear hq hb bw hkn
      go_wp2_with fail
      refine (rulesOfW _ rs wr (RRules.kp H.out (Kp.of_below (box_below HB.out)) (fun _ _ h => h)) SM.out).mono ?_
      rintro e w4 ⟨v', rfl, hO, hb4⟩
      have hb5 := box_step HB.out hb4
      have HB5 := Lib.hid hb5
      have HO := Lib.hid hO
      clear hb4 hb5 hO
      go_wp2_with fail
      refine (bothW rs wr w4 w4 v' SM.out HO.out (Below.refl _ _)).mono ?_
      rintro e w6 ⟨hb6, hres⟩
      rcases hres with ⟨_, av, nv, ev, base, g, mb, hbase, rfl, hMk⟩ | ⟨hex, _⟩
      rotate_left
      · exact absurd hex (fun ⟨r, hr, hn⟩ => hn (HQ.out r hr))
      have hb7 := box_step HB5.out (hb6.trans ((Below.refl _ _).alloc hb6.size (.cells #[av, nv, ev] 26)))
      have SD := Lib.hid (sound_of hMk.plan2)
      have hw6 : W.heap.size < w6.heap.size := by have := HB5.out.size; have := hb6.size; simp at *; omega
      clear hMk
      obtain ⟨st, hst⟩ : ∃ st, (compF rs).1 = st := ⟨_, rfl⟩
      obtain ⟨es, hes⟩ : ∃ es, (compF rs).2 = es := ⟨_, rfl⟩
      rw [hst, hes] at SD
      have HST := Lib.hid (And.intro hst hes)
      obtain ⟨hP, hwf, hlen, hends⟩ := SD.out
      have hnl := hwf.len
      obtain ⟨nb, no, nc, rfl, _, hnb, hnc⟩ := RSl.base hP.ns hnl
      obtain ⟨A1, C1, rfl⟩ := hP.en.form
      obtain ⟨A3, C3, rfl⟩ := hP.al.form
      obtain ⟨cs0, ⟨l0, w0, hr0⟩, hc0⟩ := hnc 0 _ hwf.root
      have hcs0 := hr0.cells
      subst hcs0
      have z0 := (World.cell?_of_block (a := ⟨nb, no, none⟩) (Below.heap_alloc w6 (.cells #[.slice A3 st.al.length C3, .slice (some ⟨nb, no, none⟩) st.ns.length nc, .slice A1 (es.map fun (e : Nat) => (e : Int)).length C1] 26) nb hnb)).trans (by simpa using hc0 0 _ rfl)
      have HB7 := Lib.hid hb7
      have HQ2 := Lib.hid hnc
      have HE := Lib.hid hends
      have HW := Lib.hid hwf
      have hl2 : (es.map fun (e : Nat) => (e : Int)).length = rs.length := by simp [hlen]
      simp only [hl2] at z0 HB7 SD ⊢
      have HLE := Lib.hid hlen
      clear hb6 hb7 hst hes hP hwf hlen hends hnc hr0 hc0 HQ
      have g1 : ((st.ns.length : Int) == (0 : Int)) = false := by simp; intro h; simp [h] at hnl
      have g2 : decide ((st.ns.length : Int) = (0 : Int)) = false := by simp; intro h; simp [h] at hnl
      have g3 : ¬ st.ns = [] := by intro h; simp [h] at hnl
      have g4 : ¬ st.ns.length = 0 := by omega
      go_wp2_with fail
      clear z0 g1 g2 g3 g4
      go_loopw [12] (fun i wr => ∃ k : Nat, i = .int .i64 k ∧ k ≤ rs.length ∧ Below (w6.heap.size + 1) (w6.alloc (.cells #[.slice A3 st.al.length C3, .slice (some ⟨nb, no, none⟩) st.ns.length nc, .slice A1 rs.length C1] 26)) wr) (fun i _ => rs.length - (intOf i).toNat)
      case atStart => exact ⟨0, rfl, Nat.zero_le _, Below.refl _ _⟩
      case round =>
        obtain ⟨k, rfl, hk, hb⟩ := hrel
        have y1 := box_cell hb 1 _ rfl
        have y2 := box_cell hb 2 _ rfl
        have hwr : w6.heap.size < wr.heap.size := by have := hb.size; simp at this; omega
        by_cases hkn : k < rs.length
        · obtain ⟨e, he⟩ : ∃ e, es[k]? = some e := ⟨_, List.getElem?_eq_getElem (by rw [HLE.out]; exact hkn)⟩
          have hp := SD.out.plan.kp (F' := fun b => base ≤ b) (Kp.of_below (box_below hb)) (fun _ _ h => h)
          have hen := hp.en
          rw [show (es.map fun (e : Nat) => (e : Int)).length = rs.length from hl2] at *
          obtain ⟨eb, eo, rfl, heb, heb2, cs, ⟨rfl, _⟩, hc⟩ := RSl.at hen (i := k) (x := (e : Int)) (by simp [he])
          have c0 := hc 0 _ rfl
          have c1 := HE.out e (List.mem_of_getElem? he)
          simp only [Nat.add_zero, Nat.mul_one] at c0
          have e1 : (0 : Int) ≤ (k : Int) := by omega
          have e2 : (k : Int) < (rs.length : Int) := by omega
          have e3 : ¬ (e : Int) < 0 := by omega
          have e4 : (e : Int) < (st.ns.length : Int) := by omega
          have e5 : ¬ (st.ns.length : Int) ≤ (e : Int) := by omega
          have HK := Lib.hid hkn
          have HB := Lib.hid hb
          clear hc he hp hen hkn hb c1
          go_wp2_with fail
          go_quiet (fail)
          go_wp2
          refine ⟨⟨_, _, _, _, _, _, _, _, _, _, _, _, _, _, _, _, _, _, _, _, _, _, _, _, _, _, _, _, ?_, rfl⟩, ?_⟩
          · exact ⟨k + 1, by go_num, HK.out, below_drewN HB.out _⟩
          · show rs.length - (intOf (.int .i64 ((k : Int) + 1))).toNat < rs.length - (intOf (.int .i64 (k : Int))).toNat
            simp [intOf]
            have := HK.out
            omega
        · obtain rfl : k = rs.length := by omega
          have HB := Lib.hid hb
          clear hb hkn
          have g0 : (1 : Int) ≤ (st.ns.length : Int) := by omega
          go_wp2_with fail
          clear y1 y2
          have WB := Lib.hid (And.intro HB.out hwr)
          clear HB
          obtain ⟨wo, rfl⟩ : ∃ wo : World, wo = wr := ⟨_, rfl⟩
          go_loopw [13] (fun i wr => ∃ k : Nat, i = .int .i64 k ∧ 1 ≤ k ∧ k ≤ st.ns.length ∧ Below (w6.heap.size + 1) (w6.alloc (.cells #[.slice A3 st.al.length C3, .slice (some ⟨nb, no, none⟩) st.ns.length nc, .slice A1 rs.length C1] 26)) wr) (fun i _ => st.ns.length - (intOf i).toNat)
          case atStart => exact ⟨1, rfl, Nat.le_refl _, hnl, WB.out.1⟩
          case round =>
            obtain ⟨k, rfl, hk1, hk, hb⟩ := hrel
            clear hwr
            have hml : st.ns.length ≤ 9223372036854775807 := Nat.le_trans SD.out.plan.ns.len (by unfold maxLen; decide)
            have y0 := box_cell hb 0 _ rfl
            have y1 := box_cell hb 1 _ rfl
            have y2 := box_cell hb 2 _ rfl
            have hwr : w6.heap.size < wr.heap.size := by have := hb.size; simp at this; omega
            by_cases hkn : k < st.ns.length
            · obtain ⟨n, hn⟩ : ∃ n, st.ns[k]? = some n := ⟨_, List.getElem?_eq_getElem hkn⟩
              obtain ⟨u, hu, hpar, hkind⟩ := HW.out.par k n hn hk1
              have hp := (SD.out.plan.kp (F' := fun b => base ≤ b) (Kp.of_below (box_below hb)) (fun _ _ h => h)).ns
              obtain ⟨nb', no', hA', hnb', hnb2', cs, ⟨lv, nv, hE⟩, hc⟩ := RSl.at hp hn
              simp only [Option.some.injEq, Addr.mk.injEq, and_true] at hA'
              obtain ⟨rfl, rfl⟩ := hA'
              have hcs := hE.cells
              subst hcs
              have c0 := hc 0 _ rfl
              have c1 := hc 1 _ rfl
              simp only [Nat.add_zero] at c0
              rw [hpar] at c1
              obtain ⟨q, hq⟩ : ∃ q, n.kind = q := ⟨_, rfl⟩
              rw [hq] at c0 hkind
              have e1 : (0 : Int) ≤ (k : Int) := by omega
              have e2 : (k : Int) < (st.ns.length : Int) := by omega
              have e3 : ¬ (u : Int) < 0 := by omega
              have e4 : (u : Int) < (k : Int) := by omega
              have e5 : ¬ (k : Int) ≤ (u : Int) := by omega
              have e6 : ¬ q = 0 := by omega
              have HK := Lib.hid hkn
              have HB := Lib.hid hb
              have HK1 := Lib.hid hk1
              clear hc hn hp hE hkn hb hk1 hkind hpar
              go_wp2_with fail
              exact ⟨⟨k + 1, by go_num, by omega, HK.out, HB.out⟩, by simp [intOf]; have := HK.out; omega⟩
            · obtain rfl : k = st.ns.length := by omega
              have hp := SD.out.plan.kp (F' := fun b => base ≤ b) (Kp.of_below (box_below hb)) (fun _ _ h => h)
              have hb9 := box_step HB7.out (wr' := wr) (by simpa using hb)
              have hrb : wr.heap[W.heap.size]? = some (.cells #[.slice none 0 0, .slice none 0 0, .slice none 0 0] 26 (0, 0)) := (hb9.block _ (by simp)).trans (heap_alloc_new W _)
              have f0 := rbox (j := 0) hrb rfl
              have f1 := rbox (j := 1) hrb rfl
              have f2 := rbox (j := 2) hrb rfl
              have fz : ∀ o, wr.frozen? ⟨W.heap.size, o, none⟩ = false := fun o => by simp [World.frozen?, hrb]
              have hrl := lt_of_heap hrb
              have HBS := Lib.hid (show W.heap.size < base by have := HB5.out.size; simp at this; omega)
              have ef := Lib.hid (heap_setCell_same _ _ 2 _ _ (.slice A1 rs.length C1) (heap_setCell_same _ _ 1 _ _ (.slice (some ⟨nb, no, none⟩) st.ns.length nc) (heap_setCell_same _ _ 0 _ _ (.slice A3 st.al.length C3) hrb)))
              have HP := Lib.hid hp
              have HB9 := Lib.hid (box_below hb9)
              have T : Hid (Turns [W.heap.size] wr (((wr.setCell ⟨W.heap.size, 0, none⟩ (.slice A3 st.al.length C3)).setCell ⟨W.heap.size, 1, none⟩ (.slice (some ⟨nb, no, none⟩) st.ns.length nc)).setCell ⟨W.heap.size, 2, none⟩ (.slice A1 rs.length C1))) :=
                Lib.hid ((((Turns.refl _ _).setCell (.inl (by simp)) _).setCell (.inl (by simp)) _).setCell (.inl (by simp)) _)
              clear hp hb9 hrb hb hkn hk1
              go_wp2
              refine bodyPost_ret (v := .tuple #[.agg #[.slice A3 st.al.length C3, .slice (some ⟨nb, no, none⟩) st.ns.length nc, .slice A1 rs.length C1], .bool true, .bool true]) (results_row_slot2 rfl _ _ W.heap.size 26 #[.slice A3 st.al.length C3, .slice (some ⟨nb, no, none⟩) st.ns.length nc, .slice A1 rs.length C1] (0, 0) _ _ _ rfl rfl rfl ef.out Tryd.underlying26 rfl sizePlan) rfl ?_
              refine ⟨((HB9.out.setCell (Nat.le_refl _) _).setCell (Nat.le_refl _) _).setCell (Nat.le_refl _) _, .inl ⟨HQ0.out, _, _, _, rfl, ?_⟩⟩
              rw [HST.out.1, HST.out.2]
              exact HP.out.kp (Kp.of_turns T.out (fun x hx => by simp only [List.mem_singleton] at hx; have := HBS.out; omega)) (fun b hb _ => Nat.lt_of_lt_of_le hb T.out.size)
end Go.Proofs.YtonkbjdeaneicaaDoor

namespace Go.Proofs.YtonkbjdeaneicaaDoor.Pln
open Classical
def parentOf (ns : List Nd) (e : Nat) : Nat := match ns[e]? with | some n => n.parent.toNat | none => 0
def wayG (ns : List Nd) : Nat → Nat → List Nat
  | 0, _ => []
  | f + 1, e => if e = 0 then [] else wayG ns f (parentOf ns e) ++ [e]
/-- The way to a node. -/
def wayN (ns : List Nd) (e : Nat) : List Nat := wayG ns e e
/-- Parents come ahead. -/
def Par (ns : List Nd) : Prop := ∀ (i : Nat) (n : Nd), ns[i]? = some n → 0 < i → ∃ u : Nat, u < i ∧ n.parent = u
end Go.Proofs.YtonkbjdeaneicaaDoor.Pln
namespace Go.Proofs.YtonkbjdeaneicaaDoor
open Go.RowKit Pln Classical Go.Maps

theorem wayG_up {ns : List Nd} (h : Par ns) (al : List Shp) : ∀ (f e : Nat), e ≤ f → e < ns.length → Up ⟨al, ns⟩ (wayG ns f e) ∧ (0 :: wayG ns f e).getD (wayG ns f e).length 0 = e ∧ (wayG ns f e).length ≤ e
  | 0, e, he, _ => by
    obtain rfl : e = 0 := by omega
    exact ⟨fun i u hu => by simp [wayG] at hu, rfl, Nat.le_refl _⟩
  | f + 1, e, he, hn => by
    by_cases h0 : e = 0
    · subst h0
      simp only [wayG, if_true]
      exact ⟨fun i u hu => by simp at hu, rfl, Nat.le_refl _⟩
    · obtain ⟨n, hne⟩ : ∃ n, ns[e]? = some n := ⟨_, List.getElem?_eq_getElem hn⟩
      obtain ⟨u, hu, hp⟩ := h e n hne (by omega)
      have hpo : parentOf ns e = u := by unfold parentOf; rw [hne]; simp only; omega
      simp only [wayG, if_neg h0, hpo]
      obtain ⟨i1, i2, i3⟩ := wayG_up h al f u (by omega) (by omega)
      refine ⟨fun i v hv => ?_, by simp [List.getD], by simp; omega⟩
      rcases Nat.lt_or_ge i (wayG ns f u).length with hlt | hge
      · rw [List.getElem?_append_left hlt] at hv
        obtain ⟨j1, j2, m, j3, j4⟩ := i1 i v hv
        have e1 : (0 :: (wayG ns f u ++ [e])).getD i 0 = (0 :: wayG ns f u).getD i 0 := by
          rw [List.getD_eq_getElem?_getD, List.getD_eq_getElem?_getD, ← List.cons_append, List.getElem?_append_left (by simp; omega)]
        rw [e1]
        exact ⟨j1, j2, m, j3, j4⟩
      · have hl := (List.getElem?_eq_some_iff.1 hv).1
        simp at hl
        obtain rfl : i = (wayG ns f u).length := by omega
        rw [List.getElem?_append_right (Nat.le_refl _), Nat.sub_self] at hv
        simp at hv
        subst hv
        have e1 : (0 :: (wayG ns f u ++ [e])).getD (wayG ns f u).length 0 = u := by
          rw [List.getD_eq_getElem?_getD, ← List.cons_append, List.getElem?_append_left (by simp), ← List.getD_eq_getElem?_getD]
          exact i2
        rw [e1]
        exact ⟨by omega, hu, n, hne, hp⟩
theorem wayN_up {ns : List Nd} (h : Par ns) (al : List Shp) {e : Nat} (he : e < ns.length) : Up ⟨al, ns⟩ (wayN ns e) ∧ (0 :: wayN ns e).getD (wayN ns e).length 0 = e ∧ (wayN ns e).length ≤ e := wayG_up h al e e (Nat.le_refl _) he

set_option maxRecDepth 200000 in
set_option maxHeartbeats 4000000 in
theorem reverse_nil (w : World) : Calls Tryd.prog 46 #[.slice none 0 0] w fun e w' => e = .returned (.tuple #[]) ∧ w' = w := by
  go_enter Tryd.func46, Tryd.ntmps46
  go_wp2
  go_loopw [2, 3] (fun iv jv wr => iv = .int .i64 0 ∧ jv = .int .i64 (-1) ∧ wr = w) (fun _ _ _ => 0)
  case atStart => exact ⟨rfl, rfl, rfl⟩
  case round =>
    obtain ⟨rfl, rfl, rfl⟩ := hrel
    go_wp2
    go_end0
    exact ⟨rfl, rfl⟩
/-- Reverse at any row of the call's own. -/
theorem reverseI (w : World) (base : Nat) (v : Value) (l : List Nat) (h : OwnI w base v l) (hl : l.length ≤ 1000000) :
    Calls Tryd.prog 46 #[v] w fun e w' => e = .returned (.tuple #[]) ∧ OwnI w' base v l.reverse ∧ Turns v.ownBlock.toList w w' := by
  rcases h.2 with ⟨rfl, h0⟩ | ⟨g, cap, cur, rfl, hg, hh, h1, h2, h3⟩
  · have hn := List.eq_nil_of_length_eq_zero h0
    subst hn
    refine (reverse_nil w).mono ?_
    rintro e w' ⟨rfl, rfl⟩
    exact ⟨rfl, h, Turns.refl _ _⟩
  · refine (reverseW w base g cap l h hl).mono ?_
    rintro e w' ⟨rfl, hO, hT⟩
    exact ⟨rfl, hO, by simpa [Value.ownBlock] using hT⟩

set_option maxRecDepth 200000 in
set_option maxHeartbeats 4000000 in
theorem wayW {F : Nat → Prop} (W : World) (av nv ev : Value) (al : List Shp) (ns : List Nd) (hN : RSl F W 11 (ENode F W) nv ns) (hP : Par ns) (k : Nat) (hk : k < ns.length) (hn : ns.length ≤ 1000000000) (hw : (wayN ns k).length ≤ 1000000) :
    Calls Tryd.prog 22 #[.agg #[av, nv, ev], .int .i64 (k : Int)] W fun e W' => ∃ v, e = .returned v ∧ OwnI W' (W.heap.size + 1) v (wayN ns k) ∧ Below W.heap.size W W' := by
  obtain ⟨hl, hlast, _⟩ := wayN_up hP al hk
  obtain ⟨l, hll⟩ : ∃ l, wayN ns k = l := ⟨_, rfl⟩
  rw [hll] at hl hlast hw ⊢
  clear hll
  obtain ⟨nb, no, C2, rfl, -, hnb, hat⟩ := RSl.base hN (by omega)
  have HN := Lib.hid hN
  have HL := Lib.hid hl
  have HK := Lib.hid hlast
  clear hl hlast hN hP hat
  go_enter Tryd.func22, Tryd.ntmps22
  go_wp2
  go_loopw [1, 5] (fun kv ov wr => ∃ (i : Nat) (v : Value), kv = .int .i64 (((0 :: l).getD i 0 : Nat) : Int) ∧ ov = v ∧ i ≤ l.length ∧ OwnI wr (W.heap.size + 1) v (l.drop i).reverse ∧
    Below (W.heap.size + 1) (W.alloc (.cells #[av, .slice (some ⟨nb, no, none⟩) ns.length C2, ev] 26)) wr) (fun kv _ _ => (intOf kv).toNat)
  case atStart => exact ⟨l.length, _, by rw [HK.out], rfl, Nat.le_refl _, by rw [List.drop_length]; exact World.ownsRow_nil _ _ _ _, Below.refl _ _⟩
  case round =>
    obtain ⟨i, v, rfl, rfl, hi, hO, hb⟩ := hrel
    match i, hi with
    | 0, _ =>
      have RV := Lib.hid (reverseI wr _ u5 _ hO (by simp; omega))
      have HO := Lib.hid hO
      have HB := Lib.hid hb
      clear hO hb
      simp only [List.getD_cons_zero]
      go_wp2_with fail
      refine RV.out.mono ?_
      rintro e w2 ⟨rfl, hO2, hT⟩
      rw [List.reverse_reverse, List.drop_zero] at hO2
      have HO2 := Lib.hid hO2
      have HB2 := Lib.hid ((box_below HB.out).trans (hT.below (box_below HB.out).size (fun x hx => by
        simp only [Option.mem_toList] at hx
        have := (ownBlock_cells HO.out hx).1
        omega)))
      clear hO2 hT RV
      go_wp2
      go_ret
      exact ⟨_, rfl, HO2.out, HB2.out⟩
    | j + 1, hi =>
      obtain ⟨u, hu⟩ : ∃ u, l[j]? = some u := ⟨_, List.getElem?_eq_getElem hi⟩
      obtain ⟨hu0, hlt, n, hn1, hpar⟩ := HL.out j u hu
      have hg : (0 :: l).getD (j + 1) 0 = u := by simp [List.getD, hu]
      obtain ⟨q, hq⟩ : ∃ q, (0 :: l).getD j 0 = q := ⟨_, rfl⟩
      rw [hq] at hpar hlt
      have hdrop : (l.drop (j + 1)).reverse ++ [u] = (l.drop j).reverse := by
        rw [List.drop_eq_getElem_cons hi]
        rw [List.getElem?_eq_getElem hi] at hu
        injection hu with hu
        rw [hu, List.reverse_cons]
      rw [hg]
      have hsz : W.heap.size + 1 ≤ wr.heap.size := by have := hb.size; simp at this; omega
      obtain ⟨nb', no', cs, hA', ⟨lv, mv, hE⟩, hc⟩ := HN.out.rd hn1
      simp only [Option.some.injEq, Addr.mk.injEq, and_true] at hA'
      obtain ⟨rfl, rfl⟩ := hA'
      have hcs := hE.cells
      subst hcs
      rw [hpar] at hc
      have O1 := Lib.hid (ownI_one (w := wr) (base := W.heap.size + 1) (k := u) hsz)
      have O2 := Lib.hid (hO.below ((Below.refl _ _).alloc (Nat.le_refl _) (.cells #[.int .i64 u] 3)))
      have HR := Lib.hid (And.intro hdrop (And.intro hq (And.intro hi hlt)))
      have hul : u < ns.length := (List.getElem?_eq_some_iff.1 hn1).1
      have HB := Lib.hid hb
      have HC := Lib.hid (fun w' hw' => hc w' hw' 1 _ rfl)
      have STEP := Lib.hid (show ∀ w', (wr.alloc (.cells #[.int .i64 (u : Int)] 3)).grownBy w' u5.ownBlock → Below (W.heap.size + 1) (W.alloc (.cells #[av, .slice (some ⟨nb, no, none⟩) ns.length C2, ev] 26)) w' from fun w' hgr =>
        HB.out.trans (((Turns.alloc (Turns.refl _ wr) (.cells #[.int .i64 (u : Int)] 3)).trans (Turns.of_grown hgr) (fun x hx => .inl hx)).below (by omega) (fun x hx => by
          simp only [Option.mem_toList] at hx
          exact (ownBlock_cells hO hx).1)))
      have e1 : (0 : Int) < (u : Int) := by omega
      have e2 : (0 : Int) ≤ (u : Int) := by omega
      have e3 : (u : Int) < (ns.length : Int) := by omega
      have hsz2 : W.heap.size + 1 ≤ (wr.alloc (.cells #[.int .i64 (u : Int)] 3)).heap.size := by simp; omega
      clear hO hb hu hlt hn1 hpar hg hq hdrop hc hE
      go_wp2_with (at_builtin; refine wpList_append_I rfl (.tmp 8) (.tmp 10) rfl (W.heap.size + 1) (W.heap.size + 1) _ _ (l.drop (j + 1)).reverse [u] rfl O2.out rfl O1.out (by simp; omega) hsz2 ?_; intro v' w' hw1 hw2; have HB2 := Lib.hid (STEP.out w' hw2); have HO2 := Lib.hid hw1; have d3 := box_cellL HB2.out 1 rfl; have d4 := HC.out w' (box_below HB2.out); clear hw1 hw2)
      rw [HR.out.1] at HO2
      refine ⟨⟨j, v', by rw [HR.out.2.1], rfl, by have := HR.out.2.2.1; omega, HO2.out, HB2.out⟩, by have := HR.out.2.2.2; simp [intOf]; omega⟩
end Go.Proofs.YtonkbjdeaneicaaDoor

namespace Go.Proofs.YtonkbjdeaneicaaDoor.Pln
open Classical

/-- How deep the first nodes lie. -/
def depS (ns : List Nd) : Nat → List Nat
  | 0 => []
  | k + 1 => depS ns k ++ [if k = 0 then 0 else (depS ns k).getD (parentOf ns k) 0 + 1]
theorem depS_len (ns : List Nd) : ∀ k, (depS ns k).length = k
  | 0 => rfl
  | k + 1 => by simp [depS, depS_len ns k]
def depOf (ns : List Nd) (i : Nat) : Nat := (depS ns (i + 1)).getD i 0
theorem depS_at (ns : List Nd) (j : Nat) : ∀ d, (depS ns (j + 1 + d))[j]? = some (depOf ns j)
  | 0 => by
    unfold depOf
    have h : j < (depS ns (j + 1)).length := by rw [depS_len]; omega
    rw [List.getD_eq_getElem?_getD, List.getElem?_eq_getElem h]; rfl
  | d + 1 => by
    rw [← Nat.add_assoc]
    have := depS_at ns j d
    rw [depS, List.getElem?_append_left (by rw [depS_len]; omega)]
    exact this
theorem depOf_zero (ns : List Nd) : depOf ns 0 = 0 := rfl
theorem depOf_next {ns : List Nd} {i u : Nat} (h : parentOf ns i = u) (hu : u < i) : depOf ns i = depOf ns u + 1 := by
  have h1 := depS_at ns i 0
  have h2 := depS_at ns u (i - (u + 1))
  rw [show u + 1 + (i - (u + 1)) = i by omega] at h2
  rw [Nat.add_zero, depS, List.getElem?_append_right (by rw [depS_len]; exact Nat.le_refl _), depS_len, Nat.sub_self, if_neg (by omega), h] at h1
  simp only [List.getElem?_cons_zero, Option.some.injEq] at h1
  rw [← h1, List.getD_eq_getElem?_getD, h2]
  rfl
def nodeAt (al : List Shp) (ns : List Nd) (i : Nat) : Prop := ∀ n, ns[i]? = some n → ∃ (u : Nat) (up : Nd), n.parent = u ∧ u < i ∧ ns[u]? = some up ∧ depOf ns i ≤ 16 ∧ nodeP al n up ∧ ∀ k, 1 ≤ k → k < i → ns[k]? ≠ some n
def nodesP (al : List Shp) (ns : List Nd) : Prop := ns[0]? = some rootN ∧ ∀ i, 1 ≤ i → i < ns.length → nodeAt al ns i

theorem need_alpha {m : Nat} : ∀ (ns : List Nd) (q q' : Nat), ns.foldl (needF m) (some q) = some q' → ∀ n ∈ ns, n.kind = 1 ∨ n.kind = 3 → 0 ≤ n.alpha ∧ n.alpha < (m : Int)
  | [], _, _, _, n, hn, _ => by cases hn
  | a :: r, q, q', h, n, hn, hk => by
    rw [List.foldl_cons] at h
    cases hx : needF m (some q) a with
    | none => rw [hx, needs_none] at h; cases h
    | some b =>
      rw [hx] at h
      rcases List.mem_cons.1 hn with rfl | hn
      · unfold needF at hx
        simp only at hx
        rw [if_pos hk] at hx
        split at hx
        · rename_i hc
          exact ⟨hc.1, hc.2.2⟩
        · cases hx
      · exact need_alpha r b q' h n hn hk
/-- Out of the shapes: what a node's shape is. -/
theorem shapes_at {al : List Shp} {ns : List Nd} (h : shapesP al ns) {n : Nd} (hn : n ∈ ns) (hk : n.kind = 1 ∨ n.kind = 3) : ∃ (ai : Nat) (s : Shp), n.alpha = ai ∧ al[ai]? = some s ∧ s.cells.length ≤ 8 := by
  obtain ⟨h1, h2⟩ := need_alpha ns 0 _ h.2 n hn hk
  obtain ⟨ai, hai⟩ : ∃ ai : Nat, n.alpha = ai := ⟨n.alpha.toNat, by omega⟩
  have hl : ai < al.length := by omega
  exact ⟨ai, al[ai], hai, List.getElem?_eq_getElem hl, (h.1 ai hl _ (List.getElem?_eq_getElem hl)).2.1⟩
theorem nodeP_lens {al : List Shp} {n up : Nd} (h : nodeP al n up) (hs : n.kind = 1 ∨ n.kind = 3 → ∃ (ai : Nat) (s : Shp), n.alpha = ai ∧ al[ai]? = some s ∧ s.cells.length ≤ 8) : n.links.length ≤ 8 ∧ n.new.length ≤ 8 := by
  have key : placesN al n up.width → (n.kind = 1 ∨ n.kind = 3) → n.links.length ≤ 8 ∧ n.new.length ≤ 8 := by
    intro hp hk
    obtain ⟨ai, s, h1, h2, h3⟩ := hs hk
    rw [placesN_iff h1 h2] at hp
    have := links_len hp.2.1
    have := new_len hp.2.2.1
    omega
  rcases h with ⟨h1, _, h2⟩ | ⟨h1, _, h2⟩ | ⟨_, h2⟩
  · exact key h2 (.inl h1)
  · exact key h2 (.inr h1)
  · rw [h2.2.2.1, h2.2.2.2.1]; simp
theorem nodeP_width {al : List Shp} {n up : Nd} {w : Nat} (h : nodeP al n up) (hw : up.width = (w : Int)) (h16 : w ≤ 16) : ∃ w' : Nat, w' ≤ 16 ∧ n.width = (w' : Int) := by
  have key : placesN al n up.width → ∃ w' : Nat, w' ≤ 16 ∧ n.width = (w' : Int) := by
    rintro ⟨ai, s, _, _, hp⟩
    obtain ⟨⟨_, h1, h2⟩, _⟩ := hp
    exact ⟨w + n.new.length, by omega, by omega⟩
  rcases h with ⟨_, _, h2⟩ | ⟨_, _, h2⟩ | ⟨_, h2⟩
  · exact key h2
  · exact key h2
  · exact ⟨w, h16, by rw [h2.2.2.2.2.1, hw]⟩
end Go.Proofs.YtonkbjdeaneicaaDoor.Pln
namespace Go.Proofs.YtonkbjdeaneicaaDoor
open Go.RowKit Pln Classical Go.Maps

theorem RSl.mem {α : Type} {F : Nat → Prop} {w : World} {sz : Nat} {E : List Value → α → Prop} {v : Value} {xs : List α} (h : RSl F w sz E v xs) {x : α} (hx : x ∈ xs) : ∃ cs, E cs x := by
  obtain ⟨A, c, rfl⟩ := h.form
  obtain ⟨i, hi, rfl⟩ := List.getElem_of_mem hx
  obtain ⟨_, _, _, _, _, cs, hE, _⟩ := RSl.at h (List.getElem?_eq_getElem hi)
  exact ⟨cs, hE⟩
theorem ndOk_of {F : Nat → Prop} {w : World} {cs : List Value} {n : Nd} {lv mv : Value} (h : ENd F w cs n lv mv) (h1 : n.links.length ≤ 8) (h2 : n.new.length ≤ 8) : NdOk n :=
  ⟨h.ok, fun l hl => by obtain ⟨_, _, a, b⟩ := h.links.mem hl; exact ⟨a, b⟩, fun x hx => by obtain ⟨_, _, a⟩ := h.new.mem hx; exact a, h1, h2⟩
/-- What has been seen. -/
def Seen (ns : List Nd) (i : Nat) (f : Value → Option Int) : Prop := ∀ n, NdOk n → (f (.agg (askA n)) ≠ none ↔ ∃ k, 1 ≤ k ∧ k < i ∧ ns[k]? = some n)
theorem seen_start (ns : List Nd) : Seen ns 1 (fun _ => none) := fun n _ => ⟨fun h => absurd rfl h, fun ⟨k, h1, h2, _⟩ => by omega⟩
theorem Seen.next {ns : List Nd} {i : Nat} {f : Value → Option Int} (h : Seen ns i f) (hi : 1 ≤ i) {n : Nd} (hn : ns[i]? = some n) (ok : NdOk n) (z : Int) : Seen ns (i + 1) (putG f (.agg (askA n)) z) := by
  intro m hm
  unfold putG
  by_cases e : m = n
  · subst e
    rw [if_pos rfl]
    exact ⟨fun _ => ⟨i, hi, by omega, hn⟩, fun _ => by simp⟩
  · rw [if_neg (fun he => e (agg_inj he hm.l8 hm.n8)), h m hm]
    constructor
    · rintro ⟨k, h1, h2, h3⟩
      exact ⟨k, h1, by omega, h3⟩
    · rintro ⟨k, h1, h2, h3⟩
      by_cases hk : k = i
      · subst hk
        rw [hn] at h3
        exact absurd (Option.some.inj h3).symm e
      · exact ⟨k, h1, by omega, h3⟩
def dpV (ns : List Nd) (i : Nat) : List Value := ((depS ns i ++ List.replicate (ns.length - i) 0).map fun (d : Nat) => Value.int .i64 (d : Int))
theorem dpV_len (ns : List Nd) {i : Nat} (h : i ≤ ns.length) : (dpV ns i).length = ns.length := by simp [dpV, depS_len]; omega
theorem dpV_at (ns : List Nd) {u i : Nat} (hu : u < i) : (dpV ns i)[u]? = some (.int .i64 (depOf ns u : Int)) := by
  unfold dpV
  have h2 := depS_at ns u (i - (u + 1))
  rw [show u + 1 + (i - (u + 1)) = i by omega] at h2
  rw [List.getElem?_map, List.getElem?_append_left (by rw [depS_len]; exact hu), h2]
  rfl
theorem dpV_next (ns : List Nd) {i : Nat} (h : i < ns.length) : dpV ns (i + 1) = (dpV ns i).set i (.int .i64 (depOf ns i : Int)) := by
  apply List.ext_getElem?
  intro q
  by_cases e : i = q
  · subst e
    rw [List.getElem?_set_self (by rw [dpV_len ns (by omega)]; exact h), dpV_at ns (by omega)]
  · rw [List.getElem?_set_ne e]
    rcases Nat.lt_or_ge q i with h1 | h1
    · rw [dpV_at ns h1, dpV_at ns (by omega)]
    · unfold dpV
      rw [List.getElem?_map, List.getElem?_map, List.getElem?_append_right (by rw [depS_len]; omega), List.getElem?_append_right (by rw [depS_len]; omega), depS_len, depS_len]
      by_cases hq : q < ns.length
      · rw [List.getElem?_replicate, if_pos (by omega), List.getElem?_replicate, if_pos (by omega)]
      · rw [List.getElem?_eq_none (by simp; omega), List.getElem?_eq_none (by simp; omega)]
structure NRS (W : World) (D mb : Nat) (pl : Array Value) (ns : List Nd) (i : Nat) (wr : World) : Prop where
  below : Below (W.heap.size + 1) (W.alloc (.cells pl 26)) wr
  dep : Arr wr D 3 (dpV ns i)
  map : ∃ f, MapG Tryd.prog 110 3 wr mb i f ∧ Seen ns i f
theorem MapG.step {P : Program} {k e : TypeId} {w w' : World} {b N : Nat} {f : Value → Option Int} (h : MapG P k e w b N f) (hb : Below w.heap.size w w') : MapG P k e w' b N f := h.of_block (hb.block b h.lt)
theorem NRS.step {W : World} {D mb : Nat} {pl : Array Value} {ns : List Nd} {i : Nat} {wr wr' : World} (h : NRS W D mb pl ns i wr) (hb : Below wr.heap.size wr wr') : NRS W D mb pl ns i wr' := by
  obtain ⟨f, h1, h2⟩ := h.map
  exact ⟨box_step h.below hb, h.dep.step hb, f, h1.step hb, h2⟩
theorem Arr.far {w : World} {D mb N : Nat} {e k e' : TypeId} {xs : List Value} {P : Program} {f : Value → Option Int} (h : Arr w D e xs) (hm : MapG P k e' w mb N f) : D ≠ mb := by
  rintro rfl
  obtain ⟨_, _, cur, hc⟩ := ownBlock_cells h (b := D) rfl
  obtain ⟨es, c, ho⟩ := hm.obj
  rw [hc] at ho
  cases ho
/-- Behind a round: the depth is stored; the key, too. -/
theorem NRS.put {W : World} {D mb : Nat} {pl : Array Value} {ns : List Nd} {i : Nat} {wr : World} (h : NRS W D mb pl ns i wr) (hD : W.heap.size + 1 ≤ D) (hi : i < ns.length) :
    ∃ f, Below (W.heap.size + 1) (W.alloc (.cells pl 26)) (wr.setCell ⟨D, i, none⟩ (.int .i64 (depOf ns i : Int))) ∧ Arr (wr.setCell ⟨D, i, none⟩ (.int .i64 (depOf ns i : Int))) D 3 (dpV ns (i + 1)) ∧
      MapG Tryd.prog 110 3 (wr.setCell ⟨D, i, none⟩ (.int .i64 (depOf ns i : Int))) mb i f ∧ Seen ns i f ∧ Turns [D] wr (wr.setCell ⟨D, i, none⟩ (.int .i64 (depOf ns i : Int))) := by
  obtain ⟨f, h1, h2⟩ := h.map
  obtain ⟨p1, p2⟩ := h.dep.put i (.int .i64 (depOf ns i : Int))
  rw [← dpV_next ns hi] at p1
  have hs := h.below.size
  simp at hs
  exact ⟨f, h.below.trans (p2.below (by omega) (fun x hx => by rw [List.mem_singleton.1 hx]; exact hD)), p1, h1.of_block (p2.block mb h1.lt (by simpa using (h.dep.far h1).symm)), h2, p2⟩
end Go.Proofs.YtonkbjdeaneicaaDoor
