/- `made`: the law's compilation, looked through before it is used. -/
import Derived.Test.YtonkbjdeaneicaaCompile
namespace Go.Proofs.Ytonkbjdeaneicaa
open Go.RowKit Pln Classical Go.Maps

section
variable {α : Type} {F : Nat → Prop} {w : World} {sz : Nat} {E : List Value → α → Prop} {xs : List α}
/-- Every element out of one block. -/
theorem RSl.base {v : Value} (h : RSl F w sz E v xs) (h0 : 0 < xs.length) :
    ∃ b off c, v = .slice (some ⟨b, off, none⟩) xs.length c ∧ F b ∧ b < w.heap.size ∧ ∀ i x, xs[i]? = some x → ∃ cs, E cs x ∧ CsIn w b (off + i * sz) cs := by
  obtain ⟨A', c', h1, h2, h3, _, h4⟩ := h
  rcases h4 with rfl | ⟨b, off, hA, hf, hb, hc⟩
  · simp at h0
  · exact ⟨b, off, c', by rw [h1, hA], hf, hb, hc⟩
end
/-- A plan that is read. -/
structure RPlan (F : Nat → Prop) (W : World) (av nv ev : Value) (st : St) (es : List Nat) : Prop where
  al : RSl F W 2 (cdShp.E F W) av st.al
  ns : RSl F W 11 (cdNd.E F W) nv st.ns
  en : RSl F W 1 (cdInt.E F W) ev (es.map fun (e : Nat) => (e : Int))
theorem RPlan.kp {F F' : Nat → Prop} {W W' : World} {av nv ev : Value} {st : St} {es : List Nat} (h : RPlan F W av nv ev st es) (hk : Kp F W W') (hF : ∀ b, b < W.heap.size → F b → F' b) : RPlan F' W' av nv ev st es :=
  ⟨RSl.kp h.al hk hF (fun _ _ h => cdShp.kp _ _ _ _ _ _ h hk hF), RSl.kp h.ns hk hF (fun _ _ h => cdNd.kp _ _ _ _ _ _ h hk hF), RSl.kp h.en hk hF (fun _ _ h => cdInt.kp _ _ _ _ _ _ h hk hF)⟩
theorem RPlan.below {W W' : World} {av nv ev : Value} {st : St} {es : List Nat} (h : RPlan (fun b => b < W.heap.size) W av nv ev st es) (hb : Below W.heap.size W W') : RPlan (fun b => b < W'.heap.size) W' av nv ev st es :=
  h.kp (Kp.of_below hb) (fun b h _ => by have := hb.size; omega)
theorem MkAt.plan {base g mb : Nat} {W : World} {av nv ev : Value} {st : St} {es : List Nat} (h : MkAt base g mb W av nv ev st es) : RPlan (fun b => b < W.heap.size) W av nv ev st es :=
  ⟨RSl.kp (h.al.rsl (G := fun b => b < W.heap.size) (fun _b hb => (h.al.block hb).2.1)) (Kp.refl _ _) (fun _ _ h => h) (fun _ _ h => cdShp.kp _ _ _ _ _ _ h (Kp.refl _ _) (fun _b hb _ => hb)),
    RSl.kp (h.ns.rsl (G := fun b => b < W.heap.size) (fun _b hb => (h.ns.block hb).2.1)) (Kp.refl _ _) (fun _ _ h => h) (fun _ _ h => cdNd.kp _ _ _ _ _ _ h (Kp.refl _ _) (fun _b hb _ => hb)),
    RSl.kp (h.en.rsl (G := fun b => b < W.heap.size) (fun _b hb => (h.en.block hb).2.1)) (Kp.refl _ _) (fun _ _ h => h) (fun _ _ h => cdInt.kp _ _ _ _ _ _ h (Kp.refl _ _) (fun _b hb _ => hb))⟩

/-- What `made` leaves. -/
def MadeRes (rs : List Rl) (W : World) (e : Ending) (W' : World) : Prop :=
  Below W.heap.size W W' ∧ (((∀ r ∈ rs, mayP r) ∧ ∃ av nv ev, e = .returned (.tuple #[.agg #[av, nv, ev], .bool true, .bool true]) ∧ RPlan (fun b => b < W'.heap.size) W' av nv ev (compF rs).1 (compF rs).2) ∨
    ((∃ r ∈ rs, ¬ mayP r) ∧ e = .returned (.tuple #[.agg #[.slice none 0 0, .slice none 0 0, .slice none 0 0], .bool false, .bool true])))
theorem made_no {rs : List Rl} {W W' : World} (hb : Below W.heap.size W W') (h : ∃ r ∈ rs, ¬ mayP r) : MadeRes rs W (.returned (.tuple #[.agg #[.slice none 0 0, .slice none 0 0, .slice none 0 0], .bool false, .bool true])) W' :=
  ⟨hb, .inr ⟨h, rfl⟩⟩
theorem results_row_slot2 {P : Program} {fn : Func} {p q q' : Tmp} {ty : TypeId} (h : fn.results = #[.cell p ty, .tmp q, .tmp q']) (tmps : Array Value) (w : World) (g : Nat) (t : TypeId) (cs : Array Value) (fr : Nat × Nat) (d : TypeDesc) (v v' : Value)
    (hp : tmps.getD p undef = .pointer (some ⟨g, 0, none⟩)) (hq : tmps.getD q undef = v) (hq' : tmps.getD q' undef = v') (hg : w.heap[g]? = some (.cells cs t fr))
    (hu : P.underlying ty = some d) (hd : (match d with | .struct _ | .array _ _ => true | _ => false) = true) (hi : (P.info? ty).map (·.size) = some cs.size) :
    (results fn tmps).run P w = .ok (.tuple #[.agg cs, v, v']) w := by
  have hp' : tmps[p]?.getD undef = .pointer (some ⟨g, 0, none⟩) := by simpa using hp
  have h1 : tmps[q]?.getD undef = v := by simpa using hq
  have h2 : tmps[q']?.getD undef = v' := by simpa using hq'
  simp [results, h, hp', h1, h2, asAddr, run_loadVar_row w g t ty cs fr d hg hu hd hi]

/-- rulesOf and then Compile. -/
theorem bothW (rs : List Rl) (W W1 W2 : World) (v' : Value) (hS : rs.length ≤ 1048576 ∧ ∀ r ∈ rs, rlSm 1048576 r) (h : OwnL W.heap.size W1 39 cdRl v' rs) (hb : Below W1.heap.size W1 W2) :
    Calls Try.prog 10 #[v'] W2 (CompRes rs W2) := by
  have h2 : RRules (fun b => b < W2.heap.size) W2 v' rs := (h.below hb).rsl' (F := fun b => b < W2.heap.size) (fun b _ h => h)
  exact compileW v' rs W2 h2 hS

theorem MkAt.plan2 {base g mb : Nat} {W : World} {av nv ev : Value} {st : St} {es : List Nat} (h : MkAt base g mb W av nv ev st es) : RPlan (fun b => base ≤ b) W av nv ev st es :=
  ⟨RSl.kp (h.al.rsl (G := fun b => base ≤ b) (fun _b hb => (h.al.block hb).1)) (Kp.refl _ _) (fun _ _ h => h) (fun _ _ h => cdShp.kp _ _ _ _ _ _ h (Kp.refl _ _) (fun _b _ hb => hb.1)),
    RSl.kp (h.ns.rsl (G := fun b => base ≤ b) (fun _b hb => (h.ns.block hb).1)) (Kp.refl _ _) (fun _ _ h => h) (fun _ _ h => cdNd.kp _ _ _ _ _ _ h (Kp.refl _ _) (fun _b _ hb => hb.1)),
    RSl.kp (h.en.rsl (G := fun b => base ≤ b) (fun _b hb => (h.en.block hb).1)) (Kp.refl _ _) (fun _ _ h => h) (fun _ _ h => cdInt.kp _ _ _ _ _ _ h (Kp.refl _ _) (fun _b _ hb => hb.1))⟩
/-- What the loops find. -/
structure Sound (base : Nat) (W : World) (av nv ev : Value) (st : St) (es : List Nat) (n : Nat) : Prop where
  plan : RPlan (fun b => base ≤ b) W av nv ev st es
  wf : Wf st
  len : es.length = n
  ends : ∀ e ∈ es, e < st.ns.length
theorem sound_of {base : Nat} {rs : List Rl} {W : World} {av nv ev : Value} (h : RPlan (fun b => base ≤ b) W av nv ev (compF rs).1 (compF rs).2) : Sound base W av nv ev (compF rs).1 (compF rs).2 rs.length := by
  have hm := made_comp rs
  refine ⟨h, hm.wf, hm.len, fun e he => ?_⟩
  obtain ⟨i, hi, rfl⟩ := List.getElem_of_mem he
  obtain ⟨r, hr⟩ : ∃ r, rs[i]? = some r := ⟨_, List.getElem?_eq_getElem (by rw [← hm.len]; exact hi)⟩
  obtain ⟨_, e', h1, _, h2⟩ := hm.ways i r hr
  rw [List.getElem?_eq_getElem hi] at h1
  injection h1 with h1
  omega

set_option maxRecDepth 200000 in
set_option maxHeartbeats 8000000 in
theorem madeW {F : Nat → Prop} (v : Value) (rs : List Rl) (W : World) (h : RRules F W v rs) (hS : rs.length ≤ 1048576 ∧ ∀ r ∈ rs, rlSm 1048576 r) :
    Calls Try.prog 15 #[v] W (MadeRes rs W) := by
  obtain ⟨A, c, rfl⟩ := h.form
  have hm := hS.1
  have H := Lib.hid (RRules.kp (F' := fun b => b < W.heap.size) h (Kp.refl _ _) (fun b hb _ => hb))
  have SM := Lib.hid hS
  clear h hS
  go_enter Try.func15, Try.ntmps15
  go_wp2
  go_loopw [5] (fun i wr => ∃ k : Nat, i = .int .i64 k ∧ k ≤ rs.length ∧ (∀ r ∈ rs.take k, mayP r) ∧ Below (W.heap.size + 1) (W.alloc (.cells #[.slice none 0 0, .slice none 0 0, .slice none 0 0] 27)) wr) (fun i _ => rs.length - (intOf i).toNat)
  case atStart => exact ⟨0, rfl, Nat.zero_le _, by simp, Below.refl _ _⟩
  case round =>
    obtain ⟨k, rfl, hk, hq, hb⟩ := hrel
    have bw := box_below hb
    have hwz : W.heap.size < wr.heap.size := by have := hb.size; simp at this; omega
    by_cases hkn : k < rs.length
    · obtain ⟨r, hr⟩ : ∃ r, rs[k]? = some r := ⟨_, List.getElem?_eq_getElem hkn⟩
      obtain ⟨b, off, rfl, hFb, hbs, cs, ⟨hv, pv, tv, nv, vv, hE⟩, hc⟩ := (RRules.kp H.out (Kp.of_below bw) (fun _ _ h => h)).at hr
      have hcs := hE.cells
      subst hcs
      have c0 := hc 0 _ rfl
      have c1 := hc 1 _ rfl
      have c2 := hc 2 _ rfl
      have c3 := hc 3 _ rfl
      have c4 := hc 4 _ rfl
      have c5 := hc 5 _ rfl
      have c6 := hc 6 _ rfl
      simp only [Nat.add_zero] at c0
      have hsm := SM.out.2 r (List.mem_of_getElem? hr)
      have CY := Lib.hid (widthW r wr hE hsm)
      obtain ⟨Ah, ch, rfl⟩ := hE.head.form
      obtain ⟨Ap, cp, rfl⟩ := hE.pos.form
      obtain ⟨At, ct, rfl⟩ := hE.tests.form
      obtain ⟨An, cn, rfl⟩ := hE.neg.form
      obtain ⟨Av, cv, rfl⟩ := hE.vars.form
      have e1 : (0 : Int) ≤ (k : Int) := by omega
      have e2 : (k : Int) < (rs.length : Int) := by omega
      have HR := Lib.hid hr
      have HK := Lib.hid hkn
      have HQ := Lib.hid hq
      have HB := Lib.hid hb
      clear hc hr hkn hq hE hsm
      by_cases hmp : mayP r
      · have HM := Lib.hid (mayB_true hmp)
        have HQ2 := Lib.hid (take_all HQ.out HR.out hmp)
        clear hmp bw hb
        go_wp2_with fail
        refine CY.out.mono ?_
        rintro e w2 ⟨n, he, hb2⟩
        rw [HM.out] at he
        subst he
        have HB2 := Lib.hid (box_step HB.out hb2)
        clear hb2
        go_wp2
        exact ⟨⟨k + 1, by go_num, HK.out, HQ2.out, HB2.out⟩, by simp [intOf]; have := HK.out; omega⟩
      · have HM := Lib.hid (mayB_false hmp)
        have HF := Lib.hid (show ∃ r ∈ rs, ¬ mayP r from ⟨r, List.mem_of_getElem? HR.out, hmp⟩)
        clear hmp bw hb
        go_wp2_with fail
        refine CY.out.mono ?_
        rintro e w2 ⟨n, he, hb2⟩
        rw [HM.out] at he
        subst he
        have hb3 := box_step HB.out hb2
        have HB3 := Lib.hid hb3
        clear hb2 hb3
        go_wp2_with fail
        refine (rulesOfW _ rs w2 (RRules.kp H.out (Kp.of_below (box_below HB3.out)) (fun _ _ h => h)) SM.out).mono ?_
        rintro e w4 ⟨v', rfl, hO, hb4⟩
        have hb5 := box_step HB3.out hb4
        have HB5 := Lib.hid hb5
        have HO := Lib.hid hO
        clear hb4 hb5 hO
        go_wp2_with fail
        refine (bothW rs w2 w4 w4 v' SM.out HO.out (Below.refl _ _)).mono ?_
        rintro e w6 ⟨hb6, hres⟩
        rcases hres with ⟨hall, _⟩ | ⟨_, rfl⟩
        · exact absurd hall (fun hall => by obtain ⟨r, hr, hn⟩ := HF.out; exact hn (hall r hr))
        have hb7 := box_step HB5.out (hb6.trans ((Below.refl _ _).alloc hb6.size (.cells #[.slice none 0 0, .slice none 0 0, .slice none 0 0] 27)))
        have eb : (w6.alloc (.cells #[.slice none 0 0, .slice none 0 0, .slice none 0 0] 27)).heap[W.heap.size]? = some (.cells #[.slice none 0 0, .slice none 0 0, .slice none 0 0] 27 (0, 0)) := (hb7.block _ (by simp)).trans (heap_alloc_new W _)
        have f0 := cell_of_row _ _ 0 _ _ _ eb
        have f1 := cell_of_row _ _ 1 _ _ _ eb
        have f2 := cell_of_row _ _ 2 _ _ _ eb
        simp only [List.getElem?_toArray, List.getElem?_cons_zero, List.getElem?_cons_succ] at f0 f1 f2
        have fz : ∀ o, (w6.alloc (.cells #[.slice none 0 0, .slice none 0 0, .slice none 0 0] 27)).frozen? ⟨W.heap.size, o, none⟩ = false := fun o => by simp [World.frozen?, eb]
        have ef := Lib.hid (heap_setCell_same _ _ 2 _ _ (.slice none 0 0) (heap_setCell_same _ _ 1 _ _ (.slice none 0 0) (heap_setCell_same _ _ 0 _ _ (.slice none 0 0) eb)))
        have HB7 := Lib.hid (box_below hb7)
        clear hb6 hb7 eb
        go_wp2
        exact bodyPost_ret (v := .tuple #[.agg #[.slice none 0 0, .slice none 0 0, .slice none 0 0], .bool false, .bool true]) (results_row_slot2 rfl _ _ W.heap.size 27 #[.slice none 0 0, .slice none 0 0, .slice none 0 0] (0, 0) _ _ _ rfl rfl rfl ef.out Try.underlying27 rfl sizePlan) rfl
          (made_no (((HB7.out.setCell (Nat.le_refl _) _).setCell (Nat.le_refl _) _).setCell (Nat.le_refl _) _) HF.out)
    · obtain rfl : k = rs.length := by omega
      rw [List.take_length] at hq
      have HQ := Lib.hid hq
      have HQ0 := Lib.hid hq
      have HB := Lib.hid hb
      clear hq hb bw hkn
      go_wp2_with fail
      refine (rulesOfW _ rs wr (RRules.kp H.out (Kp.of_below (box_below HB.out)) (fun _ _ h => h)) SM.out).mono ?_
      rintro e w4 ⟨v', rfl, hO, hb4⟩
      have hb5 := box_step HB.out hb4
      have HB5 := Lib.hid hb5
      have HO := Lib.hid hO
      clear hb4 hb5 hO
      go_wp2_with fail
      refine (bothW rs wr w4 w4 v' SM.out HO.out (Below.refl _ _)).mono ?_
      rintro e w6 ⟨hb6, hres⟩
      rcases hres with ⟨_, av, nv, ev, base, g, mb, hbase, rfl, hMk⟩ | ⟨hex, _⟩
      rotate_left
      · exact absurd hex (fun ⟨r, hr, hn⟩ => hn (HQ.out r hr))
      have hb7 := box_step HB5.out (hb6.trans ((Below.refl _ _).alloc hb6.size (.cells #[av, nv, ev] 27)))
      have SD := Lib.hid (sound_of hMk.plan2)
      have hw6 : W.heap.size < w6.heap.size := by have := HB5.out.size; have := hb6.size; simp at *; omega
      clear hMk
      obtain ⟨st, hst⟩ : ∃ st, (compF rs).1 = st := ⟨_, rfl⟩
      obtain ⟨es, hes⟩ : ∃ es, (compF rs).2 = es := ⟨_, rfl⟩
      rw [hst, hes] at SD
      have HST := Lib.hid (And.intro hst hes)
      obtain ⟨hP, hwf, hlen, hends⟩ := SD.out
      have hnl := hwf.len
      obtain ⟨nb, no, nc, rfl, _, hnb, hnc⟩ := RSl.base hP.ns hnl
      obtain ⟨A1, C1, rfl⟩ := hP.en.form
      obtain ⟨A3, C3, rfl⟩ := hP.al.form
      obtain ⟨cs0, ⟨l0, w0, hr0⟩, hc0⟩ := hnc 0 _ hwf.root
      have hcs0 := hr0.cells
      subst hcs0
      have z0 := (World.cell?_of_block (a := ⟨nb, no, none⟩) (Below.heap_alloc w6 (.cells #[.slice A3 st.al.length C3, .slice (some ⟨nb, no, none⟩) st.ns.length nc, .slice A1 (es.map fun (e : Nat) => (e : Int)).length C1] 27) nb hnb)).trans (by simpa using hc0 0 _ rfl)
      have HB7 := Lib.hid hb7
      have HQ2 := Lib.hid hnc
      have HE := Lib.hid hends
      have HW := Lib.hid hwf
      have hl2 : (es.map fun (e : Nat) => (e : Int)).length = rs.length := by simp [hlen]
      simp only [hl2] at z0 HB7 SD ⊢
      have HLE := Lib.hid hlen
      clear hb6 hb7 hst hes hP hwf hlen hends hnc hr0 hc0 HQ
      have g1 : ((st.ns.length : Int) == (0 : Int)) = false := by simp; intro h; simp [h] at hnl
      have g2 : decide ((st.ns.length : Int) = (0 : Int)) = false := by simp; intro h; simp [h] at hnl
      have g3 : ¬ st.ns = [] := by intro h; simp [h] at hnl
      have g4 : ¬ st.ns.length = 0 := by omega
      go_wp2_with fail
      clear z0 g1 g2 g3 g4
      go_loopw [12] (fun i wr => ∃ k : Nat, i = .int .i64 k ∧ k ≤ rs.length ∧ Below (w6.heap.size + 1) (w6.alloc (.cells #[.slice A3 st.al.length C3, .slice (some ⟨nb, no, none⟩) st.ns.length nc, .slice A1 rs.length C1] 27)) wr) (fun i _ => rs.length - (intOf i).toNat)
      case atStart => exact ⟨0, rfl, Nat.zero_le _, Below.refl _ _⟩
      case round =>
        obtain ⟨k, rfl, hk, hb⟩ := hrel
        have y1 := box_cell hb 1 _ rfl
        have y2 := box_cell hb 2 _ rfl
        have hwr : w6.heap.size < wr.heap.size := by have := hb.size; simp at this; omega
        by_cases hkn : k < rs.length
        · obtain ⟨e, he⟩ : ∃ e, es[k]? = some e := ⟨_, List.getElem?_eq_getElem (by rw [HLE.out]; exact hkn)⟩
          have hp := SD.out.plan.kp (F' := fun b => base ≤ b) (Kp.of_below (box_below hb)) (fun _ _ h => h)
          have hen := hp.en
          rw [show (es.map fun (e : Nat) => (e : Int)).length = rs.length from hl2] at *
          obtain ⟨eb, eo, rfl, heb, heb2, cs, ⟨rfl, _⟩, hc⟩ := RSl.at hen (i := k) (x := (e : Int)) (by simp [he])
          have c0 := hc 0 _ rfl
          have c1 := HE.out e (List.mem_of_getElem? he)
          simp only [Nat.add_zero, Nat.mul_one] at c0
          have e1 : (0 : Int) ≤ (k : Int) := by omega
          have e2 : (k : Int) < (rs.length : Int) := by omega
          have e3 : ¬ (e : Int) < 0 := by omega
          have e4 : (e : Int) < (st.ns.length : Int) := by omega
          have e5 : ¬ (st.ns.length : Int) ≤ (e : Int) := by omega
          have HK := Lib.hid hkn
          have HB := Lib.hid hb
          clear hc he hp hen hkn hb c1
          go_wp2_with fail
          go_quiet (fail)
          go_wp2
          refine ⟨⟨_, _, _, _, _, _, _, _, _, _, _, _, _, _, _, _, _, _, _, _, _, _, _, _, _, _, _, _, ?_, rfl⟩, ?_⟩
          · exact ⟨k + 1, by go_num, HK.out, below_drewN HB.out _⟩
          · show rs.length - (intOf (.int .i64 ((k : Int) + 1))).toNat < rs.length - (intOf (.int .i64 (k : Int))).toNat
            simp [intOf]
            have := HK.out
            omega
        · obtain rfl : k = rs.length := by omega
          have HB := Lib.hid hb
          clear hb hkn
          have g0 : (1 : Int) ≤ (st.ns.length : Int) := by omega
          go_wp2_with fail
          clear y1 y2
          have WB := Lib.hid (And.intro HB.out hwr)
          clear HB
          obtain ⟨wo, rfl⟩ : ∃ wo : World, wo = wr := ⟨_, rfl⟩
          go_loopw [13] (fun i wr => ∃ k : Nat, i = .int .i64 k ∧ 1 ≤ k ∧ k ≤ st.ns.length ∧ Below (w6.heap.size + 1) (w6.alloc (.cells #[.slice A3 st.al.length C3, .slice (some ⟨nb, no, none⟩) st.ns.length nc, .slice A1 rs.length C1] 27)) wr) (fun i _ => st.ns.length - (intOf i).toNat)
          case atStart => exact ⟨1, rfl, Nat.le_refl _, hnl, WB.out.1⟩
          case round =>
            obtain ⟨k, rfl, hk1, hk, hb⟩ := hrel
            clear hwr
            have hml : st.ns.length ≤ 9223372036854775807 := Nat.le_trans SD.out.plan.ns.len (by unfold maxLen; decide)
            have y0 := box_cell hb 0 _ rfl
            have y1 := box_cell hb 1 _ rfl
            have y2 := box_cell hb 2 _ rfl
            have hwr : w6.heap.size < wr.heap.size := by have := hb.size; simp at this; omega
            by_cases hkn : k < st.ns.length
            · obtain ⟨n, hn⟩ : ∃ n, st.ns[k]? = some n := ⟨_, List.getElem?_eq_getElem hkn⟩
              obtain ⟨u, hu, hpar, hkind⟩ := HW.out.par k n hn hk1
              have hp := (SD.out.plan.kp (F' := fun b => base ≤ b) (Kp.of_below (box_below hb)) (fun _ _ h => h)).ns
              obtain ⟨nb', no', hA', hnb', hnb2', cs, ⟨lv, nv, hE⟩, hc⟩ := RSl.at hp hn
              simp only [Option.some.injEq, Addr.mk.injEq, and_true] at hA'
              obtain ⟨rfl, rfl⟩ := hA'
              have hcs := hE.cells
              subst hcs
              have c0 := hc 0 _ rfl
              have c1 := hc 1 _ rfl
              simp only [Nat.add_zero] at c0
              rw [hpar] at c1
              obtain ⟨q, hq⟩ : ∃ q, n.kind = q := ⟨_, rfl⟩
              rw [hq] at c0 hkind
              have e1 : (0 : Int) ≤ (k : Int) := by omega
              have e2 : (k : Int) < (st.ns.length : Int) := by omega
              have e3 : ¬ (u : Int) < 0 := by omega
              have e4 : (u : Int) < (k : Int) := by omega
              have e5 : ¬ (k : Int) ≤ (u : Int) := by omega
              have e6 : ¬ q = 0 := by omega
              have HK := Lib.hid hkn
              have HB := Lib.hid hb
              have HK1 := Lib.hid hk1
              clear hc hn hp hE hkn hb hk1 hkind hpar
              go_wp2_with fail
              exact ⟨⟨k + 1, by go_num, by omega, HK.out, HB.out⟩, by simp [intOf]; have := HK.out; omega⟩
            · obtain rfl : k = st.ns.length := by omega
              have hp := SD.out.plan.kp (F' := fun b => base ≤ b) (Kp.of_below (box_below hb)) (fun _ _ h => h)
              have hb9 := box_step HB7.out (wr' := wr) (by simpa using hb)
              have hrb : wr.heap[W.heap.size]? = some (.cells #[.slice none 0 0, .slice none 0 0, .slice none 0 0] 27 (0, 0)) := (hb9.block _ (by simp)).trans (heap_alloc_new W _)
              have f0 := rbox (j := 0) hrb rfl
              have f1 := rbox (j := 1) hrb rfl
              have f2 := rbox (j := 2) hrb rfl
              have fz : ∀ o, wr.frozen? ⟨W.heap.size, o, none⟩ = false := fun o => by simp [World.frozen?, hrb]
              have hrl := lt_of_heap hrb
              have HBS := Lib.hid (show W.heap.size < base by have := HB5.out.size; simp at this; omega)
              have ef := Lib.hid (heap_setCell_same _ _ 2 _ _ (.slice A1 rs.length C1) (heap_setCell_same _ _ 1 _ _ (.slice (some ⟨nb, no, none⟩) st.ns.length nc) (heap_setCell_same _ _ 0 _ _ (.slice A3 st.al.length C3) hrb)))
              have HP := Lib.hid hp
              have HB9 := Lib.hid (box_below hb9)
              have T : Hid (Turns [W.heap.size] wr (((wr.setCell ⟨W.heap.size, 0, none⟩ (.slice A3 st.al.length C3)).setCell ⟨W.heap.size, 1, none⟩ (.slice (some ⟨nb, no, none⟩) st.ns.length nc)).setCell ⟨W.heap.size, 2, none⟩ (.slice A1 rs.length C1))) :=
                Lib.hid ((((Turns.refl _ _).setCell (.inl (by simp)) _).setCell (.inl (by simp)) _).setCell (.inl (by simp)) _)
              clear hp hb9 hrb hb hkn hk1
              go_wp2
              refine bodyPost_ret (v := .tuple #[.agg #[.slice A3 st.al.length C3, .slice (some ⟨nb, no, none⟩) st.ns.length nc, .slice A1 rs.length C1], .bool true, .bool true]) (results_row_slot2 rfl _ _ W.heap.size 27 #[.slice A3 st.al.length C3, .slice (some ⟨nb, no, none⟩) st.ns.length nc, .slice A1 rs.length C1] (0, 0) _ _ _ rfl rfl rfl ef.out Try.underlying27 rfl sizePlan) rfl ?_
              refine ⟨((HB9.out.setCell (Nat.le_refl _) _).setCell (Nat.le_refl _) _).setCell (Nat.le_refl _) _, .inl ⟨HQ0.out, _, _, _, rfl, ?_⟩⟩
              rw [HST.out.1, HST.out.2]
              exact HP.out.kp (Kp.of_turns T.out (fun x hx => by simp only [List.mem_singleton] at hx; have := HBS.out; omega)) (fun b hb _ => Nat.lt_of_lt_of_le hb T.out.size)
end Go.Proofs.Ytonkbjdeaneicaa
