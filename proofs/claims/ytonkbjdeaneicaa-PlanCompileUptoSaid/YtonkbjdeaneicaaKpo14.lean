/- Compile: the network of rules. `made`: the law's compilation, looked through before it is used. -/
import Derived.Test.YtonkbjdeaneicaaKpo13
namespace Go.Proofs.Ytonkbjdeaneicaa
open Go.RowKit Pln Classical Go.Maps

theorem sizePlan : (Try.prog.info? 27).map (·.size) = some 3 := by kernel_rfl
theorem rootW (w : World) : Calls Try.prog 30 #[] w fun e w' => e = .returned (.agg #[.int .i64 0, .int .i64 (-1), .int .i64 (-1), .slice none 0 0, .slice none 0 0, .int .i64 0, .bool false, .int .i64 0, .bool false, .int .i64 0, .int .i64 0]) ∧ Below w.heap.size w w' := by
  go_enter Try.func30, Try.ntmps30
  go_wp2
  exact bodyPost_ret (v := .agg #[.int .i64 0, .int .i64 (-1), .int .i64 (-1), .slice none 0 0, .slice none 0 0, .int .i64 0, .bool false, .int .i64 0, .bool false, .int .i64 0, .int .i64 0]) (by simp [results, Try.results30, go_sem]) rfl ⟨rfl, (Below.refl _ _).alloc (Nat.le_refl _) _⟩
def rootCells : List Value := [.int .i64 0, .int .i64 (-1), .int .i64 (-1), .slice none 0 0, .slice none 0 0, .int .i64 0, .bool false, .int .i64 0, .bool false, .int .i64 0, .int .i64 0]
/-- The root's lists. -/
def rootG : Nat → Nat → Option Slo := fun t i => if i = 0 then (if t = 1 then some ⟨.slice none 0 0, true, 0, []⟩ else if t = 2 then some ⟨.slice none 0 0, false, 0, []⟩ else none) else none
theorem rootG_cases {t i : Nat} {s : Slo} (h : rootG t i = some s) : i = 0 ∧ ((t = 1 ∧ s = ⟨.slice none 0 0, true, 0, []⟩) ∨ (t = 2 ∧ s = ⟨.slice none 0 0, false, 0, []⟩)) := by
  unfold rootG at h
  split at h
  · rename_i hi
    split at h
    · rename_i ht
      exact ⟨hi, .inl ⟨ht, (Option.some.inj h).symm⟩⟩
    · split at h
      · rename_i ht
        exact ⟨hi, .inr ⟨ht, (Option.some.inj h).symm⟩⟩
      · cases h
  · cases h
theorem inn_start {F : Nat → Prop} {base b : Nat} (W : World) (h : W.heap[b]? = some (.cells rootCells.toArray 54 (0, 0))) : Inn F base W (.slice none 0 0) (.slice (some ⟨b, 0, none⟩) 1 1) 0 1 rootG := by
  refine ⟨fun i hi => by omega, fun i hi => ?_, fun i hi => ?_, ?_, ?_, ?_, ?_, ?_⟩
  · obtain rfl : i = 0 := by omega
    exact ⟨_, rfl⟩
  · obtain rfl : i = 0 := by omega
    exact ⟨_, rfl⟩
  · intro t i s hs
    obtain ⟨rfl, ⟨rfl, rfl⟩ | ⟨rfl, rfl⟩⟩ := rootG_cases hs
    · exact .inr (.inl ⟨rfl, by omega, rfl⟩)
    · exact .inr (.inr ⟨rfl, by omega, rfl⟩)
  · intro t i s hs
    obtain ⟨rfl, ⟨rfl, rfl⟩ | ⟨rfl, rfl⟩⟩ := rootG_cases hs
    · exact ⟨World.ownsRow_nil _ _ _ _, Nat.zero_le _⟩
    · exact ⟨World.ownsRow_nil _ _ _ _, Nat.zero_le _⟩
  · intro t i t' i' s s' b' hs _ hb _
    obtain ⟨rfl, ⟨rfl, rfl⟩ | ⟨rfl, rfl⟩⟩ := rootG_cases hs <;> simp [Value.ownBlock] at hb
  · intro t i s hs
    obtain ⟨rfl, ⟨rfl, rfl⟩ | ⟨rfl, rfl⟩⟩ := rootG_cases hs
    · exact ⟨b, rfl, (cell_of_row _ _ 3 _ _ _ h).trans rfl⟩
    · exact ⟨b, rfl, (cell_of_row _ _ 4 _ _ _ h).trans rfl⟩
  · intro t i s b' hs hb
    obtain ⟨rfl, ⟨rfl, rfl⟩ | ⟨rfl, rfl⟩⟩ := rootG_cases hs <;> simp [Value.ownBlock] at hb
theorem mkr_start (w : World) : MkAt w.heap.size (w.heap.size + 1 + 1) (w.heap.size + 1) (((w.alloc (.cells rootCells.toArray 54)).alloc (.map #[] 0)).alloc (.cells #[.slice none 0 0, .slice (some ⟨w.heap.size, 0, none⟩) 1 1, .slice none 0 0, .map (some (w.heap.size + 1))] 76)) (.slice none 0 0) (.slice (some ⟨w.heap.size, 0, none⟩) 1 1) (.slice none 0 0) ⟨[], [rootN]⟩ [] := by
  have hr : (((w.alloc (.cells rootCells.toArray 54)).alloc (.map #[] 0)).alloc (.cells #[.slice none 0 0, .slice (some ⟨w.heap.size, 0, none⟩) 1 1, .slice none 0 0, .map (some (w.heap.size + 1))] 76)).heap[w.heap.size]? = some (.cells rootCells.toArray 54 (0, 0)) := by
    rw [Below.heap_alloc _ _ _ (by simp <;> omega), Below.heap_alloc _ _ _ (by simp)]
    exact heap_alloc_new w _
  refine ⟨?_, OwnF.nil, ?_, OwnF.nil, ?_, by omega, by omega, ?_, ⟨_, inn_start _ hr⟩⟩
  · have := heap_alloc_new ((w.alloc (.cells rootCells.toArray 54)).alloc (.map #[] 0)) (.cells #[.slice none 0 0, .slice (some ⟨w.heap.size, 0, none⟩) 1 1, .slice none 0 0, .map (some (w.heap.size + 1))] 76)
    simpa using this
  · refine ⟨rootCells, ⟨rfl, .inr ⟨w.heap.size, 1, rootCells.toArray, rfl, Nat.le_refl _, hr, Nat.le_refl _, by unfold maxLen; decide, rfl, rfl⟩⟩, fun i x hx => ?_⟩
    match i with
    | 0 =>
      simp only [List.getElem?_cons_zero, Option.some.injEq] at hx
      subst hx
      have m1 : i64ok (-1) := by unfold i64ok; decide
      exact ⟨rootCells, ⟨_, _, rfl, ⟨ok0, m1, m1, ok0, ok0, ok0, ok0⟩, RSl.nil, RSl.nil⟩, fun j u hu => by simpa using hu⟩
    | i + 1 => simp at hx
  · have h := (MapG.made (P := Try.prog) (k := 101) (e := 3) (w.alloc (.cells rootCells.toArray 54))).congr (g := atF [rootN]) (fun v l _ => by
      unfold atF
      rw [dif_neg]
      rintro ⟨n, hn, hk, _⟩
      rw [List.mem_singleton.1 hn] at hk
      exact hk rfl)
    have hs : (w.alloc (.cells rootCells.toArray 54)).heap.size = w.heap.size + 1 := by simp
    rw [hs] at h
    obtain ⟨n, D, h1, h2, h3⟩ := h.of_block (w' := ((w.alloc (.cells rootCells.toArray 54)).alloc (.map #[] 0)).alloc (.cells #[.slice none 0 0, .slice (some ⟨w.heap.size, 0, none⟩) 1 1, .slice none 0 0, .map (some (w.heap.size + 1))] 76)) (Below.heap_alloc _ _ _ (by simp))
    exact ⟨n, D, h1, by omega, h3⟩
  · intro n hn
    rw [List.mem_singleton.1 hn]
    decide

/-- What Compile leaves. -/
def CompRes (rs : List Rl) (W : World) (e : Ending) (W' : World) : Prop :=
  Below W.heap.size W W' ∧ (((∀ r ∈ rs, mayP r) ∧ ∃ av nv ev base g mb, W.heap.size ≤ base ∧ e = .returned (.tuple #[.agg #[av, nv, ev], .int .i64 0]) ∧ MkAt base g mb W' av nv ev (compF rs).1 (compF rs).2) ∨
    ((∃ r ∈ rs, ¬ mayP r) ∧ e = .returned (.tuple #[.agg #[.slice none 0 0, .slice none 0 0, .slice none 0 0], .int .i64 2])))
theorem comp_no {rs : List Rl} {W W' : World} (hb : Below W.heap.size W W') {k : Nat} {r : Rl} (hr : rs[k]? = some r) (h : ¬ mayP r) : CompRes rs W (.returned (.tuple #[.agg #[.slice none 0 0, .slice none 0 0, .slice none 0 0], .int .i64 2])) W' :=
  ⟨hb, .inr ⟨⟨r, List.mem_of_getElem? hr, h⟩, rfl⟩⟩
theorem mayB_iff {r : Rl} {b : Bool} (h : mayB r = b) : b = true ↔ mayP r := by
  rw [← h]
  simp [mayB]

/-- Inside Compile's loops: the maker, the rule's box, the result's cell. -/
structure InSt (base g mb : Nat) (W wr : World) (bx : Nat) (rc : Array Value) (S : List Nat) (st : St) (es : List Nat) : Prop where
  mkr : Mkr base g mb wr S st es
  ns : bx ∉ S
  box : wr.heap[bx]? = some (.cells rc 39 (0, 0))
  rb : wr.heap[W.heap.size]? = some (.cells #[.slice none 0 0, .slice none 0 0, .slice none 0 0] 27 (0, 0))
  below : Below W.heap.size W wr
section
variable {base g mb : Nat} {W wr wr' : World} {bx : Nat} {rc : Array Value} {S : List Nat} {st st' : St} {es es' : List Nat}
theorem InSt.lt (h : InSt base g mb W wr bx rc S st es) : bx < wr.heap.size := lt_of_heap h.box
theorem InSt.step (h : InSt base g mb W wr bx rc S st es) (hb : Below wr.heap.size wr wr') : InSt base g mb W wr' bx rc S st es :=
  ⟨h.mkr.step hb, h.ns, (hb.block _ h.lt).trans h.box, (hb.block _ (lt_of_heap h.rb)).trans h.rb, h.below.trans (hb.mono h.below.size)⟩
theorem InSt.to (h : InSt base g mb W wr bx rc S st es) (hWb : W.heap.size < base) (ht : MkrTo base g mb wr S st' es' wr') : ∃ S', InSt base g mb W wr' bx rc S' st' es' := by
  obtain ⟨S', h1, h2, h3⟩ := ht
  have hf := h.mkr.foot
  refine ⟨S', h1, fun hm => ?_, (h2.block _ h.lt h.ns).trans h.box, (h2.block _ (lt_of_heap h.rb) (fun hm => by have := (hf.2 _ hm).1; omega)).trans h.rb, h.below.trans (h2.below h.below.size (fun x hx => by have := (hf.2 x hx).1; omega))⟩
  rcases h3 bx hm with h4 | h4
  · exact h.ns h4
  · have := h.lt; omega
end

theorem Mkr.width {base g mb : Nat} {W : World} {S : List Nat} {st : St} {es : List Nat} (h : Mkr base g mb W S st es) {u : Nat} (hu : u < st.ns.length) {wd : Nat} (hwd : widthAt st u = wd) :
    ∃ b off C, W.cell? ⟨g, 1, none⟩ = some (.slice (some ⟨b, off, none⟩) st.ns.length C) ∧ b < W.heap.size ∧ W.cell? ⟨b, off + u * 11 + 10, none⟩ = some (.int .i64 wd) ∧ g < W.heap.size := by
  obtain ⟨av, nv, ev, rfl, hM⟩ := h
  obtain ⟨A0, C0, rfl⟩ := hM.ns.form
  obtain ⟨nd, hnd⟩ : ∃ nd, st.ns[u]? = some nd := ⟨_, List.getElem?_eq_getElem hu⟩
  have hw : nd.width = (wd : Int) := by unfold widthAt at hwd; rw [hnd] at hwd; exact hwd
  obtain ⟨b, off, rfl, hFb0, hbs, cs, ⟨ln0, nn0, hE⟩, hc⟩ := (hM.ns.rsl (G := fun b => b < W.heap.size) (fun b hb => (hM.ns.block hb).2.1)).at hnd
  have hcs := hE.cells
  subst hcs
  exact ⟨b, off, C0, hM.cell 1 rfl, hbs, by rw [← hw]; exact hc 10 _ rfl, hM.lt⟩
theorem MkAt.far {base g mb : Nat} {W W' : World} {av nv ev : Value} {st : St} {es : List Nat} (h : MkAt base g mb W av nv ev st es) {S : List Nat} (ht : Turns S W W') (hs : ∀ x ∈ S, x < base) : MkAt base g mb W' av nv ev st es := by
  have hf : ∀ x ∈ mfoot g mb av nv ev, x ∉ S := fun x hx hm => by have h1 := (h.foot_lt x hx).1; have h2 := hs x hm; omega
  have hoff : ∀ b ∈ S, ¬ Off base (mfoot g mb av nv ev) b := fun b hb hn => by have h1 := hn.1; have h2 := hs b hb; omega
  exact ⟨(ht.block g h.lt (hf g mfoot_g)).trans h.blk, h.al.keep ht (fun b hb => hf b (by simp [mfoot, hb])) hoff (fun _ _ h => h), h.ns.keep ht (fun b hb => hf b (by simp [mfoot, hb])) hoff (fun _ _ h => h), h.en.keep ht (fun b hb => hf b (by simp [mfoot, hb])) hoff (fun _ _ h => h),
    h.map.of_block (ht.block mb h.map.lt (hf mb (by simp [mfoot]))), h.gb, h.mbb, h.lens, by
      obtain ⟨G, hG⟩ := h.inn
      exact ⟨G, hG.turns ht (fun t b hb => hf b (by unfold inV at hb; split at hb <;> simp [mfoot, hb])) hoff (fun _ _ h => h)⟩⟩
theorem rbox {w : World} {b j : Nat} {cs : Array Value} {T : TypeId} {u : Value} (h : w.heap[b]? = some (.cells cs T (0, 0))) (hu : cs[j]? = some u) : w.cell? ⟨b, j, none⟩ = some u := (cell_of_row _ _ j _ _ _ h).trans hu

set_option maxRecDepth 200000 in
set_option maxHeartbeats 8000000 in
theorem compileW {F : Nat → Prop} (v : Value) (rs : List Rl) (W : World) (h : RRules F W v rs) (hS : rs.length ≤ 1048576 ∧ ∀ r ∈ rs, rlSm 1048576 r) :
    Calls Try.prog 10 #[v] W (CompRes rs W) := by
  obtain ⟨A, c, rfl⟩ := h.form
  have hm := hS.1
  have H := Lib.hid (RRules.kp (F' := fun b => b < W.heap.size) h (Kp.refl _ _) (fun b hb _ => hb))
  have SM := Lib.hid hS
  clear h hS
  go_enter Try.func10, Try.ntmps10
  go_wp2
  go_loopw [18] (fun i wr => ∃ k : Nat, i = .int .i64 k ∧ k ≤ rs.length ∧ (∀ r ∈ rs.take k, mayP r) ∧ Below (W.heap.size + 1) (W.alloc (.cells #[.slice none 0 0, .slice none 0 0, .slice none 0 0] 27)) wr) (fun i _ => rs.length - (intOf i).toNat)
  case atStart => exact ⟨0, rfl, Nat.zero_le _, by simp, Below.refl _ _⟩
  case round =>
    obtain ⟨k, rfl, hk, hq, hb⟩ := hrel
    have bw := box_below hb
    have hwz : W.heap.size < wr.heap.size := by have := hb.size; simp at this; omega
    by_cases hkn : k < rs.length
    · obtain ⟨r, hr⟩ : ∃ r, rs[k]? = some r := ⟨_, List.getElem?_eq_getElem hkn⟩
      obtain ⟨b, off, rfl, hFb, hbs, cs, ⟨hv, pv, tv, nv, vv, hE⟩, hc⟩ := (RRules.kp H.out (Kp.of_below bw) (fun _ _ h => h)).at hr
      have hcs := hE.cells
      subst hcs
      have c0 := hc 0 _ rfl
      have c1 := hc 1 _ rfl
      have c2 := hc 2 _ rfl
      have c3 := hc 3 _ rfl
      have c4 := hc 4 _ rfl
      have c5 := hc 5 _ rfl
      have c6 := hc 6 _ rfl
      simp only [Nat.add_zero] at c0
      have hsm := SM.out.2 r (List.mem_of_getElem? hr)
      have CY := Lib.hid (fun W' (hb : Below wr.heap.size wr W') => mayW r W' (hE.kp (Kp.of_below hb) (fun _ _ h => h)) hsm)
      obtain ⟨Ah, ch, rfl⟩ := hE.head.form
      obtain ⟨Ap, cp, rfl⟩ := hE.pos.form
      obtain ⟨At, ct, rfl⟩ := hE.tests.form
      obtain ⟨An, cn, rfl⟩ := hE.neg.form
      obtain ⟨Av, cv, rfl⟩ := hE.vars.form
      have e1 : (0 : Int) ≤ (k : Int) := by omega
      have e2 : (k : Int) < (rs.length : Int) := by omega
      have HR := Lib.hid hr
      have HK := Lib.hid hkn
      have HQ := Lib.hid hq
      have HB := Lib.hid hb
      clear hc hr hkn hq hE hsm
      by_cases hmp : mayP r
      · have HM := Lib.hid (mayB_true hmp)
        have HQ2 := Lib.hid (take_all HQ.out HR.out hmp)
        clear hmp bw hb
        go_wp2_with fail
        refine (CY.out _ ((Below.refl _ _).alloc (Nat.le_refl _) _)).mono ?_
        rintro e w2 ⟨he, hb2⟩
        rw [HM.out] at he
        subst he
        have HB2 := Lib.hid (box_step HB.out (((Below.refl wr.heap.size wr).alloc (Nat.le_refl _) _).trans (hb2.mono (by simp))))
        clear hb2
        go_wp2
        exact ⟨⟨k + 1, by go_num, HK.out, HQ2.out, HB2.out⟩, by simp [intOf]; have := HK.out; omega⟩
      · have HM := Lib.hid (mayB_false hmp)
        have HF := Lib.hid hmp
        clear hmp bw hb
        go_wp2_with fail
        refine (CY.out _ ((Below.refl _ _).alloc (Nat.le_refl _) _)).mono ?_
        rintro e w2 ⟨he, hb2⟩
        rw [HM.out] at he
        subst he
        have hb3 := box_step HB.out (((Below.refl wr.heap.size wr).alloc (Nat.le_refl _) _).trans (hb2.mono (by simp)))
        have eb : w2.heap[W.heap.size]? = some (.cells #[.slice none 0 0, .slice none 0 0, .slice none 0 0] 27 (0, 0)) := (hb3.block _ (by simp)).trans (heap_alloc_new W _)
        have f0 := cell_of_row _ _ 0 _ _ _ eb
        have f1 := cell_of_row _ _ 1 _ _ _ eb
        have f2 := cell_of_row _ _ 2 _ _ _ eb
        simp only [List.getElem?_toArray, List.getElem?_cons_zero, List.getElem?_cons_succ] at f0 f1 f2
        have fz : ∀ o, w2.frozen? ⟨W.heap.size, o, none⟩ = false := fun o => by simp [World.frozen?, eb]
        have ef := Lib.hid (heap_setCell_same _ _ 2 _ _ (.slice none 0 0) (heap_setCell_same _ _ 1 _ _ (.slice none 0 0) (heap_setCell_same _ _ 0 _ _ (.slice none 0 0) eb)))
        have HB3 := Lib.hid (box_below hb3)
        clear hb2 hb3 eb
        go_wp2
        exact bodyPost_ret (v := .tuple #[.agg #[.slice none 0 0, .slice none 0 0, .slice none 0 0], .int .i64 2]) (results_row_slot rfl _ _ W.heap.size 27 #[.slice none 0 0, .slice none 0 0, .slice none 0 0] (0, 0) _ _ rfl rfl ef.out Try.underlying27 rfl sizePlan) rfl
          (comp_no (((HB3.out.setCell (Nat.le_refl _) _).setCell (Nat.le_refl _) _).setCell (Nat.le_refl _) _) HR.out HF.out)
    · obtain rfl : k = rs.length := by omega
      rw [List.take_length] at hq
      have HQ := Lib.hid hq
      have HB := Lib.hid hb
      clear hq hb bw hkn
      go_wp2_with fail
      refine (rootW _).mono ?_
      rintro e w3 ⟨rfl, hb3⟩
      have hb4 := box_step HB.out hb3
      have eb : w3.heap[W.heap.size]? = some (.cells #[.slice none 0 0, .slice none 0 0, .slice none 0 0] 27 (0, 0)) := (hb4.block _ (by simp)).trans (heap_alloc_new W _)
      have HB4 := Lib.hid (box_below hb4)
      have EB := Lib.hid eb
      have hw3 : W.heap.size < w3.heap.size := lt_of_heap eb
      have M0 := Lib.hid (mkr_start w3)
      have hmm := @run_makeMap Try.prog
      clear hb3 hb4 eb
      go_wp2_with fail
      have hB3 : Below w3.heap.size w3 (((w3.alloc (.cells rootCells.toArray 54)).alloc (.map #[] 0)).alloc (.cells #[.slice none 0 0, .slice (some ⟨w3.heap.size, 0, none⟩) 1 1, .slice none 0 0, .map (some (w3.heap.size + 1))] 76)) :=
        (((Below.refl w3.heap.size w3).alloc (Nat.le_refl _) _).alloc (by simp) _).alloc (by simp <;> omega) _
      have RB := Lib.hid ((hB3.block _ hw3).trans EB.out)
      have BW := Lib.hid (HB4.out.trans (hB3.mono HB4.out.size))
      have CL := Lib.hid (comp_len rs HQ.out)
      clear hB3
      go_loopw [35] (fun i wr => ∃ (k : Nat) (S : List Nat), i = .int .i64 k ∧ k ≤ rs.length ∧ Mkr w3.heap.size (w3.heap.size + 1 + 1) (w3.heap.size + 1) wr S (compF (rs.take k)).1 (compF (rs.take k)).2 ∧
        wr.heap[W.heap.size]? = some (.cells #[.slice none 0 0, .slice none 0 0, .slice none 0 0] 27 (0, 0)) ∧ Below W.heap.size W wr) (fun i _ => rs.length - (intOf i).toNat)
      case atStart => exact ⟨0, _, rfl, Nat.zero_le _, ⟨_, _, _, rfl, M0.out⟩, RB.out, BW.out⟩
      case round =>
        obtain ⟨k, S, rfl, hk, hM, hrb, hb⟩ := hrel
        clear M0
        by_cases hkn : k < rs.length
        · obtain ⟨r, hr⟩ : ∃ r, rs[k]? = some r := ⟨_, List.getElem?_eq_getElem hkn⟩
          obtain ⟨b, off, rfl, hFb, hbs, cs, ⟨hv, pv, tv, nv, vv, hE⟩, hc⟩ := (RRules.kp H.out (Kp.of_below hb) (fun _ _ h => h)).at hr
          have hcs := hE.cells
          subst hcs
          have c0 := hc 0 _ rfl
          have c1 := hc 1 _ rfl
          have c2 := hc 2 _ rfl
          have c3 := hc 3 _ rfl
          have c4 := hc 4 _ rfl
          have c5 := hc 5 _ rfl
          have c6 := hc 6 _ rfl
          simp only [Nat.add_zero] at c0
          obtain ⟨Ah, ch, rfl⟩ := hE.head.form
          obtain ⟨Ap, cp, rfl⟩ := hE.pos.form
          obtain ⟨At, ct, rfl⟩ := hE.tests.form
          obtain ⟨An, cn, rfl⟩ := hE.neg.form
          obtain ⟨Av, cv, rfl⟩ := hE.vars.form
          have hmay := HQ.out r (List.mem_of_getElem? hr)
          obtain ⟨fw, hfit⟩ := hmay
          obtain ⟨lN, lA⟩ := CL.out k hk
          have hmany := hfit.many
          have e1 : (0 : Int) ≤ (k : Int) := by omega
          have e2 : (k : Int) < (rs.length : Int) := by omega
          have hwf := (made_comp (rs.take k)).wf
          obtain ⟨st, hst⟩ : ∃ st, (compF (rs.take k)).1 = st := ⟨_, rfl⟩
          obtain ⟨es, hes⟩ : ∃ es, (compF (rs.take k)).2 = es := ⟨_, rfl⟩
          have CE := Lib.hid (comp_take_succ hr)
          rw [hst] at lN lA hwf hM
          rw [hes] at hM
          have UF := Lib.hid (fun i hi => upTo_facts hwf hfit (i := i) hi)
          have HST := Lib.hid (And.intro hst hes)
          have HFIT := Lib.hid hfit
          have HK := Lib.hid hkn
          have HE := Lib.hid hE
          have h80 : InSt w3.heap.size (w3.heap.size + 1 + 1) (w3.heap.size + 1) W (wr.alloc (.cells #[.int .i64 r.head.pred, .slice Ah r.head.args.length ch, .slice Ap r.pos.length cp, .slice At r.tests.length ct, .slice An r.neg.length cn, .slice Av r.vars.length cv, .int .i64 r.clause] 39)) wr.heap.size #[.int .i64 r.head.pred, .slice Ah r.head.args.length ch, .slice Ap r.pos.length cp, .slice At r.tests.length ct, .slice An r.neg.length cn, .slice Av r.vars.length cv, .int .i64 r.clause] S st es :=
            ⟨hM.step ((Below.refl _ _).alloc (Nat.le_refl _) _), fun hm => by have := (hM.foot.2 _ hm).2; omega, heap_alloc_new wr _, by rw [Below.heap_alloc _ _ _ (lt_of_heap hrb)]; exact hrb, hb.alloc hb.size _⟩
          have H80 := Lib.hid h80
          have HBo := Lib.hid hb
          clear hc hr hkn hE hst hes hM hrb hb h80 hfit hwf RB BW
          go_wp2_with fail
          obtain ⟨wo, rfl⟩ : ∃ wo : World, wo = wr := ⟨_, rfl⟩
          go_loopw [9, 42] (fun u i wr => ∃ (j : Nat) (S : List Nat), i = .int .i64 j ∧ u = .int .i64 (upTo st r j).1 ∧ j ≤ r.pos.length ∧ InSt w3.heap.size (w3.heap.size + 1 + 1) (w3.heap.size + 1) W wr wo.heap.size #[.int .i64 r.head.pred, .slice Ah r.head.args.length ch, .slice Ap r.pos.length cp, .slice At r.tests.length ct, .slice An r.neg.length cn, .slice Av r.vars.length cv, .int .i64 r.clause] S (upTo st r j).2 es) (fun _ i _ => r.pos.length - (intOf i).toNat)
          case atStart => exact ⟨0, S, rfl, rfl, Nat.zero_le _, H80.out⟩
          case round =>
            obtain ⟨j, S, rfl, rfl, hj, hI⟩ := hrel
            clear H80
            have bw := hI.below
            by_cases hjn : j < r.pos.length
            · obtain ⟨p, hp⟩ : ∃ p, r.pos[j]? = some p := ⟨_, List.getElem?_eq_getElem hjn⟩
              obtain ⟨b', off', rfl, hFb', hbs', cs', ⟨av', rfl, pok, ha⟩, hc'⟩ := (RPats.kp HE.out.pos (Kp.of_two HBo.out bw (by have := hI.lt; omega)) (fun _ _ h => h)).at hp
              have c0' := hc' 0 _ rfl
              have c1' := hc' 1 _ rfl
              simp only [Nat.add_zero] at c0'
              obtain ⟨hu, ⟨wd, hwd, hwd2⟩, hn1, hn2⟩ := UF.out j (by omega)
              have hfa := fit_at ⟨fw, HFIT.out⟩ hp
              have CP := Lib.hid (fun W' (hb : Below wr.heap.size wr W') => patternW (hI.mkr.step hb) 1 (.inl rfl) _ hu wd hwd (by omega) (F := fun b => b < W.heap.size) (fun b hb => by omega) p _ (ha.keep (Kp.of_below hb)) pok hfa.2.1 (okA_nonneg hfa.1) hfa.2.2 (by omega) (by omega))
              obtain ⟨Aa, ca, rfl⟩ := ha.form
              have hstep := upTo_succ st (cond_pos hp)
              have HS := Lib.hid (show upTo st r (j + 1) = patF 1 ((upTo st r j).1, (upTo st r j).2) p from hstep)
              have f1 : (0 : Int) ≤ (j : Int) := by omega
              have f2 : (j : Int) < (r.pos.length : Int) := by omega
              have HJ := Lib.hid hjn
              have HI := Lib.hid hI
              clear hc' hp ha hwd hfa hstep hjn hI hu bw
              go_wp2_with fail
              refine (CP.out _ ((Below.refl _ _).alloc (Nat.le_refl _) _)).mono ?_
              rintro e w5 ⟨rfl, hT⟩
              obtain ⟨S', hI'⟩ := (HI.out.step ((Below.refl _ _).alloc (Nat.le_refl _) (.cells #[.int .i64 p.pred, .slice Aa p.args.length ca] 34))).to hw3 hT
              rw [← HS.out] at hI' ⊢
              have HI' := Lib.hid hI'
              clear hT hI'
              go_wp2_with fail
              exact ⟨⟨j + 1, S', by go_num, rfl, HJ.out, HI'.out⟩, by simp [intOf]; have := HJ.out; omega⟩
            · obtain rfl : j = r.pos.length := by omega
              have xb := rbox (j := 3) hI.box rfl
              have hbl := hI.lt
              have HI := Lib.hid hI
              clear bw hI
              go_wp2_with fail
              clear xb
              go_loopw [9, 54] (fun u i wr => ∃ (j : Nat) (S : List Nat), i = .int .i64 j ∧ u = .int .i64 (upTo st r (r.pos.length + j)).1 ∧ j ≤ r.tests.length ∧ InSt w3.heap.size (w3.heap.size + 1 + 1) (w3.heap.size + 1) W wr wo.heap.size #[.int .i64 r.head.pred, .slice Ah r.head.args.length ch, .slice Ap r.pos.length cp, .slice At r.tests.length ct, .slice An r.neg.length cn, .slice Av r.vars.length cv, .int .i64 r.clause] S (upTo st r (r.pos.length + j)).2 es) (fun _ i _ => r.tests.length - (intOf i).toNat)
              case atStart => exact ⟨0, S, rfl, rfl, Nat.zero_le _, HI.out⟩
              case round =>
                obtain ⟨j, S, rfl, rfl, hj, hI⟩ := hrel
                clear HI hbl
                have bw := hI.below
                by_cases hjn : j < r.tests.length
                · obtain ⟨t, ht⟩ : ∃ t, r.tests[j]? = some t := ⟨_, List.getElem?_eq_getElem hjn⟩
                  obtain ⟨b', off', rfl, hFb', hbs', cs', ⟨rfl, ok1, ok2, ok3⟩, hc'⟩ := (HE.out.tests.keep (Kp.of_two HBo.out bw (by have := hI.lt; omega))).at ht
                  have c0' := hc' 0 _ rfl
                  have c1' := hc' 1 _ rfl
                  have c2' := hc' 2 _ rfl
                  have c3' := hc' 3 _ rfl
                  have c4' := hc' 4 _ rfl
                  simp only [Nat.add_zero] at c0'
                  obtain ⟨hu, ⟨wd, hwd, hwd2⟩, hn1, hn2⟩ := UF.out (r.pos.length + j) (by omega)
                  obtain ⟨u, hue⟩ : ∃ u, (upTo st r (r.pos.length + j)).1 = u := ⟨_, rfl⟩
                  have hstep := upTo_succ st (cond_test ht)
                  have HS := Lib.hid (show upTo st r (r.pos.length + (j + 1)) = tstF ((upTo st r (r.pos.length + j)).1, (upTo st r (r.pos.length + j)).2) t from hstep)
                  have hT0 : testOf (upTo st r (r.pos.length + j)).2 (upTo st r (r.pos.length + j)).1 t = ⟨2, ((upTo st r (r.pos.length + j)).1 : Int), -1, [], [], t, wd⟩ := by unfold testOf; rw [hwd]
                  rw [hue] at hu hwd HS hT0 ⊢
                  have m1 : i64ok (-1) := by unfold i64ok; decide
                  have m2 : i64ok 2 := by unfold i64ok; decide
                  have hok : NdOk ⟨2, (u : Int), -1, [], [], t, wd⟩ := ⟨⟨m2, okNat (by omega), m1, okNat (by omega), ok1, ok2, ok3⟩, by simp, by simp, by simp, by simp⟩
                  have CN := Lib.hid (fun W' (hb : Below wr.heap.size wr W') => nodeW (hI.mkr.bound.step hb) (cs := [.int .i64 2, .int .i64 u, .int .i64 (-1), .slice none 0 0, .slice none 0 0, .int .i64 t.op, .bool t.l.v, .int .i64 t.l.n, .bool t.r.v, .int .i64 t.r.n, .int .i64 wd]) (lv := .slice none 0 0) (nv := .slice none 0 0) ⟨2, (u : Int), -1, [], [], t, wd⟩ (LstN.nil rfl rfl) ⟨rfl, hok.ints, RSl.nil, RSl.nil⟩ hok (by simp only; decide) (by omega))
                  have MW := Lib.hid (fun W' (hb : Below wr.heap.size wr W') => (hI.mkr.step hb).width hu hwd)
                  have f1 : (0 : Int) ≤ (j : Int) := by omega
                  have f2 : (j : Int) < (r.tests.length : Int) := by omega
                  have f3 : (0 : Int) ≤ (u : Int) := by omega
                  have f4 : (u : Int) < ((upTo st r (r.pos.length + j)).2.ns.length : Int) := by omega
                  have HJ := Lib.hid hjn
                  have HI := Lib.hid hI
                  have HT0 := Lib.hid hT0
                  have HUE := Lib.hid hue
                  clear hc' ht hwd hstep hjn hI hu bw hok hT0 hue
                  go_wp2_with fail
                  have hB0 : Below (wr.heap.size + 1) (wr.alloc (.cells #[.int .i64 t.op, .bool t.l.v, .int .i64 t.l.n, .bool t.r.v, .int .i64 t.r.n] 52)) (wr.alloc (.cells #[.int .i64 t.op, .bool t.l.v, .int .i64 t.l.n, .bool t.r.v, .int .i64 t.r.n] 52)).drew := (Below.refl _ _).drew
                  refine wp_region_still_tail 13 (by kernel_rfl) (by kernel_rfl) ?_
                  change wpStill _ _ (wr.alloc (.cells #[.int .i64 t.op, .bool t.l.v, .int .i64 t.l.n, .bool t.r.v, .int .i64 t.r.n] 52)).drew (fun a' => wpList _ _ _ _ a' (wr.alloc (.cells #[.int .i64 t.op, .bool t.l.v, .int .i64 t.l.n, .bool t.r.v, .int .i64 t.r.n] 52)).drew) _ _
                  generalize (wr.alloc (.cells #[.int .i64 t.op, .bool t.l.v, .int .i64 t.l.n, .bool t.r.v, .int .i64 t.r.n] 52)).drew = wz at hB0 ⊢
                  obtain ⟨nb, noff, nC, n1, n2, n3, n4⟩ := MW.out wz (box_below hB0)
                  have y0 := box_cell hB0 0 _ rfl
                  have y1 := box_cell hB0 1 _ rfl
                  have y2 := box_cell hB0 2 _ rfl
                  have y3 := box_cell hB0 3 _ rfl
                  have y4 := box_cell hB0 4 _ rfl
                  have BZ := Lib.hid (box_below hB0)
                  clear hB0 c0' c1' c2' c3' c4'
                  simp only [List.take_succ_cons, List.take_zero, List.drop_succ_cons, List.drop_zero]
                  repeat still_step
                  refine wpStill_nil ?_
                  go_wp2_with fail
                  refine (CN.out _ BZ.out).mono ?_
                  rintro e w5 ⟨rfl, hT⟩
                  obtain ⟨S', hI'⟩ := (HI.out.step BZ.out).to hw3 hT
                  have hst2 : (upTo st r (r.pos.length + (j + 1))).2 = ⟨(upTo st r (r.pos.length + j)).2.al, addF (upTo st r (r.pos.length + j)).2.ns ⟨2, (u : Int), -1, [], [], t, wd⟩⟩ := by
                    rw [HS.out]
                    simp only [tstF]
                    rw [HT0.out]
                  rw [← hst2] at hI'
                  have HU2 := Lib.hid (show (placeF (upTo st r (r.pos.length + j)).2.ns ⟨2, (u : Int), -1, [], [], t, wd⟩) = (upTo st r (r.pos.length + (j + 1))).1 by
                    rw [HS.out]
                    simp only [tstF]
                    rw [HT0.out])
                  have HI' := Lib.hid hI'
                  rw [HU2.out]
                  clear hT hI' hst2 y0 y1 y2 y3 y4 n1 n2 n3 n4
                  go_wp2_with fail
                  exact ⟨⟨j + 1, S', by go_num, rfl, HJ.out, HI'.out⟩, by simp [intOf]; have := HJ.out; omega⟩
                · obtain rfl : j = r.tests.length := by omega
                  have xb := rbox (j := 4) hI.box rfl
                  have hbl := hI.lt
                  have HI := Lib.hid hI
                  clear bw hI
                  go_wp2_with fail
                  clear xb
                  go_loopw [9, 76] (fun u i wr => ∃ (j : Nat) (S : List Nat), i = .int .i64 j ∧ u = .int .i64 (upTo st r (r.pos.length + r.tests.length + j)).1 ∧ j ≤ r.neg.length ∧ InSt w3.heap.size (w3.heap.size + 1 + 1) (w3.heap.size + 1) W wr wo.heap.size #[.int .i64 r.head.pred, .slice Ah r.head.args.length ch, .slice Ap r.pos.length cp, .slice At r.tests.length ct, .slice An r.neg.length cn, .slice Av r.vars.length cv, .int .i64 r.clause] S (upTo st r (r.pos.length + r.tests.length + j)).2 es) (fun _ i _ => r.neg.length - (intOf i).toNat)
                  case atStart => exact ⟨0, S, rfl, rfl, Nat.zero_le _, HI.out⟩
                  case round =>
                    obtain ⟨j, S, rfl, rfl, hj, hI⟩ := hrel
                    clear HI hbl
                    have bw := hI.below
                    by_cases hjn : j < r.neg.length
                    · obtain ⟨p, hp⟩ : ∃ p, r.neg[j]? = some p := ⟨_, List.getElem?_eq_getElem hjn⟩
                      obtain ⟨b', off', rfl, hFb', hbs', cs', ⟨av', rfl, pok, ha⟩, hc'⟩ := (RPats.kp HE.out.neg (Kp.of_two HBo.out bw (by have := hI.lt; omega)) (fun _ _ h => h)).at hp
                      have c0' := hc' 0 _ rfl
                      have c1' := hc' 1 _ rfl
                      simp only [Nat.add_zero] at c0'
                      obtain ⟨hu, ⟨wd, hwd, hwd2⟩, hn1, hn2⟩ := UF.out (r.pos.length + r.tests.length + j) (by omega)
                      have hfa := HFIT.out.ngs p (List.mem_of_getElem? hp)
                      have CP := Lib.hid (fun W' (hb : Below wr.heap.size wr W') => patternW (hI.mkr.step hb) 3 (.inr rfl) _ hu wd hwd (by omega) (F := fun b => b < W.heap.size) (fun b hb => by omega) p _ (ha.keep (Kp.of_below hb)) pok hfa.1 (fun s hs => (hfa.2.2 s hs).1) hfa.2.1 (by omega) (by omega))
                      obtain ⟨Aa, ca, rfl⟩ := ha.form
                      have hstep := upTo_succ st (cond_neg hp)
                      have HS := Lib.hid (show upTo st r (r.pos.length + r.tests.length + (j + 1)) = patF 3 ((upTo st r (r.pos.length + r.tests.length + j)).1, (upTo st r (r.pos.length + r.tests.length + j)).2) p from hstep)
                      have f1 : (0 : Int) ≤ (j : Int) := by omega
                      have f2 : (j : Int) < (r.neg.length : Int) := by omega
                      have HJ := Lib.hid hjn
                      have HI := Lib.hid hI
                      clear hc' hp ha hwd hfa hstep hjn hI hu bw
                      go_wp2_with fail
                      refine (CP.out _ ((Below.refl _ _).alloc (Nat.le_refl _) _)).mono ?_
                      rintro e w5 ⟨rfl, hT⟩
                      obtain ⟨S', hI'⟩ := (HI.out.step ((Below.refl _ _).alloc (Nat.le_refl _) (.cells #[.int .i64 p.pred, .slice Aa p.args.length ca] 34))).to hw3 hT
                      rw [← HS.out] at hI' ⊢
                      have HI' := Lib.hid hI'
                      clear hT hI'
                      go_wp2_with fail
                      exact ⟨⟨j + 1, S', by go_num, rfl, HJ.out, HI'.out⟩, by simp [intOf]; have := HJ.out; omega⟩
                    · obtain rfl : j = r.neg.length := by omega
                      obtain ⟨hu, _, hn1, hn2⟩ := UF.out (r.pos.length + r.tests.length + r.neg.length) (Nat.le_refl _)
                      obtain ⟨u, hue⟩ : ∃ u, (upTo st r (r.pos.length + r.tests.length + r.neg.length)).1 = u := ⟨_, rfl⟩
                      obtain ⟨st2, hse⟩ : ∃ st2, (upTo st r (r.pos.length + r.tests.length + r.neg.length)).2 = st2 := ⟨_, rfl⟩
                      have hcomp : (compF (rs.take (k + 1))).1 = st2 ∧ (compF (rs.take (k + 1))).2 = es ++ [u] := by
                        rw [CE.out]
                        simp only [endF]
                        rw [HST.out.1, HST.out.2, ← upTo_all, hue, hse]
                        exact ⟨rfl, rfl⟩
                      rw [hue] at hu ⊢
                      rw [hse] at hI hu hn1 hn2
                      have hel : es.length ≤ k := by
                        have := (made_comp (rs.take k)).len
                        rw [HST.out.2] at this
                        rw [this]
                        exact List.length_take_le _ _
                      have hrb := hI.rb
                      have hbw := hI.below
                      obtain ⟨av, nv, ev, rfl, hM⟩ := hI.mkr
                      obtain ⟨A1, C1, rfl⟩ := hM.en.form
                      simp only [List.length_map] at hM
                      have x2 := hM.cell 2 rfl
                      have hgl := hM.lt
                      have hbase := (hM.foot_lt _ mfoot_g).1
                      have hbase2 : w3.heap.size ≤ wr.heap.size := by omega
                      have UOK := Lib.hid (okNat (k := u) (by omega))
                      have HM := Lib.hid hM
                      have HCO := Lib.hid hcomp
                      have HRB := Lib.hid hrb
                      have HBW := Lib.hid hbw
                      clear hI hM hcomp hue hse bw hrb hbw
                      go_wp2_with (at_builtin; refine wpList_append_F HM.out.en (fun b hb hf => hf.2 (by simp [mfoot, hb])) rfl (.tmp 90) (.tmp 92) 25 rfl Try.underlying25 infoIntR rfl (by decide) rfl #[.int .i64 u] _ rfl rfl (x := (u : Int)) ⟨rfl, UOK.out⟩ (by rw [List.length_map]; omega) (by decide) hbase2 ?_; intro g' cap w5 ho ht hat hlt5; have hgn := (HM.out.apart).2.2.2; have e3 := (ht.block _ HM.out.lt (fun hm => (hgn _ (by simpa using hm)).1 rfl)).trans HM.out.blk; have q1 := (cell_of_row _ _ 2 _ _ _ e3).trans (show _ = some (Value.slice A1 es.length C1) from rfl); have q2 : ∀ o, w5.frozen? ⟨w3.heap.size + 1 + 1, o, none⟩ = false := (fun o => by simp [World.frozen?, e3]); have q3 := lt_of_heap e3; have GR0 := HM.out.grow_en ho ht hat; simp only [List.length_map] at GR0; have GR := Lib.hid GR0; clear ho ht hat hlt5 hgn e3 GR0)
                      have T := GR.out.2.1
                      have FL := HM.out.foot_lt
                      refine ⟨⟨k + 1, _, by go_num, HK.out, ⟨_, _, _, rfl, by rw [HCO.out.1, HCO.out.2]; exact GR.out.1⟩, ?_, ?_⟩, by simp [intOf]; have := HK.out; omega⟩
                      · exact (T.block _ (lt_of_heap HRB.out) (fun hm => by have := (FL _ hm).1; omega)).trans HRB.out
                      · exact HBW.out.trans (T.below HBW.out.size (fun x hx => by have := (FL x hx).1; omega))
        · obtain rfl : k = rs.length := by omega
          rw [List.take_length] at hM
          have bw := hb
          obtain ⟨av, nv, ev, rfl, hM⟩ := hM
          obtain ⟨A1, C1, rfl⟩ := hM.en.form
          obtain ⟨A2, C2, rfl⟩ := hM.ns.form
          obtain ⟨A3, C3, rfl⟩ := hM.al.form
          simp only [List.length_map] at hM
          have x0 := hM.cell 0 rfl
          have x1 := hM.cell 1 rfl
          have x2 := hM.cell 2 rfl
          have hgl := hM.lt
          have hbase := (hM.foot_lt _ mfoot_g).1
          have f0 := rbox (j := 0) hrb rfl
          have f1 := rbox (j := 1) hrb rfl
          have f2 := rbox (j := 2) hrb rfl
          have hrl := lt_of_heap hrb
          have fz : ∀ o, wr.frozen? ⟨W.heap.size, o, none⟩ = false := fun o => by simp [World.frozen?, hrb]
          have ef := Lib.hid (heap_setCell_same _ _ 2 _ _ (.slice A1 (compF rs).2.length C1) (heap_setCell_same _ _ 1 _ _ (.slice A2 (compF rs).1.ns.length C2) (heap_setCell_same _ _ 0 _ _ (.slice A3 (compF rs).1.al.length C3) hrb)))
          have HM := Lib.hid hM
          have BW := Lib.hid bw
          clear hM hrb hb bw hkn
          go_wp2
          refine bodyPost_ret (v := .tuple #[.agg #[.slice A3 (compF rs).1.al.length C3, .slice A2 (compF rs).1.ns.length C2, .slice A1 (compF rs).2.length C1], .int .i64 0]) (results_row_slot rfl _ _ W.heap.size 27 #[.slice A3 (compF rs).1.al.length C3, .slice A2 (compF rs).1.ns.length C2, .slice A1 (compF rs).2.length C1] (0, 0) _ _ rfl rfl ef.out Try.underlying27 rfl sizePlan) rfl ?_
          refine ⟨((BW.out.setCell (Nat.le_refl _) _).setCell (Nat.le_refl _) _).setCell (Nat.le_refl _) _, .inl ⟨HQ.out, _, _, _, w3.heap.size, w3.heap.size + 1 + 1, w3.heap.size + 1, by omega, rfl, ?_⟩⟩
          have T : Turns [W.heap.size] wr (((wr.setCell ⟨W.heap.size, 0, none⟩ (.slice A3 (compF rs).1.al.length C3)).setCell ⟨W.heap.size, 1, none⟩ (.slice A2 (compF rs).1.ns.length C2)).setCell ⟨W.heap.size, 2, none⟩ (.slice A1 (compF rs).2.length C1)) :=
            (((Turns.refl _ _).setCell (.inl (by simp)) _).setCell (.inl (by simp)) _).setCell (.inl (by simp)) _
          exact HM.out.far T (fun x hx => by simp only [List.mem_singleton] at hx; omega)
end Go.Proofs.Ytonkbjdeaneicaa

namespace Go.Proofs.Ytonkbjdeaneicaa
open Go.RowKit Pln Classical Go.Maps

section
variable {α : Type} {F : Nat → Prop} {w : World} {sz : Nat} {E : List Value → α → Prop} {xs : List α}
/-- Every element out of one block. -/
theorem RSl.base {v : Value} (h : RSl F w sz E v xs) (h0 : 0 < xs.length) :
    ∃ b off c, v = .slice (some ⟨b, off, none⟩) xs.length c ∧ F b ∧ b < w.heap.size ∧ ∀ i x, xs[i]? = some x → ∃ cs, E cs x ∧ CsIn w b (off + i * sz) cs := by
  obtain ⟨A', c', h1, h2, h3, _, h4⟩ := h
  rcases h4 with rfl | ⟨b, off, hA, hf, hb, hc⟩
  · simp at h0
  · exact ⟨b, off, c', by rw [h1, hA], hf, hb, hc⟩
end
/-- A plan that is read. -/
structure RPlan (F : Nat → Prop) (W : World) (av nv ev : Value) (st : St) (es : List Nat) : Prop where
  al : RSl F W 2 (cdShp.E F W) av st.al
  ns : RSl F W 11 (cdNd.E F W) nv st.ns
  en : RSl F W 1 (cdInt.E F W) ev (es.map fun (e : Nat) => (e : Int))
theorem RPlan.kp {F F' : Nat → Prop} {W W' : World} {av nv ev : Value} {st : St} {es : List Nat} (h : RPlan F W av nv ev st es) (hk : Kp F W W') (hF : ∀ b, b < W.heap.size → F b → F' b) : RPlan F' W' av nv ev st es :=
  ⟨RSl.kp h.al hk hF (fun _ _ h => cdShp.kp _ _ _ _ _ _ h hk hF), RSl.kp h.ns hk hF (fun _ _ h => cdNd.kp _ _ _ _ _ _ h hk hF), RSl.kp h.en hk hF (fun _ _ h => cdInt.kp _ _ _ _ _ _ h hk hF)⟩
theorem RPlan.below {W W' : World} {av nv ev : Value} {st : St} {es : List Nat} (h : RPlan (fun b => b < W.heap.size) W av nv ev st es) (hb : Below W.heap.size W W') : RPlan (fun b => b < W'.heap.size) W' av nv ev st es :=
  h.kp (Kp.of_below hb) (fun b h _ => by have := hb.size; omega)
theorem MkAt.plan {base g mb : Nat} {W : World} {av nv ev : Value} {st : St} {es : List Nat} (h : MkAt base g mb W av nv ev st es) : RPlan (fun b => b < W.heap.size) W av nv ev st es :=
  ⟨RSl.kp (h.al.rsl (G := fun b => b < W.heap.size) (fun _b hb => (h.al.block hb).2.1)) (Kp.refl _ _) (fun _ _ h => h) (fun _ _ h => cdShp.kp _ _ _ _ _ _ h (Kp.refl _ _) (fun _b hb _ => hb)),
    RSl.kp (h.ns.rsl (G := fun b => b < W.heap.size) (fun _b hb => (h.ns.block hb).2.1)) (Kp.refl _ _) (fun _ _ h => h) (fun _ _ h => cdNd.kp _ _ _ _ _ _ h (Kp.refl _ _) (fun _b hb _ => hb)),
    RSl.kp (h.en.rsl (G := fun b => b < W.heap.size) (fun _b hb => (h.en.block hb).2.1)) (Kp.refl _ _) (fun _ _ h => h) (fun _ _ h => cdInt.kp _ _ _ _ _ _ h (Kp.refl _ _) (fun _b hb _ => hb))⟩

/-- What `made` leaves. -/
def MadeRes (rs : List Rl) (W : World) (e : Ending) (W' : World) : Prop :=
  Below W.heap.size W W' ∧ (((∀ r ∈ rs, mayP r) ∧ ∃ av nv ev, e = .returned (.tuple #[.agg #[av, nv, ev], .bool true, .bool true]) ∧ RPlan (fun b => b < W'.heap.size) W' av nv ev (compF rs).1 (compF rs).2) ∨
    ((∃ r ∈ rs, ¬ mayP r) ∧ e = .returned (.tuple #[.agg #[.slice none 0 0, .slice none 0 0, .slice none 0 0], .bool false, .bool true])))
theorem made_no {rs : List Rl} {W W' : World} (hb : Below W.heap.size W W') (h : ∃ r ∈ rs, ¬ mayP r) : MadeRes rs W (.returned (.tuple #[.agg #[.slice none 0 0, .slice none 0 0, .slice none 0 0], .bool false, .bool true])) W' :=
  ⟨hb, .inr ⟨h, rfl⟩⟩
theorem results_row_slot2 {P : Program} {fn : Func} {p q q' : Tmp} {ty : TypeId} (h : fn.results = #[.cell p ty, .tmp q, .tmp q']) (tmps : Array Value) (w : World) (g : Nat) (t : TypeId) (cs : Array Value) (fr : Nat × Nat) (d : TypeDesc) (v v' : Value)
    (hp : tmps.getD p undef = .pointer (some ⟨g, 0, none⟩)) (hq : tmps.getD q undef = v) (hq' : tmps.getD q' undef = v') (hg : w.heap[g]? = some (.cells cs t fr))
    (hu : P.underlying ty = some d) (hd : (match d with | .struct _ | .array _ _ => true | _ => false) = true) (hi : (P.info? ty).map (·.size) = some cs.size) :
    (results fn tmps).run P w = .ok (.tuple #[.agg cs, v, v']) w := by
  have hp' : tmps[p]?.getD undef = .pointer (some ⟨g, 0, none⟩) := by simpa using hp
  have h1 : tmps[q]?.getD undef = v := by simpa using hq
  have h2 : tmps[q']?.getD undef = v' := by simpa using hq'
  simp [results, h, hp', h1, h2, asAddr, run_loadVar_row w g t ty cs fr d hg hu hd hi]

/-- rulesOf and then Compile. -/
theorem bothW (rs : List Rl) (W W1 W2 : World) (v' : Value) (hS : rs.length ≤ 1048576 ∧ ∀ r ∈ rs, rlSm 1048576 r) (h : OwnL W.heap.size W1 39 cdRl v' rs) (hb : Below W1.heap.size W1 W2) :
    Calls Try.prog 10 #[v'] W2 (CompRes rs W2) := by
  have h2 : RRules (fun b => b < W2.heap.size) W2 v' rs := (h.below hb).rsl' (F := fun b => b < W2.heap.size) (fun b _ h => h)
  exact compileW v' rs W2 h2 hS

theorem MkAt.plan2 {base g mb : Nat} {W : World} {av nv ev : Value} {st : St} {es : List Nat} (h : MkAt base g mb W av nv ev st es) : RPlan (fun b => base ≤ b) W av nv ev st es :=
  ⟨RSl.kp (h.al.rsl (G := fun b => base ≤ b) (fun _b hb => (h.al.block hb).1)) (Kp.refl _ _) (fun _ _ h => h) (fun _ _ h => cdShp.kp _ _ _ _ _ _ h (Kp.refl _ _) (fun _b _ hb => hb.1)),
    RSl.kp (h.ns.rsl (G := fun b => base ≤ b) (fun _b hb => (h.ns.block hb).1)) (Kp.refl _ _) (fun _ _ h => h) (fun _ _ h => cdNd.kp _ _ _ _ _ _ h (Kp.refl _ _) (fun _b _ hb => hb.1)),
    RSl.kp (h.en.rsl (G := fun b => base ≤ b) (fun _b hb => (h.en.block hb).1)) (Kp.refl _ _) (fun _ _ h => h) (fun _ _ h => cdInt.kp _ _ _ _ _ _ h (Kp.refl _ _) (fun _b _ hb => hb.1))⟩
/-- What the loops find. -/
structure Sound (base : Nat) (W : World) (av nv ev : Value) (st : St) (es : List Nat) (n : Nat) : Prop where
  plan : RPlan (fun b => base ≤ b) W av nv ev st es
  wf : Wf st
  len : es.length = n
  ends : ∀ e ∈ es, e < st.ns.length
theorem sound_of {base : Nat} {rs : List Rl} {W : World} {av nv ev : Value} (h : RPlan (fun b => base ≤ b) W av nv ev (compF rs).1 (compF rs).2) : Sound base W av nv ev (compF rs).1 (compF rs).2 rs.length := by
  have hm := made_comp rs
  refine ⟨h, hm.wf, hm.len, fun e he => ?_⟩
  obtain ⟨i, hi, rfl⟩ := List.getElem_of_mem he
  obtain ⟨r, hr⟩ : ∃ r, rs[i]? = some r := ⟨_, List.getElem?_eq_getElem (by rw [← hm.len]; exact hi)⟩
  obtain ⟨_, e', h1, _, h2⟩ := hm.ways i r hr
  rw [List.getElem?_eq_getElem hi] at h1
  injection h1 with h1
  omega

set_option maxRecDepth 200000 in
set_option maxHeartbeats 8000000 in
theorem madeW {F : Nat → Prop} (v : Value) (rs : List Rl) (W : World) (h : RRules F W v rs) (hS : rs.length ≤ 1048576 ∧ ∀ r ∈ rs, rlSm 1048576 r) :
    Calls Try.prog 15 #[v] W (MadeRes rs W) := by
  obtain ⟨A, c, rfl⟩ := h.form
  have hm := hS.1
  have H := Lib.hid (RRules.kp (F' := fun b => b < W.heap.size) h (Kp.refl _ _) (fun b hb _ => hb))
  have SM := Lib.hid hS
  clear h hS
  go_enter Try.func15, Try.ntmps15
  go_wp2
  go_loopw [5] (fun i wr => ∃ k : Nat, i = .int .i64 k ∧ k ≤ rs.length ∧ (∀ r ∈ rs.take k, mayP r) ∧ Below (W.heap.size + 1) (W.alloc (.cells #[.slice none 0 0, .slice none 0 0, .slice none 0 0] 27)) wr) (fun i _ => rs.length - (intOf i).toNat)
  case atStart => exact ⟨0, rfl, Nat.zero_le _, by simp, Below.refl _ _⟩
  case round =>
    obtain ⟨k, rfl, hk, hq, hb⟩ := hrel
    have bw := box_below hb
    have hwz : W.heap.size < wr.heap.size := by have := hb.size; simp at this; omega
    by_cases hkn : k < rs.length
    · obtain ⟨r, hr⟩ : ∃ r, rs[k]? = some r := ⟨_, List.getElem?_eq_getElem hkn⟩
      obtain ⟨b, off, rfl, hFb, hbs, cs, ⟨hv, pv, tv, nv, vv, hE⟩, hc⟩ := (RRules.kp H.out (Kp.of_below bw) (fun _ _ h => h)).at hr
      have hcs := hE.cells
      subst hcs
      have c0 := hc 0 _ rfl
      have c1 := hc 1 _ rfl
      have c2 := hc 2 _ rfl
      have c3 := hc 3 _ rfl
      have c4 := hc 4 _ rfl
      have c5 := hc 5 _ rfl
      have c6 := hc 6 _ rfl
      simp only [Nat.add_zero] at c0
      have hsm := SM.out.2 r (List.mem_of_getElem? hr)
      have CY := Lib.hid (widthW r wr hE hsm)
      obtain ⟨Ah, ch, rfl⟩ := hE.head.form
      obtain ⟨Ap, cp, rfl⟩ := hE.pos.form
      obtain ⟨At, ct, rfl⟩ := hE.tests.form
      obtain ⟨An, cn, rfl⟩ := hE.neg.form
      obtain ⟨Av, cv, rfl⟩ := hE.vars.form
      have e1 : (0 : Int) ≤ (k : Int) := by omega
      have e2 : (k : Int) < (rs.length : Int) := by omega
      have HR := Lib.hid hr
      have HK := Lib.hid hkn
      have HQ := Lib.hid hq
      have HB := Lib.hid hb
      clear hc hr hkn hq hE hsm
      by_cases hmp : mayP r
      · have HM := Lib.hid (mayB_true hmp)
        have HQ2 := Lib.hid (take_all HQ.out HR.out hmp)
        clear hmp bw hb
        go_wp2_with fail
        refine CY.out.mono ?_
        rintro e w2 ⟨n, he, hb2⟩
        rw [HM.out] at he
        subst he
        have HB2 := Lib.hid (box_step HB.out hb2)
        clear hb2
        go_wp2
        exact ⟨⟨k + 1, by go_num, HK.out, HQ2.out, HB2.out⟩, by simp [intOf]; have := HK.out; omega⟩
      · have HM := Lib.hid (mayB_false hmp)
        have HF := Lib.hid (show ∃ r ∈ rs, ¬ mayP r from ⟨r, List.mem_of_getElem? HR.out, hmp⟩)
        clear hmp bw hb
        go_wp2_with fail
        refine CY.out.mono ?_
        rintro e w2 ⟨n, he, hb2⟩
        rw [HM.out] at he
        subst he
        have hb3 := box_step HB.out hb2
        have HB3 := Lib.hid hb3
        clear hb2 hb3
        go_wp2_with fail
        refine (rulesOfW _ rs w2 (RRules.kp H.out (Kp.of_below (box_below HB3.out)) (fun _ _ h => h)) SM.out).mono ?_
        rintro e w4 ⟨v', rfl, hO, hb4⟩
        have hb5 := box_step HB3.out hb4
        have HB5 := Lib.hid hb5
        have HO := Lib.hid hO
        clear hb4 hb5 hO
        go_wp2_with fail
        refine (bothW rs w2 w4 w4 v' SM.out HO.out (Below.refl _ _)).mono ?_
        rintro e w6 ⟨hb6, hres⟩
        rcases hres with ⟨hall, _⟩ | ⟨_, rfl⟩
        · exact absurd hall (fun hall => by obtain ⟨r, hr, hn⟩ := HF.out; exact hn (hall r hr))
        have hb7 := box_step HB5.out (hb6.trans ((Below.refl _ _).alloc hb6.size (.cells #[.slice none 0 0, .slice none 0 0, .slice none 0 0] 27)))
        have eb : (w6.alloc (.cells #[.slice none 0 0, .slice none 0 0, .slice none 0 0] 27)).heap[W.heap.size]? = some (.cells #[.slice none 0 0, .slice none 0 0, .slice none 0 0] 27 (0, 0)) := (hb7.block _ (by simp)).trans (heap_alloc_new W _)
        have f0 := cell_of_row _ _ 0 _ _ _ eb
        have f1 := cell_of_row _ _ 1 _ _ _ eb
        have f2 := cell_of_row _ _ 2 _ _ _ eb
        simp only [List.getElem?_toArray, List.getElem?_cons_zero, List.getElem?_cons_succ] at f0 f1 f2
        have fz : ∀ o, (w6.alloc (.cells #[.slice none 0 0, .slice none 0 0, .slice none 0 0] 27)).frozen? ⟨W.heap.size, o, none⟩ = false := fun o => by simp [World.frozen?, eb]
        have ef := Lib.hid (heap_setCell_same _ _ 2 _ _ (.slice none 0 0) (heap_setCell_same _ _ 1 _ _ (.slice none 0 0) (heap_setCell_same _ _ 0 _ _ (.slice none 0 0) eb)))
        have HB7 := Lib.hid (box_below hb7)
        clear hb6 hb7 eb
        go_wp2
        exact bodyPost_ret (v := .tuple #[.agg #[.slice none 0 0, .slice none 0 0, .slice none 0 0], .bool false, .bool true]) (results_row_slot2 rfl _ _ W.heap.size 27 #[.slice none 0 0, .slice none 0 0, .slice none 0 0] (0, 0) _ _ _ rfl rfl rfl ef.out Try.underlying27 rfl sizePlan) rfl
          (made_no (((HB7.out.setCell (Nat.le_refl _) _).setCell (Nat.le_refl _) _).setCell (Nat.le_refl _) _) HF.out)
    · obtain rfl : k = rs.length := by omega
      rw [List.take_length] at hq
      have HQ := Lib.hid hq
      have HQ0 := Lib.hid hq
      have HB := Lib.hid hb
      clear hq hb bw hkn
      go_wp2_with fail
      refine (rulesOfW _ rs wr (RRules.kp H.out (Kp.of_below (box_below HB.out)) (fun _ _ h => h)) SM.out).mono ?_
      rintro e w4 ⟨v', rfl, hO, hb4⟩
      have hb5 := box_step HB.out hb4
      have HB5 := Lib.hid hb5
      have HO := Lib.hid hO
      clear hb4 hb5 hO
      go_wp2_with fail
      refine (bothW rs wr w4 w4 v' SM.out HO.out (Below.refl _ _)).mono ?_
      rintro e w6 ⟨hb6, hres⟩
      rcases hres with ⟨_, av, nv, ev, base, g, mb, hbase, rfl, hMk⟩ | ⟨hex, _⟩
      rotate_left
      · exact absurd hex (fun ⟨r, hr, hn⟩ => hn (HQ.out r hr))
      have hb7 := box_step HB5.out (hb6.trans ((Below.refl _ _).alloc hb6.size (.cells #[av, nv, ev] 27)))
      have SD := Lib.hid (sound_of hMk.plan2)
      have hw6 : W.heap.size < w6.heap.size := by have := HB5.out.size; have := hb6.size; simp at *; omega
      clear hMk
      obtain ⟨st, hst⟩ : ∃ st, (compF rs).1 = st := ⟨_, rfl⟩
      obtain ⟨es, hes⟩ : ∃ es, (compF rs).2 = es := ⟨_, rfl⟩
      rw [hst, hes] at SD
      have HST := Lib.hid (And.intro hst hes)
      obtain ⟨hP, hwf, hlen, hends⟩ := SD.out
      have hnl := hwf.len
      obtain ⟨nb, no, nc, rfl, _, hnb, hnc⟩ := RSl.base hP.ns hnl
      obtain ⟨A1, C1, rfl⟩ := hP.en.form
      obtain ⟨A3, C3, rfl⟩ := hP.al.form
      obtain ⟨cs0, ⟨l0, w0, hr0⟩, hc0⟩ := hnc 0 _ hwf.root
      have hcs0 := hr0.cells
      subst hcs0
      have z0 := (World.cell?_of_block (a := ⟨nb, no, none⟩) (Below.heap_alloc w6 (.cells #[.slice A3 st.al.length C3, .slice (some ⟨nb, no, none⟩) st.ns.length nc, .slice A1 (es.map fun (e : Nat) => (e : Int)).length C1] 27) nb hnb)).trans (by simpa using hc0 0 _ rfl)
      have HB7 := Lib.hid hb7
      have HQ2 := Lib.hid hnc
      have HE := Lib.hid hends
      have HW := Lib.hid hwf
      have hl2 : (es.map fun (e : Nat) => (e : Int)).length = rs.length := by simp [hlen]
      simp only [hl2] at z0 HB7 SD ⊢
      have HLE := Lib.hid hlen
      clear hb6 hb7 hst hes hP hwf hlen hends hnc hr0 hc0 HQ
      have g1 : ((st.ns.length : Int) == (0 : Int)) = false := by simp; intro h; simp [h] at hnl
      have g2 : decide ((st.ns.length : Int) = (0 : Int)) = false := by simp; intro h; simp [h] at hnl
      have g3 : ¬ st.ns = [] := by intro h; simp [h] at hnl
      have g4 : ¬ st.ns.length = 0 := by omega
      go_wp2_with fail
      clear z0 g1 g2 g3 g4
      go_loopw [12] (fun i wr => ∃ k : Nat, i = .int .i64 k ∧ k ≤ rs.length ∧ Below (w6.heap.size + 1) (w6.alloc (.cells #[.slice A3 st.al.length C3, .slice (some ⟨nb, no, none⟩) st.ns.length nc, .slice A1 rs.length C1] 27)) wr) (fun i _ => rs.length - (intOf i).toNat)
      case atStart => exact ⟨0, rfl, Nat.zero_le _, Below.refl _ _⟩
      case round =>
        obtain ⟨k, rfl, hk, hb⟩ := hrel
        have y1 := box_cell hb 1 _ rfl
        have y2 := box_cell hb 2 _ rfl
        have hwr : w6.heap.size < wr.heap.size := by have := hb.size; simp at this; omega
        by_cases hkn : k < rs.length
        · obtain ⟨e, he⟩ : ∃ e, es[k]? = some e := ⟨_, List.getElem?_eq_getElem (by rw [HLE.out]; exact hkn)⟩
          have hp := SD.out.plan.kp (F' := fun b => base ≤ b) (Kp.of_below (box_below hb)) (fun _ _ h => h)
          have hen := hp.en
          rw [show (es.map fun (e : Nat) => (e : Int)).length = rs.length from hl2] at *
          obtain ⟨eb, eo, rfl, heb, heb2, cs, ⟨rfl, _⟩, hc⟩ := RSl.at hen (i := k) (x := (e : Int)) (by simp [he])
          have c0 := hc 0 _ rfl
          have c1 := HE.out e (List.mem_of_getElem? he)
          simp only [Nat.add_zero, Nat.mul_one] at c0
          have e1 : (0 : Int) ≤ (k : Int) := by omega
          have e2 : (k : Int) < (rs.length : Int) := by omega
          have e3 : ¬ (e : Int) < 0 := by omega
          have e4 : (e : Int) < (st.ns.length : Int) := by omega
          have e5 : ¬ (st.ns.length : Int) ≤ (e : Int) := by omega
          have HK := Lib.hid hkn
          have HB := Lib.hid hb
          clear hc he hp hen hkn hb c1
          go_wp2_with fail
          go_quiet (fail)
          go_wp2
          refine ⟨⟨_, _, _, _, _, _, _, _, _, _, _, _, _, _, _, _, _, _, _, _, _, _, _, _, _, _, _, _, ?_, rfl⟩, ?_⟩
          · exact ⟨k + 1, by go_num, HK.out, below_drewN HB.out _⟩
          · show rs.length - (intOf (.int .i64 ((k : Int) + 1))).toNat < rs.length - (intOf (.int .i64 (k : Int))).toNat
            simp [intOf]
            have := HK.out
            omega
        · obtain rfl : k = rs.length := by omega
          have HB := Lib.hid hb
          clear hb hkn
          have g0 : (1 : Int) ≤ (st.ns.length : Int) := by omega
          go_wp2_with fail
          clear y1 y2
          have WB := Lib.hid (And.intro HB.out hwr)
          clear HB
          obtain ⟨wo, rfl⟩ : ∃ wo : World, wo = wr := ⟨_, rfl⟩
          go_loopw [13] (fun i wr => ∃ k : Nat, i = .int .i64 k ∧ 1 ≤ k ∧ k ≤ st.ns.length ∧ Below (w6.heap.size + 1) (w6.alloc (.cells #[.slice A3 st.al.length C3, .slice (some ⟨nb, no, none⟩) st.ns.length nc, .slice A1 rs.length C1] 27)) wr) (fun i _ => st.ns.length - (intOf i).toNat)
          case atStart => exact ⟨1, rfl, Nat.le_refl _, hnl, WB.out.1⟩
          case round =>
            obtain ⟨k, rfl, hk1, hk, hb⟩ := hrel
            clear hwr
            have hml : st.ns.length ≤ 9223372036854775807 := Nat.le_trans SD.out.plan.ns.len (by unfold maxLen; decide)
            have y0 := box_cell hb 0 _ rfl
            have y1 := box_cell hb 1 _ rfl
            have y2 := box_cell hb 2 _ rfl
            have hwr : w6.heap.size < wr.heap.size := by have := hb.size; simp at this; omega
            by_cases hkn : k < st.ns.length
            · obtain ⟨n, hn⟩ : ∃ n, st.ns[k]? = some n := ⟨_, List.getElem?_eq_getElem hkn⟩
              obtain ⟨u, hu, hpar, hkind⟩ := HW.out.par k n hn hk1
              have hp := (SD.out.plan.kp (F' := fun b => base ≤ b) (Kp.of_below (box_below hb)) (fun _ _ h => h)).ns
              obtain ⟨nb', no', hA', hnb', hnb2', cs, ⟨lv, nv, hE⟩, hc⟩ := RSl.at hp hn
              simp only [Option.some.injEq, Addr.mk.injEq, and_true] at hA'
              obtain ⟨rfl, rfl⟩ := hA'
              have hcs := hE.cells
              subst hcs
              have c0 := hc 0 _ rfl
              have c1 := hc 1 _ rfl
              simp only [Nat.add_zero] at c0
              rw [hpar] at c1
              obtain ⟨q, hq⟩ : ∃ q, n.kind = q := ⟨_, rfl⟩
              rw [hq] at c0 hkind
              have e1 : (0 : Int) ≤ (k : Int) := by omega
              have e2 : (k : Int) < (st.ns.length : Int) := by omega
              have e3 : ¬ (u : Int) < 0 := by omega
              have e4 : (u : Int) < (k : Int) := by omega
              have e5 : ¬ (k : Int) ≤ (u : Int) := by omega
              have e6 : ¬ q = 0 := by omega
              have HK := Lib.hid hkn
              have HB := Lib.hid hb
              have HK1 := Lib.hid hk1
              clear hc hn hp hE hkn hb hk1 hkind hpar
              go_wp2_with fail
              exact ⟨⟨k + 1, by go_num, by omega, HK.out, HB.out⟩, by simp [intOf]; have := HK.out; omega⟩
            · obtain rfl : k = st.ns.length := by omega
              have hp := SD.out.plan.kp (F' := fun b => base ≤ b) (Kp.of_below (box_below hb)) (fun _ _ h => h)
              have hb9 := box_step HB7.out (wr' := wr) (by simpa using hb)
              have hrb : wr.heap[W.heap.size]? = some (.cells #[.slice none 0 0, .slice none 0 0, .slice none 0 0] 27 (0, 0)) := (hb9.block _ (by simp)).trans (heap_alloc_new W _)
              have f0 := rbox (j := 0) hrb rfl
              have f1 := rbox (j := 1) hrb rfl
              have f2 := rbox (j := 2) hrb rfl
              have fz : ∀ o, wr.frozen? ⟨W.heap.size, o, none⟩ = false := fun o => by simp [World.frozen?, hrb]
              have hrl := lt_of_heap hrb
              have HBS := Lib.hid (show W.heap.size < base by have := HB5.out.size; simp at this; omega)
              have ef := Lib.hid (heap_setCell_same _ _ 2 _ _ (.slice A1 rs.length C1) (heap_setCell_same _ _ 1 _ _ (.slice (some ⟨nb, no, none⟩) st.ns.length nc) (heap_setCell_same _ _ 0 _ _ (.slice A3 st.al.length C3) hrb)))
              have HP := Lib.hid hp
              have HB9 := Lib.hid (box_below hb9)
              have T : Hid (Turns [W.heap.size] wr (((wr.setCell ⟨W.heap.size, 0, none⟩ (.slice A3 st.al.length C3)).setCell ⟨W.heap.size, 1, none⟩ (.slice (some ⟨nb, no, none⟩) st.ns.length nc)).setCell ⟨W.heap.size, 2, none⟩ (.slice A1 rs.length C1))) :=
                Lib.hid ((((Turns.refl _ _).setCell (.inl (by simp)) _).setCell (.inl (by simp)) _).setCell (.inl (by simp)) _)
              clear hp hb9 hrb hb hkn hk1
              go_wp2
              refine bodyPost_ret (v := .tuple #[.agg #[.slice A3 st.al.length C3, .slice (some ⟨nb, no, none⟩) st.ns.length nc, .slice A1 rs.length C1], .bool true, .bool true]) (results_row_slot2 rfl _ _ W.heap.size 27 #[.slice A3 st.al.length C3, .slice (some ⟨nb, no, none⟩) st.ns.length nc, .slice A1 rs.length C1] (0, 0) _ _ _ rfl rfl rfl ef.out Try.underlying27 rfl sizePlan) rfl ?_
              refine ⟨((HB9.out.setCell (Nat.le_refl _) _).setCell (Nat.le_refl _) _).setCell (Nat.le_refl _) _, .inl ⟨HQ0.out, _, _, _, rfl, ?_⟩⟩
              rw [HST.out.1, HST.out.2]
              exact HP.out.kp (Kp.of_turns T.out (fun x hx => by simp only [List.mem_singleton] at hx; have := HBS.out; omega)) (fun b hb _ => Nat.lt_of_lt_of_le hb T.out.size)
end Go.Proofs.Ytonkbjdeaneicaa
