/- Check: a plan is well formed. -/
import Derived.Test.YtonkbjdeaneicaaChkR
import Derived.Test.YtonkbjdeaneicaaChkE
namespace Go.Proofs.Ytonkbjdeaneicaa.Pln
open Classical
def checkP (al : List Shp) (ns : List Nd) (es : List Int) : Prop := shapesP al ns ∧ nodesP al ns ∧ endsP ns es
theorem nodesP_par {al : List Shp} {ns : List Nd} (h : nodesP al ns) : Par ns := by
  intro i n hn hi
  obtain ⟨u, _, h1, h2, _⟩ := h.2 i hi (List.getElem?_eq_some_iff.1 hn).1 n hn
  exact ⟨u, h2, h1⟩
theorem wayG_dep {ns : List Nd} (h : Par ns) : ∀ (f e : Nat), e ≤ f → e < ns.length → (wayG ns f e).length = depOf ns e
  | 0, e, he, _ => by
    obtain rfl : e = 0 := by omega
    rfl
  | f + 1, e, he, hn => by
    by_cases h0 : e = 0
    · subst h0
      simp only [wayG, if_true]
      rfl
    · obtain ⟨n, hne⟩ : ∃ n, ns[e]? = some n := ⟨_, List.getElem?_eq_getElem hn⟩
      obtain ⟨u, hu, hp⟩ := h e n hne (by omega)
      have hpo : parentOf ns e = u := by unfold parentOf; rw [hne]; simp only; omega
      simp only [wayG, if_neg h0, hpo, List.length_append, List.length_cons, List.length_nil]
      rw [wayG_dep h f u (by omega) (by omega), depOf_next hpo hu]
theorem way_short {al : List Shp} {ns : List Nd} (h : nodesP al ns) {e : Nat} (he : e < ns.length) : (wayN ns e).length ≤ 16 := by
  unfold wayN
  rw [wayG_dep (nodesP_par h) e e (Nat.le_refl _) he]
  rcases Nat.eq_zero_or_pos e with rfl | hp
  · rw [depOf_zero]; omega
  · obtain ⟨_, _, _, _, _, h4, _⟩ := h.2 e hp he _ (List.getElem?_eq_getElem he)
    exact h4
end Go.Proofs.Ytonkbjdeaneicaa.Pln
namespace Go.Proofs.Ytonkbjdeaneicaa
open Go.RowKit Pln Classical Go.Maps

set_option maxRecDepth 200000 in
set_option maxHeartbeats 4000000 in
theorem checkW {F : Nat → Prop} (W : World) (av nv ev : Value) (al : List Shp) (ns : List Nd) (es : List Int) (hA : RSl F W 2 (EShp F W) av al) (hN : RSl F W 11 (ENode F W) nv ns) (hE : RSl F W 1 EInt ev es) (hm : ns.length ≤ 1000000000) (hml : ∀ n ∈ ns, n.new.length ≤ 1000000000) :
    Calls Try.prog 22 #[.agg #[av, nv, ev]] W fun e W' => e = .returned (.int .i64 (if checkP al ns es then 0 else 2)) ∧ Below W.heap.size W W' := by
  have kpA := fun (Wx : World) (hb : Below W.heap.size W Wx) => RSl.kp (F' := F) (E' := EShp F Wx) hA (Kp.of_below hb) (fun _ _ h => h) (fun _ _ h => h.kp (Kp.of_below hb) (fun _ _ h => h))
  have kpN := fun (Wx : World) (hb : Below W.heap.size W Wx) => RSl.kp (F' := F) (E' := ENode F Wx) hN (Kp.of_below hb) (fun _ _ h => h) (fun _ _ h => h.kp (Kp.of_below hb) (fun _ _ h => h))
  have SW := Lib.hid (fun (Wx : World) (hb : Below W.heap.size W Wx) => shapesW Wx av nv ev al ns (kpA Wx hb) (kpN Wx hb))
  have NW := Lib.hid (fun (Wx : World) (hb : Below W.heap.size W Wx) (hs : shapesP al ns) => nodesW Wx av nv ev al ns (kpA Wx hb) (kpN Wx hb) hs hm hml)
  have EW := Lib.hid (fun (Wx : World) (hb : Below W.heap.size W Wx) (hn : nodesP al ns) => endsW Wx av nv ev al ns es (kpN Wx hb) (hE.keep (Kp.of_below hb)) (nodesP_par hn) (List.getElem?_eq_some_iff.1 hn.1).1 hm (fun e he => Nat.le_trans (way_short hn he) (by omega)))
  obtain ⟨R, hR⟩ : ∃ R : Int, (if checkP al ns es then 0 else 2) = R := ⟨_, rfl⟩
  rw [hR]
  have HR := Lib.hid hR
  clear hR hA hN hE kpA kpN
  have NO := Lib.hid (show ¬ checkP al ns es → R = 2 from fun h => by rw [← HR.out, if_neg h])
  have hB0 : Below (W.heap.size + 1) (W.alloc (.cells #[av, nv, ev] 27)) (W.alloc (.cells #[av, nv, ev] 27)) := Below.refl _ _
  have y0 := box_cellL hB0 0 rfl
  have y1 := box_cellL hB0 1 rfl
  have y2 := box_cellL hB0 2 rfl
  have HB0 := Lib.hid hB0
  have C1 := Lib.hid (SW.out _ (box_below hB0))
  clear hB0
  go_enter Try.func22, Try.ntmps22
  go_wp2_with fail
  refine C1.out.mono ?_
  rintro e w2 ⟨rfl, hb2⟩
  have hB2 := box_step HB0.out hb2
  have y0 := box_cellL hB2 0 rfl
  have y1 := box_cellL hB2 1 rfl
  have y2 := box_cellL hB2 2 rfl
  have HB2 := Lib.hid hB2
  clear hb2 hB2 C1
  by_cases hs : shapesP al ns
  · rw [decide_eq_true hs]
    have C2 := Lib.hid (NW.out _ (box_below HB2.out) hs)
    go_wp2_with fail
    refine C2.out.mono ?_
    rintro e w3 ⟨rfl, hb3⟩
    have hB3 := box_step HB2.out hb3
    have y0 := box_cellL hB3 0 rfl
    have y1 := box_cellL hB3 1 rfl
    have y2 := box_cellL hB3 2 rfl
    have HB3 := Lib.hid hB3
    clear hb3 hB3 C2
    by_cases hn : nodesP al ns
    · rw [decide_eq_true hn]
      have C3 := Lib.hid (EW.out _ (box_below HB3.out) hn)
      go_wp2_with fail
      refine C3.out.mono ?_
      rintro e w4 ⟨rfl, hb4⟩
      have HB4 := Lib.hid (box_below (box_step HB3.out hb4))
      clear hb4 C3
      by_cases he : endsP ns es
      · rw [decide_eq_true he]
        have HF := Lib.hid (show R = 0 by rw [← HR.out, if_pos ⟨hs, hn, he⟩])
        clear he
        go_wp2
        go_ret
        exact ⟨by rw [HF.out]; rfl, HB4.out⟩
      · rw [decide_eq_false he]
        have HF := Lib.hid (NO.out (fun h => he h.2.2))
        clear he
        go_wp2
        go_ret
        exact ⟨by rw [HF.out]; rfl, HB4.out⟩
    · rw [decide_eq_false hn]
      have HF := Lib.hid (NO.out (fun h => hn h.2.1))
      clear hn
      go_wp2
      go_ret
      exact ⟨by rw [HF.out]; rfl, box_below HB3.out⟩
  · rw [decide_eq_false hs]
    have HF := Lib.hid (NO.out (fun h => hs h.1))
    clear hs
    go_wp2
    go_ret
    exact ⟨by rw [HF.out]; rfl, box_below HB2.out⟩
end Go.Proofs.Ytonkbjdeaneicaa
