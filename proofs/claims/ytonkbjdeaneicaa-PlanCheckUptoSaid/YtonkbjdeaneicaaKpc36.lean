/- The reference's Equal: are two plans the same? The reference's Check: a plan is well formed if the rules read back compile to it. -/
import Derived.Test.YtonkbjdeaneicaaKpc24
import Derived.Test.YtonkbjdeaneicaaKpc28
import Derived.Test.YtonkbjdeaneicaaKpc29
import Derived.Test.YtonkbjdeaneicaaKpc34
import Derived.Test.YtonkbjdeaneicaaKpc35
import Derived.Deep.RegionHeld3
namespace Go.Proofs.Ytonkbjdeaneicaa
open Go.RowKit Pln Classical Go.Maps

/-- The worlds of Equal: two boxes ahead of all. -/
structure EqS (W : World) (a b : Array Value) (wr : World) : Prop where
  ha : wr.heap[W.heap.size]? = some (.cells a 27 (0, 0))
  hb : wr.heap[W.heap.size + 1]? = some (.cells b 27 (0, 0))
  below : Below W.heap.size W wr
section
variable {W wr wr' : World} {a b : Array Value}
theorem EqS.lt (h : EqS W a b wr) : W.heap.size + 1 < wr.heap.size := lt_of_heap h.hb
theorem EqS.step (h : EqS W a b wr) (hx : Below wr.heap.size wr wr') : EqS W a b wr' :=
  ⟨(hx.block _ (by have := h.lt; omega)).trans h.ha, (hx.block _ h.lt).trans h.hb, h.below.trans (hx.mono h.below.size)⟩
theorem EqS.drew (h : EqS W a b wr) : EqS W a b wr.drew := h.step (Below.refl _ _).drew
theorem EqS.start : EqS W a b ((W.alloc (.cells a 27)).alloc (.cells b 27)) := by
  refine ⟨?_, ?_, ((Below.refl _ _).alloc (Nat.le_refl _) _).alloc (by simp) _⟩
  · rw [Below.heap_alloc _ _ _ (by simp)]
    exact heap_alloc_new W _
  · have := heap_alloc_new (W.alloc (.cells a 27)) (.cells b 27)
    simpa using this
end
set_option maxRecDepth 200000 in
set_option maxHeartbeats 8000000 in
theorem requalW {F G : Nat → Prop} (W : World) (av nv ev bv mv fv : Value) (al bl : List Shp) (ns ms : List Nd) (es fs : List Int) (h : RPl F W av nv ev al ns es) (h' : RPl G W bv mv fv bl ms fs) (l1 : al.length ≤ 1000000000) (l2 : ns.length ≤ 1000000000) (l3 : bl.length ≤ 1000000000) (l4 : ms.length ≤ 1000000000) :
    Calls Try.prog 11 #[.agg #[av, nv, ev], .agg #[bv, mv, fv]] W fun e W' => e = .returned (.bool (decide (al = bl ∧ ns = ms ∧ es = fs))) ∧ Below W.heap.size W W' := by
  have HA := Lib.hid h
  have HB := Lib.hid h'
  have EI := Lib.hid (fun (Wx : World) (hb : Below W.heap.size W Wx) => requalIntsW ev fv es fs Wx ((HA.out.below hb).en) ((HB.out.below hb).en))
  obtain ⟨Aa, ca, rfl⟩ := h.al.form
  obtain ⟨An, cn, rfl⟩ := h.ns.form
  obtain ⟨Ab, cb, rfl⟩ := h'.al.form
  obtain ⟨Am, cm, rfl⟩ := h'.ns.form
  obtain ⟨R, hR⟩ : ∃ R, decide (al = bl ∧ ns = ms ∧ es = fs) = R := ⟨_, rfl⟩
  rw [hR]
  have NO := Lib.hid (show ¬ (al = bl ∧ ns = ms ∧ es = fs) → R = false from fun h => by rw [← hR]; exact decide_eq_false h)
  have YES := Lib.hid (show al = bl → ns = ms → es = fs → R = true from fun h1 h2 h3 => by rw [← hR]; exact decide_eq_true ⟨h1, h2, h3⟩)
  clear hR h h'
  have h80 : EqS W #[.slice Aa al.length ca, .slice An ns.length cn, ev] #[.slice Ab bl.length cb, .slice Am ms.length cm, fv] ((W.alloc (.cells #[.slice Aa al.length ca, .slice An ns.length cn, ev] 27)).alloc (.cells #[.slice Ab bl.length cb, .slice Am ms.length cm, fv] 27)) := EqS.start
  have C1 := Lib.hid (EI.out _ h80.below)
  have HB2 := Lib.hid h80
  clear h80 EI
  go_enter Try.func11, Try.ntmps11
  by_cases hl1 : al.length = bl.length
  case neg =>
    have e1 : ((al.length : Int) != (bl.length : Int)) = true := by simp; omega
    have HF := Lib.hid (NO.out (fun h => hl1 (by rw [h.1])))
    clear hl1
    go_wp2
    go_ret
    exact ⟨by rw [HF.out]; rfl, HB2.out.below⟩
  have e1 : ((al.length : Int) != (bl.length : Int)) = false := by simp; omega
  by_cases hl2 : ns.length = ms.length
  case neg =>
    have e2 : ((ns.length : Int) != (ms.length : Int)) = true := by simp; omega
    have HF := Lib.hid (NO.out (fun h => hl2 (by rw [h.2.1])))
    clear hl1 hl2
    go_wp2
    go_ret
    exact ⟨by rw [HF.out]; rfl, HB2.out.below⟩
  have e2 : ((ns.length : Int) != (ms.length : Int)) = false := by simp; omega
  have HL := Lib.hid (And.intro hl1 hl2)
  clear hl1 hl2
  go_wp2_with fail
  refine C1.out.mono ?_
  rintro e w2 ⟨rfl, hb2⟩
  have HE2 := Lib.hid (HB2.out.step hb2)
  clear hb2 C1
  by_cases hes : es = fs
  case neg =>
    have HF := Lib.hid (NO.out (fun h => hes h.2.2))
    rw [show eqB es fs = false from eqB_ne hes]
    clear hes
    go_wp2
    go_ret
    exact ⟨by rw [HF.out]; rfl, HE2.out.below⟩
  rw [show eqB es fs = true from eqB_eq hes]
  have HES := Lib.hid hes
  clear hes HB2
  go_wp2
  go_loopw [5] (fun iv wr => ∃ k : Nat, iv = .int .i64 k ∧ k ≤ al.length ∧ (∀ j, j < k → al[j]? = bl[j]?) ∧ EqS W #[.slice Aa al.length ca, .slice An ns.length cn, ev] #[.slice Ab bl.length cb, .slice Am ms.length cm, fv] wr) (fun iv _ => al.length - (intOf iv).toNat)
  case atStart => exact ⟨0, rfl, Nat.zero_le _, fun j h => by omega, HE2.out⟩
  case round =>
    obtain ⟨k, rfl, hk, hq, hst⟩ := hrel
    clear HE2
    have hlt := hst.lt
    have y0 := rboxL hst.ha 0 rfl
    have y1 := rboxL hst.ha 1 rfl
    by_cases hkn : k < al.length
    · obtain ⟨a, ha⟩ : ∃ a, al[k]? = some a := ⟨_, List.getElem?_eq_getElem hkn⟩
      obtain ⟨b, hb⟩ : ∃ b, bl[k]? = some b := ⟨_, List.getElem?_eq_getElem (by have := HL.out.1; omega)⟩
      obtain ⟨b1, o1, rfl, -, hl1, cs1, ⟨v1, rfl, -, ea⟩, hc1⟩ := HA.out.al.at ha
      obtain ⟨b2, o2, rfl, -, hl2, cs2, ⟨v2, rfl, -, eb⟩, hc2⟩ := HB.out.al.at hb
      obtain ⟨A1, c1, rfl⟩ := ea.form
      obtain ⟨A2, c2, rfl⟩ := eb.form
      obtain ⟨S, hSe⟩ : ∃ S, S = EqS W #[.slice (some ⟨b1, o1, none⟩) al.length ca, .slice An ns.length cn, ev] #[.slice (some ⟨b2, o2, none⟩) bl.length cb, .slice Am ms.length cm, fv] := ⟨_, rfl⟩
      have bn := fun (p : Pt S) => (congrFun hSe p.val).mp p.property
      have CE := Lib.hid (fun (Wx : World) (hx : Below W.heap.size W Wx) => requalShapeW a b _ _ Wx (ea.keep (Kp.of_below hx)) (eb.keep (Kp.of_below hx)))
      have x0 := fun (p : Pt S) => ((bn p).below.cell (p := ⟨b1, o1 + k * 2 + 0, none⟩) hl1).trans (hc1 0 _ rfl)
      have x1 := fun (p : Pt S) => ((bn p).below.cell (p := ⟨b1, o1 + k * 2 + 1, none⟩) hl1).trans (hc1 1 _ rfl)
      have x2 := fun (p : Pt S) => ((bn p).below.cell (p := ⟨b2, o2 + k * 2 + 0, none⟩) hl2).trans (hc2 0 _ rfl)
      have x3 := fun (p : Pt S) => ((bn p).below.cell (p := ⟨b2, o2 + k * 2 + 1, none⟩) hl2).trans (hc2 1 _ rfl)
      simp only [Nat.add_zero] at x0 x2
      have z0 := fun (p : Pt S) => rboxL (bn p).ha 0 rfl
      have z1 := fun (p : Pt S) => rboxL (bn p).hb 0 rfl
      have NE : Nonempty (Pt S) := ⟨⟨wr, (congrFun hSe wr).mpr hst⟩⟩
      have HDD := Lib.hid ((congrFun hSe wr.drew).mpr hst.drew)
      have SE := Lib.hid hSe
      have KPP := Lib.hid bn
      have e3 : (0 : Int) ≤ (k : Int) := by omega
      have e4 : (k : Int) < (al.length : Int) := by omega
      have e5 : (k : Int) < (bl.length : Int) := by have := HL.out.1; omega
      have HX := Lib.hid (And.intro ha hb)
      have HQ := Lib.hid hq
      have HK := Lib.hid hkn
      clear hc1 hc2 ha hb hq hkn ea eb hst bn hSe
      by_cases has : a = b
      · rw [decide_eq_true has] at CE
        have HQ2 := Lib.hid (show ∀ j, j < k + 1 → al[j]? = bl[j]? from fun j hj => by
          rcases Nat.lt_or_ge j k with h1 | h1
          · exact HQ.out j h1
          · rw [show j = k by omega, HX.out.1, HX.out.2, has])
        clear has
        go_wp2_with fail
        refine wp_region_class (S := S) HDD.out (by kernel_rfl) (by kernel_rfl) ?_
        repeat (go_big_quiet_step ((go_at_call 34; refine (CE.out _ (KPP.out _).below).mono ?_; rintro e w' ⟨rfl, hbel⟩; exact ⟨rfl, ⟨w', (congrFun SE.out w').mpr ((KPP.out _).step hbel)⟩, rfl⟩)))
        refine wpQuiet_nil ?_
        rintro wq ⟨⟨_, hW⟩, rfl⟩
        have HF := Lib.hid ((congrFun SE.out wq).mp hW)
        clear x0 x1 x2 x3 z0 z1 NE hW y0 y1
        go_wp2
        exact ⟨⟨k + 1, by go_num, HK.out, HQ2.out, HF.out⟩, by simp [intOf]; have := HK.out; omega⟩
      · rw [decide_eq_false has] at CE
        have HR := Lib.hid (NO.out (fun h => has (by
          have h1 := HX.out.1
          rw [h.1, HX.out.2] at h1
          exact (Option.some.inj h1).symm)))
        clear has
        go_wp2_with fail
        refine wp_region_class (S := S) HDD.out (by kernel_rfl) (by kernel_rfl) ?_
        repeat (go_big_quiet_step ((go_at_call 34; refine (CE.out _ (KPP.out _).below).mono ?_; rintro e w' ⟨rfl, hbel⟩; exact ⟨rfl, ⟨w', (congrFun SE.out w').mpr ((KPP.out _).step hbel)⟩, rfl⟩)))
        refine wpQuiet_nil ?_
        rintro wq ⟨⟨_, hW⟩, rfl⟩
        have HF := Lib.hid ((congrFun SE.out wq).mp hW)
        clear x0 x1 x2 x3 z0 z1 NE hW y0 y1
        go_wp2
        go_ret
        exact ⟨by rw [HR.out]; rfl, HF.out.below⟩
    · obtain rfl : k = al.length := by omega
      have HAB := Lib.hid (list_eq HL.out.1 hq)
      have HE2 := Lib.hid hst
      clear hq hkn hst
      go_wp2
      clear y0 y1 hlt
      go_loopw [6] (fun iv wr => ∃ k : Nat, iv = .int .i64 k ∧ k ≤ ns.length ∧ (∀ j, j < k → ns[j]? = ms[j]?) ∧ EqS W #[.slice Aa al.length ca, .slice An ns.length cn, ev] #[.slice Ab bl.length cb, .slice Am ms.length cm, fv] wr) (fun iv _ => ns.length - (intOf iv).toNat)
      case atStart => exact ⟨0, rfl, Nat.zero_le _, fun j h => by omega, HE2.out⟩
      case round =>
        obtain ⟨k, rfl, hk, hq, hst⟩ := hrel
        clear HE2
        have hlt := hst.lt
        have y1 := rboxL hst.ha 1 rfl
        by_cases hkn : k < ns.length
        · obtain ⟨a, ha⟩ : ∃ a, ns[k]? = some a := ⟨_, List.getElem?_eq_getElem hkn⟩
          obtain ⟨b, hb⟩ : ∃ b, ms[k]? = some b := ⟨_, List.getElem?_eq_getElem (by have := HL.out.2; omega)⟩
          obtain ⟨b1, o1, rfl, -, hl1, cs1, ⟨lv1, mv1, ea⟩, hc1⟩ := HA.out.ns.at ha
          obtain ⟨b2, o2, rfl, -, hl2, cs2, ⟨lv2, mv2, eb⟩, hc2⟩ := HB.out.ns.at hb
          have hcs1 := ea.cells
          subst hcs1
          have hcs2 := eb.cells
          subst hcs2
          obtain ⟨A1, c1, rfl⟩ := ea.links.form
          obtain ⟨A2, c2, rfl⟩ := ea.new.form
          obtain ⟨A3, c3, rfl⟩ := eb.links.form
          obtain ⟨A4, c4, rfl⟩ := eb.new.form
          obtain ⟨S, hSe⟩ : ∃ S, S = EqS W #[.slice Aa al.length ca, .slice (some ⟨b1, o1, none⟩) ns.length cn, ev] #[.slice Ab bl.length cb, .slice (some ⟨b2, o2, none⟩) ms.length cm, fv] := ⟨_, rfl⟩
          have bn := fun (p : Pt S) => (congrFun hSe p.val).mp p.property
          have CE := Lib.hid (fun (Wx : World) (hx : Below W.heap.size W Wx) => requalNodeW Wx a b _ _ _ _ _ _ (ea.kp (Kp.of_below hx) (fun _ _ h => h)) (eb.kp (Kp.of_below hx) (fun _ _ h => h)))
          have xx := fun (p : Pt S) (i : Nat) (u : Value) hu => ((bn p).below.cell (p := ⟨b1, o1 + k * 11 + i, none⟩) hl1).trans (hc1 i u hu)
          have xy := fun (p : Pt S) (i : Nat) (u : Value) hu => ((bn p).below.cell (p := ⟨b2, o2 + k * 11 + i, none⟩) hl2).trans (hc2 i u hu)
          have x0 := fun (p : Pt S) => xx p 0 _ rfl
          have w0 := fun (p : Pt S) => xy p 0 _ rfl
          have x1 := fun (p : Pt S) => xx p 1 _ rfl
          have w1 := fun (p : Pt S) => xy p 1 _ rfl
          have x2 := fun (p : Pt S) => xx p 2 _ rfl
          have w2 := fun (p : Pt S) => xy p 2 _ rfl
          have x3 := fun (p : Pt S) => xx p 3 _ rfl
          have w3 := fun (p : Pt S) => xy p 3 _ rfl
          have x4 := fun (p : Pt S) => xx p 4 _ rfl
          have w4 := fun (p : Pt S) => xy p 4 _ rfl
          have x5 := fun (p : Pt S) => xx p 5 _ rfl
          have w5 := fun (p : Pt S) => xy p 5 _ rfl
          have x6 := fun (p : Pt S) => xx p 6 _ rfl
          have w6 := fun (p : Pt S) => xy p 6 _ rfl
          have x7 := fun (p : Pt S) => xx p 7 _ rfl
          have w7 := fun (p : Pt S) => xy p 7 _ rfl
          have x8 := fun (p : Pt S) => xx p 8 _ rfl
          have w8 := fun (p : Pt S) => xy p 8 _ rfl
          have x9 := fun (p : Pt S) => xx p 9 _ rfl
          have w9 := fun (p : Pt S) => xy p 9 _ rfl
          have x10 := fun (p : Pt S) => xx p 10 _ rfl
          have w10 := fun (p : Pt S) => xy p 10 _ rfl
          simp only [Nat.add_zero] at x0 w0
          have z0 := fun (p : Pt S) => rboxL (bn p).ha 1 rfl
          have z1 := fun (p : Pt S) => rboxL (bn p).hb 1 rfl
          have NE : Nonempty (Pt S) := ⟨⟨wr, (congrFun hSe wr).mpr hst⟩⟩
          have HDD := Lib.hid ((congrFun hSe wr.drew).mpr hst.drew)
          have SE := Lib.hid hSe
          have KPP := Lib.hid bn
          have e3 : (0 : Int) ≤ (k : Int) := by omega
          have e4 : (k : Int) < (ns.length : Int) := by omega
          have e5 : (k : Int) < (ms.length : Int) := by have := HL.out.2; omega
          have HX := Lib.hid (And.intro ha hb)
          have HQ := Lib.hid hq
          have HK := Lib.hid hkn
          clear hc1 hc2 ha hb hq hkn ea eb hst bn hSe xx xy
          by_cases has : a = b
          · rw [decide_eq_true has] at CE
            have HQ2 := Lib.hid (show ∀ j, j < k + 1 → ns[j]? = ms[j]? from fun j hj => by
              rcases Nat.lt_or_ge j k with h1 | h1
              · exact HQ.out j h1
              · rw [show j = k by omega, HX.out.1, HX.out.2, has])
            clear has
            go_wp2_with fail
            refine wp_region_class (S := S) HDD.out (by kernel_rfl) (by kernel_rfl) ?_
            repeat (go_big_quiet_step ((go_at_call 35; refine (CE.out _ (KPP.out _).below).mono ?_; rintro e w' ⟨rfl, hbel⟩; exact ⟨rfl, ⟨w', (congrFun SE.out w').mpr ((KPP.out _).step hbel)⟩, rfl⟩)))
            refine wpQuiet_nil ?_
            rintro wq ⟨⟨_, hW⟩, rfl⟩
            have HF := Lib.hid ((congrFun SE.out wq).mp hW)
            clear x0 w0 x1 w1 x2 w2 x3 w3 x4 w4 x5 w5 x6 w6 x7 w7 x8 w8 x9 w9 x10 w10 z0 z1 NE hW y1
            go_wp2
            exact ⟨⟨k + 1, by go_num, HK.out, HQ2.out, HF.out⟩, by simp [intOf]; have := HK.out; omega⟩
          · rw [decide_eq_false has] at CE
            have HR := Lib.hid (NO.out (fun h => has (by
              have h1 := HX.out.1
              rw [h.2.1, HX.out.2] at h1
              exact (Option.some.inj h1).symm)))
            clear has
            go_wp2_with fail
            refine wp_region_class (S := S) HDD.out (by kernel_rfl) (by kernel_rfl) ?_
            repeat (go_big_quiet_step ((go_at_call 35; refine (CE.out _ (KPP.out _).below).mono ?_; rintro e w' ⟨rfl, hbel⟩; exact ⟨rfl, ⟨w', (congrFun SE.out w').mpr ((KPP.out _).step hbel)⟩, rfl⟩)))
            refine wpQuiet_nil ?_
            rintro wq ⟨⟨_, hW⟩, rfl⟩
            have HF := Lib.hid ((congrFun SE.out wq).mp hW)
            clear x0 w0 x1 w1 x2 w2 x3 w3 x4 w4 x5 w5 x6 w6 x7 w7 x8 w8 x9 w9 x10 w10 z0 z1 NE hW y1
            go_wp2
            go_ret
            exact ⟨by rw [HR.out]; rfl, HF.out.below⟩
        · obtain rfl : k = ns.length := by omega
          have HF := Lib.hid (YES.out HAB.out (list_eq HL.out.2 hq) HES.out)
          have HE3 := Lib.hid hst
          clear hq hkn hst
          go_wp2
          go_ret
          exact ⟨by rw [HF.out]; rfl, HE3.out.below⟩
end Go.Proofs.Ytonkbjdeaneicaa

namespace Go.Proofs.Ytonkbjdeaneicaa.Pln
open Classical
theorem rules_none {al : List Shp} {ns : List Nd} (es : List Int) : es.foldl (rulesS al ns) none = none := by
  induction es with
  | nil => rfl
  | cons n r ih => exact ih
theorem rulesB_none {al : List Shp} {ns : List Nd} {es : List Int} {k : Nat} (h : (es.take k).foldl (rulesS al ns) (some []) = none) : rulesB al ns es = none := by
  unfold rulesB
  rw [fold_all (rulesS al ns) (some []) es k, h, rules_none]
theorem rulesS_some {al : List Shp} {ns : List Nd} {acc : List Rl} {e : Int} {r : Rl} (h : ruleB al ns e = some r) : rulesS al ns (some acc) e = some (acc ++ [r]) := by
  unfold rulesS; rw [h]
theorem rulesS_none {al : List Shp} {ns : List Nd} {acc : List Rl} {e : Int} (h : ruleB al ns e = none) : rulesS al ns (some acc) e = none := by
  unfold rulesS; rw [h]
end Go.Proofs.Ytonkbjdeaneicaa.Pln
namespace Go.Proofs.Ytonkbjdeaneicaa
open Go.RowKit Pln Classical Go.Maps

theorem rruleS {F : Nat → Prop} (W : World) (av nv ev : Value) (al : List Shp) (ns : List Nd) (es : List Int) (h : RPl F W av nv ev al ns es) (hS : plSm 1048576 al ns es) (e : Int) {r : Rl} (hr : ruleB al ns e = some r) :
    Calls Try.prog 40 #[.agg #[av, nv, ev], .int .i64 e] W fun en W' => ∃ a1 n1 c1 a2 n2 c2 a3 n3 c3, en = .returned (.tuple #[.agg #[.int .i64 0, .slice none 0 0, .slice a1 n1 c1, .slice a2 n2 c2, .slice a3 n3 c3, .slice none 0 0, .int .i64 0], .bool true]) ∧
      ERule (fun b => W.heap.size ≤ b) W' [.int .i64 0, .slice none 0 0, .slice a1 n1 c1, .slice a2 n2 c2, .slice a3 n3 c3, .slice none 0 0, .int .i64 0] r ∧ rlSm 1048576 r ∧ Below W.heap.size W W' := by
  refine (rruleW W av nv ev al ns es h hS e).mono ?_
  rintro en W' ⟨hb, a1, n1, c1, a2, n2, c2, a3, n3, c3, ⟨he, r', h1, h2, h3⟩ | ⟨he, h1⟩⟩
  · rw [hr] at h1
    obtain rfl := Option.some.inj h1
    exact ⟨a1, n1, c1, a2, n2, c2, a3, n3, c3, he, h2, h3, hb⟩
  · rw [hr] at h1; cases h1
theorem rruleN {F : Nat → Prop} (W : World) (av nv ev : Value) (al : List Shp) (ns : List Nd) (es : List Int) (h : RPl F W av nv ev al ns es) (hS : plSm 1048576 al ns es) (e : Int) (hr : ruleB al ns e = none) :
    Calls Try.prog 40 #[.agg #[av, nv, ev], .int .i64 e] W fun en W' => ∃ a1 n1 c1 a2 n2 c2 a3 n3 c3, en = .returned (.tuple #[.agg #[.int .i64 0, .slice none 0 0, .slice a1 n1 c1, .slice a2 n2 c2, .slice a3 n3 c3, .slice none 0 0, .int .i64 0], .bool false]) ∧ Below W.heap.size W W' := by
  refine (rruleW W av nv ev al ns es h hS e).mono ?_
  rintro en W' ⟨hb, a1, n1, c1, a2, n2, c2, a3, n3, c3, ⟨he, r', h1, h2, h3⟩ | ⟨he, h1⟩⟩
  · rw [hr] at h1; cases h1
  · exact ⟨a1, n1, c1, a2, n2, c2, a3, n3, c3, he, hb⟩

set_option maxRecDepth 200000 in
set_option maxHeartbeats 8000000 in
theorem rcheckW {F : Nat → Prop} (W : World) (av nv ev : Value) (al : List Shp) (ns : List Nd) (es : List Int) (h : RPl F W av nv ev al ns es) (hS : plSm 1048576 al ns es) :
    Calls Try.prog 21 #[.agg #[av, nv, ev]] W fun e W' => e = .returned (.int .i64 (if refP al ns es then 0 else 2)) ∧ Below W.heap.size W W' := by
  obtain ⟨R, hR⟩ : ∃ R : Int, (if refP al ns es then 0 else 2) = R := ⟨_, rfl⟩
  rw [hR]
  have NO := Lib.hid (show ¬ refP al ns es → R = 2 from fun h => by rw [← hR, if_neg h])
  have YES := Lib.hid (show refP al ns es → R = 0 from fun h => by rw [← hR, if_pos h])
  clear hR
  have HP := Lib.hid h
  have SM := Lib.hid hS
  obtain ⟨Aa, ca, rfl⟩ := h.al.form
  obtain ⟨An, cn, rfl⟩ := h.ns.form
  obtain ⟨Ae, ce, rfl⟩ := h.en.form
  clear h hS
  go_enter Try.func21, Try.ntmps21
  by_cases hn0 : ns = []
  · have HF := Lib.hid (NO.out (fun h => h.1 hn0))
    subst hn0
    go_wp2
    go_ret
    exact ⟨by rw [HF.out]; rfl, (Below.refl _ _).alloc (Nat.le_refl _) _⟩
  have HN0 := Lib.hid hn0
  have hnl : 0 < ns.length := by cases ns with | nil => exact absurd rfl hn0 | cons a l => simp
  have hnb : ((ns.length : Int) == 0) = false := by simp; omega
  clear hn0
  go_wp2
  go_loopw [3, 4] (fun mv iv wr => ∃ (k : Nat) (v : Value) (acc : List Rl), iv = .int .i64 k ∧ mv = v ∧ k ≤ es.length ∧ acc.length = k ∧ (es.take k).foldl (rulesS al ns) (some []) = some acc ∧ (∀ r ∈ acc, rlSm 1048576 r) ∧ OwnL (W.heap.size + 1) wr 39 cdRl v acc ∧
    Below (W.heap.size + 1) (W.alloc (.cells #[.slice Aa al.length ca, .slice An ns.length cn, .slice Ae es.length ce] 27)) wr) (fun _ iv _ => es.length - (intOf iv).toNat)
  case atStart => exact ⟨0, _, [], rfl, rfl, Nat.zero_le _, rfl, rfl, by simp, OwnL.nil, Below.refl _ _⟩
  case round =>
    obtain ⟨k, v, acc, rfl, rfl, hk, hal, hf, hsm, hO, hb⟩ := hrel
    obtain ⟨ma, mc, hmf⟩ := hO.form
    subst hmf
    have hsz : W.heap.size + 1 ≤ wr.heap.size := by have := hb.size; simp at this; omega
    have y2 := box_cellL hb 2 rfl
    have he20 := SM.out.en
    have HAL := Lib.hid hal
    have hac : acc.length ≤ 1048576 := by omega
    clear hal
    by_cases hkn : k < es.length
    · obtain ⟨e, he⟩ : ∃ e, es[k]? = some e := ⟨_, List.getElem?_eq_getElem hkn⟩
      obtain ⟨eb, eo, rfl, -, heb, ecs, ⟨rfl, -⟩, hec⟩ := HP.out.en.at he
      have KP := Lib.hid (fun (w' : World) (hW : Below wr.heap.size wr w') => (show w'.cell? ⟨W.heap.size, 0, none⟩ = some (.slice Aa al.length ca) ∧ w'.cell? ⟨W.heap.size, 1, none⟩ = some (.slice An ns.length cn) ∧ w'.cell? ⟨W.heap.size, 2, none⟩ = some (.slice (some ⟨eb, eo, none⟩) es.length ce) ∧ w'.cell? ⟨eb, eo + k, none⟩ = some (.int .i64 e) from by
        have h1 := box_step hb hW
        have d0 := ((box_below h1).cell (p := ⟨eb, eo + k * 1 + 0, none⟩) heb).trans (hec 0 _ rfl)
        simp only [Nat.mul_one, Nat.add_zero] at d0
        exact ⟨box_cellL h1 0 rfl, box_cellL h1 1 rfl, box_cellL h1 2 rfl, d0⟩))
      have e1 : (0 : Int) ≤ (k : Int) := by omega
      have e2 : (k : Int) < (es.length : Int) := by omega
      have hS0 := KP.out _ (Below.refl wr.heap.size wr).drew
      have B1 := Lib.hid (((Below.refl wr.heap.size wr).alloc (Nat.le_refl _) (.cells #[.int .i64 0, .slice none 0 0, .slice none 0 0, .slice none 0 0, .slice none 0 0, .slice none 0 0, .int .i64 0] 39)).drew)
      have hz := heap_alloc_new wr (.cells #[.int .i64 0, .slice none 0 0, .slice none 0 0, .slice none 0 0, .slice none 0 0, .slice none 0 0, .int .i64 0] 39)
      have HZ := Lib.hid hz
      clear hz
      have HB := Lib.hid hb
      have HO := Lib.hid hO
      have HK := Lib.hid hkn
      have HSM := Lib.hid hsm
      have HF := Lib.hid (show (es.take (k + 1)).foldl (rulesS al ns) (some []) = rulesS al ns (some acc) e by rw [fold_next (rulesS al ns) (some []) he, hf])
      cases hr : ruleB al ns e with
      | none =>
        have HX := Lib.hid (NO.out (fun h => by
          obtain ⟨_, rs, h1, _⟩ := h
          rw [rulesB_none (k := k + 1) (by rw [HF.out]; exact rulesS_none hr)] at h1
          cases h1))
        have CR := Lib.hid (fun (Wx : World) (hb2 : Below wr.heap.size wr Wx) => rruleN Wx _ _ _ al ns es (HP.out.below (box_below (box_step HB.out hb2))) SM.out e hr)
        clear hr hec he hkn hO hb hsm hf
        go_wp2_with fail
        go_region_held3 (fun w' : World => w'.cell? ⟨W.heap.size, 0, none⟩ = some (.slice Aa al.length ca) ∧ w'.cell? ⟨W.heap.size, 1, none⟩ = some (.slice An ns.length cn) ∧ w'.cell? ⟨W.heap.size, 2, none⟩ = some (.slice (some ⟨eb, eo, none⟩) es.length ce) ∧ w'.cell? ⟨eb, eo + k, none⟩ = some (.int .i64 e))
          (first | with_reducible exact hS0 | with_reducible exact KP.out _ B1.out | with_reducible exact KP.out _ B3.out | with_reducible exact KP.out _ B9.out | with_reducible exact KP.out _ (B3.out.alloc B3.out.size _))
          (first
            | (go_at_call 40; refine (CR.out _ B1.out).mono ?_; rintro e' w3 ⟨a1, n1, c1, a2, n2, c2, a3, n3, c3, rfl, hb3⟩; have eb := (hb3.block wr.heap.size (by simp)).trans HZ.out; have EB := Lib.hid eb; have z0 := rboxL eb 0 rfl; have z1 := rboxL eb 1 rfl; have z2 := rboxL eb 2 rfl; have z3 := rboxL eb 3 rfl; have z4 := rboxL eb 4 rfl; have z5 := rboxL eb 5 rfl; have z6 := rboxL eb 6 rfl; have zf : ∀ o, w3.frozen? ⟨wr.heap.size, o, none⟩ = false := (fun o => by simp [World.frozen?, eb]); have zl := lt_of_heap eb; have B3 := Lib.hid (B1.out.trans (hb3.mono (show wr.heap.size ≤ _ by simp))); have B9 := Lib.hid (B3.out.trans ((turns7 w3 wr.heap.size (.int .i64 0) (.slice none 0 0) (.slice a1 n1 c1) (.slice a2 n2 c2) (.slice a3 n3 c3) (.slice none 0 0) (.int .i64 0)).below B3.out.size (fun x hx => by rw [List.mem_singleton.1 hx]; exact Nat.le_refl _))); clear hb3 eb)
            | (go_at_call 40; refine (CR.out _ (Below.refl wr.heap.size wr).drew).mono ?_; rintro e' w3 ⟨a1, n1, c1, a2, n2, c2, a3, n3, c3, rfl, hb3⟩; have B3 := Lib.hid ((Below.refl wr.heap.size wr).drew.trans (hb3.mono (show wr.heap.size ≤ wr.drew.heap.size from Nat.le_refl _))); clear hb3))
        all_goals (first | have HD4 := Lib.hid (box_below (box_step HB.out B9.out)) | have HD4 := Lib.hid (box_below (box_step HB.out (B3.out.alloc B3.out.size (.cells #[.int .i64 0, .slice none 0 0, .slice a1 n1 c1, .slice a2 n2 c2, .slice a3 n3 c3, .slice none 0 0, .int .i64 0] 39)))))
        all_goals clear hS0 CR
        all_goals go_wp2
        all_goals go_ret
        all_goals exact ⟨by rw [HX.out]; rfl, HD4.out⟩
      | some r =>
        have HF2 := Lib.hid (show (es.take (k + 1)).foldl (rulesS al ns) (some []) = some (acc ++ [r]) by rw [HF.out]; exact rulesS_some hr)
        have CR := Lib.hid (fun (Wx : World) (hb2 : Below wr.heap.size wr Wx) => rruleS Wx _ _ _ al ns es (HP.out.below (box_below (box_step HB.out hb2))) SM.out e hr)
        clear hr hec he hkn hO hb hsm hf
        go_wp2_with fail
        go_region_held3 (fun w' : World => w'.cell? ⟨W.heap.size, 0, none⟩ = some (.slice Aa al.length ca) ∧ w'.cell? ⟨W.heap.size, 1, none⟩ = some (.slice An ns.length cn) ∧ w'.cell? ⟨W.heap.size, 2, none⟩ = some (.slice (some ⟨eb, eo, none⟩) es.length ce) ∧ w'.cell? ⟨eb, eo + k, none⟩ = some (.int .i64 e))
          (first | with_reducible exact hS0 | with_reducible exact KP.out _ B1.out | with_reducible exact KP.out _ B3.out | with_reducible exact KP.out _ B9.out | with_reducible exact KP.out _ (B3.out.alloc B3.out.size _))
          (first
            | (go_at_call 40; refine (CR.out _ B1.out).mono ?_; rintro e' w3 ⟨a1, n1, c1, a2, n2, c2, a3, n3, c3, rfl, hER, hSR, hb3⟩; have HER := Lib.hid hER; have HSR := Lib.hid hSR; clear hER hSR; have eb := (hb3.block wr.heap.size (by simp)).trans HZ.out; have EB := Lib.hid eb; have z0 := rboxL eb 0 rfl; have z1 := rboxL eb 1 rfl; have z2 := rboxL eb 2 rfl; have z3 := rboxL eb 3 rfl; have z4 := rboxL eb 4 rfl; have z5 := rboxL eb 5 rfl; have z6 := rboxL eb 6 rfl; have zf : ∀ o, w3.frozen? ⟨wr.heap.size, o, none⟩ = false := (fun o => by simp [World.frozen?, eb]); have zl := lt_of_heap eb; have B3 := Lib.hid (B1.out.trans (hb3.mono (show wr.heap.size ≤ _ by simp))); have B9 := Lib.hid (B3.out.trans ((turns7 w3 wr.heap.size (.int .i64 0) (.slice none 0 0) (.slice a1 n1 c1) (.slice a2 n2 c2) (.slice a3 n3 c3) (.slice none 0 0) (.int .i64 0)).below B3.out.size (fun x hx => by rw [List.mem_singleton.1 hx]; exact Nat.le_refl _))); clear hb3 eb)
            | (go_at_call 40; refine (CR.out _ (Below.refl wr.heap.size wr).drew).mono ?_; rintro e' w3 ⟨a1, n1, c1, a2, n2, c2, a3, n3, c3, rfl, hER, hSR, hb3⟩; have HER := Lib.hid hER; have HSR := Lib.hid hSR; clear hER hSR; have B3 := Lib.hid ((Below.refl wr.heap.size wr).drew.trans (hb3.mono (show wr.heap.size ≤ wr.drew.heap.size from Nat.le_refl _))); clear hb3))
        · obtain ⟨wn, hwn⟩ : ∃ wn, wn = w3.alloc (.cells #[.int .i64 0, .slice none 0 0, .slice a1 n1 c1, .slice a2 n2 c2, .slice a3 n3 c3, .slice none 0 0, .int .i64 0] 39) := ⟨_, rfl⟩
          have hbn : Below wr.heap.size wr wn := by rw [hwn]; exact B3.out.alloc B3.out.size _
          have hrow : wn.heap[w3.heap.size]? = some (.cells #[.int .i64 0, .slice none 0 0, .slice a1 n1 c1, .slice a2 n2 c2, .slice a3 n3 c3, .slice none 0 0, .int .i64 0] 39 (0, 0)) := by rw [hwn]; exact heap_alloc_new w3 _
          have hEn : ERule (New (W.heap.size + 1) (.slice ma acc.length mc)) wn [.int .i64 0, .slice none 0 0, .slice a1 n1 c1, .slice a2 n2 c2, .slice a3 n3 c3, .slice none 0 0, .int .i64 0] r := by
            rw [hwn]
            exact HER.out.kp (Kp.of_below ((Below.refl _ _).alloc (Nat.le_refl _) _)) (fun b _ hb => ⟨by simp at hb; omega, fun e => by have := (HO.out.block e).2; simp at hb; omega⟩)
          have HEN := Lib.hid hEn
          have HBN := Lib.hid hbn
          have q0 := rboxL hrow 0 rfl
          have q1 := rboxL hrow 1 rfl
          have q2 := rboxL hrow 2 rfl
          have q3 := rboxL hrow 3 rfl
          have q4 := rboxL hrow 4 rfl
          have q5 := rboxL hrow 5 rfl
          have q6 := rboxL hrow 6 rfl
          have hOn := HO.out.below hbn
          have HOn := Lib.hid hOn
          have hszn : W.heap.size + 1 ≤ wn.heap.size := Nat.le_trans hsz hbn.size
          have hwl := lt_of_heap hrow
          go_upto_region 8 with fail
          rw [← hwn]
          clear hwn hrow hEn hbn hOn hS0 CR HER B1 HZ B3
          go_wp2_with (at_builtin; refine wpList_append_L HOn.out rfl (.tmp 32) (.tmp 34) 22 rfl Try.underlying22 infoRl rfl (by decide) rfl #[.int .i64 0, .slice none 0 0, .slice a1 n1 c1, .slice a2 n2 c2, .slice a3 n3 c3, .slice none 0 0, .int .i64 0] _ rfl rfl (x := r) HEN.out (by omega) (by decide) hszn ?_; intro g cap w9 hown9 ht9 hat9 hlt9; have N1 := Lib.hid hown9; have N2 := Lib.hid ((box_step HB.out HBN.out).trans (ht9.below hszn (fun b hb => (HO.out.block (by simpa using hb)).1))); have N3 := Lib.hid ht9; clear hown9 ht9 hat9 hlt9)
          exact ⟨⟨k + 1, _, acc ++ [r], by go_num, rfl, HK.out, by rw [List.length_append, HAL.out]; rfl, HF2.out, fun x hx => by (rcases List.mem_append.1 hx with hx | hx; exact HSM.out x hx; rw [List.mem_singleton.1 hx]; exact HSR.out), N1.out, N2.out⟩, by simp [intOf]; have := HK.out; omega⟩
        · obtain ⟨wn, hwn⟩ : ∃ wn, wn = (((((((w3.setCell ⟨wr.heap.size, 0, none⟩ (.int .i64 0)).setCell ⟨wr.heap.size, 1, none⟩ (.slice none 0 0)).setCell ⟨wr.heap.size, 2, none⟩ (.slice a1 n1 c1)).setCell ⟨wr.heap.size, 3, none⟩ (.slice a2 n2 c2)).setCell ⟨wr.heap.size, 4, none⟩ (.slice a3 n3 c3)).setCell ⟨wr.heap.size, 5, none⟩ (.slice none 0 0)).setCell ⟨wr.heap.size, 6, none⟩ (.int .i64 0)) := ⟨_, rfl⟩
          have hbn : Below wr.heap.size wr wn := by rw [hwn]; exact B9.out
          have hrow : wn.heap[wr.heap.size]? = some (.cells #[.int .i64 0, .slice none 0 0, .slice a1 n1 c1, .slice a2 n2 c2, .slice a3 n3 c3, .slice none 0 0, .int .i64 0] 39 (0, 0)) := by rw [hwn]; exact store7 EB.out _ _ _ _ _ _ _
          have hEn : ERule (New (W.heap.size + 1) (.slice ma acc.length mc)) wn [.int .i64 0, .slice none 0 0, .slice a1 n1 c1, .slice a2 n2 c2, .slice a3 n3 c3, .slice none 0 0, .int .i64 0] r := by
            rw [hwn]
            exact HER.out.kp (Kp.of_turns (turns7 w3 wr.heap.size _ _ _ _ _ _ _) (fun x hx hf => by rw [List.mem_singleton.1 hx] at hf; simp at hf; omega)) (fun b _ hb => ⟨by simp at hb; omega, fun e => by have := (HO.out.block e).2; simp at hb; omega⟩)
          have HEN := Lib.hid hEn
          have HBN := Lib.hid hbn
          have q0 := rboxL hrow 0 rfl
          have q1 := rboxL hrow 1 rfl
          have q2 := rboxL hrow 2 rfl
          have q3 := rboxL hrow 3 rfl
          have q4 := rboxL hrow 4 rfl
          have q5 := rboxL hrow 5 rfl
          have q6 := rboxL hrow 6 rfl
          have hOn := HO.out.below hbn
          have HOn := Lib.hid hOn
          have hszn : W.heap.size + 1 ≤ wn.heap.size := Nat.le_trans hsz hbn.size
          have hwl := lt_of_heap hrow
          go_upto_region 8 with fail
          rw [← hwn]
          clear hwn hrow hEn hbn hOn hS0 CR HER B1 HZ z0 z1 z2 z3 z4 z5 z6 zf zl EB B3 B9
          go_wp2_with (at_builtin; refine wpList_append_L HOn.out rfl (.tmp 32) (.tmp 34) 22 rfl Try.underlying22 infoRl rfl (by decide) rfl #[.int .i64 0, .slice none 0 0, .slice a1 n1 c1, .slice a2 n2 c2, .slice a3 n3 c3, .slice none 0 0, .int .i64 0] _ rfl rfl (x := r) HEN.out (by omega) (by decide) hszn ?_; intro g cap w9 hown9 ht9 hat9 hlt9; have N1 := Lib.hid hown9; have N2 := Lib.hid ((box_step HB.out HBN.out).trans (ht9.below hszn (fun b hb => (HO.out.block (by simpa using hb)).1))); have N3 := Lib.hid ht9; clear hown9 ht9 hat9 hlt9)
          exact ⟨⟨k + 1, _, acc ++ [r], by go_num, rfl, HK.out, by rw [List.length_append, HAL.out]; rfl, HF2.out, fun x hx => by (rcases List.mem_append.1 hx with hx | hx; exact HSM.out x hx; rw [List.mem_singleton.1 hx]; exact HSR.out), N1.out, N2.out⟩, by simp [intOf]; have := HK.out; omega⟩
    · obtain rfl : k = es.length := by omega
      rw [List.take_length] at hf
      have hf' : rulesB al ns es = some acc := hf
      have HF := Lib.hid hf'
      have HSM := Lib.hid hsm
      have HB := Lib.hid hb
      have hbw := box_below hb
      have CC := Lib.hid (rcompileW (.slice ma acc.length mc) acc wr (RRules.kp (F' := fun _ => True) (hO.rsl' (F := fun _ => True) (fun _ _ _ => trivial)) (Kp.refl _ _) (fun _ _ h => h)) ⟨by omega, hsm⟩)
      clear hf hf' hsm hb hO hkn
      go_wp2_with fail
      refine CC.out.mono ?_
      rintro e w5 ⟨hb5, hres⟩
      have HB5 := Lib.hid (box_step HB.out hb5)
      have y0 := box_cellL HB5.out 0 rfl
      have y1 := box_cellL HB5.out 1 rfl
      have y2 := box_cellL HB5.out 2 rfl
      have hl5 : W.heap.size < w5.heap.size := by have := HB5.out.size; simp at this; omega
      clear hb5 CC
      rcases hres with ⟨hall, qa, qn, qe, rfl, hq⟩ | ⟨⟨r, hr1, hr2⟩, rfl⟩
      · obtain ⟨ql, hql⟩ : ∃ ql, ((compF acc).2.map fun (e : Nat) => (e : Int)) = ql := ⟨_, rfl⟩
        rw [hql] at hq
        have HQL := Lib.hid hql
        clear hql
        obtain ⟨A1, C1, rfl⟩ := hq.al.form
        obtain ⟨A2, C2, rfl⟩ := hq.ns.form
        obtain ⟨A3, C3, rfl⟩ := hq.en.form
        obtain ⟨w6, hw6⟩ : ∃ w6, w6 = w5.alloc (.cells #[.slice A1 (compF acc).1.al.length C1, .slice A2 (compF acc).1.ns.length C2, .slice A3 ql.length C3] 27) := ⟨_, rfl⟩
        have hb6 : Below (w5.heap.size + 1) (w5.alloc (.cells #[.slice A1 (compF acc).1.al.length C1, .slice A2 (compF acc).1.ns.length C2, .slice A3 ql.length C3] 27)) w6 := by rw [hw6]; exact Below.refl _ _
        have v0 := box_cellL hb6 0 rfl
        have v1 := box_cellL hb6 1 rfl
        have v2 := box_cellL hb6 2 rfl
        have y0 := box_cellL (box_step HB5.out (box_below hb6)) 0 rfl
        have y1 := box_cellL (box_step HB5.out (box_below hb6)) 1 rfl
        have y2 := box_cellL (box_step HB5.out (box_below hb6)) 2 rfl
        have hcl := comp_len_take (rs := acc) (k := acc.length) (by rw [List.take_length]; exact hall) (Nat.le_refl _)
        rw [List.take_length] at hcl
        have hs1 := SM.out.al.1
        have hs2 := SM.out.ns.1
        have CE := Lib.hid (requalW w6 _ _ _ _ _ _ al (compF acc).1.al ns (compF acc).1.ns es _ (HP.out.below (box_below (box_step HB5.out (box_below hb6)))) (hq.below (box_below hb6)) (by omega) (by omega) (by omega) (by omega))
        have HB6 := Lib.hid (box_below (box_step HB5.out (box_below hb6)))
        have HALL := Lib.hid hall
        clear hq hb6 hall hcl
        go_upto_region 12 with fail
        rw [← hw6]
        clear hw6
        by_cases heq : al = (compF acc).1.al ∧ ns = (compF acc).1.ns ∧ es = ql
        · rw [decide_eq_true heq] at CE
          have HX := Lib.hid (YES.out ⟨HN0.out, acc, HF.out, HALL.out, by rw [heq.1, heq.2.1], by rw [HQL.out]; exact heq.2.2.symm⟩)
          clear heq
          go_wp2_with fail
          refine CE.out.mono ?_
          rintro e w7 ⟨rfl, hb7⟩
          have HB7 := Lib.hid (HB6.out.trans (hb7.mono HB6.out.size))
          clear hb7 CE
          go_wp2
          go_ret
          exact ⟨by rw [HX.out]; rfl, HB7.out⟩
        · rw [decide_eq_false heq] at CE
          have HX := Lib.hid (NO.out (fun h => heq (by
            obtain ⟨_, rs, h1, h2, h3, h4⟩ := h
            rw [HF.out] at h1
            obtain rfl := Option.some.inj h1
            rw [h3]
            exact ⟨rfl, rfl, by rw [← HQL.out]; exact h4.symm⟩)))
          clear heq
          go_wp2_with fail
          refine CE.out.mono ?_
          rintro e w7 ⟨rfl, hb7⟩
          have HB7 := Lib.hid (HB6.out.trans (hb7.mono HB6.out.size))
          clear hb7 CE
          go_wp2
          go_ret
          exact ⟨by rw [HX.out]; rfl, HB7.out⟩
      · have HX := Lib.hid (NO.out (fun h => hr2 (by
          obtain ⟨_, rs, h1, h2, _⟩ := h
          rw [HF.out] at h1
          obtain rfl := Option.some.inj h1
          exact h2 r hr1)))
        clear hr1 hr2
        go_wp2
        go_ret
        exact ⟨by rw [HX.out]; rfl, (box_below HB5.out).alloc (by omega) _⟩
end Go.Proofs.Ytonkbjdeaneicaa
