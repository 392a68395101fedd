/- nodeRight. The builtin copy at elements of several cells, as one step of a region that draws its order. Over any program. What a node asks, as 35 cells. Printed by wip/bin/asks.py. -/
import Derived.Test.YtonkbjdeaneicaaDoorKpa06
import Derived.Test.YtonkbjdeaneicaaDoorKpa10
import Derived.Test.YtonkbjdeaneicaaDoorKpa14
import Derived.Laws.CopyOwn
import Derived.Laws.CopyRow
namespace Go.Proofs.YtonkbjdeaneicaaDoor.Pln
open Classical
def placesN (al : List Shp) (n : Nd) (w : Int) : Prop := ∃ (ai : Nat) (s : Shp), n.alpha = ai ∧ al[ai]? = some s ∧ placesP s.cells n w
def belowI (w : Int) (s : Slt) : Prop := 0 ≤ s.n ∧ (s.v = true → s.n < w)
def testP (n up : Nd) : Prop := up.kind ≠ 3 ∧ n.alpha = -1 ∧ n.links = [] ∧ n.new = [] ∧ n.width = up.width ∧ 1 ≤ n.test.op ∧ n.test.op ≤ 6 ∧ belowI up.width n.test.l ∧ belowI up.width n.test.r
/-- A node by itself and against its parent. -/
def nodeP (al : List Shp) (n up : Nd) : Prop :=
  (n.kind = 1 ∧ (up.kind = 0 ∨ up.kind = 1) ∧ placesN al n up.width) ∨ (n.kind = 3 ∧ n.new = [] ∧ placesN al n up.width) ∨ (n.kind = 2 ∧ testP n up)
theorem placesN_iff {al : List Shp} {n : Nd} {w : Int} {ai : Nat} {s : Shp} (ha : n.alpha = ai) (hs : al[ai]? = some s) : placesN al n w ↔ placesP s.cells n w := by
  constructor
  · rintro ⟨ai', s', h1, h2, h3⟩
    have : ai' = ai := by omega
    subst this
    rw [hs] at h2
    rw [Option.some.inj h2]
    exact h3
  · intro h
    exact ⟨ai, s, ha, hs, h⟩
end Go.Proofs.YtonkbjdeaneicaaDoor.Pln
namespace Go.Proofs.YtonkbjdeaneicaaDoor
open Go.RowKit Pln Classical Go.Maps

/-- Three boxes. -/
structure Three (W W3 : World) (a b c : Array Value) (ta tb tc : TypeId) : Prop where
  below : Below W.heap.size W W3
  size : W3.heap.size = W.heap.size + 3
  ha : W3.heap[W.heap.size]? = some (.cells a ta (0, 0))
  hb : W3.heap[W.heap.size + 1]? = some (.cells b tb (0, 0))
  hc : W3.heap[W.heap.size + 1 + 1]? = some (.cells c tc (0, 0))
theorem three (W : World) (a b c : Array Value) (ta tb tc : TypeId) : Three W (((W.alloc (.cells a ta)).alloc (.cells b tb)).alloc (.cells c tc)) a b c ta tb tc := by
  refine ⟨(((Below.refl _ _).alloc (Nat.le_refl _) _).alloc (by simp) _).alloc (by simp; omega) _, by simp, ?_, ?_, ?_⟩
  · rw [Below.heap_alloc _ _ _ (by simp; omega), Below.heap_alloc _ _ _ (by simp)]
    exact heap_alloc_new W _
  · rw [Below.heap_alloc _ _ _ (by simp)]
    have := heap_alloc_new (W.alloc (.cells a ta)) (.cells b tb)
    simpa using this
  · have := heap_alloc_new ((W.alloc (.cells a ta)).alloc (.cells b tb)) (.cells c tc)
    simpa using this
section
variable {W W3 wr : World} {a b c sh : Array Value} {ta tb tc ts : TypeId}
theorem Three.ca (h : Three W W3 a b c ta tb tc) (hb : Below W3.heap.size W3 wr) (j : Nat) {u : Value} (hu : a.toList[j]? = some u) : wr.cell? ⟨W.heap.size, j, none⟩ = some u := rboxL ((hb.block _ (by have := h.size; omega)).trans h.ha) j hu
theorem Three.cb (h : Three W W3 a b c ta tb tc) (hb : Below W3.heap.size W3 wr) (j : Nat) {u : Value} (hu : b.toList[j]? = some u) : wr.cell? ⟨W.heap.size + 1, j, none⟩ = some u := rboxL ((hb.block _ (by have := h.size; omega)).trans h.hb) j hu
theorem Three.cc (h : Three W W3 a b c ta tb tc) (hb : Below W3.heap.size W3 wr) (j : Nat) {u : Value} (hu : c.toList[j]? = some u) : wr.cell? ⟨W.heap.size + 1 + 1, j, none⟩ = some u := rboxL ((hb.block _ (by have := h.size; omega)).trans h.hc) j hu
theorem Three.all (h : Three W W3 a b c ta tb tc) (hb : Below W3.heap.size W3 wr) : Below W.heap.size W wr := h.below.trans (hb.mono (by have := h.size; omega))
end
theorem bel_iff (w : Nat) (s : Slt) : bel w s = decide (belowI w s) := by
  unfold bel
  congr 1

set_option maxRecDepth 200000 in
set_option maxHeartbeats 8000000 in
theorem nodeRW {F G : Nat → Prop} (W : World) (av nv ev : Value) (al : List Shp) (hA : RSl F W 2 (EShp F W) av al) (n : Nd) (ncs : List Value) (lv mv : Value) (hN : ENd F W ncs n lv mv) (up : Nd) (ucs : List Value) (ulv umv : Value) (hU : ENd G W ucs up ulv umv)
    (hk : n.kind = 1 ∨ n.kind = 3 → ∃ (ai : Nat) (s : Shp), n.alpha = ai ∧ al[ai]? = some s ∧ s.cells.length ≤ 8) (w : Nat) (hw : w ≤ 16) (huw : up.width = (w : Int)) (hml : n.new.length ≤ 1000000000) :
    Calls Tryd.prog 63 #[.agg #[av, nv, ev], .agg #[.int .i64 n.kind, .int .i64 n.parent, .int .i64 n.alpha, lv, mv, .int .i64 n.test.op, .bool n.test.l.v, .int .i64 n.test.l.n, .bool n.test.r.v, .int .i64 n.test.r.n, .int .i64 n.width], .agg #[.int .i64 up.kind, .int .i64 up.parent, .int .i64 up.alpha, ulv, umv, .int .i64 up.test.op, .bool up.test.l.v, .int .i64 up.test.l.n, .bool up.test.r.v, .int .i64 up.test.r.n, .int .i64 up.width]] W
      fun e W' => e = .returned (.bool (decide (nodeP al n up))) ∧ Below W.heap.size W W' := by
  have PW := Lib.hid (fun (Wx : World) (hb : Below W.heap.size W Wx) (ai : Nat) (s : Shp) (h1 : n.alpha = ai) (h2 : al[ai]? = some s) (h3 : s.cells.length ≤ 8) => placesW Wx av nv ev al (RSl.kp hA (Kp.of_below hb) (fun _ _ h => h) (fun _ _ h => h.kp (Kp.of_below hb) (fun _ _ h => h))) n ncs lv mv (hN.kp (Kp.of_below hb) (fun _ _ h => h)) ai s h2 h1 h3 w hw hml)
  obtain ⟨Aa, ca, rfl⟩ := hA.form
  obtain ⟨Al, cl, rfl⟩ := hN.links.form
  obtain ⟨Am, cm, rfl⟩ := hN.new.form
  obtain ⟨Bl, dl, rfl⟩ := hU.links.form
  obtain ⟨Bm, dm, rfl⟩ := hU.new.form
  have hll := hN.links.len
  have hml2 := hN.new.len
  unfold maxLen at hll hml2
  obtain ⟨R, hR⟩ : ∃ R, decide (nodeP al n up) = R := ⟨_, rfl⟩
  rw [hR]
  have HR := Lib.hid hR
  have HK := Lib.hid hk
  have HU := Lib.hid huw
  rw [huw]
  have T := Lib.hid (three W #[.slice Aa al.length ca, nv, ev] #[.int .i64 n.kind, .int .i64 n.parent, .int .i64 n.alpha, .slice Al n.links.length cl, .slice Am n.new.length cm, .int .i64 n.test.op, .bool n.test.l.v, .int .i64 n.test.l.n, .bool n.test.r.v, .int .i64 n.test.r.n, .int .i64 n.width] #[.int .i64 up.kind, .int .i64 up.parent, .int .i64 up.alpha, .slice Bl up.links.length dl, .slice Bm up.new.length dm, .int .i64 up.test.op, .bool up.test.l.v, .int .i64 up.test.l.n, .bool up.test.r.v, .int .i64 up.test.r.n, .int .i64 (w : Int)] 26 40 40)
  clear hR hA hN hU huw hk
  go_enter Tryd.func63, Tryd.ntmps63
  go_upto_region 1 with fail
  obtain ⟨W3, hW3⟩ : ∃ W3, W3 = (((W.alloc (.cells #[.slice Aa al.length ca, nv, ev] 26)).alloc (.cells #[.int .i64 n.kind, .int .i64 n.parent, .int .i64 n.alpha, .slice Al n.links.length cl, .slice Am n.new.length cm, .int .i64 n.test.op, .bool n.test.l.v, .int .i64 n.test.l.n, .bool n.test.r.v, .int .i64 n.test.r.n, .int .i64 n.width] 40)).alloc (.cells #[.int .i64 up.kind, .int .i64 up.parent, .int .i64 up.alpha, .slice Bl up.links.length dl, .slice Bm up.new.length dm, .int .i64 up.test.op, .bool up.test.l.v, .int .i64 up.test.l.n, .bool up.test.r.v, .int .i64 up.test.r.n, .int .i64 (w : Int)] 40)) := ⟨_, rfl⟩
  rw [← hW3] at T ⊢
  clear hW3
  have DT := Lib.hid (Below.refl W3.heap.size W3)
  have hD := Below.refl W3.heap.size W3
  have y0 := T.out.ca hD 0 rfl
  have y1 := T.out.ca hD 1 rfl
  have y2 := T.out.ca hD 2 rfl
  have b0 := T.out.cb hD 0 rfl
  have b1 := T.out.cb hD 1 rfl
  have b2 := T.out.cb hD 2 rfl
  have b3 := T.out.cb hD 3 rfl
  have b4 := T.out.cb hD 4 rfl
  have b5 := T.out.cb hD 5 rfl
  have b6 := T.out.cb hD 6 rfl
  have b7 := T.out.cb hD 7 rfl
  have b8 := T.out.cb hD 8 rfl
  have b9 := T.out.cb hD 9 rfl
  have b10 := T.out.cb hD 10 rfl
  have u0 := T.out.cc hD 0 rfl
  have u10 := T.out.cc hD 10 rfl
  clear hD
  obtain ⟨uk, huk⟩ : ∃ uk, up.kind = uk := ⟨_, rfl⟩
  have HUK := Lib.hid huk
  rw [huk] at u0
  clear huk
  by_cases k1 : n.kind = 1
  · obtain ⟨ai, s, h1, h2, h3⟩ := HK.out (.inl k1)
    have PC := Lib.hid (PW.out W3 T.out.below ai s h1 h2 h3)
    have HP := Lib.hid (show R = decide ((uk = 0 ∨ uk = 1) ∧ placesP s.cells n (w : Int)) from by
      rw [← HR.out]
      apply decide_eq_decide.2
      unfold nodeP
      rw [HUK.out, HU.out, placesN_iff h1 h2]
      constructor
      · rintro (h | h | h)
        · exact h.2
        · omega
        · omega
      · intro h
        exact .inl ⟨k1, h⟩)
    rw [k1] at PC b0
    clear k1 h1 h2 h3
    by_cases hu0 : uk = 0
    · subst hu0
      go_wp2_with fail
      refine PC.out.mono ?_
      rintro e w2 ⟨rfl, hb2⟩
      have HB := Lib.hid (T.out.all (Below.trans DT.out hb2))
      have HF := Lib.hid (show R = decide (placesP s.cells n (w : Int)) by rw [HP.out]; simp)
      clear hb2 PC
      go_wp2
      go_ret
      exact ⟨by rw [HF.out]; rfl, HB.out⟩
    · by_cases hu1 : uk = 1
      · subst hu1
        go_wp2_with fail
        refine PC.out.mono ?_
        rintro e w2 ⟨rfl, hb2⟩
        have HB := Lib.hid (T.out.all (Below.trans DT.out hb2))
        have HF := Lib.hid (show R = decide (placesP s.cells n (w : Int)) by rw [HP.out]; simp)
        clear hb2 PC
        go_wp2
        go_ret
        exact ⟨by rw [HF.out]; rfl, HB.out⟩
      · have HF := Lib.hid (show R = false by rw [HP.out]; exact decide_eq_false (fun h => by omega))
        clear PC
        have g0 : (uk == 0) = false := by simpa using hu0
        have g1 : (uk == 1) = false := by simpa using hu1
        go_wp2
        go_ret
        exact ⟨by rw [HF.out]; rfl, T.out.below⟩
  · by_cases k3 : n.kind = 3
    · obtain ⟨ai, s, h1, h2, h3⟩ := HK.out (.inr k3)
      have PC := Lib.hid (PW.out W3 T.out.below ai s h1 h2 h3)
      have HP := Lib.hid (show R = decide (n.new = [] ∧ placesP s.cells n (w : Int)) from by
        rw [← HR.out]
        apply decide_eq_decide.2
        unfold nodeP
        rw [HU.out, placesN_iff h1 h2]
        constructor
        · rintro (h | h | h)
          · omega
          · exact h.2
          · omega
        · intro h
          exact .inr (.inl ⟨k3, h⟩))
      rw [k3] at PC b0
      clear k1 k3 h1 h2 h3
      by_cases hn0 : n.new.length = 0
      · have hnn := List.eq_nil_of_length_eq_zero hn0
        rw [hn0] at PC b4
        have HF := Lib.hid (show R = decide (placesP s.cells n (w : Int)) by rw [HP.out]; simp [hnn])
        clear hn0 hnn
        go_wp2_with fail
        refine PC.out.mono ?_
        rintro e w2 ⟨rfl, hb2⟩
        have HB := Lib.hid (T.out.all (Below.trans DT.out hb2))
        clear hb2 PC
        go_wp2
        go_ret
        exact ⟨by rw [HF.out]; rfl, HB.out⟩
      · have HF := Lib.hid (show R = false by rw [HP.out]; exact decide_eq_false (fun h => hn0 (by rw [h.1]; rfl)))
        have g0 : ¬ (n.new.length : Int) = 0 := by omega
        have g1 : ((n.new.length : Int) == 0) = false := by simpa using g0
        clear PC
        go_wp2
        go_ret
        exact ⟨by rw [HF.out]; rfl, T.out.below⟩
    · have e1 : (n.kind == 1) = false := by simpa using k1
      have e3 : (n.kind == 3) = false := by simpa using k3
      have HP := Lib.hid (show R = decide (n.kind = 2 ∧ testP n up) from by
        rw [← HR.out]
        apply decide_eq_decide.2
        unfold nodeP
        constructor
        · rintro (h | h | h)
          · exact absurd h.1 k1
          · exact absurd h.1 k3
          · exact h
        · intro h
          exact .inr (.inr h))
      clear PW HK
      by_cases k2 : n.kind = 2
      · rw [k2] at b0
        obtain ⟨wa, hwa⟩ : ∃ wa, wa = W3.alloc (.cells #[.int .i64 n.test.op, .bool n.test.l.v, .int .i64 n.test.l.n, .bool n.test.r.v, .int .i64 n.test.r.n] 38) := ⟨_, rfl⟩
        have hba : Below W3.heap.size W3 wa := by rw [hwa]; exact (Below.refl _ _).alloc (Nat.le_refl _) _
        have hrow : wa.heap[W3.heap.size]? = some (.cells #[.int .i64 n.test.op, .bool n.test.l.v, .int .i64 n.test.l.n, .bool n.test.r.v, .int .i64 n.test.r.n] 38 (0, 0)) := by rw [hwa]; exact heap_alloc_new W3 _
        have HBA := Lib.hid hba
        have HROW := Lib.hid hrow
        have K2 := Lib.hid k2
        have x2 := T.out.cb hba 2 rfl
        have x3 := T.out.cb hba 3 rfl
        have x4 := T.out.cb hba 4 rfl
        have x10 := T.out.cb hba 10 rfl
        have v0 := T.out.cc hba 0 rfl
        have v10 := T.out.cc hba 10 rfl
        rw [HUK.out] at v0
        have t0 := rboxL hrow 0 rfl
        have t1 := rboxL hrow 1 rfl
        have t2 := rboxL hrow 2 rfl
        have t3 := rboxL hrow 3 rfl
        have t4 := rboxL hrow 4 rfl
        clear e1 e3 k1 k3 k2 hba hrow
        go_upto_region 8 with fail
        rw [← hwa]
        clear hwa b0 b1 b2 b3 b4 b5 b6 b7 b8 b9 b10 u0 u10 y0 y1 y2
        have NOT := Lib.hid (show ¬ testP n up → R = false from fun h => by rw [HP.out]; exact decide_eq_false (fun h2 => h h2.2))
        by_cases c1 : uk = 3
        · have HF := Lib.hid (NOT.out (fun h => h.1 (by rw [HUK.out]; exact c1)))
          subst c1
          go_wp2
          go_ret
          exact ⟨by rw [HF.out]; rfl, T.out.all HBA.out⟩
        · have d1 : (uk == 3) = false := by simpa using c1
          have d1' : (uk != 3) = true := by simpa using c1
          by_cases c2 : n.alpha = -1
          · by_cases c3 : n.links.length = 0
            · by_cases c4 : n.new.length = 0
              · by_cases c5 : n.width = (w : Int)
                · by_cases c6 : 1 ≤ n.test.op
                  · by_cases c7 : n.test.op ≤ 6
                    · have HC := Lib.hid (And.intro c2 (And.intro c3 (And.intro c4 (And.intro c5 (And.intro c6 c7)))))
                      have C1 := Lib.hid c1
                      rw [c2] at x2
                      rw [c3] at x3
                      rw [c4] at x4
                      rw [c5] at x10
                      clear c2 c3 c4 c5 c1
                      have BL := Lib.hid (belowW n.test.l w wa)
                      go_wp2_with fail
                      refine BL.out.mono ?_
                      rintro e w2 ⟨rfl, hb2⟩
                      have hba2 := HBA.out.trans (hb2.mono HBA.out.size)
                      have hrow2 := (hb2.block _ (lt_of_heap HROW.out)).trans HROW.out
                      have x10 := T.out.cb hba2 10 rfl
                      rw [HC.out.2.2.2.1] at x10
                      have t3 := rboxL hrow2 3 rfl
                      have t4 := rboxL hrow2 4 rfl
                      have HBA2 := Lib.hid hba2
                      clear hba2 hrow2 hb2 BL
                      rw [bel_iff]
                      by_cases c8 : belowI w n.test.l
                      · rw [decide_eq_true c8]
                        have BR := Lib.hid (belowW n.test.r w w2)
                        have HC8 := Lib.hid c8
                        clear c8
                        go_wp2_with fail
                        refine BR.out.mono ?_
                        rintro e w3 ⟨rfl, hb3⟩
                        have HB3 := Lib.hid (T.out.all (HBA2.out.trans (hb3.mono HBA2.out.size)))
                        have HF := Lib.hid (show R = bel w n.test.r from by
                          rw [HP.out, bel_iff]
                          apply decide_eq_decide.2
                          unfold testP
                          rw [HU.out, HUK.out]
                          constructor
                          · intro h
                            exact h.2.2.2.2.2.2.2.2.2
                          · intro h
                            exact ⟨K2.out, C1.out, HC.out.1, List.eq_nil_of_length_eq_zero HC.out.2.1, List.eq_nil_of_length_eq_zero HC.out.2.2.1, HC.out.2.2.2.1, HC.out.2.2.2.2.1, HC.out.2.2.2.2.2, HC8.out, h⟩)
                        clear hb3 BR
                        go_wp2
                        go_ret
                        exact ⟨by rw [HF.out]; rfl, HB3.out⟩
                      · rw [decide_eq_false c8]
                        have HF := Lib.hid (NOT.out (fun h => c8 (by have := h.2.2.2.2.2.2.2.1; rw [HU.out] at this; exact this)))
                        clear c8
                        go_wp2
                        go_ret
                        exact ⟨by rw [HF.out]; rfl, T.out.all HBA2.out⟩
                    · have HF := Lib.hid (NOT.out (fun h => c7 (h.2.2.2.2.2.2.1)))
                      have d7 : ¬ n.test.op ≤ 6 := c7
                      go_wp2
                      go_ret
                      exact ⟨by rw [HF.out]; rfl, T.out.all HBA.out⟩
                  · have HF := Lib.hid (NOT.out (fun h => c6 (h.2.2.2.2.2.1)))
                    have d6 : ¬ 1 ≤ n.test.op := c6
                    go_wp2
                    go_ret
                    exact ⟨by rw [HF.out]; rfl, T.out.all HBA.out⟩
                · have HF := Lib.hid (NOT.out (fun h => c5 ((by have := h.2.2.2.2.1; rw [HU.out] at this; exact this))))
                  have d5 : (n.width == (w : Int)) = false := by simpa using c5
                  go_wp2
                  go_ret
                  exact ⟨by rw [HF.out]; rfl, T.out.all HBA.out⟩
              · have HF := Lib.hid (NOT.out (fun h => c4 ((by rw [h.2.2.2.1]; rfl))))
                have d4 : ((n.new.length : Int) == 0) = false := by simp only [beq_eq_false_iff_ne, ne_eq]; omega
                go_wp2
                go_ret
                exact ⟨by rw [HF.out]; rfl, T.out.all HBA.out⟩
            · have HF := Lib.hid (NOT.out (fun h => c3 ((by rw [h.2.2.1]; rfl))))
              have d3 : ((n.links.length : Int) == 0) = false := by simp only [beq_eq_false_iff_ne, ne_eq]; omega
              go_wp2
              go_ret
              exact ⟨by rw [HF.out]; rfl, T.out.all HBA.out⟩
          · have HF := Lib.hid (NOT.out (fun h => c2 (h.2.1)))
            have d2 : (n.alpha == -1) = false := by simpa using c2
            go_wp2
            go_ret
            exact ⟨by rw [HF.out]; rfl, T.out.all HBA.out⟩
      · have HF := Lib.hid (show R = false by rw [HP.out]; exact decide_eq_false (fun h => k2 h.1))
        have e2 : (n.kind == 2) = false := by simpa using k2
        go_wp2
        go_ret
        exact ⟨by rw [HF.out]; rfl, T.out.below⟩
end Go.Proofs.YtonkbjdeaneicaaDoor

namespace Go.Proofs.YtonkbjdeaneicaaDoor
open Go Go.RowKit

section
variable {P : Program}
theorem run_copy_rowN (w : World) (dT sT ty elem : TypeId) (g o dLen dCap : Nat) (a : Addr) (sLen sCap sz : Nat) (cur : Array Value) (t : TypeId) (cs : List Value)
    (hu : P.underlying dT = some (.slice elem)) (hs : (P.info? elem).map (·.size) = some sz)
    (hg : w.heap[g]? = some (.cells cur t (0, 0))) (hn : cs.length = Nat.min sLen dLen * sz)
    (hsrc : ∀ j v, cs[j]? = some v → w.cell? (a.add j) = some v) (hfit : o + cs.length ≤ cur.size) (h1 : ∀ v ∈ cs, v.oneCell' = true) :
    (Builtin.copy_ #[dT, sT] ty #[.slice (some ⟨g, o, none⟩) dLen dCap, .slice (some a) sLen sCap]).run P w =
      .ok (goInt (Nat.min sLen dLen)) (w.setRow g (cur.toList.take o ++ cs ++ cur.toList.drop (o + cs.length)).toArray) := by
  have hl := run_loadCells_list (P := P) w a cs hsrc
  have hst := run_storeCells_at P g o t cs 0 cur w hg (by simpa using hfit) h1
  cases hq : P.info? elem with
  | none => simp [hq] at hs
  | some i =>
    have hi : i.size = sz := by simpa [hq] using hs
    simp [Builtin.copy_, run_underlying hu, Builtin.lenOf, Builtin.firstCells, sizeOf, typeInfo, hq, hi, ← hn, hl, hst]
theorem run_copy_noneN (w : World) (dT sT ty elem : TypeId) (d a : Option Addr) (dLen dCap sLen sCap sz : Nat) (hu : P.underlying dT = some (.slice elem)) (hs : (P.info? elem).map (·.size) = some sz) (hn : Nat.min sLen dLen = 0) :
    (Builtin.copy_ #[dT, sT] ty #[.slice d dLen dCap, .slice a sLen sCap]).run P w = .ok (goInt 0) w := by
  cases hq : P.info? elem with
  | none => simp [hq] at hs
  | some i =>
    have hl : ∀ (x : Addr), (loadCells x 0).run P w = .ok #[] w := fun x => by simpa using run_loadCells_list (P := P) w x [] (by simp)
    cases d <;> cases a <;> simp [Builtin.copy_, run_underlying hu, Builtin.lenOf, Builtin.firstCells, sizeOf, typeInfo, hq, hn, storeCells, hl]

theorem step_copyN {ops : Array Oper} {o : Oper} {a : Act} {w : World} {K : Act → World → Prop} {Q : Exit → Act → World → Prop} {E : Prop} (hgd : o.guard = none) (d s : Operand) (dT sT : TypeId)
    (ho : o.op = .call { callee := .builtin .copy, args := #[d, s], argTypes := #[dT, sT] }) (elem : TypeId) (hu : P.underlying dT = some (.slice elem)) {sz : Nat} (hsz : (P.info? elem).map (·.size) = some sz)
    (dp sp : Option Addr) (dLen dCap sLen sCap : Nat) (hd : a.eval d = .slice dp dLen dCap) (hs : a.eval s = .slice sp sLen sCap)
    (g off : Nat) (cur : List Value) (t : TypeId) (hg : w.heap[g]? = some (.cells cur.toArray t (0, 0))) (cs : List Value) (hn : cs.length = Nat.min sLen dLen * sz)
    (hpos : 0 < Nat.min sLen dLen → dp = some ⟨g, off, none⟩ ∧ ∃ ad, sp = some ad ∧ ∀ j v, cs[j]? = some v → w.cell? (ad.add j) = some v)
    (hfit : off + cs.length ≤ cur.length) (h1 : ∀ v ∈ cs, v.oneCell' = true) (B : Nat) (w0 : World) (hb : Below B w0 w) (hBg : B ≤ g)
    (h : ∀ w', Hid (w'.heap[g]? = some (.cells (splice cur off cs).toArray t (0, 0))) → Below B w0 w' → K (a.put o.dst (goInt (Nat.min sLen dLen))) w') :
    if Region.wanted o (yielded ops a.tmps) = true then Oper.wp P o a w K Q else E := by
  have hw : Region.wanted o (yielded ops a.tmps) = true := by simp [Region.wanted, hgd]
  rw [if_pos hw]
  by_cases h0 : Nat.min sLen dLen = 0
  · obtain rfl : cs = [] := List.eq_nil_of_length_eq_zero (by rw [hn, h0, Nat.zero_mul])
    have hrun := run_copy_noneN (P := P) w dT sT o.type elem dp sp dLen dCap sLen sCap sz hu hsz h0
    have hh := h w (show _ = _ by simpa [splice] using hg) hb
    rw [h0] at hh
    unfold Oper.wp
    simp [execOp, ho, resolve, invoke, builtin, hd, hs, hrun, Result.andThen]
    exact hh
  · obtain ⟨rfl, ad, rfl, hsrc⟩ := hpos (by omega)
    have hrun := run_copy_rowN (P := P) w dT sT o.type elem g off dLen dCap ad sLen sCap sz cur.toArray t cs hu hsz hg hn hsrc (by simpa using hfit) h1
    unfold Oper.wp
    simp [execOp, ho, resolve, invoke, builtin, hd, hs, hrun, Result.andThen]
    exact h _ (show _ = _ by simpa [splice] using setRow_heap w g _ _ t _ hg) (below_setRow hb hBg _)
end
end Go.Proofs.YtonkbjdeaneicaaDoor

namespace Go.Proofs.YtonkbjdeaneicaaDoor
open Go Go.RowKit Pln

def li (l : List (Int × Int)) (j : Nat) : Int := if j % 2 = 0 then ((l[j / 2]?).map (·.1)).getD 0 else ((l[j / 2]?).map (·.2)).getD 0
def mi (m : List Int) (j : Nat) : Int := (m[j]?).getD 0
def lcells (l : List (Int × Int)) : List Value := l.flatMap fun x => [.int .i64 x.1, .int .i64 x.2]
def ncells (m : List Int) : List Value := m.map (Value.int .i64)
theorem lcells_len (l : List (Int × Int)) : (lcells l).length = l.length * 2 := by
  induction l with
  | nil => rfl
  | cons a r ih => simp only [lcells, List.flatMap_cons, List.length_append, List.length_cons, List.length_nil] at ih ⊢; omega
theorem lcells_at {l : List (Int × Int)} {k : Nat} {x : Int × Int} (h : l[k]? = some x) : (lcells l)[k * 2]? = some (.int .i64 x.1) ∧ (lcells l)[k * 2 + 1]? = some (.int .i64 x.2) := by
  induction l generalizing k with
  | nil => simp at h
  | cons a r ih =>
    match k with
    | 0 =>
      simp at h
      subst h
      exact ⟨rfl, rfl⟩
    | k + 1 =>
      have e : lcells (a :: r) = .int .i64 a.1 :: .int .i64 a.2 :: lcells r := rfl
      rw [e, show (k + 1) * 2 = k * 2 + 1 + 1 by omega]
      simp only [List.getElem?_cons_succ]
      exact ih (by simpa using h)
theorem splice_l (h0 h1 h2 h3 h4 h5 h6 h7 h8 q wd : Value) (l : List (Int × Int)) (hl : l.length ≤ 8) : splice [h0, h1, h2, h3, h4, h5, h6, h7, h8, .int .i64 0, .int .i64 0, .int .i64 0, .int .i64 0, .int .i64 0, .int .i64 0, .int .i64 0, .int .i64 0, .int .i64 0, .int .i64 0, .int .i64 0, .int .i64 0, .int .i64 0, .int .i64 0, .int .i64 0, .int .i64 0, q, .int .i64 0, .int .i64 0, .int .i64 0, .int .i64 0, .int .i64 0, .int .i64 0, .int .i64 0, .int .i64 0, wd] 9 (lcells l) = [h0, h1, h2, h3, h4, h5, h6, h7, h8, .int .i64 (li l 0), .int .i64 (li l 1), .int .i64 (li l 2), .int .i64 (li l 3), .int .i64 (li l 4), .int .i64 (li l 5), .int .i64 (li l 6), .int .i64 (li l 7), .int .i64 (li l 8), .int .i64 (li l 9), .int .i64 (li l 10), .int .i64 (li l 11), .int .i64 (li l 12), .int .i64 (li l 13), .int .i64 (li l 14), .int .i64 (li l 15), q, .int .i64 0, .int .i64 0, .int .i64 0, .int .i64 0, .int .i64 0, .int .i64 0, .int .i64 0, .int .i64 0, wd] := by
  match l, hl with
  | [], _ => rfl
  | [a0], _ => rfl
  | [a0, a1], _ => rfl
  | [a0, a1, a2], _ => rfl
  | [a0, a1, a2, a3], _ => rfl
  | [a0, a1, a2, a3, a4], _ => rfl
  | [a0, a1, a2, a3, a4, a5], _ => rfl
  | [a0, a1, a2, a3, a4, a5, a6], _ => rfl
  | [a0, a1, a2, a3, a4, a5, a6, a7], _ => rfl
theorem splice_m (h0 h1 h2 h3 h4 h5 h6 h7 h8 x0 x1 x2 x3 x4 x5 x6 x7 x8 x9 x10 x11 x12 x13 x14 x15 q wd : Value) (m : List Int) (hl : m.length ≤ 8) : splice [h0, h1, h2, h3, h4, h5, h6, h7, h8, x0, x1, x2, x3, x4, x5, x6, x7, x8, x9, x10, x11, x12, x13, x14, x15, q, .int .i64 0, .int .i64 0, .int .i64 0, .int .i64 0, .int .i64 0, .int .i64 0, .int .i64 0, .int .i64 0, wd] 26 (ncells m) = [h0, h1, h2, h3, h4, h5, h6, h7, h8, x0, x1, x2, x3, x4, x5, x6, x7, x8, x9, x10, x11, x12, x13, x14, x15, q, .int .i64 (mi m 0), .int .i64 (mi m 1), .int .i64 (mi m 2), .int .i64 (mi m 3), .int .i64 (mi m 4), .int .i64 (mi m 5), .int .i64 (mi m 6), .int .i64 (mi m 7), wd] := by
  match m, hl with
  | [], _ => rfl
  | [a0], _ => rfl
  | [a0, a1], _ => rfl
  | [a0, a1, a2], _ => rfl
  | [a0, a1, a2, a3], _ => rfl
  | [a0, a1, a2, a3, a4], _ => rfl
  | [a0, a1, a2, a3, a4, a5], _ => rfl
  | [a0, a1, a2, a3, a4, a5, a6], _ => rfl
  | [a0, a1, a2, a3, a4, a5, a6, a7], _ => rfl
/-- What a node asks. -/
def askA (n : Nd) : Array Value := #[.int .i64 n.kind, .int .i64 n.parent, .int .i64 n.alpha, .int .i64 n.test.op, .bool n.test.l.v, .int .i64 n.test.l.n, .bool n.test.r.v, .int .i64 n.test.r.n, .int .i64 n.links.length, .int .i64 (li n.links 0), .int .i64 (li n.links 1), .int .i64 (li n.links 2), .int .i64 (li n.links 3), .int .i64 (li n.links 4), .int .i64 (li n.links 5), .int .i64 (li n.links 6), .int .i64 (li n.links 7), .int .i64 (li n.links 8), .int .i64 (li n.links 9), .int .i64 (li n.links 10), .int .i64 (li n.links 11), .int .i64 (li n.links 12), .int .i64 (li n.links 13), .int .i64 (li n.links 14), .int .i64 (li n.links 15), .int .i64 n.new.length, .int .i64 (mi n.new 0), .int .i64 (mi n.new 1), .int .i64 (mi n.new 2), .int .i64 (mi n.new 3), .int .i64 (mi n.new 4), .int .i64 (mi n.new 5), .int .i64 (mi n.new 6), .int .i64 (mi n.new 7), .int .i64 n.width]
theorem li_inj {a b : List (Int × Int)} (ha : a.length ≤ 8) (hl : a.length = b.length) (h : ∀ j, j < 16 → li a j = li b j) : a = b := by
  apply List.ext_getElem?
  intro i
  rcases Nat.lt_or_ge i a.length with h1 | h1
  · have e1 := h (2 * i) (by omega)
    have e2 := h (2 * i + 1) (by omega)
    unfold li at e1 e2
    rw [if_pos (by omega), if_pos (by omega), show 2 * i / 2 = i by omega] at e1
    rw [if_neg (by omega), if_neg (by omega), show (2 * i + 1) / 2 = i by omega] at e2
    rw [List.getElem?_eq_getElem h1, List.getElem?_eq_getElem (show i < b.length by omega)] at e1 e2 ⊢
    simp only [Option.map_some, Option.getD_some] at e1 e2
    exact congrArg some (Prod.ext e1 e2)
  · rw [List.getElem?_eq_none h1, List.getElem?_eq_none (by omega)]
theorem mi_inj {a b : List Int} (ha : a.length ≤ 8) (hl : a.length = b.length) (h : ∀ j, j < 8 → mi a j = mi b j) : a = b := by
  apply List.ext_getElem?
  intro i
  rcases Nat.lt_or_ge i a.length with h1 | h1
  · have e1 := h i (by omega)
    unfold mi at e1
    rw [List.getElem?_eq_getElem h1, List.getElem?_eq_getElem (show i < b.length by omega)] at e1 ⊢
    simp only [Option.getD_some] at e1
    rw [e1]
  · rw [List.getElem?_eq_none h1, List.getElem?_eq_none (by omega)]
theorem askA_size (n : Nd) : (askA n).size = 35 := rfl
theorem askA_one (n : Nd) : (askA n).all (·.oneCell') = true := by simp [askA, Value.oneCell']
theorem askA_at {n m : Nd} (h : askA n = askA m) (j : Nat) : (askA n)[j]? = (askA m)[j]? := by rw [h]
theorem askA_inj {n m : Nd} (h : askA n = askA m) (hl : n.links.length ≤ 8) (hn : n.new.length ≤ 8) : n = m := by
  have J := fun j => askA_at h j
  have e0 := J 0
  have e1 := J 1
  have e2 := J 2
  have e3 := J 3
  have e4 := J 4
  have e5 := J 5
  have e6 := J 6
  have e7 := J 7
  have e8 := J 8
  have e9 := J 9
  have e10 := J 10
  have e11 := J 11
  have e12 := J 12
  have e13 := J 13
  have e14 := J 14
  have e15 := J 15
  have e16 := J 16
  have e17 := J 17
  have e18 := J 18
  have e19 := J 19
  have e20 := J 20
  have e21 := J 21
  have e22 := J 22
  have e23 := J 23
  have e24 := J 24
  have e25 := J 25
  have e26 := J 26
  have e27 := J 27
  have e28 := J 28
  have e29 := J 29
  have e30 := J 30
  have e31 := J 31
  have e32 := J 32
  have e33 := J 33
  have e34 := J 34
  simp only [askA, List.getElem?_toArray, List.getElem?_cons_succ, List.getElem?_cons_zero, Option.some.injEq, Value.int.injEq, Value.bool.injEq, true_and] at e0 e1 e2 e3 e4 e5 e6 e7 e8 e9 e10 e11 e12 e13 e14 e15 e16 e17 e18 e19 e20 e21 e22 e23 e24 e25 e26 e27 e28 e29 e30 e31 e32 e33 e34
  have hL : n.links = m.links := li_inj hl (by omega) (fun j hj => by
    match j, hj with
    | 0, _ => exact e9
    | 1, _ => exact e10
    | 2, _ => exact e11
    | 3, _ => exact e12
    | 4, _ => exact e13
    | 5, _ => exact e14
    | 6, _ => exact e15
    | 7, _ => exact e16
    | 8, _ => exact e17
    | 9, _ => exact e18
    | 10, _ => exact e19
    | 11, _ => exact e20
    | 12, _ => exact e21
    | 13, _ => exact e22
    | 14, _ => exact e23
    | 15, _ => exact e24
    | j + 16, h => omega)
  have hM : n.new = m.new := mi_inj hn (by omega) (fun j hj => by
    match j, hj with
    | 0, _ => exact e26
    | 1, _ => exact e27
    | 2, _ => exact e28
    | 3, _ => exact e29
    | 4, _ => exact e30
    | 5, _ => exact e31
    | 6, _ => exact e32
    | 7, _ => exact e33
    | j + 8, h => omega)
  obtain ⟨a1, a2, a3, a4, a5, ⟨b1, ⟨c1, c2⟩, ⟨d1, d2⟩⟩, a7⟩ := n
  obtain ⟨a1', a2', a3', a4', a5', ⟨b1', ⟨c1', c2'⟩, ⟨d1', d2'⟩⟩, a7'⟩ := m
  simp only at e0 e1 e2 e3 e4 e5 e6 e7 e34 hL hM
  rw [e0, e1, e2, e3, e4, e5, e6, e7, e34, hL, hM]
end Go.Proofs.YtonkbjdeaneicaaDoor
