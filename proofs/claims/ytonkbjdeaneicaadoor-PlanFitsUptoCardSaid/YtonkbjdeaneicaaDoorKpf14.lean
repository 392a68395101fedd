/- placesRight, walked. nodeRight. The builtin copy at elements of several cells, as one step of a region that draws its order. Over any program. -/
import Derived.Test.YtonkbjdeaneicaaDoorKpf10
import Derived.Test.YtonkbjdeaneicaaDoorKpf13
import Derived.Laws.CopyOwn
import Derived.Laws.CopyRow
namespace Go.Proofs.YtonkbjdeaneicaaDoor
open Go.RowKit Pln Classical Go.Maps

/-- Two boxes. -/
structure Two (W W2 : World) (a b : Array Value) (ta tb : TypeId) : Prop where
  below : Below W.heap.size W W2
  size : W2.heap.size = W.heap.size + 1 + 1
  ha : W2.heap[W.heap.size]? = some (.cells a ta (0, 0))
  hb : W2.heap[W.heap.size + 1]? = some (.cells b tb (0, 0))
theorem two (W : World) (a b : Array Value) (ta tb : TypeId) : Two W ((W.alloc (.cells a ta)).alloc (.cells b tb)) a b ta tb := by
  refine ⟨((Below.refl _ _).alloc (Nat.le_refl _) _).alloc (by simp) _, by simp, ?_, ?_⟩
  · rw [Below.heap_alloc _ _ _ (by simp)]
    exact heap_alloc_new W _
  · have := heap_alloc_new (W.alloc (.cells a ta)) (.cells b tb)
    simpa using this
section
variable {W W2 wr : World} {a b : Array Value} {ta tb : TypeId}
theorem Two.ca (h : Two W W2 a b ta tb) (hb : Below W2.heap.size W2 wr) (j : Nat) {u : Value} (hu : a.toList[j]? = some u) : wr.cell? ⟨W.heap.size, j, none⟩ = some u := rboxL ((hb.block _ (by have := h.size; omega)).trans h.ha) j hu
theorem Two.cb (h : Two W W2 a b ta tb) (hb : Below W2.heap.size W2 wr) (j : Nat) {u : Value} (hu : b.toList[j]? = some u) : wr.cell? ⟨W.heap.size + 1, j, none⟩ = some u := rboxL ((hb.block _ (by have := h.size; omega)).trans h.hb) j hu
theorem Two.all (h : Two W W2 a b ta tb) (hb : Below W2.heap.size W2 wr) : Below W.heap.size W wr := h.below.trans (hb.mono (by have := h.size; omega))
end
/-- The two arrays, behind the boxes. -/
structure PS (W2 wr : World) (tm hd : List Value) : Prop where
  below : Below W2.heap.size W2 wr
  tm : Arr wr W2.heap.size 108 tm
  hd : Arr wr (W2.heap.size + 1) 140 hd
section
variable {W2 wr wr' : World} {tm hd : List Value}
theorem PS.step (h : PS W2 wr tm hd) (hb : Below wr.heap.size wr wr') : PS W2 wr' tm hd := ⟨h.below.trans (hb.mono h.below.size), h.tm.step hb, h.hd.step hb⟩
theorem PS.putT (h : PS W2 wr tm hd) (j : Nat) (v : Value) : PS W2 (wr.setCell ⟨W2.heap.size, j, none⟩ v) (tm.set j v) hd := by
  obtain ⟨h1, h2⟩ := h.tm.put j v
  exact ⟨h.below.trans (h2.below h.below.size (fun x hx => by rw [List.mem_singleton.1 hx]; exact Nat.le_refl _)), h1, h.hd.turns h2 (by simp)⟩
theorem PS.putH (h : PS W2 wr tm hd) (j : Nat) (v : Value) : PS W2 (wr.setCell ⟨W2.heap.size + 1, j, none⟩ v) tm (hd.set j v) := by
  obtain ⟨h1, h2⟩ := h.hd.put j v
  exact ⟨h.below.trans (h2.below h.below.size (fun x hx => by rw [List.mem_singleton.1 hx]; exact Nat.le_succ _)), h.tm.turns h2 (by simp), h1⟩
end
theorem ps_new (W2 : World) : PS W2 ((W2.alloc (.cells #[.int .i64 0, .int .i64 0, .int .i64 0, .int .i64 0, .int .i64 0, .int .i64 0, .int .i64 0, .int .i64 0] 108)).alloc (.cells #[.bool false, .bool false, .bool false, .bool false, .bool false, .bool false, .bool false, .bool false, .bool false, .bool false, .bool false, .bool false, .bool false, .bool false, .bool false, .bool false] 140)) (tmL []) (hdL []) := by
  have h1 := Arr.new W2 108 #[.int .i64 0, .int .i64 0, .int .i64 0, .int .i64 0, .int .i64 0, .int .i64 0, .int .i64 0, .int .i64 0] (by unfold maxLen; decide)
  have h2 := Arr.new (W2.alloc (.cells #[.int .i64 0, .int .i64 0, .int .i64 0, .int .i64 0, .int .i64 0, .int .i64 0, .int .i64 0, .int .i64 0] 108)) 140 #[.bool false, .bool false, .bool false, .bool false, .bool false, .bool false, .bool false, .bool false, .bool false, .bool false, .bool false, .bool false, .bool false, .bool false, .bool false, .bool false] (by unfold maxLen; decide)
  refine ⟨((Below.refl _ _).alloc (Nat.le_refl _) _).alloc (by simp) _, ?_, ?_⟩
  · exact h1.step ((Below.refl _ _).alloc (Nat.le_refl _) _)
  · have e : hdL [] = List.replicate 16 (.bool false) := by
      apply List.ext_getElem?
      intro i
      by_cases hi : i < 16
      · rw [hdL_at _ hi, List.getElem?_replicate, if_pos hi]; simp
      · rw [List.getElem?_eq_none (by rw [hdL_len]; omega), List.getElem?_eq_none (by simp; omega)]
    rw [e]
    simpa using h2
theorem neq_tst (a b : Tst) (w : World) : (binOp .neq 38 (.agg #[.int .i64 a.op, .bool a.l.v, .int .i64 a.l.n, .bool a.r.v, .int .i64 a.r.n]) (.agg #[.int .i64 b.op, .bool b.l.v, .int .i64 b.l.n, .bool b.r.v, .int .i64 b.r.n])).run Tryd.prog w = .ok (.bool (!decide (a = b))) w := by
  obtain ⟨ao, ⟨alv, aln⟩, ⟨arv, arn⟩⟩ := a
  obtain ⟨bo, ⟨blv, bln⟩, ⟨brv, brn⟩⟩ := b
  rw [show decide ((⟨ao, ⟨alv, aln⟩, ⟨arv, arn⟩⟩ : Tst) = ⟨bo, ⟨blv, bln⟩, ⟨brv, brn⟩⟩) = decide (ao = bo ∧ (alv = blv ∧ aln = bln) ∧ (arv = brv ∧ arn = brn)) from by simp only [Tst.mk.injEq, Slt.mk.injEq]]
  by_cases h1 : ao = bo
  · by_cases h0 : alv = blv
    · by_cases h2 : aln = bln
      · by_cases h4 : arv = brv
        · by_cases h3 : arn = brn
          · simp [go_sem, h0, h1, h2, h3, h4]
          · simp [go_sem, h0, h1, h2, h3, h4]
        · simp [go_sem, h0, h1, h2, h4]
      · simp [go_sem, h0, h1, h2]
    · simp [go_sem, h0, h1]
  · simp [go_sem, h1]

theorem take_map_next {α β : Type} (f : α → β) {l : List α} {k : Nat} {x : α} (h : l[k]? = some x) : (l.take (k + 1)).map f = (l.take k).map f ++ [f x] := by
  rw [List.take_add_one, h]; simp
theorem count_le (l : List Int) (x : Int) (k : Nat) (h : l.length ≤ k) : l.count x ≤ k := Nat.le_trans List.count_le_length h

set_option maxRecDepth 200000 in
set_option maxHeartbeats 8000000 in
theorem placesW {F : Nat → Prop} (W : World) (av nv ev : Value) (al : List Shp) (hA : RSl F W 2 (EShp F W) av al) (n : Nd) (ncs : List Value) (lv mv : Value) (hN : ENd F W ncs n lv mv) (ai : Nat) (s : Shp) (hs : al[ai]? = some s) (ha : n.alpha = ai) (h8 : s.cells.length ≤ 8) (w : Nat) (hw : w ≤ 16) (hml : n.new.length ≤ 1000000000) :
    Calls Tryd.prog 79 #[.agg #[av, nv, ev], .agg #[.int .i64 n.kind, .int .i64 n.parent, .int .i64 n.alpha, lv, mv, .int .i64 n.test.op, .bool n.test.l.v, .int .i64 n.test.l.n, .bool n.test.r.v, .int .i64 n.test.r.n, .int .i64 n.width], .int .i64 (w : Int)] W
      fun e W' => e = .returned (.bool (decide (placesP s.cells n w))) ∧ Below W.heap.size W W' := by
  obtain ⟨Aa, ca, rfl⟩ := hA.form
  have ham := hA.len
  unfold maxLen at ham
  have hail := (List.getElem?_eq_some_iff.1 hs).1
  obtain ⟨ab, ao, scs, rfl, ⟨sv, rfl, -, hsv⟩, hsc⟩ := hA.rd hs
  obtain ⟨Al, cl, rfl⟩ := hN.links.form
  obtain ⟨Am, cm, rfl⟩ := hN.new.form
  obtain ⟨As, cc, rfl⟩ := hsv.form
  have hll := hN.links.len
  unfold maxLen at hll
  have hwo := hN.ok.2.2.2.1.lo
  rw [ha]
  obtain ⟨R, hR⟩ : ∃ R, decide (placesP s.cells n w) = R := ⟨_, rfl⟩
  rw [hR]
  have HR := Lib.hid hR
  have HL := Lib.hid hN.links
  have HM := Lib.hid hN.new
  have HSV := Lib.hid hsv
  have T := Lib.hid (two W #[.slice (some ⟨ab, ao, none⟩) al.length ca, nv, ev] #[.int .i64 n.kind, .int .i64 n.parent, .int .i64 (ai : Int), .slice Al n.links.length cl, .slice Am n.new.length cm, .int .i64 n.test.op, .bool n.test.l.v, .int .i64 n.test.l.n, .bool n.test.r.v, .int .i64 n.test.r.n, .int .i64 n.width] 26 40)
  have e1 : (0 : Int) ≤ (ai : Int) := by omega
  have e2 : (ai : Int) < (al.length : Int) := by omega
  have e3 : IntKind.i64.wrap ((w : Int) + (n.new.length : Int)) = (w : Int) + (n.new.length : Int) := IntWalk.i64_in _ (by omega)
  clear hR hA hs hN hsv ha
  go_enter Tryd.func79, Tryd.ntmps79
  go_upto_region 1 with fail
  obtain ⟨W2, hW2⟩ : ∃ W2, W2 = ((W.alloc (.cells #[.slice (some ⟨ab, ao, none⟩) al.length ca, nv, ev] 26)).alloc (.cells #[.int .i64 n.kind, .int .i64 n.parent, .int .i64 (ai : Int), .slice Al n.links.length cl, .slice Am n.new.length cm, .int .i64 n.test.op, .bool n.test.l.v, .int .i64 n.test.l.n, .bool n.test.r.v, .int .i64 n.test.r.n, .int .i64 n.width] 40)) := ⟨_, rfl⟩
  rw [← hW2] at T ⊢
  clear hW2
  have y0 := T.out.ca (Below.refl _ _) 0 rfl
  have b2 := T.out.cb (Below.refl _ _) 2 rfl
  have b4 := T.out.cb (Below.refl _ _) 4 rfl
  have b5 := T.out.cb (Below.refl _ _) 5 rfl
  have b6 := T.out.cb (Below.refl _ _) 6 rfl
  have b7 := T.out.cb (Below.refl _ _) 7 rfl
  have b8 := T.out.cb (Below.refl _ _) 8 rfl
  have b9 := T.out.cb (Below.refl _ _) 9 rfl
  have b10 := T.out.cb (Below.refl _ _) 10 rfl
  have c1 := hsc _ (T.out.all (Below.refl _ _)) 1 _ rfl
  have hne := fun W => neq_tst n.test noTst W
  simp only [noTst, noSlt] at hne
  clear hsc
  have DT := Lib.hid (Below.refl W2.heap.size W2)
  by_cases t1 : n.test = noTst
  · have t1d : decide (n.test = noTst) = true := decide_eq_true t1
    simp only [noTst, noSlt] at t1d
    rw [t1d] at hne
    simp only [Bool.not_true] at hne
    by_cases t2 : n.width = (w : Int) + (n.new.length : Int)
    · by_cases t3 : n.width ≤ 16
      · have HT := Lib.hid (show n.test = noTst ∧ n.width = (w : Int) + (n.new.length : Int) ∧ n.width ≤ 16 from ⟨t1, t2, t3⟩)
        have t3' : (w : Int) + (n.new.length : Int) ≤ 16 := by omega
        have t3n : ¬ (16 : Int) < (w : Int) + (n.new.length : Int) := by omega
        rw [t2] at b10
        clear t1 t1d t2 t3
        go_upto_region 6 with fail
        have P0 := Lib.hid (ps_new W2)
        obtain ⟨W4, hW4⟩ : ∃ W4, W4 = ((W2.alloc (.cells #[.int .i64 0, .int .i64 0, .int .i64 0, .int .i64 0, .int .i64 0, .int .i64 0, .int .i64 0, .int .i64 0] 108)).alloc (.cells #[.bool false, .bool false, .bool false, .bool false, .bool false, .bool false, .bool false, .bool false, .bool false, .bool false, .bool false, .bool false, .bool false, .bool false, .bool false, .bool false] 140)) := ⟨_, rfl⟩
        rw [← hW4] at P0 ⊢
        clear hW4 y0 b2 b4 b5 b6 b7 b8 b9 b10 c1 hne
        have b3 := T.out.cb P0.out.below 3 rfl
        go_wp2_with fail
        clear b3
        go_loopw [10, 47] (fun lav kv wr => ∃ k : Nat, kv = .int .i64 k ∧ lav = .int .i64 (lastF Prod.fst n.links k) ∧ k ≤ n.links.length ∧ (∀ q, q < k → linkOk s.cells.length w n.links q) ∧ PS W2 wr (tmL ((n.links.take k).map Prod.fst)) (hdL ((n.links.take k).map Prod.snd))) (fun _ k _ => n.links.length - (intOf k).toNat)
        case atStart => exact ⟨0, rfl, rfl, Nat.zero_le _, fun q hq => by omega, P0.out⟩
        case round =>
          obtain ⟨k, rfl, rfl, hk, hO, hP⟩ := hrel
          clear P0
          have hla := last_link k hk hO
          obtain ⟨la, hlae⟩ : ∃ la, lastF Prod.fst n.links k = la := ⟨_, rfl⟩
          rw [hlae] at hla ⊢
          have HLA := Lib.hid hlae
          clear hlae
          by_cases hkn : k < n.links.length
          · obtain ⟨x, hx⟩ : ∃ x, n.links[k]? = some x := ⟨_, List.getElem?_eq_getElem hkn⟩
            obtain ⟨lb, lo, cs, rfl, ⟨rfl, ok1, ok2⟩, hc⟩ := HL.out.rd hx
            have c0 := hc _ (T.out.all hP.below) 0 _ rfl
            have c1 := hc _ (T.out.all hP.below) 1 _ rfl
            simp only [Nat.add_zero] at c0
            have e4 : (0 : Int) ≤ (k : Int) := by omega
            have e5 : (k : Int) < (n.links.length : Int) := by omega
            obtain ⟨wa, hwa⟩ : ∃ wa, wa = wr.alloc (.cells #[.int .i64 x.1, .int .i64 x.2] 56) := ⟨_, rfl⟩
            have hrow : wa.heap[wr.heap.size]? = some (.cells #[.int .i64 x.1, .int .i64 x.2] 56 (0, 0)) := by rw [hwa]; exact heap_alloc_new wr _
            have hPa : PS W2 wa (tmL ((n.links.take k).map Prod.fst)) (hdL ((n.links.take k).map Prod.snd)) := by rw [hwa]; exact hP.step ((Below.refl _ _).alloc (Nat.le_refl _) _)
            have hlt := hP.hd.lt
            have z0 := rboxL hrow 0 rfl
            have z1 := rboxL hrow 1 rfl
            have HK := Lib.hid hkn
            have HX := Lib.hid hx
            have HO := Lib.hid hO
            have HPA := Lib.hid hPa
            have HROW := Lib.hid hrow
            clear hc hx hkn hP hPa hrow hO ok1 ok2
            go_upto_region 10 with fail
            rw [← hwa]
            clear hwa c0 c1
            have NO := Lib.hid (show ¬ (la < x.1 ∧ x.1 < (s.cells.length : Int) ∧ 0 ≤ x.2 ∧ x.2 < (w : Int) ∧ x.2 ∉ (n.links.take k).map Prod.snd) → R = false from fun hno => by
              rw [← HR.out]
              refine decide_eq_false (fun h => hno ?_)
              have h2 := h.2.1 k HK.out x HX.out
              rw [HLA.out] at h2
              refine ⟨h2.1, h2.2.1, h2.2.2.1, h2.2.2.2.1, fun hm => ?_⟩
              obtain ⟨y, hy, hyx⟩ := List.mem_map.1 hm
              obtain ⟨q, hq, rfl⟩ := List.getElem_of_mem hy
              rw [List.length_take] at hq
              refine h2.2.2.2.2 q (by omega) _ ?_ hyx
              rw [List.getElem_take, List.getElem?_eq_getElem (by omega)])
            obtain ⟨xp, xv⟩ := x
            simp only at z0 z1 NO HROW
            by_cases h1 : la < xp
            · have h1n : ¬ xp ≤ la := by omega
              by_cases h2 : xp < (s.cells.length : Int)
              · have h2n : ¬ (s.cells.length : Int) ≤ xp := by omega
                by_cases h3 : 0 ≤ xv
                · have h3n : ¬ xv < 0 := by omega
                  by_cases h4 : xv < (w : Int)
                  · have h4n : ¬ (w : Int) ≤ xv := by omega
                    obtain ⟨vn, rfl⟩ : ∃ vn : Nat, xv = (vn : Int) := ⟨xv.toNat, by omega⟩
                    obtain ⟨pn, rfl⟩ : ∃ pn : Nat, xp = (pn : Int) := ⟨xp.toNat, by omega⟩
                    have hh := HPA.out.hd.cell (hdL_at _ (show vn < 16 by omega))
                    have f1 : (vn : Int) < 16 := by omega
                    have f2 : (pn : Int) < 8 := by omega
                    have f3 : (0 : Int) ≤ (pn : Int) := by omega
                    by_cases h5 : (vn : Int) ∈ (n.links.take k).map Prod.snd
                    · rw [decide_eq_true h5] at hh
                      have HF := Lib.hid (NO.out (fun h => h.2.2.2.2 h5))
                      clear h5
                      go_wp2
                      go_ret
                      exact ⟨by rw [HF.out]; rfl, T.out.all HPA.out.below⟩
                    · rw [decide_eq_false h5] at hh
                      have HOK2 := Lib.hid (show ∀ q, q < k + 1 → linkOk s.cells.length w n.links q from fun q hq => by
                        by_cases e : q = k
                        · subst e
                          intro y hy
                          rw [HX.out] at hy
                          injection hy with hy
                          subst hy
                          rw [HLA.out]
                          refine ⟨h1, h2, h3, h4, fun q' hq' y hy he => h5 ?_⟩
                          have he : y.2 = (vn : Int) := he
                          rw [← he]
                          refine List.mem_map_of_mem ?_
                          have hql := (List.getElem?_eq_some_iff.1 hy).1
                          have : (n.links.take q)[q']? = some y := by rw [List.getElem?_take, if_pos hq']; exact hy
                          exact List.mem_of_getElem? this
                        · exact HO.out q (by omega))
                      obtain ⟨wh, hwh⟩ : ∃ wh, wh = wa.setCell ⟨W2.heap.size + 1, vn, none⟩ (.bool true) := ⟨_, rfl⟩
                      have hPh := HPA.out.putH vn (.bool true)
                      have hTh := (HPA.out.hd.put vn (.bool true)).2
                      rw [← hwh] at hPh hTh
                      have hrow2 := (hTh.block _ (lt_of_heap HROW.out) (by simp; omega)).trans HROW.out
                      have u0 := rboxL hrow2 0 rfl
                      have u1 := rboxL hrow2 1 rfl
                      obtain ⟨ct, hct⟩ : ∃ ct, ((n.links.take k).map Prod.fst).count (pn : Int) = ct := ⟨_, rfl⟩
                      have hctl : ct ≤ k := by rw [← hct]; exact count_le _ _ _ (by simp; omega)
                      have tt := hPh.tm.cell (tmL_at _ (show pn < 8 by omega))
                      rw [hct] at tt
                      have f4 := hPh.tm.frozen pn
                      have f5 := HPA.out.hd.frozen vn
                      have f6 : IntKind.i64.wrap ((ct : Int) + 1) = (ct : Int) + 1 := IntWalk.i64_in _ (by have := HK.out; omega)
                      have hput := hPh.putT pn (.int .i64 ((ct : Int) + 1))
                      rw [← hct, ← tmL_put _ (show pn < 8 by omega), ← hdL_put _ (show vn < 16 by omega), ← take_map_next Prod.fst HX.out, ← take_map_next Prod.snd HX.out] at hput
                      rw [hct] at hput
                      have HPUT := Lib.hid hput
                      have HNX := Lib.hid (lastF_next (f := Prod.fst) HX.out)
                      clear h5 hPh hTh hrow2 hct hput
                      go_upto_region 14 with fail
                      rw [← hwh]
                      clear hwh hh z0 z1 f5
                      go_wp2_with fail
                      exact ⟨⟨k + 1, by go_num, by rw [HNX.out], HK.out, HOK2.out, HPUT.out⟩, by simp [intOf]; have := HK.out; omega⟩
                  · have h4n : (w : Int) ≤ xv := by omega
                    have HF := Lib.hid (NO.out (fun h => h4 h.2.2.2.1))
                    clear h4
                    go_wp2
                    go_ret
                    exact ⟨by rw [HF.out]; rfl, T.out.all HPA.out.below⟩
                · have h3n : xv < 0 := by omega
                  have HF := Lib.hid (NO.out (fun h => h3 h.2.2.1))
                  clear h3
                  go_wp2
                  go_ret
                  exact ⟨by rw [HF.out]; rfl, T.out.all HPA.out.below⟩
              · have h2n : (s.cells.length : Int) ≤ xp := by omega
                have HF := Lib.hid (NO.out (fun h => h2 h.2.1))
                clear h2
                go_wp2
                go_ret
                exact ⟨by rw [HF.out]; rfl, T.out.all HPA.out.below⟩
            · have h1n : xp ≤ la := by omega
              have HF := Lib.hid (NO.out (fun h => h1 h.1))
              clear h1
              go_wp2
              go_ret
              exact ⟨by rw [HF.out]; rfl, T.out.all HPA.out.below⟩
          · obtain rfl : k = n.links.length := by omega
            simp only [List.take_length] at hP
            have HO := Lib.hid hO
            have HP1 := Lib.hid hP
            have HLB := Lib.hid (show n.links.length + n.new.length + 1 ≤ 9223372036854775807 by have := links_len HO.out; omega)
            have b4 := T.out.cb hP.below 4 rfl
            clear hO hP hkn hla
            go_wp2
            clear b4
            go_loopw [10, 94] (fun lav kv wr => ∃ k : Nat, kv = .int .i64 k ∧ lav = .int .i64 (lastF id n.new k) ∧ k ≤ n.new.length ∧ (∀ q, q < k → newOk s.cells.length n.new q) ∧ PS W2 wr (tmL (n.links.map Prod.fst ++ n.new.take k)) (hdL (n.links.map Prod.snd))) (fun _ k _ => n.new.length - (intOf k).toNat)
            case atStart => exact ⟨0, rfl, rfl, Nat.zero_le _, fun q hq => by omega, by simpa using HP1.out⟩
            case round =>
              obtain ⟨k, rfl, rfl, hk, hN, hP⟩ := hrel
              clear HP1
              have hla := last_new k hk hN
              obtain ⟨la, hlae⟩ : ∃ la, lastF id n.new k = la := ⟨_, rfl⟩
              rw [hlae] at hla ⊢
              have HLA2 := Lib.hid hlae
              clear hlae
              by_cases hkn : k < n.new.length
              · obtain ⟨x, hx⟩ : ∃ x, n.new[k]? = some x := ⟨_, List.getElem?_eq_getElem hkn⟩
                obtain ⟨lb, lo, cs, rfl, ⟨rfl, ok1⟩, hc⟩ := HM.out.rd hx
                have c0 := hc _ (T.out.all hP.below) 0 _ rfl
                simp only [Nat.add_zero, Nat.mul_one] at c0
                have e4 : (0 : Int) ≤ (k : Int) := by omega
                have e5 : (k : Int) < (n.new.length : Int) := by omega
                have HK := Lib.hid hkn
                have HX := Lib.hid hx
                have HN := Lib.hid hN
                have HPA := Lib.hid hP
                have NO := Lib.hid (show ¬ (la < x ∧ x < (s.cells.length : Int)) → R = false from fun hno => by
                  rw [← HR.out]
                  refine decide_eq_false (fun h => hno ?_)
                  have h2 := h.2.2.1 k HK.out x HX.out
                  rw [HLA2.out] at h2
                  exact h2)
                have hTL := hP.tm
                clear hc hx hkn hN ok1 hP
                by_cases h1 : la < x
                · have h1n : ¬ x ≤ la := by omega
                  by_cases h2 : x < (s.cells.length : Int)
                  · have h2n : ¬ (s.cells.length : Int) ≤ x := by omega
                    obtain ⟨pn, rfl⟩ : ∃ pn : Nat, x = (pn : Int) := ⟨x.toNat, by omega⟩
                    have f2 : (pn : Int) < 8 := by omega
                    have f3 : (0 : Int) ≤ (pn : Int) := by omega
                    have HOK2 := Lib.hid (show ∀ q, q < k + 1 → newOk s.cells.length n.new q from fun q hq => by
                      by_cases e : q = k
                      · subst e
                        intro y hy
                        rw [HX.out] at hy
                        injection hy with hy
                        subst hy
                        rw [HLA2.out]
                        exact ⟨h1, h2⟩
                      · exact HN.out q (by omega))
                    obtain ⟨ct, hct⟩ : ∃ ct, (n.links.map Prod.fst ++ n.new.take k).count (pn : Int) = ct := ⟨_, rfl⟩
                    have hctl : ct ≤ n.links.length + k := by rw [← hct]; exact count_le _ _ _ (by simp; omega)
                    have tt := hTL.cell (tmL_at _ (show pn < 8 by omega))
                    rw [hct] at tt
                    have f4 := hTL.frozen pn
                    have f6 : IntKind.i64.wrap ((ct : Int) + 1) = (ct : Int) + 1 := IntWalk.i64_in _ (by have := HLB.out; omega)
                    have hput := HPA.out.putT pn (.int .i64 ((ct : Int) + 1))
                    rw [← hct, ← tmL_put _ (show pn < 8 by omega)] at hput
                    rw [hct] at hput
                    have hnx : n.links.map Prod.fst ++ n.new.take k ++ [(pn : Int)] = n.links.map Prod.fst ++ n.new.take (k + 1) := by
                      rw [List.take_add_one, HX.out, List.append_assoc]; rfl
                    rw [hnx] at hput
                    have HPUT := Lib.hid hput
                    have HNX := Lib.hid (lastF_next (f := id) HX.out)
                    clear hct hput hnx hTL
                    go_wp2_with fail
                    exact ⟨⟨k + 1, by go_num, by rw [HNX.out]; rfl, HK.out, HOK2.out, HPUT.out⟩, by simp [intOf]; have := HK.out; omega⟩
                  · have h2n : (s.cells.length : Int) ≤ x := by omega
                    have HF := Lib.hid (NO.out (fun h => h2 h.2))
                    clear h2 hTL
                    go_wp2
                    go_ret
                    exact ⟨by rw [HF.out]; rfl, T.out.all HPA.out.below⟩
                · have h1n : x ≤ la := by omega
                  have HF := Lib.hid (NO.out (fun h => h1 h.1))
                  clear h1 hTL
                  go_wp2
                  go_ret
                  exact ⟨by rw [HF.out]; rfl, T.out.all HPA.out.below⟩
              · obtain rfl : k = n.new.length := by omega
                simp only [List.take_length] at hP
                have HN := Lib.hid hN
                have HP2 := Lib.hid hP
                clear hN hP hkn hla
                go_wp2
                go_loopw [116] (fun kv wr => ∃ k : Nat, kv = .int .i64 k ∧ k ≤ s.cells.length ∧ (∀ q, q < k → cellOk s.cells (n.links.map Prod.fst ++ n.new) q) ∧ PS W2 wr (tmL (n.links.map Prod.fst ++ n.new)) (hdL (n.links.map Prod.snd))) (fun k _ => s.cells.length - (intOf k).toNat)
                case atStart => exact ⟨0, rfl, Nat.zero_le _, fun q hq => by omega, HP2.out⟩
                case round =>
                  obtain ⟨i, rfl, hi, hC, hP⟩ := hrel
                  clear HP2
                  by_cases hin : i < s.cells.length
                  · obtain ⟨c, hcx⟩ : ∃ c, s.cells[i]? = some c := ⟨_, List.getElem?_eq_getElem hin⟩
                    obtain ⟨lb, lo, cs, rfl, ⟨rfl, ok1⟩, hc⟩ := HSV.out.rd hcx
                    have c0 := hc _ (T.out.all hP.below) 0 _ rfl
                    simp only [Nat.add_zero, Nat.mul_one] at c0
                    have e4 : (0 : Int) ≤ (i : Int) := by omega
                    have e5 : (i : Int) < (s.cells.length : Int) := by omega
                    have e6 : (i : Int) < 8 := by omega
                    have e7 : IntKind.i64.wrap (-1 - (i : Int)) = -1 - (i : Int) := IntWalk.i64_in _ (by omega)
                    obtain ⟨ct, hct⟩ : ∃ ct, (n.links.map Prod.fst ++ n.new).count (i : Int) = ct := ⟨_, rfl⟩
                    have tt := hP.tm.cell (tmL_at _ (show i < 8 by omega))
                    rw [hct] at tt
                    have HI := Lib.hid hin
                    have HX := Lib.hid hcx
                    have HC := Lib.hid hC
                    have HP := Lib.hid hP
                    have HCT := Lib.hid hct
                    clear hc hcx hin hC hP ok1 hct
                    have NXT := Lib.hid (show ((ct : Int) = if c = -1 - (i : Int) then 1 else 0) → ∀ q, q < i + 1 → cellOk s.cells (n.links.map Prod.fst ++ n.new) q from fun h q hq => by
                      by_cases e : q = i
                      · subst e
                        intro y hy
                        rw [HX.out] at hy
                        injection hy with hy
                        subst hy
                        rw [HCT.out]
                        exact h
                      · exact HC.out q (by omega))
                    have NO := Lib.hid (show ¬ ((ct : Int) = if c = -1 - (i : Int) then 1 else 0) → R = false from fun hno => by
                      rw [← HR.out]
                      refine decide_eq_false (fun h => hno ?_)
                      have := h.2.2.2 i HI.out c HX.out
                      rw [HCT.out] at this
                      exact this)
                    by_cases hc1 : c = -1 - (i : Int)
                    · rw [if_pos hc1] at NXT NO
                      subst hc1
                      by_cases hc2 : ct = 1
                      · subst hc2
                        have HN2 := Lib.hid (NXT.out rfl)
                        clear NXT NO
                        go_wp2_with fail
                        exact ⟨⟨i + 1, by go_num, HI.out, HN2.out, HP.out⟩, by simp [intOf]; have := HI.out; omega⟩
                      · have hn : ¬ (ct : Int) = 1 := by omega
                        have hn2 : ((ct : Int) == 1) = false := by simpa using hn
                        have hn3 : ((ct : Int) != 1) = true := by simpa using hn
                        have HF := Lib.hid (NO.out hn)
                        clear NXT NO hc2
                        go_wp2
                        go_ret
                        exact ⟨by rw [HF.out]; rfl, T.out.all HP.out.below⟩
                    · rw [if_neg hc1] at NXT NO
                      have hc1b : (c == -1 - (i : Int)) = false := by simpa using hc1
                      by_cases hc2 : ct = 0
                      · subst hc2
                        have HN2 := Lib.hid (NXT.out rfl)
                        clear NXT NO
                        go_wp2_with fail
                        exact ⟨⟨i + 1, by go_num, HI.out, HN2.out, HP.out⟩, by simp [intOf]; have := HI.out; omega⟩
                      · have hn : ¬ (ct : Int) = 0 := by omega
                        have hn2 : ((ct : Int) == 0) = false := by simpa using hn
                        have hn3 : ((ct : Int) != 0) = true := by simpa using hn
                        have HF := Lib.hid (NO.out hn)
                        clear NXT NO hc2
                        go_wp2
                        go_ret
                        exact ⟨by rw [HF.out]; rfl, T.out.all HP.out.below⟩
                  · obtain rfl : i = s.cells.length := by omega
                    have HF := Lib.hid (show R = true by rw [← HR.out]; exact decide_eq_true ⟨HT.out, HO.out, HN.out, hC⟩)
                    have HB := Lib.hid (T.out.all hP.below)
                    clear hC hP hin
                    go_wp2
                    go_ret
                    exact ⟨by rw [HF.out]; rfl, HB.out⟩
      · have HF := Lib.hid (show R = false by rw [← HR.out]; exact decide_eq_false (fun h => t3 h.1.2.2))
        have t3n : (16 : Int) < n.width := by omega
        clear t1 t1d t3
        go_wp2
        go_ret
        exact ⟨by rw [HF.out]; rfl, T.out.all (Below.refl _ _)⟩
    · have HF := Lib.hid (show R = false by rw [← HR.out]; exact decide_eq_false (fun h => t2 h.1.2.1))
      clear t1 t1d
      go_wp2
      go_ret
      exact ⟨by rw [HF.out]; rfl, T.out.all (Below.refl _ _)⟩
  · have t1d : decide (n.test = noTst) = false := decide_eq_false t1
    simp only [noTst, noSlt] at t1d
    rw [t1d] at hne
    simp only [Bool.not_false] at hne
    have HF := Lib.hid (show R = false by rw [← HR.out]; exact decide_eq_false (fun h => t1 h.1.1))
    clear t1 t1d
    go_wp2
    go_ret
    exact ⟨by rw [HF.out]; rfl, T.out.all (Below.refl _ _)⟩
end Go.Proofs.YtonkbjdeaneicaaDoor

namespace Go.Proofs.YtonkbjdeaneicaaDoor.Pln
open Classical
def placesN (al : List Shp) (n : Nd) (w : Int) : Prop := ∃ (ai : Nat) (s : Shp), n.alpha = ai ∧ al[ai]? = some s ∧ placesP s.cells n w
def belowI (w : Int) (s : Slt) : Prop := 0 ≤ s.n ∧ (s.v = true → s.n < w)
def testP (n up : Nd) : Prop := up.kind ≠ 3 ∧ n.alpha = -1 ∧ n.links = [] ∧ n.new = [] ∧ n.width = up.width ∧ 1 ≤ n.test.op ∧ n.test.op ≤ 6 ∧ belowI up.width n.test.l ∧ belowI up.width n.test.r
/-- A node by itself and against its parent. -/
def nodeP (al : List Shp) (n up : Nd) : Prop :=
  (n.kind = 1 ∧ (up.kind = 0 ∨ up.kind = 1) ∧ placesN al n up.width) ∨ (n.kind = 3 ∧ n.new = [] ∧ placesN al n up.width) ∨ (n.kind = 2 ∧ testP n up)
theorem placesN_iff {al : List Shp} {n : Nd} {w : Int} {ai : Nat} {s : Shp} (ha : n.alpha = ai) (hs : al[ai]? = some s) : placesN al n w ↔ placesP s.cells n w := by
  constructor
  · rintro ⟨ai', s', h1, h2, h3⟩
    have : ai' = ai := by omega
    subst this
    rw [hs] at h2
    rw [Option.some.inj h2]
    exact h3
  · intro h
    exact ⟨ai, s, ha, hs, h⟩
end Go.Proofs.YtonkbjdeaneicaaDoor.Pln
namespace Go.Proofs.YtonkbjdeaneicaaDoor
open Go.RowKit Pln Classical Go.Maps

/-- Three boxes. -/
structure Three (W W3 : World) (a b c : Array Value) (ta tb tc : TypeId) : Prop where
  below : Below W.heap.size W W3
  size : W3.heap.size = W.heap.size + 3
  ha : W3.heap[W.heap.size]? = some (.cells a ta (0, 0))
  hb : W3.heap[W.heap.size + 1]? = some (.cells b tb (0, 0))
  hc : W3.heap[W.heap.size + 1 + 1]? = some (.cells c tc (0, 0))
theorem three (W : World) (a b c : Array Value) (ta tb tc : TypeId) : Three W (((W.alloc (.cells a ta)).alloc (.cells b tb)).alloc (.cells c tc)) a b c ta tb tc := by
  refine ⟨(((Below.refl _ _).alloc (Nat.le_refl _) _).alloc (by simp) _).alloc (by simp; omega) _, by simp, ?_, ?_, ?_⟩
  · rw [Below.heap_alloc _ _ _ (by simp; omega), Below.heap_alloc _ _ _ (by simp)]
    exact heap_alloc_new W _
  · rw [Below.heap_alloc _ _ _ (by simp)]
    have := heap_alloc_new (W.alloc (.cells a ta)) (.cells b tb)
    simpa using this
  · have := heap_alloc_new ((W.alloc (.cells a ta)).alloc (.cells b tb)) (.cells c tc)
    simpa using this
section
variable {W W3 wr : World} {a b c sh : Array Value} {ta tb tc ts : TypeId}
theorem Three.ca (h : Three W W3 a b c ta tb tc) (hb : Below W3.heap.size W3 wr) (j : Nat) {u : Value} (hu : a.toList[j]? = some u) : wr.cell? ⟨W.heap.size, j, none⟩ = some u := rboxL ((hb.block _ (by have := h.size; omega)).trans h.ha) j hu
theorem Three.cb (h : Three W W3 a b c ta tb tc) (hb : Below W3.heap.size W3 wr) (j : Nat) {u : Value} (hu : b.toList[j]? = some u) : wr.cell? ⟨W.heap.size + 1, j, none⟩ = some u := rboxL ((hb.block _ (by have := h.size; omega)).trans h.hb) j hu
theorem Three.cc (h : Three W W3 a b c ta tb tc) (hb : Below W3.heap.size W3 wr) (j : Nat) {u : Value} (hu : c.toList[j]? = some u) : wr.cell? ⟨W.heap.size + 1 + 1, j, none⟩ = some u := rboxL ((hb.block _ (by have := h.size; omega)).trans h.hc) j hu
theorem Three.all (h : Three W W3 a b c ta tb tc) (hb : Below W3.heap.size W3 wr) : Below W.heap.size W wr := h.below.trans (hb.mono (by have := h.size; omega))
end
theorem bel_iff (w : Nat) (s : Slt) : bel w s = decide (belowI w s) := by
  unfold bel
  congr 1

set_option maxRecDepth 200000 in
set_option maxHeartbeats 8000000 in
theorem nodeRW {F G : Nat → Prop} (W : World) (av nv ev : Value) (al : List Shp) (hA : RSl F W 2 (EShp F W) av al) (n : Nd) (ncs : List Value) (lv mv : Value) (hN : ENd F W ncs n lv mv) (up : Nd) (ucs : List Value) (ulv umv : Value) (hU : ENd G W ucs up ulv umv)
    (hk : n.kind = 1 ∨ n.kind = 3 → ∃ (ai : Nat) (s : Shp), n.alpha = ai ∧ al[ai]? = some s ∧ s.cells.length ≤ 8) (w : Nat) (hw : w ≤ 16) (huw : up.width = (w : Int)) (hml : n.new.length ≤ 1000000000) :
    Calls Tryd.prog 63 #[.agg #[av, nv, ev], .agg #[.int .i64 n.kind, .int .i64 n.parent, .int .i64 n.alpha, lv, mv, .int .i64 n.test.op, .bool n.test.l.v, .int .i64 n.test.l.n, .bool n.test.r.v, .int .i64 n.test.r.n, .int .i64 n.width], .agg #[.int .i64 up.kind, .int .i64 up.parent, .int .i64 up.alpha, ulv, umv, .int .i64 up.test.op, .bool up.test.l.v, .int .i64 up.test.l.n, .bool up.test.r.v, .int .i64 up.test.r.n, .int .i64 up.width]] W
      fun e W' => e = .returned (.bool (decide (nodeP al n up))) ∧ Below W.heap.size W W' := by
  have PW := Lib.hid (fun (Wx : World) (hb : Below W.heap.size W Wx) (ai : Nat) (s : Shp) (h1 : n.alpha = ai) (h2 : al[ai]? = some s) (h3 : s.cells.length ≤ 8) => placesW Wx av nv ev al (RSl.kp hA (Kp.of_below hb) (fun _ _ h => h) (fun _ _ h => h.kp (Kp.of_below hb) (fun _ _ h => h))) n ncs lv mv (hN.kp (Kp.of_below hb) (fun _ _ h => h)) ai s h2 h1 h3 w hw hml)
  obtain ⟨Aa, ca, rfl⟩ := hA.form
  obtain ⟨Al, cl, rfl⟩ := hN.links.form
  obtain ⟨Am, cm, rfl⟩ := hN.new.form
  obtain ⟨Bl, dl, rfl⟩ := hU.links.form
  obtain ⟨Bm, dm, rfl⟩ := hU.new.form
  have hll := hN.links.len
  have hml2 := hN.new.len
  unfold maxLen at hll hml2
  obtain ⟨R, hR⟩ : ∃ R, decide (nodeP al n up) = R := ⟨_, rfl⟩
  rw [hR]
  have HR := Lib.hid hR
  have HK := Lib.hid hk
  have HU := Lib.hid huw
  rw [huw]
  have T := Lib.hid (three W #[.slice Aa al.length ca, nv, ev] #[.int .i64 n.kind, .int .i64 n.parent, .int .i64 n.alpha, .slice Al n.links.length cl, .slice Am n.new.length cm, .int .i64 n.test.op, .bool n.test.l.v, .int .i64 n.test.l.n, .bool n.test.r.v, .int .i64 n.test.r.n, .int .i64 n.width] #[.int .i64 up.kind, .int .i64 up.parent, .int .i64 up.alpha, .slice Bl up.links.length dl, .slice Bm up.new.length dm, .int .i64 up.test.op, .bool up.test.l.v, .int .i64 up.test.l.n, .bool up.test.r.v, .int .i64 up.test.r.n, .int .i64 (w : Int)] 26 40 40)
  clear hR hA hN hU huw hk
  go_enter Tryd.func63, Tryd.ntmps63
  go_upto_region 1 with fail
  obtain ⟨W3, hW3⟩ : ∃ W3, W3 = (((W.alloc (.cells #[.slice Aa al.length ca, nv, ev] 26)).alloc (.cells #[.int .i64 n.kind, .int .i64 n.parent, .int .i64 n.alpha, .slice Al n.links.length cl, .slice Am n.new.length cm, .int .i64 n.test.op, .bool n.test.l.v, .int .i64 n.test.l.n, .bool n.test.r.v, .int .i64 n.test.r.n, .int .i64 n.width] 40)).alloc (.cells #[.int .i64 up.kind, .int .i64 up.parent, .int .i64 up.alpha, .slice Bl up.links.length dl, .slice Bm up.new.length dm, .int .i64 up.test.op, .bool up.test.l.v, .int .i64 up.test.l.n, .bool up.test.r.v, .int .i64 up.test.r.n, .int .i64 (w : Int)] 40)) := ⟨_, rfl⟩
  rw [← hW3] at T ⊢
  clear hW3
  have DT := Lib.hid (Below.refl W3.heap.size W3)
  have hD := Below.refl W3.heap.size W3
  have y0 := T.out.ca hD 0 rfl
  have y1 := T.out.ca hD 1 rfl
  have y2 := T.out.ca hD 2 rfl
  have b0 := T.out.cb hD 0 rfl
  have b1 := T.out.cb hD 1 rfl
  have b2 := T.out.cb hD 2 rfl
  have b3 := T.out.cb hD 3 rfl
  have b4 := T.out.cb hD 4 rfl
  have b5 := T.out.cb hD 5 rfl
  have b6 := T.out.cb hD 6 rfl
  have b7 := T.out.cb hD 7 rfl
  have b8 := T.out.cb hD 8 rfl
  have b9 := T.out.cb hD 9 rfl
  have b10 := T.out.cb hD 10 rfl
  have u0 := T.out.cc hD 0 rfl
  have u10 := T.out.cc hD 10 rfl
  clear hD
  obtain ⟨uk, huk⟩ : ∃ uk, up.kind = uk := ⟨_, rfl⟩
  have HUK := Lib.hid huk
  rw [huk] at u0
  clear huk
  by_cases k1 : n.kind = 1
  · obtain ⟨ai, s, h1, h2, h3⟩ := HK.out (.inl k1)
    have PC := Lib.hid (PW.out W3 T.out.below ai s h1 h2 h3)
    have HP := Lib.hid (show R = decide ((uk = 0 ∨ uk = 1) ∧ placesP s.cells n (w : Int)) from by
      rw [← HR.out]
      apply decide_eq_decide.2
      unfold nodeP
      rw [HUK.out, HU.out, placesN_iff h1 h2]
      constructor
      · rintro (h | h | h)
        · exact h.2
        · omega
        · omega
      · intro h
        exact .inl ⟨k1, h⟩)
    rw [k1] at PC b0
    clear k1 h1 h2 h3
    by_cases hu0 : uk = 0
    · subst hu0
      go_wp2_with fail
      refine PC.out.mono ?_
      rintro e w2 ⟨rfl, hb2⟩
      have HB := Lib.hid (T.out.all (Below.trans DT.out hb2))
      have HF := Lib.hid (show R = decide (placesP s.cells n (w : Int)) by rw [HP.out]; simp)
      clear hb2 PC
      go_wp2
      go_ret
      exact ⟨by rw [HF.out]; rfl, HB.out⟩
    · by_cases hu1 : uk = 1
      · subst hu1
        go_wp2_with fail
        refine PC.out.mono ?_
        rintro e w2 ⟨rfl, hb2⟩
        have HB := Lib.hid (T.out.all (Below.trans DT.out hb2))
        have HF := Lib.hid (show R = decide (placesP s.cells n (w : Int)) by rw [HP.out]; simp)
        clear hb2 PC
        go_wp2
        go_ret
        exact ⟨by rw [HF.out]; rfl, HB.out⟩
      · have HF := Lib.hid (show R = false by rw [HP.out]; exact decide_eq_false (fun h => by omega))
        clear PC
        have g0 : (uk == 0) = false := by simpa using hu0
        have g1 : (uk == 1) = false := by simpa using hu1
        go_wp2
        go_ret
        exact ⟨by rw [HF.out]; rfl, T.out.below⟩
  · by_cases k3 : n.kind = 3
    · obtain ⟨ai, s, h1, h2, h3⟩ := HK.out (.inr k3)
      have PC := Lib.hid (PW.out W3 T.out.below ai s h1 h2 h3)
      have HP := Lib.hid (show R = decide (n.new = [] ∧ placesP s.cells n (w : Int)) from by
        rw [← HR.out]
        apply decide_eq_decide.2
        unfold nodeP
        rw [HU.out, placesN_iff h1 h2]
        constructor
        · rintro (h | h | h)
          · omega
          · exact h.2
          · omega
        · intro h
          exact .inr (.inl ⟨k3, h⟩))
      rw [k3] at PC b0
      clear k1 k3 h1 h2 h3
      by_cases hn0 : n.new.length = 0
      · have hnn := List.eq_nil_of_length_eq_zero hn0
        rw [hn0] at PC b4
        have HF := Lib.hid (show R = decide (placesP s.cells n (w : Int)) by rw [HP.out]; simp [hnn])
        clear hn0 hnn
        go_wp2_with fail
        refine PC.out.mono ?_
        rintro e w2 ⟨rfl, hb2⟩
        have HB := Lib.hid (T.out.all (Below.trans DT.out hb2))
        clear hb2 PC
        go_wp2
        go_ret
        exact ⟨by rw [HF.out]; rfl, HB.out⟩
      · have HF := Lib.hid (show R = false by rw [HP.out]; exact decide_eq_false (fun h => hn0 (by rw [h.1]; rfl)))
        have g0 : ¬ (n.new.length : Int) = 0 := by omega
        have g1 : ((n.new.length : Int) == 0) = false := by simpa using g0
        clear PC
        go_wp2
        go_ret
        exact ⟨by rw [HF.out]; rfl, T.out.below⟩
    · have e1 : (n.kind == 1) = false := by simpa using k1
      have e3 : (n.kind == 3) = false := by simpa using k3
      have HP := Lib.hid (show R = decide (n.kind = 2 ∧ testP n up) from by
        rw [← HR.out]
        apply decide_eq_decide.2
        unfold nodeP
        constructor
        · rintro (h | h | h)
          · exact absurd h.1 k1
          · exact absurd h.1 k3
          · exact h
        · intro h
          exact .inr (.inr h))
      clear PW HK
      by_cases k2 : n.kind = 2
      · rw [k2] at b0
        obtain ⟨wa, hwa⟩ : ∃ wa, wa = W3.alloc (.cells #[.int .i64 n.test.op, .bool n.test.l.v, .int .i64 n.test.l.n, .bool n.test.r.v, .int .i64 n.test.r.n] 38) := ⟨_, rfl⟩
        have hba : Below W3.heap.size W3 wa := by rw [hwa]; exact (Below.refl _ _).alloc (Nat.le_refl _) _
        have hrow : wa.heap[W3.heap.size]? = some (.cells #[.int .i64 n.test.op, .bool n.test.l.v, .int .i64 n.test.l.n, .bool n.test.r.v, .int .i64 n.test.r.n] 38 (0, 0)) := by rw [hwa]; exact heap_alloc_new W3 _
        have HBA := Lib.hid hba
        have HROW := Lib.hid hrow
        have K2 := Lib.hid k2
        have x2 := T.out.cb hba 2 rfl
        have x3 := T.out.cb hba 3 rfl
        have x4 := T.out.cb hba 4 rfl
        have x10 := T.out.cb hba 10 rfl
        have v0 := T.out.cc hba 0 rfl
        have v10 := T.out.cc hba 10 rfl
        rw [HUK.out] at v0
        have t0 := rboxL hrow 0 rfl
        have t1 := rboxL hrow 1 rfl
        have t2 := rboxL hrow 2 rfl
        have t3 := rboxL hrow 3 rfl
        have t4 := rboxL hrow 4 rfl
        clear e1 e3 k1 k3 k2 hba hrow
        go_upto_region 8 with fail
        rw [← hwa]
        clear hwa b0 b1 b2 b3 b4 b5 b6 b7 b8 b9 b10 u0 u10 y0 y1 y2
        have NOT := Lib.hid (show ¬ testP n up → R = false from fun h => by rw [HP.out]; exact decide_eq_false (fun h2 => h h2.2))
        by_cases c1 : uk = 3
        · have HF := Lib.hid (NOT.out (fun h => h.1 (by rw [HUK.out]; exact c1)))
          subst c1
          go_wp2
          go_ret
          exact ⟨by rw [HF.out]; rfl, T.out.all HBA.out⟩
        · have d1 : (uk == 3) = false := by simpa using c1
          have d1' : (uk != 3) = true := by simpa using c1
          by_cases c2 : n.alpha = -1
          · by_cases c3 : n.links.length = 0
            · by_cases c4 : n.new.length = 0
              · by_cases c5 : n.width = (w : Int)
                · by_cases c6 : 1 ≤ n.test.op
                  · by_cases c7 : n.test.op ≤ 6
                    · have HC := Lib.hid (And.intro c2 (And.intro c3 (And.intro c4 (And.intro c5 (And.intro c6 c7)))))
                      have C1 := Lib.hid c1
                      rw [c2] at x2
                      rw [c3] at x3
                      rw [c4] at x4
                      rw [c5] at x10
                      clear c2 c3 c4 c5 c1
                      have BL := Lib.hid (belowW n.test.l w wa)
                      go_wp2_with fail
                      refine BL.out.mono ?_
                      rintro e w2 ⟨rfl, hb2⟩
                      have hba2 := HBA.out.trans (hb2.mono HBA.out.size)
                      have hrow2 := (hb2.block _ (lt_of_heap HROW.out)).trans HROW.out
                      have x10 := T.out.cb hba2 10 rfl
                      rw [HC.out.2.2.2.1] at x10
                      have t3 := rboxL hrow2 3 rfl
                      have t4 := rboxL hrow2 4 rfl
                      have HBA2 := Lib.hid hba2
                      clear hba2 hrow2 hb2 BL
                      rw [bel_iff]
                      by_cases c8 : belowI w n.test.l
                      · rw [decide_eq_true c8]
                        have BR := Lib.hid (belowW n.test.r w w2)
                        have HC8 := Lib.hid c8
                        clear c8
                        go_wp2_with fail
                        refine BR.out.mono ?_
                        rintro e w3 ⟨rfl, hb3⟩
                        have HB3 := Lib.hid (T.out.all (HBA2.out.trans (hb3.mono HBA2.out.size)))
                        have HF := Lib.hid (show R = bel w n.test.r from by
                          rw [HP.out, bel_iff]
                          apply decide_eq_decide.2
                          unfold testP
                          rw [HU.out, HUK.out]
                          constructor
                          · intro h
                            exact h.2.2.2.2.2.2.2.2.2
                          · intro h
                            exact ⟨K2.out, C1.out, HC.out.1, List.eq_nil_of_length_eq_zero HC.out.2.1, List.eq_nil_of_length_eq_zero HC.out.2.2.1, HC.out.2.2.2.1, HC.out.2.2.2.2.1, HC.out.2.2.2.2.2, HC8.out, h⟩)
                        clear hb3 BR
                        go_wp2
                        go_ret
                        exact ⟨by rw [HF.out]; rfl, HB3.out⟩
                      · rw [decide_eq_false c8]
                        have HF := Lib.hid (NOT.out (fun h => c8 (by have := h.2.2.2.2.2.2.2.1; rw [HU.out] at this; exact this)))
                        clear c8
                        go_wp2
                        go_ret
                        exact ⟨by rw [HF.out]; rfl, T.out.all HBA2.out⟩
                    · have HF := Lib.hid (NOT.out (fun h => c7 (h.2.2.2.2.2.2.1)))
                      have d7 : ¬ n.test.op ≤ 6 := c7
                      go_wp2
                      go_ret
                      exact ⟨by rw [HF.out]; rfl, T.out.all HBA.out⟩
                  · have HF := Lib.hid (NOT.out (fun h => c6 (h.2.2.2.2.2.1)))
                    have d6 : ¬ 1 ≤ n.test.op := c6
                    go_wp2
                    go_ret
                    exact ⟨by rw [HF.out]; rfl, T.out.all HBA.out⟩
                · have HF := Lib.hid (NOT.out (fun h => c5 ((by have := h.2.2.2.2.1; rw [HU.out] at this; exact this))))
                  have d5 : (n.width == (w : Int)) = false := by simpa using c5
                  go_wp2
                  go_ret
                  exact ⟨by rw [HF.out]; rfl, T.out.all HBA.out⟩
              · have HF := Lib.hid (NOT.out (fun h => c4 ((by rw [h.2.2.2.1]; rfl))))
                have d4 : ((n.new.length : Int) == 0) = false := by simp only [beq_eq_false_iff_ne, ne_eq]; omega
                go_wp2
                go_ret
                exact ⟨by rw [HF.out]; rfl, T.out.all HBA.out⟩
            · have HF := Lib.hid (NOT.out (fun h => c3 ((by rw [h.2.2.1]; rfl))))
              have d3 : ((n.links.length : Int) == 0) = false := by simp only [beq_eq_false_iff_ne, ne_eq]; omega
              go_wp2
              go_ret
              exact ⟨by rw [HF.out]; rfl, T.out.all HBA.out⟩
          · have HF := Lib.hid (NOT.out (fun h => c2 (h.2.1)))
            have d2 : (n.alpha == -1) = false := by simpa using c2
            go_wp2
            go_ret
            exact ⟨by rw [HF.out]; rfl, T.out.all HBA.out⟩
      · have HF := Lib.hid (show R = false by rw [HP.out]; exact decide_eq_false (fun h => k2 h.1))
        have e2 : (n.kind == 2) = false := by simpa using k2
        go_wp2
        go_ret
        exact ⟨by rw [HF.out]; rfl, T.out.below⟩
end Go.Proofs.YtonkbjdeaneicaaDoor

namespace Go.Proofs.YtonkbjdeaneicaaDoor
open Go Go.RowKit

section
variable {P : Program}
theorem run_copy_rowN (w : World) (dT sT ty elem : TypeId) (g o dLen dCap : Nat) (a : Addr) (sLen sCap sz : Nat) (cur : Array Value) (t : TypeId) (cs : List Value)
    (hu : P.underlying dT = some (.slice elem)) (hs : (P.info? elem).map (·.size) = some sz)
    (hg : w.heap[g]? = some (.cells cur t (0, 0))) (hn : cs.length = Nat.min sLen dLen * sz)
    (hsrc : ∀ j v, cs[j]? = some v → w.cell? (a.add j) = some v) (hfit : o + cs.length ≤ cur.size) (h1 : ∀ v ∈ cs, v.oneCell' = true) :
    (Builtin.copy_ #[dT, sT] ty #[.slice (some ⟨g, o, none⟩) dLen dCap, .slice (some a) sLen sCap]).run P w =
      .ok (goInt (Nat.min sLen dLen)) (w.setRow g (cur.toList.take o ++ cs ++ cur.toList.drop (o + cs.length)).toArray) := by
  have hl := run_loadCells_list (P := P) w a cs hsrc
  have hst := run_storeCells_at P g o t cs 0 cur w hg (by simpa using hfit) h1
  cases hq : P.info? elem with
  | none => simp [hq] at hs
  | some i =>
    have hi : i.size = sz := by simpa [hq] using hs
    simp [Builtin.copy_, run_underlying hu, Builtin.lenOf, Builtin.firstCells, sizeOf, typeInfo, hq, hi, ← hn, hl, hst]
theorem run_copy_noneN (w : World) (dT sT ty elem : TypeId) (d a : Option Addr) (dLen dCap sLen sCap sz : Nat) (hu : P.underlying dT = some (.slice elem)) (hs : (P.info? elem).map (·.size) = some sz) (hn : Nat.min sLen dLen = 0) :
    (Builtin.copy_ #[dT, sT] ty #[.slice d dLen dCap, .slice a sLen sCap]).run P w = .ok (goInt 0) w := by
  cases hq : P.info? elem with
  | none => simp [hq] at hs
  | some i =>
    have hl : ∀ (x : Addr), (loadCells x 0).run P w = .ok #[] w := fun x => by simpa using run_loadCells_list (P := P) w x [] (by simp)
    cases d <;> cases a <;> simp [Builtin.copy_, run_underlying hu, Builtin.lenOf, Builtin.firstCells, sizeOf, typeInfo, hq, hn, storeCells, hl]

theorem step_copyN {ops : Array Oper} {o : Oper} {a : Act} {w : World} {K : Act → World → Prop} {Q : Exit → Act → World → Prop} {E : Prop} (hgd : o.guard = none) (d s : Operand) (dT sT : TypeId)
    (ho : o.op = .call { callee := .builtin .copy, args := #[d, s], argTypes := #[dT, sT] }) (elem : TypeId) (hu : P.underlying dT = some (.slice elem)) {sz : Nat} (hsz : (P.info? elem).map (·.size) = some sz)
    (dp sp : Option Addr) (dLen dCap sLen sCap : Nat) (hd : a.eval d = .slice dp dLen dCap) (hs : a.eval s = .slice sp sLen sCap)
    (g off : Nat) (cur : List Value) (t : TypeId) (hg : w.heap[g]? = some (.cells cur.toArray t (0, 0))) (cs : List Value) (hn : cs.length = Nat.min sLen dLen * sz)
    (hpos : 0 < Nat.min sLen dLen → dp = some ⟨g, off, none⟩ ∧ ∃ ad, sp = some ad ∧ ∀ j v, cs[j]? = some v → w.cell? (ad.add j) = some v)
    (hfit : off + cs.length ≤ cur.length) (h1 : ∀ v ∈ cs, v.oneCell' = true) (B : Nat) (w0 : World) (hb : Below B w0 w) (hBg : B ≤ g)
    (h : ∀ w', Hid (w'.heap[g]? = some (.cells (splice cur off cs).toArray t (0, 0))) → Below B w0 w' → K (a.put o.dst (goInt (Nat.min sLen dLen))) w') :
    if Region.wanted o (yielded ops a.tmps) = true then Oper.wp P o a w K Q else E := by
  have hw : Region.wanted o (yielded ops a.tmps) = true := by simp [Region.wanted, hgd]
  rw [if_pos hw]
  by_cases h0 : Nat.min sLen dLen = 0
  · obtain rfl : cs = [] := List.eq_nil_of_length_eq_zero (by rw [hn, h0, Nat.zero_mul])
    have hrun := run_copy_noneN (P := P) w dT sT o.type elem dp sp dLen dCap sLen sCap sz hu hsz h0
    have hh := h w (show _ = _ by simpa [splice] using hg) hb
    rw [h0] at hh
    unfold Oper.wp
    simp [execOp, ho, resolve, invoke, builtin, hd, hs, hrun, Result.andThen]
    exact hh
  · obtain ⟨rfl, ad, rfl, hsrc⟩ := hpos (by omega)
    have hrun := run_copy_rowN (P := P) w dT sT o.type elem g off dLen dCap ad sLen sCap sz cur.toArray t cs hu hsz hg hn hsrc (by simpa using hfit) h1
    unfold Oper.wp
    simp [execOp, ho, resolve, invoke, builtin, hd, hs, hrun, Result.andThen]
    exact h _ (show _ = _ by simpa [splice] using setRow_heap w g _ _ t _ hg) (below_setRow hb hBg _)
end
end Go.Proofs.YtonkbjdeaneicaaDoor
