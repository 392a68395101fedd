/- placesRight, walked. -/
import Derived.Test.YtonkbjdeaneicaaChkP
namespace Go.Proofs.Ytonkbjdeaneicaa
open Go.RowKit Pln Classical Go.Maps

/-- Two boxes. -/
structure Two (W W2 : World) (a b : Array Value) (ta tb : TypeId) : Prop where
  below : Below W.heap.size W W2
  size : W2.heap.size = W.heap.size + 1 + 1
  ha : W2.heap[W.heap.size]? = some (.cells a ta (0, 0))
  hb : W2.heap[W.heap.size + 1]? = some (.cells b tb (0, 0))
theorem two (W : World) (a b : Array Value) (ta tb : TypeId) : Two W ((W.alloc (.cells a ta)).alloc (.cells b tb)) a b ta tb := by
  refine ⟨((Below.refl _ _).alloc (Nat.le_refl _) _).alloc (by simp) _, by simp, ?_, ?_⟩
  · rw [Below.heap_alloc _ _ _ (by simp)]
    exact heap_alloc_new W _
  · have := heap_alloc_new (W.alloc (.cells a ta)) (.cells b tb)
    simpa using this
section
variable {W W2 wr : World} {a b : Array Value} {ta tb : TypeId}
theorem Two.ca (h : Two W W2 a b ta tb) (hb : Below W2.heap.size W2 wr) (j : Nat) {u : Value} (hu : a.toList[j]? = some u) : wr.cell? ⟨W.heap.size, j, none⟩ = some u := rboxL ((hb.block _ (by have := h.size; omega)).trans h.ha) j hu
theorem Two.cb (h : Two W W2 a b ta tb) (hb : Below W2.heap.size W2 wr) (j : Nat) {u : Value} (hu : b.toList[j]? = some u) : wr.cell? ⟨W.heap.size + 1, j, none⟩ = some u := rboxL ((hb.block _ (by have := h.size; omega)).trans h.hb) j hu
theorem Two.all (h : Two W W2 a b ta tb) (hb : Below W2.heap.size W2 wr) : Below W.heap.size W wr := h.below.trans (hb.mono (by have := h.size; omega))
end
/-- The two arrays, behind the boxes. -/
structure PS (W2 wr : World) (tm hd : List Value) : Prop where
  below : Below W2.heap.size W2 wr
  tm : Arr wr W2.heap.size 99 tm
  hd : Arr wr (W2.heap.size + 1) 117 hd
section
variable {W2 wr wr' : World} {tm hd : List Value}
theorem PS.step (h : PS W2 wr tm hd) (hb : Below wr.heap.size wr wr') : PS W2 wr' tm hd := ⟨h.below.trans (hb.mono h.below.size), h.tm.step hb, h.hd.step hb⟩
theorem PS.putT (h : PS W2 wr tm hd) (j : Nat) (v : Value) : PS W2 (wr.setCell ⟨W2.heap.size, j, none⟩ v) (tm.set j v) hd := by
  obtain ⟨h1, h2⟩ := h.tm.put j v
  exact ⟨h.below.trans (h2.below h.below.size (fun x hx => by rw [List.mem_singleton.1 hx]; exact Nat.le_refl _)), h1, h.hd.turns h2 (by simp)⟩
theorem PS.putH (h : PS W2 wr tm hd) (j : Nat) (v : Value) : PS W2 (wr.setCell ⟨W2.heap.size + 1, j, none⟩ v) tm (hd.set j v) := by
  obtain ⟨h1, h2⟩ := h.hd.put j v
  exact ⟨h.below.trans (h2.below h.below.size (fun x hx => by rw [List.mem_singleton.1 hx]; exact Nat.le_succ _)), h.tm.turns h2 (by simp), h1⟩
end
theorem ps_new (W2 : World) : PS W2 ((W2.alloc (.cells #[.int .i64 0, .int .i64 0, .int .i64 0, .int .i64 0, .int .i64 0, .int .i64 0, .int .i64 0, .int .i64 0] 99)).alloc (.cells #[.bool false, .bool false, .bool false, .bool false, .bool false, .bool false, .bool false, .bool false, .bool false, .bool false, .bool false, .bool false, .bool false, .bool false, .bool false, .bool false] 117)) (tmL []) (hdL []) := by
  have h1 := Arr.new W2 99 #[.int .i64 0, .int .i64 0, .int .i64 0, .int .i64 0, .int .i64 0, .int .i64 0, .int .i64 0, .int .i64 0] (by unfold maxLen; decide)
  have h2 := Arr.new (W2.alloc (.cells #[.int .i64 0, .int .i64 0, .int .i64 0, .int .i64 0, .int .i64 0, .int .i64 0, .int .i64 0, .int .i64 0] 99)) 117 #[.bool false, .bool false, .bool false, .bool false, .bool false, .bool false, .bool false, .bool false, .bool false, .bool false, .bool false, .bool false, .bool false, .bool false, .bool false, .bool false] (by unfold maxLen; decide)
  refine ⟨((Below.refl _ _).alloc (Nat.le_refl _) _).alloc (by simp) _, ?_, ?_⟩
  · exact h1.step ((Below.refl _ _).alloc (Nat.le_refl _) _)
  · have e : hdL [] = List.replicate 16 (.bool false) := by
      apply List.ext_getElem?
      intro i
      by_cases hi : i < 16
      · rw [hdL_at _ hi, List.getElem?_replicate, if_pos hi]; simp
      · rw [List.getElem?_eq_none (by rw [hdL_len]; omega), List.getElem?_eq_none (by simp; omega)]
    rw [e]
    simpa using h2
theorem neq_tst (a b : Tst) (w : World) : (binOp .neq 52 (.agg #[.int .i64 a.op, .bool a.l.v, .int .i64 a.l.n, .bool a.r.v, .int .i64 a.r.n]) (.agg #[.int .i64 b.op, .bool b.l.v, .int .i64 b.l.n, .bool b.r.v, .int .i64 b.r.n])).run Try.prog w = .ok (.bool (!decide (a = b))) w := by
  obtain ⟨ao, ⟨alv, aln⟩, ⟨arv, arn⟩⟩ := a
  obtain ⟨bo, ⟨blv, bln⟩, ⟨brv, brn⟩⟩ := b
  rw [show decide ((⟨ao, ⟨alv, aln⟩, ⟨arv, arn⟩⟩ : Tst) = ⟨bo, ⟨blv, bln⟩, ⟨brv, brn⟩⟩) = decide (ao = bo ∧ (alv = blv ∧ aln = bln) ∧ (arv = brv ∧ arn = brn)) from by simp only [Tst.mk.injEq, Slt.mk.injEq]]
  by_cases h1 : ao = bo
  · by_cases h0 : alv = blv
    · by_cases h2 : aln = bln
      · by_cases h4 : arv = brv
        · by_cases h3 : arn = brn
          · simp [go_sem, h0, h1, h2, h3, h4]
          · simp [go_sem, h0, h1, h2, h3, h4]
        · simp [go_sem, h0, h1, h2, h4]
      · simp [go_sem, h0, h1, h2]
    · simp [go_sem, h0, h1]
  · simp [go_sem, h1]

theorem take_map_next {α β : Type} (f : α → β) {l : List α} {k : Nat} {x : α} (h : l[k]? = some x) : (l.take (k + 1)).map f = (l.take k).map f ++ [f x] := by
  rw [List.take_add_one, h]; simp
theorem count_le (l : List Int) (x : Int) (k : Nat) (h : l.length ≤ k) : l.count x ≤ k := Nat.le_trans List.count_le_length h

set_option maxRecDepth 200000 in
set_option maxHeartbeats 8000000 in
theorem placesW {F : Nat → Prop} (W : World) (av nv ev : Value) (al : List Shp) (hA : RSl F W 2 (EShp F W) av al) (n : Nd) (ncs : List Value) (lv mv : Value) (hN : ENd F W ncs n lv mv) (ai : Nat) (s : Shp) (hs : al[ai]? = some s) (ha : n.alpha = ai) (h8 : s.cells.length ≤ 8) (w : Nat) (hw : w ≤ 16) (hml : n.new.length ≤ 1000000000) :
    Calls Try.prog 70 #[.agg #[av, nv, ev], .agg #[.int .i64 n.kind, .int .i64 n.parent, .int .i64 n.alpha, lv, mv, .int .i64 n.test.op, .bool n.test.l.v, .int .i64 n.test.l.n, .bool n.test.r.v, .int .i64 n.test.r.n, .int .i64 n.width], .int .i64 (w : Int)] W
      fun e W' => e = .returned (.bool (decide (placesP s.cells n w))) ∧ Below W.heap.size W W' := by
  obtain ⟨Aa, ca, rfl⟩ := hA.form
  have ham := hA.len
  unfold maxLen at ham
  have hail := (List.getElem?_eq_some_iff.1 hs).1
  obtain ⟨ab, ao, scs, rfl, ⟨sv, rfl, -, hsv⟩, hsc⟩ := hA.rd hs
  obtain ⟨Al, cl, rfl⟩ := hN.links.form
  obtain ⟨Am, cm, rfl⟩ := hN.new.form
  obtain ⟨As, cc, rfl⟩ := hsv.form
  have hll := hN.links.len
  unfold maxLen at hll
  have hwo := hN.ok.2.2.2.1.lo
  rw [ha]
  obtain ⟨R, hR⟩ : ∃ R, decide (placesP s.cells n w) = R := ⟨_, rfl⟩
  rw [hR]
  have HR := Lib.hid hR
  have HL := Lib.hid hN.links
  have HM := Lib.hid hN.new
  have HSV := Lib.hid hsv
  have T := Lib.hid (two W #[.slice (some ⟨ab, ao, none⟩) al.length ca, nv, ev] #[.int .i64 n.kind, .int .i64 n.parent, .int .i64 (ai : Int), .slice Al n.links.length cl, .slice Am n.new.length cm, .int .i64 n.test.op, .bool n.test.l.v, .int .i64 n.test.l.n, .bool n.test.r.v, .int .i64 n.test.r.n, .int .i64 n.width] 27 54)
  have e1 : (0 : Int) ≤ (ai : Int) := by omega
  have e2 : (ai : Int) < (al.length : Int) := by omega
  have e3 : IntKind.i64.wrap ((w : Int) + (n.new.length : Int)) = (w : Int) + (n.new.length : Int) := IntWalk.i64_in _ (by omega)
  clear hR hA hs hN hsv ha
  go_enter Try.func70, Try.ntmps70
  go_upto_region 1 with fail
  obtain ⟨W2, hW2⟩ : ∃ W2, W2 = ((W.alloc (.cells #[.slice (some ⟨ab, ao, none⟩) al.length ca, nv, ev] 27)).alloc (.cells #[.int .i64 n.kind, .int .i64 n.parent, .int .i64 (ai : Int), .slice Al n.links.length cl, .slice Am n.new.length cm, .int .i64 n.test.op, .bool n.test.l.v, .int .i64 n.test.l.n, .bool n.test.r.v, .int .i64 n.test.r.n, .int .i64 n.width] 54)) := ⟨_, rfl⟩
  rw [← hW2] at T ⊢
  clear hW2
  have y0 := T.out.ca (Below.refl _ _) 0 rfl
  have b2 := T.out.cb (Below.refl _ _) 2 rfl
  have b4 := T.out.cb (Below.refl _ _) 4 rfl
  have b5 := T.out.cb (Below.refl _ _) 5 rfl
  have b6 := T.out.cb (Below.refl _ _) 6 rfl
  have b7 := T.out.cb (Below.refl _ _) 7 rfl
  have b8 := T.out.cb (Below.refl _ _) 8 rfl
  have b9 := T.out.cb (Below.refl _ _) 9 rfl
  have b10 := T.out.cb (Below.refl _ _) 10 rfl
  have c1 := hsc _ (T.out.all (Below.refl _ _)) 1 _ rfl
  have hne := fun W => neq_tst n.test noTst W
  simp only [noTst, noSlt] at hne
  clear hsc
  have DT := Lib.hid (Below.refl W2.heap.size W2)
  by_cases t1 : n.test = noTst
  · have t1d : decide (n.test = noTst) = true := decide_eq_true t1
    simp only [noTst, noSlt] at t1d
    rw [t1d] at hne
    simp only [Bool.not_true] at hne
    by_cases t2 : n.width = (w : Int) + (n.new.length : Int)
    · by_cases t3 : n.width ≤ 16
      · have HT := Lib.hid (show n.test = noTst ∧ n.width = (w : Int) + (n.new.length : Int) ∧ n.width ≤ 16 from ⟨t1, t2, t3⟩)
        have t3' : (w : Int) + (n.new.length : Int) ≤ 16 := by omega
        have t3n : ¬ (16 : Int) < (w : Int) + (n.new.length : Int) := by omega
        rw [t2] at b10
        clear t1 t1d t2 t3
        go_upto_region 6 with fail
        have P0 := Lib.hid (ps_new W2)
        obtain ⟨W4, hW4⟩ : ∃ W4, W4 = ((W2.alloc (.cells #[.int .i64 0, .int .i64 0, .int .i64 0, .int .i64 0, .int .i64 0, .int .i64 0, .int .i64 0, .int .i64 0] 99)).alloc (.cells #[.bool false, .bool false, .bool false, .bool false, .bool false, .bool false, .bool false, .bool false, .bool false, .bool false, .bool false, .bool false, .bool false, .bool false, .bool false, .bool false] 117)) := ⟨_, rfl⟩
        rw [← hW4] at P0 ⊢
        clear hW4 y0 b2 b4 b5 b6 b7 b8 b9 b10 c1 hne
        have b3 := T.out.cb P0.out.below 3 rfl
        go_wp2_with fail
        clear b3
        go_loopw [10, 47] (fun lav kv wr => ∃ k : Nat, kv = .int .i64 k ∧ lav = .int .i64 (lastF Prod.fst n.links k) ∧ k ≤ n.links.length ∧ (∀ q, q < k → linkOk s.cells.length w n.links q) ∧ PS W2 wr (tmL ((n.links.take k).map Prod.fst)) (hdL ((n.links.take k).map Prod.snd))) (fun _ k _ => n.links.length - (intOf k).toNat)
        case atStart => exact ⟨0, rfl, rfl, Nat.zero_le _, fun q hq => by omega, P0.out⟩
        case round =>
          obtain ⟨k, rfl, rfl, hk, hO, hP⟩ := hrel
          clear P0
          have hla := last_link k hk hO
          obtain ⟨la, hlae⟩ : ∃ la, lastF Prod.fst n.links k = la := ⟨_, rfl⟩
          rw [hlae] at hla ⊢
          have HLA := Lib.hid hlae
          clear hlae
          by_cases hkn : k < n.links.length
          · obtain ⟨x, hx⟩ : ∃ x, n.links[k]? = some x := ⟨_, List.getElem?_eq_getElem hkn⟩
            obtain ⟨lb, lo, cs, rfl, ⟨rfl, ok1, ok2⟩, hc⟩ := HL.out.rd hx
            have c0 := hc _ (T.out.all hP.below) 0 _ rfl
            have c1 := hc _ (T.out.all hP.below) 1 _ rfl
            simp only [Nat.add_zero] at c0
            have e4 : (0 : Int) ≤ (k : Int) := by omega
            have e5 : (k : Int) < (n.links.length : Int) := by omega
            obtain ⟨wa, hwa⟩ : ∃ wa, wa = wr.alloc (.cells #[.int .i64 x.1, .int .i64 x.2] 83) := ⟨_, rfl⟩
            have hrow : wa.heap[wr.heap.size]? = some (.cells #[.int .i64 x.1, .int .i64 x.2] 83 (0, 0)) := by rw [hwa]; exact heap_alloc_new wr _
            have hPa : PS W2 wa (tmL ((n.links.take k).map Prod.fst)) (hdL ((n.links.take k).map Prod.snd)) := by rw [hwa]; exact hP.step ((Below.refl _ _).alloc (Nat.le_refl _) _)
            have hlt := hP.hd.lt
            have z0 := rboxL hrow 0 rfl
            have z1 := rboxL hrow 1 rfl
            have HK := Lib.hid hkn
            have HX := Lib.hid hx
            have HO := Lib.hid hO
            have HPA := Lib.hid hPa
            have HROW := Lib.hid hrow
            clear hc hx hkn hP hPa hrow hO ok1 ok2
            go_upto_region 10 with fail
            rw [← hwa]
            clear hwa c0 c1
            have NO := Lib.hid (show ¬ (la < x.1 ∧ x.1 < (s.cells.length : Int) ∧ 0 ≤ x.2 ∧ x.2 < (w : Int) ∧ x.2 ∉ (n.links.take k).map Prod.snd) → R = false from fun hno => by
              rw [← HR.out]
              refine decide_eq_false (fun h => hno ?_)
              have h2 := h.2.1 k HK.out x HX.out
              rw [HLA.out] at h2
              refine ⟨h2.1, h2.2.1, h2.2.2.1, h2.2.2.2.1, fun hm => ?_⟩
              obtain ⟨y, hy, hyx⟩ := List.mem_map.1 hm
              obtain ⟨q, hq, rfl⟩ := List.getElem_of_mem hy
              rw [List.length_take] at hq
              refine h2.2.2.2.2 q (by omega) _ ?_ hyx
              rw [List.getElem_take, List.getElem?_eq_getElem (by omega)])
            obtain ⟨xp, xv⟩ := x
            simp only at z0 z1 NO HROW
            by_cases h1 : la < xp
            · have h1n : ¬ xp ≤ la := by omega
              by_cases h2 : xp < (s.cells.length : Int)
              · have h2n : ¬ (s.cells.length : Int) ≤ xp := by omega
                by_cases h3 : 0 ≤ xv
                · have h3n : ¬ xv < 0 := by omega
                  by_cases h4 : xv < (w : Int)
                  · have h4n : ¬ (w : Int) ≤ xv := by omega
                    obtain ⟨vn, rfl⟩ : ∃ vn : Nat, xv = (vn : Int) := ⟨xv.toNat, by omega⟩
                    obtain ⟨pn, rfl⟩ : ∃ pn : Nat, xp = (pn : Int) := ⟨xp.toNat, by omega⟩
                    have hh := HPA.out.hd.cell (hdL_at _ (show vn < 16 by omega))
                    have f1 : (vn : Int) < 16 := by omega
                    have f2 : (pn : Int) < 8 := by omega
                    have f3 : (0 : Int) ≤ (pn : Int) := by omega
                    by_cases h5 : (vn : Int) ∈ (n.links.take k).map Prod.snd
                    · rw [decide_eq_true h5] at hh
                      have HF := Lib.hid (NO.out (fun h => h.2.2.2.2 h5))
                      clear h5
                      go_wp2
                      go_ret
                      exact ⟨by rw [HF.out]; rfl, T.out.all HPA.out.below⟩
                    · rw [decide_eq_false h5] at hh
                      have HOK2 := Lib.hid (show ∀ q, q < k + 1 → linkOk s.cells.length w n.links q from fun q hq => by
                        by_cases e : q = k
                        · subst e
                          intro y hy
                          rw [HX.out] at hy
                          injection hy with hy
                          subst hy
                          rw [HLA.out]
                          refine ⟨h1, h2, h3, h4, fun q' hq' y hy he => h5 ?_⟩
                          have he : y.2 = (vn : Int) := he
                          rw [← he]
                          refine List.mem_map_of_mem ?_
                          have hql := (List.getElem?_eq_some_iff.1 hy).1
                          have : (n.links.take q)[q']? = some y := by rw [List.getElem?_take, if_pos hq']; exact hy
                          exact List.mem_of_getElem? this
                        · exact HO.out q (by omega))
                      obtain ⟨wh, hwh⟩ : ∃ wh, wh = wa.setCell ⟨W2.heap.size + 1, vn, none⟩ (.bool true) := ⟨_, rfl⟩
                      have hPh := HPA.out.putH vn (.bool true)
                      have hTh := (HPA.out.hd.put vn (.bool true)).2
                      rw [← hwh] at hPh hTh
                      have hrow2 := (hTh.block _ (lt_of_heap HROW.out) (by simp; omega)).trans HROW.out
                      have u0 := rboxL hrow2 0 rfl
                      have u1 := rboxL hrow2 1 rfl
                      obtain ⟨ct, hct⟩ : ∃ ct, ((n.links.take k).map Prod.fst).count (pn : Int) = ct := ⟨_, rfl⟩
                      have hctl : ct ≤ k := by rw [← hct]; exact count_le _ _ _ (by simp; omega)
                      have tt := hPh.tm.cell (tmL_at _ (show pn < 8 by omega))
                      rw [hct] at tt
                      have f4 := hPh.tm.frozen pn
                      have f5 := HPA.out.hd.frozen vn
                      have f6 : IntKind.i64.wrap ((ct : Int) + 1) = (ct : Int) + 1 := IntWalk.i64_in _ (by have := HK.out; omega)
                      have hput := hPh.putT pn (.int .i64 ((ct : Int) + 1))
                      rw [← hct, ← tmL_put _ (show pn < 8 by omega), ← hdL_put _ (show vn < 16 by omega), ← take_map_next Prod.fst HX.out, ← take_map_next Prod.snd HX.out] at hput
                      rw [hct] at hput
                      have HPUT := Lib.hid hput
                      have HNX := Lib.hid (lastF_next (f := Prod.fst) HX.out)
                      clear h5 hPh hTh hrow2 hct hput
                      go_upto_region 14 with fail
                      rw [← hwh]
                      clear hwh hh z0 z1 f5
                      go_wp2_with fail
                      exact ⟨⟨k + 1, by go_num, by rw [HNX.out], HK.out, HOK2.out, HPUT.out⟩, by simp [intOf]; have := HK.out; omega⟩
                  · have h4n : (w : Int) ≤ xv := by omega
                    have HF := Lib.hid (NO.out (fun h => h4 h.2.2.2.1))
                    clear h4
                    go_wp2
                    go_ret
                    exact ⟨by rw [HF.out]; rfl, T.out.all HPA.out.below⟩
                · have h3n : xv < 0 := by omega
                  have HF := Lib.hid (NO.out (fun h => h3 h.2.2.1))
                  clear h3
                  go_wp2
                  go_ret
                  exact ⟨by rw [HF.out]; rfl, T.out.all HPA.out.below⟩
              · have h2n : (s.cells.length : Int) ≤ xp := by omega
                have HF := Lib.hid (NO.out (fun h => h2 h.2.1))
                clear h2
                go_wp2
                go_ret
                exact ⟨by rw [HF.out]; rfl, T.out.all HPA.out.below⟩
            · have h1n : xp ≤ la := by omega
              have HF := Lib.hid (NO.out (fun h => h1 h.1))
              clear h1
              go_wp2
              go_ret
              exact ⟨by rw [HF.out]; rfl, T.out.all HPA.out.below⟩
          · obtain rfl : k = n.links.length := by omega
            simp only [List.take_length] at hP
            have HO := Lib.hid hO
            have HP1 := Lib.hid hP
            have HLB := Lib.hid (show n.links.length + n.new.length + 1 ≤ 9223372036854775807 by have := links_len HO.out; omega)
            have b4 := T.out.cb hP.below 4 rfl
            clear hO hP hkn hla
            go_wp2
            clear b4
            go_loopw [10, 94] (fun lav kv wr => ∃ k : Nat, kv = .int .i64 k ∧ lav = .int .i64 (lastF id n.new k) ∧ k ≤ n.new.length ∧ (∀ q, q < k → newOk s.cells.length n.new q) ∧ PS W2 wr (tmL (n.links.map Prod.fst ++ n.new.take k)) (hdL (n.links.map Prod.snd))) (fun _ k _ => n.new.length - (intOf k).toNat)
            case atStart => exact ⟨0, rfl, rfl, Nat.zero_le _, fun q hq => by omega, by simpa using HP1.out⟩
            case round =>
              obtain ⟨k, rfl, rfl, hk, hN, hP⟩ := hrel
              clear HP1
              have hla := last_new k hk hN
              obtain ⟨la, hlae⟩ : ∃ la, lastF id n.new k = la := ⟨_, rfl⟩
              rw [hlae] at hla ⊢
              have HLA2 := Lib.hid hlae
              clear hlae
              by_cases hkn : k < n.new.length
              · obtain ⟨x, hx⟩ : ∃ x, n.new[k]? = some x := ⟨_, List.getElem?_eq_getElem hkn⟩
                obtain ⟨lb, lo, cs, rfl, ⟨rfl, ok1⟩, hc⟩ := HM.out.rd hx
                have c0 := hc _ (T.out.all hP.below) 0 _ rfl
                simp only [Nat.add_zero, Nat.mul_one] at c0
                have e4 : (0 : Int) ≤ (k : Int) := by omega
                have e5 : (k : Int) < (n.new.length : Int) := by omega
                have HK := Lib.hid hkn
                have HX := Lib.hid hx
                have HN := Lib.hid hN
                have HPA := Lib.hid hP
                have NO := Lib.hid (show ¬ (la < x ∧ x < (s.cells.length : Int)) → R = false from fun hno => by
                  rw [← HR.out]
                  refine decide_eq_false (fun h => hno ?_)
                  have h2 := h.2.2.1 k HK.out x HX.out
                  rw [HLA2.out] at h2
                  exact h2)
                have hTL := hP.tm
                clear hc hx hkn hN ok1 hP
                by_cases h1 : la < x
                · have h1n : ¬ x ≤ la := by omega
                  by_cases h2 : x < (s.cells.length : Int)
                  · have h2n : ¬ (s.cells.length : Int) ≤ x := by omega
                    obtain ⟨pn, rfl⟩ : ∃ pn : Nat, x = (pn : Int) := ⟨x.toNat, by omega⟩
                    have f2 : (pn : Int) < 8 := by omega
                    have f3 : (0 : Int) ≤ (pn : Int) := by omega
                    have HOK2 := Lib.hid (show ∀ q, q < k + 1 → newOk s.cells.length n.new q from fun q hq => by
                      by_cases e : q = k
                      · subst e
                        intro y hy
                        rw [HX.out] at hy
                        injection hy with hy
                        subst hy
                        rw [HLA2.out]
                        exact ⟨h1, h2⟩
                      · exact HN.out q (by omega))
                    obtain ⟨ct, hct⟩ : ∃ ct, (n.links.map Prod.fst ++ n.new.take k).count (pn : Int) = ct := ⟨_, rfl⟩
                    have hctl : ct ≤ n.links.length + k := by rw [← hct]; exact count_le _ _ _ (by simp; omega)
                    have tt := hTL.cell (tmL_at _ (show pn < 8 by omega))
                    rw [hct] at tt
                    have f4 := hTL.frozen pn
                    have f6 : IntKind.i64.wrap ((ct : Int) + 1) = (ct : Int) + 1 := IntWalk.i64_in _ (by have := HLB.out; omega)
                    have hput := HPA.out.putT pn (.int .i64 ((ct : Int) + 1))
                    rw [← hct, ← tmL_put _ (show pn < 8 by omega)] at hput
                    rw [hct] at hput
                    have hnx : n.links.map Prod.fst ++ n.new.take k ++ [(pn : Int)] = n.links.map Prod.fst ++ n.new.take (k + 1) := by
                      rw [List.take_add_one, HX.out, List.append_assoc]; rfl
                    rw [hnx] at hput
                    have HPUT := Lib.hid hput
                    have HNX := Lib.hid (lastF_next (f := id) HX.out)
                    clear hct hput hnx hTL
                    go_wp2_with fail
                    exact ⟨⟨k + 1, by go_num, by rw [HNX.out]; rfl, HK.out, HOK2.out, HPUT.out⟩, by simp [intOf]; have := HK.out; omega⟩
                  · have h2n : (s.cells.length : Int) ≤ x := by omega
                    have HF := Lib.hid (NO.out (fun h => h2 h.2))
                    clear h2 hTL
                    go_wp2
                    go_ret
                    exact ⟨by rw [HF.out]; rfl, T.out.all HPA.out.below⟩
                · have h1n : x ≤ la := by omega
                  have HF := Lib.hid (NO.out (fun h => h1 h.1))
                  clear h1 hTL
                  go_wp2
                  go_ret
                  exact ⟨by rw [HF.out]; rfl, T.out.all HPA.out.below⟩
              · obtain rfl : k = n.new.length := by omega
                simp only [List.take_length] at hP
                have HN := Lib.hid hN
                have HP2 := Lib.hid hP
                clear hN hP hkn hla
                go_wp2
                go_loopw [116] (fun kv wr => ∃ k : Nat, kv = .int .i64 k ∧ k ≤ s.cells.length ∧ (∀ q, q < k → cellOk s.cells (n.links.map Prod.fst ++ n.new) q) ∧ PS W2 wr (tmL (n.links.map Prod.fst ++ n.new)) (hdL (n.links.map Prod.snd))) (fun k _ => s.cells.length - (intOf k).toNat)
                case atStart => exact ⟨0, rfl, Nat.zero_le _, fun q hq => by omega, HP2.out⟩
                case round =>
                  obtain ⟨i, rfl, hi, hC, hP⟩ := hrel
                  clear HP2
                  by_cases hin : i < s.cells.length
                  · obtain ⟨c, hcx⟩ : ∃ c, s.cells[i]? = some c := ⟨_, List.getElem?_eq_getElem hin⟩
                    obtain ⟨lb, lo, cs, rfl, ⟨rfl, ok1⟩, hc⟩ := HSV.out.rd hcx
                    have c0 := hc _ (T.out.all hP.below) 0 _ rfl
                    simp only [Nat.add_zero, Nat.mul_one] at c0
                    have e4 : (0 : Int) ≤ (i : Int) := by omega
                    have e5 : (i : Int) < (s.cells.length : Int) := by omega
                    have e6 : (i : Int) < 8 := by omega
                    have e7 : IntKind.i64.wrap (-1 - (i : Int)) = -1 - (i : Int) := IntWalk.i64_in _ (by omega)
                    obtain ⟨ct, hct⟩ : ∃ ct, (n.links.map Prod.fst ++ n.new).count (i : Int) = ct := ⟨_, rfl⟩
                    have tt := hP.tm.cell (tmL_at _ (show i < 8 by omega))
                    rw [hct] at tt
                    have HI := Lib.hid hin
                    have HX := Lib.hid hcx
                    have HC := Lib.hid hC
                    have HP := Lib.hid hP
                    have HCT := Lib.hid hct
                    clear hc hcx hin hC hP ok1 hct
                    have NXT := Lib.hid (show ((ct : Int) = if c = -1 - (i : Int) then 1 else 0) → ∀ q, q < i + 1 → cellOk s.cells (n.links.map Prod.fst ++ n.new) q from fun h q hq => by
                      by_cases e : q = i
                      · subst e
                        intro y hy
                        rw [HX.out] at hy
                        injection hy with hy
                        subst hy
                        rw [HCT.out]
                        exact h
                      · exact HC.out q (by omega))
                    have NO := Lib.hid (show ¬ ((ct : Int) = if c = -1 - (i : Int) then 1 else 0) → R = false from fun hno => by
                      rw [← HR.out]
                      refine decide_eq_false (fun h => hno ?_)
                      have := h.2.2.2 i HI.out c HX.out
                      rw [HCT.out] at this
                      exact this)
                    by_cases hc1 : c = -1 - (i : Int)
                    · rw [if_pos hc1] at NXT NO
                      subst hc1
                      by_cases hc2 : ct = 1
                      · subst hc2
                        have HN2 := Lib.hid (NXT.out rfl)
                        clear NXT NO
                        go_wp2_with fail
                        exact ⟨⟨i + 1, by go_num, HI.out, HN2.out, HP.out⟩, by simp [intOf]; have := HI.out; omega⟩
                      · have hn : ¬ (ct : Int) = 1 := by omega
                        have hn2 : ((ct : Int) == 1) = false := by simpa using hn
                        have hn3 : ((ct : Int) != 1) = true := by simpa using hn
                        have HF := Lib.hid (NO.out hn)
                        clear NXT NO hc2
                        go_wp2
                        go_ret
                        exact ⟨by rw [HF.out]; rfl, T.out.all HP.out.below⟩
                    · rw [if_neg hc1] at NXT NO
                      have hc1b : (c == -1 - (i : Int)) = false := by simpa using hc1
                      by_cases hc2 : ct = 0
                      · subst hc2
                        have HN2 := Lib.hid (NXT.out rfl)
                        clear NXT NO
                        go_wp2_with fail
                        exact ⟨⟨i + 1, by go_num, HI.out, HN2.out, HP.out⟩, by simp [intOf]; have := HI.out; omega⟩
                      · have hn : ¬ (ct : Int) = 0 := by omega
                        have hn2 : ((ct : Int) == 0) = false := by simpa using hn
                        have hn3 : ((ct : Int) != 0) = true := by simpa using hn
                        have HF := Lib.hid (NO.out hn)
                        clear NXT NO hc2
                        go_wp2
                        go_ret
                        exact ⟨by rw [HF.out]; rfl, T.out.all HP.out.below⟩
                  · obtain rfl : i = s.cells.length := by omega
                    have HF := Lib.hid (show R = true by rw [← HR.out]; exact decide_eq_true ⟨HT.out, HO.out, HN.out, hC⟩)
                    have HB := Lib.hid (T.out.all hP.below)
                    clear hC hP hin
                    go_wp2
                    go_ret
                    exact ⟨by rw [HF.out]; rfl, HB.out⟩
      · have HF := Lib.hid (show R = false by rw [← HR.out]; exact decide_eq_false (fun h => t3 h.1.2.2))
        have t3n : (16 : Int) < n.width := by omega
        clear t1 t1d t3
        go_wp2
        go_ret
        exact ⟨by rw [HF.out]; rfl, T.out.all (Below.refl _ _)⟩
    · have HF := Lib.hid (show R = false by rw [← HR.out]; exact decide_eq_false (fun h => t2 h.1.2.1))
      clear t1 t1d
      go_wp2
      go_ret
      exact ⟨by rw [HF.out]; rfl, T.out.all (Below.refl _ _)⟩
  · have t1d : decide (n.test = noTst) = false := decide_eq_false t1
    simp only [noTst, noSlt] at t1d
    rw [t1d] at hne
    simp only [Bool.not_false] at hne
    have HF := Lib.hid (show R = false by rw [← HR.out]; exact decide_eq_false (fun h => t1 h.1.1))
    clear t1 t1d
    go_wp2
    go_ret
    exact ⟨by rw [HF.out]; rfl, T.out.all (Below.refl _ _)⟩
end Go.Proofs.Ytonkbjdeaneicaa
