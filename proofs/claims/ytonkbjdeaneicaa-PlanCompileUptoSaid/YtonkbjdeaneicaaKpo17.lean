/- placesRight, walked. The reference's equalNode. The reference's Maker: a plan on its way, behind a pointer. -/
import Derived.Test.YtonkbjdeaneicaaKpo11
import Derived.Test.YtonkbjdeaneicaaKpo15
import Derived.Test.YtonkbjdeaneicaaKpo16
namespace Go.Proofs.Ytonkbjdeaneicaa
open Go.RowKit Pln Classical Go.Maps

/-- Two boxes. -/
structure Two (W W2 : World) (a b : Array Value) (ta tb : TypeId) : Prop where
  below : Below W.heap.size W W2
  size : W2.heap.size = W.heap.size + 1 + 1
  ha : W2.heap[W.heap.size]? = some (.cells a ta (0, 0))
  hb : W2.heap[W.heap.size + 1]? = some (.cells b tb (0, 0))
theorem two (W : World) (a b : Array Value) (ta tb : TypeId) : Two W ((W.alloc (.cells a ta)).alloc (.cells b tb)) a b ta tb := by
  refine ⟨((Below.refl _ _).alloc (Nat.le_refl _) _).alloc (by simp) _, by simp, ?_, ?_⟩
  · rw [Below.heap_alloc _ _ _ (by simp)]
    exact heap_alloc_new W _
  · have := heap_alloc_new (W.alloc (.cells a ta)) (.cells b tb)
    simpa using this
section
variable {W W2 wr : World} {a b : Array Value} {ta tb : TypeId}
theorem Two.ca (h : Two W W2 a b ta tb) (hb : Below W2.heap.size W2 wr) (j : Nat) {u : Value} (hu : a.toList[j]? = some u) : wr.cell? ⟨W.heap.size, j, none⟩ = some u := rboxL ((hb.block _ (by have := h.size; omega)).trans h.ha) j hu
theorem Two.cb (h : Two W W2 a b ta tb) (hb : Below W2.heap.size W2 wr) (j : Nat) {u : Value} (hu : b.toList[j]? = some u) : wr.cell? ⟨W.heap.size + 1, j, none⟩ = some u := rboxL ((hb.block _ (by have := h.size; omega)).trans h.hb) j hu
theorem Two.all (h : Two W W2 a b ta tb) (hb : Below W2.heap.size W2 wr) : Below W.heap.size W wr := h.below.trans (hb.mono (by have := h.size; omega))
end
/-- The two arrays, behind the boxes. -/
structure PS (W2 wr : World) (tm hd : List Value) : Prop where
  below : Below W2.heap.size W2 wr
  tm : Arr wr W2.heap.size 99 tm
  hd : Arr wr (W2.heap.size + 1) 117 hd
section
variable {W2 wr wr' : World} {tm hd : List Value}
theorem PS.step (h : PS W2 wr tm hd) (hb : Below wr.heap.size wr wr') : PS W2 wr' tm hd := ⟨h.below.trans (hb.mono h.below.size), h.tm.step hb, h.hd.step hb⟩
theorem PS.putT (h : PS W2 wr tm hd) (j : Nat) (v : Value) : PS W2 (wr.setCell ⟨W2.heap.size, j, none⟩ v) (tm.set j v) hd := by
  obtain ⟨h1, h2⟩ := h.tm.put j v
  exact ⟨h.below.trans (h2.below h.below.size (fun x hx => by rw [List.mem_singleton.1 hx]; exact Nat.le_refl _)), h1, h.hd.turns h2 (by simp)⟩
theorem PS.putH (h : PS W2 wr tm hd) (j : Nat) (v : Value) : PS W2 (wr.setCell ⟨W2.heap.size + 1, j, none⟩ v) tm (hd.set j v) := by
  obtain ⟨h1, h2⟩ := h.hd.put j v
  exact ⟨h.below.trans (h2.below h.below.size (fun x hx => by rw [List.mem_singleton.1 hx]; exact Nat.le_succ _)), h.tm.turns h2 (by simp), h1⟩
end
theorem ps_new (W2 : World) : PS W2 ((W2.alloc (.cells #[.int .i64 0, .int .i64 0, .int .i64 0, .int .i64 0, .int .i64 0, .int .i64 0, .int .i64 0, .int .i64 0] 99)).alloc (.cells #[.bool false, .bool false, .bool false, .bool false, .bool false, .bool false, .bool false, .bool false, .bool false, .bool false, .bool false, .bool false, .bool false, .bool false, .bool false, .bool false] 117)) (tmL []) (hdL []) := by
  have h1 := Arr.new W2 99 #[.int .i64 0, .int .i64 0, .int .i64 0, .int .i64 0, .int .i64 0, .int .i64 0, .int .i64 0, .int .i64 0] (by unfold maxLen; decide)
  have h2 := Arr.new (W2.alloc (.cells #[.int .i64 0, .int .i64 0, .int .i64 0, .int .i64 0, .int .i64 0, .int .i64 0, .int .i64 0, .int .i64 0] 99)) 117 #[.bool false, .bool false, .bool false, .bool false, .bool false, .bool false, .bool false, .bool false, .bool false, .bool false, .bool false, .bool false, .bool false, .bool false, .bool false, .bool false] (by unfold maxLen; decide)
  refine ⟨((Below.refl _ _).alloc (Nat.le_refl _) _).alloc (by simp) _, ?_, ?_⟩
  · exact h1.step ((Below.refl _ _).alloc (Nat.le_refl _) _)
  · have e : hdL [] = List.replicate 16 (.bool false) := by
      apply List.ext_getElem?
      intro i
      by_cases hi : i < 16
      · rw [hdL_at _ hi, List.getElem?_replicate, if_pos hi]; simp
      · rw [List.getElem?_eq_none (by rw [hdL_len]; omega), List.getElem?_eq_none (by simp; omega)]
    rw [e]
    simpa using h2
theorem neq_tst (a b : Tst) (w : World) : (binOp .neq 52 (.agg #[.int .i64 a.op, .bool a.l.v, .int .i64 a.l.n, .bool a.r.v, .int .i64 a.r.n]) (.agg #[.int .i64 b.op, .bool b.l.v, .int .i64 b.l.n, .bool b.r.v, .int .i64 b.r.n])).run Try.prog w = .ok (.bool (!decide (a = b))) w := by
  obtain ⟨ao, ⟨alv, aln⟩, ⟨arv, arn⟩⟩ := a
  obtain ⟨bo, ⟨blv, bln⟩, ⟨brv, brn⟩⟩ := b
  rw [show decide ((⟨ao, ⟨alv, aln⟩, ⟨arv, arn⟩⟩ : Tst) = ⟨bo, ⟨blv, bln⟩, ⟨brv, brn⟩⟩) = decide (ao = bo ∧ (alv = blv ∧ aln = bln) ∧ (arv = brv ∧ arn = brn)) from by simp only [Tst.mk.injEq, Slt.mk.injEq]]
  by_cases h1 : ao = bo
  · by_cases h0 : alv = blv
    · by_cases h2 : aln = bln
      · by_cases h4 : arv = brv
        · by_cases h3 : arn = brn
          · simp [go_sem, h0, h1, h2, h3, h4]
          · simp [go_sem, h0, h1, h2, h3, h4]
        · simp [go_sem, h0, h1, h2, h4]
      · simp [go_sem, h0, h1, h2]
    · simp [go_sem, h0, h1]
  · simp [go_sem, h1]

theorem take_map_next {α β : Type} (f : α → β) {l : List α} {k : Nat} {x : α} (h : l[k]? = some x) : (l.take (k + 1)).map f = (l.take k).map f ++ [f x] := by
  rw [List.take_add_one, h]; simp
theorem count_le (l : List Int) (x : Int) (k : Nat) (h : l.length ≤ k) : l.count x ≤ k := Nat.le_trans List.count_le_length h

set_option maxRecDepth 200000 in
set_option maxHeartbeats 8000000 in
theorem placesW {F : Nat → Prop} (W : World) (av nv ev : Value) (al : List Shp) (hA : RSl F W 2 (EShp F W) av al) (n : Nd) (ncs : List Value) (lv mv : Value) (hN : ENd F W ncs n lv mv) (ai : Nat) (s : Shp) (hs : al[ai]? = some s) (ha : n.alpha = ai) (h8 : s.cells.length ≤ 8) (w : Nat) (hw : w ≤ 16) (hml : n.new.length ≤ 1000000000) :
    Calls Try.prog 70 #[.agg #[av, nv, ev], .agg #[.int .i64 n.kind, .int .i64 n.parent, .int .i64 n.alpha, lv, mv, .int .i64 n.test.op, .bool n.test.l.v, .int .i64 n.test.l.n, .bool n.test.r.v, .int .i64 n.test.r.n, .int .i64 n.width], .int .i64 (w : Int)] W
      fun e W' => e = .returned (.bool (decide (placesP s.cells n w))) ∧ Below W.heap.size W W' := by
  obtain ⟨Aa, ca, rfl⟩ := hA.form
  have ham := hA.len
  unfold maxLen at ham
  have hail := (List.getElem?_eq_some_iff.1 hs).1
  obtain ⟨ab, ao, scs, rfl, ⟨sv, rfl, -, hsv⟩, hsc⟩ := hA.rd hs
  obtain ⟨Al, cl, rfl⟩ := hN.links.form
  obtain ⟨Am, cm, rfl⟩ := hN.new.form
  obtain ⟨As, cc, rfl⟩ := hsv.form
  have hll := hN.links.len
  unfold maxLen at hll
  have hwo := hN.ok.2.2.2.1.lo
  rw [ha]
  obtain ⟨R, hR⟩ : ∃ R, decide (placesP s.cells n w) = R := ⟨_, rfl⟩
  rw [hR]
  have HR := Lib.hid hR
  have HL := Lib.hid hN.links
  have HM := Lib.hid hN.new
  have HSV := Lib.hid hsv
  have T := Lib.hid (two W #[.slice (some ⟨ab, ao, none⟩) al.length ca, nv, ev] #[.int .i64 n.kind, .int .i64 n.parent, .int .i64 (ai : Int), .slice Al n.links.length cl, .slice Am n.new.length cm, .int .i64 n.test.op, .bool n.test.l.v, .int .i64 n.test.l.n, .bool n.test.r.v, .int .i64 n.test.r.n, .int .i64 n.width] 27 54)
  have e1 : (0 : Int) ≤ (ai : Int) := by omega
  have e2 : (ai : Int) < (al.length : Int) := by omega
  have e3 : IntKind.i64.wrap ((w : Int) + (n.new.length : Int)) = (w : Int) + (n.new.length : Int) := IntWalk.i64_in _ (by omega)
  clear hR hA hs hN hsv ha
  go_enter Try.func70, Try.ntmps70
  go_upto_region 1 with fail
  obtain ⟨W2, hW2⟩ : ∃ W2, W2 = ((W.alloc (.cells #[.slice (some ⟨ab, ao, none⟩) al.length ca, nv, ev] 27)).alloc (.cells #[.int .i64 n.kind, .int .i64 n.parent, .int .i64 (ai : Int), .slice Al n.links.length cl, .slice Am n.new.length cm, .int .i64 n.test.op, .bool n.test.l.v, .int .i64 n.test.l.n, .bool n.test.r.v, .int .i64 n.test.r.n, .int .i64 n.width] 54)) := ⟨_, rfl⟩
  rw [← hW2] at T ⊢
  clear hW2
  have y0 := T.out.ca (Below.refl _ _) 0 rfl
  have b2 := T.out.cb (Below.refl _ _) 2 rfl
  have b4 := T.out.cb (Below.refl _ _) 4 rfl
  have b5 := T.out.cb (Below.refl _ _) 5 rfl
  have b6 := T.out.cb (Below.refl _ _) 6 rfl
  have b7 := T.out.cb (Below.refl _ _) 7 rfl
  have b8 := T.out.cb (Below.refl _ _) 8 rfl
  have b9 := T.out.cb (Below.refl _ _) 9 rfl
  have b10 := T.out.cb (Below.refl _ _) 10 rfl
  have c1 := hsc _ (T.out.all (Below.refl _ _)) 1 _ rfl
  have hne := fun W => neq_tst n.test noTst W
  simp only [noTst, noSlt] at hne
  clear hsc
  have DT := Lib.hid (Below.refl W2.heap.size W2)
  by_cases t1 : n.test = noTst
  · have t1d : decide (n.test = noTst) = true := decide_eq_true t1
    simp only [noTst, noSlt] at t1d
    rw [t1d] at hne
    simp only [Bool.not_true] at hne
    by_cases t2 : n.width = (w : Int) + (n.new.length : Int)
    · by_cases t3 : n.width ≤ 16
      · have HT := Lib.hid (show n.test = noTst ∧ n.width = (w : Int) + (n.new.length : Int) ∧ n.width ≤ 16 from ⟨t1, t2, t3⟩)
        have t3' : (w : Int) + (n.new.length : Int) ≤ 16 := by omega
        have t3n : ¬ (16 : Int) < (w : Int) + (n.new.length : Int) := by omega
        rw [t2] at b10
        clear t1 t1d t2 t3
        go_upto_region 6 with fail
        have P0 := Lib.hid (ps_new W2)
        obtain ⟨W4, hW4⟩ : ∃ W4, W4 = ((W2.alloc (.cells #[.int .i64 0, .int .i64 0, .int .i64 0, .int .i64 0, .int .i64 0, .int .i64 0, .int .i64 0, .int .i64 0] 99)).alloc (.cells #[.bool false, .bool false, .bool false, .bool false, .bool false, .bool false, .bool false, .bool false, .bool false, .bool false, .bool false, .bool false, .bool false, .bool false, .bool false, .bool false] 117)) := ⟨_, rfl⟩
        rw [← hW4] at P0 ⊢
        clear hW4 y0 b2 b4 b5 b6 b7 b8 b9 b10 c1 hne
        have b3 := T.out.cb P0.out.below 3 rfl
        go_wp2_with fail
        clear b3
        go_loopw [10, 47] (fun lav kv wr => ∃ k : Nat, kv = .int .i64 k ∧ lav = .int .i64 (lastF Prod.fst n.links k) ∧ k ≤ n.links.length ∧ (∀ q, q < k → linkOk s.cells.length w n.links q) ∧ PS W2 wr (tmL ((n.links.take k).map Prod.fst)) (hdL ((n.links.take k).map Prod.snd))) (fun _ k _ => n.links.length - (intOf k).toNat)
        case atStart => exact ⟨0, rfl, rfl, Nat.zero_le _, fun q hq => by omega, P0.out⟩
        case round =>
          obtain ⟨k, rfl, rfl, hk, hO, hP⟩ := hrel
          clear P0
          have hla := last_link k hk hO
          obtain ⟨la, hlae⟩ : ∃ la, lastF Prod.fst n.links k = la := ⟨_, rfl⟩
          rw [hlae] at hla ⊢
          have HLA := Lib.hid hlae
          clear hlae
          by_cases hkn : k < n.links.length
          · obtain ⟨x, hx⟩ : ∃ x, n.links[k]? = some x := ⟨_, List.getElem?_eq_getElem hkn⟩
            obtain ⟨lb, lo, cs, rfl, ⟨rfl, ok1, ok2⟩, hc⟩ := HL.out.rd hx
            have c0 := hc _ (T.out.all hP.below) 0 _ rfl
            have c1 := hc _ (T.out.all hP.below) 1 _ rfl
            simp only [Nat.add_zero] at c0
            have e4 : (0 : Int) ≤ (k : Int) := by omega
            have e5 : (k : Int) < (n.links.length : Int) := by omega
            obtain ⟨wa, hwa⟩ : ∃ wa, wa = wr.alloc (.cells #[.int .i64 x.1, .int .i64 x.2] 83) := ⟨_, rfl⟩
            have hrow : wa.heap[wr.heap.size]? = some (.cells #[.int .i64 x.1, .int .i64 x.2] 83 (0, 0)) := by rw [hwa]; exact heap_alloc_new wr _
            have hPa : PS W2 wa (tmL ((n.links.take k).map Prod.fst)) (hdL ((n.links.take k).map Prod.snd)) := by rw [hwa]; exact hP.step ((Below.refl _ _).alloc (Nat.le_refl _) _)
            have hlt := hP.hd.lt
            have z0 := rboxL hrow 0 rfl
            have z1 := rboxL hrow 1 rfl
            have HK := Lib.hid hkn
            have HX := Lib.hid hx
            have HO := Lib.hid hO
            have HPA := Lib.hid hPa
            have HROW := Lib.hid hrow
            clear hc hx hkn hP hPa hrow hO ok1 ok2
            go_upto_region 10 with fail
            rw [← hwa]
            clear hwa c0 c1
            have NO := Lib.hid (show ¬ (la < x.1 ∧ x.1 < (s.cells.length : Int) ∧ 0 ≤ x.2 ∧ x.2 < (w : Int) ∧ x.2 ∉ (n.links.take k).map Prod.snd) → R = false from fun hno => by
              rw [← HR.out]
              refine decide_eq_false (fun h => hno ?_)
              have h2 := h.2.1 k HK.out x HX.out
              rw [HLA.out] at h2
              refine ⟨h2.1, h2.2.1, h2.2.2.1, h2.2.2.2.1, fun hm => ?_⟩
              obtain ⟨y, hy, hyx⟩ := List.mem_map.1 hm
              obtain ⟨q, hq, rfl⟩ := List.getElem_of_mem hy
              rw [List.length_take] at hq
              refine h2.2.2.2.2 q (by omega) _ ?_ hyx
              rw [List.getElem_take, List.getElem?_eq_getElem (by omega)])
            obtain ⟨xp, xv⟩ := x
            simp only at z0 z1 NO HROW
            by_cases h1 : la < xp
            · have h1n : ¬ xp ≤ la := by omega
              by_cases h2 : xp < (s.cells.length : Int)
              · have h2n : ¬ (s.cells.length : Int) ≤ xp := by omega
                by_cases h3 : 0 ≤ xv
                · have h3n : ¬ xv < 0 := by omega
                  by_cases h4 : xv < (w : Int)
                  · have h4n : ¬ (w : Int) ≤ xv := by omega
                    obtain ⟨vn, rfl⟩ : ∃ vn : Nat, xv = (vn : Int) := ⟨xv.toNat, by omega⟩
                    obtain ⟨pn, rfl⟩ : ∃ pn : Nat, xp = (pn : Int) := ⟨xp.toNat, by omega⟩
                    have hh := HPA.out.hd.cell (hdL_at _ (show vn < 16 by omega))
                    have f1 : (vn : Int) < 16 := by omega
                    have f2 : (pn : Int) < 8 := by omega
                    have f3 : (0 : Int) ≤ (pn : Int) := by omega
                    by_cases h5 : (vn : Int) ∈ (n.links.take k).map Prod.snd
                    · rw [decide_eq_true h5] at hh
                      have HF := Lib.hid (NO.out (fun h => h.2.2.2.2 h5))
                      clear h5
                      go_wp2
                      go_ret
                      exact ⟨by rw [HF.out]; rfl, T.out.all HPA.out.below⟩
                    · rw [decide_eq_false h5] at hh
                      have HOK2 := Lib.hid (show ∀ q, q < k + 1 → linkOk s.cells.length w n.links q from fun q hq => by
                        by_cases e : q = k
                        · subst e
                          intro y hy
                          rw [HX.out] at hy
                          injection hy with hy
                          subst hy
                          rw [HLA.out]
                          refine ⟨h1, h2, h3, h4, fun q' hq' y hy he => h5 ?_⟩
                          have he : y.2 = (vn : Int) := he
                          rw [← he]
                          refine List.mem_map_of_mem ?_
                          have hql := (List.getElem?_eq_some_iff.1 hy).1
                          have : (n.links.take q)[q']? = some y := by rw [List.getElem?_take, if_pos hq']; exact hy
                          exact List.mem_of_getElem? this
                        · exact HO.out q (by omega))
                      obtain ⟨wh, hwh⟩ : ∃ wh, wh = wa.setCell ⟨W2.heap.size + 1, vn, none⟩ (.bool true) := ⟨_, rfl⟩
                      have hPh := HPA.out.putH vn (.bool true)
                      have hTh := (HPA.out.hd.put vn (.bool true)).2
                      rw [← hwh] at hPh hTh
                      have hrow2 := (hTh.block _ (lt_of_heap HROW.out) (by simp; omega)).trans HROW.out
                      have u0 := rboxL hrow2 0 rfl
                      have u1 := rboxL hrow2 1 rfl
                      obtain ⟨ct, hct⟩ : ∃ ct, ((n.links.take k).map Prod.fst).count (pn : Int) = ct := ⟨_, rfl⟩
                      have hctl : ct ≤ k := by rw [← hct]; exact count_le _ _ _ (by simp; omega)
                      have tt := hPh.tm.cell (tmL_at _ (show pn < 8 by omega))
                      rw [hct] at tt
                      have f4 := hPh.tm.frozen pn
                      have f5 := HPA.out.hd.frozen vn
                      have f6 : IntKind.i64.wrap ((ct : Int) + 1) = (ct : Int) + 1 := IntWalk.i64_in _ (by have := HK.out; omega)
                      have hput := hPh.putT pn (.int .i64 ((ct : Int) + 1))
                      rw [← hct, ← tmL_put _ (show pn < 8 by omega), ← hdL_put _ (show vn < 16 by omega), ← take_map_next Prod.fst HX.out, ← take_map_next Prod.snd HX.out] at hput
                      rw [hct] at hput
                      have HPUT := Lib.hid hput
                      have HNX := Lib.hid (lastF_next (f := Prod.fst) HX.out)
                      clear h5 hPh hTh hrow2 hct hput
                      go_upto_region 14 with fail
                      rw [← hwh]
                      clear hwh hh z0 z1 f5
                      go_wp2_with fail
                      exact ⟨⟨k + 1, by go_num, by rw [HNX.out], HK.out, HOK2.out, HPUT.out⟩, by simp [intOf]; have := HK.out; omega⟩
                  · have h4n : (w : Int) ≤ xv := by omega
                    have HF := Lib.hid (NO.out (fun h => h4 h.2.2.2.1))
                    clear h4
                    go_wp2
                    go_ret
                    exact ⟨by rw [HF.out]; rfl, T.out.all HPA.out.below⟩
                · have h3n : xv < 0 := by omega
                  have HF := Lib.hid (NO.out (fun h => h3 h.2.2.1))
                  clear h3
                  go_wp2
                  go_ret
                  exact ⟨by rw [HF.out]; rfl, T.out.all HPA.out.below⟩
              · have h2n : (s.cells.length : Int) ≤ xp := by omega
                have HF := Lib.hid (NO.out (fun h => h2 h.2.1))
                clear h2
                go_wp2
                go_ret
                exact ⟨by rw [HF.out]; rfl, T.out.all HPA.out.below⟩
            · have h1n : xp ≤ la := by omega
              have HF := Lib.hid (NO.out (fun h => h1 h.1))
              clear h1
              go_wp2
              go_ret
              exact ⟨by rw [HF.out]; rfl, T.out.all HPA.out.below⟩
          · obtain rfl : k = n.links.length := by omega
            simp only [List.take_length] at hP
            have HO := Lib.hid hO
            have HP1 := Lib.hid hP
            have HLB := Lib.hid (show n.links.length + n.new.length + 1 ≤ 9223372036854775807 by have := links_len HO.out; omega)
            have b4 := T.out.cb hP.below 4 rfl
            clear hO hP hkn hla
            go_wp2
            clear b4
            go_loopw [10, 94] (fun lav kv wr => ∃ k : Nat, kv = .int .i64 k ∧ lav = .int .i64 (lastF id n.new k) ∧ k ≤ n.new.length ∧ (∀ q, q < k → newOk s.cells.length n.new q) ∧ PS W2 wr (tmL (n.links.map Prod.fst ++ n.new.take k)) (hdL (n.links.map Prod.snd))) (fun _ k _ => n.new.length - (intOf k).toNat)
            case atStart => exact ⟨0, rfl, rfl, Nat.zero_le _, fun q hq => by omega, by simpa using HP1.out⟩
            case round =>
              obtain ⟨k, rfl, rfl, hk, hN, hP⟩ := hrel
              clear HP1
              have hla := last_new k hk hN
              obtain ⟨la, hlae⟩ : ∃ la, lastF id n.new k = la := ⟨_, rfl⟩
              rw [hlae] at hla ⊢
              have HLA2 := Lib.hid hlae
              clear hlae
              by_cases hkn : k < n.new.length
              · obtain ⟨x, hx⟩ : ∃ x, n.new[k]? = some x := ⟨_, List.getElem?_eq_getElem hkn⟩
                obtain ⟨lb, lo, cs, rfl, ⟨rfl, ok1⟩, hc⟩ := HM.out.rd hx
                have c0 := hc _ (T.out.all hP.below) 0 _ rfl
                simp only [Nat.add_zero, Nat.mul_one] at c0
                have e4 : (0 : Int) ≤ (k : Int) := by omega
                have e5 : (k : Int) < (n.new.length : Int) := by omega
                have HK := Lib.hid hkn
                have HX := Lib.hid hx
                have HN := Lib.hid hN
                have HPA := Lib.hid hP
                have NO := Lib.hid (show ¬ (la < x ∧ x < (s.cells.length : Int)) → R = false from fun hno => by
                  rw [← HR.out]
                  refine decide_eq_false (fun h => hno ?_)
                  have h2 := h.2.2.1 k HK.out x HX.out
                  rw [HLA2.out] at h2
                  exact h2)
                have hTL := hP.tm
                clear hc hx hkn hN ok1 hP
                by_cases h1 : la < x
                · have h1n : ¬ x ≤ la := by omega
                  by_cases h2 : x < (s.cells.length : Int)
                  · have h2n : ¬ (s.cells.length : Int) ≤ x := by omega
                    obtain ⟨pn, rfl⟩ : ∃ pn : Nat, x = (pn : Int) := ⟨x.toNat, by omega⟩
                    have f2 : (pn : Int) < 8 := by omega
                    have f3 : (0 : Int) ≤ (pn : Int) := by omega
                    have HOK2 := Lib.hid (show ∀ q, q < k + 1 → newOk s.cells.length n.new q from fun q hq => by
                      by_cases e : q = k
                      · subst e
                        intro y hy
                        rw [HX.out] at hy
                        injection hy with hy
                        subst hy
                        rw [HLA2.out]
                        exact ⟨h1, h2⟩
                      · exact HN.out q (by omega))
                    obtain ⟨ct, hct⟩ : ∃ ct, (n.links.map Prod.fst ++ n.new.take k).count (pn : Int) = ct := ⟨_, rfl⟩
                    have hctl : ct ≤ n.links.length + k := by rw [← hct]; exact count_le _ _ _ (by simp; omega)
                    have tt := hTL.cell (tmL_at _ (show pn < 8 by omega))
                    rw [hct] at tt
                    have f4 := hTL.frozen pn
                    have f6 : IntKind.i64.wrap ((ct : Int) + 1) = (ct : Int) + 1 := IntWalk.i64_in _ (by have := HLB.out; omega)
                    have hput := HPA.out.putT pn (.int .i64 ((ct : Int) + 1))
                    rw [← hct, ← tmL_put _ (show pn < 8 by omega)] at hput
                    rw [hct] at hput
                    have hnx : n.links.map Prod.fst ++ n.new.take k ++ [(pn : Int)] = n.links.map Prod.fst ++ n.new.take (k + 1) := by
                      rw [List.take_add_one, HX.out, List.append_assoc]; rfl
                    rw [hnx] at hput
                    have HPUT := Lib.hid hput
                    have HNX := Lib.hid (lastF_next (f := id) HX.out)
                    clear hct hput hnx hTL
                    go_wp2_with fail
                    exact ⟨⟨k + 1, by go_num, by rw [HNX.out]; rfl, HK.out, HOK2.out, HPUT.out⟩, by simp [intOf]; have := HK.out; omega⟩
                  · have h2n : (s.cells.length : Int) ≤ x := by omega
                    have HF := Lib.hid (NO.out (fun h => h2 h.2))
                    clear h2 hTL
                    go_wp2
                    go_ret
                    exact ⟨by rw [HF.out]; rfl, T.out.all HPA.out.below⟩
                · have h1n : x ≤ la := by omega
                  have HF := Lib.hid (NO.out (fun h => h1 h.1))
                  clear h1 hTL
                  go_wp2
                  go_ret
                  exact ⟨by rw [HF.out]; rfl, T.out.all HPA.out.below⟩
              · obtain rfl : k = n.new.length := by omega
                simp only [List.take_length] at hP
                have HN := Lib.hid hN
                have HP2 := Lib.hid hP
                clear hN hP hkn hla
                go_wp2
                go_loopw [116] (fun kv wr => ∃ k : Nat, kv = .int .i64 k ∧ k ≤ s.cells.length ∧ (∀ q, q < k → cellOk s.cells (n.links.map Prod.fst ++ n.new) q) ∧ PS W2 wr (tmL (n.links.map Prod.fst ++ n.new)) (hdL (n.links.map Prod.snd))) (fun k _ => s.cells.length - (intOf k).toNat)
                case atStart => exact ⟨0, rfl, Nat.zero_le _, fun q hq => by omega, HP2.out⟩
                case round =>
                  obtain ⟨i, rfl, hi, hC, hP⟩ := hrel
                  clear HP2
                  by_cases hin : i < s.cells.length
                  · obtain ⟨c, hcx⟩ : ∃ c, s.cells[i]? = some c := ⟨_, List.getElem?_eq_getElem hin⟩
                    obtain ⟨lb, lo, cs, rfl, ⟨rfl, ok1⟩, hc⟩ := HSV.out.rd hcx
                    have c0 := hc _ (T.out.all hP.below) 0 _ rfl
                    simp only [Nat.add_zero, Nat.mul_one] at c0
                    have e4 : (0 : Int) ≤ (i : Int) := by omega
                    have e5 : (i : Int) < (s.cells.length : Int) := by omega
                    have e6 : (i : Int) < 8 := by omega
                    have e7 : IntKind.i64.wrap (-1 - (i : Int)) = -1 - (i : Int) := IntWalk.i64_in _ (by omega)
                    obtain ⟨ct, hct⟩ : ∃ ct, (n.links.map Prod.fst ++ n.new).count (i : Int) = ct := ⟨_, rfl⟩
                    have tt := hP.tm.cell (tmL_at _ (show i < 8 by omega))
                    rw [hct] at tt
                    have HI := Lib.hid hin
                    have HX := Lib.hid hcx
                    have HC := Lib.hid hC
                    have HP := Lib.hid hP
                    have HCT := Lib.hid hct
                    clear hc hcx hin hC hP ok1 hct
                    have NXT := Lib.hid (show ((ct : Int) = if c = -1 - (i : Int) then 1 else 0) → ∀ q, q < i + 1 → cellOk s.cells (n.links.map Prod.fst ++ n.new) q from fun h q hq => by
                      by_cases e : q = i
                      · subst e
                        intro y hy
                        rw [HX.out] at hy
                        injection hy with hy
                        subst hy
                        rw [HCT.out]
                        exact h
                      · exact HC.out q (by omega))
                    have NO := Lib.hid (show ¬ ((ct : Int) = if c = -1 - (i : Int) then 1 else 0) → R = false from fun hno => by
                      rw [← HR.out]
                      refine decide_eq_false (fun h => hno ?_)
                      have := h.2.2.2 i HI.out c HX.out
                      rw [HCT.out] at this
                      exact this)
                    by_cases hc1 : c = -1 - (i : Int)
                    · rw [if_pos hc1] at NXT NO
                      subst hc1
                      by_cases hc2 : ct = 1
                      · subst hc2
                        have HN2 := Lib.hid (NXT.out rfl)
                        clear NXT NO
                        go_wp2_with fail
                        exact ⟨⟨i + 1, by go_num, HI.out, HN2.out, HP.out⟩, by simp [intOf]; have := HI.out; omega⟩
                      · have hn : ¬ (ct : Int) = 1 := by omega
                        have hn2 : ((ct : Int) == 1) = false := by simpa using hn
                        have hn3 : ((ct : Int) != 1) = true := by simpa using hn
                        have HF := Lib.hid (NO.out hn)
                        clear NXT NO hc2
                        go_wp2
                        go_ret
                        exact ⟨by rw [HF.out]; rfl, T.out.all HP.out.below⟩
                    · rw [if_neg hc1] at NXT NO
                      have hc1b : (c == -1 - (i : Int)) = false := by simpa using hc1
                      by_cases hc2 : ct = 0
                      · subst hc2
                        have HN2 := Lib.hid (NXT.out rfl)
                        clear NXT NO
                        go_wp2_with fail
                        exact ⟨⟨i + 1, by go_num, HI.out, HN2.out, HP.out⟩, by simp [intOf]; have := HI.out; omega⟩
                      · have hn : ¬ (ct : Int) = 0 := by omega
                        have hn2 : ((ct : Int) == 0) = false := by simpa using hn
                        have hn3 : ((ct : Int) != 0) = true := by simpa using hn
                        have HF := Lib.hid (NO.out hn)
                        clear NXT NO hc2
                        go_wp2
                        go_ret
                        exact ⟨by rw [HF.out]; rfl, T.out.all HP.out.below⟩
                  · obtain rfl : i = s.cells.length := by omega
                    have HF := Lib.hid (show R = true by rw [← HR.out]; exact decide_eq_true ⟨HT.out, HO.out, HN.out, hC⟩)
                    have HB := Lib.hid (T.out.all hP.below)
                    clear hC hP hin
                    go_wp2
                    go_ret
                    exact ⟨by rw [HF.out]; rfl, HB.out⟩
      · have HF := Lib.hid (show R = false by rw [← HR.out]; exact decide_eq_false (fun h => t3 h.1.2.2))
        have t3n : (16 : Int) < n.width := by omega
        clear t1 t1d t3
        go_wp2
        go_ret
        exact ⟨by rw [HF.out]; rfl, T.out.all (Below.refl _ _)⟩
    · have HF := Lib.hid (show R = false by rw [← HR.out]; exact decide_eq_false (fun h => t2 h.1.2.1))
      clear t1 t1d
      go_wp2
      go_ret
      exact ⟨by rw [HF.out]; rfl, T.out.all (Below.refl _ _)⟩
  · have t1d : decide (n.test = noTst) = false := decide_eq_false t1
    simp only [noTst, noSlt] at t1d
    rw [t1d] at hne
    simp only [Bool.not_false] at hne
    have HF := Lib.hid (show R = false by rw [← HR.out]; exact decide_eq_false (fun h => t1 h.1.1))
    clear t1 t1d
    go_wp2
    go_ret
    exact ⟨by rw [HF.out]; rfl, T.out.all (Below.refl _ _)⟩
end Go.Proofs.Ytonkbjdeaneicaa

namespace Go.Proofs.Ytonkbjdeaneicaa
open Go.RowKit Pln Classical Go.Maps

theorem neq_lnk (a b : Int × Int) (w : World) : (binOp .neq 83 (.agg #[.int .i64 a.1, .int .i64 a.2]) (.agg #[.int .i64 b.1, .int .i64 b.2])).run Try.prog w = .ok (.bool (!decide (a = b))) w := by
  obtain ⟨a1, a2⟩ := a
  obtain ⟨b1, b2⟩ := b
  rw [show decide ((a1, a2) = (b1, b2)) = decide (a1 = b1 ∧ a2 = b2) from by simp only [Prod.mk.injEq]]
  by_cases h1 : a1 = b1
  · by_cases h2 : a2 = b2
    · simp [go_sem, h1, h2]
    · simp [go_sem, h1, h2]
  · simp [go_sem, h1]

set_option maxRecDepth 200000 in
set_option maxHeartbeats 8000000 in
theorem requalNodeW {F G : Nat → Prop} (w : World) (a b : Nd) (acs bcs : List Value) (lv mv lv' mv' : Value) (ha : ENd F w acs a lv mv) (hb : ENd G w bcs b lv' mv') :
    Calls Try.prog 35 #[.agg #[.int .i64 a.kind, .int .i64 a.parent, .int .i64 a.alpha, lv, mv, .int .i64 a.test.op, .bool a.test.l.v, .int .i64 a.test.l.n, .bool a.test.r.v, .int .i64 a.test.r.n, .int .i64 a.width], .agg #[.int .i64 b.kind, .int .i64 b.parent, .int .i64 b.alpha, lv', mv', .int .i64 b.test.op, .bool b.test.l.v, .int .i64 b.test.l.n, .bool b.test.r.v, .int .i64 b.test.r.n, .int .i64 b.width]] w fun e w' => e = .returned (.bool (decide (a = b))) ∧ Below w.heap.size w w' := by
  have EQ := Lib.hid (fun (Wx : World) (hx : Below w.heap.size w Wx) => requalIntsW mv mv' a.new b.new Wx (ha.new.keep (Kp.of_below hx)) (hb.new.keep (Kp.of_below hx)))
  have HL := Lib.hid ha.links
  have HL' := Lib.hid hb.links
  obtain ⟨Al, cl, rfl⟩ := ha.links.form
  obtain ⟨Am, cm, rfl⟩ := ha.new.form
  obtain ⟨Bl, dl, rfl⟩ := hb.links.form
  obtain ⟨Bm, dm, rfl⟩ := hb.new.form
  have hll := ha.links.len
  have hll' := hb.links.len
  unfold maxLen at hll hll'
  clear ha hb
  obtain ⟨R, hR⟩ : ∃ R, decide (a = b) = R := ⟨_, rfl⟩
  rw [hR]
  have HR := Lib.hid hR
  have NO := Lib.hid (show ¬ a = b → R = false from fun h => by rw [← hR]; exact decide_eq_false h)
  clear hR
  have T := Lib.hid (two w #[.int .i64 a.kind, .int .i64 a.parent, .int .i64 a.alpha, .slice Al a.links.length cl, .slice Am a.new.length cm, .int .i64 a.test.op, .bool a.test.l.v, .int .i64 a.test.l.n, .bool a.test.r.v, .int .i64 a.test.r.n, .int .i64 a.width] #[.int .i64 b.kind, .int .i64 b.parent, .int .i64 b.alpha, .slice Bl b.links.length dl, .slice Bm b.new.length dm, .int .i64 b.test.op, .bool b.test.l.v, .int .i64 b.test.l.n, .bool b.test.r.v, .int .i64 b.test.r.n, .int .i64 b.width] 54 54)
  go_enter Try.func35, Try.ntmps35
  go_upto_region 1 with fail
  obtain ⟨W2, hW2⟩ : ∃ W2, W2 = ((w.alloc (.cells #[.int .i64 a.kind, .int .i64 a.parent, .int .i64 a.alpha, .slice Al a.links.length cl, .slice Am a.new.length cm, .int .i64 a.test.op, .bool a.test.l.v, .int .i64 a.test.l.n, .bool a.test.r.v, .int .i64 a.test.r.n, .int .i64 a.width] 54)).alloc (.cells #[.int .i64 b.kind, .int .i64 b.parent, .int .i64 b.alpha, .slice Bl b.links.length dl, .slice Bm b.new.length dm, .int .i64 b.test.op, .bool b.test.l.v, .int .i64 b.test.l.n, .bool b.test.r.v, .int .i64 b.test.r.n, .int .i64 b.width] 54)) := ⟨_, rfl⟩
  rw [← hW2] at T ⊢
  clear hW2
  have hD := Below.refl W2.heap.size W2
  have p0 := T.out.ca hD 0 rfl
  have p1 := T.out.ca hD 1 rfl
  have p2 := T.out.ca hD 2 rfl
  have p3 := T.out.ca hD 3 rfl
  have p4 := T.out.ca hD 4 rfl
  have p5 := T.out.ca hD 5 rfl
  have p6 := T.out.ca hD 6 rfl
  have p7 := T.out.ca hD 7 rfl
  have p8 := T.out.ca hD 8 rfl
  have p9 := T.out.ca hD 9 rfl
  have p10 := T.out.ca hD 10 rfl
  have q0 := T.out.cb hD 0 rfl
  have q1 := T.out.cb hD 1 rfl
  have q2 := T.out.cb hD 2 rfl
  have q3 := T.out.cb hD 3 rfl
  have q4 := T.out.cb hD 4 rfl
  have q5 := T.out.cb hD 5 rfl
  have q6 := T.out.cb hD 6 rfl
  have q7 := T.out.cb hD 7 rfl
  have q8 := T.out.cb hD 8 rfl
  have q9 := T.out.cb hD 9 rfl
  have q10 := T.out.cb hD 10 rfl
  have hne := fun W => neq_tst a.test b.test W
  clear hD
  by_cases c1 : a.parent = b.parent
  · have Hc1 := Lib.hid c1
    rw [← c1] at q1
    clear c1
    by_cases c2 : a.kind = b.kind
    · have Hc2 := Lib.hid c2
      rw [← c2] at q0
      clear c2
      by_cases c3 : a.alpha = b.alpha
      · have Hc3 := Lib.hid c3
        rw [← c3] at q2
        clear c3
        by_cases c4 : a.width = b.width
        · have Hc4 := Lib.hid c4
          rw [← c4] at q10
          clear c4
          by_cases c5 : a.test = b.test
          · have Hc5 := Lib.hid c5
            rw [decide_eq_true c5] at hne
            simp only [Bool.not_true] at hne
            clear c5
            by_cases c6 : a.links.length = b.links.length
            · have Hc6 := Lib.hid c6
              rw [← c6] at q3
              have E1 := Lib.hid (EQ.out W2 T.out.below)
              clear c6
              go_wp2_with fail
              refine E1.out.mono ?_
              rintro e w3 ⟨rfl, hb3⟩
              have HB3 := Lib.hid hb3
              have HBW := Lib.hid (T.out.all hb3)
              clear hb3 E1 p0 p1 p2 p3 p4 p5 p6 p7 p8 p9 p10 q0 q1 q2 q3 q4 q5 q6 q7 q8 q9 q10 hne
              by_cases c7 : a.new = b.new
              · rw [eqB_eq c7]
                have Hc7 := Lib.hid c7
                clear c7
                go_wp2
                go_loopw [5] (fun i wr => ∃ k : Nat, i = .int .i64 k ∧ k ≤ a.links.length ∧ (∀ i, i < k → a.links[i]? = b.links[i]?) ∧ Below w3.heap.size w3 wr) (fun i _ => a.links.length - (intOf i).toNat)
                case atStart => exact ⟨0, rfl, Nat.zero_le _, fun i h => by omega, Below.refl _ _⟩
                case round =>
                  obtain ⟨k, rfl, hk, hq, hb⟩ := hrel
                  have hB2 := HB3.out.trans (hb.mono HB3.out.size)
                  have p3 := T.out.ca hB2 3 rfl
                  have q3 := T.out.cb hB2 3 rfl
                  by_cases hkn : k < a.links.length
                  · obtain ⟨x, hx⟩ : ∃ x, a.links[k]? = some x := ⟨_, List.getElem?_eq_getElem hkn⟩
                    obtain ⟨y, hy⟩ : ∃ y, b.links[k]? = some y := ⟨_, List.getElem?_eq_getElem (by have := Hc6.out; omega)⟩
                    obtain ⟨b1, o1, cs1, rfl, ⟨rfl, _⟩, hc1⟩ := HL.out.rd hx
                    obtain ⟨b2, o2, cs2, rfl, ⟨rfl, _⟩, hc2⟩ := HL'.out.rd hy
                    have d0 := hc1 _ (T.out.all hB2) 0 _ rfl
                    have d1 := hc1 _ (T.out.all hB2) 1 _ rfl
                    have f0 := hc2 _ (T.out.all hB2) 0 _ rfl
                    have f1 := hc2 _ (T.out.all hB2) 1 _ rfl
                    simp only [Nat.add_zero] at d0 f0
                    have hne := fun W => neq_lnk x y W
                    have e1 : (0 : Int) ≤ (k : Int) := by omega
                    have e2 : (k : Int) < (a.links.length : Int) := by omega
                    have e3 : (k : Int) < (b.links.length : Int) := by have := Hc6.out; omega
                    have HX := Lib.hid hx
                    have HY := Lib.hid hy
                    have HQ := Lib.hid hq
                    have HK := Lib.hid hkn
                    have HB := Lib.hid hb
                    clear hc1 hc2 hx hy hq hkn hb hB2
                    by_cases hxy : x = y
                    · rw [decide_eq_true hxy] at hne
                      simp only [Bool.not_true] at hne
                      have HQ2 := Lib.hid (show ∀ i, i < k + 1 → a.links[i]? = b.links[i]? from fun i hi => by
                        rcases Nat.lt_or_ge i k with h1 | h1
                        · exact HQ.out i h1
                        · rw [show i = k by omega, HX.out, HY.out, hxy])
                      clear hxy
                      go_wp2
                      go_quiet (fail)
                      have HB2 := Lib.hid (below_drewN HB.out nq)
                      go_wp2
                      exact ⟨⟨k + 1, by go_num, HK.out, HQ2.out, HB2.out⟩, by simp [intOf]; have := HK.out; omega⟩
                    · rw [decide_eq_false hxy] at hne
                      simp only [Bool.not_false] at hne
                      have HF := Lib.hid (NO.out (fun h => hxy (by
                        have h1 := HX.out
                        rw [h, HY.out] at h1
                        exact (Option.some.inj h1).symm)))
                      clear hxy
                      go_wp2
                      go_quiet (fail)
                      have HB2 := Lib.hid (below_drewN HB.out nq)
                      go_wp2
                      go_ret
                      exact ⟨by rw [HF.out]; rfl, HBW.out.trans (HB2.out.mono HBW.out.size)⟩
                  · obtain rfl : k = a.links.length := by omega
                    have HF := Lib.hid (show R = true by
                      rw [← HR.out]
                      refine decide_eq_true ?_
                      have h1 := Hc1.out
                      have h2 := Hc2.out
                      have h3 := Hc3.out
                      have h4 := Hc4.out
                      have h5 := Hc5.out
                      have h7 := Hc7.out
                      have h6 : a.links = b.links := list_eq Hc6.out hq
                      obtain ⟨_, _, _, _, _, _, _⟩ := a
                      obtain ⟨_, _, _, _, _, _, _⟩ := b
                      simp only at h1 h2 h3 h4 h5 h6 h7
                      subst h1 h2 h3 h4 h5 h6 h7
                      rfl)
                    have HB := Lib.hid (T.out.all hB2)
                    clear hq hkn hb hB2
                    go_wp2
                    go_ret
                    exact ⟨by rw [HF.out]; rfl, HB.out⟩
              · rw [eqB_ne c7]
                have HF := Lib.hid (NO.out (fun h => c7 (by rw [h])))
                clear c7
                go_wp2
                go_ret
                exact ⟨by rw [HF.out]; rfl, HBW.out⟩
            · have HF := Lib.hid (NO.out (fun h => c6 (by rw [h])))
              have d1 : ((a.links.length : Int) != (b.links.length : Int)) = true := by simp; omega
              have d2 : ((a.links.length : Int) == (b.links.length : Int)) = false := by simp; omega
              clear c6
              go_wp2
              go_ret
              exact ⟨by rw [HF.out]; rfl, T.out.below⟩
          · rw [decide_eq_false c5] at hne
            simp only [Bool.not_false] at hne
            have HF := Lib.hid (NO.out (fun h => c5 (by rw [h])))
            clear c5
            go_wp2
            go_ret
            exact ⟨by rw [HF.out]; rfl, T.out.below⟩
        · have HF := Lib.hid (NO.out (fun h => c4 (by rw [h])))
          have d1 : (a.width != b.width) = true := by simpa using c4
          have d2 : (a.width == b.width) = false := by simpa using c4
          clear c4
          go_wp2
          go_ret
          exact ⟨by rw [HF.out]; rfl, T.out.below⟩
      · have HF := Lib.hid (NO.out (fun h => c3 (by rw [h])))
        have d1 : (a.alpha != b.alpha) = true := by simpa using c3
        have d2 : (a.alpha == b.alpha) = false := by simpa using c3
        clear c3
        go_wp2
        go_ret
        exact ⟨by rw [HF.out]; rfl, T.out.below⟩
    · have HF := Lib.hid (NO.out (fun h => c2 (by rw [h])))
      have d1 : (a.kind != b.kind) = true := by simpa using c2
      have d2 : (a.kind == b.kind) = false := by simpa using c2
      clear c2
      go_wp2
      go_ret
      exact ⟨by rw [HF.out]; rfl, T.out.below⟩
  · have HF := Lib.hid (NO.out (fun h => c1 (by rw [h])))
    have d1 : (a.parent != b.parent) = true := by simpa using c1
    have d2 : (a.parent == b.parent) = false := by simpa using c1
    clear c1
    go_wp2
    go_ret
    exact ⟨by rw [HF.out]; rfl, T.out.below⟩
end Go.Proofs.Ytonkbjdeaneicaa

namespace Go.Proofs.Ytonkbjdeaneicaa
open Go.RowKit Pln Classical Go.Maps

theorem infoShpR : (Try.prog.info? 79).map (fun i => (i.zero, i.size, i.bytes)) = some (some (.agg #[.int .i64 0, .slice none 0 0]), 2, 32) := by kernel_rfl
theorem infoNdR : (Try.prog.info? 54).map (fun i => (i.zero, i.size, i.bytes)) = some (some (.agg #[.int .i64 0, .int .i64 0, .int .i64 0, .slice none 0 0, .slice none 0 0, .int .i64 0, .bool false, .int .i64 0, .bool false, .int .i64 0, .int .i64 0]), 11, 120) := by kernel_rfl
def rfoot (g : Nat) (av nv ev : Value) : List Nat := g :: (av.ownBlock.toList ++ (nv.ownBlock.toList ++ ev.ownBlock.toList))
structure RMkAt (base g : Nat) (W : World) (av nv ev : Value) (st : St) (es : List Nat) : Prop where
  blk : W.heap[g]? = some (.cells #[av, nv, ev] 65 (0, 0))
  al : OwnF (Off base (rfoot g av nv ev)) base W 79 cdShp av st.al
  ns : OwnF (Off base (rfoot g av nv ev)) base W 54 cdNd nv st.ns
  en : OwnF (Off base (rfoot g av nv ev)) base W 3 cdInt ev (es.map fun (e : Nat) => (e : Int))
  gb : base ≤ g
section
variable {base g : Nat} {W W' : World} {av nv ev : Value} {st : St} {es : List Nat}
theorem rfoot_g : g ∈ rfoot g av nv ev := by simp [rfoot]
theorem RMkAt.lt (h : RMkAt base g W av nv ev st es) : g < W.heap.size := lt_of_heap h.blk
theorem RMkAt.step (h : RMkAt base g W av nv ev st es) (hb : Below W.heap.size W W') : RMkAt base g W' av nv ev st es :=
  ⟨(hb.block _ h.lt).trans h.blk, h.al.below hb, h.ns.below hb, h.en.below hb, h.gb⟩
theorem RMkAt.cell (h : RMkAt base g W av nv ev st es) (j : Nat) {u : Value} (hu : (#[av, nv, ev] : Array Value).toList[j]? = some u) : W.cell? ⟨g, j, none⟩ = some u := rboxL h.blk j hu
theorem RMkAt.fz (h : RMkAt base g W av nv ev st es) (o : Nat) : W.frozen? ⟨g, o, none⟩ = false := by
  have := h.blk
  simp [World.frozen?, this]
theorem RMkAt.foot_lt (h : RMkAt base g W av nv ev st es) : ∀ x ∈ rfoot g av nv ev, base ≤ x ∧ x < W.heap.size := by
  intro x hx
  simp only [rfoot, List.mem_cons, List.mem_append, Option.mem_toList] at hx
  rcases hx with rfl | hx | hx | hx
  · exact ⟨h.gb, h.lt⟩
  · exact ⟨(h.al.block hx).1, (h.al.block hx).2.1⟩
  · exact ⟨(h.ns.block hx).1, (h.ns.block hx).2.1⟩
  · exact ⟨(h.en.block hx).1, (h.en.block hx).2.1⟩
theorem ROff_new (h : RMkAt base g W av nv ev st es) {b : Nat} (hb : W.heap.size ≤ b) : Off base (rfoot g av nv ev) b :=
  ⟨by have := (h.foot_lt g rfoot_g); omega, fun hm => by have := (h.foot_lt b hm).2; omega⟩
/-- The blocks differ, by what lies in them. -/
theorem RMkAt.apart (h : RMkAt base g W av nv ev st es) : (∀ b, av.ownBlock = some b → b ≠ g ∧ nv.ownBlock ≠ some b ∧ ev.ownBlock ≠ some b) ∧ (∀ b, nv.ownBlock = some b → b ≠ g ∧ ev.ownBlock ≠ some b) ∧ (∀ b, ev.ownBlock = some b → b ≠ g) := by
  have hg := h.blk
  refine ⟨?_, ?_, ?_⟩
  · intro b hb
    obtain ⟨_, _, c1, h1⟩ := h.al.block hb
    refine ⟨?_, ?_, ?_⟩
    · rintro rfl
      rw [hg] at h1
      simp at h1
    · intro h2
      obtain ⟨_, _, c2, h3⟩ := h.ns.block h2
      rw [h1] at h3
      simp at h3
    · intro h2
      obtain ⟨_, _, c2, h3⟩ := h.en.block h2
      rw [h1] at h3
      simp at h3
  · intro b hb
    obtain ⟨_, _, c1, h1⟩ := h.ns.block hb
    refine ⟨?_, ?_⟩
    · rintro rfl
      rw [hg] at h1
      simp at h1
    · intro h2
      obtain ⟨_, _, c2, h3⟩ := h.en.block h2
      rw [h1] at h3
      simp at h3
  · intro b hb
    obtain ⟨_, _, c1, h1⟩ := h.en.block hb
    rintro rfl
    rw [hg] at h1
    simp at h1
end
theorem RMkAt.grow_al {base g : Nat} {wd w3 : World} {av nv ev : Value} {st : St} {es : List Nat} {x : Shp} (h : RMkAt base g wd av nv ev st es) {g' cap : Nat}
    (ho : ∀ F' : Nat → Prop, (∀ b, b < wd.heap.size → Off base (rfoot g av nv ev) b → F' b) → OwnF F' base w3 79 cdShp (.slice (some ⟨g', 0, none⟩) (st.al.length + 1) cap) (st.al ++ [x]))
    (ht : Turns av.ownBlock.toList wd w3) (hat : av.ownBlock = some g' ∨ wd.heap.size ≤ g') :
    RMkAt base g (w3.setCell ⟨g, 0, none⟩ (.slice (some ⟨g', 0, none⟩) (st.al.length + 1) cap)) (.slice (some ⟨g', 0, none⟩) (st.al.length + 1) cap) nv ev ⟨st.al ++ [x], st.ns⟩ es ∧ Turns (rfoot g av nv ev) wd (w3.setCell ⟨g, 0, none⟩ (.slice (some ⟨g', 0, none⟩) (st.al.length + 1) cap)) ∧ ∀ b ∈ rfoot g (.slice (some ⟨g', 0, none⟩) (st.al.length + 1) cap) nv ev, b ∈ rfoot g av nv ev ∨ wd.heap.size ≤ b := by
  obtain ⟨a1, a2, a3⟩ := h.apart
  have hg : g ∉ av.ownBlock.toList := fun hm => (a1 g (by simpa using hm)).1 rfl
  have hgn : g' ≠ g := by
    rcases hat with h1 | h1
    · exact (a1 g' h1).1
    · have := h.lt; omega
  have T : Turns (g :: av.ownBlock.toList) wd (w3.setCell ⟨g, 0, none⟩ (.slice (some ⟨g', 0, none⟩) (st.al.length + 1) cap)) := (ht.mono (by simp +contextual)).setCell (.inl (by simp)) _
  have hoff : ∀ b ∈ g :: av.ownBlock.toList, ¬ Off base (rfoot g av nv ev) b := by
    intro b hb hf
    refine hf.2 ?_
    simp only [rfoot, List.mem_cons, List.mem_append] at hb ⊢
    rcases hb with hb | hb
    · exact .inl hb
    · exact .inr (.inl hb)
  have hmem : ∀ b, b ∈ rfoot g (.slice (some ⟨g', 0, none⟩) (st.al.length + 1) cap) nv ev → b ∈ rfoot g av nv ev ∨ wd.heap.size ≤ b := by
    intro b hm
    simp only [rfoot, List.mem_cons, List.mem_append, Option.mem_toList] at hm ⊢
    rcases hm with hm | hm | hm | hm
    · exact .inl (.inl hm)
    · have e : g' = b := by simpa [Value.ownBlock] using hm
      rcases hat with h3 | h3
      · exact .inl (.inr (.inl (by rw [← e]; exact h3)))
      · exact .inr (by omega)
    · exact .inl (.inr (.inr (.inl hm)))
    · exact .inl (.inr (.inr (.inr hm)))
  have hFF : ∀ b, b < wd.heap.size → Off base (rfoot g av nv ev) b → Off base (rfoot g (.slice (some ⟨g', 0, none⟩) (st.al.length + 1) cap) nv ev) b := by
    rintro b hlt ⟨h1, h2⟩
    refine ⟨h1, fun hm => ?_⟩
    rcases hmem b hm with h3 | h3
    · exact h2 h3
    · omega
  refine ⟨⟨?_, ?_, ?_, ?_, h.gb⟩, T.mono (fun b hb => ?_), hmem⟩
  · exact heap_setCell_same _ _ 0 _ _ _ ((ht.block g h.lt hg).trans h.blk)
  · exact (ho _ hFF).keep (S := [g]) ((Turns.refl _ _).setCell (.inl (by simp)) _) (fun b hb hm => by
      have e : g' = b := by simpa [Value.ownBlock] using hb
      simp only [List.mem_singleton] at hm
      omega) (fun b hb hf => hf.2 (by simp only [List.mem_singleton] at hb; simp [rfoot, hb])) (fun _ _ h => h)
  · exact h.ns.keep T (fun b hb hm => by
      simp only [List.mem_cons, Option.mem_toList] at hm
      rcases hm with hm | hm
      · exact (a2 b hb).1 hm
      · exact (a1 b hm).2.1 hb) hoff hFF
  · exact h.en.keep T (fun b hb hm => by
      simp only [List.mem_cons, Option.mem_toList] at hm
      rcases hm with hm | hm
      · exact a3 b hb hm
      · exact (a1 b hm).2.2 hb) hoff hFF
  · simp only [rfoot, List.mem_cons, List.mem_append] at hb ⊢
    rcases hb with hb | hb
    · exact .inl hb
    · exact .inr (.inl hb)
theorem RMkAt.grow_ns {base g : Nat} {wd w3 : World} {av nv ev : Value} {st : St} {es : List Nat} {x : Nd} (h : RMkAt base g wd av nv ev st es) {g' cap : Nat}
    (ho : ∀ F' : Nat → Prop, (∀ b, b < wd.heap.size → Off base (rfoot g av nv ev) b → F' b) → OwnF F' base w3 54 cdNd (.slice (some ⟨g', 0, none⟩) (st.ns.length + 1) cap) (st.ns ++ [x]))
    (ht : Turns nv.ownBlock.toList wd w3) (hat : nv.ownBlock = some g' ∨ wd.heap.size ≤ g') :
    RMkAt base g (w3.setCell ⟨g, 1, none⟩ (.slice (some ⟨g', 0, none⟩) (st.ns.length + 1) cap)) av (.slice (some ⟨g', 0, none⟩) (st.ns.length + 1) cap) ev ⟨st.al, st.ns ++ [x]⟩ es ∧ Turns (rfoot g av nv ev) wd (w3.setCell ⟨g, 1, none⟩ (.slice (some ⟨g', 0, none⟩) (st.ns.length + 1) cap)) ∧ ∀ b ∈ rfoot g av (.slice (some ⟨g', 0, none⟩) (st.ns.length + 1) cap) ev, b ∈ rfoot g av nv ev ∨ wd.heap.size ≤ b := by
  obtain ⟨a1, a2, a3⟩ := h.apart
  have hg : g ∉ nv.ownBlock.toList := fun hm => (a2 g (by simpa using hm)).1 rfl
  have hgn : g' ≠ g := by
    rcases hat with h1 | h1
    · exact (a2 g' h1).1
    · have := h.lt; omega
  have T : Turns (g :: nv.ownBlock.toList) wd (w3.setCell ⟨g, 1, none⟩ (.slice (some ⟨g', 0, none⟩) (st.ns.length + 1) cap)) := (ht.mono (by simp +contextual)).setCell (.inl (by simp)) _
  have hoff : ∀ b ∈ g :: nv.ownBlock.toList, ¬ Off base (rfoot g av nv ev) b := by
    intro b hb hf
    refine hf.2 ?_
    simp only [rfoot, List.mem_cons, List.mem_append] at hb ⊢
    rcases hb with hb | hb
    · exact .inl hb
    · exact .inr (.inr (.inl hb))
  have hmem : ∀ b, b ∈ rfoot g av (.slice (some ⟨g', 0, none⟩) (st.ns.length + 1) cap) ev → b ∈ rfoot g av nv ev ∨ wd.heap.size ≤ b := by
    intro b hm
    simp only [rfoot, List.mem_cons, List.mem_append, Option.mem_toList] at hm ⊢
    rcases hm with hm | hm | hm | hm
    · exact .inl (.inl hm)
    · exact .inl (.inr (.inl hm))
    · have e : g' = b := by simpa [Value.ownBlock] using hm
      rcases hat with h3 | h3
      · exact .inl (.inr (.inr (.inl (by rw [← e]; exact h3))))
      · exact .inr (by omega)
    · exact .inl (.inr (.inr (.inr hm)))
  have hFF : ∀ b, b < wd.heap.size → Off base (rfoot g av nv ev) b → Off base (rfoot g av (.slice (some ⟨g', 0, none⟩) (st.ns.length + 1) cap) ev) b := by
    rintro b hlt ⟨h1, h2⟩
    refine ⟨h1, fun hm => ?_⟩
    rcases hmem b hm with h3 | h3
    · exact h2 h3
    · omega
  refine ⟨⟨?_, ?_, ?_, ?_, h.gb⟩, T.mono (fun b hb => ?_), hmem⟩
  · exact heap_setCell_same _ _ 1 _ _ _ ((ht.block g h.lt hg).trans h.blk)
  · exact h.al.keep T (fun b hb hm => by
      simp only [List.mem_cons, Option.mem_toList] at hm
      rcases hm with hm | hm
      · exact (a1 b hb).1 hm
      · exact (a1 b hb).2.1 hm) hoff hFF
  · exact (ho _ hFF).keep (S := [g]) ((Turns.refl _ _).setCell (.inl (by simp)) _) (fun b hb hm => by
      have e : g' = b := by simpa [Value.ownBlock] using hb
      simp only [List.mem_singleton] at hm
      omega) (fun b hb hf => hf.2 (by simp only [List.mem_singleton] at hb; simp [rfoot, hb])) (fun _ _ h => h)
  · exact h.en.keep T (fun b hb hm => by
      simp only [List.mem_cons, Option.mem_toList] at hm
      rcases hm with hm | hm
      · exact a3 b hb hm
      · exact (a2 b hm).2 hb) hoff hFF
  · simp only [rfoot, List.mem_cons, List.mem_append] at hb ⊢
    rcases hb with hb | hb
    · exact .inl hb
    · exact .inr (.inr (.inl hb))
theorem RMkAt.grow_en {base g : Nat} {wd w3 : World} {av nv ev : Value} {st : St} {es : List Nat} {x : Nat} (h : RMkAt base g wd av nv ev st es) {g' cap : Nat}
    (ho : ∀ F' : Nat → Prop, (∀ b, b < wd.heap.size → Off base (rfoot g av nv ev) b → F' b) → OwnF F' base w3 3 cdInt (.slice (some ⟨g', 0, none⟩) ((es.map fun (e : Nat) => (e : Int)).length + 1) cap) ((es.map fun (e : Nat) => (e : Int)) ++ [(x : Int)]))
    (ht : Turns ev.ownBlock.toList wd w3) (hat : ev.ownBlock = some g' ∨ wd.heap.size ≤ g') :
    RMkAt base g (w3.setCell ⟨g, 2, none⟩ (.slice (some ⟨g', 0, none⟩) ((es.map fun (e : Nat) => (e : Int)).length + 1) cap)) av nv (.slice (some ⟨g', 0, none⟩) ((es.map fun (e : Nat) => (e : Int)).length + 1) cap) st (es ++ [x]) ∧ Turns (rfoot g av nv ev) wd (w3.setCell ⟨g, 2, none⟩ (.slice (some ⟨g', 0, none⟩) ((es.map fun (e : Nat) => (e : Int)).length + 1) cap)) ∧ ∀ b ∈ rfoot g av nv (.slice (some ⟨g', 0, none⟩) ((es.map fun (e : Nat) => (e : Int)).length + 1) cap), b ∈ rfoot g av nv ev ∨ wd.heap.size ≤ b := by
  obtain ⟨a1, a2, a3⟩ := h.apart
  have hg : g ∉ ev.ownBlock.toList := fun hm => a3 g (by simpa using hm) rfl
  have hgn : g' ≠ g := by
    rcases hat with h1 | h1
    · exact a3 g' h1
    · have := h.lt; omega
  have T : Turns (g :: ev.ownBlock.toList) wd (w3.setCell ⟨g, 2, none⟩ (.slice (some ⟨g', 0, none⟩) ((es.map fun (e : Nat) => (e : Int)).length + 1) cap)) := (ht.mono (by simp +contextual)).setCell (.inl (by simp)) _
  have hoff : ∀ b ∈ g :: ev.ownBlock.toList, ¬ Off base (rfoot g av nv ev) b := by
    intro b hb hf
    refine hf.2 ?_
    simp only [rfoot, List.mem_cons, List.mem_append] at hb ⊢
    rcases hb with hb | hb
    · exact .inl hb
    · exact .inr (.inr (.inr hb))
  have hmem : ∀ b, b ∈ rfoot g av nv (.slice (some ⟨g', 0, none⟩) ((es.map fun (e : Nat) => (e : Int)).length + 1) cap) → b ∈ rfoot g av nv ev ∨ wd.heap.size ≤ b := by
    intro b hm
    simp only [rfoot, List.mem_cons, List.mem_append, Option.mem_toList] at hm ⊢
    rcases hm with hm | hm | hm | hm
    · exact .inl (.inl hm)
    · exact .inl (.inr (.inl hm))
    · exact .inl (.inr (.inr (.inl hm)))
    · have e : g' = b := by simpa [Value.ownBlock] using hm
      rcases hat with h3 | h3
      · exact .inl (.inr (.inr (.inr (by rw [← e]; exact h3))))
      · exact .inr (by omega)
  have hFF : ∀ b, b < wd.heap.size → Off base (rfoot g av nv ev) b → Off base (rfoot g av nv (.slice (some ⟨g', 0, none⟩) ((es.map fun (e : Nat) => (e : Int)).length + 1) cap)) b := by
    rintro b hlt ⟨h1, h2⟩
    refine ⟨h1, fun hm => ?_⟩
    rcases hmem b hm with h3 | h3
    · exact h2 h3
    · omega
  refine ⟨⟨?_, ?_, ?_, ?_, h.gb⟩, T.mono (fun b hb => ?_), hmem⟩
  · exact heap_setCell_same _ _ 2 _ _ _ ((ht.block g h.lt hg).trans h.blk)
  · exact h.al.keep T (fun b hb hm => by
      simp only [List.mem_cons, Option.mem_toList] at hm
      rcases hm with hm | hm
      · exact (a1 b hb).1 hm
      · exact (a1 b hb).2.2 hm) hoff hFF
  · exact h.ns.keep T (fun b hb hm => by
      simp only [List.mem_cons, Option.mem_toList] at hm
      rcases hm with hm | hm
      · exact (a2 b hb).1 hm
      · exact (a2 b hb).2 hm) hoff hFF
  · rw [List.map_append]
    exact (ho _ hFF).keep (S := [g]) ((Turns.refl _ _).setCell (.inl (by simp)) _) (fun b hb hm => by
      have e : g' = b := by simpa [Value.ownBlock] using hb
      simp only [List.mem_singleton] at hm
      omega) (fun b hb hf => hf.2 (by simp only [List.mem_singleton] at hb; simp [rfoot, hb])) (fun _ _ h => h)
  · simp only [rfoot, List.mem_cons, List.mem_append] at hb ⊢
    rcases hb with hb | hb
    · exact .inl hb
    · exact .inr (.inr (.inr hb))
/-- A maker of the reference's, its blocks S; what a call on it leaves. -/
def RMkr (base g : Nat) (W : World) (S : List Nat) (st : St) (es : List Nat) : Prop := ∃ av nv ev, S = rfoot g av nv ev ∧ RMkAt base g W av nv ev st es
def RMkrTo (base g : Nat) (W : World) (S : List Nat) (st : St) (es : List Nat) (W' : World) : Prop := ∃ S', RMkr base g W' S' st es ∧ Turns S W W' ∧ ∀ b ∈ S', b ∈ S ∨ W.heap.size ≤ b
end Go.Proofs.Ytonkbjdeaneicaa
