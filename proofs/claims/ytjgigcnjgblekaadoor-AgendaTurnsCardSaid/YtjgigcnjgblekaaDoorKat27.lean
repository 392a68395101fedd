/- fires: the act that a pick means fires, once. The walk. -/
import Derived.Test.YtjgigcnjgblekaaDoorKat09
import Derived.Test.YtjgigcnjgblekaaDoorKat26
namespace Go.Proofs.YtjgigcnjgblekaaDoor
open Go Go.RowKit Go.Maps Classical

theorem elig_mem {g : Agd} {a : Ac} (h : a ∈ eligA g) : a ∈ g.C ∧ a ∉ g.D ∧ lvl g.lv a = strA g := by
  have h2 := (sortA_perm g.cs _).mem_iff.1 (show a ∈ sortA g.cs _ from h)
  obtain ⟨h3, h4⟩ := List.mem_filter.1 h2
  obtain ⟨h5, h6⟩ := mem_open.1 h3
  exact ⟨h5, h6, of_decide_eq_true h4⟩
theorem fire_elig {g : Agd} {a : Ac} (hok : AgOk g) (h : a ∈ eligA g) : fireF g a = (0, { g with D := g.D ++ [a] }) := by
  obtain ⟨h1, h2, h3⟩ := elig_mem h
  exact fir_go (hok.ownC a h1) h2 h1 (by omega)
theorem inB_snoc {D : List Ac} {a : Ac} (ha : a ∈ all21) {k : Nat} (hk : k < 21) : (if k = numA a then true else inB D k) = inB (D ++ [a]) k := by
  unfold inB
  by_cases e : k = numA a
  · rw [if_pos e, e, (numA_act ha).2]
    simp
  · rw [if_neg e]
    refine decide_eq_decide.2 ?_
    rw [List.mem_append]
    constructor
    · exact fun h => .inl h
    · rintro (h | h)
      · exact h
      · exfalso
        have := List.mem_singleton.1 h
        rw [← this, num_act hk] at e
        exact e rfl
/-- An act fires: the book follows. -/
theorem TuS.fired {a b c : Int} {M : List Nat} {p mc mf q N N' : Nat} {C D : List Ac} {w w' w'' : World} {x : Ac} (h : TuS a b c M p mc mf q N C D w) (hx : x ∈ all21) (hq : w' = w.setCell ⟨q, 21 + numA x, none⟩ (.bool true))
    (hA : AgAt M w'' p mc mf ⟨lv3 a b c, fourL, C, D ++ [x]⟩ N') (T : Turns [mf] w' w'') : TuS a b c M p mc mf q N' C (D ++ [x]) w'' := by
  subst hq
  have h1 := (h.bk.setF (numA_act hx).1 true).congr (I' := inB C) (Fd' := inB (D ++ [x])) (fun _ _ => rfl) (fun k hk => inB_snoc hx hk)
  refine ⟨hA, h1.turns T (fun hm => h.qM.2.2 (List.mem_singleton.1 hm)), h.hC, fun y hy => ?_, fun y hy => ?_, h.qM⟩
  · rcases List.mem_append.1 hy with hy | hy
    · exact h.hD y hy
    · rw [List.mem_singleton.1 hy]; exact hx
  · have := h.ML y hy
    have h2 := T.size
    simp at h2
    omega
/-- A list of one act. -/
theorem one_act {F : Nat → Prop} {w : World} {H : Nat} {x : Ac} {sv : Value} {T : TypeId} (h : w.heap[H]? = some (.cells #[.int .i64 x.rule, sv] T (0, 0))) (hF : F H) (hok : i64ok x.rule) (hs : RSl F w 1 EInt sv x.sub) : RSl F w 2 (EAc F w) (.slice (some ⟨H, 0, none⟩) 1 1) [x] := by
  refine ⟨some ⟨H, 0, none⟩, 1, rfl, Nat.le_refl _, by unfold maxLen; decide, (fun h => by cases h), .inr ⟨H, 0, rfl, hF, lt_of_heap h, fun i y hy => ?_⟩⟩
  match i with
  | 0 =>
    simp only [List.getElem?_cons_zero, Option.some.injEq] at hy
    subst hy
    refine ⟨_, ⟨sv, rfl, hok, hs⟩, fun j u hu => ?_⟩
    rw [show 0 + 0 * 2 + j = j by omega]
    exact (cell_of_row _ _ j _ _ _ h).trans (by simpa using hu)
  | i + 1 => simp at hy
/-- What fires leaves. -/
def FrsRes (a b c : Int) (M : List Nat) (p mc mf q N : Nat) (C : List Ac) (w : World) (e : Ending) (w' : World) : Prop := e = .returned (.bool true) ∧ (∃ D', TuS a b c M p mc mf q N C D' w') ∧ Turns [mf, q] w w'
set_option maxRecDepth 100000 in
set_option maxHeartbeats 8000000 in
theorem firesW {a b c : Int} {M : List Nat} {p mc mf q N : Nat} {C D : List Ac} (n : Int) (hn : i64ok n) (w : World) (h : TuS a b c M p mc mf q N C D w) (hl : ∀ k, lvB (lv3 a b c) k ≤ 2) (hN : N + 2 < maxLen) (ht : ∀ W, Turns [mf, q] w W → Tab W) :
    Calls Tryd.prog 17 #[.pointer (some ⟨p, 0, none⟩), .pointer (some ⟨q, 0, none⟩), .agg #[.int .i64 a, .int .i64 b, .int .i64 c], .int .i64 n] w (FrsRes a b c M p mc mf q (N + 2) C w) := by
  obtain ⟨w0, hw0⟩ : ∃ w0, w0 = w.alloc (.cells #[.int .i64 a, .int .i64 b, .int .i64 c] 42) := ⟨_, rfl⟩
  have hx0 : Below (w.heap.size + 1) (w.alloc (.cells #[.int .i64 a, .int .i64 b, .int .i64 c] 42)) w0 := by rw [hw0]; exact Below.refl _ _
  have hb0 := box_belowD hx0
  have x0 := box_cellD hx0 0 rfl
  have x1 := box_cellD hx0 1 rfl
  have x2 := box_cellD hx0 2 rfl
  have EN := Lib.hid (elig_num h.ag.ok h.hC hl)
  have L21 := Lib.hid (show C.length ≤ 40000000 by have := h.c21; omega)
  have HS := Lib.hid (h.below hb0)
  have HB0 := Lib.hid hb0
  have HT := Lib.hid ht
  have HN := Lib.hid hN
  have HW := Lib.hid h
  clear hx0 hb0 h hl ht hN
  go_enter Tryd.func17, Tryd.ntmps17
  go_upto_region 1 with fail
  rw [← hw0]
  clear hw0
  go_wp2_with fail
  refine (bookEligW a b c C D q w0 HS.out.bk).mono ?_
  rintro e w1 ⟨v1, rfl, ho1, hb1⟩
  obtain ⟨A1, c1, rfl⟩ := ho1.form
  rw [zN_len] at ho1 ⊢
  have S1 := Lib.hid (HS.out.below hb1)
  have B1 := Lib.hid (HB0.out.trans (hb1.mono HB0.out.size))
  have O1 := Lib.hid (ho1.rsl (F := fun b => w0.heap.size ≤ b) (fun b hb => (ownBlock_cells ho1 hb).1) (zN_ok elB_lt))
  clear ho1 hb1 x0 x1 x2
  go_wp2_with fail
  refine (pickW n hn w1 S1.out.ag L21.out).mono ?_
  rintro e w2 ⟨x, sv, er, rfl, hsv, hb2, hcase⟩
  obtain ⟨A2, c2, rfl⟩ := hsv.form
  have S2 := Lib.hid (S1.out.below hb2)
  have B2 := Lib.hid (B1.out.trans (hb2.mono B1.out.size))
  have O2 := Lib.hid (O1.out.keep (Kp.of_below hb2))
  obtain ⟨El, hE⟩ : ∃ El, eligA ⟨lv3 a b c, fourL, C, D⟩ = El := ⟨_, rfl⟩
  have HE := Lib.hid hE
  rw [hE] at hcase EN
  obtain ⟨nl, hnl⟩ : ∃ nl, elB (lv3 a b c) C D = nl := ⟨_, rfl⟩
  have HNL := Lib.hid (show ∀ k ∈ nl, k < 21 by rw [← hnl]; exact elB_lt)
  rw [hnl] at EN O2 ⊢
  have hlen : El.length = nl.length := by rw [← EN.out.1, List.length_map]
  have hnl21 : nl.length ≤ 21 := by
    rw [← hnl]
    exact filter_len _ 21
  clear O1 hnl hE
  rcases hcase with ⟨h1, h2, h3⟩ | ⟨h1, h2, h3⟩
  · subst h1 h2 h3
    have hz : nl.length = 0 := by rw [← hlen]; rfl
    have f1 : ((nl.length : Int) == 0) = true := by rw [hz]; rfl
    clear hsv hb2 O2 HNL
    go_wp2
    go_ret
    refine ⟨rfl, ⟨D, (S2.out.below ((Below.refl _ _).alloc (Nat.le_refl _) _)).mono (by omega)⟩, Turns.of_below (B2.out.alloc B2.out.size _)⟩
  · subst h3
    have hpos : 0 < nl.length := by rw [← hlen]; exact List.length_pos_iff.2 h1
    have f1 : ((nl.length : Int) == 0) = false := beq_false_of_ne (by omega)
    have HX := Lib.hid (List.mem_of_getElem? h2)
    have HXM := Lib.hid (EN.out.2 x HX.out)
    have hrng : 0 ≤ idxOf n (El.length : Int) ∧ idxOf n (El.length : Int) < (El.length : Int) := by
      unfold idxOf
      rw [if_neg (by omega)]
      exact ⟨Int.emod_nonneg _ (by omega), Int.emod_lt_of_pos _ (by omega)⟩
    have hmz : modZ n (nl.length : Int) = idxOf n (El.length : Int) := by unfold modZ idxOf; rw [if_neg (by omega), hlen]
    obtain ⟨k, hk⟩ : ∃ k : Nat, idxOf n (El.length : Int) = (k : Int) := ⟨(idxOf n (El.length : Int)).toNat, by omega⟩
    rw [hk] at hrng hmz h2
    have hkx : nl[k]? = some (numA x) := by
      rw [← EN.out.1, List.getElem?_map, show El[k]? = some x from h2]
      rfl
    have MW := Lib.hid (fun (W : World) => (hmz ▸ modW n (nl.length : Int) (by omega) hn (by omega) W : Calls Tryd.prog 11 #[.int .i64 n, .int .i64 (nl.length : Int)] W fun e w' => e = .returned (.int .i64 (k : Int)) ∧ W = w'))
    have HKX := Lib.hid hkx
    have HK2 := Lib.hid (show (k : Int) < (nl.length : Int) by omega)
    obtain ⟨w3, hw3⟩ : ∃ w3, w3 = w2.alloc (.cells #[.int .i64 x.rule, .slice A2 x.sub.length c2] 30) := ⟨_, rfl⟩
    have hb3 : Below w2.heap.size w2 w3 := by rw [hw3]; exact (Below.refl _ _).alloc (Nat.le_refl _) _
    have y0 : w3.cell? ⟨w2.heap.size, 0, none⟩ = some (.int .i64 x.rule) := by rw [hw3]; exact cell_of_row _ _ 0 _ _ _ (heap_alloc_new w2 _)
    have y1 : w3.cell? ⟨w2.heap.size, 1, none⟩ = some (.slice A2 x.sub.length c2) := by rw [hw3]; exact cell_of_row _ _ 1 _ _ _ (heap_alloc_new w2 _)
    have S3 := Lib.hid (S2.out.below hb3)
    have B3 := Lib.hid (B2.out.trans (hb3.mono B2.out.size))
    have O3 := Lib.hid (O2.out.keep (Kp.of_below hb3))
    have V3 := Lib.hid ((hsv.kp (F' := fun b => b ∉ M) (Kp.refl _ _) (fun b hb hf hm => by have := S1.out.ML b hm; omega) (fun _ _ h => h)).keep (Kp.of_below hb3))
    have LT3 := Lib.hid (show w2.heap.size < w3.heap.size by rw [hw3]; simp)
    clear hsv hb2 hb3 O2 HNL h1 h2 hkx hk hrng hmz S2
    go_upto_region 3 with fail
    rw [← hw3]
    clear hw3
    obtain ⟨w4, hw4⟩ : ∃ w4, w4 = w3.alloc (.cells #[.int .i64 x.rule, .slice A2 x.sub.length c2] 30) := ⟨_, rfl⟩
    have hb4 : Below w3.heap.size w3 w4 := by rw [hw4]; exact (Below.refl _ _).alloc (Nat.le_refl _) _
    have N4 := Lib.hid (numbersW (F := fun _ => True) (.slice (some ⟨w3.heap.size, 0, none⟩) 1 1) [x] w4 (one_act (by rw [hw4]; exact heap_alloc_new w3 _) trivial (all21_ok HXM.out).rule ((V3.out.kp (Kp.refl _ _) (fun _ _ _ => trivial) (fun _ _ h => h)).keep (Kp.of_below hb4))) (fun y hy => by rw [List.mem_singleton.1 hy]; exact HXM.out) (by simp))
    have S4 := Lib.hid (S3.out.below hb4)
    have B4 := Lib.hid (B3.out.trans (hb4.mono B3.out.size))
    have O4 := Lib.hid (O3.out.keep (Kp.of_below hb4))
    have V4 := Lib.hid (V3.out.keep (Kp.of_below hb4))
    have z0 := (hb4.cell (p := ⟨w2.heap.size, 0, none⟩) LT3.out).trans y0
    have z1 := (hb4.cell (p := ⟨w2.heap.size, 1, none⟩) LT3.out).trans y1
    have LT4 := Lib.hid (Nat.lt_of_lt_of_le LT3.out hb4.size)
    clear hb4
    go_wp2_with fail
    rw [← hw4]
    clear hw4 y0 y1
    refine N4.out.mono ?_
    rintro e w5 ⟨v5, rfl, ho5, hb5⟩
    rw [show zN ([x].map numA) = [(numA x : Int)] from rfl] at ho5
    obtain ⟨A5, c5, rfl⟩ := ho5.form
    have S5 := Lib.hid (S4.out.below hb5)
    have B5 := Lib.hid (B4.out.trans (hb5.mono B4.out.size))
    have O5 := Lib.hid (O4.out.keep (Kp.of_below hb5))
    have V5 := Lib.hid (V4.out.keep (Kp.of_below hb5))
    have y0 := (hb5.cell (p := ⟨w2.heap.size, 0, none⟩) LT4.out).trans z0
    have y1 := (hb5.cell (p := ⟨w2.heap.size, 1, none⟩) LT4.out).trans z1
    have LT5 := Lib.hid (Nat.lt_of_lt_of_le LT4.out hb5.size)
    have hx21 := (numA_act HXM.out).1
    obtain ⟨b5, o5, rfl, _, hb5l, cs, ⟨rfl, _⟩, hc⟩ := (ho5.rsl (F := fun _ => True) (fun _ _ => trivial) (fun i hi => by rw [List.mem_singleton.1 hi]; exact WalkArith.wf_i64 (by omega))).at (i := 0) (x := (numA x : Int)) rfl
    have d0 := hc 0 _ rfl
    obtain ⟨b6, o6, rfl, _, _, cs, ⟨rfl, _⟩, hc⟩ := O5.out.at (i := k) (x := (numA x : Int)) (by unfold zN; rw [List.getElem?_map, HKX.out]; rfl)
    have d1 := hc 0 _ rfl
    simp only [Nat.add_zero, Nat.mul_one] at d0 d1
    have e1 : (0 : Int) ≤ (k : Int) := by omega
    have e2 := HK2.out
    have hee : ((numA x : Int) == (numA x : Int)) = true := by simp
    have hen : ((numA x : Int) != (numA x : Int)) = false := by simp
    clear hc ho5 hb5 z0 z1 N4 S4 O4
    simp only [List.length_singleton] at *
    go_upto_region 6 with fail
    go_quiet ((go_at_call 11; exact Calls.quiet_of_same ((MW.out _).mono (fun _ _ h => ⟨h.1, h.2.symm⟩))))
    have hq := below_drewNA (Below.refl w5.heap.size w5) nq
    generalize w5.drewN nq = w6 at hq ⊢
    have S6 := Lib.hid (S5.out.below hq)
    have B6 := Lib.hid (B5.out.trans (hq.mono B5.out.size))
    have V6 := Lib.hid (V5.out.keep (Kp.of_below hq))
    have u0 := (hq.cell (p := ⟨w2.heap.size, 0, none⟩) LT5.out).trans y0
    have u1 := (hq.cell (p := ⟨w2.heap.size, 1, none⟩) LT5.out).trans y1
    have d2 := (hq.cell (p := ⟨b5, o5, none⟩) hb5l).trans d0
    have LT6 := Lib.hid (Nat.lt_of_lt_of_le LT5.out hq.size)
    have d3 := S6.out.bk.cF (numA x) hx21
    have d4 := (S6.out.bk.ok (21 + numA x) (by omega)).2
    have e3 : (0 : Int) ≤ (numA x : Int) := by omega
    have e4 : (numA x : Int) < 21 := by omega
    clear hq d0 d1 y0 y1 S5 O5 V5 O3 V3 V4
    go_upto_region 8 with fail
    go_region
    clear d2 d3 d4
    obtain ⟨w7, hw7⟩ : ∃ w7, w7 = (w6.setCell ⟨q, 21 + numA x, none⟩ (.bool true)).drew := ⟨_, rfl⟩
    have t7 : Turns [q] w6 w7 := by
      rw [hw7]
      exact ((Turns.refl [q] w6).setCell (.inl (by simp)) _).trans (S' := []) (Turns.of_below (Below.refl _ _).drew) (fun y hy => by simp at hy)
    have T67 := Lib.hid (show Turns [] (w6.setCell ⟨q, 21 + numA x, none⟩ (.bool true)) w7 by rw [hw7]; exact Turns.of_below (Below.refl _ _).drew)
    rw [← hw7]
    clear hw7
    have A7 := Lib.hid (S6.out.ag.step (M' := M) t7 (fun y hy => by rw [List.mem_singleton.1 hy]; exact S6.out.qM) (fun _ h => h) (fun _ h => .inl h))
    have V7 := Lib.hid (V6.out.keep (Kp.of_turns t7 (fun y hy h => h (by rw [List.mem_singleton.1 hy]; exact S6.out.qM.1))))
    have hq2 : w2.heap.size ∉ [q] := fun hm => by have := HW.out.bk.lt; have := B2.out.size; have := List.mem_singleton.1 hm; omega
    have v0 := (t7.cell LT6.out hq2).trans u0
    have v1 := (t7.cell LT6.out hq2).trans u1
    have LT7 := Lib.hid (Nat.lt_of_lt_of_le LT6.out t7.size)
    have G7 := Lib.hid ((Turns.of_below (S := [mf, q]) B6.out).trans t7 (fun y hy => .inl (by rw [List.mem_singleton.1 hy]; simp)))
    have ML7 := Lib.hid (fun y (hy : y ∈ M) => Nat.lt_of_lt_of_le (S6.out.ML y hy) t7.size)
    have hmfM := S6.out.ag.fM
    have hmf2 : w2.heap.size ∉ [mf] := fun hm => by have := HW.out.ML mf hmfM; have := B2.out.size; have := List.mem_singleton.1 hm; omega
    have FR := Lib.hid (fire_elig S6.out.ag.ok (show x ∈ eligA ⟨lv3 a b c, fourL, C, D⟩ from HE.out ▸ HX.out))
    have FW := Lib.hid (fireW x (.slice A2 x.sub.length c2) w7 A7.out V7.out (all21_ok HXM.out) ML7.out (by have := HN.out; omega) (HT.out w7 G7.out))
    rw [FR.out] at FW
    clear t7 u0 u1 hq2
    go_wp2_with fail
    refine FW.out.mono ?_
    rintro e w8 ⟨rfl, hA8, hT8⟩
    have V8 := Lib.hid (V7.out.keep (Kp.of_turns hT8 (fun y hy h => h (by rw [List.mem_singleton.1 hy]; exact hmfM))))
    have s0 := (hT8.cell LT7.out hmf2).trans v0
    have s1 := (hT8.cell LT7.out hmf2).trans v1
    have G8 := Lib.hid (G7.out.trans hT8 (fun y hy => .inl (by rw [List.mem_singleton.1 hy]; simp)))
    have ML8 := Lib.hid (fun y (hy : y ∈ M) => Nat.lt_of_lt_of_le (ML7.out y hy) hT8.size)
    have FR2 := Lib.hid (show fireF ⟨lv3 a b c, fourL, C, D ++ [x]⟩ x = (51, ⟨lv3 a b c, fourL, C, D ++ [x]⟩) from fir_twice (hA8.ok.ownD x (by simp)) (by simp))
    have FW2 := Lib.hid (fireW x (.slice A2 x.sub.length c2) w8 hA8 V8.out (all21_ok HXM.out) ML8.out (by have := HN.out; omega) (HT.out w8 G8.out))
    rw [FR2.out] at FW2
    have T8 := Lib.hid hT8
    clear hA8 hT8 v0 v1 hmf2 FW
    go_wp2_with fail
    refine FW2.out.mono ?_
    rintro e w9 ⟨rfl, hA9, hT9⟩
    have HA9 := Lib.hid hA9
    have T9 := Lib.hid hT9
    clear hA9 hT9 s0 s1 FW2
    go_wp2
    go_ret
    refine ⟨rfl, ⟨D ++ [x], S6.out.fired HXM.out rfl (HA9.out.mono (by omega)) ?_⟩, G8.out.trans T9.out (fun y hy => .inl (by rw [List.mem_singleton.1 hy]; simp))⟩
    exact ((T67.out.mono (by simp)).trans T8.out (fun y hy => .inl hy)).trans T9.out (fun y hy => .inl hy)
end Go.Proofs.YtjgigcnjgblekaaDoor
