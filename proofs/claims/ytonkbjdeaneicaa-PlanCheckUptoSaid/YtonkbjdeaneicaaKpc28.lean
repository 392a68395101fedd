/- The opening of arguments: a plan; how long its lists are. The reference's small functions: pattern, slots, first, equalInts, equalShape. -/
import Derived.Test.YtonkbjdeaneicaaKpc04
import Derived.Test.YtonkbjdeaneicaaKpc07
import Derived.Test.YtonkbjdeaneicaaKpc10
import Derived.Test.YtonkbjdeaneicaaKpc23
import Derived.Deep.Cut
namespace Go.Proofs.Ytonkbjdeaneicaa
open Go.ChangeShapes Go.WideShapes Go.ChangeAt Go.RowKit Go.Deep
open Pln

/-- All lists of a shape, a node are at most n long. -/
def shpSm (n : Nat) (s : Shp) : Prop := s.cells.length ≤ n
def ndSm (n : Nat) (s : Nd) : Prop := s.links.length ≤ n ∧ s.new.length ≤ n
theorem shpSm.mono {m n : Nat} {p : Shp} (h : m ≤ n) (hp : shpSm m p) : shpSm n p := Nat.le_trans hp h
theorem ndSm.mono {m n : Nat} {p : Nd} (h : m ≤ n) (hp : ndSm m p) : ndSm n p := ⟨Nat.le_trans hp.1 h, Nat.le_trans hp.2 h⟩
structure plSm (n : Nat) (al : List Shp) (ns : List Nd) (es : List Int) : Prop where
  al : al.length ≤ n ∧ ∀ s ∈ al, shpSm n s
  ns : ns.length ≤ n ∧ ∀ s ∈ ns, ndSm n s
  en : es.length ≤ n
/-- v is a plan. -/
structure RPl (F : Nat → Prop) (w : World) (av nv ev : Value) (al : List Shp) (ns : List Nd) (es : List Int) : Prop where
  al : RSl F w 2 (EShp F w) av al
  ns : RSl F w 11 (ENode F w) nv ns
  en : RSl F w 1 EInt ev es
theorem RPl.kp {F F' : Nat → Prop} {w w' : World} {av nv ev : Value} {al : List Shp} {ns : List Nd} {es : List Int} (h : RPl F w av nv ev al ns es) (hk : Kp F w w') (hF : ∀ b, b < w.heap.size → F b → F' b) : RPl F' w' av nv ev al ns es :=
  ⟨h.al.kp hk hF (fun _ _ h => h.kp hk hF), h.ns.kp hk hF (fun _ _ h => h.kp hk hF), h.en.kp hk hF (fun _ _ h => h)⟩
theorem RPl.below {F : Nat → Prop} {w w' : World} {av nv ev : Value} {al : List Shp} {ns : List Nd} {es : List Int} (h : RPl F w av nv ev al ns es) (hb : Below w.heap.size w w') : RPl F w' av nv ev al ns es := h.kp (Kp.of_below hb) (fun _ _ h => h)
section
variable {H : Type} {enc : TypeId × Value → H} {w : World} {base : Nat} {spare : Nat → Bool} {held : Bool} {fuel : Nat} {cs : List Value} {x : DataW H × List MemPlace}
theorem cLnkR : Try.prog.cellsOf 83 = 2 := by kernel_rfl
theorem cShpR : Try.prog.cellsOf 79 = 2 := by kernel_rfl
theorem cNdR : Try.prog.cellsOf 54 = 11 := by kernel_rfl
theorem cPlR : Try.prog.cellsOf 27 = 3 := by kernel_rfl
theorem cSInt : Try.prog.cellsOf 25 = 1 := by kernel_rfl
theorem cSLnk : Try.prog.cellsOf 48 = 1 := by kernel_rfl
theorem cSShp : Try.prog.cellsOf 23 = 1 := by kernel_rfl
theorem cSNd : Try.prog.cellsOf 24 = 1 := by kernel_rfl
theorem list_eleven {α : Type} {l : List α} (h : l.length = 11) : ∃ a b c d e f g h i j k, l = [a, b, c, d, e, f, g, h, i, j, k] := by
  match l, h with
  | [a, b, c, d, e, f, g, h, i, j, k], _ => exact ⟨a, b, c, d, e, f, g, h, i, j, k, rfl⟩

theorem open_int (h : DataW.trod enc Try.prog w base spare held fuel 3 cs = some x) : ∃ s : Int, EInt cs s ∧ True := by
  obtain ⟨k, hk, _, wk⟩ := DataW.trod_int Try.underlying3 h
  exact ⟨k, ⟨hk, wk⟩, trivial⟩
theorem open_ints {v : Value} (h : DataW.trod enc Try.prog w base spare held fuel 25 [v] = some x) : ∃ xs : List Int, RSl (fun b => b < w.heap.size) w 1 EInt v xs ∧ xs.length ≤ Rows.uptoBulk x.1 := by
  obtain ⟨xs, r1, r2, _⟩ := open_rsl (E := EInt) (Sm := fun _ _ => True) (fun _ _ _ _ _ => trivial) Try.underlying25 cIntR (by decide) (fun _ _ _ h => open_int h) h
  exact ⟨xs, r1, r2⟩
theorem open_lnk (h : DataW.trod enc Try.prog w base spare held fuel 83 cs = some x) : ∃ s : Int × Int, ELnk cs s ∧ True := by
  obtain ⟨ys, n, _, _, hlen, hyl, hf⟩ := DataW.trod_struct Try.underlying83 h
  rw [cLnkR] at hlen
  obtain ⟨a, b, rfl⟩ := list_two hlen
  obtain ⟨y0, y1, rfl⟩ := list_two (show ys.length = 2 from hyl)
  have g0 := hf 0 _ rfl
  change DataW.trod enc Try.prog w base spare held n 3 (List.take (Try.prog.cellsOf 3) (List.drop 0 [a, b])) = some y0 at g0
  rw [cIntR] at g0
  have g1 := hf 1 _ rfl
  change DataW.trod enc Try.prog w base spare held n 3 (List.take (Try.prog.cellsOf 3) (List.drop 1 [a, b])) = some y1 at g1
  rw [cIntR] at g1
  simp only [List.drop_zero, List.take_succ_cons, List.take_zero, List.drop_succ_cons] at g0 g1
  obtain ⟨v, hv, _, wv⟩ := DataW.trod_int Try.underlying3 g0
  obtain ⟨k, hk, _, wk⟩ := DataW.trod_int Try.underlying3 g1
  simp only [List.cons.injEq, and_true] at hv hk
  subst hv; subst hk
  exact ⟨(v, k), ⟨rfl, wv, wk⟩, trivial⟩
theorem open_shp (h : DataW.trod enc Try.prog w base spare held fuel 79 cs = some x) : ∃ p : Shp, EShp (fun b => b < w.heap.size) w cs p ∧ shpSm (Rows.uptoBulk x.1) p := by
  obtain ⟨ys, n, _, hx, hlen, hyl, hf⟩ := DataW.trod_struct Try.underlying79 h
  rw [cShpR] at hlen
  obtain ⟨a, b, rfl⟩ := list_two hlen
  obtain ⟨y0, y1, rfl⟩ := list_two (show ys.length = 2 from hyl)
  have g0 := hf 0 _ rfl
  change DataW.trod enc Try.prog w base spare held n 3 (List.take (Try.prog.cellsOf 3) (List.drop 0 [a, b])) = some y0 at g0
  rw [cIntR] at g0
  have g1 := hf 1 _ rfl
  change DataW.trod enc Try.prog w base spare held n 25 (List.take (Try.prog.cellsOf 25) (List.drop 1 [a, b])) = some y1 at g1
  rw [cSInt] at g1
  simp only [List.drop_zero, List.take_succ_cons, List.take_zero, List.drop_succ_cons] at g0 g1
  obtain ⟨k, hk, _, wk⟩ := DataW.trod_int Try.underlying3 g0
  simp only [List.cons.injEq, and_true] at hk
  subst hk
  obtain ⟨xs, r1, r2⟩ := open_ints g1
  refine ⟨⟨k, xs⟩, ⟨b, rfl, wk, r1⟩, ?_⟩
  have := bulk_part (d := x.1) (by rw [hx]) (show y1 ∈ [y0, y1] by simp)
  exact Nat.le_trans r2 this
theorem open_nd (h : DataW.trod enc Try.prog w base spare held fuel 54 cs = some x) : ∃ r : Nd, ENode (fun b => b < w.heap.size) w cs r ∧ ndSm (Rows.uptoBulk x.1) r := by
  obtain ⟨ys, n, _, hx, hlen, hyl, hf⟩ := DataW.trod_struct Try.underlying54 h
  rw [cNdR] at hlen
  obtain ⟨a, b, c, d, e, f, g, p, q, r, s, rfl⟩ := list_eleven hlen
  obtain ⟨y0, y1, y2, y3, y4, y5, y6, rfl⟩ := list_seven (show ys.length = 7 from hyl)
  have g0 := hf 0 _ rfl
  change DataW.trod enc Try.prog w base spare held n 3 (List.take (Try.prog.cellsOf 3) (List.drop 0 [a, b, c, d, e, f, g, p, q, r, s])) = some y0 at g0
  rw [cIntR] at g0
  have g1 := hf 1 _ rfl
  change DataW.trod enc Try.prog w base spare held n 3 (List.take (Try.prog.cellsOf 3) (List.drop 1 [a, b, c, d, e, f, g, p, q, r, s])) = some y1 at g1
  rw [cIntR] at g1
  have g2 := hf 2 _ rfl
  change DataW.trod enc Try.prog w base spare held n 3 (List.take (Try.prog.cellsOf 3) (List.drop 2 [a, b, c, d, e, f, g, p, q, r, s])) = some y2 at g2
  rw [cIntR] at g2
  have g3 := hf 3 _ rfl
  change DataW.trod enc Try.prog w base spare held n 48 (List.take (Try.prog.cellsOf 48) (List.drop 3 [a, b, c, d, e, f, g, p, q, r, s])) = some y3 at g3
  rw [cSLnk] at g3
  have g4 := hf 4 _ rfl
  change DataW.trod enc Try.prog w base spare held n 25 (List.take (Try.prog.cellsOf 25) (List.drop 4 [a, b, c, d, e, f, g, p, q, r, s])) = some y4 at g4
  rw [cSInt] at g4
  have g5 := hf 5 _ rfl
  change DataW.trod enc Try.prog w base spare held n 52 (List.take (Try.prog.cellsOf 52) (List.drop 5 [a, b, c, d, e, f, g, p, q, r, s])) = some y5 at g5
  rw [cTstR] at g5
  have g6 := hf 6 _ rfl
  change DataW.trod enc Try.prog w base spare held n 3 (List.take (Try.prog.cellsOf 3) (List.drop 10 [a, b, c, d, e, f, g, p, q, r, s])) = some y6 at g6
  rw [cIntR] at g6
  simp only [List.drop_zero, List.take_succ_cons, List.take_zero, List.drop_succ_cons] at g0 g1 g2 g3 g4 g5 g6
  obtain ⟨k0, h0, _, w0⟩ := DataW.trod_int Try.underlying3 g0
  obtain ⟨k1, h1, _, w1⟩ := DataW.trod_int Try.underlying3 g1
  obtain ⟨k2, h2, _, w2⟩ := DataW.trod_int Try.underlying3 g2
  obtain ⟨ls, l1, l2, _⟩ := open_rsl (E := ELnk) (Sm := fun _ _ => True) (fun _ _ _ _ _ => trivial) Try.underlying48 cLnkR (by decide) (fun _ _ _ h => open_lnk h) g3
  obtain ⟨nw, n1, n2⟩ := open_ints g4
  obtain ⟨t, ⟨h5, t1, t2, t3⟩, _⟩ := open_tst g5
  obtain ⟨k6, h6, _, w6⟩ := DataW.trod_int Try.underlying3 g6
  simp only [List.cons.injEq, and_true] at h0 h1 h2 h5 h6
  obtain ⟨rfl, rfl, rfl, rfl, rfl⟩ := h5
  subst h0; subst h1; subst h2; subst h6
  have B : ∀ y ∈ [y0, y1, y2, y3, y4, y5, y6], Rows.uptoBulk y.1 ≤ Rows.uptoBulk x.1 := fun y hy => bulk_part (d := x.1) (by rw [hx]) hy
  exact ⟨⟨k0, k1, k2, ls, nw, t, k6⟩, ⟨d, e, ⟨rfl, ⟨w0, w1, w2, w6, t1, t2, t3⟩, l1, n1⟩⟩, ⟨Nat.le_trans l2 (B y3 (by simp)), Nat.le_trans n2 (B y4 (by simp))⟩⟩
theorem open_plan (h : DataW.trod enc Try.prog w base spare held fuel 27 cs = some x) : ∃ av nv ev al ns es, cs = [av, nv, ev] ∧ RPl (fun b => b < w.heap.size) w av nv ev al ns es ∧ plSm (Rows.uptoBulk x.1) al ns es := by
  obtain ⟨ys, n, _, hx, hlen, hyl, hf⟩ := DataW.trod_struct Try.underlying27 h
  rw [cPlR] at hlen
  obtain ⟨a, b, c, rfl⟩ := list_three hlen
  obtain ⟨y0, y1, y2, rfl⟩ := list_three (show ys.length = 3 from hyl)
  have g0 := hf 0 _ rfl
  change DataW.trod enc Try.prog w base spare held n 23 (List.take (Try.prog.cellsOf 23) (List.drop 0 [a, b, c])) = some y0 at g0
  rw [cSShp] at g0
  have g1 := hf 1 _ rfl
  change DataW.trod enc Try.prog w base spare held n 24 (List.take (Try.prog.cellsOf 24) (List.drop 1 [a, b, c])) = some y1 at g1
  rw [cSNd] at g1
  have g2 := hf 2 _ rfl
  change DataW.trod enc Try.prog w base spare held n 25 (List.take (Try.prog.cellsOf 25) (List.drop 2 [a, b, c])) = some y2 at g2
  rw [cSInt] at g2
  simp only [List.drop_zero, List.take_succ_cons, List.take_zero, List.drop_succ_cons] at g0 g1 g2
  obtain ⟨al, a1, a2, a3⟩ := open_rsl (E := EShp (fun b => b < w.heap.size) w) (Sm := shpSm) (fun _ _ _ h h' => h'.mono h) Try.underlying23 cShpR (by decide) (fun _ _ _ h => open_shp h) g0
  obtain ⟨ns, n1, n2, n3⟩ := open_rsl (E := ENode (fun b => b < w.heap.size) w) (Sm := ndSm) (fun _ _ _ h h' => h'.mono h) Try.underlying24 cNdR (by decide) (fun _ _ _ h => open_nd h) g1
  obtain ⟨es, e1, e2⟩ := open_ints g2
  have B : ∀ y ∈ [y0, y1, y2], Rows.uptoBulk y.1 ≤ Rows.uptoBulk x.1 := fun y hy => bulk_part (d := x.1) (by rw [hx]) hy
  have b0 := B y0 (by simp); have b1 := B y1 (by simp); have b2 := B y2 (by simp)
  exact ⟨a, b, c, al, ns, es, rfl, ⟨a1, n1, e1⟩, ⟨⟨Nat.le_trans a2 b0, fun p hp => (a3 p hp).mono b0⟩, ⟨Nat.le_trans n2 b1, fun p hp => (n3 p hp).mono b1⟩, Nat.le_trans e2 b2⟩⟩
end
end Go.Proofs.Ytonkbjdeaneicaa

namespace Go.Proofs.Ytonkbjdeaneicaa
open Go.RowKit Pln Classical Go.Maps

set_option maxRecDepth 100000 in
theorem requalIntsW {F G : Nat → Prop} (va vb : Value) (xs ys : List Int) (w : World) (ha : RSl F w 1 EInt va xs) (hb : RSl G w 1 EInt vb ys) :
    Calls Try.prog 33 #[va, vb] w fun e w' => e = .returned (.bool (eqB xs ys)) ∧ Below w.heap.size w w' := by
  obtain ⟨A, ca, rfl⟩ := ha.form
  obtain ⟨B, cb, rfl⟩ := hb.form
  have hm := ha.len
  have hm2 := hb.len
  unfold maxLen at hm hm2
  have HA := Lib.hid ha
  have HB := Lib.hid hb
  clear ha hb
  by_cases hl : xs.length = ys.length
  · have HL := Lib.hid hl
    have hl2 : ((xs.length : Int) != (ys.length : Int)) = false := by simp; omega
    clear hl
    go_enter Try.func33, Try.ntmps33
    go_wp2
    go_loopw [5] (fun i wr => ∃ k : Nat, i = .int .i64 k ∧ k ≤ xs.length ∧ (∀ i, i < k → xs[i]? = ys[i]?) ∧ Below w.heap.size w wr) (fun i _ => xs.length - (intOf i).toNat)
    case atStart => exact ⟨0, rfl, Nat.zero_le _, fun i h => by omega, Below.refl _ _⟩
    case round =>
      obtain ⟨k, rfl, hk, hq, hbl⟩ := hrel
      by_cases hkn : k < xs.length
      · obtain ⟨x, hx⟩ : ∃ x, xs[k]? = some x := ⟨_, List.getElem?_eq_getElem hkn⟩
        obtain ⟨y, hy⟩ : ∃ y, ys[k]? = some y := ⟨_, List.getElem?_eq_getElem (by have := HL.out; omega)⟩
        obtain ⟨b1, o1, rfl, _, _, cs1, ⟨rfl, _⟩, hc1⟩ := (HA.out.keep (Kp.of_below hbl)).at hx
        obtain ⟨b2, o2, rfl, _, _, cs2, ⟨rfl, _⟩, hc2⟩ := (HB.out.keep (Kp.of_below hbl)).at hy
        have d1 := hc1 0 _ rfl
        have d2 := hc2 0 _ rfl
        simp only [Nat.add_zero, Nat.mul_one] at d1 d2
        have e1 : (0 : Int) ≤ (k : Int) := by omega
        have e2 : (k : Int) < (xs.length : Int) := by omega
        have e3 : (k : Int) < (ys.length : Int) := by have := HL.out; omega
        have HX := Lib.hid hx
        have HY := Lib.hid hy
        have HQ := Lib.hid hq
        have HK := Lib.hid hkn
        have HBL := Lib.hid hbl
        clear hc1 hc2 hx hy hq hkn hbl
        by_cases hxy : x = y
        · subst hxy
          have hne : (x != x) = false := by simp
          have HQ2 := Lib.hid (show ∀ i, i < k + 1 → xs[i]? = ys[i]? from fun i hi => by
            rcases Nat.lt_or_ge i k with h1 | h1
            · exact HQ.out i h1
            · rw [show i = k by omega, HX.out, HY.out])
          go_wp2
          go_quiet (fail)
          have HB2 := Lib.hid (drewN_below HBL.out nq)
          go_wp2
          exact ⟨⟨k + 1, by go_num, HK.out, HQ2.out, HB2.out⟩, by simp [intOf]; have := HK.out; omega⟩
        · have hne : (x != y) = true := by simpa using hxy
          have HF := Lib.hid (eqB_ne (xs := xs) (ys := ys) (fun e => hxy (by
            have h1 := HX.out
            rw [e, HY.out] at h1
            exact (Option.some.inj h1).symm)))
          clear hxy
          go_wp2
          go_quiet (fail)
          have HB2 := Lib.hid (drewN_below HBL.out nq)
          go_wp2
          go_ret
          exact ⟨ret_bool HF.out.symm, HB2.out⟩
      · obtain rfl : k = xs.length := by omega
        have HF := Lib.hid (eqB_eq (list_eq HL.out hq))
        clear hq
        go_wp2
        go_ret
        exact ⟨ret_bool HF.out.symm, hbl⟩
  · have HF := Lib.hid (eqB_ne (xs := xs) (ys := ys) (fun e => hl (by rw [e])))
    have hl2 : ((xs.length : Int) != (ys.length : Int)) = true := by simp; omega
    clear hl
    go_enter Try.func33, Try.ntmps33
    go_wp2
    go_ret
    exact ⟨ret_bool HF.out.symm, Below.refl _ _⟩

set_option maxRecDepth 100000 in
theorem rpatternW {F : Nat → Prop} (p : Pat) (v : Value) (w : World) (h : RSl F w 2 ESlt v p.args) :
    Calls Try.prog 45 #[.agg #[.int .i64 p.pred, v]] w fun e w' => e = .returned (.bool (decide (0 ≤ p.pred ∧ p.args.length ≤ 8))) ∧ Below w.heap.size w w' := by
  obtain ⟨A, c, rfl⟩ := h.form
  clear h
  obtain ⟨R, hR⟩ : ∃ R, decide (0 ≤ p.pred ∧ p.args.length ≤ 8) = R := ⟨_, rfl⟩
  rw [hR]
  have HR := Lib.hid hR
  clear hR
  go_enter Try.func45, Try.ntmps45
  by_cases h1 : 0 ≤ p.pred
  · by_cases h2 : p.args.length ≤ 8
    · have e1 : (p.args.length : Int) ≤ 8 := by omega
      have HF := Lib.hid (show R = true by rw [← HR.out]; exact decide_eq_true ⟨h1, h2⟩)
      go_wp2
      go_ret
      exact ⟨by rw [HF.out]; rfl, (Below.refl _ _).alloc (Nat.le_refl _) _⟩
    · have e1 : ¬ (p.args.length : Int) ≤ 8 := by omega
      have HF := Lib.hid (show R = false by rw [← HR.out]; exact decide_eq_false (fun h => h2 h.2))
      go_wp2
      go_ret
      exact ⟨by rw [HF.out]; rfl, (Below.refl _ _).alloc (Nat.le_refl _) _⟩
  · have HF := Lib.hid (show R = false by rw [← HR.out]; exact decide_eq_false (fun h => h1 h.1))
    go_wp2
    go_ret
    exact ⟨by rw [HF.out]; rfl, (Below.refl _ _).alloc (Nat.le_refl _) _⟩

set_option maxRecDepth 100000 in
set_option maxHeartbeats 4000000 in
theorem rslotsW {F : Nat → Prop} (xs : List Slt) (v : Value) (wd : Nat) (w : World) (h : RSl F w 2 ESlt v xs) :
    Calls Try.prog 46 #[v, .int .i64 (wd : Int)] w fun e w' => e = .returned (.bool (decide (∀ s ∈ xs, belowP wd s))) ∧ Below w.heap.size w w' := by
  obtain ⟨A, c, rfl⟩ := h.form
  have hm := h.len
  unfold maxLen at hm
  have H := Lib.hid h
  clear h
  obtain ⟨R, hR⟩ : ∃ R, decide (∀ s ∈ xs, belowP wd s) = R := ⟨_, rfl⟩
  rw [hR]
  have HR := Lib.hid hR
  clear hR
  go_enter Try.func46, Try.ntmps46
  go_wp2
  go_loopw [5] (fun i wr => ∃ k : Nat, i = .int .i64 k ∧ k ≤ xs.length ∧ (∀ s ∈ xs.take k, belowP wd s) ∧ wr = w) (fun i _ => xs.length - (intOf i).toNat)
  case atStart => exact ⟨0, rfl, Nat.zero_le _, by simp, rfl⟩
  case round =>
    obtain ⟨k, rfl, hk, hq, rfl⟩ := hrel
    by_cases hkn : k < xs.length
    · obtain ⟨s, hs⟩ : ∃ s, xs[k]? = some s := ⟨_, List.getElem?_eq_getElem hkn⟩
      obtain ⟨b, o, rfl, -, -, cs, ⟨rfl, -⟩, hc⟩ := RSl.at H.out hs
      have d0 := hc 0 _ rfl
      have d1 := hc 1 _ rfl
      simp only [Nat.add_zero] at d0
      have e1 : (0 : Int) ≤ (k : Int) := by omega
      have e2 : (k : Int) < (xs.length : Int) := by omega
      have HK := Lib.hid hkn
      have YES := Lib.hid (show belowP wd s → ∀ t ∈ xs.take (k + 1), belowP wd t from fun h t ht => by
        rw [List.take_add_one, hs] at ht
        rcases List.mem_append.1 ht with ht | ht
        · exact hq t ht
        · simp at ht; rw [ht]; exact h)
      have NO := Lib.hid (show ¬ belowP wd s → R = false from fun h => by
        rw [← HR.out]
        exact decide_eq_false (fun h2 => h (h2 s (List.mem_of_getElem? hs))))
      clear hc hs hq hkn
      obtain ⟨sv, sn⟩ := s
      simp only at d0 d1
      by_cases h0 : sn < 0
      · have HF := Lib.hid (NO.out (fun h => by have := h.1; simp only at this; omega))
        go_wp2
        go_ret
        exact ⟨by rw [HF.out]; rfl, Below.refl _ _⟩
      · cases sv with
        | false =>
          have HY := Lib.hid (YES.out ⟨by simp only; omega, fun h => by cases h⟩)
          go_wp2
          exact ⟨⟨k + 1, by go_num, HK.out, HY.out, trivial⟩, by simp [intOf]; have := HK.out; omega⟩
        | true =>
          by_cases h1 : sn < (wd : Int)
          · have e3 : ¬ (wd : Int) ≤ sn := by omega
            have HY := Lib.hid (YES.out ⟨by simp only; omega, fun _ => h1⟩)
            go_wp2
            exact ⟨⟨k + 1, by go_num, HK.out, HY.out, trivial⟩, by simp [intOf]; have := HK.out; omega⟩
          · have e3 : (wd : Int) ≤ sn := by omega
            have HF := Lib.hid (NO.out (fun h => h1 (h.2 rfl)))
            go_wp2
            go_ret
            exact ⟨by rw [HF.out]; rfl, Below.refl _ _⟩
    · obtain rfl : k = xs.length := by omega
      rw [List.take_length] at hq
      have HF := Lib.hid (show R = true by rw [← HR.out]; exact decide_eq_true hq)
      clear hq hkn
      go_wp2
      go_ret
      exact ⟨by rw [HF.out]; rfl, Below.refl _ _⟩

set_option maxRecDepth 100000 in
set_option maxHeartbeats 4000000 in
theorem rfirstW {F : Nat → Prop} (p : Pat) (v : Value) (n : Int) (w : World) (h : RSl F w 2 ESlt v p.args) (hf : firstV p.args n < p.args.length) :
    Calls Try.prog 48 #[.agg #[.int .i64 p.pred, v], .int .i64 n] w fun e w' => e = .returned (.int .i64 (firstV p.args n : Nat)) ∧ Below w.heap.size w w' := by
  obtain ⟨A, c, rfl⟩ := h.form
  have hm := h.len
  unfold maxLen at hm
  have H := Lib.hid h
  have hat := firstV_at hf
  have hno := firstV_first (args := p.args) (n := n)
  obtain ⟨q, hq⟩ : ∃ q, firstV p.args n = q := ⟨_, rfl⟩
  rw [hq] at hf hat hno ⊢
  have HA := Lib.hid hat
  have HNO := Lib.hid hno
  clear h hq hat hno
  go_enter Try.func48, Try.ntmps48
  go_wp2
  go_loopw [5] (fun i wr => ∃ k : Nat, i = .int .i64 k ∧ k ≤ q ∧ Below (w.heap.size + 1) (w.alloc (.cells #[.int .i64 p.pred, .slice A p.args.length c] 34)) wr) (fun i _ => q - (intOf i).toNat)
  case atStart => exact ⟨0, rfl, Nat.zero_le _, Below.refl _ _⟩
  case round =>
    obtain ⟨k, rfl, hk, hb⟩ := hrel
    obtain ⟨s, hs⟩ : ∃ s, p.args[k]? = some s := ⟨_, List.getElem?_eq_getElem (by omega)⟩
    obtain ⟨b, o, rfl, -, hbl, cs, ⟨rfl, -⟩, hc⟩ := RSl.at H.out hs
    have d0 := ((box_below hb).cell (p := ⟨b, o + k * 2 + 0, none⟩) hbl).trans (hc 0 _ rfl)
    have d1 := ((box_below hb).cell (p := ⟨b, o + k * 2 + 1, none⟩) hbl).trans (hc 1 _ rfl)
    simp only [Nat.add_zero] at d0
    have y1 := box_cellL hb 1 rfl
    have e1 : (0 : Int) ≤ (k : Int) := by omega
    have e2 : (k : Int) < (p.args.length : Int) := by omega
    have HB := Lib.hid hb
    have HS := Lib.hid hs
    clear hc hs hb
    by_cases hkq : k < q
    · have hne := HNO.out k hkq
      rw [HS.out] at hne
      obtain ⟨sv, sn⟩ := s
      simp only at d0 d1
      cases sv with
      | false =>
        clear hne
        go_wp2
        exact ⟨⟨k + 1, by go_num, hkq, HB.out⟩, by simp [intOf]; omega⟩
      | true =>
        have hsn : ¬ sn = n := fun h => hne (by rw [h])
        have hsn2 : (sn == n) = false := by simpa using hsn
        clear hne
        go_wp2
        exact ⟨⟨k + 1, by go_num, hkq, HB.out⟩, by simp [intOf]; omega⟩
    · obtain rfl : k = q := by omega
      have hs2 := HS.out
      rw [HA.out] at hs2
      have hs3 := Option.some.inj hs2
      subst hs3
      simp only at d0 d1
      clear hs2 hkq
      go_wp2
      go_ret
      exact ⟨rfl, box_below HB.out⟩

set_option maxRecDepth 100000 in
set_option maxHeartbeats 4000000 in
theorem requalShapeW {F G : Nat → Prop} (a b : Shp) (va vb : Value) (w : World) (ha : RSl F w 1 EInt va a.cells) (hb : RSl G w 1 EInt vb b.cells) :
    Calls Try.prog 34 #[.agg #[.int .i64 a.pred, va], .agg #[.int .i64 b.pred, vb]] w fun e w' => e = .returned (.bool (decide (a = b))) ∧ Below w.heap.size w w' := by
  have b2 : Below w.heap.size w ((w.alloc (.cells #[.int .i64 a.pred, va] 79)).alloc (.cells #[.int .i64 b.pred, vb] 79)) := ((Below.refl _ _).alloc (Nat.le_refl _) _).alloc (by simp) _
  have EQ := Lib.hid (requalIntsW va vb a.cells b.cells _ (ha.keep (Kp.of_below b2)) (hb.keep (Kp.of_below b2)))
  have HB2 := Lib.hid b2
  obtain ⟨A, ca, rfl⟩ := ha.form
  obtain ⟨B, cb, rfl⟩ := hb.form
  clear ha hb b2
  obtain ⟨R, hR⟩ : ∃ R, decide (a = b) = R := ⟨_, rfl⟩
  rw [hR]
  have HR := Lib.hid hR
  clear hR
  go_enter Try.func34, Try.ntmps34
  by_cases hp : a.pred = b.pred
  · have HF := Lib.hid (show R = eqB a.cells b.cells from by
      rw [← HR.out]
      obtain ⟨ap, ac⟩ := a
      obtain ⟨bp, bc⟩ := b
      simp only at hp
      subst hp
      unfold eqB
      exact decide_eq_decide.2 (by simp))
    have hpd : (a.pred == b.pred) = true := by simp [hp]
    clear hp
    go_wp2_with fail
    refine EQ.out.mono ?_
    rintro e w2 ⟨rfl, hb2⟩
    have HB := Lib.hid (HB2.out.trans (hb2.mono HB2.out.size))
    clear hb2 EQ
    go_wp2
    go_ret
    exact ⟨by rw [HF.out]; rfl, HB.out⟩
  · have HF := Lib.hid (show R = false by rw [← HR.out]; exact decide_eq_false (fun h => hp (by rw [h])))
    have hp2 : (a.pred == b.pred) = false := by simpa using hp
    go_wp2
    go_ret
    exact ⟨by rw [HF.out]; rfl, HB2.out⟩
end Go.Proofs.Ytonkbjdeaneicaa
