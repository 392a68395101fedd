/- The opening of AgendaTurns' arguments: the script's calls. What a condition on the agenda rows' three variables gives: the table of powers. made: an act out of any. The walk. -/
import Derived.Test.YtjgigcnjgblekaaDoorKat07
import Derived.Test.YtjgigcnjgblekaaDoorKat21
import Derived.LaidMore
import Derived.Lib.LaidTab
import Derived.MakeChecks
import Derived.Stop.LaidErr
import Derived.Test.YtjgigcnjgblekaaDoorRows
namespace Go.Proofs.YtjgigcnjgblekaaDoor
open Go.ChangeShapes Go.WideShapes Go.ChangeAt Go.RowKit Go.Deep

/-- A call of the script, as far as the law looks at it. -/
structure OpV where
  kind : Int
  ac : Ac
  n : Int
/-- Its cells. -/
def EOp (F : Nat → Prop) (w : World) (cs : List Value) (o : OpV) : Prop :=
  ∃ A m c sv, cs = [.int .i64 o.kind, .slice A m c, .int .i64 o.ac.rule, sv, .int .i64 o.n] ∧ i64ok o.kind ∧ i64ok o.ac.rule ∧ i64ok o.n ∧ RSl F w 1 EInt sv o.ac.sub
theorem EOp.kp {F F' : Nat → Prop} {w w' : World} {cs : List Value} {o : OpV} (h : EOp F w cs o) (hk : Kp F w w') (hF : ∀ b, b < w.heap.size → F b → F' b) : EOp F' w' cs o := by
  obtain ⟨A, m, c, sv, h1, h2, h3, h4, h5⟩ := h
  exact ⟨A, m, c, sv, h1, h2, h3, h4, h5.kp hk hF (fun _ _ h => h)⟩
theorem EOp.all {F F' : Nat → Prop} {w w' : World} {n : Nat} {v : Value} {l : List OpV} (h : RSl F w n (EOp F w) v l) (hk : Kp F w w') (hF : ∀ b, b < w.heap.size → F b → F' b) : RSl F' w' n (EOp F' w') v l :=
  h.kp hk hF (fun _ _ hc => hc.kp hk hF)
theorem list_fourA {α : Type} {l : List α} (h : l.length = 4) : ∃ a b c d, l = [a, b, c, d] := by
  match l, h with
  | [a, b, c, d], _ => exact ⟨a, b, c, d, rfl⟩
theorem list_fiveA {α : Type} {l : List α} (h : l.length = 5) : ∃ a b c d e, l = [a, b, c, d, e] := by
  match l, h with
  | [a, b, c, d, e], _ => exact ⟨a, b, c, d, e, rfl⟩
theorem list_threeA {α : Type} {l : List α} (h : l.length = 3) : ∃ a b c, l = [a, b, c] := by
  match l, h with
  | [a, b, c], _ => exact ⟨a, b, c, rfl⟩
theorem cOpR : Tryd.prog.cellsOf 50 = 5 := by kernel_rfl
theorem cSChg : Tryd.prog.cellsOf 28 = 1 := by kernel_rfl
theorem bOpR : Tryd.prog.bytesOf 50 = 72 := by kernel_rfl
section
variable {H : Type} {enc : TypeId × Value → H} {w : World} {base fuel : Nat} {spare : Nat → Bool} {held : Bool} {x : DataW H × List MemPlace} {cs : List Value} {v : Value}
theorem open_opE (h : DataW.trod enc Tryd.prog w base spare held fuel 50 cs = some x) : ∃ o : OpV, EOp (fun b => b < w.heap.size) w cs o := by
  obtain ⟨ys, n, _, _, hlen, hyl, hf⟩ := DataW.trod_struct Tryd.underlying50 h
  rw [cOpR] at hlen
  obtain ⟨a, b, c, d, e, rfl⟩ := list_fiveA hlen
  obtain ⟨y0, y1, y2, y3, rfl⟩ := list_fourA (show ys.length = 4 from hyl)
  have g0 := hf 0 _ rfl
  change DataW.trod enc Tryd.prog w base spare held n 3 (List.take (Tryd.prog.cellsOf 3) (List.drop 0 [a, b, c, d, e])) = some y0 at g0
  rw [cIntR] at g0
  have g1 := hf 1 _ rfl
  change DataW.trod enc Tryd.prog w base spare held n 28 (List.take (Tryd.prog.cellsOf 28) (List.drop 1 [a, b, c, d, e])) = some y1 at g1
  rw [cSChg] at g1
  have g2 := hf 2 _ rfl
  change DataW.trod enc Tryd.prog w base spare held n 30 (List.take (Tryd.prog.cellsOf 30) (List.drop 2 [a, b, c, d, e])) = some y2 at g2
  rw [cActR] at g2
  have g3 := hf 3 _ rfl
  change DataW.trod enc Tryd.prog w base spare held n 3 (List.take (Tryd.prog.cellsOf 3) (List.drop 4 [a, b, c, d, e])) = some y3 at g3
  rw [cIntR] at g3
  simp only [List.drop_zero, List.take_succ_cons, List.take_zero, List.drop_succ_cons] at g0 g1 g2 g3
  obtain ⟨k0, hk0, wk0⟩ := open_intE g0
  obtain ⟨k3, hk3, wk3⟩ := open_intE g3
  obtain ⟨ac, sv, hac, wr, r⟩ := open_actE g2
  simp only [List.cons.injEq, and_true] at hk0 hk3 hac
  obtain ⟨hac, hsv⟩ := hac
  subst hk0 hk3 hac hsv
  have hb : ∃ A m c', b = .slice A m c' := by
    rcases open_slice Tryd.underlying28 g1 with ⟨hv, _⟩ | ⟨_, _, _, _, _, _, _, hv, _⟩ <;>
      simp only [List.cons.injEq, and_true] at hv <;> exact ⟨_, _, _, hv⟩
  obtain ⟨A, m, c', rfl⟩ := hb
  exact ⟨⟨k0, ac, k3⟩, A, m, c', _, rfl, wk0, wr, wk3, r⟩
theorem open_opsE (h : DataW.trod enc Tryd.prog w base spare held fuel 43 [v] = some x) : ∃ xs : List OpV, RSl (fun b => b < w.heap.size) w 5 (EOp (fun b => b < w.heap.size) w) v xs :=
  open_rsl0 Tryd.underlying43 cOpR (by decide) (fun _ _ _ h => open_opE h) h
/-- Three levels. -/
theorem c3R : Tryd.prog.cellsOf 42 = 3 := by kernel_rfl
end
end Go.Proofs.YtjgigcnjgblekaaDoor

namespace Go.Proofs.YtjgigcnjgblekaaDoor
open Go.RowKit Go.ChangeShapes

theorem gTabA : Tryd.prog.globalNamed "internal/strconv.uint64pow10" = some 0 := by kernel_rfl
theorem tTabA : (Tryd.prog.globals[0]?).map (·.type) = some 145 := by kernel_rfl
theorem cellsUA : Tryd.prog.cellsOf 122 = 1 := by kernel_rfl
theorem cellsTA : Tryd.prog.cellsOf 145 = 20 := by kernel_rfl
/-- What the condition gives the walks. -/
theorem of_laidA {W : World} (h : laidMet Tryd.prog Rows.agendaOrderlessRow.laid W) : Tab W := by
  obtain ⟨ps, ⟨g2, t2, cs2, f2, p2, q2, hg2, ht2, hv2, hd2, _, _⟩, _, _⟩ := h.tail.tail
  obtain rfl := Option.some.inj (gTabA.symm.trans hg2)
  obtain rfl := Option.some.inj (tTabA.symm.trans ht2)
  unfold Tab Lib.TabIs
  have hd : DataW.trod _ Tryd.prog W 0 _ false f2 145 cs2.toList = some (Lib.tabData .u64 Lib.pow10Tab, p2) := hd2
  rw [hv2, ← Lib.cells_of_tab Tryd.underlying145 Tryd.underlying122 cellsUA cellsTA hd]
theorem of_laidAH {W : World} (h : laidMetH Tryd.prog Rows.agendaOrderlessRow.laid W) : Tab W := by
  rw [MakeChecks.laidMetH_plain _ _ _ (by kernel_rfl)] at h
  exact of_laidA h
theorem door_metA (os : Os) (args : Array Value) : laidMetH Tryd.prog Rows.agendaOrderlessRow.laid ((World.doorLaid Tryd.prog 4000 os).forCall (fun _ _ => 0) ⟨#[], args, []⟩).memory :=
  laidMetH_of_parts3 (fuel := 8) (laidMet_of_run' 8 (by kernel_rfl) (by kernel_rfl)) (by kernel_rfl) (by kernel_rfl)
end Go.Proofs.YtjgigcnjgblekaaDoor

namespace Go.Proofs.YtjgigcnjgblekaaDoor
open Go Go.RowKit Go.Maps Classical

theorem step_append_Z0 {P : Program} {ops : Array Oper} {o : Oper} {a : Act} {K : Act → World → Prop} {Q : Exit → Act → World → Prop} {E : Prop} {w : World} {B : Nat} {v : Value} {l : List Int} (h : OwnZ w B v l) (hgd : o.guard = none) (s q : Operand) (t : TypeId)
    (ho : o.op = .call { callee := .builtin .append, args := #[s, q], argTypes := #[t, t] }) {z : Value} {c H : Nat} (ht : P.underlying t = some (.slice 3)) (hi : (P.info? 3).map (fun i => (i.zero, i.size, i.bytes)) = some (some z, 1, 8))
    (hzs : z.cells.size = 1) (hs : a.eval s = v) (x : Int) (T : TypeId) (hq : a.eval q = .slice (some ⟨H, 0, none⟩) 1 c) (hH : w.heap.size = H) (hn : l.length ≤ 40000000) (hB : B ≤ w.heap.size)
    (k : ∀ g cap w', OwnZ w' B (.slice (some ⟨g, 0, none⟩) (l.length + 1) cap) (l ++ [x]) → Turns v.ownBlock.toList w w' → (v.ownBlock = some g ∨ w.heap.size ≤ g) → g < w'.heap.size →
      K (a.put o.dst (.slice (some ⟨g, 0, none⟩) (l.length + 1) cap)) w') : if Region.wanted o (yielded ops a.tmps) = true then Oper.wp P o a (w.alloc (.cells #[.int .i64 x] T)) K Q else E := by
  subst hH
  obtain ⟨i0, hi0, hz0, hz1, hz2⟩ := info_parts hi
  have h1 := h.below ((Below.refl w.heap.size w).alloc (Nat.le_refl _) (.cells #[.int .i64 x] T))
  refine step_append1s (w.alloc (.cells #[.int .i64 x] T)) hgd s q t ho B 3 i0 z 1 8 ht hi0 hz0 hz1 hz2 hzs (by decide) v l.length (intVs l) hs h1 ⟨w.heap.size, 0, none⟩ c [.int .i64 x] hq rfl (World.news_of_block (heap_alloc_new w _)) (by simp [Value.oneCell']) hn (by decide) (by simp; omega) _ rfl ?_
  intro g cap w' hown hgrow hat hlt
  refine k g cap w' ?_ ((((Turns.refl [] w).alloc _).mono (by simp)).trans (Turns.of_grown hgrow) (fun x hx => .inl hx)) ?_ hlt
  · unfold OwnZ
    rw [show intVs (l ++ [x]) = intVs l ++ [.int .i64 x] by simp [intVs], List.length_append]
    exact hown
  · rcases hat with h | h
    · exact .inl h
    · exact .inr (by have := h.1; simp at this; omega)
theorem box_stepD {w wr wr' : World} {o : Obj} (hb : Below (w.heap.size + 1) (w.alloc o) wr) (h : Below wr.heap.size wr wr') : Below (w.heap.size + 1) (w.alloc o) wr' :=
  hb.trans (h.mono (by have := hb.size; simpa using this))
/-- The state of made behind k places. -/
structure MSt (x : Ac) (v : Value) (w wr : World) (sv : Value) (k : Nat) : Prop where
  yb : wr.heap[w.heap.size + 1 + 1]? = some (.cells #[.int .i64 (modZ x.rule 3), sv] 30 (0, 0))
  rb : wr.heap[w.heap.size + 1]? = some (.cells #[.int .i64 0, .slice none 0 0] 30 (0, 0))
  own : OwnZ wr (w.heap.size + 3) sv (madeSub x k)
  below : Below (w.heap.size + 1) (w.alloc (.cells #[.int .i64 x.rule, v] 30)) wr
section
variable {x : Ac} {v sv : Value} {w wr wr' w2 : World} {k : Nat}
theorem MSt.lt (h : MSt x v w wr sv k) : w.heap.size + 1 + 1 < wr.heap.size := lt_of_heap h.yb
theorem MSt.step (h : MSt x v w wr sv k) (hb : Below wr.heap.size wr wr') : MSt x v w wr' sv k :=
  ⟨(hb.block _ (by have := h.lt; omega)).trans h.yb, (hb.block _ (by have := h.lt; omega)).trans h.rb, h.own.below hb, box_stepD h.below hb⟩
theorem MSt.put (h : MSt x v w wr sv k) {v' : Value} (ht : Turns sv.ownBlock.toList wr w2) (ho : OwnZ w2 (w.heap.size + 3) v' (madeSub x k ++ [modZ (x.sub.getD k 0) 4])) : MSt x v w (w2.setCell ⟨w.heap.size + 1 + 1, 1, none⟩ v') v' (k + 1) := by
  have hn : ∀ x, x < w.heap.size + 3 → x ∉ sv.ownBlock.toList := fun x hx hm => by have := (ownBlock_cells h.own (by simpa using hm)).1; omega
  have hlt := h.lt
  have hne : ∀ b, v'.ownBlock = some b → b ≠ w.heap.size + 1 + 1 := fun b hb => by have := (ownBlock_cells ho hb).1; omega
  refine ⟨heap_setCell_same _ _ 1 _ _ _ ((ht.block _ (by omega) (hn _ (by omega))).trans h.yb), ?_, ?_, ?_⟩
  · rw [Below.heap_setCell _ _ _ _ (by simp)]
    exact (ht.block _ (by omega) (hn _ (by omega))).trans h.rb
  · rw [madeSub_succ]
    exact ho.turns (S := [w.heap.size + 1 + 1]) ((Turns.refl _ _).setCell (.inl (by simp)) _) (fun b hb => by simpa using hne b hb)
  · have T : Turns ((w.heap.size + 1 + 1) :: sv.ownBlock.toList) wr (w2.setCell ⟨w.heap.size + 1 + 1, 1, none⟩ v') := (ht.mono (fun x hx => List.mem_cons_of_mem _ hx)).setCell (.inl (by simp)) _
    refine h.below.trans (T.below (by omega) (fun x hx => ?_))
    rcases List.mem_cons.1 hx with rfl | hx
    · omega
    · have := (ownBlock_cells h.own (by simpa using hx)).1
      omega
theorem MSt.c0 (h : MSt x v w wr sv k) : wr.cell? ⟨w.heap.size + 1 + 1, 0, none⟩ = some (.int .i64 (modZ x.rule 3)) := cell_of_row _ _ 0 _ _ _ h.yb
theorem MSt.c1 (h : MSt x v w wr sv k) : wr.cell? ⟨w.heap.size + 1 + 1, 1, none⟩ = some sv := cell_of_row _ _ 1 _ _ _ h.yb
theorem MSt.at2 (h : MSt x v w wr sv k) (ht : Turns sv.ownBlock.toList wr w2) : w2.cell? ⟨w.heap.size + 1 + 1, 1, none⟩ = some sv ∧ w2.frozen? ⟨w.heap.size + 1 + 1, 1, none⟩ = false ∧ w.heap.size + 1 + 1 < w2.heap.size := by
  have hlt := h.lt
  have e : w2.heap[w.heap.size + 1 + 1]? = some (.cells #[.int .i64 (modZ x.rule 3), sv] 30 (0, 0)) := (ht.block _ (by omega) (fun hm => by have := (ownBlock_cells h.own (by simpa using hm)).1; omega)).trans h.yb
  exact ⟨cell_of_row _ _ 1 _ _ _ e, by simp [World.frozen?, e], lt_of_heap e⟩
end
theorem madeSub_len (x : Ac) (k : Nat) : (madeSub x k).length = k := by simp [madeSub]
/-- What made leaves. -/
def MadRes (x : Ac) (w : World) (e : Ending) (w' : World) : Prop := ∃ sv, e = .returned (.agg #[.int .i64 (madeA x).rule, sv]) ∧ OwnZ w' w.heap.size sv (madeA x).sub ∧ Below w.heap.size w w'
set_option maxRecDepth 100000 in
set_option maxHeartbeats 4000000 in
theorem madeW {F : Nat → Prop} (x : Ac) (v : Value) (w : World) (h : RSl F w 1 EInt v x.sub) (hr : i64ok x.rule) :
    Calls Tryd.prog 9 #[.agg #[.int .i64 x.rule, v]] w (MadRes x w) := by
  obtain ⟨A, c, rfl⟩ := h.form
  obtain ⟨hr0, hr3⟩ := modZ_rng (k := x.rule) (n := 3) (by omega)
  have H := Lib.hid h
  have HM := Lib.hid (modW x.rule 3 (by omega) hr (by omega))
  clear h
  have START : ∀ R : Int, R = modZ x.rule 3 → MSt x (.slice A x.sub.length c) w (((w.alloc (.cells #[.int .i64 x.rule, .slice A x.sub.length c] 30)).alloc (.cells #[.int .i64 0, .slice none 0 0] 30)).alloc (.cells #[.int .i64 R, .slice none 0 0] 30)) (.slice none 0 0) 0 := by
    rintro R rfl
    refine ⟨?_, ?_, World.ownsRow_nil _ _ _ _, ((Below.refl _ _).alloc (by simp) _).alloc (by simp) _⟩
    · have := heap_alloc_new ((w.alloc (.cells #[.int .i64 x.rule, .slice A x.sub.length c] 30)).alloc (.cells #[.int .i64 0, .slice none 0 0] 30)) (.cells #[.int .i64 (modZ x.rule 3), .slice none 0 0] 30)
      simpa using this
    · rw [Below.heap_alloc _ _ _ (by simp)]
      have := heap_alloc_new (w.alloc (.cells #[.int .i64 x.rule, .slice A x.sub.length c] 30)) (.cells #[.int .i64 0, .slice none 0 0] 30)
      simpa using this
  obtain ⟨R, hR⟩ : ∃ R, modZ x.rule 3 = R := ⟨_, rfl⟩
  rw [hR] at hr0 hr3 HM
  have HS := Lib.hid (START R hR.symm)
  have HR := Lib.hid hR
  clear START hR
  go_enter Tryd.func9, Tryd.ntmps9
  go_wp2_with fail
  refine (HM.out _).mono ?_
  rintro e w' ⟨rfl, rfl⟩
  go_wp2
  go_loopw [4] (fun i wr => ∃ (k : Nat) (sv : Value), i = .int .i64 (k : Int) ∧ (k : Int) ≤ R ∧ MSt x (.slice A x.sub.length c) w wr sv k) (fun i _ => 3 - (intOf i).toNat)
  case atStart => exact ⟨0, _, rfl, hr0, HS.out⟩
  case round =>
    obtain ⟨k, sv, rfl, hk, hst⟩ := hrel
    clear HS
    obtain ⟨sA, sc, hsv⟩ := hst.own.form
    rw [madeSub_len] at hsv
    subst hsv
    have hlt := hst.lt
    have q1 := box_cellD hst.below 1 rfl
    have y0 := hst.c0
    rw [HR.out] at y0
    by_cases hkn : (k : Int) < R
    · have HX := Lib.hid hst
      have x1 := hst.c1
      have HK := Lib.hid hkn
      have hsz := hst.below.size
      simp at hsz
      by_cases hks : k < x.sub.length
      · obtain ⟨s, hs⟩ : ∃ s, x.sub[k]? = some s := ⟨_, List.getElem?_eq_getElem hks⟩
        obtain ⟨b, off, rfl, _, _, cs, ⟨rfl, sok⟩, hc⟩ := (H.out.keep (Kp.of_below (box_belowD hst.below))).at hs
        have c0 := hc 0 _ rfl
        simp only [Nat.add_zero, Nat.mul_one] at c0
        have HG := Lib.hid (show x.sub.getD k 0 = s by rw [List.getD_eq_getElem?_getD, hs]; rfl)
        have MW := Lib.hid (modW s 4 (by omega) sok (by omega))
        have e1 : (0 : Int) ≤ (k : Int) := by omega
        have e2 : (k : Int) < (x.sub.length : Int) := by omega
        clear hst hks hs hc sok
        go_wp2
        go_region_law (first | (refine step_append_Z0 HX2.out.own (by rfl) (.tmp 27) (.tmp 30) 22 (by rfl) Tryd.underlying22 infoIntR rfl (by rfl) (modZ s 4) _ (by rfl) (by simp) (by rw [madeSub_len]; omega) (by have := HX2.out.lt; omega) ?_; intro g cap w2 ho ht hat hlt2; rw [madeSub_len] at ho ⊢; rw [← HG.out] at ho; obtain ⟨z1, z2, z3⟩ := HX2.out.at2 ht; have N1 := Lib.hid (HX2.out.put ht ho); clear ho ht hat hlt2) | (go_simp; go_at_call 11; refine (MW.out _).mono ?_; rintro e w7 ⟨rfl, rfl⟩; have HX2 := Lib.hid (HX.out.step (Below.refl _ _).drew); have x1 := HX2.out.c1; have x1a := fun (o : Obj) => (HX2.out.step ((Below.refl _ _).alloc (Nat.le_refl _) o)).c1))
        all_goals go_wp2
        all_goals exact ⟨⟨k + 1, _, by go_num, by have := HK.out; omega, N1.out⟩, by simp [intOf]; have := HK.out; omega⟩
      · have HG := Lib.hid (show x.sub.getD k 0 = 0 by rw [List.getD_eq_getElem?_getD, List.getElem?_eq_none (by omega)]; rfl)
        have MW := Lib.hid (modW 0 4 (by omega) (by unfold i64ok; decide) (by omega))
        have e2 : ¬ (k : Int) < (x.sub.length : Int) := by omega
        clear hst hks
        go_wp2
        go_region_law (first | (refine step_append_Z0 HX2.out.own (by rfl) (.tmp 27) (.tmp 30) 22 (by rfl) Tryd.underlying22 infoIntR rfl (by rfl) (modZ 0 4) _ (by rfl) (by simp) (by rw [madeSub_len]; omega) (by have := HX2.out.lt; omega) ?_; intro g cap w2 ho ht hat hlt2; rw [madeSub_len] at ho ⊢; rw [← HG.out] at ho; obtain ⟨z1, z2, z3⟩ := HX2.out.at2 ht; have N1 := Lib.hid (HX2.out.put ht ho); clear ho ht hat hlt2) | (go_simp; go_at_call 11; refine (MW.out _).mono ?_; rintro e w7 ⟨rfl, rfl⟩; have HX2 := Lib.hid (HX.out.step (Below.refl _ _).drew); have x1 := HX2.out.c1; have x1a := fun (o : Obj) => (HX2.out.step ((Below.refl _ _).alloc (Nat.le_refl _) o)).c1))
        all_goals go_wp2
        all_goals exact ⟨⟨k + 1, _, by go_num, by have := HK.out; omega, N1.out⟩, by simp [intOf]; have := HK.out; omega⟩
    · obtain rfl : (k : Int) = R := by omega
      have x0 : wr.cell? ⟨w.heap.size + 1 + 1, 0, none⟩ = some (.int .i64 (k : Int)) := y0
      have x1 := hst.c1
      have y0 : wr.cell? ⟨w.heap.size + 1, 0, none⟩ = some (.int .i64 0) := cell_of_row _ _ 0 _ _ _ hst.rb
      have y1 : wr.cell? ⟨w.heap.size + 1, 1, none⟩ = some (.slice none 0 0) := cell_of_row _ _ 1 _ _ _ hst.rb
      have yf : ∀ o, wr.frozen? ⟨w.heap.size + 1, o, none⟩ = false := fun o => by have := hst.rb; simp [World.frozen?, this]
      have HX := Lib.hid hst
      have ef : ((wr.setCell ⟨w.heap.size + 1, 0, none⟩ (.int .i64 (k : Int))).setCell ⟨w.heap.size + 1, 1, none⟩ (.slice sA k sc)).heap[w.heap.size + 1]? = some (.cells #[.int .i64 (k : Int), .slice sA k sc] 30 (0, 0)) :=
        heap_setCell_same _ _ 1 _ _ _ (heap_setCell_same _ _ 0 _ _ _ hst.rb)
      have EF := Lib.hid ef
      clear hst hkn ef
      go_wp2
      refine bodyPost_ret (v := .agg #[.int .i64 (k : Int), .slice sA k sc]) (results_row_slot1 rfl _ _ (w.heap.size + 1) 30 #[.int .i64 (k : Int), .slice sA k sc] (0, 0) _ rfl EF.out Tryd.underlying30 rfl sizeAct) rfl ?_
      have T : Turns [w.heap.size + 1] wr ((wr.setCell ⟨w.heap.size + 1, 0, none⟩ (.int .i64 (k : Int))).setCell ⟨w.heap.size + 1, 1, none⟩ (.slice sA k sc)) := ((Turns.refl _ _).setCell (.inl (by simp)) _).setCell (.inl (by simp)) _
      have h2 := HX.out.own
      refine ⟨.slice sA k sc, by rw [show (madeA x).rule = (k : Int) from HR.out], ?_, (box_belowD HX.out.below).trans (T.below (box_belowD HX.out.below).size (fun x hx => by rw [List.mem_singleton.1 hx]; omega))⟩
      have e : (madeA x).sub = madeSub x k := by show madeSub x (modZ x.rule 3).toNat = _; rw [HR.out]; simp
      rw [e]
      exact (h2.turns T (fun b hb hm => by have := (ownBlock_cells h2 hb).1; rw [List.mem_singleton.1 hm] at this; omega)).down (by omega)
end Go.Proofs.YtjgigcnjgblekaaDoor
