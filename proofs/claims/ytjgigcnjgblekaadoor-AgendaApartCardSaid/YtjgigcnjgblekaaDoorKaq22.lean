/- What a condition on the agenda rows' three variables gives: the table of powers. made: an act out of any. The walk. Lists of the call's own that grow by one element at a time, the elements with lists in them. Over any program. -/
import Derived.Test.YtjgigcnjgblekaaDoorKaq04
import Derived.Test.YtjgigcnjgblekaaDoorKaq07
import Derived.Test.YtjgigcnjgblekaaDoorKaq18
import Derived.Test.YtjgigcnjgblekaaDoorKaq21
import Derived.LaidMore
import Derived.Lib.LaidTab
import Derived.MakeChecks
import Derived.Stop.LaidErr
import Derived.Test.YtjgigcnjgblekaaDoorRows
namespace Go.Proofs.YtjgigcnjgblekaaDoor
open Go.RowKit Go.ChangeShapes

theorem gTabA : Tryd.prog.globalNamed "internal/strconv.uint64pow10" = some 0 := by kernel_rfl
theorem tTabA : (Tryd.prog.globals[0]?).map (·.type) = some 145 := by kernel_rfl
theorem cellsUA : Tryd.prog.cellsOf 122 = 1 := by kernel_rfl
theorem cellsTA : Tryd.prog.cellsOf 145 = 20 := by kernel_rfl
/-- What the condition gives the walks. -/
theorem of_laidA {W : World} (h : laidMet Tryd.prog Rows.agendaOrderlessRow.laid W) : Tab W := by
  obtain ⟨ps, ⟨g2, t2, cs2, f2, p2, q2, hg2, ht2, hv2, hd2, _, _⟩, _, _⟩ := h.tail.tail
  obtain rfl := Option.some.inj (gTabA.symm.trans hg2)
  obtain rfl := Option.some.inj (tTabA.symm.trans ht2)
  unfold Tab Lib.TabIs
  have hd : DataW.trod _ Tryd.prog W 0 _ false f2 145 cs2.toList = some (Lib.tabData .u64 Lib.pow10Tab, p2) := hd2
  rw [hv2, ← Lib.cells_of_tab Tryd.underlying145 Tryd.underlying122 cellsUA cellsTA hd]
theorem of_laidAH {W : World} (h : laidMetH Tryd.prog Rows.agendaOrderlessRow.laid W) : Tab W := by
  rw [MakeChecks.laidMetH_plain _ _ _ (by kernel_rfl)] at h
  exact of_laidA h
theorem door_metA (os : Os) (args : Array Value) : laidMetH Tryd.prog Rows.agendaOrderlessRow.laid ((World.doorLaid Tryd.prog 4000 os).forCall (fun _ _ => 0) ⟨#[], args, []⟩).memory :=
  laidMetH_of_parts3 (fuel := 8) (laidMet_of_run' 8 (by kernel_rfl) (by kernel_rfl)) (by kernel_rfl) (by kernel_rfl)
end Go.Proofs.YtjgigcnjgblekaaDoor

namespace Go.Proofs.YtjgigcnjgblekaaDoor
open Go Go.RowKit Go.Maps Classical

theorem step_append_Z0 {P : Program} {ops : Array Oper} {o : Oper} {a : Act} {K : Act → World → Prop} {Q : Exit → Act → World → Prop} {E : Prop} {w : World} {B : Nat} {v : Value} {l : List Int} (h : OwnZ w B v l) (hgd : o.guard = none) (s q : Operand) (t : TypeId)
    (ho : o.op = .call { callee := .builtin .append, args := #[s, q], argTypes := #[t, t] }) {z : Value} {c H : Nat} (ht : P.underlying t = some (.slice 3)) (hi : (P.info? 3).map (fun i => (i.zero, i.size, i.bytes)) = some (some z, 1, 8))
    (hzs : z.cells.size = 1) (hs : a.eval s = v) (x : Int) (T : TypeId) (hq : a.eval q = .slice (some ⟨H, 0, none⟩) 1 c) (hH : w.heap.size = H) (hn : l.length ≤ 40000000) (hB : B ≤ w.heap.size)
    (k : ∀ g cap w', OwnZ w' B (.slice (some ⟨g, 0, none⟩) (l.length + 1) cap) (l ++ [x]) → Turns v.ownBlock.toList w w' → (v.ownBlock = some g ∨ w.heap.size ≤ g) → g < w'.heap.size →
      K (a.put o.dst (.slice (some ⟨g, 0, none⟩) (l.length + 1) cap)) w') : if Region.wanted o (yielded ops a.tmps) = true then Oper.wp P o a (w.alloc (.cells #[.int .i64 x] T)) K Q else E := by
  subst hH
  obtain ⟨i0, hi0, hz0, hz1, hz2⟩ := info_parts hi
  have h1 := h.below ((Below.refl w.heap.size w).alloc (Nat.le_refl _) (.cells #[.int .i64 x] T))
  refine step_append1s (w.alloc (.cells #[.int .i64 x] T)) hgd s q t ho B 3 i0 z 1 8 ht hi0 hz0 hz1 hz2 hzs (by decide) v l.length (intVs l) hs h1 ⟨w.heap.size, 0, none⟩ c [.int .i64 x] hq rfl (World.news_of_block (heap_alloc_new w _)) (by simp [Value.oneCell']) hn (by decide) (by simp; omega) _ rfl ?_
  intro g cap w' hown hgrow hat hlt
  refine k g cap w' ?_ ((((Turns.refl [] w).alloc _).mono (by simp)).trans (Turns.of_grown hgrow) (fun x hx => .inl hx)) ?_ hlt
  · unfold OwnZ
    rw [show intVs (l ++ [x]) = intVs l ++ [.int .i64 x] by simp [intVs], List.length_append]
    exact hown
  · rcases hat with h | h
    · exact .inl h
    · exact .inr (by have := h.1; simp at this; omega)
theorem box_stepD {w wr wr' : World} {o : Obj} (hb : Below (w.heap.size + 1) (w.alloc o) wr) (h : Below wr.heap.size wr wr') : Below (w.heap.size + 1) (w.alloc o) wr' :=
  hb.trans (h.mono (by have := hb.size; simpa using this))
/-- The state of made behind k places. -/
structure MSt (x : Ac) (v : Value) (w wr : World) (sv : Value) (k : Nat) : Prop where
  yb : wr.heap[w.heap.size + 1 + 1]? = some (.cells #[.int .i64 (modZ x.rule 3), sv] 30 (0, 0))
  rb : wr.heap[w.heap.size + 1]? = some (.cells #[.int .i64 0, .slice none 0 0] 30 (0, 0))
  own : OwnZ wr (w.heap.size + 3) sv (madeSub x k)
  below : Below (w.heap.size + 1) (w.alloc (.cells #[.int .i64 x.rule, v] 30)) wr
section
variable {x : Ac} {v sv : Value} {w wr wr' w2 : World} {k : Nat}
theorem MSt.lt (h : MSt x v w wr sv k) : w.heap.size + 1 + 1 < wr.heap.size := lt_of_heap h.yb
theorem MSt.step (h : MSt x v w wr sv k) (hb : Below wr.heap.size wr wr') : MSt x v w wr' sv k :=
  ⟨(hb.block _ (by have := h.lt; omega)).trans h.yb, (hb.block _ (by have := h.lt; omega)).trans h.rb, h.own.below hb, box_stepD h.below hb⟩
theorem MSt.put (h : MSt x v w wr sv k) {v' : Value} (ht : Turns sv.ownBlock.toList wr w2) (ho : OwnZ w2 (w.heap.size + 3) v' (madeSub x k ++ [modZ (x.sub.getD k 0) 4])) : MSt x v w (w2.setCell ⟨w.heap.size + 1 + 1, 1, none⟩ v') v' (k + 1) := by
  have hn : ∀ x, x < w.heap.size + 3 → x ∉ sv.ownBlock.toList := fun x hx hm => by have := (ownBlock_cells h.own (by simpa using hm)).1; omega
  have hlt := h.lt
  have hne : ∀ b, v'.ownBlock = some b → b ≠ w.heap.size + 1 + 1 := fun b hb => by have := (ownBlock_cells ho hb).1; omega
  refine ⟨heap_setCell_same _ _ 1 _ _ _ ((ht.block _ (by omega) (hn _ (by omega))).trans h.yb), ?_, ?_, ?_⟩
  · rw [Below.heap_setCell _ _ _ _ (by simp)]
    exact (ht.block _ (by omega) (hn _ (by omega))).trans h.rb
  · rw [madeSub_succ]
    exact ho.turns (S := [w.heap.size + 1 + 1]) ((Turns.refl _ _).setCell (.inl (by simp)) _) (fun b hb => by simpa using hne b hb)
  · have T : Turns ((w.heap.size + 1 + 1) :: sv.ownBlock.toList) wr (w2.setCell ⟨w.heap.size + 1 + 1, 1, none⟩ v') := (ht.mono (fun x hx => List.mem_cons_of_mem _ hx)).setCell (.inl (by simp)) _
    refine h.below.trans (T.below (by omega) (fun x hx => ?_))
    rcases List.mem_cons.1 hx with rfl | hx
    · omega
    · have := (ownBlock_cells h.own (by simpa using hx)).1
      omega
theorem MSt.c0 (h : MSt x v w wr sv k) : wr.cell? ⟨w.heap.size + 1 + 1, 0, none⟩ = some (.int .i64 (modZ x.rule 3)) := cell_of_row _ _ 0 _ _ _ h.yb
theorem MSt.c1 (h : MSt x v w wr sv k) : wr.cell? ⟨w.heap.size + 1 + 1, 1, none⟩ = some sv := cell_of_row _ _ 1 _ _ _ h.yb
theorem MSt.at2 (h : MSt x v w wr sv k) (ht : Turns sv.ownBlock.toList wr w2) : w2.cell? ⟨w.heap.size + 1 + 1, 1, none⟩ = some sv ∧ w2.frozen? ⟨w.heap.size + 1 + 1, 1, none⟩ = false ∧ w.heap.size + 1 + 1 < w2.heap.size := by
  have hlt := h.lt
  have e : w2.heap[w.heap.size + 1 + 1]? = some (.cells #[.int .i64 (modZ x.rule 3), sv] 30 (0, 0)) := (ht.block _ (by omega) (fun hm => by have := (ownBlock_cells h.own (by simpa using hm)).1; omega)).trans h.yb
  exact ⟨cell_of_row _ _ 1 _ _ _ e, by simp [World.frozen?, e], lt_of_heap e⟩
end
theorem madeSub_len (x : Ac) (k : Nat) : (madeSub x k).length = k := by simp [madeSub]
/-- What made leaves. -/
def MadRes (x : Ac) (w : World) (e : Ending) (w' : World) : Prop := ∃ sv, e = .returned (.agg #[.int .i64 (madeA x).rule, sv]) ∧ OwnZ w' w.heap.size sv (madeA x).sub ∧ Below w.heap.size w w'
set_option maxRecDepth 100000 in
set_option maxHeartbeats 4000000 in
theorem madeW {F : Nat → Prop} (x : Ac) (v : Value) (w : World) (h : RSl F w 1 EInt v x.sub) (hr : i64ok x.rule) :
    Calls Tryd.prog 9 #[.agg #[.int .i64 x.rule, v]] w (MadRes x w) := by
  obtain ⟨A, c, rfl⟩ := h.form
  obtain ⟨hr0, hr3⟩ := modZ_rng (k := x.rule) (n := 3) (by omega)
  have H := Lib.hid h
  have HM := Lib.hid (modW x.rule 3 (by omega) hr (by omega))
  clear h
  have START : ∀ R : Int, R = modZ x.rule 3 → MSt x (.slice A x.sub.length c) w (((w.alloc (.cells #[.int .i64 x.rule, .slice A x.sub.length c] 30)).alloc (.cells #[.int .i64 0, .slice none 0 0] 30)).alloc (.cells #[.int .i64 R, .slice none 0 0] 30)) (.slice none 0 0) 0 := by
    rintro R rfl
    refine ⟨?_, ?_, World.ownsRow_nil _ _ _ _, ((Below.refl _ _).alloc (by simp) _).alloc (by simp) _⟩
    · have := heap_alloc_new ((w.alloc (.cells #[.int .i64 x.rule, .slice A x.sub.length c] 30)).alloc (.cells #[.int .i64 0, .slice none 0 0] 30)) (.cells #[.int .i64 (modZ x.rule 3), .slice none 0 0] 30)
      simpa using this
    · rw [Below.heap_alloc _ _ _ (by simp)]
      have := heap_alloc_new (w.alloc (.cells #[.int .i64 x.rule, .slice A x.sub.length c] 30)) (.cells #[.int .i64 0, .slice none 0 0] 30)
      simpa using this
  obtain ⟨R, hR⟩ : ∃ R, modZ x.rule 3 = R := ⟨_, rfl⟩
  rw [hR] at hr0 hr3 HM
  have HS := Lib.hid (START R hR.symm)
  have HR := Lib.hid hR
  clear START hR
  go_enter Tryd.func9, Tryd.ntmps9
  go_wp2_with fail
  refine (HM.out _).mono ?_
  rintro e w' ⟨rfl, rfl⟩
  go_wp2
  go_loopw [4] (fun i wr => ∃ (k : Nat) (sv : Value), i = .int .i64 (k : Int) ∧ (k : Int) ≤ R ∧ MSt x (.slice A x.sub.length c) w wr sv k) (fun i _ => 3 - (intOf i).toNat)
  case atStart => exact ⟨0, _, rfl, hr0, HS.out⟩
  case round =>
    obtain ⟨k, sv, rfl, hk, hst⟩ := hrel
    clear HS
    obtain ⟨sA, sc, hsv⟩ := hst.own.form
    rw [madeSub_len] at hsv
    subst hsv
    have hlt := hst.lt
    have q1 := box_cellD hst.below 1 rfl
    have y0 := hst.c0
    rw [HR.out] at y0
    by_cases hkn : (k : Int) < R
    · have HX := Lib.hid hst
      have x1 := hst.c1
      have HK := Lib.hid hkn
      have hsz := hst.below.size
      simp at hsz
      by_cases hks : k < x.sub.length
      · obtain ⟨s, hs⟩ : ∃ s, x.sub[k]? = some s := ⟨_, List.getElem?_eq_getElem hks⟩
        obtain ⟨b, off, rfl, _, _, cs, ⟨rfl, sok⟩, hc⟩ := (H.out.keep (Kp.of_below (box_belowD hst.below))).at hs
        have c0 := hc 0 _ rfl
        simp only [Nat.add_zero, Nat.mul_one] at c0
        have HG := Lib.hid (show x.sub.getD k 0 = s by rw [List.getD_eq_getElem?_getD, hs]; rfl)
        have MW := Lib.hid (modW s 4 (by omega) sok (by omega))
        have e1 : (0 : Int) ≤ (k : Int) := by omega
        have e2 : (k : Int) < (x.sub.length : Int) := by omega
        clear hst hks hs hc sok
        go_wp2
        go_region_law (first | (refine step_append_Z0 HX2.out.own (by rfl) (.tmp 27) (.tmp 30) 22 (by rfl) Tryd.underlying22 infoIntR rfl (by rfl) (modZ s 4) _ (by rfl) (by simp) (by rw [madeSub_len]; omega) (by have := HX2.out.lt; omega) ?_; intro g cap w2 ho ht hat hlt2; rw [madeSub_len] at ho ⊢; rw [← HG.out] at ho; obtain ⟨z1, z2, z3⟩ := HX2.out.at2 ht; have N1 := Lib.hid (HX2.out.put ht ho); clear ho ht hat hlt2) | (go_simp; go_at_call 11; refine (MW.out _).mono ?_; rintro e w7 ⟨rfl, rfl⟩; have HX2 := Lib.hid (HX.out.step (Below.refl _ _).drew); have x1 := HX2.out.c1; have x1a := fun (o : Obj) => (HX2.out.step ((Below.refl _ _).alloc (Nat.le_refl _) o)).c1))
        all_goals go_wp2
        all_goals exact ⟨⟨k + 1, _, by go_num, by have := HK.out; omega, N1.out⟩, by simp [intOf]; have := HK.out; omega⟩
      · have HG := Lib.hid (show x.sub.getD k 0 = 0 by rw [List.getD_eq_getElem?_getD, List.getElem?_eq_none (by omega)]; rfl)
        have MW := Lib.hid (modW 0 4 (by omega) (by unfold i64ok; decide) (by omega))
        have e2 : ¬ (k : Int) < (x.sub.length : Int) := by omega
        clear hst hks
        go_wp2
        go_region_law (first | (refine step_append_Z0 HX2.out.own (by rfl) (.tmp 27) (.tmp 30) 22 (by rfl) Tryd.underlying22 infoIntR rfl (by rfl) (modZ 0 4) _ (by rfl) (by simp) (by rw [madeSub_len]; omega) (by have := HX2.out.lt; omega) ?_; intro g cap w2 ho ht hat hlt2; rw [madeSub_len] at ho ⊢; rw [← HG.out] at ho; obtain ⟨z1, z2, z3⟩ := HX2.out.at2 ht; have N1 := Lib.hid (HX2.out.put ht ho); clear ho ht hat hlt2) | (go_simp; go_at_call 11; refine (MW.out _).mono ?_; rintro e w7 ⟨rfl, rfl⟩; have HX2 := Lib.hid (HX.out.step (Below.refl _ _).drew); have x1 := HX2.out.c1; have x1a := fun (o : Obj) => (HX2.out.step ((Below.refl _ _).alloc (Nat.le_refl _) o)).c1))
        all_goals go_wp2
        all_goals exact ⟨⟨k + 1, _, by go_num, by have := HK.out; omega, N1.out⟩, by simp [intOf]; have := HK.out; omega⟩
    · obtain rfl : (k : Int) = R := by omega
      have x0 : wr.cell? ⟨w.heap.size + 1 + 1, 0, none⟩ = some (.int .i64 (k : Int)) := y0
      have x1 := hst.c1
      have y0 : wr.cell? ⟨w.heap.size + 1, 0, none⟩ = some (.int .i64 0) := cell_of_row _ _ 0 _ _ _ hst.rb
      have y1 : wr.cell? ⟨w.heap.size + 1, 1, none⟩ = some (.slice none 0 0) := cell_of_row _ _ 1 _ _ _ hst.rb
      have yf : ∀ o, wr.frozen? ⟨w.heap.size + 1, o, none⟩ = false := fun o => by have := hst.rb; simp [World.frozen?, this]
      have HX := Lib.hid hst
      have ef : ((wr.setCell ⟨w.heap.size + 1, 0, none⟩ (.int .i64 (k : Int))).setCell ⟨w.heap.size + 1, 1, none⟩ (.slice sA k sc)).heap[w.heap.size + 1]? = some (.cells #[.int .i64 (k : Int), .slice sA k sc] 30 (0, 0)) :=
        heap_setCell_same _ _ 1 _ _ _ (heap_setCell_same _ _ 0 _ _ _ hst.rb)
      have EF := Lib.hid ef
      clear hst hkn ef
      go_wp2
      refine bodyPost_ret (v := .agg #[.int .i64 (k : Int), .slice sA k sc]) (results_row_slot1 rfl _ _ (w.heap.size + 1) 30 #[.int .i64 (k : Int), .slice sA k sc] (0, 0) _ rfl EF.out Tryd.underlying30 rfl sizeAct) rfl ?_
      have T : Turns [w.heap.size + 1] wr ((wr.setCell ⟨w.heap.size + 1, 0, none⟩ (.int .i64 (k : Int))).setCell ⟨w.heap.size + 1, 1, none⟩ (.slice sA k sc)) := ((Turns.refl _ _).setCell (.inl (by simp)) _).setCell (.inl (by simp)) _
      have h2 := HX.out.own
      refine ⟨.slice sA k sc, by rw [show (madeA x).rule = (k : Int) from HR.out], ?_, (box_belowD HX.out.below).trans (T.below (box_belowD HX.out.below).size (fun x hx => by rw [List.mem_singleton.1 hx]; omega))⟩
      have e : (madeA x).sub = madeSub x k := by show madeSub x (modZ x.rule 3).toNat = _; rw [HR.out]; simp
      rw [e]
      exact (h2.turns T (fun b hb hm => by have := (ownBlock_cells h2 hb).1; rw [List.mem_singleton.1 hm] at this; omega)).down (by omega)
end Go.Proofs.YtjgigcnjgblekaaDoor

namespace Go.Proofs.YtjgigcnjgblekaaDoor
open Go Go.RowKit

/-- The new blocks but for the row's own. -/
def New (B : Nat) (v : Value) : Nat → Prop := fun b => B ≤ b ∧ v.ownBlock ≠ some b

/-- How an element is told: by its cells, in a world, its lists in blocks of F. -/
structure Cdc (α : Type) where
  E : (Nat → Prop) → World → List Value → α → Prop
  sz : Nat
  len : ∀ F w cs x, E F w cs x → cs.length = sz
  kp : ∀ F F' w w' cs x, E F w cs x → Kp F w w' → (∀ b, b < w.heap.size → F b → F' b) → E F' w' cs x
  one : ∀ F w cs x, E F w cs x → ∀ u ∈ cs, u.oneCell' = true

/-- v is a row of the call's own with the elements xs. -/
def OwnL {α : Type} (B : Nat) (w : World) (e : TypeId) (C : Cdc α) (v : Value) (xs : List α) : Prop :=
  ∃ cells, w.ownsRow B e C.sz v xs.length cells ∧ ∀ i x, xs[i]? = some x → ∃ cs, C.E (New B v) w cs x ∧ ∀ j u, cs[j]? = some u → cells[i * C.sz + j]? = some u

section
variable {α : Type} {B : Nat} {w w' : World} {e : TypeId} {C : Cdc α} {v : Value} {xs : List α}
theorem OwnL.nil : OwnL B w e C (.slice none 0 0) [] := ⟨[], World.ownsRow_nil _ _ _ _, fun i x h => by simp at h⟩
theorem OwnL.form (h : OwnL B w e C v xs) : ∃ A c, v = .slice A xs.length c := by
  obtain ⟨cells, h1, _⟩ := h
  rcases h1.2 with ⟨rfl, h0⟩ | ⟨g, cap, cur, rfl, _⟩
  · exact ⟨none, 0, by rw [h0]⟩
  · exact ⟨_, cap, rfl⟩
theorem OwnL.block (h : OwnL B w e C v xs) {b : Nat} (hb : v.ownBlock = some b) : B ≤ b ∧ b < w.heap.size := by
  obtain ⟨cells, h1, _⟩ := h
  obtain ⟨h2, h3, _⟩ := ownBlock_cells h1 hb
  exact ⟨h2, h3⟩
theorem OwnL.turns (h : OwnL B w e C v xs) {S : List Nat} (ht : Turns S w w') (hs : ∀ b, v.ownBlock = some b → b ∉ S) (hS : ∀ b ∈ S, ¬ New B v b) : OwnL B w' e C v xs := by
  obtain ⟨cells, h1, h2⟩ := h
  refine ⟨cells, ownsRow_turns h1 ht hs, fun i x hx => ?_⟩
  obtain ⟨cs, c1, c2⟩ := h2 i x hx
  exact ⟨cs, C.kp _ _ _ _ _ _ c1 (Kp.of_turns ht hS) (fun _ _ h => h), c2⟩
theorem OwnL.below (h : OwnL B w e C v xs) (hb : Below w.heap.size w w') : OwnL B w' e C v xs :=
  h.turns (S := []) (Turns.of_below hb) (fun _ _ => by simp) (by simp)
/-- To be read. -/
theorem OwnL.rsl (h : OwnL B w e C v xs) {F : Nat → Prop} (hF : ∀ b, v.ownBlock = some b → F b) : RSl F w C.sz (C.E (New B v) w) v xs := by
  obtain ⟨cells, h1, h2⟩ := h
  exact RSl.of_own h1 rfl hF h2
theorem OwnL.rsl' (h : OwnL B w e C v xs) {F : Nat → Prop} (hF : ∀ b, B ≤ b → b < w.heap.size → F b) : RSl F w C.sz (C.E F w) v xs :=
  (h.rsl (fun b hb => hF b (h.block hb).1 (h.block hb).2)).kp (Kp.refl _ _) (fun _ _ h => h) (fun _cs _x hc => C.kp _ _ _ _ _ _ hc (Kp.refl _ _) (fun b hb hn => hF b hn.1 hb))
theorem OwnL.grow (_h : OwnL B w e C v xs) {x : α} {cs : List Value} (hel : C.E (New B v) w cs x) {g cap : Nat} {cells : List Value} (hg : w.grownBy w' v.ownBlock) (hat : v.ownBlock = some g ∨ w.heap.size ≤ g)
    (h2 : ∀ i x, xs[i]? = some x → ∃ cs, C.E (New B v) w cs x ∧ ∀ j u, cs[j]? = some u → cells[i * C.sz + j]? = some u) (hcl : cells.length = xs.length * C.sz)
    (hown : w'.ownsRow B e C.sz (.slice (some ⟨g, 0, none⟩) (xs.length + 1) cap) (xs.length + 1) (cells ++ cs)) : OwnL B w' e C (.slice (some ⟨g, 0, none⟩) (xs.length + 1) cap) (xs ++ [x]) := by
  have K : Kp (New B v) w w' := Kp.of_turns (Turns.of_grown hg) (fun b hb hn => hn.2 (by simpa using hb))
  have hF : ∀ b, b < w.heap.size → New B v b → New B (.slice (some ⟨g, 0, none⟩) (xs.length + 1) cap) b := by
    intro b hb hn
    refine ⟨hn.1, fun e => ?_⟩
    obtain rfl : g = b := by simpa [Value.ownBlock] using e
    rcases hat with hat | hat
    · exact hn.2 hat
    · omega
  refine ⟨cells ++ cs, by simpa using hown, fun i y hy => ?_⟩
  rcases Nat.lt_or_ge i xs.length with hlt | hge
  · rw [List.getElem?_append_left hlt] at hy
    obtain ⟨ds, d1, d2⟩ := h2 i y hy
    refine ⟨ds, C.kp _ _ _ _ _ _ d1 K hF, fun j u hu => ?_⟩
    have hj : j < C.sz := by rw [← C.len _ _ _ _ d1]; exact (List.getElem?_eq_some_iff.1 hu).1
    have hlt2 : i * C.sz + j < cells.length := by
      rw [hcl]
      have := Nat.mul_le_mul_right C.sz (show i + 1 ≤ xs.length from hlt)
      rw [Nat.add_mul, Nat.one_mul] at this
      omega
    rw [List.getElem?_append_left hlt2]
    exact d2 j u hu
  · have hl := (List.getElem?_eq_some_iff.1 hy).1
    simp at hl
    obtain rfl : i = xs.length := by omega
    rw [List.getElem?_append_right (Nat.le_refl _), Nat.sub_self] at hy
    simp at hy
    subst hy
    refine ⟨cs, C.kp _ _ _ _ _ _ hel K hF, fun j u hu => ?_⟩
    rw [List.getElem?_append_right (by omega), hcl, Nat.add_sub_cancel_left]
    exact hu

/-- One more, out of a new block of one element. -/
theorem wpList_append_L {P : Program} {ops : Array Oper} {rest : List Oper} {o : Oper} {a : Act} {Q : Exit → Act → World → Prop} (h : OwnL B w e C v xs) (hgd : o.guard = none) (s q : Operand) (t : TypeId)
    (ho : o.op = .call { callee := .builtin .append, args := #[s, q], argTypes := #[t, t] }) {z : Value} {bytes c H : Nat} (ht : P.underlying t = some (.slice e)) (hi : (P.info? e).map (fun i => (i.zero, i.size, i.bytes)) = some (some z, C.sz, bytes))
    (hzs : z.cells.size = C.sz) (hsz : 0 < C.sz) (hs : a.eval s = v) (ncs : Array Value) (T : TypeId) (hq : a.eval q = .slice (some ⟨H, 0, none⟩) 1 c) (hH : w.heap.size = H)
    {x : α} (hel : C.E (New B v) w ncs.toList x) (hn : xs.length ≤ 40000000) (hb : bytes ≤ 1000) (hB : B ≤ w.heap.size)
    (k : ∀ g cap w', OwnL B w' e C (.slice (some ⟨g, 0, none⟩) (xs.length + 1) cap) (xs ++ [x]) → Turns v.ownBlock.toList w w' → (v.ownBlock = some g ∨ w.heap.size ≤ g) → g < w'.heap.size →
      wpList P ops Q rest (a.put o.dst (.slice (some ⟨g, 0, none⟩) (xs.length + 1) cap)) w') : wpList P ops Q (o :: rest) a (w.alloc (.cells ncs T)) := by
  subst hH
  obtain ⟨i0, hi0, hz0, hz1, hz2⟩ := info_parts hi
  have hA := h.below ((Below.refl w.heap.size w).alloc (Nat.le_refl _) (.cells ncs T))
  obtain ⟨cells, h1, h2⟩ := hA
  have helA := C.kp _ _ _ _ _ _ hel (Kp.of_below ((Below.refl w.heap.size w).alloc (Nat.le_refl _) (.cells ncs T))) (fun _ _ h => h)
  have hln := C.len _ _ _ _ hel
  have hone := C.one _ _ _ _ hel
  refine wpList_append1s (w.alloc (.cells ncs T)) hgd s q t ho B e i0 z C.sz bytes ht hi0 hz0 hz1 hz2 hzs hsz v xs.length cells hs h1 ⟨w.heap.size, 0, none⟩ c ncs.toList hq (by rw [hln, Nat.one_mul]) ?_ hone hn hb (by simp; omega) _ rfl ?_
  · exact World.news_of_block (heap_alloc_new w (.cells ncs T))
  · intro g cap w' hown hgrow hat hlt
    have T1 : Turns v.ownBlock.toList w w' := (((Turns.refl [] w).alloc (.cells ncs T)).mono (by simp)).trans (Turns.of_grown hgrow) (fun x hx => .inl hx)
    have hat2 : v.ownBlock = some g ∨ (w.alloc (.cells ncs T)).heap.size ≤ g := by
      rcases hat with h | h
      · exact .inl h
      · exact .inr (by omega)
    exact k g cap w' (OwnL.grow ⟨cells, h1, h2⟩ helA hgrow hat2 h2 h1.1 hown) T1 (by rcases hat2 with h | h; exact .inl h; exact .inr (by simp at h; omega)) hlt
end

/-- v is a row of the call's own with the elements xs, whose lists lie in blocks of F. -/
def OwnF {α : Type} (F : Nat → Prop) (B : Nat) (w : World) (e : TypeId) (C : Cdc α) (v : Value) (xs : List α) : Prop :=
  ∃ cells, w.ownsRow B e C.sz v xs.length cells ∧ ∀ i x, xs[i]? = some x → ∃ cs, C.E F w cs x ∧ ∀ j u, cs[j]? = some u → cells[i * C.sz + j]? = some u
section
variable {α : Type} {F F' : Nat → Prop} {B : Nat} {w w' : World} {e : TypeId} {C : Cdc α} {v : Value} {xs : List α}
theorem OwnF.nil : OwnF F B w e C (.slice none 0 0) [] := ⟨[], World.ownsRow_nil _ _ _ _, fun i x h => by simp at h⟩
theorem OwnF.form (h : OwnF F B w e C v xs) : ∃ A c, v = .slice A xs.length c := by
  obtain ⟨cells, h1, _⟩ := h
  rcases h1.2 with ⟨rfl, h0⟩ | ⟨g, cap, cur, rfl, _⟩
  · exact ⟨none, 0, by rw [h0]⟩
  · exact ⟨_, cap, rfl⟩
theorem OwnF.block (h : OwnF F B w e C v xs) {b : Nat} (hb : v.ownBlock = some b) : B ≤ b ∧ b < w.heap.size ∧ ∃ cur, w.heap[b]? = some (.cells cur e (0, 0)) := by
  obtain ⟨cells, h1, _⟩ := h
  exact ownBlock_cells h1 hb
theorem OwnF.keep (h : OwnF F B w e C v xs) {S : List Nat} (ht : Turns S w w') (hs : ∀ b, v.ownBlock = some b → b ∉ S) (hS : ∀ b ∈ S, ¬ F b) (hF : ∀ b, b < w.heap.size → F b → F' b) : OwnF F' B w' e C v xs := by
  obtain ⟨cells, h1, h2⟩ := h
  refine ⟨cells, ownsRow_turns h1 ht hs, fun i x hx => ?_⟩
  obtain ⟨cs, c1, c2⟩ := h2 i x hx
  exact ⟨cs, C.kp _ _ _ _ _ _ c1 (Kp.of_turns ht hS) hF, c2⟩
theorem OwnF.below (h : OwnF F B w e C v xs) (hb : Below w.heap.size w w') : OwnF F B w' e C v xs :=
  h.keep (S := []) (Turns.of_below hb) (fun _ _ => by simp) (by simp) (fun _ _ h => h)
theorem OwnF.rsl (h : OwnF F B w e C v xs) {G : Nat → Prop} (hG : ∀ b, v.ownBlock = some b → G b) : RSl G w C.sz (C.E F w) v xs := by
  obtain ⟨cells, h1, h2⟩ := h
  exact RSl.of_own h1 rfl hG h2
theorem OwnF.grow {cells : List Value} (h2 : ∀ i x, xs[i]? = some x → ∃ cs, C.E F w cs x ∧ ∀ j u, cs[j]? = some u → cells[i * C.sz + j]? = some u) {x : α} {cs : List Value} (hel : C.E F w cs x) {g cap : Nat} (K : Kp F w w')
    (hFF : ∀ b, b < w.heap.size → F b → F' b) (hcl : cells.length = xs.length * C.sz)
    (hown : w'.ownsRow B e C.sz (.slice (some ⟨g, 0, none⟩) (xs.length + 1) cap) (xs.length + 1) (cells ++ cs)) : OwnF F' B w' e C (.slice (some ⟨g, 0, none⟩) (xs.length + 1) cap) (xs ++ [x]) := by
  refine ⟨cells ++ cs, by simpa using hown, fun i y hy => ?_⟩
  rcases Nat.lt_or_ge i xs.length with hlt | hge
  · rw [List.getElem?_append_left hlt] at hy
    obtain ⟨ds, d1, d2⟩ := h2 i y hy
    refine ⟨ds, C.kp _ _ _ _ _ _ d1 K hFF, fun j u hu => ?_⟩
    have hj : j < C.sz := by rw [← C.len _ _ _ _ d1]; exact (List.getElem?_eq_some_iff.1 hu).1
    have hlt2 : i * C.sz + j < cells.length := by
      rw [hcl]
      have := Nat.mul_le_mul_right C.sz (show i + 1 ≤ xs.length from hlt)
      rw [Nat.add_mul, Nat.one_mul] at this
      omega
    rw [List.getElem?_append_left hlt2]
    exact d2 j u hu
  · have hl := (List.getElem?_eq_some_iff.1 hy).1
    simp at hl
    obtain rfl : i = xs.length := by omega
    rw [List.getElem?_append_right (Nat.le_refl _), Nat.sub_self] at hy
    simp at hy
    subst hy
    refine ⟨cs, C.kp _ _ _ _ _ _ hel K hFF, fun j u hu => ?_⟩
    rw [List.getElem?_append_right (by omega), hcl, Nat.add_sub_cancel_left]
    exact hu
/-- One more, out of a new block of one element. -/
theorem wpList_append_F {P : Program} {ops : Array Oper} {rest : List Oper} {o : Oper} {a : Act} {Q : Exit → Act → World → Prop} (h : OwnF F B w e C v xs) (hF : ∀ b, v.ownBlock = some b → ¬ F b) (hgd : o.guard = none) (s q : Operand) (t : TypeId)
    (ho : o.op = .call { callee := .builtin .append, args := #[s, q], argTypes := #[t, t] }) {z : Value} {bytes c H : Nat} (ht : P.underlying t = some (.slice e)) (hi : (P.info? e).map (fun i => (i.zero, i.size, i.bytes)) = some (some z, C.sz, bytes))
    (hzs : z.cells.size = C.sz) (hsz : 0 < C.sz) (hs : a.eval s = v) (ncs : Array Value) (T : TypeId) (hq : a.eval q = .slice (some ⟨H, 0, none⟩) 1 c) (hH : w.heap.size = H)
    {x : α} (hel : C.E F w ncs.toList x) (hn : xs.length ≤ 40000000) (hb : bytes ≤ 1000) (hB : B ≤ w.heap.size)
    (k : ∀ g cap w', (∀ F' : Nat → Prop, (∀ b, b < w.heap.size → F b → F' b) → OwnF F' B w' e C (.slice (some ⟨g, 0, none⟩) (xs.length + 1) cap) (xs ++ [x])) → Turns v.ownBlock.toList w w' → (v.ownBlock = some g ∨ w.heap.size ≤ g) → g < w'.heap.size →
      wpList P ops Q rest (a.put o.dst (.slice (some ⟨g, 0, none⟩) (xs.length + 1) cap)) w') : wpList P ops Q (o :: rest) a (w.alloc (.cells ncs T)) := by
  subst hH
  obtain ⟨i0, hi0, hz0, hz1, hz2⟩ := info_parts hi
  have hbl : Below w.heap.size w (w.alloc (.cells ncs T)) := (Below.refl w.heap.size w).alloc (Nat.le_refl _) (.cells ncs T)
  obtain ⟨cells, h0, h2⟩ := h
  have h1 := ownsRow_turns h0 (Turns.of_below (S := []) hbl) (fun _ _ => by simp)
  have hln := C.len _ _ _ _ hel
  have hone := C.one _ _ _ _ hel
  refine wpList_append1s (w.alloc (.cells ncs T)) hgd s q t ho B e i0 z C.sz bytes ht hi0 hz0 hz1 hz2 hzs hsz v xs.length cells hs h1 ⟨w.heap.size, 0, none⟩ c ncs.toList hq (by rw [hln, Nat.one_mul]) ?_ hone hn hb (by simp; omega) _ rfl ?_
  · exact World.news_of_block (heap_alloc_new w (.cells ncs T))
  · intro g cap w' hown hgrow hat hlt
    have T1 : Turns v.ownBlock.toList w w' := (((Turns.refl [] w).alloc (.cells ncs T)).mono (by simp)).trans (Turns.of_grown hgrow) (fun x hx => .inl hx)
    have hat2 : v.ownBlock = some g ∨ w.heap.size ≤ g := by
      rcases hat with h | h
      · exact .inl h
      · exact .inr (by have := h.1; simp at this; omega)
    exact k g cap w' (fun F' hFF => OwnF.grow h2 hel (Kp.of_turns T1 (fun b hb => hF b (by simpa using hb))) hFF h0.1 hown) T1 hat2 hlt
/-- As one step of a region that draws its order. -/
theorem step_append_F {P : Program} {ops : Array Oper} {o : Oper} {a : Act} {K : Act → World → Prop} {Q : Exit → Act → World → Prop} {E : Prop} (h : OwnF F B w e C v xs) (hF : ∀ b, v.ownBlock = some b → ¬ F b) (hgd : o.guard = none) (s q : Operand) (t : TypeId)
    (ho : o.op = .call { callee := .builtin .append, args := #[s, q], argTypes := #[t, t] }) {z : Value} {bytes c H : Nat} (ht : P.underlying t = some (.slice e)) (hi : (P.info? e).map (fun i => (i.zero, i.size, i.bytes)) = some (some z, C.sz, bytes))
    (hzs : z.cells.size = C.sz) (hsz : 0 < C.sz) (hs : a.eval s = v) (ncs : Array Value) (T : TypeId) (hq : a.eval q = .slice (some ⟨H, 0, none⟩) 1 c) (hH : w.heap.size = H)
    {x : α} (hel : C.E F w ncs.toList x) (hn : xs.length ≤ 40000000) (hb : bytes ≤ 1000) (hB : B ≤ w.heap.size)
    (k : ∀ g cap w', (∀ F' : Nat → Prop, (∀ b, b < w.heap.size → F b → F' b) → OwnF F' B w' e C (.slice (some ⟨g, 0, none⟩) (xs.length + 1) cap) (xs ++ [x])) → Turns v.ownBlock.toList w w' → (v.ownBlock = some g ∨ w.heap.size ≤ g) → g < w'.heap.size →
      K (a.put o.dst (.slice (some ⟨g, 0, none⟩) (xs.length + 1) cap)) w') : if Region.wanted o (yielded ops a.tmps) = true then Oper.wp P o a (w.alloc (.cells ncs T)).drew K Q else E := by
  subst hH
  obtain ⟨i0, hi0, hz0, hz1, hz2⟩ := info_parts hi
  have hbl : Below w.heap.size w (w.alloc (.cells ncs T)).drew := ((Below.refl w.heap.size w).alloc (Nat.le_refl _) (.cells ncs T)).drew
  obtain ⟨cells, h0, h2⟩ := h
  have h1 := ownsRow_turns h0 (Turns.of_below (S := []) hbl) (fun _ _ => by simp)
  have hln := C.len _ _ _ _ hel
  have hone := C.one _ _ _ _ hel
  refine step_append1s (w.alloc (.cells ncs T)).drew hgd s q t ho B e i0 z C.sz bytes ht hi0 hz0 hz1 hz2 hzs hsz v xs.length cells hs h1 ⟨w.heap.size, 0, none⟩ c ncs.toList hq (by rw [hln, Nat.one_mul]) ?_ hone hn hb (by simp; omega) _ rfl ?_
  · exact World.news_of_block (heap_alloc_new w (.cells ncs T))
  · intro g cap w' hown hgrow hat hlt
    have T1 : Turns v.ownBlock.toList w w' := ((((Turns.refl [] w).alloc (.cells ncs T)).drew).mono (by simp)).trans (Turns.of_grown hgrow) (fun x hx => .inl hx)
    have hat2 : v.ownBlock = some g ∨ w.heap.size ≤ g := by
      rcases hat with h | h
      · exact .inl h
      · exact .inr (by have := h.1; simp at this; omega)
    exact k g cap w' (fun F' hFF => OwnF.grow h2 hel (Kp.of_turns T1 (fun b hb => hF b (by simpa using hb))) hFF h0.1 hown) T1 hat2 hlt
/-- The same, with the cells told one by one. -/
theorem step_append_FX {P : Program} {ops : Array Oper} {o : Oper} {a : Act} {K : Act → World → Prop} {Q : Exit → Act → World → Prop} {E : Prop} (h : OwnF F B w e C v xs) (hF : ∀ b, v.ownBlock = some b → ¬ F b) (hgd : o.guard = none) (s q : Operand) (t : TypeId)
    (ho : o.op = .call { callee := .builtin .append, args := #[s, q], argTypes := #[t, t] }) {z : Value} {bytes c H : Nat} (ht : P.underlying t = some (.slice e)) (hi : (P.info? e).map (fun i => (i.zero, i.size, i.bytes)) = some (some z, C.sz, bytes))
    (hzs : z.cells.size = C.sz) (hsz : 0 < C.sz) (hs : a.eval s = v) (ncs : Array Value) (T : TypeId) (hq : a.eval q = .slice (some ⟨H, 0, none⟩) 1 c) (hH : w.heap.size = H)
    {x : α} (hel : C.E F w ncs.toList x) (hn : xs.length ≤ 40000000) (hb : bytes ≤ 1000) (hB : B ≤ w.heap.size)
    (k : ∀ g cap w', (∀ F' : Nat → Prop, (∀ b, b < w.heap.size → F b → F' b) → OwnF F' B w' e C (.slice (some ⟨g, 0, none⟩) (xs.length + 1) cap) (xs ++ [x])) → Turns v.ownBlock.toList w w' → (v.ownBlock = some g ∨ w.heap.size ≤ g) → g < w'.heap.size →
      (∀ o j, v.ownBlock = some o → j < xs.length * C.sz → w'.cell? ⟨g, j, none⟩ = w.cell? ⟨o, j, none⟩) → (∀ j u, ncs.toList[j]? = some u → w'.cell? ⟨g, xs.length * C.sz + j, none⟩ = some u) →
      K (a.put o.dst (.slice (some ⟨g, 0, none⟩) (xs.length + 1) cap)) w') : if Region.wanted o (yielded ops a.tmps) = true then Oper.wp P o a (w.alloc (.cells ncs T)).drew K Q else E := by
  subst hH
  obtain ⟨i0, hi0, hz0, hz1, hz2⟩ := info_parts hi
  have hbl : Below w.heap.size w (w.alloc (.cells ncs T)).drew := ((Below.refl w.heap.size w).alloc (Nat.le_refl _) (.cells ncs T)).drew
  obtain ⟨cells, h0, h2⟩ := h
  have h1 := ownsRow_turns h0 (Turns.of_below (S := []) hbl) (fun _ _ => by simp)
  have hln := C.len _ _ _ _ hel
  have hone := C.one _ _ _ _ hel
  refine step_append1s (w.alloc (.cells ncs T)).drew hgd s q t ho B e i0 z C.sz bytes ht hi0 hz0 hz1 hz2 hzs hsz v xs.length cells hs h1 ⟨w.heap.size, 0, none⟩ c ncs.toList hq (by rw [hln, Nat.one_mul]) ?_ hone hn hb (by simp; omega) _ rfl ?_
  · exact World.news_of_block (heap_alloc_new w (.cells ncs T))
  · intro g cap w' hown hgrow hat hlt
    have T1 : Turns v.ownBlock.toList w w' := ((((Turns.refl [] w).alloc (.cells ncs T)).drew).mono (by simp)).trans (Turns.of_grown hgrow) (fun x hx => .inl hx)
    have hat2 : v.ownBlock = some g ∨ w.heap.size ≤ g := by
      rcases hat with h | h
      · exact .inl h
      · exact .inr (by have := h.1; simp at this; omega)
    refine k g cap w' (fun F' hFF => OwnF.grow h2 hel (Kp.of_turns T1 (fun b hb => hF b (by simpa using hb))) hFF h0.1 hown) T1 hat2 hlt ?_ ?_
    · intro o j ho hj
      have hlt2 : j < (xs.length + 1) * C.sz := by rw [Nat.add_mul, Nat.one_mul]; omega
      rw [hown.cellAt j hlt2, List.getElem?_append_left (by rw [h0.1]; exact hj)]
      rcases h0.2 with ⟨rfl, _⟩ | ⟨o', cap', cur, rfl, r⟩
      · simp [Value.ownBlock] at ho
      · obtain rfl : o' = o := by simpa [Value.ownBlock] using ho
        exact (World.ownsRow.cellAt (show w.ownsRow B e C.sz (.slice (some ⟨o', 0, none⟩) xs.length cap') xs.length cells from ⟨h0.1, .inr ⟨o', cap', cur, rfl, r⟩⟩) j hj).symm
    · intro j u hu
      have hjl := (List.getElem?_eq_some_iff.1 hu).1
      have hlt2 : xs.length * C.sz + j < (xs.length + 1) * C.sz := by rw [Nat.add_mul, Nat.one_mul]; omega
      rw [hown.cellAt _ hlt2, List.getElem?_append_right (by rw [h0.1]; omega), h0.1, Nat.add_sub_cancel_left]
      exact hu
end

open Pln
def cdSlt : Cdc Slt where
  E := fun _ _ => ESlt
  sz := 2
  len := fun _ _ cs x h => by rw [h.1]; rfl
  kp := fun _ _ _ _ _ _ h _ _ => h
  one := fun _ _ cs x h u hu => by
    rw [h.1] at hu
    simp only [List.mem_cons, List.not_mem_nil, or_false] at hu
    rcases hu with rfl | rfl <;> rfl
def cdInt : Cdc Int where
  E := fun _ _ => EInt
  sz := 1
  len := fun _ _ cs x h => by rw [h.1]; rfl
  kp := fun _ _ _ _ _ _ h _ _ => h
  one := fun _ _ cs x h u hu => by
    rw [h.1] at hu
    simp only [List.mem_cons, List.not_mem_nil, or_false] at hu
    rcases hu with rfl; rfl
def cdStr : Cdc ByteArray where
  E := fun _ _ => EStr
  sz := 1
  len := fun _ _ cs x h => by rw [h.1]; rfl
  kp := fun _ _ _ _ _ _ h _ _ => h
  one := fun _ _ cs x h u hu => by
    rw [h.1] at hu
    simp only [List.mem_cons, List.not_mem_nil, or_false] at hu
    rcases hu with rfl; rfl
def cdLnk : Cdc (Int × Int) where
  E := fun _ _ => ELnk
  sz := 2
  len := fun _ _ cs x h => by rw [h.1]; rfl
  kp := fun _ _ _ _ _ _ h _ _ => h
  one := fun _ _ cs x h u hu => by
    rw [h.1] at hu
    simp only [List.mem_cons, List.not_mem_nil, or_false] at hu
    rcases hu with rfl | rfl <;> rfl
def cdTst : Cdc Tst where
  E := fun _ _ => ETst
  sz := 5
  len := fun _ _ cs x h => by rw [h.1]; rfl
  kp := fun _ _ _ _ _ _ h _ _ => h
  one := fun _ _ cs x h u hu => by
    rw [h.1] at hu
    simp only [List.mem_cons, List.not_mem_nil, or_false] at hu
    rcases hu with rfl | rfl | rfl | rfl | rfl <;> rfl
theorem RSl.one {α : Type} {F : Nat → Prop} {w : World} {sz : Nat} {E : List Value → α → Prop} {v : Value} {xs : List α} (h : RSl F w sz E v xs) : v.oneCell' = true := by
  obtain ⟨A, c, rfl, _⟩ := h
  rfl
def cdPat : Cdc Pat where
  E := EPat
  sz := 2
  len := fun _ _ cs x ⟨v, h, _⟩ => by rw [h]; rfl
  kp := fun _ _ _ _ _ _ h hk hF => h.kp hk hF
  one := fun _ _ cs x ⟨v, h, _, h2⟩ u hu => by
    rw [h] at hu
    simp only [List.mem_cons, List.not_mem_nil, or_false] at hu
    rcases hu with rfl | rfl
    · rfl
    · exact h2.one
def cdShp : Cdc Shp where
  E := EShp
  sz := 2
  len := fun _ _ cs x ⟨v, h, _⟩ => by rw [h]; rfl
  kp := fun _ _ _ _ _ _ h hk hF => h.kp hk hF
  one := fun _ _ cs x ⟨v, h, _, h2⟩ u hu => by
    rw [h] at hu
    simp only [List.mem_cons, List.not_mem_nil, or_false] at hu
    rcases hu with rfl | rfl
    · rfl
    · exact h2.one
def cdRl : Cdc Rl where
  E := ERule
  sz := 7
  len := fun _ _ cs x ⟨_, _, _, _, _, h⟩ => by rw [h.cells]; rfl
  kp := fun _ _ _ _ _ _ h hk hF => h.kp hk hF
  one := fun _ _ cs x ⟨_, _, _, _, _, h⟩ u hu => by
    rw [h.cells] at hu
    simp only [List.mem_cons, List.not_mem_nil, or_false] at hu
    rcases hu with rfl | rfl | rfl | rfl | rfl | rfl | rfl
    · rfl
    · exact h.head.one
    · exact h.pos.one
    · exact h.tests.one
    · exact h.neg.one
    · exact h.vars.one
    · rfl
def cdNd : Cdc Nd where
  E := ENode
  sz := 11
  len := fun _ _ cs x ⟨_, _, h⟩ => by rw [h.cells]; rfl
  kp := fun _ _ _ _ _ _ h hk hF => h.kp hk hF
  one := fun _ _ cs x ⟨_, _, h⟩ u hu => by
    rw [h.cells] at hu
    simp only [List.mem_cons, List.not_mem_nil, or_false] at hu
    rcases hu with rfl | rfl | rfl | rfl | rfl | rfl | rfl | rfl | rfl | rfl | rfl
    · rfl
    · rfl
    · rfl
    · exact h.links.one
    · exact h.new.one
    · rfl
    · rfl
    · rfl
    · rfl
    · rfl
    · rfl
end Go.Proofs.YtjgigcnjgblekaaDoor
