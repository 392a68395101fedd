/- One call on both tables (edictlaw01.tableStep): the ways without All. -/
import Derived.Test.YtblonickpmogiaaTabBoth
import Derived.Test.YtblonickpmogiaaRefTab3
import Derived.Test.YtblonickpmogiaaNumbers
import Derived.Test.YtblonickpmogiaaPairs
import Derived.Deep.RegionHeld3
import Derived.Deep.RegionWith
import Derived.Deep.DrawnRows
namespace Go.Proofs.Ytblonickpmogiaa
open Go.RowKit Go.Maps
attribute [local go_sem ↓] Go.wp_at_zero Go.wp_at_succ

def DoneT (base : Nat) (g1 m1 g2 : Nat) (w w' : World) : Prop := ∃ s1 s2 ks, BothT base w' g1 m1 s1 g2 s2 ks ∧ Below base w w'

/-- The call's box. -/
structure BoxT (W : World) (H : Nat) (kd : Int) (c : Cst) (N : Int) : Prop where
  o0 : W.cell? ⟨H, 0, none⟩ = some (.int .i64 kd)
  o1 : W.cell? ⟨H, 1, none⟩ = some (.int .i64 c.k)
  o2 : W.cell? ⟨H, 2, none⟩ = some (.int .i64 c.n)
  o3 : W.cell? ⟨H, 3, none⟩ = some (.string c.s)
  o4 : W.cell? ⟨H, 4, none⟩ = some (.int .i64 N)
theorem boxT_of {W : World} {H : Nat} {kd N : Int} {c : Cst} (h : W.heap[H]? = some (.cells #[.int .i64 kd, .int .i64 c.k, .int .i64 c.n, .string c.s, .int .i64 N] 86 (0, 0))) : BoxT W H kd c N :=
  ⟨cell_of_row W _ 0 _ _ _ h, cell_of_row W _ 1 _ _ _ h, cell_of_row W _ 2 _ _ _ h, cell_of_row W _ 3 _ _ _ h, cell_of_row W _ 4 _ _ _ h⟩

section
variable {base : Nat} {w : World} {g1 m1 : Nat} {s1 : Value} {g2 : Nat} {s2 : Value} {ks : List Cst}
theorem BothT.boxed (h : BothT base w g1 m1 s1 g2 s2 ks) (kd N : Int) (c : Cst) : ∃ W, W = w.alloc (.cells #[.int .i64 kd, .int .i64 c.k, .int .i64 c.n, .string c.s, .int .i64 N] 86) ∧
    W.heap[w.heap.size]? = some (.cells #[.int .i64 kd, .int .i64 c.k, .int .i64 c.n, .string c.s, .int .i64 N] 86 (0, 0)) ∧ BothT base W g1 m1 s1 g2 s2 ks ∧ Below base w W :=
  ⟨_, rfl, heap_alloc_new w _, h.below ((Below.refl _ _).alloc (Nat.le_refl _) _), (Below.refl _ _).alloc h.mid.hb _⟩

set_option maxRecDepth 100000 in
set_option maxHeartbeats 1000000 in
theorem tstep1 (h : BothT base w g1 m1 s1 g2 s2 ks) (c : Cst) (hc : c.ok) (N : Int) :
    Calls Try.prog 51 #[.pointer (some ⟨g1, 0, none⟩), .pointer (some ⟨g2, 0, none⟩), .agg #[.int .i64 1, .int .i64 c.k, .int .i64 c.n, .string c.s, .int .i64 N]] w fun e w' => e = .returned (.bool true) ∧ DoneT base g1 m1 g2 w w' := by
  obtain ⟨W, hW, hbox, B, hB⟩ := h.boxed 1 N c
  obtain ⟨r, er, ks', ok', len', nd', hx, hy⟩ := internT_two c hc h.ok h.len h.nd
  obtain ⟨o0, o1, o2, o3, o4⟩ := boxT_of hbox
  have HX := Lib.hid hx
  have HY := Lib.hid hy
  have M := B.mid
  have HBx := Lib.hid hbox
  have HK := Lib.hid (And.intro ok' (And.intro len' nd'))
  clear h hbox B hx hy ok' len' nd'
  subst hW
  go_enter Try.func51, Try.ntmps51
  go_wp2_with fail
  refine (HX.out _ _ _ _ _ M.hb M.x).mono ?_
  rintro e w1 ⟨rfl, hl⟩
  obtain ⟨t1, M1, b1⟩ := M.leftX hl
  have bx1 := M.boxX hl HBx.out
  have B1 := hB.trans b1
  clear M hl hB b1 o0 o1 o2 o3 o4
  obtain ⟨o0, o1, o2, o3, o4⟩ := boxT_of bx1
  go_wp2_with fail
  refine (HY.out _ _ _ _ M1.hb M1.y).mono ?_
  rintro e w2 ⟨rfl, hl⟩
  obtain ⟨t2, M2, b2⟩ := M1.leftY hl
  have B2 := B1.trans b2
  clear M1 hl B1 b2 o0 o1 o2 o3 o4 bx1
  go_wp2_with fail
  go_ret
  exact ⟨by first | rfl | simp, t1, t2, ks', ⟨M2, HK.out.1, HK.out.2.1, HK.out.2.2⟩, B2⟩

set_option maxRecDepth 100000 in
set_option maxHeartbeats 1000000 in
theorem tstep2 (h : BothT base w g1 m1 s1 g2 s2 ks) (c : Cst) (hc : c.ok) (N : Int) :
    Calls Try.prog 51 #[.pointer (some ⟨g1, 0, none⟩), .pointer (some ⟨g2, 0, none⟩), .agg #[.int .i64 2, .int .i64 c.k, .int .i64 c.n, .string c.s, .int .i64 N]] w fun e w' => e = .returned (.bool true) ∧ DoneT base g1 m1 g2 w w' := by
  obtain ⟨W, hW, hbox, B, hB⟩ := h.boxed 2 N c
  obtain ⟨r, hx, hy⟩ := findT_two (ks := ks) c hc h.len h.nd
  have BX := boxT_of hbox
  have o0 := BX.o0
  have HX := Lib.hid hx
  have HY := Lib.hid hy
  obtain ⟨S, hS⟩ : ∃ S : World → Prop, ∀ V, S V ↔ Below W.heap.size W V := ⟨_, fun _ => Iff.rfl⟩
  have hlt : w.heap.size < W.heap.size := lt_of_heap hbox
  have NE : Nonempty (Pt S) := ⟨⟨W, (hS _).2 (Below.refl _ _)⟩⟩
  have SD : Hid (S W.drew) := (hS _).2 (Below.refl _ _).drew
  have p1 := fun p : Pt S => (((hS _).1 p.property).cell (p := ⟨w.heap.size, 1, none⟩) hlt).trans BX.o1
  have p2 := fun p : Pt S => (((hS _).1 p.property).cell (p := ⟨w.heap.size, 2, none⟩) hlt).trans BX.o2
  have p3 := fun p : Pt S => (((hS _).1 p.property).cell (p := ⟨w.heap.size, 3, none⟩) hlt).trans BX.o3
  have HP := Lib.hid (fun (p : Pt S) => And.intro (B.mid.x.below ((hS _).1 p.property)) (B.mid.y.below ((hS _).1 p.property)))
  have ST := Lib.hid (fun (p : Pt S) V (hb : Below p.1.heap.size p.1 V) => (hS V).2 (below_step ((hS _).1 p.property) hb))
  have FIN := Lib.hid (fun (V : World) (hV : S V) => (show DoneT base g1 m1 g2 w V from ⟨s1, s2, ks, B.below ((hS _).1 hV), hB.trans (((hS _).1 hV).mono B.mid.hb)⟩))
  clear h hbox B hx hy hB BX hS hlt
  subst hW
  go_enter Try.func51, Try.ntmps51
  go_wp2_with fail
  refine wp_region_class (S := S) SD.out (by kernel_rfl) (by kernel_rfl) ?_
  repeat (go_big_quiet_step (first
    | (go_at_call 41; refine (HX.out _ _ _ _ _ (HP.out _).1).mono ?_; rintro e w' ⟨rfl, hbel⟩; exact ⟨rfl, ⟨w', ST.out _ _ hbel⟩, rfl⟩)
    | (go_at_call 87; refine (HY.out _ _ _ _ (HP.out _).2).mono ?_; rintro e w' ⟨rfl, hbel⟩; exact ⟨rfl, ⟨w', ST.out _ _ hbel⟩, rfl⟩)))
  refine wpQuiet_nil ?_
  rintro _ ⟨⟨V, hV⟩, rfl⟩
  have HF := Lib.hid (FIN.out _ hV)
  clear p1 p2 p3 NE hV
  go_wp2_with fail
  go_ret
  exact ⟨by first | rfl | simp, HF.out⟩

set_option maxRecDepth 100000 in
set_option maxHeartbeats 1000000 in
theorem tstep5 (h : BothT base w g1 m1 s1 g2 s2 ks) (c : Cst) (N : Int) :
    Calls Try.prog 51 #[.pointer (some ⟨g1, 0, none⟩), .pointer (some ⟨g2, 0, none⟩), .agg #[.int .i64 5, .int .i64 c.k, .int .i64 c.n, .string c.s, .int .i64 N]] w fun e w' => e = .returned (.bool true) ∧ DoneT base g1 m1 g2 w w' := by
  obtain ⟨W, hW, hbox, B, hB⟩ := h.boxed 5 N c
  have o0 := (boxT_of hbox).o0
  have HX := Lib.hid (lenT B.mid.x)
  have HY := Lib.hid (lenRT B.mid.y)
  have HD : Hid (DoneT base g1 m1 g2 w W) := ⟨s1, s2, ks, B, hB⟩
  clear h hbox hB B
  subst hW
  go_enter Try.func51, Try.ntmps51
  go_wp2_with fail
  refine HX.out.mono ?_
  rintro e w1 ⟨rfl, rfl⟩
  go_wp2_with fail
  refine HY.out.mono ?_
  rintro e w1 ⟨rfl, rfl⟩
  go_wp2_with fail
  go_ret
  exact ⟨by simp, HD.out⟩

set_option maxRecDepth 100000 in
set_option maxHeartbeats 1000000 in
theorem tstep4 (h : BothT base w g1 m1 s1 g2 s2 ks) (c : Cst) (N : Int) :
    Calls Try.prog 51 #[.pointer (some ⟨g1, 0, none⟩), .pointer (some ⟨g2, 0, none⟩), .agg #[.int .i64 4, .int .i64 c.k, .int .i64 c.n, .string c.s, .int .i64 N]] w fun e w' => e = .returned (.bool true) ∧ DoneT base g1 m1 g2 w w' := by
  obtain ⟨W, hW, hbox, B, hB⟩ := h.boxed 4 N c
  obtain ⟨v, b, hx, hy⟩ := constT_two (ks := ks) N
  obtain ⟨o0, o1, o2, o3, o4⟩ := boxT_of hbox
  have hlt := lt_of_heap hbox
  have HX := Lib.hid (hx _ _ _ _ _ B.mid.x)
  have HY := Lib.hid (fun V (hV : Below W.heap.size W V) => hy _ _ _ _ (B.mid.y.below hV))
  have HD := Lib.hid (fun V (hV : Below W.heap.size W V) => (show DoneT base g1 m1 g2 w V from ⟨s1, s2, ks, B.below hV, hB.trans (hV.mono B.mid.hb)⟩))
  have CL := Lib.hid (fun V (hV : Below W.heap.size W V) => (hV.cell (p := ⟨w.heap.size, 4, none⟩) hlt).trans o4)
  have SA := Lib.hid (fun V => same_self v V)
  obtain ⟨WS, hWS⟩ : ∃ WS : World, WS = W := ⟨_, rfl⟩
  rw [← hWS] at HY HD CL hlt
  have HLT := Lib.hid hlt
  have R0 : Hid (Below WS.heap.size WS W) := by rw [hWS]; exact Below.refl _ _
  clear h hbox hB B hx hy hWS hlt
  subst hW
  go_enter Try.func51, Try.ntmps51
  go_wp2_with fail
  refine HX.out.mono ?_
  rintro e w1 ⟨rfl, hb1⟩
  have R1 := Lib.hid (below_step R0.out hb1)
  have R1' := Lib.hid (R1.out.alloc R1.out.size (.cells #[.int .i64 v.k, .int .i64 v.n, .string v.s] 27))
  have q4 := CL.out _ R1.out
  have hq1 : w.heap.size < w1.heap.size := Nat.lt_of_lt_of_le HLT.out R1.out.size
  clear hb1 o0 o1 o2 o3 o4
  go_wp2_with fail
  refine (HY.out _ R1'.out).mono ?_
  rintro e w2 ⟨rfl, hb2⟩
  obtain ⟨x0, x1, x2⟩ := box_cells hb2
  have hq2 : w1.heap.size < w2.heap.size := by have := hb2.size; simp only [World.size_alloc] at this; omega
  have R2 := Lib.hid (below_step R1'.out hb2)
  have R2' := Lib.hid (R2.out.alloc R2.out.size (.cells #[.int .i64 v.k, .int .i64 v.n, .string v.s] 27))
  clear hb2 q4 hq1
  go_wp2_with fail
  refine (SA.out _).mono ?_
  rintro e w3 ⟨rfl, hb3⟩
  have R3 := Lib.hid (below_step R2'.out hb3)
  clear hb3 x0 x1 x2 hq2
  go_wp2_with fail
  go_ret
  exact ⟨by first | rfl | simp, HD.out _ R3.out⟩

set_option maxRecDepth 100000 in
set_option maxHeartbeats 1000000 in
theorem tstep3 (h : BothT base w g1 m1 s1 g2 s2 ks) (c : Cst) (N : Int) :
    Calls Try.prog 51 #[.pointer (some ⟨g1, 0, none⟩), .pointer (some ⟨g2, 0, none⟩), .agg #[.int .i64 3, .int .i64 c.k, .int .i64 c.n, .string c.s, .int .i64 N]] w fun e w' => e = .returned (.bool true) ∧ DoneT base g1 m1 g2 w w' := by
  obtain ⟨W, hW, hbox, B, hB⟩ := h.boxed 3 N c
  obtain ⟨v, b, hx, hy⟩ := atT_two (ks := ks) N
  obtain ⟨o0, o1, o2, o3, o4⟩ := boxT_of hbox
  have hlt := lt_of_heap hbox
  have HX := Lib.hid (fun V (hV : Below W.heap.size W V) => hx _ _ _ _ _ (B.mid.x.below hV))
  have HY := Lib.hid (fun V (hV : Below W.heap.size W V) => hy _ _ _ _ (B.mid.y.below hV))
  have HD := Lib.hid (fun V (hV : Below W.heap.size W V) => (show DoneT base g1 m1 g2 w V from ⟨s1, s2, ks, B.below hV, hB.trans (hV.mono B.mid.hb)⟩))
  have CL := Lib.hid (fun V (hV : Below W.heap.size W V) => (hV.cell (p := ⟨w.heap.size, 4, none⟩) hlt).trans o4)
  have SA := Lib.hid (fun V => same_self v V)
  obtain ⟨WS, hWS⟩ : ∃ WS : World, WS = W := ⟨_, rfl⟩
  rw [← hWS] at HX HY HD CL hlt
  have HLT := Lib.hid hlt
  have R0 : Hid (Below WS.heap.size WS W) := by rw [hWS]; exact Below.refl _ _
  clear h hbox hB B hx hy hWS hlt
  subst hW
  have HWS := Lib.hid (show WS.heap.size ≤ w.heap.size + 1 by rw [← World.size_alloc w]; exact R0.out.size)
  have RB := Lib.hid (R0.out.alloc R0.out.size (.cells #[.int .i64 0, .int .i64 0, .string ⟨#[]⟩] 27)).drew
  have HBB := Lib.hid (show (((w.alloc (.cells #[.int .i64 3, .int .i64 c.k, .int .i64 c.n, .string c.s, .int .i64 N] 86)).alloc (.cells #[.int .i64 0, .int .i64 0, .string ⟨#[]⟩] 27)).drew.heap[w.heap.size + 1]? = some (.cells #[.int .i64 0, .int .i64 0, .string ⟨#[]⟩] 27 (0, 0))) ∧ w.heap.size + 1 < ((w.alloc (.cells #[.int .i64 3, .int .i64 c.k, .int .i64 c.n, .string c.s, .int .i64 N] 86)).alloc (.cells #[.int .i64 0, .int .i64 0, .string ⟨#[]⟩] 27)).drew.heap.size from
    ⟨by have := heap_alloc_new (w.alloc (.cells #[.int .i64 3, .int .i64 c.k, .int .i64 c.n, .string c.s, .int .i64 N] 86)) (.cells #[.int .i64 0, .int .i64 0, .string ⟨#[]⟩] 27); rw [World.size_alloc] at this; exact this, by simp⟩)
  go_enter Try.func51, Try.ntmps51
  go_wp2_with fail
  go_region_with (go_at_call 54; first
    | (refine (HX.out _ R0.out.drew).mono ?_; rintro e w1 ⟨rfl, hb1⟩; have R1 := Lib.hid (below_step R0.out.drew hb1); clear hb1)
    | (refine (HX.out _ RB.out).mono ?_; rintro e w1 ⟨rfl, hb1⟩; have hx := (hb1.block _ HBB.out.2).trans HBB.out.1; have y0 := cell_of_row w1 _ 0 _ _ _ hx; have y1 := cell_of_row w1 _ 1 _ _ _ hx; have y2 := cell_of_row w1 _ 2 _ _ _ hx; have z0 := frozen_of_row w1 _ 0 _ _ hx; have z1 := frozen_of_row w1 _ 1 _ _ hx; have z2 := frozen_of_row w1 _ 2 _ _ hx; have HXB := Lib.hid hx; have R1 := Lib.hid (below_step RB.out hb1); clear hb1 hx))
  · have RX := Lib.hid (R1.out.alloc R1.out.size (.cells #[.int .i64 v.k, .int .i64 v.n, .string v.s] 27))
    have q4 := CL.out _ R1.out
    have hq1 : w.heap.size < w1.heap.size := Nat.lt_of_lt_of_le HLT.out R1.out.size
    clear o0 o1 o2 o3 o4
    go_wp2_with fail
    refine (HY.out _ RX.out).mono ?_
    rintro e w2 ⟨rfl, hb2⟩
    obtain ⟨x0, x1, x2⟩ := box_cells hb2
    have hq2 : w1.heap.size < w2.heap.size := by have := hb2.size; simp only [World.size_alloc] at this; omega
    have R2 := Lib.hid (below_step RX.out hb2)
    have R2' := Lib.hid (R2.out.alloc R2.out.size (.cells #[.int .i64 v.k, .int .i64 v.n, .string v.s] 27))
    clear hb2 q4 hq1
    go_wp2_with fail
    refine (SA.out _).mono ?_
    rintro e w3 ⟨rfl, hb3⟩
    have R3 := Lib.hid (below_step R2'.out hb3)
    clear hb3 x0 x1 x2 hq2
    go_wp2_with fail
    go_ret
    exact ⟨by first | rfl | simp, HD.out _ R3.out⟩
  · have q4 := CL.out _ R1.out
    have hq1 : w.heap.size < w1.heap.size := Nat.lt_of_lt_of_le HLT.out R1.out.size
    obtain ⟨X, hX⟩ : ∃ X, X = ((w1.setCell ⟨w.heap.size + 1, 0, none⟩ (.int .i64 v.k)).setCell ⟨w.heap.size + 1, 1, none⟩ (.int .i64 v.n)).setCell ⟨w.heap.size + 1, 2, none⟩ (.string v.s) := ⟨_, rfl⟩
    have hXB : X.heap[w.heap.size + 1]? = some (.cells #[.int .i64 v.k, .int .i64 v.n, .string v.s] 27 (0, 0)) := by
      rw [hX]
      exact heap_setCell_same _ _ 2 _ _ (.string v.s) (heap_setCell_same _ _ 1 _ _ (.int .i64 v.n) (heap_setCell_same _ _ 0 _ _ (.int .i64 v.k) HXB.out))
    have RX : Hid (Below WS.heap.size WS X) := by
      rw [hX]
      exact ((R1.out.setCell (p := ⟨w.heap.size + 1, 0, none⟩) HWS.out _).setCell (p := ⟨w.heap.size + 1, 1, none⟩) HWS.out _).setCell (p := ⟨w.heap.size + 1, 2, none⟩) HWS.out _
    clear o0 o1 o2 o3 o4
    go_wp2_with fail
    rw [← hX]
    refine (HY.out _ RX.out).mono ?_
    rintro e w2 ⟨rfl, hb2⟩
    have hx2 := (hb2.block _ (lt_of_heap hXB)).trans hXB
    have x0 := cell_of_row w2 _ 0 _ _ _ hx2; have x1 := cell_of_row w2 _ 1 _ _ _ hx2; have x2 := cell_of_row w2 _ 2 _ _ _ hx2
    simp only [List.getElem?_toArray, List.getElem?_cons_zero, List.getElem?_cons_succ] at x0 x1 x2
    have hq2 : w.heap.size + 1 < w2.heap.size := lt_of_heap hx2
    clear hx2 y0 y1 y2 z0 z1 z2 hX hXB
    have R2 := Lib.hid (below_step RX.out hb2)
    have R2' := Lib.hid (R2.out.alloc R2.out.size (.cells #[.int .i64 v.k, .int .i64 v.n, .string v.s] 27))
    clear hb2 q4 hq1
    go_wp2_with fail
    refine (SA.out _).mono ?_
    rintro e w3 ⟨rfl, hb3⟩
    have R3 := Lib.hid (below_step R2'.out hb3)
    clear hb3 x0 x1 x2 hq2
    go_wp2_with fail
    go_ret
    exact ⟨by first | rfl | simp, HD.out _ R3.out⟩
  · have q4 := CL.out _ R1.out
    have hq1 : w.heap.size < w1.heap.size := Nat.lt_of_lt_of_le HLT.out R1.out.size
    obtain ⟨X, hX⟩ : ∃ X, X = ((w1.setCell ⟨w.heap.size + 1, 0, none⟩ (.int .i64 v.k)).setCell ⟨w.heap.size + 1, 1, none⟩ (.int .i64 v.n)).setCell ⟨w.heap.size + 1, 2, none⟩ (.string v.s) := ⟨_, rfl⟩
    have hXB : X.heap[w.heap.size + 1]? = some (.cells #[.int .i64 v.k, .int .i64 v.n, .string v.s] 27 (0, 0)) := by
      rw [hX]
      exact heap_setCell_same _ _ 2 _ _ (.string v.s) (heap_setCell_same _ _ 1 _ _ (.int .i64 v.n) (heap_setCell_same _ _ 0 _ _ (.int .i64 v.k) HXB.out))
    have RX : Hid (Below WS.heap.size WS X) := by
      rw [hX]
      exact ((R1.out.setCell (p := ⟨w.heap.size + 1, 0, none⟩) HWS.out _).setCell (p := ⟨w.heap.size + 1, 1, none⟩) HWS.out _).setCell (p := ⟨w.heap.size + 1, 2, none⟩) HWS.out _
    clear o0 o1 o2 o3 o4
    go_wp2_with fail
    rw [← hX]
    refine (HY.out _ RX.out).mono ?_
    rintro e w2 ⟨rfl, hb2⟩
    have hx2 := (hb2.block _ (lt_of_heap hXB)).trans hXB
    have x0 := cell_of_row w2 _ 0 _ _ _ hx2; have x1 := cell_of_row w2 _ 1 _ _ _ hx2; have x2 := cell_of_row w2 _ 2 _ _ _ hx2
    simp only [List.getElem?_toArray, List.getElem?_cons_zero, List.getElem?_cons_succ] at x0 x1 x2
    have hq2 : w.heap.size + 1 < w2.heap.size := lt_of_heap hx2
    clear hx2 y0 y1 y2 z0 z1 z2 hX hXB
    have R2 := Lib.hid (below_step RX.out hb2)
    have R2' := Lib.hid (R2.out.alloc R2.out.size (.cells #[.int .i64 v.k, .int .i64 v.n, .string v.s] 27))
    clear hb2 q4 hq1
    go_wp2_with fail
    refine (SA.out _).mono ?_
    rintro e w3 ⟨rfl, hb3⟩
    have R3 := Lib.hid (below_step R2'.out hb3)
    clear hb3 x0 x1 x2 hq2
    go_wp2_with fail
    go_ret
    exact ⟨by first | rfl | simp, HD.out _ R3.out⟩

set_option maxRecDepth 100000 in
set_option maxHeartbeats 1000000 in
theorem tstepO (h : BothT base w g1 m1 s1 g2 s2 ks) (c : Cst) (N : Int) (kd : Int) (k1 : kd ≠ 1) (k2 : kd ≠ 2) (k3 : kd ≠ 3) (k4 : kd ≠ 4) (k5 : kd ≠ 5) (k6 : kd ≠ 6) (k7 : kd ≠ 7) (k8 : kd ≠ 8) (k9 : kd ≠ 9) :
    Calls Try.prog 51 #[.pointer (some ⟨g1, 0, none⟩), .pointer (some ⟨g2, 0, none⟩), .agg #[.int .i64 kd, .int .i64 c.k, .int .i64 c.n, .string c.s, .int .i64 N]] w fun e w' => e = .returned (.bool true) ∧ DoneT base g1 m1 g2 w w' := by
  obtain ⟨W, hW, hbox, B, hB⟩ := h.boxed kd N c
  have o0 := (boxT_of hbox).o0
  have HD : Hid (DoneT base g1 m1 g2 w W) := ⟨s1, s2, ks, B, hB⟩
  have e1 : (kd == 1) = false := by simpa using k1
  have e2 : (kd == 2) = false := by simpa using k2
  have e3 : (kd == 3) = false := by simpa using k3
  have e4 : (kd == 4) = false := by simpa using k4
  have e5 : (kd == 5) = false := by simpa using k5
  have e6 : (kd == 6) = false := by simpa using k6
  have e7 : (kd == 7) = false := by simpa using k7
  have e8 : (kd == 8) = false := by simpa using k8
  have e9 : (kd == 9) = false := by simpa using k9
  clear h hbox hB B k1 k2 k3 k4 k5 k6 k7 k8 k9
  subst hW
  go_enter Try.func51, Try.ntmps51
  go_wp2_with fail
  go_ret
  exact ⟨rfl, HD.out⟩

set_option maxRecDepth 100000 in
set_option maxHeartbeats 1000000 in
theorem tstep8 (h : BothT base w g1 m1 s1 g2 s2 ks) (c : Cst) (N : Int) :
    Calls Try.prog 51 #[.pointer (some ⟨g1, 0, none⟩), .pointer (some ⟨g2, 0, none⟩), .agg #[.int .i64 8, .int .i64 c.k, .int .i64 c.n, .string c.s, .int .i64 N]] w fun e w' => e = .returned (.bool true) ∧ DoneT base g1 m1 g2 w w' := by
  obtain ⟨W, hW, hbox, B, hB⟩ := h.boxed 8 N c
  have o0 := (boxT_of hbox).o0
  obtain ⟨l, hp, hsd⟩ := sdIds_is ks
  have hl6 := h.len
  have hll := ids_len hp
  have HX := Lib.hid (sorted_l B.mid.x h.nd hp hsd (by omega))
  have HY := Lib.hid (fun V (hV : Below W.heap.size W V) => sortedRT (B.mid.y.below hV) (by omega) h.nd h.ok hp hsd)
  have HD := Lib.hid (fun V (hV : Below W.heap.size W V) => (show DoneT base g1 m1 g2 w V from ⟨s1, s2, ks, B.below hV, hB.trans (hV.mono B.mid.hb)⟩))
  have HL := Lib.hid (show l.length ≤ 70000 by omega)
  obtain ⟨WS, hWS⟩ : ∃ WS : World, WS = W := ⟨_, rfl⟩
  rw [← hWS] at HY HD
  have R0 : Hid (Below WS.heap.size WS W) := by rw [hWS]; exact Below.refl _ _
  clear h hbox hB B hWS hp hsd hl6 hll
  subst hW
  go_enter Try.func51, Try.ntmps51
  go_wp2_with fail
  refine HX.out.mono ?_
  rintro e w1 ⟨a1, c1, rfl, q1, hb1⟩
  have R1 := Lib.hid (below_step R0.out hb1)
  have Q1 := Lib.hid q1
  clear hb1 o0 q1
  go_wp2_with fail
  refine (HY.out _ R1.out).mono ?_
  rintro e w2 ⟨u2, rfl, q2, hb2⟩
  have R2 := Lib.hid (below_step R1.out hb2)
  have I := Lib.hid (intsW _ _ _ _ l w2 (Q1.out.turns (Turns.of_below (S := []) hb2) (fun _ _ => by simp)) q2 HL.out)
  clear hb2 q2
  go_wp2_with fail
  refine I.out.mono ?_
  rintro e w3 ⟨rfl, hb3⟩
  have R3 := Lib.hid (below_step R2.out hb3)
  clear hb3
  go_wp2_with fail
  go_ret
  exact ⟨rfl, HD.out _ R3.out⟩

set_option maxRecDepth 100000 in
set_option maxHeartbeats 1000000 in
theorem tstep9 (h : BothT base w g1 m1 s1 g2 s2 ks) (c : Cst) (N : Int) :
    Calls Try.prog 51 #[.pointer (some ⟨g1, 0, none⟩), .pointer (some ⟨g2, 0, none⟩), .agg #[.int .i64 9, .int .i64 c.k, .int .i64 c.n, .string c.s, .int .i64 N]] w fun e w' => e = .returned (.bool true) ∧ DoneT base g1 m1 g2 w w' := by
  obtain ⟨W, hW, hbox, B, hB⟩ := h.boxed 9 N c
  have o0 := (boxT_of hbox).o0
  obtain ⟨l, hp, hsd⟩ := sdIds_is ks
  have hl6 := h.len
  have hll := ids_len hp
  have HX := Lib.hid (ranks_l B.mid.x h.nd hp hsd (by omega))
  have HY := Lib.hid (fun V (hV : Below W.heap.size W V) => ranksRT (B.mid.y.below hV) (by omega) h.nd h.ok hp hsd)
  have HD := Lib.hid (fun V (hV : Below W.heap.size W V) => (show DoneT base g1 m1 g2 w V from ⟨s1, s2, ks, B.below hV, hB.trans (hV.mono B.mid.hb)⟩))
  have HL := Lib.hid (show (rk l ks.length).length ≤ 70000 by rw [rk_len hp]; omega)
  obtain ⟨WS, hWS⟩ : ∃ WS : World, WS = W := ⟨_, rfl⟩
  rw [← hWS] at HY HD
  have R0 : Hid (Below WS.heap.size WS W) := by rw [hWS]; exact Below.refl _ _
  obtain ⟨rs, hrs⟩ : ∃ rs, rs = rk l ks.length := ⟨_, rfl⟩
  rw [← hrs] at HX HY HL
  clear h hbox hB B hWS hp hsd hl6 hll hrs
  subst hW
  go_enter Try.func51, Try.ntmps51
  go_wp2_with fail
  refine HX.out.mono ?_
  rintro e w1 ⟨a1, c1, rfl, q1, hb1⟩
  have R1 := Lib.hid (below_step R0.out hb1)
  have Q1 := Lib.hid q1
  clear hb1 o0 q1
  go_wp2_with fail
  refine (HY.out _ R1.out).mono ?_
  rintro e w2 ⟨u2, rfl, q2, hb2⟩
  have R2 := Lib.hid (below_step R1.out hb2)
  have I := Lib.hid (intsW _ _ _ _ rs w2 (Q1.out.turns (Turns.of_below (S := []) hb2) (fun _ _ => by simp)) q2 HL.out)
  clear hb2 q2
  go_wp2_with fail
  refine I.out.mono ?_
  rintro e w3 ⟨rfl, hb3⟩
  have R3 := Lib.hid (below_step R2.out hb3)
  clear hb3
  go_wp2_with fail
  go_ret
  exact ⟨rfl, HD.out _ R3.out⟩
set_option maxRecDepth 100000 in
set_option maxHeartbeats 1000000 in
theorem tstep7 (h : BothT base w g1 m1 s1 g2 s2 ks) (c : Cst) (N : Int) (n1 : -9223372036854775808 ≤ N) (n2 : N ≤ 9223372036854775807) :
    Calls Try.prog 51 #[.pointer (some ⟨g1, 0, none⟩), .pointer (some ⟨g2, 0, none⟩), .agg #[.int .i64 7, .int .i64 c.k, .int .i64 c.n, .string c.s, .int .i64 N]] w fun e w' => e = .returned (.bool true) ∧ DoneT base g1 m1 g2 w w' := by
  obtain ⟨W, hW, hbox, B, hB⟩ := h.boxed 7 N c
  have hl6 := h.len
  have M : MidT base W.drew g1 m1 s1 ks g2 s2 ks := B.mid.below (Below.refl _ _).drew
  have hbd : W.drew.heap[w.heap.size]? = _ := hbox
  have hBd : Below base w W.drew := hB.drew
  obtain ⟨o0, o1, o2, o3, o4⟩ := boxT_of hbox
  have HX := Lib.hid (cutT M.x N n1 n2 (by omega))
  have HK := Lib.hid (show (∀ x ∈ ks.take N.toNat, x.ok) ∧ (ks.take N.toNat).length ≤ 65536 ∧ (ks.take N.toNat).Nodup from ⟨fun x hx => h.ok x (List.mem_of_mem_take hx), by rw [List.length_take]; omega, h.nd.sublist (List.take_sublist _ _)⟩)
  have HCY := Lib.hid (fun V t1 ls (hm : MidT base V g1 m1 t1 ls g2 s2 ks) => cutRT hm.y hm.hb (by omega) N n1 n2)
  have HBd := Lib.hid hbd
  clear h hbox B hB n1 n2 hl6 hbd
  subst hW
  go_enter Try.func51, Try.ntmps51
  go_wp2_with fail
  go_region_with (go_at_call 55; refine HX.out.mono ?_; rintro e w1 ⟨rfl, hl⟩; obtain ⟨t1, M1, b1⟩ := M.leftX hl; have bx1 := M.boxX hl HBd.out; obtain ⟨q0, q1, q2, q3, q4⟩ := boxT_of bx1; have B1 := Lib.hid (hBd.trans b1); clear hl b1)
  all_goals
    clear o0 o1 o2 o3 o4
    go_wp2_with fail
    refine (HCY.out _ _ _ M1).mono ?_
    rintro e w2 ⟨rfl, hl⟩
    obtain ⟨t2, M2, b2⟩ := M1.leftY hl
    have B2 := Lib.hid (B1.out.trans b2)
    clear hl b2 q0 q1 q2 q3 q4
    go_wp2_with fail
    go_ret
    exact ⟨rfl, t1, t2, _, ⟨M2, HK.out.1, HK.out.2.1, HK.out.2.2⟩, B2.out⟩

set_option maxRecDepth 100000 in
set_option maxHeartbeats 1000000 in
theorem tstep6 (h : BothT base w g1 m1 s1 g2 s2 ks) (c : Cst) (N : Int) (n1 : -9223372036854775808 ≤ N) (n2 : N ≤ 9223372036854775807) :
    Calls Try.prog 51 #[.pointer (some ⟨g1, 0, none⟩), .pointer (some ⟨g2, 0, none⟩), .agg #[.int .i64 6, .int .i64 c.k, .int .i64 c.n, .string c.s, .int .i64 N]] w fun e w' => e = .returned (.bool true) ∧ DoneT base g1 m1 g2 w w' := by
  obtain ⟨W, hW, hbox, B, hB⟩ := h.boxed 6 N c
  have hl6 := h.len
  obtain ⟨o0, o1, o2, o3, o4⟩ := boxT_of hbox
  have hlt := lt_of_heap hbox
  have HX := Lib.hid (pairsW B.mid.x N (by omega))
  have HY := Lib.hid (fun V (hV : Below W.heap.size W V) => allRT (B.mid.y.below hV) (by omega))
  have HD := Lib.hid (fun V (hV : Below W.heap.size W V) => (show DoneT base g1 m1 g2 w V from ⟨s1, s2, ks, B.below hV, hB.trans (hV.mono B.mid.hb)⟩))
  have CL := Lib.hid (fun V (hV : Below W.heap.size W V) => (hV.cell (p := ⟨w.heap.size, 4, none⟩) hlt).trans o4)
  obtain ⟨WS, hWS⟩ : ∃ WS : World, WS = W := ⟨_, rfl⟩
  rw [← hWS] at HY HD CL
  have R0 : Hid (Below WS.heap.size WS W) := by rw [hWS]; exact Below.refl _ _
  have HL := Lib.hid hl6
  clear h hbox hB B hWS hlt hl6
  subst hW
  go_enter Try.func51, Try.ntmps51
  go_wp2_with fail
  refine HX.out.mono ?_
  rintro e w1 ⟨u1, rfl, q1, hb1⟩
  have R1 := Lib.hid (below_step R0.out hb1)
  have Q1 := Lib.hid q1
  clear hb1 o0 o1 o2 o3 o4 q1
  go_wp2_with fail
  refine (HY.out _ R1.out).mono ?_
  rintro e w2 ⟨u2, rfl, q2, hb2⟩
  have R2 := Lib.hid (below_step R1.out hb2)
  have Q2 := Lib.hid q2
  have q4 := CL.out _ R2.out
  have q1' := ownC_below Q1.out hb2
  clear hb2 q2
  by_cases hN : 0 < N ∧ N < ks.length
  · obtain ⟨n, rfl⟩ : ∃ n : Nat, N = (n : Int) := ⟨N.toNat, by omega⟩
    obtain ⟨b, cp, rfl, hbb, hc1, hc2⟩ := own_form3 Q2.out (by omega)
    obtain ⟨a1, c1, rfl, S1⟩ := own_slC q1'
    have e1 : cutN n ks = ks.take n := by unfold cutN; rw [if_pos hN.1, Int.toNat_natCast]
    have hl : (cutN n ks).length = n := by rw [e1, List.length_take]; omega
    have S2 := own_sub Q2.out 0 n
    rw [List.drop_zero, Nat.zero_mul, ← e1] at S2
    have CC := Lib.hid (consts_same a1 (some ⟨b, 0, none⟩) c1 cp (cutN n ks) w2 S1 S2 (by rw [hl]; have := HL.out; omega))
    rw [hl] at CC ⊢
    have f1 : (0 : Int) < (n : Int) := hN.1
    have f2 : (n : Int) < (ks.length : Int) := hN.2
    have f3 : (0 : Int) ≤ (n : Int) := by omega
    have f4 : (n : Int) ≤ (cp : Int) := by omega
    unfold maxLen at hc2
    clear e1 hl S1 S2 q1' hN
    go_wp2_with fail
    refine CC.out.mono ?_
    rintro e w3 ⟨rfl, hb3⟩
    have R3 := Lib.hid (below_step R2.out hb3)
    clear hb3
    go_wp2_with fail
    go_ret
    exact ⟨rfl, HD.out _ R3.out⟩
  · have e1 : cutN N ks = ks := by
      unfold cutN
      split
      · exact List.take_of_length_le (by omega)
      · rfl
    rw [e1] at q1'
    obtain ⟨a1, c1, rfl, S1⟩ := own_slC q1'
    obtain ⟨a2, c2, rfl, S2⟩ := own_slC Q2.out
    have CC := Lib.hid (consts_same a1 a2 c1 c2 ks w2 S1 S2 (by have := HL.out; omega))
    clear e1 S1 S2 q1'
    by_cases h0 : 0 < N
    · have f2 : (ks.length : Int) ≤ N := by omega
      clear hN
      go_wp2_with fail
      refine CC.out.mono ?_
      rintro e w3 ⟨rfl, hb3⟩
      have R3 := Lib.hid (below_step R2.out hb3)
      clear hb3
      go_wp2_with fail
      go_ret
      exact ⟨rfl, HD.out _ R3.out⟩
    · have f2 : N ≤ 0 := by omega
      clear hN h0
      go_wp2_with fail
      refine CC.out.mono ?_
      rintro e w3 ⟨rfl, hb3⟩
      have R3 := Lib.hid (below_step R2.out hb3)
      clear hb3
      go_wp2_with fail
      go_ret
      exact ⟨rfl, HD.out _ R3.out⟩

/-- Any call. -/
theorem tstep_any (h : BothT base w g1 m1 s1 g2 s2 ks) (kd : Int) (c : Cst) (hc : c.ok) (N : Int) (n1 : -9223372036854775808 ≤ N) (n2 : N ≤ 9223372036854775807) :
    Calls Try.prog 51 #[.pointer (some ⟨g1, 0, none⟩), .pointer (some ⟨g2, 0, none⟩), .agg #[.int .i64 kd, .int .i64 c.k, .int .i64 c.n, .string c.s, .int .i64 N]] w fun e w' => e = .returned (.bool true) ∧ DoneT base g1 m1 g2 w w' := by
  by_cases k1 : kd = 1
  · subst k1; exact tstep1 h c hc N
  by_cases k2 : kd = 2
  · subst k2; exact tstep2 h c hc N
  by_cases k3 : kd = 3
  · subst k3; exact tstep3 h c N
  by_cases k4 : kd = 4
  · subst k4; exact tstep4 h c N
  by_cases k5 : kd = 5
  · subst k5; exact tstep5 h c N
  by_cases k6 : kd = 6
  · subst k6; exact tstep6 h c N n1 n2
  by_cases k7 : kd = 7
  · subst k7; exact tstep7 h c N n1 n2
  by_cases k8 : kd = 8
  · subst k8; exact tstep8 h c N
  by_cases k9 : kd = 9
  · subst k9; exact tstep9 h c N
  exact tstepO h c N kd k1 k2 k3 k4 k5 k6 k7 k8 k9
end
end Go.Proofs.Ytblonickpmogiaa
