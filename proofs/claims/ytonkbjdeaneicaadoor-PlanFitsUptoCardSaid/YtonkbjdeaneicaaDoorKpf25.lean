/- plan.nodeText: the walk. Printed by wip/bin/txd.py. The opening of arguments: a plan; how long its lists are. -/
import Derived.Test.YtonkbjdeaneicaaDoorKpf06
import Derived.Test.YtonkbjdeaneicaaDoorKpf10
import Derived.Test.YtonkbjdeaneicaaDoorKpf24
namespace Go.Proofs.YtonkbjdeaneicaaDoor
open Go Go.RowKit Pln Classical

theorem box_cellD {w wr : World} {cs : Array Value} {T : TypeId} (hb : Below (w.heap.size + 1) (w.alloc (.cells cs T)) wr) (j : Nat) {u : Value} (hu : cs.toList[j]? = some u) : wr.cell? ⟨w.heap.size, j, none⟩ = some u :=
  (hb.cell (p := ⟨w.heap.size, j, none⟩) (by simp)).trans (cell_of_row _ _ j _ _ _ (heap_alloc_new w _)) |>.trans (by rw [← Array.getElem?_toList]; exact hu)
/-- What is asked of a node that is written out. -/
structure NdT (F : Nat → Prop) (w : World) (n : Nd) (lv mv : Value) : Prop where
  ok : i64ok n.kind ∧ i64ok n.parent ∧ i64ok n.alpha ∧ i64ok n.width ∧ i64ok n.test.op ∧ i64ok n.test.l.n ∧ i64ok n.test.r.n
  links : RSl F w 2 ELnk lv n.links
  new : RSl F w 1 EInt mv n.new
  ln : n.links.length ≤ 1048576
  nn : n.new.length ≤ 1048576
/-- What stands behind the head. -/
def restT (n : Nd) : List UInt8 := linksT n ++ newT n ++ widthT n
theorem linksT_len {F : Nat → Prop} {w : World} {n : Nd} {lv mv : Value} (h : NdT F w n lv mv) : (Lib.join (linkPs n.links n.links.length) sepT).length ≤ 200000000 := by
  have h1 := join_len (m := 100) (linkPs n.links n.links.length) (linkPs_le _ (fun x hx => by obtain ⟨cs, _, h1, h2⟩ := memE h.links hx; exact ⟨h1, h2⟩))
  rw [linkPs_len] at h1
  have := h.ln
  omega
theorem newT_len {F : Nat → Prop} {w : World} {n : Nd} {lv mv : Value} (h : NdT F w n lv mv) : (Lib.join (placePs n.new n.new.length) sepT).length ≤ 200000000 := by
  have h1 := join_len (m := 100) (placePs n.new n.new.length) (placePs_le _ (fun x hx => by obtain ⟨cs, _, h1⟩ := memE h.new hx; exact h1))
  rw [placePs_len] at h1
  have := h.nn
  omega

set_option maxRecDepth 200000 in
set_option maxHeartbeats 8000000 in
theorem nodeTextW0 {F : Nat → Prop} (n : Nd) (lv mv : Value) (w : World) (h : NdT F w n lv mv) (hk : n.kind = 0) (ht : Tab w) (ho : Ops w) :
    Calls Tryd.prog 27 #[.agg #[.int .i64 n.kind, .int .i64 n.parent, .int .i64 n.alpha, lv, mv, .int .i64 n.test.op, .bool n.test.l.v, .int .i64 n.test.l.n, .bool n.test.r.v, .int .i64 n.test.r.n, .int .i64 n.width]] w fun e w' => e = .returned (.string (bs (nodeT n))) ∧ Below w.heap.size w w' := by
  rw [hk]
  obtain ⟨LA, lc, rfl⟩ := h.links.form
  obtain ⟨MA, mc, rfl⟩ := h.new.form
  obtain ⟨-, o1, o2, o3, o4, o5, o6⟩ := h.ok
  obtain ⟨wb, hwb⟩ : ∃ wb, wb = w.alloc (.cells #[.int .i64 0, .int .i64 n.parent, .int .i64 n.alpha, .slice LA n.links.length lc, .slice MA n.new.length mc, .int .i64 n.test.op, .bool n.test.l.v, .int .i64 n.test.l.n, .bool n.test.r.v, .int .i64 n.test.r.n, .int .i64 n.width] 40) := ⟨_, rfl⟩
  have hb0 : Below (w.heap.size + 1) (w.alloc (.cells #[.int .i64 0, .int .i64 n.parent, .int .i64 n.alpha, .slice LA n.links.length lc, .slice MA n.new.length mc, .int .i64 n.test.op, .bool n.test.l.v, .int .i64 n.test.l.n, .bool n.test.r.v, .int .i64 n.test.r.n, .int .i64 n.width] 40)) wb := by rw [hwb]; exact Below.refl _ _
  have hbw : Below w.heap.size w wb := by rw [hwb]; exact (Below.refl _ _).alloc (Nat.le_refl _) _
  have hsz1 : w.heap.size + 1 ≤ wb.heap.size := by have := hb0.size; simpa using this
  have FC := Lib.hid (fun (Wx : World) (hx : Below wb.heap.size wb Wx) => (show Wx.cell? ⟨w.heap.size, 0, none⟩ = some (.int .i64 0) ∧ Wx.cell? ⟨w.heap.size, 1, none⟩ = some (.int .i64 n.parent) ∧ Wx.cell? ⟨w.heap.size, 2, none⟩ = some (.int .i64 n.alpha) ∧ Wx.cell? ⟨w.heap.size, 3, none⟩ = some (.slice LA n.links.length lc) ∧ Wx.cell? ⟨w.heap.size, 4, none⟩ = some (.slice MA n.new.length mc) ∧ Wx.cell? ⟨w.heap.size, 5, none⟩ = some (.int .i64 n.test.op) ∧ Wx.cell? ⟨w.heap.size, 6, none⟩ = some (.bool n.test.l.v) ∧ Wx.cell? ⟨w.heap.size, 7, none⟩ = some (.int .i64 n.test.l.n) ∧ Wx.cell? ⟨w.heap.size, 8, none⟩ = some (.bool n.test.r.v) ∧ Wx.cell? ⟨w.heap.size, 9, none⟩ = some (.int .i64 n.test.r.n) ∧ Wx.cell? ⟨w.heap.size, 10, none⟩ = some (.int .i64 n.width) from
    have hxx := hb0.trans (hx.mono hsz1)
    ⟨box_cellD hxx 0 rfl, box_cellD hxx 1 rfl, box_cellD hxx 2 rfl, box_cellD hxx 3 rfl, box_cellD hxx 4 rfl, box_cellD hxx 5 rfl, box_cellD hxx 6 rfl, box_cellD hxx 7 rfl, box_cellD hxx 8 rfl, box_cellD hxx 9 rfl, box_cellD hxx 10 rfl⟩))
  have TB := Lib.hid (fun (Wx : World) (hx : Below wb.heap.size wb Wx) => (ht.below hbw).below hx)
  have OB := Lib.hid (fun (Wx : World) (hx : Below wb.heap.size wb Wx) => (ho.below hbw).below hx)
  have C1 := Lib.hid (fun (Wx : World) (hx : Below wb.heap.size wb Wx) => itoaW n.parent o1.lo Wx (TB.out Wx hx))
  have C2 := Lib.hid (fun (Wx : World) (hx : Below wb.heap.size wb Wx) => itoaW n.alpha o2.lo Wx (TB.out Wx hx))
  have C3 := Lib.hid (fun (Wx : World) (hx : Below wb.heap.size wb Wx) => itoaW n.width o3.lo Wx (TB.out Wx hx))
  have CL := Lib.hid (fun (Wx : World) (hx : Below wb.heap.size wb Wx) => list_linkPW _ n.links Wx (h.links.keep (Kp.of_below (hbw.trans (hx.mono hbw.size)))) h.ln (TB.out Wx hx))
  have CN := Lib.hid (fun (Wx : World) (hx : Below wb.heap.size wb Wx) => list_placePW _ n.new Wx (h.new.keep (Kp.of_below (hbw.trans (hx.mono hbw.size)))) h.nn (TB.out Wx hx))
  have l1 := num_len o1.lo
  have l2 := num_len o2.lo
  have l3 := num_len o3.lo
  have jl := linksT_len h
  have jn := newT_len h
  rw [← bs_size] at l1 l2 l3 jl jn
  have HBW := Lib.hid hbw
  have HK := Lib.hid hk
  have BR := Lib.hid (Below.refl wb.heap.size wb)
  obtain ⟨LT, hLT⟩ : ∃ LT, Lib.join (linkPs n.links n.links.length) sepT = LT := ⟨_, rfl⟩
  obtain ⟨NT, hNT⟩ : ∃ NT, Lib.join (placePs n.new n.new.length) sepT = NT := ⟨_, rfl⟩
  rw [hLT] at CL jl
  rw [hNT] at CN jn
  have HLT := Lib.hid hLT
  have HNT := Lib.hid hNT
  clear hLT hNT
  clear hb0 hbw h ht ho
  go_enter Tryd.func27, Tryd.ntmps27
  go_upto_region 1 with fail
  rw [← hwb]
  clear hwb
  obtain ⟨c0, c1, c2, c3, c4, c5, c6, c7, c8, c9, c10⟩ := FC.out wb BR.out
  have s1 : ¬ 9223372036854775807 < 7 + (bs (num n.parent)).size := by omega
  go_wp2_with fail
  refine (C1.out _ BR.out).mono ?_
  rintro e w1 ⟨rfl, hb1⟩
  have B1 := Lib.hid (BR.out.trans (hb1.mono (Nat.le_refl _)))
  clear hb1 c0 c1 c2 c3 c4 c5 c6 c7 c8 c9 c10
  obtain ⟨c0, c1, c2, c3, c4, c5, c6, c7, c8, c9, c10⟩ := FC.out w1 B1.out
  go_wp2
  go_ret
  refine ⟨?_, HBW.out.trans (B1.out.mono HBW.out.size)⟩
  rw [show nodeT n = [114, 111, 111, 116] by unfold nodeT; rw [if_pos HK.out]]
  rfl
set_option maxRecDepth 200000 in
set_option maxHeartbeats 8000000 in
theorem nodeTextW1 {F : Nat → Prop} (n : Nd) (lv mv : Value) (w : World) (h : NdT F w n lv mv) (hk : n.kind = 1) (ht : Tab w) (ho : Ops w) :
    Calls Tryd.prog 27 #[.agg #[.int .i64 n.kind, .int .i64 n.parent, .int .i64 n.alpha, lv, mv, .int .i64 n.test.op, .bool n.test.l.v, .int .i64 n.test.l.n, .bool n.test.r.v, .int .i64 n.test.r.n, .int .i64 n.width]] w fun e w' => e = .returned (.string (bs (nodeT n))) ∧ Below w.heap.size w w' := by
  rw [hk]
  obtain ⟨LA, lc, rfl⟩ := h.links.form
  obtain ⟨MA, mc, rfl⟩ := h.new.form
  obtain ⟨-, o1, o2, o3, o4, o5, o6⟩ := h.ok
  obtain ⟨wb, hwb⟩ : ∃ wb, wb = w.alloc (.cells #[.int .i64 1, .int .i64 n.parent, .int .i64 n.alpha, .slice LA n.links.length lc, .slice MA n.new.length mc, .int .i64 n.test.op, .bool n.test.l.v, .int .i64 n.test.l.n, .bool n.test.r.v, .int .i64 n.test.r.n, .int .i64 n.width] 40) := ⟨_, rfl⟩
  have hb0 : Below (w.heap.size + 1) (w.alloc (.cells #[.int .i64 1, .int .i64 n.parent, .int .i64 n.alpha, .slice LA n.links.length lc, .slice MA n.new.length mc, .int .i64 n.test.op, .bool n.test.l.v, .int .i64 n.test.l.n, .bool n.test.r.v, .int .i64 n.test.r.n, .int .i64 n.width] 40)) wb := by rw [hwb]; exact Below.refl _ _
  have hbw : Below w.heap.size w wb := by rw [hwb]; exact (Below.refl _ _).alloc (Nat.le_refl _) _
  have hsz1 : w.heap.size + 1 ≤ wb.heap.size := by have := hb0.size; simpa using this
  have FC := Lib.hid (fun (Wx : World) (hx : Below wb.heap.size wb Wx) => (show Wx.cell? ⟨w.heap.size, 0, none⟩ = some (.int .i64 1) ∧ Wx.cell? ⟨w.heap.size, 1, none⟩ = some (.int .i64 n.parent) ∧ Wx.cell? ⟨w.heap.size, 2, none⟩ = some (.int .i64 n.alpha) ∧ Wx.cell? ⟨w.heap.size, 3, none⟩ = some (.slice LA n.links.length lc) ∧ Wx.cell? ⟨w.heap.size, 4, none⟩ = some (.slice MA n.new.length mc) ∧ Wx.cell? ⟨w.heap.size, 5, none⟩ = some (.int .i64 n.test.op) ∧ Wx.cell? ⟨w.heap.size, 6, none⟩ = some (.bool n.test.l.v) ∧ Wx.cell? ⟨w.heap.size, 7, none⟩ = some (.int .i64 n.test.l.n) ∧ Wx.cell? ⟨w.heap.size, 8, none⟩ = some (.bool n.test.r.v) ∧ Wx.cell? ⟨w.heap.size, 9, none⟩ = some (.int .i64 n.test.r.n) ∧ Wx.cell? ⟨w.heap.size, 10, none⟩ = some (.int .i64 n.width) from
    have hxx := hb0.trans (hx.mono hsz1)
    ⟨box_cellD hxx 0 rfl, box_cellD hxx 1 rfl, box_cellD hxx 2 rfl, box_cellD hxx 3 rfl, box_cellD hxx 4 rfl, box_cellD hxx 5 rfl, box_cellD hxx 6 rfl, box_cellD hxx 7 rfl, box_cellD hxx 8 rfl, box_cellD hxx 9 rfl, box_cellD hxx 10 rfl⟩))
  have TB := Lib.hid (fun (Wx : World) (hx : Below wb.heap.size wb Wx) => (ht.below hbw).below hx)
  have OB := Lib.hid (fun (Wx : World) (hx : Below wb.heap.size wb Wx) => (ho.below hbw).below hx)
  have C1 := Lib.hid (fun (Wx : World) (hx : Below wb.heap.size wb Wx) => itoaW n.parent o1.lo Wx (TB.out Wx hx))
  have C2 := Lib.hid (fun (Wx : World) (hx : Below wb.heap.size wb Wx) => itoaW n.alpha o2.lo Wx (TB.out Wx hx))
  have C3 := Lib.hid (fun (Wx : World) (hx : Below wb.heap.size wb Wx) => itoaW n.width o3.lo Wx (TB.out Wx hx))
  have CL := Lib.hid (fun (Wx : World) (hx : Below wb.heap.size wb Wx) => list_linkPW _ n.links Wx (h.links.keep (Kp.of_below (hbw.trans (hx.mono hbw.size)))) h.ln (TB.out Wx hx))
  have CN := Lib.hid (fun (Wx : World) (hx : Below wb.heap.size wb Wx) => list_placePW _ n.new Wx (h.new.keep (Kp.of_below (hbw.trans (hx.mono hbw.size)))) h.nn (TB.out Wx hx))
  have l1 := num_len o1.lo
  have l2 := num_len o2.lo
  have l3 := num_len o3.lo
  have jl := linksT_len h
  have jn := newT_len h
  rw [← bs_size] at l1 l2 l3 jl jn
  have HBW := Lib.hid hbw
  have HK := Lib.hid hk
  have BR := Lib.hid (Below.refl wb.heap.size wb)
  obtain ⟨LT, hLT⟩ : ∃ LT, Lib.join (linkPs n.links n.links.length) sepT = LT := ⟨_, rfl⟩
  obtain ⟨NT, hNT⟩ : ∃ NT, Lib.join (placePs n.new n.new.length) sepT = NT := ⟨_, rfl⟩
  rw [hLT] at CL jl
  rw [hNT] at CN jn
  have HLT := Lib.hid hLT
  have HNT := Lib.hid hNT
  clear hLT hNT
  clear hb0 hbw h ht ho
  go_enter Tryd.func27, Tryd.ntmps27
  go_upto_region 1 with fail
  rw [← hwb]
  clear hwb
  obtain ⟨c0, c1, c2, c3, c4, c5, c6, c7, c8, c9, c10⟩ := FC.out wb BR.out
  have s1 : ¬ 9223372036854775807 < 7 + (bs (num n.parent)).size := by omega
  go_wp2_with fail
  refine (C1.out _ BR.out).mono ?_
  rintro e w1 ⟨rfl, hb1⟩
  have B1 := Lib.hid (BR.out.trans (hb1.mono (Nat.le_refl _)))
  clear hb1 c0 c1 c2 c3 c4 c5 c6 c7 c8 c9 c10
  obtain ⟨c0, c1, c2, c3, c4, c5, c6, c7, c8, c9, c10⟩ := FC.out w1 B1.out
  have s2 : ¬ 9223372036854775807 < 5 + (bs (num n.alpha)).size := by omega
  have s3 : ¬ 9223372036854775807 < 5 + (bs (num n.alpha)).size + (7 + (bs (num n.parent)).size) := by omega
  go_wp2_with fail
  refine (C2.out _ B1.out).mono ?_
  rintro e w2 ⟨rfl, hb2⟩
  have BQ := Lib.hid (B1.out.trans (hb2.mono B1.out.size))
  clear hb2 c0 c1 c2 c3 c4 c5 c6 c7 c8 c9 c10
  go_upto_region 12 with fail
  rw [show (({ data := #[106, 111, 105, 110, 32] } : ByteArray) ++ bs (num n.alpha)) ++ (({ data := #[32, 117, 110, 100, 101, 114, 32] } : ByteArray) ++ bs (num n.parent)) = bs (headT n) by
    rw [show ({ data := #[106, 111, 105, 110, 32] } : ByteArray) = bs [106, 111, 105, 110, 32] from rfl, show ({ data := #[32, 117, 110, 100, 101, 114, 32] } : ByteArray) = bs [32, 117, 110, 100, 101, 114, 32] from rfl]
    simp only [bs_app, headT, HK.out, underT, List.append_assoc]
    rfl]
  have hh : (bs (headT n)).size ≤ 200 := by
    rw [bs_size] at *
    simp only [headT, HK.out, testT, underT, List.length_append, List.length_cons, List.length_nil]
    simp
    omega
  obtain ⟨H, hH⟩ : ∃ H, headT n = H := ⟨_, rfl⟩
  rw [hH] at hh ⊢
  have HH := Lib.hid (show nodeT n = H ++ linksT n ++ newT n ++ widthT n by unfold nodeT; rw [if_neg (by rw [HK.out]; decide), hH])
  clear hH
  obtain ⟨c0, c1, c2, c3, c4, c5, c6, c7, c8, c9, c10⟩ := FC.out w2 BQ.out
  rcases Nat.eq_zero_or_pos n.links.length with p0 | p0
  · have e1 : ¬ (0 : Int) < (n.links.length : Int) := by omega
    have HL := Lib.hid (show linksT n = [] by unfold linksT; rw [if_pos (List.length_eq_zero_iff.1 p0)])
    go_upto_region 14 with fail
    rcases Nat.eq_zero_or_pos n.new.length with p1 | p1
    · have e2 : ¬ (0 : Int) < (n.new.length : Int) := by omega
      have HN := Lib.hid (show newT n = [] by unfold newT; rw [if_pos (List.length_eq_zero_iff.1 p1)])
      have u5 : ¬ 9223372036854775807 < (bs H).size + 7 := by omega
      have u6 : ¬ 9223372036854775807 < (bs H).size + 7 + (bs (num n.width)).size := by omega
      go_wp2_with fail
      refine (C3.out _ BQ.out).mono ?_
      rintro e w5 ⟨rfl, hb2⟩
      have BQ := Lib.hid (BQ.out.trans (hb2.mono BQ.out.size))
      clear hb2 c0 c1 c2 c3 c4 c5 c6 c7 c8 c9 c10
      obtain ⟨c0, c1, c2, c3, c4, c5, c6, c7, c8, c9, c10⟩ := FC.out _ BQ.out
      go_wp2
      go_ret
      refine ⟨?_, HBW.out.trans (BQ.out.mono HBW.out.size)⟩
      rw [HH.out, HL.out, HN.out]
      simp only [show ({ data := #[32, 108, 105, 110, 107, 32] } : ByteArray) = bs [32, 108, 105, 110, 107, 32] from rfl, show ({ data := #[32, 110, 101, 119, 32] } : ByteArray) = bs [32, 110, 101, 119, 32] from rfl, show ({ data := #[32, 119, 105, 100, 116, 104, 32] } : ByteArray) = bs [32, 119, 105, 100, 116, 104, 32] from rfl, bs_app, widthT, List.append_assoc, List.nil_append, List.append_nil, List.cons_append]
      rfl
    · have e2 : (0 : Int) < (n.new.length : Int) := by omega
      have HN := Lib.hid (show newT n = [32, 110, 101, 119, 32] ++ NT by unfold newT; rw [if_neg (fun he => by rw [he] at p1; simp at p1), HNT.out])
      have u3 : ¬ 9223372036854775807 < 5 + (bs NT).size := by omega
      have u4 : ¬ 9223372036854775807 < (bs H).size + (5 + (bs NT).size) := by omega
      go_wp2_with fail
      refine (CN.out _ BQ.out).mono ?_
      rintro e w4 ⟨rfl, hb2⟩
      have BQ := Lib.hid (BQ.out.trans (hb2.mono BQ.out.size))
      clear hb2 c0 c1 c2 c3 c4 c5 c6 c7 c8 c9 c10
      obtain ⟨c0, c1, c2, c3, c4, c5, c6, c7, c8, c9, c10⟩ := FC.out _ BQ.out
      have u5 : ¬ 9223372036854775807 < (bs H).size + (5 + (bs NT).size) + 7 := by omega
      have u6 : ¬ 9223372036854775807 < (bs H).size + (5 + (bs NT).size) + 7 + (bs (num n.width)).size := by omega
      go_wp2_with fail
      refine (C3.out _ BQ.out).mono ?_
      rintro e w5 ⟨rfl, hb2⟩
      have BQ := Lib.hid (BQ.out.trans (hb2.mono BQ.out.size))
      clear hb2 c0 c1 c2 c3 c4 c5 c6 c7 c8 c9 c10
      obtain ⟨c0, c1, c2, c3, c4, c5, c6, c7, c8, c9, c10⟩ := FC.out _ BQ.out
      go_wp2
      go_ret
      refine ⟨?_, HBW.out.trans (BQ.out.mono HBW.out.size)⟩
      rw [HH.out, HL.out, HN.out]
      simp only [show ({ data := #[32, 108, 105, 110, 107, 32] } : ByteArray) = bs [32, 108, 105, 110, 107, 32] from rfl, show ({ data := #[32, 110, 101, 119, 32] } : ByteArray) = bs [32, 110, 101, 119, 32] from rfl, show ({ data := #[32, 119, 105, 100, 116, 104, 32] } : ByteArray) = bs [32, 119, 105, 100, 116, 104, 32] from rfl, bs_app, widthT, List.append_assoc, List.nil_append, List.append_nil, List.cons_append]
      rfl
  · have e1 : (0 : Int) < (n.links.length : Int) := by omega
    have HL := Lib.hid (show linksT n = [32, 108, 105, 110, 107, 32] ++ LT by unfold linksT; rw [if_neg (fun he => by rw [he] at p0; simp at p0), HLT.out])
    have u1 : ¬ 9223372036854775807 < 6 + (bs LT).size := by omega
    have u2 : ¬ 9223372036854775807 < (bs H).size + (6 + (bs LT).size) := by omega
    go_wp2_with fail
    refine (CL.out _ BQ.out).mono ?_
    rintro e w3 ⟨rfl, hb2⟩
    have BQ := Lib.hid (BQ.out.trans (hb2.mono BQ.out.size))
    clear hb2 c0 c1 c2 c3 c4 c5 c6 c7 c8 c9 c10
    obtain ⟨c0, c1, c2, c3, c4, c5, c6, c7, c8, c9, c10⟩ := FC.out _ BQ.out
    go_upto_region 14 with fail
    rcases Nat.eq_zero_or_pos n.new.length with p1 | p1
    · have e2 : ¬ (0 : Int) < (n.new.length : Int) := by omega
      have HN := Lib.hid (show newT n = [] by unfold newT; rw [if_pos (List.length_eq_zero_iff.1 p1)])
      have u5 : ¬ 9223372036854775807 < (bs H).size + (6 + (bs LT).size) + 7 := by omega
      have u6 : ¬ 9223372036854775807 < (bs H).size + (6 + (bs LT).size) + 7 + (bs (num n.width)).size := by omega
      go_wp2_with fail
      refine (C3.out _ BQ.out).mono ?_
      rintro e w5 ⟨rfl, hb2⟩
      have BQ := Lib.hid (BQ.out.trans (hb2.mono BQ.out.size))
      clear hb2 c0 c1 c2 c3 c4 c5 c6 c7 c8 c9 c10
      obtain ⟨c0, c1, c2, c3, c4, c5, c6, c7, c8, c9, c10⟩ := FC.out _ BQ.out
      go_wp2
      go_ret
      refine ⟨?_, HBW.out.trans (BQ.out.mono HBW.out.size)⟩
      rw [HH.out, HL.out, HN.out]
      simp only [show ({ data := #[32, 108, 105, 110, 107, 32] } : ByteArray) = bs [32, 108, 105, 110, 107, 32] from rfl, show ({ data := #[32, 110, 101, 119, 32] } : ByteArray) = bs [32, 110, 101, 119, 32] from rfl, show ({ data := #[32, 119, 105, 100, 116, 104, 32] } : ByteArray) = bs [32, 119, 105, 100, 116, 104, 32] from rfl, bs_app, widthT, List.append_assoc, List.nil_append, List.append_nil, List.cons_append]
      rfl
    · have e2 : (0 : Int) < (n.new.length : Int) := by omega
      have HN := Lib.hid (show newT n = [32, 110, 101, 119, 32] ++ NT by unfold newT; rw [if_neg (fun he => by rw [he] at p1; simp at p1), HNT.out])
      have u3 : ¬ 9223372036854775807 < 5 + (bs NT).size := by omega
      have u4 : ¬ 9223372036854775807 < (bs H).size + (6 + (bs LT).size) + (5 + (bs NT).size) := by omega
      go_wp2_with fail
      refine (CN.out _ BQ.out).mono ?_
      rintro e w4 ⟨rfl, hb2⟩
      have BQ := Lib.hid (BQ.out.trans (hb2.mono BQ.out.size))
      clear hb2 c0 c1 c2 c3 c4 c5 c6 c7 c8 c9 c10
      obtain ⟨c0, c1, c2, c3, c4, c5, c6, c7, c8, c9, c10⟩ := FC.out _ BQ.out
      have u5 : ¬ 9223372036854775807 < (bs H).size + (6 + (bs LT).size) + (5 + (bs NT).size) + 7 := by omega
      have u6 : ¬ 9223372036854775807 < (bs H).size + (6 + (bs LT).size) + (5 + (bs NT).size) + 7 + (bs (num n.width)).size := by omega
      go_wp2_with fail
      refine (C3.out _ BQ.out).mono ?_
      rintro e w5 ⟨rfl, hb2⟩
      have BQ := Lib.hid (BQ.out.trans (hb2.mono BQ.out.size))
      clear hb2 c0 c1 c2 c3 c4 c5 c6 c7 c8 c9 c10
      obtain ⟨c0, c1, c2, c3, c4, c5, c6, c7, c8, c9, c10⟩ := FC.out _ BQ.out
      go_wp2
      go_ret
      refine ⟨?_, HBW.out.trans (BQ.out.mono HBW.out.size)⟩
      rw [HH.out, HL.out, HN.out]
      simp only [show ({ data := #[32, 108, 105, 110, 107, 32] } : ByteArray) = bs [32, 108, 105, 110, 107, 32] from rfl, show ({ data := #[32, 110, 101, 119, 32] } : ByteArray) = bs [32, 110, 101, 119, 32] from rfl, show ({ data := #[32, 119, 105, 100, 116, 104, 32] } : ByteArray) = bs [32, 119, 105, 100, 116, 104, 32] from rfl, bs_app, widthT, List.append_assoc, List.nil_append, List.append_nil, List.cons_append]
      rfl
set_option maxRecDepth 200000 in
set_option maxHeartbeats 8000000 in
theorem nodeTextW3 {F : Nat → Prop} (n : Nd) (lv mv : Value) (w : World) (h : NdT F w n lv mv) (hk : n.kind = 3) (ht : Tab w) (ho : Ops w) :
    Calls Tryd.prog 27 #[.agg #[.int .i64 n.kind, .int .i64 n.parent, .int .i64 n.alpha, lv, mv, .int .i64 n.test.op, .bool n.test.l.v, .int .i64 n.test.l.n, .bool n.test.r.v, .int .i64 n.test.r.n, .int .i64 n.width]] w fun e w' => e = .returned (.string (bs (nodeT n))) ∧ Below w.heap.size w w' := by
  rw [hk]
  obtain ⟨LA, lc, rfl⟩ := h.links.form
  obtain ⟨MA, mc, rfl⟩ := h.new.form
  obtain ⟨-, o1, o2, o3, o4, o5, o6⟩ := h.ok
  obtain ⟨wb, hwb⟩ : ∃ wb, wb = w.alloc (.cells #[.int .i64 3, .int .i64 n.parent, .int .i64 n.alpha, .slice LA n.links.length lc, .slice MA n.new.length mc, .int .i64 n.test.op, .bool n.test.l.v, .int .i64 n.test.l.n, .bool n.test.r.v, .int .i64 n.test.r.n, .int .i64 n.width] 40) := ⟨_, rfl⟩
  have hb0 : Below (w.heap.size + 1) (w.alloc (.cells #[.int .i64 3, .int .i64 n.parent, .int .i64 n.alpha, .slice LA n.links.length lc, .slice MA n.new.length mc, .int .i64 n.test.op, .bool n.test.l.v, .int .i64 n.test.l.n, .bool n.test.r.v, .int .i64 n.test.r.n, .int .i64 n.width] 40)) wb := by rw [hwb]; exact Below.refl _ _
  have hbw : Below w.heap.size w wb := by rw [hwb]; exact (Below.refl _ _).alloc (Nat.le_refl _) _
  have hsz1 : w.heap.size + 1 ≤ wb.heap.size := by have := hb0.size; simpa using this
  have FC := Lib.hid (fun (Wx : World) (hx : Below wb.heap.size wb Wx) => (show Wx.cell? ⟨w.heap.size, 0, none⟩ = some (.int .i64 3) ∧ Wx.cell? ⟨w.heap.size, 1, none⟩ = some (.int .i64 n.parent) ∧ Wx.cell? ⟨w.heap.size, 2, none⟩ = some (.int .i64 n.alpha) ∧ Wx.cell? ⟨w.heap.size, 3, none⟩ = some (.slice LA n.links.length lc) ∧ Wx.cell? ⟨w.heap.size, 4, none⟩ = some (.slice MA n.new.length mc) ∧ Wx.cell? ⟨w.heap.size, 5, none⟩ = some (.int .i64 n.test.op) ∧ Wx.cell? ⟨w.heap.size, 6, none⟩ = some (.bool n.test.l.v) ∧ Wx.cell? ⟨w.heap.size, 7, none⟩ = some (.int .i64 n.test.l.n) ∧ Wx.cell? ⟨w.heap.size, 8, none⟩ = some (.bool n.test.r.v) ∧ Wx.cell? ⟨w.heap.size, 9, none⟩ = some (.int .i64 n.test.r.n) ∧ Wx.cell? ⟨w.heap.size, 10, none⟩ = some (.int .i64 n.width) from
    have hxx := hb0.trans (hx.mono hsz1)
    ⟨box_cellD hxx 0 rfl, box_cellD hxx 1 rfl, box_cellD hxx 2 rfl, box_cellD hxx 3 rfl, box_cellD hxx 4 rfl, box_cellD hxx 5 rfl, box_cellD hxx 6 rfl, box_cellD hxx 7 rfl, box_cellD hxx 8 rfl, box_cellD hxx 9 rfl, box_cellD hxx 10 rfl⟩))
  have TB := Lib.hid (fun (Wx : World) (hx : Below wb.heap.size wb Wx) => (ht.below hbw).below hx)
  have OB := Lib.hid (fun (Wx : World) (hx : Below wb.heap.size wb Wx) => (ho.below hbw).below hx)
  have C1 := Lib.hid (fun (Wx : World) (hx : Below wb.heap.size wb Wx) => itoaW n.parent o1.lo Wx (TB.out Wx hx))
  have C2 := Lib.hid (fun (Wx : World) (hx : Below wb.heap.size wb Wx) => itoaW n.alpha o2.lo Wx (TB.out Wx hx))
  have C3 := Lib.hid (fun (Wx : World) (hx : Below wb.heap.size wb Wx) => itoaW n.width o3.lo Wx (TB.out Wx hx))
  have CL := Lib.hid (fun (Wx : World) (hx : Below wb.heap.size wb Wx) => list_linkPW _ n.links Wx (h.links.keep (Kp.of_below (hbw.trans (hx.mono hbw.size)))) h.ln (TB.out Wx hx))
  have CN := Lib.hid (fun (Wx : World) (hx : Below wb.heap.size wb Wx) => list_placePW _ n.new Wx (h.new.keep (Kp.of_below (hbw.trans (hx.mono hbw.size)))) h.nn (TB.out Wx hx))
  have l1 := num_len o1.lo
  have l2 := num_len o2.lo
  have l3 := num_len o3.lo
  have jl := linksT_len h
  have jn := newT_len h
  rw [← bs_size] at l1 l2 l3 jl jn
  have HBW := Lib.hid hbw
  have HK := Lib.hid hk
  have BR := Lib.hid (Below.refl wb.heap.size wb)
  obtain ⟨LT, hLT⟩ : ∃ LT, Lib.join (linkPs n.links n.links.length) sepT = LT := ⟨_, rfl⟩
  obtain ⟨NT, hNT⟩ : ∃ NT, Lib.join (placePs n.new n.new.length) sepT = NT := ⟨_, rfl⟩
  rw [hLT] at CL jl
  rw [hNT] at CN jn
  have HLT := Lib.hid hLT
  have HNT := Lib.hid hNT
  clear hLT hNT
  clear hb0 hbw h ht ho
  go_enter Tryd.func27, Tryd.ntmps27
  go_upto_region 1 with fail
  rw [← hwb]
  clear hwb
  obtain ⟨c0, c1, c2, c3, c4, c5, c6, c7, c8, c9, c10⟩ := FC.out wb BR.out
  have s1 : ¬ 9223372036854775807 < 7 + (bs (num n.parent)).size := by omega
  go_wp2_with fail
  refine (C1.out _ BR.out).mono ?_
  rintro e w1 ⟨rfl, hb1⟩
  have B1 := Lib.hid (BR.out.trans (hb1.mono (Nat.le_refl _)))
  clear hb1 c0 c1 c2 c3 c4 c5 c6 c7 c8 c9 c10
  obtain ⟨c0, c1, c2, c3, c4, c5, c6, c7, c8, c9, c10⟩ := FC.out w1 B1.out
  have s2 : ¬ 9223372036854775807 < 4 + (bs (num n.alpha)).size := by omega
  have s3 : ¬ 9223372036854775807 < 4 + (bs (num n.alpha)).size + (7 + (bs (num n.parent)).size) := by omega
  go_wp2_with fail
  refine (C2.out _ B1.out).mono ?_
  rintro e w2 ⟨rfl, hb2⟩
  have BQ := Lib.hid (B1.out.trans (hb2.mono B1.out.size))
  clear hb2 c0 c1 c2 c3 c4 c5 c6 c7 c8 c9 c10
  go_upto_region 12 with fail
  rw [show (({ data := #[110, 101, 103, 32] } : ByteArray) ++ bs (num n.alpha)) ++ (({ data := #[32, 117, 110, 100, 101, 114, 32] } : ByteArray) ++ bs (num n.parent)) = bs (headT n) by
    rw [show ({ data := #[110, 101, 103, 32] } : ByteArray) = bs [110, 101, 103, 32] from rfl, show ({ data := #[32, 117, 110, 100, 101, 114, 32] } : ByteArray) = bs [32, 117, 110, 100, 101, 114, 32] from rfl]
    simp only [bs_app, headT, HK.out, underT, List.append_assoc]
    rfl]
  have hh : (bs (headT n)).size ≤ 200 := by
    rw [bs_size] at *
    simp only [headT, HK.out, testT, underT, List.length_append, List.length_cons, List.length_nil]
    simp
    omega
  obtain ⟨H, hH⟩ : ∃ H, headT n = H := ⟨_, rfl⟩
  rw [hH] at hh ⊢
  have HH := Lib.hid (show nodeT n = H ++ linksT n ++ newT n ++ widthT n by unfold nodeT; rw [if_neg (by rw [HK.out]; decide), hH])
  clear hH
  obtain ⟨c0, c1, c2, c3, c4, c5, c6, c7, c8, c9, c10⟩ := FC.out w2 BQ.out
  rcases Nat.eq_zero_or_pos n.links.length with p0 | p0
  · have e1 : ¬ (0 : Int) < (n.links.length : Int) := by omega
    have HL := Lib.hid (show linksT n = [] by unfold linksT; rw [if_pos (List.length_eq_zero_iff.1 p0)])
    go_upto_region 14 with fail
    rcases Nat.eq_zero_or_pos n.new.length with p1 | p1
    · have e2 : ¬ (0 : Int) < (n.new.length : Int) := by omega
      have HN := Lib.hid (show newT n = [] by unfold newT; rw [if_pos (List.length_eq_zero_iff.1 p1)])
      have u5 : ¬ 9223372036854775807 < (bs H).size + 7 := by omega
      have u6 : ¬ 9223372036854775807 < (bs H).size + 7 + (bs (num n.width)).size := by omega
      go_wp2_with fail
      refine (C3.out _ BQ.out).mono ?_
      rintro e w5 ⟨rfl, hb2⟩
      have BQ := Lib.hid (BQ.out.trans (hb2.mono BQ.out.size))
      clear hb2 c0 c1 c2 c3 c4 c5 c6 c7 c8 c9 c10
      obtain ⟨c0, c1, c2, c3, c4, c5, c6, c7, c8, c9, c10⟩ := FC.out _ BQ.out
      go_wp2
      go_ret
      refine ⟨?_, HBW.out.trans (BQ.out.mono HBW.out.size)⟩
      rw [HH.out, HL.out, HN.out]
      simp only [show ({ data := #[32, 108, 105, 110, 107, 32] } : ByteArray) = bs [32, 108, 105, 110, 107, 32] from rfl, show ({ data := #[32, 110, 101, 119, 32] } : ByteArray) = bs [32, 110, 101, 119, 32] from rfl, show ({ data := #[32, 119, 105, 100, 116, 104, 32] } : ByteArray) = bs [32, 119, 105, 100, 116, 104, 32] from rfl, bs_app, widthT, List.append_assoc, List.nil_append, List.append_nil, List.cons_append]
      rfl
    · have e2 : (0 : Int) < (n.new.length : Int) := by omega
      have HN := Lib.hid (show newT n = [32, 110, 101, 119, 32] ++ NT by unfold newT; rw [if_neg (fun he => by rw [he] at p1; simp at p1), HNT.out])
      have u3 : ¬ 9223372036854775807 < 5 + (bs NT).size := by omega
      have u4 : ¬ 9223372036854775807 < (bs H).size + (5 + (bs NT).size) := by omega
      go_wp2_with fail
      refine (CN.out _ BQ.out).mono ?_
      rintro e w4 ⟨rfl, hb2⟩
      have BQ := Lib.hid (BQ.out.trans (hb2.mono BQ.out.size))
      clear hb2 c0 c1 c2 c3 c4 c5 c6 c7 c8 c9 c10
      obtain ⟨c0, c1, c2, c3, c4, c5, c6, c7, c8, c9, c10⟩ := FC.out _ BQ.out
      have u5 : ¬ 9223372036854775807 < (bs H).size + (5 + (bs NT).size) + 7 := by omega
      have u6 : ¬ 9223372036854775807 < (bs H).size + (5 + (bs NT).size) + 7 + (bs (num n.width)).size := by omega
      go_wp2_with fail
      refine (C3.out _ BQ.out).mono ?_
      rintro e w5 ⟨rfl, hb2⟩
      have BQ := Lib.hid (BQ.out.trans (hb2.mono BQ.out.size))
      clear hb2 c0 c1 c2 c3 c4 c5 c6 c7 c8 c9 c10
      obtain ⟨c0, c1, c2, c3, c4, c5, c6, c7, c8, c9, c10⟩ := FC.out _ BQ.out
      go_wp2
      go_ret
      refine ⟨?_, HBW.out.trans (BQ.out.mono HBW.out.size)⟩
      rw [HH.out, HL.out, HN.out]
      simp only [show ({ data := #[32, 108, 105, 110, 107, 32] } : ByteArray) = bs [32, 108, 105, 110, 107, 32] from rfl, show ({ data := #[32, 110, 101, 119, 32] } : ByteArray) = bs [32, 110, 101, 119, 32] from rfl, show ({ data := #[32, 119, 105, 100, 116, 104, 32] } : ByteArray) = bs [32, 119, 105, 100, 116, 104, 32] from rfl, bs_app, widthT, List.append_assoc, List.nil_append, List.append_nil, List.cons_append]
      rfl
  · have e1 : (0 : Int) < (n.links.length : Int) := by omega
    have HL := Lib.hid (show linksT n = [32, 108, 105, 110, 107, 32] ++ LT by unfold linksT; rw [if_neg (fun he => by rw [he] at p0; simp at p0), HLT.out])
    have u1 : ¬ 9223372036854775807 < 6 + (bs LT).size := by omega
    have u2 : ¬ 9223372036854775807 < (bs H).size + (6 + (bs LT).size) := by omega
    go_wp2_with fail
    refine (CL.out _ BQ.out).mono ?_
    rintro e w3 ⟨rfl, hb2⟩
    have BQ := Lib.hid (BQ.out.trans (hb2.mono BQ.out.size))
    clear hb2 c0 c1 c2 c3 c4 c5 c6 c7 c8 c9 c10
    obtain ⟨c0, c1, c2, c3, c4, c5, c6, c7, c8, c9, c10⟩ := FC.out _ BQ.out
    go_upto_region 14 with fail
    rcases Nat.eq_zero_or_pos n.new.length with p1 | p1
    · have e2 : ¬ (0 : Int) < (n.new.length : Int) := by omega
      have HN := Lib.hid (show newT n = [] by unfold newT; rw [if_pos (List.length_eq_zero_iff.1 p1)])
      have u5 : ¬ 9223372036854775807 < (bs H).size + (6 + (bs LT).size) + 7 := by omega
      have u6 : ¬ 9223372036854775807 < (bs H).size + (6 + (bs LT).size) + 7 + (bs (num n.width)).size := by omega
      go_wp2_with fail
      refine (C3.out _ BQ.out).mono ?_
      rintro e w5 ⟨rfl, hb2⟩
      have BQ := Lib.hid (BQ.out.trans (hb2.mono BQ.out.size))
      clear hb2 c0 c1 c2 c3 c4 c5 c6 c7 c8 c9 c10
      obtain ⟨c0, c1, c2, c3, c4, c5, c6, c7, c8, c9, c10⟩ := FC.out _ BQ.out
      go_wp2
      go_ret
      refine ⟨?_, HBW.out.trans (BQ.out.mono HBW.out.size)⟩
      rw [HH.out, HL.out, HN.out]
      simp only [show ({ data := #[32, 108, 105, 110, 107, 32] } : ByteArray) = bs [32, 108, 105, 110, 107, 32] from rfl, show ({ data := #[32, 110, 101, 119, 32] } : ByteArray) = bs [32, 110, 101, 119, 32] from rfl, show ({ data := #[32, 119, 105, 100, 116, 104, 32] } : ByteArray) = bs [32, 119, 105, 100, 116, 104, 32] from rfl, bs_app, widthT, List.append_assoc, List.nil_append, List.append_nil, List.cons_append]
      rfl
    · have e2 : (0 : Int) < (n.new.length : Int) := by omega
      have HN := Lib.hid (show newT n = [32, 110, 101, 119, 32] ++ NT by unfold newT; rw [if_neg (fun he => by rw [he] at p1; simp at p1), HNT.out])
      have u3 : ¬ 9223372036854775807 < 5 + (bs NT).size := by omega
      have u4 : ¬ 9223372036854775807 < (bs H).size + (6 + (bs LT).size) + (5 + (bs NT).size) := by omega
      go_wp2_with fail
      refine (CN.out _ BQ.out).mono ?_
      rintro e w4 ⟨rfl, hb2⟩
      have BQ := Lib.hid (BQ.out.trans (hb2.mono BQ.out.size))
      clear hb2 c0 c1 c2 c3 c4 c5 c6 c7 c8 c9 c10
      obtain ⟨c0, c1, c2, c3, c4, c5, c6, c7, c8, c9, c10⟩ := FC.out _ BQ.out
      have u5 : ¬ 9223372036854775807 < (bs H).size + (6 + (bs LT).size) + (5 + (bs NT).size) + 7 := by omega
      have u6 : ¬ 9223372036854775807 < (bs H).size + (6 + (bs LT).size) + (5 + (bs NT).size) + 7 + (bs (num n.width)).size := by omega
      go_wp2_with fail
      refine (C3.out _ BQ.out).mono ?_
      rintro e w5 ⟨rfl, hb2⟩
      have BQ := Lib.hid (BQ.out.trans (hb2.mono BQ.out.size))
      clear hb2 c0 c1 c2 c3 c4 c5 c6 c7 c8 c9 c10
      obtain ⟨c0, c1, c2, c3, c4, c5, c6, c7, c8, c9, c10⟩ := FC.out _ BQ.out
      go_wp2
      go_ret
      refine ⟨?_, HBW.out.trans (BQ.out.mono HBW.out.size)⟩
      rw [HH.out, HL.out, HN.out]
      simp only [show ({ data := #[32, 108, 105, 110, 107, 32] } : ByteArray) = bs [32, 108, 105, 110, 107, 32] from rfl, show ({ data := #[32, 110, 101, 119, 32] } : ByteArray) = bs [32, 110, 101, 119, 32] from rfl, show ({ data := #[32, 119, 105, 100, 116, 104, 32] } : ByteArray) = bs [32, 119, 105, 100, 116, 104, 32] from rfl, bs_app, widthT, List.append_assoc, List.nil_append, List.append_nil, List.cons_append]
      rfl
set_option maxRecDepth 200000 in
set_option maxHeartbeats 8000000 in
theorem nodeTextW2 {F : Nat → Prop} (n : Nd) (lv mv : Value) (w : World) (h : NdT F w n lv mv) (hk : n.kind = 2) (hop : 1 ≤ n.test.op ∧ n.test.op ≤ 6) (ht : Tab w) (ho : Ops w) :
    Calls Tryd.prog 27 #[.agg #[.int .i64 n.kind, .int .i64 n.parent, .int .i64 n.alpha, lv, mv, .int .i64 n.test.op, .bool n.test.l.v, .int .i64 n.test.l.n, .bool n.test.r.v, .int .i64 n.test.r.n, .int .i64 n.width]] w fun e w' => e = .returned (.string (bs (nodeT n))) ∧ Below w.heap.size w w' := by
  rw [hk]
  obtain ⟨LA, lc, rfl⟩ := h.links.form
  obtain ⟨MA, mc, rfl⟩ := h.new.form
  obtain ⟨-, o1, o2, o3, o4, o5, o6⟩ := h.ok
  obtain ⟨wb, hwb⟩ : ∃ wb, wb = w.alloc (.cells #[.int .i64 2, .int .i64 n.parent, .int .i64 n.alpha, .slice LA n.links.length lc, .slice MA n.new.length mc, .int .i64 n.test.op, .bool n.test.l.v, .int .i64 n.test.l.n, .bool n.test.r.v, .int .i64 n.test.r.n, .int .i64 n.width] 40) := ⟨_, rfl⟩
  have hb0 : Below (w.heap.size + 1) (w.alloc (.cells #[.int .i64 2, .int .i64 n.parent, .int .i64 n.alpha, .slice LA n.links.length lc, .slice MA n.new.length mc, .int .i64 n.test.op, .bool n.test.l.v, .int .i64 n.test.l.n, .bool n.test.r.v, .int .i64 n.test.r.n, .int .i64 n.width] 40)) wb := by rw [hwb]; exact Below.refl _ _
  have hbw : Below w.heap.size w wb := by rw [hwb]; exact (Below.refl _ _).alloc (Nat.le_refl _) _
  have hsz1 : w.heap.size + 1 ≤ wb.heap.size := by have := hb0.size; simpa using this
  have FC := Lib.hid (fun (Wx : World) (hx : Below wb.heap.size wb Wx) => (show Wx.cell? ⟨w.heap.size, 0, none⟩ = some (.int .i64 2) ∧ Wx.cell? ⟨w.heap.size, 1, none⟩ = some (.int .i64 n.parent) ∧ Wx.cell? ⟨w.heap.size, 2, none⟩ = some (.int .i64 n.alpha) ∧ Wx.cell? ⟨w.heap.size, 3, none⟩ = some (.slice LA n.links.length lc) ∧ Wx.cell? ⟨w.heap.size, 4, none⟩ = some (.slice MA n.new.length mc) ∧ Wx.cell? ⟨w.heap.size, 5, none⟩ = some (.int .i64 n.test.op) ∧ Wx.cell? ⟨w.heap.size, 6, none⟩ = some (.bool n.test.l.v) ∧ Wx.cell? ⟨w.heap.size, 7, none⟩ = some (.int .i64 n.test.l.n) ∧ Wx.cell? ⟨w.heap.size, 8, none⟩ = some (.bool n.test.r.v) ∧ Wx.cell? ⟨w.heap.size, 9, none⟩ = some (.int .i64 n.test.r.n) ∧ Wx.cell? ⟨w.heap.size, 10, none⟩ = some (.int .i64 n.width) from
    have hxx := hb0.trans (hx.mono hsz1)
    ⟨box_cellD hxx 0 rfl, box_cellD hxx 1 rfl, box_cellD hxx 2 rfl, box_cellD hxx 3 rfl, box_cellD hxx 4 rfl, box_cellD hxx 5 rfl, box_cellD hxx 6 rfl, box_cellD hxx 7 rfl, box_cellD hxx 8 rfl, box_cellD hxx 9 rfl, box_cellD hxx 10 rfl⟩))
  have TB := Lib.hid (fun (Wx : World) (hx : Below wb.heap.size wb Wx) => (ht.below hbw).below hx)
  have OB := Lib.hid (fun (Wx : World) (hx : Below wb.heap.size wb Wx) => (ho.below hbw).below hx)
  have C1 := Lib.hid (fun (Wx : World) (hx : Below wb.heap.size wb Wx) => itoaW n.parent o1.lo Wx (TB.out Wx hx))
  have C2 := Lib.hid (fun (Wx : World) (hx : Below wb.heap.size wb Wx) => itoaW n.alpha o2.lo Wx (TB.out Wx hx))
  have C3 := Lib.hid (fun (Wx : World) (hx : Below wb.heap.size wb Wx) => itoaW n.width o3.lo Wx (TB.out Wx hx))
  have CL := Lib.hid (fun (Wx : World) (hx : Below wb.heap.size wb Wx) => list_linkPW _ n.links Wx (h.links.keep (Kp.of_below (hbw.trans (hx.mono hbw.size)))) h.ln (TB.out Wx hx))
  have CN := Lib.hid (fun (Wx : World) (hx : Below wb.heap.size wb Wx) => list_placePW _ n.new Wx (h.new.keep (Kp.of_below (hbw.trans (hx.mono hbw.size)))) h.nn (TB.out Wx hx))
  have l1 := num_len o1.lo
  have l2 := num_len o2.lo
  have l3 := num_len o3.lo
  have jl := linksT_len h
  have jn := newT_len h
  rw [← bs_size] at l1 l2 l3 jl jn
  have HBW := Lib.hid hbw
  have HK := Lib.hid hk
  have BR := Lib.hid (Below.refl wb.heap.size wb)
  obtain ⟨LT, hLT⟩ : ∃ LT, Lib.join (linkPs n.links n.links.length) sepT = LT := ⟨_, rfl⟩
  obtain ⟨NT, hNT⟩ : ∃ NT, Lib.join (placePs n.new n.new.length) sepT = NT := ⟨_, rfl⟩
  rw [hLT] at CL jl
  rw [hNT] at CN jn
  have HLT := Lib.hid hLT
  have HNT := Lib.hid hNT
  clear hLT hNT
  have S1 := Lib.hid (fun (Wx : World) (hx : Below wb.heap.size wb Wx) => slotTextW n.test.l o5.lo Wx (TB.out Wx hx))
  have S2 := Lib.hid (fun (Wx : World) (hx : Below wb.heap.size wb Wx) => slotTextW n.test.r o6.lo Wx (TB.out Wx hx))
  have m1 := slotT_len o5.lo
  have m2 := slotT_len o6.lo
  have m3 := opT_len n.test.op
  rw [← bs_size] at m1 m2 m3
  obtain ⟨opn, hopn⟩ : ∃ opn : Nat, (opn : Int) = n.test.op := ⟨n.test.op.toNat, by omega⟩
  have OC := Lib.hid (fun (Wx : World) (hx : Below wb.heap.size wb Wx) => (by have := (OB.out Wx hx).cell (op := opn) (by omega) (by omega); rw [hopn] at this; exact this : Wx.cell? ⟨0, opn, none⟩ = some (.string (bs (opT n.test.op)))))
  have g1 : (0 : Int) ≤ (opn : Int) := by omega
  have g2 : (opn : Int) < 7 := by omega
  have HOP := Lib.hid hopn
  clear hopn
  clear hb0 hbw h ht ho
  go_enter Tryd.func27, Tryd.ntmps27
  go_upto_region 1 with fail
  rw [← hwb]
  clear hwb
  obtain ⟨c0, c1, c2, c3, c4, c5, c6, c7, c8, c9, c10⟩ := FC.out wb BR.out
  have s1 : ¬ 9223372036854775807 < 7 + (bs (num n.parent)).size := by omega
  go_wp2_with fail
  refine (C1.out _ BR.out).mono ?_
  rintro e w1 ⟨rfl, hb1⟩
  have B1 := Lib.hid (BR.out.trans (hb1.mono (Nat.le_refl _)))
  clear hb1 c0 c1 c2 c3 c4 c5 c6 c7 c8 c9 c10
  obtain ⟨c0, c1, c2, c3, c4, c5, c6, c7, c8, c9, c10⟩ := FC.out w1 B1.out
  have s2 : ¬ 9223372036854775807 < 5 + (bs (slotT n.test.l)).size := by omega
  obtain ⟨S, hSe⟩ : ∃ S, S = fun Wx => Below wb.heap.size wb Wx := ⟨_, rfl⟩
  have bn := fun (p : Pt S) => (congrFun hSe p.val).mp p.property
  have q5 := fun (p : Pt S) => (FC.out _ (bn p)).2.2.2.2.2.1
  have q6 := fun (p : Pt S) => (FC.out _ (bn p)).2.2.2.2.2.2.1
  have q7 := fun (p : Pt S) => (FC.out _ (bn p)).2.2.2.2.2.2.2.1
  have q8 := fun (p : Pt S) => (FC.out _ (bn p)).2.2.2.2.2.2.2.2.1
  have q9 := fun (p : Pt S) => (FC.out _ (bn p)).2.2.2.2.2.2.2.2.2.1
  have qo := fun (p : Pt S) => OC.out _ (bn p)
  rw [← HOP.out] at q5
  have NE : Nonempty (Pt S) := ⟨⟨wb, (congrFun hSe wb).mpr BR.out⟩⟩
  have HDD := Lib.hid ((congrFun hSe w1.drew).mpr B1.out.drew)
  have SE := Lib.hid hSe
  have KPP := Lib.hid bn
  have z1 : ¬ 9223372036854775807 < 5 + (bs (slotT n.test.l)).size + 1 := by omega
  have z2 : ¬ 9223372036854775807 < 5 + (bs (slotT n.test.l)).size + 1 + (bs (opT n.test.op)).size := by omega
  have z3 : ¬ 9223372036854775807 < 5 + (bs (slotT n.test.l)).size + 1 + (bs (opT n.test.op)).size + 1 := by omega
  have z4 : ¬ 9223372036854775807 < 5 + (bs (slotT n.test.l)).size + 1 + (bs (opT n.test.op)).size + 1 + (bs (slotT n.test.r)).size := by omega
  have z5 : ¬ 9223372036854775807 < 5 + (bs (slotT n.test.l)).size + 1 + (bs (opT n.test.op)).size + 1 + (bs (slotT n.test.r)).size + (7 + (bs (num n.parent)).size) := by omega
  clear hSe bn c1 c2 c3 c4 c5 c6 c7 c8 c9 c10
  go_upto_region 11 with fail
  refine wp_region_class (S := S) HDD.out (by kernel_rfl) (by kernel_rfl) ?_
  repeat (go_big_quiet_step ((first
    | (go_at_call 50; with_reducible refine (S1.out _ (KPP.out _)).mono ?_; rintro e w' ⟨rfl, hbel⟩; exact ⟨rfl, ⟨w', (congrFun SE.out w').mpr ((KPP.out _).trans (hbel.mono (KPP.out _).size))⟩, rfl⟩)
    | (go_at_call 50; with_reducible refine (S2.out _ (KPP.out _)).mono ?_; rintro e w' ⟨rfl, hbel⟩; exact ⟨rfl, ⟨w', (congrFun SE.out w').mpr ((KPP.out _).trans (hbel.mono (KPP.out _).size))⟩, rfl⟩))))
  refine wpQuiet_nil ?_
  rintro w2 ⟨⟨_, hW⟩, rfl⟩
  have BQ := Lib.hid ((congrFun SE.out w2).mp hW)
  clear q5 q6 q7 q8 q9 qo NE hW c0
  go_upto_region 12 with fail
  rw [show (((((({ data := #[116, 101, 115, 116, 32] } : ByteArray) ++ bs (slotT n.test.l)) ++ { data := #[32] }) ++ bs (opT n.test.op)) ++ { data := #[32] }) ++ bs (slotT n.test.r)) ++ (({ data := #[32, 117, 110, 100, 101, 114, 32] } : ByteArray) ++ bs (num n.parent)) = bs (headT n) by
    rw [show ({ data := #[116, 101, 115, 116, 32] } : ByteArray) = bs [116, 101, 115, 116, 32] from rfl, show ({ data := #[32] } : ByteArray) = bs [32] from rfl, show ({ data := #[32, 117, 110, 100, 101, 114, 32] } : ByteArray) = bs [32, 117, 110, 100, 101, 114, 32] from rfl]
    simp only [bs_app, headT, HK.out, testT, underT, List.append_assoc]
    rfl]
  have hh : (bs (headT n)).size ≤ 200 := by
    rw [bs_size] at *
    simp only [headT, HK.out, testT, underT, List.length_append, List.length_cons, List.length_nil]
    simp
    omega
  obtain ⟨H, hH⟩ : ∃ H, headT n = H := ⟨_, rfl⟩
  rw [hH] at hh ⊢
  have HH := Lib.hid (show nodeT n = H ++ linksT n ++ newT n ++ widthT n by unfold nodeT; rw [if_neg (by rw [HK.out]; decide), hH])
  clear hH
  obtain ⟨c0, c1, c2, c3, c4, c5, c6, c7, c8, c9, c10⟩ := FC.out w2 BQ.out
  rcases Nat.eq_zero_or_pos n.links.length with p0 | p0
  · have e1 : ¬ (0 : Int) < (n.links.length : Int) := by omega
    have HL := Lib.hid (show linksT n = [] by unfold linksT; rw [if_pos (List.length_eq_zero_iff.1 p0)])
    go_upto_region 14 with fail
    rcases Nat.eq_zero_or_pos n.new.length with p1 | p1
    · have e2 : ¬ (0 : Int) < (n.new.length : Int) := by omega
      have HN := Lib.hid (show newT n = [] by unfold newT; rw [if_pos (List.length_eq_zero_iff.1 p1)])
      have u5 : ¬ 9223372036854775807 < (bs H).size + 7 := by omega
      have u6 : ¬ 9223372036854775807 < (bs H).size + 7 + (bs (num n.width)).size := by omega
      go_wp2_with fail
      refine (C3.out _ BQ.out).mono ?_
      rintro e w5 ⟨rfl, hb2⟩
      have BQ := Lib.hid (BQ.out.trans (hb2.mono BQ.out.size))
      clear hb2 c0 c1 c2 c3 c4 c5 c6 c7 c8 c9 c10
      obtain ⟨c0, c1, c2, c3, c4, c5, c6, c7, c8, c9, c10⟩ := FC.out _ BQ.out
      go_wp2
      go_ret
      refine ⟨?_, HBW.out.trans (BQ.out.mono HBW.out.size)⟩
      rw [HH.out, HL.out, HN.out]
      simp only [show ({ data := #[32, 108, 105, 110, 107, 32] } : ByteArray) = bs [32, 108, 105, 110, 107, 32] from rfl, show ({ data := #[32, 110, 101, 119, 32] } : ByteArray) = bs [32, 110, 101, 119, 32] from rfl, show ({ data := #[32, 119, 105, 100, 116, 104, 32] } : ByteArray) = bs [32, 119, 105, 100, 116, 104, 32] from rfl, bs_app, widthT, List.append_assoc, List.nil_append, List.append_nil, List.cons_append]
      rfl
    · have e2 : (0 : Int) < (n.new.length : Int) := by omega
      have HN := Lib.hid (show newT n = [32, 110, 101, 119, 32] ++ NT by unfold newT; rw [if_neg (fun he => by rw [he] at p1; simp at p1), HNT.out])
      have u3 : ¬ 9223372036854775807 < 5 + (bs NT).size := by omega
      have u4 : ¬ 9223372036854775807 < (bs H).size + (5 + (bs NT).size) := by omega
      go_wp2_with fail
      refine (CN.out _ BQ.out).mono ?_
      rintro e w4 ⟨rfl, hb2⟩
      have BQ := Lib.hid (BQ.out.trans (hb2.mono BQ.out.size))
      clear hb2 c0 c1 c2 c3 c4 c5 c6 c7 c8 c9 c10
      obtain ⟨c0, c1, c2, c3, c4, c5, c6, c7, c8, c9, c10⟩ := FC.out _ BQ.out
      have u5 : ¬ 9223372036854775807 < (bs H).size + (5 + (bs NT).size) + 7 := by omega
      have u6 : ¬ 9223372036854775807 < (bs H).size + (5 + (bs NT).size) + 7 + (bs (num n.width)).size := by omega
      go_wp2_with fail
      refine (C3.out _ BQ.out).mono ?_
      rintro e w5 ⟨rfl, hb2⟩
      have BQ := Lib.hid (BQ.out.trans (hb2.mono BQ.out.size))
      clear hb2 c0 c1 c2 c3 c4 c5 c6 c7 c8 c9 c10
      obtain ⟨c0, c1, c2, c3, c4, c5, c6, c7, c8, c9, c10⟩ := FC.out _ BQ.out
      go_wp2
      go_ret
      refine ⟨?_, HBW.out.trans (BQ.out.mono HBW.out.size)⟩
      rw [HH.out, HL.out, HN.out]
      simp only [show ({ data := #[32, 108, 105, 110, 107, 32] } : ByteArray) = bs [32, 108, 105, 110, 107, 32] from rfl, show ({ data := #[32, 110, 101, 119, 32] } : ByteArray) = bs [32, 110, 101, 119, 32] from rfl, show ({ data := #[32, 119, 105, 100, 116, 104, 32] } : ByteArray) = bs [32, 119, 105, 100, 116, 104, 32] from rfl, bs_app, widthT, List.append_assoc, List.nil_append, List.append_nil, List.cons_append]
      rfl
  · have e1 : (0 : Int) < (n.links.length : Int) := by omega
    have HL := Lib.hid (show linksT n = [32, 108, 105, 110, 107, 32] ++ LT by unfold linksT; rw [if_neg (fun he => by rw [he] at p0; simp at p0), HLT.out])
    have u1 : ¬ 9223372036854775807 < 6 + (bs LT).size := by omega
    have u2 : ¬ 9223372036854775807 < (bs H).size + (6 + (bs LT).size) := by omega
    go_wp2_with fail
    refine (CL.out _ BQ.out).mono ?_
    rintro e w3 ⟨rfl, hb2⟩
    have BQ := Lib.hid (BQ.out.trans (hb2.mono BQ.out.size))
    clear hb2 c0 c1 c2 c3 c4 c5 c6 c7 c8 c9 c10
    obtain ⟨c0, c1, c2, c3, c4, c5, c6, c7, c8, c9, c10⟩ := FC.out _ BQ.out
    go_upto_region 14 with fail
    rcases Nat.eq_zero_or_pos n.new.length with p1 | p1
    · have e2 : ¬ (0 : Int) < (n.new.length : Int) := by omega
      have HN := Lib.hid (show newT n = [] by unfold newT; rw [if_pos (List.length_eq_zero_iff.1 p1)])
      have u5 : ¬ 9223372036854775807 < (bs H).size + (6 + (bs LT).size) + 7 := by omega
      have u6 : ¬ 9223372036854775807 < (bs H).size + (6 + (bs LT).size) + 7 + (bs (num n.width)).size := by omega
      go_wp2_with fail
      refine (C3.out _ BQ.out).mono ?_
      rintro e w5 ⟨rfl, hb2⟩
      have BQ := Lib.hid (BQ.out.trans (hb2.mono BQ.out.size))
      clear hb2 c0 c1 c2 c3 c4 c5 c6 c7 c8 c9 c10
      obtain ⟨c0, c1, c2, c3, c4, c5, c6, c7, c8, c9, c10⟩ := FC.out _ BQ.out
      go_wp2
      go_ret
      refine ⟨?_, HBW.out.trans (BQ.out.mono HBW.out.size)⟩
      rw [HH.out, HL.out, HN.out]
      simp only [show ({ data := #[32, 108, 105, 110, 107, 32] } : ByteArray) = bs [32, 108, 105, 110, 107, 32] from rfl, show ({ data := #[32, 110, 101, 119, 32] } : ByteArray) = bs [32, 110, 101, 119, 32] from rfl, show ({ data := #[32, 119, 105, 100, 116, 104, 32] } : ByteArray) = bs [32, 119, 105, 100, 116, 104, 32] from rfl, bs_app, widthT, List.append_assoc, List.nil_append, List.append_nil, List.cons_append]
      rfl
    · have e2 : (0 : Int) < (n.new.length : Int) := by omega
      have HN := Lib.hid (show newT n = [32, 110, 101, 119, 32] ++ NT by unfold newT; rw [if_neg (fun he => by rw [he] at p1; simp at p1), HNT.out])
      have u3 : ¬ 9223372036854775807 < 5 + (bs NT).size := by omega
      have u4 : ¬ 9223372036854775807 < (bs H).size + (6 + (bs LT).size) + (5 + (bs NT).size) := by omega
      go_wp2_with fail
      refine (CN.out _ BQ.out).mono ?_
      rintro e w4 ⟨rfl, hb2⟩
      have BQ := Lib.hid (BQ.out.trans (hb2.mono BQ.out.size))
      clear hb2 c0 c1 c2 c3 c4 c5 c6 c7 c8 c9 c10
      obtain ⟨c0, c1, c2, c3, c4, c5, c6, c7, c8, c9, c10⟩ := FC.out _ BQ.out
      have u5 : ¬ 9223372036854775807 < (bs H).size + (6 + (bs LT).size) + (5 + (bs NT).size) + 7 := by omega
      have u6 : ¬ 9223372036854775807 < (bs H).size + (6 + (bs LT).size) + (5 + (bs NT).size) + 7 + (bs (num n.width)).size := by omega
      go_wp2_with fail
      refine (C3.out _ BQ.out).mono ?_
      rintro e w5 ⟨rfl, hb2⟩
      have BQ := Lib.hid (BQ.out.trans (hb2.mono BQ.out.size))
      clear hb2 c0 c1 c2 c3 c4 c5 c6 c7 c8 c9 c10
      obtain ⟨c0, c1, c2, c3, c4, c5, c6, c7, c8, c9, c10⟩ := FC.out _ BQ.out
      go_wp2
      go_ret
      refine ⟨?_, HBW.out.trans (BQ.out.mono HBW.out.size)⟩
      rw [HH.out, HL.out, HN.out]
      simp only [show ({ data := #[32, 108, 105, 110, 107, 32] } : ByteArray) = bs [32, 108, 105, 110, 107, 32] from rfl, show ({ data := #[32, 110, 101, 119, 32] } : ByteArray) = bs [32, 110, 101, 119, 32] from rfl, show ({ data := #[32, 119, 105, 100, 116, 104, 32] } : ByteArray) = bs [32, 119, 105, 100, 116, 104, 32] from rfl, bs_app, widthT, List.append_assoc, List.nil_append, List.append_nil, List.cons_append]
      rfl
end Go.Proofs.YtonkbjdeaneicaaDoor

namespace Go.Proofs.YtonkbjdeaneicaaDoor
open Go.ChangeShapes Go.WideShapes Go.ChangeAt Go.RowKit Go.Deep
open Pln

/-- All lists of a shape, a node are at most n long. -/
def shpSm (n : Nat) (s : Shp) : Prop := s.cells.length ≤ n
def ndSm (n : Nat) (s : Nd) : Prop := s.links.length ≤ n ∧ s.new.length ≤ n
theorem shpSm.mono {m n : Nat} {p : Shp} (h : m ≤ n) (hp : shpSm m p) : shpSm n p := Nat.le_trans hp h
theorem ndSm.mono {m n : Nat} {p : Nd} (h : m ≤ n) (hp : ndSm m p) : ndSm n p := ⟨Nat.le_trans hp.1 h, Nat.le_trans hp.2 h⟩
structure plSm (n : Nat) (al : List Shp) (ns : List Nd) (es : List Int) : Prop where
  al : al.length ≤ n ∧ ∀ s ∈ al, shpSm n s
  ns : ns.length ≤ n ∧ ∀ s ∈ ns, ndSm n s
  en : es.length ≤ n
/-- v is a plan. -/
structure RPl (F : Nat → Prop) (w : World) (av nv ev : Value) (al : List Shp) (ns : List Nd) (es : List Int) : Prop where
  al : RSl F w 2 (EShp F w) av al
  ns : RSl F w 11 (ENode F w) nv ns
  en : RSl F w 1 EInt ev es
theorem RPl.kp {F F' : Nat → Prop} {w w' : World} {av nv ev : Value} {al : List Shp} {ns : List Nd} {es : List Int} (h : RPl F w av nv ev al ns es) (hk : Kp F w w') (hF : ∀ b, b < w.heap.size → F b → F' b) : RPl F' w' av nv ev al ns es :=
  ⟨h.al.kp hk hF (fun _ _ h => h.kp hk hF), h.ns.kp hk hF (fun _ _ h => h.kp hk hF), h.en.kp hk hF (fun _ _ h => h)⟩
theorem RPl.below {F : Nat → Prop} {w w' : World} {av nv ev : Value} {al : List Shp} {ns : List Nd} {es : List Int} (h : RPl F w av nv ev al ns es) (hb : Below w.heap.size w w') : RPl F w' av nv ev al ns es := h.kp (Kp.of_below hb) (fun _ _ h => h)
section
variable {H : Type} {enc : TypeId × Value → H} {w : World} {base : Nat} {spare : Nat → Bool} {held : Bool} {fuel : Nat} {cs : List Value} {x : DataW H × List MemPlace}
theorem cLnkR : Tryd.prog.cellsOf 56 = 2 := by kernel_rfl
theorem cShpR : Tryd.prog.cellsOf 54 = 2 := by kernel_rfl
theorem cNdR : Tryd.prog.cellsOf 40 = 11 := by kernel_rfl
theorem cPlR : Tryd.prog.cellsOf 26 = 3 := by kernel_rfl
theorem cSInt : Tryd.prog.cellsOf 24 = 1 := by kernel_rfl
theorem cSLnk : Tryd.prog.cellsOf 34 = 1 := by kernel_rfl
theorem cSShp : Tryd.prog.cellsOf 22 = 1 := by kernel_rfl
theorem cSNd : Tryd.prog.cellsOf 23 = 1 := by kernel_rfl
theorem list_eleven {α : Type} {l : List α} (h : l.length = 11) : ∃ a b c d e f g h i j k, l = [a, b, c, d, e, f, g, h, i, j, k] := by
  match l, h with
  | [a, b, c, d, e, f, g, h, i, j, k], _ => exact ⟨a, b, c, d, e, f, g, h, i, j, k, rfl⟩

theorem open_int (h : DataW.trod enc Tryd.prog w base spare held fuel 3 cs = some x) : ∃ s : Int, EInt cs s ∧ True := by
  obtain ⟨k, hk, _, wk⟩ := DataW.trod_int Tryd.underlying3 h
  exact ⟨k, ⟨hk, wk⟩, trivial⟩
theorem open_ints {v : Value} (h : DataW.trod enc Tryd.prog w base spare held fuel 24 [v] = some x) : ∃ xs : List Int, RSl (fun b => b < w.heap.size) w 1 EInt v xs ∧ xs.length ≤ Rows.uptoBulk x.1 := by
  obtain ⟨xs, r1, r2, _⟩ := open_rsl (E := EInt) (Sm := fun _ _ => True) (fun _ _ _ _ _ => trivial) Tryd.underlying24 cIntR (by decide) (fun _ _ _ h => open_int h) h
  exact ⟨xs, r1, r2⟩
theorem open_lnk (h : DataW.trod enc Tryd.prog w base spare held fuel 56 cs = some x) : ∃ s : Int × Int, ELnk cs s ∧ True := by
  obtain ⟨ys, n, _, _, hlen, hyl, hf⟩ := DataW.trod_struct Tryd.underlying56 h
  rw [cLnkR] at hlen
  obtain ⟨a, b, rfl⟩ := list_two hlen
  obtain ⟨y0, y1, rfl⟩ := list_two (show ys.length = 2 from hyl)
  have g0 := hf 0 _ rfl
  change DataW.trod enc Tryd.prog w base spare held n 3 (List.take (Tryd.prog.cellsOf 3) (List.drop 0 [a, b])) = some y0 at g0
  rw [cIntR] at g0
  have g1 := hf 1 _ rfl
  change DataW.trod enc Tryd.prog w base spare held n 3 (List.take (Tryd.prog.cellsOf 3) (List.drop 1 [a, b])) = some y1 at g1
  rw [cIntR] at g1
  simp only [List.drop_zero, List.take_succ_cons, List.take_zero, List.drop_succ_cons] at g0 g1
  obtain ⟨v, hv, _, wv⟩ := DataW.trod_int Tryd.underlying3 g0
  obtain ⟨k, hk, _, wk⟩ := DataW.trod_int Tryd.underlying3 g1
  simp only [List.cons.injEq, and_true] at hv hk
  subst hv; subst hk
  exact ⟨(v, k), ⟨rfl, wv, wk⟩, trivial⟩
theorem open_shp (h : DataW.trod enc Tryd.prog w base spare held fuel 54 cs = some x) : ∃ p : Shp, EShp (fun b => b < w.heap.size) w cs p ∧ shpSm (Rows.uptoBulk x.1) p := by
  obtain ⟨ys, n, _, hx, hlen, hyl, hf⟩ := DataW.trod_struct Tryd.underlying54 h
  rw [cShpR] at hlen
  obtain ⟨a, b, rfl⟩ := list_two hlen
  obtain ⟨y0, y1, rfl⟩ := list_two (show ys.length = 2 from hyl)
  have g0 := hf 0 _ rfl
  change DataW.trod enc Tryd.prog w base spare held n 3 (List.take (Tryd.prog.cellsOf 3) (List.drop 0 [a, b])) = some y0 at g0
  rw [cIntR] at g0
  have g1 := hf 1 _ rfl
  change DataW.trod enc Tryd.prog w base spare held n 24 (List.take (Tryd.prog.cellsOf 24) (List.drop 1 [a, b])) = some y1 at g1
  rw [cSInt] at g1
  simp only [List.drop_zero, List.take_succ_cons, List.take_zero, List.drop_succ_cons] at g0 g1
  obtain ⟨k, hk, _, wk⟩ := DataW.trod_int Tryd.underlying3 g0
  simp only [List.cons.injEq, and_true] at hk
  subst hk
  obtain ⟨xs, r1, r2⟩ := open_ints g1
  refine ⟨⟨k, xs⟩, ⟨b, rfl, wk, r1⟩, ?_⟩
  have := bulk_part (d := x.1) (by rw [hx]) (show y1 ∈ [y0, y1] by simp)
  exact Nat.le_trans r2 this
theorem open_nd (h : DataW.trod enc Tryd.prog w base spare held fuel 40 cs = some x) : ∃ r : Nd, ENode (fun b => b < w.heap.size) w cs r ∧ ndSm (Rows.uptoBulk x.1) r := by
  obtain ⟨ys, n, _, hx, hlen, hyl, hf⟩ := DataW.trod_struct Tryd.underlying40 h
  rw [cNdR] at hlen
  obtain ⟨a, b, c, d, e, f, g, p, q, r, s, rfl⟩ := list_eleven hlen
  obtain ⟨y0, y1, y2, y3, y4, y5, y6, rfl⟩ := list_seven (show ys.length = 7 from hyl)
  have g0 := hf 0 _ rfl
  change DataW.trod enc Tryd.prog w base spare held n 3 (List.take (Tryd.prog.cellsOf 3) (List.drop 0 [a, b, c, d, e, f, g, p, q, r, s])) = some y0 at g0
  rw [cIntR] at g0
  have g1 := hf 1 _ rfl
  change DataW.trod enc Tryd.prog w base spare held n 3 (List.take (Tryd.prog.cellsOf 3) (List.drop 1 [a, b, c, d, e, f, g, p, q, r, s])) = some y1 at g1
  rw [cIntR] at g1
  have g2 := hf 2 _ rfl
  change DataW.trod enc Tryd.prog w base spare held n 3 (List.take (Tryd.prog.cellsOf 3) (List.drop 2 [a, b, c, d, e, f, g, p, q, r, s])) = some y2 at g2
  rw [cIntR] at g2
  have g3 := hf 3 _ rfl
  change DataW.trod enc Tryd.prog w base spare held n 34 (List.take (Tryd.prog.cellsOf 34) (List.drop 3 [a, b, c, d, e, f, g, p, q, r, s])) = some y3 at g3
  rw [cSLnk] at g3
  have g4 := hf 4 _ rfl
  change DataW.trod enc Tryd.prog w base spare held n 24 (List.take (Tryd.prog.cellsOf 24) (List.drop 4 [a, b, c, d, e, f, g, p, q, r, s])) = some y4 at g4
  rw [cSInt] at g4
  have g5 := hf 5 _ rfl
  change DataW.trod enc Tryd.prog w base spare held n 38 (List.take (Tryd.prog.cellsOf 38) (List.drop 5 [a, b, c, d, e, f, g, p, q, r, s])) = some y5 at g5
  rw [cTstR] at g5
  have g6 := hf 6 _ rfl
  change DataW.trod enc Tryd.prog w base spare held n 3 (List.take (Tryd.prog.cellsOf 3) (List.drop 10 [a, b, c, d, e, f, g, p, q, r, s])) = some y6 at g6
  rw [cIntR] at g6
  simp only [List.drop_zero, List.take_succ_cons, List.take_zero, List.drop_succ_cons] at g0 g1 g2 g3 g4 g5 g6
  obtain ⟨k0, h0, _, w0⟩ := DataW.trod_int Tryd.underlying3 g0
  obtain ⟨k1, h1, _, w1⟩ := DataW.trod_int Tryd.underlying3 g1
  obtain ⟨k2, h2, _, w2⟩ := DataW.trod_int Tryd.underlying3 g2
  obtain ⟨ls, l1, l2, _⟩ := open_rsl (E := ELnk) (Sm := fun _ _ => True) (fun _ _ _ _ _ => trivial) Tryd.underlying34 cLnkR (by decide) (fun _ _ _ h => open_lnk h) g3
  obtain ⟨nw, n1, n2⟩ := open_ints g4
  obtain ⟨t, ⟨h5, t1, t2, t3⟩, _⟩ := open_tst g5
  obtain ⟨k6, h6, _, w6⟩ := DataW.trod_int Tryd.underlying3 g6
  simp only [List.cons.injEq, and_true] at h0 h1 h2 h5 h6
  obtain ⟨rfl, rfl, rfl, rfl, rfl⟩ := h5
  subst h0; subst h1; subst h2; subst h6
  have B : ∀ y ∈ [y0, y1, y2, y3, y4, y5, y6], Rows.uptoBulk y.1 ≤ Rows.uptoBulk x.1 := fun y hy => bulk_part (d := x.1) (by rw [hx]) hy
  exact ⟨⟨k0, k1, k2, ls, nw, t, k6⟩, ⟨d, e, ⟨rfl, ⟨w0, w1, w2, w6, t1, t2, t3⟩, l1, n1⟩⟩, ⟨Nat.le_trans l2 (B y3 (by simp)), Nat.le_trans n2 (B y4 (by simp))⟩⟩
theorem open_plan (h : DataW.trod enc Tryd.prog w base spare held fuel 26 cs = some x) : ∃ av nv ev al ns es, cs = [av, nv, ev] ∧ RPl (fun b => b < w.heap.size) w av nv ev al ns es ∧ plSm (Rows.uptoBulk x.1) al ns es := by
  obtain ⟨ys, n, _, hx, hlen, hyl, hf⟩ := DataW.trod_struct Tryd.underlying26 h
  rw [cPlR] at hlen
  obtain ⟨a, b, c, rfl⟩ := list_three hlen
  obtain ⟨y0, y1, y2, rfl⟩ := list_three (show ys.length = 3 from hyl)
  have g0 := hf 0 _ rfl
  change DataW.trod enc Tryd.prog w base spare held n 22 (List.take (Tryd.prog.cellsOf 22) (List.drop 0 [a, b, c])) = some y0 at g0
  rw [cSShp] at g0
  have g1 := hf 1 _ rfl
  change DataW.trod enc Tryd.prog w base spare held n 23 (List.take (Tryd.prog.cellsOf 23) (List.drop 1 [a, b, c])) = some y1 at g1
  rw [cSNd] at g1
  have g2 := hf 2 _ rfl
  change DataW.trod enc Tryd.prog w base spare held n 24 (List.take (Tryd.prog.cellsOf 24) (List.drop 2 [a, b, c])) = some y2 at g2
  rw [cSInt] at g2
  simp only [List.drop_zero, List.take_succ_cons, List.take_zero, List.drop_succ_cons] at g0 g1 g2
  obtain ⟨al, a1, a2, a3⟩ := open_rsl (E := EShp (fun b => b < w.heap.size) w) (Sm := shpSm) (fun _ _ _ h h' => h'.mono h) Tryd.underlying22 cShpR (by decide) (fun _ _ _ h => open_shp h) g0
  obtain ⟨ns, n1, n2, n3⟩ := open_rsl (E := ENode (fun b => b < w.heap.size) w) (Sm := ndSm) (fun _ _ _ h h' => h'.mono h) Tryd.underlying23 cNdR (by decide) (fun _ _ _ h => open_nd h) g1
  obtain ⟨es, e1, e2⟩ := open_ints g2
  have B : ∀ y ∈ [y0, y1, y2], Rows.uptoBulk y.1 ≤ Rows.uptoBulk x.1 := fun y hy => bulk_part (d := x.1) (by rw [hx]) hy
  have b0 := B y0 (by simp); have b1 := B y1 (by simp); have b2 := B y2 (by simp)
  exact ⟨a, b, c, al, ns, es, rfl, ⟨a1, n1, e1⟩, ⟨⟨Nat.le_trans a2 b0, fun p hp => (a3 p hp).mono b0⟩, ⟨Nat.le_trans n2 b1, fun p hp => (n3 p hp).mono b1⟩, Nat.le_trans e2 b2⟩⟩
end
end Go.Proofs.YtonkbjdeaneicaaDoor
