/- plan.nodeText: the walk. Printed by wip/bin/txd.py. plan.Text, in plain words: its lines; how long they are. -/
import Derived.Test.YtonkbjdeaneicaaDoorKpa23
import Derived.Test.YtonkbjdeaneicaaDoorKpa24
import Derived.Test.YtonkbjdeaneicaaDoorKpa32
namespace Go.Proofs.YtonkbjdeaneicaaDoor
open Go Go.RowKit Pln Classical

theorem box_cellD {w wr : World} {cs : Array Value} {T : TypeId} (hb : Below (w.heap.size + 1) (w.alloc (.cells cs T)) wr) (j : Nat) {u : Value} (hu : cs.toList[j]? = some u) : wr.cell? ⟨w.heap.size, j, none⟩ = some u :=
  (hb.cell (p := ⟨w.heap.size, j, none⟩) (by simp)).trans (cell_of_row _ _ j _ _ _ (heap_alloc_new w _)) |>.trans (by rw [← Array.getElem?_toList]; exact hu)
/-- What is asked of a node that is written out. -/
structure NdT (F : Nat → Prop) (w : World) (n : Nd) (lv mv : Value) : Prop where
  ok : i64ok n.kind ∧ i64ok n.parent ∧ i64ok n.alpha ∧ i64ok n.width ∧ i64ok n.test.op ∧ i64ok n.test.l.n ∧ i64ok n.test.r.n
  links : RSl F w 2 ELnk lv n.links
  new : RSl F w 1 EInt mv n.new
  ln : n.links.length ≤ 1048576
  nn : n.new.length ≤ 1048576
/-- What stands behind the head. -/
def restT (n : Nd) : List UInt8 := linksT n ++ newT n ++ widthT n
theorem linksT_len {F : Nat → Prop} {w : World} {n : Nd} {lv mv : Value} (h : NdT F w n lv mv) : (Lib.join (linkPs n.links n.links.length) sepT).length ≤ 200000000 := by
  have h1 := join_len (m := 100) (linkPs n.links n.links.length) (linkPs_le _ (fun x hx => by obtain ⟨cs, _, h1, h2⟩ := memE h.links hx; exact ⟨h1, h2⟩))
  rw [linkPs_len] at h1
  have := h.ln
  omega
theorem newT_len {F : Nat → Prop} {w : World} {n : Nd} {lv mv : Value} (h : NdT F w n lv mv) : (Lib.join (placePs n.new n.new.length) sepT).length ≤ 200000000 := by
  have h1 := join_len (m := 100) (placePs n.new n.new.length) (placePs_le _ (fun x hx => by obtain ⟨cs, _, h1⟩ := memE h.new hx; exact h1))
  rw [placePs_len] at h1
  have := h.nn
  omega

set_option maxRecDepth 200000 in
set_option maxHeartbeats 8000000 in
theorem nodeTextW0 {F : Nat → Prop} (n : Nd) (lv mv : Value) (w : World) (h : NdT F w n lv mv) (hk : n.kind = 0) (ht : Tab w) (ho : Ops w) :
    Calls Tryd.prog 27 #[.agg #[.int .i64 n.kind, .int .i64 n.parent, .int .i64 n.alpha, lv, mv, .int .i64 n.test.op, .bool n.test.l.v, .int .i64 n.test.l.n, .bool n.test.r.v, .int .i64 n.test.r.n, .int .i64 n.width]] w fun e w' => e = .returned (.string (bs (nodeT n))) ∧ Below w.heap.size w w' := by
  rw [hk]
  obtain ⟨LA, lc, rfl⟩ := h.links.form
  obtain ⟨MA, mc, rfl⟩ := h.new.form
  obtain ⟨-, o1, o2, o3, o4, o5, o6⟩ := h.ok
  obtain ⟨wb, hwb⟩ : ∃ wb, wb = w.alloc (.cells #[.int .i64 0, .int .i64 n.parent, .int .i64 n.alpha, .slice LA n.links.length lc, .slice MA n.new.length mc, .int .i64 n.test.op, .bool n.test.l.v, .int .i64 n.test.l.n, .bool n.test.r.v, .int .i64 n.test.r.n, .int .i64 n.width] 40) := ⟨_, rfl⟩
  have hb0 : Below (w.heap.size + 1) (w.alloc (.cells #[.int .i64 0, .int .i64 n.parent, .int .i64 n.alpha, .slice LA n.links.length lc, .slice MA n.new.length mc, .int .i64 n.test.op, .bool n.test.l.v, .int .i64 n.test.l.n, .bool n.test.r.v, .int .i64 n.test.r.n, .int .i64 n.width] 40)) wb := by rw [hwb]; exact Below.refl _ _
  have hbw : Below w.heap.size w wb := by rw [hwb]; exact (Below.refl _ _).alloc (Nat.le_refl _) _
  have hsz1 : w.heap.size + 1 ≤ wb.heap.size := by have := hb0.size; simpa using this
  have FC := Lib.hid (fun (Wx : World) (hx : Below wb.heap.size wb Wx) => (show Wx.cell? ⟨w.heap.size, 0, none⟩ = some (.int .i64 0) ∧ Wx.cell? ⟨w.heap.size, 1, none⟩ = some (.int .i64 n.parent) ∧ Wx.cell? ⟨w.heap.size, 2, none⟩ = some (.int .i64 n.alpha) ∧ Wx.cell? ⟨w.heap.size, 3, none⟩ = some (.slice LA n.links.length lc) ∧ Wx.cell? ⟨w.heap.size, 4, none⟩ = some (.slice MA n.new.length mc) ∧ Wx.cell? ⟨w.heap.size, 5, none⟩ = some (.int .i64 n.test.op) ∧ Wx.cell? ⟨w.heap.size, 6, none⟩ = some (.bool n.test.l.v) ∧ Wx.cell? ⟨w.heap.size, 7, none⟩ = some (.int .i64 n.test.l.n) ∧ Wx.cell? ⟨w.heap.size, 8, none⟩ = some (.bool n.test.r.v) ∧ Wx.cell? ⟨w.heap.size, 9, none⟩ = some (.int .i64 n.test.r.n) ∧ Wx.cell? ⟨w.heap.size, 10, none⟩ = some (.int .i64 n.width) from
    have hxx := hb0.trans (hx.mono hsz1)
    ⟨box_cellD hxx 0 rfl, box_cellD hxx 1 rfl, box_cellD hxx 2 rfl, box_cellD hxx 3 rfl, box_cellD hxx 4 rfl, box_cellD hxx 5 rfl, box_cellD hxx 6 rfl, box_cellD hxx 7 rfl, box_cellD hxx 8 rfl, box_cellD hxx 9 rfl, box_cellD hxx 10 rfl⟩))
  have TB := Lib.hid (fun (Wx : World) (hx : Below wb.heap.size wb Wx) => (ht.below hbw).below hx)
  have OB := Lib.hid (fun (Wx : World) (hx : Below wb.heap.size wb Wx) => (ho.below hbw).below hx)
  have C1 := Lib.hid (fun (Wx : World) (hx : Below wb.heap.size wb Wx) => itoaW n.parent o1.lo Wx (TB.out Wx hx))
  have C2 := Lib.hid (fun (Wx : World) (hx : Below wb.heap.size wb Wx) => itoaW n.alpha o2.lo Wx (TB.out Wx hx))
  have C3 := Lib.hid (fun (Wx : World) (hx : Below wb.heap.size wb Wx) => itoaW n.width o3.lo Wx (TB.out Wx hx))
  have CL := Lib.hid (fun (Wx : World) (hx : Below wb.heap.size wb Wx) => list_linkPW _ n.links Wx (h.links.keep (Kp.of_below (hbw.trans (hx.mono hbw.size)))) h.ln (TB.out Wx hx))
  have CN := Lib.hid (fun (Wx : World) (hx : Below wb.heap.size wb Wx) => list_placePW _ n.new Wx (h.new.keep (Kp.of_below (hbw.trans (hx.mono hbw.size)))) h.nn (TB.out Wx hx))
  have l1 := num_len o1.lo
  have l2 := num_len o2.lo
  have l3 := num_len o3.lo
  have jl := linksT_len h
  have jn := newT_len h
  rw [← bs_size] at l1 l2 l3 jl jn
  have HBW := Lib.hid hbw
  have HK := Lib.hid hk
  have BR := Lib.hid (Below.refl wb.heap.size wb)
  obtain ⟨LT, hLT⟩ : ∃ LT, Lib.join (linkPs n.links n.links.length) sepT = LT := ⟨_, rfl⟩
  obtain ⟨NT, hNT⟩ : ∃ NT, Lib.join (placePs n.new n.new.length) sepT = NT := ⟨_, rfl⟩
  rw [hLT] at CL jl
  rw [hNT] at CN jn
  have HLT := Lib.hid hLT
  have HNT := Lib.hid hNT
  clear hLT hNT
  clear hb0 hbw h ht ho
  go_enter Tryd.func27, Tryd.ntmps27
  go_upto_region 1 with fail
  rw [← hwb]
  clear hwb
  obtain ⟨c0, c1, c2, c3, c4, c5, c6, c7, c8, c9, c10⟩ := FC.out wb BR.out
  have s1 : ¬ 9223372036854775807 < 7 + (bs (num n.parent)).size := by omega
  go_wp2_with fail
  refine (C1.out _ BR.out).mono ?_
  rintro e w1 ⟨rfl, hb1⟩
  have B1 := Lib.hid (BR.out.trans (hb1.mono (Nat.le_refl _)))
  clear hb1 c0 c1 c2 c3 c4 c5 c6 c7 c8 c9 c10
  obtain ⟨c0, c1, c2, c3, c4, c5, c6, c7, c8, c9, c10⟩ := FC.out w1 B1.out
  go_wp2
  go_ret
  refine ⟨?_, HBW.out.trans (B1.out.mono HBW.out.size)⟩
  rw [show nodeT n = [114, 111, 111, 116] by unfold nodeT; rw [if_pos HK.out]]
  rfl
set_option maxRecDepth 200000 in
set_option maxHeartbeats 8000000 in
theorem nodeTextW1 {F : Nat → Prop} (n : Nd) (lv mv : Value) (w : World) (h : NdT F w n lv mv) (hk : n.kind = 1) (ht : Tab w) (ho : Ops w) :
    Calls Tryd.prog 27 #[.agg #[.int .i64 n.kind, .int .i64 n.parent, .int .i64 n.alpha, lv, mv, .int .i64 n.test.op, .bool n.test.l.v, .int .i64 n.test.l.n, .bool n.test.r.v, .int .i64 n.test.r.n, .int .i64 n.width]] w fun e w' => e = .returned (.string (bs (nodeT n))) ∧ Below w.heap.size w w' := by
  rw [hk]
  obtain ⟨LA, lc, rfl⟩ := h.links.form
  obtain ⟨MA, mc, rfl⟩ := h.new.form
  obtain ⟨-, o1, o2, o3, o4, o5, o6⟩ := h.ok
  obtain ⟨wb, hwb⟩ : ∃ wb, wb = w.alloc (.cells #[.int .i64 1, .int .i64 n.parent, .int .i64 n.alpha, .slice LA n.links.length lc, .slice MA n.new.length mc, .int .i64 n.test.op, .bool n.test.l.v, .int .i64 n.test.l.n, .bool n.test.r.v, .int .i64 n.test.r.n, .int .i64 n.width] 40) := ⟨_, rfl⟩
  have hb0 : Below (w.heap.size + 1) (w.alloc (.cells #[.int .i64 1, .int .i64 n.parent, .int .i64 n.alpha, .slice LA n.links.length lc, .slice MA n.new.length mc, .int .i64 n.test.op, .bool n.test.l.v, .int .i64 n.test.l.n, .bool n.test.r.v, .int .i64 n.test.r.n, .int .i64 n.width] 40)) wb := by rw [hwb]; exact Below.refl _ _
  have hbw : Below w.heap.size w wb := by rw [hwb]; exact (Below.refl _ _).alloc (Nat.le_refl _) _
  have hsz1 : w.heap.size + 1 ≤ wb.heap.size := by have := hb0.size; simpa using this
  have FC := Lib.hid (fun (Wx : World) (hx : Below wb.heap.size wb Wx) => (show Wx.cell? ⟨w.heap.size, 0, none⟩ = some (.int .i64 1) ∧ Wx.cell? ⟨w.heap.size, 1, none⟩ = some (.int .i64 n.parent) ∧ Wx.cell? ⟨w.heap.size, 2, none⟩ = some (.int .i64 n.alpha) ∧ Wx.cell? ⟨w.heap.size, 3, none⟩ = some (.slice LA n.links.length lc) ∧ Wx.cell? ⟨w.heap.size, 4, none⟩ = some (.slice MA n.new.length mc) ∧ Wx.cell? ⟨w.heap.size, 5, none⟩ = some (.int .i64 n.test.op) ∧ Wx.cell? ⟨w.heap.size, 6, none⟩ = some (.bool n.test.l.v) ∧ Wx.cell? ⟨w.heap.size, 7, none⟩ = some (.int .i64 n.test.l.n) ∧ Wx.cell? ⟨w.heap.size, 8, none⟩ = some (.bool n.test.r.v) ∧ Wx.cell? ⟨w.heap.size, 9, none⟩ = some (.int .i64 n.test.r.n) ∧ Wx.cell? ⟨w.heap.size, 10, none⟩ = some (.int .i64 n.width) from
    have hxx := hb0.trans (hx.mono hsz1)
    ⟨box_cellD hxx 0 rfl, box_cellD hxx 1 rfl, box_cellD hxx 2 rfl, box_cellD hxx 3 rfl, box_cellD hxx 4 rfl, box_cellD hxx 5 rfl, box_cellD hxx 6 rfl, box_cellD hxx 7 rfl, box_cellD hxx 8 rfl, box_cellD hxx 9 rfl, box_cellD hxx 10 rfl⟩))
  have TB := Lib.hid (fun (Wx : World) (hx : Below wb.heap.size wb Wx) => (ht.below hbw).below hx)
  have OB := Lib.hid (fun (Wx : World) (hx : Below wb.heap.size wb Wx) => (ho.below hbw).below hx)
  have C1 := Lib.hid (fun (Wx : World) (hx : Below wb.heap.size wb Wx) => itoaW n.parent o1.lo Wx (TB.out Wx hx))
  have C2 := Lib.hid (fun (Wx : World) (hx : Below wb.heap.size wb Wx) => itoaW n.alpha o2.lo Wx (TB.out Wx hx))
  have C3 := Lib.hid (fun (Wx : World) (hx : Below wb.heap.size wb Wx) => itoaW n.width o3.lo Wx (TB.out Wx hx))
  have CL := Lib.hid (fun (Wx : World) (hx : Below wb.heap.size wb Wx) => list_linkPW _ n.links Wx (h.links.keep (Kp.of_below (hbw.trans (hx.mono hbw.size)))) h.ln (TB.out Wx hx))
  have CN := Lib.hid (fun (Wx : World) (hx : Below wb.heap.size wb Wx) => list_placePW _ n.new Wx (h.new.keep (Kp.of_below (hbw.trans (hx.mono hbw.size)))) h.nn (TB.out Wx hx))
  have l1 := num_len o1.lo
  have l2 := num_len o2.lo
  have l3 := num_len o3.lo
  have jl := linksT_len h
  have jn := newT_len h
  rw [← bs_size] at l1 l2 l3 jl jn
  have HBW := Lib.hid hbw
  have HK := Lib.hid hk
  have BR := Lib.hid (Below.refl wb.heap.size wb)
  obtain ⟨LT, hLT⟩ : ∃ LT, Lib.join (linkPs n.links n.links.length) sepT = LT := ⟨_, rfl⟩
  obtain ⟨NT, hNT⟩ : ∃ NT, Lib.join (placePs n.new n.new.length) sepT = NT := ⟨_, rfl⟩
  rw [hLT] at CL jl
  rw [hNT] at CN jn
  have HLT := Lib.hid hLT
  have HNT := Lib.hid hNT
  clear hLT hNT
  clear hb0 hbw h ht ho
  go_enter Tryd.func27, Tryd.ntmps27
  go_upto_region 1 with fail
  rw [← hwb]
  clear hwb
  obtain ⟨c0, c1, c2, c3, c4, c5, c6, c7, c8, c9, c10⟩ := FC.out wb BR.out
  have s1 : ¬ 9223372036854775807 < 7 + (bs (num n.parent)).size := by omega
  go_wp2_with fail
  refine (C1.out _ BR.out).mono ?_
  rintro e w1 ⟨rfl, hb1⟩
  have B1 := Lib.hid (BR.out.trans (hb1.mono (Nat.le_refl _)))
  clear hb1 c0 c1 c2 c3 c4 c5 c6 c7 c8 c9 c10
  obtain ⟨c0, c1, c2, c3, c4, c5, c6, c7, c8, c9, c10⟩ := FC.out w1 B1.out
  have s2 : ¬ 9223372036854775807 < 5 + (bs (num n.alpha)).size := by omega
  have s3 : ¬ 9223372036854775807 < 5 + (bs (num n.alpha)).size + (7 + (bs (num n.parent)).size) := by omega
  go_wp2_with fail
  refine (C2.out _ B1.out).mono ?_
  rintro e w2 ⟨rfl, hb2⟩
  have BQ := Lib.hid (B1.out.trans (hb2.mono B1.out.size))
  clear hb2 c0 c1 c2 c3 c4 c5 c6 c7 c8 c9 c10
  go_upto_region 12 with fail
  rw [show (({ data := #[106, 111, 105, 110, 32] } : ByteArray) ++ bs (num n.alpha)) ++ (({ data := #[32, 117, 110, 100, 101, 114, 32] } : ByteArray) ++ bs (num n.parent)) = bs (headT n) by
    rw [show ({ data := #[106, 111, 105, 110, 32] } : ByteArray) = bs [106, 111, 105, 110, 32] from rfl, show ({ data := #[32, 117, 110, 100, 101, 114, 32] } : ByteArray) = bs [32, 117, 110, 100, 101, 114, 32] from rfl]
    simp only [bs_app, headT, HK.out, underT, List.append_assoc]
    rfl]
  have hh : (bs (headT n)).size ≤ 200 := by
    rw [bs_size] at *
    simp only [headT, HK.out, testT, underT, List.length_append, List.length_cons, List.length_nil]
    simp
    omega
  obtain ⟨H, hH⟩ : ∃ H, headT n = H := ⟨_, rfl⟩
  rw [hH] at hh ⊢
  have HH := Lib.hid (show nodeT n = H ++ linksT n ++ newT n ++ widthT n by unfold nodeT; rw [if_neg (by rw [HK.out]; decide), hH])
  clear hH
  obtain ⟨c0, c1, c2, c3, c4, c5, c6, c7, c8, c9, c10⟩ := FC.out w2 BQ.out
  rcases Nat.eq_zero_or_pos n.links.length with p0 | p0
  · have e1 : ¬ (0 : Int) < (n.links.length : Int) := by omega
    have HL := Lib.hid (show linksT n = [] by unfold linksT; rw [if_pos (List.length_eq_zero_iff.1 p0)])
    go_upto_region 14 with fail
    rcases Nat.eq_zero_or_pos n.new.length with p1 | p1
    · have e2 : ¬ (0 : Int) < (n.new.length : Int) := by omega
      have HN := Lib.hid (show newT n = [] by unfold newT; rw [if_pos (List.length_eq_zero_iff.1 p1)])
      have u5 : ¬ 9223372036854775807 < (bs H).size + 7 := by omega
      have u6 : ¬ 9223372036854775807 < (bs H).size + 7 + (bs (num n.width)).size := by omega
      go_wp2_with fail
      refine (C3.out _ BQ.out).mono ?_
      rintro e w5 ⟨rfl, hb2⟩
      have BQ := Lib.hid (BQ.out.trans (hb2.mono BQ.out.size))
      clear hb2 c0 c1 c2 c3 c4 c5 c6 c7 c8 c9 c10
      obtain ⟨c0, c1, c2, c3, c4, c5, c6, c7, c8, c9, c10⟩ := FC.out _ BQ.out
      go_wp2
      go_ret
      refine ⟨?_, HBW.out.trans (BQ.out.mono HBW.out.size)⟩
      rw [HH.out, HL.out, HN.out]
      simp only [show ({ data := #[32, 108, 105, 110, 107, 32] } : ByteArray) = bs [32, 108, 105, 110, 107, 32] from rfl, show ({ data := #[32, 110, 101, 119, 32] } : ByteArray) = bs [32, 110, 101, 119, 32] from rfl, show ({ data := #[32, 119, 105, 100, 116, 104, 32] } : ByteArray) = bs [32, 119, 105, 100, 116, 104, 32] from rfl, bs_app, widthT, List.append_assoc, List.nil_append, List.append_nil, List.cons_append]
      rfl
    · have e2 : (0 : Int) < (n.new.length : Int) := by omega
      have HN := Lib.hid (show newT n = [32, 110, 101, 119, 32] ++ NT by unfold newT; rw [if_neg (fun he => by rw [he] at p1; simp at p1), HNT.out])
      have u3 : ¬ 9223372036854775807 < 5 + (bs NT).size := by omega
      have u4 : ¬ 9223372036854775807 < (bs H).size + (5 + (bs NT).size) := by omega
      go_wp2_with fail
      refine (CN.out _ BQ.out).mono ?_
      rintro e w4 ⟨rfl, hb2⟩
      have BQ := Lib.hid (BQ.out.trans (hb2.mono BQ.out.size))
      clear hb2 c0 c1 c2 c3 c4 c5 c6 c7 c8 c9 c10
      obtain ⟨c0, c1, c2, c3, c4, c5, c6, c7, c8, c9, c10⟩ := FC.out _ BQ.out
      have u5 : ¬ 9223372036854775807 < (bs H).size + (5 + (bs NT).size) + 7 := by omega
      have u6 : ¬ 9223372036854775807 < (bs H).size + (5 + (bs NT).size) + 7 + (bs (num n.width)).size := by omega
      go_wp2_with fail
      refine (C3.out _ BQ.out).mono ?_
      rintro e w5 ⟨rfl, hb2⟩
      have BQ := Lib.hid (BQ.out.trans (hb2.mono BQ.out.size))
      clear hb2 c0 c1 c2 c3 c4 c5 c6 c7 c8 c9 c10
      obtain ⟨c0, c1, c2, c3, c4, c5, c6, c7, c8, c9, c10⟩ := FC.out _ BQ.out
      go_wp2
      go_ret
      refine ⟨?_, HBW.out.trans (BQ.out.mono HBW.out.size)⟩
      rw [HH.out, HL.out, HN.out]
      simp only [show ({ data := #[32, 108, 105, 110, 107, 32] } : ByteArray) = bs [32, 108, 105, 110, 107, 32] from rfl, show ({ data := #[32, 110, 101, 119, 32] } : ByteArray) = bs [32, 110, 101, 119, 32] from rfl, show ({ data := #[32, 119, 105, 100, 116, 104, 32] } : ByteArray) = bs [32, 119, 105, 100, 116, 104, 32] from rfl, bs_app, widthT, List.append_assoc, List.nil_append, List.append_nil, List.cons_append]
      rfl
  · have e1 : (0 : Int) < (n.links.length : Int) := by omega
    have HL := Lib.hid (show linksT n = [32, 108, 105, 110, 107, 32] ++ LT by unfold linksT; rw [if_neg (fun he => by rw [he] at p0; simp at p0), HLT.out])
    have u1 : ¬ 9223372036854775807 < 6 + (bs LT).size := by omega
    have u2 : ¬ 9223372036854775807 < (bs H).size + (6 + (bs LT).size) := by omega
    go_wp2_with fail
    refine (CL.out _ BQ.out).mono ?_
    rintro e w3 ⟨rfl, hb2⟩
    have BQ := Lib.hid (BQ.out.trans (hb2.mono BQ.out.size))
    clear hb2 c0 c1 c2 c3 c4 c5 c6 c7 c8 c9 c10
    obtain ⟨c0, c1, c2, c3, c4, c5, c6, c7, c8, c9, c10⟩ := FC.out _ BQ.out
    go_upto_region 14 with fail
    rcases Nat.eq_zero_or_pos n.new.length with p1 | p1
    · have e2 : ¬ (0 : Int) < (n.new.length : Int) := by omega
      have HN := Lib.hid (show newT n = [] by unfold newT; rw [if_pos (List.length_eq_zero_iff.1 p1)])
      have u5 : ¬ 9223372036854775807 < (bs H).size + (6 + (bs LT).size) + 7 := by omega
      have u6 : ¬ 9223372036854775807 < (bs H).size + (6 + (bs LT).size) + 7 + (bs (num n.width)).size := by omega
      go_wp2_with fail
      refine (C3.out _ BQ.out).mono ?_
      rintro e w5 ⟨rfl, hb2⟩
      have BQ := Lib.hid (BQ.out.trans (hb2.mono BQ.out.size))
      clear hb2 c0 c1 c2 c3 c4 c5 c6 c7 c8 c9 c10
      obtain ⟨c0, c1, c2, c3, c4, c5, c6, c7, c8, c9, c10⟩ := FC.out _ BQ.out
      go_wp2
      go_ret
      refine ⟨?_, HBW.out.trans (BQ.out.mono HBW.out.size)⟩
      rw [HH.out, HL.out, HN.out]
      simp only [show ({ data := #[32, 108, 105, 110, 107, 32] } : ByteArray) = bs [32, 108, 105, 110, 107, 32] from rfl, show ({ data := #[32, 110, 101, 119, 32] } : ByteArray) = bs [32, 110, 101, 119, 32] from rfl, show ({ data := #[32, 119, 105, 100, 116, 104, 32] } : ByteArray) = bs [32, 119, 105, 100, 116, 104, 32] from rfl, bs_app, widthT, List.append_assoc, List.nil_append, List.append_nil, List.cons_append]
      rfl
    · have e2 : (0 : Int) < (n.new.length : Int) := by omega
      have HN := Lib.hid (show newT n = [32, 110, 101, 119, 32] ++ NT by unfold newT; rw [if_neg (fun he => by rw [he] at p1; simp at p1), HNT.out])
      have u3 : ¬ 9223372036854775807 < 5 + (bs NT).size := by omega
      have u4 : ¬ 9223372036854775807 < (bs H).size + (6 + (bs LT).size) + (5 + (bs NT).size) := by omega
      go_wp2_with fail
      refine (CN.out _ BQ.out).mono ?_
      rintro e w4 ⟨rfl, hb2⟩
      have BQ := Lib.hid (BQ.out.trans (hb2.mono BQ.out.size))
      clear hb2 c0 c1 c2 c3 c4 c5 c6 c7 c8 c9 c10
      obtain ⟨c0, c1, c2, c3, c4, c5, c6, c7, c8, c9, c10⟩ := FC.out _ BQ.out
      have u5 : ¬ 9223372036854775807 < (bs H).size + (6 + (bs LT).size) + (5 + (bs NT).size) + 7 := by omega
      have u6 : ¬ 9223372036854775807 < (bs H).size + (6 + (bs LT).size) + (5 + (bs NT).size) + 7 + (bs (num n.width)).size := by omega
      go_wp2_with fail
      refine (C3.out _ BQ.out).mono ?_
      rintro e w5 ⟨rfl, hb2⟩
      have BQ := Lib.hid (BQ.out.trans (hb2.mono BQ.out.size))
      clear hb2 c0 c1 c2 c3 c4 c5 c6 c7 c8 c9 c10
      obtain ⟨c0, c1, c2, c3, c4, c5, c6, c7, c8, c9, c10⟩ := FC.out _ BQ.out
      go_wp2
      go_ret
      refine ⟨?_, HBW.out.trans (BQ.out.mono HBW.out.size)⟩
      rw [HH.out, HL.out, HN.out]
      simp only [show ({ data := #[32, 108, 105, 110, 107, 32] } : ByteArray) = bs [32, 108, 105, 110, 107, 32] from rfl, show ({ data := #[32, 110, 101, 119, 32] } : ByteArray) = bs [32, 110, 101, 119, 32] from rfl, show ({ data := #[32, 119, 105, 100, 116, 104, 32] } : ByteArray) = bs [32, 119, 105, 100, 116, 104, 32] from rfl, bs_app, widthT, List.append_assoc, List.nil_append, List.append_nil, List.cons_append]
      rfl
set_option maxRecDepth 200000 in
set_option maxHeartbeats 8000000 in
theorem nodeTextW3 {F : Nat → Prop} (n : Nd) (lv mv : Value) (w : World) (h : NdT F w n lv mv) (hk : n.kind = 3) (ht : Tab w) (ho : Ops w) :
    Calls Tryd.prog 27 #[.agg #[.int .i64 n.kind, .int .i64 n.parent, .int .i64 n.alpha, lv, mv, .int .i64 n.test.op, .bool n.test.l.v, .int .i64 n.test.l.n, .bool n.test.r.v, .int .i64 n.test.r.n, .int .i64 n.width]] w fun e w' => e = .returned (.string (bs (nodeT n))) ∧ Below w.heap.size w w' := by
  rw [hk]
  obtain ⟨LA, lc, rfl⟩ := h.links.form
  obtain ⟨MA, mc, rfl⟩ := h.new.form
  obtain ⟨-, o1, o2, o3, o4, o5, o6⟩ := h.ok
  obtain ⟨wb, hwb⟩ : ∃ wb, wb = w.alloc (.cells #[.int .i64 3, .int .i64 n.parent, .int .i64 n.alpha, .slice LA n.links.length lc, .slice MA n.new.length mc, .int .i64 n.test.op, .bool n.test.l.v, .int .i64 n.test.l.n, .bool n.test.r.v, .int .i64 n.test.r.n, .int .i64 n.width] 40) := ⟨_, rfl⟩
  have hb0 : Below (w.heap.size + 1) (w.alloc (.cells #[.int .i64 3, .int .i64 n.parent, .int .i64 n.alpha, .slice LA n.links.length lc, .slice MA n.new.length mc, .int .i64 n.test.op, .bool n.test.l.v, .int .i64 n.test.l.n, .bool n.test.r.v, .int .i64 n.test.r.n, .int .i64 n.width] 40)) wb := by rw [hwb]; exact Below.refl _ _
  have hbw : Below w.heap.size w wb := by rw [hwb]; exact (Below.refl _ _).alloc (Nat.le_refl _) _
  have hsz1 : w.heap.size + 1 ≤ wb.heap.size := by have := hb0.size; simpa using this
  have FC := Lib.hid (fun (Wx : World) (hx : Below wb.heap.size wb Wx) => (show Wx.cell? ⟨w.heap.size, 0, none⟩ = some (.int .i64 3) ∧ Wx.cell? ⟨w.heap.size, 1, none⟩ = some (.int .i64 n.parent) ∧ Wx.cell? ⟨w.heap.size, 2, none⟩ = some (.int .i64 n.alpha) ∧ Wx.cell? ⟨w.heap.size, 3, none⟩ = some (.slice LA n.links.length lc) ∧ Wx.cell? ⟨w.heap.size, 4, none⟩ = some (.slice MA n.new.length mc) ∧ Wx.cell? ⟨w.heap.size, 5, none⟩ = some (.int .i64 n.test.op) ∧ Wx.cell? ⟨w.heap.size, 6, none⟩ = some (.bool n.test.l.v) ∧ Wx.cell? ⟨w.heap.size, 7, none⟩ = some (.int .i64 n.test.l.n) ∧ Wx.cell? ⟨w.heap.size, 8, none⟩ = some (.bool n.test.r.v) ∧ Wx.cell? ⟨w.heap.size, 9, none⟩ = some (.int .i64 n.test.r.n) ∧ Wx.cell? ⟨w.heap.size, 10, none⟩ = some (.int .i64 n.width) from
    have hxx := hb0.trans (hx.mono hsz1)
    ⟨box_cellD hxx 0 rfl, box_cellD hxx 1 rfl, box_cellD hxx 2 rfl, box_cellD hxx 3 rfl, box_cellD hxx 4 rfl, box_cellD hxx 5 rfl, box_cellD hxx 6 rfl, box_cellD hxx 7 rfl, box_cellD hxx 8 rfl, box_cellD hxx 9 rfl, box_cellD hxx 10 rfl⟩))
  have TB := Lib.hid (fun (Wx : World) (hx : Below wb.heap.size wb Wx) => (ht.below hbw).below hx)
  have OB := Lib.hid (fun (Wx : World) (hx : Below wb.heap.size wb Wx) => (ho.below hbw).below hx)
  have C1 := Lib.hid (fun (Wx : World) (hx : Below wb.heap.size wb Wx) => itoaW n.parent o1.lo Wx (TB.out Wx hx))
  have C2 := Lib.hid (fun (Wx : World) (hx : Below wb.heap.size wb Wx) => itoaW n.alpha o2.lo Wx (TB.out Wx hx))
  have C3 := Lib.hid (fun (Wx : World) (hx : Below wb.heap.size wb Wx) => itoaW n.width o3.lo Wx (TB.out Wx hx))
  have CL := Lib.hid (fun (Wx : World) (hx : Below wb.heap.size wb Wx) => list_linkPW _ n.links Wx (h.links.keep (Kp.of_below (hbw.trans (hx.mono hbw.size)))) h.ln (TB.out Wx hx))
  have CN := Lib.hid (fun (Wx : World) (hx : Below wb.heap.size wb Wx) => list_placePW _ n.new Wx (h.new.keep (Kp.of_below (hbw.trans (hx.mono hbw.size)))) h.nn (TB.out Wx hx))
  have l1 := num_len o1.lo
  have l2 := num_len o2.lo
  have l3 := num_len o3.lo
  have jl := linksT_len h
  have jn := newT_len h
  rw [← bs_size] at l1 l2 l3 jl jn
  have HBW := Lib.hid hbw
  have HK := Lib.hid hk
  have BR := Lib.hid (Below.refl wb.heap.size wb)
  obtain ⟨LT, hLT⟩ : ∃ LT, Lib.join (linkPs n.links n.links.length) sepT = LT := ⟨_, rfl⟩
  obtain ⟨NT, hNT⟩ : ∃ NT, Lib.join (placePs n.new n.new.length) sepT = NT := ⟨_, rfl⟩
  rw [hLT] at CL jl
  rw [hNT] at CN jn
  have HLT := Lib.hid hLT
  have HNT := Lib.hid hNT
  clear hLT hNT
  clear hb0 hbw h ht ho
  go_enter Tryd.func27, Tryd.ntmps27
  go_upto_region 1 with fail
  rw [← hwb]
  clear hwb
  obtain ⟨c0, c1, c2, c3, c4, c5, c6, c7, c8, c9, c10⟩ := FC.out wb BR.out
  have s1 : ¬ 9223372036854775807 < 7 + (bs (num n.parent)).size := by omega
  go_wp2_with fail
  refine (C1.out _ BR.out).mono ?_
  rintro e w1 ⟨rfl, hb1⟩
  have B1 := Lib.hid (BR.out.trans (hb1.mono (Nat.le_refl _)))
  clear hb1 c0 c1 c2 c3 c4 c5 c6 c7 c8 c9 c10
  obtain ⟨c0, c1, c2, c3, c4, c5, c6, c7, c8, c9, c10⟩ := FC.out w1 B1.out
  have s2 : ¬ 9223372036854775807 < 4 + (bs (num n.alpha)).size := by omega
  have s3 : ¬ 9223372036854775807 < 4 + (bs (num n.alpha)).size + (7 + (bs (num n.parent)).size) := by omega
  go_wp2_with fail
  refine (C2.out _ B1.out).mono ?_
  rintro e w2 ⟨rfl, hb2⟩
  have BQ := Lib.hid (B1.out.trans (hb2.mono B1.out.size))
  clear hb2 c0 c1 c2 c3 c4 c5 c6 c7 c8 c9 c10
  go_upto_region 12 with fail
  rw [show (({ data := #[110, 101, 103, 32] } : ByteArray) ++ bs (num n.alpha)) ++ (({ data := #[32, 117, 110, 100, 101, 114, 32] } : ByteArray) ++ bs (num n.parent)) = bs (headT n) by
    rw [show ({ data := #[110, 101, 103, 32] } : ByteArray) = bs [110, 101, 103, 32] from rfl, show ({ data := #[32, 117, 110, 100, 101, 114, 32] } : ByteArray) = bs [32, 117, 110, 100, 101, 114, 32] from rfl]
    simp only [bs_app, headT, HK.out, underT, List.append_assoc]
    rfl]
  have hh : (bs (headT n)).size ≤ 200 := by
    rw [bs_size] at *
    simp only [headT, HK.out, testT, underT, List.length_append, List.length_cons, List.length_nil]
    simp
    omega
  obtain ⟨H, hH⟩ : ∃ H, headT n = H := ⟨_, rfl⟩
  rw [hH] at hh ⊢
  have HH := Lib.hid (show nodeT n = H ++ linksT n ++ newT n ++ widthT n by unfold nodeT; rw [if_neg (by rw [HK.out]; decide), hH])
  clear hH
  obtain ⟨c0, c1, c2, c3, c4, c5, c6, c7, c8, c9, c10⟩ := FC.out w2 BQ.out
  rcases Nat.eq_zero_or_pos n.links.length with p0 | p0
  · have e1 : ¬ (0 : Int) < (n.links.length : Int) := by omega
    have HL := Lib.hid (show linksT n = [] by unfold linksT; rw [if_pos (List.length_eq_zero_iff.1 p0)])
    go_upto_region 14 with fail
    rcases Nat.eq_zero_or_pos n.new.length with p1 | p1
    · have e2 : ¬ (0 : Int) < (n.new.length : Int) := by omega
      have HN := Lib.hid (show newT n = [] by unfold newT; rw [if_pos (List.length_eq_zero_iff.1 p1)])
      have u5 : ¬ 9223372036854775807 < (bs H).size + 7 := by omega
      have u6 : ¬ 9223372036854775807 < (bs H).size + 7 + (bs (num n.width)).size := by omega
      go_wp2_with fail
      refine (C3.out _ BQ.out).mono ?_
      rintro e w5 ⟨rfl, hb2⟩
      have BQ := Lib.hid (BQ.out.trans (hb2.mono BQ.out.size))
      clear hb2 c0 c1 c2 c3 c4 c5 c6 c7 c8 c9 c10
      obtain ⟨c0, c1, c2, c3, c4, c5, c6, c7, c8, c9, c10⟩ := FC.out _ BQ.out
      go_wp2
      go_ret
      refine ⟨?_, HBW.out.trans (BQ.out.mono HBW.out.size)⟩
      rw [HH.out, HL.out, HN.out]
      simp only [show ({ data := #[32, 108, 105, 110, 107, 32] } : ByteArray) = bs [32, 108, 105, 110, 107, 32] from rfl, show ({ data := #[32, 110, 101, 119, 32] } : ByteArray) = bs [32, 110, 101, 119, 32] from rfl, show ({ data := #[32, 119, 105, 100, 116, 104, 32] } : ByteArray) = bs [32, 119, 105, 100, 116, 104, 32] from rfl, bs_app, widthT, List.append_assoc, List.nil_append, List.append_nil, List.cons_append]
      rfl
    · have e2 : (0 : Int) < (n.new.length : Int) := by omega
      have HN := Lib.hid (show newT n = [32, 110, 101, 119, 32] ++ NT by unfold newT; rw [if_neg (fun he => by rw [he] at p1; simp at p1), HNT.out])
      have u3 : ¬ 9223372036854775807 < 5 + (bs NT).size := by omega
      have u4 : ¬ 9223372036854775807 < (bs H).size + (5 + (bs NT).size) := by omega
      go_wp2_with fail
      refine (CN.out _ BQ.out).mono ?_
      rintro e w4 ⟨rfl, hb2⟩
      have BQ := Lib.hid (BQ.out.trans (hb2.mono BQ.out.size))
      clear hb2 c0 c1 c2 c3 c4 c5 c6 c7 c8 c9 c10
      obtain ⟨c0, c1, c2, c3, c4, c5, c6, c7, c8, c9, c10⟩ := FC.out _ BQ.out
      have u5 : ¬ 9223372036854775807 < (bs H).size + (5 + (bs NT).size) + 7 := by omega
      have u6 : ¬ 9223372036854775807 < (bs H).size + (5 + (bs NT).size) + 7 + (bs (num n.width)).size := by omega
      go_wp2_with fail
      refine (C3.out _ BQ.out).mono ?_
      rintro e w5 ⟨rfl, hb2⟩
      have BQ := Lib.hid (BQ.out.trans (hb2.mono BQ.out.size))
      clear hb2 c0 c1 c2 c3 c4 c5 c6 c7 c8 c9 c10
      obtain ⟨c0, c1, c2, c3, c4, c5, c6, c7, c8, c9, c10⟩ := FC.out _ BQ.out
      go_wp2
      go_ret
      refine ⟨?_, HBW.out.trans (BQ.out.mono HBW.out.size)⟩
      rw [HH.out, HL.out, HN.out]
      simp only [show ({ data := #[32, 108, 105, 110, 107, 32] } : ByteArray) = bs [32, 108, 105, 110, 107, 32] from rfl, show ({ data := #[32, 110, 101, 119, 32] } : ByteArray) = bs [32, 110, 101, 119, 32] from rfl, show ({ data := #[32, 119, 105, 100, 116, 104, 32] } : ByteArray) = bs [32, 119, 105, 100, 116, 104, 32] from rfl, bs_app, widthT, List.append_assoc, List.nil_append, List.append_nil, List.cons_append]
      rfl
  · have e1 : (0 : Int) < (n.links.length : Int) := by omega
    have HL := Lib.hid (show linksT n = [32, 108, 105, 110, 107, 32] ++ LT by unfold linksT; rw [if_neg (fun he => by rw [he] at p0; simp at p0), HLT.out])
    have u1 : ¬ 9223372036854775807 < 6 + (bs LT).size := by omega
    have u2 : ¬ 9223372036854775807 < (bs H).size + (6 + (bs LT).size) := by omega
    go_wp2_with fail
    refine (CL.out _ BQ.out).mono ?_
    rintro e w3 ⟨rfl, hb2⟩
    have BQ := Lib.hid (BQ.out.trans (hb2.mono BQ.out.size))
    clear hb2 c0 c1 c2 c3 c4 c5 c6 c7 c8 c9 c10
    obtain ⟨c0, c1, c2, c3, c4, c5, c6, c7, c8, c9, c10⟩ := FC.out _ BQ.out
    go_upto_region 14 with fail
    rcases Nat.eq_zero_or_pos n.new.length with p1 | p1
    · have e2 : ¬ (0 : Int) < (n.new.length : Int) := by omega
      have HN := Lib.hid (show newT n = [] by unfold newT; rw [if_pos (List.length_eq_zero_iff.1 p1)])
      have u5 : ¬ 9223372036854775807 < (bs H).size + (6 + (bs LT).size) + 7 := by omega
      have u6 : ¬ 9223372036854775807 < (bs H).size + (6 + (bs LT).size) + 7 + (bs (num n.width)).size := by omega
      go_wp2_with fail
      refine (C3.out _ BQ.out).mono ?_
      rintro e w5 ⟨rfl, hb2⟩
      have BQ := Lib.hid (BQ.out.trans (hb2.mono BQ.out.size))
      clear hb2 c0 c1 c2 c3 c4 c5 c6 c7 c8 c9 c10
      obtain ⟨c0, c1, c2, c3, c4, c5, c6, c7, c8, c9, c10⟩ := FC.out _ BQ.out
      go_wp2
      go_ret
      refine ⟨?_, HBW.out.trans (BQ.out.mono HBW.out.size)⟩
      rw [HH.out, HL.out, HN.out]
      simp only [show ({ data := #[32, 108, 105, 110, 107, 32] } : ByteArray) = bs [32, 108, 105, 110, 107, 32] from rfl, show ({ data := #[32, 110, 101, 119, 32] } : ByteArray) = bs [32, 110, 101, 119, 32] from rfl, show ({ data := #[32, 119, 105, 100, 116, 104, 32] } : ByteArray) = bs [32, 119, 105, 100, 116, 104, 32] from rfl, bs_app, widthT, List.append_assoc, List.nil_append, List.append_nil, List.cons_append]
      rfl
    · have e2 : (0 : Int) < (n.new.length : Int) := by omega
      have HN := Lib.hid (show newT n = [32, 110, 101, 119, 32] ++ NT by unfold newT; rw [if_neg (fun he => by rw [he] at p1; simp at p1), HNT.out])
      have u3 : ¬ 9223372036854775807 < 5 + (bs NT).size := by omega
      have u4 : ¬ 9223372036854775807 < (bs H).size + (6 + (bs LT).size) + (5 + (bs NT).size) := by omega
      go_wp2_with fail
      refine (CN.out _ BQ.out).mono ?_
      rintro e w4 ⟨rfl, hb2⟩
      have BQ := Lib.hid (BQ.out.trans (hb2.mono BQ.out.size))
      clear hb2 c0 c1 c2 c3 c4 c5 c6 c7 c8 c9 c10
      obtain ⟨c0, c1, c2, c3, c4, c5, c6, c7, c8, c9, c10⟩ := FC.out _ BQ.out
      have u5 : ¬ 9223372036854775807 < (bs H).size + (6 + (bs LT).size) + (5 + (bs NT).size) + 7 := by omega
      have u6 : ¬ 9223372036854775807 < (bs H).size + (6 + (bs LT).size) + (5 + (bs NT).size) + 7 + (bs (num n.width)).size := by omega
      go_wp2_with fail
      refine (C3.out _ BQ.out).mono ?_
      rintro e w5 ⟨rfl, hb2⟩
      have BQ := Lib.hid (BQ.out.trans (hb2.mono BQ.out.size))
      clear hb2 c0 c1 c2 c3 c4 c5 c6 c7 c8 c9 c10
      obtain ⟨c0, c1, c2, c3, c4, c5, c6, c7, c8, c9, c10⟩ := FC.out _ BQ.out
      go_wp2
      go_ret
      refine ⟨?_, HBW.out.trans (BQ.out.mono HBW.out.size)⟩
      rw [HH.out, HL.out, HN.out]
      simp only [show ({ data := #[32, 108, 105, 110, 107, 32] } : ByteArray) = bs [32, 108, 105, 110, 107, 32] from rfl, show ({ data := #[32, 110, 101, 119, 32] } : ByteArray) = bs [32, 110, 101, 119, 32] from rfl, show ({ data := #[32, 119, 105, 100, 116, 104, 32] } : ByteArray) = bs [32, 119, 105, 100, 116, 104, 32] from rfl, bs_app, widthT, List.append_assoc, List.nil_append, List.append_nil, List.cons_append]
      rfl
set_option maxRecDepth 200000 in
set_option maxHeartbeats 8000000 in
theorem nodeTextW2 {F : Nat → Prop} (n : Nd) (lv mv : Value) (w : World) (h : NdT F w n lv mv) (hk : n.kind = 2) (hop : 1 ≤ n.test.op ∧ n.test.op ≤ 6) (ht : Tab w) (ho : Ops w) :
    Calls Tryd.prog 27 #[.agg #[.int .i64 n.kind, .int .i64 n.parent, .int .i64 n.alpha, lv, mv, .int .i64 n.test.op, .bool n.test.l.v, .int .i64 n.test.l.n, .bool n.test.r.v, .int .i64 n.test.r.n, .int .i64 n.width]] w fun e w' => e = .returned (.string (bs (nodeT n))) ∧ Below w.heap.size w w' := by
  rw [hk]
  obtain ⟨LA, lc, rfl⟩ := h.links.form
  obtain ⟨MA, mc, rfl⟩ := h.new.form
  obtain ⟨-, o1, o2, o3, o4, o5, o6⟩ := h.ok
  obtain ⟨wb, hwb⟩ : ∃ wb, wb = w.alloc (.cells #[.int .i64 2, .int .i64 n.parent, .int .i64 n.alpha, .slice LA n.links.length lc, .slice MA n.new.length mc, .int .i64 n.test.op, .bool n.test.l.v, .int .i64 n.test.l.n, .bool n.test.r.v, .int .i64 n.test.r.n, .int .i64 n.width] 40) := ⟨_, rfl⟩
  have hb0 : Below (w.heap.size + 1) (w.alloc (.cells #[.int .i64 2, .int .i64 n.parent, .int .i64 n.alpha, .slice LA n.links.length lc, .slice MA n.new.length mc, .int .i64 n.test.op, .bool n.test.l.v, .int .i64 n.test.l.n, .bool n.test.r.v, .int .i64 n.test.r.n, .int .i64 n.width] 40)) wb := by rw [hwb]; exact Below.refl _ _
  have hbw : Below w.heap.size w wb := by rw [hwb]; exact (Below.refl _ _).alloc (Nat.le_refl _) _
  have hsz1 : w.heap.size + 1 ≤ wb.heap.size := by have := hb0.size; simpa using this
  have FC := Lib.hid (fun (Wx : World) (hx : Below wb.heap.size wb Wx) => (show Wx.cell? ⟨w.heap.size, 0, none⟩ = some (.int .i64 2) ∧ Wx.cell? ⟨w.heap.size, 1, none⟩ = some (.int .i64 n.parent) ∧ Wx.cell? ⟨w.heap.size, 2, none⟩ = some (.int .i64 n.alpha) ∧ Wx.cell? ⟨w.heap.size, 3, none⟩ = some (.slice LA n.links.length lc) ∧ Wx.cell? ⟨w.heap.size, 4, none⟩ = some (.slice MA n.new.length mc) ∧ Wx.cell? ⟨w.heap.size, 5, none⟩ = some (.int .i64 n.test.op) ∧ Wx.cell? ⟨w.heap.size, 6, none⟩ = some (.bool n.test.l.v) ∧ Wx.cell? ⟨w.heap.size, 7, none⟩ = some (.int .i64 n.test.l.n) ∧ Wx.cell? ⟨w.heap.size, 8, none⟩ = some (.bool n.test.r.v) ∧ Wx.cell? ⟨w.heap.size, 9, none⟩ = some (.int .i64 n.test.r.n) ∧ Wx.cell? ⟨w.heap.size, 10, none⟩ = some (.int .i64 n.width) from
    have hxx := hb0.trans (hx.mono hsz1)
    ⟨box_cellD hxx 0 rfl, box_cellD hxx 1 rfl, box_cellD hxx 2 rfl, box_cellD hxx 3 rfl, box_cellD hxx 4 rfl, box_cellD hxx 5 rfl, box_cellD hxx 6 rfl, box_cellD hxx 7 rfl, box_cellD hxx 8 rfl, box_cellD hxx 9 rfl, box_cellD hxx 10 rfl⟩))
  have TB := Lib.hid (fun (Wx : World) (hx : Below wb.heap.size wb Wx) => (ht.below hbw).below hx)
  have OB := Lib.hid (fun (Wx : World) (hx : Below wb.heap.size wb Wx) => (ho.below hbw).below hx)
  have C1 := Lib.hid (fun (Wx : World) (hx : Below wb.heap.size wb Wx) => itoaW n.parent o1.lo Wx (TB.out Wx hx))
  have C2 := Lib.hid (fun (Wx : World) (hx : Below wb.heap.size wb Wx) => itoaW n.alpha o2.lo Wx (TB.out Wx hx))
  have C3 := Lib.hid (fun (Wx : World) (hx : Below wb.heap.size wb Wx) => itoaW n.width o3.lo Wx (TB.out Wx hx))
  have CL := Lib.hid (fun (Wx : World) (hx : Below wb.heap.size wb Wx) => list_linkPW _ n.links Wx (h.links.keep (Kp.of_below (hbw.trans (hx.mono hbw.size)))) h.ln (TB.out Wx hx))
  have CN := Lib.hid (fun (Wx : World) (hx : Below wb.heap.size wb Wx) => list_placePW _ n.new Wx (h.new.keep (Kp.of_below (hbw.trans (hx.mono hbw.size)))) h.nn (TB.out Wx hx))
  have l1 := num_len o1.lo
  have l2 := num_len o2.lo
  have l3 := num_len o3.lo
  have jl := linksT_len h
  have jn := newT_len h
  rw [← bs_size] at l1 l2 l3 jl jn
  have HBW := Lib.hid hbw
  have HK := Lib.hid hk
  have BR := Lib.hid (Below.refl wb.heap.size wb)
  obtain ⟨LT, hLT⟩ : ∃ LT, Lib.join (linkPs n.links n.links.length) sepT = LT := ⟨_, rfl⟩
  obtain ⟨NT, hNT⟩ : ∃ NT, Lib.join (placePs n.new n.new.length) sepT = NT := ⟨_, rfl⟩
  rw [hLT] at CL jl
  rw [hNT] at CN jn
  have HLT := Lib.hid hLT
  have HNT := Lib.hid hNT
  clear hLT hNT
  have S1 := Lib.hid (fun (Wx : World) (hx : Below wb.heap.size wb Wx) => slotTextW n.test.l o5.lo Wx (TB.out Wx hx))
  have S2 := Lib.hid (fun (Wx : World) (hx : Below wb.heap.size wb Wx) => slotTextW n.test.r o6.lo Wx (TB.out Wx hx))
  have m1 := slotT_len o5.lo
  have m2 := slotT_len o6.lo
  have m3 := opT_len n.test.op
  rw [← bs_size] at m1 m2 m3
  obtain ⟨opn, hopn⟩ : ∃ opn : Nat, (opn : Int) = n.test.op := ⟨n.test.op.toNat, by omega⟩
  have OC := Lib.hid (fun (Wx : World) (hx : Below wb.heap.size wb Wx) => (by have := (OB.out Wx hx).cell (op := opn) (by omega) (by omega); rw [hopn] at this; exact this : Wx.cell? ⟨0, opn, none⟩ = some (.string (bs (opT n.test.op)))))
  have g1 : (0 : Int) ≤ (opn : Int) := by omega
  have g2 : (opn : Int) < 7 := by omega
  have HOP := Lib.hid hopn
  clear hopn
  clear hb0 hbw h ht ho
  go_enter Tryd.func27, Tryd.ntmps27
  go_upto_region 1 with fail
  rw [← hwb]
  clear hwb
  obtain ⟨c0, c1, c2, c3, c4, c5, c6, c7, c8, c9, c10⟩ := FC.out wb BR.out
  have s1 : ¬ 9223372036854775807 < 7 + (bs (num n.parent)).size := by omega
  go_wp2_with fail
  refine (C1.out _ BR.out).mono ?_
  rintro e w1 ⟨rfl, hb1⟩
  have B1 := Lib.hid (BR.out.trans (hb1.mono (Nat.le_refl _)))
  clear hb1 c0 c1 c2 c3 c4 c5 c6 c7 c8 c9 c10
  obtain ⟨c0, c1, c2, c3, c4, c5, c6, c7, c8, c9, c10⟩ := FC.out w1 B1.out
  have s2 : ¬ 9223372036854775807 < 5 + (bs (slotT n.test.l)).size := by omega
  obtain ⟨S, hSe⟩ : ∃ S, S = fun Wx => Below wb.heap.size wb Wx := ⟨_, rfl⟩
  have bn := fun (p : Pt S) => (congrFun hSe p.val).mp p.property
  have q5 := fun (p : Pt S) => (FC.out _ (bn p)).2.2.2.2.2.1
  have q6 := fun (p : Pt S) => (FC.out _ (bn p)).2.2.2.2.2.2.1
  have q7 := fun (p : Pt S) => (FC.out _ (bn p)).2.2.2.2.2.2.2.1
  have q8 := fun (p : Pt S) => (FC.out _ (bn p)).2.2.2.2.2.2.2.2.1
  have q9 := fun (p : Pt S) => (FC.out _ (bn p)).2.2.2.2.2.2.2.2.2.1
  have qo := fun (p : Pt S) => OC.out _ (bn p)
  rw [← HOP.out] at q5
  have NE : Nonempty (Pt S) := ⟨⟨wb, (congrFun hSe wb).mpr BR.out⟩⟩
  have HDD := Lib.hid ((congrFun hSe w1.drew).mpr B1.out.drew)
  have SE := Lib.hid hSe
  have KPP := Lib.hid bn
  have z1 : ¬ 9223372036854775807 < 5 + (bs (slotT n.test.l)).size + 1 := by omega
  have z2 : ¬ 9223372036854775807 < 5 + (bs (slotT n.test.l)).size + 1 + (bs (opT n.test.op)).size := by omega
  have z3 : ¬ 9223372036854775807 < 5 + (bs (slotT n.test.l)).size + 1 + (bs (opT n.test.op)).size + 1 := by omega
  have z4 : ¬ 9223372036854775807 < 5 + (bs (slotT n.test.l)).size + 1 + (bs (opT n.test.op)).size + 1 + (bs (slotT n.test.r)).size := by omega
  have z5 : ¬ 9223372036854775807 < 5 + (bs (slotT n.test.l)).size + 1 + (bs (opT n.test.op)).size + 1 + (bs (slotT n.test.r)).size + (7 + (bs (num n.parent)).size) := by omega
  clear hSe bn c1 c2 c3 c4 c5 c6 c7 c8 c9 c10
  go_upto_region 11 with fail
  refine wp_region_class (S := S) HDD.out (by kernel_rfl) (by kernel_rfl) ?_
  repeat (go_big_quiet_step ((first
    | (go_at_call 50; with_reducible refine (S1.out _ (KPP.out _)).mono ?_; rintro e w' ⟨rfl, hbel⟩; exact ⟨rfl, ⟨w', (congrFun SE.out w').mpr ((KPP.out _).trans (hbel.mono (KPP.out _).size))⟩, rfl⟩)
    | (go_at_call 50; with_reducible refine (S2.out _ (KPP.out _)).mono ?_; rintro e w' ⟨rfl, hbel⟩; exact ⟨rfl, ⟨w', (congrFun SE.out w').mpr ((KPP.out _).trans (hbel.mono (KPP.out _).size))⟩, rfl⟩))))
  refine wpQuiet_nil ?_
  rintro w2 ⟨⟨_, hW⟩, rfl⟩
  have BQ := Lib.hid ((congrFun SE.out w2).mp hW)
  clear q5 q6 q7 q8 q9 qo NE hW c0
  go_upto_region 12 with fail
  rw [show (((((({ data := #[116, 101, 115, 116, 32] } : ByteArray) ++ bs (slotT n.test.l)) ++ { data := #[32] }) ++ bs (opT n.test.op)) ++ { data := #[32] }) ++ bs (slotT n.test.r)) ++ (({ data := #[32, 117, 110, 100, 101, 114, 32] } : ByteArray) ++ bs (num n.parent)) = bs (headT n) by
    rw [show ({ data := #[116, 101, 115, 116, 32] } : ByteArray) = bs [116, 101, 115, 116, 32] from rfl, show ({ data := #[32] } : ByteArray) = bs [32] from rfl, show ({ data := #[32, 117, 110, 100, 101, 114, 32] } : ByteArray) = bs [32, 117, 110, 100, 101, 114, 32] from rfl]
    simp only [bs_app, headT, HK.out, testT, underT, List.append_assoc]
    rfl]
  have hh : (bs (headT n)).size ≤ 200 := by
    rw [bs_size] at *
    simp only [headT, HK.out, testT, underT, List.length_append, List.length_cons, List.length_nil]
    simp
    omega
  obtain ⟨H, hH⟩ : ∃ H, headT n = H := ⟨_, rfl⟩
  rw [hH] at hh ⊢
  have HH := Lib.hid (show nodeT n = H ++ linksT n ++ newT n ++ widthT n by unfold nodeT; rw [if_neg (by rw [HK.out]; decide), hH])
  clear hH
  obtain ⟨c0, c1, c2, c3, c4, c5, c6, c7, c8, c9, c10⟩ := FC.out w2 BQ.out
  rcases Nat.eq_zero_or_pos n.links.length with p0 | p0
  · have e1 : ¬ (0 : Int) < (n.links.length : Int) := by omega
    have HL := Lib.hid (show linksT n = [] by unfold linksT; rw [if_pos (List.length_eq_zero_iff.1 p0)])
    go_upto_region 14 with fail
    rcases Nat.eq_zero_or_pos n.new.length with p1 | p1
    · have e2 : ¬ (0 : Int) < (n.new.length : Int) := by omega
      have HN := Lib.hid (show newT n = [] by unfold newT; rw [if_pos (List.length_eq_zero_iff.1 p1)])
      have u5 : ¬ 9223372036854775807 < (bs H).size + 7 := by omega
      have u6 : ¬ 9223372036854775807 < (bs H).size + 7 + (bs (num n.width)).size := by omega
      go_wp2_with fail
      refine (C3.out _ BQ.out).mono ?_
      rintro e w5 ⟨rfl, hb2⟩
      have BQ := Lib.hid (BQ.out.trans (hb2.mono BQ.out.size))
      clear hb2 c0 c1 c2 c3 c4 c5 c6 c7 c8 c9 c10
      obtain ⟨c0, c1, c2, c3, c4, c5, c6, c7, c8, c9, c10⟩ := FC.out _ BQ.out
      go_wp2
      go_ret
      refine ⟨?_, HBW.out.trans (BQ.out.mono HBW.out.size)⟩
      rw [HH.out, HL.out, HN.out]
      simp only [show ({ data := #[32, 108, 105, 110, 107, 32] } : ByteArray) = bs [32, 108, 105, 110, 107, 32] from rfl, show ({ data := #[32, 110, 101, 119, 32] } : ByteArray) = bs [32, 110, 101, 119, 32] from rfl, show ({ data := #[32, 119, 105, 100, 116, 104, 32] } : ByteArray) = bs [32, 119, 105, 100, 116, 104, 32] from rfl, bs_app, widthT, List.append_assoc, List.nil_append, List.append_nil, List.cons_append]
      rfl
    · have e2 : (0 : Int) < (n.new.length : Int) := by omega
      have HN := Lib.hid (show newT n = [32, 110, 101, 119, 32] ++ NT by unfold newT; rw [if_neg (fun he => by rw [he] at p1; simp at p1), HNT.out])
      have u3 : ¬ 9223372036854775807 < 5 + (bs NT).size := by omega
      have u4 : ¬ 9223372036854775807 < (bs H).size + (5 + (bs NT).size) := by omega
      go_wp2_with fail
      refine (CN.out _ BQ.out).mono ?_
      rintro e w4 ⟨rfl, hb2⟩
      have BQ := Lib.hid (BQ.out.trans (hb2.mono BQ.out.size))
      clear hb2 c0 c1 c2 c3 c4 c5 c6 c7 c8 c9 c10
      obtain ⟨c0, c1, c2, c3, c4, c5, c6, c7, c8, c9, c10⟩ := FC.out _ BQ.out
      have u5 : ¬ 9223372036854775807 < (bs H).size + (5 + (bs NT).size) + 7 := by omega
      have u6 : ¬ 9223372036854775807 < (bs H).size + (5 + (bs NT).size) + 7 + (bs (num n.width)).size := by omega
      go_wp2_with fail
      refine (C3.out _ BQ.out).mono ?_
      rintro e w5 ⟨rfl, hb2⟩
      have BQ := Lib.hid (BQ.out.trans (hb2.mono BQ.out.size))
      clear hb2 c0 c1 c2 c3 c4 c5 c6 c7 c8 c9 c10
      obtain ⟨c0, c1, c2, c3, c4, c5, c6, c7, c8, c9, c10⟩ := FC.out _ BQ.out
      go_wp2
      go_ret
      refine ⟨?_, HBW.out.trans (BQ.out.mono HBW.out.size)⟩
      rw [HH.out, HL.out, HN.out]
      simp only [show ({ data := #[32, 108, 105, 110, 107, 32] } : ByteArray) = bs [32, 108, 105, 110, 107, 32] from rfl, show ({ data := #[32, 110, 101, 119, 32] } : ByteArray) = bs [32, 110, 101, 119, 32] from rfl, show ({ data := #[32, 119, 105, 100, 116, 104, 32] } : ByteArray) = bs [32, 119, 105, 100, 116, 104, 32] from rfl, bs_app, widthT, List.append_assoc, List.nil_append, List.append_nil, List.cons_append]
      rfl
  · have e1 : (0 : Int) < (n.links.length : Int) := by omega
    have HL := Lib.hid (show linksT n = [32, 108, 105, 110, 107, 32] ++ LT by unfold linksT; rw [if_neg (fun he => by rw [he] at p0; simp at p0), HLT.out])
    have u1 : ¬ 9223372036854775807 < 6 + (bs LT).size := by omega
    have u2 : ¬ 9223372036854775807 < (bs H).size + (6 + (bs LT).size) := by omega
    go_wp2_with fail
    refine (CL.out _ BQ.out).mono ?_
    rintro e w3 ⟨rfl, hb2⟩
    have BQ := Lib.hid (BQ.out.trans (hb2.mono BQ.out.size))
    clear hb2 c0 c1 c2 c3 c4 c5 c6 c7 c8 c9 c10
    obtain ⟨c0, c1, c2, c3, c4, c5, c6, c7, c8, c9, c10⟩ := FC.out _ BQ.out
    go_upto_region 14 with fail
    rcases Nat.eq_zero_or_pos n.new.length with p1 | p1
    · have e2 : ¬ (0 : Int) < (n.new.length : Int) := by omega
      have HN := Lib.hid (show newT n = [] by unfold newT; rw [if_pos (List.length_eq_zero_iff.1 p1)])
      have u5 : ¬ 9223372036854775807 < (bs H).size + (6 + (bs LT).size) + 7 := by omega
      have u6 : ¬ 9223372036854775807 < (bs H).size + (6 + (bs LT).size) + 7 + (bs (num n.width)).size := by omega
      go_wp2_with fail
      refine (C3.out _ BQ.out).mono ?_
      rintro e w5 ⟨rfl, hb2⟩
      have BQ := Lib.hid (BQ.out.trans (hb2.mono BQ.out.size))
      clear hb2 c0 c1 c2 c3 c4 c5 c6 c7 c8 c9 c10
      obtain ⟨c0, c1, c2, c3, c4, c5, c6, c7, c8, c9, c10⟩ := FC.out _ BQ.out
      go_wp2
      go_ret
      refine ⟨?_, HBW.out.trans (BQ.out.mono HBW.out.size)⟩
      rw [HH.out, HL.out, HN.out]
      simp only [show ({ data := #[32, 108, 105, 110, 107, 32] } : ByteArray) = bs [32, 108, 105, 110, 107, 32] from rfl, show ({ data := #[32, 110, 101, 119, 32] } : ByteArray) = bs [32, 110, 101, 119, 32] from rfl, show ({ data := #[32, 119, 105, 100, 116, 104, 32] } : ByteArray) = bs [32, 119, 105, 100, 116, 104, 32] from rfl, bs_app, widthT, List.append_assoc, List.nil_append, List.append_nil, List.cons_append]
      rfl
    · have e2 : (0 : Int) < (n.new.length : Int) := by omega
      have HN := Lib.hid (show newT n = [32, 110, 101, 119, 32] ++ NT by unfold newT; rw [if_neg (fun he => by rw [he] at p1; simp at p1), HNT.out])
      have u3 : ¬ 9223372036854775807 < 5 + (bs NT).size := by omega
      have u4 : ¬ 9223372036854775807 < (bs H).size + (6 + (bs LT).size) + (5 + (bs NT).size) := by omega
      go_wp2_with fail
      refine (CN.out _ BQ.out).mono ?_
      rintro e w4 ⟨rfl, hb2⟩
      have BQ := Lib.hid (BQ.out.trans (hb2.mono BQ.out.size))
      clear hb2 c0 c1 c2 c3 c4 c5 c6 c7 c8 c9 c10
      obtain ⟨c0, c1, c2, c3, c4, c5, c6, c7, c8, c9, c10⟩ := FC.out _ BQ.out
      have u5 : ¬ 9223372036854775807 < (bs H).size + (6 + (bs LT).size) + (5 + (bs NT).size) + 7 := by omega
      have u6 : ¬ 9223372036854775807 < (bs H).size + (6 + (bs LT).size) + (5 + (bs NT).size) + 7 + (bs (num n.width)).size := by omega
      go_wp2_with fail
      refine (C3.out _ BQ.out).mono ?_
      rintro e w5 ⟨rfl, hb2⟩
      have BQ := Lib.hid (BQ.out.trans (hb2.mono BQ.out.size))
      clear hb2 c0 c1 c2 c3 c4 c5 c6 c7 c8 c9 c10
      obtain ⟨c0, c1, c2, c3, c4, c5, c6, c7, c8, c9, c10⟩ := FC.out _ BQ.out
      go_wp2
      go_ret
      refine ⟨?_, HBW.out.trans (BQ.out.mono HBW.out.size)⟩
      rw [HH.out, HL.out, HN.out]
      simp only [show ({ data := #[32, 108, 105, 110, 107, 32] } : ByteArray) = bs [32, 108, 105, 110, 107, 32] from rfl, show ({ data := #[32, 110, 101, 119, 32] } : ByteArray) = bs [32, 110, 101, 119, 32] from rfl, show ({ data := #[32, 119, 105, 100, 116, 104, 32] } : ByteArray) = bs [32, 119, 105, 100, 116, 104, 32] from rfl, bs_app, widthT, List.append_assoc, List.nil_append, List.append_nil, List.cons_append]
      rfl
end Go.Proofs.YtonkbjdeaneicaaDoor

namespace Go.Proofs.YtonkbjdeaneicaaDoor
open Go Go.RowKit Pln Classical

def alphaL (i : Nat) (s : Shp) : List UInt8 := [97, 108, 112, 104, 97, 32] ++ num i ++ [32] ++ num s.pred ++ [40] ++ Lib.join (cellPs s.cells s.cells.length) sepT ++ [41, 10]
def nodeL (i : Nat) (n : Nd) : List UInt8 := [110, 111, 100, 101, 32] ++ num i ++ [32] ++ nodeT n ++ [10]
def ruleL (i : Nat) (e : Int) : List UInt8 := [114, 117, 108, 101, 32] ++ num i ++ [32, 97, 116, 32] ++ num e ++ [10]
/-- The lines of the first k. -/
def linesT {α : Type} (f : Nat → α → List UInt8) (xs : List α) (k : Nat) : List UInt8 := (List.range k).flatMap fun i => match xs[i]? with | some x => f i x | none => []
theorem linesT_zero {α : Type} (f : Nat → α → List UInt8) (xs : List α) : linesT f xs 0 = [] := rfl
theorem linesT_succ {α : Type} {f : Nat → α → List UInt8} {xs : List α} {k : Nat} {x : α} (h : xs[k]? = some x) : linesT f xs (k + 1) = linesT f xs k ++ f k x := by
  unfold linesT
  rw [List.range_succ, List.flatMap_append]
  simp [h]
def allT (al : List Shp) (ns : List Nd) (es : List Int) : List UInt8 := linesT alphaL al al.length ++ linesT nodeL ns ns.length ++ linesT ruleL es es.length
noncomputable def textF (al : List Shp) (ns : List Nd) (es : List Int) : List UInt8 := if checkP al ns es then allT al ns es else []

theorem i64n {n : Nat} (h : n ≤ 1000000000) : -9223372036854775808 ≤ (n : Int) ∧ (n : Int) ≤ 9223372036854775807 := by omega
theorem linkPs_42 (xs : List (Int × Int)) (h : ∀ x ∈ xs, i64ok x.1 ∧ i64ok x.2) : ∀ p ∈ linkPs xs xs.length, p.length ≤ 42 := by
  intro p hp
  obtain ⟨i, hi, rfl⟩ := List.mem_map.1 hp
  have hi2 : i < xs.length := List.mem_range.1 hi
  rw [List.getElem?_eq_getElem hi2]
  obtain ⟨h1, h2⟩ := h xs[i] (List.getElem_mem _)
  have l1 := num_len h1.lo
  have l2 := num_len h2.lo
  simp only [linkT, List.length_append, List.length_cons, List.length_nil]
  omega
theorem placePs_20 (xs : List Int) (h : ∀ x ∈ xs, i64ok x) : ∀ p ∈ placePs xs xs.length, p.length ≤ 20 := by
  intro p hp
  obtain ⟨i, hi, rfl⟩ := List.mem_map.1 hp
  have hi2 : i < xs.length := List.mem_range.1 hi
  rw [List.getElem?_eq_getElem hi2]
  have l1 := num_len (h xs[i] (List.getElem_mem _)).lo
  simp only
  omega
theorem cellPs_21 (xs : List Int) (hl : xs.length ≤ 1048576) (h : ∀ x ∈ xs, i64ok x) : ∀ p ∈ cellPs xs xs.length, p.length ≤ 21 := by
  intro p hp
  obtain ⟨i, hi, rfl⟩ := List.mem_map.1 hp
  have hi2 : i < xs.length := List.mem_range.1 hi
  rw [List.getElem?_eq_getElem hi2]
  have h0 := (h xs[i] (List.getElem_mem _)).lo
  show (cellT i xs[i]).length ≤ 21
  unfold cellT
  split
  · have := num_len h0
    simp only [List.length_cons]; omega
  · split
    · simp
    · have := num_len (n := -1 - xs[i]) (by omega)
      simp only [List.length_cons]; omega
theorem alphaL_len {F : Nat → Prop} {w : World} {cs : List Value} {s : Shp} (h : EShp F w cs s) (hl : s.cells.length ≤ 8) {i : Nat} (hi : i ≤ 1000000000) : (alphaL i s).length ≤ 1000 ∧ (Lib.join (cellPs s.cells s.cells.length) sepT).length ≤ 184 := by
  obtain ⟨v, rfl, hp, hc⟩ := h
  have h1 := join_len (m := 21) (cellPs s.cells s.cells.length) (cellPs_21 _ (by omega) (fun x hx => by obtain ⟨cs, _, h1⟩ := memE hc hx; exact h1))
  rw [cellPs_len] at h1
  have h2 := num_len (i64n hi)
  have h3 := num_len hp.lo
  refine ⟨?_, by omega⟩
  simp only [alphaL, List.length_append, List.length_cons, List.length_nil]
  omega
theorem nodeT_len {F : Nat → Prop} {w : World} {n : Nd} {lv mv : Value} (h : NdT F w n lv mv) (h8 : n.links.length ≤ 8 ∧ n.new.length ≤ 8) : (nodeT n).length ≤ 900 := by
  obtain ⟨-, o1, o2, o3, o4, o5, o6⟩ := h.ok
  have h1 := join_len (m := 42) (linkPs n.links n.links.length) (linkPs_42 _ (fun x hx => by obtain ⟨cs, _, h1, h2⟩ := memE h.links hx; exact ⟨h1, h2⟩))
  rw [linkPs_len] at h1
  have h2 := join_len (m := 20) (placePs n.new n.new.length) (placePs_20 _ (fun x hx => by obtain ⟨cs, _, h1⟩ := memE h.new hx; exact h1))
  rw [placePs_len] at h2
  obtain ⟨h81, h82⟩ := h8
  have l1 := num_len o1.lo
  have l2 := num_len o2.lo
  have l3 := num_len o3.lo
  have m1 := slotT_len o5.lo
  have m2 := slotT_len o6.lo
  have m3 := opT_len n.test.op
  have hh : (headT n).length ≤ 78 := by
    unfold headT
    split
    · simp only [underT, List.length_append, List.length_cons, List.length_nil]; omega
    · split
      · simp only [underT, List.length_append, List.length_cons, List.length_nil]; omega
      · simp only [testT, underT, List.length_append, List.length_cons, List.length_nil]; omega
  have hl : (linksT n).length ≤ 6 + (Lib.join (linkPs n.links n.links.length) sepT).length := by
    unfold linksT
    split
    · simp
    · simp only [List.length_append, List.length_cons, List.length_nil]; omega
  have hn : (newT n).length ≤ 5 + (Lib.join (placePs n.new n.new.length) sepT).length := by
    unfold newT
    split
    · simp
    · simp only [List.length_append, List.length_cons, List.length_nil]; omega
  have hw : (widthT n).length ≤ 27 := by
    simp only [widthT, List.length_append, List.length_cons, List.length_nil]; omega
  unfold nodeT
  split
  · simp
  · simp only [List.length_append]
    omega
theorem nodeL_len {F : Nat → Prop} {w : World} {n : Nd} {lv mv : Value} (h : NdT F w n lv mv) (h8 : n.links.length ≤ 8 ∧ n.new.length ≤ 8) {i : Nat} (hi : i ≤ 1000000000) : (nodeL i n).length ≤ 1000 := by
  have h1 := nodeT_len h h8
  have h2 := num_len (i64n hi)
  simp only [nodeL, List.length_append, List.length_cons, List.length_nil]
  omega
theorem ruleL_len {e : Int} (h : i64ok e) {i : Nat} (hi : i ≤ 1000000000) : (ruleL i e).length ≤ 1000 := by
  have h1 := num_len h.lo
  have h2 := num_len (i64n hi)
  simp only [ruleL, List.length_append, List.length_cons, List.length_nil]
  omega
theorem node_kind {al : List Shp} {ns : List Nd} (h : nodesP al ns) {i : Nat} {n : Nd} (hn : ns[i]? = some n) : n.kind = 0 ∨ n.kind = 1 ∨ n.kind = 3 ∨ (n.kind = 2 ∧ 1 ≤ n.test.op ∧ n.test.op ≤ 6) := by
  rcases Nat.eq_zero_or_pos i with rfl | hp
  · have := Option.some.inj (h.1.symm.trans hn)
    rw [← this]
    exact .inl rfl
  · obtain ⟨u, up, _, _, _, _, h5, _⟩ := h.2 i hp (List.getElem?_eq_some_iff.1 hn).1 n hn
    rcases h5 with ⟨h, _⟩ | ⟨h, _⟩ | ⟨h, t⟩
    · exact .inr (.inl h)
    · exact .inr (.inr (.inl h))
    · exact .inr (.inr (.inr ⟨h, t.2.2.2.2.2.1, t.2.2.2.2.2.2.1⟩))
theorem node_len8 {al : List Shp} {ns : List Nd} (hs : shapesP al ns) (h : nodesP al ns) {n : Nd} (hm : n ∈ ns) : n.links.length ≤ 8 ∧ n.new.length ≤ 8 := by
  obtain ⟨i, hn⟩ := List.getElem?_of_mem hm
  rcases Nat.eq_zero_or_pos i with rfl | hp
  · have := Option.some.inj (h.1.symm.trans hn)
    rw [← this]
    exact ⟨by simp [rootN], by simp [rootN]⟩
  · obtain ⟨u, up, _, _, _, _, h5, _⟩ := h.2 i hp (List.getElem?_eq_some_iff.1 hn).1 n hn
    exact nodeP_lens h5 (fun hk => shapes_at hs hm hk)
theorem shape_len8 {al : List Shp} {ns : List Nd} (hs : shapesP al ns) {s : Shp} (hm : s ∈ al) : s.cells.length ≤ 8 := by
  obtain ⟨i, hn⟩ := List.getElem?_of_mem hm
  exact (hs.1 i (List.getElem?_eq_some_iff.1 hn).1 s hn).2.1
/-- nodeText, at any node of a plan that is right. -/
theorem nodeTextW {F : Nat → Prop} (n : Nd) (lv mv : Value) (w : World) (h : NdT F w n lv mv) (hk : n.kind = 0 ∨ n.kind = 1 ∨ n.kind = 3 ∨ (n.kind = 2 ∧ 1 ≤ n.test.op ∧ n.test.op ≤ 6)) (ht : Tab w) (ho : Ops w) :
    Calls Tryd.prog 27 #[.agg #[.int .i64 n.kind, .int .i64 n.parent, .int .i64 n.alpha, lv, mv, .int .i64 n.test.op, .bool n.test.l.v, .int .i64 n.test.l.n, .bool n.test.r.v, .int .i64 n.test.r.n, .int .i64 n.width]] w fun e w' => e = .returned (.string (bs (nodeT n))) ∧ Below w.heap.size w w' := by
  rcases hk with hk | hk | hk | ⟨hk, hop⟩
  · exact nodeTextW0 n lv mv w h hk ht ho
  · exact nodeTextW1 n lv mv w h hk ht ho
  · exact nodeTextW3 n lv mv w h hk ht ho
  · exact nodeTextW2 n lv mv w h hk hop ht ho
end Go.Proofs.YtonkbjdeaneicaaDoor
