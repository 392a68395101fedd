/- The reference's text of a node. Printed by wip/bin/rtn.py. -/
import Derived.Test.YtonkbjdeaneicaaDoorKpa33
import Derived.Test.YtonkbjdeaneicaaDoorKpa34
namespace Go.Proofs.YtonkbjdeaneicaaDoor
open Go Go.RowKit Pln Classical

theorem linkPs_ne (xs : List (Int × Int)) {k : Nat} (hk : k ≤ xs.length) : ∀ p ∈ linkPs xs k, p ≠ [] := by
  intro p hp
  obtain ⟨i, hi, rfl⟩ := List.mem_map.1 hp
  have hi2 : i < k := List.mem_range.1 hi
  rw [List.getElem?_eq_getElem (by omega)]
  exact linkT_ne _
theorem placePs_ne (xs : List Int) {k : Nat} (hk : k ≤ xs.length) : ∀ p ∈ placePs xs k, p ≠ [] := by
  intro p hp
  obtain ⟨i, hi, rfl⟩ := List.mem_map.1 hp
  have hi2 : i < k := List.mem_range.1 hi
  rw [List.getElem?_eq_getElem (by omega)]
  exact num_ne_nil _
theorem linkPs_k (xs : List (Int × Int)) (hl : xs.length ≤ 8) (h : ∀ x ∈ xs, i64ok x.1 ∧ i64ok x.2) {k : Nat} (hk : k ≤ xs.length) : (Lib.join (linkPs xs k) sepT).length ≤ 352 := by
  have h1 := join_len (m := 42) (linkPs xs k) (fun p hp => by
    obtain ⟨i, hi, rfl⟩ := List.mem_map.1 hp
    have hi2 : i < k := List.mem_range.1 hi
    exact linkPs_42 xs h _ (by
      unfold linkPs
      exact List.mem_map.2 ⟨i, List.mem_range.2 (by omega), rfl⟩))
  rw [linkPs_len] at h1
  omega
theorem placePs_k (xs : List Int) (hl : xs.length ≤ 8) (h : ∀ x ∈ xs, i64ok x) {k : Nat} (hk : k ≤ xs.length) : (Lib.join (placePs xs k) sepT).length ≤ 176 := by
  have h1 := join_len (m := 20) (placePs xs k) (fun p hp => by
    obtain ⟨i, hi, rfl⟩ := List.mem_map.1 hp
    have hi2 : i < k := List.mem_range.1 hi
    exact placePs_20 xs h _ (by
      unfold placePs
      exact List.mem_map.2 ⟨i, List.mem_range.2 (by omega), rfl⟩))
  rw [placePs_len] at h1
  omega
theorem linkPs_more {xs : List (Int × Int)} {k : Nat} {c : Int × Int} (h : xs[k]? = some c) : Lib.join (linkPs xs (k + 1)) sepT = moreT (Lib.join (linkPs xs k) sepT) (linkT c) := by
  have e : linkPs xs (k + 1) = linkPs xs k ++ [linkT c] := linkPs_succ h
  rw [e]
  exact join_more (linkPs_ne xs (by have := (List.getElem?_eq_some_iff.1 h).1; omega)) _
theorem placePs_more {xs : List Int} {k : Nat} {c : Int} (h : xs[k]? = some c) : Lib.join (placePs xs (k + 1)) sepT = moreT (Lib.join (placePs xs k) sepT) (num c) := by
  have e : placePs xs (k + 1) = placePs xs k ++ [num c] := placePs_succ h
  rw [e]
  exact join_more (placePs_ne xs (by have := (List.getElem?_eq_some_iff.1 h).1; omega)) _
theorem links_nil {xs : List (Int × Int)} : Lib.join (linkPs xs xs.length) sepT = [] ↔ xs = [] := by
  rw [join_ne (linkPs_ne xs (Nat.le_refl _))]
  constructor
  · intro h
    have := congrArg List.length h
    rw [linkPs_len] at this
    exact List.eq_nil_of_length_eq_zero this
  · rintro rfl; rfl
theorem places_nil {xs : List Int} : Lib.join (placePs xs xs.length) sepT = [] ↔ xs = [] := by
  rw [join_ne (placePs_ne xs (Nat.le_refl _))]
  constructor
  · intro h
    have := congrArg List.length h
    rw [placePs_len] at this
    exact List.eq_nil_of_length_eq_zero this
  · rintro rfl; rfl
theorem under_bs (n : Nd) : ({ data := #[32, 117, 110, 100, 101, 114, 32] } : ByteArray) ++ bs (num n.parent) = bs (underT n) := by
  rw [show ({ data := #[32, 117, 110, 100, 101, 114, 32] } : ByteArray) = bs [32, 117, 110, 100, 101, 114, 32] from rfl, bs_app]
  rfl
theorem width_bs (n : Nd) : ({ data := #[32, 119, 105, 100, 116, 104, 32] } : ByteArray) ++ bs (num n.width) = bs (widthT n) := by
  rw [show ({ data := #[32, 119, 105, 100, 116, 104, 32] } : ByteArray) = bs [32, 119, 105, 100, 116, 104, 32] from rfl, bs_app]
  rfl
theorem empty_false {T : List UInt8} (h : T ≠ []) : (bs T).toList.isEmpty = false := by
  rw [toListBs]
  cases T with
  | nil => exact absurd rfl h
  | cons _ _ => rfl
theorem empty_true {T : List UInt8} (h : T = []) : (bs T).toList.isEmpty = true := by rw [toListBs, h]; rfl
set_option maxRecDepth 200000 in
set_option maxHeartbeats 8000000 in
theorem rnodeText2 {F : Nat → Prop} (n : Nd) (lv mv : Value) (w : World) (h : NdT F w n lv mv) (h8 : n.links.length ≤ 8 ∧ n.new.length ≤ 8) (hk : n.kind = 2) (hE : n.links = [] ∧ n.new = []) (ht : Tab w) :
    Calls Tryd.prog 33 #[.agg #[.int .i64 n.kind, .int .i64 n.parent, .int .i64 n.alpha, lv, mv, .int .i64 n.test.op, .bool n.test.l.v, .int .i64 n.test.l.n, .bool n.test.r.v, .int .i64 n.test.r.n, .int .i64 n.width]] w fun e w' => e = .returned (.string (bs (nodeT n))) ∧ Below w.heap.size w w' := by
  rw [hk]
  have HE := Lib.hid hE
  clear hE
  have HLK := Lib.hid h.links
  have HNW := Lib.hid h.new
  have lok : ∀ x ∈ n.links, i64ok x.1 ∧ i64ok x.2 := fun x hx => by obtain ⟨cs, _, h1, h2⟩ := memE h.links hx; exact ⟨h1, h2⟩
  have mok : ∀ x ∈ n.new, i64ok x := fun x hx => by obtain ⟨cs, _, h1⟩ := memE h.new hx; exact h1
  obtain ⟨LA, lc, rfl⟩ := h.links.form
  obtain ⟨MA, mc, rfl⟩ := h.new.form
  obtain ⟨-, o1, o2, o3, o4, o5, o6⟩ := h.ok
  obtain ⟨wb, hwb⟩ : ∃ wb, wb = w.alloc (.cells #[.int .i64 2, .int .i64 n.parent, .int .i64 n.alpha, .slice LA n.links.length lc, .slice MA n.new.length mc, .int .i64 n.test.op, .bool n.test.l.v, .int .i64 n.test.l.n, .bool n.test.r.v, .int .i64 n.test.r.n, .int .i64 n.width] 40) := ⟨_, rfl⟩
  have hb0 : Below (w.heap.size + 1) (w.alloc (.cells #[.int .i64 2, .int .i64 n.parent, .int .i64 n.alpha, .slice LA n.links.length lc, .slice MA n.new.length mc, .int .i64 n.test.op, .bool n.test.l.v, .int .i64 n.test.l.n, .bool n.test.r.v, .int .i64 n.test.r.n, .int .i64 n.width] 40)) wb := by rw [hwb]; exact Below.refl _ _
  have hbw : Below w.heap.size w wb := by rw [hwb]; exact (Below.refl _ _).alloc (Nat.le_refl _) _
  have hsz1 : w.heap.size + 1 ≤ wb.heap.size := by have := hb0.size; simpa using this
  have FC := Lib.hid (fun (Wx : World) (hx : Below wb.heap.size wb Wx) => (show Wx.cell? ⟨w.heap.size, 0, none⟩ = some (.int .i64 2) ∧ Wx.cell? ⟨w.heap.size, 1, none⟩ = some (.int .i64 n.parent) ∧ Wx.cell? ⟨w.heap.size, 2, none⟩ = some (.int .i64 n.alpha) ∧ Wx.cell? ⟨w.heap.size, 3, none⟩ = some (.slice LA n.links.length lc) ∧ Wx.cell? ⟨w.heap.size, 4, none⟩ = some (.slice MA n.new.length mc) ∧ Wx.cell? ⟨w.heap.size, 5, none⟩ = some (.int .i64 n.test.op) ∧ Wx.cell? ⟨w.heap.size, 6, none⟩ = some (.bool n.test.l.v) ∧ Wx.cell? ⟨w.heap.size, 7, none⟩ = some (.int .i64 n.test.l.n) ∧ Wx.cell? ⟨w.heap.size, 8, none⟩ = some (.bool n.test.r.v) ∧ Wx.cell? ⟨w.heap.size, 9, none⟩ = some (.int .i64 n.test.r.n) ∧ Wx.cell? ⟨w.heap.size, 10, none⟩ = some (.int .i64 n.width) from
    have hxx := hb0.trans (hx.mono hsz1)
    ⟨box_cellD hxx 0 rfl, box_cellD hxx 1 rfl, box_cellD hxx 2 rfl, box_cellD hxx 3 rfl, box_cellD hxx 4 rfl, box_cellD hxx 5 rfl, box_cellD hxx 6 rfl, box_cellD hxx 7 rfl, box_cellD hxx 8 rfl, box_cellD hxx 9 rfl, box_cellD hxx 10 rfl⟩))
  have AL := Lib.hid (fun (Wx : World) (hx : Below wb.heap.size wb Wx) => hbw.trans (hx.mono hbw.size))
  have TB := Lib.hid (fun (Wx : World) (hx : Below wb.heap.size wb Wx) => (ht.below hbw).below hx)
  have C1 := Lib.hid (fun (Wx : World) (hx : Below wb.heap.size wb Wx) => rnumW n.parent o1.lo Wx (TB.out Wx hx))
  have C2 := Lib.hid (fun (Wx : World) (hx : Below wb.heap.size wb Wx) => rnumW n.alpha o2.lo Wx (TB.out Wx hx))
  have C3 := Lib.hid (fun (Wx : World) (hx : Below wb.heap.size wb Wx) => rnumW n.width o3.lo Wx (TB.out Wx hx))
  have CS1 := Lib.hid (fun (Wx : World) (hx : Below wb.heap.size wb Wx) => rslotTextW n.test.l o5.lo Wx (TB.out Wx hx))
  have CS2 := Lib.hid (fun (Wx : World) (hx : Below wb.heap.size wb Wx) => rslotTextW n.test.r o6.lo Wx (TB.out Wx hx))
  have m1 := slotT_len o5.lo
  have m2 := slotT_len o6.lo
  have m3 := opT_len n.test.op
  have u1 : (underT n).length ≤ 27 := by have := num_len o1.lo; simp only [underT, List.length_append, List.length_cons, List.length_nil]; omega
  have u2 : (widthT n).length ≤ 27 := by have := num_len o3.lo; simp only [widthT, List.length_append, List.length_cons, List.length_nil]; omega
  have l1 := num_len o1.lo
  have l2 := num_len o2.lo
  have l3 := num_len o3.lo
  rw [← bs_size] at l1 l2 l3 m1 m2 m3 u1 u2
  have HK := Lib.hid hk
  have LOK := Lib.hid lok
  have MOK := Lib.hid mok
  have BR := Lib.hid (Below.refl wb.heap.size wb)
  have s1 : ¬ 9223372036854775807 < 7 + (bs (num n.parent)).size := by omega
  have s2 : ¬ 9223372036854775807 < 7 + (bs (num n.width)).size := by omega
  clear hb0 hbw h ht lok mok hk
  go_enter Tryd.func33, Tryd.ntmps33
  go_upto_region 1 with fail
  rw [← hwb]
  clear hwb
  obtain ⟨c0, c1, c2, c3, c4, c5, c6, c7, c8, c9, c10⟩ := FC.out wb BR.out
  go_wp2_with fail
  refine (C1.out _ BR.out).mono ?_
  rintro e w1 ⟨rfl, hb1⟩
  have B1 := Lib.hid (BR.out.trans (hb1.mono BR.out.size))
  clear hb1 c0 c1 c2 c3 c4 c5 c6 c7 c8 c9 c10 BR
  obtain ⟨c0, c1, c2, c3, c4, c5, c6, c7, c8, c9, c10⟩ := FC.out w1 B1.out
  go_wp2_with fail
  refine (C3.out _ B1.out).mono ?_
  rintro e w2 ⟨rfl, hb2⟩
  have B2 := Lib.hid (B1.out.trans (hb2.mono B1.out.size))
  clear hb2 c0 c1 c2 c3 c4 c5 c6 c7 c8 c9 c10 B1 C1 C3
  obtain ⟨c0, c1, c2, c3, c4, c5, c6, c7, c8, c9, c10⟩ := FC.out w2 B2.out
  go_upto_region 3 with fail
  rw [under_bs, width_bs]
  clear s1 s2
  obtain ⟨S, hSe⟩ : ∃ S, S = fun Wx => Below wb.heap.size wb Wx := ⟨_, rfl⟩
  have bn := fun (p : Pt S) => (congrFun hSe p.val).mp p.property
  have q5 := fun (p : Pt S) => (FC.out _ (bn p)).2.2.2.2.2.1
  have q6 := fun (p : Pt S) => (FC.out _ (bn p)).2.2.2.2.2.2.1
  have q7 := fun (p : Pt S) => (FC.out _ (bn p)).2.2.2.2.2.2.2.1
  have q8 := fun (p : Pt S) => (FC.out _ (bn p)).2.2.2.2.2.2.2.2.1
  have q9 := fun (p : Pt S) => (FC.out _ (bn p)).2.2.2.2.2.2.2.2.2.1
  have NE : Nonempty (Pt S) := ⟨⟨w2, (congrFun hSe w2).mpr B2.out⟩⟩
  have HDD := Lib.hid ((congrFun hSe w2.drew).mpr (B2.out.trans ((Below.refl _ _).drew.mono B2.out.size)))
  have SE := Lib.hid hSe
  have KPP := Lib.hid bn
  have COP := Lib.hid (fun (Wx : World) => ropTextW n.test.op Wx)
  have t1 : ¬ 9223372036854775807 < 5 + (bs (slotT n.test.l)).size := by omega
  have t2 : ¬ 9223372036854775807 < 5 + (bs (slotT n.test.l)).size + 1 := by omega
  have t3 : ¬ 9223372036854775807 < 5 + (bs (slotT n.test.l)).size + 1 + (bs (opT n.test.op)).size := by omega
  have t4 : ¬ 9223372036854775807 < 5 + (bs (slotT n.test.l)).size + 1 + (bs (opT n.test.op)).size + 1 := by omega
  have t5 : ¬ 9223372036854775807 < 5 + (bs (slotT n.test.l)).size + 1 + (bs (opT n.test.op)).size + 1 + (bs (slotT n.test.r)).size := by omega
  have t6 : ¬ 9223372036854775807 < 5 + (bs (slotT n.test.l)).size + 1 + (bs (opT n.test.op)).size + 1 + (bs (slotT n.test.r)).size + (bs (underT n)).size := by omega
  have t7 : ¬ 9223372036854775807 < 5 + (bs (slotT n.test.l)).size + 1 + (bs (opT n.test.op)).size + 1 + (bs (slotT n.test.r)).size + (bs (underT n)).size + (bs (widthT n)).size := by omega
  clear bn hSe c1 c2 c3 c4 c5 c6 c7 c8 c9 c10
  go_wp2_with fail
  refine wp_region_class (S := S) HDD.out (by kernel_rfl) (by kernel_rfl) ?_
  repeat (go_big_quiet_step ((first
    | (go_at_call 57; with_reducible refine (CS1.out _ (KPP.out _)).mono ?_; rintro e w' ⟨rfl, hbel⟩; exact ⟨rfl, ⟨w', (congrFun SE.out w').mpr ((KPP.out _).trans (hbel.mono (KPP.out _).size))⟩, rfl⟩)
    | (go_at_call 57; with_reducible refine (CS2.out _ (KPP.out _)).mono ?_; rintro e w' ⟨rfl, hbel⟩; exact ⟨rfl, ⟨w', (congrFun SE.out w').mpr ((KPP.out _).trans (hbel.mono (KPP.out _).size))⟩, rfl⟩)
    | (go_at_call 58; with_reducible refine (COP.out _).mono ?_; rintro e w' ⟨rfl, hbel⟩; exact ⟨rfl, ⟨w', (congrFun SE.out w').mpr ((KPP.out _).trans (hbel.mono (KPP.out _).size))⟩, rfl⟩))))
  refine wpQuiet_nil ?_
  rintro wq ⟨⟨_, hW⟩, rfl⟩
  have HF := Lib.hid (AL.out _ ((congrFun SE.out wq).mp hW))
  clear q5 q6 q7 q8 q9 NE hW c0
  go_wp2
  go_ret
  refine ⟨?_, HF.out⟩
  obtain ⟨hE1, hE2⟩ := HE.out
  have e : nodeT n = testT n ++ widthT n := by
    unfold nodeT headT linksT newT
    rw [HK.out, hE1, hE2]
    simp
  rw [e]
  unfold testT
  simp only [← bs_app, ByteArray.append_assoc]
  rfl
set_option maxRecDepth 200000 in
set_option maxHeartbeats 8000000 in
theorem rnodeText1 {F : Nat → Prop} (n : Nd) (lv mv : Value) (w : World) (h : NdT F w n lv mv) (h8 : n.links.length ≤ 8 ∧ n.new.length ≤ 8) (hk : n.kind = 1) (ht : Tab w) :
    Calls Tryd.prog 33 #[.agg #[.int .i64 n.kind, .int .i64 n.parent, .int .i64 n.alpha, lv, mv, .int .i64 n.test.op, .bool n.test.l.v, .int .i64 n.test.l.n, .bool n.test.r.v, .int .i64 n.test.r.n, .int .i64 n.width]] w fun e w' => e = .returned (.string (bs (nodeT n))) ∧ Below w.heap.size w w' := by
  rw [hk]
  have HLK := Lib.hid h.links
  have HNW := Lib.hid h.new
  have lok : ∀ x ∈ n.links, i64ok x.1 ∧ i64ok x.2 := fun x hx => by obtain ⟨cs, _, h1, h2⟩ := memE h.links hx; exact ⟨h1, h2⟩
  have mok : ∀ x ∈ n.new, i64ok x := fun x hx => by obtain ⟨cs, _, h1⟩ := memE h.new hx; exact h1
  obtain ⟨LA, lc, rfl⟩ := h.links.form
  obtain ⟨MA, mc, rfl⟩ := h.new.form
  obtain ⟨-, o1, o2, o3, o4, o5, o6⟩ := h.ok
  obtain ⟨wb, hwb⟩ : ∃ wb, wb = w.alloc (.cells #[.int .i64 1, .int .i64 n.parent, .int .i64 n.alpha, .slice LA n.links.length lc, .slice MA n.new.length mc, .int .i64 n.test.op, .bool n.test.l.v, .int .i64 n.test.l.n, .bool n.test.r.v, .int .i64 n.test.r.n, .int .i64 n.width] 40) := ⟨_, rfl⟩
  have hb0 : Below (w.heap.size + 1) (w.alloc (.cells #[.int .i64 1, .int .i64 n.parent, .int .i64 n.alpha, .slice LA n.links.length lc, .slice MA n.new.length mc, .int .i64 n.test.op, .bool n.test.l.v, .int .i64 n.test.l.n, .bool n.test.r.v, .int .i64 n.test.r.n, .int .i64 n.width] 40)) wb := by rw [hwb]; exact Below.refl _ _
  have hbw : Below w.heap.size w wb := by rw [hwb]; exact (Below.refl _ _).alloc (Nat.le_refl _) _
  have hsz1 : w.heap.size + 1 ≤ wb.heap.size := by have := hb0.size; simpa using this
  have FC := Lib.hid (fun (Wx : World) (hx : Below wb.heap.size wb Wx) => (show Wx.cell? ⟨w.heap.size, 0, none⟩ = some (.int .i64 1) ∧ Wx.cell? ⟨w.heap.size, 1, none⟩ = some (.int .i64 n.parent) ∧ Wx.cell? ⟨w.heap.size, 2, none⟩ = some (.int .i64 n.alpha) ∧ Wx.cell? ⟨w.heap.size, 3, none⟩ = some (.slice LA n.links.length lc) ∧ Wx.cell? ⟨w.heap.size, 4, none⟩ = some (.slice MA n.new.length mc) ∧ Wx.cell? ⟨w.heap.size, 5, none⟩ = some (.int .i64 n.test.op) ∧ Wx.cell? ⟨w.heap.size, 6, none⟩ = some (.bool n.test.l.v) ∧ Wx.cell? ⟨w.heap.size, 7, none⟩ = some (.int .i64 n.test.l.n) ∧ Wx.cell? ⟨w.heap.size, 8, none⟩ = some (.bool n.test.r.v) ∧ Wx.cell? ⟨w.heap.size, 9, none⟩ = some (.int .i64 n.test.r.n) ∧ Wx.cell? ⟨w.heap.size, 10, none⟩ = some (.int .i64 n.width) from
    have hxx := hb0.trans (hx.mono hsz1)
    ⟨box_cellD hxx 0 rfl, box_cellD hxx 1 rfl, box_cellD hxx 2 rfl, box_cellD hxx 3 rfl, box_cellD hxx 4 rfl, box_cellD hxx 5 rfl, box_cellD hxx 6 rfl, box_cellD hxx 7 rfl, box_cellD hxx 8 rfl, box_cellD hxx 9 rfl, box_cellD hxx 10 rfl⟩))
  have AL := Lib.hid (fun (Wx : World) (hx : Below wb.heap.size wb Wx) => hbw.trans (hx.mono hbw.size))
  have TB := Lib.hid (fun (Wx : World) (hx : Below wb.heap.size wb Wx) => (ht.below hbw).below hx)
  have C1 := Lib.hid (fun (Wx : World) (hx : Below wb.heap.size wb Wx) => rnumW n.parent o1.lo Wx (TB.out Wx hx))
  have C2 := Lib.hid (fun (Wx : World) (hx : Below wb.heap.size wb Wx) => rnumW n.alpha o2.lo Wx (TB.out Wx hx))
  have C3 := Lib.hid (fun (Wx : World) (hx : Below wb.heap.size wb Wx) => rnumW n.width o3.lo Wx (TB.out Wx hx))
  have CS1 := Lib.hid (fun (Wx : World) (hx : Below wb.heap.size wb Wx) => rslotTextW n.test.l o5.lo Wx (TB.out Wx hx))
  have CS2 := Lib.hid (fun (Wx : World) (hx : Below wb.heap.size wb Wx) => rslotTextW n.test.r o6.lo Wx (TB.out Wx hx))
  have m1 := slotT_len o5.lo
  have m2 := slotT_len o6.lo
  have m3 := opT_len n.test.op
  have u1 : (underT n).length ≤ 27 := by have := num_len o1.lo; simp only [underT, List.length_append, List.length_cons, List.length_nil]; omega
  have u2 : (widthT n).length ≤ 27 := by have := num_len o3.lo; simp only [widthT, List.length_append, List.length_cons, List.length_nil]; omega
  have l1 := num_len o1.lo
  have l2 := num_len o2.lo
  have l3 := num_len o3.lo
  rw [← bs_size] at l1 l2 l3 m1 m2 m3 u1 u2
  have HK := Lib.hid hk
  have LOK := Lib.hid lok
  have MOK := Lib.hid mok
  have BR := Lib.hid (Below.refl wb.heap.size wb)
  have s1 : ¬ 9223372036854775807 < 7 + (bs (num n.parent)).size := by omega
  have s2 : ¬ 9223372036854775807 < 7 + (bs (num n.width)).size := by omega
  clear hb0 hbw h ht lok mok hk
  go_enter Tryd.func33, Tryd.ntmps33
  go_upto_region 1 with fail
  rw [← hwb]
  clear hwb
  obtain ⟨c0, c1, c2, c3, c4, c5, c6, c7, c8, c9, c10⟩ := FC.out wb BR.out
  go_wp2_with fail
  refine (C1.out _ BR.out).mono ?_
  rintro e w1 ⟨rfl, hb1⟩
  have B1 := Lib.hid (BR.out.trans (hb1.mono BR.out.size))
  clear hb1 c0 c1 c2 c3 c4 c5 c6 c7 c8 c9 c10 BR
  obtain ⟨c0, c1, c2, c3, c4, c5, c6, c7, c8, c9, c10⟩ := FC.out w1 B1.out
  go_wp2_with fail
  refine (C3.out _ B1.out).mono ?_
  rintro e w2 ⟨rfl, hb2⟩
  have B2 := Lib.hid (B1.out.trans (hb2.mono B1.out.size))
  clear hb2 c0 c1 c2 c3 c4 c5 c6 c7 c8 c9 c10 B1 C1 C3
  obtain ⟨c0, c1, c2, c3, c4, c5, c6, c7, c8, c9, c10⟩ := FC.out w2 B2.out
  go_upto_region 3 with fail
  rw [under_bs, width_bs]
  clear s1 s2
  have s3 : ¬ 9223372036854775807 < 5 + (bs (num n.alpha)).size := by omega
  have s4 : ¬ 9223372036854775807 < 5 + (bs (num n.alpha)).size + (bs (underT n)).size := by omega
  go_wp2_with fail
  refine (C2.out _ B2.out).mono ?_
  rintro e w3 ⟨rfl, hb3⟩
  have B3 := Lib.hid (B2.out.trans (hb3.mono B2.out.size))
  clear hb3 c0 c1 c2 c3 c4 c5 c6 c7 c8 c9 c10
  obtain ⟨c0, c1, c2, c3, c4, c5, c6, c7, c8, c9, c10⟩ := FC.out w3 B3.out
  have BX := Lib.hid B3.out
  have hheq : (bs ([106, 111, 105, 110, 32] ++ num n.alpha ++ underT n)) = bs (headT n) := by unfold headT; rw [HK.out]; rfl
  have HB0 : (({ data := #[106, 111, 105, 110, 32] } : ByteArray) ++ bs (num n.alpha) ++ bs (underT n)) = bs ([106, 111, 105, 110, 32] ++ num n.alpha ++ underT n) := by rw [show ({ data := #[106, 111, 105, 110, 32] } : ByteArray) = bs [106, 111, 105, 110, 32] from rfl, bs_app, bs_app]
  obtain ⟨hT, hhT⟩ : ∃ hT, headT n = hT := ⟨_, rfl⟩
  have HHT := Lib.hid hhT
  have hhl : hT.length ≤ 52 := by rw [← hhT]; unfold headT; rw [HK.out]; simp only [if_true]; have := bs_size (num n.alpha); have := bs_size (underT n); simp only [List.length_append, List.length_cons, List.length_nil]; omega
  rw [← bs_size] at hhl
  have HBQ := Lib.hid (HB0.trans (hheq.trans (congrArg bs hhT)))
  clear hhT s3 s4 HB0 hheq
  go_wp2
  rw [HBQ.out]
  clear c0 c1 c2 c3 c4 c5 c6 c7 c8 c9 c10
  go_loopw [6, 7] (fun sv iv wr => ∃ k : Nat, iv = .int .i64 k ∧ k ≤ n.links.length ∧ sv = .string (bs (Lib.join (linkPs n.links k) sepT)) ∧ Below wb.heap.size wb wr) (fun _ iv _ => n.links.length - (intOf iv).toNat)
  case atStart => exact ⟨0, rfl, Nat.zero_le _, rfl, BX.out⟩
  case round =>
    obtain ⟨k, rfl, hk, rfl, hb⟩ := hrel
    obtain ⟨c0, c1, c2, c3, c4, c5, c6, c7, c8, c9, c10⟩ := FC.out wr hb
    have hjl := linkPs_k n.links h8.1 LOK.out hk
    by_cases hkn : k < n.links.length
    · obtain ⟨x, hx⟩ : ∃ x, n.links[k]? = some x := ⟨_, List.getElem?_eq_getElem hkn⟩
      have hxo := LOK.out x (List.mem_of_getElem? hx)
      have hmr := linkPs_more hx
      obtain ⟨b, off, rfl, -, hbl, cs, ⟨rfl, -⟩, hc⟩ := (HLK.out.keep (Kp.of_below (AL.out _ hb))).at hx
      obtain ⟨J, hJ⟩ : ∃ J, Lib.join (linkPs n.links k) sepT = J := ⟨_, rfl⟩
      rw [hJ] at hmr hjl ⊢
      have n1 := num_len hxo.1.lo
      have n2 := num_len hxo.2.lo
      have ll : (linkT x).length ≤ 42 := by simp only [linkT, List.length_append, List.length_cons, List.length_nil]; omega
      have MO := Lib.hid (fun Wx => moreW J (linkT x) (by omega) (by omega) Wx)
      have elk : linkT x = num x.1 ++ ([61, 118] ++ num x.2) := rfl
      rw [elk, ← bs_app, ← bs_app, ← ByteArray.append_assoc, show bs [61, 118] = ({ data := #[61, 118] } : ByteArray) from rfl] at MO
      have HE := Lib.hid elk
      rw [← bs_size] at n1 n2
      have z1 : ¬ 9223372036854775807 < (bs (num x.1)).size + 2 := by omega
      have z2 : ¬ 9223372036854775807 < (bs (num x.1)).size + 2 + (bs (num x.2)).size := by omega
      obtain ⟨S, hSe⟩ : ∃ S, S = fun Wx => Below wr.heap.size wr Wx := ⟨_, rfl⟩
      have bn := fun (p : Pt S) => (congrFun hSe p.val).mp p.property
      have bb := fun (p : Pt S) => hb.trans ((bn p).mono hb.size)
      have q3 := fun (p : Pt S) => (FC.out _ (bb p)).2.2.2.1
      have d0 := fun (p : Pt S) => ((bn p).cell (p := ⟨b, off + k * 2 + 0, none⟩) hbl).trans (hc 0 _ rfl)
      have d1 := fun (p : Pt S) => ((bn p).cell (p := ⟨b, off + k * 2 + 1, none⟩) hbl).trans (hc 1 _ rfl)
      simp only [Nat.add_zero] at d0
      have NE : Nonempty (Pt S) := ⟨⟨wr, (congrFun hSe wr).mpr (Below.refl _ _)⟩⟩
      have HDD := Lib.hid ((congrFun hSe wr.drew).mpr (Below.refl _ _).drew)
      have SE := Lib.hid hSe
      have KPP := Lib.hid bn
      have R1 := Lib.hid (fun (Wx : World) (hx : Below wr.heap.size wr Wx) => rnumW x.1 hxo.1.lo Wx (TB.out Wx (hb.trans (hx.mono hb.size))))
      have R2 := Lib.hid (fun (Wx : World) (hx : Below wr.heap.size wr Wx) => rnumW x.2 hxo.2.lo Wx (TB.out Wx (hb.trans (hx.mono hb.size))))
      have MR := Lib.hid hmr
      have HB := Lib.hid hb
      have HK := Lib.hid hkn
      have e1 : (0 : Int) ≤ (k : Int) := by omega
      have e2 : (k : Int) < (n.links.length : Int) := by omega
      clear hx hc hb hkn hmr hJ hxo bn bb hSe elk ll hjl
      go_wp2_with fail
      refine wp_region_class (S := S) HDD.out (by kernel_rfl) (by kernel_rfl) ?_
      repeat (go_big_quiet_step ((first
        | (go_at_call 31; with_reducible refine (R1.out _ (KPP.out _)).mono ?_; rintro e w' ⟨rfl, hbel⟩; exact ⟨rfl, ⟨w', (congrFun SE.out w').mpr ((KPP.out _).trans (hbel.mono (KPP.out _).size))⟩, rfl⟩)
        | (go_at_call 31; with_reducible refine (R2.out _ (KPP.out _)).mono ?_; rintro e w' ⟨rfl, hbel⟩; exact ⟨rfl, ⟨w', (congrFun SE.out w').mpr ((KPP.out _).trans (hbel.mono (KPP.out _).size))⟩, rfl⟩)
        | (go_at_call 56; with_reducible refine (MO.out _).mono ?_; rintro e w' ⟨rfl, hbel⟩; exact ⟨rfl, ⟨w', (congrFun SE.out w').mpr ((KPP.out _).trans (hbel.mono (KPP.out _).size))⟩, rfl⟩))))
      refine wpQuiet_nil ?_
      rintro wq ⟨⟨_, hW⟩, rfl⟩
      have HF := Lib.hid (HB.out.trans (((congrFun SE.out wq).mp hW).mono HB.out.size))
      clear q3 d0 d1 NE hW c0 c1 c2 c3 c4 c5 c6 c7 c8 c9 c10
      go_wp2
      exact ⟨⟨k + 1, by go_num, HK.out, by rw [MR.out]; rfl, HF.out⟩, by simp [intOf]; have := HK.out; omega⟩
    · obtain rfl : k = n.links.length := by omega
      obtain ⟨J, hJ⟩ : ∃ J, Lib.join (linkPs n.links n.links.length) sepT = J := ⟨_, rfl⟩
      have hnil := links_nil (xs := n.links)
      rw [hJ] at hjl hnil ⊢
      have HLT := Lib.hid (show linksT n = if J = [] then [] else [32, 108, 105, 110, 107, 32] ++ J by
        unfold linksT
        rw [hJ]
        by_cases h : J = []
        · rw [if_pos h, if_pos (hnil.1 h)]
        · rw [if_neg h, if_neg (fun q => h (hnil.2 q))])
      obtain ⟨L2, hL2⟩ : ∃ L2, linksT n = L2 := ⟨_, rfl⟩
      have hl2l : L2.length ≤ 358 := by
        rw [← hL2, HLT.out]
        split
        · simp
        · simp only [List.length_append, List.length_cons, List.length_nil]; omega
      rw [hL2] at HLT
      have HL2 := Lib.hid hL2
      have HBL := Lib.hid hb
      clear hb hkn hJ hnil hL2
      rw [← bs_size] at hjl hl2l
      have y1 : ¬ 9223372036854775807 < (bs hT).size + 6 := by omega
      have y2 : ¬ 9223372036854775807 < (bs hT).size + 6 + (bs J).size := by omega
      by_cases hJ0 : J = []
      · have he := empty_true hJ0
        have HEQ := Lib.hid (show bs hT = bs (hT ++ L2) by rw [HLT.out, if_pos hJ0, List.append_nil])
        clear hJ0
        go_wp2
        rw [HEQ.out]
        clear he
        clear c0 c1 c2 c3 c4 c5 c6 c7 c8 c9 c10 y1 y2
        have hol : (hT ++ L2).length ≤ 410 := by have h1 := bs_size hT; have h2 := bs_size L2; rw [List.length_append]; omega
        rw [← bs_size] at hol
        obtain ⟨O, hO⟩ : ∃ O, hT ++ L2 = O := ⟨_, rfl⟩
        rw [hO] at hol ⊢
        have HO := Lib.hid hO
        clear hO
        obtain ⟨wo, rfl⟩ : ∃ wo : World, wo = wr := ⟨_, rfl⟩
        go_loopw [8, 9] (fun sv iv wr => ∃ k : Nat, iv = .int .i64 k ∧ k ≤ n.new.length ∧ sv = .string (bs (Lib.join (placePs n.new k) sepT)) ∧ Below wb.heap.size wb wr) (fun _ iv _ => n.new.length - (intOf iv).toNat)
        case atStart => exact ⟨0, rfl, Nat.zero_le _, rfl, HBL.out⟩
        case round =>
          obtain ⟨k, rfl, hk, rfl, hb⟩ := hrel
          clear HBL
          obtain ⟨c0, c1, c2, c3, c4, c5, c6, c7, c8, c9, c10⟩ := FC.out wr hb
          have hjl := placePs_k n.new h8.2 MOK.out hk
          by_cases hkn : k < n.new.length
          · obtain ⟨x, hx⟩ : ∃ x, n.new[k]? = some x := ⟨_, List.getElem?_eq_getElem hkn⟩
            have hxo := MOK.out x (List.mem_of_getElem? hx)
            have hmr := placePs_more hx
            obtain ⟨b, off, rfl, -, hbl, cs, ⟨rfl, -⟩, hc⟩ := (HNW.out.keep (Kp.of_below (AL.out _ hb))).at hx
            have d0 := hc 0 _ rfl
            simp only [Nat.add_zero, Nat.mul_one] at d0
            obtain ⟨J, hJ⟩ : ∃ J, Lib.join (placePs n.new k) sepT = J := ⟨_, rfl⟩
            rw [hJ] at hmr hjl ⊢
            have n1 := num_len hxo.lo
            have MO := Lib.hid (fun Wx => moreW J (num x) (by omega) (by omega) Wx)
            have RN := Lib.hid (rnumW x hxo.lo wr (TB.out wr hb))
            have MR := Lib.hid hmr
            have HB := Lib.hid hb
            have HK := Lib.hid hkn
            have e1 : (0 : Int) ≤ (k : Int) := by omega
            have e2 : (k : Int) < (n.new.length : Int) := by omega
            clear hx hc hb hkn hmr hJ hxo hjl
            go_wp2_with fail
            refine RN.out.mono ?_
            rintro e w5 ⟨rfl, hb5⟩
            have HB5 := Lib.hid (HB.out.trans (hb5.mono HB.out.size))
            clear hb5 RN
            go_wp2_with fail
            refine (MO.out _).mono ?_
            rintro e w6 ⟨rfl, hb6⟩
            have HB6 := Lib.hid (HB5.out.trans (hb6.mono HB5.out.size))
            clear hb6 MO
            go_wp2
            exact ⟨⟨k + 1, by go_num, HK.out, by rw [MR.out], HB6.out⟩, by simp [intOf]; have := HK.out; omega⟩
          · obtain rfl : k = n.new.length := by omega
            obtain ⟨J, hJ⟩ : ∃ J, Lib.join (placePs n.new n.new.length) sepT = J := ⟨_, rfl⟩
            have hnil := places_nil (xs := n.new)
            rw [hJ] at hjl hnil ⊢
            have HNT := Lib.hid (show newT n = if J = [] then [] else [32, 110, 101, 119, 32] ++ J by
              unfold newT
              rw [hJ]
              by_cases h : J = []
              · rw [if_pos h, if_pos (hnil.1 h)]
              · rw [if_neg h, if_neg (fun q => h (hnil.2 q))])
            have HBE := Lib.hid (AL.out _ hb)
            clear hb hkn hJ hnil
            rw [← bs_size] at hjl
            have y1 : ¬ 9223372036854775807 < (bs O).size + 5 := by omega
            have y2 : ¬ 9223372036854775807 < (bs O).size + 5 + (bs J).size := by omega
            have y3 : ¬ 9223372036854775807 < (bs O).size + 5 + (bs J).size + (bs (widthT n)).size := by omega
            have y4 : ¬ 9223372036854775807 < (bs O).size + (bs (widthT n)).size := by omega
            have HNE := Lib.hid (show nodeT n = O ++ newT n ++ widthT n by
              unfold nodeT
              rw [HK.out, if_neg (by decide), HHT.out, HL2.out, HO.out])
            by_cases hJ0 : J = []
            · have he := empty_true hJ0
              have HEQ := Lib.hid (show nodeT n = O ++ widthT n by rw [HNE.out, HNT.out, if_pos hJ0, List.append_nil])
              clear hJ0
              go_wp2
              go_ret
              refine ⟨?_, HBE.out⟩
              rw [HEQ.out, ← bs_app]
              rfl
            · have he := empty_false hJ0
              have HEQ := Lib.hid (show nodeT n = O ++ [32, 110, 101, 119, 32] ++ J ++ widthT n by rw [HNE.out, HNT.out, if_neg hJ0]; simp only [List.append_assoc])
              clear hJ0
              go_wp2
              go_ret
              refine ⟨?_, HBE.out⟩
              rw [HEQ.out]
              simp only [← bs_app]
              rfl
      · have he := empty_false hJ0
        have HEQ := Lib.hid (show bs hT ++ { data := #[32, 108, 105, 110, 107, 32] } ++ bs J = bs (hT ++ L2) by rw [HLT.out, if_neg hJ0, show ({ data := #[32, 108, 105, 110, 107, 32] } : ByteArray) = bs [32, 108, 105, 110, 107, 32] from rfl]; simp only [bs_app, List.append_assoc])
        clear hJ0
        go_wp2
        rw [HEQ.out]
        clear he
        clear c0 c1 c2 c3 c4 c5 c6 c7 c8 c9 c10 y1 y2
        have hol : (hT ++ L2).length ≤ 410 := by have h1 := bs_size hT; have h2 := bs_size L2; rw [List.length_append]; omega
        rw [← bs_size] at hol
        obtain ⟨O, hO⟩ : ∃ O, hT ++ L2 = O := ⟨_, rfl⟩
        rw [hO] at hol ⊢
        have HO := Lib.hid hO
        clear hO
        obtain ⟨wo, rfl⟩ : ∃ wo : World, wo = wr := ⟨_, rfl⟩
        go_loopw [8, 9] (fun sv iv wr => ∃ k : Nat, iv = .int .i64 k ∧ k ≤ n.new.length ∧ sv = .string (bs (Lib.join (placePs n.new k) sepT)) ∧ Below wb.heap.size wb wr) (fun _ iv _ => n.new.length - (intOf iv).toNat)
        case atStart => exact ⟨0, rfl, Nat.zero_le _, rfl, HBL.out⟩
        case round =>
          obtain ⟨k, rfl, hk, rfl, hb⟩ := hrel
          clear HBL
          obtain ⟨c0, c1, c2, c3, c4, c5, c6, c7, c8, c9, c10⟩ := FC.out wr hb
          have hjl := placePs_k n.new h8.2 MOK.out hk
          by_cases hkn : k < n.new.length
          · obtain ⟨x, hx⟩ : ∃ x, n.new[k]? = some x := ⟨_, List.getElem?_eq_getElem hkn⟩
            have hxo := MOK.out x (List.mem_of_getElem? hx)
            have hmr := placePs_more hx
            obtain ⟨b, off, rfl, -, hbl, cs, ⟨rfl, -⟩, hc⟩ := (HNW.out.keep (Kp.of_below (AL.out _ hb))).at hx
            have d0 := hc 0 _ rfl
            simp only [Nat.add_zero, Nat.mul_one] at d0
            obtain ⟨J, hJ⟩ : ∃ J, Lib.join (placePs n.new k) sepT = J := ⟨_, rfl⟩
            rw [hJ] at hmr hjl ⊢
            have n1 := num_len hxo.lo
            have MO := Lib.hid (fun Wx => moreW J (num x) (by omega) (by omega) Wx)
            have RN := Lib.hid (rnumW x hxo.lo wr (TB.out wr hb))
            have MR := Lib.hid hmr
            have HB := Lib.hid hb
            have HK := Lib.hid hkn
            have e1 : (0 : Int) ≤ (k : Int) := by omega
            have e2 : (k : Int) < (n.new.length : Int) := by omega
            clear hx hc hb hkn hmr hJ hxo hjl
            go_wp2_with fail
            refine RN.out.mono ?_
            rintro e w5 ⟨rfl, hb5⟩
            have HB5 := Lib.hid (HB.out.trans (hb5.mono HB.out.size))
            clear hb5 RN
            go_wp2_with fail
            refine (MO.out _).mono ?_
            rintro e w6 ⟨rfl, hb6⟩
            have HB6 := Lib.hid (HB5.out.trans (hb6.mono HB5.out.size))
            clear hb6 MO
            go_wp2
            exact ⟨⟨k + 1, by go_num, HK.out, by rw [MR.out], HB6.out⟩, by simp [intOf]; have := HK.out; omega⟩
          · obtain rfl : k = n.new.length := by omega
            obtain ⟨J, hJ⟩ : ∃ J, Lib.join (placePs n.new n.new.length) sepT = J := ⟨_, rfl⟩
            have hnil := places_nil (xs := n.new)
            rw [hJ] at hjl hnil ⊢
            have HNT := Lib.hid (show newT n = if J = [] then [] else [32, 110, 101, 119, 32] ++ J by
              unfold newT
              rw [hJ]
              by_cases h : J = []
              · rw [if_pos h, if_pos (hnil.1 h)]
              · rw [if_neg h, if_neg (fun q => h (hnil.2 q))])
            have HBE := Lib.hid (AL.out _ hb)
            clear hb hkn hJ hnil
            rw [← bs_size] at hjl
            have y1 : ¬ 9223372036854775807 < (bs O).size + 5 := by omega
            have y2 : ¬ 9223372036854775807 < (bs O).size + 5 + (bs J).size := by omega
            have y3 : ¬ 9223372036854775807 < (bs O).size + 5 + (bs J).size + (bs (widthT n)).size := by omega
            have y4 : ¬ 9223372036854775807 < (bs O).size + (bs (widthT n)).size := by omega
            have HNE := Lib.hid (show nodeT n = O ++ newT n ++ widthT n by
              unfold nodeT
              rw [HK.out, if_neg (by decide), HHT.out, HL2.out, HO.out])
            by_cases hJ0 : J = []
            · have he := empty_true hJ0
              have HEQ := Lib.hid (show nodeT n = O ++ widthT n by rw [HNE.out, HNT.out, if_pos hJ0, List.append_nil])
              clear hJ0
              go_wp2
              go_ret
              refine ⟨?_, HBE.out⟩
              rw [HEQ.out, ← bs_app]
              rfl
            · have he := empty_false hJ0
              have HEQ := Lib.hid (show nodeT n = O ++ [32, 110, 101, 119, 32] ++ J ++ widthT n by rw [HNE.out, HNT.out, if_neg hJ0]; simp only [List.append_assoc])
              clear hJ0
              go_wp2
              go_ret
              refine ⟨?_, HBE.out⟩
              rw [HEQ.out]
              simp only [← bs_app]
              rfl
set_option maxRecDepth 200000 in
set_option maxHeartbeats 8000000 in
theorem rnodeText3 {F : Nat → Prop} (n : Nd) (lv mv : Value) (w : World) (h : NdT F w n lv mv) (h8 : n.links.length ≤ 8 ∧ n.new.length ≤ 8) (hk : n.kind = 3) (ht : Tab w) :
    Calls Tryd.prog 33 #[.agg #[.int .i64 n.kind, .int .i64 n.parent, .int .i64 n.alpha, lv, mv, .int .i64 n.test.op, .bool n.test.l.v, .int .i64 n.test.l.n, .bool n.test.r.v, .int .i64 n.test.r.n, .int .i64 n.width]] w fun e w' => e = .returned (.string (bs (nodeT n))) ∧ Below w.heap.size w w' := by
  rw [hk]
  have HLK := Lib.hid h.links
  have HNW := Lib.hid h.new
  have lok : ∀ x ∈ n.links, i64ok x.1 ∧ i64ok x.2 := fun x hx => by obtain ⟨cs, _, h1, h2⟩ := memE h.links hx; exact ⟨h1, h2⟩
  have mok : ∀ x ∈ n.new, i64ok x := fun x hx => by obtain ⟨cs, _, h1⟩ := memE h.new hx; exact h1
  obtain ⟨LA, lc, rfl⟩ := h.links.form
  obtain ⟨MA, mc, rfl⟩ := h.new.form
  obtain ⟨-, o1, o2, o3, o4, o5, o6⟩ := h.ok
  obtain ⟨wb, hwb⟩ : ∃ wb, wb = w.alloc (.cells #[.int .i64 3, .int .i64 n.parent, .int .i64 n.alpha, .slice LA n.links.length lc, .slice MA n.new.length mc, .int .i64 n.test.op, .bool n.test.l.v, .int .i64 n.test.l.n, .bool n.test.r.v, .int .i64 n.test.r.n, .int .i64 n.width] 40) := ⟨_, rfl⟩
  have hb0 : Below (w.heap.size + 1) (w.alloc (.cells #[.int .i64 3, .int .i64 n.parent, .int .i64 n.alpha, .slice LA n.links.length lc, .slice MA n.new.length mc, .int .i64 n.test.op, .bool n.test.l.v, .int .i64 n.test.l.n, .bool n.test.r.v, .int .i64 n.test.r.n, .int .i64 n.width] 40)) wb := by rw [hwb]; exact Below.refl _ _
  have hbw : Below w.heap.size w wb := by rw [hwb]; exact (Below.refl _ _).alloc (Nat.le_refl _) _
  have hsz1 : w.heap.size + 1 ≤ wb.heap.size := by have := hb0.size; simpa using this
  have FC := Lib.hid (fun (Wx : World) (hx : Below wb.heap.size wb Wx) => (show Wx.cell? ⟨w.heap.size, 0, none⟩ = some (.int .i64 3) ∧ Wx.cell? ⟨w.heap.size, 1, none⟩ = some (.int .i64 n.parent) ∧ Wx.cell? ⟨w.heap.size, 2, none⟩ = some (.int .i64 n.alpha) ∧ Wx.cell? ⟨w.heap.size, 3, none⟩ = some (.slice LA n.links.length lc) ∧ Wx.cell? ⟨w.heap.size, 4, none⟩ = some (.slice MA n.new.length mc) ∧ Wx.cell? ⟨w.heap.size, 5, none⟩ = some (.int .i64 n.test.op) ∧ Wx.cell? ⟨w.heap.size, 6, none⟩ = some (.bool n.test.l.v) ∧ Wx.cell? ⟨w.heap.size, 7, none⟩ = some (.int .i64 n.test.l.n) ∧ Wx.cell? ⟨w.heap.size, 8, none⟩ = some (.bool n.test.r.v) ∧ Wx.cell? ⟨w.heap.size, 9, none⟩ = some (.int .i64 n.test.r.n) ∧ Wx.cell? ⟨w.heap.size, 10, none⟩ = some (.int .i64 n.width) from
    have hxx := hb0.trans (hx.mono hsz1)
    ⟨box_cellD hxx 0 rfl, box_cellD hxx 1 rfl, box_cellD hxx 2 rfl, box_cellD hxx 3 rfl, box_cellD hxx 4 rfl, box_cellD hxx 5 rfl, box_cellD hxx 6 rfl, box_cellD hxx 7 rfl, box_cellD hxx 8 rfl, box_cellD hxx 9 rfl, box_cellD hxx 10 rfl⟩))
  have AL := Lib.hid (fun (Wx : World) (hx : Below wb.heap.size wb Wx) => hbw.trans (hx.mono hbw.size))
  have TB := Lib.hid (fun (Wx : World) (hx : Below wb.heap.size wb Wx) => (ht.below hbw).below hx)
  have C1 := Lib.hid (fun (Wx : World) (hx : Below wb.heap.size wb Wx) => rnumW n.parent o1.lo Wx (TB.out Wx hx))
  have C2 := Lib.hid (fun (Wx : World) (hx : Below wb.heap.size wb Wx) => rnumW n.alpha o2.lo Wx (TB.out Wx hx))
  have C3 := Lib.hid (fun (Wx : World) (hx : Below wb.heap.size wb Wx) => rnumW n.width o3.lo Wx (TB.out Wx hx))
  have CS1 := Lib.hid (fun (Wx : World) (hx : Below wb.heap.size wb Wx) => rslotTextW n.test.l o5.lo Wx (TB.out Wx hx))
  have CS2 := Lib.hid (fun (Wx : World) (hx : Below wb.heap.size wb Wx) => rslotTextW n.test.r o6.lo Wx (TB.out Wx hx))
  have m1 := slotT_len o5.lo
  have m2 := slotT_len o6.lo
  have m3 := opT_len n.test.op
  have u1 : (underT n).length ≤ 27 := by have := num_len o1.lo; simp only [underT, List.length_append, List.length_cons, List.length_nil]; omega
  have u2 : (widthT n).length ≤ 27 := by have := num_len o3.lo; simp only [widthT, List.length_append, List.length_cons, List.length_nil]; omega
  have l1 := num_len o1.lo
  have l2 := num_len o2.lo
  have l3 := num_len o3.lo
  rw [← bs_size] at l1 l2 l3 m1 m2 m3 u1 u2
  have HK := Lib.hid hk
  have LOK := Lib.hid lok
  have MOK := Lib.hid mok
  have BR := Lib.hid (Below.refl wb.heap.size wb)
  have s1 : ¬ 9223372036854775807 < 7 + (bs (num n.parent)).size := by omega
  have s2 : ¬ 9223372036854775807 < 7 + (bs (num n.width)).size := by omega
  clear hb0 hbw h ht lok mok hk
  go_enter Tryd.func33, Tryd.ntmps33
  go_upto_region 1 with fail
  rw [← hwb]
  clear hwb
  obtain ⟨c0, c1, c2, c3, c4, c5, c6, c7, c8, c9, c10⟩ := FC.out wb BR.out
  go_wp2_with fail
  refine (C1.out _ BR.out).mono ?_
  rintro e w1 ⟨rfl, hb1⟩
  have B1 := Lib.hid (BR.out.trans (hb1.mono BR.out.size))
  clear hb1 c0 c1 c2 c3 c4 c5 c6 c7 c8 c9 c10 BR
  obtain ⟨c0, c1, c2, c3, c4, c5, c6, c7, c8, c9, c10⟩ := FC.out w1 B1.out
  go_wp2_with fail
  refine (C3.out _ B1.out).mono ?_
  rintro e w2 ⟨rfl, hb2⟩
  have B2 := Lib.hid (B1.out.trans (hb2.mono B1.out.size))
  clear hb2 c0 c1 c2 c3 c4 c5 c6 c7 c8 c9 c10 B1 C1 C3
  obtain ⟨c0, c1, c2, c3, c4, c5, c6, c7, c8, c9, c10⟩ := FC.out w2 B2.out
  go_upto_region 3 with fail
  rw [under_bs, width_bs]
  clear s1 s2
  have s3 : ¬ 9223372036854775807 < 5 + (bs (num n.alpha)).size := by omega
  have s4 : ¬ 9223372036854775807 < 5 + (bs (num n.alpha)).size + (bs (underT n)).size := by omega
  go_wp2_with fail
  refine (C2.out _ B2.out).mono ?_
  rintro e w3 ⟨rfl, hb3⟩
  have B3 := Lib.hid (B2.out.trans (hb3.mono B2.out.size))
  clear hb3 c0 c1 c2 c3 c4 c5 c6 c7 c8 c9 c10
  obtain ⟨c0, c1, c2, c3, c4, c5, c6, c7, c8, c9, c10⟩ := FC.out w3 B3.out
  have s5 : ¬ 9223372036854775807 < 4 + (bs (num n.alpha)).size := by omega
  have s6 : ¬ 9223372036854775807 < 4 + (bs (num n.alpha)).size + (bs (underT n)).size := by omega
  go_wp2_with fail
  refine (C2.out _ B3.out).mono ?_
  rintro e w4 ⟨rfl, hb4⟩
  have BX := Lib.hid (B3.out.trans (hb4.mono B3.out.size))
  clear hb4 c0 c1 c2 c3 c4 c5 c6 c7 c8 c9 c10
  obtain ⟨c0, c1, c2, c3, c4, c5, c6, c7, c8, c9, c10⟩ := FC.out w4 BX.out
  have hheq : (bs ([110, 101, 103, 32] ++ num n.alpha ++ underT n)) = bs (headT n) := by unfold headT; rw [HK.out]; rfl
  have HB0 : (({ data := #[110, 101, 103, 32] } : ByteArray) ++ bs (num n.alpha) ++ bs (underT n)) = bs ([110, 101, 103, 32] ++ num n.alpha ++ underT n) := by rw [show ({ data := #[110, 101, 103, 32] } : ByteArray) = bs [110, 101, 103, 32] from rfl, bs_app, bs_app]
  obtain ⟨hT, hhT⟩ : ∃ hT, headT n = hT := ⟨_, rfl⟩
  have HHT := Lib.hid hhT
  have hhl : hT.length ≤ 52 := by rw [← hhT]; unfold headT; rw [HK.out]; simp only [show ¬ ((3 : Int) = 1) by decide, if_false, if_true]; have := bs_size (num n.alpha); have := bs_size (underT n); simp only [List.length_append, List.length_cons, List.length_nil]; omega
  rw [← bs_size] at hhl
  have HBQ := Lib.hid (HB0.trans (hheq.trans (congrArg bs hhT)))
  clear hhT s3 s4 HB0 hheq
  go_wp2
  rw [HBQ.out]
  clear s5 s6 c0 c1 c2 c3 c4 c5 c6 c7 c8 c9 c10
  go_loopw [6, 7] (fun sv iv wr => ∃ k : Nat, iv = .int .i64 k ∧ k ≤ n.links.length ∧ sv = .string (bs (Lib.join (linkPs n.links k) sepT)) ∧ Below wb.heap.size wb wr) (fun _ iv _ => n.links.length - (intOf iv).toNat)
  case atStart => exact ⟨0, rfl, Nat.zero_le _, rfl, BX.out⟩
  case round =>
    obtain ⟨k, rfl, hk, rfl, hb⟩ := hrel
    obtain ⟨c0, c1, c2, c3, c4, c5, c6, c7, c8, c9, c10⟩ := FC.out wr hb
    have hjl := linkPs_k n.links h8.1 LOK.out hk
    by_cases hkn : k < n.links.length
    · obtain ⟨x, hx⟩ : ∃ x, n.links[k]? = some x := ⟨_, List.getElem?_eq_getElem hkn⟩
      have hxo := LOK.out x (List.mem_of_getElem? hx)
      have hmr := linkPs_more hx
      obtain ⟨b, off, rfl, -, hbl, cs, ⟨rfl, -⟩, hc⟩ := (HLK.out.keep (Kp.of_below (AL.out _ hb))).at hx
      obtain ⟨J, hJ⟩ : ∃ J, Lib.join (linkPs n.links k) sepT = J := ⟨_, rfl⟩
      rw [hJ] at hmr hjl ⊢
      have n1 := num_len hxo.1.lo
      have n2 := num_len hxo.2.lo
      have ll : (linkT x).length ≤ 42 := by simp only [linkT, List.length_append, List.length_cons, List.length_nil]; omega
      have MO := Lib.hid (fun Wx => moreW J (linkT x) (by omega) (by omega) Wx)
      have elk : linkT x = num x.1 ++ ([61, 118] ++ num x.2) := rfl
      rw [elk, ← bs_app, ← bs_app, ← ByteArray.append_assoc, show bs [61, 118] = ({ data := #[61, 118] } : ByteArray) from rfl] at MO
      have HE := Lib.hid elk
      rw [← bs_size] at n1 n2
      have z1 : ¬ 9223372036854775807 < (bs (num x.1)).size + 2 := by omega
      have z2 : ¬ 9223372036854775807 < (bs (num x.1)).size + 2 + (bs (num x.2)).size := by omega
      obtain ⟨S, hSe⟩ : ∃ S, S = fun Wx => Below wr.heap.size wr Wx := ⟨_, rfl⟩
      have bn := fun (p : Pt S) => (congrFun hSe p.val).mp p.property
      have bb := fun (p : Pt S) => hb.trans ((bn p).mono hb.size)
      have q3 := fun (p : Pt S) => (FC.out _ (bb p)).2.2.2.1
      have d0 := fun (p : Pt S) => ((bn p).cell (p := ⟨b, off + k * 2 + 0, none⟩) hbl).trans (hc 0 _ rfl)
      have d1 := fun (p : Pt S) => ((bn p).cell (p := ⟨b, off + k * 2 + 1, none⟩) hbl).trans (hc 1 _ rfl)
      simp only [Nat.add_zero] at d0
      have NE : Nonempty (Pt S) := ⟨⟨wr, (congrFun hSe wr).mpr (Below.refl _ _)⟩⟩
      have HDD := Lib.hid ((congrFun hSe wr.drew).mpr (Below.refl _ _).drew)
      have SE := Lib.hid hSe
      have KPP := Lib.hid bn
      have R1 := Lib.hid (fun (Wx : World) (hx : Below wr.heap.size wr Wx) => rnumW x.1 hxo.1.lo Wx (TB.out Wx (hb.trans (hx.mono hb.size))))
      have R2 := Lib.hid (fun (Wx : World) (hx : Below wr.heap.size wr Wx) => rnumW x.2 hxo.2.lo Wx (TB.out Wx (hb.trans (hx.mono hb.size))))
      have MR := Lib.hid hmr
      have HB := Lib.hid hb
      have HK := Lib.hid hkn
      have e1 : (0 : Int) ≤ (k : Int) := by omega
      have e2 : (k : Int) < (n.links.length : Int) := by omega
      clear hx hc hb hkn hmr hJ hxo bn bb hSe elk ll hjl
      go_wp2_with fail
      refine wp_region_class (S := S) HDD.out (by kernel_rfl) (by kernel_rfl) ?_
      repeat (go_big_quiet_step ((first
        | (go_at_call 31; with_reducible refine (R1.out _ (KPP.out _)).mono ?_; rintro e w' ⟨rfl, hbel⟩; exact ⟨rfl, ⟨w', (congrFun SE.out w').mpr ((KPP.out _).trans (hbel.mono (KPP.out _).size))⟩, rfl⟩)
        | (go_at_call 31; with_reducible refine (R2.out _ (KPP.out _)).mono ?_; rintro e w' ⟨rfl, hbel⟩; exact ⟨rfl, ⟨w', (congrFun SE.out w').mpr ((KPP.out _).trans (hbel.mono (KPP.out _).size))⟩, rfl⟩)
        | (go_at_call 56; with_reducible refine (MO.out _).mono ?_; rintro e w' ⟨rfl, hbel⟩; exact ⟨rfl, ⟨w', (congrFun SE.out w').mpr ((KPP.out _).trans (hbel.mono (KPP.out _).size))⟩, rfl⟩))))
      refine wpQuiet_nil ?_
      rintro wq ⟨⟨_, hW⟩, rfl⟩
      have HF := Lib.hid (HB.out.trans (((congrFun SE.out wq).mp hW).mono HB.out.size))
      clear q3 d0 d1 NE hW c0 c1 c2 c3 c4 c5 c6 c7 c8 c9 c10
      go_wp2
      exact ⟨⟨k + 1, by go_num, HK.out, by rw [MR.out]; rfl, HF.out⟩, by simp [intOf]; have := HK.out; omega⟩
    · obtain rfl : k = n.links.length := by omega
      obtain ⟨J, hJ⟩ : ∃ J, Lib.join (linkPs n.links n.links.length) sepT = J := ⟨_, rfl⟩
      have hnil := links_nil (xs := n.links)
      rw [hJ] at hjl hnil ⊢
      have HLT := Lib.hid (show linksT n = if J = [] then [] else [32, 108, 105, 110, 107, 32] ++ J by
        unfold linksT
        rw [hJ]
        by_cases h : J = []
        · rw [if_pos h, if_pos (hnil.1 h)]
        · rw [if_neg h, if_neg (fun q => h (hnil.2 q))])
      obtain ⟨L2, hL2⟩ : ∃ L2, linksT n = L2 := ⟨_, rfl⟩
      have hl2l : L2.length ≤ 358 := by
        rw [← hL2, HLT.out]
        split
        · simp
        · simp only [List.length_append, List.length_cons, List.length_nil]; omega
      rw [hL2] at HLT
      have HL2 := Lib.hid hL2
      have HBL := Lib.hid hb
      clear hb hkn hJ hnil hL2
      rw [← bs_size] at hjl hl2l
      have y1 : ¬ 9223372036854775807 < (bs hT).size + 6 := by omega
      have y2 : ¬ 9223372036854775807 < (bs hT).size + 6 + (bs J).size := by omega
      by_cases hJ0 : J = []
      · have he := empty_true hJ0
        have HEQ := Lib.hid (show bs hT = bs (hT ++ L2) by rw [HLT.out, if_pos hJ0, List.append_nil])
        clear hJ0
        go_wp2
        rw [HEQ.out]
        clear he
        clear c0 c1 c2 c3 c4 c5 c6 c7 c8 c9 c10 y1 y2
        have hol : (hT ++ L2).length ≤ 410 := by have h1 := bs_size hT; have h2 := bs_size L2; rw [List.length_append]; omega
        rw [← bs_size] at hol
        obtain ⟨O, hO⟩ : ∃ O, hT ++ L2 = O := ⟨_, rfl⟩
        rw [hO] at hol ⊢
        have HO := Lib.hid hO
        clear hO
        obtain ⟨wo, rfl⟩ : ∃ wo : World, wo = wr := ⟨_, rfl⟩
        go_loopw [8, 9] (fun sv iv wr => ∃ k : Nat, iv = .int .i64 k ∧ k ≤ n.new.length ∧ sv = .string (bs (Lib.join (placePs n.new k) sepT)) ∧ Below wb.heap.size wb wr) (fun _ iv _ => n.new.length - (intOf iv).toNat)
        case atStart => exact ⟨0, rfl, Nat.zero_le _, rfl, HBL.out⟩
        case round =>
          obtain ⟨k, rfl, hk, rfl, hb⟩ := hrel
          clear HBL
          obtain ⟨c0, c1, c2, c3, c4, c5, c6, c7, c8, c9, c10⟩ := FC.out wr hb
          have hjl := placePs_k n.new h8.2 MOK.out hk
          by_cases hkn : k < n.new.length
          · obtain ⟨x, hx⟩ : ∃ x, n.new[k]? = some x := ⟨_, List.getElem?_eq_getElem hkn⟩
            have hxo := MOK.out x (List.mem_of_getElem? hx)
            have hmr := placePs_more hx
            obtain ⟨b, off, rfl, -, hbl, cs, ⟨rfl, -⟩, hc⟩ := (HNW.out.keep (Kp.of_below (AL.out _ hb))).at hx
            have d0 := hc 0 _ rfl
            simp only [Nat.add_zero, Nat.mul_one] at d0
            obtain ⟨J, hJ⟩ : ∃ J, Lib.join (placePs n.new k) sepT = J := ⟨_, rfl⟩
            rw [hJ] at hmr hjl ⊢
            have n1 := num_len hxo.lo
            have MO := Lib.hid (fun Wx => moreW J (num x) (by omega) (by omega) Wx)
            have RN := Lib.hid (rnumW x hxo.lo wr (TB.out wr hb))
            have MR := Lib.hid hmr
            have HB := Lib.hid hb
            have HK := Lib.hid hkn
            have e1 : (0 : Int) ≤ (k : Int) := by omega
            have e2 : (k : Int) < (n.new.length : Int) := by omega
            clear hx hc hb hkn hmr hJ hxo hjl
            go_wp2_with fail
            refine RN.out.mono ?_
            rintro e w5 ⟨rfl, hb5⟩
            have HB5 := Lib.hid (HB.out.trans (hb5.mono HB.out.size))
            clear hb5 RN
            go_wp2_with fail
            refine (MO.out _).mono ?_
            rintro e w6 ⟨rfl, hb6⟩
            have HB6 := Lib.hid (HB5.out.trans (hb6.mono HB5.out.size))
            clear hb6 MO
            go_wp2
            exact ⟨⟨k + 1, by go_num, HK.out, by rw [MR.out], HB6.out⟩, by simp [intOf]; have := HK.out; omega⟩
          · obtain rfl : k = n.new.length := by omega
            obtain ⟨J, hJ⟩ : ∃ J, Lib.join (placePs n.new n.new.length) sepT = J := ⟨_, rfl⟩
            have hnil := places_nil (xs := n.new)
            rw [hJ] at hjl hnil ⊢
            have HNT := Lib.hid (show newT n = if J = [] then [] else [32, 110, 101, 119, 32] ++ J by
              unfold newT
              rw [hJ]
              by_cases h : J = []
              · rw [if_pos h, if_pos (hnil.1 h)]
              · rw [if_neg h, if_neg (fun q => h (hnil.2 q))])
            have HBE := Lib.hid (AL.out _ hb)
            clear hb hkn hJ hnil
            rw [← bs_size] at hjl
            have y1 : ¬ 9223372036854775807 < (bs O).size + 5 := by omega
            have y2 : ¬ 9223372036854775807 < (bs O).size + 5 + (bs J).size := by omega
            have y3 : ¬ 9223372036854775807 < (bs O).size + 5 + (bs J).size + (bs (widthT n)).size := by omega
            have y4 : ¬ 9223372036854775807 < (bs O).size + (bs (widthT n)).size := by omega
            have HNE := Lib.hid (show nodeT n = O ++ newT n ++ widthT n by
              unfold nodeT
              rw [HK.out, if_neg (by decide), HHT.out, HL2.out, HO.out])
            by_cases hJ0 : J = []
            · have he := empty_true hJ0
              have HEQ := Lib.hid (show nodeT n = O ++ widthT n by rw [HNE.out, HNT.out, if_pos hJ0, List.append_nil])
              clear hJ0
              go_wp2
              go_ret
              refine ⟨?_, HBE.out⟩
              rw [HEQ.out, ← bs_app]
              rfl
            · have he := empty_false hJ0
              have HEQ := Lib.hid (show nodeT n = O ++ [32, 110, 101, 119, 32] ++ J ++ widthT n by rw [HNE.out, HNT.out, if_neg hJ0]; simp only [List.append_assoc])
              clear hJ0
              go_wp2
              go_ret
              refine ⟨?_, HBE.out⟩
              rw [HEQ.out]
              simp only [← bs_app]
              rfl
      · have he := empty_false hJ0
        have HEQ := Lib.hid (show bs hT ++ { data := #[32, 108, 105, 110, 107, 32] } ++ bs J = bs (hT ++ L2) by rw [HLT.out, if_neg hJ0, show ({ data := #[32, 108, 105, 110, 107, 32] } : ByteArray) = bs [32, 108, 105, 110, 107, 32] from rfl]; simp only [bs_app, List.append_assoc])
        clear hJ0
        go_wp2
        rw [HEQ.out]
        clear he
        clear c0 c1 c2 c3 c4 c5 c6 c7 c8 c9 c10 y1 y2
        have hol : (hT ++ L2).length ≤ 410 := by have h1 := bs_size hT; have h2 := bs_size L2; rw [List.length_append]; omega
        rw [← bs_size] at hol
        obtain ⟨O, hO⟩ : ∃ O, hT ++ L2 = O := ⟨_, rfl⟩
        rw [hO] at hol ⊢
        have HO := Lib.hid hO
        clear hO
        obtain ⟨wo, rfl⟩ : ∃ wo : World, wo = wr := ⟨_, rfl⟩
        go_loopw [8, 9] (fun sv iv wr => ∃ k : Nat, iv = .int .i64 k ∧ k ≤ n.new.length ∧ sv = .string (bs (Lib.join (placePs n.new k) sepT)) ∧ Below wb.heap.size wb wr) (fun _ iv _ => n.new.length - (intOf iv).toNat)
        case atStart => exact ⟨0, rfl, Nat.zero_le _, rfl, HBL.out⟩
        case round =>
          obtain ⟨k, rfl, hk, rfl, hb⟩ := hrel
          clear HBL
          obtain ⟨c0, c1, c2, c3, c4, c5, c6, c7, c8, c9, c10⟩ := FC.out wr hb
          have hjl := placePs_k n.new h8.2 MOK.out hk
          by_cases hkn : k < n.new.length
          · obtain ⟨x, hx⟩ : ∃ x, n.new[k]? = some x := ⟨_, List.getElem?_eq_getElem hkn⟩
            have hxo := MOK.out x (List.mem_of_getElem? hx)
            have hmr := placePs_more hx
            obtain ⟨b, off, rfl, -, hbl, cs, ⟨rfl, -⟩, hc⟩ := (HNW.out.keep (Kp.of_below (AL.out _ hb))).at hx
            have d0 := hc 0 _ rfl
            simp only [Nat.add_zero, Nat.mul_one] at d0
            obtain ⟨J, hJ⟩ : ∃ J, Lib.join (placePs n.new k) sepT = J := ⟨_, rfl⟩
            rw [hJ] at hmr hjl ⊢
            have n1 := num_len hxo.lo
            have MO := Lib.hid (fun Wx => moreW J (num x) (by omega) (by omega) Wx)
            have RN := Lib.hid (rnumW x hxo.lo wr (TB.out wr hb))
            have MR := Lib.hid hmr
            have HB := Lib.hid hb
            have HK := Lib.hid hkn
            have e1 : (0 : Int) ≤ (k : Int) := by omega
            have e2 : (k : Int) < (n.new.length : Int) := by omega
            clear hx hc hb hkn hmr hJ hxo hjl
            go_wp2_with fail
            refine RN.out.mono ?_
            rintro e w5 ⟨rfl, hb5⟩
            have HB5 := Lib.hid (HB.out.trans (hb5.mono HB.out.size))
            clear hb5 RN
            go_wp2_with fail
            refine (MO.out _).mono ?_
            rintro e w6 ⟨rfl, hb6⟩
            have HB6 := Lib.hid (HB5.out.trans (hb6.mono HB5.out.size))
            clear hb6 MO
            go_wp2
            exact ⟨⟨k + 1, by go_num, HK.out, by rw [MR.out], HB6.out⟩, by simp [intOf]; have := HK.out; omega⟩
          · obtain rfl : k = n.new.length := by omega
            obtain ⟨J, hJ⟩ : ∃ J, Lib.join (placePs n.new n.new.length) sepT = J := ⟨_, rfl⟩
            have hnil := places_nil (xs := n.new)
            rw [hJ] at hjl hnil ⊢
            have HNT := Lib.hid (show newT n = if J = [] then [] else [32, 110, 101, 119, 32] ++ J by
              unfold newT
              rw [hJ]
              by_cases h : J = []
              · rw [if_pos h, if_pos (hnil.1 h)]
              · rw [if_neg h, if_neg (fun q => h (hnil.2 q))])
            have HBE := Lib.hid (AL.out _ hb)
            clear hb hkn hJ hnil
            rw [← bs_size] at hjl
            have y1 : ¬ 9223372036854775807 < (bs O).size + 5 := by omega
            have y2 : ¬ 9223372036854775807 < (bs O).size + 5 + (bs J).size := by omega
            have y3 : ¬ 9223372036854775807 < (bs O).size + 5 + (bs J).size + (bs (widthT n)).size := by omega
            have y4 : ¬ 9223372036854775807 < (bs O).size + (bs (widthT n)).size := by omega
            have HNE := Lib.hid (show nodeT n = O ++ newT n ++ widthT n by
              unfold nodeT
              rw [HK.out, if_neg (by decide), HHT.out, HL2.out, HO.out])
            by_cases hJ0 : J = []
            · have he := empty_true hJ0
              have HEQ := Lib.hid (show nodeT n = O ++ widthT n by rw [HNE.out, HNT.out, if_pos hJ0, List.append_nil])
              clear hJ0
              go_wp2
              go_ret
              refine ⟨?_, HBE.out⟩
              rw [HEQ.out, ← bs_app]
              rfl
            · have he := empty_false hJ0
              have HEQ := Lib.hid (show nodeT n = O ++ [32, 110, 101, 119, 32] ++ J ++ widthT n by rw [HNE.out, HNT.out, if_neg hJ0]; simp only [List.append_assoc])
              clear hJ0
              go_wp2
              go_ret
              refine ⟨?_, HBE.out⟩
              rw [HEQ.out]
              simp only [← bs_app]
              rfl
theorem rnodeTextW {F : Nat → Prop} (n : Nd) (lv mv : Value) (w : World) (h : NdT F w n lv mv) (h8 : n.links.length ≤ 8 ∧ n.new.length ≤ 8) (hk : n.kind = 1 ∨ n.kind = 3 ∨ (n.kind = 2 ∧ n.links = [] ∧ n.new = [])) (ht : Tab w) :
    Calls Tryd.prog 33 #[.agg #[.int .i64 n.kind, .int .i64 n.parent, .int .i64 n.alpha, lv, mv, .int .i64 n.test.op, .bool n.test.l.v, .int .i64 n.test.l.n, .bool n.test.r.v, .int .i64 n.test.r.n, .int .i64 n.width]] w fun e w' => e = .returned (.string (bs (nodeT n))) ∧ Below w.heap.size w w' := by
  rcases hk with hk | hk | ⟨hk, hE⟩
  · exact rnodeText1 n lv mv w h h8 hk ht
  · exact rnodeText3 n lv mv w h h8 hk ht
  · exact rnodeText2 n lv mv w h h8 hk hE ht
end Go.Proofs.YtonkbjdeaneicaaDoor
