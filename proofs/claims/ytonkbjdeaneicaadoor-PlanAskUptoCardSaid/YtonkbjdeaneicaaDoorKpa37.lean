/- plan.Text: the walk. Printed by wip/bin/txt.py. `full` of the law package: lists of a plan that are the caller's own; what the marks make of them. -/
import Derived.Test.YtonkbjdeaneicaaDoorKpa04
import Derived.Test.YtonkbjdeaneicaaDoorKpa09
import Derived.Test.YtonkbjdeaneicaaDoorKpa33
import Derived.Test.YtonkbjdeaneicaaDoorKpa36
import Derived.Deep.RegionHeld3
namespace Go.Proofs.YtonkbjdeaneicaaDoor
open Go Go.RowKit Pln Classical

/-- The state of Text: the argument's box, the builder at g. -/
structure TxS (W : World) (pl : Array Value) (g : Nat) (wr : World) (v : Value) (l : List UInt8) : Prop where
  bw : Bw wr (g + 1) g v l
  below : Below (W.heap.size + 1) (W.alloc (.cells pl 26)) wr
  hg : W.heap.size + 1 ≤ g
section
variable {W wr wr' : World} {pl : Array Value} {g : Nat} {v v' : Value} {l l' : List UInt8}
theorem TxS.step (h : TxS W pl g wr v l) (hb : Below wr.heap.size wr wr') : TxS W pl g wr' v l :=
  ⟨h.bw.below hb, h.below.trans (hb.mono (by have := h.below.size; simpa using this)), h.hg⟩
theorem TxS.next (h : TxS W pl g wr v l) (hw : Bw wr' (g + 1) g v' l') (ht : Turns (g :: v.ownBlock.toList) wr wr') : TxS W pl g wr' v' l' :=
  ⟨hw, h.below.trans (ht.below (by have := h.below.size; simpa using this) (fun x hx => by
    have := h.hg
    rcases List.mem_cons.1 hx with rfl | hx
    · simpa using this
    · have := (h.bw.ne (g := x) (by simpa using hx)).1
      simp
      omega)), h.hg⟩
theorem TxS.cell (h : TxS W pl g wr v l) (j : Nat) {u : Value} (hu : pl.toList[j]? = some u) : wr.cell? ⟨W.heap.size, j, none⟩ = some u := box_cellD h.below j hu
theorem TxS.size (h : TxS W pl g wr v l) : g + 1 ≤ wr.heap.size := h.bw.lt
theorem TxS.w (h : TxS W pl g wr v l) : Below W.heap.size W wr := ((Below.refl _ _).alloc (Nat.le_refl _) _).trans (h.below.mono (by omega))
end
/-- What lies in a block of the round's own stays where text is written. -/
theorem bw_keeps {w w' : World} {H b c : Nat} {v : Value} {l : List UInt8} (h : Bw w H b v l) (hc : w.heap.size ≤ c) {wc : World} (hb : Below w.heap.size w wc) (hcl : c < wc.heap.size) (ht : Turns (b :: v.ownBlock.toList) wc w') (j : Nat) : w'.cell? ⟨c, j, none⟩ = wc.cell? ⟨c, j, none⟩ :=
  ht.cell hcl (fun hx => by
    rcases List.mem_cons.1 hx with h1 | h1
    · have := h.lt
      omega
    · have := (h.ne (g := c) (by simpa using h1)).2
      omega)

theorem box_belowD {w wr : World} {o : Obj} (hb : Below (w.heap.size + 1) (w.alloc o) wr) : Below w.heap.size w wr :=
  ((Below.refl _ _).alloc (Nat.le_refl _) o).trans (hb.mono (by omega))
theorem own_down {w : World} {H H' n : Nat} {e : TypeId} {v : Value} {xs : List Value} (h : w.ownsRow H e 1 v n xs) (hh : H' ≤ H) : w.ownsRow H' e 1 v n xs := by
  refine ⟨h.1, ?_⟩
  rcases h.2 with h2 | ⟨g, cap, cur, h1, h2, h3⟩
  · exact .inl h2
  · exact .inr ⟨g, cap, cur, h1, Nat.le_trans hh h2, h3⟩
theorem isBuilder_of {w : World} {g : Nat} {v : Value} {l : List UInt8} (h : Bw w (g + 1) g v l) : Lib.IsBuilder 61 5 g g (Lib.byteCells l) w := by
  have ho := own_down h.own (Nat.le_succ g)
  rcases h.blk with hb | hb
  · exact .inl ⟨Nat.le_refl _, v, hb, by rw [Lib.byteCells_length]; exact ho, fun e => by have := (h.ne e).1; omega⟩
  · exact .inr ⟨Nat.le_refl _, v, hb, by rw [Lib.byteCells_length]; exact ho, fun e => by have := (h.ne e).1; omega⟩

set_option maxRecDepth 200000 in
set_option maxHeartbeats 16000000 in
theorem textW {F : Nat → Prop} (W : World) (av nv ev : Value) (al : List Shp) (ns : List Nd) (es : List Int) (h : RPl F W av nv ev al ns es) (hS : al.length ≤ 1000000000 ∧ ns.length ≤ 1000000000 ∧ es.length ≤ 1000000000) (hml : ∀ n ∈ ns, n.new.length ≤ 1000000000) (ht : Tab W) (ho : Ops W) :
    Calls Tryd.prog 9 #[.agg #[av, nv, ev]] W fun e W' => e = .returned (.string (bs (textF al ns es))) ∧ Below W.heap.size W W' := by
  obtain ⟨Aa, ca, rfl⟩ := h.al.form
  obtain ⟨An, cn, rfl⟩ := h.ns.form
  obtain ⟨Ae, ce, rfl⟩ := h.en.form
  have HP := Lib.hid h
  have SM := Lib.hid hS
  have TB := Lib.hid (fun (Wx : World) (hx : Below W.heap.size W Wx) => ht.below hx)
  have OB := Lib.hid (fun (Wx : World) (hx : Below W.heap.size W Wx) => ho.below hx)
  obtain ⟨R, hR⟩ : ∃ R, textF al ns es = R := ⟨_, rfl⟩
  rw [hR]
  obtain ⟨w0, hw0⟩ : ∃ w0, w0 = W.alloc (.cells #[.slice Aa al.length ca, .slice An ns.length cn, .slice Ae es.length ce] 26) := ⟨_, rfl⟩
  have hb0 : Below W.heap.size W w0 := by rw [hw0]; exact (Below.refl _ _).alloc (Nat.le_refl _) _
  have hx0 : Below (W.heap.size + 1) (W.alloc (.cells #[.slice Aa al.length ca, .slice An ns.length cn, .slice Ae es.length ce] 26)) w0 := by rw [hw0]; exact Below.refl _ _
  have CK := Lib.hid (checkW w0 (.slice Aa al.length ca) (.slice An ns.length cn) (.slice Ae es.length ce) al ns es (h.below hb0).al (h.below hb0).ns (h.below hb0).en hS.2.1 hml)
  have x0 := box_cellD hx0 0 rfl
  have x1 := box_cellD hx0 1 rfl
  have x2 := box_cellD hx0 2 rfl
  have HX0 := Lib.hid hx0
  clear h hS hml ht ho hb0 hx0
  go_enter Tryd.func9, Tryd.ntmps9
  go_upto_region 1 with fail
  rw [← hw0]
  by_cases hck : checkP al ns es
  rotate_left
  · have HR := Lib.hid (show R = [] by rw [← hR]; unfold textF; rw [if_neg hck])
    rw [if_neg hck] at CK
    clear hR hw0
    go_wp2_with fail
    refine CK.out.mono ?_
    rintro e w1 ⟨rfl, hb1⟩
    have HB1 := Lib.hid ((box_belowD HX0.out).trans (hb1.mono (box_belowD HX0.out).size))
    clear hb1
    go_wp2
    go_ret
    exact ⟨by rw [HR.out]; rfl, HB1.out⟩
  have HR := Lib.hid (show R = allT al ns es by rw [← hR]; unfold textF; rw [if_pos hck])
  have HCK := Lib.hid hck
  rw [if_pos hck] at CK
  clear hR hw0
  go_wp2_with fail
  refine CK.out.mono ?_
  rintro e w1 ⟨rfl, hb1⟩
  obtain ⟨g, hg⟩ : ∃ g, g = w1.heap.size := ⟨_, rfl⟩
  obtain ⟨wo, hwo⟩ : ∃ wo, wo = w1.alloc (.cells #[.pointer none, .slice none 0 0] 61) := ⟨_, rfl⟩
  have st0 : TxS W #[.slice Aa al.length ca, .slice An ns.length cn, .slice Ae es.length ce] g wo (.slice none 0 0) [] := by
    have hbx : Below (W.heap.size + 1) _ w1 := HX0.out.trans (hb1.mono (by have := HX0.out.size; simpa using this))
    refine ⟨?_, ?_, ?_⟩
    · rw [hwo, hg]; exact bw_new w1
    · rw [hwo]; exact hbx.alloc (by have := hbx.size; simpa using this) _
    · have := hbx.size
      rw [hg]
      simpa using this
  have ST0 := Lib.hid st0
  clear hb1 x0 x1 x2 hck CK st0
  go_upto_region 4 with fail
  rw [← hwo, ← hg]
  clear hwo hg
  have x0 := ST0.out.cell 0 rfl
  go_wp2
  clear x0
  go_loopw [16] (fun i wr => ∃ (k : Nat) (v : Value) (l : List UInt8), i = .int .i64 k ∧ k ≤ al.length ∧ l = linesT alphaL al k ∧ l.length ≤ k * 1000 ∧ TxS W #[.slice Aa al.length ca, .slice An ns.length cn, .slice Ae es.length ce] g wr v l) (fun i _ => al.length - (intOf i).toNat)
  case atStart => exact ⟨0, _, _, rfl, Nat.zero_le _, rfl, Nat.zero_le _, ST0.out⟩
  case round =>
    obtain ⟨k, v, l, rfl, hk, hl, hll, hst⟩ := hrel
    by_cases hkn : k < al.length
    · obtain ⟨s, hs⟩ : ∃ s, al[k]? = some s := ⟨_, List.getElem?_eq_getElem hkn⟩
      obtain ⟨b, off, rfl, -, hbl, cs, hE, hc⟩ := (HP.out.below hst.w).al.at hs
      have hsl : s.cells.length ≤ 8 := shape_len8 HCK.out.1 (List.mem_of_getElem? hs)
      have hsm : s.cells.length ≤ 1048576 := by omega
      have hkk : k ≤ 1000000000 := by have := SM.out.1; omega
      obtain ⟨ll1, ll2⟩ := alphaL_len (i := k) hE hsl (by omega)
      obtain ⟨sv, rfl, sok, hcs⟩ := hE
      obtain ⟨As, cc, rfl⟩ := hcs.form
      have d0 := hc 0 _ rfl
      have d1 := hc 1 _ rfl
      simp only [Nat.add_zero] at d0
      have e1 : (0 : Int) ≤ (k : Int) := by omega
      have e2 : (k : Int) < (al.length : Int) := by omega
      obtain ⟨wb, hwb⟩ : ∃ wb, wb = wr.alloc (.cells #[.int .i64 s.pred, .slice As s.cells.length cc] 54) := ⟨_, rfl⟩
      have hbw : Below wr.heap.size wr wb := by rw [hwb]; exact (Below.refl _ _).alloc (Nat.le_refl _) _
      have hrow : wb.heap[wr.heap.size]? = some (.cells #[.int .i64 s.pred, .slice As s.cells.length cc] 54 (0, 0)) := by rw [hwb]; exact heap_alloc_new wr _
      have hlr := lt_of_heap hrow
      have KS := Lib.hid (fun (Wx : World) (hx : Below wb.heap.size wb Wx) => (show Wx.cell? ⟨wr.heap.size, 0, none⟩ = some (.int .i64 s.pred) ∧ Wx.cell? ⟨wr.heap.size, 1, none⟩ = some (.slice As s.cells.length cc) from
        ⟨(cell_of_row _ _ 0 _ _ _ ((hx.block _ hlr).trans hrow)).trans rfl, (cell_of_row _ _ 1 _ _ _ ((hx.block _ hlr).trans hrow)).trans rfl⟩))
      have T1 := Lib.hid (fun (Wx : World) (hx : Below wb.heap.size wb Wx) => (hst.w.trans (hbw.mono hst.w.size)).trans (hx.mono ((hst.w.trans (hbw.mono hst.w.size))).size))
      have C1 := Lib.hid (fun (Wx : World) (hx : Below wb.heap.size wb Wx) => itoaW (k : Int) (i64n (by omega)) Wx (TB.out Wx (T1.out Wx hx)))
      have C2 := Lib.hid (fun (Wx : World) (hx : Below wb.heap.size wb Wx) => itoaW s.pred sok.lo Wx (TB.out Wx (T1.out Wx hx)))
      have C3 := Lib.hid (fun (Wx : World) (hx : Below wb.heap.size wb Wx) => list_cellPW _ s.cells Wx (hcs.keep (Kp.of_below (hbw.trans (hx.mono hbw.size)))) hsm (TB.out Wx (T1.out Wx hx)))
      obtain ⟨CT, hCT⟩ : ∃ CT, Lib.join (cellPs s.cells s.cells.length) sepT = CT := ⟨_, rfl⟩
      rw [hCT] at C3 ll2
      have hstr : ((((((({ data := #[97, 108, 112, 104, 97, 32] } : ByteArray) ++ bs (num k)) ++ { data := #[32] }) ++ bs (num s.pred)) ++ { data := #[40] }) ++ bs CT) ++ { data := #[41, 10] }) = bs (alphaL k s) := by
        rw [← hCT, show ({ data := #[97, 108, 112, 104, 97, 32] } : ByteArray) = bs [97, 108, 112, 104, 97, 32] from rfl, show ({ data := #[32] } : ByteArray) = bs [32] from rfl, show ({ data := #[40] } : ByteArray) = bs [40] from rfl, show ({ data := #[41, 10] } : ByteArray) = bs [41, 10] from rfl]
        simp only [bs_app, alphaL, List.append_assoc]
      have hdat : (bs (alphaL k s)).data.toList = alphaL k s := by simp [bs]
      have hlim : l.length + (bs (alphaL k s)).size ≤ 130000000000000 := by rw [bs_size]; omega
      have WS := Lib.hid (fun (Wx : World) (hx : Below wb.heap.size wb Wx) => (by have := bw_write ((hst.bw.below hbw).below hx) (Nat.le_trans (Nat.le_trans hst.size hbw.size) hx.size) _ hlim; rw [hdat, ← hstr] at this; exact this :
        Calls Tryd.prog 23 #[.pointer (some ⟨g, 0, none⟩), .string ((((((({ data := #[97, 108, 112, 104, 97, 32] } : ByteArray) ++ bs (num k)) ++ { data := #[32] }) ++ bs (num s.pred)) ++ { data := #[40] }) ++ bs CT) ++ { data := #[41, 10] })] Wx fun e w' => e = .returned (.tuple #[.int .i64 ((((((({ data := #[97, 108, 112, 104, 97, 32] } : ByteArray) ++ bs (num k)) ++ { data := #[32] }) ++ bs (num s.pred)) ++ { data := #[40] }) ++ bs CT) ++ { data := #[41, 10] }).size, .nilIface]) ∧ ∃ v', Bw w' (g + 1) g v' (l ++ alphaL k s) ∧ Turns (g :: v.ownBlock.toList) Wx w'))
      have n1 := num_len (i64n (n := k) (by omega))
      have n2 := num_len sok.lo
      rw [← bs_size] at n1 n2 ll2
      have z1 : ¬ 9223372036854775807 < 6 + (bs (num k)).size := by omega
      have z2 : ¬ 9223372036854775807 < 6 + (bs (num k)).size + 1 := by omega
      have z3 : ¬ 9223372036854775807 < 6 + (bs (num k)).size + 1 + (bs (num s.pred)).size := by omega
      have z4 : ¬ 9223372036854775807 < 6 + (bs (num k)).size + 1 + (bs (num s.pred)).size + 1 := by omega
      have z5 : ¬ 9223372036854775807 < 6 + (bs (num k)).size + 1 + (bs (num s.pred)).size + 1 + (bs CT).size := by omega
      have z6 : ¬ 9223372036854775807 < 6 + (bs (num k)).size + 1 + (bs (num s.pred)).size + 1 + (bs CT).size + 2 := by omega
      have HB := Lib.hid ((Below.refl wb.heap.size wb).drew)
      have hS0 := KS.out _ HB.out
      have HX := Lib.hid hst
      have HBW := Lib.hid hbw
      have HK := Lib.hid hkn
      have HLE := Lib.hid (show l ++ alphaL k s = linesT alphaL al (k + 1) by rw [hl, linesT_succ hs])
      have HLL := Lib.hid (show (l ++ alphaL k s).length ≤ (k + 1) * 1000 by rw [List.length_append]; omega)
      have HLR := Lib.hid hlr
      clear hs hc hkn hst hl hll hstr hdat hlim hcs sok hCT hbw hrow hlr ll1 hsl hsm
      go_upto_region 7 with fail
      rw [← hwb]
      clear hwb d0 d1
      go_region_held3 (fun w' : World => w'.cell? ⟨wr.heap.size, 0, none⟩ = some (.int .i64 s.pred) ∧ w'.cell? ⟨wr.heap.size, 1, none⟩ = some (.slice As s.cells.length cc))
        (first | with_reducible exact hS0 | with_reducible exact KS.out _ HB.out | with_reducible exact KW.out)
        (first
          | (go_at_call 24; with_reducible refine (C1.out _ HB.out).mono ?_; rintro e w7 ⟨rfl, hb7⟩; have HB := Lib.hid (HB.out.trans (hb7.mono HB.out.size)); clear hb7)
          | (go_at_call 24; with_reducible refine (C2.out _ HB.out).mono ?_; rintro e w7 ⟨rfl, hb7⟩; have HB := Lib.hid (HB.out.trans (hb7.mono HB.out.size)); clear hb7)
          | (go_at_call 25; with_reducible refine (C3.out _ HB.out).mono ?_; rintro e w7 ⟨rfl, hb7⟩; have HB := Lib.hid (HB.out.trans (hb7.mono HB.out.size)); clear hb7)
          | (go_at_call 23; with_reducible refine (WS.out _ HB.out).mono ?_; rintro e w9 ⟨rfl, v9, hbw9, ht9⟩; have KC := KS.out _ HB.out; have BK := fun j => bw_keeps HX.out.bw (Nat.le_refl _) (HBW.out.trans (HB.out.mono HBW.out.size)) (Nat.lt_of_lt_of_le HLR.out HB.out.size) ht9 j; have KW := Lib.hid (show w9.cell? ⟨wr.heap.size, 0, none⟩ = some (.int .i64 s.pred) ∧ w9.cell? ⟨wr.heap.size, 1, none⟩ = some (.slice As s.cells.length cc) from ⟨(BK 0).trans KC.1, (BK 1).trans KC.2⟩); have HN := Lib.hid ((HX.out.step (HBW.out.trans (HB.out.mono HBW.out.size))).next hbw9 ht9); clear KC BK hbw9 ht9))
      all_goals go_wp2
      all_goals have N1 := Lib.hid HN.out
      all_goals clear HX KS T1 C1 C2 C3 WS HN KW
      all_goals refine ⟨⟨k + 1, _, _, by go_num, HK.out, HLE.out, HLL.out, N1.out⟩, ?_⟩
      all_goals (simp [intOf]; have := HK.out; omega)
    · obtain rfl : k = al.length := by omega
      have ST1 := Lib.hid hst
      have HL1 := Lib.hid hl
      have HLL1 := Lib.hid (show l.length ≤ 1000000000 * 1000 by have := SM.out.1; have : al.length * 1000 ≤ 1000000000 * 1000 := Nat.mul_le_mul_right _ this; omega)
      have x1 := hst.cell 1 rfl
      clear hst hl hkn hll
      go_wp2
      clear x1
      go_loopw [40] (fun i wr => ∃ (k : Nat) (v : Value) (l2 : List UInt8), i = .int .i64 k ∧ k ≤ ns.length ∧ l2 = l ++ linesT nodeL ns k ∧ l2.length ≤ 1000000000 * 1000 + k * 1000 ∧ TxS W #[.slice Aa al.length ca, .slice An ns.length cn, .slice Ae es.length ce] g wr v l2) (fun i _ => ns.length - (intOf i).toNat)
      case atStart => exact ⟨0, _, _, rfl, Nat.zero_le _, (List.append_nil _).symm, by have := HLL1.out; omega, ST1.out⟩
      case round =>
        obtain ⟨k, v2, l2, rfl, hk, hl, hll, hst⟩ := hrel
        clear ST1
        by_cases hkn : k < ns.length
        · obtain ⟨n, hn⟩ : ∃ n, ns[k]? = some n := ⟨_, List.getElem?_eq_getElem hkn⟩
          obtain ⟨b, off, rfl, -, hbl, cs, ⟨lv, mv, hE⟩, hc⟩ := (HP.out.below hst.w).ns.at hn
          obtain rfl := hE.cells
          have s8 := node_len8 HCK.out.1 HCK.out.2.1 (List.mem_of_getElem? hn)
          have sl1 : n.links.length ≤ 1048576 := by omega
          have sl2 : n.new.length ≤ 1048576 := by omega
          have hkk : k ≤ 1000000000 := by have := SM.out.2.1; omega
          have hnd : NdT F wr n lv mv := ⟨hE.ok, hE.links, hE.new, sl1, sl2⟩
          have ll1 := nodeL_len (i := k) hnd s8 (by omega)
          have ll2 := nodeT_len hnd s8
          have hkd := node_kind HCK.out.2.1 hn
          obtain ⟨LA, lc, rfl⟩ := hE.links.form
          obtain ⟨MA, mc, rfl⟩ := hE.new.form
          have d0 := hc 0 _ rfl
          have d1 := hc 1 _ rfl
          have d2 := hc 2 _ rfl
          have d3 := hc 3 _ rfl
          have d4 := hc 4 _ rfl
          have d5 := hc 5 _ rfl
          have d6 := hc 6 _ rfl
          have d7 := hc 7 _ rfl
          have d8 := hc 8 _ rfl
          have d9 := hc 9 _ rfl
          have d10 := hc 10 _ rfl
          simp only [Nat.add_zero] at d0
          have e1 : (0 : Int) ≤ (k : Int) := by omega
          have e2 : (k : Int) < (ns.length : Int) := by omega
          obtain ⟨wb, hwb⟩ : ∃ wb, wb = wr.alloc (.cells #[.int .i64 n.kind, .int .i64 n.parent, .int .i64 n.alpha, .slice LA n.links.length lc, .slice MA n.new.length mc, .int .i64 n.test.op, .bool n.test.l.v, .int .i64 n.test.l.n, .bool n.test.r.v, .int .i64 n.test.r.n, .int .i64 n.width] 40) := ⟨_, rfl⟩
          have hbw : Below wr.heap.size wr wb := by rw [hwb]; exact (Below.refl _ _).alloc (Nat.le_refl _) _
          have hrow : wb.heap[wr.heap.size]? = some (.cells #[.int .i64 n.kind, .int .i64 n.parent, .int .i64 n.alpha, .slice LA n.links.length lc, .slice MA n.new.length mc, .int .i64 n.test.op, .bool n.test.l.v, .int .i64 n.test.l.n, .bool n.test.r.v, .int .i64 n.test.r.n, .int .i64 n.width] 40 (0, 0)) := by rw [hwb]; exact heap_alloc_new wr _
          have hlr := lt_of_heap hrow
          have KS := Lib.hid (fun (Wx : World) (hx : Below wb.heap.size wb Wx) => (show Wx.cell? ⟨wr.heap.size, 0, none⟩ = some (.int .i64 n.kind) ∧ Wx.cell? ⟨wr.heap.size, 1, none⟩ = some (.int .i64 n.parent) ∧ Wx.cell? ⟨wr.heap.size, 2, none⟩ = some (.int .i64 n.alpha) ∧ Wx.cell? ⟨wr.heap.size, 3, none⟩ = some (.slice LA n.links.length lc) ∧ Wx.cell? ⟨wr.heap.size, 4, none⟩ = some (.slice MA n.new.length mc) ∧ Wx.cell? ⟨wr.heap.size, 5, none⟩ = some (.int .i64 n.test.op) ∧ Wx.cell? ⟨wr.heap.size, 6, none⟩ = some (.bool n.test.l.v) ∧ Wx.cell? ⟨wr.heap.size, 7, none⟩ = some (.int .i64 n.test.l.n) ∧ Wx.cell? ⟨wr.heap.size, 8, none⟩ = some (.bool n.test.r.v) ∧ Wx.cell? ⟨wr.heap.size, 9, none⟩ = some (.int .i64 n.test.r.n) ∧ Wx.cell? ⟨wr.heap.size, 10, none⟩ = some (.int .i64 n.width) from
            have hr := (hx.block _ hlr).trans hrow
            ⟨(cell_of_row _ _ 0 _ _ _ hr).trans rfl, (cell_of_row _ _ 1 _ _ _ hr).trans rfl, (cell_of_row _ _ 2 _ _ _ hr).trans rfl, (cell_of_row _ _ 3 _ _ _ hr).trans rfl, (cell_of_row _ _ 4 _ _ _ hr).trans rfl, (cell_of_row _ _ 5 _ _ _ hr).trans rfl, (cell_of_row _ _ 6 _ _ _ hr).trans rfl, (cell_of_row _ _ 7 _ _ _ hr).trans rfl, (cell_of_row _ _ 8 _ _ _ hr).trans rfl, (cell_of_row _ _ 9 _ _ _ hr).trans rfl, (cell_of_row _ _ 10 _ _ _ hr).trans rfl⟩))
          have T1 := Lib.hid (fun (Wx : World) (hx : Below wb.heap.size wb Wx) => (hst.w.trans (hbw.mono hst.w.size)).trans (hx.mono ((hst.w.trans (hbw.mono hst.w.size))).size))
          have C1 := Lib.hid (fun (Wx : World) (hx : Below wb.heap.size wb Wx) => itoaW (k : Int) (i64n (by omega)) Wx (TB.out Wx (T1.out Wx hx)))
          have C2 := Lib.hid (fun (Wx : World) (hx : Below wb.heap.size wb Wx) => nodeTextW (F := F) n _ _ Wx ⟨hE.ok, hE.links.keep (Kp.of_below (hbw.trans (hx.mono hbw.size))), hE.new.keep (Kp.of_below (hbw.trans (hx.mono hbw.size))), sl1, sl2⟩ hkd (TB.out Wx (T1.out Wx hx)) (OB.out Wx (T1.out Wx hx)))
          obtain ⟨NT, hNT⟩ : ∃ NT, nodeT n = NT := ⟨_, rfl⟩
          rw [hNT] at C2 ll2
          have hstr : ((((({ data := #[110, 111, 100, 101, 32] } : ByteArray) ++ bs (num k)) ++ { data := #[32] }) ++ bs NT) ++ { data := #[10] }) = bs (nodeL k n) := by
            rw [← hNT, show ({ data := #[110, 111, 100, 101, 32] } : ByteArray) = bs [110, 111, 100, 101, 32] from rfl, show ({ data := #[32] } : ByteArray) = bs [32] from rfl, show ({ data := #[10] } : ByteArray) = bs [10] from rfl]
            simp only [bs_app, nodeL, List.append_assoc]
          have hdat : (bs (nodeL k n)).data.toList = nodeL k n := by simp [bs]
          have hlim : l2.length + (bs (nodeL k n)).size ≤ 130000000000000 := by rw [bs_size]; omega
          have WS := Lib.hid (fun (Wx : World) (hx : Below wb.heap.size wb Wx) => (by have := bw_write ((hst.bw.below hbw).below hx) (Nat.le_trans (Nat.le_trans hst.size hbw.size) hx.size) _ hlim; rw [hdat, ← hstr] at this; exact this :
            Calls Tryd.prog 23 #[.pointer (some ⟨g, 0, none⟩), .string ((((({ data := #[110, 111, 100, 101, 32] } : ByteArray) ++ bs (num k)) ++ { data := #[32] }) ++ bs NT) ++ { data := #[10] })] Wx fun e w' => e = .returned (.tuple #[.int .i64 ((((({ data := #[110, 111, 100, 101, 32] } : ByteArray) ++ bs (num k)) ++ { data := #[32] }) ++ bs NT) ++ { data := #[10] }).size, .nilIface]) ∧ ∃ v', Bw w' (g + 1) g v' (l2 ++ nodeL k n) ∧ Turns (g :: v2.ownBlock.toList) Wx w'))
          have n1 := num_len (i64n (n := k) (by omega))
          rw [← bs_size] at n1 ll2
          have z1 : ¬ 9223372036854775807 < 5 + (bs (num k)).size := by omega
          have z2 : ¬ 9223372036854775807 < 5 + (bs (num k)).size + 1 := by omega
          have z3 : ¬ 9223372036854775807 < 5 + (bs (num k)).size + 1 + (bs NT).size := by omega
          have z4 : ¬ 9223372036854775807 < 5 + (bs (num k)).size + 1 + (bs NT).size + 1 := by omega
          have HB := Lib.hid ((Below.refl wb.heap.size wb).drew)
          have hS0 := KS.out _ HB.out
          have HX := Lib.hid hst
          have HBW := Lib.hid hbw
          have HK := Lib.hid hkn
          have HLE := Lib.hid (show l2 ++ nodeL k n = l ++ linesT nodeL ns (k + 1) by rw [hl, linesT_succ hn, List.append_assoc])
          have HLL := Lib.hid (show (l2 ++ nodeL k n).length ≤ 1000000000 * 1000 + (k + 1) * 1000 by rw [List.length_append]; omega)
          have HLR := Lib.hid hlr
          clear hn hc hkn hst hl hll hstr hdat hlim hE hnd hkd hNT hbw hrow hlr ll1 sl1 sl2 s8
          go_upto_region 12 with fail
          rw [← hwb]
          clear hwb d0 d1 d2 d3 d4 d5 d6 d7 d8 d9 d10
          go_region_held3 (fun w' : World => w'.cell? ⟨wr.heap.size, 0, none⟩ = some (.int .i64 n.kind) ∧ w'.cell? ⟨wr.heap.size, 1, none⟩ = some (.int .i64 n.parent) ∧ w'.cell? ⟨wr.heap.size, 2, none⟩ = some (.int .i64 n.alpha) ∧ w'.cell? ⟨wr.heap.size, 3, none⟩ = some (.slice LA n.links.length lc) ∧ w'.cell? ⟨wr.heap.size, 4, none⟩ = some (.slice MA n.new.length mc) ∧ w'.cell? ⟨wr.heap.size, 5, none⟩ = some (.int .i64 n.test.op) ∧ w'.cell? ⟨wr.heap.size, 6, none⟩ = some (.bool n.test.l.v) ∧ w'.cell? ⟨wr.heap.size, 7, none⟩ = some (.int .i64 n.test.l.n) ∧ w'.cell? ⟨wr.heap.size, 8, none⟩ = some (.bool n.test.r.v) ∧ w'.cell? ⟨wr.heap.size, 9, none⟩ = some (.int .i64 n.test.r.n) ∧ w'.cell? ⟨wr.heap.size, 10, none⟩ = some (.int .i64 n.width))
            (first | with_reducible exact hS0 | with_reducible exact KS.out _ HB.out | with_reducible exact KW.out)
            (first
              | (go_at_call 24; with_reducible refine (C1.out _ HB.out).mono ?_; rintro e w7 ⟨rfl, hb7⟩; have HB := Lib.hid (HB.out.trans (hb7.mono HB.out.size)); clear hb7)
              | (go_at_call 27; with_reducible refine (C2.out _ HB.out).mono ?_; rintro e w7 ⟨rfl, hb7⟩; have HB := Lib.hid (HB.out.trans (hb7.mono HB.out.size)); clear hb7)
              | (go_at_call 23; with_reducible refine (WS.out _ HB.out).mono ?_; rintro e w9 ⟨rfl, v9, hbw9, ht9⟩; have KC := KS.out _ HB.out; have BK := fun j => bw_keeps HX.out.bw (Nat.le_refl _) (HBW.out.trans (HB.out.mono HBW.out.size)) (Nat.lt_of_lt_of_le HLR.out HB.out.size) ht9 j; obtain ⟨k0, k1, k2, k3, k4, k5, k6, k7, k8, k9, k10⟩ := KC; have KW := Lib.hid (show w9.cell? ⟨wr.heap.size, 0, none⟩ = some (.int .i64 n.kind) ∧ w9.cell? ⟨wr.heap.size, 1, none⟩ = some (.int .i64 n.parent) ∧ w9.cell? ⟨wr.heap.size, 2, none⟩ = some (.int .i64 n.alpha) ∧ w9.cell? ⟨wr.heap.size, 3, none⟩ = some (.slice LA n.links.length lc) ∧ w9.cell? ⟨wr.heap.size, 4, none⟩ = some (.slice MA n.new.length mc) ∧ w9.cell? ⟨wr.heap.size, 5, none⟩ = some (.int .i64 n.test.op) ∧ w9.cell? ⟨wr.heap.size, 6, none⟩ = some (.bool n.test.l.v) ∧ w9.cell? ⟨wr.heap.size, 7, none⟩ = some (.int .i64 n.test.l.n) ∧ w9.cell? ⟨wr.heap.size, 8, none⟩ = some (.bool n.test.r.v) ∧ w9.cell? ⟨wr.heap.size, 9, none⟩ = some (.int .i64 n.test.r.n) ∧ w9.cell? ⟨wr.heap.size, 10, none⟩ = some (.int .i64 n.width) from ⟨(BK 0).trans k0, (BK 1).trans k1, (BK 2).trans k2, (BK 3).trans k3, (BK 4).trans k4, (BK 5).trans k5, (BK 6).trans k6, (BK 7).trans k7, (BK 8).trans k8, (BK 9).trans k9, (BK 10).trans k10⟩); have HN := Lib.hid ((HX.out.step (HBW.out.trans (HB.out.mono HBW.out.size))).next hbw9 ht9); clear k0 k1 k2 k3 k4 k5 k6 k7 k8 k9 k10 BK hbw9 ht9))
          all_goals go_wp2
          all_goals have N1 := Lib.hid HN.out
          all_goals clear HX KS T1 C1 C2 WS HN KW
          all_goals refine ⟨⟨k + 1, _, _, by go_num, HK.out, HLE.out, HLL.out, N1.out⟩, ?_⟩
          all_goals (simp [intOf]; have := HK.out; omega)
        · obtain rfl : k = ns.length := by omega
          have ST2 := Lib.hid hst
          have HL2 := Lib.hid hl
          have HLL2 := Lib.hid (show l2.length ≤ 1000000000 * 1000 + 1000000000 * 1000 by have := SM.out.2.1; have : ns.length * 1000 ≤ 1000000000 * 1000 := Nat.mul_le_mul_right _ this; omega)
          have x2 := hst.cell 2 rfl
          clear hst hl hkn hll
          go_wp2
          clear x2
          go_loopw [58] (fun i wr => ∃ (k : Nat) (v : Value) (l3 : List UInt8), i = .int .i64 k ∧ k ≤ es.length ∧ l3 = l2 ++ linesT ruleL es k ∧ l3.length ≤ 1000000000 * 1000 + 1000000000 * 1000 + k * 1000 ∧ TxS W #[.slice Aa al.length ca, .slice An ns.length cn, .slice Ae es.length ce] g wr v l3) (fun i _ => es.length - (intOf i).toNat)
          case atStart => exact ⟨0, _, _, rfl, Nat.zero_le _, (List.append_nil _).symm, by have := HLL2.out; omega, ST2.out⟩
          case round =>
            obtain ⟨k, v3, l3, rfl, hk, hl, hll, hst⟩ := hrel
            clear ST2
            by_cases hkn : k < es.length
            · obtain ⟨n, hn⟩ : ∃ n, es[k]? = some n := ⟨_, List.getElem?_eq_getElem hkn⟩
              obtain ⟨b, off, rfl, -, hbl, cs, ⟨rfl, nok⟩, hc⟩ := (HP.out.below hst.w).en.at hn
              have hkk : k ≤ 1000000000 := by have := SM.out.2.2; omega
              have ll1 := ruleL_len (i := k) nok (by omega)
              have d0 := hc 0 _ rfl
              simp only [Nat.add_zero, Nat.mul_one] at d0
              have e1 : (0 : Int) ≤ (k : Int) := by omega
              have e2 : (k : Int) < (es.length : Int) := by omega
              have T1 := Lib.hid (fun (Wx : World) (hx : Below wr.heap.size wr Wx) => hst.w.trans (hx.mono hst.w.size))
              have C1 := Lib.hid (fun (Wx : World) (hx : Below wr.heap.size wr Wx) => itoaW (k : Int) (i64n (by omega)) Wx (TB.out Wx (T1.out Wx hx)))
              have C2 := Lib.hid (fun (Wx : World) (hx : Below wr.heap.size wr Wx) => itoaW n nok.lo Wx (TB.out Wx (T1.out Wx hx)))
              have hstr : ((((({ data := #[114, 117, 108, 101, 32] } : ByteArray) ++ bs (num k)) ++ { data := #[32, 97, 116, 32] }) ++ bs (num n)) ++ { data := #[10] }) = bs (ruleL k n) := by
                rw [show ({ data := #[114, 117, 108, 101, 32] } : ByteArray) = bs [114, 117, 108, 101, 32] from rfl, show ({ data := #[32, 97, 116, 32] } : ByteArray) = bs [32, 97, 116, 32] from rfl, show ({ data := #[10] } : ByteArray) = bs [10] from rfl]
                simp only [bs_app, ruleL, List.append_assoc]
              have hdat : (bs (ruleL k n)).data.toList = ruleL k n := by simp [bs]
              have hlim : l3.length + (bs (ruleL k n)).size ≤ 130000000000000 := by rw [bs_size]; omega
              have WS := Lib.hid (fun (Wx : World) (hx : Below wr.heap.size wr Wx) => (by have := bw_write (hst.bw.below hx) (Nat.le_trans hst.size hx.size) _ hlim; rw [hdat, ← hstr] at this; exact this :
                Calls Tryd.prog 23 #[.pointer (some ⟨g, 0, none⟩), .string ((((({ data := #[114, 117, 108, 101, 32] } : ByteArray) ++ bs (num k)) ++ { data := #[32, 97, 116, 32] }) ++ bs (num n)) ++ { data := #[10] })] Wx fun e w' => e = .returned (.tuple #[.int .i64 ((((({ data := #[114, 117, 108, 101, 32] } : ByteArray) ++ bs (num k)) ++ { data := #[32, 97, 116, 32] }) ++ bs (num n)) ++ { data := #[10] }).size, .nilIface]) ∧ ∃ v', Bw w' (g + 1) g v' (l3 ++ ruleL k n) ∧ Turns (g :: v3.ownBlock.toList) Wx w'))
              have n1 := num_len (i64n (n := k) (by omega))
              have n2 := num_len nok.lo
              rw [← bs_size] at n1 n2
              have z1 : ¬ 9223372036854775807 < 5 + (bs (num k)).size := by omega
              have z2 : ¬ 9223372036854775807 < 5 + (bs (num k)).size + 4 := by omega
              have z3 : ¬ 9223372036854775807 < 5 + (bs (num k)).size + 4 + (bs (num n)).size := by omega
              have z4 : ¬ 9223372036854775807 < 5 + (bs (num k)).size + 4 + (bs (num n)).size + 1 := by omega
              have HB := Lib.hid ((Below.refl wr.heap.size wr).drew)
              have HX := Lib.hid hst
              have HK := Lib.hid hkn
              have HLE := Lib.hid (show l3 ++ ruleL k n = l2 ++ linesT ruleL es (k + 1) by rw [hl, linesT_succ hn, List.append_assoc])
              have HLL := Lib.hid (show (l3 ++ ruleL k n).length ≤ 1000000000 * 1000 + 1000000000 * 1000 + (k + 1) * 1000 by rw [List.length_append]; omega)
              clear hn hc hkn hst hl hll hstr hdat hlim nok ll1
              go_upto_region 17 with fail
              clear d0
              go_wp2_with fail
              refine (C1.out _ (Below.refl _ _)).mono ?_
              rintro e w7 ⟨rfl, hb7⟩
              have HB7 := Lib.hid hb7
              clear hb7 HB
              go_wp2_with fail
              refine (C2.out _ HB7.out).mono ?_
              rintro e w8 ⟨rfl, hb8⟩
              have HB8 := Lib.hid (HB7.out.trans (hb8.mono HB7.out.size))
              clear hb8 HB7
              go_wp2_with fail
              refine (WS.out _ HB8.out).mono ?_
              rintro e w9 ⟨rfl, v9, hbw9, ht9⟩
              have N1 := Lib.hid ((HX.out.step HB8.out).next hbw9 ht9)
              clear hbw9 ht9 HX T1 C1 C2 WS HB8
              go_wp2
              exact ⟨⟨k + 1, _, _, by go_num, HK.out, HLE.out, HLL.out, N1.out⟩, by simp [intOf]; have := HK.out; omega⟩
            · obtain rfl : k = es.length := by omega
              have HST := Lib.hid hst
              have HL3 := Lib.hid hl
              have SB := Lib.hid (Tryd.Builder_String_any g g l3 wr (isBuilder_of hst.bw) (by have := hst.size; omega))
              clear hst hl hkn hll
              go_wp2_with fail
              refine SB.out.mono ?_
              rintro e w9 ⟨rfl, hb9⟩
              have HB9 := Lib.hid (HST.out.w.trans (hb9.mono (by have := HST.out.hg; omega)))
              clear hb9 SB
              go_wp2
              go_ret
              refine ⟨?_, HB9.out⟩
              rw [HR.out]
              unfold allT
              rw [← HL1.out, ← HL2.out, ← HL3.out]
              rfl

end Go.Proofs.YtonkbjdeaneicaaDoor

namespace Go.Proofs.YtonkbjdeaneicaaDoor
open Go Go.RowKit

/-- A list in a plan: its value, whether it holds links, its length, its cells. -/
structure Slo where
  v : Value
  l : Bool
  n : Nat
  x : List Value
def Slo.e (s : Slo) : TypeId := if s.l = true then 56 else 3
def Slo.sz (s : Slo) : Nat := if s.l = true then 2 else 1
/-- Where list k stands: shapes' lists first, then links and new ones by turns. -/
def plB (al A N k : Nat) : Nat := if k < al then A else N
def plO (al k : Nat) : Nat := if k < al then 2 * k + 1 else 11 * ((k - al) / 2) + 3 + (k - al) % 2
theorem pl_inj {al A N k k' : Nat} (hAN : 0 < al → A ≠ N) (h : plB al A N k = plB al A N k') (h' : plO al k = plO al k') : k = k' := by
  unfold plB at h
  unfold plO at h'
  by_cases h1 : k < al <;> by_cases h2 : k' < al
  · rw [if_pos h1, if_pos h2] at h'; omega
  · rw [if_pos h1, if_neg h2] at h; exact absurd h (hAN (by omega))
  · rw [if_neg h1, if_pos h2] at h; exact absurd h.symm (hAN (by omega))
  · rw [if_neg h1, if_neg h2] at h'; omega

/-- The worlds of `full`. -/
structure FS (W : World) (S0 : List Nat) (pl : Array Value) (A N al : Nat) (w : World) (L : List Slo) : Prop where
  box : w.heap[W.heap.size]? = some (.cells pl 26 (0, 0))
  own : ∀ (k : Nat) (s : Slo), L[k]? = some s → w.ownsRow 0 s.e s.sz s.v s.n s.x
  apart : ∀ (k k' : Nat) (s s' : Slo) (b : Nat), L[k]? = some s → L[k']? = some s' → s.v.ownBlock = some b → s'.v.ownBlock = some b → k = k'
  out : ∀ (k : Nat) (s : Slo), L[k]? = some s → w.cell? ⟨plB al A N k, plO al k, none⟩ = some s.v
  rowA : 0 < al → ∃ cur, w.heap[A]? = some (.cells cur 54 (0, 0))
  rowN : ∃ cur, w.heap[N]? = some (.cells cur 40 (0, 0))
  foot : ∀ (k : Nat) (s : Slo) (b : Nat), L[k]? = some s → s.v.ownBlock = some b → b ∈ S0 ∨ W.heap.size < b
  turns : Turns S0 W w
  hA : 0 < al → A ∈ S0 ∧ A < W.heap.size
  hN : N ∈ S0 ∧ N < W.heap.size
section
variable {W w : World} {S0 : List Nat} {pl : Array Value} {A N al : Nat} {L : List Slo}
theorem FS.size (h : FS W S0 pl A N al w L) : W.heap.size < w.heap.size := lt_of_heap h.box
theorem FS.AN (h : FS W S0 pl A N al w L) : 0 < al → A ≠ N := by
  intro ha e
  obtain ⟨c1, h1⟩ := h.rowA ha
  obtain ⟨c2, h2⟩ := h.rowN
  rw [e, h2] at h1
  simp at h1
/-- A list's block is none of the others. -/
theorem FS.far (h : FS W S0 pl A N al w L) {k : Nat} {s : Slo} {b : Nat} (hs : L[k]? = some s) (hb : s.v.ownBlock = some b) : b ≠ W.heap.size ∧ b ≠ N ∧ (0 < al → b ≠ A) := by
  obtain ⟨_, _, cur, hh⟩ := ownBlock_cells (h.own k s hs) hb
  have he : s.e ≠ 26 ∧ s.e ≠ 40 ∧ s.e ≠ 54 := by
    unfold Slo.e
    split <;> decide
  refine ⟨?_, ?_, ?_⟩
  · rintro rfl
    rw [h.box] at hh
    simp only [Option.some.injEq, Obj.cells.injEq] at hh
    exact he.1 hh.2.1.symm
  · rintro rfl
    obtain ⟨c, hc⟩ := h.rowN
    rw [hc] at hh
    simp only [Option.some.injEq, Obj.cells.injEq] at hh
    exact he.2.1 hh.2.1.symm
  · rintro ha rfl
    obtain ⟨c, hc⟩ := h.rowA ha
    rw [hc] at hh
    simp only [Option.some.injEq, Obj.cells.injEq] at hh
    exact he.2.2 hh.2.1.symm
theorem FS.plB_ne (h : FS W S0 pl A N al w L) {k : Nat} {s : Slo} {b : Nat} (hs : L[k]? = some s) (hb : s.v.ownBlock = some b) (q : Nat) : b ≠ plB al A N q := by
  obtain ⟨_, h2, h3⟩ := h.far hs hb
  unfold plB
  split
  · exact h3 (by omega)
  · exact h2
theorem FS.plB_lt (h : FS W S0 pl A N al w L) (q : Nat) : plB al A N q < W.heap.size ∧ plB al A N q ∈ S0 := by
  unfold plB
  split
  · obtain ⟨h1, h2⟩ := h.hA (by omega); exact ⟨h2, h1⟩
  · exact ⟨h.hN.2, h.hN.1⟩
theorem FS.plB_row (h : FS W S0 pl A N al w L) (q : Nat) : ∃ cur t, w.heap[plB al A N q]? = some (.cells cur t (0, 0)) := by
  unfold plB
  split
  · obtain ⟨c, hc⟩ := h.rowA (by omega); exact ⟨c, _, hc⟩
  · obtain ⟨c, hc⟩ := h.rowN; exact ⟨c, _, hc⟩
theorem FS.fz (h : FS W S0 pl A N al w L) (q o : Nat) : w.frozen? ⟨plB al A N q, o, none⟩ = false := by
  obtain ⟨c, t, hc⟩ := h.plB_row q
  exact frozen_of_row _ _ _ _ _ hc
/-- A step that turns list k's block alone. -/
theorem FS.turn (h : FS W S0 pl A N al w L) {k : Nat} {s s' : Slo} {w' : World} (hs : L[k]? = some s) (ht : Turns s.v.ownBlock.toList w w') (hv : s'.v = s.v) (hl : s'.l = s.l) (ho : w'.ownsRow 0 s'.e s'.sz s'.v s'.n s'.x) : FS W S0 pl A N al w' (L.set k s') := by
  have hk := (List.getElem?_eq_some_iff.1 hs).1
  have hmem : ∀ {b : Nat}, b ∈ s.v.ownBlock.toList → s.v.ownBlock = some b := fun hb => by simpa using hb
  have get : ∀ {q : Nat} {t : Slo}, (L.set k s')[q]? = some t → (q = k ∧ t = s') ∨ (q ≠ k ∧ L[q]? = some t) := by
    intro q t hq
    by_cases e : q = k
    · subst e
      rw [List.getElem?_set_self hk] at hq
      exact .inl ⟨rfl, (Option.some.inj hq).symm⟩
    · rw [List.getElem?_set_ne (fun x => e x.symm)] at hq
      exact .inr ⟨e, hq⟩
  have base : ∀ {q : Nat} {t : Slo}, (L.set k s')[q]? = some t → ∃ t0, L[q]? = some t0 ∧ t.v = t0.v := by
    intro q t hq
    rcases get hq with ⟨rfl, rfl⟩ | ⟨_, hq⟩
    · exact ⟨s, hs, hv⟩
    · exact ⟨t, hq, rfl⟩
  refine ⟨?_, ?_, ?_, ?_, ?_, ?_, ?_, ?_, h.hA, h.hN⟩
  · rw [ht.block _ h.size (fun hm => (h.far hs (hmem hm)).1 rfl)]
    exact h.box
  · intro q t hq
    rcases get hq with ⟨rfl, rfl⟩ | ⟨e, hq⟩
    · exact ho
    · exact ownsRow_turns (h.own q t hq) ht (fun b hb hm => e (h.apart q k t s b hq hs hb (hmem hm)))
  · intro q q' t t' b hq hq' hb hb'
    obtain ⟨t0, h1, e1⟩ := base hq
    obtain ⟨t1, h2, e2⟩ := base hq'
    rw [e1] at hb
    rw [e2] at hb'
    exact h.apart q q' t0 t1 b h1 h2 hb hb'
  · intro q t hq
    obtain ⟨t0, h1, e1⟩ := base hq
    rw [e1, ← h.out q t0 h1]
    exact ht.cell (Nat.lt_of_lt_of_le (h.plB_lt q).1 (by have := h.turns.size; exact this)) (fun hm => h.plB_ne hs (hmem hm) q rfl)
  · intro ha
    obtain ⟨c, hc⟩ := h.rowA ha
    exact ⟨c, (ht.block _ (lt_of_heap hc) (fun hm => (h.far hs (hmem hm)).2.2 ha rfl)).trans hc⟩
  · obtain ⟨c, hc⟩ := h.rowN
    exact ⟨c, (ht.block _ (lt_of_heap hc) (fun hm => (h.far hs (hmem hm)).2.1 rfl)).trans hc⟩
  · intro q t b hq hb
    obtain ⟨t0, h1, e1⟩ := base hq
    rw [e1] at hb
    exact h.foot q t0 b h1 hb
  · exact h.turns.trans ht (fun b hb => by
      rcases h.foot k s b hs (hmem hb) with h1 | h1
      · exact .inl h1
      · exact .inr (by omega))
/-- A cell of list k is written. -/
theorem FS.put (h : FS W S0 pl A N al w L) {k : Nat} {s : Slo} {g n c : Nat} (hs : L[k]? = some s) (hv : s.v = .slice (some ⟨g, 0, none⟩) n c) (j : Nat) (u : Value) : FS W S0 pl A N al (w.setCell ⟨g, j, none⟩ u) (L.set k { s with x := s.x.set j u }) := by
  have ho := h.own k s hs
  have hn : n = s.n := by
    rcases ho.2 with ⟨h', _⟩ | ⟨g', cap', cur, h', _⟩
    · rw [hv] at h'; simp at h'
    · rw [hv] at h'; simp only [Value.slice.injEq] at h'; exact h'.2.1
  subst hn
  rw [hv] at ho
  obtain ⟨h1, h2⟩ := ho.stored j u
  refine h.turn hs ?_ rfl rfl ?_
  · rw [hv]; exact Turns.of_grown h2
  · show World.ownsRow _ 0 s.e s.sz s.v s.n (s.x.set j u)
    rw [hv]
    exact h1
/-- Only blocks that are new are touched, and numbers drawn. -/
theorem FS.below (h : FS W S0 pl A N al w L) {w' : World} (hb : Below w.heap.size w w') : FS W S0 pl A N al w' L := by
  have T : Turns ([] : List Nat) w w' := Turns.of_below hb
  refine ⟨?_, ?_, h.apart, ?_, ?_, ?_, h.foot, ?_, h.hA, h.hN⟩
  · rw [hb.block _ h.size]; exact h.box
  · exact fun k s hs => ownsRow_turns (h.own k s hs) T (fun _ _ => by simp)
  · intro q t hq
    rw [← h.out q t hq]
    exact T.cell (Nat.lt_of_lt_of_le (h.plB_lt q).1 h.turns.size) (by simp)
  · intro ha
    obtain ⟨c, hc⟩ := h.rowA ha
    exact ⟨c, (hb.block _ (lt_of_heap hc)).trans hc⟩
  · obtain ⟨c, hc⟩ := h.rowN
    exact ⟨c, (hb.block _ (lt_of_heap hc)).trans hc⟩
  · exact h.turns.trans T (by simp)
/-- One more behind list k, and its header stored. -/
theorem FS.app (h : FS W S0 pl A N al w L) {k : Nat} {s : Slo} (hs : L[k]? = some s) {w3 : World} {g' cap : Nat} {news : List Value} (ht : Turns s.v.ownBlock.toList w w3) (hat : s.v.ownBlock = some g' ∨ w.heap.size ≤ g')
    (ho : w3.ownsRow 0 s.e s.sz (.slice (some ⟨g', 0, none⟩) (s.n + 1) cap) (s.n + 1) (s.x ++ news)) :
    FS W S0 pl A N al (w3.setCell ⟨plB al A N k, plO al k, none⟩ (.slice (some ⟨g', 0, none⟩) (s.n + 1) cap)) (L.set k ⟨.slice (some ⟨g', 0, none⟩) (s.n + 1) cap, s.l, s.n + 1, s.x ++ news⟩) ∧
      w3.cell? ⟨plB al A N k, plO al k, none⟩ = some s.v ∧ w3.frozen? ⟨plB al A N k, plO al k, none⟩ = false := by
  have hk := (List.getElem?_eq_some_iff.1 hs).1
  have hmem : ∀ {b : Nat}, b ∈ s.v.ownBlock.toList → s.v.ownBlock = some b := fun hb => by simpa using hb
  have hO : plB al A N k < w.heap.size := Nat.lt_of_lt_of_le (h.plB_lt k).1 h.turns.size
  have hOs : plB al A N k ∉ s.v.ownBlock.toList := fun hm => h.plB_ne hs (hmem hm) k rfl
  have hc3 : w3.cell? ⟨plB al A N k, plO al k, none⟩ = some s.v := (ht.cell hO hOs).trans (h.out k s hs)
  obtain ⟨oc, ot, hrow⟩ := h.plB_row k
  have hrow3 := (ht.block _ hO hOs).trans hrow
  refine ⟨?_, hc3, frozen_of_row _ _ _ _ _ hrow3⟩
  have hgO : g' ≠ plB al A N k := by
    rcases hat with h1 | h1
    · exact h.plB_ne hs h1 k
    · omega
  have T1 : Turns [plB al A N k] w3 (w3.setCell ⟨plB al A N k, plO al k, none⟩ (.slice (some ⟨g', 0, none⟩) (s.n + 1) cap)) := (Turns.refl _ _).setCell (.inl (by simp)) _
  have get : ∀ {q : Nat} {t : Slo}, (L.set k ⟨.slice (some ⟨g', 0, none⟩) (s.n + 1) cap, s.l, s.n + 1, s.x ++ news⟩)[q]? = some t → (q = k ∧ t = ⟨.slice (some ⟨g', 0, none⟩) (s.n + 1) cap, s.l, s.n + 1, s.x ++ news⟩) ∨ (q ≠ k ∧ L[q]? = some t) := by
    intro q t hq
    by_cases e : q = k
    · subst e
      rw [List.getElem?_set_self hk] at hq
      exact .inl ⟨rfl, (Option.some.inj hq).symm⟩
    · rw [List.getElem?_set_ne (fun x => e x.symm)] at hq
      exact .inr ⟨e, hq⟩
  have hbox3 : w3.heap[W.heap.size]? = some (.cells pl 26 (0, 0)) := (ht.block _ h.size (fun hm => (h.far hs (hmem hm)).1 rfl)).trans h.box
  refine ⟨?_, ?_, ?_, ?_, ?_, ?_, ?_, ?_, h.hA, h.hN⟩
  · rw [T1.block _ (lt_of_heap hbox3) (fun hm => by have := (h.plB_lt k).1; rw [List.mem_singleton.1 hm] at this; omega)]
    exact hbox3
  · intro q t hq
    rcases get hq with ⟨rfl, rfl⟩ | ⟨e, hq⟩
    · exact ownsRow_turns ho T1 (fun b hb hm => by
        have : g' = b := by simpa [Value.ownBlock] using hb
        exact hgO (this.trans (List.mem_singleton.1 hm)))
    · refine ownsRow_turns (ownsRow_turns (h.own q t hq) ht (fun b hb hm => e (h.apart q k t s b hq hs hb (hmem hm)))) T1 (fun b hb hm => ?_)
      rw [List.mem_singleton.1 hm] at hb
      exact h.plB_ne hq hb k rfl
  · have fresh : ∀ {q : Nat} {t : Slo} {b : Nat}, q ≠ k → L[q]? = some t → t.v.ownBlock = some b → b ≠ g' := by
      rintro q t b e hq hb rfl
      rcases hat with h1 | h1
      · exact e (h.apart q k t s b hq hs hb h1)
      · have := (ownBlock_cells (h.own q t hq) hb).2.1
        omega
    intro q q' t t' b hq hq' hb hb'
    rcases get hq with ⟨e1, rfl⟩ | ⟨e1, hq⟩ <;> rcases get hq' with ⟨e2, rfl⟩ | ⟨e2, hq'⟩
    · rw [e1, e2]
    · have : g' = b := by simpa [Value.ownBlock] using hb
      exact absurd this.symm (fresh e2 hq' hb')
    · have : g' = b := by simpa [Value.ownBlock] using hb'
      exact absurd this.symm (fresh e1 hq hb)
    · exact h.apart q q' t t' b hq hq' hb hb'
  · intro q t hq
    rcases get hq with ⟨rfl, rfl⟩ | ⟨e, hq⟩
    · exact World.cell?_setCell_same (h := hc3) ..
    · rw [World.cell?_setCell_other (h := show (⟨plB al A N k, plO al k, none⟩ : Addr) ≠ ⟨plB al A N q, plO al q, none⟩ from fun x => by
        simp only [Addr.mk.injEq, and_true] at x
        exact e (pl_inj h.AN x.1 x.2).symm)]
      rw [← h.out q t hq]
      exact ht.cell (Nat.lt_of_lt_of_le (h.plB_lt q).1 h.turns.size) (fun hm => h.plB_ne hs (hmem hm) q rfl)
  · intro ha
    obtain ⟨c, hc⟩ := h.rowA ha
    have hc3 := (ht.block _ (lt_of_heap hc) (fun hm => (h.far hs (hmem hm)).2.2 ha rfl)).trans hc
    by_cases e : plB al A N k = A
    · rw [e]
      exact ⟨_, heap_setCell_same _ _ _ _ _ _ hc3⟩
    · exact ⟨c, (T1.block _ (lt_of_heap hc3) (fun hm => e (List.mem_singleton.1 hm).symm)).trans hc3⟩
  · obtain ⟨c, hc⟩ := h.rowN
    have hc3 := (ht.block _ (lt_of_heap hc) (fun hm => (h.far hs (hmem hm)).2.1 rfl)).trans hc
    by_cases e : plB al A N k = N
    · rw [e]
      exact ⟨_, heap_setCell_same _ _ _ _ _ _ hc3⟩
    · exact ⟨c, (T1.block _ (lt_of_heap hc3) (fun hm => e (List.mem_singleton.1 hm).symm)).trans hc3⟩
  · intro q t b hq hb
    rcases get hq with ⟨rfl, rfl⟩ | ⟨e, hq⟩
    · have e1 : g' = b := by simpa [Value.ownBlock] using hb
      rcases hat with h1 | h1
      · rw [e1] at h1; exact h.foot q s b hs h1
      · exact .inr (by have := h.size; omega)
    · exact h.foot q t b hq hb
  · have T0 : Turns S0 W w3 := h.turns.trans ht (fun b hb => by
      rcases h.foot k s b hs (hmem hb) with h1 | h1
      · exact .inl h1
      · exact .inr (by omega))
    exact T0.trans T1 (fun b hb => .inl (by rw [List.mem_singleton.1 hb]; exact (h.plB_lt k).2))
end

/-- The mark of list k; one element of it, marked. -/
def mkF (al k : Nat) : Int := if k < al then (k : Int) + 1 else ((al + (k - al) / 2 : Nat) : Int) + 1
def valF (al k : Nat) : List Value := if k < al then [.int .i64 (1000 + mkF al k)] else if (k - al) % 2 = 0 then [.int .i64 (1000 + mkF al k), .int .i64 0] else [.int .i64 (2000 + mkF al k)]
def fillV (e : List Value) (n : Nat) : List Value := (List.replicate n e).flatten
theorem fillV_succ (e : List Value) (n : Nat) : fillV e (n + 1) = fillV e n ++ e := by
  unfold fillV
  rw [List.replicate_succ', List.flatten_append]
  simp
theorem fillV_len (e : List Value) (n : Nat) : (fillV e n).length = n * e.length := by
  unfold fillV
  simp
theorem fillV_at {e : List Value} {n j i : Nat} {u : Value} (hj : j < n) (hu : e[i]? = some u) : (fillV e n)[j * e.length + i]? = some u := by
  have hi := (List.getElem?_eq_some_iff.1 hu).1
  induction n with
  | zero => omega
  | succ n ih =>
    rw [fillV_succ]
    by_cases h : j < n
    · have hlt : j * e.length + i < n * e.length := by
        have := Nat.mul_le_mul_right e.length (show j + 1 ≤ n from h)
        rw [Nat.add_mul, Nat.one_mul] at this
        omega
      rw [List.getElem?_append_left (by rw [fillV_len]; exact hlt)]
      exact ih h
    · obtain rfl : j = n := by omega
      rw [List.getElem?_append_right (by rw [fillV_len]; omega), fillV_len, Nat.add_sub_cancel_left]
      exact hu
/-- List k is being marked, j elements are. -/
structure StI (al : Nat) (L0 L : List Slo) (k j : Nat) : Prop where
  len : L.length = L0.length
  done : ∀ (q : Nat) (s0 : Slo), L0[q]? = some s0 → q < k → ∃ s, L[q]? = some s ∧ s.l = s0.l ∧ s.n = s0.n + 1 ∧ s.x = fillV (valF al q) (s0.n + 1)
  now : ∀ (s0 : Slo), L0[k]? = some s0 → ∃ s, L[k]? = some s ∧ s.l = s0.l ∧ s.v = s0.v ∧ s.n = s0.n ∧ s.x = fillV (valF al k) j ++ s0.x.drop (j * (valF al k).length)
  rest : ∀ (q : Nat) (s0 : Slo), L0[q]? = some s0 → k < q → L[q]? = some s0
theorem StI.start (al : Nat) (L0 : List Slo) : StI al L0 L0 0 0 :=
  ⟨rfl, fun q s0 _ h => by omega, fun s0 h => ⟨s0, h, rfl, rfl, rfl, by simp [fillV]⟩, fun q s0 h _ => h⟩
theorem StI.put {al : Nat} {L0 L : List Slo} {k j : Nat} (h : StI al L0 L k j) {s s' : Slo} (hs : L[k]? = some s) {s0 : Slo} (hs0 : L0[k]? = some s0) (hl : s'.l = s.l) (hv : s'.v = s.v) (hn : s'.n = s.n)
    (hx : s'.x = fillV (valF al k) (j + 1) ++ s0.x.drop ((j + 1) * (valF al k).length)) : StI al L0 (L.set k s') k (j + 1) := by
  have hk := (List.getElem?_eq_some_iff.1 hs).1
  refine ⟨by rw [List.length_set]; exact h.len, fun q t0 h0 hq => ?_, fun t0 h0 => ?_, fun q t0 h0 hq => ?_⟩
  · obtain ⟨t, h1, h2⟩ := h.done q t0 h0 hq
    exact ⟨t, by rw [List.getElem?_set_ne (by omega)]; exact h1, h2⟩
  · rw [hs0] at h0
    obtain rfl := Option.some.inj h0
    obtain ⟨t, h1, h2, h3, h4, _⟩ := h.now s0 hs0
    rw [hs] at h1
    obtain rfl := Option.some.inj h1
    exact ⟨s', List.getElem?_set_self hk, hl.trans h2, hv.trans h3, hn.trans h4, hx⟩
  · rw [List.getElem?_set_ne (by omega)]
    exact h.rest q t0 h0 hq
/-- The list is marked, and one more stands behind it. -/
theorem StI.next {al : Nat} {L0 L : List Slo} {k : Nat} {s0 s s' : Slo} (h : StI al L0 L k s0.n) (hs0 : L0[k]? = some s0) (hs : L[k]? = some s) (hxl : s0.x.length = s0.n * (valF al k).length) (hl : s'.l = s.l) (hn : s'.n = s0.n + 1) (hx : s'.x = s.x ++ valF al k) : StI al L0 (L.set k s') (k + 1) 0 := by
  have hk := (List.getElem?_eq_some_iff.1 hs).1
  obtain ⟨t, h1, h2, h3, h4, h5⟩ := h.now s0 hs0
  rw [hs] at h1
  obtain rfl := Option.some.inj h1
  refine ⟨by rw [List.length_set]; exact h.len, fun q t0 h0 hq => ?_, fun t0 h0 => ?_, fun q t0 h0 hq => ?_⟩
  · by_cases e : q = k
    · subst e
      rw [hs0] at h0
      obtain rfl := Option.some.inj h0
      refine ⟨s', List.getElem?_set_self hk, hl.trans h2, hn, ?_⟩
      rw [hx, h5, fillV_succ, List.drop_eq_nil_of_le (by omega), List.append_nil]
    · obtain ⟨t, g1, g2⟩ := h.done q t0 h0 (by omega)
      exact ⟨t, by rw [List.getElem?_set_ne (fun x => e x.symm)]; exact g1, g2⟩
  · refine ⟨t0, ?_, rfl, rfl, rfl, by simp [fillV]⟩
    rw [List.getElem?_set_ne (by omega)]
    exact h.rest (k + 1) t0 h0 (by omega)
  · rw [List.getElem?_set_ne (by omega)]
    exact h.rest q t0 h0 (by omega)
/-- One cell of a list being marked. -/
theorem fill_put1 {e : Value} {x0 : List Value} {j : Nat} (hj : j < x0.length) : (fillV [e] j ++ x0.drop (j * 1)).set j e = fillV [e] (j + 1) ++ x0.drop ((j + 1) * 1) := by
  have hl : (fillV [e] j).length = j := by rw [fillV_len]; simp
  rw [List.set_append_right _ _ (by omega), hl, Nat.sub_self, fillV_succ, Nat.mul_one, Nat.mul_one, List.drop_eq_getElem_cons hj]
  simp only [List.set_cons_zero, List.append_assoc, List.cons_append, List.nil_append]
theorem fill_put2 {a b : Value} {x0 : List Value} {j : Nat} (hj : j * 2 + 1 < x0.length) : ((fillV [a, b] j ++ x0.drop (j * 2)).set (j * 2) a).set (j * 2 + 1) b = fillV [a, b] (j + 1) ++ x0.drop ((j + 1) * 2) := by
  have hl : (fillV [a, b] j).length = j * 2 := by rw [fillV_len]; simp
  rw [List.set_append_right _ _ (by omega), hl, Nat.sub_self, List.set_append_right _ _ (by omega), hl, Nat.add_sub_cancel_left, fillV_succ, List.drop_eq_getElem_cons (show j * 2 < x0.length by omega), List.drop_eq_getElem_cons hj]
  simp only [List.set_cons_zero, List.set_cons_succ, List.append_assoc, List.cons_append, List.nil_append]
  rw [show (j + 1) * 2 = j * 2 + 1 + 1 by omega]

section
variable {w : World} {base n : Nat} {e : TypeId} {sz : Nat} {v : Value} {x : List Value}
/-- append of one, as one step of a region that draws its order, out of a new block of one element. -/
theorem step_append_S {P : Program} {ops : Array Oper} {o : Oper} {a : Act} {K : Act → World → Prop} {Q : Exit → Act → World → Prop} {E : Prop} (h0 : w.ownsRow 0 e sz v n x) (hgd : o.guard = none) (s q : Operand) (t : TypeId)
    (ho : o.op = .call { callee := .builtin .append, args := #[s, q], argTypes := #[t, t] }) {z : Value} {bytes c H : Nat} (ht : P.underlying t = some (.slice e)) (hi : (P.info? e).map (fun i => (i.zero, i.size, i.bytes)) = some (some z, sz, bytes))
    (hzs : z.cells.size = sz) (hsz : 0 < sz) (hs : a.eval s = v) (ncs : Array Value) (T : TypeId) (hq : a.eval q = .slice (some ⟨H, 0, none⟩) 1 c) (hH : w.heap.size = H)
    (hln : ncs.toList.length = sz) (hone : ∀ u ∈ ncs.toList, u.oneCell' = true) (hn : n ≤ 40000000) (hb : bytes ≤ 1000)
    (k : ∀ g cap w', w'.ownsRow 0 e sz (.slice (some ⟨g, 0, none⟩) (n + 1) cap) (n + 1) (x ++ ncs.toList) → Turns v.ownBlock.toList w w' → (v.ownBlock = some g ∨ w.heap.size ≤ g) → g < w'.heap.size →
      K (a.put o.dst (.slice (some ⟨g, 0, none⟩) (n + 1) cap)) w') : if Region.wanted o (yielded ops a.tmps) = true then Oper.wp P o a (w.alloc (.cells ncs T)).drew K Q else E := by
  subst hH
  obtain ⟨i0, hi0, hz0, hz1, hz2⟩ := info_parts hi
  have hbl : Below w.heap.size w (w.alloc (.cells ncs T)).drew := ((Below.refl w.heap.size w).alloc (Nat.le_refl _) (.cells ncs T)).drew
  have h1 := ownsRow_turns h0 (Turns.of_below (S := []) hbl) (fun _ _ => by simp)
  refine step_append1s (w.alloc (.cells ncs T)).drew hgd s q t ho 0 e i0 z sz bytes ht hi0 hz0 hz1 hz2 hzs hsz v n x hs h1 ⟨w.heap.size, 0, none⟩ c ncs.toList hq (by rw [hln, Nat.one_mul]) ?_ hone hn hb (Nat.zero_le _) _ rfl ?_
  · exact World.news_of_block (heap_alloc_new w (.cells ncs T))
  · intro g cap w' hown hgrow hat hlt
    have T1 : Turns v.ownBlock.toList w w' := ((((Turns.refl [] w).alloc (.cells ncs T)).drew).mono (by simp)).trans (Turns.of_grown hgrow) (fun x hx => .inl hx)
    refine k g cap w' hown T1 ?_ hlt
    rcases hat with h | h
    · exact .inl h
    · exact .inr (by have := h.1; simp at this; omega)
/-- The same where nothing is drawn. -/
theorem wpList_append_S {P : Program} {ops : Array Oper} {rest : List Oper} {o : Oper} {a : Act} {Q : Exit → Act → World → Prop} (h0 : w.ownsRow 0 e sz v n x) (hgd : o.guard = none) (s q : Operand) (t : TypeId)
    (ho : o.op = .call { callee := .builtin .append, args := #[s, q], argTypes := #[t, t] }) {z : Value} {bytes c H : Nat} (ht : P.underlying t = some (.slice e)) (hi : (P.info? e).map (fun i => (i.zero, i.size, i.bytes)) = some (some z, sz, bytes))
    (hzs : z.cells.size = sz) (hsz : 0 < sz) (hs : a.eval s = v) (ncs : Array Value) (T : TypeId) (hq : a.eval q = .slice (some ⟨H, 0, none⟩) 1 c) (hH : w.heap.size = H)
    (hln : ncs.toList.length = sz) (hone : ∀ u ∈ ncs.toList, u.oneCell' = true) (hn : n ≤ 40000000) (hb : bytes ≤ 1000)
    (k : ∀ g cap w', w'.ownsRow 0 e sz (.slice (some ⟨g, 0, none⟩) (n + 1) cap) (n + 1) (x ++ ncs.toList) → Turns v.ownBlock.toList w w' → (v.ownBlock = some g ∨ w.heap.size ≤ g) → g < w'.heap.size →
      wpList P ops Q rest (a.put o.dst (.slice (some ⟨g, 0, none⟩) (n + 1) cap)) w') : wpList P ops Q (o :: rest) a (w.alloc (.cells ncs T)) := by
  subst hH
  obtain ⟨i0, hi0, hz0, hz1, hz2⟩ := info_parts hi
  have hbl : Below w.heap.size w (w.alloc (.cells ncs T)) := (Below.refl w.heap.size w).alloc (Nat.le_refl _) (.cells ncs T)
  have h1 := ownsRow_turns h0 (Turns.of_below (S := []) hbl) (fun _ _ => by simp)
  refine wpList_append1s (w.alloc (.cells ncs T)) hgd s q t ho 0 e i0 z sz bytes ht hi0 hz0 hz1 hz2 hzs hsz v n x hs h1 ⟨w.heap.size, 0, none⟩ c ncs.toList hq (by rw [hln, Nat.one_mul]) ?_ hone hn hb (Nat.zero_le _) _ rfl ?_
  · exact World.news_of_block (heap_alloc_new w (.cells ncs T))
  · intro g cap w' hown hgrow hat hlt
    have T1 : Turns v.ownBlock.toList w w' := (((Turns.refl [] w).alloc (.cells ncs T)).mono (by simp)).trans (Turns.of_grown hgrow) (fun x hx => .inl hx)
    refine k g cap w' hown T1 ?_ hlt
    rcases hat with h | h
    · exact .inl h
    · exact .inr (by have := h.1; simp at this; omega)
end
/-- The form of a row of the call's own. -/
theorem own_formS {w : World} {base n : Nat} {e : TypeId} {sz : Nat} {v : Value} {x : List Value} (h : w.ownsRow base e sz v n x) : ∃ A c, v = .slice A n c ∧ (0 < n → ∃ g, A = some ⟨g, 0, none⟩) := by
  rcases h.2 with ⟨rfl, h0⟩ | ⟨g, cap, cur, rfl, _⟩
  · exact ⟨none, 0, by rw [h0], fun h => by omega⟩
  · exact ⟨_, cap, rfl, fun _ => ⟨g, rfl⟩⟩
/-- The lists of a plan that is handed to `full`. -/
structure FS0 (W : World) (S0 : List Nat) (A N al : Nat) (L : List Slo) : Prop where
  own : ∀ (k : Nat) (s : Slo), L[k]? = some s → W.ownsRow 0 s.e s.sz s.v s.n s.x
  apart : ∀ (k k' : Nat) (s s' : Slo) (b : Nat), L[k]? = some s → L[k']? = some s' → s.v.ownBlock = some b → s'.v.ownBlock = some b → k = k'
  out : ∀ (k : Nat) (s : Slo), L[k]? = some s → W.cell? ⟨plB al A N k, plO al k, none⟩ = some s.v
  rowA : 0 < al → ∃ cur, W.heap[A]? = some (.cells cur 54 (0, 0))
  rowN : ∃ cur, W.heap[N]? = some (.cells cur 40 (0, 0))
  foot : ∀ (k : Nat) (s : Slo) (b : Nat), L[k]? = some s → s.v.ownBlock = some b → b ∈ S0
  hA : 0 < al → A ∈ S0
  hN : N ∈ S0
theorem FS0.start {W : World} {S0 : List Nat} {A N al : Nat} {L : List Slo} (h : FS0 W S0 A N al L) (pl : Array Value) : FS W S0 pl A N al (W.alloc (.cells pl 26)) L := by
  have hb : Below W.heap.size W (W.alloc (.cells pl 26)) := (Below.refl _ _).alloc (Nat.le_refl _) _
  have T : Turns ([] : List Nat) W (W.alloc (.cells pl 26)) := Turns.of_below hb
  have hN := h.rowN
  obtain ⟨cn, hcn⟩ := hN
  have hlt : ∀ k, plB al A N k < W.heap.size := by
    intro k
    unfold plB
    split
    · obtain ⟨c, hc⟩ := h.rowA (by omega); exact lt_of_heap hc
    · exact lt_of_heap hcn
  refine ⟨heap_alloc_new W _, ?_, h.apart, ?_, ?_, ?_, ?_, ?_, ?_, ?_⟩
  · exact fun k s hs => ownsRow_turns (h.own k s hs) T (fun _ _ => by simp)
  · intro q t hq
    rw [← h.out q t hq]
    exact T.cell (hlt q) (by simp)
  · intro ha
    obtain ⟨c, hc⟩ := h.rowA ha
    exact ⟨c, (hb.block _ (lt_of_heap hc)).trans hc⟩
  · exact ⟨cn, (hb.block _ (lt_of_heap hcn)).trans hcn⟩
  · exact fun k s b hs hb => .inl (h.foot k s b hs hb)
  · exact T.mono (by simp)
  · intro ha
    obtain ⟨c, hc⟩ := h.rowA ha
    exact ⟨h.hA ha, lt_of_heap hc⟩
  · exact ⟨h.hN, lt_of_heap hcn⟩
end Go.Proofs.YtonkbjdeaneicaaDoor
