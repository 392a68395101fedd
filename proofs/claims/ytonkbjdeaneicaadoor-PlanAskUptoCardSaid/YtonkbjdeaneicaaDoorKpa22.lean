/- A region that draws its order, whose own operations only read, and whose callees lay new blocks: one walk of the text's order serves every order. Over any program. nodesRight, walked. endsRight. -/
import Derived.Test.YtonkbjdeaneicaaDoorKpa19
import Derived.Test.YtonkbjdeaneicaaDoorKpa20
import Derived.Below
import Derived.BigQuiet
import Derived.Deep.OwnRows
import Derived.WalkKit
namespace Go.Proofs.YtonkbjdeaneicaaDoor
open Go Go.RowKit

/-- A world of the class. -/
structure Pt (S : World → Prop) where
  val : World
  property : S val

theorem wp_region_class {P : Program} {S : World → Prop} {id : Nat} {Q : Exit → Act → World → Prop} {a : Act} {w : World} {l : List Oper} (hS : S w.drew) (hm : P.follows .mixedOrders = true) (hB : Region.lexB .any l.toArray = true)
    (h : wpQuiet P l.toArray (fun w' => ∃ p : Pt S, w' = p.val) (fun a' => ∀ w', (∃ p : Pt S, w' = p.val) → Q .normal a' w') l a) : (Code.region id l.toArray true).wp P Q a w :=
  wp_region_quiet (C := fun w' => ∃ p : Pt S, w' = p.val) hm hB ⟨⟨_, hS⟩, rfl⟩ (by simpa using h)
end Go.Proofs.YtonkbjdeaneicaaDoor

namespace Go.Proofs.YtonkbjdeaneicaaDoor
open Go.RowKit Pln Classical Go.Maps

theorem infoIntM : (Tryd.prog.info? 3).map (fun i => (i.zero, i.size, i.bytes)) = some (some (.int .i64 0), 1, 8) := by kernel_rfl
theorem run_makeInts (n : Nat) (hn : n ≤ 1000000000) (w : World) : (Instr.makeSlice 24 (.int .i64 (n : Int)) (.int .i64 (n : Int))).run Tryd.prog w = .ok (.slice (some ⟨w.heap.size, 0, none⟩) n n) (w.alloc (.cells (madeCells #[.int .i64 0] n) 3)) :=
  run_make_row' 24 3 (.int .i64 0) 8 Tryd.underlying24 infoIntM rfl .i64 .i64 n (by omega) (by omega) w
theorem arr_made (w : World) (ns : List Nd) (h0 : 0 < ns.length) (hn : ns.length ≤ 1000000000) : Arr (w.alloc (.cells (madeCells #[.int .i64 0] ns.length) 3)) w.heap.size 3 (dpV ns 1) := by
  have h := Arr.new w 3 (madeCells #[.int .i64 0] ns.length) (by rw [size_madeCells]; unfold maxLen; omega)
  have e : (madeCells #[.int .i64 0] ns.length).toList = dpV ns 1 := by
    apply List.ext_getElem?
    intro i
    unfold dpV
    by_cases hi : i < ns.length
    · rw [List.getElem?_map]
      have e1 : (depS ns 1 ++ List.replicate (ns.length - 1) 0)[i]? = some 0 := by
        rcases Nat.eq_zero_or_pos i with rfl | h0
        · rfl
        · rw [List.getElem?_append_right (by rw [depS_len]; omega), depS_len, List.getElem?_replicate, if_pos (by omega)]
      rw [e1, List.getElem?_eq_getElem (by rw [Array.length_toList, size_madeCells]; exact hi)]
      simp only [madeCells, Array.toList_map, List.getElem_map]
      simp [Nat.mod_one]
    · rw [List.getElem?_eq_none (by rw [Array.length_toList, size_madeCells]; omega), List.getElem?_eq_none (by simp [depS_len]; omega)]
  rw [← e]
  exact h
theorem nrs_start (W wr : World) (pl : Array Value) (ns : List Nd) (hb : Below (W.heap.size + 1) (W.alloc (.cells pl 26)) wr) (h0 : 0 < ns.length) (hn : ns.length ≤ 1000000000) :
    NRS W (wr.heap.size + 1) wr.heap.size pl ns 1 ((wr.alloc (.map #[] 0)).alloc (.cells (madeCells #[.int .i64 0] ns.length) 3)) := by
  have b2 : Below wr.heap.size wr ((wr.alloc (.map #[] 0)).alloc (.cells (madeCells #[.int .i64 0] ns.length) 3)) := ((Below.refl _ _).alloc (Nat.le_refl _) _).alloc (by simp) _
  have ha := arr_made (wr.alloc (.map #[] 0)) ns h0 hn
  have hm : MapG Tryd.prog 110 3 (wr.alloc (.map #[] 0)) wr.heap.size 1 (fun _ => none) := by
    obtain ⟨n, D, h1, h2, h3⟩ := MapG.made (P := Tryd.prog) (k := 110) (e := 3) wr
    exact ⟨n, D, h1, by omega, h3⟩
  refine ⟨box_step hb b2, by simpa using ha, _, hm.step ((Below.refl _ _).alloc (Nat.le_refl _) _), seen_start ns⟩
theorem ndOk_root : NdOk rootN := ⟨⟨ok0, by unfold i64ok; decide, by unfold i64ok; decide, ok0, ok0, ok0, ok0⟩, by simp [rootN], by simp [rootN], by simp [rootN], by simp [rootN]⟩
theorem widths {al : List Shp} {ns : List Nd} {i : Nat} (h0 : ns[0]? = some rootN) (h : ∀ k, 1 ≤ k → k < i → nodeAt al ns k) : ∀ k, k < i → ∀ m, ns[k]? = some m → ∃ w : Nat, w ≤ 16 ∧ m.width = (w : Int) := by
  intro k
  induction k using Nat.strongRecOn with
  | _ k ih =>
    intro hk m hm
    rcases Nat.eq_zero_or_pos k with rfl | hp
    · rw [h0] at hm
      rw [← Option.some.inj hm]
      exact ⟨0, by omega, rfl⟩
    · obtain ⟨u, up, _, h2, h3, _, h5, _⟩ := h k hp hk m hm
      obtain ⟨w, h6, h7⟩ := ih u h2 (by omega) up h3
      exact nodeP_width h5 h7 h6
theorem depths {al : List Shp} {ns : List Nd} {i : Nat} (h : ∀ k, 1 ≤ k → k < i → nodeAt al ns k) (hi : i ≤ ns.length) : ∀ k, k < i → depOf ns k ≤ 16 := by
  intro k hk
  rcases Nat.eq_zero_or_pos k with rfl | hp
  · rw [depOf_zero]; omega
  · obtain ⟨_, _, _, _, _, h4, _⟩ := h k hp hk _ (List.getElem?_eq_getElem (by omega))
    exact h4
/-- Behind the store into the map. -/
theorem NRS.done {W w9 w10 : World} {D mb : Nat} {pl : Array Value} {ns : List Nd} {i : Nat} {f : Value → Option Int} (hb : Below (W.heap.size + 1) (W.alloc (.cells pl 26)) w9) (hd : Arr w9 D 3 (dpV ns (i + 1))) (hfar : D ≠ mb) (hmb : W.heap.size + 1 ≤ mb)
    (hm : MapG Tryd.prog 110 3 w10 mb (i + 1) f) (hs : Seen ns (i + 1) f) (hg : w9.grownBy w10 (some mb)) : NRS W D mb pl ns (i + 1) w10 := by
  have ht : Turns [mb] w9 w10 := by simpa using Turns.of_grown hg
  have h1 := hb.size
  simp at h1
  exact ⟨hb.trans (ht.below (by omega) (fun x hx => by rw [List.mem_singleton.1 hx]; exact hmb)), hd.turns ht (by simpa using hfar), f, hm, hs⟩
/-- asksOf, whatever the node. -/
theorem asksAnyW {F : Nat → Prop} {cs : List Value} {lv nv : Value} (n : Nd) (W : World) (h : ENd F W cs n lv nv) :
    ∃ (K : Array Value) (b : Bool), K.size = 35 ∧ K.all (·.oneCell') = true ∧ ((b = true ∧ K = askA n ∧ NdOk n) ∨ (b = false ∧ (8 < n.links.length ∨ 8 < n.new.length))) ∧ ∀ Wx, Below W.heap.size W Wx →
      Calls Tryd.prog 62 #[.agg #[.int .i64 n.kind, .int .i64 n.parent, .int .i64 n.alpha, lv, nv, .int .i64 n.test.op, .bool n.test.l.v, .int .i64 n.test.l.n, .bool n.test.r.v, .int .i64 n.test.r.n, .int .i64 n.width]] Wx fun e w' => e = .returned (.tuple #[.agg K, .bool b]) ∧ Below Wx.heap.size Wx w' := by
  by_cases h1 : n.links.length ≤ 8 ∧ n.new.length ≤ 8
  · exact ⟨askA n, true, rfl, askA_one n, .inl ⟨rfl, rfl, ndOk_of h h1.1 h1.2⟩, fun Wx hb => asksW n Wx (h.kp (F' := F) (Kp.of_below hb) (fun _ _ h => h)) h1.1 h1.2⟩
  · have h2 : 8 < n.links.length ∨ 8 < n.new.length := by omega
    exact ⟨zeroA, false, rfl, zero_one, .inr ⟨rfl, h2⟩, fun Wx hb => asksBigW n Wx (h.kp (F' := F) (Kp.of_below hb) (fun _ _ h => h)) h2⟩

set_option maxRecDepth 200000 in
set_option maxHeartbeats 8000000 in
theorem nodesW {F : Nat → Prop} (W : World) (av nv ev : Value) (al : List Shp) (ns : List Nd) (hA : RSl F W 2 (EShp F W) av al) (hN : RSl F W 11 (ENode F W) nv ns) (hS : shapesP al ns) (hm : ns.length ≤ 1000000000) (hml : ∀ n ∈ ns, n.new.length ≤ 1000000000) :
    Calls Tryd.prog 39 #[.agg #[av, nv, ev]] W fun e W' => e = .returned (.bool (decide (nodesP al ns))) ∧ Below W.heap.size W W' := by
  obtain ⟨R, hR⟩ : ∃ R, decide (nodesP al ns) = R := ⟨_, rfl⟩
  rw [hR]
  have HR := Lib.hid hR
  clear hR
  obtain ⟨Aa, ca, rfl⟩ := hA.form
  rcases Nat.eq_zero_or_pos ns.length with hz | hpos
  · obtain ⟨An, cn, rfl⟩ := hN.form
    have HF := Lib.hid (show R = false by
      rw [← HR.out]
      refine decide_eq_false (fun h => ?_)
      have := (List.getElem?_eq_some_iff.1 h.1).1
      omega)
    clear hN hA hS hml
    rw [hz]
    go_enter Tryd.func39, Tryd.ntmps39
    go_wp2
    go_ret
    exact ⟨by rw [HF.out]; rfl, (Below.refl _ _).alloc (Nat.le_refl _) _⟩
  · obtain ⟨nb, no, cn, rfl, -, hnb, -⟩ := RSl.base hN hpos
    obtain ⟨n, hn⟩ : ∃ n, ns[0]? = some n := ⟨_, List.getElem?_eq_getElem hpos⟩
    obtain ⟨nb', no', ncs, hA', ⟨lv, mv, hE⟩, hc⟩ := hN.rd hn
    simp only [Option.some.injEq, Addr.mk.injEq, and_true] at hA'
    obtain ⟨rfl, rfl⟩ := hA'
    have hcs := hE.cells
    subst hcs
    obtain ⟨K, b, hK1, hK2, hKb, hKW⟩ := asksAnyW n W hE
    obtain ⟨Al, cl, rfl⟩ := hE.links.form
    obtain ⟨Am, cm, rfl⟩ := hE.new.form
    have hB1 : Below W.heap.size W (W.alloc (.cells #[.slice Aa al.length ca, .slice (some ⟨nb, no, none⟩) ns.length cn, ev] 26)) := (Below.refl _ _).alloc (Nat.le_refl _) _
    have cc := hc _ hB1
    have c0 := cc 0 _ rfl
    have c1 := cc 1 _ rfl
    have c2 := cc 2 _ rfl
    have c3 := cc 3 _ rfl
    have c4 := cc 4 _ rfl
    have c5 := cc 5 _ rfl
    have c6 := cc 6 _ rfl
    have c7 := cc 7 _ rfl
    have c8 := cc 8 _ rfl
    have c9 := cc 9 _ rfl
    have c10 := cc 10 _ rfl
    simp only [Nat.add_zero, Nat.zero_mul] at c0 c1 c2 c3 c4 c5 c6 c7 c8 c9 c10
    have KW := Lib.hid (hKW _ hB1)
    have AW := Lib.hid (fun Wx => asksW (F := fun _ => True) rootN Wx (cs := [.int .i64 0, .int .i64 (-1), .int .i64 (-1), .slice none 0 0, .slice none 0 0, .int .i64 0, .bool false, .int .i64 0, .bool false, .int .i64 0, .int .i64 0]) (lv := .slice none 0 0) (nv := .slice none 0 0) ⟨rfl, ⟨ok0, by unfold i64ok; decide, by unfold i64ok; decide, ok0, ok0, ok0, ok0⟩, RSl.nil, RSl.nil⟩ (by simp [rootN]) (by simp [rootN]))
    have HA := Lib.hid hA
    have HN := Lib.hid hN
    have HSP := Lib.hid hS
    have HML := Lib.hid hml
    have HN0 := Lib.hid hn
    have HK1 := Lib.hid hK1
    have HK2 := Lib.hid hK2
    have HKB := Lib.hid hKb
    have e0 : ¬ (ns.length : Int) = 0 := by omega
    have e1 : (0 : Int) < (ns.length : Int) := by omega
    clear hN hA hS hml hn hK1 hK2 hKb hKW hE hc cc
    go_enter Tryd.func39, Tryd.ntmps39
    go_wp2_with (first
      | (go_at_call 62; refine KW.out.mono ?_; rintro e w2 ⟨rfl, hb2⟩; have HB2 := Lib.hid (hb2.mono (show W.heap.size + 1 ≤ _ by simp)); clear hb2)
      | (with_reducible refine stop_store rfl 110 (.tmp 3) (.tmp 25) rfl ?_))
    refine Lib.hid ?_
    refine wpList_store_new rfl 110 (.tmp 3) (.tmp 25) rfl w2.heap.size rfl _ K _ rfl rfl (by rw [HK1.out]; exact sizeAsk) (by rw [HK1.out]; rfl) HK2.out ?_
    have hB3 := HB2.out.trans (((Below.refl w2.heap.size w2).alloc (Nat.le_refl _) (.cells K 110)).mono (by have := HB2.out.size; simpa using this))
    have hrow3 : (w2.alloc (.cells K 110)).heap[w2.heap.size]? = some (.cells K 110 (0, 0)) := heap_alloc_new w2 _
    generalize w2.alloc (.cells K 110) = w3 at hB3 hrow3 ⊢
    have HB3 := Lib.hid hB3
    have HR3 := Lib.hid hrow3
    clear hB3 hrow3 c0 c1 c2 c3 c4 c5 c6 c7 c8 c9 c10 KW
    generalize w2.heap.size = g1 at HR3 ⊢
    go_wp2_with (first
      | (go_at_call 42; refine (rootW _).mono ?_; rintro e w4 ⟨rfl, hb4⟩; have HB4 := Lib.hid hb4; clear hb4)
      | (go_at_call 62; refine (AW.out _).mono ?_; rintro e w5 ⟨rfl, hb5⟩; have HB5 := Lib.hid hb5; clear hb5)
      | (with_reducible refine stop_store rfl 110 (.tmp 5) (.tmp 30) rfl ?_))
    refine Lib.hid ?_
    refine wpList_store_new rfl 110 (.tmp 5) (.tmp 30) rfl w5.heap.size rfl _ (askA rootN) _ rfl rfl sizeAsk rfl (askA_one rootN) ?_
    have hB56 : Below w5.heap.size w5 (w5.alloc (.cells (askA rootN) 110)) := (Below.refl _ _).alloc (Nat.le_refl _) _
    have hB35 := HB4.out.trans (HB5.out.mono HB4.out.size)
    have hB36 := hB35.trans (hB56.mono hB35.size)
    have hB6 := box_step HB3.out hB36
    have hrow6 : (w5.alloc (.cells (askA rootN) 110)).heap[w5.heap.size]? = some (.cells (askA rootN) 110 (0, 0)) := heap_alloc_new w5 _
    have hrow6k := (hB36.block _ (lt_of_heap HR3.out)).trans HR3.out
    generalize w5.alloc (.cells (askA rootN) 110) = w6 at hB6 hrow6 hrow6k hB36 hB56 ⊢
    have HB6 := Lib.hid hB6
    have HR6 := Lib.hid hrow6
    have HR6k := Lib.hid hrow6k
    clear hB6 hrow6 hrow6k hB35 hB36 hB56 AW
    generalize w5.heap.size = g2 at HR6 ⊢
    rcases HKB.out with ⟨rfl, rfl, hok⟩ | ⟨rfl, hbig⟩
    · have HOK0 := Lib.hid hok
      clear hok HKB
      go_wp2_with (with_reducible refine stop_load_g rfl 110 (.tmp 3) rfl ?_)
      refine Lib.hid ?_
      refine wpList_val (by rfl) _ (run_load_row 110 (.tmp 3) rfl g1 rfl 110 (askA n) (0, 0) _ HR6k.out Tryd.underlying110 rfl sizeAsk) ?_
      refine wpList_val (by rfl) _ (run_load_row 110 (.tmp 5) rfl g2 rfl 110 (askA rootN) (0, 0) _ HR6.out Tryd.underlying110 rfl sizeAsk) ?_
      refine wpList_val (by rfl) _ (run_neq_ask (n := n) (m := rootN) (.tmp 35) (.tmp 36) 110 rfl rfl rfl HOK0.out ndOk_root) ?_
      by_cases hroot : n = rootN
      · rw [decide_eq_true hroot]
        have hmm := @run_makeMap Tryd.prog
        have hmk := run_makeInts ns.length hm
        have y1 := box_cellL HB6.out 1 rfl
        have y2 := box_cellL (box_step HB6.out ((Below.refl _ _).alloc (Nat.le_refl _) (.map #[] 0))) 1 rfl
        have P0 := Lib.hid (nrs_start W w6 _ ns HB6.out hpos hm)
        have hr0 : ns[0]? = some rootN := by rw [HN0.out, hroot]
        have HR0 := Lib.hid hr0
        have hsz6 : W.heap.size + 1 ≤ w6.heap.size := by have := HB6.out.size; simp at this; omega
        clear hroot hr0
        go_wp2_with fail
        clear hmm hmk y1 y2
        obtain ⟨D, hD⟩ : ∃ D, D = w6.heap.size + 1 := ⟨_, rfl⟩
        obtain ⟨mb, hmb⟩ : ∃ mb, mb = w6.heap.size := ⟨_, rfl⟩
        rw [← hD, ← hmb] at P0 ⊢
        have hDm : D ≠ mb := by omega
        have hD1 : W.heap.size + 1 ≤ D := by omega
        have hm1 : W.heap.size + 1 ≤ mb := by omega
        clear hD hmb
        have g0 : (1 : Int) ≤ (ns.length : Int) := by omega
        go_loopw [9] (fun iv wr => ∃ i : Nat, iv = .int .i64 i ∧ 1 ≤ i ∧ i ≤ ns.length ∧ (∀ k, 1 ≤ k → k < i → nodeAt al ns k) ∧ NRS W D mb #[.slice Aa al.length ca, .slice (some ⟨nb, no, none⟩) ns.length cn, ev] ns i wr) (fun i _ => ns.length - (intOf i).toNat)
        case atStart => exact ⟨1, rfl, Nat.le_refl _, hpos, fun k h1 h2 => by omega, P0.out⟩
        case round =>
          obtain ⟨i, rfl, hi1, hi, hV, hS⟩ := hrel
          clear P0
          have y1 := box_cellL hS.below 1 rfl
          by_cases hin : i < ns.length
          · obtain ⟨m, hm⟩ : ∃ m, ns[i]? = some m := ⟨_, List.getElem?_eq_getElem hin⟩
            obtain ⟨nb', no', mcs, hA', ⟨lv, mv, hE⟩, hc⟩ := HN.out.rd hm
            simp only [Option.some.injEq, Addr.mk.injEq, and_true] at hA'
            obtain ⟨rfl, rfl⟩ := hA'
            have hcs := hE.cells
            subst hcs
            obtain ⟨Bl, dl, rfl⟩ := hE.links.form
            obtain ⟨Bm, dm, rfl⟩ := hE.new.form
            have cc := hc _ (box_below hS.below)
            have c0 := cc 0 _ rfl
            have c1 := cc 1 _ rfl
            have c2 := cc 2 _ rfl
            have c3 := cc 3 _ rfl
            have c4 := cc 4 _ rfl
            have c5 := cc 5 _ rfl
            have c6 := cc 6 _ rfl
            have c7 := cc 7 _ rfl
            have c8 := cc 8 _ rfl
            have c9 := cc 9 _ rfl
            have c10 := cc 10 _ rfl
            simp only [Nat.add_zero] at c0
            have e2 : (0 : Int) ≤ (i : Int) := by omega
            have e3 : (i : Int) < (ns.length : Int) := by omega
            obtain ⟨wa, hwa⟩ : ∃ wa, wa = wr.alloc (.cells #[.int .i64 m.kind, .int .i64 m.parent, .int .i64 m.alpha, .slice Bl m.links.length dl, .slice Bm m.new.length dm, .int .i64 m.test.op, .bool m.test.l.v, .int .i64 m.test.l.n, .bool m.test.r.v, .int .i64 m.test.r.n, .int .i64 m.width] 40) := ⟨_, rfl⟩
            have hba : Below wr.heap.size wr wa := by rw [hwa]; exact (Below.refl _ _).alloc (Nat.le_refl _) _
            have hrow : wa.heap[wr.heap.size]? = some (.cells #[.int .i64 m.kind, .int .i64 m.parent, .int .i64 m.alpha, .slice Bl m.links.length dl, .slice Bm m.new.length dm, .int .i64 m.test.op, .bool m.test.l.v, .int .i64 m.test.l.n, .bool m.test.r.v, .int .i64 m.test.r.n, .int .i64 m.width] 40 (0, 0)) := by rw [hwa]; exact heap_alloc_new wr _
            have hSa := hS.step hba
            have z1 := rboxL hrow 1 rfl
            have HI := Lib.hid hin
            have HM := Lib.hid hm
            have HE := Lib.hid hE
            have HV := Lib.hid hV
            have HSA := Lib.hid hSa
            have HROW := Lib.hid hrow
            have hDlt := hS.dep.lt
            have NO := Lib.hid (show ¬ nodeAt al ns i → R = false from fun h => by
              rw [← HR.out]
              exact decide_eq_false (fun h2 => h (h2.2 i hi1 HI.out)))
            clear hc cc hin hm hE hV hSa hrow hba hS
            go_upto_region 13 with fail
            rw [← hwa]
            clear hwa c0 c1 c2 c3 c4 c5 c6 c7 c8 c9 c10 y1
            by_cases hp0 : 0 ≤ m.parent
            · obtain ⟨u, hu⟩ : ∃ u : Nat, m.parent = (u : Int) := ⟨m.parent.toNat, by omega⟩
              have HU := Lib.hid hu
              rw [hu] at z1
              have f1 : ¬ (u : Int) < 0 := by omega
              clear hp0 hu
              by_cases hui : u < i
              · have f2 : ¬ (i : Int) ≤ (u : Int) := by omega
                have f3 : (0 : Int) ≤ (u : Int) := by omega
                have f4 : (u : Int) < (ns.length : Int) := by omega
                have hdu := depths HV.out hi u hui
                have hpo : parentOf ns i = u := by unfold parentOf; rw [HM.out]; simp only; rw [HU.out, Int.toNat_natCast]
                have hdi := depOf_next hpo hui
                have d0 := HSA.out.dep.cell (dpV_at ns hui)
                have d1 := HSA.out.dep.frozen i
                obtain ⟨x0, hx0⟩ : ∃ x0, (dpV ns i)[i]? = some x0 := ⟨_, List.getElem?_eq_getElem (by rw [dpV_len ns hi]; exact HI.out)⟩
                have d2 := HSA.out.dep.cell hx0
                clear hx0
                have f5 : IntKind.i64.wrap ((depOf ns u : Int) + 1) = (depOf ns i : Int) := by rw [hdi, IntWalk.i64_in _ (by omega)]; simp
                obtain ⟨du, hdu2⟩ : ∃ du, depOf ns u = du := ⟨_, rfl⟩
                obtain ⟨di, hdi2⟩ : ∃ di, depOf ns i = di := ⟨_, rfl⟩
                have hput := HSA.out.put hD1 HI.out
                rw [hdi2] at hput f5 hdi
                rw [hdu2] at d0 f5 hdi
                rw [hdu2] at hdu
                obtain ⟨wd, hwd⟩ : ∃ wd, wd = wa.setCell ⟨D, i, none⟩ (.int .i64 (di : Int)) := ⟨_, rfl⟩
                rw [← hwd] at hput
                obtain ⟨f, p1, p2, p3, p4, p5⟩ := hput
                have hrowd := (p5.block wr.heap.size (lt_of_heap HROW.out) (by simp; omega)).trans HROW.out
                have HDI := Lib.hid hdi2
                have HP1 := Lib.hid p1
                have HP2 := Lib.hid p2
                have HP3 := Lib.hid p3
                have HP4 := Lib.hid p4
                have HRD := Lib.hid hrowd
                clear hdi2 hdu2 p1 p2 p3 p4 p5 hrowd hdi hpo
                go_upto_region 16 with fail
                rw [← hwd]
                clear hwd d0 d1 d2 z1 f5
                obtain ⟨up, hup⟩ : ∃ up, ns[u]? = some up := ⟨_, List.getElem?_eq_getElem (by omega)⟩
                obtain ⟨w, hw16, hwu⟩ := widths HR0.out HV.out u hui up hup
                obtain ⟨nb', no', ucs, hA', ⟨ulv, umv, hEU⟩, hcu⟩ := HN.out.rd hup
                simp only [Option.some.injEq, Addr.mk.injEq, and_true] at hA'
                obtain ⟨rfl, rfl⟩ := hA'
                have hcs := hEU.cells
                subst hcs
                obtain ⟨Cl, el, rfl⟩ := hEU.links.form
                obtain ⟨Cm, em, rfl⟩ := hEU.new.form
                have hbW := box_below HP1.out
                have CY := Lib.hid (fun (Wx : World) (hb : Below wd.heap.size wd Wx) => nodeRW Wx _ (.slice (some ⟨nb, no, none⟩) ns.length cn) ev al (RSl.kp HA.out (Kp.of_below (hbW.trans (hb.mono hbW.size))) (fun _ _ h => h) (fun _ _ h => h.kp (Kp.of_below (hbW.trans (hb.mono hbW.size))) (fun _ _ h => h))) m _ _ _ (HE.out.kp (F' := F) (Kp.of_below (hbW.trans (hb.mono hbW.size))) (fun _ _ h => h)) up _ _ _ (hEU.kp (F' := F) (Kp.of_below (hbW.trans (hb.mono hbW.size))) (fun _ _ h => h))
                  (fun hk => shapes_at HSP.out (List.mem_of_getElem? HM.out) hk) w hw16 hwu (HML.out m (List.mem_of_getElem? HM.out)))
                rw [HU.out] at HRD CY
                rw [hwu] at CY
                obtain ⟨S, hSe⟩ : ∃ S, S = fun Wx => Below wd.heap.size wd Wx := ⟨_, rfl⟩
                have bn := fun (p : Pt S) => (congrFun hSe p.val).mp p.property
                have hlr := lt_of_heap HRD.out
                have hDl := HP2.out.lt
                have q0 := fun (p : Pt S) => rboxL (((bn p).block _ hlr).trans HRD.out) 0 rfl
                have q1 := fun (p : Pt S) => rboxL (((bn p).block _ hlr).trans HRD.out) 1 rfl
                have q2 := fun (p : Pt S) => rboxL (((bn p).block _ hlr).trans HRD.out) 2 rfl
                have q3 := fun (p : Pt S) => rboxL (((bn p).block _ hlr).trans HRD.out) 3 rfl
                have q4 := fun (p : Pt S) => rboxL (((bn p).block _ hlr).trans HRD.out) 4 rfl
                have q5 := fun (p : Pt S) => rboxL (((bn p).block _ hlr).trans HRD.out) 5 rfl
                have q6 := fun (p : Pt S) => rboxL (((bn p).block _ hlr).trans HRD.out) 6 rfl
                have q7 := fun (p : Pt S) => rboxL (((bn p).block _ hlr).trans HRD.out) 7 rfl
                have q8 := fun (p : Pt S) => rboxL (((bn p).block _ hlr).trans HRD.out) 8 rfl
                have q9 := fun (p : Pt S) => rboxL (((bn p).block _ hlr).trans HRD.out) 9 rfl
                have q10 := fun (p : Pt S) => rboxL (((bn p).block _ hlr).trans HRD.out) 10 rfl
                have y0 := fun (p : Pt S) => box_cellL (box_step HP1.out (bn p)) 0 rfl
                have y1 := fun (p : Pt S) => box_cellL (box_step HP1.out (bn p)) 1 rfl
                have y2 := fun (p : Pt S) => box_cellL (box_step HP1.out (bn p)) 2 rfl
                have hd0 := dpV_at ns (show i < i + 1 by omega)
                rw [HDI.out] at hd0
                have d0 := fun (p : Pt S) => ((bn p).cell (p := ⟨D, i, none⟩) hDl).trans (HP2.out.cell hd0)
                have xx := fun (p : Pt S) => hcu p.val (hbW.trans ((bn p).mono hbW.size))
                have x0 := fun (p : Pt S) => xx p 0 _ rfl
                have x1 := fun (p : Pt S) => xx p 1 _ rfl
                have x2 := fun (p : Pt S) => xx p 2 _ rfl
                have x3 := fun (p : Pt S) => xx p 3 _ rfl
                have x4 := fun (p : Pt S) => xx p 4 _ rfl
                have x5 := fun (p : Pt S) => xx p 5 _ rfl
                have x6 := fun (p : Pt S) => xx p 6 _ rfl
                have x7 := fun (p : Pt S) => xx p 7 _ rfl
                have x8 := fun (p : Pt S) => xx p 8 _ rfl
                have x9 := fun (p : Pt S) => xx p 9 _ rfl
                have x10 := fun (p : Pt S) => xx p 10 _ rfl
                simp only [Nat.add_zero] at x0
                rw [hwu] at x10
                clear hwu
                have NE : Nonempty (Pt S) := ⟨⟨wd, (congrFun hSe wd).mpr (Below.refl _ _)⟩⟩
                have HDD := Lib.hid ((congrFun hSe wd.drew).mpr (Below.refl _ _).drew)
                have SE := Lib.hid hSe
                have KPP := Lib.hid bn
                have HUP := Lib.hid hup
                clear hSe bn hcu xx hd0 hup hEU hlr hDl hbW
                by_cases h16 : di ≤ 16
                · have f6 : ¬ (16 : Int) < (di : Int) := by omega
                  have f7 : decide ((16 : Int) < (di : Int)) = false := decide_eq_false f6
                  have f8 : decide (16 < di) = false := decide_eq_false (by omega)
                  have H16 := Lib.hid h16
                  by_cases hnp : nodeP al m up
                  · rw [decide_eq_true hnp] at CY
                    have HNP := Lib.hid hnp
                    clear hnp h16
                    go_wp2_with fail
                    refine wp_region_class (S := S) HDD.out (by kernel_rfl) (by kernel_rfl) ?_
                    repeat (go_big_quiet_step ((go_at_call 63; refine (CY.out _ (KPP.out _)).mono ?_; rintro e w' ⟨rfl, hbel⟩; exact ⟨rfl, ⟨w', (congrFun SE.out w').mpr ((KPP.out _).trans (hbel.mono (KPP.out _).size))⟩, rfl⟩)))
                    refine wpQuiet_nil ?_
                    rintro wq ⟨⟨_, hW⟩, rfl⟩
                    have HF := Lib.hid ((congrFun SE.out wq).mp hW)
                    clear q0 q1 q2 q3 q4 q5 q6 q7 q8 q9 q10 y0 y1 y2 d0 x0 x1 x2 x3 x4 x5 x6 x7 x8 x9 x10 NE hW
                    have hbq := (box_step HP1.out HF.out)
                    have hrq := (HF.out.block _ (lt_of_heap HRD.out)).trans HRD.out
                    have q0 := rboxL hrq 0 rfl
                    have q1 := rboxL hrq 1 rfl
                    have q2 := rboxL hrq 2 rfl
                    have q3 := rboxL hrq 3 rfl
                    have q4 := rboxL hrq 4 rfl
                    have q5 := rboxL hrq 5 rfl
                    have q6 := rboxL hrq 6 rfl
                    have q7 := rboxL hrq 7 rfl
                    have q8 := rboxL hrq 8 rfl
                    have q9 := rboxL hrq 9 rfl
                    have q10 := rboxL hrq 10 rfl
                    have hlens := nodeP_lens HNP.out (fun hk => shapes_at HSP.out (List.mem_of_getElem? HM.out) hk)
                    have hok := ndOk_of HE.out hlens.1 hlens.2
                    have KW := asksW m wq (HE.out.kp (F' := F) (Kp.of_below (box_below hbq)) (fun _ _ h => h)) hlens.1 hlens.2
                    rw [HU.out] at KW
                    have KW2 := Lib.hid KW
                    have HOK := Lib.hid hok
                    have HBQ := Lib.hid hbq
                    clear hbq hrq hlens hok KW CY f6 f7 f8
                    go_wp2_with (first
                      | (go_at_call 62; refine KW2.out.mono ?_; rintro e w8 ⟨rfl, hb8⟩; have HB8 := Lib.hid hb8; clear hb8)
                      | (with_reducible refine stop_store rfl 110 (.tmp 11) (.tmp 94) rfl ?_))
                    refine Lib.hid ?_
                    refine wpList_store_new rfl 110 (.tmp 11) (.tmp 94) rfl w8.heap.size rfl _ (askA m) _ rfl rfl sizeAsk rfl (askA_one m) ?_
                    have hB89 : Below w8.heap.size w8 (w8.alloc (.cells (askA m) 110)) := (Below.refl _ _).alloc (Nat.le_refl _) _
                    have hBq9 := HB8.out.trans (hB89.mono HB8.out.size)
                    have hrow9 : (w8.alloc (.cells (askA m) 110)).heap[w8.heap.size]? = some (.cells (askA m) 110 (0, 0)) := heap_alloc_new w8 _
                    generalize w8.alloc (.cells (askA m) 110) = w9 at hB89 hBq9 hrow9 ⊢
                    have hBd9 := HF.out.trans (hBq9.mono HF.out.size)
                    have HB9 := Lib.hid (box_step HP1.out hBd9)
                    have HD9 := Lib.hid (HP2.out.step hBd9)
                    have hM9 := HP3.out.step hBd9
                    have HR9 := Lib.hid hrow9
                    obtain ⟨lk, hlk⟩ := keyA HOK.out
                    clear hB89 hBq9 hrow9 hBd9 q0 q1 q2 q3 q4 q5 q6 q7 q8 q9 q10 KW2
                    generalize w8.heap.size = g3 at HR9 ⊢
                    by_cases htw : ∃ k, 1 ≤ k ∧ k < i ∧ ns[k]? = some m
                    · obtain ⟨z, hz⟩ := Option.ne_none_iff_exists'.1 ((HP4.out m HOK.out).2 htw)
                      have hrun := hM9.hit (t := 89) keyedA Tryd.underlying89 Tryd.underlying3 (zeroI _) hlk hz
                      have HFF := Lib.hid (NO.out (fun h => by
                        obtain ⟨_, _, _, _, _, _, _, h4⟩ := h m HM.out
                        obtain ⟨k, k1, k2, k3⟩ := htw
                        exact h4 k k1 k2 k3))
                      clear htw hz hlk hM9
                      go_wp2_with (with_reducible refine stop_load rfl 110 (.tmp 11) rfl ?_)
                      refine Lib.hid ?_
                      refine wpList_load_row rfl 110 (.tmp 11) rfl g3 rfl 110 (askA m) (0, 0) _ HR9.out Tryd.underlying110 rfl sizeAsk ?_
                      go_wp2
                      go_ret
                      exact ⟨by rw [HFF.out]; rfl, box_below HB9.out⟩
                    · have hz : f (.agg (askA m)) = none := by
                        cases hf : f (.agg (askA m)) with
                        | none => rfl
                        | some z => exact absurd ((HP4.out m HOK.out).1 (by rw [hf]; simp)) htw
                      have hrun := hM9.miss (t := 89) keyedA Tryd.underlying89 Tryd.underlying3 (zeroI _) hlk hz
                      obtain ⟨w10, hput, hm10, hg10⟩ := hM9.store (t := 89) keyedA Tryd.underlying89 Tryd.underlying3 (by unfold maxLen; omega) hlk (z := (i : Int)) (WalkArith.wf_i64 (by omega))
                      have HNX := Lib.hid (NRS.done HB9.out HD9.out hDm hm1 hm10 (HP4.out.next hi1 HM.out HOK.out (i : Int)) hg10)
                      have HVN := Lib.hid (show ∀ k, 1 ≤ k → k < i + 1 → nodeAt al ns k from fun k k1 k2 => by
                        by_cases e : k = i
                        · subst e
                          intro m' hm'
                          rw [HM.out] at hm'
                          injection hm' with hm'
                          subst hm'
                          exact ⟨u, up, HU.out, hui, HUP.out, by rw [HDI.out]; exact H16.out, HNP.out, fun q q1 q2 q3 => htw ⟨q, q1, q2, q3⟩⟩
                        · exact HV.out k k1 (by omega))
                      clear htw hz hlk hM9 hm10 hg10
                      go_wp2_with (with_reducible refine stop_load rfl 110 (.tmp 11) rfl ?_)
                      refine Lib.hid ?_
                      refine wpList_load_row rfl 110 (.tmp 11) rfl g3 rfl 110 (askA m) (0, 0) _ HR9.out Tryd.underlying110 rfl sizeAsk ?_
                      go_wp2_with (with_reducible refine stop_load rfl 110 (.tmp 11) rfl ?_)
                      refine Lib.hid ?_
                      refine wpList_load_row rfl 110 (.tmp 11) rfl g3 rfl 110 (askA m) (0, 0) _ HR9.out Tryd.underlying110 rfl sizeAsk ?_
                      go_wp2
                      exact ⟨⟨i + 1, by go_num, by omega, HI.out, HVN.out, HNX.out⟩, by simp [intOf]; have := HI.out; omega⟩
                  · rw [decide_eq_false hnp] at CY
                    have HFF := Lib.hid (NO.out (fun h => by
                      obtain ⟨u', up', h1, h2, h3, _, h4, _⟩ := h m HM.out
                      have : u' = u := by have := HU.out; omega
                      subst this
                      rw [HUP.out] at h3
                      rw [← Option.some.inj h3] at h4
                      exact hnp h4))
                    clear hnp h16
                    go_wp2_with fail
                    refine wp_region_class (S := S) HDD.out (by kernel_rfl) (by kernel_rfl) ?_
                    repeat (go_big_quiet_step ((go_at_call 63; refine (CY.out _ (KPP.out _)).mono ?_; rintro e w' ⟨rfl, hbel⟩; exact ⟨rfl, ⟨w', (congrFun SE.out w').mpr ((KPP.out _).trans (hbel.mono (KPP.out _).size))⟩, rfl⟩)))
                    refine wpQuiet_nil ?_
                    rintro wq ⟨⟨_, hW⟩, rfl⟩
                    have HF := Lib.hid ((congrFun SE.out wq).mp hW)
                    clear q0 q1 q2 q3 q4 q5 q6 q7 q8 q9 q10 y0 y1 y2 d0 x0 x1 x2 x3 x4 x5 x6 x7 x8 x9 x10 NE hW
                    go_wp2
                    go_ret
                    exact ⟨by rw [HFF.out]; rfl, (box_below HP1.out).trans (HF.out.mono (box_below HP1.out).size)⟩
                · have f6 : (16 : Int) < (di : Int) := by omega
                  have f7 : decide ((16 : Int) < (di : Int)) = true := decide_eq_true f6
                  have f8 : decide (16 < di) = true := decide_eq_true (by omega)
                  have HFF := Lib.hid (NO.out (fun h => by
                    obtain ⟨_, _, _, _, _, h4, _⟩ := h m HM.out
                    rw [HDI.out] at h4
                    exact h16 h4))
                  clear h16
                  go_wp2_with fail
                  refine wp_region_class (S := S) HDD.out (by kernel_rfl) (by kernel_rfl) ?_
                  repeat (go_big_quiet_step (fail))
                  refine wpQuiet_nil ?_
                  rintro wq ⟨⟨_, hW⟩, rfl⟩
                  have HF := Lib.hid ((congrFun SE.out wq).mp hW)
                  clear q0 q1 q2 q3 q4 q5 q6 q7 q8 q9 q10 y0 y1 y2 d0 x0 x1 x2 x3 x4 x5 x6 x7 x8 x9 x10 NE hW
                  go_wp2
                  go_ret
                  exact ⟨by rw [HFF.out]; rfl, (box_below HP1.out).trans (HF.out.mono (box_below HP1.out).size)⟩
              · have f2 : (i : Int) ≤ (u : Int) := by omega
                have HF := Lib.hid (NO.out (fun h => by
                  obtain ⟨u', _, h1, h2, _⟩ := h m HM.out
                  have := HU.out
                  omega))
                clear hui
                go_wp2
                go_ret
                exact ⟨by rw [HF.out]; rfl, box_below HSA.out.below⟩
            · have f1 : m.parent < 0 := by omega
              have HF := Lib.hid (NO.out (fun h => by
                obtain ⟨u', _, h1, h2, _⟩ := h m HM.out
                omega))
              clear hp0
              go_wp2
              go_ret
              exact ⟨by rw [HF.out]; rfl, box_below HSA.out.below⟩
          · obtain rfl : i = ns.length := by omega
            have HF := Lib.hid (show R = true by rw [← HR.out]; exact decide_eq_true ⟨HR0.out, fun k h1 h2 => hV k h1 h2⟩)
            have HB := Lib.hid (box_below hS.below)
            clear hV hS hin
            go_wp2
            go_ret
            exact ⟨by rw [HF.out]; rfl, HB.out⟩
      · rw [decide_eq_false hroot]
        have HF := Lib.hid (show R = false by
          rw [← HR.out]
          refine decide_eq_false (fun h => hroot ?_)
          have := h.1
          rw [HN0.out] at this
          exact Option.some.inj this)
        clear hroot
        go_wp2
        go_ret
        exact ⟨by rw [HF.out]; rfl, box_below HB6.out⟩
    · have HF := Lib.hid (show R = false by
        rw [← HR.out]
        refine decide_eq_false (fun h => ?_)
        have := h.1
        rw [HN0.out] at this
        rw [Option.some.inj this] at hbig
        simp [rootN] at hbig)
      clear hbig HKB
      go_wp2
      go_ret
      exact ⟨by rw [HF.out]; rfl, box_below HB6.out⟩
end Go.Proofs.YtonkbjdeaneicaaDoor

namespace Go.Proofs.YtonkbjdeaneicaaDoor.Pln
open Classical
/-- The next node that no earlier way had. -/
noncomputable def onF (x : Option Nat) (n : Nat) : Option Nat := match x with
  | none => none
  | some q => if n ≤ q then (if n = q then some (q + 1) else some q) else none
noncomputable def endE (ns : List Nd) (x : Option Nat) (e : Int) : Option Nat := match x with
  | none => none
  | some q => if 0 ≤ e ∧ e < (ns.length : Int) then (wayN ns e.toNat).foldl onF (some q) else none
def endsP (ns : List Nd) (es : List Int) : Prop := es.foldl (endE ns) (some 1) = some ns.length
theorem onF_none (l : List Nat) : l.foldl onF none = none := by
  induction l with
  | nil => rfl
  | cons n r ih => exact ih
theorem endE_none (ns : List Nd) (es : List Int) : es.foldl (endE ns) none = none := by
  induction es with
  | nil => rfl
  | cons n r ih => exact ih
theorem fold_next {α β : Type} (f : β → α → β) (b : β) {l : List α} {k : Nat} {x : α} (h : l[k]? = some x) : (l.take (k + 1)).foldl f b = f ((l.take k).foldl f b) x := by
  rw [List.take_add_one, h, List.foldl_append]; rfl
theorem fold_all {α β : Type} (f : β → α → β) (b : β) (l : List α) (k : Nat) : l.foldl f b = (l.drop k).foldl f ((l.take k).foldl f b) := by
  rw [← List.foldl_append, List.take_append_drop]
end Go.Proofs.YtonkbjdeaneicaaDoor.Pln
namespace Go.Proofs.YtonkbjdeaneicaaDoor
open Go.RowKit Pln Classical Go.Maps

set_option maxRecDepth 200000 in
set_option maxHeartbeats 4000000 in
theorem endsW {F : Nat → Prop} (W : World) (av nv ev : Value) (al : List Shp) (ns : List Nd) (es : List Int) (hN : RSl F W 11 (ENode F W) nv ns) (hE : RSl F W 1 EInt ev es) (hP : Par ns) (hn0 : 1 ≤ ns.length) (hn : ns.length ≤ 1000000000) (hw : ∀ e, e < ns.length → (wayN ns e).length ≤ 1000000) :
    Calls Tryd.prog 40 #[.agg #[av, nv, ev]] W fun e W' => e = .returned (.bool (decide (endsP ns es))) ∧ Below W.heap.size W W' := by
  have WW := Lib.hid (fun (Wx : World) (hb : Below W.heap.size W Wx) (k : Nat) (hk : k < ns.length) => wayW Wx av nv ev al ns (RSl.kp hN (Kp.of_below hb) (fun _ _ h => h) (fun _ _ h => h.kp (Kp.of_below hb) (fun _ _ h => h))) hP k hk hn (hw k hk))
  have HW := Lib.hid hw
  have HUP := Lib.hid (fun (e : Nat) (he : e < ns.length) => (wayN_up hP al he).1)
  obtain ⟨An, cn, rfl⟩ := hN.form
  obtain ⟨Ae, ce, rfl⟩ := hE.form
  have hml := hE.len
  unfold maxLen at hml
  have HE := Lib.hid hE
  obtain ⟨R, hR⟩ : ∃ R, decide (endsP ns es) = R := ⟨_, rfl⟩
  rw [hR]
  have HR := Lib.hid hR
  clear hR hN hE hP hw
  go_enter Tryd.func40, Tryd.ntmps40
  go_wp2
  go_loopw [3, 11] (fun qv iv wr => ∃ i q : Nat, iv = .int .i64 i ∧ qv = .int .i64 q ∧ i ≤ es.length ∧ q ≤ ns.length ∧ (es.take i).foldl (endE ns) (some 1) = some q ∧ Below (W.heap.size + 1) (W.alloc (.cells #[av, .slice An ns.length cn, .slice Ae es.length ce] 26)) wr) (fun _ i _ => es.length - (intOf i).toNat)
  case atStart => exact ⟨0, 1, rfl, rfl, Nat.zero_le _, hn0, rfl, Below.refl _ _⟩
  case round =>
    obtain ⟨i, q, rfl, rfl, hi, hq, hF, hb⟩ := hrel
    have y0 := box_cellL hb 0 rfl
    have y1 := box_cellL hb 1 rfl
    have y2 := box_cellL hb 2 rfl
    by_cases hin : i < es.length
    · obtain ⟨e, he⟩ : ∃ e, es[i]? = some e := ⟨_, List.getElem?_eq_getElem hin⟩
      obtain ⟨eb, eo, cs, rfl, ⟨rfl, -⟩, hc⟩ := HE.out.rd he
      have c0 := hc wr (box_below hb) 0 _ rfl
      simp only [Nat.add_zero, Nat.mul_one] at c0
      have e1 : (0 : Int) ≤ (i : Int) := by omega
      have e2 : (i : Int) < (es.length : Int) := by omega
      have hnx := fold_next (endE ns) (some 1) he
      rw [hF] at hnx
      have HI := Lib.hid hin
      have HB := Lib.hid hb
      have STOP := Lib.hid (show (es.take (i + 1)).foldl (endE ns) (some 1) = none → R = false from fun h => by
        rw [← HR.out]
        refine decide_eq_false (fun h2 => ?_)
        unfold endsP at h2
        rw [fold_all (endE ns) (some 1) es (i + 1), h, endE_none] at h2
        cases h2)
      by_cases h1 : 0 ≤ e
      · by_cases h2 : e < (ns.length : Int)
        · obtain ⟨k, rfl⟩ : ∃ k : Nat, e = (k : Int) := ⟨e.toNat, by omega⟩
          have hk : k < ns.length := by omega
          have hnx2 : (es.take (i + 1)).foldl (endE ns) (some 1) = (wayN ns k).foldl onF (some q) := by
            rw [hnx]; unfold endE; simp only; rw [if_pos ⟨h1, h2⟩, Int.toNat_natCast]
          have HX := Lib.hid hnx2
          have WC := Lib.hid (WW.out wr (box_below hb) k hk)
          have hwl := HW.out k hk
          have hup := HUP.out k hk
          obtain ⟨l, hl⟩ : ∃ l, wayN ns k = l := ⟨_, rfl⟩
          rw [hl] at HX WC hwl hup
          have hlt : ∀ u ∈ l, u < ns.length := fun u hu => by
            obtain ⟨j, hj, rfl⟩ := List.getElem_of_mem hu
            obtain ⟨_, _, m, hm, _⟩ := hup j _ (List.getElem?_eq_getElem hj)
            exact (List.getElem?_eq_some_iff.1 hm).1
          have HLT := Lib.hid hlt
          have f1 : ¬ (k : Int) < 0 := by omega
          have f2 : ¬ (ns.length : Int) ≤ (k : Int) := by omega
          clear hc he hin hb hnx hnx2 hl hup hlt hF hi
          go_wp2_with fail
          refine WC.out.mono ?_
          rintro e' w2 ⟨v, rfl, hO, hb2⟩
          obtain ⟨A, c, rfl, -⟩ := hO.form
          have HB2 := Lib.hid (box_step HB.out hb2)
          have HO := Lib.hid hO
          clear y0 y1 y2 c0 hb2 hO WC
          go_wp2
          obtain ⟨wo, rfl⟩ : ∃ wo : World, wo = wr := ⟨_, rfl⟩
          go_loopw [3, 28] (fun qv jv wr => ∃ j q2 : Nat, jv = .int .i64 j ∧ qv = .int .i64 q2 ∧ j ≤ l.length ∧ q2 ≤ ns.length ∧ (l.take j).foldl onF (some q) = some q2 ∧ wr = w2) (fun _ j _ => l.length - (intOf j).toNat)
          case atStart => exact ⟨0, q, rfl, rfl, Nat.zero_le _, hq, rfl, rfl⟩
          case round =>
            obtain ⟨j, q2, rfl, rfl, hj, hq2, hG, rfl⟩ := hrel
            by_cases hjn : j < l.length
            · obtain ⟨u, hu⟩ : ∃ u, l[j]? = some u := ⟨_, List.getElem?_eq_getElem hjn⟩
              obtain ⟨g, rfl, -, d0⟩ := HO.out.at hu
              have hun := HLT.out u (List.mem_of_getElem? hu)
              have e3 : (0 : Int) ≤ (j : Int) := by omega
              have e4 : (j : Int) < (l.length : Int) := by omega
              have hnx := fold_next onF (some q) hu
              rw [hG] at hnx
              have HJ := Lib.hid hjn
              by_cases h3 : u ≤ q2
              · have e5 : ¬ (q2 : Int) < (u : Int) := by omega
                by_cases h4 : u = q2
                · subst h4
                  have HN := Lib.hid (show (l.take (j + 1)).foldl onF (some q) = some (u + 1) by rw [hnx]; unfold onF; simp)
                  clear hnx hG hu hjn hj h3
                  go_wp2_with fail
                  exact ⟨⟨j + 1, u + 1, by go_num, by go_num, HJ.out, by omega, HN.out, trivial⟩, by simp [intOf]; have := HJ.out; omega⟩
                · have HN := Lib.hid (show (l.take (j + 1)).foldl onF (some q) = some q2 by rw [hnx]; unfold onF; simp [h3, h4])
                  have e6 : ((u : Int) == (q2 : Int)) = false := by simp only [beq_eq_false_iff_ne, ne_eq]; omega
                  have e7 : ¬ (u : Int) = (q2 : Int) := by omega
                  clear hnx hG hu hjn hj h3
                  go_wp2_with fail
                  exact ⟨⟨j + 1, q2, by go_num, rfl, HJ.out, by omega, HN.out, trivial⟩, by simp [intOf]; have := HJ.out; omega⟩
              · have e5 : (q2 : Int) < (u : Int) := by omega
                have hno : (l.take (j + 1)).foldl onF (some q) = none := by rw [hnx]; unfold onF; simp only; rw [if_neg h3]
                have HF := Lib.hid (STOP.out (by rw [HX.out, fold_all onF (some q) l (j + 1), hno, onF_none]))
                clear hnx hG hu hjn hj h3 hno
                go_wp2
                go_ret
                exact ⟨by rw [HF.out]; rfl, box_below HB2.out⟩
            · obtain rfl : j = l.length := by omega
              rw [List.take_length] at hG
              have HN := Lib.hid (HX.out.trans hG)
              clear hG hjn hj
              go_wp2
              exact ⟨⟨i + 1, q2, by go_num, rfl, HI.out, hq2, HN.out, HB2.out⟩, by simp [intOf]; have := HI.out; omega⟩
        · have e3 : (ns.length : Int) ≤ e := by omega
          have e4 : ¬ e < 0 := by omega
          have HF := Lib.hid (STOP.out (by rw [hnx]; unfold endE; simp only; rw [if_neg (fun h => h2 h.2)]))
          clear hc he hin hb hnx h2 hF hi
          go_wp2
          go_ret
          exact ⟨by rw [HF.out]; rfl, box_below HB.out⟩
      · have e3 : e < 0 := by omega
        have HF := Lib.hid (STOP.out (by rw [hnx]; unfold endE; simp only; rw [if_neg (fun h => h1 h.1)]))
        clear hc he hin hb hnx h1 hF hi
        go_wp2
        go_ret
        exact ⟨by rw [HF.out]; rfl, box_below HB.out⟩
    · obtain rfl : i = es.length := by omega
      rw [List.take_length] at hF
      have HB := Lib.hid (box_below hb)
      clear hb hin hi
      by_cases he : q = ns.length
      · subst he
        have HF := Lib.hid (show R = true by rw [← HR.out]; exact decide_eq_true hF)
        clear hF
        go_wp2
        go_ret
        exact ⟨by rw [HF.out]; simp, HB.out⟩
      · have HF := Lib.hid (show R = false by
          rw [← HR.out]
          refine decide_eq_false (fun h => he ?_)
          unfold endsP at h
          rw [hF] at h
          exact Option.some.inj h)
        have e3 : ¬ (q : Int) = (ns.length : Int) := by omega
        clear hF he
        go_wp2
        go_ret
        exact ⟨by rw [HF.out]; simp [e3], HB.out⟩
end Go.Proofs.YtonkbjdeaneicaaDoor
