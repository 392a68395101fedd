/- Chain and Kids, whatever the plan. -/
import Derived.Test.YtonkbjdeaneicaaCheck
import Derived.StillTailTactics
namespace Go.Proofs.Ytonkbjdeaneicaa.Pln
open Classical
theorem ends_range {ns : List Nd} {es : List Int} (h : endsP ns es) : ∀ x ∈ es, 0 ≤ x ∧ x < (ns.length : Int) := by
  have key : ∀ (es : List Int) (q q' : Nat), es.foldl (endE ns) (some q) = some q' → ∀ x ∈ es, 0 ≤ x ∧ x < (ns.length : Int) := by
    intro es
    induction es with
    | nil => intro _ _ _ x hx; cases hx
    | cons e r ih =>
      intro q q' h x hx
      rw [List.foldl_cons] at h
      cases hy : endE ns (some q) e with
      | none => rw [hy, endE_none] at h; cases h
      | some a =>
        rw [hy] at h
        rcases List.mem_cons.1 hx with rfl | hx
        · unfold endE at hy
          simp only at hy
          split at hy
          · rename_i hc; exact hc
          · cases hy
        · exact ih a q' h x hx
  exact key es _ _ h
/-- The nodes right below a node, among the first k. -/
noncomputable def kidAt (ns : List Nd) (node : Int) (i : Nat) : List Nat := match ns[i]? with
  | some n => if n.parent = node then [i] else []
  | none => []
noncomputable def kidsK (ns : List Nd) (node : Int) (k : Nat) : List Nat := (List.range k).flatMap (kidAt ns node)
theorem kidsK_succ (ns : List Nd) (node : Int) (k : Nat) : kidsK ns node (k + 1) = kidsK ns node k ++ kidAt ns node k := by
  unfold kidsK; rw [List.range_succ, List.flatMap_append]; simp
theorem kidAt_one (ns : List Nd) (node : Int) (i : Nat) : (kidAt ns node i).length ≤ 1 := by
  unfold kidAt
  split
  · split <;> simp
  · simp
theorem kidsK_le (ns : List Nd) (node : Int) : ∀ k, (kidsK ns node k).length ≤ k
  | 0 => by simp [kidsK]
  | k + 1 => by
    rw [kidsK_succ, List.length_append]
    have := kidsK_le ns node k
    have := kidAt_one ns node k
    omega
end Go.Proofs.Ytonkbjdeaneicaa.Pln
namespace Go.Proofs.Ytonkbjdeaneicaa
open Go.RowKit Pln Classical Go.Maps

section
variable {F : Nat → Prop} (W : World) (av nv ev : Value) (al : List Shp) (ns : List Nd) (es : List Int)
def ChainRes (k : Int) (e : Ending) (W' : World) : Prop :=
  Below W.heap.size W W' ∧ ((¬ (checkP al ns es ∧ 0 ≤ k ∧ k < (es.length : Int)) ∧ e = .returned (.tuple #[.slice none 0 0, .int .i64 2])) ∨
    (checkP al ns es ∧ ∃ (q : Nat) (x : Int) (v : Value), k = q ∧ es[q]? = some x ∧ e = .returned (.tuple #[v, .int .i64 0]) ∧ OwnI W' W.heap.size v (wayN ns x.toNat)))
def KidsRes (k : Int) (e : Ending) (W' : World) : Prop :=
  Below W.heap.size W W' ∧ ((¬ (checkP al ns es ∧ 0 ≤ k ∧ k < (ns.length : Int)) ∧ e = .returned (.tuple #[.slice none 0 0, .int .i64 2])) ∨
    (checkP al ns es ∧ 0 ≤ k ∧ k < (ns.length : Int) ∧ ∃ v : Value, e = .returned (.tuple #[v, .int .i64 0]) ∧ OwnI W' W.heap.size v (kidsK ns k ns.length)))
end
theorem ownI_weak {w : World} {base base' : Nat} {v : Value} {l : List Nat} (h : OwnI w base v l) (hb : base' ≤ base) : OwnI w base' v l :=
  ⟨h.1, h.2.imp id (fun ⟨g, cap, cur, h1, h2, r⟩ => ⟨g, cap, cur, h1, Nat.le_trans hb h2, r⟩)⟩

set_option maxRecDepth 200000 in
set_option maxHeartbeats 4000000 in
theorem chainW {F : Nat → Prop} (W : World) (av nv ev : Value) (al : List Shp) (ns : List Nd) (es : List Int) (hA : RSl F W 2 (EShp F W) av al) (hN : RSl F W 11 (ENode F W) nv ns) (hE : RSl F W 1 EInt ev es) (hm : ns.length ≤ 1000000000) (hml : ∀ n ∈ ns, n.new.length ≤ 1000000000) (k : Int) :
    Calls Try.prog 23 #[.agg #[av, nv, ev], .int .i64 k] W (ChainRes W al ns es k) := by
  have kpN := fun (Wx : World) (hb : Below W.heap.size W Wx) => RSl.kp (F' := F) (E' := ENode F Wx) hN (Kp.of_below hb) (fun _ _ h => h) (fun _ _ h => h.kp (Kp.of_below hb) (fun _ _ h => h))
  have hB0 : Below (W.heap.size + 1) (W.alloc (.cells #[av, nv, ev] 27)) (W.alloc (.cells #[av, nv, ev] 27)) := Below.refl _ _
  have CW := Lib.hid (checkW _ av nv ev al ns es (RSl.kp (F' := F) (E' := EShp F _) hA (Kp.of_below (box_below hB0)) (fun _ _ h => h) (fun _ _ h => h.kp (Kp.of_below (box_below hB0)) (fun _ _ h => h))) (kpN _ (box_below hB0)) (hE.keep (Kp.of_below (box_below hB0))) hm hml)
  have WW := Lib.hid (fun (Wx : World) (hb : Below W.heap.size W Wx) (hn : nodesP al ns) (x : Nat) (hx : x < ns.length) => wayW Wx av nv ev al ns (kpN Wx hb) (nodesP_par hn) x hx hm (Nat.le_trans (way_short hn hx) (by omega)))
  obtain ⟨Ae, ce, rfl⟩ := hE.form
  have hel := hE.len
  unfold maxLen at hel
  have y0 := box_cellL hB0 0 rfl
  have y1 := box_cellL hB0 1 rfl
  have y2 := box_cellL hB0 2 rfl
  have HB0 := Lib.hid hB0
  have HE := Lib.hid hE
  clear hB0 hA hN hE kpN
  go_enter Try.func23, Try.ntmps23
  go_wp2_with fail
  refine CW.out.mono ?_
  rintro e w2 ⟨rfl, hb2⟩
  have hB2 := box_step HB0.out hb2
  have y0 := box_cellL hB2 0 rfl
  have y1 := box_cellL hB2 1 rfl
  have y2 := box_cellL hB2 2 rfl
  have HB2 := Lib.hid hB2
  clear hb2 hB2 CW
  by_cases hc : checkP al ns es
  · rw [if_pos hc]
    by_cases h0 : 0 ≤ k
    · by_cases hk : k < (es.length : Int)
      · obtain ⟨q, rfl⟩ : ∃ q : Nat, k = (q : Int) := ⟨k.toNat, by omega⟩
        obtain ⟨x, hx⟩ : ∃ x, es[q]? = some x := ⟨_, List.getElem?_eq_getElem (by omega)⟩
        obtain ⟨x1, x2⟩ := ends_range hc.2.2 x (List.mem_of_getElem? hx)
        obtain ⟨xn, rfl⟩ : ∃ xn : Nat, x = (xn : Int) := ⟨x.toNat, by omega⟩
        obtain ⟨eb, eo, cs, rfl, ⟨rfl, -⟩, hcc⟩ := HE.out.rd hx
        have hBd := HB2.out.drew
        have c0 := hcc _ (box_below hBd) 0 _ rfl
        simp only [Nat.add_zero, Nat.mul_one] at c0
        have WC := Lib.hid (WW.out _ (box_below hBd) hc.2.1 xn (by omega))
        have hsz : W.heap.size ≤ w2.drew.heap.size := (box_below hBd).size
        have e1 : ¬ (q : Int) < 0 := by omega
        have e2 : ¬ (es.length : Int) ≤ (q : Int) := by omega
        have HC := Lib.hid hc
        have HX := Lib.hid hx
        have HBD := Lib.hid hBd
        clear hcc hx x1 x2 hc hBd
        go_wp2_with fail
        go_still_tail 6, (by kernel_rfl)
        change wpList _ _ _ _ _ w2.drew
        go_wp2_with fail
        refine WC.out.mono ?_
        rintro e w3 ⟨v, rfl, hO, hb3⟩
        have HB3 := Lib.hid (box_below (box_step HBD.out hb3))
        have HO := Lib.hid (ownI_weak hO (show W.heap.size ≤ w2.drew.heap.size + 1 by omega))
        clear hO hb3 WC
        go_wp2
        go_ret2
        refine ⟨HB3.out, .inr ⟨HC.out, q, _, v, rfl, HX.out, rfl, ?_⟩⟩
        rw [Int.toNat_natCast]
        exact HO.out
      · have e1 : ¬ k < 0 := by omega
        have e2 : (es.length : Int) ≤ k := by omega
        have HNO := Lib.hid (show ¬ (checkP al ns es ∧ 0 ≤ k ∧ k < (es.length : Int)) from fun h => hk h.2.2)
        clear hk hc
        go_wp2
        go_ret2
        exact ⟨box_below HB2.out, .inl ⟨HNO.out, rfl⟩⟩
    · have e1 : k < 0 := by omega
      have HNO := Lib.hid (show ¬ (checkP al ns es ∧ 0 ≤ k ∧ k < (es.length : Int)) from fun h => h0 h.2.1)
      clear h0 hc
      go_wp2
      go_ret2
      exact ⟨box_below HB2.out, .inl ⟨HNO.out, rfl⟩⟩
  · rw [if_neg hc]
    have HNO := Lib.hid (show ¬ (checkP al ns es ∧ 0 ≤ k ∧ k < (es.length : Int)) from fun h => hc h.1)
    clear hc
    go_wp2
    go_ret2
    exact ⟨box_below HB2.out, .inl ⟨HNO.out, rfl⟩⟩

set_option maxRecDepth 200000 in
set_option maxHeartbeats 4000000 in
theorem kidsW {F : Nat → Prop} (W : World) (av nv ev : Value) (al : List Shp) (ns : List Nd) (es : List Int) (hA : RSl F W 2 (EShp F W) av al) (hN : RSl F W 11 (ENode F W) nv ns) (hE : RSl F W 1 EInt ev es) (hm : ns.length ≤ 900000000) (hml : ∀ n ∈ ns, n.new.length ≤ 1000000000) (k : Int) :
    Calls Try.prog 24 #[.agg #[av, nv, ev], .int .i64 k] W (KidsRes W al ns es k) := by
  have hB0 : Below (W.heap.size + 1) (W.alloc (.cells #[av, nv, ev] 27)) (W.alloc (.cells #[av, nv, ev] 27)) := Below.refl _ _
  have CW := Lib.hid (checkW _ av nv ev al ns es (RSl.kp (F' := F) (E' := EShp F _) hA (Kp.of_below (box_below hB0)) (fun _ _ h => h) (fun _ _ h => h.kp (Kp.of_below (box_below hB0)) (fun _ _ h => h))) (RSl.kp (F' := F) (E' := ENode F _) hN (Kp.of_below (box_below hB0)) (fun _ _ h => h) (fun _ _ h => h.kp (Kp.of_below (box_below hB0)) (fun _ _ h => h))) (hE.keep (Kp.of_below (box_below hB0))) (by omega) hml)
  obtain ⟨An, cn, rfl⟩ := hN.form
  have y0 := box_cellL hB0 0 rfl
  have y1 := box_cellL hB0 1 rfl
  have y2 := box_cellL hB0 2 rfl
  have HB0 := Lib.hid hB0
  have HN := Lib.hid hN
  clear hB0 hA hN hE
  go_enter Try.func24, Try.ntmps24
  go_wp2_with fail
  refine CW.out.mono ?_
  rintro e w2 ⟨rfl, hb2⟩
  have hB2 := box_step HB0.out hb2
  have y0 := box_cellL hB2 0 rfl
  have y1 := box_cellL hB2 1 rfl
  have y2 := box_cellL hB2 2 rfl
  have HB2 := Lib.hid hB2
  clear hb2 hB2 CW
  by_cases hc : checkP al ns es
  · rw [if_pos hc]
    by_cases h0 : 0 ≤ k
    · by_cases hk : k < (ns.length : Int)
      · have e1 : ¬ k < 0 := by omega
        have e2 : ¬ (ns.length : Int) ≤ k := by omega
        have HC := Lib.hid hc
        clear hc
        go_wp2_with fail
        clear y0 y1 y2
        go_loopw [6, 26] (fun ov iv wr => ∃ (i : Nat) (v : Value), iv = .int .i64 i ∧ ov = v ∧ i ≤ ns.length ∧ OwnI wr (W.heap.size + 1) v (kidsK ns k i) ∧ Below (W.heap.size + 1) (W.alloc (.cells #[av, .slice An ns.length cn, ev] 27)) wr) (fun _ i _ => ns.length - (intOf i).toNat)
        case atStart => exact ⟨0, _, rfl, rfl, Nat.zero_le _, World.ownsRow_nil _ _ _ _, HB2.out⟩
        case round =>
          obtain ⟨i, v, rfl, rfl, hi, hO, hb⟩ := hrel
          have y1 := box_cellL hb 1 rfl
          by_cases hin : i < ns.length
          · obtain ⟨n, hn⟩ : ∃ n, ns[i]? = some n := ⟨_, List.getElem?_eq_getElem hin⟩
            obtain ⟨nb, no, ncs, rfl, ⟨lv, mv, hE⟩, hcc⟩ := HN.out.rd hn
            have hcs := hE.cells
            subst hcs
            have cc := hcc _ (box_below hb)
            have c0 := cc 0 _ rfl
            have c1 := cc 1 _ rfl
            have c2 := cc 2 _ rfl
            have c3 := cc 3 _ rfl
            have c4 := cc 4 _ rfl
            have c5 := cc 5 _ rfl
            have c6 := cc 6 _ rfl
            have c7 := cc 7 _ rfl
            have c8 := cc 8 _ rfl
            have c9 := cc 9 _ rfl
            have c10 := cc 10 _ rfl
            simp only [Nat.add_zero] at c0
            have e3 : (0 : Int) ≤ (i : Int) := by omega
            have e4 : (i : Int) < (ns.length : Int) := by omega
            obtain ⟨wa, hwa⟩ : ∃ wa, wa = wr.alloc (.cells #[.int .i64 n.kind, .int .i64 n.parent, .int .i64 n.alpha, lv, mv, .int .i64 n.test.op, .bool n.test.l.v, .int .i64 n.test.l.n, .bool n.test.r.v, .int .i64 n.test.r.n, .int .i64 n.width] 54) := ⟨_, rfl⟩
            obtain ⟨Bl, dl, rfl⟩ := hE.links.form
            obtain ⟨Bm, dm, rfl⟩ := hE.new.form
            have hba : Below wr.heap.size wr wa := by rw [hwa]; exact (Below.refl _ _).alloc (Nat.le_refl _) _
            have hrow : wa.heap[wr.heap.size]? = some (.cells #[.int .i64 n.kind, .int .i64 n.parent, .int .i64 n.alpha, .slice Bl n.links.length dl, .slice Bm n.new.length dm, .int .i64 n.test.op, .bool n.test.l.v, .int .i64 n.test.l.n, .bool n.test.r.v, .int .i64 n.test.r.n, .int .i64 n.width] 54 (0, 0)) := by rw [hwa]; exact heap_alloc_new wr _
            have z1 := rboxL hrow 1 rfl
            have HBA := Lib.hid (box_step hb hba)
            have hOa := hO.step hba
            have HI := Lib.hid hin
            have hkl := kidsK_le ns k i
            have hkn := kidsK_succ ns k i
            have hka : kidAt ns k i = if n.parent = k then [i] else [] := by unfold kidAt; rw [hn]
            have hsz : W.heap.size + 1 ≤ wa.heap.size := by have := HBA.out.size; simp at this; omega
            clear hcc cc hE hn hin hrow hb hO hba
            go_upto_region 7 with fail
            rw [← hwa]
            clear hwa c0 c1 c2 c3 c4 c5 c6 c7 c8 c9 c10 y1
            by_cases hpk : n.parent = k
            · rw [if_pos hpk] at hka
              rw [hka] at hkn
              rw [hpk] at z1
              have O1 := Lib.hid (ownI_one (w := wa) (base := W.heap.size + 1) (k := i) hsz)
              have O2 := Lib.hid (hOa.below ((Below.refl _ _).alloc (Nat.le_refl _) (.cells #[.int .i64 i] 3)))
              have STEP := Lib.hid (show ∀ w', (wa.alloc (.cells #[.int .i64 (i : Int)] 3)).grownBy w' u6.ownBlock → Below (W.heap.size + 1) (W.alloc (.cells #[av, .slice (some ⟨nb, no, none⟩) ns.length cn, ev] 27)) w' from fun w' hgr =>
                HBA.out.trans (((Turns.alloc (Turns.refl _ wa) (.cells #[.int .i64 (i : Int)] 3)).trans (Turns.of_grown hgr) (fun x hx => .inl hx)).below (by omega) (fun x hx => by
                  simp only [Option.mem_toList] at hx
                  exact (ownBlock_cells hOa hx).1)))
              have HKN := Lib.hid hkn
              have hsz2 : W.heap.size + 1 ≤ (wa.alloc (.cells #[.int .i64 (i : Int)] 3)).heap.size := by simp; omega
              clear hkn hka hOa hpk
              go_wp2_with (at_builtin; refine wpList_append_I rfl (.tmp 35) (.tmp 37) rfl (W.heap.size + 1) (W.heap.size + 1) _ _ (kidsK ns k i) [i] rfl O2.out rfl O1.out (by simp; omega) hsz2 ?_; intro v' w' hw1 hw2; have HB9 := Lib.hid (STEP.out w' hw2); have HO9 := Lib.hid hw1; clear hw1 hw2)
              rw [← HKN.out] at HO9
              exact ⟨⟨i + 1, v', by go_num, rfl, HI.out, HO9.out, HB9.out⟩, by simp [intOf]; have := HI.out; omega⟩
            · rw [if_neg hpk] at hka
              rw [hka, List.append_nil] at hkn
              have hpk2 : (n.parent == k) = false := by simpa using hpk
              have HO9 := Lib.hid hOa
              rw [← hkn] at HO9
              clear hkn hka hOa
              go_wp2
              exact ⟨⟨i + 1, _, by go_num, rfl, HI.out, HO9.out, HBA.out⟩, by simp [intOf]; have := HI.out; omega⟩
          · obtain rfl : i = ns.length := by omega
            have HO := Lib.hid (ownI_weak hO (Nat.le_succ _))
            have HB := Lib.hid (box_below hb)
            clear hO hb hin
            go_wp2
            go_ret2
            exact ⟨HB.out, .inr ⟨HC.out, h0, hk, _, rfl, HO.out⟩⟩
      · have e1 : ¬ k < 0 := by omega
        have e2 : (ns.length : Int) ≤ k := by omega
        have HNO := Lib.hid (show ¬ (checkP al ns es ∧ 0 ≤ k ∧ k < (ns.length : Int)) from fun h => hk h.2.2)
        clear hk hc
        go_wp2
        go_ret2
        exact ⟨box_below HB2.out, .inl ⟨HNO.out, rfl⟩⟩
    · have e1 : k < 0 := by omega
      have HNO := Lib.hid (show ¬ (checkP al ns es ∧ 0 ≤ k ∧ k < (ns.length : Int)) from fun h => h0 h.2.1)
      clear h0 hc
      go_wp2
      go_ret2
      exact ⟨box_below HB2.out, .inl ⟨HNO.out, rfl⟩⟩
  · rw [if_neg hc]
    have HNO := Lib.hid (show ¬ (checkP al ns es ∧ 0 ≤ k ∧ k < (ns.length : Int)) from fun h => hc h.1)
    clear hc
    go_wp2
    go_ret2
    exact ⟨box_below HB2.out, .inl ⟨HNO.out, rfl⟩⟩
end Go.Proofs.Ytonkbjdeaneicaa
