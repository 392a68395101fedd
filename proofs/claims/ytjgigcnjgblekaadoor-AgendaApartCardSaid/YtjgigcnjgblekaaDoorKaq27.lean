/- The reference's Ahead and sorted: a list in P3's order. The walks. The law's own copied: acts with lists of their own. The walk. AgendaTurns in plain words: the acts by number; what is told, by number. Over any program. -/
import Derived.Test.YtjgigcnjgblekaaDoorKaq23
import Derived.Test.YtjgigcnjgblekaaDoorKaq25
import Derived.Test.YtjgigcnjgblekaaDoorKaq26
namespace Go.Proofs.YtjgigcnjgblekaaDoor
open Go Go.RowKit Go.Maps Classical

/-- A copied act more, in a region that draws nothing. -/
theorem wpList_push_Z {w w1 : World} {ops : Array Oper} {rest : List Oper} {o : Oper} {a : Act} {Q : Exit → Act → World → Prop} {B : Nat} {v sv : Value} {zs : List (Ac × Value)} {x : Ac} (h : Zs B w v zs) (hb : Below w.heap.size w w1) (hB : B ≤ w.heap.size) (hsv : OwnZ w1 w.heap.size sv x.sub) (hok : AcOk x)
    (hgd : o.guard = none) (s q : Operand) (ho : o.op = .call { callee := .builtin .append, args := #[s, q], argTypes := #[23, 23] }) (hs : a.eval s = v) (T : TypeId) {c H : Nat} (hq : a.eval q = .slice (some ⟨H, 0, none⟩) 1 c) (hH : w1.heap.size = H) (hn : zs.length ≤ 40000000)
    (k : ∀ g cap w', Zs B w' (.slice (some ⟨g, 0, none⟩) (zs.length + 1) cap) (zs ++ [(x, sv)]) → Turns v.ownBlock.toList w1 w' → (v.ownBlock = some g ∨ w1.heap.size ≤ g) → wpList Tryd.prog ops Q rest (a.put o.dst (.slice (some ⟨g, 0, none⟩) (zs.length + 1) cap)) w') : wpList Tryd.prog ops Q (o :: rest) a (w1.alloc (.cells #[.int .i64 x.rule, sv] T)) := by
  subst hH
  obtain ⟨i0, hi0, hz0, hz1, hz2⟩ := info_parts infoAct
  have hbl : Below w1.heap.size w1 (w1.alloc (.cells #[.int .i64 x.rule, sv] T)) := (Below.refl w1.heap.size w1).alloc (Nat.le_refl _) _
  have h1 := ownsRow_turns (h.below hb).row (Turns.of_below (S := []) hbl) (fun _ _ => by simp)
  obtain ⟨sA, sc, rfl⟩ := hsv.form
  have hbs := hb.size
  refine wpList_append1s (w1.alloc (.cells #[.int .i64 x.rule, .slice sA x.sub.length sc] T)) hgd s q 23 ho B 30 i0 (.agg #[.int .i64 0, .slice none 0 0]) 2 32 Tryd.underlying23 hi0 hz0 hz1 hz2 rfl (by decide) v zs.length (zCells zs) hs h1 ⟨w1.heap.size, 0, none⟩ c [.int .i64 x.rule, .slice sA x.sub.length sc] hq rfl (World.news_of_block (heap_alloc_new w1 _)) (by simp [Value.oneCell']) hn (by decide) (by simp; omega) _ rfl ?_
  intro g cap w' hown hgrow hat _
  have T1 : Turns v.ownBlock.toList w1 w' := (((Turns.refl [] w1).alloc _).mono (by simp)).trans (Turns.of_grown hgrow) (fun x hx => .inl hx)
  have hat2 : v.ownBlock = some g ∨ w1.heap.size ≤ g := by
    rcases hat with h | h
    · exact .inl h
    · exact .inr (by have := h.1; simp at this; omega)
  exact k g cap w' (h.push hb hB hsv hok hown T1 hat2) T1 hat2
/-- Over ids in range. -/
def idsIn (cs : List Cst) (x : Ac) : Prop := ∀ i ∈ x.sub, 0 ≤ i ∧ i < (cs.length : Int)
theorem lx_drop {α : Type} {c : α → α → Int} {x y : List α} {k : Nat} {p q : α} (hp : x[k]? = some p) (hq : y[k]? = some q) : cmpLx c (x.drop k) (y.drop k) = if c p q = 0 then cmpLx c (x.drop (k + 1)) (y.drop (k + 1)) else c p q := by
  have e1 : x.drop k = p :: x.drop (k + 1) := by
    have h := (List.getElem?_eq_some_iff.1 hp).1
    rw [List.drop_eq_getElem_cons h]
    rw [List.getElem?_eq_getElem h] at hp
    rw [Option.some.inj hp]
  have e2 : y.drop k = q :: y.drop (k + 1) := by
    have h := (List.getElem?_eq_some_iff.1 hq).1
    rw [List.drop_eq_getElem_cons h]
    rw [List.getElem?_eq_getElem h] at hq
    rw [Option.some.inj hq]
  rw [e1, e2]
  rfl
theorem lx_end {α : Type} {c : α → α → Int} {x y : List α} {k : Nat} (h : x.length ≤ k ∨ y.length ≤ k) (h1 : k ≤ x.length) (h2 : k ≤ y.length) : (cmpLx c (x.drop k) (y.drop k) < 0) ↔ x.length < y.length := by
  rcases Nat.lt_trichotomy x.length y.length with e | e | e
  · have e1 : x.drop k = [] := List.drop_eq_nil_of_le (by omega)
    have e2 : y.drop k ≠ [] := fun h0 => by have := List.drop_eq_nil_iff.1 h0; omega
    rw [e1]
    cases hd : y.drop k with
    | nil => exact absurd hd e2
    | cons u r => simp [cmpLx]; omega
  · have e1 : x.drop k = [] := List.drop_eq_nil_of_le (by omega)
    have e2 : y.drop k = [] := List.drop_eq_nil_of_le (by omega)
    rw [e1, e2]
    simp [cmpLx]; omega
  · have e1 : y.drop k = [] := List.drop_eq_nil_of_le (by omega)
    have e2 : x.drop k ≠ [] := fun h0 => by have := List.drop_eq_nil_iff.1 h0; omega
    rw [e1]
    cases hd : x.drop k with
    | nil => exact absurd hd e2
    | cons u r => simp [cmpLx]; omega
/-- The reference's word on the order. -/
noncomputable def ahF (cs : List Cst) (x y : Ac) : Bool := decide (cmpA cs x y < 0)
theorem ah_rule {cs : List Cst} {x y : Ac} (h : x.rule ≠ y.rule) : ahF cs x y = decide (x.rule < y.rule) := by
  unfold ahF cmpA
  rw [if_neg (fun e => h (cmpI_zero.1 e))]
  exact decide_eq_decide.2 cmpI_lt
theorem ah_sub {cs : List Cst} {x y : Ac} (h : x.rule = y.rule) : ahF cs x y = decide (cmpLx (cmpId cs) (x.sub.drop 0) (y.sub.drop 0) < 0) := by
  unfold ahF cmpA
  rw [if_pos (cmpI_zero.2 h)]
  rfl
set_option maxRecDepth 100000 in
set_option maxHeartbeats 8000000 in
theorem aheadW {F F1 F2 : Nat → Prop} (cv v1 v2 : Value) (cs : List Cst) (x y : Ac) (w : World) (hc : RSl F w 3 ECst cv cs) (h1 : RSl F1 w 1 EInt v1 x.sub) (h2 : RSl F2 w 1 EInt v2 y.sub) (hx : idsIn cs x) (hy : idsIn cs y) (hsz : ∀ c ∈ cs, c.s.size ≤ maxLen) :
    Calls Tryd.prog 75 #[cv, .agg #[.int .i64 x.rule, v1], .agg #[.int .i64 y.rule, v2]] w fun e w' => e = .returned (.bool (ahF cs x y)) ∧ Below w.heap.size w w' := by
  obtain ⟨A1, c1, rfl⟩ := h1.form
  obtain ⟨A2, c2, rfl⟩ := h2.form
  obtain ⟨Ac0, cc, rfl⟩ := hc.form
  have hm := h1.len
  have hm2 := h2.len
  have hm3 := hc.len
  unfold maxLen at hm hm2 hm3
  obtain ⟨w0, hw0⟩ : ∃ w0, w0 = (w.alloc (.cells #[.int .i64 x.rule, .slice A1 x.sub.length c1] 30)).alloc (.cells #[.int .i64 y.rule, .slice A2 y.sub.length c2] 30) := ⟨_, rfl⟩
  have hx0 : Below (w.heap.size + 1) (w.alloc (.cells #[.int .i64 x.rule, .slice A1 x.sub.length c1] 30)) w0 := by rw [hw0]; exact (Below.refl _ _).alloc (by simp) _
  have hsz0 : w0.heap.size = w.heap.size + 1 + 1 := by rw [hw0]; simp
  have hb0 := box_belowD hx0
  have r0 : w0.heap[w.heap.size + 1]? = some (.cells #[.int .i64 y.rule, .slice A2 y.sub.length c2] 30 (0, 0)) := by
    have := heap_alloc_new (w.alloc (.cells #[.int .i64 x.rule, .slice A1 x.sub.length c1] 30)) (.cells #[.int .i64 y.rule, .slice A2 y.sub.length c2] 30)
    rw [hw0]; simpa using this
  have BX := Lib.hid (fun (W : World) (hW : Below w0.heap.size w0 W) => (show W.cell? ⟨w.heap.size, 0, none⟩ = some (.int .i64 x.rule) ∧ W.cell? ⟨w.heap.size, 1, none⟩ = some (.slice A1 x.sub.length c1) ∧ W.cell? ⟨w.heap.size + 1, 0, none⟩ = some (.int .i64 y.rule) ∧ W.cell? ⟨w.heap.size + 1, 1, none⟩ = some (.slice A2 y.sub.length c2) from
    ⟨(hW.cell (p := ⟨w.heap.size, 0, none⟩) (by show w.heap.size < w0.heap.size; omega)).trans (box_cellD hx0 0 rfl), (hW.cell (p := ⟨w.heap.size, 1, none⟩) (by show w.heap.size < w0.heap.size; omega)).trans (box_cellD hx0 1 rfl),
     cell_of_row _ _ 0 _ _ _ ((hW.block _ (by omega)).trans r0), cell_of_row _ _ 1 _ _ _ ((hW.block _ (by omega)).trans r0)⟩))
  have H1 := Lib.hid (h1.keep (Kp.of_below hb0))
  have H2 := Lib.hid (h2.keep (Kp.of_below hb0))
  have HC := Lib.hid (hc.keep (Kp.of_below hb0))
  have HB := Lib.hid hb0
  have HX := Lib.hid hx
  have HY := Lib.hid hy
  have HZ := Lib.hid hsz
  have E0 := Lib.hid (Below.refl w0.heap.size w0)
  obtain ⟨x0, x1, x2, x3⟩ := BX.out w0 E0.out
  clear h1 h2 hc hx hy hsz hx0 hb0 r0
  go_enter Tryd.func75, Tryd.ntmps75
  go_upto_region 1 with fail
  rw [← hw0]
  clear hw0
  by_cases hr : x.rule = y.rule
  rotate_left
  · have HR := Lib.hid (ah_rule (cs := cs) hr)
    have f1 : (x.rule == y.rule) = false := beq_false_of_ne hr
    have f2 : (x.rule != y.rule) = true := bne_iff_ne.2 hr
    clear hr
    by_cases hlt : x.rule < y.rule
    · have HR2 := Lib.hid (HR.out.trans (decide_eq_true hlt))
      go_wp2
      go_ret
      exact ⟨ret_boolA HR2.out.symm, HB.out⟩
    · have HR2 := Lib.hid (HR.out.trans (decide_eq_false hlt))
      go_wp2
      go_ret
      exact ⟨ret_boolA HR2.out.symm, HB.out⟩
  have f1 : (x.rule == y.rule) = true := beq_iff_eq.2 hr
  have f2 : (x.rule != y.rule) = false := by rw [bne, f1]; rfl
  have HRS := Lib.hid (ah_sub (cs := cs) hr)
  clear hr
  go_wp2
  go_loopw [7] (fun i wr => ∃ k : Nat, i = .int .i64 (k : Int) ∧ k ≤ x.sub.length ∧ k ≤ y.sub.length ∧ Hid (ahF cs x y = decide (cmpLx (cmpId cs) (x.sub.drop k) (y.sub.drop k) < 0)) ∧ Below w0.heap.size w0 wr) (fun i _ => x.sub.length - (intOf i).toNat)
  case atStart => exact ⟨0, rfl, Nat.zero_le _, Nat.zero_le _, HRS, E0.out⟩
  case round =>
    obtain ⟨k, rfl, hk, hk2, HI, hb⟩ := hrel
    obtain ⟨x0, x1, x2, x3⟩ := BX.out wr hb
    have HBW := Lib.hid hb
    clear hb
    by_cases hkx : k < x.sub.length
    · by_cases hky : k < y.sub.length
      · obtain ⟨p, hp⟩ : ∃ p, x.sub[k]? = some p := ⟨_, List.getElem?_eq_getElem hkx⟩
        obtain ⟨q, hq⟩ : ∃ q, y.sub[k]? = some q := ⟨_, List.getElem?_eq_getElem hky⟩
        obtain ⟨b1, o1, rfl, _, _, cs1, ⟨rfl, hok⟩, hc1⟩ := (H1.out.keep (Kp.of_below HBW.out)).at hp
        obtain ⟨b2, o2, rfl, _, _, cs2, ⟨rfl, hok'⟩, hc2⟩ := (H2.out.keep (Kp.of_below HBW.out)).at hq
        have d0 := hc1 0 _ rfl
        have d1 := hc2 0 _ rfl
        simp only [Nat.add_zero, Nat.mul_one] at d0 d1
        obtain ⟨p1, p2⟩ := HX.out p (List.mem_of_getElem? hp)
        obtain ⟨q1, q2⟩ := HY.out q (List.mem_of_getElem? hq)
        have HLX := Lib.hid (lx_drop (c := cmpId cs) hp hq)
        have e1 : (0 : Int) ≤ (k : Int) := by omega
        have e2 : (k : Int) < (x.sub.length : Int) := by omega
        have e3 : (k : Int) < (y.sub.length : Int) := by omega
        clear hc1 hc2 hp hq hok hok'
        by_cases hpq : p = q
        · subst hpq
          have f3 : (p == p) = true := by simp
          have NX := Lib.hid (show ahF cs x y = decide (cmpLx (cmpId cs) (x.sub.drop (k + 1)) (y.sub.drop (k + 1)) < 0) by
            rw [HI.out, HLX.out, if_pos ((ord_id cs).self p)])
          go_wp2
          exact ⟨⟨k + 1, by go_num, by omega, by omega, NX, HBW.out⟩, by simp [intOf]; omega⟩
        · have f3 : (p == q) = false := beq_false_of_ne hpq
          obtain ⟨pn, rfl⟩ : ∃ pn : Nat, p = (pn : Int) := ⟨p.toNat, by omega⟩
          obtain ⟨qn, rfl⟩ : ∃ qn : Nat, q = (qn : Int) := ⟨q.toNat, by omega⟩
          obtain ⟨cp, hcp⟩ : ∃ cp, cs[pn]? = some cp := ⟨_, List.getElem?_eq_getElem (by omega)⟩
          obtain ⟨cq, hcq⟩ : ∃ cq, cs[qn]? = some cq := ⟨_, List.getElem?_eq_getElem (by omega)⟩
          obtain ⟨b3, o3, rfl, _, hb3, cs3, rfl, hc3⟩ := (HC.out.keep (Kp.of_below HBW.out)).at hcp
          obtain ⟨b4, o4, hA, _, hb4, cs4, rfl, hc4⟩ := (HC.out.keep (Kp.of_below HBW.out)).at hcq
          simp only [Option.some.injEq, Addr.mk.injEq, and_true] at hA
          obtain ⟨rfl, rfl⟩ := hA
          have g0 := hc3 0 _ rfl
          have g1 := hc3 1 _ rfl
          have g2 := hc3 2 _ rfl
          have k0 := hc4 0 _ rfl
          have k1 := hc4 1 _ rfl
          have k2 := hc4 2 _ rfl
          simp only [Nat.add_zero] at g0 k0
          have NE : Nonempty (Pt (Below wr.heap.size wr)) := ⟨⟨wr, Below.refl _ _⟩⟩
          have u0 := fun p : Pt (Below wr.heap.size wr) => (p.property.cell (p := ⟨b3, o3 + pn * 3, none⟩) hb3).trans g0
          have u1 := fun p : Pt (Below wr.heap.size wr) => (p.property.cell (p := ⟨b3, o3 + pn * 3 + 1, none⟩) hb3).trans g1
          have u2 := fun p : Pt (Below wr.heap.size wr) => (p.property.cell (p := ⟨b3, o3 + pn * 3 + 2, none⟩) hb3).trans g2
          have u3 := fun p : Pt (Below wr.heap.size wr) => (p.property.cell (p := ⟨b3, o3 + qn * 3, none⟩) hb3).trans k0
          have u4 := fun p : Pt (Below wr.heap.size wr) => (p.property.cell (p := ⟨b3, o3 + qn * 3 + 1, none⟩) hb3).trans k1
          have u5 := fun p : Pt (Below wr.heap.size wr) => (p.property.cell (p := ⟨b3, o3 + qn * 3 + 2, none⟩) hb3).trans k2
          have CC := Lib.hid (fun p : Pt (Below wr.heap.size wr) => rcmp_c cp cq p.val (HZ.out cp (List.mem_of_getElem? hcp)) (HZ.out cq (List.mem_of_getElem? hcq)))
          have HID := Lib.hid (show cmpId cs (pn : Int) (qn : Int) = if cmpC cp cq = 0 then cmpI (pn : Int) (qn : Int) else cmpC cp cq by
            unfold cmpId
            rw [Int.toNat_natCast, Int.toNat_natCast, List.getD_eq_getElem?_getD, List.getD_eq_getElem?_getD, hcp, hcq]
            rfl)
          have HPQ := Lib.hid hpq
          obtain ⟨r, hr⟩ : ∃ r, cmpC cp cq = r := ⟨_, rfl⟩
          rw [hr] at HID CC
          clear hc3 hc4 hcp hcq g0 g1 g2 k0 k1 k2 hpq hr
          go_upto_region 9 with fail
          clear d0 d1 x0 x1 x2 x3
          refine wp_region_class (S := Below wr.heap.size wr) (Below.refl _ _).drew (by kernel_rfl) (by kernel_rfl) ?_
          repeat (go_big_quiet_step (first | (go_at_call 90; refine (CC.out _).mono ?_; rintro e w' ⟨rfl, hbel⟩; exact ⟨rfl, ⟨w', below_stepA (Pt.property _) hbel⟩, rfl⟩)))
          refine wpQuiet_nil ?_
          rintro W2 ⟨⟨W2, hW⟩, rfl⟩
          have HW := Lib.hid (HB.out.trans ((HBW.out.trans (Below.mono hW HBW.out.size)).mono HB.out.size))
          clear u0 u1 u2 u3 u4 u5 CC hW
          by_cases hr0 : r = 0
          · subst hr0
            by_cases hlt : (pn : Int) < (qn : Int)
            · have HR := Lib.hid (show ahF cs x y = true by
                rw [HI.out, HLX.out, HID.out, if_pos rfl]
                have h1 := cmpI_lt.2 hlt
                rw [if_neg (by omega)]
                exact decide_eq_true h1)
              go_wp2
              go_ret
              exact ⟨ret_boolA HR.out.symm, HW.out⟩
            · have HR := Lib.hid (show ahF cs x y = false by
                rw [HI.out, HLX.out, HID.out, if_pos rfl]
                have h1 : ¬ cmpI (pn : Int) (qn : Int) < 0 := fun h => hlt (cmpI_lt.1 h)
                rw [if_neg (fun h => HPQ.out (cmpI_zero.1 h))]
                exact decide_eq_false h1)
              go_wp2
              go_ret
              exact ⟨ret_boolA HR.out.symm, HW.out⟩
          · have f4 : (r == 0) = false := beq_false_of_ne hr0
            have f5 : (r != 0) = true := bne_iff_ne.2 hr0
            have HR := Lib.hid (show ahF cs x y = decide (r < 0) by
              rw [HI.out, HLX.out, HID.out, if_neg hr0, if_neg hr0])
            by_cases hlt : r < 0
            · have HR2 := Lib.hid (HR.out.trans (decide_eq_true hlt))
              go_wp2
              go_ret
              exact ⟨ret_boolA HR2.out.symm, HW.out⟩
            · have HR2 := Lib.hid (HR.out.trans (decide_eq_false hlt))
              go_wp2
              go_ret
              exact ⟨ret_boolA HR2.out.symm, HW.out⟩
      · have HR := Lib.hid (show ahF cs x y = false by
          rw [HI.out]
          exact decide_eq_false (fun h => by have := (lx_end (.inr (by omega)) hk hk2).1 h; omega))
        have e2 : (k : Int) < (x.sub.length : Int) := by omega
        have e3 : ¬ (k : Int) < (y.sub.length : Int) := by omega
        have e4 : ¬ (x.sub.length : Int) < (y.sub.length : Int) := by omega
        go_wp2
        go_ret
        exact ⟨ret_boolA HR.out.symm, HB.out.trans (HBW.out.mono HB.out.size)⟩
    · have e2 : ¬ (k : Int) < (x.sub.length : Int) := by omega
      have HR := Lib.hid (show ahF cs x y = decide (x.sub.length < y.sub.length) by
        rw [HI.out]
        exact decide_eq_decide.2 (lx_end (.inl (by omega)) hk hk2))
      by_cases hlt : x.sub.length < y.sub.length
      · have HR2 := Lib.hid (HR.out.trans (decide_eq_true hlt))
        go_wp2
        go_ret
        exact ⟨ret_boolA HR2.out.symm, HB.out.trans (HBW.out.mono HB.out.size)⟩
      · have HR2 := Lib.hid (HR.out.trans (decide_eq_false hlt))
        go_wp2
        go_ret
        exact ⟨ret_boolA HR2.out.symm, HB.out.trans (HBW.out.mono HB.out.size)⟩
end Go.Proofs.YtjgigcnjgblekaaDoor

namespace Go.Proofs.YtjgigcnjgblekaaDoor
open Go Go.RowKit Go.Maps Classical

theorem step_push_Z {w w1 : World} {ops : Array Oper} {o : Oper} {a : Act} {K : Act → World → Prop} {Q : Exit → Act → World → Prop} {E : Prop} {B : Nat} {v sv : Value} {zs : List (Ac × Value)} {x : Ac} (h : Zs B w v zs) (hb : Below w.heap.size w w1) (hB : B ≤ w.heap.size) (hsv : OwnZ w1 w.heap.size sv x.sub) (hok : AcOk x)
    (hgd : o.guard = none) (s q : Operand) (ho : o.op = .call { callee := .builtin .append, args := #[s, q], argTypes := #[23, 23] }) (hs : a.eval s = v) (T : TypeId) {c H : Nat} (hq : a.eval q = .slice (some ⟨H, 0, none⟩) 1 c) (hH : w1.heap.size = H) (hn : zs.length ≤ 40000000)
    (k : ∀ g cap w', Zs B w' (.slice (some ⟨g, 0, none⟩) (zs.length + 1) cap) (zs ++ [(x, sv)]) → Turns v.ownBlock.toList w1 w' → (v.ownBlock = some g ∨ w1.heap.size ≤ g) → K (a.put o.dst (.slice (some ⟨g, 0, none⟩) (zs.length + 1) cap)) w') : if Region.wanted o (yielded ops a.tmps) = true then Oper.wp Tryd.prog o a (w1.alloc (.cells #[.int .i64 x.rule, sv] T)) K Q else E := by
  subst hH
  obtain ⟨i0, hi0, hz0, hz1, hz2⟩ := info_parts infoAct
  have hbl : Below w1.heap.size w1 (w1.alloc (.cells #[.int .i64 x.rule, sv] T)) := (Below.refl w1.heap.size w1).alloc (Nat.le_refl _) _
  have h1 := ownsRow_turns (h.below hb).row (Turns.of_below (S := []) hbl) (fun _ _ => by simp)
  obtain ⟨sA, sc, rfl⟩ := hsv.form
  have hbs := hb.size
  refine step_append1s (w1.alloc (.cells #[.int .i64 x.rule, .slice sA x.sub.length sc] T)) hgd s q 23 ho B 30 i0 (.agg #[.int .i64 0, .slice none 0 0]) 2 32 Tryd.underlying23 hi0 hz0 hz1 hz2 rfl (by decide) v zs.length (zCells zs) hs h1 ⟨w1.heap.size, 0, none⟩ c [.int .i64 x.rule, .slice sA x.sub.length sc] hq rfl (World.news_of_block (heap_alloc_new w1 _)) (by simp [Value.oneCell']) hn (by decide) (by simp; omega) _ rfl ?_
  intro g cap w' hown hgrow hat _
  have T1 : Turns v.ownBlock.toList w1 w' := (((Turns.refl [] w1).alloc _).mono (by simp)).trans (Turns.of_grown hgrow) (fun x hx => .inl hx)
  have hat2 : v.ownBlock = some g ∨ w1.heap.size ≤ g := by
    rcases hat with h | h
    · exact .inl h
    · exact .inr (by have := h.1; simp at this; omega)
  exact k g cap w' (h.push hb hB hsv hok hown T1 hat2) T1 hat2
set_option maxRecDepth 100000 in
set_option maxHeartbeats 8000000 in
theorem lcopiedW {F : Nat → Prop} (v : Value) (l : List Ac) (w : World) (h : RSl F w 2 (EAc F w) v l) (hn : l.length ≤ 40000000) (hok : ∀ a ∈ l, AcOk a) :
    Calls Tryd.prog 25 #[v] w (LstRes l w) := by
  obtain ⟨A, c, rfl⟩ := h.form
  have H := Lib.hid (EAc.all h (Kp.refl _ _) (F' := fun b => b < w.heap.size) (fun _ hb _ => hb))
  have HN := Lib.hid hn
  have HOK := Lib.hid hok
  have E0 := Lib.hid (Below.refl w.heap.size w)
  clear h hok
  go_enter Tryd.func25, Tryd.ntmps25
  go_upto_region 3 with fail
  go_loopw [3, 4] (fun ov i wr => ∃ (k : Nat) (zs : List (Ac × Value)) (vo : Value), i = .int .i64 (k : Int) ∧ ov = vo ∧ k ≤ l.length ∧ Zs w.heap.size wr vo zs ∧ zs.map Prod.fst = l.take k ∧ Below w.heap.size w wr) (fun _ i _ => l.length - (intOf i).toNat)
  case atStart => exact ⟨0, [], _, rfl, rfl, Nat.zero_le _, Zs.nil, rfl, E0.out⟩
  case round =>
    obtain ⟨k, zs, vo, rfl, rfl, hk, hZ, hzs, hb⟩ := hrel
    have ZZ := Lib.hid hZ
    have HZS := Lib.hid hzs
    have HB := Lib.hid hb
    obtain ⟨A5, c5, hvo⟩ := hZ.form
    have hzl : zs.length = k := by
      have := congrArg List.length hzs
      rw [List.length_map, List.length_take, Nat.min_eq_left hk] at this
      exact this
    rw [hzl] at hvo
    subst hvo
    clear hZ hzs hb
    by_cases hkn : k < l.length
    · obtain ⟨x, hx⟩ : ∃ x, l[k]? = some x := ⟨_, List.getElem?_eq_getElem hkn⟩
      obtain ⟨b, off, rfl, _, hbs, cs, ⟨sv, rfl, hok, hsv⟩, hc⟩ := (EAc.all H.out (Kp.of_below HB.out) (fun _ _ h => h)).at hx
      obtain ⟨A3, c3, rfl⟩ := hsv.form
      have d0 := hc 0 _ rfl
      have d1 := hc 1 _ rfl
      simp only [Nat.add_zero] at d0
      have HXO := Lib.hid (HOK.out x (List.mem_of_getElem? hx))
      have HTK := Lib.hid (show l.take (k + 1) = l.take k ++ [x] by rw [List.take_add_one, hx]; rfl)
      have HZL := Lib.hid hzl
      have V0 := fun (o : Obj) => show (wr.alloc o).cell? ⟨b, off + k * 2, none⟩ = some (.int .i64 x.rule) from (((Below.refl wr.heap.size wr).alloc (Nat.le_refl _) o).cell (p := ⟨b, off + k * 2, none⟩) hbs).trans d0
      have V1 := fun (o : Obj) => show (wr.alloc o).cell? ⟨b, off + k * 2 + 1, none⟩ = some (.slice A3 x.sub.length c3) from (((Below.refl wr.heap.size wr).alloc (Nat.le_refl _) o).cell (p := ⟨b, off + k * 2 + 1, none⟩) hbs).trans d1
      have O0 := Lib.hid (own0 wr 3 1 wr.heap.size (Nat.le_refl _))
      have HS := Lib.hid (hsv.keep (Kp.of_below ((Below.refl wr.heap.size wr).alloc (Nat.le_refl _) (.cells #[] 3))))
      have HLN := Lib.hid (show 0 + x.sub.length ≤ 17000000000000 by have := HXO.out.len; omega)
      have KEY := Lib.hid (fun (v' : Value) (w3 : World) (ho : w3.ownsRow wr.heap.size 3 1 v' (0 + x.sub.length) ([] ++ intVs x.sub)) (ht : Turns (Value.slice (some ⟨wr.heap.size, 0, none⟩) 0 0).ownBlock.toList (wr.alloc (.cells #[] 3)) w3) =>
        (show OwnZ w3 wr.heap.size v' x.sub ∧ Below wr.heap.size wr w3 ∧ w3.cell? ⟨b, off + k * 2, none⟩ = some (.int .i64 x.rule) by
          have hb3 : Below wr.heap.size wr w3 := ((Below.refl wr.heap.size wr).alloc (Nat.le_refl _) (.cells #[] 3)).trans (ht.below (by simp) (fun y hy => by rw [show y = wr.heap.size by simpa [Value.ownBlock] using hy]; exact Nat.le_refl _))
          rw [Nat.zero_add, List.nil_append] at ho
          exact ⟨ho, hb3, (hb3.cell (p := ⟨b, off + k * 2, none⟩) hbs).trans d0⟩))
      have i1 : (0 : Int) ≤ (k : Int) := by omega
      have i2 : (k : Int) < (l.length : Int) := by omega
      have h40 : zs.length ≤ 40000000 := by have := HN.out; omega
      clear hx hok hsv hc
      go_wp2_with fail
      go_region_law (first
        | (refine step_append_ints O0.out HS.out (by rfl) (.tmp 17) (.tmp 22) 22 (by rfl) Tryd.underlying22 infoIntR rfl (by rfl) (by rfl) HLN.out (by simp) ?_; intro v' w3 ho ht; have ho' := ho; rw [Nat.zero_add] at ho'; obtain ⟨va, vc, rfl⟩ := own_form1 ho'; clear ho'; obtain ⟨q1, q2, q3⟩ := KEY.out _ w3 ho ht; have Q1 := Lib.hid q1; have Q2 := Lib.hid q2; clear ho ht q1 q2)
        | (refine step_push_Z ZZ.out Q2.out HB.out.size Q1.out HXO.out (by rfl) (.tmp 11) (.tmp 25) (by rfl) (by rfl) _ (by rfl) (by rfl) h40 ?_; rw [HZL.out]; intro g cap w5 hz5 ht5 _; have Z5 := Lib.hid hz5; have B5 := Lib.hid (HB.out.trans ((Q2.out.mono HB.out.size).trans (ht5.below (Nat.le_trans HB.out.size Q2.out.size) (fun y hy => (ownBlock_cells ZZ.out.row (by simpa using hy)).1)))); clear hz5 ht5))
      all_goals
        have NX := Lib.hid (show (zs ++ [(x, Value.slice va x.sub.length vc)]).map Prod.fst = l.take (k + 1) by rw [List.map_append, HZS.out, HTK.out]; rfl)
        go_wp2
        exact ⟨⟨k + 1, _, _, by go_num, rfl, by omega, Z5.out, NX.out, B5.out⟩, by simp [intOf]; omega⟩
    · obtain rfl : k = l.length := by omega
      have HFIN := Lib.hid (show zs.map Prod.fst = l by rw [HZS.out, List.take_length])
      go_wp2
      go_ret
      refine ⟨_, zs, rfl, ?_, HFIN.out, HB.out⟩
      exact ZZ.out
end Go.Proofs.YtjgigcnjgblekaaDoor

namespace Go.Proofs.YtjgigcnjgblekaaDoor
open Go Go.RowKit Classical

/-- The acts in their order. -/
def tab21 : List Ac := [⟨0, []⟩, ⟨1, [2]⟩, ⟨1, [1]⟩, ⟨1, [0]⟩, ⟨1, [3]⟩, ⟨2, [2, 2]⟩, ⟨2, [2, 1]⟩, ⟨2, [2, 0]⟩, ⟨2, [2, 3]⟩, ⟨2, [1, 2]⟩, ⟨2, [1, 1]⟩, ⟨2, [1, 0]⟩, ⟨2, [1, 3]⟩, ⟨2, [0, 2]⟩, ⟨2, [0, 1]⟩, ⟨2, [0, 0]⟩, ⟨2, [0, 3]⟩, ⟨2, [3, 2]⟩, ⟨2, [3, 1]⟩, ⟨2, [3, 0]⟩, ⟨2, [3, 3]⟩]
def actN (k : Nat) : Ac := tab21.getD k ⟨0, []⟩
def rk (i : Int) : Nat := if i = 0 then 2 else if i = 1 then 1 else if i = 2 then 0 else 3
def numA (a : Ac) : Nat :=
  match a.sub with
  | [] => 0
  | [i] => 1 + rk i
  | i :: j :: _ => 5 + 4 * rk i + rk j
theorem numA_act {a : Ac} (h : a ∈ all21) : numA a < 21 ∧ actN (numA a) = a := by
  unfold all21 at h
  simp only [List.mem_cons, List.not_mem_nil, or_false] at h
  rcases h with rfl | rfl | rfl | rfl | rfl | rfl | rfl | rfl | rfl | rfl | rfl | rfl | rfl | rfl | rfl | rfl | rfl | rfl | rfl | rfl | rfl <;> exact ⟨by decide, rfl⟩
theorem num_act : ∀ {k : Nat}, k < 21 → numA (actN k) = k := by
  have h : ∀ k, k < 21 → numA (actN k) = k := by decide
  exact fun {k} => h k
theorem act_mem {k : Nat} (h : k < 21) : actN k ∈ all21 := by
  have h1 : ∀ k, k < 21 → ((actN k).rule, (actN k).sub) ∈ all21.map fun a => (a.rule, a.sub) := by decide
  obtain ⟨b, hb, e⟩ := List.mem_map.1 (h1 k h)
  simp only [Prod.mk.injEq] at e
  have : b = actN k := by
    cases b
    generalize actN k = c at e
    cases c
    simp only at e
    rw [e.1, e.2]
  exact this ▸ hb
theorem act_inj {i j : Nat} (hi : i < 21) (hj : j < 21) (h : actN i = actN j) : i = j := by rw [← num_act hi, ← num_act hj, h]
theorem num_inj {a b : Ac} (ha : a ∈ all21) (hb : b ∈ all21) (h : numA a = numA b) : a = b := by rw [← (numA_act ha).2, ← (numA_act hb).2, h]
/-- The numbers' order is the acts'. -/
theorem cmpL_ba : cmpL [98] [97] = 1 := by rfl
theorem cmpL_ab : cmpL [97] [98] = -1 := by rfl
theorem id_rk : ∀ i ∈ ([0, 1, 2, 3] : List Int), ∀ j ∈ ([0, 1, 2, 3] : List Int), cmpId fourL i j = cmpI (rk i) (rk j) := by
  intro i hi j hj
  simp only [List.mem_cons, List.not_mem_nil, or_false] at hi hj
  rcases hi with rfl | rfl | rfl | rfl <;> rcases hj with rfl | rfl | rfl | rfl <;>
    first
    | (unfold cmpId; rw [cmpC_self]; rfl)
    | (unfold cmpId; rw [cmpC_eq]; (try simp [fourL, cmpI, rk]) <;> (first | done | (rw [cmpL_ba]; rfl) | (rw [cmpL_ab]; rfl)))
theorem cmpLx_congr {α β : Type} (c : α → α → Int) (d : β → β → Int) (f : α → β) : ∀ (x y : List α), (∀ a ∈ x, ∀ b ∈ y, c a b = d (f a) (f b)) → cmpLx c x y = cmpLx d (x.map f) (y.map f)
  | [], [], _ => rfl
  | [], _ :: _, _ => rfl
  | _ :: _, [], _ => rfl
  | a :: x, b :: y, h => by
    simp only [List.map_cons, cmpLx]
    rw [h a (List.mem_cons_self ..) b (List.mem_cons_self ..), cmpLx_congr c d f x y (fun u hu v hv => h u (List.mem_cons_of_mem _ hu) v (List.mem_cons_of_mem _ hv))]
theorem act_ids {k : Nat} (h : k < 21) : ∀ i ∈ (actN k).sub, i ∈ ([0, 1, 2, 3] : List Int) := by
  have h1 : ∀ k, k < 21 → ∀ i ∈ (actN k).sub, i ∈ ([0, 1, 2, 3] : List Int) := by decide
  exact h1 k h
def cmpR (a b : Ac) : Int := if cmpI a.rule b.rule = 0 then cmpLx (fun i j : Nat => cmpI i j) (a.sub.map rk) (b.sub.map rk) else cmpI a.rule b.rule
theorem act_le {i j : Nat} (hi : i < 21) (hj : j < 21) (h : i < j) : leA fourL (actN i) (actN j) = true := by
  have h1 : ∀ j, j < 21 → ∀ i, i < j → cmpR (actN i) (actN j) ≤ 0 := by decide +kernel
  have h2 := h1 j hj i h
  unfold leA cmpA
  unfold cmpR at h2
  rw [cmpLx_congr (cmpId fourL) (fun i j : Nat => cmpI i j) rk _ _ (fun u hu v hv => id_rk u (act_ids hi u hu) v (act_ids hj v hv))]
  exact decide_eq_true h2
/-- The numbers of some acts, rising. -/
noncomputable def numsIn (p : Ac → Prop) : List Nat := (List.range 21).filter fun k => decide (p (actN k))
theorem numsIn_congr {p q : Ac → Prop} (h : ∀ a ∈ all21, p a ↔ q a) : numsIn p = numsIn q := by
  unfold numsIn
  refine List.filter_congr fun k hk => ?_
  exact decide_eq_decide.2 (h _ (act_mem (List.mem_range.1 hk)))
theorem sort_nums {X : List Ac} (hn : X.Nodup) (hx : ∀ a ∈ X, a ∈ all21) : sortA fourL X = (numsIn (· ∈ X)).map actN := by
  symm
  have hl : (numsIn (· ∈ X)).Pairwise (· < ·) := List.pairwise_lt_range.filter _
  have hm : ∀ k ∈ numsIn (· ∈ X), k < 21 := fun k hk => List.mem_range.1 (List.mem_filter.1 hk).1
  refine sortA_of ?_ ?_
  · unfold SdA
    rw [List.pairwise_map]
    refine hl.imp_of_mem fun {i j} hi hj h => act_le (hm i hi) (hm j hj) h
  · rw [List.perm_ext_iff_of_nodup ?_ hn]
    · intro a
      rw [List.mem_map]
      constructor
      · rintro ⟨k, hk, rfl⟩
        simpa using (List.mem_filter.1 hk).2
      · intro ha
        obtain ⟨h1, h2⟩ := numA_act (hx a ha)
        exact ⟨numA a, List.mem_filter.2 ⟨List.mem_range.2 h1, by simpa [h2] using ha⟩, h2⟩
    · rw [List.nodup_iff_pairwise_ne, List.pairwise_map]
      exact hl.imp_of_mem fun {i j} hi hj h e => by
        have := act_inj (hm i hi) (hm j hj) e
        omega
theorem map_num {l : List Nat} (h : ∀ k ∈ l, k < 21) : (l.map actN).map numA = l := by
  rw [List.map_map]
  conv => rhs; rw [← List.map_id l]
  exact List.map_congr_left fun k hk => num_act (h k hk)
theorem numsIn_lt {p : Ac → Prop} : ∀ k ∈ numsIn p, k < 21 := fun _ hk => List.mem_range.1 (List.mem_filter.1 hk).1
theorem sort_num {X : List Ac} (hn : X.Nodup) (hx : ∀ a ∈ X, a ∈ all21) : (sortA fourL X).map numA = numsIn (· ∈ X) := by rw [sort_nums hn hx, map_num numsIn_lt]
/-- The book's reckoning: the lowest level of what may fire. -/
def bkLow (o : Nat → Bool) (L : Nat → Int) (n : Nat) : Int := (List.range n).foldl (fun s i => if o i = true then min s (L i) else s) 4611686018427387904
theorem bkLow_succ (o : Nat → Bool) (L : Nat → Int) (n : Nat) : bkLow o L (n + 1) = if o n = true then min (bkLow o L n) (L n) else bkLow o L n := by
  unfold bkLow
  rw [List.range_succ, List.foldl_append]
  rfl
theorem bkLow_spec (o : Nat → Bool) (L : Nat → Int) (hL : ∀ i, L i ≤ 2) : ∀ n, ((∀ i, i < n → o i = false) ∧ bkLow o L n = 4611686018427387904) ∨ (∃ i, i < n ∧ o i = true ∧ L i = bkLow o L n) ∧ ∀ i, i < n → o i = true → bkLow o L n ≤ L i
  | 0 => .inl ⟨fun i h => by omega, rfl⟩
  | n + 1 => by
    rw [bkLow_succ]
    cases hn : o n with
    | false =>
      rw [if_neg (by simp)]
      rcases bkLow_spec o L hL n with ⟨h1, h2⟩ | ⟨⟨i, h1, h2, h3⟩, h4⟩
      · exact .inl ⟨fun i hi => by
          rcases Nat.lt_or_ge i n with h | h
          · exact h1 i h
          · obtain rfl : i = n := by omega
            exact hn, h2⟩
      · exact .inr ⟨⟨i, by omega, h2, h3⟩, fun j hj hj2 => by
          rcases Nat.lt_or_ge j n with h | h
          · exact h4 j h hj2
          · obtain rfl : j = n := by omega
            rw [hn] at hj2; simp at hj2⟩
    | true =>
      rw [if_pos rfl]
      right
      have hLn := hL n
      rcases bkLow_spec o L hL n with ⟨h1, h2⟩ | ⟨⟨i, h1, h2, h3⟩, h4⟩
      · rw [h2, Int.min_eq_right (by omega)]
        exact ⟨⟨n, by omega, hn, rfl⟩, fun j hj hj2 => by
          rcases Nat.lt_or_ge j n with h | h
          · rw [h1 j h] at hj2; simp at hj2
          · obtain rfl : j = n := by omega
            exact Int.le_refl _⟩
      · refine ⟨?_, fun j hj hj2 => ?_⟩
        · by_cases hle : bkLow o L n ≤ L n
          · rw [Int.min_eq_left hle]; exact ⟨i, by omega, h2, h3⟩
          · rw [Int.min_eq_right (by omega)]; exact ⟨n, by omega, hn, rfl⟩
        · rcases Nat.lt_or_ge j n with h | h
          · have := h4 j h hj2
            omega
          · obtain rfl : j = n := by omega
            omega
/-- The agenda's state and the book's: by number. -/
noncomputable def inB (X : List Ac) (k : Nat) : Bool := decide (actN k ∈ X)
noncomputable def opB (C D : List Ac) (k : Nat) : Bool := inB C k && !inB D k
def lvB (lv : List Int) (k : Nat) : Int := lvl lv (actN k)
/-- What may fire, by number. -/
noncomputable def elB (lv : List Int) (C D : List Ac) : List Nat := (List.range 21).filter fun k => opB C D k && decide (lvB lv k = bkLow (opB C D) (lvB lv) 21)
theorem mem_open {g : Agd} {a : Ac} : a ∈ openA g ↔ a ∈ g.C ∧ a ∉ g.D := by simp [openA]
theorem open_op {lv : List Int} {C D : List Ac} {k : Nat} : opB C D k = true ↔ actN k ∈ openA ⟨lv, fourL, C, D⟩ := by
  rw [mem_open]
  simp [opB, inB]
theorem elig_num {lv : List Int} {C D : List Ac} (hok : AgOk ⟨lv, fourL, C, D⟩) (hC : ∀ a ∈ C, a ∈ all21) (hl : ∀ k, lvB lv k ≤ 2) : (eligA ⟨lv, fourL, C, D⟩).map numA = elB lv C D ∧ ∀ a ∈ eligA ⟨lv, fourL, C, D⟩, a ∈ all21 := by
  have hx : ∀ a ∈ (openA ⟨lv, fourL, C, D⟩).filter (fun a => decide (lvl lv a = strA ⟨lv, fourL, C, D⟩)), a ∈ all21 := fun a ha => hC a (mem_open.1 (List.mem_filter.1 ha).1).1
  have hn : ((openA ⟨lv, fourL, C, D⟩).filter (fun a => decide (lvl lv a = strA ⟨lv, fourL, C, D⟩))).Nodup := (hok.nodC.filter _).filter _
  refine ⟨?_, fun a ha => hx a ((sortA_perm _ _).mem_iff.1 ha)⟩
  show (sortA fourL ((openA ⟨lv, fourL, C, D⟩).filter (fun a => decide (lvl lv a = strA ⟨lv, fourL, C, D⟩)))).map numA = _
  rw [sort_num hn hx]
  unfold numsIn elB
  refine List.filter_congr fun k hk => ?_
  have hk := List.mem_range.1 hk
  by_cases ho : opB C D k = true
  · rw [ho, Bool.true_and]
    have ho2 := (open_op (lv := lv)).1 ho
    refine decide_eq_decide.2 ?_
    show actN k ∈ List.filter _ _ ↔ _
    rw [List.mem_filter]
    simp only [ho2, true_and, decide_eq_true_eq]
    have e : strA ⟨lv, fourL, C, D⟩ = bkLow (opB C D) (lvB lv) 21 := by
      rcases strL_low (lvl_pos hok) (openA ⟨lv, fourL, C, D⟩) with ⟨h1, _⟩ | ⟨⟨a, ha, h1⟩, h2⟩
      · rw [h1] at ho2; cases ho2
      · rcases bkLow_spec (opB C D) (lvB lv) hl 21 with ⟨h3, _⟩ | ⟨⟨i, h3, h4, h5⟩, h6⟩
        · rw [h3 k hk] at ho; cases ho
        · obtain ⟨n1, n2⟩ := numA_act (hC a (mem_open.1 ha).1)
          have h7 := h6 (numA a) n1 (by rw [open_op (lv := lv), n2]; exact ha)
          have h8 := h2 (actN i) ((open_op (lv := lv)).1 h4)
          obtain ⟨B, hB⟩ : ∃ B, bkLow (opB C D) (lvB lv) 21 = B := ⟨_, rfl⟩
          rw [hB] at h5 h7 ⊢
          unfold strA
          unfold lvB at h5 h7
          rw [n2] at h7
          simp only at h1 h7 h8 ⊢
          omega
    rw [e]
    rfl
  · rw [Bool.not_eq_true] at ho
    rw [ho, Bool.false_and]
    rw [decide_eq_false_iff_not]
    intro h
    have := (open_op (lv := lv)).2 (List.mem_filter.1 (show actN k ∈ List.filter _ _ from h)).1
    rw [ho] at this
    cases this
theorem el_none {lv : List Int} {C D : List Ac} (hok : AgOk ⟨lv, fourL, C, D⟩) (hC : ∀ a ∈ C, a ∈ all21) (hl : ∀ k, lvB lv k ≤ 2) : strA ⟨lv, fourL, C, D⟩ = -1 ↔ elB lv C D = [] := by
  rw [str_none hok, ← elig_ne hok, ← (elig_num hok hC hl).1, List.map_eq_nil_iff]
end Go.Proofs.YtjgigcnjgblekaaDoor
