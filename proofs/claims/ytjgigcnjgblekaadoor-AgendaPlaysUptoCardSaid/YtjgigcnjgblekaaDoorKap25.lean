/- The reference's Ahead and sorted: a list in P3's order. The walks. The reference's sorted: the least one taken out again and again. The walk. Contracts of agenda.Index and of the reference's Index: both answer the pick modulo n (0 where n is none). -/
import Derived.Test.YtjgigcnjgblekaaDoorKap24
import Derived.Lib.Hide
import Derived.OpenShut
import Derived.Test.YtjgigcnjgblekaaDoorChecked
import Derived.WalkKit
import Derived.WalkLawsBesides
namespace Go.Proofs.YtjgigcnjgblekaaDoor
open Go Go.RowKit Go.Maps Classical

/-- A copied act more, in a region that draws nothing. -/
theorem wpList_push_Z {w w1 : World} {ops : Array Oper} {rest : List Oper} {o : Oper} {a : Act} {Q : Exit → Act → World → Prop} {B : Nat} {v sv : Value} {zs : List (Ac × Value)} {x : Ac} (h : Zs B w v zs) (hb : Below w.heap.size w w1) (hB : B ≤ w.heap.size) (hsv : OwnZ w1 w.heap.size sv x.sub) (hok : AcOk x)
    (hgd : o.guard = none) (s q : Operand) (ho : o.op = .call { callee := .builtin .append, args := #[s, q], argTypes := #[23, 23] }) (hs : a.eval s = v) (T : TypeId) {c H : Nat} (hq : a.eval q = .slice (some ⟨H, 0, none⟩) 1 c) (hH : w1.heap.size = H) (hn : zs.length ≤ 40000000)
    (k : ∀ g cap w', Zs B w' (.slice (some ⟨g, 0, none⟩) (zs.length + 1) cap) (zs ++ [(x, sv)]) → Turns v.ownBlock.toList w1 w' → (v.ownBlock = some g ∨ w1.heap.size ≤ g) → wpList Tryd.prog ops Q rest (a.put o.dst (.slice (some ⟨g, 0, none⟩) (zs.length + 1) cap)) w') : wpList Tryd.prog ops Q (o :: rest) a (w1.alloc (.cells #[.int .i64 x.rule, sv] T)) := by
  subst hH
  obtain ⟨i0, hi0, hz0, hz1, hz2⟩ := info_parts infoAct
  have hbl : Below w1.heap.size w1 (w1.alloc (.cells #[.int .i64 x.rule, sv] T)) := (Below.refl w1.heap.size w1).alloc (Nat.le_refl _) _
  have h1 := ownsRow_turns (h.below hb).row (Turns.of_below (S := []) hbl) (fun _ _ => by simp)
  obtain ⟨sA, sc, rfl⟩ := hsv.form
  have hbs := hb.size
  refine wpList_append1s (w1.alloc (.cells #[.int .i64 x.rule, .slice sA x.sub.length sc] T)) hgd s q 23 ho B 30 i0 (.agg #[.int .i64 0, .slice none 0 0]) 2 32 Tryd.underlying23 hi0 hz0 hz1 hz2 rfl (by decide) v zs.length (zCells zs) hs h1 ⟨w1.heap.size, 0, none⟩ c [.int .i64 x.rule, .slice sA x.sub.length sc] hq rfl (World.news_of_block (heap_alloc_new w1 _)) (by simp [Value.oneCell']) hn (by decide) (by simp; omega) _ rfl ?_
  intro g cap w' hown hgrow hat _
  have T1 : Turns v.ownBlock.toList w1 w' := (((Turns.refl [] w1).alloc _).mono (by simp)).trans (Turns.of_grown hgrow) (fun x hx => .inl hx)
  have hat2 : v.ownBlock = some g ∨ w1.heap.size ≤ g := by
    rcases hat with h | h
    · exact .inl h
    · exact .inr (by have := h.1; simp at this; omega)
  exact k g cap w' (h.push hb hB hsv hok hown T1 hat2) T1 hat2
/-- Over ids in range. -/
def idsIn (cs : List Cst) (x : Ac) : Prop := ∀ i ∈ x.sub, 0 ≤ i ∧ i < (cs.length : Int)
theorem lx_drop {α : Type} {c : α → α → Int} {x y : List α} {k : Nat} {p q : α} (hp : x[k]? = some p) (hq : y[k]? = some q) : cmpLx c (x.drop k) (y.drop k) = if c p q = 0 then cmpLx c (x.drop (k + 1)) (y.drop (k + 1)) else c p q := by
  have e1 : x.drop k = p :: x.drop (k + 1) := by
    have h := (List.getElem?_eq_some_iff.1 hp).1
    rw [List.drop_eq_getElem_cons h]
    rw [List.getElem?_eq_getElem h] at hp
    rw [Option.some.inj hp]
  have e2 : y.drop k = q :: y.drop (k + 1) := by
    have h := (List.getElem?_eq_some_iff.1 hq).1
    rw [List.drop_eq_getElem_cons h]
    rw [List.getElem?_eq_getElem h] at hq
    rw [Option.some.inj hq]
  rw [e1, e2]
  rfl
theorem lx_end {α : Type} {c : α → α → Int} {x y : List α} {k : Nat} (h : x.length ≤ k ∨ y.length ≤ k) (h1 : k ≤ x.length) (h2 : k ≤ y.length) : (cmpLx c (x.drop k) (y.drop k) < 0) ↔ x.length < y.length := by
  rcases Nat.lt_trichotomy x.length y.length with e | e | e
  · have e1 : x.drop k = [] := List.drop_eq_nil_of_le (by omega)
    have e2 : y.drop k ≠ [] := fun h0 => by have := List.drop_eq_nil_iff.1 h0; omega
    rw [e1]
    cases hd : y.drop k with
    | nil => exact absurd hd e2
    | cons u r => simp [cmpLx]; omega
  · have e1 : x.drop k = [] := List.drop_eq_nil_of_le (by omega)
    have e2 : y.drop k = [] := List.drop_eq_nil_of_le (by omega)
    rw [e1, e2]
    simp [cmpLx]; omega
  · have e1 : y.drop k = [] := List.drop_eq_nil_of_le (by omega)
    have e2 : x.drop k ≠ [] := fun h0 => by have := List.drop_eq_nil_iff.1 h0; omega
    rw [e1]
    cases hd : x.drop k with
    | nil => exact absurd hd e2
    | cons u r => simp [cmpLx]; omega
/-- The reference's word on the order. -/
noncomputable def ahF (cs : List Cst) (x y : Ac) : Bool := decide (cmpA cs x y < 0)
theorem ah_rule {cs : List Cst} {x y : Ac} (h : x.rule ≠ y.rule) : ahF cs x y = decide (x.rule < y.rule) := by
  unfold ahF cmpA
  rw [if_neg (fun e => h (cmpI_zero.1 e))]
  exact decide_eq_decide.2 cmpI_lt
theorem ah_sub {cs : List Cst} {x y : Ac} (h : x.rule = y.rule) : ahF cs x y = decide (cmpLx (cmpId cs) (x.sub.drop 0) (y.sub.drop 0) < 0) := by
  unfold ahF cmpA
  rw [if_pos (cmpI_zero.2 h)]
  rfl
set_option maxRecDepth 100000 in
set_option maxHeartbeats 8000000 in
theorem aheadW {F F1 F2 : Nat → Prop} (cv v1 v2 : Value) (cs : List Cst) (x y : Ac) (w : World) (hc : RSl F w 3 ECst cv cs) (h1 : RSl F1 w 1 EInt v1 x.sub) (h2 : RSl F2 w 1 EInt v2 y.sub) (hx : idsIn cs x) (hy : idsIn cs y) (hsz : ∀ c ∈ cs, c.s.size ≤ maxLen) :
    Calls Tryd.prog 75 #[cv, .agg #[.int .i64 x.rule, v1], .agg #[.int .i64 y.rule, v2]] w fun e w' => e = .returned (.bool (ahF cs x y)) ∧ Below w.heap.size w w' := by
  obtain ⟨A1, c1, rfl⟩ := h1.form
  obtain ⟨A2, c2, rfl⟩ := h2.form
  obtain ⟨Ac0, cc, rfl⟩ := hc.form
  have hm := h1.len
  have hm2 := h2.len
  have hm3 := hc.len
  unfold maxLen at hm hm2 hm3
  obtain ⟨w0, hw0⟩ : ∃ w0, w0 = (w.alloc (.cells #[.int .i64 x.rule, .slice A1 x.sub.length c1] 30)).alloc (.cells #[.int .i64 y.rule, .slice A2 y.sub.length c2] 30) := ⟨_, rfl⟩
  have hx0 : Below (w.heap.size + 1) (w.alloc (.cells #[.int .i64 x.rule, .slice A1 x.sub.length c1] 30)) w0 := by rw [hw0]; exact (Below.refl _ _).alloc (by simp) _
  have hsz0 : w0.heap.size = w.heap.size + 1 + 1 := by rw [hw0]; simp
  have hb0 := box_belowD hx0
  have r0 : w0.heap[w.heap.size + 1]? = some (.cells #[.int .i64 y.rule, .slice A2 y.sub.length c2] 30 (0, 0)) := by
    have := heap_alloc_new (w.alloc (.cells #[.int .i64 x.rule, .slice A1 x.sub.length c1] 30)) (.cells #[.int .i64 y.rule, .slice A2 y.sub.length c2] 30)
    rw [hw0]; simpa using this
  have BX := Lib.hid (fun (W : World) (hW : Below w0.heap.size w0 W) => (show W.cell? ⟨w.heap.size, 0, none⟩ = some (.int .i64 x.rule) ∧ W.cell? ⟨w.heap.size, 1, none⟩ = some (.slice A1 x.sub.length c1) ∧ W.cell? ⟨w.heap.size + 1, 0, none⟩ = some (.int .i64 y.rule) ∧ W.cell? ⟨w.heap.size + 1, 1, none⟩ = some (.slice A2 y.sub.length c2) from
    ⟨(hW.cell (p := ⟨w.heap.size, 0, none⟩) (by show w.heap.size < w0.heap.size; omega)).trans (box_cellD hx0 0 rfl), (hW.cell (p := ⟨w.heap.size, 1, none⟩) (by show w.heap.size < w0.heap.size; omega)).trans (box_cellD hx0 1 rfl),
     cell_of_row _ _ 0 _ _ _ ((hW.block _ (by omega)).trans r0), cell_of_row _ _ 1 _ _ _ ((hW.block _ (by omega)).trans r0)⟩))
  have H1 := Lib.hid (h1.keep (Kp.of_below hb0))
  have H2 := Lib.hid (h2.keep (Kp.of_below hb0))
  have HC := Lib.hid (hc.keep (Kp.of_below hb0))
  have HB := Lib.hid hb0
  have HX := Lib.hid hx
  have HY := Lib.hid hy
  have HZ := Lib.hid hsz
  have E0 := Lib.hid (Below.refl w0.heap.size w0)
  obtain ⟨x0, x1, x2, x3⟩ := BX.out w0 E0.out
  clear h1 h2 hc hx hy hsz hx0 hb0 r0
  go_enter Tryd.func75, Tryd.ntmps75
  go_upto_region 1 with fail
  rw [← hw0]
  clear hw0
  by_cases hr : x.rule = y.rule
  rotate_left
  · have HR := Lib.hid (ah_rule (cs := cs) hr)
    have f1 : (x.rule == y.rule) = false := beq_false_of_ne hr
    have f2 : (x.rule != y.rule) = true := bne_iff_ne.2 hr
    clear hr
    by_cases hlt : x.rule < y.rule
    · have HR2 := Lib.hid (HR.out.trans (decide_eq_true hlt))
      go_wp2
      go_ret
      exact ⟨ret_boolA HR2.out.symm, HB.out⟩
    · have HR2 := Lib.hid (HR.out.trans (decide_eq_false hlt))
      go_wp2
      go_ret
      exact ⟨ret_boolA HR2.out.symm, HB.out⟩
  have f1 : (x.rule == y.rule) = true := beq_iff_eq.2 hr
  have f2 : (x.rule != y.rule) = false := by rw [bne, f1]; rfl
  have HRS := Lib.hid (ah_sub (cs := cs) hr)
  clear hr
  go_wp2
  go_loopw [7] (fun i wr => ∃ k : Nat, i = .int .i64 (k : Int) ∧ k ≤ x.sub.length ∧ k ≤ y.sub.length ∧ Hid (ahF cs x y = decide (cmpLx (cmpId cs) (x.sub.drop k) (y.sub.drop k) < 0)) ∧ Below w0.heap.size w0 wr) (fun i _ => x.sub.length - (intOf i).toNat)
  case atStart => exact ⟨0, rfl, Nat.zero_le _, Nat.zero_le _, HRS, E0.out⟩
  case round =>
    obtain ⟨k, rfl, hk, hk2, HI, hb⟩ := hrel
    obtain ⟨x0, x1, x2, x3⟩ := BX.out wr hb
    have HBW := Lib.hid hb
    clear hb
    by_cases hkx : k < x.sub.length
    · by_cases hky : k < y.sub.length
      · obtain ⟨p, hp⟩ : ∃ p, x.sub[k]? = some p := ⟨_, List.getElem?_eq_getElem hkx⟩
        obtain ⟨q, hq⟩ : ∃ q, y.sub[k]? = some q := ⟨_, List.getElem?_eq_getElem hky⟩
        obtain ⟨b1, o1, rfl, _, _, cs1, ⟨rfl, hok⟩, hc1⟩ := (H1.out.keep (Kp.of_below HBW.out)).at hp
        obtain ⟨b2, o2, rfl, _, _, cs2, ⟨rfl, hok'⟩, hc2⟩ := (H2.out.keep (Kp.of_below HBW.out)).at hq
        have d0 := hc1 0 _ rfl
        have d1 := hc2 0 _ rfl
        simp only [Nat.add_zero, Nat.mul_one] at d0 d1
        obtain ⟨p1, p2⟩ := HX.out p (List.mem_of_getElem? hp)
        obtain ⟨q1, q2⟩ := HY.out q (List.mem_of_getElem? hq)
        have HLX := Lib.hid (lx_drop (c := cmpId cs) hp hq)
        have e1 : (0 : Int) ≤ (k : Int) := by omega
        have e2 : (k : Int) < (x.sub.length : Int) := by omega
        have e3 : (k : Int) < (y.sub.length : Int) := by omega
        clear hc1 hc2 hp hq hok hok'
        by_cases hpq : p = q
        · subst hpq
          have f3 : (p == p) = true := by simp
          have NX := Lib.hid (show ahF cs x y = decide (cmpLx (cmpId cs) (x.sub.drop (k + 1)) (y.sub.drop (k + 1)) < 0) by
            rw [HI.out, HLX.out, if_pos ((ord_id cs).self p)])
          go_wp2
          exact ⟨⟨k + 1, by go_num, by omega, by omega, NX, HBW.out⟩, by simp [intOf]; omega⟩
        · have f3 : (p == q) = false := beq_false_of_ne hpq
          obtain ⟨pn, rfl⟩ : ∃ pn : Nat, p = (pn : Int) := ⟨p.toNat, by omega⟩
          obtain ⟨qn, rfl⟩ : ∃ qn : Nat, q = (qn : Int) := ⟨q.toNat, by omega⟩
          obtain ⟨cp, hcp⟩ : ∃ cp, cs[pn]? = some cp := ⟨_, List.getElem?_eq_getElem (by omega)⟩
          obtain ⟨cq, hcq⟩ : ∃ cq, cs[qn]? = some cq := ⟨_, List.getElem?_eq_getElem (by omega)⟩
          obtain ⟨b3, o3, rfl, _, hb3, cs3, rfl, hc3⟩ := (HC.out.keep (Kp.of_below HBW.out)).at hcp
          obtain ⟨b4, o4, hA, _, hb4, cs4, rfl, hc4⟩ := (HC.out.keep (Kp.of_below HBW.out)).at hcq
          simp only [Option.some.injEq, Addr.mk.injEq, and_true] at hA
          obtain ⟨rfl, rfl⟩ := hA
          have g0 := hc3 0 _ rfl
          have g1 := hc3 1 _ rfl
          have g2 := hc3 2 _ rfl
          have k0 := hc4 0 _ rfl
          have k1 := hc4 1 _ rfl
          have k2 := hc4 2 _ rfl
          simp only [Nat.add_zero] at g0 k0
          have NE : Nonempty (Pt (Below wr.heap.size wr)) := ⟨⟨wr, Below.refl _ _⟩⟩
          have u0 := fun p : Pt (Below wr.heap.size wr) => (p.property.cell (p := ⟨b3, o3 + pn * 3, none⟩) hb3).trans g0
          have u1 := fun p : Pt (Below wr.heap.size wr) => (p.property.cell (p := ⟨b3, o3 + pn * 3 + 1, none⟩) hb3).trans g1
          have u2 := fun p : Pt (Below wr.heap.size wr) => (p.property.cell (p := ⟨b3, o3 + pn * 3 + 2, none⟩) hb3).trans g2
          have u3 := fun p : Pt (Below wr.heap.size wr) => (p.property.cell (p := ⟨b3, o3 + qn * 3, none⟩) hb3).trans k0
          have u4 := fun p : Pt (Below wr.heap.size wr) => (p.property.cell (p := ⟨b3, o3 + qn * 3 + 1, none⟩) hb3).trans k1
          have u5 := fun p : Pt (Below wr.heap.size wr) => (p.property.cell (p := ⟨b3, o3 + qn * 3 + 2, none⟩) hb3).trans k2
          have CC := Lib.hid (fun p : Pt (Below wr.heap.size wr) => rcmp_c cp cq p.val (HZ.out cp (List.mem_of_getElem? hcp)) (HZ.out cq (List.mem_of_getElem? hcq)))
          have HID := Lib.hid (show cmpId cs (pn : Int) (qn : Int) = if cmpC cp cq = 0 then cmpI (pn : Int) (qn : Int) else cmpC cp cq by
            unfold cmpId
            rw [Int.toNat_natCast, Int.toNat_natCast, List.getD_eq_getElem?_getD, List.getD_eq_getElem?_getD, hcp, hcq]
            rfl)
          have HPQ := Lib.hid hpq
          obtain ⟨r, hr⟩ : ∃ r, cmpC cp cq = r := ⟨_, rfl⟩
          rw [hr] at HID CC
          clear hc3 hc4 hcp hcq g0 g1 g2 k0 k1 k2 hpq hr
          go_upto_region 9 with fail
          clear d0 d1 x0 x1 x2 x3
          refine wp_region_class (S := Below wr.heap.size wr) (Below.refl _ _).drew (by kernel_rfl) (by kernel_rfl) ?_
          repeat (go_big_quiet_step (first | (go_at_call 90; refine (CC.out _).mono ?_; rintro e w' ⟨rfl, hbel⟩; exact ⟨rfl, ⟨w', below_stepA (Pt.property _) hbel⟩, rfl⟩)))
          refine wpQuiet_nil ?_
          rintro W2 ⟨⟨W2, hW⟩, rfl⟩
          have HW := Lib.hid (HB.out.trans ((HBW.out.trans (Below.mono hW HBW.out.size)).mono HB.out.size))
          clear u0 u1 u2 u3 u4 u5 CC hW
          by_cases hr0 : r = 0
          · subst hr0
            by_cases hlt : (pn : Int) < (qn : Int)
            · have HR := Lib.hid (show ahF cs x y = true by
                rw [HI.out, HLX.out, HID.out, if_pos rfl]
                have h1 := cmpI_lt.2 hlt
                rw [if_neg (by omega)]
                exact decide_eq_true h1)
              go_wp2
              go_ret
              exact ⟨ret_boolA HR.out.symm, HW.out⟩
            · have HR := Lib.hid (show ahF cs x y = false by
                rw [HI.out, HLX.out, HID.out, if_pos rfl]
                have h1 : ¬ cmpI (pn : Int) (qn : Int) < 0 := fun h => hlt (cmpI_lt.1 h)
                rw [if_neg (fun h => HPQ.out (cmpI_zero.1 h))]
                exact decide_eq_false h1)
              go_wp2
              go_ret
              exact ⟨ret_boolA HR.out.symm, HW.out⟩
          · have f4 : (r == 0) = false := beq_false_of_ne hr0
            have f5 : (r != 0) = true := bne_iff_ne.2 hr0
            have HR := Lib.hid (show ahF cs x y = decide (r < 0) by
              rw [HI.out, HLX.out, HID.out, if_neg hr0, if_neg hr0])
            by_cases hlt : r < 0
            · have HR2 := Lib.hid (HR.out.trans (decide_eq_true hlt))
              go_wp2
              go_ret
              exact ⟨ret_boolA HR2.out.symm, HW.out⟩
            · have HR2 := Lib.hid (HR.out.trans (decide_eq_false hlt))
              go_wp2
              go_ret
              exact ⟨ret_boolA HR2.out.symm, HW.out⟩
      · have HR := Lib.hid (show ahF cs x y = false by
          rw [HI.out]
          exact decide_eq_false (fun h => by have := (lx_end (.inr (by omega)) hk hk2).1 h; omega))
        have e2 : (k : Int) < (x.sub.length : Int) := by omega
        have e3 : ¬ (k : Int) < (y.sub.length : Int) := by omega
        have e4 : ¬ (x.sub.length : Int) < (y.sub.length : Int) := by omega
        go_wp2
        go_ret
        exact ⟨ret_boolA HR.out.symm, HB.out.trans (HBW.out.mono HB.out.size)⟩
    · have e2 : ¬ (k : Int) < (x.sub.length : Int) := by omega
      have HR := Lib.hid (show ahF cs x y = decide (x.sub.length < y.sub.length) by
        rw [HI.out]
        exact decide_eq_decide.2 (lx_end (.inl (by omega)) hk hk2))
      by_cases hlt : x.sub.length < y.sub.length
      · have HR2 := Lib.hid (HR.out.trans (decide_eq_true hlt))
        go_wp2
        go_ret
        exact ⟨ret_boolA HR2.out.symm, HB.out.trans (HBW.out.mono HB.out.size)⟩
      · have HR2 := Lib.hid (HR.out.trans (decide_eq_false hlt))
        go_wp2
        go_ret
        exact ⟨ret_boolA HR2.out.symm, HB.out.trans (HBW.out.mono HB.out.size)⟩
end Go.Proofs.YtjgigcnjgblekaaDoor

namespace Go.Proofs.YtjgigcnjgblekaaDoor
open Go Go.RowKit Go.Maps Classical

def slLen : Value → Nat
  | .slice _ n _ => n
  | _ => 0
theorem erase_perm : ∀ {l : List Ac} {k : Nat} {x : Ac}, l[k]? = some x → (x :: l.eraseIdx k).Perm l
  | [], k, x, h => by simp at h
  | y :: r, 0, x, h => by
    simp only [List.getElem?_cons_zero, Option.some.injEq] at h
    subst h
    exact List.Perm.refl _
  | y :: r, k + 1, x, h => by
    have h' : r[k]? = some x := by simpa using h
    exact (List.Perm.swap y x _).trans ((erase_perm h').cons y)
theorem ah_le {cs : List Cst} {x y : Ac} (h : ahF cs x y = false) : leA cs y x = true := by
  unfold ahF at h
  have h1 := of_decide_eq_false h
  unfold leA
  have := (ord_A cs).neg x y
  exact decide_eq_true (by omega)
theorem ah_lt {cs : List Cst} {x y : Ac} (h : ahF cs x y = true) : leA cs x y = true := by
  unfold ahF at h
  have h1 := of_decide_eq_true h
  unfold leA
  exact decide_eq_true (by omega)
theorem leA_refl (cs : List Cst) (x : Ac) : leA cs x x = true := by
  unfold leA
  rw [(ord_A cs).self x]
  rfl
/-- The state of the choice: the least of the first i. -/
def LeastTo (cs : List Cst) (l : List Ac) (k i : Nat) : Prop := ∃ x, l[k]? = some x ∧ ∀ j y, j < i → l[j]? = some y → leA cs x y = true
theorem least_start {cs : List Cst} {l : List Ac} (h : 0 < l.length) : LeastTo cs l 0 1 :=
  ⟨l[0], List.getElem?_eq_getElem h, fun j y hj hy => by
    obtain rfl : j = 0 := by omega
    rw [List.getElem?_eq_getElem h] at hy
    rw [← Option.some.inj hy]
    exact leA_refl cs _⟩
theorem least_new {cs : List Cst} {l : List Ac} {k i : Nat} {x y : Ac} (h : LeastTo cs l k i) (hx : l[i]? = some x) (hy : l[k]? = some y) (ha : ahF cs x y = true) : LeastTo cs l i (i + 1) := by
  obtain ⟨z, h1, h2⟩ := h
  rw [h1] at hy
  obtain rfl := Option.some.inj hy
  refine ⟨x, hx, fun j u hj hu => ?_⟩
  rcases Nat.lt_or_ge j i with h3 | h3
  · exact leA_trans cs _ _ _ (ah_lt ha) (h2 j u h3 hu)
  · obtain rfl : j = i := by omega
    rw [hx] at hu
    rw [← Option.some.inj hu]
    exact leA_refl cs _
theorem least_old {cs : List Cst} {l : List Ac} {k i : Nat} {x y : Ac} (h : LeastTo cs l k i) (hx : l[i]? = some x) (hy : l[k]? = some y) (ha : ahF cs x y = false) : LeastTo cs l k (i + 1) := by
  obtain ⟨z, h1, h2⟩ := h
  rw [h1] at hy
  obtain rfl := Option.some.inj hy
  refine ⟨z, h1, fun j u hj hu => ?_⟩
  rcases Nat.lt_or_ge j i with h3 | h3
  · exact h2 j u h3 hu
  · obtain rfl : j = i := by omega
    rw [hx] at hu
    rw [← Option.some.inj hu]
    exact ah_le ha
/-- The state of the sort. -/
structure SelSt (cs : List Cst) (l0 : List Ac) (out l : List Ac) : Prop where
  sd : SdA cs out
  le : ∀ a ∈ out, ∀ b ∈ l, leA cs a b = true
  perm : (out ++ l).Perm l0
theorem SelSt.step {cs : List Cst} {l0 out l : List Ac} {k : Nat} {x : Ac} (h : SelSt cs l0 out l) (hk : LeastTo cs l k l.length) (hx : l[k]? = some x) : SelSt cs l0 (out ++ [x]) (l.eraseIdx k) := by
  obtain ⟨z, h1, h2⟩ := hk
  rw [hx] at h1
  obtain rfl := Option.some.inj h1
  have hm := List.mem_of_getElem? hx
  have hp := erase_perm hx
  refine ⟨?_, fun a ha b hb => ?_, ?_⟩
  · unfold SdA
    rw [List.pairwise_append]
    exact ⟨h.sd, by simp, fun a ha b hb => by rw [List.mem_singleton.1 hb]; exact h.le a ha _ hm⟩
  · have hb' : b ∈ l := hp.mem_iff.1 (List.mem_cons_of_mem _ hb)
    rcases List.mem_append.1 ha with ha | ha
    · exact h.le a ha b hb'
    · rw [List.mem_singleton.1 ha]
      obtain ⟨j, hj⟩ := List.getElem?_of_mem hb'
      exact h2 j b (List.getElem?_eq_some_iff.1 hj).1 hj
  · rw [List.append_assoc]
    exact (List.Perm.append_left out hp).trans h.perm
theorem SelSt.done {cs : List Cst} {l0 out : List Ac} (h : SelSt cs l0 out []) : out = sortA cs l0 := sortA_of h.sd (by simpa using h.perm)
theorem SelSt.len {cs : List Cst} {l0 out l : List Ac} (h : SelSt cs l0 out l) : out.length + l.length = l0.length := by have := h.perm.length_eq; simpa using this
theorem SelSt.mem {cs : List Cst} {l0 out l : List Ac} (h : SelSt cs l0 out l) {a : Ac} (ha : a ∈ l) : a ∈ l0 := h.perm.mem_iff.1 (List.mem_append_right _ ha)
set_option maxRecDepth 100000 in
set_option maxHeartbeats 8000000 in
theorem rsortedW {F F' : Nat → Prop} (rb : Nat) (cv v : Value) (cs : List Cst) (l : List Ac) (w : World) (hrb : rb < w.heap.size) (hcv : w.cell? ⟨rb, 1, none⟩ = some cv) (hc : RSl F w 3 ECst cv cs) (hl : RSl F' w 2 (EAc F' w) v l) (hin : ∀ a ∈ l, idsIn cs a ∧ AcOk a) (hn : l.length ≤ 40000000) (hsz : ∀ c ∈ cs, c.s.size ≤ maxLen) :
    Calls Tryd.prog 64 #[.pointer (some ⟨rb, 0, none⟩), v] w (LstRes (sortA cs l) w) := by
  obtain ⟨Ac0, cc, rfl⟩ := hc.form
  obtain ⟨A1, c1, rfl⟩ := hl.form
  have HL := Lib.hid (EAc.all hl (Kp.refl _ _) (F' := fun b => b < w.heap.size) (fun _ hb _ => hb))
  have HC := Lib.hid hc
  have HIN := Lib.hid hin
  have HZ := Lib.hid hsz
  have HN := Lib.hid hn
  have HCV := Lib.hid hcv
  have HRB := Lib.hid hrb
  have E0 := Lib.hid (Below.refl w.heap.size w)
  clear hc hl hin hsz hcv hrb
  go_enter Tryd.func64, Tryd.ntmps64
  go_upto_region 2 with fail
  go_loopw [1, 5] (fun lv ov wr => ∃ (l' : List Ac) (zs : List (Ac × Value)) (vl vo : Value), lv = vl ∧ ov = vo ∧ Zs w.heap.size wr vo zs ∧ RSl (fun b => vo.ownBlock ≠ some b) wr 2 (EAc (fun b => vo.ownBlock ≠ some b) wr) vl l' ∧ SelSt cs l (zs.map Prod.fst) l' ∧ Below w.heap.size w wr) (fun lv _ _ => slLen lv)
  case atStart =>
    refine ⟨l, [], _, _, rfl, rfl, Zs.nil, EAc.all HL.out (Kp.refl _ _) (fun b _ _ h => by simp [Value.ownBlock] at h), ⟨List.Pairwise.nil, fun a ha => by simp at ha, by simp⟩, E0.out⟩
  case round =>
    obtain ⟨l', zs, vl, vo, rfl, rfl, hZ, hR, hS, hb⟩ := hrel
    have HZS := Lib.hid hZ
    have HR := Lib.hid hR
    have HS := Lib.hid hS
    have HBW := Lib.hid hb
    have hm := hR.len
    unfold maxLen at hm
    obtain ⟨A2, c2, hvl⟩ := hR.form
    obtain ⟨A3, c3, hvo⟩ := hZ.form
    subst hvl hvo
    have hlen := hS.len
    rw [List.length_map] at hlen
    clear hZ hR hS hb
    by_cases h0 : l' = []
    · subst h0
      have HD := Lib.hid HS.out.done
      simp only [List.length_nil] at hm ⊢
      go_wp2
      go_ret
      exact ⟨_, zs, rfl, HZS.out, HD.out, HBW.out⟩
    · have hpos : 0 < l'.length := List.length_pos_iff.2 h0
      have HST := Lib.hid (least_start (cs := cs) hpos)
      have HPOS := Lib.hid hpos
      have e0 : (0 : Int) < (l'.length : Int) := by omega
      clear h0
      obtain ⟨wb, rfl⟩ : ∃ x, x = wr := ⟨_, rfl⟩
      go_upto_region 5 with fail
      go_loopw [6, 7] (fun kv iv wq => ∃ k i : Nat, kv = .int .i64 (k : Int) ∧ iv = .int .i64 (i : Int) ∧ 1 ≤ i ∧ i ≤ l'.length ∧ Hid (LeastTo cs l' k i) ∧ Below wb.heap.size wb wq) (fun _ iv _ => l'.length - (intOf iv).toNat)
      case atStart => exact ⟨0, 1, rfl, rfl, by omega, by omega, HST, Below.refl _ _⟩
      case round =>
        obtain ⟨k, i, rfl, rfl, hi1, hi2, HLT, hb⟩ := hrel
        have HBQ := Lib.hid hb
        have HBA := Lib.hid (HBW.out.trans (hb.mono HBW.out.size))
        clear hb
        obtain ⟨y, hy, -⟩ := HLT.out
        have hkl := (List.getElem?_eq_some_iff.1 hy).1
        have HY := Lib.hid hy
        obtain ⟨b2, o2, rfl, hF2, hbs2, cs2, ⟨sv2, rfl, hok2, hsv2⟩, hc2⟩ := (EAc.all HR.out (Kp.of_below HBQ.out) (fun _ _ h => h)).at hy
        obtain ⟨A5, c5, rfl⟩ := hsv2.form
        have k0 := hc2 0 _ rfl
        have k1 := hc2 1 _ rfl
        simp only [Nat.add_zero] at k0
        have HSV2 := Lib.hid hsv2
        have e1 : (0 : Int) ≤ (k : Int) := by omega
        have e2 : (k : Int) < (l'.length : Int) := by omega
        clear hy hc2 hok2 hsv2 hF2
        by_cases hin : i < l'.length
        · obtain ⟨x, hx⟩ : ∃ x, l'[i]? = some x := ⟨_, List.getElem?_eq_getElem hin⟩
          have HX := Lib.hid hx
          obtain ⟨b1, o1, hA, _, hbs1, cs1, ⟨sv1, rfl, hok1, hsv1⟩, hc1⟩ := (EAc.all HR.out (Kp.of_below HBQ.out) (fun _ _ h => h)).at hx
          simp only [Option.some.injEq, Addr.mk.injEq, and_true] at hA
          obtain ⟨rfl, rfl⟩ := hA
          obtain ⟨A4, c4, rfl⟩ := hsv1.form
          have d0 := hc1 0 _ rfl
          have d1 := hc1 1 _ rfl
          simp only [Nat.add_zero] at d0
          have NE : Nonempty (Pt (Below wr.heap.size wr)) := ⟨⟨wr, Below.refl _ _⟩⟩
          have u0 := fun p : Pt (Below wr.heap.size wr) => (p.property.cell (p := ⟨b2, o2 + i * 2, none⟩) hbs2).trans d0
          have u1 := fun p : Pt (Below wr.heap.size wr) => (p.property.cell (p := ⟨b2, o2 + i * 2 + 1, none⟩) hbs2).trans d1
          have u2 := fun p : Pt (Below wr.heap.size wr) => (p.property.cell (p := ⟨b2, o2 + k * 2, none⟩) hbs2).trans k0
          have u3 := fun p : Pt (Below wr.heap.size wr) => (p.property.cell (p := ⟨b2, o2 + k * 2 + 1, none⟩) hbs2).trans k1
          have u4 := fun p : Pt (Below wr.heap.size wr) => ((HBA.out.trans (p.property.mono HBA.out.size)).cell (p := ⟨rb, 1, none⟩) HRB.out).trans HCV.out
          have CC := Lib.hid (fun p : Pt (Below wr.heap.size wr) => aheadW (.slice Ac0 cs.length cc) (.slice A4 x.sub.length c4) (.slice A5 y.sub.length c5) cs x y p.val (HC.out.keep (Kp.of_below (HBA.out.trans (p.property.mono HBA.out.size)))) (hsv1.keep (Kp.of_below p.property)) (HSV2.out.keep (Kp.of_below p.property)) (HIN.out x (HS.out.mem (List.mem_of_getElem? HX.out))).1 (HIN.out y (HS.out.mem (List.mem_of_getElem? HY.out))).1 HZ.out)
          have i1 : (0 : Int) ≤ (i : Int) := by omega
          have i2 : (i : Int) < (l'.length : Int) := by omega
          clear hx hc1 hok1 hsv1 d0 d1 k0 k1
          go_wp2_with fail
          refine wp_region_class (S := Below wr.heap.size wr) (Below.refl _ _).drew (by kernel_rfl) (by kernel_rfl) ?_
          repeat (go_big_quiet_step (first | (go_at_call 75; refine (CC.out _).mono ?_; rintro e w' ⟨rfl, hbel⟩; exact ⟨rfl, ⟨w', below_stepA (Pt.property _) hbel⟩, rfl⟩)))
          refine wpQuiet_nil ?_
          rintro W2 ⟨⟨W2, hW⟩, rfl⟩
          have HW := Lib.hid (HBQ.out.trans (Below.mono hW HBQ.out.size))
          clear u0 u1 u2 u3 u4 CC hW
          cases hah : ahF cs x y with
          | true =>
            have NX := Lib.hid (least_new HLT.out HX.out HY.out hah)
            clear hah
            go_wp2
            exact ⟨⟨i, i + 1, by go_num, by go_num, by omega, by omega, NX, HW.out⟩, by simp [intOf]; omega⟩
          | false =>
            have NX := Lib.hid (least_old HLT.out HX.out HY.out hah)
            clear hah
            go_wp2
            exact ⟨⟨k, i + 1, by go_num, by go_num, by omega, by omega, NX, HW.out⟩, by simp [intOf]; omega⟩
        · obtain rfl : i = l'.length := by omega
          have HOK := Lib.hid (HIN.out y (HS.out.mem (List.mem_of_getElem? HY.out))).2
          have CW := Lib.hid (rcopiedW y (.slice A5 y.sub.length c5) wr HSV2.out (by have := HOK.out.len; omega))
          have hzl : zs.length ≤ 40000000 := by have := HN.out; omega
          have HZL := Lib.hid hzl
          go_wp2_with fail
          refine CW.out.mono ?_
          rintro e w2 ⟨sv, rfl, hsv, hb2⟩
          have HSV := Lib.hid hsv
          have HB2 := Lib.hid hb2
          obtain ⟨sA, sc, rfl⟩ := hsv.form
          have ZW := Lib.hid (HZS.out.below HBQ.out)
          clear hsv hb2 k0 k1
          go_wp2_with (at_builtin; refine wpList_push_Z ZW.out HB2.out HBA.out.size HSV.out HOK.out rfl (.tmp 31) (.tmp 37) rfl rfl _ rfl rfl HZL.out ?_; intro g cap w3 hZ3 hT3 hat3; have HZ3 := Lib.hid hZ3; have HT3 := Lib.hid hT3; have HAT3 := Lib.hid hat3; clear hZ3 hT3 hat3)
          have HB3 := Lib.hid (HBA.out.trans ((HB2.out.mono HBA.out.size).trans (HT3.out.below (Nat.le_trans HBA.out.size HB2.out.size) (fun b hb => (ownBlock_cells ZW.out.row (by simpa using hb)).1))))
          have hg3 : g < w3.heap.size := (ownBlock_cells HZ3.out.row (by rfl)).2.1
          have R3 := Lib.hid (show RSl (fun b => (Value.slice (some ⟨g, 0, none⟩) (zs.length + 1) cap).ownBlock ≠ some b) w3 2 (EAc (fun b => (Value.slice (some ⟨g, 0, none⟩) (zs.length + 1) cap).ownBlock ≠ some b) w3) (.slice (some ⟨b2, o2, none⟩) l'.length c2) l' from by
            have r1 := EAc.all HR.out (Kp.of_below (HBQ.out.trans (HB2.out.mono HBQ.out.size))) (fun _ _ h => h)
            refine EAc.all r1 (Kp.of_turns HT3.out (fun b hb hn => hn (by simpa using hb))) (fun b hb hf e => ?_)
            have e1 : g = b := by simpa [Value.ownBlock] using e
            rcases HAT3.out with h | h
            · exact hf (by rw [h, e1])
            · omega)
          have WW := Lib.hid (withoutW (.slice (some ⟨b2, o2, none⟩) l'.length c2) l' k w3 R3.out (by have := HN.out; omega))
          refine WW.out.mono ?_
          rintro e w4 ⟨v4, rfl, ho4, hb4⟩
          have hle : (l'.eraseIdx k).length < l'.length := by rw [List.length_eraseIdx, if_pos hkl]; omega
          have HLE := Lib.hid hle
          obtain ⟨A7, c7, rfl⟩ := ho4.form
          have R4 := Lib.hid (show RSl (fun b => (Value.slice (some ⟨g, 0, none⟩) (zs.length + 1) cap).ownBlock ≠ some b) w4 2 (EAc (fun b => (Value.slice (some ⟨g, 0, none⟩) (zs.length + 1) cap).ownBlock ≠ some b) w4) (.slice A7 (l'.eraseIdx k).length c7) (l'.eraseIdx k) from
            (ho4.rsl (G := fun b => (Value.slice (some ⟨g, 0, none⟩) (zs.length + 1) cap).ownBlock ≠ some b) (fun b hb e => by
              have h1 := (ho4.block hb).1
              have e1 : g = b := by simpa [Value.ownBlock] using e
              omega)).kp (Kp.refl _ _) (fun _ _ h => h) (fun _ _ h => EAc.kp h (Kp.refl _ _) (fun _ _ h => h.1)))
          have Z4 := Lib.hid (HZ3.out.below hb4)
          have S4 := Lib.hid (show SelSt cs l ((zs ++ [(y, Value.slice sA y.sub.length sc)]).map Prod.fst) (l'.eraseIdx k) by rw [List.map_append]; exact HS.out.step HLT.out HY.out)
          have B4 := Lib.hid (HB3.out.trans (hb4.mono HB3.out.size))
          clear ho4 hb4 hle hg3 WW
          go_wp2
          refine ⟨⟨l'.eraseIdx k, _, _, _, rfl, rfl, Z4.out, R4.out, S4.out, B4.out⟩, ?_⟩
          exact HLE.out
end Go.Proofs.YtjgigcnjgblekaaDoor

namespace Go.Proofs.YtjgigcnjgblekaaDoor
open Go.RowKit Go.OpenShut

/-- The pick modulo n, from 0 to n-1; 0 where n is none. -/
def idxOf (a b : Int) : Int := if b ≤ 0 then 0 else a % b

theorem tmod_neg (a b : Int) (hb : 0 < b) (h : a.tmod b < 0) : a.tmod b + b = a % b := by
  have h1 := Int.tmod_eq_emod (a := a) (b := b)
  split at h1
  · have := Int.emod_nonneg a (b := b) (by omega)
    omega
  · have : (b.natAbs : Int) = b := by omega
    omega
theorem tmod_pos (a b : Int) (hb : 0 < b) (h : 0 ≤ a.tmod b) : a.tmod b = a % b := by
  have h1 := Int.tmod_eq_emod (a := a) (b := b)
  split at h1
  · simpa using h1
  · have := Int.emod_lt_of_pos a hb
    omega
theorem tmod_bds (a b : Int) (hb : 0 < b) : -b < a.tmod b ∧ a.tmod b < b := by
  have h1 := Int.lt_tmod_of_pos a hb
  have h2 := Int.tmod_lt_of_pos a hb
  exact ⟨h1, h2⟩

theorem idx_none (a b : Int) (w : World) (hb : b ≤ 0) :
    Calls Tryd.prog 52 #[.int .i64 a, .int .i64 b] w fun e w' => e = .returned (.int .i64 0) ∧ w = w' := by
  go_enter Tryd.func52, Tryd.ntmps52
  go_wp2
  go_ret
  exact ⟨rfl, rfl⟩

theorem idx_pos (a b : Int) (w : World) (hb : 0 < b) (hb2 : b ≤ 9223372036854775807) (ha1 : -9223372036854775808 ≤ a) (ha2 : a ≤ 9223372036854775807) :
    Calls Tryd.prog 52 #[.int .i64 a, .int .i64 b] w fun e w' => e = .returned (.int .i64 (a % b)) ∧ w = w' := by
  by_cases ha : 0 ≤ a
  · have h1 : 0 ≤ a % b := Int.emod_nonneg _ (by omega)
    have h2 : a % b < b := Int.emod_lt_of_pos _ hb
    go_enter Tryd.func52, Tryd.ntmps52
    go_wp2
    go_ret
    exact ⟨rfl, rfl⟩
  · have ⟨h1, h2⟩ := tmod_bds a b hb
    by_cases hn : a.tmod b < 0
    · have E := Lib.hid (tmod_neg a b hb hn)
      go_enter Tryd.func52, Tryd.ntmps52
      go_wp2
      go_ret
      exact ⟨by rw [E.out]; rfl, rfl⟩
    · have E := Lib.hid (tmod_pos a b hb (by omega))
      go_enter Tryd.func52, Tryd.ntmps52
      go_wp2
      go_ret
      exact ⟨by rw [E.out]; rfl, rfl⟩
theorem idx_any (a b : Int) (w : World) (ha : (Lit.int .i64 a).wf = true) (hb : (Lit.int .i64 b).wf = true) :
    Calls Tryd.prog 52 #[.int .i64 a, .int .i64 b] w fun e w' => e = .returned (.int .i64 (idxOf a b)) ∧ w = w' := by
  have := bounds_i64 ha
  have := bounds_i64 hb
  unfold idxOf
  split
  · exact idx_none a b w ‹_›
  · exact idx_pos a b w (by omega) (by omega) (by omega) (by omega)

theorem ridx_none (a b : Int) (w : World) (hb : b ≤ 0) :
    Calls Tryd.prog 62 #[.int .i64 a, .int .i64 b] w fun e w' => e = .returned (.int .i64 0) ∧ w = w' := by
  go_enter Tryd.func62, Tryd.ntmps62
  go_wp2
  go_ret
  exact ⟨rfl, rfl⟩
theorem tdiv_mul (a b : Int) : a - a.tdiv b * b = a.tmod b := by
  have := Int.tmod_add_mul_tdiv a b
  rw [Int.mul_comm] at this
  omega
theorem wrap_id (n : Int) (h1 : -9223372036854775808 ≤ n) (h2 : n ≤ 9223372036854775807) : wrap64 n = n := IntWalk.wrap64_in n ⟨h1, h2⟩
theorem tdiv_bds (a b : Int) (hb : 0 < b) (ha1 : -9223372036854775808 ≤ a) (ha2 : a ≤ 9223372036854775807) :
    (-9223372036854775808 ≤ a.tdiv b ∧ a.tdiv b ≤ 9223372036854775807) ∧ -9223372036854775808 ≤ a.tdiv b * b ∧ a.tdiv b * b ≤ 9223372036854775807 := by
  have h := tdiv_mul a b
  have h1 := Int.natAbs_tdiv_le_natAbs a b
  by_cases h0 : 0 ≤ a
  · have h2 := Int.tmod_nonneg (b := b) (a := a) h0
    have h3 : 0 ≤ a.tdiv b := Int.tdiv_nonneg h0 (by omega)
    have h4 : 0 ≤ a.tdiv b * b := Int.mul_nonneg h3 (by omega)
    omega
  · have h2 : (-a).tmod b = - a.tmod b := Int.neg_tmod ..
    have h2' := Int.tmod_nonneg (b := b) (a := -a) (by omega)
    have h3 : 0 ≤ (-a).tdiv b := Int.tdiv_nonneg (by omega) (by omega)
    rw [Int.neg_tdiv] at h3
    have h4 : 0 ≤ (- a.tdiv b) * b := Int.mul_nonneg h3 (by omega)
    rw [Int.neg_mul] at h4
    omega
theorem ridx_pos (a b : Int) (w : World) (hb : 0 < b) (hb2 : b ≤ 9223372036854775807) (ha1 : -9223372036854775808 ≤ a) (ha2 : a ≤ 9223372036854775807) :
    Calls Tryd.prog 62 #[.int .i64 a, .int .i64 b] w fun e w' => e = .returned (.int .i64 (a % b)) ∧ w = w' := by
  have ⟨h1, h2⟩ := tmod_bds a b hb
  have ⟨⟨h3, h4⟩, h5, h6⟩ := tdiv_bds a b hb ha1 ha2
  have E := Lib.hid (tdiv_mul a b)
  have h7 : -b < a - a.tdiv b * b := by rw [E.out]; exact h1
  have h8 : a - a.tdiv b * b < b := by rw [E.out]; exact h2
  by_cases hn : a.tmod b < 0
  · have E2 := Lib.hid (tmod_neg a b hb hn)
    have hn' : a - a.tdiv b * b < 0 := by rw [E.out]; exact hn
    clear h1 h2 hn
    go_enter Tryd.func62, Tryd.ntmps62
    go_wp2
    go_ret
    exact ⟨by rw [← E2.out, ← E.out]; rfl, rfl⟩
  · have E2 := Lib.hid (tmod_pos a b hb (by omega))
    have hn' : ¬ a - a.tdiv b * b < 0 := by rw [E.out]; exact hn
    clear h1 h2 hn
    go_enter Tryd.func62, Tryd.ntmps62
    go_wp2
    go_ret
    exact ⟨by rw [← E2.out, ← E.out]; rfl, rfl⟩
theorem ridx_any (a b : Int) (w : World) (ha : (Lit.int .i64 a).wf = true) (hb : (Lit.int .i64 b).wf = true) :
    Calls Tryd.prog 62 #[.int .i64 a, .int .i64 b] w fun e w' => e = .returned (.int .i64 (idxOf a b)) ∧ w = w' := by
  have := bounds_i64 ha
  have := bounds_i64 hb
  unfold idxOf
  split
  · exact ridx_none a b w ‹_›
  · exact ridx_pos a b w (by omega) (by omega) (by omega) (by omega)
end Go.Proofs.YtjgigcnjgblekaaDoor
