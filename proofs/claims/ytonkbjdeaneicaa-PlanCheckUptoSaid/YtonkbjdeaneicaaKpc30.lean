/- The reference's held: what a free place of a node holds. The reference's Shape. -/
import Derived.Test.YtonkbjdeaneicaaKpc09
import Derived.Test.YtonkbjdeaneicaaKpc12
import Derived.Test.YtonkbjdeaneicaaKpc28
namespace Go.Proofs.Ytonkbjdeaneicaa.Pln
open Classical
theorem linkOf_at {i : Int} : ∀ {ls : List (Int × Int)} {k : Nat} {x : Int × Int}, ls[k]? = some x → (∀ j, j < k → ∀ y, ls[j]? = some y → y.1 ≠ i) → x.1 = i → linkOf ls i = some x.2
  | [], k, x, h, _, _ => by simp at h
  | a :: r, 0, x, h, _, hx => by
    simp only [List.getElem?_cons_zero, Option.some.injEq] at h
    subst h
    unfold linkOf
    rw [if_pos hx]
  | a :: r, k + 1, x, h, hf, hx => by
    unfold linkOf
    rw [if_neg (hf 0 (by omega) a rfl)]
    exact linkOf_at (by simpa using h) (fun j hj y hy => hf (j + 1) (by omega) y (by simpa using hy)) hx
theorem linkOf_no {i : Int} : ∀ {ls : List (Int × Int)}, (∀ j, j < ls.length → ∀ y, ls[j]? = some y → y.1 ≠ i) → linkOf ls i = none
  | [], _ => rfl
  | a :: r, hf => by
    unfold linkOf
    rw [if_neg (hf 0 (by simp) a rfl)]
    exact linkOf_no (fun j hj y hy => hf (j + 1) (by simp only [List.length_cons]; omega) y (by simpa using hy))
end Go.Proofs.Ytonkbjdeaneicaa.Pln
namespace Go.Proofs.Ytonkbjdeaneicaa
open Go.RowKit Pln Classical Go.Maps

set_option maxRecDepth 100000 in
set_option maxHeartbeats 4000000 in
theorem rheldW {F G : Nat → Prop} (n : Nd) (lv mv : Value) (W : World) (hl : RSl F W 2 ELnk lv n.links) (hm : RSl G W 1 EInt mv n.new) (i w : Int) (hw : 0 ≤ w ∧ w ≤ 2305843009213693952) (hn : n.new.length ≤ 1048576) :
    Calls Try.prog 69 #[.agg #[.int .i64 n.kind, .int .i64 n.parent, .int .i64 n.alpha, lv, mv, .int .i64 n.test.op, .bool n.test.l.v, .int .i64 n.test.l.n, .bool n.test.r.v, .int .i64 n.test.r.n, .int .i64 n.width], .int .i64 i, .int .i64 w] W
      fun e W' => e = .returned (.int .i64 (heldF n.links n.new w i)) ∧ Below W.heap.size W W' := by
  obtain ⟨A, ca, rfl⟩ := hl.form
  obtain ⟨B, cb, rfl⟩ := hm.form
  have l1 := hl.len
  have l2 := hm.len
  unfold maxLen at l1 l2
  have HL := Lib.hid hl
  have HM := Lib.hid hm
  clear hl hm
  obtain ⟨R, hR⟩ : ∃ R, heldF n.links n.new w i = R := ⟨_, rfl⟩
  rw [hR]
  have HR := Lib.hid hR
  clear hR
  go_enter Try.func69, Try.ntmps69
  go_wp2
  go_loopw [7] (fun iv wr => ∃ k : Nat, iv = .int .i64 k ∧ k ≤ n.links.length ∧ (∀ j, j < k → ∀ y, n.links[j]? = some y → y.1 ≠ i) ∧ Below (W.heap.size + 1) (W.alloc (.cells #[.int .i64 n.kind, .int .i64 n.parent, .int .i64 n.alpha, .slice A n.links.length ca, .slice B n.new.length cb, .int .i64 n.test.op, .bool n.test.l.v, .int .i64 n.test.l.n, .bool n.test.r.v, .int .i64 n.test.r.n, .int .i64 n.width] 54)) wr) (fun iv _ => n.links.length - (intOf iv).toNat)
  case atStart => exact ⟨0, rfl, Nat.zero_le _, fun j h => by omega, Below.refl _ _⟩
  case round =>
    obtain ⟨k, rfl, hk, hq, hb⟩ := hrel
    have y3 := box_cellL hb 3 rfl
    have y4 := box_cellL hb 4 rfl
    by_cases hkn : k < n.links.length
    · obtain ⟨x, hx⟩ : ∃ x, n.links[k]? = some x := ⟨_, List.getElem?_eq_getElem hkn⟩
      obtain ⟨b, o, rfl, -, hbl, cs, ⟨rfl, -⟩, hc⟩ := RSl.at HL.out hx
      have d0 := ((box_below hb).cell (p := ⟨b, o + k * 2 + 0, none⟩) hbl).trans (hc 0 _ rfl)
      have d1 := ((box_below hb).cell (p := ⟨b, o + k * 2 + 1, none⟩) hbl).trans (hc 1 _ rfl)
      simp only [Nat.add_zero] at d0
      have e1 : (0 : Int) ≤ (k : Int) := by omega
      have e2 : (k : Int) < (n.links.length : Int) := by omega
      have HB := Lib.hid hb
      have HK := Lib.hid hkn
      by_cases hxi : x.1 = i
      · have HF := Lib.hid (show R = x.2 by rw [← HR.out]; unfold heldF; rw [linkOf_at hx hq hxi])
        have hxb : (x.1 == i) = true := by simpa using hxi
        clear hc hx hb hq hkn hxi
        go_wp2
        go_ret
        exact ⟨by rw [HF.out]; rfl, box_below HB.out⟩
      · have HQ2 := Lib.hid (show ∀ j, j < k + 1 → ∀ y, n.links[j]? = some y → y.1 ≠ i from fun j hj y hy => by
          rcases Nat.lt_or_ge j k with h1 | h1
          · exact hq j h1 y hy
          · rw [show j = k by omega, hx] at hy
            rw [← Option.some.inj hy]
            exact hxi)
        have hxb : (x.1 == i) = false := by simpa using hxi
        clear hc hx hb hq hkn hxi
        go_wp2
        exact ⟨⟨k + 1, by go_num, HK.out, HQ2.out, HB.out⟩, by simp [intOf]; have := HK.out; omega⟩
    · obtain rfl : k = n.links.length := by omega
      have HN := Lib.hid (linkOf_no hq)
      have HB := Lib.hid hb
      clear hq hb hkn
      go_wp2
      clear y3 y4
      go_loopw [8] (fun iv wr => ∃ k : Nat, iv = .int .i64 k ∧ k ≤ n.new.length ∧ (∀ j, j < k → n.new[j]? ≠ some i) ∧ Below (W.heap.size + 1) (W.alloc (.cells #[.int .i64 n.kind, .int .i64 n.parent, .int .i64 n.alpha, .slice A n.links.length ca, .slice B n.new.length cb, .int .i64 n.test.op, .bool n.test.l.v, .int .i64 n.test.l.n, .bool n.test.r.v, .int .i64 n.test.r.n, .int .i64 n.width] 54)) wr) (fun iv _ => n.new.length - (intOf iv).toNat)
      case atStart => exact ⟨0, rfl, Nat.zero_le _, fun j h => by omega, HB.out⟩
      case round =>
        clear HB
        obtain ⟨k, rfl, hk, hq, hb⟩ := hrel
        have y4 := box_cellL hb 4 rfl
        by_cases hkn : k < n.new.length
        · obtain ⟨x, hx⟩ : ∃ x, n.new[k]? = some x := ⟨_, List.getElem?_eq_getElem hkn⟩
          obtain ⟨b, o, rfl, -, hbl, cs, ⟨rfl, -⟩, hc⟩ := RSl.at HM.out hx
          have d0 := ((box_below hb).cell (p := ⟨b, o + k * 1 + 0, none⟩) hbl).trans (hc 0 _ rfl)
          simp only [Nat.add_zero, Nat.mul_one] at d0
          have e1 : (0 : Int) ≤ (k : Int) := by omega
          have e2 : (k : Int) < (n.new.length : Int) := by omega
          have e4 : -9223372036854775808 ≤ w + (k : Int) ∧ w + (k : Int) ≤ 9223372036854775807 := by omega
          have HB := Lib.hid hb
          have HK := Lib.hid hkn
          by_cases hxi : x = i
          · subst hxi
            have HF := Lib.hid (show R = w + (k : Int) by
              rw [← HR.out]
              unfold heldF
              rw [HN.out]
              simp only
              rw [if_pos (List.mem_of_getElem? hx), placeF_at hx hq])
            have hxb : (x == x) = true := by simp
            clear hc hx hb hq hkn
            go_wp2
            go_ret
            exact ⟨ret_i64 (by rw [HF.out]), box_below HB.out⟩
          · have HQ2 := Lib.hid (show ∀ j, j < k + 1 → n.new[j]? ≠ some i from fun j hj => by
              rcases Nat.lt_or_ge j k with h1 | h1
              · exact hq j h1
              · rw [show j = k by omega, hx]
                exact fun e => hxi (Option.some.inj e))
            have hxb : (x == i) = false := by simpa using hxi
            clear hc hx hb hq hkn hxi
            go_wp2
            exact ⟨⟨k + 1, by go_num, HK.out, HQ2.out, HB.out⟩, by simp [intOf]; have := HK.out; omega⟩
        · obtain rfl : k = n.new.length := by omega
          have HF := Lib.hid (show R = -1 by
            rw [← HR.out]
            unfold heldF
            rw [HN.out]
            simp only
            rw [if_neg (fun hm => by
              obtain ⟨j, hj⟩ := List.getElem?_of_mem hm
              exact hq j (List.getElem?_eq_some_iff.1 hj).1 hj)])
          have HB := Lib.hid hb
          clear hq hb hkn
          go_wp2
          go_ret
          exact ⟨by rw [HF.out]; rfl, box_below HB.out⟩
end Go.Proofs.Ytonkbjdeaneicaa

namespace Go.Proofs.Ytonkbjdeaneicaa
open Go.RowKit Pln Classical Go.Maps

section
variable {α : Type} {F F' : Nat → Prop} {B : Nat} {w w' : World} {e : TypeId} {C : Cdc α} {v : Value} {xs : List α}
/-- One more, as a step behind a call in a region that draws its order. -/
theorem step_append_F0 {P : Program} {ops : Array Oper} {o : Oper} {a : Act} {K : Act → World → Prop} {Q : Exit → Act → World → Prop} {E : Prop} (h : OwnF F B w e C v xs) (hF : ∀ b, v.ownBlock = some b → ¬ F b) (hgd : o.guard = none) (s q : Operand) (t : TypeId)
    (ho : o.op = .call { callee := .builtin .append, args := #[s, q], argTypes := #[t, t] }) {z : Value} {bytes c H : Nat} (ht : P.underlying t = some (.slice e)) (hi : (P.info? e).map (fun i => (i.zero, i.size, i.bytes)) = some (some z, C.sz, bytes))
    (hzs : z.cells.size = C.sz) (hsz : 0 < C.sz) (hs : a.eval s = v) (ncs : Array Value) (T : TypeId) (hq : a.eval q = .slice (some ⟨H, 0, none⟩) 1 c) (hH : w.heap.size = H)
    {x : α} (hel : C.E F w ncs.toList x) (hn : xs.length ≤ 40000000) (hb : bytes ≤ 1000) (hB : B ≤ w.heap.size)
    (k : ∀ g cap w', (∀ F' : Nat → Prop, (∀ b, b < w.heap.size → F b → F' b) → OwnF F' B w' e C (.slice (some ⟨g, 0, none⟩) (xs.length + 1) cap) (xs ++ [x])) → Turns v.ownBlock.toList w w' → (v.ownBlock = some g ∨ w.heap.size ≤ g) → g < w'.heap.size →
      K (a.put o.dst (.slice (some ⟨g, 0, none⟩) (xs.length + 1) cap)) w') : if Region.wanted o (yielded ops a.tmps) = true then Oper.wp P o a (w.alloc (.cells ncs T)) K Q else E := by
  subst hH
  obtain ⟨i0, hi0, hz0, hz1, hz2⟩ := info_parts hi
  have hbl : Below w.heap.size w (w.alloc (.cells ncs T)) := (Below.refl w.heap.size w).alloc (Nat.le_refl _) (.cells ncs T)
  obtain ⟨cells, h0, h2⟩ := h
  have h1 := ownsRow_turns h0 (Turns.of_below (S := []) hbl) (fun _ _ => by simp)
  have hln := C.len _ _ _ _ hel
  have hone := C.one _ _ _ _ hel
  refine step_append1s (w.alloc (.cells ncs T)) hgd s q t ho B e i0 z C.sz bytes ht hi0 hz0 hz1 hz2 hzs hsz v xs.length cells hs h1 ⟨w.heap.size, 0, none⟩ c ncs.toList hq (by rw [hln, Nat.one_mul]) ?_ hone hn hb (by simp; omega) _ rfl ?_
  · exact World.news_of_block (heap_alloc_new w (.cells ncs T))
  · intro g cap w' hown hgrow hat hlt
    have T1 : Turns v.ownBlock.toList w w' := (((Turns.refl [] w).alloc (.cells ncs T)).mono (by simp)).trans (Turns.of_grown hgrow) (fun x hx => .inl hx)
    have hat2 : v.ownBlock = some g ∨ w.heap.size ≤ g := by
      rcases hat with h | h
      · exact .inl h
      · exact .inr (by have := h.1; simp at this; omega)
    exact k g cap w' (fun F' hFF => OwnF.grow h2 hel (Kp.of_turns T1 (fun b hb => hF b (by simpa using hb))) hFF h0.1 hown) T1 hat2 hlt
end
/-- The state of Shape behind k places. -/
structure RSt (p : Pat) (pv : Value) (w wr : World) (cv : Value) (k : Nat) : Prop where
  sb : wr.heap[w.heap.size + 1 + 1]? = some (.cells #[.int .i64 p.pred, cv] 79 (0, 0))
  rb : wr.heap[w.heap.size + 1]? = some (.cells #[.int .i64 0, .slice none 0 0] 79 (0, 0))
  own : OwnF (fun _ => False) (w.heap.size + 3) wr 3 cdInt cv ((p.args.take k).map (cellF p.args))
  below : Below (w.heap.size + 1) (w.alloc (.cells #[.int .i64 p.pred, pv] 34)) wr
section
variable {p : Pat} {pv : Value} {w wr wr' w2 : World} {cv : Value} {k : Nat}
theorem RSt.lt (h : RSt p pv w wr cv k) : w.heap.size + 1 + 1 < wr.heap.size := lt_of_heap h.sb
theorem RSt.step (h : RSt p pv w wr cv k) (hb : Below wr.heap.size wr wr') : RSt p pv w wr' cv k :=
  ⟨(hb.block _ (by have := h.lt; omega)).trans h.sb, (hb.block _ (by have := h.lt; omega)).trans h.rb, h.own.below hb, box_step h.below hb⟩
theorem RSt.put (h : RSt p pv w wr cv k) {v' : Value} {c : Int} (ht : Turns cv.ownBlock.toList wr w2) (ho : OwnF (fun _ => False) (w.heap.size + 3) w2 3 cdInt v' (((p.args.take k).map (cellF p.args)) ++ [c]))
    {s : Slt} (hs : p.args[k]? = some s) (hc : cellF p.args s = c) : RSt p pv w (w2.setCell ⟨w.heap.size + 1 + 1, 1, none⟩ v') v' (k + 1) := by
  have hn : ∀ x, x < w.heap.size + 3 → x ∉ cv.ownBlock.toList := fun x hx hm => by have := (h.own.block (by simpa using hm)).1; omega
  have hlt := h.lt
  have hne : ∀ b, v'.ownBlock = some b → b ≠ w.heap.size + 1 + 1 := fun b hb => by have := (ho.block hb).1; omega
  refine ⟨heap_setCell_same _ _ 1 _ _ _ ((ht.block _ (by omega) (hn _ (by omega))).trans h.sb), ?_, ?_, ?_⟩
  · rw [Below.heap_setCell _ _ _ _ (by simp)]
    exact (ht.block _ (by omega) (hn _ (by omega))).trans h.rb
  · rw [List.take_add_one, hs, List.map_append]
    simp only [Option.toList_some, List.map_cons, List.map_nil, hc]
    exact ho.keep (S := [w.heap.size + 1 + 1]) ((Turns.refl _ _).setCell (.inl (by simp)) _) (fun b hb => by simpa using hne b hb) (by simp) (fun _ _ h => h)
  · have T : Turns ((w.heap.size + 1 + 1) :: cv.ownBlock.toList) wr (w2.setCell ⟨w.heap.size + 1 + 1, 1, none⟩ v') := (ht.mono (fun x hx => List.mem_cons_of_mem _ hx)).setCell (.inl (by simp)) _
    refine h.below.trans (T.below (by omega) (fun x hx => ?_))
    rcases List.mem_cons.1 hx with rfl | hx
    · omega
    · have := (h.own.block (by simpa using hx)).1
      omega
theorem RSt.c1 (h : RSt p pv w wr cv k) : wr.cell? ⟨w.heap.size + 1 + 1, 1, none⟩ = some cv := cell_of_row _ _ 1 _ _ _ h.sb
theorem RSt.at2 (h : RSt p pv w wr cv k) (ht : Turns cv.ownBlock.toList wr w2) : w2.cell? ⟨w.heap.size + 1 + 1, 1, none⟩ = some cv ∧ w2.frozen? ⟨w.heap.size + 1 + 1, 1, none⟩ = false ∧ w.heap.size + 1 + 1 < w2.heap.size := by
  have hlt := h.lt
  have e : w2.heap[w.heap.size + 1 + 1]? = some (.cells #[.int .i64 p.pred, cv] 79 (0, 0)) := (ht.block _ (by omega) (fun hm => by have := (h.own.block (by simpa using hm)).1; omega)).trans h.sb
  exact ⟨cell_of_row _ _ 1 _ _ _ e, by simp [World.frozen?, e], lt_of_heap e⟩
end

set_option maxRecDepth 100000 in
set_option maxHeartbeats 4000000 in
theorem rshapeW {F : Nat → Prop} (p : Pat) (v : Value) (w : World) (h : RSl F w 2 ESlt v p.args) (hS : p.args.length ≤ 1048576) :
    Calls Try.prog 66 #[.agg #[.int .i64 p.pred, v]] w fun e w' => ∃ cv, e = .returned (.agg #[.int .i64 p.pred, cv]) ∧ RSl (fun b => w.heap.size ≤ b) w' 1 EInt cv (p.args.map (cellF p.args)) ∧ Below w.heap.size w w' := by
  obtain ⟨A, c, rfl⟩ := h.form
  have H := Lib.hid h
  clear h
  go_enter Try.func66, Try.ntmps66
  go_wp2
  have h0 : RSt p (.slice A p.args.length c) w (((w.alloc (.cells #[.int .i64 p.pred, .slice A p.args.length c] 34)).alloc (.cells #[.int .i64 0, .slice none 0 0] 79)).alloc (.cells #[.int .i64 p.pred, .slice none 0 0] 79)) (.slice none 0 0) 0 := by
    refine ⟨?_, ?_, OwnF.nil, ((Below.refl _ _).alloc (by simp) _).alloc (by simp) _⟩
    · have := heap_alloc_new ((w.alloc (.cells #[.int .i64 p.pred, .slice A p.args.length c] 34)).alloc (.cells #[.int .i64 0, .slice none 0 0] 79)) (.cells #[.int .i64 p.pred, .slice none 0 0] 79)
      simpa using this
    · rw [Below.heap_alloc _ _ _ (by simp)]
      have := heap_alloc_new (w.alloc (.cells #[.int .i64 p.pred, .slice A p.args.length c] 34)) (.cells #[.int .i64 0, .slice none 0 0] 79)
      simpa using this
  go_loopw [4] (fun i wr => ∃ (k : Nat) (cv : Value), i = .int .i64 k ∧ k ≤ p.args.length ∧ RSt p (.slice A p.args.length c) w wr cv k) (fun i _ => p.args.length - (intOf i).toNat)
  case atStart => exact ⟨0, _, rfl, Nat.zero_le _, h0⟩
  case round =>
    obtain ⟨k, cv, rfl, hk, hst⟩ := hrel
    clear h0
    have htl : ((p.args.take k).map (cellF p.args)).length = k := by rw [List.length_map]; exact List.length_take_of_le hk
    obtain ⟨ca, cc, hcv⟩ := hst.own.form
    rw [htl] at hcv
    subst hcv
    have hlt := hst.lt
    have q1 := box_cellL hst.below 1 rfl
    by_cases hkn : k < p.args.length
    · obtain ⟨s, hs⟩ : ∃ s, p.args[k]? = some s := ⟨_, List.getElem?_eq_getElem hkn⟩
      obtain ⟨b, off, rfl, hFb, hbs, cs, ⟨rfl, sok⟩, hc⟩ := (H.out.keep (Kp.of_below (box_below hst.below))).at hs
      have c0 := hc 0 _ rfl
      have c1 := hc 1 _ rfl
      simp only [Nat.add_zero] at c0
      have q0 := box_cellL hst.below 0 rfl
      obtain ⟨sv, sn⟩ := s
      simp only at c0 c1 sok
      have hcell : cellF p.args ⟨sv, sn⟩ = if sv = true then -1 - (firstV p.args sn : Int) else sn := rfl
      have e1 : (0 : Int) ≤ (k : Int) := by omega
      have e2 : (k : Int) < (p.args.length : Int) := by omega
      have HS := Lib.hid hs
      have HK := Lib.hid hkn
      have HT := Lib.hid htl
      have HC := Lib.hid hcell
      have HX := Lib.hid hst
      have x1 := hst.c1
      have hsz := hst.below.size
      simp at hsz
      clear hs hkn hc htl hcell hst
      cases sv with
      | false =>
        have HC2 := Lib.hid (show cellF p.args ⟨false, sn⟩ = sn by rw [HC.out, if_neg (by decide)])
        go_wp2
        go_region_law (refine step_append_F HX.out.own (fun _ _ h => h) (by rfl) (.tmp 36) (.tmp 43) 25 (by rfl) Try.underlying25 infoIntR rfl (by decide) (by rfl) #[.int .i64 sn] _ (by rfl) (by simp) (x := sn) ⟨rfl, sok⟩ (by rw [HT.out]; omega) (by decide) (by omega) ?_; intro g cap w2 ho ht hat hlt2; rw [HT.out] at ho ⊢; obtain ⟨z1, z2, z3⟩ := HX.out.at2 ht; have N1 := Lib.hid (HX.out.put ht (ho _ (fun _ _ h => h)) HS.out HC2.out); clear ho ht hat hlt2)
        all_goals go_wp2
        all_goals exact ⟨⟨k + 1, _, by go_num, HK.out, N1.out⟩, by simp [intOf]; have := HK.out; omega⟩
      | true =>
        have hle := firstV_le HS.out rfl
        simp only at hle
        obtain ⟨j, hj⟩ : ∃ j, firstV p.args sn = j := ⟨_, rfl⟩
        have FW := Lib.hid (fun (Wx : World) (hb : Below w.heap.size w Wx) => rfirstW p (.slice (some ⟨b, off, none⟩) p.args.length c) sn Wx (H.out.keep (Kp.of_below hb)) (by have := HK.out; omega))
        have HC2 := Lib.hid (show cellF p.args ⟨true, sn⟩ = -1 - (j : Int) by rw [HC.out, if_pos rfl, hj])
        rw [hj] at hle FW
        have hc1 : i64ok (-1 - (j : Int)) := WalkArith.wf_i64 (by omega)
        have HC1 := Lib.hid hc1
        have e5 : IntKind.i64.wrap (-1 - (j : Int)) = -1 - (j : Int) := IntWalk.i64_in _ (by omega)
        clear hj hc1
        go_wp2
        go_region_law (first | (refine step_append_F0 HX2.out.own (fun _ _ h => h) (by rfl) (.tmp 22) (.tmp 32) 25 (by rfl) Try.underlying25 infoIntR rfl (by decide) (by rfl) #[.int .i64 (-1 - (j : Int))] _ (by rfl) (by simp) (x := (-1 - (j : Int))) ⟨rfl, HC1.out⟩ (by rw [HT.out]; omega) (by decide) (by have := HX2.out.lt; omega) ?_; intro g cap w2 ho ht hat hlt2; rw [HT.out] at ho ⊢; obtain ⟨z1, z2, z3⟩ := HX2.out.at2 ht; have N1 := Lib.hid (HX2.out.put ht (ho _ (fun _ _ h => h)) HS.out HC2.out); clear ho ht hat hlt2) | (go_simp; go_at_call 48; refine (FW.out _ (box_below (HX.out.step (Below.refl _ _).drew).below)).mono ?_; rintro e w7 ⟨rfl, hb7⟩; have HX2 := Lib.hid ((HX.out.step (Below.refl _ _).drew).step hb7); have x1 := HX2.out.c1; have x1a := fun (o : Obj) => (HX2.out.step ((Below.refl _ _).alloc (Nat.le_refl _) o)).c1; clear hb7))
        all_goals go_wp2
        all_goals exact ⟨⟨k + 1, _, by go_num, HK.out, N1.out⟩, by simp [intOf]; have := HK.out; omega⟩
    · obtain rfl : k = p.args.length := by omega
      have x0 : wr.cell? ⟨w.heap.size + 1 + 1, 0, none⟩ = some (.int .i64 p.pred) := cell_of_row _ _ 0 _ _ _ hst.sb
      have x1 := hst.c1
      have y0 : wr.cell? ⟨w.heap.size + 1, 0, none⟩ = some (.int .i64 0) := cell_of_row _ _ 0 _ _ _ hst.rb
      have y1 : wr.cell? ⟨w.heap.size + 1, 1, none⟩ = some (.slice none 0 0) := cell_of_row _ _ 1 _ _ _ hst.rb
      have yf : ∀ o, wr.frozen? ⟨w.heap.size + 1, o, none⟩ = false := fun o => by have := hst.rb; simp [World.frozen?, this]
      have HX := Lib.hid hst
      have hown := hst.own
      rw [List.take_length] at hown
      have HO := Lib.hid hown
      have ef : ((wr.setCell ⟨w.heap.size + 1, 0, none⟩ (.int .i64 p.pred)).setCell ⟨w.heap.size + 1, 1, none⟩ (.slice ca p.args.length cc)).heap[w.heap.size + 1]? = some (.cells #[.int .i64 p.pred, .slice ca p.args.length cc] 79 (0, 0)) :=
        heap_setCell_same _ _ 1 _ _ _ (heap_setCell_same _ _ 0 _ _ _ hst.rb)
      have f0 := cell_of_row _ _ 0 _ _ _ ef
      have f1 := cell_of_row _ _ 1 _ _ _ ef
      simp only [List.getElem?_toArray, List.getElem?_cons_zero, List.getElem?_cons_succ] at f0 f1
      clear hst hown htl hkn ef
      go_wp2
      refine bodyPost_ret (v := .agg #[.int .i64 p.pred, .slice ca p.args.length cc]) (by simp [results, Try.results66, go_sem, f0, f1]) rfl ?_
      refine ⟨_, rfl, ?_, ?_⟩
      · have K : Kp (fun b => w.heap.size + 3 ≤ b) wr ((wr.setCell ⟨w.heap.size + 1, 0, none⟩ (.int .i64 p.pred)).setCell ⟨w.heap.size + 1, 1, none⟩ (.slice ca p.args.length cc)) :=
          ⟨by simp, fun b _ hb => by rw [Below.heap_setCell _ _ _ _ (by simp; omega), Below.heap_setCell _ _ _ _ (by simp; omega)]⟩
        exact (HO.out.rsl (G := fun b => w.heap.size + 3 ≤ b) (fun b hb => (HO.out.block hb).1)).kp K (fun b _ hb => by omega) (fun _ _ h => h)
      · exact ((box_below HX.out.below).setCell (by simp) _).setCell (by simp) _
end Go.Proofs.Ytonkbjdeaneicaa
