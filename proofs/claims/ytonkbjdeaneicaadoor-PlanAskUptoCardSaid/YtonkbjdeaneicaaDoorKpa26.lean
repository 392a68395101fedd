/- The reference's Shape. The reference's back: the pattern of a node, read back. Reading a rule back, in plain Lean: sizes. -/
import Derived.Test.YtonkbjdeaneicaaDoorKpa12
import Derived.Test.YtonkbjdeaneicaaDoorKpa19
import Derived.Test.YtonkbjdeaneicaaDoorKpa24
import Derived.Test.YtonkbjdeaneicaaDoorKpa25
namespace Go.Proofs.YtonkbjdeaneicaaDoor
open Go.RowKit Pln Classical Go.Maps

section
variable {α : Type} {F F' : Nat → Prop} {B : Nat} {w w' : World} {e : TypeId} {C : Cdc α} {v : Value} {xs : List α}
/-- One more, as a step behind a call in a region that draws its order. -/
theorem step_append_F0 {P : Program} {ops : Array Oper} {o : Oper} {a : Act} {K : Act → World → Prop} {Q : Exit → Act → World → Prop} {E : Prop} (h : OwnF F B w e C v xs) (hF : ∀ b, v.ownBlock = some b → ¬ F b) (hgd : o.guard = none) (s q : Operand) (t : TypeId)
    (ho : o.op = .call { callee := .builtin .append, args := #[s, q], argTypes := #[t, t] }) {z : Value} {bytes c H : Nat} (ht : P.underlying t = some (.slice e)) (hi : (P.info? e).map (fun i => (i.zero, i.size, i.bytes)) = some (some z, C.sz, bytes))
    (hzs : z.cells.size = C.sz) (hsz : 0 < C.sz) (hs : a.eval s = v) (ncs : Array Value) (T : TypeId) (hq : a.eval q = .slice (some ⟨H, 0, none⟩) 1 c) (hH : w.heap.size = H)
    {x : α} (hel : C.E F w ncs.toList x) (hn : xs.length ≤ 40000000) (hb : bytes ≤ 1000) (hB : B ≤ w.heap.size)
    (k : ∀ g cap w', (∀ F' : Nat → Prop, (∀ b, b < w.heap.size → F b → F' b) → OwnF F' B w' e C (.slice (some ⟨g, 0, none⟩) (xs.length + 1) cap) (xs ++ [x])) → Turns v.ownBlock.toList w w' → (v.ownBlock = some g ∨ w.heap.size ≤ g) → g < w'.heap.size →
      K (a.put o.dst (.slice (some ⟨g, 0, none⟩) (xs.length + 1) cap)) w') : if Region.wanted o (yielded ops a.tmps) = true then Oper.wp P o a (w.alloc (.cells ncs T)) K Q else E := by
  subst hH
  obtain ⟨i0, hi0, hz0, hz1, hz2⟩ := info_parts hi
  have hbl : Below w.heap.size w (w.alloc (.cells ncs T)) := (Below.refl w.heap.size w).alloc (Nat.le_refl _) (.cells ncs T)
  obtain ⟨cells, h0, h2⟩ := h
  have h1 := ownsRow_turns h0 (Turns.of_below (S := []) hbl) (fun _ _ => by simp)
  have hln := C.len _ _ _ _ hel
  have hone := C.one _ _ _ _ hel
  refine step_append1s (w.alloc (.cells ncs T)) hgd s q t ho B e i0 z C.sz bytes ht hi0 hz0 hz1 hz2 hzs hsz v xs.length cells hs h1 ⟨w.heap.size, 0, none⟩ c ncs.toList hq (by rw [hln, Nat.one_mul]) ?_ hone hn hb (by simp; omega) _ rfl ?_
  · exact World.news_of_block (heap_alloc_new w (.cells ncs T))
  · intro g cap w' hown hgrow hat hlt
    have T1 : Turns v.ownBlock.toList w w' := (((Turns.refl [] w).alloc (.cells ncs T)).mono (by simp)).trans (Turns.of_grown hgrow) (fun x hx => .inl hx)
    have hat2 : v.ownBlock = some g ∨ w.heap.size ≤ g := by
      rcases hat with h | h
      · exact .inl h
      · exact .inr (by have := h.1; simp at this; omega)
    exact k g cap w' (fun F' hFF => OwnF.grow h2 hel (Kp.of_turns T1 (fun b hb => hF b (by simpa using hb))) hFF h0.1 hown) T1 hat2 hlt
end
/-- The state of Shape behind k places. -/
structure RSt (p : Pat) (pv : Value) (w wr : World) (cv : Value) (k : Nat) : Prop where
  sb : wr.heap[w.heap.size + 1 + 1]? = some (.cells #[.int .i64 p.pred, cv] 54 (0, 0))
  rb : wr.heap[w.heap.size + 1]? = some (.cells #[.int .i64 0, .slice none 0 0] 54 (0, 0))
  own : OwnF (fun _ => False) (w.heap.size + 3) wr 3 cdInt cv ((p.args.take k).map (cellF p.args))
  below : Below (w.heap.size + 1) (w.alloc (.cells #[.int .i64 p.pred, pv] 80)) wr
section
variable {p : Pat} {pv : Value} {w wr wr' w2 : World} {cv : Value} {k : Nat}
theorem RSt.lt (h : RSt p pv w wr cv k) : w.heap.size + 1 + 1 < wr.heap.size := lt_of_heap h.sb
theorem RSt.step (h : RSt p pv w wr cv k) (hb : Below wr.heap.size wr wr') : RSt p pv w wr' cv k :=
  ⟨(hb.block _ (by have := h.lt; omega)).trans h.sb, (hb.block _ (by have := h.lt; omega)).trans h.rb, h.own.below hb, box_step h.below hb⟩
theorem RSt.put (h : RSt p pv w wr cv k) {v' : Value} {c : Int} (ht : Turns cv.ownBlock.toList wr w2) (ho : OwnF (fun _ => False) (w.heap.size + 3) w2 3 cdInt v' (((p.args.take k).map (cellF p.args)) ++ [c]))
    {s : Slt} (hs : p.args[k]? = some s) (hc : cellF p.args s = c) : RSt p pv w (w2.setCell ⟨w.heap.size + 1 + 1, 1, none⟩ v') v' (k + 1) := by
  have hn : ∀ x, x < w.heap.size + 3 → x ∉ cv.ownBlock.toList := fun x hx hm => by have := (h.own.block (by simpa using hm)).1; omega
  have hlt := h.lt
  have hne : ∀ b, v'.ownBlock = some b → b ≠ w.heap.size + 1 + 1 := fun b hb => by have := (ho.block hb).1; omega
  refine ⟨heap_setCell_same _ _ 1 _ _ _ ((ht.block _ (by omega) (hn _ (by omega))).trans h.sb), ?_, ?_, ?_⟩
  · rw [Below.heap_setCell _ _ _ _ (by simp)]
    exact (ht.block _ (by omega) (hn _ (by omega))).trans h.rb
  · rw [List.take_add_one, hs, List.map_append]
    simp only [Option.toList_some, List.map_cons, List.map_nil, hc]
    exact ho.keep (S := [w.heap.size + 1 + 1]) ((Turns.refl _ _).setCell (.inl (by simp)) _) (fun b hb => by simpa using hne b hb) (by simp) (fun _ _ h => h)
  · have T : Turns ((w.heap.size + 1 + 1) :: cv.ownBlock.toList) wr (w2.setCell ⟨w.heap.size + 1 + 1, 1, none⟩ v') := (ht.mono (fun x hx => List.mem_cons_of_mem _ hx)).setCell (.inl (by simp)) _
    refine h.below.trans (T.below (by omega) (fun x hx => ?_))
    rcases List.mem_cons.1 hx with rfl | hx
    · omega
    · have := (h.own.block (by simpa using hx)).1
      omega
theorem RSt.c1 (h : RSt p pv w wr cv k) : wr.cell? ⟨w.heap.size + 1 + 1, 1, none⟩ = some cv := cell_of_row _ _ 1 _ _ _ h.sb
theorem RSt.at2 (h : RSt p pv w wr cv k) (ht : Turns cv.ownBlock.toList wr w2) : w2.cell? ⟨w.heap.size + 1 + 1, 1, none⟩ = some cv ∧ w2.frozen? ⟨w.heap.size + 1 + 1, 1, none⟩ = false ∧ w.heap.size + 1 + 1 < w2.heap.size := by
  have hlt := h.lt
  have e : w2.heap[w.heap.size + 1 + 1]? = some (.cells #[.int .i64 p.pred, cv] 54 (0, 0)) := (ht.block _ (by omega) (fun hm => by have := (h.own.block (by simpa using hm)).1; omega)).trans h.sb
  exact ⟨cell_of_row _ _ 1 _ _ _ e, by simp [World.frozen?, e], lt_of_heap e⟩
end

set_option maxRecDepth 100000 in
set_option maxHeartbeats 4000000 in
theorem rshapeW {F : Nat → Prop} (p : Pat) (v : Value) (w : World) (h : RSl F w 2 ESlt v p.args) (hS : p.args.length ≤ 1048576) :
    Calls Tryd.prog 99 #[.agg #[.int .i64 p.pred, v]] w fun e w' => ∃ cv, e = .returned (.agg #[.int .i64 p.pred, cv]) ∧ RSl (fun b => w.heap.size ≤ b) w' 1 EInt cv (p.args.map (cellF p.args)) ∧ Below w.heap.size w w' := by
  obtain ⟨A, c, rfl⟩ := h.form
  have H := Lib.hid h
  clear h
  go_enter Tryd.func99, Tryd.ntmps99
  go_wp2
  have h0 : RSt p (.slice A p.args.length c) w (((w.alloc (.cells #[.int .i64 p.pred, .slice A p.args.length c] 80)).alloc (.cells #[.int .i64 0, .slice none 0 0] 54)).alloc (.cells #[.int .i64 p.pred, .slice none 0 0] 54)) (.slice none 0 0) 0 := by
    refine ⟨?_, ?_, OwnF.nil, ((Below.refl _ _).alloc (by simp) _).alloc (by simp) _⟩
    · have := heap_alloc_new ((w.alloc (.cells #[.int .i64 p.pred, .slice A p.args.length c] 80)).alloc (.cells #[.int .i64 0, .slice none 0 0] 54)) (.cells #[.int .i64 p.pred, .slice none 0 0] 54)
      simpa using this
    · rw [Below.heap_alloc _ _ _ (by simp)]
      have := heap_alloc_new (w.alloc (.cells #[.int .i64 p.pred, .slice A p.args.length c] 80)) (.cells #[.int .i64 0, .slice none 0 0] 54)
      simpa using this
  go_loopw [4] (fun i wr => ∃ (k : Nat) (cv : Value), i = .int .i64 k ∧ k ≤ p.args.length ∧ RSt p (.slice A p.args.length c) w wr cv k) (fun i _ => p.args.length - (intOf i).toNat)
  case atStart => exact ⟨0, _, rfl, Nat.zero_le _, h0⟩
  case round =>
    obtain ⟨k, cv, rfl, hk, hst⟩ := hrel
    clear h0
    have htl : ((p.args.take k).map (cellF p.args)).length = k := by rw [List.length_map]; exact List.length_take_of_le hk
    obtain ⟨ca, cc, hcv⟩ := hst.own.form
    rw [htl] at hcv
    subst hcv
    have hlt := hst.lt
    have q1 := box_cellL hst.below 1 rfl
    by_cases hkn : k < p.args.length
    · obtain ⟨s, hs⟩ : ∃ s, p.args[k]? = some s := ⟨_, List.getElem?_eq_getElem hkn⟩
      obtain ⟨b, off, rfl, hFb, hbs, cs, ⟨rfl, sok⟩, hc⟩ := (H.out.keep (Kp.of_below (box_below hst.below))).at hs
      have c0 := hc 0 _ rfl
      have c1 := hc 1 _ rfl
      simp only [Nat.add_zero] at c0
      have q0 := box_cellL hst.below 0 rfl
      obtain ⟨sv, sn⟩ := s
      simp only at c0 c1 sok
      have hcell : cellF p.args ⟨sv, sn⟩ = if sv = true then -1 - (firstV p.args sn : Int) else sn := rfl
      have e1 : (0 : Int) ≤ (k : Int) := by omega
      have e2 : (k : Int) < (p.args.length : Int) := by omega
      have HS := Lib.hid hs
      have HK := Lib.hid hkn
      have HT := Lib.hid htl
      have HC := Lib.hid hcell
      have HX := Lib.hid hst
      have x1 := hst.c1
      have hsz := hst.below.size
      simp at hsz
      clear hs hkn hc htl hcell hst
      cases sv with
      | false =>
        have HC2 := Lib.hid (show cellF p.args ⟨false, sn⟩ = sn by rw [HC.out, if_neg (by decide)])
        go_wp2
        go_region_law (refine step_append_F HX.out.own (fun _ _ h => h) (by rfl) (.tmp 36) (.tmp 43) 24 (by rfl) Tryd.underlying24 infoIntR rfl (by decide) (by rfl) #[.int .i64 sn] _ (by rfl) (by simp) (x := sn) ⟨rfl, sok⟩ (by rw [HT.out]; omega) (by decide) (by omega) ?_; intro g cap w2 ho ht hat hlt2; rw [HT.out] at ho ⊢; obtain ⟨z1, z2, z3⟩ := HX.out.at2 ht; have N1 := Lib.hid (HX.out.put ht (ho _ (fun _ _ h => h)) HS.out HC2.out); clear ho ht hat hlt2)
        all_goals go_wp2
        all_goals exact ⟨⟨k + 1, _, by go_num, HK.out, N1.out⟩, by simp [intOf]; have := HK.out; omega⟩
      | true =>
        have hle := firstV_le HS.out rfl
        simp only at hle
        obtain ⟨j, hj⟩ : ∃ j, firstV p.args sn = j := ⟨_, rfl⟩
        have FW := Lib.hid (fun (Wx : World) (hb : Below w.heap.size w Wx) => rfirstW p (.slice (some ⟨b, off, none⟩) p.args.length c) sn Wx (H.out.keep (Kp.of_below hb)) (by have := HK.out; omega))
        have HC2 := Lib.hid (show cellF p.args ⟨true, sn⟩ = -1 - (j : Int) by rw [HC.out, if_pos rfl, hj])
        rw [hj] at hle FW
        have hc1 : i64ok (-1 - (j : Int)) := WalkArith.wf_i64 (by omega)
        have HC1 := Lib.hid hc1
        have e5 : IntKind.i64.wrap (-1 - (j : Int)) = -1 - (j : Int) := IntWalk.i64_in _ (by omega)
        clear hj hc1
        go_wp2
        go_region_law (first | (refine step_append_F0 HX2.out.own (fun _ _ h => h) (by rfl) (.tmp 22) (.tmp 32) 24 (by rfl) Tryd.underlying24 infoIntR rfl (by decide) (by rfl) #[.int .i64 (-1 - (j : Int))] _ (by rfl) (by simp) (x := (-1 - (j : Int))) ⟨rfl, HC1.out⟩ (by rw [HT.out]; omega) (by decide) (by have := HX2.out.lt; omega) ?_; intro g cap w2 ho ht hat hlt2; rw [HT.out] at ho ⊢; obtain ⟨z1, z2, z3⟩ := HX2.out.at2 ht; have N1 := Lib.hid (HX2.out.put ht (ho _ (fun _ _ h => h)) HS.out HC2.out); clear ho ht hat hlt2) | (go_simp; go_at_call 91; refine (FW.out _ (box_below (HX.out.step (Below.refl _ _).drew).below)).mono ?_; rintro e w7 ⟨rfl, hb7⟩; have HX2 := Lib.hid ((HX.out.step (Below.refl _ _).drew).step hb7); have x1 := HX2.out.c1; have x1a := fun (o : Obj) => (HX2.out.step ((Below.refl _ _).alloc (Nat.le_refl _) o)).c1; clear hb7))
        all_goals go_wp2
        all_goals exact ⟨⟨k + 1, _, by go_num, HK.out, N1.out⟩, by simp [intOf]; have := HK.out; omega⟩
    · obtain rfl : k = p.args.length := by omega
      have x0 : wr.cell? ⟨w.heap.size + 1 + 1, 0, none⟩ = some (.int .i64 p.pred) := cell_of_row _ _ 0 _ _ _ hst.sb
      have x1 := hst.c1
      have y0 : wr.cell? ⟨w.heap.size + 1, 0, none⟩ = some (.int .i64 0) := cell_of_row _ _ 0 _ _ _ hst.rb
      have y1 : wr.cell? ⟨w.heap.size + 1, 1, none⟩ = some (.slice none 0 0) := cell_of_row _ _ 1 _ _ _ hst.rb
      have yf : ∀ o, wr.frozen? ⟨w.heap.size + 1, o, none⟩ = false := fun o => by have := hst.rb; simp [World.frozen?, this]
      have HX := Lib.hid hst
      have hown := hst.own
      rw [List.take_length] at hown
      have HO := Lib.hid hown
      have ef : ((wr.setCell ⟨w.heap.size + 1, 0, none⟩ (.int .i64 p.pred)).setCell ⟨w.heap.size + 1, 1, none⟩ (.slice ca p.args.length cc)).heap[w.heap.size + 1]? = some (.cells #[.int .i64 p.pred, .slice ca p.args.length cc] 54 (0, 0)) :=
        heap_setCell_same _ _ 1 _ _ _ (heap_setCell_same _ _ 0 _ _ _ hst.rb)
      have f0 := cell_of_row _ _ 0 _ _ _ ef
      have f1 := cell_of_row _ _ 1 _ _ _ ef
      simp only [List.getElem?_toArray, List.getElem?_cons_zero, List.getElem?_cons_succ] at f0 f1
      clear hst hown htl hkn ef
      go_wp2
      refine bodyPost_ret (v := .agg #[.int .i64 p.pred, .slice ca p.args.length cc]) (by simp [results, Tryd.results99, go_sem, f0, f1]) rfl ?_
      refine ⟨_, rfl, ?_, ?_⟩
      · have K : Kp (fun b => w.heap.size + 3 ≤ b) wr ((wr.setCell ⟨w.heap.size + 1, 0, none⟩ (.int .i64 p.pred)).setCell ⟨w.heap.size + 1, 1, none⟩ (.slice ca p.args.length cc)) :=
          ⟨by simp, fun b _ hb => by rw [Below.heap_setCell _ _ _ _ (by simp; omega), Below.heap_setCell _ _ _ _ (by simp; omega)]⟩
        exact (HO.out.rsl (G := fun b => w.heap.size + 3 ≤ b) (fun b hb => (HO.out.block hb).1)).kp K (fun b _ hb => by omega) (fun _ _ h => h)
      · exact ((box_below HX.out.below).setCell (by simp) _).setCell (by simp) _
end Go.Proofs.YtonkbjdeaneicaaDoor

namespace Go.Proofs.YtonkbjdeaneicaaDoor.Pln
open Classical
theorem backK_len {cells : List Int} {ls : List (Int × Int)} {nw : List Int} {w : Int} : ∀ {k : Nat} {l : List Slt}, backK cells ls nw w k = some l → l.length = k
  | 0, l, h => by
    simp only [backK, Option.some.injEq] at h
    rw [← h]
    rfl
  | k + 1, l, h => by
    unfold backK at h
    cases h1 : backK cells ls nw w k with
    | none => rw [h1] at h; simp at h
    | some out =>
      have ih := backK_len h1
      rw [h1] at h
      cases h2 : cells[k]? with
      | none => rw [h2] at h; simp at h
      | some c =>
        rw [h2] at h
        simp only at h
        unfold backS at h
        split at h
        · injection h with h; rw [← h]; simp [ih]
        · split at h
          · split at h
            · injection h with h; rw [← h]; simp [ih]
            · cases h
          · split at h
            · cases h
            · injection h with h; rw [← h]; simp [ih]
theorem backK_stop {cells : List Int} {ls : List (Int × Int)} {nw : List Int} {w : Int} {k : Nat} (h : backK cells ls nw w k = none) : ∀ d, backK cells ls nw w (k + d) = none
  | 0 => h
  | d + 1 => by
    rw [← Nat.add_assoc]
    unfold backK
    rw [backK_stop h d]
theorem backK_next {cells : List Int} {ls : List (Int × Int)} {nw : List Int} {w : Int} {k : Nat} {l : List Slt} {c : Int} (h : backK cells ls nw w k = some l) (hc : cells[k]? = some c) : backK cells ls nw w (k + 1) = backS ls nw w l k c := by
  conv => lhs; unfold backK
  rw [h, hc]
end Go.Proofs.YtonkbjdeaneicaaDoor.Pln
namespace Go.Proofs.YtonkbjdeaneicaaDoor
open Go.RowKit Pln Classical Go.Maps

theorem sizePatR : (Tryd.prog.info? 80).map (·.size) = some 2 := by kernel_rfl
theorem held_ok {ls : List (Int × Int)} {nw : List Int} {w i : Int} (hl : ∀ x ∈ ls, i64ok x.2) (hw : 0 ≤ w ∧ w ≤ 2305843009213693952) (hn : nw.length ≤ 1048576) : i64ok (heldF ls nw w i) := by
  have hL : ∀ {v : Int}, linkOf ls i = some v → i64ok v := by
    intro v hv
    clear hn
    induction ls with
    | nil => simp [linkOf] at hv
    | cons a r ih =>
      unfold linkOf at hv
      split at hv
      · injection hv with hv
        rw [← hv]
        exact hl a (List.mem_cons_self ..)
      · exact ih (fun x hx => hl x (List.mem_cons_of_mem _ hx)) hv
  unfold heldF
  split
  · rename_i v hv
    exact hL hv
  · split
    · rename_i hm
      have := (placeF_lt hm).1
      exact WalkArith.wf_i64 (by omega)
    · exact WalkArith.wf_i64 (by omega)

/-- The state of back behind k places. -/
structure BkSt (W : World) (nd sh : Array Value) (wr : World) (pr : Int) (ov : Value) (l : List Slt) : Prop where
  blk : wr.heap[W.heap.size + 1 + 1 + 1 + 1]? = some (.cells #[.int .i64 pr, ov] 80 (0, 0))
  rb : wr.heap[W.heap.size + 1 + 1]? = some (.cells #[.int .i64 0, .slice none 0 0] 80 (0, 0))
  sb : wr.heap[W.heap.size + 1 + 1 + 1]? = some (.cells sh 54 (0, 0))
  nb : wr.heap[W.heap.size + 1]? = some (.cells nd 40 (0, 0))
  ow : OwnF (fun _ => False) (W.heap.size + 5) wr 36 cdSlt ov l
  below : Below W.heap.size W wr
section
variable {W wr wr' w2 : World} {nd sh : Array Value} {pr : Int} {ov : Value} {l : List Slt}
theorem BkSt.lt (h : BkSt W nd sh wr pr ov l) : W.heap.size + 1 + 1 + 1 + 1 < wr.heap.size := lt_of_heap h.blk
theorem BkSt.step (h : BkSt W nd sh wr pr ov l) (hb : Below wr.heap.size wr wr') : BkSt W nd sh wr' pr ov l := by
  have := h.lt
  exact ⟨(hb.block _ (by omega)).trans h.blk, (hb.block _ (by omega)).trans h.rb, (hb.block _ (by omega)).trans h.sb, (hb.block _ (by omega)).trans h.nb, h.ow.below hb, h.below.trans (hb.mono h.below.size)⟩
theorem BkSt.far (h : BkSt W nd sh wr pr ov l) : ∀ x, x < W.heap.size + 5 → x ∉ ov.ownBlock.toList := fun x hx hm => by have := (h.ow.block (by simpa using hm)).1; omega
theorem BkSt.put (h : BkSt W nd sh wr pr ov l) {v' : Value} {s : Slt} (ht : Turns ov.ownBlock.toList wr w2) (ho : OwnF (fun _ => False) (W.heap.size + 5) w2 36 cdSlt v' (l ++ [s])) :
    BkSt W nd sh (w2.setCell ⟨W.heap.size + 1 + 1 + 1 + 1, 1, none⟩ v') pr v' (l ++ [s]) := by
  have hn := h.far
  have hlt := h.lt
  have hne : ∀ b, v'.ownBlock = some b → b ≠ W.heap.size + 1 + 1 + 1 + 1 := fun b hb => by have := (ho.block hb).1; omega
  refine ⟨heap_setCell_same _ _ 1 _ _ _ ((ht.block _ (by omega) (hn _ (by omega))).trans h.blk), ?_, ?_, ?_, ?_, ?_⟩
  · rw [Below.heap_setCell _ _ _ _ (by simp)]
    exact (ht.block _ (by omega) (hn _ (by omega))).trans h.rb
  · rw [Below.heap_setCell _ _ _ _ (by simp)]
    exact (ht.block _ (by omega) (hn _ (by omega))).trans h.sb
  · rw [Below.heap_setCell _ _ _ _ (by simp)]
    exact (ht.block _ (by omega) (hn _ (by omega))).trans h.nb
  · exact ho.keep (S := [W.heap.size + 1 + 1 + 1 + 1]) ((Turns.refl _ _).setCell (.inl (by simp)) _) (fun b hb => by simpa using hne b hb) (by simp) (fun _ _ h => h)
  · exact (h.below.trans (ht.below h.below.size (fun x hx => by have := (h.ow.block (by simpa using hx)).1; omega))).setCell (by simp; omega) _
theorem BkSt.c1 (h : BkSt W nd sh wr pr ov l) : wr.cell? ⟨W.heap.size + 1 + 1 + 1 + 1, 1, none⟩ = some ov := cell_of_row _ _ 1 _ _ _ h.blk
theorem BkSt.at2 (h : BkSt W nd sh wr pr ov l) (ht : Turns ov.ownBlock.toList wr w2) : w2.cell? ⟨W.heap.size + 1 + 1 + 1 + 1, 1, none⟩ = some ov ∧ w2.frozen? ⟨W.heap.size + 1 + 1 + 1 + 1, 1, none⟩ = false ∧ W.heap.size + 1 + 1 + 1 + 1 < w2.heap.size := by
  have hlt := h.lt
  have e : w2.heap[W.heap.size + 1 + 1 + 1 + 1]? = some (.cells #[.int .i64 pr, ov] 80 (0, 0)) := (ht.block _ (by omega) (h.far _ (by omega))).trans h.blk
  exact ⟨cell_of_row _ _ 1 _ _ _ e, by simp [World.frozen?, e], lt_of_heap e⟩
end
/-- What back answers. -/
def BackRes (al : List Shp) (n : Nd) (w : Int) (W : World) (e : Ending) (W' : World) : Prop :=
  Below W.heap.size W W' ∧ ((∃ p v, backP al n w = some p ∧ e = .returned (.tuple #[.agg #[.int .i64 p.pred, v], .bool true]) ∧ i64ok p.pred ∧ RSl (fun b => W.heap.size ≤ b) W' 2 ESlt v p.args) ∨
    (backP al n w = none ∧ e = .returned (.tuple #[.agg #[.int .i64 0, .slice none 0 0], .bool false])))

set_option maxRecDepth 200000 in
set_option maxHeartbeats 8000000 in
theorem rbackW {F G : Nat → Prop} (W : World) (av nv ev : Value) (al : List Shp) (hA : RSl F W 2 (EShp F W) av al) (hal : al.length ≤ 1048576) (hcl : ∀ s ∈ al, s.cells.length ≤ 1048576) (n : Nd) (ncs : List Value) (lv mv : Value) (hN : ENd G W ncs n lv mv) (hml : n.new.length ≤ 1048576) (w : Int) (hw : 0 ≤ w ∧ w ≤ 2305843009213693952) :
    Calls Tryd.prog 75 #[.agg #[av, nv, ev], .agg #[.int .i64 n.kind, .int .i64 n.parent, .int .i64 n.alpha, lv, mv, .int .i64 n.test.op, .bool n.test.l.v, .int .i64 n.test.l.n, .bool n.test.r.v, .int .i64 n.test.r.n, .int .i64 n.width], .int .i64 w] W (BackRes al n w W) := by
  have HW := Lib.hid (fun (Wx : World) (hb : Below W.heap.size W Wx) (i : Int) => rheldW n lv mv Wx (hN.links.keep (Kp.of_below hb)) (hN.new.keep (Kp.of_below hb)) i w hw hml)
  obtain ⟨Aa, ca, rfl⟩ := hA.form
  have HOK := Lib.hid (fun i => held_ok (ls := n.links) (nw := n.new) (w := w) (i := i) (fun x hx => by obtain ⟨cs, h⟩ := hN.links.mem hx; exact h.2.2) hw hml)
  clear hN
  have E0 := Lib.hid (fun (A B : Obj) (C : Array Value) => (show (((W.alloc A).alloc B).alloc (.cells C 80)).heap[W.heap.size + 1 + 1]? = some (.cells C 80 (0, 0)) by
    have := heap_alloc_new ((W.alloc A).alloc B) (.cells C 80)
    simpa using this))
  by_cases ha : 0 ≤ n.alpha ∧ n.alpha < (al.length : Int)
  case neg =>
    have HF := Lib.hid (show backP al n w = none by unfold backP; rw [if_neg ha])
    by_cases h0 : n.alpha < 0
    · clear ha
      go_enter Tryd.func75, Tryd.ntmps75
      go_wp2
      refine bodyPost_ret (v := .tuple #[.agg #[.int .i64 0, .slice none 0 0], .bool false]) (results_row_slot rfl _ _ (W.heap.size + 1 + 1) 80 #[.int .i64 0, .slice none 0 0] (0, 0) _ _ rfl rfl (E0.out _ _ _) Tryd.underlying80 rfl sizePatR) rfl ?_
      exact ⟨(((Below.refl W.heap.size W).alloc (Nat.le_refl _) _).alloc (by simp) _).alloc (by simp; omega) _, .inr ⟨HF.out, rfl⟩⟩
    · have h1 : (al.length : Int) ≤ n.alpha := by omega
      clear ha
      go_enter Tryd.func75, Tryd.ntmps75
      go_wp2
      refine bodyPost_ret (v := .tuple #[.agg #[.int .i64 0, .slice none 0 0], .bool false]) (results_row_slot rfl _ _ (W.heap.size + 1 + 1) 80 #[.int .i64 0, .slice none 0 0] (0, 0) _ _ rfl rfl (E0.out _ _ _) Tryd.underlying80 rfl sizePatR) rfl ?_
      exact ⟨(((Below.refl W.heap.size W).alloc (Nat.le_refl _) _).alloc (by simp) _).alloc (by simp; omega) _, .inr ⟨HF.out, rfl⟩⟩
  obtain ⟨ai, hai⟩ := Int.eq_ofNat_of_zero_le ha.1
  obtain ⟨s, hs⟩ : ∃ s, al[ai]? = some s := ⟨_, List.getElem?_eq_getElem (by omega)⟩
  have HP := Lib.hid (show backP al n w = (backK s.cells n.links n.new w s.cells.length).map (fun a => (⟨s.pred, a⟩ : Pat)) by
    unfold backP
    rw [if_pos ha, hai, Int.toNat_natCast, hs])
  have hsl := hcl s (List.mem_of_getElem? hs)
  obtain ⟨b, off, rfl, -, hbl, cs, ⟨sv, rfl, sok, hsc⟩, hc⟩ := hA.at hs
  obtain ⟨As, cs', rfl⟩ := hsc.form
  have c0 := hc 0 _ rfl
  have c1 := hc 1 _ rfl
  simp only [Nat.add_zero] at c0
  have cc0 := fun (A B C : Obj) => (((((Below.refl W.heap.size W).alloc (Nat.le_refl _) A).alloc (by simp) B).alloc (by simp; omega) C).cell (p := ⟨b, off + ai * 2, none⟩) hbl).trans c0
  have cc1 := fun (A B C : Obj) => (((((Below.refl W.heap.size W).alloc (Nat.le_refl _) A).alloc (by simp) B).alloc (by simp; omega) C).cell (p := ⟨b, off + ai * 2 + 1, none⟩) hbl).trans c1
  have g0 : ¬ n.alpha < 0 := by omega
  have g1 : ¬ (al.length : Int) ≤ n.alpha := by omega
  have g2 : 0 ≤ n.alpha := ha.1
  have g3 : n.alpha < (al.length : Int) := ha.2
  rw [hai] at g0 g1 g2 g3 ⊢
  have HSC := Lib.hid hsc
  have SOK := Lib.hid sok
  clear hc hs ha hA hcl hsc sok
  go_enter Tryd.func75, Tryd.ntmps75
  go_wp2
  have h80 : BkSt W #[.int .i64 n.kind, .int .i64 n.parent, .int .i64 ai, lv, mv, .int .i64 n.test.op, .bool n.test.l.v, .int .i64 n.test.l.n, .bool n.test.r.v, .int .i64 n.test.r.n, .int .i64 n.width] #[.int .i64 s.pred, .slice As s.cells.length cs'] (((((W.alloc (.cells #[.slice (some ⟨b, off, none⟩) al.length ca, nv, ev] 26)).alloc (.cells #[.int .i64 n.kind, .int .i64 n.parent, .int .i64 ai, lv, mv, .int .i64 n.test.op, .bool n.test.l.v, .int .i64 n.test.l.n, .bool n.test.r.v, .int .i64 n.test.r.n, .int .i64 n.width] 40)).alloc (.cells #[.int .i64 0, .slice none 0 0] 80)).alloc (.cells #[.int .i64 s.pred, .slice As s.cells.length cs'] 54)).alloc (.cells #[.int .i64 s.pred, .slice none 0 0] 80)) s.pred (.slice none 0 0) [] := by
    refine ⟨?_, ?_, ?_, ?_, OwnF.nil, (((((Below.refl W.heap.size W).alloc (Nat.le_refl _) _).alloc (by simp) _).alloc (by simp; omega) _).alloc (by simp; omega) _).alloc (by simp; omega) _⟩
    · have := heap_alloc_new ((((W.alloc (.cells #[.slice (some ⟨b, off, none⟩) al.length ca, nv, ev] 26)).alloc (.cells #[.int .i64 n.kind, .int .i64 n.parent, .int .i64 ai, lv, mv, .int .i64 n.test.op, .bool n.test.l.v, .int .i64 n.test.l.n, .bool n.test.r.v, .int .i64 n.test.r.n, .int .i64 n.width] 40)).alloc (.cells #[.int .i64 0, .slice none 0 0] 80)).alloc (.cells #[.int .i64 s.pred, .slice As s.cells.length cs'] 54)) (.cells #[.int .i64 s.pred, .slice none 0 0] 80)
      simpa using this
    · rw [Below.heap_alloc _ _ _ (by simp), Below.heap_alloc _ _ _ (by simp)]
      exact E0.out _ _ _
    · rw [Below.heap_alloc _ _ _ (by simp)]
      have := heap_alloc_new (((W.alloc (.cells #[.slice (some ⟨b, off, none⟩) al.length ca, nv, ev] 26)).alloc (.cells #[.int .i64 n.kind, .int .i64 n.parent, .int .i64 ai, lv, mv, .int .i64 n.test.op, .bool n.test.l.v, .int .i64 n.test.l.n, .bool n.test.r.v, .int .i64 n.test.r.n, .int .i64 n.width] 40)).alloc (.cells #[.int .i64 0, .slice none 0 0] 80)) (.cells #[.int .i64 s.pred, .slice As s.cells.length cs'] 54)
      simpa using this
    · rw [Below.heap_alloc _ _ _ (by simp +arith), Below.heap_alloc _ _ _ (by simp +arith), Below.heap_alloc _ _ _ (by simp)]
      have := heap_alloc_new (W.alloc (.cells #[.slice (some ⟨b, off, none⟩) al.length ca, nv, ev] 26)) (.cells #[.int .i64 n.kind, .int .i64 n.parent, .int .i64 ai, lv, mv, .int .i64 n.test.op, .bool n.test.l.v, .int .i64 n.test.l.n, .bool n.test.r.v, .int .i64 n.test.r.n, .int .i64 n.width] 40)
      simpa using this
  have H80 := Lib.hid h80
  clear h80 c0 c1 cc0 cc1 g0 g1 g2 g3
  go_loopw [10] (fun i wr => ∃ (k : Nat) (ov : Value) (l : List Slt), i = .int .i64 k ∧ k ≤ s.cells.length ∧ backK s.cells n.links n.new w k = some l ∧ BkSt W #[.int .i64 n.kind, .int .i64 n.parent, .int .i64 ai, lv, mv, .int .i64 n.test.op, .bool n.test.l.v, .int .i64 n.test.l.n, .bool n.test.r.v, .int .i64 n.test.r.n, .int .i64 n.width] #[.int .i64 s.pred, .slice As s.cells.length cs'] wr s.pred ov l) (fun i _ => s.cells.length - (intOf i).toNat)
  case atStart => exact ⟨0, _, [], rfl, Nat.zero_le _, rfl, H80.out⟩
  case round =>
    obtain ⟨k, ov, l, rfl, hk, hB, hst⟩ := hrel
    clear H80
    have hll := backK_len hB
    obtain ⟨oa, oc, rfl⟩ := hst.ow.form
    have hlt := hst.lt
    have q0 := rboxL hst.sb 0 rfl
    have q1 := rboxL hst.sb 1 rfl
    have x1 := hst.c1
    by_cases hkn : k < s.cells.length
    · obtain ⟨c, hc⟩ : ∃ c, s.cells[k]? = some c := ⟨_, List.getElem?_eq_getElem hkn⟩
      obtain ⟨b2, off2, rfl, -, hb2, cs2, ⟨rfl, cok⟩, hc2⟩ := (HSC.out.keep (Kp.of_below hst.below)).at hc
      have d0 := hc2 0 _ rfl
      simp only [Nat.add_zero, Nat.mul_one] at d0
      have e1 : (0 : Int) ≤ (k : Int) := by omega
      have e2 : (k : Int) < (s.cells.length : Int) := by omega
      have NX := Lib.hid (backK_next hB hc)
      have HB := Lib.hid hB
      have HK := Lib.hid hkn
      have HX := Lib.hid hst
      have HL := Lib.hid hll
      have COK := Lib.hid cok
      have hbase : W.heap.size + 5 ≤ wr.heap.size := by omega
      have hln : l.length ≤ 1048576 := by omega
      clear hc hc2 hB hkn hst hll cok
      by_cases h0 : 0 ≤ c
      · have HN := Lib.hid (show backK s.cells n.links n.new w (k + 1) = some (l ++ [⟨false, c⟩]) by rw [NX.out]; unfold backS; rw [if_pos h0])
        go_wp2
        go_region_law (refine step_append_F HX.out.ow (fun _ _ h => h) (by rfl) (.tmp 48) (.tmp 55) 78 (by rfl) Tryd.underlying78 infoSlt rfl (by decide) (by rfl) #[.bool false, .int .i64 c] _ (by rfl) (by simp) (x := ⟨false, c⟩) ⟨rfl, COK.out⟩ (by omega) (by decide) hbase ?_; intro g cap w2 ho ht hat hlt2; obtain ⟨z1, z2, z3⟩ := HX.out.at2 ht; have N1 := Lib.hid (HX.out.put ht (ho _ (fun _ _ h => h))); clear ho ht hat hlt2)
        all_goals go_wp2
        all_goals exact ⟨⟨k + 1, _, _, by go_num, HK.out, HN.out, N1.out⟩, by simp [intOf]; have := HK.out; omega⟩
      · obtain ⟨j, hj⟩ : ∃ j : Nat, -1 - c = (j : Int) := ⟨(-1 - c).toNat, by omega⟩
        have e5 : IntKind.i64.wrap (-1 - c) = (j : Int) := by rw [hj]; exact IntWalk.i64_in _ (by have := COK.out.lo; omega)
        have e6 : wrap64 (-1 - c) = (j : Int) := by rw [hj]; exact IntWalk.wrap64_in _ (by have := COK.out.lo; omega)
        have h0' : c < 0 := by omega
        by_cases hjk : j < k
        · obtain ⟨t, ht0⟩ : ∃ t, l[j]? = some t := ⟨_, List.getElem?_eq_getElem (by have := HL.out; omega)⟩
          obtain ⟨tv, tn⟩ := t
          have HN := Lib.hid (show backK s.cells n.links n.new w (k + 1) = some (l ++ [⟨tv, tn⟩]) by
            rw [NX.out]
            unfold backS
            rw [if_neg h0, if_pos (by omega), hj, Int.toNat_natCast, ht0])
          obtain ⟨b3, off3, hA3, -, hb3, cs3, ⟨rfl, tok⟩, hc3⟩ := RSl.at (HX.out.ow.rsl (G := fun b => b < wr.heap.size) (fun b hb => (HX.out.ow.block hb).2.1)) ht0
          subst hA3
          have f0 : wr.cell? ⟨b3, off3 + j * 2, none⟩ = some (.bool tv) := hc3 0 _ rfl
          have f1 : wr.cell? ⟨b3, off3 + j * 2 + 1, none⟩ = some (.int .i64 tn) := hc3 1 _ rfl
          have TOK := Lib.hid tok
          have e7 : (j : Int) < (k : Int) := by omega
          have e8 : (0 : Int) ≤ (j : Int) := by omega
          have e9 : (j : Int) < (l.length : Int) := by have := HL.out; omega
          clear hc3 ht0 tok hj hjk
          go_wp2
          go_region_law (refine step_append_F HX.out.ow (fun _ _ h => h) (by rfl) (.tmp 68) (.tmp 74) 78 (by rfl) Tryd.underlying78 infoSlt rfl (by decide) (by rfl) #[.bool tv, .int .i64 tn] _ (by rfl) (by simp) (x := ⟨tv, tn⟩) ⟨rfl, TOK.out⟩ (by omega) (by decide) hbase ?_; intro g cap w2 ho ht hat hlt2; obtain ⟨z1, z2, z3⟩ := HX.out.at2 ht; have N1 := Lib.hid (HX.out.put ht (ho _ (fun _ _ h => h))); clear ho ht hat hlt2)
          all_goals go_wp2
          all_goals exact ⟨⟨k + 1, _, _, by go_num, HK.out, HN.out, N1.out⟩, by simp [intOf]; have := HK.out; omega⟩
        · obtain ⟨hv, hhv⟩ : ∃ hv, heldF n.links n.new w k = hv := ⟨_, rfl⟩
          have CH := Lib.hid (HW.out wr HX.out.below (k : Int))
          have HVO := Lib.hid (HOK.out (k : Int))
          rw [hhv] at CH HVO
          have r0 := rboxL HX.out.nb 0 rfl
          have r1 := rboxL HX.out.nb 1 rfl
          have r2 := rboxL HX.out.nb 2 rfl
          have r3 := rboxL HX.out.nb 3 rfl
          have r4 := rboxL HX.out.nb 4 rfl
          have r5 := rboxL HX.out.nb 5 rfl
          have r6 := rboxL HX.out.nb 6 rfl
          have r7 := rboxL HX.out.nb 7 rfl
          have r8 := rboxL HX.out.nb 8 rfl
          have r9 := rboxL HX.out.nb 9 rfl
          have r10 := rboxL HX.out.nb 10 rfl
          rw [hai] at CH
          have e7 : ¬ (j : Int) < (k : Int) := by omega
          have e7b : (k : Int) ≤ (j : Int) := by omega
          have e7c : ¬ j < k := by omega
          have HJ := Lib.hid hj
          have hJK := Lib.hid hjk
          clear hj hjk
          go_wp2_with fail
          refine CH.out.mono ?_
          rintro e w2 ⟨rfl, hb9⟩
          have HX2 := Lib.hid (HX.out.step hb9)
          have x1 := HX2.out.c1
          have hlt2 := HX2.out.lt
          have hbase2 : W.heap.size + 5 ≤ w2.heap.size := by omega
          clear hb9 CH r0 r1 r2 r3 r4 r5 r6 r7 r8 r9 r10 q0 q1 d0
          by_cases hbad : (k : Int) < (j : Int) ∨ hv < 0
          · have HN := Lib.hid (show backP al n w = none by
              rw [HP.out]
              have h1 : backK s.cells n.links n.new w (k + 1) = none := by
                rw [NX.out]
                unfold backS
                rw [if_neg (show ¬ 0 ≤ c by omega), if_neg (by rw [HJ.out]; omega), if_pos (by rw [HJ.out, hhv]; exact hbad)]
              have h2 := backK_stop h1 (s.cells.length - (k + 1))
              rw [show k + 1 + (s.cells.length - (k + 1)) = s.cells.length by have := HK.out; omega] at h2
              rw [h2]
              rfl)
            have y0 : w2.cell? ⟨W.heap.size + 1 + 1, 0, none⟩ = some (.int .i64 0) := cell_of_row _ _ 0 _ _ _ HX2.out.rb
            have y1 : w2.cell? ⟨W.heap.size + 1 + 1, 1, none⟩ = some (.slice none 0 0) := cell_of_row _ _ 1 _ _ _ HX2.out.rb
            have yf : ∀ o, w2.frozen? ⟨W.heap.size + 1 + 1, o, none⟩ = false := fun o => by have := HX2.out.rb; simp [World.frozen?, this]
            have ef := Lib.hid (heap_setCell_same _ _ 1 _ _ (.slice none 0 0) (heap_setCell_same _ _ 0 _ _ (.int .i64 0) HX2.out.rb))
            have hwr : W.heap.size + 1 + 1 < w2.heap.size := by omega
            clear hhv
            by_cases hkj : (k : Int) < (j : Int)
            · clear hbad
              go_wp2
              refine bodyPost_ret (v := .tuple #[.agg #[.int .i64 0, .slice none 0 0], .bool false]) (results_row_slot rfl _ _ (W.heap.size + 1 + 1) 80 #[.int .i64 0, .slice none 0 0] (0, 0) _ _ rfl rfl ef.out Tryd.underlying80 rfl sizePatR) rfl ?_
              exact ⟨(HX2.out.below.setCell (by simp; omega) _).setCell (by simp; omega) _, .inr ⟨HN.out, rfl⟩⟩
            · have hv0 : hv < 0 := by omega
              clear hbad
              go_wp2
              refine bodyPost_ret (v := .tuple #[.agg #[.int .i64 0, .slice none 0 0], .bool false]) (results_row_slot rfl _ _ (W.heap.size + 1 + 1) 80 #[.int .i64 0, .slice none 0 0] (0, 0) _ _ rfl rfl ef.out Tryd.underlying80 rfl sizePatR) rfl ?_
              exact ⟨(HX2.out.below.setCell (by simp; omega) _).setCell (by simp; omega) _, .inr ⟨HN.out, rfl⟩⟩
          · have HN := Lib.hid (show backK s.cells n.links n.new w (k + 1) = some (l ++ [⟨true, hv⟩]) by
              rw [NX.out]
              unfold backS
              rw [if_neg (show ¬ 0 ≤ c by omega), if_neg (by rw [HJ.out]; omega), if_neg (by rw [HJ.out, hhv]; exact hbad), hhv])
            have hv0 : ¬ hv < 0 := by omega
            have hkj : ¬ (k : Int) < (j : Int) := by omega
            clear hhv hbad
            go_wp2_with (at_builtin; refine wpList_append_F HX2.out.ow (fun _ _ h => h) rfl (.tmp 90) (.tmp 93) 78 rfl Tryd.underlying78 infoSlt rfl (by decide) rfl #[.bool true, .int .i64 hv] _ rfl rfl (x := ⟨true, hv⟩) ⟨rfl, HVO.out⟩ (by omega) (by decide) hbase2 ?_; intro g cap w4 ho ht hat hlt4; obtain ⟨z1, z2, z3⟩ := HX2.out.at2 ht; have N1 := Lib.hid (HX2.out.put ht (ho _ (fun _ _ h => h))); clear ho ht hat hlt4)
            exact ⟨⟨k + 1, _, _, by go_num, HK.out, HN.out, N1.out⟩, by simp [intOf]; have := HK.out; omega⟩
    · obtain rfl : k = s.cells.length := by omega
      have HN := Lib.hid (show backP al n w = some ⟨s.pred, l⟩ by rw [HP.out, hB]; rfl)
      have HX := Lib.hid hst
      have x0 : wr.cell? ⟨W.heap.size + 1 + 1 + 1 + 1, 0, none⟩ = some (.int .i64 s.pred) := cell_of_row _ _ 0 _ _ _ hst.blk
      have y0 : wr.cell? ⟨W.heap.size + 1 + 1, 0, none⟩ = some (.int .i64 0) := cell_of_row _ _ 0 _ _ _ hst.rb
      have y1 : wr.cell? ⟨W.heap.size + 1 + 1, 1, none⟩ = some (.slice none 0 0) := cell_of_row _ _ 1 _ _ _ hst.rb
      have yf : ∀ o, wr.frozen? ⟨W.heap.size + 1 + 1, o, none⟩ = false := fun o => by have := hst.rb; simp [World.frozen?, this]
      have ef := Lib.hid (heap_setCell_same _ _ 1 _ _ (.slice oa l.length oc) (heap_setCell_same _ _ 0 _ _ (.int .i64 s.pred) hst.rb))
      have hwr : W.heap.size + 1 + 1 < wr.heap.size := by omega
      clear hB hst hkn hll
      go_wp2
      refine bodyPost_ret (v := .tuple #[.agg #[.int .i64 s.pred, .slice oa l.length oc], .bool true]) (results_row_slot rfl _ _ (W.heap.size + 1 + 1) 80 #[.int .i64 s.pred, .slice oa l.length oc] (0, 0) _ _ rfl rfl ef.out Tryd.underlying80 rfl sizePatR) rfl ?_
      refine ⟨(HX.out.below.setCell (by simp; omega) _).setCell (by simp; omega) _, .inl ⟨_, _, HN.out, rfl, SOK.out, ?_⟩⟩
      have K : Kp (fun b => W.heap.size + 5 ≤ b) wr ((wr.setCell ⟨W.heap.size + 1 + 1, 0, none⟩ (.int .i64 s.pred)).setCell ⟨W.heap.size + 1 + 1, 1, none⟩ (.slice oa l.length oc)) :=
        ⟨by simp, fun b _ hb => by rw [Below.heap_setCell _ _ _ _ (by simp; omega), Below.heap_setCell _ _ _ _ (by simp; omega)]⟩
      exact (HX.out.ow.rsl (G := fun b => W.heap.size + 5 ≤ b) (fun b hb => (HX.out.ow.block hb).1)).kp K (fun b _ hb => by omega) (fun _ _ h => h)
end Go.Proofs.YtonkbjdeaneicaaDoor

namespace Go.Proofs.YtonkbjdeaneicaaDoor.Pln
open Classical
theorem backP_len {al : List Shp} {n : Nd} {w : Int} {p : Pat} (h : backP al n w = some p) : ∃ s ∈ al, p.args.length = s.cells.length := by
  unfold backP at h
  split at h
  · cases hs : al[n.alpha.toNat]? with
    | none => rw [hs] at h; cases h
    | some s =>
      rw [hs] at h
      simp only [Option.map_eq_some_iff] at h
      obtain ⟨a, h1, rfl⟩ := h
      exact ⟨s, List.mem_of_getElem? hs, backK_len h1⟩
  · cases h
theorem wayO_lt {ns : List Nd} : ∀ (f : Nat) (e : Int) (l : List Nat), wayO ns f e = some l → ∀ v ∈ l, v < ns.length
  | f, e, l, h => by
    unfold wayO at h
    split at h
    · simp only [Option.some.injEq] at h
      subst h
      simp
    · match f with
      | 0 => cases h
      | f + 1 =>
        simp only at h
        split at h
        · cases h
        · cases hn : ns[e.toNat]? with
          | none => rw [hn] at h; cases h
          | some n =>
            rw [hn] at h
            simp only at h
            split at h
            · cases h
            · simp only [Option.map_eq_some_iff] at h
              obtain ⟨l', h1, rfl⟩ := h
              intro v hv
              rcases List.mem_append.1 hv with hv | hv
              · exact wayO_lt f _ l' h1 v hv
              · rw [List.mem_singleton.1 hv]
                exact (List.getElem?_eq_some_iff.1 hn).1
theorem wayR_lt {ns : List Nd} {e : Int} {l : List Nat} (h : wayR ns e = some l) : ∀ v ∈ l, v < ns.length := wayO_lt _ _ l h
structure RBok (b : RB) (k : Nat) : Prop where
  len : b.pos.length + b.tests.length + b.neg.length = k
  w : 0 ≤ b.w ∧ b.w ≤ (k : Int) * 1048576
  ps : ∀ p ∈ b.pos, p.args.length ≤ 1048576
  ng : ∀ p ∈ b.neg, p.args.length ≤ 1048576
theorem rbok0 : RBok rb0 0 := ⟨rfl, ⟨Int.le_refl _, Int.le_refl _⟩, by simp [rb0], by simp [rb0]⟩
theorem RBok.test {b : RB} {k : Nat} (h : RBok b k) (t : Tst) : RBok ⟨b.w, b.pos, b.tests ++ [t], b.neg⟩ (k + 1) :=
  ⟨by have := h.len; simp; omega, by have := h.w; simp only; omega, h.ps, h.ng⟩
theorem RBok.join {b : RB} {k : Nat} (h : RBok b k) {p : Pat} (hp : p.args.length ≤ 1048576) {m : Nat} (hm : m ≤ 1048576) : RBok ⟨b.w + (m : Int), b.pos ++ [p], b.tests, b.neg⟩ (k + 1) :=
  ⟨by have := h.len; simp; omega, by have := h.w; simp only; omega, fun q hq => by
    rcases List.mem_append.1 hq with hq | hq
    · exact h.ps q hq
    · rw [List.mem_singleton.1 hq]; exact hp, h.ng⟩
theorem RBok.nega {b : RB} {k : Nat} (h : RBok b k) {p : Pat} (hp : p.args.length ≤ 1048576) : RBok ⟨b.w, b.pos, b.tests, b.neg ++ [p]⟩ (k + 1) :=
  ⟨by have := h.len; simp; omega, by have := h.w; simp only; omega, h.ps, fun q hq => by
    rcases List.mem_append.1 hq with hq | hq
    · exact h.ng q hq
    · rw [List.mem_singleton.1 hq]; exact hp⟩
theorem rbS_none (al : List Shp) (ns : List Nd) (l : List Nat) : l.foldl (rbS al ns) none = none := by
  induction l with
  | nil => rfl
  | cons n r ih => exact ih
section
variable {al : List Shp} {ns : List Nd} {b : RB} {v : Nat} {n : Nd}
theorem rbS_test (hn : ns[v]? = some n) (hk : n.kind = 2) : rbS al ns (some b) v = some ⟨b.w, b.pos, b.tests ++ [n.test], b.neg⟩ := by
  unfold rbS; rw [hn]; simp only; rw [if_pos hk]
theorem rbS_bad (hn : ns[v]? = some n) (hk : n.kind ≠ 2) (hb : backP al n b.w = none) : rbS al ns (some b) v = none := by
  unfold rbS; rw [hn]; simp only; rw [if_neg hk, hb]
theorem rbS_join {p : Pat} (hn : ns[v]? = some n) (hk : n.kind = 1) (hb : backP al n b.w = some p) : rbS al ns (some b) v = some ⟨b.w + (n.new.length : Int), b.pos ++ [p], b.tests, b.neg⟩ := by
  unfold rbS; rw [hn]; simp only; rw [if_neg (by omega), hb]; simp only; rw [if_pos hk]
theorem rbS_neg {p : Pat} (hn : ns[v]? = some n) (hk : n.kind ≠ 2) (hk1 : n.kind ≠ 1) (hb : backP al n b.w = some p) : rbS al ns (some b) v = some ⟨b.w, b.pos, b.tests, b.neg ++ [p]⟩ := by
  unfold rbS; rw [hn]; simp only; rw [if_neg hk, hb]; simp only; rw [if_neg hk1]
theorem rule_none {l : List Nat} {k : Nat} {e : Int} (hw : wayR ns e = some l) (h : (l.take k).foldl (rbS al ns) (some rb0) = none) : ruleB al ns e = none := by
  unfold ruleB
  rw [hw]
  simp only
  rw [fold_all (rbS al ns) (some rb0) l k, h, rbS_none]
  rfl
theorem rule_some {l : List Nat} {e : Int} (hw : wayR ns e = some l) (h : l.foldl (rbS al ns) (some rb0) = some b) : ruleB al ns e = some (rlOf b) := by
  unfold ruleB
  rw [hw]
  simp only
  rw [h]
  rfl
end
end Go.Proofs.YtonkbjdeaneicaaDoor.Pln
