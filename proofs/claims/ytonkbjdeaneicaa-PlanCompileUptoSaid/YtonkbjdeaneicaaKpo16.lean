/- The reference's Shape. shapesRight. placesRight. -/
import Derived.Test.YtonkbjdeaneicaaKpo09
import Derived.Test.YtonkbjdeaneicaaKpo15
import Derived.Deep.Cut
namespace Go.Proofs.Ytonkbjdeaneicaa
open Go.RowKit Pln Classical Go.Maps

section
variable {α : Type} {F F' : Nat → Prop} {B : Nat} {w w' : World} {e : TypeId} {C : Cdc α} {v : Value} {xs : List α}
/-- One more, as a step behind a call in a region that draws its order. -/
theorem step_append_F0 {P : Program} {ops : Array Oper} {o : Oper} {a : Act} {K : Act → World → Prop} {Q : Exit → Act → World → Prop} {E : Prop} (h : OwnF F B w e C v xs) (hF : ∀ b, v.ownBlock = some b → ¬ F b) (hgd : o.guard = none) (s q : Operand) (t : TypeId)
    (ho : o.op = .call { callee := .builtin .append, args := #[s, q], argTypes := #[t, t] }) {z : Value} {bytes c H : Nat} (ht : P.underlying t = some (.slice e)) (hi : (P.info? e).map (fun i => (i.zero, i.size, i.bytes)) = some (some z, C.sz, bytes))
    (hzs : z.cells.size = C.sz) (hsz : 0 < C.sz) (hs : a.eval s = v) (ncs : Array Value) (T : TypeId) (hq : a.eval q = .slice (some ⟨H, 0, none⟩) 1 c) (hH : w.heap.size = H)
    {x : α} (hel : C.E F w ncs.toList x) (hn : xs.length ≤ 40000000) (hb : bytes ≤ 1000) (hB : B ≤ w.heap.size)
    (k : ∀ g cap w', (∀ F' : Nat → Prop, (∀ b, b < w.heap.size → F b → F' b) → OwnF F' B w' e C (.slice (some ⟨g, 0, none⟩) (xs.length + 1) cap) (xs ++ [x])) → Turns v.ownBlock.toList w w' → (v.ownBlock = some g ∨ w.heap.size ≤ g) → g < w'.heap.size →
      K (a.put o.dst (.slice (some ⟨g, 0, none⟩) (xs.length + 1) cap)) w') : if Region.wanted o (yielded ops a.tmps) = true then Oper.wp P o a (w.alloc (.cells ncs T)) K Q else E := by
  subst hH
  obtain ⟨i0, hi0, hz0, hz1, hz2⟩ := info_parts hi
  have hbl : Below w.heap.size w (w.alloc (.cells ncs T)) := (Below.refl w.heap.size w).alloc (Nat.le_refl _) (.cells ncs T)
  obtain ⟨cells, h0, h2⟩ := h
  have h1 := ownsRow_turns h0 (Turns.of_below (S := []) hbl) (fun _ _ => by simp)
  have hln := C.len _ _ _ _ hel
  have hone := C.one _ _ _ _ hel
  refine step_append1s (w.alloc (.cells ncs T)) hgd s q t ho B e i0 z C.sz bytes ht hi0 hz0 hz1 hz2 hzs hsz v xs.length cells hs h1 ⟨w.heap.size, 0, none⟩ c ncs.toList hq (by rw [hln, Nat.one_mul]) ?_ hone hn hb (by simp; omega) _ rfl ?_
  · exact World.news_of_block (heap_alloc_new w (.cells ncs T))
  · intro g cap w' hown hgrow hat hlt
    have T1 : Turns v.ownBlock.toList w w' := (((Turns.refl [] w).alloc (.cells ncs T)).mono (by simp)).trans (Turns.of_grown hgrow) (fun x hx => .inl hx)
    have hat2 : v.ownBlock = some g ∨ w.heap.size ≤ g := by
      rcases hat with h | h
      · exact .inl h
      · exact .inr (by have := h.1; simp at this; omega)
    exact k g cap w' (fun F' hFF => OwnF.grow h2 hel (Kp.of_turns T1 (fun b hb => hF b (by simpa using hb))) hFF h0.1 hown) T1 hat2 hlt
end
/-- The state of Shape behind k places. -/
structure RSt (p : Pat) (pv : Value) (w wr : World) (cv : Value) (k : Nat) : Prop where
  sb : wr.heap[w.heap.size + 1 + 1]? = some (.cells #[.int .i64 p.pred, cv] 79 (0, 0))
  rb : wr.heap[w.heap.size + 1]? = some (.cells #[.int .i64 0, .slice none 0 0] 79 (0, 0))
  own : OwnF (fun _ => False) (w.heap.size + 3) wr 3 cdInt cv ((p.args.take k).map (cellF p.args))
  below : Below (w.heap.size + 1) (w.alloc (.cells #[.int .i64 p.pred, pv] 34)) wr
section
variable {p : Pat} {pv : Value} {w wr wr' w2 : World} {cv : Value} {k : Nat}
theorem RSt.lt (h : RSt p pv w wr cv k) : w.heap.size + 1 + 1 < wr.heap.size := lt_of_heap h.sb
theorem RSt.step (h : RSt p pv w wr cv k) (hb : Below wr.heap.size wr wr') : RSt p pv w wr' cv k :=
  ⟨(hb.block _ (by have := h.lt; omega)).trans h.sb, (hb.block _ (by have := h.lt; omega)).trans h.rb, h.own.below hb, box_step h.below hb⟩
theorem RSt.put (h : RSt p pv w wr cv k) {v' : Value} {c : Int} (ht : Turns cv.ownBlock.toList wr w2) (ho : OwnF (fun _ => False) (w.heap.size + 3) w2 3 cdInt v' (((p.args.take k).map (cellF p.args)) ++ [c]))
    {s : Slt} (hs : p.args[k]? = some s) (hc : cellF p.args s = c) : RSt p pv w (w2.setCell ⟨w.heap.size + 1 + 1, 1, none⟩ v') v' (k + 1) := by
  have hn : ∀ x, x < w.heap.size + 3 → x ∉ cv.ownBlock.toList := fun x hx hm => by have := (h.own.block (by simpa using hm)).1; omega
  have hlt := h.lt
  have hne : ∀ b, v'.ownBlock = some b → b ≠ w.heap.size + 1 + 1 := fun b hb => by have := (ho.block hb).1; omega
  refine ⟨heap_setCell_same _ _ 1 _ _ _ ((ht.block _ (by omega) (hn _ (by omega))).trans h.sb), ?_, ?_, ?_⟩
  · rw [Below.heap_setCell _ _ _ _ (by simp)]
    exact (ht.block _ (by omega) (hn _ (by omega))).trans h.rb
  · rw [List.take_add_one, hs, List.map_append]
    simp only [Option.toList_some, List.map_cons, List.map_nil, hc]
    exact ho.keep (S := [w.heap.size + 1 + 1]) ((Turns.refl _ _).setCell (.inl (by simp)) _) (fun b hb => by simpa using hne b hb) (by simp) (fun _ _ h => h)
  · have T : Turns ((w.heap.size + 1 + 1) :: cv.ownBlock.toList) wr (w2.setCell ⟨w.heap.size + 1 + 1, 1, none⟩ v') := (ht.mono (fun x hx => List.mem_cons_of_mem _ hx)).setCell (.inl (by simp)) _
    refine h.below.trans (T.below (by omega) (fun x hx => ?_))
    rcases List.mem_cons.1 hx with rfl | hx
    · omega
    · have := (h.own.block (by simpa using hx)).1
      omega
theorem RSt.c1 (h : RSt p pv w wr cv k) : wr.cell? ⟨w.heap.size + 1 + 1, 1, none⟩ = some cv := cell_of_row _ _ 1 _ _ _ h.sb
theorem RSt.at2 (h : RSt p pv w wr cv k) (ht : Turns cv.ownBlock.toList wr w2) : w2.cell? ⟨w.heap.size + 1 + 1, 1, none⟩ = some cv ∧ w2.frozen? ⟨w.heap.size + 1 + 1, 1, none⟩ = false ∧ w.heap.size + 1 + 1 < w2.heap.size := by
  have hlt := h.lt
  have e : w2.heap[w.heap.size + 1 + 1]? = some (.cells #[.int .i64 p.pred, cv] 79 (0, 0)) := (ht.block _ (by omega) (fun hm => by have := (h.own.block (by simpa using hm)).1; omega)).trans h.sb
  exact ⟨cell_of_row _ _ 1 _ _ _ e, by simp [World.frozen?, e], lt_of_heap e⟩
end

set_option maxRecDepth 100000 in
set_option maxHeartbeats 4000000 in
theorem rshapeW {F : Nat → Prop} (p : Pat) (v : Value) (w : World) (h : RSl F w 2 ESlt v p.args) (hS : p.args.length ≤ 1048576) :
    Calls Try.prog 66 #[.agg #[.int .i64 p.pred, v]] w fun e w' => ∃ cv, e = .returned (.agg #[.int .i64 p.pred, cv]) ∧ RSl (fun b => w.heap.size ≤ b) w' 1 EInt cv (p.args.map (cellF p.args)) ∧ Below w.heap.size w w' := by
  obtain ⟨A, c, rfl⟩ := h.form
  have H := Lib.hid h
  clear h
  go_enter Try.func66, Try.ntmps66
  go_wp2
  have h0 : RSt p (.slice A p.args.length c) w (((w.alloc (.cells #[.int .i64 p.pred, .slice A p.args.length c] 34)).alloc (.cells #[.int .i64 0, .slice none 0 0] 79)).alloc (.cells #[.int .i64 p.pred, .slice none 0 0] 79)) (.slice none 0 0) 0 := by
    refine ⟨?_, ?_, OwnF.nil, ((Below.refl _ _).alloc (by simp) _).alloc (by simp) _⟩
    · have := heap_alloc_new ((w.alloc (.cells #[.int .i64 p.pred, .slice A p.args.length c] 34)).alloc (.cells #[.int .i64 0, .slice none 0 0] 79)) (.cells #[.int .i64 p.pred, .slice none 0 0] 79)
      simpa using this
    · rw [Below.heap_alloc _ _ _ (by simp)]
      have := heap_alloc_new (w.alloc (.cells #[.int .i64 p.pred, .slice A p.args.length c] 34)) (.cells #[.int .i64 0, .slice none 0 0] 79)
      simpa using this
  go_loopw [4] (fun i wr => ∃ (k : Nat) (cv : Value), i = .int .i64 k ∧ k ≤ p.args.length ∧ RSt p (.slice A p.args.length c) w wr cv k) (fun i _ => p.args.length - (intOf i).toNat)
  case atStart => exact ⟨0, _, rfl, Nat.zero_le _, h0⟩
  case round =>
    obtain ⟨k, cv, rfl, hk, hst⟩ := hrel
    clear h0
    have htl : ((p.args.take k).map (cellF p.args)).length = k := by rw [List.length_map]; exact List.length_take_of_le hk
    obtain ⟨ca, cc, hcv⟩ := hst.own.form
    rw [htl] at hcv
    subst hcv
    have hlt := hst.lt
    have q1 := box_cellL hst.below 1 rfl
    by_cases hkn : k < p.args.length
    · obtain ⟨s, hs⟩ : ∃ s, p.args[k]? = some s := ⟨_, List.getElem?_eq_getElem hkn⟩
      obtain ⟨b, off, rfl, hFb, hbs, cs, ⟨rfl, sok⟩, hc⟩ := (H.out.keep (Kp.of_below (box_below hst.below))).at hs
      have c0 := hc 0 _ rfl
      have c1 := hc 1 _ rfl
      simp only [Nat.add_zero] at c0
      have q0 := box_cellL hst.below 0 rfl
      obtain ⟨sv, sn⟩ := s
      simp only at c0 c1 sok
      have hcell : cellF p.args ⟨sv, sn⟩ = if sv = true then -1 - (firstV p.args sn : Int) else sn := rfl
      have e1 : (0 : Int) ≤ (k : Int) := by omega
      have e2 : (k : Int) < (p.args.length : Int) := by omega
      have HS := Lib.hid hs
      have HK := Lib.hid hkn
      have HT := Lib.hid htl
      have HC := Lib.hid hcell
      have HX := Lib.hid hst
      have x1 := hst.c1
      have hsz := hst.below.size
      simp at hsz
      clear hs hkn hc htl hcell hst
      cases sv with
      | false =>
        have HC2 := Lib.hid (show cellF p.args ⟨false, sn⟩ = sn by rw [HC.out, if_neg (by decide)])
        go_wp2
        go_region_law (refine step_append_F HX.out.own (fun _ _ h => h) (by rfl) (.tmp 36) (.tmp 43) 25 (by rfl) Try.underlying25 infoIntR rfl (by decide) (by rfl) #[.int .i64 sn] _ (by rfl) (by simp) (x := sn) ⟨rfl, sok⟩ (by rw [HT.out]; omega) (by decide) (by omega) ?_; intro g cap w2 ho ht hat hlt2; rw [HT.out] at ho ⊢; obtain ⟨z1, z2, z3⟩ := HX.out.at2 ht; have N1 := Lib.hid (HX.out.put ht (ho _ (fun _ _ h => h)) HS.out HC2.out); clear ho ht hat hlt2)
        all_goals go_wp2
        all_goals exact ⟨⟨k + 1, _, by go_num, HK.out, N1.out⟩, by simp [intOf]; have := HK.out; omega⟩
      | true =>
        have hle := firstV_le HS.out rfl
        simp only at hle
        obtain ⟨j, hj⟩ : ∃ j, firstV p.args sn = j := ⟨_, rfl⟩
        have FW := Lib.hid (fun (Wx : World) (hb : Below w.heap.size w Wx) => rfirstW p (.slice (some ⟨b, off, none⟩) p.args.length c) sn Wx (H.out.keep (Kp.of_below hb)) (by have := HK.out; omega))
        have HC2 := Lib.hid (show cellF p.args ⟨true, sn⟩ = -1 - (j : Int) by rw [HC.out, if_pos rfl, hj])
        rw [hj] at hle FW
        have hc1 : i64ok (-1 - (j : Int)) := WalkArith.wf_i64 (by omega)
        have HC1 := Lib.hid hc1
        have e5 : IntKind.i64.wrap (-1 - (j : Int)) = -1 - (j : Int) := IntWalk.i64_in _ (by omega)
        clear hj hc1
        go_wp2
        go_region_law (first | (refine step_append_F0 HX2.out.own (fun _ _ h => h) (by rfl) (.tmp 22) (.tmp 32) 25 (by rfl) Try.underlying25 infoIntR rfl (by decide) (by rfl) #[.int .i64 (-1 - (j : Int))] _ (by rfl) (by simp) (x := (-1 - (j : Int))) ⟨rfl, HC1.out⟩ (by rw [HT.out]; omega) (by decide) (by have := HX2.out.lt; omega) ?_; intro g cap w2 ho ht hat hlt2; rw [HT.out] at ho ⊢; obtain ⟨z1, z2, z3⟩ := HX2.out.at2 ht; have N1 := Lib.hid (HX2.out.put ht (ho _ (fun _ _ h => h)) HS.out HC2.out); clear ho ht hat hlt2) | (go_simp; go_at_call 48; refine (FW.out _ (box_below (HX.out.step (Below.refl _ _).drew).below)).mono ?_; rintro e w7 ⟨rfl, hb7⟩; have HX2 := Lib.hid ((HX.out.step (Below.refl _ _).drew).step hb7); have x1 := HX2.out.c1; have x1a := fun (o : Obj) => (HX2.out.step ((Below.refl _ _).alloc (Nat.le_refl _) o)).c1; clear hb7))
        all_goals go_wp2
        all_goals exact ⟨⟨k + 1, _, by go_num, HK.out, N1.out⟩, by simp [intOf]; have := HK.out; omega⟩
    · obtain rfl : k = p.args.length := by omega
      have x0 : wr.cell? ⟨w.heap.size + 1 + 1, 0, none⟩ = some (.int .i64 p.pred) := cell_of_row _ _ 0 _ _ _ hst.sb
      have x1 := hst.c1
      have y0 : wr.cell? ⟨w.heap.size + 1, 0, none⟩ = some (.int .i64 0) := cell_of_row _ _ 0 _ _ _ hst.rb
      have y1 : wr.cell? ⟨w.heap.size + 1, 1, none⟩ = some (.slice none 0 0) := cell_of_row _ _ 1 _ _ _ hst.rb
      have yf : ∀ o, wr.frozen? ⟨w.heap.size + 1, o, none⟩ = false := fun o => by have := hst.rb; simp [World.frozen?, this]
      have HX := Lib.hid hst
      have hown := hst.own
      rw [List.take_length] at hown
      have HO := Lib.hid hown
      have ef : ((wr.setCell ⟨w.heap.size + 1, 0, none⟩ (.int .i64 p.pred)).setCell ⟨w.heap.size + 1, 1, none⟩ (.slice ca p.args.length cc)).heap[w.heap.size + 1]? = some (.cells #[.int .i64 p.pred, .slice ca p.args.length cc] 79 (0, 0)) :=
        heap_setCell_same _ _ 1 _ _ _ (heap_setCell_same _ _ 0 _ _ _ hst.rb)
      have f0 := cell_of_row _ _ 0 _ _ _ ef
      have f1 := cell_of_row _ _ 1 _ _ _ ef
      simp only [List.getElem?_toArray, List.getElem?_cons_zero, List.getElem?_cons_succ] at f0 f1
      clear hst hown htl hkn ef
      go_wp2
      refine bodyPost_ret (v := .agg #[.int .i64 p.pred, .slice ca p.args.length cc]) (by simp [results, Try.results66, go_sem, f0, f1]) rfl ?_
      refine ⟨_, rfl, ?_, ?_⟩
      · have K : Kp (fun b => w.heap.size + 3 ≤ b) wr ((wr.setCell ⟨w.heap.size + 1, 0, none⟩ (.int .i64 p.pred)).setCell ⟨w.heap.size + 1, 1, none⟩ (.slice ca p.args.length cc)) :=
          ⟨by simp, fun b _ hb => by rw [Below.heap_setCell _ _ _ _ (by simp; omega), Below.heap_setCell _ _ _ _ (by simp; omega)]⟩
        exact (HO.out.rsl (G := fun b => w.heap.size + 3 ≤ b) (fun b hb => (HO.out.block hb).1)).kp K (fun b _ hb => by omega) (fun _ _ h => h)
      · exact ((box_below HX.out.below).setCell (by simp) _).setCell (by simp) _
end Go.Proofs.Ytonkbjdeaneicaa

namespace Go.Proofs.Ytonkbjdeaneicaa
open Go.RowKit Pln Classical Go.Maps

theorem rboxL {w : World} {b : Nat} {cs : Array Value} {T : TypeId} (hb : w.heap[b]? = some (.cells cs T (0, 0))) (j : Nat) {u : Value} (hu : cs.toList[j]? = some u) : w.cell? ⟨b, j, none⟩ = some u :=
  (cell_of_row _ _ j _ _ _ hb).trans (by rw [← Array.getElem?_toList]; exact hu)
theorem run_cutS (A : Option Addr) (l c n : Nat) (h : n ≤ l) (hc : l ≤ c) (W : World) : (Instr.slice 23 (.slice A l c) none (some (.int .i64 (n : Int))) none).run Try.prog W = .ok (.slice A n c) W := by
  rw [run_slice_h (t := 23) (ht := by kernel_rfl) (h0 := by omega) (h2 := by omega)]
  have hs : (sizeOf (Try.prog.elem 23)).run Try.prog W = .ok 2 W := by kernel_rfl
  rw [hs]
  have e : (if c = 0 then A else A.map (fun a => a.add (0 * 2))) = A := by
    split
    · rfl
    · cases A <;> simp [Addr.add]
  simp only [Result.andThen, sliced, Int.toNat_natCast, Nat.sub_zero, e]
theorem RSl.cap {α : Type} {F : Nat → Prop} {w : World} {sz : Nat} {E : List Value → α → Prop} {A : Option Addr} {n c : Nat} {xs : List α} (h : RSl F w sz E (.slice A n c) xs) : n = xs.length ∧ n ≤ c := by
  obtain ⟨A', c', h1, h2, _⟩ := h
  simp only [Value.slice.injEq] at h1
  obtain ⟨rfl, rfl, rfl⟩ := h1
  exact ⟨rfl, h2⟩
/-- Element i, its cells to be read in a later world. -/
theorem RSl.rd {α : Type} {F : Nat → Prop} {W : World} {sz : Nat} {E : List Value → α → Prop} {A : Option Addr} {n c : Nat} {xs : List α} (h : RSl F W sz E (.slice A n c) xs) {i : Nat} {x : α} (hx : xs[i]? = some x) :
    ∃ b off cs, A = some ⟨b, off, none⟩ ∧ E cs x ∧ ∀ (w : World), Below W.heap.size W w → ∀ j u, cs[j]? = some u → w.cell? ⟨b, off + i * sz + j, none⟩ = some u := by
  obtain ⟨b, off, h1, _, h2, cs, h3, h4⟩ := RSl.at h hx
  exact ⟨b, off, cs, h1, h3, fun w hw j u hu => (hw.cell (p := ⟨b, off + i * sz + j, none⟩) h2).trans (h4 j u hu)⟩

set_option maxRecDepth 200000 in
set_option maxHeartbeats 8000000 in
theorem shapesW {F : Nat → Prop} (W : World) (av nv ev : Value) (al : List Shp) (ns : List Nd) (hA : RSl F W 2 (EShp F W) av al) (hN : RSl F W 11 (ENode F W) nv ns) :
    Calls Try.prog 41 #[.agg #[av, nv, ev]] W fun e W' => e = .returned (.bool (decide (shapesP al ns))) ∧ Below W.heap.size W W' := by
  obtain ⟨Aa, ca, rfl⟩ := hA.form
  obtain ⟨An, cn, rfl⟩ := hN.form
  have hm := hA.len
  have hm2 := hN.len
  unfold maxLen at hm hm2
  have hcap := hA.cap.2
  have H := Lib.hid hA
  have HN := Lib.hid hN
  clear hA hN
  obtain ⟨R, hR⟩ : ∃ R, decide (shapesP al ns) = R := ⟨_, rfl⟩
  rw [hR]
  have HR := Lib.hid hR
  clear hR
  go_enter Try.func41, Try.ntmps41
  go_wp2
  go_loopw [13] (fun iv wr => ∃ i : Nat, iv = .int .i64 i ∧ i ≤ al.length ∧ (∀ k, k < i → shapeAt al k) ∧ Below (W.heap.size + 1) (W.alloc (.cells #[.slice Aa al.length ca, .slice An ns.length cn, ev] 27)) wr) (fun i _ => al.length - (intOf i).toNat)
  case atStart => exact ⟨0, rfl, Nat.zero_le _, fun k hk => by omega, Below.refl _ _⟩
  case round =>
    obtain ⟨i, rfl, hi, hV, hb⟩ := hrel
    by_cases hin : i < al.length
    · obtain ⟨s, hs⟩ : ∃ s, al[i]? = some s := ⟨_, List.getElem?_eq_getElem hin⟩
      obtain ⟨b, o, cs, rfl, ⟨sv, rfl, sok, hsv⟩, hc⟩ := H.out.rd hs
      obtain ⟨As, cc, rfl⟩ := hsv.form
      have c0 := hc wr (box_below hb) 0 _ rfl
      have c1 := hc wr (box_below hb) 1 _ rfl
      simp only [Nat.add_zero] at c0
      have hsl := hsv.len
      unfold maxLen at hsl
      have e1 : (0 : Int) ≤ (i : Int) := by omega
      have e2 : (i : Int) < (al.length : Int) := by omega
      obtain ⟨wa, hwa⟩ : ∃ wa, wa = wr.alloc (.cells #[.int .i64 s.pred, .slice As s.cells.length cc] 79) := ⟨_, rfl⟩
      have hrow : wa.heap[wr.heap.size]? = some (.cells #[.int .i64 s.pred, .slice As s.cells.length cc] 79 (0, 0)) := by rw [hwa]; exact heap_alloc_new wr _
      have hba := box_step hb (show Below wr.heap.size wr wa by rw [hwa]; exact (Below.refl _ _).alloc (Nat.le_refl _) _)
      have HSV := Lib.hid (fun (w' : World) (hw' : Below W.heap.size W w') => hsv.keep (Kp.of_below hw'))
      have z0 := rboxL hrow 0 rfl
      have z1 := rboxL hrow 1 rfl
      have VW := Lib.hid (validW s _ wa (HSV.out wa (box_below hba)))
      have HI := Lib.hid hin
      have HROW := Lib.hid hrow
      have HBA := Lib.hid hba
      have HS := Lib.hid hs
      have HV := Lib.hid hV
      clear hc hs hin hrow hb hba hsv hV
      go_upto_region 4 with fail
      rw [← hwa]
      clear hwa c0 c1
      go_wp2_with fail
      refine VW.out.mono ?_
      rintro e w2 ⟨rfl, hb2⟩
      have hB2 := box_step HBA.out hb2
      have hrow2 := (hb2.block _ (lt_of_heap HROW.out)).trans HROW.out
      have z0 := rboxL hrow2 0 rfl
      have z1 := rboxL hrow2 1 rfl
      have y0 := box_cellL hB2 0 rfl
      have HB2 := Lib.hid hB2
      have HROW2 := Lib.hid hrow2
      clear hb2 VW hB2 hrow2
      by_cases hv : validS s
      · have hvd : decide (validS s) = true := decide_eq_true hv
        rw [hvd]
        have HVS := Lib.hid hv
        clear hvd hv
        by_cases h8 : s.cells.length ≤ 8
        · have e3 : ¬ (8 : Int) < (s.cells.length : Int) := by omega
          have hcut := run_cutS (some ⟨b, o, none⟩) al.length ca i (by omega) hcap
          have H8 := Lib.hid h8
          clear h8
          go_wp2_with fail
          obtain ⟨wo, rfl⟩ : ∃ wo : World, wo = wr := ⟨_, rfl⟩
          clear y0 z0 z1 hcut
          go_loopw [32] (fun kv wr => ∃ k : Nat, kv = .int .i64 k ∧ k ≤ i ∧ (∀ q, q < k → al[q]? ≠ some s) ∧ Below w2.heap.size w2 wr) (fun k _ => i - (intOf k).toNat)
          case atStart => exact ⟨0, rfl, Nat.zero_le _, fun q hq => by omega, Below.refl _ _⟩
          case round =>
            obtain ⟨k, rfl, hk, hD, hq⟩ := hrel
            by_cases hki : k < i
            · obtain ⟨t, ht⟩ : ∃ t, al[k]? = some t := ⟨_, List.getElem?_eq_getElem (by have := HI.out; omega)⟩
              obtain ⟨b', o', cs, hA', ⟨tv, rfl, tok, htv⟩, hc⟩ := H.out.rd ht
              simp only [Option.some.injEq, Addr.mk.injEq, and_true] at hA'
              obtain ⟨rfl, rfl⟩ := hA'
              obtain ⟨At, ct, rfl⟩ := htv.form
              have hbq := box_step HB2.out hq
              have c0 := hc wr (box_below hbq) 0 _ rfl
              have c1 := hc wr (box_below hbq) 1 _ rfl
              simp only [Nat.add_zero] at c0
              have e4 : (0 : Int) ≤ (k : Int) := by omega
              have e5 : (k : Int) < (i : Int) := by omega
              obtain ⟨wb, hwb⟩ : ∃ wb, wb = wr.alloc (.cells #[.int .i64 t.pred, .slice At t.cells.length ct] 79) := ⟨_, rfl⟩
              have hqb : Below w2.heap.size w2 wb := by rw [hwb]; exact hq.alloc hq.size _
              have hrow : wb.heap[wr.heap.size]? = some (.cells #[.int .i64 t.pred, .slice At t.cells.length ct] 79 (0, 0)) := by rw [hwb]; exact heap_alloc_new wr _
              have hrow2 := (hqb.block _ (lt_of_heap HROW2.out)).trans HROW2.out
              have x0 := rboxL hrow 0 rfl
              have x1 := rboxL hrow 1 rfl
              have z0 := rboxL hrow2 0 rfl
              have z1 := rboxL hrow2 1 rfl
              have EQ := Lib.hid (equalW _ _ _ _ wb (htv.keep (Kp.of_below (box_below (box_step HB2.out hqb)))) (HSV.out wb (box_below (box_step HB2.out hqb))))
              have HQB := Lib.hid hqb
              have HK := Lib.hid hki
              have HT := Lib.hid ht
              have HD := Lib.hid hD
              clear hc ht hq hbq hqb hrow hrow2 hki htv hD
              go_upto_region 9 with fail
              rw [← hwb]
              clear hwb c0 c1
              by_cases hp : t.pred = s.pred
              · rw [hp] at x0
                go_wp2_with fail
                refine EQ.out.mono ?_
                rintro e w3 ⟨rfl, hb3⟩
                have HB3 := Lib.hid (HQB.out.trans (hb3.mono HQB.out.size))
                clear hb3 EQ
                by_cases hcs : t.cells = s.cells
                · have hts : t = s := by cases t; cases s; simp only at hp hcs; rw [hp, hcs]
                  have HF := Lib.hid (show R = false by
                    rw [← HR.out]
                    exact decide_eq_false (fun h => (h.1 i HI.out s HS.out).2.2 k HK.out (by rw [HT.out, hts])))
                  rw [eqB_eq hcs]
                  clear hts hcs hp
                  go_wp2
                  go_ret
                  exact ⟨by rw [HF.out]; rfl, box_below (box_step HB2.out HB3.out)⟩
                · rw [eqB_ne hcs]
                  have HD2 := Lib.hid (show ∀ q, q < k + 1 → al[q]? ≠ some s from fun q hq he => by
                    by_cases e : q = k
                    · subst e
                      rw [HT.out] at he
                      exact hcs (by rw [Option.some.inj he])
                    · exact HD.out q (by omega) he)
                  clear hcs hp
                  go_wp2
                  exact ⟨⟨k + 1, by go_num, HK.out, HD2.out, HB3.out⟩, by simp [intOf]; have := HK.out; omega⟩
              · have HD2 := Lib.hid (show ∀ q, q < k + 1 → al[q]? ≠ some s from fun q hq he => by
                  by_cases e : q = k
                  · subst e
                    rw [HT.out] at he
                    exact hp (by rw [Option.some.inj he])
                  · exact HD.out q (by omega) he)
                clear EQ
                go_wp2
                exact ⟨⟨k + 1, by go_num, HK.out, HD2.out, HQB.out⟩, by simp [intOf]; have := HK.out; omega⟩
            · have hke : i = k := by omega
              subst hke
              have HV2 := Lib.hid (show ∀ k, k < i + 1 → shapeAt al k from fun k hk => by
                by_cases e : k = i
                · subst e
                  intro t ht
                  rw [HS.out] at ht
                  injection ht with ht
                  subst ht
                  exact ⟨HVS.out, H8.out, hD⟩
                · exact HV.out k (by omega))
              have HB3 := Lib.hid (box_step HB2.out hq)
              clear hD hq hki
              go_wp2
              exact ⟨⟨i + 1, by go_num, HI.out, HV2.out, HB3.out⟩, by simp [intOf]; have := HI.out; omega⟩
        · have e3 : (8 : Int) < (s.cells.length : Int) := by omega
          have HF := Lib.hid (show R = false by
            rw [← HR.out]
            exact decide_eq_false (fun h => h8 (h.1 i HI.out s HS.out).2.1))
          clear h8
          go_wp2
          go_ret
          exact ⟨by rw [HF.out]; rfl, box_below HB2.out⟩
      · have hvd : decide (validS s) = false := decide_eq_false hv
        rw [hvd]
        have HF := Lib.hid (show R = false by
          rw [← HR.out]
          exact decide_eq_false (fun h => hv (h.1 i HI.out s HS.out).1))
        clear hvd hv
        go_wp2
        go_ret
        exact ⟨by rw [HF.out]; rfl, box_below HB2.out⟩
    · obtain rfl : i = al.length := by omega
      have HV := Lib.hid hV
      have HB := Lib.hid hb
      have y1 := box_cellL hb 1 rfl
      clear hV hb hin
      go_wp2
      clear y1
      go_loopw [7, 53] (fun qv iv wr => ∃ i q : Nat, iv = .int .i64 i ∧ qv = .int .i64 q ∧ i ≤ ns.length ∧ needs al.length (ns.take i) = some q ∧ Below (W.heap.size + 1) (W.alloc (.cells #[.slice Aa al.length ca, .slice An ns.length cn, ev] 27)) wr) (fun _ i _ => ns.length - (intOf i).toNat)
      case atStart => exact ⟨0, 0, rfl, rfl, Nat.zero_le _, rfl, HB.out⟩
      case round =>
        obtain ⟨i, q, rfl, rfl, hi, hq, hb⟩ := hrel
        clear HB
        have hql : q ≤ i := by
          have := needs_le _ _ _ _ hq
          rw [List.length_take] at this
          omega
        have y0 := box_cellL hb 0 rfl
        by_cases hin : i < ns.length
        · obtain ⟨n, hn⟩ : ∃ n, ns[i]? = some n := ⟨_, List.getElem?_eq_getElem hin⟩
          obtain ⟨b, o, cs, rfl, ⟨lv, mv, hE⟩, hc⟩ := HN.out.rd hn
          have hcs := hE.cells
          subst hcs
          obtain ⟨Al, cl, rfl⟩ := hE.links.form
          obtain ⟨Am, cm, rfl⟩ := hE.new.form
          have cc := hc wr (box_below hb)
          have c0 := cc 0 _ rfl
          have c1 := cc 1 _ rfl
          have c2 := cc 2 _ rfl
          have c3 := cc 3 _ rfl
          have c4 := cc 4 _ rfl
          have c5 := cc 5 _ rfl
          have c6 := cc 6 _ rfl
          have c7 := cc 7 _ rfl
          have c8 := cc 8 _ rfl
          have c9 := cc 9 _ rfl
          have c10 := cc 10 _ rfl
          simp only [Nat.add_zero] at c0
          have e1 : (0 : Int) ≤ (i : Int) := by omega
          have e2 : (i : Int) < (ns.length : Int) := by omega
          have hnext := needs_take (m := al.length) hn
          rw [hq] at hnext
          obtain ⟨kd, hkd⟩ : ∃ kd, n.kind = kd := ⟨_, rfl⟩
          obtain ⟨ap, hap⟩ : ∃ ap, n.alpha = ap := ⟨_, rfl⟩
          have hal64 := hE.ok.2.2.1.lo
          rw [hap] at hal64 c2
          rw [hkd] at c0
          obtain ⟨wa, hwa⟩ : ∃ wa, wa = wr.alloc (.cells #[.int .i64 kd, .int .i64 n.parent, .int .i64 ap, .slice Al n.links.length cl, .slice Am n.new.length cm, .int .i64 n.test.op, .bool n.test.l.v, .int .i64 n.test.l.n, .bool n.test.r.v, .int .i64 n.test.r.n, .int .i64 n.width] 54) := ⟨_, rfl⟩
          have hrow : wa.heap[wr.heap.size]? = some (.cells #[.int .i64 kd, .int .i64 n.parent, .int .i64 ap, .slice Al n.links.length cl, .slice Am n.new.length cm, .int .i64 n.test.op, .bool n.test.l.v, .int .i64 n.test.l.n, .bool n.test.r.v, .int .i64 n.test.r.n, .int .i64 n.width] 54 (0, 0)) := by rw [hwa]; exact heap_alloc_new wr _
          have hba := box_step hb (show Below wr.heap.size wr wa by rw [hwa]; exact (Below.refl _ _).alloc (Nat.le_refl _) _)
          have z0 := rboxL hrow 0 rfl
          have z2 := rboxL hrow 2 rfl
          have yy := box_cellL hba 0 rfl
          have HI := Lib.hid hin
          have HBA := Lib.hid hba
          have HX := Lib.hid hnext
          have HSTOP := Lib.hid (show needs al.length (ns.take (i + 1)) = none → R = false from fun h => by
            rw [← HR.out]
            exact decide_eq_false (fun h2 => by have := needs_stop h; rw [h2.2] at this; cases this))
          unfold needF at HX
          simp only [hkd, hap] at HX
          clear hkd hap
          clear cc hc
          go_upto_region 17 with fail
          rw [← hwa]
          clear hwa c0 c1 c2 c3 c4 c5 c6 c7 c8 c9 c10 hE hn hq hrow hb hba y0 hin hnext
          by_cases hk : kd = 1 ∨ kd = 3
          · rw [if_pos hk] at HX
            by_cases h1 : 0 ≤ ap
            · by_cases h2 : ap ≤ (q : Int)
              · by_cases h3 : ap < (al.length : Int)
                · rw [if_pos ⟨h1, h2, h3⟩] at HX
                  have e3 : ¬ ap < 0 := by omega
                  have e4 : ¬ (q : Int) < ap := by omega
                  have e5 : ¬ (al.length : Int) ≤ ap := by omega
                  by_cases h4 : ap = (q : Int)
                  · rw [if_pos h4] at HX
                    subst h4
                    clear e3
                    rcases hk with rfl | rfl
                    · go_wp2
                      exact ⟨⟨i + 1, q + 1, by go_num, by go_num, HI.out, HX.out, HBA.out⟩, by simp [intOf]; have := HI.out; omega⟩
                    · go_wp2
                      exact ⟨⟨i + 1, q + 1, by go_num, by go_num, HI.out, HX.out, HBA.out⟩, by simp [intOf]; have := HI.out; omega⟩
                  · rw [if_neg h4] at HX
                    rcases hk with rfl | rfl
                    · go_wp2
                      exact ⟨⟨i + 1, q, by go_num, rfl, HI.out, HX.out, HBA.out⟩, by simp [intOf]; have := HI.out; omega⟩
                    · go_wp2
                      exact ⟨⟨i + 1, q, by go_num, rfl, HI.out, HX.out, HBA.out⟩, by simp [intOf]; have := HI.out; omega⟩
                · rw [if_neg (fun h => h3 h.2.2)] at HX
                  have e3 : ¬ ap < 0 := by omega
                  have e4 : ¬ (q : Int) < ap := by omega
                  have e5 : (al.length : Int) ≤ ap := by omega
                  have HF := Lib.hid (HSTOP.out HX.out)
                  clear h3
                  rcases hk with rfl | rfl
                  · go_wp2
                    go_ret
                    exact ⟨by rw [HF.out]; rfl, box_below HBA.out⟩
                  · go_wp2
                    go_ret
                    exact ⟨by rw [HF.out]; rfl, box_below HBA.out⟩
              · rw [if_neg (fun h => h2 h.2.1)] at HX
                have e3 : ¬ ap < 0 := by omega
                have e4 : (q : Int) < ap := by omega
                have HF := Lib.hid (HSTOP.out HX.out)
                clear h2
                rcases hk with rfl | rfl
                · go_wp2
                  go_ret
                  exact ⟨by rw [HF.out]; rfl, box_below HBA.out⟩
                · go_wp2
                  go_ret
                  exact ⟨by rw [HF.out]; rfl, box_below HBA.out⟩
            · rw [if_neg (fun h => h1 h.1)] at HX
              have e3 : ap < 0 := by omega
              have HF := Lib.hid (HSTOP.out HX.out)
              clear h1
              rcases hk with rfl | rfl
              · go_wp2
                go_ret
                exact ⟨by rw [HF.out]; rfl, box_below HBA.out⟩
              · go_wp2
                go_ret
                exact ⟨by rw [HF.out]; rfl, box_below HBA.out⟩
          · rw [if_neg hk] at HX
            have k1 : ¬ kd = 1 := fun h => hk (.inl h)
            have k3 : ¬ kd = 3 := fun h => hk (.inr h)
            have k1b : (kd == 1) = false := by simpa using k1
            have k3b : (kd == 3) = false := by simpa using k3
            have k1c : decide (kd = 1) = false := by simpa using k1
            have k3c : decide (kd = 3) = false := by simpa using k3
            have k1d : (kd != 1) = true := by simpa using k1
            have k3d : (kd != 3) = true := by simpa using k3
            clear hk
            go_wp2
            exact ⟨⟨i + 1, q, by go_num, rfl, HI.out, HX.out, HBA.out⟩, by simp [intOf]; have := HI.out; omega⟩
        · obtain rfl : i = ns.length := by omega
          rw [List.take_length] at hq
          have HB := Lib.hid (box_below hb)
          clear hb hin
          by_cases he : q = al.length
          · have HF := Lib.hid (show R = true by
              rw [← HR.out]
              exact decide_eq_true ⟨HV.out, by rw [hq, he]⟩)
            subst he
            clear hq
            go_wp2
            go_ret
            exact ⟨by rw [HF.out]; simp, HB.out⟩
          · have HF := Lib.hid (show R = false by
              rw [← HR.out]
              exact decide_eq_false (fun h => he (by
                have := h.2
                rw [hq] at this
                exact Option.some.inj this)))
            have e3 : ¬ (q : Int) = (al.length : Int) := by omega
            clear hq he
            go_wp2
            go_ret
            exact ⟨by rw [HF.out]; simp [e3], HB.out⟩
end Go.Proofs.Ytonkbjdeaneicaa

namespace Go.Proofs.Ytonkbjdeaneicaa.Pln
open Classical

/-- The one ahead of place k, or -1. -/
def lastF {α : Type} (f : α → Int) (l : List α) : Nat → Int
  | 0 => -1
  | k + 1 => match l[k]? with | some x => f x | none => -1
def linkOk (m : Nat) (w : Int) (l : List (Int × Int)) (k : Nat) : Prop := ∀ x, l[k]? = some x → lastF Prod.fst l k < x.1 ∧ x.1 < (m : Int) ∧ 0 ≤ x.2 ∧ x.2 < w ∧ ∀ q, q < k → ∀ y, l[q]? = some y → y.2 ≠ x.2
def newOk (m : Nat) (l : List Int) (k : Nat) : Prop := ∀ x, l[k]? = some x → lastF id l k < x ∧ x < (m : Int)
/-- Each free place stands once, in the links or among the new ones. -/
def cellOk (cells pl : List Int) (i : Nat) : Prop := ∀ c, cells[i]? = some c → (pl.count (i : Int) : Int) = if c = -1 - (i : Int) then 1 else 0
def placesP (cells : List Int) (n : Nd) (w : Int) : Prop :=
  (n.test = noTst ∧ n.width = w + (n.new.length : Int) ∧ n.width ≤ 16) ∧ (∀ k, k < n.links.length → linkOk cells.length w n.links k) ∧ (∀ k, k < n.new.length → newOk cells.length n.new k) ∧
    ∀ i, i < cells.length → cellOk cells (n.links.map Prod.fst ++ n.new) i
theorem lastF_next {α : Type} {f : α → Int} {l : List α} {k : Nat} {x : α} (h : l[k]? = some x) : lastF f l (k + 1) = f x := by
  simp [lastF, h]
theorem last_link {m : Nat} {w : Int} {l : List (Int × Int)} : ∀ k, k ≤ l.length → (∀ q, q < k → linkOk m w l q) → -1 ≤ lastF Prod.fst l k
  | 0, _, _ => by simp [lastF]
  | k + 1, hk, h => by
    have ih := last_link k (by omega) (fun q hq => h q (by omega))
    have hx : l[k]? = some l[k] := List.getElem?_eq_getElem (by omega)
    rw [lastF_next hx]
    have := (h k (by omega) _ hx).1
    omega
theorem last_new {m : Nat} {l : List Int} : ∀ k, k ≤ l.length → (∀ q, q < k → newOk m l q) → -1 ≤ lastF id l k
  | 0, _, _ => by simp [lastF]
  | k + 1, hk, h => by
    have ih := last_new k (by omega) (fun q hq => h q (by omega))
    have hx : l[k]? = some l[k] := List.getElem?_eq_getElem (by omega)
    rw [lastF_next hx]
    have := (h k (by omega) _ hx).1
    simp only [id]
    omega
theorem last_link_ge {m : Nat} {w : Int} {l : List (Int × Int)} : ∀ k, k ≤ l.length → (∀ q, q < k → linkOk m w l q) → (k : Int) - 1 ≤ lastF Prod.fst l k
  | 0, _, _ => by simp [lastF]
  | k + 1, hk, h => by
    have ih := last_link_ge k (by omega) (fun q hq => h q (by omega))
    have hx : l[k]? = some l[k] := List.getElem?_eq_getElem (by omega)
    rw [lastF_next hx]
    have := (h k (by omega) _ hx).1
    omega
theorem links_len {m : Nat} {w : Int} {l : List (Int × Int)} (h : ∀ q, q < l.length → linkOk m w l q) : l.length ≤ m := by
  rcases Nat.eq_zero_or_pos l.length with h0 | h0
  · omega
  · have h1 := last_link_ge (l.length - 1) (by omega) (fun q hq => h q (by omega))
    have hx : l[l.length - 1]? = some (l[l.length - 1]'(by omega)) := List.getElem?_eq_getElem (by omega)
    obtain ⟨h2, h3, _⟩ := h (l.length - 1) (by omega) _ hx
    omega
theorem last_new_ge {m : Nat} {l : List Int} : ∀ k, k ≤ l.length → (∀ q, q < k → newOk m l q) → (k : Int) - 1 ≤ lastF id l k
  | 0, _, _ => by simp [lastF]
  | k + 1, hk, h => by
    have ih := last_new_ge k (by omega) (fun q hq => h q (by omega))
    have hx : l[k]? = some l[k] := List.getElem?_eq_getElem (by omega)
    rw [lastF_next hx]
    have := (h k (by omega) _ hx).1
    simp only [id]
    omega
theorem new_len {m : Nat} {l : List Int} (h : ∀ q, q < l.length → newOk m l q) : l.length ≤ m := by
  rcases Nat.eq_zero_or_pos l.length with h0 | h0
  · omega
  · have h1 := last_new_ge (l.length - 1) (by omega) (fun q hq => h q (by omega))
    have hx : l[l.length - 1]? = some (l[l.length - 1]'(by omega)) := List.getElem?_eq_getElem (by omega)
    obtain ⟨h2, h3⟩ := h (l.length - 1) (by omega) _ hx
    omega
/-- What the two arrays hold. -/
def tmL (pl : List Int) : List Value := (List.range 8).map fun (p : Nat) => .int .i64 (pl.count (p : Int) : Int)
noncomputable def hdL (vs : List Int) : List Value := (List.range 16).map fun (v : Nat) => .bool (decide ((v : Int) ∈ vs))
theorem tmL_at (pl : List Int) {p : Nat} (hp : p < 8) : (tmL pl)[p]? = some (.int .i64 (pl.count (p : Int) : Int)) := by
  unfold tmL; rw [List.getElem?_map, List.getElem?_range hp]; rfl
theorem hdL_at (vs : List Int) {v : Nat} (hv : v < 16) : (hdL vs)[v]? = some (.bool (decide ((v : Int) ∈ vs))) := by
  unfold hdL; rw [List.getElem?_map, List.getElem?_range hv]; rfl
theorem tmL_len (pl : List Int) : (tmL pl).length = 8 := by simp [tmL]
theorem hdL_len (vs : List Int) : (hdL vs).length = 16 := by simp [hdL]
theorem tmL_put (pl : List Int) {p : Nat} (hp : p < 8) : tmL (pl ++ [(p : Int)]) = (tmL pl).set p (.int .i64 ((pl.count (p : Int) : Int) + 1)) := by
  apply List.ext_getElem?
  intro i
  by_cases hi : i < 8
  · rw [tmL_at _ hi]
    by_cases e : p = i
    · subst e
      rw [List.getElem?_set_self (by rw [tmL_len]; exact hp), List.count_append]
      simp
    · rw [List.getElem?_set_ne e, tmL_at _ hi, List.count_append]
      have : ¬ (p : Int) = (i : Int) := by omega
      simp [List.count_singleton, this]
  · rw [List.getElem?_eq_none (by rw [tmL_len]; omega), List.getElem?_eq_none (by rw [List.length_set, tmL_len]; omega)]
theorem hdL_put (vs : List Int) {v : Nat} (hv : v < 16) : hdL (vs ++ [(v : Int)]) = (hdL vs).set v (.bool true) := by
  apply List.ext_getElem?
  intro i
  by_cases hi : i < 16
  · rw [hdL_at _ hi]
    by_cases e : v = i
    · subst e
      rw [List.getElem?_set_self (by rw [hdL_len]; exact hv)]
      simp
    · rw [List.getElem?_set_ne e, hdL_at _ hi]
      have : ¬ (i : Int) = (v : Int) := by omega
      simp [this]
  · rw [List.getElem?_eq_none (by rw [hdL_len]; omega), List.getElem?_eq_none (by rw [List.length_set, hdL_len]; omega)]
end Go.Proofs.Ytonkbjdeaneicaa.Pln
namespace Go.Proofs.Ytonkbjdeaneicaa
open Go.RowKit Pln Classical Go.Maps

/-- An array of the call's own. -/
def Arr (w : World) (T : Nat) (e : TypeId) (xs : List Value) : Prop := w.ownsRow 0 e 1 (.slice (some ⟨T, 0, none⟩) xs.length xs.length) xs.length xs
section
variable {w w' : World} {T : Nat} {e : TypeId} {xs : List Value}
theorem Arr.cell (h : Arr w T e xs) {i : Nat} {v : Value} (hi : xs[i]? = some v) : w.cell? ⟨T, i, none⟩ = some v := by
  have hlt := (List.getElem?_eq_some_iff.1 hi).1
  have := World.ownsRow.cellAt (show w.ownsRow 0 e 1 (.slice (some ⟨T, 0, none⟩) xs.length xs.length) xs.length xs from h) i (by omega)
  rw [this, hi]
theorem Arr.frozen (h : Arr w T e xs) (i : Nat) : w.frozen? ⟨T, i, none⟩ = false :=
  World.ownsRow.frozenAt (show w.ownsRow 0 e 1 (.slice (some ⟨T, 0, none⟩) xs.length xs.length) xs.length xs from h) i
theorem Arr.lt (h : Arr w T e xs) : T < w.heap.size := (ownBlock_cells h rfl).2.1
theorem Arr.put (h : Arr w T e xs) (j : Nat) (v : Value) : Arr (w.setCell ⟨T, j, none⟩ v) T e (xs.set j v) ∧ Turns [T] w (w.setCell ⟨T, j, none⟩ v) := by
  obtain ⟨h1, h2⟩ := World.ownsRow.stored (show w.ownsRow 0 e 1 (.slice (some ⟨T, 0, none⟩) xs.length xs.length) xs.length xs from h) j v
  refine ⟨?_, by simpa using Turns.of_grown h2⟩
  unfold Arr
  rw [List.length_set]
  exact h1
theorem Arr.turns (h : Arr w T e xs) {S : List Nat} (ht : Turns S w w') (hs : T ∉ S) : Arr w' T e xs :=
  ownsRow_turns h ht (fun b hb => by
    have : T = b := by simpa [Value.ownBlock] using hb
    rw [← this]; exact hs)
theorem Arr.step (h : Arr w T e xs) (hb : Below w.heap.size w w') : Arr w' T e xs := h.turns (Turns.of_below (S := []) hb) (by simp)
theorem Arr.new (w : World) (e : TypeId) (cs : Array Value) (hm : cs.size ≤ maxLen) : Arr (w.alloc (.cells cs e)) w.heap.size e cs.toList := by
  have h := World.ownsRow_lit (base := 0) (e := e) (size := 1) w cs cs.size (Nat.zero_le _) hm (by rw [Nat.mul_one])
  unfold Arr
  rw [Array.length_toList]
  exact h
end
end Go.Proofs.Ytonkbjdeaneicaa
