/- plan.Text, in plain words: its lines; how long they are. strings.Builder's copyCheck and WriteString at a builder of the call's own: any length, the empty one too. plan.Text: the walk. Printed by wip/bin/txt.py. -/
import Derived.Test.YtonkbjdeaneicaaDoorKpf04
import Derived.Test.YtonkbjdeaneicaaDoorKpf22
import Derived.Test.YtonkbjdeaneicaaDoorKpf25
import Derived.Deep.RegionHeld3
import Derived.Lib.AppendStr
import Derived.Lib.Hide
namespace Go.Proofs.YtonkbjdeaneicaaDoor
open Go Go.RowKit Pln Classical

def alphaL (i : Nat) (s : Shp) : List UInt8 := [97, 108, 112, 104, 97, 32] ++ num i ++ [32] ++ num s.pred ++ [40] ++ Lib.join (cellPs s.cells s.cells.length) sepT ++ [41, 10]
def nodeL (i : Nat) (n : Nd) : List UInt8 := [110, 111, 100, 101, 32] ++ num i ++ [32] ++ nodeT n ++ [10]
def ruleL (i : Nat) (e : Int) : List UInt8 := [114, 117, 108, 101, 32] ++ num i ++ [32, 97, 116, 32] ++ num e ++ [10]
/-- The lines of the first k. -/
def linesT {α : Type} (f : Nat → α → List UInt8) (xs : List α) (k : Nat) : List UInt8 := (List.range k).flatMap fun i => match xs[i]? with | some x => f i x | none => []
theorem linesT_zero {α : Type} (f : Nat → α → List UInt8) (xs : List α) : linesT f xs 0 = [] := rfl
theorem linesT_succ {α : Type} {f : Nat → α → List UInt8} {xs : List α} {k : Nat} {x : α} (h : xs[k]? = some x) : linesT f xs (k + 1) = linesT f xs k ++ f k x := by
  unfold linesT
  rw [List.range_succ, List.flatMap_append]
  simp [h]
def allT (al : List Shp) (ns : List Nd) (es : List Int) : List UInt8 := linesT alphaL al al.length ++ linesT nodeL ns ns.length ++ linesT ruleL es es.length
noncomputable def textF (al : List Shp) (ns : List Nd) (es : List Int) : List UInt8 := if checkP al ns es then allT al ns es else []

theorem i64n {n : Nat} (h : n ≤ 1000000000) : -9223372036854775808 ≤ (n : Int) ∧ (n : Int) ≤ 9223372036854775807 := by omega
theorem linkPs_42 (xs : List (Int × Int)) (h : ∀ x ∈ xs, i64ok x.1 ∧ i64ok x.2) : ∀ p ∈ linkPs xs xs.length, p.length ≤ 42 := by
  intro p hp
  obtain ⟨i, hi, rfl⟩ := List.mem_map.1 hp
  have hi2 : i < xs.length := List.mem_range.1 hi
  rw [List.getElem?_eq_getElem hi2]
  obtain ⟨h1, h2⟩ := h xs[i] (List.getElem_mem _)
  have l1 := num_len h1.lo
  have l2 := num_len h2.lo
  simp only [linkT, List.length_append, List.length_cons, List.length_nil]
  omega
theorem placePs_20 (xs : List Int) (h : ∀ x ∈ xs, i64ok x) : ∀ p ∈ placePs xs xs.length, p.length ≤ 20 := by
  intro p hp
  obtain ⟨i, hi, rfl⟩ := List.mem_map.1 hp
  have hi2 : i < xs.length := List.mem_range.1 hi
  rw [List.getElem?_eq_getElem hi2]
  have l1 := num_len (h xs[i] (List.getElem_mem _)).lo
  simp only
  omega
theorem cellPs_21 (xs : List Int) (hl : xs.length ≤ 1048576) (h : ∀ x ∈ xs, i64ok x) : ∀ p ∈ cellPs xs xs.length, p.length ≤ 21 := by
  intro p hp
  obtain ⟨i, hi, rfl⟩ := List.mem_map.1 hp
  have hi2 : i < xs.length := List.mem_range.1 hi
  rw [List.getElem?_eq_getElem hi2]
  have h0 := (h xs[i] (List.getElem_mem _)).lo
  show (cellT i xs[i]).length ≤ 21
  unfold cellT
  split
  · have := num_len h0
    simp only [List.length_cons]; omega
  · split
    · simp
    · have := num_len (n := -1 - xs[i]) (by omega)
      simp only [List.length_cons]; omega
theorem alphaL_len {F : Nat → Prop} {w : World} {cs : List Value} {s : Shp} (h : EShp F w cs s) (hl : s.cells.length ≤ 8) {i : Nat} (hi : i ≤ 1000000000) : (alphaL i s).length ≤ 1000 ∧ (Lib.join (cellPs s.cells s.cells.length) sepT).length ≤ 184 := by
  obtain ⟨v, rfl, hp, hc⟩ := h
  have h1 := join_len (m := 21) (cellPs s.cells s.cells.length) (cellPs_21 _ (by omega) (fun x hx => by obtain ⟨cs, _, h1⟩ := memE hc hx; exact h1))
  rw [cellPs_len] at h1
  have h2 := num_len (i64n hi)
  have h3 := num_len hp.lo
  refine ⟨?_, by omega⟩
  simp only [alphaL, List.length_append, List.length_cons, List.length_nil]
  omega
theorem nodeT_len {F : Nat → Prop} {w : World} {n : Nd} {lv mv : Value} (h : NdT F w n lv mv) (h8 : n.links.length ≤ 8 ∧ n.new.length ≤ 8) : (nodeT n).length ≤ 900 := by
  obtain ⟨-, o1, o2, o3, o4, o5, o6⟩ := h.ok
  have h1 := join_len (m := 42) (linkPs n.links n.links.length) (linkPs_42 _ (fun x hx => by obtain ⟨cs, _, h1, h2⟩ := memE h.links hx; exact ⟨h1, h2⟩))
  rw [linkPs_len] at h1
  have h2 := join_len (m := 20) (placePs n.new n.new.length) (placePs_20 _ (fun x hx => by obtain ⟨cs, _, h1⟩ := memE h.new hx; exact h1))
  rw [placePs_len] at h2
  obtain ⟨h81, h82⟩ := h8
  have l1 := num_len o1.lo
  have l2 := num_len o2.lo
  have l3 := num_len o3.lo
  have m1 := slotT_len o5.lo
  have m2 := slotT_len o6.lo
  have m3 := opT_len n.test.op
  have hh : (headT n).length ≤ 78 := by
    unfold headT
    split
    · simp only [underT, List.length_append, List.length_cons, List.length_nil]; omega
    · split
      · simp only [underT, List.length_append, List.length_cons, List.length_nil]; omega
      · simp only [testT, underT, List.length_append, List.length_cons, List.length_nil]; omega
  have hl : (linksT n).length ≤ 6 + (Lib.join (linkPs n.links n.links.length) sepT).length := by
    unfold linksT
    split
    · simp
    · simp only [List.length_append, List.length_cons, List.length_nil]; omega
  have hn : (newT n).length ≤ 5 + (Lib.join (placePs n.new n.new.length) sepT).length := by
    unfold newT
    split
    · simp
    · simp only [List.length_append, List.length_cons, List.length_nil]; omega
  have hw : (widthT n).length ≤ 27 := by
    simp only [widthT, List.length_append, List.length_cons, List.length_nil]; omega
  unfold nodeT
  split
  · simp
  · simp only [List.length_append]
    omega
theorem nodeL_len {F : Nat → Prop} {w : World} {n : Nd} {lv mv : Value} (h : NdT F w n lv mv) (h8 : n.links.length ≤ 8 ∧ n.new.length ≤ 8) {i : Nat} (hi : i ≤ 1000000000) : (nodeL i n).length ≤ 1000 := by
  have h1 := nodeT_len h h8
  have h2 := num_len (i64n hi)
  simp only [nodeL, List.length_append, List.length_cons, List.length_nil]
  omega
theorem ruleL_len {e : Int} (h : i64ok e) {i : Nat} (hi : i ≤ 1000000000) : (ruleL i e).length ≤ 1000 := by
  have h1 := num_len h.lo
  have h2 := num_len (i64n hi)
  simp only [ruleL, List.length_append, List.length_cons, List.length_nil]
  omega
theorem node_kind {al : List Shp} {ns : List Nd} (h : nodesP al ns) {i : Nat} {n : Nd} (hn : ns[i]? = some n) : n.kind = 0 ∨ n.kind = 1 ∨ n.kind = 3 ∨ (n.kind = 2 ∧ 1 ≤ n.test.op ∧ n.test.op ≤ 6) := by
  rcases Nat.eq_zero_or_pos i with rfl | hp
  · have := Option.some.inj (h.1.symm.trans hn)
    rw [← this]
    exact .inl rfl
  · obtain ⟨u, up, _, _, _, _, h5, _⟩ := h.2 i hp (List.getElem?_eq_some_iff.1 hn).1 n hn
    rcases h5 with ⟨h, _⟩ | ⟨h, _⟩ | ⟨h, t⟩
    · exact .inr (.inl h)
    · exact .inr (.inr (.inl h))
    · exact .inr (.inr (.inr ⟨h, t.2.2.2.2.2.1, t.2.2.2.2.2.2.1⟩))
theorem node_len8 {al : List Shp} {ns : List Nd} (hs : shapesP al ns) (h : nodesP al ns) {n : Nd} (hm : n ∈ ns) : n.links.length ≤ 8 ∧ n.new.length ≤ 8 := by
  obtain ⟨i, hn⟩ := List.getElem?_of_mem hm
  rcases Nat.eq_zero_or_pos i with rfl | hp
  · have := Option.some.inj (h.1.symm.trans hn)
    rw [← this]
    exact ⟨by simp [rootN], by simp [rootN]⟩
  · obtain ⟨u, up, _, _, _, _, h5, _⟩ := h.2 i hp (List.getElem?_eq_some_iff.1 hn).1 n hn
    exact nodeP_lens h5 (fun hk => shapes_at hs hm hk)
theorem shape_len8 {al : List Shp} {ns : List Nd} (hs : shapesP al ns) {s : Shp} (hm : s ∈ al) : s.cells.length ≤ 8 := by
  obtain ⟨i, hn⟩ := List.getElem?_of_mem hm
  exact (hs.1 i (List.getElem?_eq_some_iff.1 hn).1 s hn).2.1
/-- nodeText, at any node of a plan that is right. -/
theorem nodeTextW {F : Nat → Prop} (n : Nd) (lv mv : Value) (w : World) (h : NdT F w n lv mv) (hk : n.kind = 0 ∨ n.kind = 1 ∨ n.kind = 3 ∨ (n.kind = 2 ∧ 1 ≤ n.test.op ∧ n.test.op ≤ 6)) (ht : Tab w) (ho : Ops w) :
    Calls Tryd.prog 27 #[.agg #[.int .i64 n.kind, .int .i64 n.parent, .int .i64 n.alpha, lv, mv, .int .i64 n.test.op, .bool n.test.l.v, .int .i64 n.test.l.n, .bool n.test.r.v, .int .i64 n.test.r.n, .int .i64 n.width]] w fun e w' => e = .returned (.string (bs (nodeT n))) ∧ Below w.heap.size w w' := by
  rcases hk with hk | hk | hk | ⟨hk, hop⟩
  · exact nodeTextW0 n lv mv w h hk ht ho
  · exact nodeTextW1 n lv mv w h hk ht ho
  · exact nodeTextW3 n lv mv w h hk ht ho
  · exact nodeTextW2 n lv mv w h hk hop ht ho
end Go.Proofs.YtonkbjdeaneicaaDoor

namespace Go.Proofs.YtonkbjdeaneicaaDoor
open Go.RowKit

theorem sizeBld : (Tryd.prog.info? 61).map (·.size) = some 2 := by kernel_rfl
theorem liesBld : liesAt Tryd.prog Tryd.prog.depth 61 (2 / Tryd.prog.cellsOf 61) 0 61 1 = true := by kernel_rfl
theorem infoByte : (Tryd.prog.info? 5).map (fun i => (i.zero, i.size, i.bytes)) = some (some (.int .u8 0), 1, 1) := by kernel_rfl

set_option maxHeartbeats 1000000 in
set_option maxRecDepth 100000 in
theorem copyCheck_used (b : Nat) (w : World) (h0 : w.cell? ⟨b, 0, none⟩ = some (.pointer (some ⟨b, 0, none⟩))) :
    Calls Tryd.prog 47 #[.pointer (some ⟨b, 0, none⟩)] w fun e w' => e = .returned (.tuple #[]) ∧ w' = w := by
  obtain ⟨j, hj, _⟩ := Option.map_eq_some_iff.1 sizeBld
  go_enter Tryd.func47, Tryd.ntmps47
  go_wp2
  rw [Lib.run_neq_ptr_same w _ Tryd.underlying58 hj]
  go_wp2
  go_end0
  exact ⟨rfl, rfl⟩

set_option maxHeartbeats 1000000 in
set_option maxRecDepth 100000 in
theorem copyCheck_fresh (b : Nat) (w : World) (h0 : w.cell? ⟨b, 0, none⟩ = some (.pointer none)) (hsh : w.shape? b = some (61, 2)) (hfz : w.frozen? ⟨b, 0, none⟩ = false) :
    Calls Tryd.prog 47 #[.pointer (some ⟨b, 0, none⟩)] w fun e w' => e = .returned (.tuple #[]) ∧ w' = w.setCell ⟨b, 0, none⟩ (.pointer (some ⟨b, 0, none⟩)) := by
  obtain ⟨j, hj, hjs⟩ := Option.map_eq_some_iff.1 sizeBld
  go_enter Tryd.func47, Tryd.ntmps47
  go_wp2
  rw [Lib.run_to_unsafe w ⟨b, 0, none⟩ Tryd.underlying58 Tryd.underlying121 hj (by rw [hjs]; decide) hsh (Nat.zero_lt_succ 1)]
  simp only [Result.andThen]
  rw [Oper.upon_value]
  go_wp2
  rw [run_callFunc_extern Tryd.func72 (by kernel_rfl) (by kernel_rfl) (by kernel_rfl) (e := Extern.AbiNoEscape.same) (by kernel_rfl)]
  rw [Lib.run_noEscape]
  simp only [Result.andThen]
  rw [Oper.upon_value]
  go_wp2
  rw [Lib.run_from_unsafe w ⟨b, 0, none⟩ Tryd.underlying121 Tryd.underlying58 hj hsh liesBld]
  simp only [Result.andThen]
  rw [Oper.upon_value]
  go_wp2
  go_end0
  exact ⟨rfl, rfl⟩

/-- A builder at block b, its buffer v lying from block H on, b below H; what it holds. -/
structure Bw (w : World) (H b : Nat) (v : Value) (l : List UInt8) : Prop where
  blk : w.heap[b]? = some (.cells #[.pointer none, v] 61 (0, 0)) ∨ w.heap[b]? = some (.cells #[.pointer (some ⟨b, 0, none⟩), v] 61 (0, 0))
  own : w.ownsRow H 5 1 v l.length (Lib.byteCells l)
  bH : b < H
theorem Bw.ne {w : World} {H b : Nat} {v : Value} {l : List UInt8} (h : Bw w H b v l) {g : Nat} (hg : v.ownBlock = some g) : H ≤ g ∧ g < w.heap.size := by
  rcases h.own.2 with ⟨rfl, _⟩ | ⟨g', cap, cur, rfl, hbg, hh, _⟩
  · simp [Value.ownBlock] at hg
  · simp only [Value.ownBlock, Option.some.injEq] at hg
    subst hg
    exact ⟨hbg, lt_of_heap hh⟩
theorem Bw.lt {w : World} {H b : Nat} {v : Value} {l : List UInt8} (h : Bw w H b v l) : b < w.heap.size := by
  rcases h.blk with h | h <;> exact lt_of_heap h
theorem Bw.below {w w' : World} {H b : Nat} {v : Value} {l : List UInt8} (h : Bw w H b v l) (hb : Below w.heap.size w w') : Bw w' H b v l :=
  ⟨by rw [hb.block b h.lt]; exact h.blk, ownsRow_turns h.own (Turns.of_below (S := []) hb) (by simp), h.bH⟩

theorem bw_check {w : World} {H b : Nat} {v : Value} {l : List UInt8} (h : Bw w H b v l) :
    Calls Tryd.prog 47 #[.pointer (some ⟨b, 0, none⟩)] w fun e w1 => e = .returned (.tuple #[]) ∧ (w1.heap[b]? = some (.cells #[.pointer (some ⟨b, 0, none⟩), v] 61 (0, 0)) ∧ w1.ownsRow H 5 1 v l.length (Lib.byteCells l)) ∧ Turns [b] w w1 ∧ w1.heap.size = w.heap.size := by
  rcases h.blk with hb | hb
  · have hlt := lt_of_heap hb
    refine (copyCheck_fresh b w (cell_of_row w b 0 _ _ _ hb) (by simp [World.shape?, hb]) (frozen_of_row w b 0 _ _ hb)).mono ?_
    rintro e w1 ⟨rfl, rfl⟩
    have T : Turns [b] w (w.setCell ⟨b, 0, none⟩ (.pointer (some ⟨b, 0, none⟩))) := (Turns.refl [b] w).setCell (p := ⟨b, 0, none⟩) (.inl (by simp)) _
    refine ⟨rfl, ⟨?_, ownsRow_turns h.own T (fun g hg hm => by have := (h.ne hg).1; have := h.bH; rw [List.mem_singleton.1 hm] at *; omega)⟩, T, by simp [World.setCell]⟩
    rw [heap_setCell_same w b 0 _ _ _ hb]
    rfl
  · refine (copyCheck_used b w (cell_of_row w b 0 _ _ _ hb)).mono ?_
    rintro e w1 ⟨rfl, rfl⟩
    exact ⟨rfl, ⟨hb, h.own⟩, Turns.refl _ _, rfl⟩

theorem own_form {w : World} {H n : Nat} {e : TypeId} {v : Value} {xs : List Value} (h : w.ownsRow H e 1 v n xs) : ∃ A c, v = .slice A n c := by
  rcases h.2 with ⟨h1, h2⟩ | ⟨g', cap, cur, h1, _⟩
  · exact ⟨none, 0, by rw [h1, h2]⟩
  · exact ⟨_, _, h1⟩
/-- Behind the append: the new buffer is stored. -/
theorem bw_wrote {w w1 w2 : World} {H b n : Nat} {v v' : Value} {l l' : List UInt8} (hu : Bw w H b v l) (h1 : w1.heap[b]? = some (.cells #[.pointer (some ⟨b, 0, none⟩), v] 61 (0, 0))) (ht : Turns [b] w w1) (hz : w1.heap.size = w.heap.size)
    (hown : w2.ownsRow H 5 1 v' n (Lib.byteCells l')) (hn : n = l'.length) (hg : w1.grownBy w2 v.ownBlock) :
    w2.cell? ⟨b, 1, none⟩ = some v ∧ w2.frozen? ⟨b, 1, none⟩ = false ∧ Bw (w2.setCell ⟨b, 1, none⟩ v') H b v' l' ∧ Turns (b :: v.ownBlock.toList) w (w2.setCell ⟨b, 1, none⟩ v') := by
  subst hn
  have hlt := lt_of_heap h1
  have T : Turns v.ownBlock.toList w1 w2 := Turns.of_grown hg
  have hb2 : w2.heap[b]? = some (.cells #[.pointer (some ⟨b, 0, none⟩), v] 61 (0, 0)) := by
    rw [T.block b hlt (fun hm => by have := (hu.ne (by simpa using hm)).1; have := hu.bH; omega)]
    exact h1
  have T2 : Turns [b] w2 (w2.setCell ⟨b, 1, none⟩ v') := (Turns.refl [b] w2).setCell (p := ⟨b, 1, none⟩) (.inl (by simp)) _
  refine ⟨cell_of_row w2 b 1 _ _ _ hb2, frozen_of_row w2 b 1 _ _ hb2, ⟨.inr ?_, ownsRow_turns hown T2 (fun x hx hm => ?_), hu.bH⟩, ?_⟩
  · rw [heap_setCell_same w2 b 1 _ _ _ hb2]
    rfl
  · rcases hown.2 with ⟨rfl, _⟩ | ⟨g', cap, cur, rfl, hbg, hh, _⟩
    · simp [Value.ownBlock] at hx
    · simp only [Value.ownBlock, Option.some.injEq] at hx
      subst hx
      have := hu.bH
      rw [List.mem_singleton.1 hm] at hbg
      omega
  · have T1 : Turns (b :: v.ownBlock.toList) w w1 := ht.mono (fun x hx => by rw [List.mem_singleton.1 hx]; exact List.mem_cons_self)
    exact (T1.trans T (fun x hx => .inl (List.mem_cons_of_mem _ hx))).trans T2 (fun x hx => .inl (by rw [List.mem_singleton.1 hx]; exact List.mem_cons_self))

set_option maxHeartbeats 1000000 in
set_option maxRecDepth 100000 in
theorem bw_write {w : World} {H b : Nat} {v : Value} {l : List UInt8} (h : Bw w H b v l) (hH : H ≤ w.heap.size) (s : ByteArray) (hl : l.length + s.size ≤ 130000000000000) :
    Calls Tryd.prog 23 #[.pointer (some ⟨b, 0, none⟩), .string s] w fun e w' => e = .returned (.tuple #[.int .i64 s.size, .nilIface]) ∧ ∃ v', Bw w' H b v' (l ++ s.data.toList) ∧ Turns (b :: v.ownBlock.toList) w w' := by
  obtain ⟨i0, hi, hz0, hz1, hz2⟩ := info_parts infoByte
  have CH := Lib.hid (bw_check h)
  have HW := Lib.hid h
  clear h
  go_enter Tryd.func23, Tryd.ntmps23
  go_wp2_with (first
    | (go_at_call 47; refine CH.out.mono ?_; rintro e w1 ⟨rfl, ⟨hu, ho⟩, ht, hz⟩; have c1 : w1.cell? ⟨b, 1, none⟩ = some v := cell_of_row w1 b 1 _ _ _ hu; have HU := Lib.hid hu; have HO := Lib.hid ho; have HT := Lib.hid ht; have HZ := Lib.hid hz; clear hu ho ht hz)
    | (at_builtin; refine Lib.wpList_append_own_string _ rfl (.tmp 12) (.tmp 13) 59 9 rfl H 5 i0 Tryd.underlying59 Tryd.underlying9 hi hz0 hz1 hz2 _ _ _ rfl HO.out s rfl (by unfold maxLen; omega) (by omega) (by have := HZ.out; omega) ?_; intro v' w2 hown hgrow hat; obtain ⟨A', c', hv⟩ := own_form hown; subst hv; obtain ⟨d1, f1, hb3, hw⟩ := bw_wrote HW.out HU.out HT.out HZ.out (l' := l ++ s.data.toList) (n := l.length + s.size) (by simpa [Lib.byteCells, Lib.strCells] using hown) (by rw [List.length_append]; simp) hgrow; have HB3 := Lib.hid hb3; have HW3 := Lib.hid hw; clear hown hgrow hat hb3 hw))
  go_ret2
  exact ⟨rfl, _, HB3.out, HW3.out⟩
/-- A new one. -/
theorem bw_new (w : World) : Bw (w.alloc (.cells #[.pointer none, .slice none 0 0] 61)) (w.heap.size + 1) w.heap.size (.slice none 0 0) [] :=
  ⟨.inl (heap_alloc_new w _), World.ownsRow_nil _ _ _ _, by omega⟩
end Go.Proofs.YtonkbjdeaneicaaDoor

namespace Go.Proofs.YtonkbjdeaneicaaDoor
open Go Go.RowKit Pln Classical

/-- The state of Text: the argument's box, the builder at g. -/
structure TxS (W : World) (pl : Array Value) (g : Nat) (wr : World) (v : Value) (l : List UInt8) : Prop where
  bw : Bw wr (g + 1) g v l
  below : Below (W.heap.size + 1) (W.alloc (.cells pl 26)) wr
  hg : W.heap.size + 1 ≤ g
section
variable {W wr wr' : World} {pl : Array Value} {g : Nat} {v v' : Value} {l l' : List UInt8}
theorem TxS.step (h : TxS W pl g wr v l) (hb : Below wr.heap.size wr wr') : TxS W pl g wr' v l :=
  ⟨h.bw.below hb, h.below.trans (hb.mono (by have := h.below.size; simpa using this)), h.hg⟩
theorem TxS.next (h : TxS W pl g wr v l) (hw : Bw wr' (g + 1) g v' l') (ht : Turns (g :: v.ownBlock.toList) wr wr') : TxS W pl g wr' v' l' :=
  ⟨hw, h.below.trans (ht.below (by have := h.below.size; simpa using this) (fun x hx => by
    have := h.hg
    rcases List.mem_cons.1 hx with rfl | hx
    · simpa using this
    · have := (h.bw.ne (g := x) (by simpa using hx)).1
      simp
      omega)), h.hg⟩
theorem TxS.cell (h : TxS W pl g wr v l) (j : Nat) {u : Value} (hu : pl.toList[j]? = some u) : wr.cell? ⟨W.heap.size, j, none⟩ = some u := box_cellD h.below j hu
theorem TxS.size (h : TxS W pl g wr v l) : g + 1 ≤ wr.heap.size := h.bw.lt
theorem TxS.w (h : TxS W pl g wr v l) : Below W.heap.size W wr := ((Below.refl _ _).alloc (Nat.le_refl _) _).trans (h.below.mono (by omega))
end
/-- What lies in a block of the round's own stays where text is written. -/
theorem bw_keeps {w w' : World} {H b c : Nat} {v : Value} {l : List UInt8} (h : Bw w H b v l) (hc : w.heap.size ≤ c) {wc : World} (hb : Below w.heap.size w wc) (hcl : c < wc.heap.size) (ht : Turns (b :: v.ownBlock.toList) wc w') (j : Nat) : w'.cell? ⟨c, j, none⟩ = wc.cell? ⟨c, j, none⟩ :=
  ht.cell hcl (fun hx => by
    rcases List.mem_cons.1 hx with h1 | h1
    · have := h.lt
      omega
    · have := (h.ne (g := c) (by simpa using h1)).2
      omega)

theorem box_belowD {w wr : World} {o : Obj} (hb : Below (w.heap.size + 1) (w.alloc o) wr) : Below w.heap.size w wr :=
  ((Below.refl _ _).alloc (Nat.le_refl _) o).trans (hb.mono (by omega))
theorem own_down {w : World} {H H' n : Nat} {e : TypeId} {v : Value} {xs : List Value} (h : w.ownsRow H e 1 v n xs) (hh : H' ≤ H) : w.ownsRow H' e 1 v n xs := by
  refine ⟨h.1, ?_⟩
  rcases h.2 with h2 | ⟨g, cap, cur, h1, h2, h3⟩
  · exact .inl h2
  · exact .inr ⟨g, cap, cur, h1, Nat.le_trans hh h2, h3⟩
theorem isBuilder_of {w : World} {g : Nat} {v : Value} {l : List UInt8} (h : Bw w (g + 1) g v l) : Lib.IsBuilder 61 5 g g (Lib.byteCells l) w := by
  have ho := own_down h.own (Nat.le_succ g)
  rcases h.blk with hb | hb
  · exact .inl ⟨Nat.le_refl _, v, hb, by rw [Lib.byteCells_length]; exact ho, fun e => by have := (h.ne e).1; omega⟩
  · exact .inr ⟨Nat.le_refl _, v, hb, by rw [Lib.byteCells_length]; exact ho, fun e => by have := (h.ne e).1; omega⟩

set_option maxRecDepth 200000 in
set_option maxHeartbeats 16000000 in
theorem textW {F : Nat → Prop} (W : World) (av nv ev : Value) (al : List Shp) (ns : List Nd) (es : List Int) (h : RPl F W av nv ev al ns es) (hS : al.length ≤ 1000000000 ∧ ns.length ≤ 1000000000 ∧ es.length ≤ 1000000000) (hml : ∀ n ∈ ns, n.new.length ≤ 1000000000) (ht : Tab W) (ho : Ops W) :
    Calls Tryd.prog 9 #[.agg #[av, nv, ev]] W fun e W' => e = .returned (.string (bs (textF al ns es))) ∧ Below W.heap.size W W' := by
  obtain ⟨Aa, ca, rfl⟩ := h.al.form
  obtain ⟨An, cn, rfl⟩ := h.ns.form
  obtain ⟨Ae, ce, rfl⟩ := h.en.form
  have HP := Lib.hid h
  have SM := Lib.hid hS
  have TB := Lib.hid (fun (Wx : World) (hx : Below W.heap.size W Wx) => ht.below hx)
  have OB := Lib.hid (fun (Wx : World) (hx : Below W.heap.size W Wx) => ho.below hx)
  obtain ⟨R, hR⟩ : ∃ R, textF al ns es = R := ⟨_, rfl⟩
  rw [hR]
  obtain ⟨w0, hw0⟩ : ∃ w0, w0 = W.alloc (.cells #[.slice Aa al.length ca, .slice An ns.length cn, .slice Ae es.length ce] 26) := ⟨_, rfl⟩
  have hb0 : Below W.heap.size W w0 := by rw [hw0]; exact (Below.refl _ _).alloc (Nat.le_refl _) _
  have hx0 : Below (W.heap.size + 1) (W.alloc (.cells #[.slice Aa al.length ca, .slice An ns.length cn, .slice Ae es.length ce] 26)) w0 := by rw [hw0]; exact Below.refl _ _
  have CK := Lib.hid (checkW w0 (.slice Aa al.length ca) (.slice An ns.length cn) (.slice Ae es.length ce) al ns es (h.below hb0).al (h.below hb0).ns (h.below hb0).en hS.2.1 hml)
  have x0 := box_cellD hx0 0 rfl
  have x1 := box_cellD hx0 1 rfl
  have x2 := box_cellD hx0 2 rfl
  have HX0 := Lib.hid hx0
  clear h hS hml ht ho hb0 hx0
  go_enter Tryd.func9, Tryd.ntmps9
  go_upto_region 1 with fail
  rw [← hw0]
  by_cases hck : checkP al ns es
  rotate_left
  · have HR := Lib.hid (show R = [] by rw [← hR]; unfold textF; rw [if_neg hck])
    rw [if_neg hck] at CK
    clear hR hw0
    go_wp2_with fail
    refine CK.out.mono ?_
    rintro e w1 ⟨rfl, hb1⟩
    have HB1 := Lib.hid ((box_belowD HX0.out).trans (hb1.mono (box_belowD HX0.out).size))
    clear hb1
    go_wp2
    go_ret
    exact ⟨by rw [HR.out]; rfl, HB1.out⟩
  have HR := Lib.hid (show R = allT al ns es by rw [← hR]; unfold textF; rw [if_pos hck])
  have HCK := Lib.hid hck
  rw [if_pos hck] at CK
  clear hR hw0
  go_wp2_with fail
  refine CK.out.mono ?_
  rintro e w1 ⟨rfl, hb1⟩
  obtain ⟨g, hg⟩ : ∃ g, g = w1.heap.size := ⟨_, rfl⟩
  obtain ⟨wo, hwo⟩ : ∃ wo, wo = w1.alloc (.cells #[.pointer none, .slice none 0 0] 61) := ⟨_, rfl⟩
  have st0 : TxS W #[.slice Aa al.length ca, .slice An ns.length cn, .slice Ae es.length ce] g wo (.slice none 0 0) [] := by
    have hbx : Below (W.heap.size + 1) _ w1 := HX0.out.trans (hb1.mono (by have := HX0.out.size; simpa using this))
    refine ⟨?_, ?_, ?_⟩
    · rw [hwo, hg]; exact bw_new w1
    · rw [hwo]; exact hbx.alloc (by have := hbx.size; simpa using this) _
    · have := hbx.size
      rw [hg]
      simpa using this
  have ST0 := Lib.hid st0
  clear hb1 x0 x1 x2 hck CK st0
  go_upto_region 4 with fail
  rw [← hwo, ← hg]
  clear hwo hg
  have x0 := ST0.out.cell 0 rfl
  go_wp2
  clear x0
  go_loopw [16] (fun i wr => ∃ (k : Nat) (v : Value) (l : List UInt8), i = .int .i64 k ∧ k ≤ al.length ∧ l = linesT alphaL al k ∧ l.length ≤ k * 1000 ∧ TxS W #[.slice Aa al.length ca, .slice An ns.length cn, .slice Ae es.length ce] g wr v l) (fun i _ => al.length - (intOf i).toNat)
  case atStart => exact ⟨0, _, _, rfl, Nat.zero_le _, rfl, Nat.zero_le _, ST0.out⟩
  case round =>
    obtain ⟨k, v, l, rfl, hk, hl, hll, hst⟩ := hrel
    by_cases hkn : k < al.length
    · obtain ⟨s, hs⟩ : ∃ s, al[k]? = some s := ⟨_, List.getElem?_eq_getElem hkn⟩
      obtain ⟨b, off, rfl, -, hbl, cs, hE, hc⟩ := (HP.out.below hst.w).al.at hs
      have hsl : s.cells.length ≤ 8 := shape_len8 HCK.out.1 (List.mem_of_getElem? hs)
      have hsm : s.cells.length ≤ 1048576 := by omega
      have hkk : k ≤ 1000000000 := by have := SM.out.1; omega
      obtain ⟨ll1, ll2⟩ := alphaL_len (i := k) hE hsl (by omega)
      obtain ⟨sv, rfl, sok, hcs⟩ := hE
      obtain ⟨As, cc, rfl⟩ := hcs.form
      have d0 := hc 0 _ rfl
      have d1 := hc 1 _ rfl
      simp only [Nat.add_zero] at d0
      have e1 : (0 : Int) ≤ (k : Int) := by omega
      have e2 : (k : Int) < (al.length : Int) := by omega
      obtain ⟨wb, hwb⟩ : ∃ wb, wb = wr.alloc (.cells #[.int .i64 s.pred, .slice As s.cells.length cc] 54) := ⟨_, rfl⟩
      have hbw : Below wr.heap.size wr wb := by rw [hwb]; exact (Below.refl _ _).alloc (Nat.le_refl _) _
      have hrow : wb.heap[wr.heap.size]? = some (.cells #[.int .i64 s.pred, .slice As s.cells.length cc] 54 (0, 0)) := by rw [hwb]; exact heap_alloc_new wr _
      have hlr := lt_of_heap hrow
      have KS := Lib.hid (fun (Wx : World) (hx : Below wb.heap.size wb Wx) => (show Wx.cell? ⟨wr.heap.size, 0, none⟩ = some (.int .i64 s.pred) ∧ Wx.cell? ⟨wr.heap.size, 1, none⟩ = some (.slice As s.cells.length cc) from
        ⟨(cell_of_row _ _ 0 _ _ _ ((hx.block _ hlr).trans hrow)).trans rfl, (cell_of_row _ _ 1 _ _ _ ((hx.block _ hlr).trans hrow)).trans rfl⟩))
      have T1 := Lib.hid (fun (Wx : World) (hx : Below wb.heap.size wb Wx) => (hst.w.trans (hbw.mono hst.w.size)).trans (hx.mono ((hst.w.trans (hbw.mono hst.w.size))).size))
      have C1 := Lib.hid (fun (Wx : World) (hx : Below wb.heap.size wb Wx) => itoaW (k : Int) (i64n (by omega)) Wx (TB.out Wx (T1.out Wx hx)))
      have C2 := Lib.hid (fun (Wx : World) (hx : Below wb.heap.size wb Wx) => itoaW s.pred sok.lo Wx (TB.out Wx (T1.out Wx hx)))
      have C3 := Lib.hid (fun (Wx : World) (hx : Below wb.heap.size wb Wx) => list_cellPW _ s.cells Wx (hcs.keep (Kp.of_below (hbw.trans (hx.mono hbw.size)))) hsm (TB.out Wx (T1.out Wx hx)))
      obtain ⟨CT, hCT⟩ : ∃ CT, Lib.join (cellPs s.cells s.cells.length) sepT = CT := ⟨_, rfl⟩
      rw [hCT] at C3 ll2
      have hstr : ((((((({ data := #[97, 108, 112, 104, 97, 32] } : ByteArray) ++ bs (num k)) ++ { data := #[32] }) ++ bs (num s.pred)) ++ { data := #[40] }) ++ bs CT) ++ { data := #[41, 10] }) = bs (alphaL k s) := by
        rw [← hCT, show ({ data := #[97, 108, 112, 104, 97, 32] } : ByteArray) = bs [97, 108, 112, 104, 97, 32] from rfl, show ({ data := #[32] } : ByteArray) = bs [32] from rfl, show ({ data := #[40] } : ByteArray) = bs [40] from rfl, show ({ data := #[41, 10] } : ByteArray) = bs [41, 10] from rfl]
        simp only [bs_app, alphaL, List.append_assoc]
      have hdat : (bs (alphaL k s)).data.toList = alphaL k s := by simp [bs]
      have hlim : l.length + (bs (alphaL k s)).size ≤ 130000000000000 := by rw [bs_size]; omega
      have WS := Lib.hid (fun (Wx : World) (hx : Below wb.heap.size wb Wx) => (by have := bw_write ((hst.bw.below hbw).below hx) (Nat.le_trans (Nat.le_trans hst.size hbw.size) hx.size) _ hlim; rw [hdat, ← hstr] at this; exact this :
        Calls Tryd.prog 23 #[.pointer (some ⟨g, 0, none⟩), .string ((((((({ data := #[97, 108, 112, 104, 97, 32] } : ByteArray) ++ bs (num k)) ++ { data := #[32] }) ++ bs (num s.pred)) ++ { data := #[40] }) ++ bs CT) ++ { data := #[41, 10] })] Wx fun e w' => e = .returned (.tuple #[.int .i64 ((((((({ data := #[97, 108, 112, 104, 97, 32] } : ByteArray) ++ bs (num k)) ++ { data := #[32] }) ++ bs (num s.pred)) ++ { data := #[40] }) ++ bs CT) ++ { data := #[41, 10] }).size, .nilIface]) ∧ ∃ v', Bw w' (g + 1) g v' (l ++ alphaL k s) ∧ Turns (g :: v.ownBlock.toList) Wx w'))
      have n1 := num_len (i64n (n := k) (by omega))
      have n2 := num_len sok.lo
      rw [← bs_size] at n1 n2 ll2
      have z1 : ¬ 9223372036854775807 < 6 + (bs (num k)).size := by omega
      have z2 : ¬ 9223372036854775807 < 6 + (bs (num k)).size + 1 := by omega
      have z3 : ¬ 9223372036854775807 < 6 + (bs (num k)).size + 1 + (bs (num s.pred)).size := by omega
      have z4 : ¬ 9223372036854775807 < 6 + (bs (num k)).size + 1 + (bs (num s.pred)).size + 1 := by omega
      have z5 : ¬ 9223372036854775807 < 6 + (bs (num k)).size + 1 + (bs (num s.pred)).size + 1 + (bs CT).size := by omega
      have z6 : ¬ 9223372036854775807 < 6 + (bs (num k)).size + 1 + (bs (num s.pred)).size + 1 + (bs CT).size + 2 := by omega
      have HB := Lib.hid ((Below.refl wb.heap.size wb).drew)
      have hS0 := KS.out _ HB.out
      have HX := Lib.hid hst
      have HBW := Lib.hid hbw
      have HK := Lib.hid hkn
      have HLE := Lib.hid (show l ++ alphaL k s = linesT alphaL al (k + 1) by rw [hl, linesT_succ hs])
      have HLL := Lib.hid (show (l ++ alphaL k s).length ≤ (k + 1) * 1000 by rw [List.length_append]; omega)
      have HLR := Lib.hid hlr
      clear hs hc hkn hst hl hll hstr hdat hlim hcs sok hCT hbw hrow hlr ll1 hsl hsm
      go_upto_region 7 with fail
      rw [← hwb]
      clear hwb d0 d1
      go_region_held3 (fun w' : World => w'.cell? ⟨wr.heap.size, 0, none⟩ = some (.int .i64 s.pred) ∧ w'.cell? ⟨wr.heap.size, 1, none⟩ = some (.slice As s.cells.length cc))
        (first | with_reducible exact hS0 | with_reducible exact KS.out _ HB.out | with_reducible exact KW.out)
        (first
          | (go_at_call 24; with_reducible refine (C1.out _ HB.out).mono ?_; rintro e w7 ⟨rfl, hb7⟩; have HB := Lib.hid (HB.out.trans (hb7.mono HB.out.size)); clear hb7)
          | (go_at_call 24; with_reducible refine (C2.out _ HB.out).mono ?_; rintro e w7 ⟨rfl, hb7⟩; have HB := Lib.hid (HB.out.trans (hb7.mono HB.out.size)); clear hb7)
          | (go_at_call 25; with_reducible refine (C3.out _ HB.out).mono ?_; rintro e w7 ⟨rfl, hb7⟩; have HB := Lib.hid (HB.out.trans (hb7.mono HB.out.size)); clear hb7)
          | (go_at_call 23; with_reducible refine (WS.out _ HB.out).mono ?_; rintro e w9 ⟨rfl, v9, hbw9, ht9⟩; have KC := KS.out _ HB.out; have BK := fun j => bw_keeps HX.out.bw (Nat.le_refl _) (HBW.out.trans (HB.out.mono HBW.out.size)) (Nat.lt_of_lt_of_le HLR.out HB.out.size) ht9 j; have KW := Lib.hid (show w9.cell? ⟨wr.heap.size, 0, none⟩ = some (.int .i64 s.pred) ∧ w9.cell? ⟨wr.heap.size, 1, none⟩ = some (.slice As s.cells.length cc) from ⟨(BK 0).trans KC.1, (BK 1).trans KC.2⟩); have HN := Lib.hid ((HX.out.step (HBW.out.trans (HB.out.mono HBW.out.size))).next hbw9 ht9); clear KC BK hbw9 ht9))
      all_goals go_wp2
      all_goals have N1 := Lib.hid HN.out
      all_goals clear HX KS T1 C1 C2 C3 WS HN KW
      all_goals refine ⟨⟨k + 1, _, _, by go_num, HK.out, HLE.out, HLL.out, N1.out⟩, ?_⟩
      all_goals (simp [intOf]; have := HK.out; omega)
    · obtain rfl : k = al.length := by omega
      have ST1 := Lib.hid hst
      have HL1 := Lib.hid hl
      have HLL1 := Lib.hid (show l.length ≤ 1000000000 * 1000 by have := SM.out.1; have : al.length * 1000 ≤ 1000000000 * 1000 := Nat.mul_le_mul_right _ this; omega)
      have x1 := hst.cell 1 rfl
      clear hst hl hkn hll
      go_wp2
      clear x1
      go_loopw [40] (fun i wr => ∃ (k : Nat) (v : Value) (l2 : List UInt8), i = .int .i64 k ∧ k ≤ ns.length ∧ l2 = l ++ linesT nodeL ns k ∧ l2.length ≤ 1000000000 * 1000 + k * 1000 ∧ TxS W #[.slice Aa al.length ca, .slice An ns.length cn, .slice Ae es.length ce] g wr v l2) (fun i _ => ns.length - (intOf i).toNat)
      case atStart => exact ⟨0, _, _, rfl, Nat.zero_le _, (List.append_nil _).symm, by have := HLL1.out; omega, ST1.out⟩
      case round =>
        obtain ⟨k, v2, l2, rfl, hk, hl, hll, hst⟩ := hrel
        clear ST1
        by_cases hkn : k < ns.length
        · obtain ⟨n, hn⟩ : ∃ n, ns[k]? = some n := ⟨_, List.getElem?_eq_getElem hkn⟩
          obtain ⟨b, off, rfl, -, hbl, cs, ⟨lv, mv, hE⟩, hc⟩ := (HP.out.below hst.w).ns.at hn
          obtain rfl := hE.cells
          have s8 := node_len8 HCK.out.1 HCK.out.2.1 (List.mem_of_getElem? hn)
          have sl1 : n.links.length ≤ 1048576 := by omega
          have sl2 : n.new.length ≤ 1048576 := by omega
          have hkk : k ≤ 1000000000 := by have := SM.out.2.1; omega
          have hnd : NdT F wr n lv mv := ⟨hE.ok, hE.links, hE.new, sl1, sl2⟩
          have ll1 := nodeL_len (i := k) hnd s8 (by omega)
          have ll2 := nodeT_len hnd s8
          have hkd := node_kind HCK.out.2.1 hn
          obtain ⟨LA, lc, rfl⟩ := hE.links.form
          obtain ⟨MA, mc, rfl⟩ := hE.new.form
          have d0 := hc 0 _ rfl
          have d1 := hc 1 _ rfl
          have d2 := hc 2 _ rfl
          have d3 := hc 3 _ rfl
          have d4 := hc 4 _ rfl
          have d5 := hc 5 _ rfl
          have d6 := hc 6 _ rfl
          have d7 := hc 7 _ rfl
          have d8 := hc 8 _ rfl
          have d9 := hc 9 _ rfl
          have d10 := hc 10 _ rfl
          simp only [Nat.add_zero] at d0
          have e1 : (0 : Int) ≤ (k : Int) := by omega
          have e2 : (k : Int) < (ns.length : Int) := by omega
          obtain ⟨wb, hwb⟩ : ∃ wb, wb = wr.alloc (.cells #[.int .i64 n.kind, .int .i64 n.parent, .int .i64 n.alpha, .slice LA n.links.length lc, .slice MA n.new.length mc, .int .i64 n.test.op, .bool n.test.l.v, .int .i64 n.test.l.n, .bool n.test.r.v, .int .i64 n.test.r.n, .int .i64 n.width] 40) := ⟨_, rfl⟩
          have hbw : Below wr.heap.size wr wb := by rw [hwb]; exact (Below.refl _ _).alloc (Nat.le_refl _) _
          have hrow : wb.heap[wr.heap.size]? = some (.cells #[.int .i64 n.kind, .int .i64 n.parent, .int .i64 n.alpha, .slice LA n.links.length lc, .slice MA n.new.length mc, .int .i64 n.test.op, .bool n.test.l.v, .int .i64 n.test.l.n, .bool n.test.r.v, .int .i64 n.test.r.n, .int .i64 n.width] 40 (0, 0)) := by rw [hwb]; exact heap_alloc_new wr _
          have hlr := lt_of_heap hrow
          have KS := Lib.hid (fun (Wx : World) (hx : Below wb.heap.size wb Wx) => (show Wx.cell? ⟨wr.heap.size, 0, none⟩ = some (.int .i64 n.kind) ∧ Wx.cell? ⟨wr.heap.size, 1, none⟩ = some (.int .i64 n.parent) ∧ Wx.cell? ⟨wr.heap.size, 2, none⟩ = some (.int .i64 n.alpha) ∧ Wx.cell? ⟨wr.heap.size, 3, none⟩ = some (.slice LA n.links.length lc) ∧ Wx.cell? ⟨wr.heap.size, 4, none⟩ = some (.slice MA n.new.length mc) ∧ Wx.cell? ⟨wr.heap.size, 5, none⟩ = some (.int .i64 n.test.op) ∧ Wx.cell? ⟨wr.heap.size, 6, none⟩ = some (.bool n.test.l.v) ∧ Wx.cell? ⟨wr.heap.size, 7, none⟩ = some (.int .i64 n.test.l.n) ∧ Wx.cell? ⟨wr.heap.size, 8, none⟩ = some (.bool n.test.r.v) ∧ Wx.cell? ⟨wr.heap.size, 9, none⟩ = some (.int .i64 n.test.r.n) ∧ Wx.cell? ⟨wr.heap.size, 10, none⟩ = some (.int .i64 n.width) from
            have hr := (hx.block _ hlr).trans hrow
            ⟨(cell_of_row _ _ 0 _ _ _ hr).trans rfl, (cell_of_row _ _ 1 _ _ _ hr).trans rfl, (cell_of_row _ _ 2 _ _ _ hr).trans rfl, (cell_of_row _ _ 3 _ _ _ hr).trans rfl, (cell_of_row _ _ 4 _ _ _ hr).trans rfl, (cell_of_row _ _ 5 _ _ _ hr).trans rfl, (cell_of_row _ _ 6 _ _ _ hr).trans rfl, (cell_of_row _ _ 7 _ _ _ hr).trans rfl, (cell_of_row _ _ 8 _ _ _ hr).trans rfl, (cell_of_row _ _ 9 _ _ _ hr).trans rfl, (cell_of_row _ _ 10 _ _ _ hr).trans rfl⟩))
          have T1 := Lib.hid (fun (Wx : World) (hx : Below wb.heap.size wb Wx) => (hst.w.trans (hbw.mono hst.w.size)).trans (hx.mono ((hst.w.trans (hbw.mono hst.w.size))).size))
          have C1 := Lib.hid (fun (Wx : World) (hx : Below wb.heap.size wb Wx) => itoaW (k : Int) (i64n (by omega)) Wx (TB.out Wx (T1.out Wx hx)))
          have C2 := Lib.hid (fun (Wx : World) (hx : Below wb.heap.size wb Wx) => nodeTextW (F := F) n _ _ Wx ⟨hE.ok, hE.links.keep (Kp.of_below (hbw.trans (hx.mono hbw.size))), hE.new.keep (Kp.of_below (hbw.trans (hx.mono hbw.size))), sl1, sl2⟩ hkd (TB.out Wx (T1.out Wx hx)) (OB.out Wx (T1.out Wx hx)))
          obtain ⟨NT, hNT⟩ : ∃ NT, nodeT n = NT := ⟨_, rfl⟩
          rw [hNT] at C2 ll2
          have hstr : ((((({ data := #[110, 111, 100, 101, 32] } : ByteArray) ++ bs (num k)) ++ { data := #[32] }) ++ bs NT) ++ { data := #[10] }) = bs (nodeL k n) := by
            rw [← hNT, show ({ data := #[110, 111, 100, 101, 32] } : ByteArray) = bs [110, 111, 100, 101, 32] from rfl, show ({ data := #[32] } : ByteArray) = bs [32] from rfl, show ({ data := #[10] } : ByteArray) = bs [10] from rfl]
            simp only [bs_app, nodeL, List.append_assoc]
          have hdat : (bs (nodeL k n)).data.toList = nodeL k n := by simp [bs]
          have hlim : l2.length + (bs (nodeL k n)).size ≤ 130000000000000 := by rw [bs_size]; omega
          have WS := Lib.hid (fun (Wx : World) (hx : Below wb.heap.size wb Wx) => (by have := bw_write ((hst.bw.below hbw).below hx) (Nat.le_trans (Nat.le_trans hst.size hbw.size) hx.size) _ hlim; rw [hdat, ← hstr] at this; exact this :
            Calls Tryd.prog 23 #[.pointer (some ⟨g, 0, none⟩), .string ((((({ data := #[110, 111, 100, 101, 32] } : ByteArray) ++ bs (num k)) ++ { data := #[32] }) ++ bs NT) ++ { data := #[10] })] Wx fun e w' => e = .returned (.tuple #[.int .i64 ((((({ data := #[110, 111, 100, 101, 32] } : ByteArray) ++ bs (num k)) ++ { data := #[32] }) ++ bs NT) ++ { data := #[10] }).size, .nilIface]) ∧ ∃ v', Bw w' (g + 1) g v' (l2 ++ nodeL k n) ∧ Turns (g :: v2.ownBlock.toList) Wx w'))
          have n1 := num_len (i64n (n := k) (by omega))
          rw [← bs_size] at n1 ll2
          have z1 : ¬ 9223372036854775807 < 5 + (bs (num k)).size := by omega
          have z2 : ¬ 9223372036854775807 < 5 + (bs (num k)).size + 1 := by omega
          have z3 : ¬ 9223372036854775807 < 5 + (bs (num k)).size + 1 + (bs NT).size := by omega
          have z4 : ¬ 9223372036854775807 < 5 + (bs (num k)).size + 1 + (bs NT).size + 1 := by omega
          have HB := Lib.hid ((Below.refl wb.heap.size wb).drew)
          have hS0 := KS.out _ HB.out
          have HX := Lib.hid hst
          have HBW := Lib.hid hbw
          have HK := Lib.hid hkn
          have HLE := Lib.hid (show l2 ++ nodeL k n = l ++ linesT nodeL ns (k + 1) by rw [hl, linesT_succ hn, List.append_assoc])
          have HLL := Lib.hid (show (l2 ++ nodeL k n).length ≤ 1000000000 * 1000 + (k + 1) * 1000 by rw [List.length_append]; omega)
          have HLR := Lib.hid hlr
          clear hn hc hkn hst hl hll hstr hdat hlim hE hnd hkd hNT hbw hrow hlr ll1 sl1 sl2 s8
          go_upto_region 12 with fail
          rw [← hwb]
          clear hwb d0 d1 d2 d3 d4 d5 d6 d7 d8 d9 d10
          go_region_held3 (fun w' : World => w'.cell? ⟨wr.heap.size, 0, none⟩ = some (.int .i64 n.kind) ∧ w'.cell? ⟨wr.heap.size, 1, none⟩ = some (.int .i64 n.parent) ∧ w'.cell? ⟨wr.heap.size, 2, none⟩ = some (.int .i64 n.alpha) ∧ w'.cell? ⟨wr.heap.size, 3, none⟩ = some (.slice LA n.links.length lc) ∧ w'.cell? ⟨wr.heap.size, 4, none⟩ = some (.slice MA n.new.length mc) ∧ w'.cell? ⟨wr.heap.size, 5, none⟩ = some (.int .i64 n.test.op) ∧ w'.cell? ⟨wr.heap.size, 6, none⟩ = some (.bool n.test.l.v) ∧ w'.cell? ⟨wr.heap.size, 7, none⟩ = some (.int .i64 n.test.l.n) ∧ w'.cell? ⟨wr.heap.size, 8, none⟩ = some (.bool n.test.r.v) ∧ w'.cell? ⟨wr.heap.size, 9, none⟩ = some (.int .i64 n.test.r.n) ∧ w'.cell? ⟨wr.heap.size, 10, none⟩ = some (.int .i64 n.width))
            (first | with_reducible exact hS0 | with_reducible exact KS.out _ HB.out | with_reducible exact KW.out)
            (first
              | (go_at_call 24; with_reducible refine (C1.out _ HB.out).mono ?_; rintro e w7 ⟨rfl, hb7⟩; have HB := Lib.hid (HB.out.trans (hb7.mono HB.out.size)); clear hb7)
              | (go_at_call 27; with_reducible refine (C2.out _ HB.out).mono ?_; rintro e w7 ⟨rfl, hb7⟩; have HB := Lib.hid (HB.out.trans (hb7.mono HB.out.size)); clear hb7)
              | (go_at_call 23; with_reducible refine (WS.out _ HB.out).mono ?_; rintro e w9 ⟨rfl, v9, hbw9, ht9⟩; have KC := KS.out _ HB.out; have BK := fun j => bw_keeps HX.out.bw (Nat.le_refl _) (HBW.out.trans (HB.out.mono HBW.out.size)) (Nat.lt_of_lt_of_le HLR.out HB.out.size) ht9 j; obtain ⟨k0, k1, k2, k3, k4, k5, k6, k7, k8, k9, k10⟩ := KC; have KW := Lib.hid (show w9.cell? ⟨wr.heap.size, 0, none⟩ = some (.int .i64 n.kind) ∧ w9.cell? ⟨wr.heap.size, 1, none⟩ = some (.int .i64 n.parent) ∧ w9.cell? ⟨wr.heap.size, 2, none⟩ = some (.int .i64 n.alpha) ∧ w9.cell? ⟨wr.heap.size, 3, none⟩ = some (.slice LA n.links.length lc) ∧ w9.cell? ⟨wr.heap.size, 4, none⟩ = some (.slice MA n.new.length mc) ∧ w9.cell? ⟨wr.heap.size, 5, none⟩ = some (.int .i64 n.test.op) ∧ w9.cell? ⟨wr.heap.size, 6, none⟩ = some (.bool n.test.l.v) ∧ w9.cell? ⟨wr.heap.size, 7, none⟩ = some (.int .i64 n.test.l.n) ∧ w9.cell? ⟨wr.heap.size, 8, none⟩ = some (.bool n.test.r.v) ∧ w9.cell? ⟨wr.heap.size, 9, none⟩ = some (.int .i64 n.test.r.n) ∧ w9.cell? ⟨wr.heap.size, 10, none⟩ = some (.int .i64 n.width) from ⟨(BK 0).trans k0, (BK 1).trans k1, (BK 2).trans k2, (BK 3).trans k3, (BK 4).trans k4, (BK 5).trans k5, (BK 6).trans k6, (BK 7).trans k7, (BK 8).trans k8, (BK 9).trans k9, (BK 10).trans k10⟩); have HN := Lib.hid ((HX.out.step (HBW.out.trans (HB.out.mono HBW.out.size))).next hbw9 ht9); clear k0 k1 k2 k3 k4 k5 k6 k7 k8 k9 k10 BK hbw9 ht9))
          all_goals go_wp2
          all_goals have N1 := Lib.hid HN.out
          all_goals clear HX KS T1 C1 C2 WS HN KW
          all_goals refine ⟨⟨k + 1, _, _, by go_num, HK.out, HLE.out, HLL.out, N1.out⟩, ?_⟩
          all_goals (simp [intOf]; have := HK.out; omega)
        · obtain rfl : k = ns.length := by omega
          have ST2 := Lib.hid hst
          have HL2 := Lib.hid hl
          have HLL2 := Lib.hid (show l2.length ≤ 1000000000 * 1000 + 1000000000 * 1000 by have := SM.out.2.1; have : ns.length * 1000 ≤ 1000000000 * 1000 := Nat.mul_le_mul_right _ this; omega)
          have x2 := hst.cell 2 rfl
          clear hst hl hkn hll
          go_wp2
          clear x2
          go_loopw [58] (fun i wr => ∃ (k : Nat) (v : Value) (l3 : List UInt8), i = .int .i64 k ∧ k ≤ es.length ∧ l3 = l2 ++ linesT ruleL es k ∧ l3.length ≤ 1000000000 * 1000 + 1000000000 * 1000 + k * 1000 ∧ TxS W #[.slice Aa al.length ca, .slice An ns.length cn, .slice Ae es.length ce] g wr v l3) (fun i _ => es.length - (intOf i).toNat)
          case atStart => exact ⟨0, _, _, rfl, Nat.zero_le _, (List.append_nil _).symm, by have := HLL2.out; omega, ST2.out⟩
          case round =>
            obtain ⟨k, v3, l3, rfl, hk, hl, hll, hst⟩ := hrel
            clear ST2
            by_cases hkn : k < es.length
            · obtain ⟨n, hn⟩ : ∃ n, es[k]? = some n := ⟨_, List.getElem?_eq_getElem hkn⟩
              obtain ⟨b, off, rfl, -, hbl, cs, ⟨rfl, nok⟩, hc⟩ := (HP.out.below hst.w).en.at hn
              have hkk : k ≤ 1000000000 := by have := SM.out.2.2; omega
              have ll1 := ruleL_len (i := k) nok (by omega)
              have d0 := hc 0 _ rfl
              simp only [Nat.add_zero, Nat.mul_one] at d0
              have e1 : (0 : Int) ≤ (k : Int) := by omega
              have e2 : (k : Int) < (es.length : Int) := by omega
              have T1 := Lib.hid (fun (Wx : World) (hx : Below wr.heap.size wr Wx) => hst.w.trans (hx.mono hst.w.size))
              have C1 := Lib.hid (fun (Wx : World) (hx : Below wr.heap.size wr Wx) => itoaW (k : Int) (i64n (by omega)) Wx (TB.out Wx (T1.out Wx hx)))
              have C2 := Lib.hid (fun (Wx : World) (hx : Below wr.heap.size wr Wx) => itoaW n nok.lo Wx (TB.out Wx (T1.out Wx hx)))
              have hstr : ((((({ data := #[114, 117, 108, 101, 32] } : ByteArray) ++ bs (num k)) ++ { data := #[32, 97, 116, 32] }) ++ bs (num n)) ++ { data := #[10] }) = bs (ruleL k n) := by
                rw [show ({ data := #[114, 117, 108, 101, 32] } : ByteArray) = bs [114, 117, 108, 101, 32] from rfl, show ({ data := #[32, 97, 116, 32] } : ByteArray) = bs [32, 97, 116, 32] from rfl, show ({ data := #[10] } : ByteArray) = bs [10] from rfl]
                simp only [bs_app, ruleL, List.append_assoc]
              have hdat : (bs (ruleL k n)).data.toList = ruleL k n := by simp [bs]
              have hlim : l3.length + (bs (ruleL k n)).size ≤ 130000000000000 := by rw [bs_size]; omega
              have WS := Lib.hid (fun (Wx : World) (hx : Below wr.heap.size wr Wx) => (by have := bw_write (hst.bw.below hx) (Nat.le_trans hst.size hx.size) _ hlim; rw [hdat, ← hstr] at this; exact this :
                Calls Tryd.prog 23 #[.pointer (some ⟨g, 0, none⟩), .string ((((({ data := #[114, 117, 108, 101, 32] } : ByteArray) ++ bs (num k)) ++ { data := #[32, 97, 116, 32] }) ++ bs (num n)) ++ { data := #[10] })] Wx fun e w' => e = .returned (.tuple #[.int .i64 ((((({ data := #[114, 117, 108, 101, 32] } : ByteArray) ++ bs (num k)) ++ { data := #[32, 97, 116, 32] }) ++ bs (num n)) ++ { data := #[10] }).size, .nilIface]) ∧ ∃ v', Bw w' (g + 1) g v' (l3 ++ ruleL k n) ∧ Turns (g :: v3.ownBlock.toList) Wx w'))
              have n1 := num_len (i64n (n := k) (by omega))
              have n2 := num_len nok.lo
              rw [← bs_size] at n1 n2
              have z1 : ¬ 9223372036854775807 < 5 + (bs (num k)).size := by omega
              have z2 : ¬ 9223372036854775807 < 5 + (bs (num k)).size + 4 := by omega
              have z3 : ¬ 9223372036854775807 < 5 + (bs (num k)).size + 4 + (bs (num n)).size := by omega
              have z4 : ¬ 9223372036854775807 < 5 + (bs (num k)).size + 4 + (bs (num n)).size + 1 := by omega
              have HB := Lib.hid ((Below.refl wr.heap.size wr).drew)
              have HX := Lib.hid hst
              have HK := Lib.hid hkn
              have HLE := Lib.hid (show l3 ++ ruleL k n = l2 ++ linesT ruleL es (k + 1) by rw [hl, linesT_succ hn, List.append_assoc])
              have HLL := Lib.hid (show (l3 ++ ruleL k n).length ≤ 1000000000 * 1000 + 1000000000 * 1000 + (k + 1) * 1000 by rw [List.length_append]; omega)
              clear hn hc hkn hst hl hll hstr hdat hlim nok ll1
              go_upto_region 17 with fail
              clear d0
              go_wp2_with fail
              refine (C1.out _ (Below.refl _ _)).mono ?_
              rintro e w7 ⟨rfl, hb7⟩
              have HB7 := Lib.hid hb7
              clear hb7 HB
              go_wp2_with fail
              refine (C2.out _ HB7.out).mono ?_
              rintro e w8 ⟨rfl, hb8⟩
              have HB8 := Lib.hid (HB7.out.trans (hb8.mono HB7.out.size))
              clear hb8 HB7
              go_wp2_with fail
              refine (WS.out _ HB8.out).mono ?_
              rintro e w9 ⟨rfl, v9, hbw9, ht9⟩
              have N1 := Lib.hid ((HX.out.step HB8.out).next hbw9 ht9)
              clear hbw9 ht9 HX T1 C1 C2 WS HB8
              go_wp2
              exact ⟨⟨k + 1, _, _, by go_num, HK.out, HLE.out, HLL.out, N1.out⟩, by simp [intOf]; have := HK.out; omega⟩
            · obtain rfl : k = es.length := by omega
              have HST := Lib.hid hst
              have HL3 := Lib.hid hl
              have SB := Lib.hid (Tryd.Builder_String_any g g l3 wr (isBuilder_of hst.bw) (by have := hst.size; omega))
              clear hst hl hkn hll
              go_wp2_with fail
              refine SB.out.mono ?_
              rintro e w9 ⟨rfl, hb9⟩
              have HB9 := Lib.hid (HST.out.w.trans (hb9.mono (by have := HST.out.hg; omega)))
              clear hb9 SB
              go_wp2
              go_ret
              refine ⟨?_, HB9.out⟩
              rw [HR.out]
              unfold allT
              rw [← HL1.out, ← HL2.out, ← HL3.out]
              rfl

end Go.Proofs.YtonkbjdeaneicaaDoor
