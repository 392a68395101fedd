/- AgendaTurns' own helpers: marked, ints: the numbers that are marked, the same lists. The walks. AgendaTurns' own helpers: number, numbers: the numbers of acts. The walks. AgendaApart: its state. append of one, at elements of any size; changes with lists of their own; what was brought in is written over. -/
import Derived.Test.YtjgigcnjgblekaaDoorKaq17
import Derived.Test.YtjgigcnjgblekaaDoorKaq23
import Derived.Test.YtjgigcnjgblekaaDoorKaq27
namespace Go.Proofs.YtjgigcnjgblekaaDoor
open Go Go.RowKit Go.Maps Classical

def zN (l : List Nat) : List Int := l.map fun k : Nat => (k : Int)
theorem zN_len (l : List Nat) : (zN l).length = l.length := by simp [zN]
theorem zN_ok {l : List Nat} (h : ∀ k ∈ l, k < 21) : ∀ i ∈ zN l, i64ok i := by
  intro i hi
  obtain ⟨k, hk, rfl⟩ := List.mem_map.1 hi
  have := h k hk
  exact WalkArith.wf_i64 (by omega)
theorem filter_succ (I : Nat → Bool) (k : Nat) : (List.range (k + 1)).filter I = if I k = true then (List.range k).filter I ++ [k] else (List.range k).filter I := by
  rw [List.range_succ, List.filter_append]
  by_cases h : I k = true
  · rw [if_pos h]; simp [h]
  · rw [if_neg h]; simp [h]
theorem filter_len (I : Nat → Bool) (k : Nat) : ((List.range k).filter I).length ≤ k := by
  have := List.length_filter_le I (List.range k)
  simpa using this
theorem filter_lt {I : Nat → Bool} {n : Nat} : ∀ k ∈ (List.range n).filter I, k < n := fun _ h => List.mem_range.1 (List.mem_filter.1 h).1
/-- A number more, in a region that draws nothing. -/
theorem wpList_append_Z {w : World} {ops : Array Oper} {rest : List Oper} {o : Oper} {a : Act} {Q : Exit → Act → World → Prop} {B : Nat} {v : Value} {l : List Int} (h : OwnZ w B v l) (hgd : o.guard = none) (s q : Operand)
    (ho : o.op = .call { callee := .builtin .append, args := #[s, q], argTypes := #[22, 22] }) (hs : a.eval s = v) (x : Int) (T : TypeId) {c H : Nat} (hq : a.eval q = .slice (some ⟨H, 0, none⟩) 1 c) (hH : w.heap.size = H) (hn : l.length ≤ 40000000) (hB : B ≤ w.heap.size)
    (k : ∀ A c' w', OwnZ w' B (.slice A (l.length + 1) c') (l ++ [x]) → Below B w w' → wpList Tryd.prog ops Q rest (a.put o.dst (.slice A (l.length + 1) c')) w') : wpList Tryd.prog ops Q (o :: rest) a (w.alloc (.cells #[.int .i64 x] T)) := by
  subst hH
  refine wpList_append_one hgd s q 22 ho B 3 Tryd.underlying22 infoIntR rfl (by decide) v l.length (intVs l) hs (h.below ((Below.refl w.heap.size w).alloc (Nat.le_refl _) (.cells #[.int .i64 x] T))) ⟨w.heap.size, 0, none⟩ c hq [.int .i64 x] rfl (World.news_of_block (heap_alloc_new w _)) (by simp [Value.oneCell']) (.inl (by omega)) (by decide) (by simp; omega) ?_
  intro g cap w' hown ht
  refine k _ _ w' ?_ (((Below.refl B w).alloc hB _).trans (ht.below (by simp; omega) (fun b hb => (ownBlock_cells h (by simpa using hb)).1)))
  unfold OwnZ
  rw [show intVs (l ++ [x]) = intVs l ++ [.int .i64 x] by simp [intVs], List.length_append]
  exact hown
set_option maxRecDepth 100000 in
set_option maxHeartbeats 4000000 in
theorem markedW (I : Nat → Bool) (bv : Array Value) (hb : ∀ k, k < 21 → bv[k]? = some (.bool (I k))) (w : World) :
    Calls Tryd.prog 40 #[.agg bv] w fun e w' => ∃ v, e = .returned v ∧ OwnZ w' w.heap.size v (zN ((List.range 21).filter I)) ∧ Below w.heap.size w w' := by
  obtain ⟨w0, hw0⟩ : ∃ w0, w0 = w.alloc (.cells bv 45) := ⟨_, rfl⟩
  have hx0 : Below (w.heap.size + 1) (w.alloc (.cells bv 45)) w0 := by rw [hw0]; exact Below.refl _ _
  have hb0 := box_belowD hx0
  have hs0 : w0.heap.size = w.heap.size + 1 := by rw [hw0]; simp
  have BX := Lib.hid (fun (k : Nat) (hk : k < 21) (W : World) (hW : Below w0.heap.size w0 W) => ((hW.cell (p := ⟨w.heap.size, k, none⟩) (by show w.heap.size < w0.heap.size; omega)).trans (box_cellD hx0 k (by rw [Array.getElem?_toList]; exact hb k hk)) : W.cell? ⟨w.heap.size, k, none⟩ = some (.bool (I k))))
  have HB := Lib.hid hb0
  have HS := Lib.hid hs0
  have E0 := Lib.hid (Below.refl w0.heap.size w0)
  clear hx0 hb0 hs0 hb
  go_enter Tryd.func40, Tryd.ntmps40
  go_upto_region 2 with fail
  rw [← hw0]
  clear hw0
  go_wp2
  go_loopw [3, 4] (fun ov i wr => ∃ (k : Nat) (vo : Value), i = .int .i64 (k : Int) ∧ ov = vo ∧ k ≤ 21 ∧ OwnZ wr w0.heap.size vo (zN ((List.range k).filter I)) ∧ Below w0.heap.size w0 wr) (fun _ i _ => 21 - (intOf i).toNat)
  case atStart => exact ⟨0, _, rfl, rfl, by omega, World.ownsRow_nil _ _ _ _, E0.out⟩
  case round =>
    obtain ⟨k, vo, rfl, rfl, hk, ho, hbw⟩ := hrel
    have HBW := Lib.hid hbw
    have HO := Lib.hid ho
    clear hbw
    by_cases hkn : k < 21
    · have d0 := BX.out k hkn wr HBW.out
      have e1 : (0 : Int) ≤ (k : Int) := by omega
      have e2 : (k : Int) < 21 := by omega
      obtain ⟨A, c, hvo⟩ := ho.form
      rw [zN_len] at hvo
      subst hvo
      clear ho
      cases hI : I k with
      | false =>
        rw [hI] at d0
        have HF := Lib.hid (show (List.range (k + 1)).filter I = (List.range k).filter I by rw [filter_succ, if_neg (by rw [hI]; simp)])
        go_wp2
        exact ⟨⟨k + 1, _, by go_num, rfl, by omega, by rw [HF.out]; exact HO.out, HBW.out⟩, by simp [intOf]; omega⟩
      | true =>
        rw [hI] at d0
        have HF := Lib.hid (show (List.range (k + 1)).filter I = (List.range k).filter I ++ [k] by rw [filter_succ, if_pos hI])
        have HL := Lib.hid (show (zN ((List.range k).filter I)).length ≤ 40000000 by rw [zN_len]; have := filter_len I k; omega)
        go_wp2_with (at_builtin; refine wpList_append_Z HO.out rfl (.tmp 12) (.tmp 14) rfl rfl (k : Int) _ rfl rfl HL.out HBW.out.size ?_; intro A2 c2 w2 ho2 hb2; have HO2 := Lib.hid ho2; have HB2 := Lib.hid (HBW.out.trans hb2); clear ho2 hb2)
        exact ⟨⟨k + 1, _, by go_num, rfl, by omega, by rw [HF.out]; unfold zN at HO2 ⊢; rw [List.map_append]; exact HO2.out, HB2.out⟩, by simp [intOf]; omega⟩
    · obtain rfl : k = 21 := by omega
      clear ho
      go_wp2
      go_ret
      exact ⟨_, rfl, HO.out.down (by have := HS.out; omega), HB.out.trans (HBW.out.mono HB.out.size)⟩
set_option maxRecDepth 100000 in
set_option maxHeartbeats 4000000 in
theorem intsW {F F' : Nat → Prop} (v1 v2 : Value) (l : List Int) (w : World) (h1 : RSl F w 1 EInt v1 l) (h2 : RSl F' w 1 EInt v2 l) :
    Calls Tryd.prog 39 #[v1, v2] w fun e w' => e = .returned (.bool true) ∧ Below w.heap.size w w' := by
  obtain ⟨A1, c1, rfl⟩ := h1.form
  obtain ⟨A2, c2, rfl⟩ := h2.form
  have hm := h1.len
  unfold maxLen at hm
  have H1 := Lib.hid h1
  have H2 := Lib.hid h2
  have hll : ((l.length : Int) == (l.length : Int)) = true := by simp
  have E0 := Lib.hid (Below.refl w.heap.size w)
  clear h1 h2
  go_enter Tryd.func39, Tryd.ntmps39
  go_wp2
  go_loopw [5] (fun i wr => ∃ k : Nat, i = .int .i64 (k : Int) ∧ k ≤ l.length ∧ Below w.heap.size w wr) (fun i _ => l.length - (intOf i).toNat)
  case atStart => exact ⟨0, rfl, Nat.zero_le _, E0.out⟩
  case round =>
    obtain ⟨k, rfl, hk, hb⟩ := hrel
    have HBW := Lib.hid hb
    by_cases hkn : k < l.length
    · obtain ⟨s, hs⟩ : ∃ s, l[k]? = some s := ⟨_, List.getElem?_eq_getElem hkn⟩
      obtain ⟨b, off, rfl, _, _, cs, ⟨rfl, hok⟩, hc⟩ := (H1.out.keep (Kp.of_below hb)).at hs
      obtain ⟨b', off', rfl, _, _, cs', ⟨rfl, hok'⟩, hc'⟩ := (H2.out.keep (Kp.of_below hb)).at hs
      have d0 := hc 0 _ rfl
      have d1 := hc' 0 _ rfl
      simp only [Nat.add_zero, Nat.mul_one] at d0 d1
      have e1 : (0 : Int) ≤ (k : Int) := by omega
      have e2 : (k : Int) < (l.length : Int) := by omega
      have DN := Lib.hid (fun q => below_drewNA hb q)
      clear hc hc' hs hb hok hok'
      go_wp2_with fail
      go_quiet (fail)
      go_wp2
      exact ⟨⟨k + 1, by go_num, by omega, DN.out _⟩, by simp [intOf]; omega⟩
    · obtain rfl : k = l.length := by omega
      clear hb
      go_wp2
      go_ret
      exact ⟨rfl, HBW.out⟩
end Go.Proofs.YtjgigcnjgblekaaDoor

namespace Go.Proofs.YtjgigcnjgblekaaDoor
open Go Go.RowKit Go.Maps Classical

theorem all21_shape {a : Ac} (h : a ∈ all21) : a = ⟨0, []⟩ ∨ (∃ i : Nat, i < 4 ∧ a = ⟨1, [(i : Int)]⟩) ∨ ∃ i j : Nat, i < 4 ∧ j < 4 ∧ a = ⟨2, [(i : Int), (j : Int)]⟩ := by
  unfold all21 at h
  simp only [List.mem_cons, List.not_mem_nil, or_false] at h
  rcases h with rfl | rfl | rfl | rfl | rfl | rfl | rfl | rfl | rfl | rfl | rfl | rfl | rfl | rfl | rfl | rfl | rfl | rfl | rfl | rfl | rfl
  · exact .inl rfl
  · exact .inr (.inl ⟨0, by omega, rfl⟩)
  · exact .inr (.inl ⟨1, by omega, rfl⟩)
  · exact .inr (.inl ⟨2, by omega, rfl⟩)
  · exact .inr (.inl ⟨3, by omega, rfl⟩)
  · exact .inr (.inr ⟨0, 0, by omega, by omega, rfl⟩)
  · exact .inr (.inr ⟨0, 1, by omega, by omega, rfl⟩)
  · exact .inr (.inr ⟨0, 2, by omega, by omega, rfl⟩)
  · exact .inr (.inr ⟨0, 3, by omega, by omega, rfl⟩)
  · exact .inr (.inr ⟨1, 0, by omega, by omega, rfl⟩)
  · exact .inr (.inr ⟨1, 1, by omega, by omega, rfl⟩)
  · exact .inr (.inr ⟨1, 2, by omega, by omega, rfl⟩)
  · exact .inr (.inr ⟨1, 3, by omega, by omega, rfl⟩)
  · exact .inr (.inr ⟨2, 0, by omega, by omega, rfl⟩)
  · exact .inr (.inr ⟨2, 1, by omega, by omega, rfl⟩)
  · exact .inr (.inr ⟨2, 2, by omega, by omega, rfl⟩)
  · exact .inr (.inr ⟨2, 3, by omega, by omega, rfl⟩)
  · exact .inr (.inr ⟨3, 0, by omega, by omega, rfl⟩)
  · exact .inr (.inr ⟨3, 1, by omega, by omega, rfl⟩)
  · exact .inr (.inr ⟨3, 2, by omega, by omega, rfl⟩)
  · exact .inr (.inr ⟨3, 3, by omega, by omega, rfl⟩)
theorem all21_facts {a : Ac} (h : a ∈ all21) : (0 ≤ a.rule ∧ a.rule ≤ 2) ∧ (a.sub.length : Int) = a.rule ∧ ∀ i ∈ a.sub, 0 ≤ i ∧ i ≤ 3 := by
  rcases all21_shape h with rfl | ⟨i, hi, rfl⟩ | ⟨i, j, hi, hj, rfl⟩
  · simp
  · simp; omega
  · simp; omega
theorem rk_lt (i : Int) : rk i < 4 := by unfold rk; repeat' split <;> try omega
def rkVs : Array Value := #[.int .i64 2, .int .i64 1, .int .i64 0, .int .i64 3]
theorem rk_at : ∀ {i : Nat}, i < 4 → rkVs[i]? = some (.int .i64 (rk (i : Int)))
  | 0, _ => rfl
  | 1, _ => rfl
  | 2, _ => rfl
  | 3, _ => rfl
  | i + 4, h => by omega
set_option maxRecDepth 100000 in
set_option maxHeartbeats 4000000 in
theorem numberW {F : Nat → Prop} (a : Ac) (v : Value) (w : World) (h : RSl F w 1 EInt v a.sub) (ha : a ∈ all21) :
    Calls Tryd.prog 16 #[.agg #[.int .i64 a.rule, v]] w fun e w' => e = .returned (.int .i64 (numA a)) ∧ Below w.heap.size w w' := by
  obtain ⟨A, c, rfl⟩ := h.form
  obtain ⟨w0, hw0⟩ : ∃ w0, w0 = w.alloc (.cells #[.int .i64 a.rule, .slice A a.sub.length c] 30) := ⟨_, rfl⟩
  have hx0 : Below (w.heap.size + 1) (w.alloc (.cells #[.int .i64 a.rule, .slice A a.sub.length c] 30)) w0 := by rw [hw0]; exact Below.refl _ _
  have hb0 := box_belowD hx0
  have hs0 : w0.heap.size = w.heap.size + 1 := by rw [hw0]; simp
  obtain ⟨w1, hw1⟩ : ∃ w1, w1 = w0.alloc (.cells #[.int .i64 2, .int .i64 1, .int .i64 0, .int .i64 3] 85) := ⟨_, rfl⟩
  have hb1 : Below w0.heap.size w0 w1 := by rw [hw1]; exact (Below.refl _ _).alloc (Nat.le_refl _) _
  have x1 : w1.cell? ⟨w.heap.size, 1, none⟩ = some (.slice A a.sub.length c) := (hb1.cell (p := ⟨w.heap.size, 1, none⟩) (by show w.heap.size < w0.heap.size; omega)).trans (box_cellD hx0 1 rfl)
  have RK := Lib.hid (fun (i : Nat) (hi : i < 4) => (show w1.cell? ⟨w0.heap.size, i, none⟩ = some (.int .i64 (rk (i : Int))) from by
    rw [hw1]
    exact (cell_of_row _ _ i _ _ _ (heap_alloc_new w0 (.cells #[.int .i64 2, .int .i64 1, .int .i64 0, .int .i64 3] 85))).trans (rk_at hi)))
  have HB := Lib.hid (hb0.trans (hb1.mono hb0.size))
  have H1 := Lib.hid (h.keep (Kp.of_below HB.out))
  clear hx0 hb0 hb1 hs0
  go_enter Tryd.func16, Tryd.ntmps16
  go_upto_region 1 with fail
  rw [← hw0]
  clear hw0
  go_upto_region 2 with fail
  rw [← hw1]
  clear hw1
  rcases all21_shape ha with rfl | ⟨i, hi, rfl⟩ | ⟨i, j, hi, hj, rfl⟩ <;> simp only [List.length_cons, List.length_nil, Nat.zero_add, Nat.reduceAdd] at x1
  · go_wp2
    go_ret
    exact ⟨rfl, HB.out⟩
  · have d1 := RK.out i hi
    obtain ⟨b, off, rfl, _, _, cs, ⟨rfl, hok⟩, hc⟩ := H1.out.at (i := 0) (x := (i : Int)) rfl
    have d0 := hc 0 _ rfl
    simp only [Nat.add_zero, Nat.mul_one] at d0
    have hr := rk_lt (i : Int)
    have HR := Lib.hid (show numA ⟨1, [(i : Int)]⟩ = 1 + rk (i : Int) from rfl)
    obtain ⟨r, hrr⟩ : ∃ r, rk (i : Int) = r := ⟨_, rfl⟩
    rw [hrr] at d1 hr HR
    have e1 : (0 : Int) ≤ (i : Int) := by omega
    have e2 : (i : Int) < 4 := by omega
    clear hc hok hrr
    go_wp2
    go_ret
    exact ⟨ret_i64A (by rw [HR.out]; omega), HB.out⟩
  · have d2 := RK.out i hi
    have d3 := RK.out j hj
    obtain ⟨b, off, rfl, _, _, cs, ⟨rfl, hok⟩, hc⟩ := H1.out.at (i := 0) (x := (i : Int)) rfl
    obtain ⟨b', off', hA, _, _, cs', ⟨rfl, hok'⟩, hc'⟩ := H1.out.at (i := 1) (x := (j : Int)) rfl
    simp only [Option.some.injEq, Addr.mk.injEq, and_true] at hA
    obtain ⟨rfl, rfl⟩ := hA
    have d0 := hc 0 _ rfl
    have d1 := hc' 0 _ rfl
    simp only [Nat.add_zero, Nat.mul_one] at d0 d1
    have hr := rk_lt (i : Int)
    have hs := rk_lt (j : Int)
    have HR := Lib.hid (show numA ⟨2, [(i : Int), (j : Int)]⟩ = 5 + 4 * rk (i : Int) + rk (j : Int) from rfl)
    obtain ⟨r, hrr⟩ : ∃ r, rk (i : Int) = r := ⟨_, rfl⟩
    obtain ⟨s, hss⟩ : ∃ s, rk (j : Int) = s := ⟨_, rfl⟩
    rw [hrr] at d2 hr HR
    rw [hss] at d3 hs HR
    have e1 : (0 : Int) ≤ (i : Int) := by omega
    have e2 : (i : Int) < 4 := by omega
    have e3 : (0 : Int) ≤ (j : Int) := by omega
    have e4 : (j : Int) < 4 := by omega
    clear hc hok hc' hok' hrr hss
    go_upto_region 7 with fail
    go_quiet (fail)
    have HQ := Lib.hid (below_drewNA (Below.refl w1.heap.size w1) nq)
    go_wp2
    go_ret
    exact ⟨ret_i64A (by rw [HR.out]; omega), HB.out.trans (HQ.out.mono HB.out.size)⟩
/-- What numbers leaves. -/
def NumRes (l : List Ac) (w : World) (e : Ending) (w' : World) : Prop := ∃ v, e = .returned (.tuple #[v, .bool true]) ∧ OwnZ w' w.heap.size v (zN (l.map numA)) ∧ Below w.heap.size w w'
set_option maxRecDepth 100000 in
set_option maxHeartbeats 8000000 in
theorem numbersW {F : Nat → Prop} (v : Value) (l : List Ac) (w : World) (h : RSl F w 2 (EAc F w) v l) (hl : ∀ a ∈ l, a ∈ all21) (hn : l.length ≤ 40000000) :
    Calls Tryd.prog 26 #[v] w (NumRes l w) := by
  obtain ⟨A, c, rfl⟩ := h.form
  have H := Lib.hid h
  have HLL := Lib.hid hl
  have HN := Lib.hid hn
  have hm : (l.length : Int) ≤ 40000000 := by omega
  have E0 := Lib.hid (Below.refl w.heap.size w)
  clear h hl hn
  go_enter Tryd.func26, Tryd.ntmps26
  go_wp2
  go_loopw [4, 5] (fun ov i wr => ∃ (k : Nat) (vo : Value), i = .int .i64 (k : Int) ∧ ov = vo ∧ k ≤ l.length ∧ OwnZ wr w.heap.size vo (zN ((l.take k).map numA)) ∧ Below w.heap.size w wr) (fun _ i _ => l.length - (intOf i).toNat)
  case atStart => exact ⟨0, _, rfl, rfl, Nat.zero_le _, World.ownsRow_nil _ _ _ _, E0.out⟩
  case round =>
    obtain ⟨k, vo, rfl, rfl, hk, ho, hbw⟩ := hrel
    have HBW := Lib.hid hbw
    have HO := Lib.hid ho
    obtain ⟨A5, c5, hvo⟩ := ho.form
    rw [zN_len, List.length_map, List.length_take, Nat.min_eq_left hk] at hvo
    subst hvo
    clear ho
    by_cases hkn : k < l.length
    · obtain ⟨a, ha⟩ : ∃ a, l[k]? = some a := ⟨_, List.getElem?_eq_getElem hkn⟩
      have HAM := Lib.hid (HLL.out a (List.mem_of_getElem? ha))
      have HTK := Lib.hid (show zN ((l.take (k + 1)).map numA) = zN ((l.take k).map numA) ++ [(numA a : Int)] by
        rw [List.take_add_one, ha]; simp [zN])
      obtain ⟨b, off, rfl, _, _, cs, ⟨sv, rfl, hok, hsv⟩, hc⟩ := (EAc.all H.out (Kp.of_below HBW.out) (fun _ _ h => h)).at ha
      obtain ⟨A3, c3, rfl⟩ := hsv.form
      have d0 := hc 0 _ rfl
      have d1 := hc 1 _ rfl
      simp only [Nat.add_zero] at d0
      obtain ⟨⟨r1, r2⟩, r3, r4⟩ := all21_facts HAM.out
      have R4 := Lib.hid r4
      obtain ⟨w1, hw1⟩ : ∃ w1, w1 = wr.alloc (.cells #[.int .i64 a.rule, .slice A3 a.sub.length c3] 30) := ⟨_, rfl⟩
      have hb1 : Below wr.heap.size wr w1 := by rw [hw1]; exact (Below.refl _ _).alloc (Nat.le_refl _) _
      have y0 : w1.cell? ⟨wr.heap.size, 0, none⟩ = some (.int .i64 a.rule) := by rw [hw1]; exact cell_of_row _ _ 0 _ _ _ (heap_alloc_new wr _)
      have y1 : w1.cell? ⟨wr.heap.size, 1, none⟩ = some (.slice A3 a.sub.length c3) := by rw [hw1]; exact cell_of_row _ _ 1 _ _ _ (heap_alloc_new wr _)
      have HSV := Lib.hid (hsv.keep (Kp.of_below hb1))
      have HO1 := Lib.hid (HO.out.below (HBW.out.trans (hb1.mono HBW.out.size) |> fun _ => hb1))
      have B1 := Lib.hid (HBW.out.trans (hb1.mono HBW.out.size))
      have hne : ((a.sub.length : Int) == a.rule) = true := by simpa using r3
      have e1 : (0 : Int) ≤ (k : Int) := by omega
      have e2 : (k : Int) < (l.length : Int) := by omega
      clear ha hc hok hsv r4 hb1 hbw
      go_upto_region 6 with fail
      rw [← hw1]
      clear hw1 d0 d1
      go_upto_region 9 with fail
      go_loopw [7] (fun j wq => ∃ q : Nat, j = .int .i64 (q : Int) ∧ q ≤ a.sub.length ∧ wq = w1) (fun j _ => a.sub.length - (intOf j).toNat)
      case atStart => exact ⟨0, rfl, Nat.zero_le _, rfl⟩
      case round =>
        obtain ⟨q, rfl, hq, hwq⟩ := hrel
        subst hwq
        by_cases hqn : q < a.sub.length
        · obtain ⟨s, hs⟩ : ∃ s, a.sub[q]? = some s := ⟨_, List.getElem?_eq_getElem hqn⟩
          obtain ⟨s1, s2⟩ := R4.out s (List.mem_of_getElem? hs)
          obtain ⟨b', off', rfl, _, _, cs', ⟨rfl, hok'⟩, hc'⟩ := HSV.out.at hs
          have d0 := hc' 0 _ rfl
          simp only [Nat.add_zero, Nat.mul_one] at d0
          have i1 : (0 : Int) ≤ (q : Int) := by omega
          have i2 : (q : Int) < (a.sub.length : Int) := by omega
          clear hs hc' hok'
          go_wp2
          exact ⟨⟨q + 1, by go_num, by omega, by first | rfl | trivial⟩, by simp [intOf]; omega⟩
        · obtain rfl : q = a.sub.length := by omega
          have NW := Lib.hid (numberW a (.slice A3 a.sub.length c3) _ HSV.out HAM.out)
          go_wp2_with fail
          refine NW.out.mono ?_
          rintro e w2 ⟨rfl, hb2⟩
          have HO2 := Lib.hid (HO1.out.below hb2)
          have B2 := Lib.hid (B1.out.trans (hb2.mono B1.out.size))
          have HL := Lib.hid (show (zN ((l.take k).map numA)).length = k by rw [zN_len, List.length_map, List.length_take, Nat.min_eq_left hk])
          clear hb2 y0 y1
          go_wp2_with (at_builtin; refine wpList_append_Z HO2.out rfl (.tmp 55) (.tmp 58) rfl rfl (numA a : Int) _ rfl rfl (by rw [HL.out]; have := HN.out; omega) B2.out.size ?_; rw [HL.out]; intro A6 c6 w3 ho3 hb3; have HO3 := Lib.hid ho3; have HB3 := Lib.hid (B2.out.trans hb3); clear ho3 hb3)
          exact ⟨⟨k + 1, _, by go_num, rfl, by omega, by rw [HTK.out]; exact HO3.out, HB3.out⟩, by simp [intOf]; omega⟩
    · obtain rfl : k = l.length := by omega
      clear hbw
      go_wp2
      go_ret2
      refine ⟨_, rfl, ?_, HBW.out⟩
      have := HO.out
      rw [List.take_length] at this
      exact this
end Go.Proofs.YtjgigcnjgblekaaDoor

namespace Go.Proofs.YtjgigcnjgblekaaDoor
open Go Go.RowKit Go.Maps Classical

theorem room_any {n bytes : Nat} (hn : 0 < bytes ∧ n * bytes ≤ 200000000000000) (hb : bytes ≤ 1000) : n ≤ 200000000000000 ∧ (256 ≤ n → Builtin.nextslicecap (n + 1) n * bytes ≤ 281474976710656) := by
  refine ⟨Nat.le_trans (Nat.le_mul_of_pos_right n hn.1) hn.2, fun h => ?_⟩
  have q := Nat.mul_le_mul_right bytes (quarterN h)
  rw [Nat.mul_assoc, Nat.add_mul, Nat.mul_assoc] at q
  have : 772 * bytes ≤ 772 * 1000 := Nat.mul_le_mul_left _ hb
  have := hn.2
  omega
section
variable {P : Program} (w : World)
theorem run_append1b (t ty : TypeId) (base : Nat) (e : TypeId) (i : TypeInfo) (z : Value) (size bytes : Nat) (ht : P.underlying t = some (.slice e)) (hi : P.info? e = some i) (hz : i.zero = some z)
    (hsize : i.size = size) (hby : i.bytes = bytes) (hzs : z.cells.size = size) (hsz : 0 < size)
    (v : Value) (n : Nat) (xs : List Value) (hown : w.ownsRow base e size v n xs)
    (ad : Addr) (c : Nat) (news : List Value) (hl : news.length = 1 * size) (hnews : ∀ j u, news[j]? = some u → w.cell? (ad.add j) = some u) (h1 : ∀ u ∈ news, u.oneCell' = true)
    (hn : 0 < bytes ∧ n * bytes ≤ 200000000000000) (hb : bytes ≤ 1000) (hbase : base ≤ w.heap.size) (H : Nat) (hH : w.heap.size = H) :
    ∃ g cap w', (Builtin.append_ #[t, t] ty #[v, .slice (some ad) 1 c]).run P w = .ok (.slice (some ⟨g, 0, none⟩) (n + 1) cap) w' ∧
      w'.ownsRow base e size (.slice (some ⟨g, 0, none⟩) (n + 1) cap) (n + 1) (xs ++ news) ∧ w.grownBy w' v.ownBlock ∧ (v.ownBlock = some g ∨ g = H) ∧ g < w'.heap.size := by
  have hroo := room_any hn hb
  have h63 : n + 1 ≤ maxLen := by have := hroo.1; unfold maxLen; omega
  by_cases hbytes : (n + 1) * bytes ≤ 140737488355328
  · exact run_append_lies (P := P) w t ty base e i z size bytes ht hi hz hsize hby hzs hsz v n xs hown ad 1 c news hl hnews h1 (by omega) h63 hbytes hbase H hH
  subst hsize
  subst hby
  have hbig : 256 ≤ n := by
    rcases Nat.lt_or_ge n 256 with h | h
    · exact absurd (Nat.le_trans (Nat.mul_le_mul (show n + 1 ≤ 256 by omega) hb) (by decide)) hbytes
    · exact h
  have hlen : (xs ++ news).length = (n + 1) * i.size := by rw [List.length_append, hown.1, hl, Nat.add_mul]
  rcases hown.2 with ⟨_, h0⟩ | ⟨g, cap, cur, rfl, hbg, hg, hnc, hcm, hcs, htake⟩
  · omega
  by_cases hroom : n + 1 ≤ cap
  · have hfit : n * i.size + news.length ≤ cur.size := by rw [hl, hcs, ← Nat.add_mul]; exact Nat.mul_le_mul_right _ hroom
    have hr := run_append_room (P := P) w t ty e i ht hi g n cap cur hg ad 1 c news hl hnews h1 hroom hfit
    have hglt : g < w.heap.size := (Array.getElem?_eq_some_iff.1 hg).1
    refine ⟨g, cap, _, hr, ⟨hlen, .inr ⟨g, cap, _, rfl, hbg, setRow_heap w g cur _ e _ hg, hroom, hcm, ?_, ?_⟩⟩, ⟨rfl, rfl, rfl, by simp, fun k _ hk => setRow_other w g k _ (fun e => hk (by simp [Value.ownBlock, e]))⟩, .inl rfl, by simpa using hglt⟩
    · simp only [List.size_toArray, List.length_append, List.length_take, List.length_drop, Array.length_toList]
      omega
    · rw [htake, ← hlen]
      exact List.take_left
  · obtain rfl : cap = n := by omega
    have holds : ∀ j u, xs[j]? = some u → w.cell? ((⟨g, 0, none⟩ : Addr).add j) = some u := hown.cells (g := g) rfl
    have hfits : Builtin.nextslicecap (cap + 1) cap * i.bytes ≤ 281474976710656 := hroo.2 hbig
    have hr := run_append_grow (P := P) w t ty e i z ht hi hz ⟨g, 0, none⟩ cap cap xs hown.1 holds ad 1 c news hl hnews (by omega) (by unfold maxLen at h63; omega) hfits
    have hge := grownCap_ge w (cap + 1) cap e
    have hgm := grownCap_le_maxLen w (cap + 1) cap e h63
    refine ⟨w.heap.size, _, _, hr, ⟨hlen, .inr ⟨w.heap.size, _, _, rfl, hbase, heap_alloc_new w.drew _, hge, hgm, ?_, ?_⟩⟩, ⟨rfl, rfl, rfl, by simp, fun k hk _ => heap_alloc_old w.drew _ hk⟩, .inr hH, by simp⟩
    · simp only [Array.size_append, List.size_toArray, size_zeroCells, hzs, hown.1, hl, ← Nat.add_mul]
      congr 1
      omega
    · simp only [Array.toList_append, List.append_assoc]
      rw [← List.append_assoc, ← hlen]
      exact List.take_left
end
/-- Changes as cells. -/
def cCells (zs : List (Ac × Value)) : List Value := zs.flatMap fun z => [.bool true, .int .i64 z.1.rule, z.2]
theorem cCells_app (zs ys : List (Ac × Value)) : cCells (zs ++ ys) = cCells zs ++ cCells ys := by simp [cCells]
theorem cCells_len : ∀ zs : List (Ac × Value), (cCells zs).length = zs.length * 3
  | [] => rfl
  | z :: zs => by
    have := cCells_len zs
    simp only [cCells, List.flatMap_cons, List.length_append, List.length_cons, List.length_nil] at this ⊢
    omega
theorem cCells_at : ∀ {zs : List (Ac × Value)} {i : Nat} {z : Ac × Value}, zs[i]? = some z → (cCells zs)[i * 3]? = some (.bool true) ∧ (cCells zs)[i * 3 + 1]? = some (.int .i64 z.1.rule) ∧ (cCells zs)[i * 3 + 2]? = some z.2
  | [], _, _, h => by simp at h
  | z :: zs, 0, _, h => by
    simp only [List.getElem?_cons_zero, Option.some.injEq] at h
    subst h
    simp [cCells]
  | z :: zs, i + 1, y, h => by
    have := cCells_at (zs := zs) (i := i) (z := y) (by simpa using h)
    have e : cCells (z :: zs) = [.bool true, .int .i64 z.1.rule, z.2] ++ cCells zs := rfl
    rw [e, show (i + 1) * 3 = 3 + i * 3 by omega]
    refine ⟨?_, ?_, ?_⟩
    · rw [List.getElem?_append_right (by simp)]; simpa using this.1
    · rw [List.getElem?_append_right (by simp; omega)]; simpa [show 3 + i * 3 + 1 - 3 = i * 3 + 1 by omega] using this.2.1
    · rw [List.getElem?_append_right (by simp; omega)]; simpa [show 3 + i * 3 + 2 - 3 = i * 3 + 2 by omega] using this.2.2
/-- Changes of the law's own: a row, each act's list in a row of its own. -/
structure InSt (B : Nat) (w : World) (v : Value) (zs : List (Ac × Value)) : Prop where
  row : w.ownsRow B 36 3 v zs.length (cCells zs)
  sub : ∀ z ∈ zs, OwnZ w B z.2 z.1.sub ∧ z.1 ∈ all21
  ne : ∀ z ∈ zs, ∀ b, z.2.ownBlock = some b → v.ownBlock ≠ some b
  ap : zs.Pairwise (fun x y => ∀ b, x.2.ownBlock = some b → y.2.ownBlock ≠ some b)
section
variable {B : Nat} {w w' : World} {v : Value} {zs : List (Ac × Value)}
theorem InSt.turns (h : InSt B w v zs) {S : List Nat} (ht : Turns S w w') (hs : ∀ x ∈ S, x < B) : InSt B w' v zs :=
  ⟨ownsRow_turns h.row ht (fun b hb hm => by have := (ownBlock_cells h.row hb).1; have := hs b hm; omega),
   fun z hz => ⟨(h.sub z hz).1.turns ht (fun b hb hm => by have := (ownBlock_cells (h.sub z hz).1 hb).1; have := hs b hm; omega), (h.sub z hz).2⟩, h.ne, h.ap⟩
theorem InSt.below (h : InSt B w v zs) (hb : Below w.heap.size w w') : InSt B w' v zs :=
  ⟨ownsRow_turns h.row (Turns.of_below (S := []) hb) (fun _ _ => by simp), fun z hz => ⟨(h.sub z hz).1.below hb, (h.sub z hz).2⟩, h.ne, h.ap⟩
theorem InSt.nil : InSt B w (.slice none 0 0) [] := ⟨World.ownsRow_nil _ _ _ _, fun z h => by simp at h, fun z h => by simp at h, List.Pairwise.nil⟩
theorem InSt.form (h : InSt B w v zs) : ∃ A c, v = .slice A zs.length c := own_form1 h.row
/-- One more comes. -/
theorem InSt.push (h : InSt B w v zs) {w1 w2 : World} (hb : Below w.heap.size w w1) (hB : B ≤ w.heap.size) {a : Ac} {sv : Value} (hs : OwnZ w1 w.heap.size sv a.sub) (hok : a ∈ all21) {g cap : Nat}
    (hown : w2.ownsRow B 36 3 (.slice (some ⟨g, 0, none⟩) (zs.length + 1) cap) (zs.length + 1) (cCells zs ++ [.bool true, .int .i64 a.rule, sv])) (T : Turns v.ownBlock.toList w1 w2) (hat : v.ownBlock = some g ∨ w1.heap.size ≤ g) :
    InSt B w2 (.slice (some ⟨g, 0, none⟩) (zs.length + 1) cap) (zs ++ [(a, sv)]) := by
  have h1 := h.below hb
  have svb : ∀ b, sv.ownBlock = some b → w.heap.size ≤ b ∧ b < w1.heap.size := fun b e => ⟨(ownBlock_cells hs e).1, (ownBlock_cells hs e).2.1⟩
  have vb : ∀ b, v.ownBlock = some b → b < w.heap.size := fun b e => (ownBlock_cells h.row e).2.1
  have zb : ∀ z ∈ zs, ∀ b, z.2.ownBlock = some b → b < w.heap.size := fun z hz b e => (ownBlock_cells (h.sub z hz).1 e).2.1
  have memv : ∀ {b : Nat}, b ∈ v.ownBlock.toList → v.ownBlock = some b := fun hm => by simpa using hm
  refine ⟨by rw [cCells_app]; simpa [cCells] using hown, fun z hz => ?_, fun z hz b e => ?_, ?_⟩
  · rcases List.mem_append.1 hz with hz | hz
    · exact ⟨(h1.sub z hz).1.turns T (fun b e hm => h.ne z hz b e (memv hm)), (h.sub z hz).2⟩
    · rw [List.mem_singleton.1 hz]
      exact ⟨(hs.turns T (fun b e hm => by have := svb b e; have := vb b (memv hm); omega)).down hB, hok⟩
  · intro e2
    have eg : b = g := by simpa [Value.ownBlock] using e2.symm
    subst eg
    rcases List.mem_append.1 hz with hz | hz
    · rcases hat with hat | hat
      · exact h.ne z hz b e hat
      · have := zb z hz b e; have := hb.size; omega
    · rw [List.mem_singleton.1 hz] at e
      have := svb b e
      rcases hat with hat | hat
      · have := vb b hat; omega
      · omega
  · rw [List.pairwise_append]
    refine ⟨h.ap, by simp, fun x hx y hy b e e2 => ?_⟩
    rw [List.mem_singleton.1 hy] at e2
    have := zb x hx b e
    have := svb b e2
    omega
def came (zs : List (Ac × Value)) : List (Bool × Ac) := zs.map fun z => (true, z.1)
/-- It is read. -/
theorem InSt.rsl (h : InSt B w v zs) : RSl (fun b => B ≤ b) w 3 (EChg (fun b => B ≤ b) w) v (came zs) := by
  refine RSl.of_own h.row (by simp [came]) (fun b hb => (ownBlock_cells h.row hb).1) (fun i a ha => ?_)
  unfold came at ha
  rw [List.getElem?_map, Option.map_eq_some_iff] at ha
  obtain ⟨z, hz, rfl⟩ := ha
  obtain ⟨h1, h2⟩ := h.sub z (List.mem_of_getElem? hz)
  have hok := all21_ok h2
  refine ⟨_, ⟨z.2, rfl, hok, h1.rsl (fun b hb => (ownBlock_cells h1 hb).1) hok.sub⟩, fun j u hu => ?_⟩
  obtain ⟨q1, q2, q3⟩ := cCells_at hz
  match j with
  | 0 => simp only [List.getElem?_cons_zero, Option.some.injEq] at hu; rw [Nat.add_zero, q1, hu]
  | 1 => simp only [List.getElem?_cons_succ, List.getElem?_cons_zero, Option.some.injEq] at hu; rw [q2, hu]
  | 2 => simp only [List.getElem?_cons_succ, List.getElem?_cons_zero, Option.some.injEq] at hu; rw [q3, hu]
  | j + 3 => simp at hu
theorem own_cell {B cnt : Nat} {sz : Nat} {T : TypeId} {v : Value} {cs : List Value} (h : w.ownsRow B T sz v cnt cs) {i : Nat} (hi : i < cnt * sz) : ∃ g c u, v = .slice (some ⟨g, 0, none⟩) cnt c ∧ B ≤ g ∧ g < w.heap.size ∧ cs[i]? = some u ∧ w.cell? ⟨g, i, none⟩ = some u ∧ w.frozen? ⟨g, i, none⟩ = false := by
  have hl := h.1
  rcases h.2 with ⟨_, h0⟩ | ⟨g, cap, cur, h', hb, hh, _⟩
  · subst h0; simp at hi
  · subst h'
    have hlt : i < cs.length := by omega
    refine ⟨g, cap, cs[i], rfl, hb, (Array.getElem?_eq_some_iff.1 hh).1, List.getElem?_eq_getElem hlt, ?_, frozen_of_row _ _ _ _ _ hh⟩
    rw [World.ownsRow.cellAt h i (by omega), List.getElem?_eq_getElem hlt]
theorem wp_push_C {w w1 : World} {o : Oper} {a : Act} {K : Act → World → Prop} {Q : Exit → Act → World → Prop} {B : Nat} {v sv : Value} {zs : List (Ac × Value)} {x : Ac} (h : InSt B w v zs) (hb : Below w.heap.size w w1) (hB : B ≤ w.heap.size) (hsv : OwnZ w1 w.heap.size sv x.sub) (hok : x ∈ all21)
    (s q : Operand) (ho : o.op = .call { callee := .builtin .append, args := #[s, q], argTypes := #[28, 28] }) (hs : a.eval s = v) (T : TypeId) {c H : Nat} (hq : a.eval q = .slice (some ⟨H, 0, none⟩) 1 c) (hH : w1.heap.size = H) (hn : zs.length ≤ 5000000000000)
    (k : ∀ g cap w', InSt B w' (.slice (some ⟨g, 0, none⟩) (zs.length + 1) cap) (zs ++ [(x, sv)]) → Turns v.ownBlock.toList w1 w' → (v.ownBlock = some g ∨ w1.heap.size ≤ g) → g < w'.heap.size → K (a.put o.dst (.slice (some ⟨g, 0, none⟩) (zs.length + 1) cap)) w') : Oper.wp Tryd.prog o a (w1.alloc (.cells #[.bool true, .int .i64 x.rule, sv] T)) K Q := by
  subst hH
  obtain ⟨i0, hi0, hz0, hz1, hz2⟩ := info_parts infoChg
  have hbl : Below w1.heap.size w1 (w1.alloc (.cells #[.bool true, .int .i64 x.rule, sv] T)) := (Below.refl w1.heap.size w1).alloc (Nat.le_refl _) _
  have h1 := ownsRow_turns (h.below hb).row (Turns.of_below (S := []) hbl) (fun _ _ => by simp)
  obtain ⟨sA, sc, rfl⟩ := hsv.form
  have hbs := hb.size
  obtain ⟨g, cap, w', hr, hown, hgrow, hat, hlt⟩ := run_append1b (P := Tryd.prog) (w1.alloc (.cells #[.bool true, .int .i64 x.rule, .slice sA x.sub.length sc] T)) 28 o.type B 36 i0 (.agg #[.bool false, .int .i64 0, .slice none 0 0]) 3 40 Tryd.underlying28 hi0 hz0 hz1 hz2 rfl (by decide) v zs.length (cCells zs) h1 ⟨w1.heap.size, 0, none⟩ c [.bool true, .int .i64 x.rule, .slice sA x.sub.length sc] rfl (World.news_of_block (heap_alloc_new w1 _)) (by simp [Value.oneCell']) (by omega) (by decide) (by simp; omega) _ rfl
  have T1 : Turns v.ownBlock.toList w1 w' := (((Turns.refl [] w1).alloc _).mono (by simp)).trans (Turns.of_grown hgrow) (fun x hx => .inl hx)
  have hat2 : v.ownBlock = some g ∨ w1.heap.size ≤ g := by
    rcases hat with h | h
    · exact .inl h
    · exact .inr (by rw [h]; simp)
  unfold Oper.wp execOp
  simp only [ho, resolve, invoke, builtin, Sem.run_bind, Sem.run_pure, Result.andThen_ok, List.map_toArray, List.map_cons, List.map_nil, hs, hq, hr]
  exact k g cap w' (h.push hb hB hsv hok hown T1 hat2) T1 hat2 hlt
theorem step_push_C {w w1 : World} {ops : Array Oper} {o : Oper} {a : Act} {K : Act → World → Prop} {Q : Exit → Act → World → Prop} {E : Prop} {B : Nat} {v sv : Value} {zs : List (Ac × Value)} {x : Ac} (h : InSt B w v zs) (hb : Below w.heap.size w w1) (hB : B ≤ w.heap.size) (hsv : OwnZ w1 w.heap.size sv x.sub) (hok : x ∈ all21)
    (hgd : o.guard = none) (s q : Operand) (ho : o.op = .call { callee := .builtin .append, args := #[s, q], argTypes := #[28, 28] }) (hs : a.eval s = v) (T : TypeId) {c H : Nat} (hq : a.eval q = .slice (some ⟨H, 0, none⟩) 1 c) (hH : w1.heap.size = H) (hn : zs.length ≤ 5000000000000)
    (k : ∀ g cap w', InSt B w' (.slice (some ⟨g, 0, none⟩) (zs.length + 1) cap) (zs ++ [(x, sv)]) → Turns v.ownBlock.toList w1 w' → (v.ownBlock = some g ∨ w1.heap.size ≤ g) → g < w'.heap.size → K (a.put o.dst (.slice (some ⟨g, 0, none⟩) (zs.length + 1) cap)) w') : if Region.wanted o (yielded ops a.tmps) = true then Oper.wp Tryd.prog o a (w1.alloc (.cells #[.bool true, .int .i64 x.rule, sv] T)) K Q else E := by
  have hw : Region.wanted o (yielded ops a.tmps) = true := by simp [Region.wanted, hgd]
  rw [if_pos hw]
  exact wp_push_C h hb hB hsv hok s q ho hs T hq hH hn k
theorem wpList_push_C {w w1 : World} {ops : Array Oper} {rest : List Oper} {o : Oper} {a : Act} {Q : Exit → Act → World → Prop} {B : Nat} {v sv : Value} {zs : List (Ac × Value)} {x : Ac} (h : InSt B w v zs) (hb : Below w.heap.size w w1) (hB : B ≤ w.heap.size) (hsv : OwnZ w1 w.heap.size sv x.sub) (hok : x ∈ all21)
    (hgd : o.guard = none) (s q : Operand) (ho : o.op = .call { callee := .builtin .append, args := #[s, q], argTypes := #[28, 28] }) (hs : a.eval s = v) (T : TypeId) {c H : Nat} (hq : a.eval q = .slice (some ⟨H, 0, none⟩) 1 c) (hH : w1.heap.size = H) (hn : zs.length ≤ 5000000000000)
    (k : ∀ g cap w', InSt B w' (.slice (some ⟨g, 0, none⟩) (zs.length + 1) cap) (zs ++ [(x, sv)]) → Turns v.ownBlock.toList w1 w' → (v.ownBlock = some g ∨ w1.heap.size ≤ g) → g < w'.heap.size → wpList Tryd.prog ops Q rest (a.put o.dst (.slice (some ⟨g, 0, none⟩) (zs.length + 1) cap)) w') : wpList Tryd.prog ops Q (o :: rest) a (w1.alloc (.cells #[.bool true, .int .i64 x.rule, sv] T)) :=
  wpList_plain hgd fun _ hK => wp_push_C h hb hB hsv hok s q ho hs T hq hH hn fun g cap w' h2 h3 h4 h5 => hK _ _ (k g cap w' h2 h3 h4 h5)
/-- A change's cells. -/
theorem InSt.rd (h : InSt B w v zs) {i : Nat} {z : Ac × Value} (hz : zs[i]? = some z) : ∃ g c, v = .slice (some ⟨g, 0, none⟩) zs.length c ∧ B ≤ g ∧ g < w.heap.size ∧ w.cell? ⟨g, i * 3, none⟩ = some (.bool true) ∧ w.cell? ⟨g, i * 3 + 1, none⟩ = some (.int .i64 z.1.rule) ∧ w.cell? ⟨g, i * 3 + 2, none⟩ = some z.2 := by
  have hi := (List.getElem?_eq_some_iff.1 hz).1
  obtain ⟨q1, q2, q3⟩ := cCells_at hz
  obtain ⟨g, c, u, h1, h2, h3, h4, h5, _⟩ := own_cell h.row (i := i * 3) (by omega)
  have hr := h.row
  subst h1
  exact ⟨g, c, rfl, h2, h3, by rw [h5, ← h4, q1], by rw [World.ownsRow.cellAt hr (i * 3 + 1) (by omega), q2], by rw [World.ownsRow.cellAt hr (i * 3 + 2) (by omega), q3]⟩
end
theorem one_cut {α : Type} {l : List α} {q : Nat} {x : α} (h : l[q]? = some x) : (l.take (q + 1)).drop q = [x] := by
  have hq := (List.getElem?_eq_some_iff.1 h).1
  rw [List.take_add_one, h, List.drop_append_of_le_length (by rw [List.length_take]; omega), List.drop_of_length_le (by rw [List.length_take]; omega)]
  rfl
/-- One act alone, in a block. -/
theorem one_actA {F : Nat → Prop} {w : World} {H : Nat} {x : Ac} {sv : Value} {T : TypeId} (h : w.heap[H]? = some (.cells #[.int .i64 x.rule, sv] T (0, 0))) (hF : F H) (hok : i64ok x.rule) (hs : RSl F w 1 EInt sv x.sub) : RSl F w 2 (EAc F w) (.slice (some ⟨H, 0, none⟩) 1 1) [x] := by
  refine ⟨some ⟨H, 0, none⟩, 1, rfl, Nat.le_refl _, by unfold maxLen; decide, (fun h => by cases h), .inr ⟨H, 0, rfl, hF, lt_of_heap h, fun i y hy => ?_⟩⟩
  match i with
  | 0 =>
    simp only [List.getElem?_cons_zero, Option.some.injEq] at hy
    subst hy
    refine ⟨_, ⟨sv, rfl, hok, hs⟩, fun j u hu => ?_⟩
    rw [show 0 + 0 * 2 + j = j by omega]
    exact (cell_of_row _ _ j _ _ _ h).trans (by simpa using hu)
  | i + 1 => simp at hy
/-- What was brought in is written over. -/
structure OvSt (B Hr : Nat) (v : Value) (zs : List (Ac × Value)) (w wr : World) : Prop where
  row : ∃ cells, wr.ownsRow B 36 3 v zs.length cells ∧ ∀ i z, zs[i]? = some z → cells[i * 3 + 2]? = some z.2
  sub : ∀ z ∈ zs, ∃ cells, wr.ownsRow B 3 1 z.2 z.1.sub.length cells
  two : ∀ z ∈ zs, z.1.sub.length ≤ 2
  ne : ∀ z ∈ zs, ∀ b, z.2.ownBlock = some b → v.ownBlock ≠ some b
  hr : v.ownBlock ≠ some Hr
  r77 : wr.cell? ⟨Hr, 2, none⟩ = some (.int .i64 77)
  T : Turns (v.ownBlock.toList ++ zs.flatMap fun z => z.2.ownBlock.toList) w wr
section
variable {B Hr : Nat} {w wr : World} {v : Value} {zs : List (Ac × Value)}
theorem InSt.over (h : InSt B w v zs) (hr : v.ownBlock ≠ some Hr) (h77 : w.cell? ⟨Hr, 2, none⟩ = some (.int .i64 77)) : OvSt B Hr v zs w w :=
  ⟨⟨_, h.row, fun _ _ hz => (cCells_at hz).2.2⟩, fun z hz => ⟨_, (h.sub z hz).1⟩, fun z hz => by obtain ⟨⟨h1, h2⟩, h3, _⟩ := all21_facts (h.sub z hz).2; omega, h.ne, hr, h77, Turns.refl _ _⟩
/-- The rule's cell of a change. -/
theorem OvSt.rule (h : OvSt B Hr v zs w wr) {k : Nat} {z : Ac × Value} (hz : zs[k]? = some z) : ∃ g c u, v = .slice (some ⟨g, 0, none⟩) zs.length c ∧ wr.cell? ⟨g, k * 3 + 1, none⟩ = some u ∧ wr.frozen? ⟨g, k * 3 + 1, none⟩ = false ∧ wr.cell? ⟨g, k * 3 + 2, none⟩ = some z.2 ∧ ∀ u', OvSt B Hr v zs w (wr.setCell ⟨g, k * 3 + 1, none⟩ u') := by
  have hk := (List.getElem?_eq_some_iff.1 hz).1
  obtain ⟨cells, hr, hc⟩ := h.row
  obtain ⟨g, c, u, h1, h2, h3, h4, h5, h6⟩ := own_cell hr (i := k * 3 + 1) (by omega)
  have e2 : wr.cell? ⟨g, k * 3 + 2, none⟩ = some z.2 := by
    subst h1
    rw [World.ownsRow.cellAt hr (k * 3 + 2) (by omega), hc k z hz]
  have hg : v.ownBlock = some g := by rw [h1]; rfl
  refine ⟨g, c, u, h1, h5, h6, e2, fun u' => ?_⟩
  have T2 : Turns [g] wr (wr.setCell ⟨g, k * 3 + 1, none⟩ u') := (Turns.refl _ _).setCell (.inl (by simp)) _
  refine ⟨⟨cells.set (k * 3 + 1) u', ?_, fun i y hy => ?_⟩, fun y hy => ?_, h.two, h.ne, h.hr, ?_, h.T.setCell (.inl (by rw [hg]; simp)) _⟩
  · rw [h1] at hr ⊢
    exact (World.ownsRow.stored hr (k * 3 + 1) u').1
  · rw [List.getElem?_set_ne (by omega)]
    exact hc i y hy
  · obtain ⟨cs, h0⟩ := h.sub y hy
    exact ⟨cs, ownsRow_turns h0 T2 (fun b hb hm => h.ne y hy b hb (by rw [List.mem_singleton.1 hm]; exact hg))⟩
  · rw [World.cell?_setCell_far _ _ _ _ (fun e => h.hr (by rw [hg]; exact congrArg some e))]
    exact h.r77
/-- A number of its list. -/
theorem OvSt.elt (h : OvSt B Hr v zs w wr) {k j : Nat} {z : Ac × Value} (hz : zs[k]? = some z) (hj : j < z.1.sub.length) : ∃ g c u, z.2 = .slice (some ⟨g, 0, none⟩) z.1.sub.length c ∧ wr.cell? ⟨g, j, none⟩ = some u ∧ wr.frozen? ⟨g, j, none⟩ = false ∧ ∀ u', OvSt B Hr v zs w (wr.setCell ⟨g, j, none⟩ u') := by
  have hm := List.mem_of_getElem? hz
  obtain ⟨cells, hr⟩ := h.sub z hm
  obtain ⟨g, c, u, h1, h2, h3, h4, h5, h6⟩ := own_cell hr (i := j) (by omega)
  have hg : z.2.ownBlock = some g := by rw [h1]; rfl
  have hjt := h.two z hm
  refine ⟨g, c, u, h1, h5, h6, fun u' => ?_⟩
  have T2 : Turns [g] wr (wr.setCell ⟨g, j, none⟩ u') := (Turns.refl _ _).setCell (.inl (by simp)) _
  obtain ⟨cs, hr0, hc⟩ := h.row
  refine ⟨⟨cs, ownsRow_turns hr0 T2 (fun b hb hx => h.ne z hm b (by rw [List.mem_singleton.1 hx]; exact hg) hb), hc⟩, fun y hy => ?_, h.two, h.ne, h.hr, ?_, h.T.setCell (.inl (List.mem_append_right _ (List.mem_flatMap.2 ⟨z, hm, by rw [hg]; simp⟩))) _⟩
  · obtain ⟨cy, h0⟩ := h.sub y hy
    by_cases e : y.2.ownBlock = some g
    · obtain ⟨A, c2, hA⟩ := own_form1 h0
      rcases h0.2 with ⟨h8, _⟩ | ⟨g2, cap, cur, h8, _⟩
      · rw [h8] at e; simp [Value.ownBlock] at e
      · have : g2 = g := by rw [h8] at e; simpa [Value.ownBlock] using e
        subst this
        rw [h8] at h0 ⊢
        exact ⟨_, (World.ownsRow.stored h0 j u').1⟩
    · exact ⟨cy, ownsRow_turns h0 T2 (fun b hb hx => e (by rw [List.mem_singleton.1 hx] at hb; exact hb))⟩
  · rw [World.cell?_setCell_other (h := fun e => by simp only [Addr.mk.injEq] at e; omega)]
    exact h.r77
end
/-- What the agenda does not hold: M, and all that is laid from lo on. -/
def mm (M : List Nat) (lo hi : Nat) : List Nat := M ++ List.range' lo (hi - lo)
theorem mem_mm {M : List Nat} {lo hi x : Nat} (h : lo ≤ hi) : x ∈ mm M lo hi ↔ x ∈ M ∨ lo ≤ x ∧ x < hi := by
  unfold mm
  rw [List.mem_append, List.mem_range'_1]
  constructor
  · rintro (h1 | h1)
    · exact .inl h1
    · exact .inr (by omega)
  · rintro (h1 | h1)
    · exact .inl h1
    · exact .inr (by omega)
theorem mm_self (M : List Nat) (lo : Nat) : mm M lo lo = M := by simp [mm]
section
variable {M S : List Nat} {lo p mc mf N : Nat} {G : Agd} {w w' : World}
theorem AgAt.grow (h : AgAt (mm M lo w.heap.size) w p mc mf G N) (hlo : lo ≤ w.heap.size) (T : Turns S w w') (hS : ∀ x ∈ S, lo ≤ x) (h1 : mc < lo) (h2 : mf < lo) : AgAt (mm M lo w'.heap.size) w' p mc mf G N := by
  have hs := T.size
  refine h.step (S := S.filter (· < w.heap.size)) ⟨T.os, T.tape, T.output, T.size, fun k hk hn => T.block k hk (fun hm => hn (List.mem_filter.2 ⟨hm, by simpa using hk⟩))⟩ (fun x hx => ?_) (fun x hx => ?_) (fun x hx => ?_)
  · obtain ⟨h3, h4⟩ := List.mem_filter.1 hx
    have h5 := hS x h3
    have h6 : x < w.heap.size := by simpa using h4
    exact ⟨(mem_mm hlo).2 (.inr ⟨h5, h6⟩), by omega, by omega⟩
  · rcases (mem_mm hlo).1 hx with h3 | h3
    · exact (mem_mm (by omega)).2 (.inl h3)
    · exact (mem_mm (by omega)).2 (.inr ⟨h3.1, by omega⟩)
  · rcases (mem_mm (by omega)).1 hx with h3 | h3
    · exact .inl ((mem_mm hlo).2 (.inl h3))
    · rcases Nat.lt_or_ge x w.heap.size with h4 | h4
      · exact .inl ((mem_mm hlo).2 (.inr ⟨h3.1, h4⟩))
      · exact .inr h4
/-- A new stretch. -/
theorem AgAt.more (h : AgAt M w p mc mf G N) : AgAt (mm M w.heap.size w.heap.size) w p mc mf G N := by rw [mm_self]; exact h
end
end Go.Proofs.YtjgigcnjgblekaaDoor
