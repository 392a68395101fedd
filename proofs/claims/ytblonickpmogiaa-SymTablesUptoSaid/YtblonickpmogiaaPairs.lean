/- The walk of `pairs`: what ranging over a table gives. -/
import Derived.Test.YtblonickpmogiaaIdsAllT
import Derived.Test.YtblonickpmogiaaIdsEvery
import Derived.Test.YtblonickpmogiaaMerge
import Derived.Sort.CutIn
import Derived.Sort.QuietIn
namespace Go.Proofs.Ytblonickpmogiaa
open Go.RowKit Go.Maps Go.Shelf
attribute [local go_sem] Oper.semAt_some

/-- Below N all lies as it lay, but for the blocks S. -/
structure Ky (N : Nat) (S : List Nat) (A B : World) : Prop where
  os : B.os = A.os
  tape : B.tape = A.tape
  output : B.output = A.output
  size : A.heap.size ≤ B.heap.size
  block : ∀ k, k < N → k ∉ S → B.heap[k]? = A.heap[k]?
theorem Ky.refl (N : Nat) (S : List Nat) (A : World) : Ky N S A A := ⟨rfl, rfl, rfl, Nat.le_refl _, fun _ _ _ => rfl⟩
theorem Ky.trans {N : Nat} {S : List Nat} {A B C : World} (h : Ky N S A B) (k : Ky N S B C) : Ky N S A C :=
  ⟨k.os.trans h.os, k.tape.trans h.tape, k.output.trans h.output, Nat.le_trans h.size k.size, fun i h1 h2 => (k.block i h1 h2).trans (h.block i h1 h2)⟩
theorem Ky.of_below {N : Nat} {S : List Nat} {A B : World} (h : Below N A B) : Ky N S A B := ⟨h.os, h.tape, h.output, h.size, fun k hk _ => h.block k hk⟩
theorem Ky.turns {S : List Nat} {A B : World} (h : Ky A.heap.size S A B) : Turns S A B := ⟨h.os, h.tape, h.output, h.size, h.block⟩
theorem Turns.ky {N : Nat} {S S' : List Nat} {A B : World} (h : Turns S A B) (hN : N ≤ A.heap.size) (hS : ∀ x ∈ S, x ∈ S' ∨ N ≤ x) : Ky N S' A B :=
  ⟨h.os, h.tape, h.output, h.size, fun k hk hn => h.block k (by omega) (fun hm => by rcases hS k hm with e | e; exact hn e; omega)⟩
theorem Ky.cell {N : Nat} {S : List Nat} {A B : World} (h : Ky N S A B) {b o : Nat} (hb : b < N) (hn : b ∉ S) : B.cell? ⟨b, o, none⟩ = A.cell? ⟨b, o, none⟩ := World.cell?_of_block (a := ⟨b, o, none⟩) (h.block b hb hn)

set_option maxRecDepth 100000 in
set_option maxHeartbeats 2000000 in
/-- The iterator: ids and keys in order, for every loop body that keeps what lay. -/
theorem all1Y (n : Nat) (hn : 1 ≤ n) (l Bn : Nat) (Bl : List Nat) {base g m : Nat} {sv : Value} {ks : List Cst} {w0 : World} (hx : IdsAt Try.prog kindT base w0 g m sv ks) (hlen : ks.length ≤ 6000000000000) (J Jx : List (Nat × Cst) → World → Prop)
    (hY : ∀ pre x W, J pre W → pre.length < ks.length → YieldAt Fence.wide (n - 1) Try.prog l #[.int .i64 (x.1 : Int), .agg #[.int .i64 x.2.k, .int .i64 x.2.n, .string x.2.s]] W fun e W' =>
      (e = .returned (.bool true) ∧ J (pre ++ [x]) W' ∧ Ky w0.heap.size Bl W W') ∨ (e = .returned (.bool false) ∧ Jx (pre ++ [x]) W'))
    (W : World) (hW : Ky w0.heap.size Bl w0 W) (hBn : Bn < w0.heap.size) (hnB : Bn ∉ Bl) (hBl : ∀ x ∈ foot g m sv, x ∉ Bl) (hc : w0.cell? ⟨Bn, 0, none⟩ = some (.pointer (some ⟨g, 0, none⟩))) (h0 : J [] W) :
    CallsIn Fence.wide n Try.prog 102 #[.func (.yield l) #[] #[], .pointer (some ⟨Bn, 0, none⟩)] W fun e W' => (∃ v, e = .returned v) ∧
      ((∃ ys, ys = pairsT ks ks.length ∧ J ys W') ∨ (∃ pre, (∃ k, k ≤ ks.length ∧ pre = pairsT ks k) ∧ Jx pre W')) := by
  refine callsIn_of_wp Try.func102 rfl trivial ?_ rfl
  simp only [Try.ntmps102, List.size_toArray, List.length_cons, List.length_nil, Nat.reduceAdd, Nat.reduceSub, Array.replicate_succ, Array.replicate_zero, List.push_toArray, List.append_toArray, List.nil_append, List.cons_append]
  have hcW := (hW.cell hBn hnB).trans hc
  have HXW := Lib.hid (hx.turns hW.turns hBl)
  gi_wp2_with (refine ⟨trivial, ?_⟩; gi_at_call 27; refine (callsIn_wide.2 (lenT HXW.out)).mono ?_; rintro e w' ⟨rfl, rfl⟩)
  gi_loopw [6] (fun i wr => ∃ k : Nat, k ≤ ks.length ∧ i = .int .i64 k ∧ J (pairsT ks k) wr ∧ Ky w0.heap.size Bl w0 wr)
    (fun i _ => ks.length - (intOf i).toNat)
  case atStart => exact ⟨0, Nat.zero_le _, rfl, h0, hW⟩
  case round =>
    obtain ⟨k, hk, rfl, hJs, hnx⟩ := hrel
    have hcr := (hnx.cell hBn hnB).trans hc
    have HXr := Lib.hid (hx.turns hnx.turns hBl)
    by_cases hlt : k < ks.length
    · obtain ⟨x, hxk⟩ : ∃ x, x = ks[k] := ⟨_, rfl⟩
      obtain ⟨fn, tmps, assign, body, hy, hR⟩ := hY _ (k, x) wr hJs (by rw [pairsT_length]; exact hlt)
      dsimp only at hy
      have PS := Lib.hid (pairsT_succ' hlt hxk)
      obtain ⟨b, c, rfl, hc1, hc2⟩ := own_formC hx.own (by omega)
      have c0 := HXr.out.c0
      have hkc := HXr.out.keyCellsT (i := k) (c := x) (by rw [List.getElem?_eq_getElem hlt, hxk])
      have q0 := hkc 0 _ rfl; have q1 := hkc 1 _ rfl; have q2 := hkc 2 _ rfl
      simp only [Nat.add_zero] at q0
      clear hkc
      clear hxk
      unfold maxLen at hc2
      have hii : (0 : Int) ≤ (k : Int) := by omega
      have hin' : (k : Int) < (ks.length : Int) := by omega
      gi_wp2_with (refine ⟨trivial, ?_⟩; gi_at_call 27; refine (callsIn_wide.2 (lenT HXr.out)).mono ?_; rintro e w' ⟨rfl, rfl⟩)
      refine hR.mono ?_
      rintro e W3 (⟨rfl, hJ3, hk3⟩ | ⟨rfl, hJx3⟩)
      · gi_wp2
        go_roundw
        case rel => exact ⟨k + 1, by omega, by simp, by rw [PS.out]; exact hJ3, hnx.trans hk3⟩
        case measure => simp [intOf]; omega
      · gi_wp2
        refine bodyPost_ret (results_none rfl _ _ _) rfl ?_
        exact ⟨⟨_, rfl⟩, .inr ⟨_, ⟨k + 1, by omega, PS.out.symm⟩, hJx3⟩⟩
    · obtain rfl : k = ks.length := by omega
      gi_wp2
      go_end0
      exact ⟨⟨_, rfl⟩, .inl ⟨_, rfl, hJs⟩⟩

/-- All's value as an iterator. -/
theorem allY_stops (n : Nat) (hn : 1 ≤ n) (Bn : Nat) (Bl : List Nat) {base g m : Nat} {sv : Value} {ks : List Cst} {w0 : World} (hx : IdsAt Try.prog kindT base w0 g m sv ks) (hlen : ks.length ≤ 6000000000000) (hBn : Bn < w0.heap.size) (hnB : Bn ∉ Bl) (hBl : ∀ x ∈ foot g m sv, x ∉ Bl) (hc : w0.cell? ⟨Bn, 0, none⟩ = some (.pointer (some ⟨g, 0, none⟩))) :
    SeqStopsK Fence.wide n Try.prog 102 #[.pointer (some ⟨Bn, 0, none⟩)] (fun x : Nat × Cst => #[Value.int .i64 (x.1 : Int), .agg #[.int .i64 x.2.k, .int .i64 x.2.n, .string x.2.s]]) (Ky w0.heap.size Bl) (fun ys => ys = pairsT ks ks.length)
      (fun pre => ∃ k, k ≤ ks.length ∧ pre = pairsT ks k) ks.length w0 := fun l J Jx W hW _ _ hY h0 => all1Y n hn l Bn Bl hx hlen J Jx hY W (Ky.of_below hW) hBn hnB hBl hc h0
end Go.Proofs.Ytblonickpmogiaa
namespace Go.Proofs.Ytblonickpmogiaa
open Go.RowKit Go.Maps Go.Shelf
attribute [local go_sem] Oper.semAt_some

/-- The ids have come in order. -/
def idsOkT (pre : List (Nat × Cst)) : Bool := decide (pre.map (·.1) = List.range pre.length)
theorem idsOkT_snoc (pre : List (Nat × Cst)) (x : Nat × Cst) : idsOkT (pre ++ [x]) = (idsOkT pre && ((x.1 : Int) == (pre.length : Int))) := by
  have e : (((x.1 : Int) == (pre.length : Int)) = decide (x.1 = pre.length)) := by
    by_cases h : x.1 = pre.length
    · simp [h]
    · simp [h]; omega
  rw [e]
  unfold idsOkT
  rw [List.map_append, List.length_append, List.map_singleton, List.length_singleton, List.range_succ, ← Bool.decide_and]
  apply decide_eq_decide.2
  constructor
  · intro h
    have := List.append_inj' h rfl
    simpa using this
  · rintro ⟨h1, h2⟩
    rw [h1, h2]
theorem idsOkT_pairs (ks : List Cst) (n : Nat) : idsOkT (pairsT ks n) = true := by
  unfold idsOkT
  rw [pairsT_fst, pairsT_length]
  simp

/-- What the loop has gathered. -/
def cstsOf (pre : List (Nat × Cst)) : List Value := pre.flatMap fun x => x.2.cells
theorem cstsOf_snoc (pre : List (Nat × Cst)) (x : Nat × Cst) : cstsOf (pre ++ [x]) = cstsOf pre ++ x.2.cells := by simp [cstsOf]
theorem cstsOf_pairs (ks : List Cst) {n : Nat} (h : n ≤ ks.length) : cstsOf (pairsT ks n) = (ks.take n).flatMap Cst.cells := by
  rw [← pairsT_snd ks h]
  unfold cstsOf
  rw [List.flatMap_map]

/-- How many are taken. -/
def cutN (N : Int) (ks : List Cst) : List Cst := if 0 < N then ks.take N.toNat else ks

/-- The loop's list, in the box B1: one constant comes. -/
theorem pushC {S : List Nat} {W0 W w1 : World} {n₀ B1 : Nat} {v v' : Value} {k m : Nat} {xs ys : List Value} {tmp : Obj} (hS : B1 ∈ S) (hle : n₀ ≤ W0.heap.size) (hB1 : n₀ ≤ B1)
    (hv : Boxed W B1 24 v) (hrow : W.ownsRow W0.heap.size 27 3 v k xs) (hT : Turns S W0 W) (hown' : w1.ownsRow W0.heap.size 27 3 v' m ys) (hgrow : (W.alloc tmp).grownBy w1 v.ownBlock) :
    Boxed w1 B1 24 v ∧ Boxed (w1.setCell ⟨B1, 0, none⟩ v') B1 24 v' ∧ (w1.setCell ⟨B1, 0, none⟩ v').ownsRow W0.heap.size 27 3 v' m ys ∧ KeepsOthers W (w1.setCell ⟨B1, 0, none⟩ v') ∧ Below n₀ W (w1.setCell ⟨B1, 0, none⟩ v') ∧
      Turns S W0 (w1.setCell ⟨B1, 0, none⟩ v') := by
  obtain ⟨hv1, hv2, _, hk2, hb2⟩ := hv.appended (by decide) (ownsRow_weak hrow hle) (Nat.le_trans hle hT.size) hB1 (ownsRow_weak hown' hle) hgrow
  refine ⟨hv1, hv2, hown'.kept (grownBy_setCell' w1 B1 v') (.inr (hv1.not_row (by decide) hown').symm), hk2, hb2, ?_⟩
  refine ((hT.alloc tmp).trans (Turns.of_grown hgrow) (fun x hx => .inr (ownBlock_cells hrow (by simpa using hx)).1)).setCell (.inl hS) _
theorem pushC_ky {S' : List Nat} {N : Nat} {W w1 : World} {B1 : Nat} {v v' : Value} {k : Nat} {xs : List Value} {tmp : Obj} (hS : B1 ∈ S') (hN : N ≤ W.heap.size) (hrow : W.ownsRow N 27 3 v k xs) (hgrow : (W.alloc tmp).grownBy w1 v.ownBlock) : Ky N S' W (w1.setCell ⟨B1, 0, none⟩ v') := by
  have T1 : Turns (B1 :: v.ownBlock.toList) W (w1.setCell ⟨B1, 0, none⟩ v') := (((Turns.refl (B1 :: v.ownBlock.toList) W).alloc tmp).trans (Turns.of_grown hgrow) (fun x hx => .inl (List.mem_cons_of_mem _ hx))).setCell (.inl (by simp)) _
  refine T1.ky hN (fun x hx => ?_)
  rcases List.mem_cons.1 hx with e | e
  · exact .inl (by rw [e]; exact hS)
  · exact .inr (ownBlock_cells hrow (by simpa using e)).1
/-- Another box stays. -/
theorem pushC_box {W0 W w1 : World} {B1 B2 : Nat} {t : TypeId} {v v' b : Value} {k : Nat} {xs : List Value} {tmp : Obj} (ht : t ≠ 27) (hne : B2 ≠ B1) (hrow : W.ownsRow W0.heap.size 27 3 v k xs) (hf : Boxed W B2 t b) (hgrow : (W.alloc tmp).grownBy w1 v.ownBlock) :
    Boxed (w1.setCell ⟨B1, 0, none⟩ v') B2 t b := ((hf.alloc tmp).kept hgrow (hf.not_row ht hrow)).other hne v'
/-- The flag is stored. -/
theorem flaggedC {S : List Nat} {W0 W : World} {n₀ B1 B2 : Nat} {v b b' : Value} {k : Nat} {xs : List Value} (hS : B2 ∈ S) (hB2 : n₀ ≤ B2) (hne : B1 ≠ B2)
    (hv : Boxed W B1 24 v) (hrow : W.ownsRow W0.heap.size 27 3 v k xs) (hf : Boxed W B2 4 b) (hT : Turns S W0 W) :
    Boxed (W.setCell ⟨B2, 0, none⟩ b') B1 24 v ∧ (W.setCell ⟨B2, 0, none⟩ b').ownsRow W0.heap.size 27 3 v k xs ∧ Boxed (W.setCell ⟨B2, 0, none⟩ b') B2 4 b' ∧ Turns S W0 (W.setCell ⟨B2, 0, none⟩ b') ∧ KeepsOthers W (W.setCell ⟨B2, 0, none⟩ b') ∧ Below n₀ W (W.setCell ⟨B2, 0, none⟩ b') :=
  ⟨hv.other hne _, hrow.kept (grownBy_setCell' W B2 b') (.inr (hf.not_row (by decide) hrow).symm), hf.set _, hT.setCell (.inl hS) _, KeepsOthers.setCell _ _ _, (Below.refl _ W).setCell (p := ⟨B2, 0, none⟩) hB2 _⟩

theorem cst_news_set (w : World) (p : Addr) (v : Value) (a : Cst) : ∀ j u, a.cells[j]? = some u → ((w.setCell p v).alloc (.cells #[.int .i64 a.k, .int .i64 a.n, .string a.s] 27)).cell? ((⟨w.heap.size, 0, none⟩ : Addr).add j) = some u := by
  have h := cst_news (w.setCell p v) a
  have e : (w.setCell p v).heap.size = w.heap.size := by simp [World.setCell]
  rw [e] at h
  exact h

set_option maxRecDepth 100000 in
set_option maxHeartbeats 4000000 in
theorem pairsW {base : Nat} {w : World} {g m : Nat} {sv : Value} {ks : List Cst} (h : IdsAt Try.prog kindT base w g m sv ks) (N : Int) (hlen : ks.length ≤ 70000) :
    Calls Try.prog 91 #[.pointer (some ⟨g, 0, none⟩), .int .i64 N] w fun e w' => ∃ u, e = .returned (.tuple #[u, .bool true]) ∧ OwnC w' w.heap.size u (cutN N ks) ∧ Below w.heap.size w w' := by
  have hq : ∀ (w : World) (f : Fn) (a b : Array Value), (binOp .eql 120 (.func f a b) .nilFunc).run Try.prog w = .ok (.bool false) w := fun w f a b => run_eql_func_nil w _ f a b Try.underlying120
  obtain ⟨i0, hi, hz0, hz1, hz2⟩ := info_parts infoK
  refine (callsIn_wide (n := 6)).1 ?_
  refine callsIn_of_wp_marks Try.func91 rfl trivial ?_ rfl
  simp only [Try.ntmps91, List.size_toArray, List.length_cons, List.length_nil, Nat.reduceAdd, Nat.reduceSub, Array.replicate_succ, Array.replicate_zero, List.push_toArray, List.append_toArray, List.nil_append, List.cons_append]
  gi_wp2_with (first
    | (refine ⟨trivial, ?_⟩; gi_at_call 82; refine (callsIn_wide.2 (allT _ _)).mono ?_; rintro e w' ⟨rfl, rfl⟩))
  obtain ⟨W0, hW0⟩ : ∃ W0, W0 = ((((w.alloc (.cells #[.int .i64 N] 3)).alloc (.cells #[.slice none 0 0] 24)).alloc (.cells #[.bool true] 4)).alloc (.cells #[.pointer (some ⟨g, 0, none⟩)] 33)).alloc (.cells #[.pointer (some ⟨g, 0, none⟩)] 33) := ⟨_, rfl⟩
  have hB0 : Below w.heap.size w W0 := by rw [hW0]; exact (((((Below.refl _ w).alloc (Nat.le_refl _) _).alloc (by simp) _).alloc (by simp; omega) _).alloc (by simp; omega) _).alloc (by simp; omega) _
  have hsz : W0.heap.size = w.heap.size + 5 := by rw [hW0]; simp
  have bN : Boxed W0 w.heap.size 3 (.int .i64 N) := by
    rw [hW0]
    exact ((((Boxed.new w 3 (.int .i64 N)).alloc _).alloc _).alloc _).alloc _
  have bL : Boxed W0 (w.heap.size + 1) 24 (.slice none 0 0) := by
    rw [hW0]
    have := (((Boxed.new (w.alloc (.cells #[.int .i64 N] 3)) 24 (.slice none 0 0)).alloc (.cells #[.bool true] 4)).alloc (.cells #[.pointer (some ⟨g, 0, none⟩)] 33)).alloc (.cells #[.pointer (some ⟨g, 0, none⟩)] 33)
    rw [World.size_alloc] at this
    exact this
  have bF : Boxed W0 (w.heap.size + 1 + 1) 4 (.bool true) := by
    rw [hW0]
    have := ((Boxed.new ((w.alloc (.cells #[.int .i64 N] 3)).alloc (.cells #[.slice none 0 0] 24)) 4 (.bool true)).alloc (.cells #[.pointer (some ⟨g, 0, none⟩)] 33)).alloc (.cells #[.pointer (some ⟨g, 0, none⟩)] 33)
    rw [World.size_alloc, World.size_alloc] at this
    exact this
  have bA : W0.cell? ⟨w.heap.size + 1 + 1 + 1 + 1, 0, none⟩ = some (.pointer (some ⟨g, 0, none⟩)) := by
    rw [hW0]
    have := (Boxed.new ((((w.alloc (.cells #[.int .i64 N] 3)).alloc (.cells #[.slice none 0 0] 24)).alloc (.cells #[.bool true] 4)).alloc (.cells #[.pointer (some ⟨g, 0, none⟩)] 33)) 33 (.pointer (some ⟨g, 0, none⟩))).cell
    simpa using this
  rw [← hW0]
  have hx0 := h.below hB0
  have hfoot : ∀ x ∈ foot g m sv, x ∉ [w.heap.size + 1, w.heap.size + 1 + 1] := fun x hx hm => by have := (h.foot_lt x hx).2; simp only [List.mem_cons, List.not_mem_nil, or_false] at hm; omega
  clear hW0
  have hIn : ∀ c : Bool, OwnFrom W0.heap.size (fun (pre : List (Nat × Cst)) (W' : World) => (∃ v, Boxed W' (w.heap.size + 1) 24 v ∧ W'.ownsRow W0.heap.size 27 3 v pre.length (cstsOf pre) ∧ True) ∧ Boxed W' (w.heap.size + 1 + 1) 4 (.bool (idsOkT pre)) ∧ Turns [w.heap.size + 1, w.heap.size + 1 + 1] W0 W' ∧ (if c then (N ≤ 0 ∨ (pre.length : Int) < N) else ((pre.length : Int) = N ∧ 0 < N))) :=
    fun c => OwnFrom.and (Own.from (holdsRow_own _ _ _ _ _ (fun pre => pre.length) cstsOf (fun _ _ => True)) _) (OwnFrom.and (Own.from (boxed_own _ _ (fun pre => .bool (idsOkT pre))) _) (OwnFrom.and (ownFrom_turns (Nat.le_refl _)) (ownFrom_pure _ (fun (pre : List (Nat × Cst)) => if c then (N ≤ 0 ∨ (pre.length : Int) < N) else ((pre.length : Int) = N ∧ 0 < N)))))
  refine wpIn_rangeFunc_ownH (n := 6) rfl (by omega) (gf := 102) (lb := #[.pointer (some ⟨w.heap.size + 1 + 1 + 1 + 1, 0, none⟩)]) rfl trivial (enters_of Try.func102 (by kernel_rfl) rfl)
    (allY_stops 5 (by omega) (w.heap.size + 1 + 1 + 1 + 1) [w.heap.size + 1, w.heap.size + 1 + 1] hx0 (by omega) (by omega) (by simp only [List.mem_cons, List.not_mem_nil, or_false]; omega) hfoot bA) Ky.trans (fun W l o o' h1 h2 h3 h4 => Ky.of_below (belowK_b (Nat.le_refl _) W l o o' h1 h2 h3 h4)) (Below.refl _ W0) (fun _ => rfl)
    (fun pre W' => (∃ v, Boxed W' (w.heap.size + 1) 24 v ∧ W'.ownsRow W0.heap.size 27 3 v pre.length (cstsOf pre) ∧ True) ∧ Boxed W' (w.heap.size + 1 + 1) 4 (.bool (idsOkT pre)) ∧ Turns [w.heap.size + 1, w.heap.size + 1 + 1] W0 W' ∧ (N ≤ 0 ∨ (pre.length : Int) < N))
    (fun c pre W' => c = .exit 0 ∧ (∃ v, Boxed W' (w.heap.size + 1) 24 v ∧ W'.ownsRow W0.heap.size 27 3 v pre.length (cstsOf pre) ∧ True) ∧ Boxed W' (w.heap.size + 1 + 1) 4 (.bool (idsOkT pre)) ∧ Turns [w.heap.size + 1, w.heap.size + 1 + 1] W0 W' ∧ ((pre.length : Int) = N ∧ 0 < N))
    (hIn true) (fun c => OwnFrom.and (ownFrom_pure _ (fun (_ : List (Nat × Cst)) => c = .exit 0)) (hIn false))
    ⟨⟨_, bL, World.ownsRow_nil _ _ _ _, trivial⟩, bF, Turns.refl _ _, by simp only [List.length_nil]; omega⟩
    (fun x a' W' => ∃ B, W0.heap.size ≤ B ∧ W'.heap[B]? = some (.cells #[.int .i64 x.2.k, .int .i64 x.2.n, .string x.2.s] 27 (0, 0)) ∧ a' = { tmps := #[.pointer (some ⟨g, 0, none⟩), .int .i64 N, undef, .pointer (some ⟨w.heap.size, 0, none⟩), .slice none 0 0, .bool false, .pointer (some ⟨w.heap.size + 1, 0, none⟩), .pointer (some ⟨w.heap.size + 1 + 1, 0, none⟩), .int .i64 (x.1 : Int), .pointer (some ⟨B, 0, none⟩), .pointer (some ⟨g, 0, none⟩), .pointer (some ⟨g, 0, none⟩), .pointer (some ⟨g, 0, none⟩), .func (.func 102) #[] #[.pointer (some ⟨w.heap.size + 1 + 1 + 1, 0, none⟩)], .bool false, .pointer (some ⟨g, 0, none⟩), .pointer (some ⟨g, 0, none⟩), .pointer (some ⟨g, 0, none⟩), .func (.func 102) #[] #[.pointer (some ⟨w.heap.size + 1 + 1 + 1 + 1, 0, none⟩)], .int .i64 (x.1 : Int), .agg #[.int .i64 x.2.k, .int .i64 x.2.n, .string x.2.s], undef, undef, undef, undef, undef, undef, undef, undef, undef, undef, undef, undef, undef, undef, undef, undef, undef], defers := [] })
    ?hAx ?assign ?body ?done ?stop
  case hAx =>
    rintro x a' _ X Y row ⟨B, hB, hc, e⟩ hg hr
    refine ⟨B, hB, (hg.block B (lt_of_heap hc) (fun e' => ?_)).trans hc, e⟩
    obtain ⟨_, o, ho, hcs⟩ := hr B e'.symm
    rw [hc] at ho
    cases ho
    cases hcs
  case assign =>
    rintro l pre x W K hI hK
    have hI' := (hIn true).alloc (.cells #[.int .i64 x.2.k, .int .i64 x.2.n, .string x.2.s] 27) hI
    have hs := hI.2.2.1.size
    have HK := Lib.hid (hK _ (W.alloc (.cells #[.int .i64 x.2.k, .int .i64 x.2.n, .string x.2.s] 27)) ((KeepsOthers.alloc W _).from _) (Ky.of_below ((Below.refl _ W).alloc hs _)) hI' ⟨W.heap.size, hs, heap_alloc_new W _, rfl⟩)
    clear hI hI' hK
    gi_wp2
    exact HK.out
  case body =>
    rintro l pre x a' W' hl - ⟨⟨v, hv, hrow, -⟩, hf, hT, hpN⟩ ⟨B, hBB, hBx, rfl⟩ hlt
    have hs := hT.size
    have hpl : pre.length < ks.length := hlt
    obtain ⟨va, vc, rfl, _, _⟩ := own_lenC hrow
    have c0 := hv.cell
    have cf := hf.cell
    have ff := hf.frozen
    have cN : W0.cell? ⟨w.heap.size, 0, none⟩ = some (.int .i64 N) := bN.cell
    have SN := Lib.hid (idsOkT_snoc pre x)
    have SS := Lib.hid (cstsOf_snoc pre x)
    rcases hok : idsOkT pre with _ | _
    all_goals rw [hok] at cf hf SN
    · obtain ⟨hv', hrow', hf', hT', hk', hb'⟩ := flaggedC (b' := .bool false) (S := [w.heap.size + 1, w.heap.size + 1 + 1]) (B2 := w.heap.size + 1 + 1) (n₀ := w.heap.size) (by simp) (by omega) (by omega) hv hrow hf hT
      have c1 := hv'.cell
      have hT0 : Turns [w.heap.size + 1, w.heap.size + 1 + 1] W' (W'.setCell ⟨w.heap.size + 1 + 1, 0, none⟩ (.bool false)) := (Turns.refl _ _).setCell (.inl (by simp)) _
      have xb : (W'.setCell ⟨w.heap.size + 1 + 1, 0, none⟩ (.bool false)).heap[B]? = _ := (hT0.block B (lt_of_heap hBx) (by simp only [List.mem_cons, List.not_mem_nil, or_false]; omega)).trans hBx
      have x0 := cell_of_row _ B 0 _ _ _ xb
      have x1 := cell_of_row _ B 1 _ _ _ xb
      have x2 := cell_of_row _ B 2 _ _ _ xb
      simp only [List.getElem?_toArray, List.getElem?_cons_zero, List.getElem?_cons_succ] at x0 x1 x2
      clear xb
      by_cases hNe : ((pre.length : Int) + 1 == N) = true
      · have hNN : (((pre.length + 1 : Nat) : Int) == N) = true := by simpa using hNe
        have hPN := Lib.hid (show ((pre.length : Int) + 1 = N) by simpa using hNe)
        gi_wp2_with (gi_at_builtin; refine wpListIn_append_own _ rfl _ _ 24 rfl W0.heap.size 27 i0 (.agg #[.int .i64 0, .int .i64 0, .string ⟨#[]⟩]) 3 32 Try.underlying24 hi hz0 hz1 hz2 rfl (by decide) _ _ _ rfl (hrow'.alloc _) ⟨W'.heap.size, 0, none⟩ 1 1 x.2.cells rfl rfl (cst_news_set _ _ _ _) (cst_one x.2) (by unfold maxLen; omega) (by omega) (by simp; omega) ?_; intro v' w1 hown' hgrow _; obtain ⟨g', cap', rfl⟩ := ownsRow_succ hown'; obtain ⟨hv1, hv2, hr2, hk2, hb2, hT2⟩ := pushC (S := [w.heap.size + 1, w.heap.size + 1 + 1]) (n₀ := w.heap.size) (by simp) hB0.size (by omega) hv' hrow' hT' hown' hgrow; have hf2 := pushC_box (v' := .slice (some ⟨g', 0, none⟩) (pre.length + 1) cap') (B1 := w.heap.size + 1) (by decide) (by omega) hrow' hf' hgrow; have hc1 := hv1.cell; have hf1 := hv1.frozen; have hc5 : (w1.setCell ⟨w.heap.size + 1, 0, none⟩ (.slice (some ⟨g', 0, none⟩) (pre.length + 1) cap')).cell? ⟨w.heap.size, 0, none⟩ = some (.int .i64 N) := ((hT2.cell (by omega) (by simp; omega)).trans cN); have hc6 := hv2.cell; have hKy := (hT0.ky (S' := [w.heap.size + 1, w.heap.size + 1 + 1]) hs (fun x hx => .inl hx)).trans (pushC_ky (B1 := w.heap.size + 1) (N := W0.heap.size) (S' := [w.heap.size + 1, w.heap.size + 1 + 1]) (v' := .slice (some ⟨g', 0, none⟩) (pre.length + 1) cap') (by simp) hT'.size hrow' hgrow))
        exact ⟨(hk'.trans hk2).from _, rfl, ⟨_, hv2, by rw [SS.out, List.length_append]; exact hr2, trivial⟩, by rw [SN.out]; exact hf2, hT2, by have := hPN.out; rw [List.length_append]; simp; omega⟩
      · have hNN : (((pre.length + 1 : Nat) : Int) == N) = false := by simpa using hNe
        have hPN := Lib.hid (show ¬ ((pre.length : Int) + 1 = N) by simpa using hNe)
        gi_wp2_with (gi_at_builtin; refine wpListIn_append_own _ rfl _ _ 24 rfl W0.heap.size 27 i0 (.agg #[.int .i64 0, .int .i64 0, .string ⟨#[]⟩]) 3 32 Try.underlying24 hi hz0 hz1 hz2 rfl (by decide) _ _ _ rfl (hrow'.alloc _) ⟨W'.heap.size, 0, none⟩ 1 1 x.2.cells rfl rfl (cst_news_set _ _ _ _) (cst_one x.2) (by unfold maxLen; omega) (by omega) (by simp; omega) ?_; intro v' w1 hown' hgrow _; obtain ⟨g', cap', rfl⟩ := ownsRow_succ hown'; obtain ⟨hv1, hv2, hr2, hk2, hb2, hT2⟩ := pushC (S := [w.heap.size + 1, w.heap.size + 1 + 1]) (n₀ := w.heap.size) (by simp) hB0.size (by omega) hv' hrow' hT' hown' hgrow; have hf2 := pushC_box (v' := .slice (some ⟨g', 0, none⟩) (pre.length + 1) cap') (B1 := w.heap.size + 1) (by decide) (by omega) hrow' hf' hgrow; have hc1 := hv1.cell; have hf1 := hv1.frozen; have hc5 : (w1.setCell ⟨w.heap.size + 1, 0, none⟩ (.slice (some ⟨g', 0, none⟩) (pre.length + 1) cap')).cell? ⟨w.heap.size, 0, none⟩ = some (.int .i64 N) := ((hT2.cell (by omega) (by simp; omega)).trans cN); have hc6 := hv2.cell; have hKy := (hT0.ky (S' := [w.heap.size + 1, w.heap.size + 1 + 1]) hs (fun x hx => .inl hx)).trans (pushC_ky (B1 := w.heap.size + 1) (N := W0.heap.size) (S' := [w.heap.size + 1, w.heap.size + 1 + 1]) (v' := .slice (some ⟨g', 0, none⟩) (pre.length + 1) cap') (by simp) hT'.size hrow' hgrow))
        exact ⟨(hk'.trans hk2).from _, hKy, ⟨_, hv2, by rw [SS.out, List.length_append]; exact hr2, trivial⟩, by rw [SN.out]; exact hf2, hT2, by have := hPN.out; rw [List.length_append]; simp; omega⟩
    · obtain ⟨hv', hrow', hf', hT', hk', hb'⟩ := flaggedC (b' := .bool ((x.1 : Int) == (pre.length : Int))) (S := [w.heap.size + 1, w.heap.size + 1 + 1]) (B2 := w.heap.size + 1 + 1) (n₀ := w.heap.size) (by simp) (by omega) (by omega) hv hrow hf hT
      have c1 := hv'.cell
      have hT0 : Turns [w.heap.size + 1, w.heap.size + 1 + 1] W' (W'.setCell ⟨w.heap.size + 1 + 1, 0, none⟩ (.bool ((x.1 : Int) == (pre.length : Int)))) := (Turns.refl _ _).setCell (.inl (by simp)) _
      have xb : (W'.setCell ⟨w.heap.size + 1 + 1, 0, none⟩ (.bool ((x.1 : Int) == (pre.length : Int)))).heap[B]? = _ := (hT0.block B (lt_of_heap hBx) (by simp only [List.mem_cons, List.not_mem_nil, or_false]; omega)).trans hBx
      have x0 := cell_of_row _ B 0 _ _ _ xb
      have x1 := cell_of_row _ B 1 _ _ _ xb
      have x2 := cell_of_row _ B 2 _ _ _ xb
      simp only [List.getElem?_toArray, List.getElem?_cons_zero, List.getElem?_cons_succ] at x0 x1 x2
      clear xb
      by_cases hNe : ((pre.length : Int) + 1 == N) = true
      · have hNN : (((pre.length + 1 : Nat) : Int) == N) = true := by simpa using hNe
        have hPN := Lib.hid (show ((pre.length : Int) + 1 = N) by simpa using hNe)
        gi_wp2_with (gi_at_builtin; refine wpListIn_append_own _ rfl _ _ 24 rfl W0.heap.size 27 i0 (.agg #[.int .i64 0, .int .i64 0, .string ⟨#[]⟩]) 3 32 Try.underlying24 hi hz0 hz1 hz2 rfl (by decide) _ _ _ rfl (hrow'.alloc _) ⟨W'.heap.size, 0, none⟩ 1 1 x.2.cells rfl rfl (cst_news_set _ _ _ _) (cst_one x.2) (by unfold maxLen; omega) (by omega) (by simp; omega) ?_; intro v' w1 hown' hgrow _; obtain ⟨g', cap', rfl⟩ := ownsRow_succ hown'; obtain ⟨hv1, hv2, hr2, hk2, hb2, hT2⟩ := pushC (S := [w.heap.size + 1, w.heap.size + 1 + 1]) (n₀ := w.heap.size) (by simp) hB0.size (by omega) hv' hrow' hT' hown' hgrow; have hf2 := pushC_box (v' := .slice (some ⟨g', 0, none⟩) (pre.length + 1) cap') (B1 := w.heap.size + 1) (by decide) (by omega) hrow' hf' hgrow; have hc1 := hv1.cell; have hf1 := hv1.frozen; have hc5 : (w1.setCell ⟨w.heap.size + 1, 0, none⟩ (.slice (some ⟨g', 0, none⟩) (pre.length + 1) cap')).cell? ⟨w.heap.size, 0, none⟩ = some (.int .i64 N) := ((hT2.cell (by omega) (by simp; omega)).trans cN); have hc6 := hv2.cell; have hKy := (hT0.ky (S' := [w.heap.size + 1, w.heap.size + 1 + 1]) hs (fun x hx => .inl hx)).trans (pushC_ky (B1 := w.heap.size + 1) (N := W0.heap.size) (S' := [w.heap.size + 1, w.heap.size + 1 + 1]) (v' := .slice (some ⟨g', 0, none⟩) (pre.length + 1) cap') (by simp) hT'.size hrow' hgrow))
        exact ⟨(hk'.trans hk2).from _, rfl, ⟨_, hv2, by rw [SS.out, List.length_append]; exact hr2, trivial⟩, by rw [SN.out]; exact hf2, hT2, by have := hPN.out; rw [List.length_append]; simp; omega⟩
      · have hNN : (((pre.length + 1 : Nat) : Int) == N) = false := by simpa using hNe
        have hPN := Lib.hid (show ¬ ((pre.length : Int) + 1 = N) by simpa using hNe)
        gi_wp2_with (gi_at_builtin; refine wpListIn_append_own _ rfl _ _ 24 rfl W0.heap.size 27 i0 (.agg #[.int .i64 0, .int .i64 0, .string ⟨#[]⟩]) 3 32 Try.underlying24 hi hz0 hz1 hz2 rfl (by decide) _ _ _ rfl (hrow'.alloc _) ⟨W'.heap.size, 0, none⟩ 1 1 x.2.cells rfl rfl (cst_news_set _ _ _ _) (cst_one x.2) (by unfold maxLen; omega) (by omega) (by simp; omega) ?_; intro v' w1 hown' hgrow _; obtain ⟨g', cap', rfl⟩ := ownsRow_succ hown'; obtain ⟨hv1, hv2, hr2, hk2, hb2, hT2⟩ := pushC (S := [w.heap.size + 1, w.heap.size + 1 + 1]) (n₀ := w.heap.size) (by simp) hB0.size (by omega) hv' hrow' hT' hown' hgrow; have hf2 := pushC_box (v' := .slice (some ⟨g', 0, none⟩) (pre.length + 1) cap') (B1 := w.heap.size + 1) (by decide) (by omega) hrow' hf' hgrow; have hc1 := hv1.cell; have hf1 := hv1.frozen; have hc5 : (w1.setCell ⟨w.heap.size + 1, 0, none⟩ (.slice (some ⟨g', 0, none⟩) (pre.length + 1) cap')).cell? ⟨w.heap.size, 0, none⟩ = some (.int .i64 N) := ((hT2.cell (by omega) (by simp; omega)).trans cN); have hc6 := hv2.cell; have hKy := (hT0.ky (S' := [w.heap.size + 1, w.heap.size + 1 + 1]) hs (fun x hx => .inl hx)).trans (pushC_ky (B1 := w.heap.size + 1) (N := W0.heap.size) (S' := [w.heap.size + 1, w.heap.size + 1 + 1]) (v' := .slice (some ⟨g', 0, none⟩) (pre.length + 1) cap') (by simp) hT'.size hrow' hgrow))
        exact ⟨(hk'.trans hk2).from _, hKy, ⟨_, hv2, by rw [SS.out, List.length_append]; exact hr2, trivial⟩, by rw [SN.out]; exact hf2, hT2, by have := hPN.out; rw [List.length_append]; simp; omega⟩
  case done =>
    rintro D ys W' hD rfl ⟨⟨v, hv, hrow, -⟩, hf, hT, hpN⟩ hK
    rw [pairsT_length] at hpN hrow
    rw [cstsOf_pairs ks (Nat.le_refl _), List.take_length] at hrow
    rw [idsOkT_pairs] at hf
    have hB' : Below w.heap.size w W' := hB0.trans (hT.below hB0.size (fun x hx => by simp only [List.mem_cons, List.not_mem_nil, or_false] at hx; omega))
    have c0 := hv.cell
    have c2 := hf.cell
    have hz : cutN N ks = ks := by
      unfold cutN
      split
      · exact List.take_of_length_le (by omega)
      · rfl
    have FIN := Lib.hid (fun (X : World) (hX : Below w.heap.size w X) (q : X.ownsRow W0.heap.size 27 3 v ks.length (ks.flatMap Cst.cells)) => (show ∃ u, Ending.returned (.tuple #[v, .bool true]) = .returned (.tuple #[u, .bool true]) ∧ OwnC X w.heap.size u (cutN N ks) ∧ Below w.heap.size w X from ⟨v, rfl, by rw [hz]; exact ownsRow_weak q hB0.size, hX⟩))
    have HD := Lib.hid hD
    have HB := Lib.hid hB'
    clear hB'
    gi_wp2
    gi_quiet (fail)
    gi_wp2
    have hKn : (W'.drewN nq).heap[D]? = some (.deferred (some [])) := hK
    refine ⟨by simp, .inl ⟨_, _, rfl, run_takeDeferred hKn, ?_⟩⟩
    exact ⟨_, results_tmp2 (t := 4) (u := 5) rfl _ _ _, FIN.out _ ((below_drewN HB.out nq).trans (belowK_b (w := w) (Nat.le_refl _) _ D _ _ (by have := HD.out; have := hB0.size; omega) hKn rfl rfl)) (ownsRow_putObj (W := W'.drewN nq) hrow _ hKn rfl)⟩
  case stop =>
    rintro D c pre W' hD ⟨k, hk, rfl⟩ ⟨rfl, ⟨v, hv, hrow, -⟩, hf, hT, hpN, hN0⟩ hK
    rw [pairsT_length] at hpN hrow
    rw [cstsOf_pairs ks hk] at hrow
    rw [idsOkT_pairs] at hf
    have hB' : Below w.heap.size w W' := hB0.trans (hT.below hB0.size (fun x hx => by simp only [List.mem_cons, List.not_mem_nil, or_false] at hx; omega))
    have c0 := hv.cell
    have c2 := hf.cell
    have hz : cutN N ks = ks.take k := by
      unfold cutN
      rw [if_pos hN0, show N.toNat = k by omega]
    have hkl : (ks.take k).length = k := by rw [List.length_take]; omega
    have FIN := Lib.hid (fun (X : World) (hX : Below w.heap.size w X) (q : X.ownsRow W0.heap.size 27 3 v k ((ks.take k).flatMap Cst.cells)) => (show ∃ u, Ending.returned (.tuple #[v, .bool true]) = .returned (.tuple #[u, .bool true]) ∧ OwnC X w.heap.size u (cutN N ks) ∧ Below w.heap.size w X from ⟨v, rfl, by rw [hz]; unfold OwnC; rw [hkl]; exact ownsRow_weak q hB0.size, hX⟩))
    have HD := Lib.hid hD
    have HB := Lib.hid hB'
    clear hB'
    gi_wp2
    gi_quiet (fail)
    gi_wp2
    have hKn : (W'.drewN nq).heap[D]? = some (.deferred (some [])) := hK
    refine ⟨by simp, .inl ⟨_, _, rfl, run_takeDeferred hKn, ?_⟩⟩
    exact ⟨_, results_tmp2 (t := 4) (u := 5) rfl _ _ _, FIN.out _ ((below_drewN HB.out nq).trans (belowK_b (w := w) (Nat.le_refl _) _ D _ _ (by have := HD.out; have := hB0.size; omega) hKn rfl rfl)) (ownsRow_putObj (W := W'.drewN nq) hrow _ hKn rfl)⟩
end Go.Proofs.Ytblonickpmogiaa
