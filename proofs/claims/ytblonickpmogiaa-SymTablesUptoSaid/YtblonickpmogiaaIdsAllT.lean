/- All of an Ids of constants (a Table's): the value that it hands back, as an iterator. -/
import Derived.RangeFuncNested
import Derived.RangeFuncBound
import Derived.RangeFuncCalls
import Derived.RangeFuncLeaves
import Derived.RangeFuncBox
import Derived.Shelf.Abstract
import Derived.Shelf.RegionOpen
import Derived.WalkKit
import Derived.OwnWalkIn
import Derived.TacticsInMore
import Derived.LoopNIn
import Derived.LoopIn
import Derived.Maps.AppendAt
import Derived.Test.YtblonickpmogiaaIdsT
namespace Go.Proofs.Ytblonickpmogiaa
open Go.RowKit Go.Maps Go.Shelf
attribute [local go_sem] Oper.semAt_some

/-- The first n ids with their keys. -/
def pairsT (ks : List Cst) (n : Nat) : List (Nat × Cst) := (List.range n).map fun j => (j, ks[j]?.getD ⟨0, 0, ⟨#[]⟩⟩)
theorem pairsT_succ (ks : List Cst) (n : Nat) : pairsT ks (n + 1) = pairsT ks n ++ [(n, ks[n]?.getD ⟨0, 0, ⟨#[]⟩⟩)] := by simp [pairsT, List.range_succ]
theorem pairsT_succ' {ks : List Cst} {n : Nat} {x : Cst} (h : n < ks.length) (hx : x = ks[n]) : pairsT ks (n + 1) = pairsT ks n ++ [(n, x)] := by rw [pairsT_succ, List.getElem?_eq_getElem h, hx]; rfl
theorem pairsT_length (ks : List Cst) (n : Nat) : (pairsT ks n).length = n := by simp [pairsT]
theorem pairsT_fst (ks : List Cst) (n : Nat) : (pairsT ks n).map (·.1) = List.range n := by simp [pairsT, Function.comp_def]
theorem pairsT_snd (ks : List Cst) {n : Nat} (h : n ≤ ks.length) : (pairsT ks n).map (·.2) = ks.take n := by
  apply List.ext_getElem
  · simp [pairsT, h]
  · intro i h1 h2
    have : i < ks.length := by simp [pairsT] at h1; omega
    simp [pairsT, this]

set_option maxHeartbeats 1000000 in
/-- All: the receiver is boxed; the function value holds the box. -/
theorem allT (a : Option Addr) (w : World) :
    Calls Try.prog 82 #[.pointer a] w fun e w' => e = .returned (.func (.func 102) #[] #[.pointer (some ⟨w.heap.size, 0, none⟩)]) ∧ w' = w.alloc (.cells #[.pointer a] 33) := by
  go_enter Try.func82, Try.ntmps82
  go_wp2
  go_ret
  exact ⟨rfl, rfl⟩

set_option maxRecDepth 100000 in
set_option maxHeartbeats 2000000 in
/-- The iterator: ids and keys in order, for every loop body that keeps what lay. -/
theorem all1T (n : Nat) (hn : 1 ≤ n) (l Bn : Nat) {base g m : Nat} {sv : Value} {ks : List Cst} {w0 : World} (hx : IdsAt Try.prog kindT base w0 g m sv ks) (hlen : ks.length ≤ 6000000000000) (J Jx : List (Nat × Cst) → World → Prop)
    (hY : ∀ pre x W, J pre W → pre.length < ks.length → YieldAt Fence.wide (n - 1) Try.prog l #[.int .i64 (x.1 : Int), .agg #[.int .i64 x.2.k, .int .i64 x.2.n, .string x.2.s]] W fun e W' =>
      (e = .returned (.bool true) ∧ J (pre ++ [x]) W' ∧ Below w0.heap.size W W') ∨ (e = .returned (.bool false) ∧ Jx (pre ++ [x]) W'))
    (W : World) (hW : Below w0.heap.size w0 W) (hBn : Bn < w0.heap.size) (hc : w0.cell? ⟨Bn, 0, none⟩ = some (.pointer (some ⟨g, 0, none⟩))) (h0 : J [] W) :
    CallsIn Fence.wide n Try.prog 102 #[.func (.yield l) #[] #[], .pointer (some ⟨Bn, 0, none⟩)] W fun e W' => (∃ v, e = .returned v) ∧
      ((∃ ys, ys = pairsT ks ks.length ∧ J ys W') ∨ (∃ pre, (∃ k, k ≤ ks.length ∧ pre = pairsT ks k) ∧ Jx pre W')) := by
  refine callsIn_of_wp Try.func102 rfl trivial ?_ rfl
  simp only [Try.ntmps102, List.size_toArray, List.length_cons, List.length_nil, Nat.reduceAdd, Nat.reduceSub, Array.replicate_succ, Array.replicate_zero, List.push_toArray, List.append_toArray, List.nil_append, List.cons_append]
  have hcW := (hW.cell (p := ⟨Bn, 0, none⟩) hBn).trans hc
  have HXW := Lib.hid (hx.below hW)
  gi_wp2_with (refine ⟨trivial, ?_⟩; gi_at_call 27; refine (callsIn_wide.2 (lenT HXW.out)).mono ?_; rintro e w' ⟨rfl, rfl⟩)
  gi_loopw [6] (fun i wr => ∃ k : Nat, k ≤ ks.length ∧ i = .int .i64 k ∧ J (pairsT ks k) wr ∧ Below w0.heap.size w0 wr)
    (fun i _ => ks.length - (intOf i).toNat)
  case atStart => exact ⟨0, Nat.zero_le _, rfl, h0, hW⟩
  case round =>
    obtain ⟨k, hk, rfl, hJs, hnx⟩ := hrel
    have hcr := (hnx.cell (p := ⟨Bn, 0, none⟩) hBn).trans hc
    have HXr := Lib.hid (hx.below hnx)
    by_cases hlt : k < ks.length
    · obtain ⟨x, hxk⟩ : ∃ x, x = ks[k] := ⟨_, rfl⟩
      obtain ⟨fn, tmps, assign, body, hy, hR⟩ := hY _ (k, x) wr hJs (by rw [pairsT_length]; exact hlt)
      dsimp only at hy
      have PS := Lib.hid (pairsT_succ' hlt hxk)
      obtain ⟨b, c, rfl, hc1, hc2⟩ := own_formC hx.own (by omega)
      have c0 := HXr.out.c0
      have hkc := HXr.out.keyCellsT (i := k) (c := x) (by rw [List.getElem?_eq_getElem hlt, hxk])
      have q0 := hkc 0 _ rfl; have q1 := hkc 1 _ rfl; have q2 := hkc 2 _ rfl
      simp only [Nat.add_zero] at q0
      clear hkc
      clear hxk
      unfold maxLen at hc2
      have hii : (0 : Int) ≤ (k : Int) := by omega
      have hin' : (k : Int) < (ks.length : Int) := by omega
      gi_wp2_with (refine ⟨trivial, ?_⟩; gi_at_call 27; refine (callsIn_wide.2 (lenT HXr.out)).mono ?_; rintro e w' ⟨rfl, rfl⟩)
      refine hR.mono ?_
      rintro e W3 (⟨rfl, hJ3, hk3⟩ | ⟨rfl, hJx3⟩)
      · gi_wp2
        go_roundw
        case rel => exact ⟨k + 1, by omega, by simp, by rw [PS.out]; exact hJ3, hnx.trans hk3⟩
        case measure => simp [intOf]; omega
      · gi_wp2
        refine bodyPost_ret (results_none rfl _ _ _) rfl ?_
        exact ⟨⟨_, rfl⟩, .inr ⟨_, ⟨k + 1, by omega, PS.out.symm⟩, hJx3⟩⟩
    · obtain rfl : k = ks.length := by omega
      gi_wp2
      go_end0
      exact ⟨⟨_, rfl⟩, .inl ⟨_, rfl, hJs⟩⟩

/-- All's value as an iterator. -/
theorem allT_stops (n : Nat) (hn : 1 ≤ n) (Bn : Nat) {base g m : Nat} {sv : Value} {ks : List Cst} {w0 : World} (hx : IdsAt Try.prog kindT base w0 g m sv ks) (hlen : ks.length ≤ 6000000000000) (hBn : Bn < w0.heap.size) (hc : w0.cell? ⟨Bn, 0, none⟩ = some (.pointer (some ⟨g, 0, none⟩))) :
    SeqStopsK Fence.wide n Try.prog 102 #[.pointer (some ⟨Bn, 0, none⟩)] (fun x : Nat × Cst => #[Value.int .i64 (x.1 : Int), .agg #[.int .i64 x.2.k, .int .i64 x.2.n, .string x.2.s]]) (Below w0.heap.size) (fun ys => ys = pairsT ks ks.length)
      (fun pre => ∃ k, k ≤ ks.length ∧ pre = pairsT ks k) ks.length w0 := fun l J Jx W hW _ _ hY h0 => all1T n hn l Bn hx hlen J Jx hY W hW hBn hc h0
end Go.Proofs.Ytblonickpmogiaa
