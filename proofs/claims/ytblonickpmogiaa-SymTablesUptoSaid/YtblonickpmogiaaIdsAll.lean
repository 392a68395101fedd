/- All of an Ids of strings: the value that it hands back, as an iterator. -/
import Derived.RangeFuncNested
import Derived.RangeFuncBound
import Derived.RangeFuncCalls
import Derived.RangeFuncLeaves
import Derived.RangeFuncBox
import Derived.Shelf.Abstract
import Derived.Shelf.RegionOpen
import Derived.WalkKit
import Derived.OwnWalkIn
import Derived.TacticsInMore
import Derived.LoopNIn
import Derived.LoopIn
import Derived.Maps.AppendAt
import Derived.Test.YtblonickpmogiaaIdsS
namespace Go.Proofs.Ytblonickpmogiaa
open Go.RowKit Go.Maps Go.Shelf
attribute [local go_sem] Oper.semAt_some

/-- The first n ids with their keys. -/
def pairs (ks : List ByteArray) (n : Nat) : List (Nat × ByteArray) := (List.range n).map fun j => (j, ks[j]?.getD ⟨#[]⟩)
theorem pairs_succ (ks : List ByteArray) (n : Nat) : pairs ks (n + 1) = pairs ks n ++ [(n, ks[n]?.getD ⟨#[]⟩)] := by simp [pairs, List.range_succ]
theorem pairs_succ' {ks : List ByteArray} {n : Nat} {x : ByteArray} (h : n < ks.length) (hx : x = ks[n]) : pairs ks (n + 1) = pairs ks n ++ [(n, x)] := by rw [pairs_succ, List.getElem?_eq_getElem h, hx]; rfl
theorem pairs_length (ks : List ByteArray) (n : Nat) : (pairs ks n).length = n := by simp [pairs]
theorem pairs_fst (ks : List ByteArray) (n : Nat) : (pairs ks n).map (·.1) = List.range n := by simp [pairs, Function.comp_def]
theorem pairs_snd (ks : List ByteArray) {n : Nat} (h : n ≤ ks.length) : (pairs ks n).map (·.2) = ks.take n := by
  apply List.ext_getElem
  · simp [pairs, h]
  · intro i h1 h2
    have : i < ks.length := by simp [pairs] at h1; omega
    simp [pairs, this]

set_option maxHeartbeats 1000000 in
/-- All: the receiver is boxed; the function value holds the box. -/
theorem allS (a : Option Addr) (w : World) :
    Calls Try.prog 85 #[.pointer a] w fun e w' => e = .returned (.func (.func 104) #[] #[.pointer (some ⟨w.heap.size, 0, none⟩)]) ∧ w' = w.alloc (.cells #[.pointer a] 47) := by
  go_enter Try.func85, Try.ntmps85
  go_wp2
  go_ret
  exact ⟨rfl, rfl⟩

set_option maxRecDepth 100000 in
set_option maxHeartbeats 2000000 in
/-- The iterator: ids and keys in order, for every loop body that keeps what lay. -/
theorem all1S (n : Nat) (hn : 1 ≤ n) (l Bn : Nat) {base g m : Nat} {sv : Value} {ks : List ByteArray} {w0 : World} (hx : IdsAt Try.prog kindS base w0 g m sv ks) (hlen : ks.length ≤ 6000000000000) (J Jx : List (Nat × ByteArray) → World → Prop)
    (hY : ∀ pre x W, J pre W → pre.length < ks.length → YieldAt Fence.wide (n - 1) Try.prog l #[.int .i64 (x.1 : Int), .string x.2] W fun e W' =>
      (e = .returned (.bool true) ∧ J (pre ++ [x]) W' ∧ Below w0.heap.size W W') ∨ (e = .returned (.bool false) ∧ Jx (pre ++ [x]) W'))
    (W : World) (hW : Below w0.heap.size w0 W) (hBn : Bn < w0.heap.size) (hc : w0.cell? ⟨Bn, 0, none⟩ = some (.pointer (some ⟨g, 0, none⟩))) (h0 : J [] W) :
    CallsIn Fence.wide n Try.prog 104 #[.func (.yield l) #[] #[], .pointer (some ⟨Bn, 0, none⟩)] W fun e W' => (∃ v, e = .returned v) ∧
      ((∃ ys, ys = pairs ks ks.length ∧ J ys W') ∨ (∃ pre, (∃ k, k ≤ ks.length ∧ pre = pairs ks k) ∧ Jx pre W')) := by
  refine callsIn_of_wp Try.func104 rfl trivial ?_ rfl
  simp only [Try.ntmps104, List.size_toArray, List.length_cons, List.length_nil, Nat.reduceAdd, Nat.reduceSub, Array.replicate_succ, Array.replicate_zero, List.push_toArray, List.append_toArray, List.nil_append, List.cons_append]
  have hcW := (hW.cell (p := ⟨Bn, 0, none⟩) hBn).trans hc
  have HXW := Lib.hid (hx.below hW)
  gi_wp2_with (refine ⟨trivial, ?_⟩; gi_at_call 46; refine (callsIn_wide.2 (lenS HXW.out)).mono ?_; rintro e w' ⟨rfl, rfl⟩)
  gi_loopw [6] (fun i wr => ∃ k : Nat, k ≤ ks.length ∧ i = .int .i64 k ∧ J (pairs ks k) wr ∧ Below w0.heap.size w0 wr)
    (fun i _ => ks.length - (intOf i).toNat)
  case atStart => exact ⟨0, Nat.zero_le _, rfl, h0, hW⟩
  case round =>
    obtain ⟨k, hk, rfl, hJs, hnx⟩ := hrel
    have hcr := (hnx.cell (p := ⟨Bn, 0, none⟩) hBn).trans hc
    have HXr := Lib.hid (hx.below hnx)
    by_cases hlt : k < ks.length
    · obtain ⟨x, hxk⟩ : ∃ x, x = ks[k] := ⟨_, rfl⟩
      obtain ⟨fn, tmps, assign, body, hy, hR⟩ := hY _ (k, x) wr hJs (by rw [pairs_length]; exact hlt)
      dsimp only at hy
      have PS := Lib.hid (pairs_succ' hlt hxk)
      obtain ⟨b, c, rfl, hc1, hc2⟩ := own_form hx.own (by omega)
      have c0 := HXr.out.c0
      have hcell := HXr.out.own.cells (g := b) rfl k (.string x) (by rw [flatS, List.getElem?_map, List.getElem?_eq_getElem hlt, hxk]; rfl)
      rw [add_none'] at hcell
      simp only [Nat.zero_add] at hcell
      clear hxk
      unfold maxLen at hc2
      have hii : (0 : Int) ≤ (k : Int) := by omega
      have hin' : (k : Int) < (ks.length : Int) := by omega
      gi_wp2_with (refine ⟨trivial, ?_⟩; gi_at_call 46; refine (callsIn_wide.2 (lenS HXr.out)).mono ?_; rintro e w' ⟨rfl, rfl⟩)
      refine hR.mono ?_
      rintro e W3 (⟨rfl, hJ3, hk3⟩ | ⟨rfl, hJx3⟩)
      · gi_wp2
        go_roundw
        case rel => exact ⟨k + 1, by omega, by simp, by rw [PS.out]; exact hJ3, hnx.trans hk3⟩
        case measure => simp [intOf]; omega
      · gi_wp2
        refine bodyPost_ret (results_none rfl _ _ _) rfl ?_
        exact ⟨⟨_, rfl⟩, .inr ⟨_, ⟨k + 1, by omega, PS.out.symm⟩, hJx3⟩⟩
    · obtain rfl : k = ks.length := by omega
      gi_wp2
      go_end0
      exact ⟨⟨_, rfl⟩, .inl ⟨_, rfl, hJs⟩⟩

/-- All's value as an iterator. -/
theorem allS_stops (n : Nat) (hn : 1 ≤ n) (Bn : Nat) {base g m : Nat} {sv : Value} {ks : List ByteArray} {w0 : World} (hx : IdsAt Try.prog kindS base w0 g m sv ks) (hlen : ks.length ≤ 6000000000000) (hBn : Bn < w0.heap.size) (hc : w0.cell? ⟨Bn, 0, none⟩ = some (.pointer (some ⟨g, 0, none⟩))) :
    SeqStopsK Fence.wide n Try.prog 104 #[.pointer (some ⟨Bn, 0, none⟩)] (fun x : Nat × ByteArray => #[Value.int .i64 (x.1 : Int), .string x.2]) (Below w0.heap.size) (fun ys => ys = pairs ks ks.length)
      (fun pre => ∃ k, k ≤ ks.length ∧ pre = pairs ks k) ks.length w0 := fun l J Jx W hW _ _ hY h0 => all1S n hn l Bn hx hlen J Jx hY W hW hBn hc h0
end Go.Proofs.Ytblonickpmogiaa
