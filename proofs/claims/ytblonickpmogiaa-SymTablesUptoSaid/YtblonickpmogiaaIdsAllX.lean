/- All of a Table's Ids as an iterator, over loop bodies that may turn one older block. -/
import Derived.Test.YtblonickpmogiaaIdsAllT
namespace Go.Proofs.Ytblonickpmogiaa
open Go.RowKit Go.Maps Go.Shelf
attribute [local go_sem] Oper.semAt_some

/-- Below N all lies as it lay, but for block Bl. -/
structure Kx (N Bl : Nat) (A B : World) : Prop where
  os : B.os = A.os
  tape : B.tape = A.tape
  output : B.output = A.output
  size : A.heap.size ≤ B.heap.size
  block : ∀ k, k < N → k ≠ Bl → B.heap[k]? = A.heap[k]?
theorem Kx.refl (N Bl : Nat) (A : World) : Kx N Bl A A := ⟨rfl, rfl, rfl, Nat.le_refl _, fun _ _ _ => rfl⟩
theorem Kx.trans {N Bl : Nat} {A B C : World} (h : Kx N Bl A B) (k : Kx N Bl B C) : Kx N Bl A C :=
  ⟨k.os.trans h.os, k.tape.trans h.tape, k.output.trans h.output, Nat.le_trans h.size k.size, fun i h1 h2 => (k.block i h1 h2).trans (h.block i h1 h2)⟩
theorem Kx.of_below {N Bl : Nat} {A B : World} (h : Below N A B) : Kx N Bl A B := ⟨h.os, h.tape, h.output, h.size, fun k hk _ => h.block k hk⟩
theorem Kx.turns {Bl : Nat} {A B : World} (h : Kx A.heap.size Bl A B) : Turns [Bl] A B := ⟨h.os, h.tape, h.output, h.size, fun k hk hn => h.block k hk (by simpa using hn)⟩
theorem Turns.kx {Bl N : Nat} {S : List Nat} {A B : World} (h : Turns S A B) (hN : N ≤ A.heap.size) (hS : ∀ x ∈ S, x = Bl ∨ N ≤ x) : Kx N Bl A B :=
  ⟨h.os, h.tape, h.output, h.size, fun k hk hn => h.block k (by omega) (fun hm => by rcases hS k hm with e | e; exact hn e; omega)⟩
theorem Kx.cell {N Bl : Nat} {A B : World} (h : Kx N Bl A B) {b o : Nat} (hb : b < N) (hn : b ≠ Bl) : B.cell? ⟨b, o, none⟩ = A.cell? ⟨b, o, none⟩ := World.cell?_of_block (a := ⟨b, o, none⟩) (h.block b hb hn)

set_option maxRecDepth 100000 in
set_option maxHeartbeats 2000000 in
/-- The iterator: ids and keys in order, for every loop body that keeps what lay. -/
theorem all1X (n : Nat) (hn : 1 ≤ n) (l Bn Bl : Nat) {base g m : Nat} {sv : Value} {ks : List Cst} {w0 : World} (hx : IdsAt Try.prog kindT base w0 g m sv ks) (hlen : ks.length ≤ 6000000000000) (J Jx : List (Nat × Cst) → World → Prop)
    (hY : ∀ pre x W, J pre W → pre.length < ks.length → YieldAt Fence.wide (n - 1) Try.prog l #[.int .i64 (x.1 : Int), .agg #[.int .i64 x.2.k, .int .i64 x.2.n, .string x.2.s]] W fun e W' =>
      (e = .returned (.bool true) ∧ J (pre ++ [x]) W' ∧ Kx w0.heap.size Bl W W') ∨ (e = .returned (.bool false) ∧ Jx (pre ++ [x]) W'))
    (W : World) (hW : Kx w0.heap.size Bl w0 W) (hBn : Bn < w0.heap.size) (hnB : Bn ≠ Bl) (hBl : ∀ x ∈ foot g m sv, x ∉ [Bl]) (hc : w0.cell? ⟨Bn, 0, none⟩ = some (.pointer (some ⟨g, 0, none⟩))) (h0 : J [] W) :
    CallsIn Fence.wide n Try.prog 102 #[.func (.yield l) #[] #[], .pointer (some ⟨Bn, 0, none⟩)] W fun e W' => (∃ v, e = .returned v) ∧
      ((∃ ys, ys = pairsT ks ks.length ∧ J ys W') ∨ (∃ pre, (∃ k, k ≤ ks.length ∧ pre = pairsT ks k) ∧ Jx pre W')) := by
  refine callsIn_of_wp Try.func102 rfl trivial ?_ rfl
  simp only [Try.ntmps102, List.size_toArray, List.length_cons, List.length_nil, Nat.reduceAdd, Nat.reduceSub, Array.replicate_succ, Array.replicate_zero, List.push_toArray, List.append_toArray, List.nil_append, List.cons_append]
  have hcW := (hW.cell hBn hnB).trans hc
  have HXW := Lib.hid (hx.turns hW.turns hBl)
  gi_wp2_with (refine ⟨trivial, ?_⟩; gi_at_call 27; refine (callsIn_wide.2 (lenT HXW.out)).mono ?_; rintro e w' ⟨rfl, rfl⟩)
  gi_loopw [6] (fun i wr => ∃ k : Nat, k ≤ ks.length ∧ i = .int .i64 k ∧ J (pairsT ks k) wr ∧ Kx w0.heap.size Bl w0 wr)
    (fun i _ => ks.length - (intOf i).toNat)
  case atStart => exact ⟨0, Nat.zero_le _, rfl, h0, hW⟩
  case round =>
    obtain ⟨k, hk, rfl, hJs, hnx⟩ := hrel
    have hcr := (hnx.cell hBn hnB).trans hc
    have HXr := Lib.hid (hx.turns hnx.turns hBl)
    by_cases hlt : k < ks.length
    · obtain ⟨x, hxk⟩ : ∃ x, x = ks[k] := ⟨_, rfl⟩
      obtain ⟨fn, tmps, assign, body, hy, hR⟩ := hY _ (k, x) wr hJs (by rw [pairsT_length]; exact hlt)
      dsimp only at hy
      have PS := Lib.hid (pairsT_succ' hlt hxk)
      obtain ⟨b, c, rfl, hc1, hc2⟩ := own_formC hx.own (by omega)
      have c0 := HXr.out.c0
      have hkc := HXr.out.keyCellsT (i := k) (c := x) (by rw [List.getElem?_eq_getElem hlt, hxk])
      have q0 := hkc 0 _ rfl; have q1 := hkc 1 _ rfl; have q2 := hkc 2 _ rfl
      simp only [Nat.add_zero] at q0
      clear hkc
      clear hxk
      unfold maxLen at hc2
      have hii : (0 : Int) ≤ (k : Int) := by omega
      have hin' : (k : Int) < (ks.length : Int) := by omega
      gi_wp2_with (refine ⟨trivial, ?_⟩; gi_at_call 27; refine (callsIn_wide.2 (lenT HXr.out)).mono ?_; rintro e w' ⟨rfl, rfl⟩)
      refine hR.mono ?_
      rintro e W3 (⟨rfl, hJ3, hk3⟩ | ⟨rfl, hJx3⟩)
      · gi_wp2
        go_roundw
        case rel => exact ⟨k + 1, by omega, by simp, by rw [PS.out]; exact hJ3, hnx.trans hk3⟩
        case measure => simp [intOf]; omega
      · gi_wp2
        refine bodyPost_ret (results_none rfl _ _ _) rfl ?_
        exact ⟨⟨_, rfl⟩, .inr ⟨_, ⟨k + 1, by omega, PS.out.symm⟩, hJx3⟩⟩
    · obtain rfl : k = ks.length := by omega
      gi_wp2
      go_end0
      exact ⟨⟨_, rfl⟩, .inl ⟨_, rfl, hJs⟩⟩

/-- All's value as an iterator. -/
theorem allX_stops (n : Nat) (hn : 1 ≤ n) (Bn Bl : Nat) {base g m : Nat} {sv : Value} {ks : List Cst} {w0 : World} (hx : IdsAt Try.prog kindT base w0 g m sv ks) (hlen : ks.length ≤ 6000000000000) (hBn : Bn < w0.heap.size) (hnB : Bn ≠ Bl) (hBl : ∀ x ∈ foot g m sv, x ∉ [Bl]) (hc : w0.cell? ⟨Bn, 0, none⟩ = some (.pointer (some ⟨g, 0, none⟩))) :
    SeqStopsK Fence.wide n Try.prog 102 #[.pointer (some ⟨Bn, 0, none⟩)] (fun x : Nat × Cst => #[Value.int .i64 (x.1 : Int), .agg #[.int .i64 x.2.k, .int .i64 x.2.n, .string x.2.s]]) (Kx w0.heap.size Bl) (fun ys => ys = pairsT ks ks.length)
      (fun pre => ∃ k, k ≤ ks.length ∧ pre = pairsT ks k) ks.length w0 := fun l J Jx W hW _ _ hY h0 => all1X n hn l Bn Bl hx hlen J Jx hY W (Kx.of_below hW) hBn hnB hBl hc h0
end Go.Proofs.Ytblonickpmogiaa
