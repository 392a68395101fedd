/- ends: an Ids that is ranged over while keys go or come. -/
import Derived.Test.YtblonickpmogiaaIdsAll
import Derived.Test.YtblonickpmogiaaNewIds
import Derived.Test.YtblonickpmogiaaClass
namespace Go.Proofs.Ytblonickpmogiaa
open Go.RowKit Go.Maps Go.Shelf
attribute [local go_sem] Oper.semAt_some

/-- What the iterator needs of each world. -/
def Mv (base g m Bn : Nat) (W : World) : Prop := ∃ sv ks, IdsAt Try.prog kindS base W g m sv ks ∧ ks.length ≤ 2000000000000 ∧ W.cell? ⟨Bn, 0, none⟩ = some (.pointer (some ⟨g, 0, none⟩))

set_option maxRecDepth 100000 in
set_option maxHeartbeats 2000000 in
/-- The iterator of an Ids that changes. -/
theorem moveS (n : Nat) (hn : 1 ≤ n) (l Bn : Nat) {base g m N : Nat} (J Jx : List (Nat × ByteArray) → World → Prop)
    (hY : ∀ pre x W, J pre W → pre.length < N → YieldAt Fence.wide (n - 1) Try.prog l #[.int .i64 (x.1 : Int), .string x.2] W fun e W' =>
      (e = .returned (.bool true) ∧ J (pre ++ [x]) W' ∧ (Mv base g m Bn W → Mv base g m Bn W')) ∨ (e = .returned (.bool false) ∧ Jx (pre ++ [x]) W'))
    (W : World) {sv : Value} {ks : List ByteArray} (hx : IdsAt Try.prog kindS base W g m sv ks) (hN : ks.length = N) (hlen : N ≤ 2000000000000) (hc : W.cell? ⟨Bn, 0, none⟩ = some (.pointer (some ⟨g, 0, none⟩))) (h0 : J [] W) :
    CallsIn Fence.wide n Try.prog 104 #[.func (.yield l) #[] #[], .pointer (some ⟨Bn, 0, none⟩)] W fun e W' => (∃ v, e = .returned v) ∧
      ((∃ ys, (0 < N → ys ≠ []) ∧ J ys W') ∨ (∃ pre, True ∧ Jx pre W')) := by
  refine callsIn_of_wp Try.func104 rfl trivial ?_ rfl
  simp only [Try.ntmps104, List.size_toArray, List.length_cons, List.length_nil, Nat.reduceAdd, Nat.reduceSub, Array.replicate_succ, Array.replicate_zero, List.push_toArray, List.append_toArray, List.nil_append, List.cons_append]
  have HXW := Lib.hid hx
  have HN := Lib.hid hN
  clear hN
  gi_wp2_with (refine ⟨trivial, ?_⟩; gi_at_call 46; refine (callsIn_wide.2 (lenS HXW.out)).mono ?_; rintro e w' ⟨rfl, rfl⟩)
  rw [HN.out]
  gi_loopw [6] (fun i wr => ∃ (k : Nat) (ys : List (Nat × ByteArray)) (sv : Value) (ks : List ByteArray), k ≤ N ∧ i = .int .i64 k ∧ J ys wr ∧ ys.length ≤ k ∧ (0 < k → ys ≠ []) ∧ IdsAt Try.prog kindS base wr g m sv ks ∧ ks.length ≤ 2000000000000 ∧ wr.cell? ⟨Bn, 0, none⟩ = some (.pointer (some ⟨g, 0, none⟩)) ∧ (k = 0 → ks.length = N))
    (fun i _ => N - (intOf i).toNat)
  case atStart => exact ⟨0, [], sv, ks, Nat.zero_le _, rfl, h0, Nat.le_refl _, by simp, hx, by have := HN.out; omega, hc, fun _ => HN.out⟩
  case round =>
    obtain ⟨k, ys, sv', ks', hk, rfl, hJs, hyl, hyn, hxr, hkl, hcr, hk0⟩ := hrel
    have HXr := Lib.hid hxr
    by_cases hkN : k < N
    · have hii : (0 : Int) ≤ (k : Int) := by omega
      have hin' : (k : Int) < (N : Int) := by omega
      by_cases hlt : k < ks'.length
      · obtain ⟨x, hxk⟩ : ∃ x, x = ks'[k] := ⟨_, rfl⟩
        obtain ⟨fn, tmps, assign, body, hy, hR⟩ := hY _ (k, x) wr hJs (by omega)
        dsimp only at hy
        obtain ⟨b, c, rfl, hc1, hc2⟩ := own_form hxr.own (by omega)
        have c0 := hxr.c0
        have hcell := hxr.own.cells (g := b) rfl k (.string x) (by rw [flatS, List.getElem?_map, List.getElem?_eq_getElem hlt, hxk]; rfl)
        rw [add_none'] at hcell
        simp only [Nat.zero_add] at hcell
        have hin2 : (k : Int) < (ks'.length : Int) := by omega
        have HM := Lib.hid (show Mv base g m Bn wr from ⟨_, _, hxr, hkl, hcr⟩)
        clear hxk hxr
        unfold maxLen at hc2
        gi_wp2_with (refine ⟨trivial, ?_⟩; gi_at_call 46; refine (callsIn_wide.2 (lenS HXr.out)).mono ?_; rintro e w' ⟨rfl, rfl⟩)
        refine hR.mono ?_
        rintro e W3 (⟨rfl, hJ3, hk3⟩ | ⟨rfl, hJx3⟩)
        · obtain ⟨sv3, ks3, m1, m2, m3⟩ := hk3 HM.out
          have M1 := Lib.hid m1
          clear m1
          gi_wp2
          go_roundw
          case rel => exact ⟨k + 1, _, sv3, ks3, by omega, by simp, hJ3, by simp; omega, by simp, M1.out, m2, m3, by omega⟩
          case measure => simp [intOf]; omega
        · gi_wp2
          refine bodyPost_ret (results_none rfl _ _ _) rfl ?_
          exact ⟨⟨_, rfl⟩, .inr ⟨_, trivial, hJx3⟩⟩
      · have hin2 : ¬ (k : Int) < (ks'.length : Int) := by omega
        have hk1 : k ≠ 0 := fun e => by have := hk0 e; omega
        gi_wp2_with (refine ⟨trivial, ?_⟩; gi_at_call 46; refine (callsIn_wide.2 (lenS HXr.out)).mono ?_; rintro e w' ⟨rfl, rfl⟩)
        refine ⟨by simp, ?_⟩
        gi_wp2
        go_roundw
        case rel => exact ⟨k + 1, ys, sv', ks', by omega, by simp, hJs, by omega, fun _ => hyn (by omega), HXr.out, hkl, hcr, by omega⟩
        case measure => simp [intOf]; omega
    · obtain rfl : k = N := by omega
      gi_wp2
      go_end0
      exact ⟨⟨_, rfl⟩, .inl ⟨_, hyn, hJs⟩⟩

theorem sl_now1 {w W : World} {A : Option Addr} {xs : List ByteArray} (h : SlAt w w.heap.size 1 strCells A xs) (hb : Below w.heap.size w W) : SlAt W W.heap.size 1 strCells A xs := by
  rcases h.below hb (Nat.le_refl _) with h | ⟨b, off, hA, hlt, hc⟩
  · exact .inl h
  · exact .inr ⟨b, off, hA, Nat.lt_of_lt_of_le hlt hb.size, hc⟩


/-- Facts of an Ids that the range's own blocks don't touch. -/
theorem IdsAt.quiet {base g m : Nat} {sv : Value} {ks : List ByteArray} {W W' : World} {row : Option Nat} {B : Nat} (h : IdsAt Try.prog kindS base W g m sv ks) (hm : m < B) (hg : W.grownBy W' row) (hr : ∀ r, row = some r → B ≤ r ∧ ∃ o : Obj, W.heap[r]? = some o ∧ o.isCells = false) :
    IdsAt Try.prog kindS base W' g m sv ks := by
  refine h.turns (Turns.of_grown hg) (fun x hx hmem => ?_)
  obtain ⟨h1, o, h2, h3⟩ := hr x (by simpa using hmem)
  simp only [foot, List.mem_cons] at hx
  rcases hx with rfl | rfl | hx
  · rw [h.blk] at h2
    cases h2
    cases h3
  · omega
  · obtain ⟨_, _, cur, hc⟩ := ownBlock_cells h.own (by simpa using hx)
    rw [hc] at h2
    cases h2
    cases h3
theorem keepsFrom_turns {S : List Nat} {B : Nat} {W W' : World} (h : Turns S W W') (hS : ∀ x ∈ S, x < B ∨ ∃ o : Obj, W.heap[x]? = some o ∧ o.isCells = true) : KeepsFrom B W W' :=
  ⟨h.size, fun k o hB hk ho => (h.block k (lt_of_heap hk) (fun hm => by
    rcases hS k hm with h1 | ⟨o', h1, h2⟩
    · omega
    · rw [hk] at h1
      cases h1
      rw [ho] at h2
      cases h2)).trans hk⟩

/-- Between two rounds: the Ids moves, the counter counts. -/
structure Mvd (W0 : World) (base g m : Nat) (F : List Nat) (b6 : Nat) (p : Nat) (sv : Value) (ks : List ByteArray) (W : World) : Prop where
  ids : IdsAt Try.prog kindS base W g m sv ks
  new : ∀ b, sv.ownBlock = some b → b ∈ F ∨ W0.heap.size ≤ b
  count : Boxed W b6 3 (.int .i64 (p : Int))
  turns : Turns (b6 :: F) W0 W
theorem Mvd.quiet {W0 : World} {base g m b6 p : Nat} {F : List Nat} {sv : Value} {ks : List ByteArray} {W W' : World} {row : Option Nat} (h : Mvd W0 base g m F b6 p sv ks W) (hm : m < W0.heap.size) (hg : W.grownBy W' row) (hr : ∀ r, row = some r → W0.heap.size ≤ r ∧ ∃ o : Obj, W.heap[r]? = some o ∧ o.isCells = false) :
    Mvd W0 base g m F b6 p sv ks W' where
  ids := h.ids.quiet hm hg hr
  new := h.new
  count := h.count.kept hg (fun e => by
    obtain ⟨_, o, h2, h3⟩ := hr b6 e.symm
    rw [show W.heap[b6]? = _ from h.count] at h2
    cases h2
    cases h3)
  turns := h.turns.trans (Turns.of_grown hg) (fun x hx => .inr (hr x (by simpa using hx)).1)
/-- The counter goes up. -/
theorem Mvd.up {W0 : World} {base g m b6 p : Nat} {F : List Nat} {sv : Value} {ks : List ByteArray} {W : World} (h : Mvd W0 base g m F b6 p sv ks W) (q : Nat) (hb : b6 < W0.heap.size) (hF : b6 ∉ F) (hg : g ∈ F) (hm : m ∈ F) :
    Mvd W0 base g m F b6 q sv ks (W.setCell ⟨b6, 0, none⟩ (.int .i64 (q : Int))) := by
  have T : Turns [b6] W (W.setCell ⟨b6, 0, none⟩ (.int .i64 (q : Int))) := (Turns.refl _ _).setCell (.inl (by simp)) _
  refine ⟨h.ids.turns T (fun x hx hm' => ?_), h.new, h.count.set _, h.turns.trans T (fun x hx => .inl (by simp at hx; simp [hx]))⟩
  have e : x = b6 := by simpa using hm'
  subst e
  simp only [foot, List.mem_cons] at hx
  rcases hx with rfl | rfl | hx
  · exact hF hg
  · exact hF hm
  · rcases h.new x (by simpa using hx) with h1 | h1
    · exact hF h1
    · omega
/-- A call has left the Ids otherwise. -/
theorem Mvd.left {W0 : World} {base g m b6 p : Nat} {F : List Nat} {sv : Value} {ks ks' : List ByteArray} {W W' : World} (h : Mvd W0 base g m F b6 p sv ks W) (hl : Left Try.prog kindS base W g m sv ks' W') (hb : b6 < W0.heap.size) (hF : b6 ∉ F) (hg : g ∈ F) (hm : m ∈ F) :
    ∃ sv', Mvd W0 base g m F b6 p sv' ks' W' ∧ Turns (foot g m sv) W W' := by
  obtain ⟨sv', h1, h2, h3⟩ := hl
  have hft : ∀ x ∈ foot g m sv, x ∈ F ∨ W0.heap.size ≤ x := by
    intro x hx
    simp only [foot, List.mem_cons] at hx
    rcases hx with rfl | rfl | hx
    · exact .inl hg
    · exact .inl hm
    · exact h.new x (by simpa using hx)
  refine ⟨sv', ⟨h1, fun b hb' => ?_, ?_, ?_⟩, h2⟩
  · rcases h3 b hb' with q | q
    · exact h.new b q
    · exact .inr (Nat.le_trans h.turns.size q)
  · exact (h2.block _ h.count.lt (fun hmm => by rcases hft _ hmm with q | q; exact hF q; omega)).trans h.count
  · exact h.turns.trans h2 (fun x hx => by rcases hft x hx with q | q; exact .inl (List.mem_cons_of_mem _ q); exact .inr q)
/-- A round keeps what is no cells. -/
theorem Mvd.keeps {W0 : World} {base g m b6 p : Nat} {F : List Nat} {sv : Value} {ks : List ByteArray} {W W' : World} (h : Mvd W0 base g m F b6 p sv ks W) (u : Value) (hb : b6 < W0.heap.size) (hg : g < W0.heap.size) (hm : m < W0.heap.size) (hT : Turns (foot g m sv) (W.setCell ⟨b6, 0, none⟩ u) W') : KeepsFrom W0.heap.size W W' := by
  have T : Turns (b6 :: foot g m sv) W W' := ((Turns.refl (b6 :: foot g m sv) W).setCell (.inl (by simp)) u).trans hT (fun x hx => .inl (List.mem_cons_of_mem _ hx))
  refine keepsFrom_turns T (fun x hx => ?_)
  rcases List.mem_cons.1 hx with rfl | hx
  · exact .inl hb
  · simp only [foot, List.mem_cons] at hx
    rcases hx with rfl | rfl | hx
    · exact .inl hg
    · exact .inl hm
    · obtain ⟨_, _, cur, hc⟩ := ownBlock_cells h.ids.own (by simpa using hx)
      exact .inr ⟨_, hc, rfl⟩
end Go.Proofs.Ytblonickpmogiaa
