/- (*Table).Ranks, Const and Find. -/
import Derived.Test.YtblonickpmogiaaSorted
import Derived.Laws.OwnMore
namespace Go.Proofs.Ytblonickpmogiaa
open Go.RowKit Go.Maps Go.Shelf
attribute [local go_sem ↓] Go.wp_at_zero Go.wp_at_succ

/-- The ranks that the first k of the sorted ids have. -/
def rk (l : List Nat) : Nat → List Nat
  | 0 => List.replicate l.length 0
  | k + 1 => (rk l k).set (l.getD k 0) k
theorem rk_length (l : List Nat) : ∀ k, (rk l k).length = l.length
  | 0 => by simp [rk]
  | k + 1 => by rw [rk, List.length_set, rk_length l k]
theorem rk_at {l : List Nat} (hn : l.Nodup) (hl : ∀ x ∈ l, x < l.length) : ∀ (k : Nat), k ≤ l.length → ∀ j, j < k → (rk l k)[l.getD j 0]? = some j
  | 0, _, j, hj => by omega
  | k + 1, hk, j, hj => by
    rw [rk]
    by_cases e : j = k
    · subst e
      have : l.getD j 0 < (rk l j).length := by
        rw [rk_length]
        apply hl
        rw [List.getD_eq_getElem?_getD, List.getElem?_eq_getElem (by omega)]
        exact List.getElem_mem _
      rw [List.getElem?_set_self this]
    · have hne : l.getD k 0 ≠ l.getD j 0 := by
        rw [List.getD_eq_getElem?_getD, List.getD_eq_getElem?_getD, List.getElem?_eq_getElem (by omega), List.getElem?_eq_getElem (by omega)]
        intro h
        have := (List.getElem_inj hn).1 h
        omega
      rw [List.getElem?_set_ne hne]
      exact rk_at hn hl k (by omega) j (by omega)

theorem madeN (w : World) (n : Nat) (hn : n ≤ maxLen) : OwnN (w.alloc (.cells (madeCells (Value.int .i64 0).cells (n * 1)) 3)) w.heap.size (.slice (some ⟨w.heap.size, 0, none⟩) n n) (List.replicate n 0) := by
  have h := World.ownsRow_lit (base := w.heap.size) (e := 3) (size := 1) w (madeCells (Value.int .i64 0).cells (n * 1)) n (Nat.le_refl _) hn (size_madeCells _ _)
  unfold OwnN
  rw [List.length_replicate]
  have e : (madeCells (Value.int .i64 0).cells (n * 1)).toList = (List.replicate n 0).map fun (i : Nat) => Value.int .i64 (i : Int) := by
    rw [Nat.mul_one]
    apply List.ext_getElem
    · simp [size_madeCells]
    · intro i h1 h2
      simp only [madeCells, Array.toList_map, List.getElem_map, Value.cells, List.getElem_replicate]
      simp [Nat.mod_one]
  rw [← e]
  exact h
theorem run_makeI (w : World) (n : Nat) (hn : n ≤ 70000) : (Instr.makeSlice 66 (.int .i64 (n : Int)) (.int .i64 (n : Int))).run Try.prog w = .ok (.slice (some ⟨w.heap.size, 0, none⟩) n n) (w.alloc (.cells (madeCells (Value.int .i64 0).cells (n * 1)) 3)) := by
  obtain ⟨i0, hi, hz0, hz1, hz2⟩ := info_parts infoInt
  have h := run_makeSlice (P := Try.prog) w 66 3 i0 (.int .i64 0) Try.underlying66 hi hz0 .i64 .i64 n n (by omega) (Int.le_refl _) (by rw [hz1, Int.toNat_natCast]; omega) (by rw [hz2]; omega) (by omega)
  rw [hz1, Int.toNat_natCast] at h
  exact h
/-- A row of numbers: read, written. -/
theorem OwnN.cell {w : World} {base g n cap : Nat} {l : List Nat} (h : OwnN w base (.slice (some ⟨g, 0, none⟩) n cap) l) {i x : Nat} (hi : l[i]? = some x) : w.cell? ⟨g, i, none⟩ = some (.int .i64 (x : Int)) := by
  have hlt := (List.getElem?_eq_some_iff.1 hi).1
  obtain ⟨cur, _, _, _, _, _, hn, _⟩ := ownN_block h
  subst hn
  have := World.ownsRow.cellAt (show w.ownsRow base 3 1 (.slice (some ⟨g, 0, none⟩) l.length cap) l.length (l.map fun (i : Nat) => Value.int .i64 (i : Int)) from h) i (by omega)
  rw [this, List.getElem?_map, hi]
  rfl
theorem OwnN.put {w : World} {base g n cap : Nat} {l : List Nat} (h : OwnN w base (.slice (some ⟨g, 0, none⟩) n cap) l) (j x : Nat) :
    OwnN (w.setCell ⟨g, j, none⟩ (.int .i64 (x : Int))) base (.slice (some ⟨g, 0, none⟩) n cap) (l.set j x) ∧ Turns [g] w (w.setCell ⟨g, j, none⟩ (.int .i64 (x : Int))) := by
  obtain ⟨cur, _, _, _, _, _, hn, _⟩ := ownN_block h
  subst hn
  obtain ⟨h1, h2⟩ := World.ownsRow.stored (show w.ownsRow base 3 1 (.slice (some ⟨g, 0, none⟩) l.length cap) l.length (l.map fun (i : Nat) => Value.int .i64 (i : Int)) from h) j (.int .i64 (x : Int))
  refine ⟨?_, by simpa using Turns.of_grown h2⟩
  unfold OwnN
  rw [List.length_set, List.map_set]
  exact h1
theorem OwnN.turns {w w' : World} {base : Nat} {v : Value} {l : List Nat} (h : OwnN w base v l) {S : List Nat} (ht : Turns S w w') (hs : ∀ b, v.ownBlock = some b → b ∉ S) : OwnN w' base v l := ownsRow_turns h ht hs
theorem OwnN.form {w : World} {base : Nat} {v : Value} {l : List Nat} (h : OwnN w base v l) : ∃ a c, v = .slice a l.length c := by
  obtain ⟨a, c, e, _⟩ := own_lenC h
  exact ⟨a, c, e⟩
theorem OwnN.form1 {w : World} {base : Nat} {v : Value} {l : List Nat} (h : OwnN w base v l) (hn : 0 < l.length) : ∃ b c, v = .slice (some ⟨b, 0, none⟩) l.length c := by
  obtain ⟨b, c, e, _⟩ := own_formC h hn
  exact ⟨b, c, e⟩

/-- What Ranks has at hand behind k of the sorted ids. -/
structure RkS (w wr : World) (u : Value) (n : Nat) (l : List Nat) (k : Nat) : Prop where
  row : OwnN wr w.heap.size (.slice (some ⟨w.heap.size, 0, none⟩) n n) (rk l k)
  ids : OwnN wr (w.heap.size + 1) u l
  below : Below w.heap.size w wr
theorem rks_start {w W1 w2 : World} {u : Value} {n : Nat} {l : List Nat} (hO : OwnN W1 w.heap.size (.slice (some ⟨w.heap.size, 0, none⟩) n n) (List.replicate n 0)) (q1 : OwnN w2 W1.heap.size u l) (hs1 : W1.heap.size = w.heap.size + 1) (hB1 : Below w.heap.size w W1) (q4 : Below W1.heap.size W1 w2) (hll : l.length = n) :
    RkS w w2 u n l 0 := by
  subst hll
  exact ⟨hO.turns (Turns.of_below (S := []) q4) (fun _ _ => by simp), by rw [← hs1]; exact q1, below_step hB1 q4⟩
theorem RkS.len {w wr : World} {u : Value} {n : Nat} {l : List Nat} {k : Nat} (h : RkS w wr u n l k) : l.length = n := by
  obtain ⟨_, _, _, _, _, _, hn, _⟩ := ownN_block h.row
  rw [hn, rk_length]
theorem RkS.next {w wr : World} {u : Value} {n : Nat} {l : List Nat} {k : Nat} (h : RkS w wr u n l k) :
    RkS w (wr.setCell ⟨w.heap.size, l.getD k 0, none⟩ (.int .i64 (k : Int))) u n l (k + 1) := by
  obtain ⟨h1, h2⟩ := h.row.put (l.getD k 0) k
  refine ⟨h1, h.ids.turns h2 (fun b hb hm => ?_), h.below.trans (h2.below h.below.size (fun x hx => by rw [List.mem_singleton.1 hx]; exact Nat.le_refl _))⟩
  have := (ownBlock_cells h.ids hb).1
  rw [List.mem_singleton.1 hm] at this
  omega

set_option maxRecDepth 100000 in
set_option maxHeartbeats 4000000 in
theorem ranksW {base : Nat} {w : World} {g m : Nat} {sv : Value} {ks : List Cst} (h : IdsAt Try.prog kindT base w g m sv ks) (hlen : ks.length ≤ 70000) :
    Calls Try.prog 39 #[.pointer (some ⟨g, 0, none⟩)] w fun e w' => ∃ u l, e = .returned u ∧ l.Perm (List.range ks.length) ∧ SdIds ks l ∧ OwnN w' w.heap.size u (rk l ks.length) ∧ Below w.heap.size w w' := by
  have hmk := run_makeI w ks.length hlen
  have hO := madeN w ks.length (by unfold maxLen; omega)
  obtain ⟨W1, hW1⟩ : ∃ W1, W1 = w.alloc (.cells (madeCells (Value.int .i64 0).cells (ks.length * 1)) 3) := ⟨_, rfl⟩
  have hB1 : Below w.heap.size w W1 := by rw [hW1]; exact (Below.refl _ w).alloc (Nat.le_refl _) _
  have hs1 : W1.heap.size = w.heap.size + 1 := by rw [hW1]; simp
  rw [← hW1] at hmk hO
  have hx1 := h.below hB1
  have SW := Lib.hid (sortedW hx1 hlen)
  have LW := Lib.hid (lenT h)
  clear hW1
  go_enter Try.func39, Try.ntmps39
  go_wp2_with (first
    | (go_at_call 27; refine LW.out.mono ?_; rintro e w' ⟨rfl, rfl⟩)
    | (go_at_call 38; refine SW.out.mono ?_; rintro e w2 ⟨u, l, rfl, q1, q2, q3, q4⟩; have hll : l.length = ks.length := (by rw [q2.length_eq, List.length_range]); have hRS := Lib.hid (rks_start hO q1 hs1 hB1 q4 hll); have HP := Lib.hid (And.intro q2 q3); obtain ⟨ua, uc, rfl⟩ := q1.form; rw [hll] at hRS ⊢; clear hO q1 q2 q3 q4))
  have hl69 := hlen
  go_loopw [16] (fun i wr => ∃ k : Nat, i = .int .i64 k ∧ k ≤ ks.length ∧ Hid (RkS w wr (.slice ua ks.length uc) ks.length l k)) (fun i _ => ks.length - (intOf i).toNat)
  case atStart => exact ⟨0, rfl, Nat.zero_le _, hRS⟩
  case round =>
    obtain ⟨k, rfl, hk, hR⟩ := hrel
    by_cases hkn : k < ks.length
    · have hll := hR.out.len
      obtain ⟨x, hx⟩ : ∃ x, x = l[k] := ⟨_, rfl⟩
      have hxk : l[k]? = some x := by rw [List.getElem?_eq_getElem (by omega), hx]
      have hxn : x < ks.length := by have := HP.out.1.subset (List.mem_of_getElem? hxk); simpa using this
      obtain ⟨ub, uc', hu⟩ := hR.out.ids.form1 (by omega)
      simp only [Value.slice.injEq] at hu
      obtain ⟨rfl, -, rfl⟩ := hu
      have c0 := hR.out.ids.cell hxk
      obtain ⟨y, hy⟩ : ∃ y, (rk l k)[x]? = some y := ⟨(rk l k)[x]'(by rw [rk_length]; omega), List.getElem?_eq_getElem _⟩
      have d0 := hR.out.row.cell hy
      have NX := Lib.hid hR.out.next
      have hgd : l.getD k 0 = x := by rw [List.getD_eq_getElem?_getD, hxk]; rfl
      rw [hgd] at NX
      have f0 : wr.frozen? ⟨w.heap.size, x, none⟩ = false := by
        obtain ⟨cur, hc, _⟩ := ownN_block hR.out.row
        exact frozen_of_row wr _ _ _ _ hc
      have e1 : (0 : Int) ≤ (k : Int) := by omega
      have e2 : (k : Int) < (ks.length : Int) := by omega
      have e3 : (0 : Int) ≤ (x : Int) := by omega
      have e4 : (x : Int) < (ks.length : Int) := by omega
      have HK := Lib.hid hkn
      clear hx hxk hy hgd hkn hk hll hxn
      go_wp2_with fail
      exact ⟨⟨k + 1, by go_num, HK.out, NX⟩, by simp [intOf]; have := HK.out; omega⟩
    · obtain rfl : k = ks.length := by omega
      go_wp2_with fail
      go_ret
      exact ⟨_, l, rfl, HP.out.1, HP.out.2, hR.out.row, hR.out.below⟩
end Go.Proofs.Ytblonickpmogiaa
