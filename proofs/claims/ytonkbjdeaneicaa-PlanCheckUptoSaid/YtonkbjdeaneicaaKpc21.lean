/- PlanShares: two rules' ways through the plan are one as far as the chains agree; no node is idle. slices.Reverse at a row of numbers of the call's own. -/
import Derived.Test.YtonkbjdeaneicaaKpc20
import Derived.BigRegion
import Derived.Deep.Cut
import Derived.Deep.OwnRows
import Derived.Deep.RegionWith
import Derived.StillTailTactics
namespace Go.Proofs.Ytonkbjdeaneicaa
open Go.RowKit Pln Classical Go.Maps

def OwnB (w : World) (base : Nat) (v : Value) (l : List Bool) : Prop := w.ownsRow base 4 1 v l.length (l.map Value.bool)
theorem infoBool : (Try.prog.info? 4).map (fun i => (i.zero, i.size, i.bytes)) = some (some (.bool false), 1, 1) := by kernel_rfl
theorem run_makeB (n : Nat) (hn : n ≤ 1000000000) (w : World) : (Instr.makeSlice 56 (.int .i64 (n : Int)) (.int .i64 (n : Int))).run Try.prog w = .ok (.slice (some ⟨w.heap.size, 0, none⟩) n n) (w.alloc (.cells (madeCells #[.bool false] n) 4)) :=
  run_make_row' 56 4 (.bool false) 1 Try.underlying56 infoBool rfl .i64 .i64 n (by omega) (by omega) w
theorem madeB (w : World) (n : Nat) (hn : n ≤ 1000000000) : OwnB (w.alloc (.cells (madeCells #[.bool false] n) 4)) w.heap.size (.slice (some ⟨w.heap.size, 0, none⟩) n n) (List.replicate n false) := by
  have h := World.ownsRow_lit (base := w.heap.size) (e := 4) (size := 1) w (madeCells #[.bool false] n) n (Nat.le_refl _) (by unfold maxLen; omega) (by rw [size_madeCells, Nat.mul_one])
  unfold OwnB
  rw [List.length_replicate]
  have e : (madeCells #[.bool false] n).toList = (List.replicate n false).map Value.bool := by
    apply List.ext_getElem
    · simp [size_madeCells]
    · intro i h1 h2
      simp only [madeCells, Array.toList_map, List.getElem_map, List.getElem_replicate]
      simp [Nat.mod_one]
  rw [← e]
  exact h
section
variable {w w' : World} {base g n cap : Nat} {l : List Bool}
theorem OwnB.len (h : OwnB w base (.slice (some ⟨g, 0, none⟩) n cap) l) : n = l.length := by
  rcases h.2 with ⟨h', _⟩ | ⟨g', cap', cur, h', _⟩
  · simp at h'
  · simp only [Value.slice.injEq] at h'
    exact h'.2.1
theorem OwnB.lt (h : OwnB w base (.slice (some ⟨g, 0, none⟩) n cap) l) : g < w.heap.size := (ownBlock_cells h rfl).2.1
theorem OwnB.cell (h : OwnB w base (.slice (some ⟨g, 0, none⟩) n cap) l) {i : Nat} {x : Bool} (hi : l[i]? = some x) : w.cell? ⟨g, i, none⟩ = some (.bool x) := by
  have hlt := (List.getElem?_eq_some_iff.1 hi).1
  obtain rfl := h.len
  have := World.ownsRow.cellAt (show w.ownsRow base 4 1 (.slice (some ⟨g, 0, none⟩) l.length cap) l.length (l.map Value.bool) from h) i (by omega)
  rw [this, List.getElem?_map, hi]
  rfl
theorem OwnB.frozen (h : OwnB w base (.slice (some ⟨g, 0, none⟩) n cap) l) (i : Nat) : w.frozen? ⟨g, i, none⟩ = false := by
  obtain rfl := h.len
  exact World.ownsRow.frozenAt (show w.ownsRow base 4 1 (.slice (some ⟨g, 0, none⟩) l.length cap) l.length (l.map Value.bool) from h) i
theorem OwnB.put (h : OwnB w base (.slice (some ⟨g, 0, none⟩) n cap) l) (j : Nat) (x : Bool) :
    OwnB (w.setCell ⟨g, j, none⟩ (.bool x)) base (.slice (some ⟨g, 0, none⟩) n cap) (l.set j x) ∧ Turns [g] w (w.setCell ⟨g, j, none⟩ (.bool x)) := by
  obtain rfl := h.len
  obtain ⟨h1, h2⟩ := World.ownsRow.stored (show w.ownsRow base 4 1 (.slice (some ⟨g, 0, none⟩) l.length cap) l.length (l.map Value.bool) from h) j (.bool x)
  refine ⟨?_, by simpa using Turns.of_grown h2⟩
  unfold OwnB
  rw [List.length_set, List.map_set]
  exact h1
end

/-- The law's plan in its box, and what is used, behind it. -/
structure ShS (W1 wr : World) (pl : Array Value) (us : List Bool) (n : Nat) : Prop where
  below : Below (W1.heap.size + 1) (W1.alloc (.cells pl 27)) wr
  row : OwnB wr (W1.heap.size + 1) (.slice (some ⟨W1.heap.size + 1, 0, none⟩) n n) us
section
variable {W1 wr wr' : World} {pl : Array Value} {us : List Bool} {n : Nat}
theorem ShS.start (hn : n ≤ 1000000000) : ShS W1 ((W1.alloc (.cells pl 27)).alloc (.cells (madeCells #[.bool false] n) 4)) pl (List.replicate n false) n := by
  have h := madeB (W1.alloc (.cells pl 27)) n hn
  refine ⟨(Below.refl _ _).alloc (by simp) _, ?_⟩
  simpa using h
theorem ShS.step (h : ShS W1 wr pl us n) (hb : Below wr.heap.size wr wr') : ShS W1 wr' pl us n :=
  ⟨box_step h.below hb, ownsRow_turns h.row (Turns.of_below (S := []) hb) (fun _ _ => by simp)⟩
theorem ShS.drew (h : ShS W1 wr pl us n) : ShS W1 wr.drew pl us n := h.step (Below.refl _ _).drew
theorem ShS.put (h : ShS W1 wr pl us n) (j : Nat) : ShS W1 (wr.setCell ⟨W1.heap.size + 1, j, none⟩ (.bool true)) pl (us.set j true) n ∧ Turns [W1.heap.size + 1] wr (wr.setCell ⟨W1.heap.size + 1, j, none⟩ (.bool true)) := by
  obtain ⟨h1, h2⟩ := h.row.put j true
  refine ⟨⟨h.below.trans (h2.below ?_ (fun x hx => by rw [List.mem_singleton.1 hx]; exact Nat.le_refl _)), h1⟩, h2⟩
  have := h.row.lt
  omega
end
/-- The ways of the first k rules are marked. -/
def UsedTo (rs : List Rl) (st : St) (us : List Bool) (k : Nat) : Prop := ∀ (j : Nat) (r : Rl) (u : Nat), j < k → rs[j]? = some r → u ∈ wayF st 0 (conds r) → us[u]? = some true
def MarkTo (l : List Nat) (us : List Bool) (t : Nat) : Prop := ∀ q u : Nat, q < t → l[q]? = some u → us[u]? = some true
theorem set_true {us : List Bool} {x u : Nat} (h : us[u]? = some true) : (us.set x true)[u]? = some true := by
  by_cases e : x = u
  · subst e
    rw [List.getElem?_set_self (List.getElem?_eq_some_iff.1 h).1]
  · rw [List.getElem?_set_ne e]; exact h
theorem UsedTo.set {rs : List Rl} {st : St} {us : List Bool} {k : Nat} (h : UsedTo rs st us k) (x : Nat) : UsedTo rs st (us.set x true) k := fun j r u h1 h2 h3 => set_true (h j r u h1 h2 h3)
theorem MarkTo.next {l : List Nat} {us : List Bool} {t x : Nat} (h : MarkTo l us t) (hx : l[t]? = some x) (hl : x < us.length) : MarkTo l (us.set x true) (t + 1) := by
  intro q u hq hu
  by_cases e : q = t
  · subst e
    rw [hx] at hu
    injection hu with hu
    subst hu
    rw [List.getElem?_set_self hl]
  · exact set_true (h q u (by omega) hu)
theorem UsedTo.next {rs : List Rl} {st : St} {us : List Bool} {k : Nat} {r : Rl} (h : UsedTo rs st us k) (hr : rs[k]? = some r) (hm : MarkTo (wayF st 0 (conds r)) us (wayF st 0 (conds r)).length) : UsedTo rs st us (k + 1) := by
  intro j q u hj hq hu
  by_cases e : j = k
  · subst e
    rw [hr] at hq
    injection hq with hq
    subst hq
    obtain ⟨i, hi, rfl⟩ := List.getElem_of_mem hu
    exact hm i _ hi (List.getElem?_eq_getElem hi)
  · exact h j q u (by omega) hq hu
theorem made_all {rs : List Rl} {st : St} {es : List Nat} (h : Made rs st es) {us : List Bool} (hu : UsedTo rs st us rs.length) {k : Nat} (h0 : 1 ≤ k) (hk : k < st.ns.length) : us[k]? = some true := by
  obtain ⟨i, r, h1, h2⟩ := h.used k (by omega) hk
  exact hu i r k (List.getElem?_eq_some_iff.1 h1).1 h1 h2

/-- A row of numbers, to be read. -/
theorem OwnI.form {w : World} {base : Nat} {v : Value} {l : List Nat} (h : OwnI w base v l) : ∃ A c, v = .slice A l.length c ∧ l.length ≤ c := by
  rcases h.2 with ⟨rfl, h0⟩ | ⟨g, cap, cur, rfl, _, _, h1, h2, _⟩
  · exact ⟨none, 0, by rw [h0], by omega⟩
  · exact ⟨_, cap, rfl, h1⟩
theorem OwnI.at {w : World} {base : Nat} {A : Option Addr} {n c : Nat} {l : List Nat} (h : OwnI w base (.slice A n c) l) {t u : Nat} (hu : l[t]? = some u) : ∃ g, A = some ⟨g, 0, none⟩ ∧ base ≤ g ∧ w.cell? ⟨g, t, none⟩ = some (.int .i64 (u : Int)) := by
  have hlt := (List.getElem?_eq_some_iff.1 hu).1
  rcases h.2 with ⟨_, h0⟩ | ⟨g, cap, cur, he, hg, hh, h1, h2, _⟩
  · omega
  · simp only [Value.slice.injEq] at he
    obtain ⟨rfl, rfl, rfl⟩ := he
    refine ⟨g, rfl, hg, ?_⟩
    have := World.ownsRow.cellAt (show w.ownsRow base 3 1 (.slice (some ⟨g, 0, none⟩) l.length c) l.length (natVs l) from h) t (by omega)
    rw [this]
    unfold natVs
    rw [List.getElem?_map, hu]
    rfl
theorem OwnI.turns {w w' : World} {base x : Nat} {v : Value} {l : List Nat} (h : OwnI w base v l) (ht : Turns [x] w w') (hx : x < base) : OwnI w' base v l :=
  ownsRow_turns h ht (fun b hb hm => by
    have := (ownBlock_cells h hb).1
    rw [List.mem_singleton.1 hm] at this
    omega)
theorem OwnI.step {w w' : World} {base : Nat} {v : Value} {l : List Nat} (h : OwnI w base v l) (ht : Below w.heap.size w w') : OwnI w' base v l :=
  ownsRow_turns h (Turns.of_below (S := []) ht) (fun _ _ => by simp)
theorem OwnI.rsl {w : World} {base : Nat} {v : Value} {l : List Nat} (h : OwnI w base v l) (hl : ∀ u ∈ l, u < 1000000000) : RSl (fun b => base ≤ b) w 1 EInt v (l.map fun (n : Nat) => (n : Int)) := by
  refine RSl.of_own h (by simp) (fun b hb => (ownBlock_cells h hb).1) (fun i x hx => ?_)
  rw [List.getElem?_map, Option.map_eq_some_iff] at hx
  obtain ⟨u, hu, rfl⟩ := hx
  have := hl u (List.mem_of_getElem? hu)
  refine ⟨[.int .i64 u], ⟨rfl, ?_⟩, fun j v hv => ?_⟩
  · unfold i64ok
    simp [Lit.wf, IntKind.min, IntKind.max, IntKind.signed, IntKind.bits]
    omega
  · match j with
    | 0 =>
      simp only [List.getElem?_cons_zero, Option.some.injEq] at hv
      subst hv
      rw [Nat.mul_one, Nat.add_zero]
      unfold natVs
      rw [List.getElem?_map, hu]
      rfl
    | j + 1 => simp at hv
theorem RSl.take {α : Type} {F : Nat → Prop} {w : World} {sz : Nat} {E : List Value → α → Prop} {A : Option Addr} {n c : Nat} {xs : List α} (h : RSl F w sz E (.slice A n c) xs) {k : Nat} (hk : k ≤ xs.length) : RSl F w sz E (.slice A k c) (xs.take k) := by
  obtain ⟨A', c', h1, h2, h3, h5, h4⟩ := h
  simp only [Value.slice.injEq] at h1
  obtain ⟨rfl, rfl, rfl⟩ := h1
  have e : (xs.take k).length = k := by rw [List.length_take]; omega
  refine ⟨A, c, by rw [e], by omega, h3, h5, ?_⟩
  rcases h4 with rfl | ⟨b, off, hA, hf, hb, hc⟩
  · exact .inl (by simp)
  · refine .inr ⟨b, off, hA, hf, hb, fun i x hx => hc i x ?_⟩
    rw [List.getElem?_take] at hx
    split at hx
    · exact hx
    · cases hx
theorem run_cutI (A : Option Addr) (l c n : Nat) (h : n ≤ l) (hc : l ≤ c) (W : World) : (Instr.slice 25 (.slice A l c) none (some (.int .i64 (n : Int))) none).run Try.prog W = .ok (.slice A n c) W := by
  rw [run_slice_h (t := 25) (ht := by kernel_rfl) (h0 := by omega) (h2 := by omega)]
  have hs : (sizeOf (Try.prog.elem 25)).run Try.prog W = .ok 1 W := by kernel_rfl
  rw [hs]
  have e : (if c = 0 then A else A.map (fun a => a.add (0 * 1))) = A := by
    split
    · rfl
    · cases A <;> simp [Addr.add]
  simp only [Result.andThen, sliced, Int.toNat_natCast, Nat.sub_zero, e]

/-- The way of rule i, as `down` tells it. -/
theorem way_below {st : St} (hwf : Wf st) {cs : List Cnd} (h : Stands st 0 cs) (hc : ∀ c ∈ cs, ok3 c) : ∀ u ∈ wayF st 0 cs, u < st.ns.length := by
  intro u hu
  obtain ⟨i, hi, rfl⟩ := List.getElem_of_mem hu
  obtain ⟨c, h1, h2, h3, h4⟩ := way_at hwf cs 0 h hc i _ (List.getElem?_eq_getElem hi)
  exact (List.getElem?_eq_some_iff.1 h3).1
theorem down_of {rs : List Rl} {st : St} {es : List Nat} (hM : Made rs st es) (hf : ∀ r ∈ rs, mayP r) {F : Nat → Prop} {W1 Wx : World} {av nv ev : Value} (hP : RPlan F W1 av nv ev st es) (hb : Below W1.heap.size W1 Wx) {i : Nat} {r : Rl} {e : Nat} (hr : rs[i]? = some r) (he : es[i]? = some e) :
    Calls Try.prog 16 #[.agg #[av, nv, ev], .int .i64 (e : Int)] Wx fun e W' => ∃ v, e = .returned v ∧ OwnI W' Wx.heap.size v (wayF st 0 (conds r)) ∧ Below Wx.heap.size Wx W' := by
  obtain ⟨h1, e', h2, h3, h4⟩ := hM.ways i r hr
  rw [he] at h2
  injection h2 with h2
  subst h2
  obtain ⟨w, hw⟩ := hf r (List.mem_of_getElem? hr)
  refine downW Wx av nv ev st es (hP.kp (F' := F) (Kp.of_below hb) (fun _ _ h => h)) hM.wf.len _ e ?_ (up_way hM.wf h1 (conds_ok3 r)) ?_
  · rw [way_last, h3]
  · rw [way_len, conds_len]; have := hw.many; omega
end Go.Proofs.Ytonkbjdeaneicaa

namespace Go.Proofs.Ytonkbjdeaneicaa
open Go.RowKit Pln Classical Go.Maps

theorem OwnI.len {w : World} {base : Nat} {A : Option Addr} {n c : Nat} {l : List Nat} (h : OwnI w base (.slice A n c) l) : n = l.length := by
  rcases h.2 with ⟨h', h0⟩ | ⟨g', cap', cur, h', _⟩
  · simp only [Value.slice.injEq] at h'
    omega
  · simp only [Value.slice.injEq] at h'
    exact h'.2.1
theorem OwnI.put {w : World} {base g n cap : Nat} {l : List Nat} (h : OwnI w base (.slice (some ⟨g, 0, none⟩) n cap) l) (j x : Nat) :
    OwnI (w.setCell ⟨g, j, none⟩ (.int .i64 (x : Int))) base (.slice (some ⟨g, 0, none⟩) n cap) (l.set j x) ∧ Turns [g] w (w.setCell ⟨g, j, none⟩ (.int .i64 (x : Int))) := by
  obtain rfl := h.len
  obtain ⟨h1, h2⟩ := World.ownsRow.stored (show w.ownsRow base 3 1 (.slice (some ⟨g, 0, none⟩) l.length cap) l.length (natVs l) from h) j (.int .i64 (x : Int))
  refine ⟨?_, by simpa using Turns.of_grown h2⟩
  unfold OwnI natVs
  rw [List.length_set, List.map_set]
  exact h1
theorem OwnI.frozen {w : World} {base g n cap : Nat} {l : List Nat} (h : OwnI w base (.slice (some ⟨g, 0, none⟩) n cap) l) (i : Nat) : w.frozen? ⟨g, i, none⟩ = false := by
  obtain rfl := h.len
  exact World.ownsRow.frozenAt (show w.ownsRow base 3 1 (.slice (some ⟨g, 0, none⟩) l.length cap) l.length (natVs l) from h) i
/-- The first and the last k places are exchanged. -/
def RevTo (l m : List Nat) (k : Nat) : Prop := ∀ q, q < l.length → m[q]? = if q < k ∨ l.length - k ≤ q then l[l.length - 1 - q]? else l[q]?
theorem RevTo.next {l m : List Nat} {k x y : Nat} (h : RevTo l m k) (hl : m.length = l.length) (hk : k + 1 < l.length - k) (hx : m[k]? = some x) (hy : m[l.length - 1 - k]? = some y) : RevTo l ((m.set k y).set (l.length - 1 - k) x) (k + 1) := by
  have ex := h k (by omega)
  rw [if_neg (by omega), hx] at ex
  have ey := h (l.length - 1 - k) (by omega)
  rw [if_neg (by omega), hy] at ey
  intro q hq
  by_cases e1 : q = l.length - 1 - k
  · subst e1
    rw [List.getElem?_set_self (by rw [List.length_set]; omega), if_pos (by omega), ex]
    congr 1
    omega
  · rw [List.getElem?_set_ne (fun h => e1 h.symm)]
    by_cases e2 : q = k
    · subst e2
      rw [List.getElem?_set_self (by omega), if_pos (by omega), ey]
    · rw [List.getElem?_set_ne (fun h => e2 h.symm), h q hq]
      by_cases h1 : q < k ∨ l.length - k ≤ q
      · rw [if_pos h1, if_pos (by omega)]
      · rw [if_neg h1, if_neg (by omega)]
theorem RevTo.done {l m : List Nat} {k : Nat} (h : RevTo l m k) (hl : m.length = l.length) (hk : ¬ k + 1 < l.length - k) : m = l.reverse := by
  apply List.ext_getElem?
  intro q
  by_cases hq : q < l.length
  · rw [h q hq, List.getElem?_reverse hq]
    by_cases h1 : q < k ∨ l.length - k ≤ q
    · rw [if_pos h1]
    · rw [if_neg h1]
      congr 1
      omega
  · rw [List.getElem?_eq_none (by omega), List.getElem?_eq_none (by simp; omega)]

set_option maxRecDepth 200000 in
set_option maxHeartbeats 4000000 in
theorem reverseW (w : World) (base g cap : Nat) (l : List Nat) (h : OwnI w base (.slice (some ⟨g, 0, none⟩) l.length cap) l) (hl : l.length ≤ 1000000) :
    Calls Try.prog 65 #[.slice (some ⟨g, 0, none⟩) l.length cap] w fun e w' => e = .returned (.tuple #[]) ∧ OwnI w' base (.slice (some ⟨g, 0, none⟩) l.length cap) l.reverse ∧ Turns [g] w w' := by
  have H := Lib.hid h
  clear h
  go_enter Try.func65, Try.ntmps65
  have e0 : IntKind.i64.wrap ((l.length : Int) - 1) = (l.length : Int) - 1 := IntWalk.i64_in _ (by omega)
  go_wp2
  clear e0
  go_loopw [2, 3] (fun iv jv wr => ∃ (k : Nat) (m : List Nat), iv = .int .i64 k ∧ jv = .int .i64 ((l.length : Int) - 1 - (k : Int)) ∧ 2 * k ≤ l.length + 1 ∧ m.length = l.length ∧ RevTo l m k ∧ OwnI wr base (.slice (some ⟨g, 0, none⟩) l.length cap) m ∧ Turns [g] w wr) (fun i _ _ => l.length - (intOf i).toNat)
  case atStart => exact ⟨0, l, rfl, by simp, by omega, rfl, fun q hq => by rw [if_neg (by omega)], H.out, Turns.refl _ _⟩
  case round =>
    obtain ⟨k, m, rfl, rfl, hk, hml, hR, hO, hT⟩ := hrel
    by_cases hkj : k + 1 < l.length - k
    · obtain ⟨j, hj⟩ : ∃ j, l.length - 1 - k = j := ⟨_, rfl⟩
      have hjj : (l.length : Int) - 1 - (k : Int) = (j : Int) := by omega
      obtain ⟨x, hx⟩ : ∃ x, m[k]? = some x := ⟨_, List.getElem?_eq_getElem (by omega)⟩
      obtain ⟨y, hy⟩ : ∃ y, m[j]? = some y := ⟨_, List.getElem?_eq_getElem (by omega)⟩
      have hN := hR.next hml hkj hx (by rw [hj]; exact hy)
      rw [hj] at hN
      rw [hjj]
      obtain ⟨g', hg', -, c0⟩ := hO.at hx
      obtain ⟨g'', hg'', -, c1⟩ := hO.at hy
      simp only [Option.some.injEq, Addr.mk.injEq, and_true] at hg' hg''
      subst hg'
      subst hg''
      have f0 := hO.frozen k
      have f1 := hO.frozen j
      have hkj2 : k < j := by omega
      have hjl : j < l.length := by omega
      have e1 : (0 : Int) ≤ (k : Int) := by omega
      have e2 : (k : Int) < (l.length : Int) := by omega
      have e3 : (0 : Int) ≤ (j : Int) := by omega
      have e4 : (j : Int) < (l.length : Int) := by omega
      have e5 : (k : Int) < (j : Int) := by omega
      have hne : ¬ k = j := by omega
      have P1 := hO.put k y
      have P2 := P1.1.put j x
      have Q1 := hO.put j x
      have Q2 := Q1.1.put k y
      rw [List.set_comm _ _ (by omega : j ≠ k)] at Q2
      have HP := Lib.hid (And.intro P2.1 ((hT.trans P1.2 (by simp)).trans P2.2 (by simp)))
      have HQ := Lib.hid (And.intro Q2.1 ((hT.trans Q1.2 (by simp)).trans Q2.2 (by simp)))
      have HN := Lib.hid hN
      have HJ := Lib.hid (And.intro hj hjj)
      have HML := Lib.hid hml
      clear hR hO hT P1 P2 Q1 Q2 hN hj hjj hx hy
      go_wp2_with fail
      go_region
      have e6 : IntKind.i64.wrap ((j : Int) - 1) = (j : Int) - 1 := IntWalk.i64_in _ (by omega)
      clear c0 c1 f0 f1
      go_wp2
      have hjv : Value.int IntKind.i64 ((j : Int) - 1) = .int .i64 ((l.length : Int) - 1 - ((k + 1 : Nat) : Int)) := by have := HJ.out.2; congr 1; omega
      exact ⟨⟨k + 1, (m.set k y).set j x, by go_num, hjv, by omega, by rw [List.length_set, List.length_set]; exact HML.out, HN.out, HP.out.1.step (Below.refl _ _).drew, HP.out.2.drew⟩, by simp [intOf]; omega⟩
    · have hRD := hR.done hml hkj
      subst hRD
      have HO := Lib.hid hO
      have HT := Lib.hid hT
      have e1 : ¬ (k : Int) < (l.length : Int) - 1 - (k : Int) := by omega
      clear hR hO hT hml
      go_wp2
      go_end0
      exact ⟨rfl, HO.out, HT.out⟩
end Go.Proofs.Ytonkbjdeaneicaa
