/- AgendaTurns' book: its cells; eligible. The walks. told: what the agenda tells is what the book says. The walk. fires: the act that a pick means fires, once. The walk. -/
import Derived.Test.YtjgigcnjgblekaaDoorKaq09
import Derived.Test.YtjgigcnjgblekaaDoorKaq23
import Derived.Test.YtjgigcnjgblekaaDoorKaq24
import Derived.Test.YtjgigcnjgblekaaDoorKaq26
import Derived.Test.YtjgigcnjgblekaaDoorKaq28
import Derived.Deep.MidRow
namespace Go.Proofs.YtjgigcnjgblekaaDoor
open Go Go.RowKit Go.Maps Classical

/-- The book in its block: what is in, what has fired, the rules of the acts that are in. -/
structure BkAt (w : World) (q : Nat) (I Fd : Nat → Bool) : Prop where
  lt : q < w.heap.size
  cI : ∀ k, k < 21 → w.cell? ⟨q, k, none⟩ = some (.bool (I k))
  cF : ∀ k, k < 21 → w.cell? ⟨q, 21 + k, none⟩ = some (.bool (Fd k))
  cR : ∀ k, k < 21 → I k = true → w.cell? ⟨q, 42 + k * 2, none⟩ = some (.int .i64 (actN k).rule)
  ok : ∀ o, o < 84 → (w.cell? ⟨q, o, none⟩).isSome = true ∧ w.frozen? ⟨q, o, none⟩ = false
section
variable {w w' : World} {q : Nat} {I Fd : Nat → Bool}
theorem BkAt.turns {S : List Nat} (h : BkAt w q I Fd) (T : Turns S w w') (hq : q ∉ S) : BkAt w' q I Fd := by
  have hb := T.block q h.lt hq
  have hc : ∀ o, w'.cell? ⟨q, o, none⟩ = w.cell? ⟨q, o, none⟩ := fun o => T.cell h.lt hq
  refine ⟨Nat.lt_of_lt_of_le h.lt T.size, fun k hk => (hc k).trans (h.cI k hk), fun k hk => (hc _).trans (h.cF k hk), fun k hk hI => (hc _).trans (h.cR k hk hI), fun o ho => ⟨by rw [hc]; exact (h.ok o ho).1, ?_⟩⟩
  have := (h.ok o ho).2
  unfold World.frozen? at this ⊢
  rw [hb]
  exact this
theorem BkAt.below (h : BkAt w q I Fd) (hb : Below w.heap.size w w') : BkAt w' q I Fd := h.turns (S := []) (Turns.of_below hb) (by simp)
theorem BkAt.congr {I' Fd' : Nat → Bool} (h : BkAt w q I Fd) (hI : ∀ k, k < 21 → I k = I' k) (hF : ∀ k, k < 21 → Fd k = Fd' k) : BkAt w q I' Fd' :=
  ⟨h.lt, fun k hk => hI k hk ▸ h.cI k hk, fun k hk => hF k hk ▸ h.cF k hk, fun k hk h2 => h.cR k hk (by rw [hI k hk]; exact h2), h.ok⟩
/-- A cell is written. -/
theorem BkAt.stored (h : BkAt w q I Fd) {o : Nat} (ho : o < 84) (v : Value) :
    (∀ o', (w.setCell ⟨q, o, none⟩ v).cell? ⟨q, o', none⟩ = if o' = o then some v else w.cell? ⟨q, o', none⟩) ∧ (∀ o', (w.setCell ⟨q, o, none⟩ v).frozen? ⟨q, o', none⟩ = w.frozen? ⟨q, o', none⟩) := by
  refine ⟨fun o' => ?_, fun o' => by simp⟩
  obtain ⟨u, hu⟩ := Option.isSome_iff_exists.1 (h.ok o ho).1
  by_cases e : o' = o
  · subst e
    rw [if_pos rfl, World.cell?_setCell_same _ _ _ hu]
  · rw [if_neg e, World.cell?_setCell_other _ _ _ _ (fun x => e (by simpa using x.symm))]
theorem BkAt.setI (h : BkAt w q I Fd) {n : Nat} (hn : n < 21) (b : Bool) (hr : b = true → w.cell? ⟨q, 42 + n * 2, none⟩ = some (.int .i64 (actN n).rule)) : BkAt (w.setCell ⟨q, n, none⟩ (.bool b)) q (fun k => if k = n then b else I k) Fd := by
  obtain ⟨hc, hf⟩ := h.stored (o := n) (by omega) (.bool b)
  refine ⟨by simpa using h.lt, fun k hk => ?_, fun k hk => ?_, fun k hk hI => ?_, fun o ho => ⟨?_, by rw [hf]; exact (h.ok o ho).2⟩⟩
  · rw [hc]
    by_cases e : k = n
    · rw [if_pos e, if_pos e]
    · rw [if_neg e, if_neg e]; exact h.cI k hk
  · rw [hc, if_neg (by omega)]; exact h.cF k hk
  · rw [hc, if_neg (by omega)]
    by_cases e : k = n
    · subst e
      rw [if_pos rfl] at hI
      exact hr hI
    · rw [if_neg e] at hI; exact h.cR k hk hI
  · rw [hc]
    split
    · rfl
    · exact (h.ok o ho).1
theorem BkAt.setF (h : BkAt w q I Fd) {n : Nat} (hn : n < 21) (b : Bool) : BkAt (w.setCell ⟨q, 21 + n, none⟩ (.bool b)) q I (fun k => if k = n then b else Fd k) := by
  obtain ⟨hc, hf⟩ := h.stored (o := 21 + n) (by omega) (.bool b)
  refine ⟨by simpa using h.lt, fun k hk => ?_, fun k hk => ?_, fun k hk hI => ?_, fun o ho => ⟨?_, by rw [hf]; exact (h.ok o ho).2⟩⟩
  · rw [hc, if_neg (by omega)]; exact h.cI k hk
  · rw [hc]
    by_cases e : k = n
    · rw [if_pos (by omega), if_pos e]
    · rw [if_neg (by omega), if_neg e]; exact h.cF k hk
  · rw [hc, if_neg (by omega)]; exact h.cR k hk hI
  · rw [hc]
    split
    · rfl
    · exact (h.ok o ho).1
/-- An act is laid at its number. -/
theorem BkAt.setA (h : BkAt w q I Fd) {n : Nat} (hn : n < 21) (sv : Value) :
    BkAt ((w.setCell ⟨q, 42 + n * 2, none⟩ (.int .i64 (actN n).rule)).setCell ⟨q, 42 + n * 2 + 1, none⟩ sv) q I Fd ∧ ((w.setCell ⟨q, 42 + n * 2, none⟩ (.int .i64 (actN n).rule)).setCell ⟨q, 42 + n * 2 + 1, none⟩ sv).cell? ⟨q, 42 + n * 2, none⟩ = some (.int .i64 (actN n).rule) := by
  obtain ⟨hc, hf⟩ := h.stored (o := 42 + n * 2) (by omega) (.int .i64 (actN n).rule)
  have h1 : BkAt (w.setCell ⟨q, 42 + n * 2, none⟩ (.int .i64 (actN n).rule)) q I Fd := by
    refine ⟨by simpa using h.lt, fun k hk => ?_, fun k hk => ?_, fun k hk hI => ?_, fun o ho => ⟨?_, by rw [hf]; exact (h.ok o ho).2⟩⟩
    · rw [hc, if_neg (by omega)]; exact h.cI k hk
    · rw [hc, if_neg (by omega)]; exact h.cF k hk
    · rw [hc]
      by_cases e : k = n
      · rw [if_pos (by omega), e]
      · rw [if_neg (by omega)]; exact h.cR k hk hI
    · rw [hc]
      split
      · rfl
      · exact (h.ok o ho).1
  obtain ⟨hc2, hf2⟩ := h1.stored (o := 42 + n * 2 + 1) (by omega) sv
  refine ⟨⟨by simpa using h.lt, fun k hk => ?_, fun k hk => ?_, fun k hk hI => ?_, fun o ho => ⟨?_, by rw [hf2]; exact (h1.ok o ho).2⟩⟩, ?_⟩
  · rw [hc2, if_neg (by omega)]; exact h1.cI k hk
  · rw [hc2, if_neg (by omega)]; exact h1.cF k hk
  · rw [hc2, if_neg (by omega)]; exact h1.cR k hk hI
  · rw [hc2]
    split
    · rfl
    · exact (h1.ok o ho).1
  · rw [hc2, if_neg (by omega), hc, if_pos rfl]
end
/-- A row of cells, k by k. -/
def bArr (I : Nat → Bool) : List Value := (List.range 21).map fun k => Value.bool (I k)
theorem bArr_at {I : Nat → Bool} {k : Nat} (h : k < 21) : (bArr I).toArray[k]? = some (.bool (I k)) := by simp [bArr, h]
theorem bArr_len (I : Nat → Bool) : (bArr I).length = 21 := by simp [bArr]
theorem BkAt.rangeI {w : World} {q : Nat} {I Fd : Nat → Bool} (h : BkAt w q I Fd) : w.rangeAt q 0 (bArr I) := fun j v hv => by
  have hj : j < 21 := by have := (List.getElem?_eq_some_iff.1 hv).1; rwa [bArr_len] at this
  have : (bArr I)[j]? = some (.bool (I j)) := by simp [bArr, hj]
  rw [this] at hv
  rw [Nat.zero_add, ← hv]
  exact h.cI j hj
theorem BkAt.rangeF {w : World} {q : Nat} {I Fd : Nat → Bool} (h : BkAt w q I Fd) : w.rangeAt q 21 (bArr Fd) := fun j v hv => by
  have hj : j < 21 := by have := (List.getElem?_eq_some_iff.1 hv).1; rwa [bArr_len] at this
  have : (bArr Fd)[j]? = some (.bool (Fd j)) := by simp [bArr, hj]
  rw [this] at hv
  rw [← hv]
  exact h.cF j hj
/-- The three levels. -/
def lv3 (a b c : Int) : List Int := [a, b, c]
theorem lv3_at (a b c : Int) {k : Nat} (h : k < 21) : ∃ r : Nat, (actN k).rule = (r : Int) ∧ r < 3 ∧ (#[Value.int .i64 a, .int .i64 b, .int .i64 c] : Array Value)[r]? = some (.int .i64 (lvB (lv3 a b c) k)) := by
  have hf := (all21_facts (act_mem h)).1
  unfold lvB lvl lv3
  generalize (actN k).rule = r at hf
  have e : r = 0 ∨ r = 1 ∨ r = 2 := by omega
  rcases e with rfl | rfl | rfl
  · exact ⟨0, rfl, by omega, rfl⟩
  · exact ⟨1, rfl, by omega, rfl⟩
  · exact ⟨2, rfl, by omega, rfl⟩
/-- What the book's eligible leaves. -/
def BelRes (lv : List Int) (C D : List Ac) (w : World) (e : Ending) (w' : World) : Prop := ∃ v, e = .returned v ∧ OwnZ w' w.heap.size v (zN (elB lv C D)) ∧ Below w.heap.size w w'
theorem opB_yes {C D : List Ac} {k : Nat} (h1 : inB C k = true) (h2 : inB D k = false) : opB C D k = true := by unfold opB; rw [h1, h2]; rfl
theorem opB_out {C D : List Ac} {k : Nat} (h1 : inB C k = false) : opB C D k = false := by unfold opB; rw [h1]; rfl
theorem opB_done {C D : List Ac} {k : Nat} (h2 : inB D k = true) : opB C D k = false := by unfold opB; rw [h2]; simp
set_option maxRecDepth 100000 in
set_option maxHeartbeats 8000000 in
theorem bookEligW (a b c : Int) (C D : List Ac) (q : Nat) (w : World) (h : BkAt w q (inB C) (inB D)) :
    Calls Tryd.prog 19 #[.pointer (some ⟨q, 0, none⟩), .agg #[.int .i64 a, .int .i64 b, .int .i64 c]] w (BelRes (lv3 a b c) C D w) := by
  obtain ⟨w0, hw0⟩ : ∃ w0, w0 = w.alloc (.cells #[.int .i64 a, .int .i64 b, .int .i64 c] 42) := ⟨_, rfl⟩
  have hx0 : Below (w.heap.size + 1) (w.alloc (.cells #[.int .i64 a, .int .i64 b, .int .i64 c] 42)) w0 := by rw [hw0]; exact Below.refl _ _
  have hb0 := box_belowD hx0
  have hs0 : w0.heap.size = w.heap.size + 1 := by rw [hw0]; simp
  obtain ⟨lv, hlv⟩ : ∃ lv, lv3 a b c = lv := ⟨_, rfl⟩
  have LV := Lib.hid (fun (k : Nat) (hk : k < 21) (W : World) (hW : Below w0.heap.size w0 W) => (show ∃ r : Nat, (actN k).rule = (r : Int) ∧ r < 3 ∧ W.cell? ⟨w.heap.size, r, none⟩ = some (.int .i64 (lvB lv k)) by
    obtain ⟨r, h1, h2, h3⟩ := lv3_at a b c hk
    rw [hlv] at h3
    exact ⟨r, h1, h2, (hW.cell (p := ⟨w.heap.size, r, none⟩) (by show w.heap.size < w0.heap.size; omega)).trans (box_cellD hx0 r (by rw [Array.getElem?_toList]; exact h3))⟩))
  have BK := Lib.hid (fun (W : World) (hW : Below w0.heap.size w0 W) => ((h.below hb0).below hW : BkAt W q (inB C) (inB D)))
  rw [hlv]
  have HB := Lib.hid hb0
  have HS := Lib.hid hs0
  have E0 := Lib.hid (Below.refl w0.heap.size w0)
  clear hx0 hb0 hs0 h hlv
  go_enter Tryd.func19, Tryd.ntmps19
  go_upto_region 2 with fail
  rw [← hw0]
  clear hw0
  go_upto_region 3 with fail
  go_loopw [5, 6] (fun lo i wr => ∃ k : Nat, i = .int .i64 (k : Int) ∧ lo = .int .i64 (bkLow (opB C D) (lvB lv) k) ∧ k ≤ 21 ∧ wr = w0) (fun _ i _ => 21 - (intOf i).toNat)
  case atStart => exact ⟨0, rfl, rfl, by omega, rfl⟩
  case round =>
    obtain ⟨k, rfl, rfl, hk, hwr⟩ := hrel
    subst wr
    have B0 := BK.out _ E0.out
    by_cases hkn : k < 21
    · have e1 : (0 : Int) ≤ (k : Int) := by omega
      have e2 : (k : Int) < 21 := by omega
      have d0 := B0.cI k hkn
      have d1 := B0.cF k hkn
      have HSU := Lib.hid (bkLow_succ (opB C D) (lvB lv) k)
      cases hI : inB C k with
      | false =>
        rw [hI] at d0
        rw [opB_out hI, if_neg (by simp)] at HSU
        go_wp2
        exact ⟨⟨k + 1, by go_num, by rw [HSU.out], by omega, by first | rfl | trivial⟩, by simp [intOf]; omega⟩
      | true =>
        have d2 := B0.cR k hkn hI
        rw [hI] at d0
        cases hD : inB D k with
        | true =>
          rw [hD] at d1
          rw [opB_done hD, if_neg (by simp)] at HSU
          go_wp2
          exact ⟨⟨k + 1, by go_num, by rw [HSU.out], by omega, by first | rfl | trivial⟩, by simp [intOf]; omega⟩
        | false =>
          rw [hD] at d1
          rw [opB_yes hI hD, if_pos rfl] at HSU
          obtain ⟨r, h1, h2, h3⟩ := LV.out k hkn _ E0.out
          rw [h1] at d2
          have e3 : (0 : Int) ≤ (r : Int) := by omega
          have e4 : (r : Int) < 3 := by omega
          go_wp2
          exact ⟨⟨k + 1, by go_num, by rw [HSU.out], by omega, by first | rfl | trivial⟩, by simp [intOf]; omega⟩
    · obtain rfl : k = 21 := by omega
      obtain ⟨low, hlow⟩ : ∃ low, bkLow (opB C D) (lvB lv) 21 = low := ⟨_, rfl⟩
      rw [hlow]
      have HLOW := Lib.hid (show elB lv C D = (List.range 21).filter (fun k => opB C D k && decide (lvB lv k = low)) by unfold elB; rw [hlow])
      obtain ⟨I, hIe⟩ : ∃ I, (fun k => opB C D k && decide (lvB lv k = low)) = I := ⟨_, rfl⟩
      rw [hIe] at HLOW
      have HI := Lib.hid (fun k => congrFun hIe k)
      clear B0 hlow hIe
      go_upto_region 9 with fail
      go_loopw [7, 8] (fun ov i wr => ∃ (k : Nat) (vo : Value), i = .int .i64 (k : Int) ∧ ov = vo ∧ k ≤ 21 ∧ OwnZ wr w0.heap.size vo (zN ((List.range k).filter I)) ∧ Below w0.heap.size w0 wr) (fun _ i _ => 21 - (intOf i).toNat)
      case atStart => exact ⟨0, _, rfl, rfl, by omega, World.ownsRow_nil _ _ _ _, E0.out⟩
      case round =>
        obtain ⟨k, vo, rfl, rfl, hk, ho, hbw⟩ := hrel
        have HBW := Lib.hid hbw
        have HO := Lib.hid ho
        clear hbw
        by_cases hkn : k < 21
        · have e1 : (0 : Int) ≤ (k : Int) := by omega
          have e2 : (k : Int) < 21 := by omega
          obtain ⟨A, c', hvo⟩ := ho.form
          rw [zN_len] at hvo
          subst hvo
          clear ho
          have B0 := BK.out _ HBW.out
          have d0 := B0.cI k hkn
          have d1 := B0.cF k hkn
          have NOT := Lib.hid (fun (h : I k = false) => (show (List.range (k + 1)).filter I = (List.range k).filter I by rw [filter_succ, if_neg (by rw [h]; simp)]))
          cases hI : inB C k with
          | false =>
            rw [hI] at d0
            have HF := Lib.hid (NOT.out (by rw [← HI.out, opB_out hI]; rfl))
            clear B0
            go_wp2
            exact ⟨⟨k + 1, _, by go_num, rfl, by omega, by rw [HF.out]; exact HO.out, HBW.out⟩, by simp [intOf]; omega⟩
          | true =>
            have d2 := B0.cR k hkn hI
            rw [hI] at d0
            cases hD : inB D k with
            | true =>
              rw [hD] at d1
              have HF := Lib.hid (NOT.out (by rw [← HI.out, opB_done hD]; rfl))
              clear B0 d2
              go_wp2
              exact ⟨⟨k + 1, _, by go_num, rfl, by omega, by rw [HF.out]; exact HO.out, HBW.out⟩, by simp [intOf]; omega⟩
            | false =>
              rw [hD] at d1
              obtain ⟨r, h1, h2, h3⟩ := LV.out k hkn _ HBW.out
              rw [h1] at d2
              have e3 : (0 : Int) ≤ (r : Int) := by omega
              have e4 : (r : Int) < 3 := by omega
              have HK := Lib.hid (show I k = decide (lvB lv k = low) by rw [← HI.out, opB_yes hI hD]; simp)
              obtain ⟨L, hL⟩ : ∃ L, lvB lv k = L := ⟨_, rfl⟩
              rw [hL] at h3 HK
              clear B0 hL
              by_cases hl : L = low
              · subst hl
                have hll : (L == L) = true := by simp
                have HF := Lib.hid (show (List.range (k + 1)).filter I = (List.range k).filter I ++ [k] by rw [filter_succ, if_pos (by rw [HK.out]; simp)])
                have HL := Lib.hid (show (zN ((List.range k).filter I)).length ≤ 40000000 by rw [zN_len]; have := filter_len I k; omega)
                go_wp2_with (at_builtin; refine wpList_append_Z HO.out rfl (.tmp 71) (.tmp 73) rfl rfl (k : Int) _ rfl rfl HL.out HBW.out.size ?_; intro A2 c2 w2 ho2 hb2; have HO2 := Lib.hid ho2; have HB2 := Lib.hid (HBW.out.trans hb2); clear ho2 hb2)
                have HZ := Lib.hid (show OwnZ w2 w0.heap.size (.slice A2 ((zN ((List.range k).filter I)).length + 1) c2) (zN ((List.range (k + 1)).filter I)) by rw [HF.out]; have := HO2.out; unfold zN at this ⊢; rw [List.map_append]; exact this)
                exact ⟨⟨k + 1, by go_num, by omega, HZ.out, HB2.out⟩, by simp [intOf]; omega⟩
              · have hll : (L == low) = false := by simpa using hl
                have HF := Lib.hid (NOT.out (by rw [HK.out]; simpa using hl))
                go_wp2
                exact ⟨⟨k + 1, _, by go_num, rfl, by omega, by rw [HF.out]; exact HO.out, HBW.out⟩, by simp [intOf]; omega⟩
        · obtain rfl : k = 21 := by omega
          clear ho
          go_wp2
          go_ret
          exact ⟨_, rfl, by rw [HLOW.out]; exact HO.out.down (by have := HS.out; omega), HB.out.trans (HBW.out.mono HB.out.size)⟩
end Go.Proofs.YtjgigcnjgblekaaDoor

namespace Go.Proofs.YtjgigcnjgblekaaDoor
open Go Go.RowKit Go.Maps Classical

/-- The law's state: an agenda, and the book that tells the same. -/
structure TuS (a b c : Int) (M : List Nat) (p mc mf q N : Nat) (C D : List Ac) (w : World) : Prop where
  ag : AgAt M w p mc mf ⟨lv3 a b c, fourL, C, D⟩ N
  bk : BkAt w q (inB C) (inB D)
  hC : ∀ x ∈ C, x ∈ all21
  hD : ∀ x ∈ D, x ∈ all21
  ML : ∀ x ∈ M, x < w.heap.size
  qM : q ∈ M ∧ q ≠ mc ∧ q ≠ mf
section
variable {a b c : Int} {M : List Nat} {p mc mf q N : Nat} {C D : List Ac} {w w' : World}
theorem TuS.below (h : TuS a b c M p mc mf q N C D w) (hb : Below w.heap.size w w') : TuS a b c M p mc mf q N C D w' :=
  ⟨h.ag.below hb, h.bk.below hb, h.hC, h.hD, fun x hx => Nat.lt_of_lt_of_le (h.ML x hx) hb.size, h.qM⟩
theorem TuS.mono (h : TuS a b c M p mc mf q N C D w) {N' : Nat} (hn : N ≤ N') : TuS a b c M p mc mf q N' C D w := ⟨h.ag.mono hn, h.bk, h.hC, h.hD, h.ML, h.qM⟩
theorem TuS.c21 (h : TuS a b c M p mc mf q N C D w) : C.length ≤ 21 := all21_len h.hC h.ag.ok.nodC
theorem TuS.d21 (h : TuS a b c M p mc mf q N C D w) : D.length ≤ 21 := all21_len h.hD h.ag.ok.nodD
end
theorem numsIn_inB (X : List Ac) : numsIn (· ∈ X) = (List.range 21).filter (inB X) := by
  unfold numsIn inB
  exact List.filter_congr fun k _ => decide_eq_decide.2 Iff.rfl
theorem OwnZ.rslN {w : World} {B : Nat} {v : Value} {l : List Nat} (h : OwnZ w B v (zN l)) (hl : ∀ k ∈ l, k < 21) : RSl (fun _ => True) w 1 EInt v (zN l) := h.rsl (fun _ _ => trivial) (zN_ok hl)
theorem elB_lt {lv : List Int} {C D : List Ac} : ∀ k ∈ elB lv C D, k < 21 := fun _ h => List.mem_range.1 (List.mem_filter.1 h).1

section
variable {P : Program} {ops : Array Oper} {rest : List Oper} {o : Oper} {a : Act} {w : World} {Q : Exit → Act → World → Prop}
theorem wpList_valT (hw : Region.wanted o (yielded ops a.tmps) = true) (v : Value) (hrun : (execOp a.eval o).run P w = .ok (.value v) w) (h : wpList P ops Q rest (a.put o.dst v) w) : wpList P ops Q (o :: rest) a w := by
  unfold wpList
  rw [if_pos hw]
  refine .inl ?_
  unfold Oper.wp
  rw [hrun]
  exact h
theorem run_load_midT (ty : TypeId) (x : Operand) (ho : o.op = .load ty x) (b off : Nat) (hx : a.eval x = .pointer (some ⟨b, off, none⟩)) (cs : List Value) (d : TypeDesc) (hc : w.rangeAt b off cs)
    (hu : P.underlying ty = some d) (hd : d.isRow = true) (hi : (P.info? ty).map (·.size) = some cs.length) : (execOp a.eval o).run P w = .ok (.value (.agg cs.toArray)) w := by
  unfold execOp
  simp only [ho, hx, Instr.loadAt, Instr.sureAddr, Sem.run_bind, Sem.run_pure, Result.andThen_ok, run_loadVar_mid w b off ty cs d hc hu hd hi]
theorem stop_load_gT {g : Nat × Bool} (_ : o.guard = some g) (t : TypeId) (x : Operand) (_ : o.op = .load t x) (h : Hid (wpList P ops Q (o :: rest) a w)) : wpList P ops Q (o :: rest) a w := h.out
end
theorem size21 (I : Nat → Bool) : (Tryd.prog.info? 45).map (·.size) = some (bArr I).length := by rw [bArr_len]; kernel_rfl
set_option maxRecDepth 100000 in
set_option maxHeartbeats 8000000 in
theorem toldW {a b c : Int} {M : List Nat} {p mc mf q N : Nat} {C D : List Ac} (w : World) (h : TuS a b c M p mc mf q N C D w) (hl : ∀ k, lvB (lv3 a b c) k ≤ 2) :
    Calls Tryd.prog 18 #[.pointer (some ⟨p, 0, none⟩), .pointer (some ⟨q, 0, none⟩), .agg #[.int .i64 a, .int .i64 b, .int .i64 c]] w fun e w' => e = .returned (.bool true) ∧ Below w.heap.size w w' := by
  obtain ⟨w0, hw0⟩ : ∃ w0, w0 = w.alloc (.cells #[.int .i64 a, .int .i64 b, .int .i64 c] 42) := ⟨_, rfl⟩
  have hx0 : Below (w.heap.size + 1) (w.alloc (.cells #[.int .i64 a, .int .i64 b, .int .i64 c] 42)) w0 := by rw [hw0]; exact Below.refl _ _
  have hb0 := box_belowD hx0
  have x0 := box_cellD hx0 0 rfl
  have x1 := box_cellD hx0 1 rfl
  have x2 := box_cellD hx0 2 rfl
  have EN := Lib.hid (elig_num h.ag.ok h.hC hl)
  have CN := Lib.hid ((sort_num h.ag.ok.nodC h.hC).trans (numsIn_inB C))
  have FN := Lib.hid ((sort_num h.ag.ok.nodD h.hD).trans (numsIn_inB D))
  have CM := Lib.hid (fun x (hx : x ∈ sortA fourL C) => h.hC x ((sortA_perm _ _).mem_iff.1 hx))
  have FM := Lib.hid (fun x (hx : x ∈ sortA fourL D) => h.hD x ((sortA_perm _ _).mem_iff.1 hx))
  have L21 := Lib.hid (show C.length ≤ 40000000 ∧ D.length ≤ 40000000 from ⟨by have := h.c21; omega, by have := h.d21; omega⟩)
  have EL := Lib.hid (show (eligA ⟨lv3 a b c, fourL, C, D⟩).length ≤ 40000000 by
    have := (sortA_perm fourL ((openA ⟨lv3 a b c, fourL, C, D⟩).filter (fun x => decide (lvl (lv3 a b c) x = strA ⟨lv3 a b c, fourL, C, D⟩)))).length_eq
    have h2 := List.length_filter_le (fun x => decide (lvl (lv3 a b c) x = strA ⟨lv3 a b c, fourL, C, D⟩)) (openA ⟨lv3 a b c, fourL, C, D⟩)
    have h3 := List.length_filter_le (fun x => decide (x ∉ D)) C
    have h4 := h.c21
    show (sortA fourL ((openA ⟨lv3 a b c, fourL, C, D⟩).filter (fun x => decide (lvl (lv3 a b c) x = strA ⟨lv3 a b c, fourL, C, D⟩)))).length ≤ _
    unfold openA at this h2 ⊢
    simp only at this h2 ⊢
    omega)
  have CL := Lib.hid (show (sortA fourL C).length ≤ 40000000 ∧ (sortA fourL D).length ≤ 40000000 by rw [(sortA_perm fourL C).length_eq, (sortA_perm fourL D).length_eq]; exact L21.out)
  have HS := Lib.hid (h.below hb0)
  have HB0 := Lib.hid hb0
  clear hx0 hb0 h hl
  go_enter Tryd.func18, Tryd.ntmps18
  go_upto_region 1 with fail
  rw [← hw0]
  clear hw0
  go_wp2_with fail
  refine (bookEligW a b c C D q w0 HS.out.bk).mono ?_
  rintro e w1 ⟨v1, rfl, ho1, hb1⟩
  obtain ⟨A1, c1, rfl⟩ := ho1.form
  rw [zN_len] at ho1 ⊢
  have S1 := Lib.hid (HS.out.below hb1)
  have B1 := Lib.hid (HB0.out.trans (hb1.mono HB0.out.size))
  have O1 := Lib.hid (ho1.rslN elB_lt)
  clear ho1 hb1 x0 x1 x2
  go_wp2_with fail
  refine (eligibleW w1 S1.out.ag L21.out.1).mono ?_
  intro e w2 hr
  obtain ⟨A2, c2, rfl, hb2, hr2⟩ := hr.rsl
  have S2 := Lib.hid (S1.out.below hb2)
  have B2 := Lib.hid (B1.out.trans (hb2.mono B1.out.size))
  have O2 := Lib.hid (O1.out.keep (Kp.of_below hb2))
  have R2 := Lib.hid hr2
  clear hr hb2 hr2
  go_wp2_with fail
  refine (numbersW _ _ w2 R2.out EN.out.2 EL.out).mono ?_
  rintro e w3 ⟨v3, rfl, ho3, hb3⟩
  rw [EN.out.1] at ho3
  obtain ⟨A3, c3, rfl⟩ := ho3.form
  rw [zN_len] at ho3 ⊢
  have S3 := Lib.hid (S2.out.below hb3)
  have B3 := Lib.hid (B2.out.trans (hb3.mono B2.out.size))
  have O3 := Lib.hid (O2.out.keep (Kp.of_below hb3))
  have P3 := Lib.hid (ho3.rslN elB_lt)
  clear ho3 hb3
  go_wp2_with fail
  refine (conflictW w3 S3.out.ag L21.out.1).mono ?_
  intro e w4 hr
  obtain ⟨A4, c4, rfl, hb4, hr4⟩ := hr.rsl
  have S4 := Lib.hid (S3.out.below hb4)
  have B4 := Lib.hid (B3.out.trans (hb4.mono B3.out.size))
  have R4 := Lib.hid hr4
  have O4 := Lib.hid (O3.out.keep (Kp.of_below hb4))
  have P4 := Lib.hid (P3.out.keep (Kp.of_below hb4))
  clear hr hb4 hr4
  go_wp2_with fail
  refine (numbersW _ _ w4 R4.out CM.out CL.out.1).mono ?_
  rintro e w5 ⟨v5, rfl, ho5, hb5⟩
  rw [CN.out] at ho5
  obtain ⟨A5, c5, rfl⟩ := ho5.form
  rw [zN_len] at ho5 ⊢
  have S5 := Lib.hid (S4.out.below hb5)
  have B5 := Lib.hid (B4.out.trans (hb5.mono B4.out.size))
  have O5 := Lib.hid (O4.out.keep (Kp.of_below hb5))
  have P5 := Lib.hid (P4.out.keep (Kp.of_below hb5))
  have Q5 := Lib.hid (ho5.rslN filter_lt)
  clear ho5 hb5
  go_wp2_with fail
  refine (firedW w5 S5.out.ag L21.out.2).mono ?_
  intro e w6 hr
  obtain ⟨A6, c6, rfl, hb6, hr6⟩ := hr.rsl
  have S6 := Lib.hid (S5.out.below hb6)
  have B6 := Lib.hid (B5.out.trans (hb6.mono B5.out.size))
  have R6 := Lib.hid hr6
  have O6 := Lib.hid (O5.out.keep (Kp.of_below hb6))
  have P6 := Lib.hid (P5.out.keep (Kp.of_below hb6))
  have Q6 := Lib.hid (Q5.out.keep (Kp.of_below hb6))
  clear hr hb6 hr6
  go_wp2_with fail
  refine (numbersW _ _ w6 R6.out FM.out CL.out.2).mono ?_
  rintro e w7 ⟨v7, rfl, ho7, hb7⟩
  rw [FN.out] at ho7
  obtain ⟨A7, c7, rfl⟩ := ho7.form
  rw [zN_len] at ho7 ⊢
  have S7 := Lib.hid (S6.out.below hb7)
  have B7 := Lib.hid (B6.out.trans (hb7.mono B6.out.size))
  have O7 := Lib.hid (O6.out.keep (Kp.of_below hb7))
  have P7 := Lib.hid (P6.out.keep (Kp.of_below hb7))
  have Q7 := Lib.hid (Q6.out.keep (Kp.of_below hb7))
  have U7 := Lib.hid (ho7.rslN filter_lt)
  clear ho7 hb7
  go_wp2_with fail
  refine (intsW _ _ _ w7 P7.out O7.out).mono ?_
  rintro e w8 ⟨rfl, hb8⟩
  have S8 := Lib.hid (S7.out.below hb8)
  have B8 := Lib.hid (B7.out.trans (hb8.mono B7.out.size))
  have Q8 := Lib.hid (Q7.out.keep (Kp.of_below hb8))
  have U8 := Lib.hid (U7.out.keep (Kp.of_below hb8))
  clear hb8
  go_wp2_with (with_reducible refine stop_load_gT rfl 45 (.tmp 51) rfl ?_)
  refine Lib.hid ?_
  refine wpList_valT (by rfl) _ (run_load_midT 45 (.tmp 51) rfl q 0 rfl (bArr (inB C)) _ S8.out.bk.rangeI Tryd.underlying45 rfl (size21 _)) ?_
  go_wp2_with fail
  refine (markedW (inB C) _ (fun k hk => bArr_at hk) w8).mono ?_
  rintro e w9 ⟨v9, rfl, ho9, hb9⟩
  obtain ⟨A9, c9, rfl⟩ := ho9.form
  rw [zN_len] at ho9 ⊢
  have S9 := Lib.hid (S8.out.below hb9)
  have B9 := Lib.hid (B8.out.trans (hb9.mono B8.out.size))
  have Q9 := Lib.hid (Q8.out.keep (Kp.of_below hb9))
  have U9 := Lib.hid (U8.out.keep (Kp.of_below hb9))
  have V9 := Lib.hid (ho9.rslN filter_lt)
  clear ho9 hb9
  go_wp2_with fail
  refine (intsW _ _ _ w9 Q9.out V9.out).mono ?_
  rintro e w10 ⟨rfl, hb10⟩
  have S10 := Lib.hid (S9.out.below hb10)
  have B10 := Lib.hid (B9.out.trans (hb10.mono B9.out.size))
  have U10 := Lib.hid (U9.out.keep (Kp.of_below hb10))
  clear hb10
  go_wp2_with (with_reducible refine stop_load_gT rfl 45 (.tmp 60) rfl ?_)
  refine Lib.hid ?_
  refine wpList_valT (by rfl) _ (run_load_midT 45 (.tmp 60) rfl q 21 rfl (bArr (inB D)) _ S10.out.bk.rangeF Tryd.underlying45 rfl (size21 _)) ?_
  go_wp2_with fail
  refine (markedW (inB D) _ (fun k hk => bArr_at hk) w10).mono ?_
  rintro e w11 ⟨v11, rfl, ho11, hb11⟩
  obtain ⟨A11, c11, rfl⟩ := ho11.form
  rw [zN_len] at ho11 ⊢
  have B11 := Lib.hid (B10.out.trans (hb11.mono B10.out.size))
  have U11 := Lib.hid (U10.out.keep (Kp.of_below hb11))
  have V11 := Lib.hid (ho11.rslN filter_lt)
  clear ho11 hb11
  go_wp2_with fail
  refine (intsW _ _ _ w11 U11.out V11.out).mono ?_
  rintro e w12 ⟨rfl, hb12⟩
  have B12 := Lib.hid (B11.out.trans (hb12.mono B11.out.size))
  clear hb12
  go_wp2
  go_ret
  exact ⟨rfl, B12.out⟩
end Go.Proofs.YtjgigcnjgblekaaDoor

namespace Go.Proofs.YtjgigcnjgblekaaDoor
open Go Go.RowKit Go.Maps Classical

theorem elig_mem {g : Agd} {a : Ac} (h : a ∈ eligA g) : a ∈ g.C ∧ a ∉ g.D ∧ lvl g.lv a = strA g := by
  have h2 := (sortA_perm g.cs _).mem_iff.1 (show a ∈ sortA g.cs _ from h)
  obtain ⟨h3, h4⟩ := List.mem_filter.1 h2
  obtain ⟨h5, h6⟩ := mem_open.1 h3
  exact ⟨h5, h6, of_decide_eq_true h4⟩
theorem fire_elig {g : Agd} {a : Ac} (hok : AgOk g) (h : a ∈ eligA g) : fireF g a = (0, { g with D := g.D ++ [a] }) := by
  obtain ⟨h1, h2, h3⟩ := elig_mem h
  exact fir_go (hok.ownC a h1) h2 h1 (by omega)
theorem inB_snoc {D : List Ac} {a : Ac} (ha : a ∈ all21) {k : Nat} (hk : k < 21) : (if k = numA a then true else inB D k) = inB (D ++ [a]) k := by
  unfold inB
  by_cases e : k = numA a
  · rw [if_pos e, e, (numA_act ha).2]
    simp
  · rw [if_neg e]
    refine decide_eq_decide.2 ?_
    rw [List.mem_append]
    constructor
    · exact fun h => .inl h
    · rintro (h | h)
      · exact h
      · exfalso
        have := List.mem_singleton.1 h
        rw [← this, num_act hk] at e
        exact e rfl
/-- An act fires: the book follows. -/
theorem TuS.fired {a b c : Int} {M : List Nat} {p mc mf q N N' : Nat} {C D : List Ac} {w w' w'' : World} {x : Ac} (h : TuS a b c M p mc mf q N C D w) (hx : x ∈ all21) (hq : w' = w.setCell ⟨q, 21 + numA x, none⟩ (.bool true))
    (hA : AgAt M w'' p mc mf ⟨lv3 a b c, fourL, C, D ++ [x]⟩ N') (T : Turns [mf] w' w'') : TuS a b c M p mc mf q N' C (D ++ [x]) w'' := by
  subst hq
  have h1 := (h.bk.setF (numA_act hx).1 true).congr (I' := inB C) (Fd' := inB (D ++ [x])) (fun _ _ => rfl) (fun k hk => inB_snoc hx hk)
  refine ⟨hA, h1.turns T (fun hm => h.qM.2.2 (List.mem_singleton.1 hm)), h.hC, fun y hy => ?_, fun y hy => ?_, h.qM⟩
  · rcases List.mem_append.1 hy with hy | hy
    · exact h.hD y hy
    · rw [List.mem_singleton.1 hy]; exact hx
  · have := h.ML y hy
    have h2 := T.size
    simp at h2
    omega
/-- A list of one act. -/
theorem one_act {F : Nat → Prop} {w : World} {H : Nat} {x : Ac} {sv : Value} {T : TypeId} (h : w.heap[H]? = some (.cells #[.int .i64 x.rule, sv] T (0, 0))) (hF : F H) (hok : i64ok x.rule) (hs : RSl F w 1 EInt sv x.sub) : RSl F w 2 (EAc F w) (.slice (some ⟨H, 0, none⟩) 1 1) [x] := by
  refine ⟨some ⟨H, 0, none⟩, 1, rfl, Nat.le_refl _, by unfold maxLen; decide, (fun h => by cases h), .inr ⟨H, 0, rfl, hF, lt_of_heap h, fun i y hy => ?_⟩⟩
  match i with
  | 0 =>
    simp only [List.getElem?_cons_zero, Option.some.injEq] at hy
    subst hy
    refine ⟨_, ⟨sv, rfl, hok, hs⟩, fun j u hu => ?_⟩
    rw [show 0 + 0 * 2 + j = j by omega]
    exact (cell_of_row _ _ j _ _ _ h).trans (by simpa using hu)
  | i + 1 => simp at hy
/-- What fires leaves. -/
def FrsRes (a b c : Int) (M : List Nat) (p mc mf q N : Nat) (C : List Ac) (w : World) (e : Ending) (w' : World) : Prop := e = .returned (.bool true) ∧ (∃ D', TuS a b c M p mc mf q N C D' w') ∧ Turns [mf, q] w w'
set_option maxRecDepth 100000 in
set_option maxHeartbeats 8000000 in
theorem firesW {a b c : Int} {M : List Nat} {p mc mf q N : Nat} {C D : List Ac} (n : Int) (hn : i64ok n) (w : World) (h : TuS a b c M p mc mf q N C D w) (hl : ∀ k, lvB (lv3 a b c) k ≤ 2) (hN : N + 2 < maxLen) (ht : ∀ W, Turns [mf, q] w W → Tab W) :
    Calls Tryd.prog 17 #[.pointer (some ⟨p, 0, none⟩), .pointer (some ⟨q, 0, none⟩), .agg #[.int .i64 a, .int .i64 b, .int .i64 c], .int .i64 n] w (FrsRes a b c M p mc mf q (N + 2) C w) := by
  obtain ⟨w0, hw0⟩ : ∃ w0, w0 = w.alloc (.cells #[.int .i64 a, .int .i64 b, .int .i64 c] 42) := ⟨_, rfl⟩
  have hx0 : Below (w.heap.size + 1) (w.alloc (.cells #[.int .i64 a, .int .i64 b, .int .i64 c] 42)) w0 := by rw [hw0]; exact Below.refl _ _
  have hb0 := box_belowD hx0
  have x0 := box_cellD hx0 0 rfl
  have x1 := box_cellD hx0 1 rfl
  have x2 := box_cellD hx0 2 rfl
  have EN := Lib.hid (elig_num h.ag.ok h.hC hl)
  have L21 := Lib.hid (show C.length ≤ 40000000 by have := h.c21; omega)
  have HS := Lib.hid (h.below hb0)
  have HB0 := Lib.hid hb0
  have HT := Lib.hid ht
  have HN := Lib.hid hN
  have HW := Lib.hid h
  clear hx0 hb0 h hl ht hN
  go_enter Tryd.func17, Tryd.ntmps17
  go_upto_region 1 with fail
  rw [← hw0]
  clear hw0
  go_wp2_with fail
  refine (bookEligW a b c C D q w0 HS.out.bk).mono ?_
  rintro e w1 ⟨v1, rfl, ho1, hb1⟩
  obtain ⟨A1, c1, rfl⟩ := ho1.form
  rw [zN_len] at ho1 ⊢
  have S1 := Lib.hid (HS.out.below hb1)
  have B1 := Lib.hid (HB0.out.trans (hb1.mono HB0.out.size))
  have O1 := Lib.hid (ho1.rsl (F := fun b => w0.heap.size ≤ b) (fun b hb => (ownBlock_cells ho1 hb).1) (zN_ok elB_lt))
  clear ho1 hb1 x0 x1 x2
  go_wp2_with fail
  refine (pickW n hn w1 S1.out.ag L21.out).mono ?_
  rintro e w2 ⟨x, sv, er, rfl, hsv, hb2, hcase⟩
  obtain ⟨A2, c2, rfl⟩ := hsv.form
  have S2 := Lib.hid (S1.out.below hb2)
  have B2 := Lib.hid (B1.out.trans (hb2.mono B1.out.size))
  have O2 := Lib.hid (O1.out.keep (Kp.of_below hb2))
  obtain ⟨El, hE⟩ : ∃ El, eligA ⟨lv3 a b c, fourL, C, D⟩ = El := ⟨_, rfl⟩
  have HE := Lib.hid hE
  rw [hE] at hcase EN
  obtain ⟨nl, hnl⟩ : ∃ nl, elB (lv3 a b c) C D = nl := ⟨_, rfl⟩
  have HNL := Lib.hid (show ∀ k ∈ nl, k < 21 by rw [← hnl]; exact elB_lt)
  rw [hnl] at EN O2 ⊢
  have hlen : El.length = nl.length := by rw [← EN.out.1, List.length_map]
  have hnl21 : nl.length ≤ 21 := by
    rw [← hnl]
    exact filter_len _ 21
  clear O1 hnl hE
  rcases hcase with ⟨h1, h2, h3⟩ | ⟨h1, h2, h3⟩
  · subst h1 h2 h3
    have hz : nl.length = 0 := by rw [← hlen]; rfl
    have f1 : ((nl.length : Int) == 0) = true := by rw [hz]; rfl
    clear hsv hb2 O2 HNL
    go_wp2
    go_ret
    refine ⟨rfl, ⟨D, (S2.out.below ((Below.refl _ _).alloc (Nat.le_refl _) _)).mono (by omega)⟩, Turns.of_below (B2.out.alloc B2.out.size _)⟩
  · subst h3
    have hpos : 0 < nl.length := by rw [← hlen]; exact List.length_pos_iff.2 h1
    have f1 : ((nl.length : Int) == 0) = false := beq_false_of_ne (by omega)
    have HX := Lib.hid (List.mem_of_getElem? h2)
    have HXM := Lib.hid (EN.out.2 x HX.out)
    have hrng : 0 ≤ idxOf n (El.length : Int) ∧ idxOf n (El.length : Int) < (El.length : Int) := by
      unfold idxOf
      rw [if_neg (by omega)]
      exact ⟨Int.emod_nonneg _ (by omega), Int.emod_lt_of_pos _ (by omega)⟩
    have hmz : modZ n (nl.length : Int) = idxOf n (El.length : Int) := by unfold modZ idxOf; rw [if_neg (by omega), hlen]
    obtain ⟨k, hk⟩ : ∃ k : Nat, idxOf n (El.length : Int) = (k : Int) := ⟨(idxOf n (El.length : Int)).toNat, by omega⟩
    rw [hk] at hrng hmz h2
    have hkx : nl[k]? = some (numA x) := by
      rw [← EN.out.1, List.getElem?_map, show El[k]? = some x from h2]
      rfl
    have MW := Lib.hid (fun (W : World) => (hmz ▸ modW n (nl.length : Int) (by omega) hn (by omega) W : Calls Tryd.prog 11 #[.int .i64 n, .int .i64 (nl.length : Int)] W fun e w' => e = .returned (.int .i64 (k : Int)) ∧ W = w'))
    have HKX := Lib.hid hkx
    have HK2 := Lib.hid (show (k : Int) < (nl.length : Int) by omega)
    obtain ⟨w3, hw3⟩ : ∃ w3, w3 = w2.alloc (.cells #[.int .i64 x.rule, .slice A2 x.sub.length c2] 30) := ⟨_, rfl⟩
    have hb3 : Below w2.heap.size w2 w3 := by rw [hw3]; exact (Below.refl _ _).alloc (Nat.le_refl _) _
    have y0 : w3.cell? ⟨w2.heap.size, 0, none⟩ = some (.int .i64 x.rule) := by rw [hw3]; exact cell_of_row _ _ 0 _ _ _ (heap_alloc_new w2 _)
    have y1 : w3.cell? ⟨w2.heap.size, 1, none⟩ = some (.slice A2 x.sub.length c2) := by rw [hw3]; exact cell_of_row _ _ 1 _ _ _ (heap_alloc_new w2 _)
    have S3 := Lib.hid (S2.out.below hb3)
    have B3 := Lib.hid (B2.out.trans (hb3.mono B2.out.size))
    have O3 := Lib.hid (O2.out.keep (Kp.of_below hb3))
    have V3 := Lib.hid ((hsv.kp (F' := fun b => b ∉ M) (Kp.refl _ _) (fun b hb hf hm => by have := S1.out.ML b hm; omega) (fun _ _ h => h)).keep (Kp.of_below hb3))
    have LT3 := Lib.hid (show w2.heap.size < w3.heap.size by rw [hw3]; simp)
    clear hsv hb2 hb3 O2 HNL h1 h2 hkx hk hrng hmz S2
    go_upto_region 3 with fail
    rw [← hw3]
    clear hw3
    obtain ⟨w4, hw4⟩ : ∃ w4, w4 = w3.alloc (.cells #[.int .i64 x.rule, .slice A2 x.sub.length c2] 30) := ⟨_, rfl⟩
    have hb4 : Below w3.heap.size w3 w4 := by rw [hw4]; exact (Below.refl _ _).alloc (Nat.le_refl _) _
    have N4 := Lib.hid (numbersW (F := fun _ => True) (.slice (some ⟨w3.heap.size, 0, none⟩) 1 1) [x] w4 (one_act (by rw [hw4]; exact heap_alloc_new w3 _) trivial (all21_ok HXM.out).rule ((V3.out.kp (Kp.refl _ _) (fun _ _ _ => trivial) (fun _ _ h => h)).keep (Kp.of_below hb4))) (fun y hy => by rw [List.mem_singleton.1 hy]; exact HXM.out) (by simp))
    have S4 := Lib.hid (S3.out.below hb4)
    have B4 := Lib.hid (B3.out.trans (hb4.mono B3.out.size))
    have O4 := Lib.hid (O3.out.keep (Kp.of_below hb4))
    have V4 := Lib.hid (V3.out.keep (Kp.of_below hb4))
    have z0 := (hb4.cell (p := ⟨w2.heap.size, 0, none⟩) LT3.out).trans y0
    have z1 := (hb4.cell (p := ⟨w2.heap.size, 1, none⟩) LT3.out).trans y1
    have LT4 := Lib.hid (Nat.lt_of_lt_of_le LT3.out hb4.size)
    clear hb4
    go_wp2_with fail
    rw [← hw4]
    clear hw4 y0 y1
    refine N4.out.mono ?_
    rintro e w5 ⟨v5, rfl, ho5, hb5⟩
    rw [show zN ([x].map numA) = [(numA x : Int)] from rfl] at ho5
    obtain ⟨A5, c5, rfl⟩ := ho5.form
    have S5 := Lib.hid (S4.out.below hb5)
    have B5 := Lib.hid (B4.out.trans (hb5.mono B4.out.size))
    have O5 := Lib.hid (O4.out.keep (Kp.of_below hb5))
    have V5 := Lib.hid (V4.out.keep (Kp.of_below hb5))
    have y0 := (hb5.cell (p := ⟨w2.heap.size, 0, none⟩) LT4.out).trans z0
    have y1 := (hb5.cell (p := ⟨w2.heap.size, 1, none⟩) LT4.out).trans z1
    have LT5 := Lib.hid (Nat.lt_of_lt_of_le LT4.out hb5.size)
    have hx21 := (numA_act HXM.out).1
    obtain ⟨b5, o5, rfl, _, hb5l, cs, ⟨rfl, _⟩, hc⟩ := (ho5.rsl (F := fun _ => True) (fun _ _ => trivial) (fun i hi => by rw [List.mem_singleton.1 hi]; exact WalkArith.wf_i64 (by omega))).at (i := 0) (x := (numA x : Int)) rfl
    have d0 := hc 0 _ rfl
    obtain ⟨b6, o6, rfl, _, _, cs, ⟨rfl, _⟩, hc⟩ := O5.out.at (i := k) (x := (numA x : Int)) (by unfold zN; rw [List.getElem?_map, HKX.out]; rfl)
    have d1 := hc 0 _ rfl
    simp only [Nat.add_zero, Nat.mul_one] at d0 d1
    have e1 : (0 : Int) ≤ (k : Int) := by omega
    have e2 := HK2.out
    have hee : ((numA x : Int) == (numA x : Int)) = true := by simp
    have hen : ((numA x : Int) != (numA x : Int)) = false := by simp
    clear hc ho5 hb5 z0 z1 N4 S4 O4
    simp only [List.length_singleton] at *
    go_upto_region 6 with fail
    go_quiet ((go_at_call 11; exact Calls.quiet_of_same ((MW.out _).mono (fun _ _ h => ⟨h.1, h.2.symm⟩))))
    have hq := below_drewNA (Below.refl w5.heap.size w5) nq
    generalize w5.drewN nq = w6 at hq ⊢
    have S6 := Lib.hid (S5.out.below hq)
    have B6 := Lib.hid (B5.out.trans (hq.mono B5.out.size))
    have V6 := Lib.hid (V5.out.keep (Kp.of_below hq))
    have u0 := (hq.cell (p := ⟨w2.heap.size, 0, none⟩) LT5.out).trans y0
    have u1 := (hq.cell (p := ⟨w2.heap.size, 1, none⟩) LT5.out).trans y1
    have d2 := (hq.cell (p := ⟨b5, o5, none⟩) hb5l).trans d0
    have LT6 := Lib.hid (Nat.lt_of_lt_of_le LT5.out hq.size)
    have d3 := S6.out.bk.cF (numA x) hx21
    have d4 := (S6.out.bk.ok (21 + numA x) (by omega)).2
    have e3 : (0 : Int) ≤ (numA x : Int) := by omega
    have e4 : (numA x : Int) < 21 := by omega
    clear hq d0 d1 y0 y1 S5 O5 V5 O3 V3 V4
    go_upto_region 8 with fail
    go_region
    clear d2 d3 d4
    obtain ⟨w7, hw7⟩ : ∃ w7, w7 = (w6.setCell ⟨q, 21 + numA x, none⟩ (.bool true)).drew := ⟨_, rfl⟩
    have t7 : Turns [q] w6 w7 := by
      rw [hw7]
      exact ((Turns.refl [q] w6).setCell (.inl (by simp)) _).trans (S' := []) (Turns.of_below (Below.refl _ _).drew) (fun y hy => by simp at hy)
    have T67 := Lib.hid (show Turns [] (w6.setCell ⟨q, 21 + numA x, none⟩ (.bool true)) w7 by rw [hw7]; exact Turns.of_below (Below.refl _ _).drew)
    rw [← hw7]
    clear hw7
    have A7 := Lib.hid (S6.out.ag.step (M' := M) t7 (fun y hy => by rw [List.mem_singleton.1 hy]; exact S6.out.qM) (fun _ h => h) (fun _ h => .inl h))
    have V7 := Lib.hid (V6.out.keep (Kp.of_turns t7 (fun y hy h => h (by rw [List.mem_singleton.1 hy]; exact S6.out.qM.1))))
    have hq2 : w2.heap.size ∉ [q] := fun hm => by have := HW.out.bk.lt; have := B2.out.size; have := List.mem_singleton.1 hm; omega
    have v0 := (t7.cell LT6.out hq2).trans u0
    have v1 := (t7.cell LT6.out hq2).trans u1
    have LT7 := Lib.hid (Nat.lt_of_lt_of_le LT6.out t7.size)
    have G7 := Lib.hid ((Turns.of_below (S := [mf, q]) B6.out).trans t7 (fun y hy => .inl (by rw [List.mem_singleton.1 hy]; simp)))
    have ML7 := Lib.hid (fun y (hy : y ∈ M) => Nat.lt_of_lt_of_le (S6.out.ML y hy) t7.size)
    have hmfM := S6.out.ag.fM
    have hmf2 : w2.heap.size ∉ [mf] := fun hm => by have := HW.out.ML mf hmfM; have := B2.out.size; have := List.mem_singleton.1 hm; omega
    have FR := Lib.hid (fire_elig S6.out.ag.ok (show x ∈ eligA ⟨lv3 a b c, fourL, C, D⟩ from HE.out ▸ HX.out))
    have FW := Lib.hid (fireW x (.slice A2 x.sub.length c2) w7 A7.out V7.out (all21_ok HXM.out) ML7.out (by have := HN.out; omega) (HT.out w7 G7.out))
    rw [FR.out] at FW
    clear t7 u0 u1 hq2
    go_wp2_with fail
    refine FW.out.mono ?_
    rintro e w8 ⟨rfl, hA8, hT8⟩
    have V8 := Lib.hid (V7.out.keep (Kp.of_turns hT8 (fun y hy h => h (by rw [List.mem_singleton.1 hy]; exact hmfM))))
    have s0 := (hT8.cell LT7.out hmf2).trans v0
    have s1 := (hT8.cell LT7.out hmf2).trans v1
    have G8 := Lib.hid (G7.out.trans hT8 (fun y hy => .inl (by rw [List.mem_singleton.1 hy]; simp)))
    have ML8 := Lib.hid (fun y (hy : y ∈ M) => Nat.lt_of_lt_of_le (ML7.out y hy) hT8.size)
    have FR2 := Lib.hid (show fireF ⟨lv3 a b c, fourL, C, D ++ [x]⟩ x = (51, ⟨lv3 a b c, fourL, C, D ++ [x]⟩) from fir_twice (hA8.ok.ownD x (by simp)) (by simp))
    have FW2 := Lib.hid (fireW x (.slice A2 x.sub.length c2) w8 hA8 V8.out (all21_ok HXM.out) ML8.out (by have := HN.out; omega) (HT.out w8 G8.out))
    rw [FR2.out] at FW2
    have T8 := Lib.hid hT8
    clear hA8 hT8 v0 v1 hmf2 FW
    go_wp2_with fail
    refine FW2.out.mono ?_
    rintro e w9 ⟨rfl, hA9, hT9⟩
    have HA9 := Lib.hid hA9
    have T9 := Lib.hid hT9
    clear hA9 hT9 s0 s1 FW2
    go_wp2
    go_ret
    refine ⟨rfl, ⟨D ++ [x], S6.out.fired HXM.out rfl (HA9.out.mono (by omega)) ?_⟩, G8.out.trans T9.out (fun y hy => .inl (by rw [List.mem_singleton.1 hy]; simp))⟩
    exact ((T67.out.mono (by simp)).trans T8.out (fun y hy => .inl hy)).trans T9.out (fun y hy => .inl hy)
end Go.Proofs.YtjgigcnjgblekaaDoor
