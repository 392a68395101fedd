/- own: one of the agenda's acts? The walk. The walks of cmp.Compare, cmp.Or. The walk of sym.Compare. -/
import Derived.Test.YtjgigcnjgblekaaDoorKap05
import Derived.Test.YtjgigcnjgblekaaDoorKap09
import Derived.BigQuiet
import Derived.Deep.DrawnRows
import Derived.Deep.QuietTactic
import Derived.Deep.RegionHeld3
import Derived.Lib.Hide
import Derived.Test.YtjgigcnjgblekaaDoorChecked
import Derived.WalkKit
import Derived.WalkLawsBesides
namespace Go.Proofs.YtjgigcnjgblekaaDoor
open Go Go.RowKit Go.Maps Classical

def outI (m : Nat) (i : Int) : Bool := decide (i < 0 ∨ (m : Int) ≤ i)
theorem ret_boolA {a b : Bool} (h : a = b) : Ending.returned (.bool a) = .returned (.bool b) := by rw [h]
theorem ret_i64A {a b : Int} (h : a = b) : Ending.returned (.int .i64 a) = .returned (.int .i64 b) := by rw [h]
set_option maxRecDepth 100000 in
theorem own1W (i : Int) (B p m c : Nat) (A : Option Addr) (w : World) (hB : w.cell? ⟨B, 0, none⟩ = some (.pointer (some ⟨p, 0, none⟩))) (hp : w.cell? ⟨p, 1, none⟩ = some (.slice A m c)) :
    Calls Tryd.prog 66 #[.int .i64 i, .pointer (some ⟨B, 0, none⟩)] w fun e w' => e = .returned (.bool (outI m i)) ∧ Below w.heap.size w w' := by
  by_cases h0 : i < 0
  · have hb : outI m i = true := by simp [outI, h0]
    have HB := Lib.hid hb
    clear hb
    go_enter Tryd.func66, Tryd.ntmps66
    go_wp2
    go_ret
    exact ⟨ret_boolA HB.out.symm, Below.refl _ _⟩
  · have hb : outI m i = decide ((m : Int) ≤ i) := by simp [outI, h0]
    have HB := Lib.hid hb
    clear hb
    go_enter Tryd.func66, Tryd.ntmps66
    go_wp2
    go_ret
    exact ⟨ret_boolA HB.out.symm, Below.refl _ _⟩
/-- The first place of which p holds. -/
def idxZ (p : Int → Bool) : List Int → Nat
  | [] => 0
  | s :: r => if p s = true then 0 else idxZ p r + 1
def idxY (p : Int → Bool) (xs : List Int) : Int := if idxZ p xs < xs.length then (idxZ p xs : Int) else -1
theorem idxZ_none {p : Int → Bool} : ∀ {xs : List Int}, (∀ s ∈ xs, p s = false) → idxZ p xs = xs.length
  | [], _ => rfl
  | s :: r, h => by
    unfold idxZ
    rw [if_neg (by rw [h s (List.mem_cons_self ..)]; decide), idxZ_none (fun t ht => h t (List.mem_cons_of_mem _ ht))]
    rfl
theorem idxZ_at {p : Int → Bool} : ∀ {xs : List Int} {k : Nat} {s : Int}, xs[k]? = some s → p s = true → (∀ s ∈ xs.take k, p s = false) → idxZ p xs = k
  | [], k, s, h, _, _ => by simp at h
  | a :: r, 0, s, h, hp, _ => by
    simp at h
    subst h
    unfold idxZ
    rw [if_pos hp]
  | a :: r, k + 1, s, h, hp, hq => by
    unfold idxZ
    rw [if_neg (by rw [hq a (by simp)]; decide), idxZ_at (k := k) (s := s) (by simpa using h) hp (fun t ht => hq t (by rw [List.take_succ_cons]; exact List.mem_cons_of_mem _ ht))]
theorem idxY_none {p : Int → Bool} {xs : List Int} (h : ∀ s ∈ xs, p s = false) : idxY p xs = -1 := by
  unfold idxY
  rw [idxZ_none h, if_neg (Nat.lt_irrefl _)]
theorem idxY_at {p : Int → Bool} {xs : List Int} {k : Nat} {s : Int} (h : xs[k]? = some s) (hp : p s = true) (hq : ∀ s ∈ xs.take k, p s = false) : idxY p xs = k := by
  unfold idxY
  rw [idxZ_at h hp hq, if_pos (List.getElem?_eq_some_iff.1 h).1]
theorem idxY_ge {p : Int → Bool} {xs : List Int} : (0 ≤ idxY p xs) ↔ ∃ s ∈ xs, p s = true := by
  constructor
  · intro h
    by_cases hn : ∀ s ∈ xs, p s = false
    · rw [idxY_none hn] at h; omega
    · have : ∃ s, ¬ (s ∈ xs → p s = false) := Classical.not_forall.1 hn
      obtain ⟨s, hs⟩ := this
      have := Classical.not_imp.1 hs
      exact ⟨s, this.1, by simpa using this.2⟩
  · rintro ⟨s, hs, hp⟩
    unfold idxY
    have : idxZ p xs < xs.length := by
      induction xs with
      | nil => cases hs
      | cons a r ih =>
        unfold idxZ
        split
        · simp
        · rename_i hna
          rcases List.mem_cons.1 hs with rfl | hs
          · exact absurd hp hna
          · have := ih hs
            simp only [List.length_cons]
            omega
    rw [if_pos this]
    omega
theorem take_allA {p : Int → Bool} {xs : List Int} {k : Nat} {s : Int} (h : ∀ s ∈ xs.take k, p s = false) (hs : xs[k]? = some s) (hp : p s = false) : ∀ s ∈ xs.take (k + 1), p s = false := by
  intro t ht
  rw [List.take_add_one, hs] at ht
  rcases List.mem_append.1 ht with ht | ht
  · exact h t ht
  · simp at ht; rw [ht]; exact hp
set_option maxRecDepth 100000 in
set_option maxHeartbeats 1000000 in
theorem indexFuncW {F : Nat → Prop} (v : Value) (xs : List Int) (B : Nat) (p : Int → Bool) (w : World) (h : RSl F w 1 EInt v xs)
    (hp : ∀ s ∈ xs, ∀ W, Below w.heap.size w W → Calls Tryd.prog 66 #[.int .i64 s, .pointer (some ⟨B, 0, none⟩)] W fun e w' => e = .returned (.bool (p s)) ∧ Below W.heap.size W w') :
    Calls Tryd.prog 76 #[v, .func (.func 66) #[] #[.pointer (some ⟨B, 0, none⟩)]] w fun e w' => e = .returned (.int .i64 (idxY p xs)) ∧ Below w.heap.size w w' := by
  obtain ⟨A, c, rfl⟩ := h.form
  have hm := h.len
  unfold maxLen at hm
  have HP := Lib.hid hp
  have HH := Lib.hid h
  clear hp h
  go_enter Tryd.func76, Tryd.ntmps76
  go_wp2
  go_loopw [8] (fun i wr => ∃ k : Nat, i = .int .i64 k ∧ k ≤ xs.length ∧ (∀ s ∈ xs.take k, p s = false) ∧ Below w.heap.size w wr) (fun i _ => xs.length - (intOf i).toNat)
  case atStart => exact ⟨0, rfl, Nat.zero_le _, by simp, Below.refl _ _⟩
  case round =>
    obtain ⟨k, rfl, hk, hq, hb⟩ := hrel
    by_cases hkn : k < xs.length
    · obtain ⟨s, hs⟩ : ∃ s, xs[k]? = some s := ⟨_, List.getElem?_eq_getElem hkn⟩
      obtain ⟨b, off, rfl, _, _, cs, ⟨rfl, hok⟩, hc⟩ := (HH.out.keep (Kp.of_below hb)).at hs
      have c0 := hc 0 _ rfl
      simp only [Nat.add_zero, Nat.mul_one] at c0
      have e1 : (0 : Int) ≤ (k : Int) := by omega
      have e2 : (k : Int) < (xs.length : Int) := by omega
      have hsz := hb.size
      have C := Lib.hid (HP.out s (List.mem_of_getElem? hs) wr hb)
      have HS := Lib.hid hs
      have HQ := Lib.hid hq
      have HB := Lib.hid hb
      have HK := Lib.hid hkn
      clear hc hs hkn hb hq
      by_cases hps : p s = true
      · have HI := Lib.hid (idxY_at HS.out hps HQ.out)
        have HPS := Lib.hid hps
        clear hps
        go_wp2_with (go_at_call 66; refine C.out.mono ?_; rintro e w' ⟨he, hb2⟩; rw [HPS.out] at he; subst he; have HB2 := Lib.hid hb2; clear hb2)
        go_ret
        exact ⟨ret_i64A HI.out.symm, HB.out.trans (HB2.out.mono hsz)⟩
      · have hps' : p s = false := by simpa using hps
        have HQ2 := Lib.hid (take_allA HQ.out HS.out hps')
        have HPS := Lib.hid hps'
        clear hps hps'
        go_wp2_with (go_at_call 66; refine C.out.mono ?_; rintro e w' ⟨he, hb2⟩; rw [HPS.out] at he; subst he; have HB2 := Lib.hid hb2; clear hb2)
        exact ⟨⟨k + 1, by go_num, HK.out, HQ2.out, HB.out.trans (HB2.out.mono hsz)⟩, by simp [intOf]; have := HK.out; omega⟩
    · obtain rfl : k = xs.length := by omega
      rw [List.take_length] at hq
      have HI := Lib.hid (idxY_none hq)
      clear hq
      go_wp2
      go_ret
      exact ⟨ret_i64A HI.out.symm, hb⟩
theorem containsFuncW {F : Nat → Prop} (v : Value) (xs : List Int) (B : Nat) (p : Int → Bool) (w : World) (h : RSl F w 1 EInt v xs)
    (hp : ∀ s ∈ xs, ∀ W, Below w.heap.size w W → Calls Tryd.prog 66 #[.int .i64 s, .pointer (some ⟨B, 0, none⟩)] W fun e w' => e = .returned (.bool (p s)) ∧ Below W.heap.size W w') :
    Calls Tryd.prog 65 #[v, .func (.func 66) #[] #[.pointer (some ⟨B, 0, none⟩)]] w fun e w' => e = .returned (.bool (decide (0 ≤ idxY p xs))) ∧ Below w.heap.size w w' := by
  have C := Lib.hid (indexFuncW v xs B p w h hp)
  clear h hp
  go_enter Tryd.func65, Tryd.ntmps65
  go_wp2_with (go_at_call 76; refine C.out.mono ?_; rintro e w' ⟨rfl, hb2⟩; have HB2 := Lib.hid hb2; clear hb2)
  go_ret
  exact ⟨rfl, HB2.out⟩

theorem own_law {g : Agd} {a : Ac} (h0 : 0 ≤ a.rule) (h1 : a.rule < (g.lv.length : Int)) : (!decide (0 ≤ idxY (outI g.cs.length) a.sub)) = decide (ownA g a) := by
  by_cases ho : ownA g a
  · rw [decide_eq_true ho]
    have : ¬ 0 ≤ idxY (outI g.cs.length) a.sub := by
      rw [idxY_ge]
      rintro ⟨s, hs, hp⟩
      have := ho.2 s hs
      simp only [outI, decide_eq_true_eq] at hp
      omega
    rw [decide_eq_false this]; rfl
  · rw [decide_eq_false ho]
    have : 0 ≤ idxY (outI g.cs.length) a.sub := by
      rw [idxY_ge]
      refine Classical.byContradiction fun hn => ho ⟨⟨h0, h1⟩, fun i hi => ?_⟩
      have : ¬ outI g.cs.length i = true := fun hp => hn ⟨i, hi, hp⟩
      simp only [outI, decide_eq_true_eq] at this
      omega
    rw [decide_eq_true this]; rfl
theorem AgAt.cells {M : List Nat} {w : World} {p mc mf N : Nat} {g : Agd} (h : AgAt M w p mc mf g N) : ∃ A1 c1 A2 c2, w.cell? ⟨p, 0, none⟩ = some (.slice A1 g.lv.length c1) ∧ w.cell? ⟨p, 1, none⟩ = some (.slice A2 g.cs.length c2) ∧ w.cell? ⟨p, 2, none⟩ = some (.map (some mc)) ∧ w.cell? ⟨p, 3, none⟩ = some (.map (some mf)) ∧
    RSl (fun b => b ∉ M) w 1 EInt (.slice A1 g.lv.length c1) g.lv ∧ RSl (fun b => b ∉ M) w 3 ECst (.slice A2 g.cs.length c2) g.cs := by
  obtain ⟨lv, cv, h1, h2, h3⟩ := h.blk
  obtain ⟨A1, c1, rfl⟩ := h2.form
  obtain ⟨A2, c2, rfl⟩ := h3.form
  exact ⟨A1, c1, A2, c2, cell_of_row _ _ 0 _ _ _ h1, cell_of_row _ _ 1 _ _ _ h1, cell_of_row _ _ 2 _ _ _ h1, cell_of_row _ _ 3 _ _ _ h1, h2, h3⟩
set_option maxRecDepth 100000 in
set_option maxHeartbeats 4000000 in
theorem ownW {F : Nat → Prop} {M : List Nat} {p mc mf N : Nat} {g : Agd} (a : Ac) (sv : Value) (w : World) (h : AgAt M w p mc mf g N) (hs : RSl F w 1 EInt sv a.sub) (hr : i64ok a.rule) :
    Calls Tryd.prog 53 #[.pointer (some ⟨p, 0, none⟩), .agg #[.int .i64 a.rule, sv]] w fun e w' => e = .returned (.bool (decide (ownA g a))) ∧ Below w.heap.size w w' := by
  obtain ⟨A, c, rfl⟩ := hs.form
  obtain ⟨w0, hw0⟩ : ∃ w0, w0 = (w.alloc (.cells #[.pointer (some ⟨p, 0, none⟩)] 24)).alloc (.cells #[.int .i64 a.rule, .slice A a.sub.length c] 30) := ⟨_, rfl⟩
  have hx0 : Below (w.heap.size + 1) (w.alloc (.cells #[.pointer (some ⟨p, 0, none⟩)] 24)) w0 := by rw [hw0]; exact (Below.refl _ _).alloc (by simp) _
  have hsz0 : w0.heap.size = w.heap.size + 1 + 1 := by rw [hw0]; simp
  have hb0 := box_belowD hx0
  have x0 := box_cellD hx0 0 rfl
  have x1 : w0.cell? ⟨w.heap.size + 1, 0, none⟩ = some (.int .i64 a.rule) := by
    rw [hw0]; simp
  have x2 : w0.cell? ⟨w.heap.size + 1, 1, none⟩ = some (.slice A a.sub.length c) := by
    rw [hw0]; simp
  obtain ⟨A1, c1, A2, c2, y0, y1, _, _, _, _⟩ := (h.below hb0).cells
  have hlt : w0.heap.size ≤ w0.heap.size := Nat.le_refl _
  have hp := (h.below hb0).lt
  have CF := Lib.hid (fun (W0 : World) (hW0 : Below w0.heap.size w0 W0) => containsFuncW (.slice A a.sub.length c) a.sub w.heap.size (outI g.cs.length) W0 (hs.keep (Kp.of_below (F := F) (hb0.trans (hW0.mono (by omega))))) (fun s _ W hW => own1W s w.heap.size p g.cs.length c2 A2 W
    (((hW0.trans (hW.mono hW0.size)).cell (p := ⟨w.heap.size, 0, none⟩) (by show w.heap.size < w0.heap.size; omega)).trans x0) (((hW0.trans (hW.mono hW0.size)).cell (p := ⟨p, 1, none⟩) hp).trans y1)))
  have DN := Lib.hid (fun n => ((Turns.refl [] w0).drewN n).below (Nat.le_refl _) (fun x hx => by simp at hx))
  have HB := Lib.hid hb0
  have hm := h.big.1
  have hlo := hr.lo
  unfold maxLen at hm
  have HG := Lib.hid (fun h0 h1 => own_law (g := g) (a := a) h0 h1)
  have HN := Lib.hid (fun (hn : ¬ (0 ≤ a.rule ∧ a.rule < (g.lv.length : Int))) => (show decide (ownA g a) = false from decide_eq_false (fun ho => hn ho.1)))
  clear h hs hx0 hb0
  go_enter Tryd.func53, Tryd.ntmps53
  go_upto_region 1 with fail
  rw [← hw0]
  clear hw0
  by_cases h0 : a.rule < 0
  · have HR := Lib.hid (HN.out (by omega))
    clear HG HN CF
    go_quiet (fail)
    go_wp2
    go_ret
    exact ⟨ret_boolA HR.out.symm, HB.out.trans ((DN.out _).mono HB.out.size)⟩
  · by_cases h1 : a.rule < (g.lv.length : Int)
    · have HR := Lib.hid (HG.out (by omega) h1)
      clear HG HN
      go_quiet (fail)
      go_wp2_with fail
      refine (CF.out _ (DN.out _)).mono ?_
      rintro e w' ⟨rfl, hb2⟩
      have HB2 := Lib.hid (HB.out.trans (((DN.out _).trans (hb2.mono (DN.out _).size)).mono HB.out.size))
      clear hb2 CF
      go_wp2
      go_ret
      exact ⟨ret_boolA HR.out, HB2.out⟩
    · have HR := Lib.hid (HN.out (by omega))
      clear HG HN CF
      go_quiet (fail)
      go_wp2
      go_ret
      exact ⟨ret_boolA HR.out.symm, HB.out.trans ((DN.out _).mono HB.out.size)⟩
end Go.Proofs.YtjgigcnjgblekaaDoor

namespace Go.Proofs.YtjgigcnjgblekaaDoor
open Go.RowKit

theorem nan_int (x : Int) (w : World) : Calls Tryd.prog 88 #[.int .i64 x] w fun e w' => e = .returned (.bool false) ∧ w = w' := by
  go_enter Tryd.func88, Tryd.ntmps88
  go_wp2
  go_ret
  exact ⟨by simp, rfl⟩
theorem nan_int64 (x : Int) (w : World) : Calls Tryd.prog 105 #[.int .i64 x] w fun e w' => e = .returned (.bool false) ∧ w = w' := by
  go_enter Tryd.func105, Tryd.ntmps105
  go_wp2
  go_ret
  exact ⟨by simp, rfl⟩
theorem nan_str (x : ByteArray) (w : World) : Calls Tryd.prog 106 #[.string x] w fun e w' => e = .returned (.bool false) ∧ w = w' := by
  go_enter Tryd.func106, Tryd.ntmps106
  go_wp2
  go_ret
  exact ⟨by simp, rfl⟩

theorem cmp_int (x y : Int) (w : World) : Calls Tryd.prog 71 #[.int .i64 x, .int .i64 y] w fun e w' => e = .returned (.int .i64 (cmpI x y)) ∧ w = w' := by
  rcases Int.lt_trichotomy x y with h | rfl | h
  · have E : cmpI x y = -1 := by unfold cmpI; rw [if_pos h]
    rw [E]; clear E
    go_enter Tryd.func71, Tryd.ntmps71
    go_wp2_with (first | (go_at_call 88; refine (nan_int _ _).mono ?_; rintro e w' ⟨rfl, rfl⟩))
    go_ret
    exact ⟨rfl, rfl⟩
  · have E : cmpI x x = 0 := by unfold cmpI; rw [if_neg (by omega), if_neg (by omega)]
    rw [E]; clear E
    go_enter Tryd.func71, Tryd.ntmps71
    go_wp2_with (first | (go_at_call 88; refine (nan_int _ _).mono ?_; rintro e w' ⟨rfl, rfl⟩))
    go_ret
    exact ⟨rfl, rfl⟩
  · have E : cmpI x y = 1 := by unfold cmpI; rw [if_neg (by omega), if_pos h]
    rw [E]; clear E
    go_enter Tryd.func71, Tryd.ntmps71
    go_wp2_with (first | (go_at_call 88; refine (nan_int _ _).mono ?_; rintro e w' ⟨rfl, rfl⟩))
    go_ret
    exact ⟨rfl, rfl⟩
theorem cmp_int64 (x y : Int) (w : World) : Calls Tryd.prog 97 #[.int .i64 x, .int .i64 y] w fun e w' => e = .returned (.int .i64 (cmpI x y)) ∧ w = w' := by
  rcases Int.lt_trichotomy x y with h | rfl | h
  · have E : cmpI x y = -1 := by unfold cmpI; rw [if_pos h]
    rw [E]; clear E
    go_enter Tryd.func97, Tryd.ntmps97
    go_wp2_with (first | (go_at_call 105; refine (nan_int64 _ _).mono ?_; rintro e w' ⟨rfl, rfl⟩))
    go_ret
    exact ⟨rfl, rfl⟩
  · have E : cmpI x x = 0 := by unfold cmpI; rw [if_neg (by omega), if_neg (by omega)]
    rw [E]; clear E
    go_enter Tryd.func97, Tryd.ntmps97
    go_wp2_with (first | (go_at_call 105; refine (nan_int64 _ _).mono ?_; rintro e w' ⟨rfl, rfl⟩))
    go_ret
    exact ⟨rfl, rfl⟩
  · have E : cmpI x y = 1 := by unfold cmpI; rw [if_neg (by omega), if_pos h]
    rw [E]; clear E
    go_enter Tryd.func97, Tryd.ntmps97
    go_wp2_with (first | (go_at_call 105; refine (nan_int64 _ _).mono ?_; rintro e w' ⟨rfl, rfl⟩))
    go_ret
    exact ⟨rfl, rfl⟩
theorem cmp_str (x y : ByteArray) (w : World) : Calls Tryd.prog 98 #[.string x, .string y] w fun e w' => e = .returned (.int .i64 (cmpL x.toList y.toList)) ∧ w = w' := by
  by_cases h : Op.bytesLess x.toList y.toList = true
  · have E : cmpL x.toList y.toList = -1 := by unfold cmpL; rw [if_pos h]
    rw [E]; clear E
    go_enter Tryd.func98, Tryd.ntmps98
    go_wp2_with (first | (go_at_call 106; refine (nan_str _ _).mono ?_; rintro e w' ⟨rfl, rfl⟩))
    go_ret
    exact ⟨rfl, rfl⟩
  · replace h : Op.bytesLess x.toList y.toList = false := by simpa using h
    cases h2 : (x.toList == y.toList)
    · have E : cmpL x.toList y.toList = 1 := by unfold cmpL; rw [h, h2]; rfl
      rw [E]; clear E
      go_enter Tryd.func98, Tryd.ntmps98
      go_wp2_with (first | (go_at_call 106; refine (nan_str _ _).mono ?_; rintro e w' ⟨rfl, rfl⟩))
      go_ret
      exact ⟨rfl, rfl⟩
    · have E : cmpL x.toList y.toList = 0 := by unfold cmpL; rw [h, h2]; rfl
      rw [E]; clear E
      go_enter Tryd.func98, Tryd.ntmps98
      go_wp2_with (first | (go_at_call 106; refine (nan_str _ _).mono ?_; rintro e w' ⟨rfl, rfl⟩))
      go_ret
      exact ⟨rfl, rfl⟩

theorem firstNz_zeros : ∀ (xs : List Int) (k : Nat), (∀ j, j < k → xs.getD j 0 = 0) → firstNz xs = firstNz (xs.drop k)
  | xs, 0, _ => rfl
  | [], k + 1, _ => by simp
  | x :: r, k + 1, h => by
    have h0 : x = 0 := by simpa using h 0 (by omega)
    rw [firstNz, if_pos h0, List.drop_succ_cons]
    exact firstNz_zeros r k fun j hj => by simpa using h (j + 1) (by omega)
theorem firstNz_at (xs : List Int) (k : Nat) (hk : k < xs.length) (h : ∀ j, j < k → xs.getD j 0 = 0) (hx : xs.getD k 0 ≠ 0) : firstNz xs = xs.getD k 0 := by
  rw [firstNz_zeros xs k h, List.drop_eq_getElem_cons hk, firstNz]
  have : xs.getD k 0 = xs[k] := by simp [hk]
  rw [this] at hx ⊢
  rw [if_neg hx]
theorem firstNz_none (xs : List Int) (k : Nat) (hk : xs.length ≤ k) (h : ∀ j, j < k → xs.getD j 0 = 0) : firstNz xs = 0 := by
  rw [firstNz_zeros xs k h, List.drop_eq_nil_of_le hk, firstNz]

/-- cmp.Or over a list of ints that lies in a block: the first that is not 0. -/
theorem or_int (g off n cap : Nat) (xs : List Int) (w : World) (hn : xs.length = n) (hm : n ≤ 1000)
    (hc : ∀ k, k < n → w.cell? ⟨g, off + k, none⟩ = some (.int .i64 (xs.getD k 0))) :
    Calls Tryd.prog 70 #[.slice (some ⟨g, off, none⟩) n cap] w fun e w' => e = .returned (.int .i64 (firstNz xs)) ∧ w = w' := by
  go_enter Tryd.func70, Tryd.ntmps70
  go_wp2
  go_loop [8] (fun i => ∃ k : Nat, k ≤ n ∧ i = .int .i64 k ∧ Hid (∀ j, j < k → xs.getD j 0 = 0)) (fun i => n - (intOf i).toNat)
  case atStart => exact ⟨0, Nat.zero_le _, rfl, fun j hj => absurd hj (by omega)⟩
  case round =>
    obtain ⟨k, hk, rfl, hz⟩ := hrel
    by_cases hlt : k < n
    · have hcell := hc k hlt
      clear hc
      by_cases hx : xs.getD k 0 = 0
      · rw [hx] at hcell
        have HX := Lib.hid hx
        clear hx
        go_wp2
        go_round
        case rel => exact ⟨k + 1, by omega, by go_num, fun j hj => by rcases (show j < k ∨ j = k from by omega) with h | rfl; exact hz.out j h; exact HX.out⟩
        case measure => simp [intOf]; omega
      · have E := Lib.hid (firstNz_at xs k (by omega) hz.out hx)
        obtain ⟨x, hxx⟩ : ∃ x, x = xs.getD k 0 := ⟨_, rfl⟩
        rw [← hxx] at hcell E hx
        clear hxx hz
        go_wp2
        go_ret
        exact ⟨by rw [E.out]; rfl, rfl⟩
    · have E := Lib.hid (firstNz_none xs k (by omega) hz.out)
      clear hc hz
      go_wp2
      go_ret
      exact ⟨by rw [E.out]; rfl, rfl⟩
end Go.Proofs.YtjgigcnjgblekaaDoor

namespace Go.Proofs.YtjgigcnjgblekaaDoor
open Go.RowKit
attribute [local go_sem ↓] Go.wp_at_zero Go.wp_at_succ

/-- A constant as a value. -/
def Cst.val (c : Cst) : Value := .agg #[.int .i64 c.k, .int .i64 c.n, .string c.s]

theorem three_ints (w : World) (H : Nat) (hH : w.heap.size = H) (x1 x2 x3 : Int) (t : TypeId) (k : Nat) (hk : k < 3) :
    ((w.alloc (.cells #[.int .i64 x1, .int .i64 x2, .int .i64 x3] t)).drew).cell? ⟨H, 0 + k, none⟩ = some (.int .i64 ([x1, x2, x3].getD k 0)) := by
  subst hH
  rcases k with _ | _ | _ | k
  · simp
  · simp
  · simp
  · omega

set_option maxRecDepth 100000 in
theorem cmp_c (a b : Cst) (w : World) :
    Calls Tryd.prog 89 #[.agg #[.int .i64 a.k, .int .i64 a.n, .string a.s], .agg #[.int .i64 b.k, .int .i64 b.n, .string b.s]] w fun e w' => e = .returned (.int .i64 (cmpC a b)) ∧ Below w.heap.size w w' := by
  obtain ⟨ak, an, ax⟩ := a
  obtain ⟨bk, bn, bx⟩ := b
  unfold cmpC
  obtain ⟨x1, h1⟩ : ∃ x1, x1 = cmpI ak bk := ⟨_, rfl⟩
  obtain ⟨x2, h2⟩ : ∃ x2, x2 = cmpI an bn := ⟨_, rfl⟩
  obtain ⟨x3, h3⟩ : ∃ x3, x3 = cmpL ax.toList bx.toList := ⟨_, rfl⟩
  have c1 := fun W => cmp_int ak bk W
  have c2 := fun W => cmp_int64 an bn W
  have c3 := fun W => cmp_str ax bx W
  show Calls _ _ _ _ fun e w' => e = .returned (.int .i64 (firstNz [cmpI ak bk, cmpI an bn, cmpL ax.toList bx.toList])) ∧ Below w.heap.size w w'
  rw [← h1, ← h2, ← h3]
  simp only [← h1, ← h2, ← h3] at c1 c2 c3
  have C1 := Lib.hid c1; have C2 := Lib.hid c2; have C3 := Lib.hid c3
  clear h1 h2 h3 c1 c2 c3
  go_enter Tryd.func89, Tryd.ntmps89
  go_wp2
  go_region_held3 (fun w' => w'.cell? ⟨w.heap.size, 0, none⟩ = some (.int .i64 ak) ∧ w'.cell? ⟨w.heap.size, 1, none⟩ = some (.int .i64 an) ∧ w'.cell? ⟨w.heap.size, 2, none⟩ = some (.string ax) ∧
      w'.cell? ⟨w.heap.size + 1, 0, none⟩ = some (.int .i64 bk) ∧ w'.cell? ⟨w.heap.size + 1, 1, none⟩ = some (.int .i64 bn) ∧ w'.cell? ⟨w.heap.size + 1, 2, none⟩ = some (.string bx)) (go_keep)
    (first | (go_at_call 71; refine (C1.out _).mono ?_; rintro e w' ⟨rfl, rfl⟩) | (go_at_call 97; refine (C2.out _).mono ?_; rintro e w' ⟨rfl, rfl⟩) | (go_at_call 98; refine (C3.out _).mono ?_; rintro e w' ⟨rfl, rfl⟩) | (go_at_call 70; refine (or_int _ 0 3 _ [x1, x2, x3] _ rfl (by decide) ?_).mono ?_; exact three_ints _ _ (by simp) x1 x2 x3 _; rintro e w' ⟨rfl, rfl⟩))
  go_wp2
  go_ret
  refine ⟨rfl, ?_⟩
  repeat (first | exact Below.refl _ _ | refine Below.drew ?_ | refine Below.alloc ?_ (by first | (simp; done) | (simp; omega)) _)

theorem below_drewN {B : Nat} {a w : World} (h : Below B a w) (n : Nat) : Below B a (w.drewN n) := ⟨h.os, h.tape, h.output, h.size, h.block⟩

/-- The reference's Bytes: the two strings byte by byte. -/
theorem bytes_any (x y : ByteArray) (w : World) (hx : x.size ≤ maxLen) (_hy : y.size ≤ maxLen) :
    Calls Tryd.prog 99 #[.string x, .string y] w fun e w' => e = .returned (.int .i64 (cmpL x.toList y.toList)) ∧ Below w.heap.size w w' := by
  unfold maxLen at hx _hy
  go_enter Tryd.func99, Tryd.ntmps99
  go_wp2
  go_loopw [5] (fun i wr => ∃ k : Nat, k ≤ x.size ∧ k ≤ y.size ∧ i = .int .i64 k ∧ Hid (x.toList.take k = y.toList.take k) ∧ Below w.heap.size w wr) (fun i _ => x.size - (intOf i).toNat)
  case atStart => exact ⟨0, Nat.zero_le _, Nat.zero_le _, rfl, rfl, Below.refl _ _⟩
  case round =>
    obtain ⟨k, hk, hk2, rfl, hz, hb⟩ := hrel
    by_cases h1 : k < x.size
    · by_cases h2 : k < y.size
      · rcases Nat.lt_trichotomy x[k].toNat y[k].toNat with h | h | h
        · have E := Lib.hid (cmpS_at_lt hz.out h1 h2 h)
          clear hz
          go_wp2
          go_quiet (fail)
          go_wp2
          go_ret
          exact ⟨by rw [E.out]; rfl, below_drewN hb _⟩
        · have E := Lib.hid (takeS_at_eq hz.out h1 h2 h)
          have hlt : ¬ x[k].toNat < y[k].toNat := by omega
          have hgt : ¬ y[k].toNat < x[k].toNat := by omega
          clear h hz
          go_wp2
          go_quiet (fail)
          go_wp2
          go_quiet (fail)
          go_wp2
          go_roundw
          case rel => exact ⟨k + 1, by omega, by omega, by go_num, E, below_drewN hb _⟩
          case measure => simp [intOf]; omega
        · have E := Lib.hid (cmpS_at_gt hz.out h1 h2 h)
          clear hz
          have hlt : ¬ x[k].toNat < y[k].toNat := by omega
          go_wp2
          go_quiet (fail)
          go_wp2
          go_quiet (fail)
          go_wp2
          go_ret
          exact ⟨by rw [E.out]; rfl, below_drewN (below_drewN hb _) _⟩
      · have E := Lib.hid (cmpS_end hz.out (.inr (by omega)) hk hk2)
        clear hz
        rcases Nat.lt_trichotomy x.size y.size with h | h | h
        · omega
        · have h3 : ¬ x.size < y.size := by omega
          have h4 : ¬ y.size < x.size := by omega
          clear h
          go_wp2
          go_ret
          exact ⟨by rw [E.out, if_neg (by omega), if_neg (by omega)]; rfl, hb⟩
        · have h3 : ¬ x.size < y.size := by omega
          go_wp2
          go_ret
          exact ⟨by rw [E.out, if_neg (by omega), if_pos (by omega)]; rfl, hb⟩
    · have E := Lib.hid (cmpS_end hz.out (.inl (by omega)) hk hk2)
      clear hz
      rcases Nat.lt_trichotomy x.size y.size with h | h | h
      · go_wp2
        go_ret
        exact ⟨by rw [E.out, if_pos (by omega)]; rfl, hb⟩
      · have h3 : ¬ x.size < y.size := by omega
        have h4 : ¬ y.size < x.size := by omega
        clear h
        go_wp2
        go_ret
        exact ⟨by rw [E.out, if_neg (by omega), if_neg (by omega)]; rfl, hb⟩
      · omega

/-- The reference's Compare. -/
theorem rcmp_c (a b : Cst) (w : World) (ha : a.s.size ≤ maxLen) (hb : b.s.size ≤ maxLen) :
    Calls Tryd.prog 90 #[.agg #[.int .i64 a.k, .int .i64 a.n, .string a.s], .agg #[.int .i64 b.k, .int .i64 b.n, .string b.s]] w fun e w' => e = .returned (.int .i64 (cmpC a b)) ∧ Below w.heap.size w w' := by
  obtain ⟨ak, an, ax⟩ := a
  obtain ⟨bk, bn, bx⟩ := b
  by_cases h1 : ak = bk
  · by_cases h2 : an = bn
    · subst h1 h2
      have hfin : cmpC ⟨ak, an, ax⟩ ⟨ak, an, bx⟩ = cmpL ax.toList bx.toList := by rw [cmpC_eq]; simp [cmpI_self]
      have E := Lib.hid hfin
      clear hfin
      go_enter Tryd.func90, Tryd.ntmps90
      go_wp2_with (go_at_call 99; refine (bytes_any _ _ _ ha hb).mono ?_; rintro e w' ⟨rfl, hbel⟩)
      go_ret
      exact ⟨by rw [E.out]; rfl, (((Below.refl _ _).alloc (Nat.le_refl _) _).alloc (by simp) _).trans (hbel.mono (by simp; omega))⟩
    · have hfin : cmpC ⟨ak, an, ax⟩ ⟨bk, bn, bx⟩ = if an < bn then -1 else 1 := by
        rw [cmpC_eq]
        subst h1
        rw [if_pos (cmpI_self ak), if_neg (fun h => h2 (cmpI_zero.1 h))]
        exact cmpI_ne h2
      have E := Lib.hid hfin
      subst h1
      clear hfin ha hb
      have hne : ((an : Int) != bn) = true := by simp [h2]
      by_cases h3 : an < bn
      all_goals
        go_enter Tryd.func90, Tryd.ntmps90
        go_wp2
        go_ret
        exact ⟨by rw [E.out]; simp [h3], ((Below.refl _ _).alloc (Nat.le_refl _) _).alloc (by simp) _⟩
  · have hfin : cmpC ⟨ak, an, ax⟩ ⟨bk, bn, bx⟩ = if ak < bk then -1 else 1 := by
      rw [cmpC_eq, if_neg (fun h => h1 (cmpI_zero.1 h))]
      exact cmpI_ne h1
    have E := Lib.hid hfin
    clear hfin ha hb
    have hne : ((ak : Int) != bk) = true := by simp [h1]
    by_cases h3 : ak < bk
    all_goals
      go_enter Tryd.func90, Tryd.ntmps90
      go_wp2
      go_ret
      exact ⟨by rw [E.out]; simp [h3], ((Below.refl _ _).alloc (Nat.le_refl _) _).alloc (by simp) _⟩
end Go.Proofs.YtjgigcnjgblekaaDoor
