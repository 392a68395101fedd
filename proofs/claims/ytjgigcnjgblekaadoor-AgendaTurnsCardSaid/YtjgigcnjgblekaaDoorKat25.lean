/- Contracts of agenda.Index and of the reference's Index: both answer the pick modulo n (0 where n is none). Fire: an act fires. The walk. AgendaTurns' book: its cells; eligible. The walks. -/
import Derived.Test.YtjgigcnjgblekaaDoorKat20
import Derived.Test.YtjgigcnjgblekaaDoorKat24
import Derived.Deep.Cut
import Derived.Deep.MidRow
import Derived.Lib.Hide
import Derived.OpenShut
import Derived.Test.YtjgigcnjgblekaaDoorChecked
import Derived.WalkKit
import Derived.WalkLawsBesides
namespace Go.Proofs.YtjgigcnjgblekaaDoor
open Go.RowKit Go.OpenShut

/-- The pick modulo n, from 0 to n-1; 0 where n is none. -/
def idxOf (a b : Int) : Int := if b ≤ 0 then 0 else a % b

theorem tmod_neg (a b : Int) (hb : 0 < b) (h : a.tmod b < 0) : a.tmod b + b = a % b := by
  have h1 := Int.tmod_eq_emod (a := a) (b := b)
  split at h1
  · have := Int.emod_nonneg a (b := b) (by omega)
    omega
  · have : (b.natAbs : Int) = b := by omega
    omega
theorem tmod_pos (a b : Int) (hb : 0 < b) (h : 0 ≤ a.tmod b) : a.tmod b = a % b := by
  have h1 := Int.tmod_eq_emod (a := a) (b := b)
  split at h1
  · simpa using h1
  · have := Int.emod_lt_of_pos a hb
    omega
theorem tmod_bds (a b : Int) (hb : 0 < b) : -b < a.tmod b ∧ a.tmod b < b := by
  have h1 := Int.lt_tmod_of_pos a hb
  have h2 := Int.tmod_lt_of_pos a hb
  exact ⟨h1, h2⟩

theorem idx_none (a b : Int) (w : World) (hb : b ≤ 0) :
    Calls Tryd.prog 52 #[.int .i64 a, .int .i64 b] w fun e w' => e = .returned (.int .i64 0) ∧ w = w' := by
  go_enter Tryd.func52, Tryd.ntmps52
  go_wp2
  go_ret
  exact ⟨rfl, rfl⟩

theorem idx_pos (a b : Int) (w : World) (hb : 0 < b) (hb2 : b ≤ 9223372036854775807) (ha1 : -9223372036854775808 ≤ a) (ha2 : a ≤ 9223372036854775807) :
    Calls Tryd.prog 52 #[.int .i64 a, .int .i64 b] w fun e w' => e = .returned (.int .i64 (a % b)) ∧ w = w' := by
  by_cases ha : 0 ≤ a
  · have h1 : 0 ≤ a % b := Int.emod_nonneg _ (by omega)
    have h2 : a % b < b := Int.emod_lt_of_pos _ hb
    go_enter Tryd.func52, Tryd.ntmps52
    go_wp2
    go_ret
    exact ⟨rfl, rfl⟩
  · have ⟨h1, h2⟩ := tmod_bds a b hb
    by_cases hn : a.tmod b < 0
    · have E := Lib.hid (tmod_neg a b hb hn)
      go_enter Tryd.func52, Tryd.ntmps52
      go_wp2
      go_ret
      exact ⟨by rw [E.out]; rfl, rfl⟩
    · have E := Lib.hid (tmod_pos a b hb (by omega))
      go_enter Tryd.func52, Tryd.ntmps52
      go_wp2
      go_ret
      exact ⟨by rw [E.out]; rfl, rfl⟩
theorem idx_any (a b : Int) (w : World) (ha : (Lit.int .i64 a).wf = true) (hb : (Lit.int .i64 b).wf = true) :
    Calls Tryd.prog 52 #[.int .i64 a, .int .i64 b] w fun e w' => e = .returned (.int .i64 (idxOf a b)) ∧ w = w' := by
  have := bounds_i64 ha
  have := bounds_i64 hb
  unfold idxOf
  split
  · exact idx_none a b w ‹_›
  · exact idx_pos a b w (by omega) (by omega) (by omega) (by omega)

theorem ridx_none (a b : Int) (w : World) (hb : b ≤ 0) :
    Calls Tryd.prog 62 #[.int .i64 a, .int .i64 b] w fun e w' => e = .returned (.int .i64 0) ∧ w = w' := by
  go_enter Tryd.func62, Tryd.ntmps62
  go_wp2
  go_ret
  exact ⟨rfl, rfl⟩
theorem tdiv_mul (a b : Int) : a - a.tdiv b * b = a.tmod b := by
  have := Int.tmod_add_mul_tdiv a b
  rw [Int.mul_comm] at this
  omega
theorem wrap_id (n : Int) (h1 : -9223372036854775808 ≤ n) (h2 : n ≤ 9223372036854775807) : wrap64 n = n := IntWalk.wrap64_in n ⟨h1, h2⟩
theorem tdiv_bds (a b : Int) (hb : 0 < b) (ha1 : -9223372036854775808 ≤ a) (ha2 : a ≤ 9223372036854775807) :
    (-9223372036854775808 ≤ a.tdiv b ∧ a.tdiv b ≤ 9223372036854775807) ∧ -9223372036854775808 ≤ a.tdiv b * b ∧ a.tdiv b * b ≤ 9223372036854775807 := by
  have h := tdiv_mul a b
  have h1 := Int.natAbs_tdiv_le_natAbs a b
  by_cases h0 : 0 ≤ a
  · have h2 := Int.tmod_nonneg (b := b) (a := a) h0
    have h3 : 0 ≤ a.tdiv b := Int.tdiv_nonneg h0 (by omega)
    have h4 : 0 ≤ a.tdiv b * b := Int.mul_nonneg h3 (by omega)
    omega
  · have h2 : (-a).tmod b = - a.tmod b := Int.neg_tmod ..
    have h2' := Int.tmod_nonneg (b := b) (a := -a) (by omega)
    have h3 : 0 ≤ (-a).tdiv b := Int.tdiv_nonneg (by omega) (by omega)
    rw [Int.neg_tdiv] at h3
    have h4 : 0 ≤ (- a.tdiv b) * b := Int.mul_nonneg h3 (by omega)
    rw [Int.neg_mul] at h4
    omega
theorem ridx_pos (a b : Int) (w : World) (hb : 0 < b) (hb2 : b ≤ 9223372036854775807) (ha1 : -9223372036854775808 ≤ a) (ha2 : a ≤ 9223372036854775807) :
    Calls Tryd.prog 62 #[.int .i64 a, .int .i64 b] w fun e w' => e = .returned (.int .i64 (a % b)) ∧ w = w' := by
  have ⟨h1, h2⟩ := tmod_bds a b hb
  have ⟨⟨h3, h4⟩, h5, h6⟩ := tdiv_bds a b hb ha1 ha2
  have E := Lib.hid (tdiv_mul a b)
  have h7 : -b < a - a.tdiv b * b := by rw [E.out]; exact h1
  have h8 : a - a.tdiv b * b < b := by rw [E.out]; exact h2
  by_cases hn : a.tmod b < 0
  · have E2 := Lib.hid (tmod_neg a b hb hn)
    have hn' : a - a.tdiv b * b < 0 := by rw [E.out]; exact hn
    clear h1 h2 hn
    go_enter Tryd.func62, Tryd.ntmps62
    go_wp2
    go_ret
    exact ⟨by rw [← E2.out, ← E.out]; rfl, rfl⟩
  · have E2 := Lib.hid (tmod_pos a b hb (by omega))
    have hn' : ¬ a - a.tdiv b * b < 0 := by rw [E.out]; exact hn
    clear h1 h2 hn
    go_enter Tryd.func62, Tryd.ntmps62
    go_wp2
    go_ret
    exact ⟨by rw [← E2.out, ← E.out]; rfl, rfl⟩
theorem ridx_any (a b : Int) (w : World) (ha : (Lit.int .i64 a).wf = true) (hb : (Lit.int .i64 b).wf = true) :
    Calls Tryd.prog 62 #[.int .i64 a, .int .i64 b] w fun e w' => e = .returned (.int .i64 (idxOf a b)) ∧ w = w' := by
  have := bounds_i64 ha
  have := bounds_i64 hb
  unfold idxOf
  split
  · exact ridx_none a b w ‹_›
  · exact ridx_pos a b w (by omega) (by omega) (by omega) (by omega)
end Go.Proofs.YtjgigcnjgblekaaDoor

namespace Go.Proofs.YtjgigcnjgblekaaDoor
open Go Go.RowKit Go.Maps Classical

/-- What Fire leaves. -/
def FirRes (M : List Nat) (p mc mf N : Nat) (R : Int × Agd) (w : World) (e : Ending) (w' : World) : Prop := e = .returned (.int .i64 R.1) ∧ AgAt M w' p mc mf R.2 N ∧ Turns [mf] w w'
theorem fir_arg {g : Agd} {a : Ac} (h : ¬ ownA g a) : fireF g a = (2, g) := by unfold fireF; rw [if_pos h]
theorem fir_twice {g : Agd} {a : Ac} (h : ownA g a) (hd : a ∈ g.D) : fireF g a = (51, g) := by unfold fireF; rw [if_neg (by simpa using h), if_pos hd]
theorem fir_none {g : Agd} {a : Ac} (h : ownA g a) (hd : a ∉ g.D) (hc : a ∉ g.C) : fireF g a = (50, g) := by unfold fireF; rw [if_neg (by simpa using h), if_neg hd, if_pos hc]
theorem fir_state {g : Agd} {a : Ac} (h : ownA g a) (hd : a ∉ g.D) (hc : a ∈ g.C) (hl : strA g < lvl g.lv a) : fireF g a = (53, g) := by unfold fireF; rw [if_neg (by simpa using h), if_neg hd, if_neg (by simpa using hc), if_pos hl]
theorem fir_go {g : Agd} {a : Ac} (h : ownA g a) (hd : a ∉ g.D) (hc : a ∈ g.C) (hl : ¬ strA g < lvl g.lv a) : fireF g a = (0, { g with D := g.D ++ [a] }) := by unfold fireF; rw [if_neg (by simpa using h), if_neg hd, if_neg (by simpa using hc), if_neg hl]
theorem mark_keeps {M : List Nat} {w w' : World} {p mc mf N q : Nat} {g : Agd} {v r s : Value} (T : Turns [mf] w w') (h : AgAt M w p mc mf g N) (hq : q < w.heap.size) (hmq : mf < q)
    (hS : w.cell? ⟨p, 3, none⟩ = some v ∧ w.cell? ⟨q, 0, none⟩ = some r ∧ w.cell? ⟨q, 1, none⟩ = some s) : w'.cell? ⟨p, 3, none⟩ = some v ∧ w'.cell? ⟨q, 0, none⟩ = some r ∧ w'.cell? ⟨q, 1, none⟩ = some s :=
  ⟨(T.cell h.lt (fun hm => h.pM (by rw [List.mem_singleton.1 hm]; exact h.fM))).trans hS.1, (T.cell hq (fun hm => by rw [List.mem_singleton.1 hm] at hmq; omega)).trans hS.2.1, (T.cell hq (fun hm => by rw [List.mem_singleton.1 hm] at hmq; omega)).trans hS.2.2⟩
set_option maxRecDepth 100000 in
set_option maxHeartbeats 8000000 in
theorem fireW {F : Nat → Prop} {M : List Nat} {p mc mf N : Nat} {G : Agd} (a : Ac) (sv : Value) (w : World) (h : AgAt M w p mc mf G N) (hs : RSl F w 1 EInt sv a.sub) (hok : AcOk a) (hM : ∀ x ∈ M, x < w.heap.size) (hN : N < maxLen) (ht : Tab w) :
    Calls Tryd.prog 31 #[.pointer (some ⟨p, 0, none⟩), .agg #[.int .i64 a.rule, sv]] w (FirRes M p mc mf (N + 1) (fireF G a) w) := by
  obtain ⟨A, c, rfl⟩ := hs.form
  obtain ⟨w0, hw0⟩ : ∃ w0, w0 = w.alloc (.cells #[.int .i64 a.rule, .slice A a.sub.length c] 30) := ⟨_, rfl⟩
  have hx0 : Below (w.heap.size + 1) (w.alloc (.cells #[.int .i64 a.rule, .slice A a.sub.length c] 30)) w0 := by rw [hw0]; exact Below.refl _ _
  have hb0 := box_belowD hx0
  have hs0 : w0.heap.size = w.heap.size + 1 := by rw [hw0]; simp
  have x0 := box_cellD hx0 0 rfl
  have x1 := box_cellD hx0 1 rfl
  have BX := Lib.hid (fun (W : World) (hW : Below w0.heap.size w0 W) => (show W.cell? ⟨w.heap.size, 0, none⟩ = some (.int .i64 a.rule) ∧ W.cell? ⟨w.heap.size, 1, none⟩ = some (.slice A a.sub.length c) from
    ⟨(hW.cell (p := ⟨w.heap.size, 0, none⟩) (by show w.heap.size < w0.heap.size; omega)).trans x0, (hW.cell (p := ⟨w.heap.size, 1, none⟩) (by show w.heap.size < w0.heap.size; omega)).trans x1⟩))
  have HS0 := Lib.hid (show w.heap.size < w0.heap.size by omega)
  have OW := Lib.hid (ownW a (.slice A a.sub.length c) w0 (h.below hb0) (hs.keep (Kp.of_below hb0)) hok.rule)
  have KW := Lib.hid (fun (W : World) (hW : Below w0.heap.size w0 W) => keyW a (.slice A a.sub.length c) W ((hs.keep (Kp.of_below hb0)).keep (Kp.of_below hW)) hok ((ht.below hb0).below hW))
  have CW := Lib.hid (fun (W : World) (hW : Below w0.heap.size w0 W) => copiedW a (.slice A a.sub.length c) W ((hs.keep (Kp.of_below hb0)).keep (Kp.of_below hW)) (by have := hok.len; omega))
  have HA := Lib.hid (fun (W : World) (hW : Below w0.heap.size w0 W) => (h.below hb0).below hW)
  have HT := Lib.hid (fun (W : World) (hW : Below w0.heap.size w0 W) => (show Turns [mf] w W from Turns.of_below (hb0.trans (hW.mono hb0.size))))
  have HOK := Lib.hid hok
  have HM := Lib.hid hM
  have E0 := Lib.hid (Below.refl w0.heap.size w0)
  clear h hs hok hM ht hx0 hb0 hs0
  go_enter Tryd.func31, Tryd.ntmps31
  go_upto_region 1 with fail
  rw [← hw0]
  clear hw0
  go_wp2_with fail
  refine OW.out.mono ?_
  rintro e w1 ⟨rfl, hb1⟩
  have B1 := Lib.hid (E0.out.trans hb1)
  clear hb1 OW x0 x1
  obtain ⟨x0, x1⟩ := BX.out w1 B1.out
  by_cases ho : ownA G a
  rotate_left
  · have HR := Lib.hid (fir_arg ho)
    have hd : decide (ownA G a) = false := decide_eq_false ho
    rw [hd]
    clear hd
    go_wp2
    go_ret
    rw [HR.out]
    exact ⟨rfl, (HA.out _ B1.out).mono (Nat.le_succ _), HT.out _ B1.out⟩
  have hd : decide (ownA G a) = true := decide_eq_true ho
  rw [hd]
  clear hd
  have HO := Lib.hid ho
  clear ho
  have C := Lib.hid (KW.out w1 B1.out)
  go_wp2_with fail
  refine C.out.mono ?_
  rintro e w2 ⟨rfl, hb2⟩
  have B2 := Lib.hid (B1.out.trans (hb2.mono B1.out.size))
  clear hb2 C x0 x1
  obtain ⟨x0, x1⟩ := BX.out w2 B2.out
  obtain ⟨u0, uA, u1, u2, hlook⟩ := lookAct (HA.out _ B2.out) HOK.out
  obtain ⟨A3, c3, A4, c4, q0, q1, q2, q3, L3, L4⟩ := (HA.out _ B2.out).cells
  obtain ⟨w3, hw3⟩ : ∃ w3, w3 = w2.alloc (.cells #[.int .i64 u0, .slice uA u1 u2] 30) := ⟨_, rfl⟩
  have B3 := Lib.hid (show Below w0.heap.size w0 w3 by rw [hw3]; exact B2.out.alloc B2.out.size _)
  clear q0 q1 q2 L3 L4
  go_upto_region 7 with fail
  rw [← hw3]
  clear hw3 x0 x1 q3 hlook
  obtain ⟨x0, x1⟩ := BX.out w3 B3.out
  by_cases hin : a ∈ G.D
  · have hd : decide (a ∈ G.D) = true := decide_eq_true hin
    rw [hd]
    clear hd
    have HR := Lib.hid (fir_twice HO.out hin)
    go_wp2
    go_ret
    rw [HR.out]
    exact ⟨rfl, (HA.out _ B3.out).mono (Nat.le_succ _), HT.out _ B3.out⟩
  have hd : decide (a ∈ G.D) = false := decide_eq_false hin
  rw [hd]
  have HD := Lib.hid hin
  clear hd hin
  obtain ⟨v0, vA, v1, v2, hlook⟩ := lookCon (HA.out _ B3.out) HOK.out
  obtain ⟨A3, c3, A4, c4, q0, q1, q2, q3, L3, L4⟩ := (HA.out _ B3.out).cells
  obtain ⟨w4, hw4⟩ : ∃ w4, w4 = w3.alloc (.cells #[.int .i64 v0, .slice vA v1 v2] 30) := ⟨_, rfl⟩
  have B4 := Lib.hid (show Below w0.heap.size w0 w4 by rw [hw4]; exact B3.out.alloc B3.out.size _)
  clear q0 q1 q3 L3 L4
  go_upto_region 10 with fail
  rw [← hw4]
  clear hw4 x0 x1 q2 hlook
  obtain ⟨x0, x1⟩ := BX.out w4 B4.out
  by_cases hin : a ∈ G.C
  rotate_left
  · have hd : decide (a ∈ G.C) = false := decide_eq_false hin
    rw [hd]
    clear hd
    have HR := Lib.hid (fir_none HO.out HD.out hin)
    go_wp2
    go_ret
    rw [HR.out]
    exact ⟨rfl, (HA.out _ B4.out).mono (Nat.le_succ _), HT.out _ B4.out⟩
  have hd : decide (a ∈ G.C) = true := decide_eq_true hin
  rw [hd]
  have HC := Lib.hid hin
  clear hd hin
  obtain ⟨A3, c3, A4, c4, q0, q1, q2, q3, L3, L4⟩ := (HA.out _ B4.out).cells
  obtain ⟨lb, lo, hAe, _, hlb, ds, ⟨rfl, lok⟩, hd⟩ := L3.at (lvl_at HO.out)
  subst hAe
  have d0 := hd 0 _ rfl
  simp only [Nat.add_zero, Nat.mul_one] at d0
  obtain ⟨lv, hlv⟩ : ∃ x, lvl G.lv a = x := ⟨_, rfl⟩
  obtain ⟨s, hs⟩ : ∃ s, strA G = s := ⟨_, rfl⟩
  rw [hlv] at d0
  have i1 := HO.out.1.1
  have i2 := HO.out.1.2
  have hpl := (HA.out _ B4.out).lt
  have D4 : Below w4.heap.size w4 w4.drew := (Below.refl _ _).drew
  have SW := Lib.hid (fun (W : World) (hW : Below w4.heap.size w4 W) => hs ▸ stratumW W ((HA.out _ B4.out).below hW))
  have SCc := Lib.hid (fun (W : World) (hW : Below w4.heap.size w4 W) => (show W.cell? ⟨p, 0, none⟩ = some (.slice (some ⟨lb, lo, none⟩) G.lv.length c3) ∧ W.cell? ⟨w.heap.size, 0, none⟩ = some (.int .i64 a.rule) ∧ W.cell? ⟨lb, lo + a.rule.toNat, none⟩ = some (.int .i64 lv) from
    ⟨(hW.cell (p := ⟨p, 0, none⟩) hpl).trans q0, (hW.cell (p := ⟨w.heap.size, 0, none⟩) (by have := B4.out.size; have := HS0.out; show w.heap.size < w4.heap.size; omega)).trans x0, (hW.cell (p := ⟨lb, lo + a.rule.toNat, none⟩) hlb).trans d0⟩))
  have HLV := Lib.hid hlv
  have HSS := Lib.hid hs
  clear hlv hs hd lok q1 q2 L3 L4 hlb
  go_upto_region 12 with fail
  go_cut [49] from 39 to 50 (fun t wx => t = .bool (decide (s < lv)) ∧ Below w4.heap.size w4 wx)
  case first =>
    clear x0 x1 q0 q3 d0
    go_region_held3 (fun W : World => W.cell? ⟨p, 0, none⟩ = some (.slice (some ⟨lb, lo, none⟩) G.lv.length c3) ∧ W.cell? ⟨w.heap.size, 0, none⟩ = some (.int .i64 a.rule) ∧ W.cell? ⟨lb, lo + a.rule.toNat, none⟩ = some (.int .i64 lv))
      (first | with_reducible exact SCc.out _ D4 | with_reducible exact SCc.out _ G4 | go_keep)
      (first | (go_at_call 12; refine (SW.out _ D4).mono ?_; rintro e w5 ⟨rfl, hb5⟩; have G4 := D4.trans (hb5.mono D4.size); clear hb5))
    all_goals
      go_wp2_with fail
      go_meet
      exact ⟨rfl, by first | exact G4 | exact D4⟩
  case rest =>
    obtain ⟨rfl, hbc⟩ := hcut
    have B5 := Lib.hid (B4.out.trans (hbc.mono B4.out.size))
    clear hbc SCc D4 SW x0 x1 q0 q3 d0
    obtain ⟨x0, x1⟩ := BX.out wc B5.out
    by_cases hl : s < lv
    · have hd : decide (s < lv) = true := decide_eq_true hl
      have HR := Lib.hid (fir_state HO.out HD.out HC.out (show strA G < lvl G.lv a by rw [HSS.out, HLV.out]; exact hl))
      rw [hd]
      clear hd
      go_wp2
      go_ret
      rw [HR.out]
      exact ⟨rfl, (HA.out _ B5.out).mono (Nat.le_succ _), HT.out _ B5.out⟩
    · have hd : decide (s < lv) = false := decide_eq_false hl
      have HR := Lib.hid (fir_go HO.out HD.out HC.out (show ¬ strA G < lvl G.lv a by rw [HSS.out, HLV.out]; exact hl))
      rw [hd]
      clear hd hl
      obtain ⟨A3, c3, A4, c4, q0, q1, q2, q3, L3, L4⟩ := (HA.out _ B5.out).cells
      go_upto_region 14 with fail
      have D0 : Below w0.heap.size w0 wc.drew := B5.out.drew
      have hpl := (HA.out _ B5.out).lt
      have SCc := Lib.hid (fun (W : World) (hW : Below wc.heap.size wc W) => (show W.cell? ⟨p, 3, none⟩ = some (.map (some mf)) ∧ W.cell? ⟨w.heap.size, 0, none⟩ = some (.int .i64 a.rule) ∧ W.cell? ⟨w.heap.size, 1, none⟩ = some (.slice A a.sub.length c) from
        ⟨(hW.cell (p := ⟨p, 3, none⟩) hpl).trans q3, (hW.cell (p := ⟨w.heap.size, 0, none⟩) (by have := B5.out.size; have := HS0.out; show w.heap.size < wc.heap.size; omega)).trans x0, (hW.cell (p := ⟨w.heap.size, 1, none⟩) (by have := B5.out.size; have := HS0.out; show w.heap.size < wc.heap.size; omega)).trans x1⟩))
      have D3 : Below wc.heap.size wc wc.drew := (Below.refl _ _).drew
      clear x0 x1 q0 q1 q2 q3 L3 L4
      go_region_held3 (fun W : World => W.cell? ⟨p, 3, none⟩ = some (.map (some mf)) ∧ W.cell? ⟨w.heap.size, 0, none⟩ = some (.int .i64 a.rule) ∧ W.cell? ⟨w.heap.size, 1, none⟩ = some (.slice A a.sub.length c))
        (first | with_reducible exact SCc.out _ D3 | with_reducible exact SCc.out _ G3 | with_reducible exact S5 | go_keep)
        (first
          | (go_at_call 55; refine (CW.out _ D0).mono ?_; rintro e w4 ⟨sv4, rfl, ho4, hb4⟩; obtain ⟨s4, c4', hf4⟩ := ho4.form; subst hf4; have G3 := D3.trans (hb4.mono D3.size); have G4 := D0.trans (hb4.mono D0.size); obtain ⟨w5, hupd, hA5, hT5⟩ := (HA.out w4 G4).marked HOK.out HO.out HD.out hN (ho4.rsl (fun b hb hm => by have := (ownBlock_cells ho4 hb).1; have := HM.out b hm; have := D0.size; have := HS0.out; omega) HOK.out.sub); have S5 := mark_keeps hT5 (HA.out w4 G4) (by have := G4.size; have := HS0.out; omega) (HM.out mf (HA.out w4 G4).fM) (SCc.out _ G3); have HA5 := Lib.hid (And.intro hA5 hT5); have HG4 := Lib.hid G4; clear ho4 hb4 hA5 hT5))
      all_goals
        clear S5 G3 G4
        go_wp2
        go_ret
        rw [HR.out]
        exact ⟨rfl, HA5.out.1, (HT.out _ HG4.out).trans HA5.out.2 (fun x hx => .inl hx)⟩
end Go.Proofs.YtjgigcnjgblekaaDoor

namespace Go.Proofs.YtjgigcnjgblekaaDoor
open Go Go.RowKit Go.Maps Classical

/-- The book in its block: what is in, what has fired, the rules of the acts that are in. -/
structure BkAt (w : World) (q : Nat) (I Fd : Nat → Bool) : Prop where
  lt : q < w.heap.size
  cI : ∀ k, k < 21 → w.cell? ⟨q, k, none⟩ = some (.bool (I k))
  cF : ∀ k, k < 21 → w.cell? ⟨q, 21 + k, none⟩ = some (.bool (Fd k))
  cR : ∀ k, k < 21 → I k = true → w.cell? ⟨q, 42 + k * 2, none⟩ = some (.int .i64 (actN k).rule)
  ok : ∀ o, o < 84 → (w.cell? ⟨q, o, none⟩).isSome = true ∧ w.frozen? ⟨q, o, none⟩ = false
section
variable {w w' : World} {q : Nat} {I Fd : Nat → Bool}
theorem BkAt.turns {S : List Nat} (h : BkAt w q I Fd) (T : Turns S w w') (hq : q ∉ S) : BkAt w' q I Fd := by
  have hb := T.block q h.lt hq
  have hc : ∀ o, w'.cell? ⟨q, o, none⟩ = w.cell? ⟨q, o, none⟩ := fun o => T.cell h.lt hq
  refine ⟨Nat.lt_of_lt_of_le h.lt T.size, fun k hk => (hc k).trans (h.cI k hk), fun k hk => (hc _).trans (h.cF k hk), fun k hk hI => (hc _).trans (h.cR k hk hI), fun o ho => ⟨by rw [hc]; exact (h.ok o ho).1, ?_⟩⟩
  have := (h.ok o ho).2
  unfold World.frozen? at this ⊢
  rw [hb]
  exact this
theorem BkAt.below (h : BkAt w q I Fd) (hb : Below w.heap.size w w') : BkAt w' q I Fd := h.turns (S := []) (Turns.of_below hb) (by simp)
theorem BkAt.congr {I' Fd' : Nat → Bool} (h : BkAt w q I Fd) (hI : ∀ k, k < 21 → I k = I' k) (hF : ∀ k, k < 21 → Fd k = Fd' k) : BkAt w q I' Fd' :=
  ⟨h.lt, fun k hk => hI k hk ▸ h.cI k hk, fun k hk => hF k hk ▸ h.cF k hk, fun k hk h2 => h.cR k hk (by rw [hI k hk]; exact h2), h.ok⟩
/-- A cell is written. -/
theorem BkAt.stored (h : BkAt w q I Fd) {o : Nat} (ho : o < 84) (v : Value) :
    (∀ o', (w.setCell ⟨q, o, none⟩ v).cell? ⟨q, o', none⟩ = if o' = o then some v else w.cell? ⟨q, o', none⟩) ∧ (∀ o', (w.setCell ⟨q, o, none⟩ v).frozen? ⟨q, o', none⟩ = w.frozen? ⟨q, o', none⟩) := by
  refine ⟨fun o' => ?_, fun o' => by simp⟩
  obtain ⟨u, hu⟩ := Option.isSome_iff_exists.1 (h.ok o ho).1
  by_cases e : o' = o
  · subst e
    rw [if_pos rfl, World.cell?_setCell_same _ _ _ hu]
  · rw [if_neg e, World.cell?_setCell_other _ _ _ _ (fun x => e (by simpa using x.symm))]
theorem BkAt.setI (h : BkAt w q I Fd) {n : Nat} (hn : n < 21) (b : Bool) (hr : b = true → w.cell? ⟨q, 42 + n * 2, none⟩ = some (.int .i64 (actN n).rule)) : BkAt (w.setCell ⟨q, n, none⟩ (.bool b)) q (fun k => if k = n then b else I k) Fd := by
  obtain ⟨hc, hf⟩ := h.stored (o := n) (by omega) (.bool b)
  refine ⟨by simpa using h.lt, fun k hk => ?_, fun k hk => ?_, fun k hk hI => ?_, fun o ho => ⟨?_, by rw [hf]; exact (h.ok o ho).2⟩⟩
  · rw [hc]
    by_cases e : k = n
    · rw [if_pos e, if_pos e]
    · rw [if_neg e, if_neg e]; exact h.cI k hk
  · rw [hc, if_neg (by omega)]; exact h.cF k hk
  · rw [hc, if_neg (by omega)]
    by_cases e : k = n
    · subst e
      rw [if_pos rfl] at hI
      exact hr hI
    · rw [if_neg e] at hI; exact h.cR k hk hI
  · rw [hc]
    split
    · rfl
    · exact (h.ok o ho).1
theorem BkAt.setF (h : BkAt w q I Fd) {n : Nat} (hn : n < 21) (b : Bool) : BkAt (w.setCell ⟨q, 21 + n, none⟩ (.bool b)) q I (fun k => if k = n then b else Fd k) := by
  obtain ⟨hc, hf⟩ := h.stored (o := 21 + n) (by omega) (.bool b)
  refine ⟨by simpa using h.lt, fun k hk => ?_, fun k hk => ?_, fun k hk hI => ?_, fun o ho => ⟨?_, by rw [hf]; exact (h.ok o ho).2⟩⟩
  · rw [hc, if_neg (by omega)]; exact h.cI k hk
  · rw [hc]
    by_cases e : k = n
    · rw [if_pos (by omega), if_pos e]
    · rw [if_neg (by omega), if_neg e]; exact h.cF k hk
  · rw [hc, if_neg (by omega)]; exact h.cR k hk hI
  · rw [hc]
    split
    · rfl
    · exact (h.ok o ho).1
/-- An act is laid at its number. -/
theorem BkAt.setA (h : BkAt w q I Fd) {n : Nat} (hn : n < 21) (sv : Value) :
    BkAt ((w.setCell ⟨q, 42 + n * 2, none⟩ (.int .i64 (actN n).rule)).setCell ⟨q, 42 + n * 2 + 1, none⟩ sv) q I Fd ∧ ((w.setCell ⟨q, 42 + n * 2, none⟩ (.int .i64 (actN n).rule)).setCell ⟨q, 42 + n * 2 + 1, none⟩ sv).cell? ⟨q, 42 + n * 2, none⟩ = some (.int .i64 (actN n).rule) := by
  obtain ⟨hc, hf⟩ := h.stored (o := 42 + n * 2) (by omega) (.int .i64 (actN n).rule)
  have h1 : BkAt (w.setCell ⟨q, 42 + n * 2, none⟩ (.int .i64 (actN n).rule)) q I Fd := by
    refine ⟨by simpa using h.lt, fun k hk => ?_, fun k hk => ?_, fun k hk hI => ?_, fun o ho => ⟨?_, by rw [hf]; exact (h.ok o ho).2⟩⟩
    · rw [hc, if_neg (by omega)]; exact h.cI k hk
    · rw [hc, if_neg (by omega)]; exact h.cF k hk
    · rw [hc]
      by_cases e : k = n
      · rw [if_pos (by omega), e]
      · rw [if_neg (by omega)]; exact h.cR k hk hI
    · rw [hc]
      split
      · rfl
      · exact (h.ok o ho).1
  obtain ⟨hc2, hf2⟩ := h1.stored (o := 42 + n * 2 + 1) (by omega) sv
  refine ⟨⟨by simpa using h.lt, fun k hk => ?_, fun k hk => ?_, fun k hk hI => ?_, fun o ho => ⟨?_, by rw [hf2]; exact (h1.ok o ho).2⟩⟩, ?_⟩
  · rw [hc2, if_neg (by omega)]; exact h1.cI k hk
  · rw [hc2, if_neg (by omega)]; exact h1.cF k hk
  · rw [hc2, if_neg (by omega)]; exact h1.cR k hk hI
  · rw [hc2]
    split
    · rfl
    · exact (h1.ok o ho).1
  · rw [hc2, if_neg (by omega), hc, if_pos rfl]
end
/-- A row of cells, k by k. -/
def bArr (I : Nat → Bool) : List Value := (List.range 21).map fun k => Value.bool (I k)
theorem bArr_at {I : Nat → Bool} {k : Nat} (h : k < 21) : (bArr I).toArray[k]? = some (.bool (I k)) := by simp [bArr, h]
theorem bArr_len (I : Nat → Bool) : (bArr I).length = 21 := by simp [bArr]
theorem BkAt.rangeI {w : World} {q : Nat} {I Fd : Nat → Bool} (h : BkAt w q I Fd) : w.rangeAt q 0 (bArr I) := fun j v hv => by
  have hj : j < 21 := by have := (List.getElem?_eq_some_iff.1 hv).1; rwa [bArr_len] at this
  have : (bArr I)[j]? = some (.bool (I j)) := by simp [bArr, hj]
  rw [this] at hv
  rw [Nat.zero_add, ← hv]
  exact h.cI j hj
theorem BkAt.rangeF {w : World} {q : Nat} {I Fd : Nat → Bool} (h : BkAt w q I Fd) : w.rangeAt q 21 (bArr Fd) := fun j v hv => by
  have hj : j < 21 := by have := (List.getElem?_eq_some_iff.1 hv).1; rwa [bArr_len] at this
  have : (bArr Fd)[j]? = some (.bool (Fd j)) := by simp [bArr, hj]
  rw [this] at hv
  rw [← hv]
  exact h.cF j hj
/-- The three levels. -/
def lv3 (a b c : Int) : List Int := [a, b, c]
theorem lv3_at (a b c : Int) {k : Nat} (h : k < 21) : ∃ r : Nat, (actN k).rule = (r : Int) ∧ r < 3 ∧ (#[Value.int .i64 a, .int .i64 b, .int .i64 c] : Array Value)[r]? = some (.int .i64 (lvB (lv3 a b c) k)) := by
  have hf := (all21_facts (act_mem h)).1
  unfold lvB lvl lv3
  generalize (actN k).rule = r at hf
  have e : r = 0 ∨ r = 1 ∨ r = 2 := by omega
  rcases e with rfl | rfl | rfl
  · exact ⟨0, rfl, by omega, rfl⟩
  · exact ⟨1, rfl, by omega, rfl⟩
  · exact ⟨2, rfl, by omega, rfl⟩
/-- What the book's eligible leaves. -/
def BelRes (lv : List Int) (C D : List Ac) (w : World) (e : Ending) (w' : World) : Prop := ∃ v, e = .returned v ∧ OwnZ w' w.heap.size v (zN (elB lv C D)) ∧ Below w.heap.size w w'
theorem opB_yes {C D : List Ac} {k : Nat} (h1 : inB C k = true) (h2 : inB D k = false) : opB C D k = true := by unfold opB; rw [h1, h2]; rfl
theorem opB_out {C D : List Ac} {k : Nat} (h1 : inB C k = false) : opB C D k = false := by unfold opB; rw [h1]; rfl
theorem opB_done {C D : List Ac} {k : Nat} (h2 : inB D k = true) : opB C D k = false := by unfold opB; rw [h2]; simp
set_option maxRecDepth 100000 in
set_option maxHeartbeats 8000000 in
theorem bookEligW (a b c : Int) (C D : List Ac) (q : Nat) (w : World) (h : BkAt w q (inB C) (inB D)) :
    Calls Tryd.prog 19 #[.pointer (some ⟨q, 0, none⟩), .agg #[.int .i64 a, .int .i64 b, .int .i64 c]] w (BelRes (lv3 a b c) C D w) := by
  obtain ⟨w0, hw0⟩ : ∃ w0, w0 = w.alloc (.cells #[.int .i64 a, .int .i64 b, .int .i64 c] 42) := ⟨_, rfl⟩
  have hx0 : Below (w.heap.size + 1) (w.alloc (.cells #[.int .i64 a, .int .i64 b, .int .i64 c] 42)) w0 := by rw [hw0]; exact Below.refl _ _
  have hb0 := box_belowD hx0
  have hs0 : w0.heap.size = w.heap.size + 1 := by rw [hw0]; simp
  obtain ⟨lv, hlv⟩ : ∃ lv, lv3 a b c = lv := ⟨_, rfl⟩
  have LV := Lib.hid (fun (k : Nat) (hk : k < 21) (W : World) (hW : Below w0.heap.size w0 W) => (show ∃ r : Nat, (actN k).rule = (r : Int) ∧ r < 3 ∧ W.cell? ⟨w.heap.size, r, none⟩ = some (.int .i64 (lvB lv k)) by
    obtain ⟨r, h1, h2, h3⟩ := lv3_at a b c hk
    rw [hlv] at h3
    exact ⟨r, h1, h2, (hW.cell (p := ⟨w.heap.size, r, none⟩) (by show w.heap.size < w0.heap.size; omega)).trans (box_cellD hx0 r (by rw [Array.getElem?_toList]; exact h3))⟩))
  have BK := Lib.hid (fun (W : World) (hW : Below w0.heap.size w0 W) => ((h.below hb0).below hW : BkAt W q (inB C) (inB D)))
  rw [hlv]
  have HB := Lib.hid hb0
  have HS := Lib.hid hs0
  have E0 := Lib.hid (Below.refl w0.heap.size w0)
  clear hx0 hb0 hs0 h hlv
  go_enter Tryd.func19, Tryd.ntmps19
  go_upto_region 2 with fail
  rw [← hw0]
  clear hw0
  go_upto_region 3 with fail
  go_loopw [5, 6] (fun lo i wr => ∃ k : Nat, i = .int .i64 (k : Int) ∧ lo = .int .i64 (bkLow (opB C D) (lvB lv) k) ∧ k ≤ 21 ∧ wr = w0) (fun _ i _ => 21 - (intOf i).toNat)
  case atStart => exact ⟨0, rfl, rfl, by omega, rfl⟩
  case round =>
    obtain ⟨k, rfl, rfl, hk, hwr⟩ := hrel
    subst wr
    have B0 := BK.out _ E0.out
    by_cases hkn : k < 21
    · have e1 : (0 : Int) ≤ (k : Int) := by omega
      have e2 : (k : Int) < 21 := by omega
      have d0 := B0.cI k hkn
      have d1 := B0.cF k hkn
      have HSU := Lib.hid (bkLow_succ (opB C D) (lvB lv) k)
      cases hI : inB C k with
      | false =>
        rw [hI] at d0
        rw [opB_out hI, if_neg (by simp)] at HSU
        go_wp2
        exact ⟨⟨k + 1, by go_num, by rw [HSU.out], by omega, by first | rfl | trivial⟩, by simp [intOf]; omega⟩
      | true =>
        have d2 := B0.cR k hkn hI
        rw [hI] at d0
        cases hD : inB D k with
        | true =>
          rw [hD] at d1
          rw [opB_done hD, if_neg (by simp)] at HSU
          go_wp2
          exact ⟨⟨k + 1, by go_num, by rw [HSU.out], by omega, by first | rfl | trivial⟩, by simp [intOf]; omega⟩
        | false =>
          rw [hD] at d1
          rw [opB_yes hI hD, if_pos rfl] at HSU
          obtain ⟨r, h1, h2, h3⟩ := LV.out k hkn _ E0.out
          rw [h1] at d2
          have e3 : (0 : Int) ≤ (r : Int) := by omega
          have e4 : (r : Int) < 3 := by omega
          go_wp2
          exact ⟨⟨k + 1, by go_num, by rw [HSU.out], by omega, by first | rfl | trivial⟩, by simp [intOf]; omega⟩
    · obtain rfl : k = 21 := by omega
      obtain ⟨low, hlow⟩ : ∃ low, bkLow (opB C D) (lvB lv) 21 = low := ⟨_, rfl⟩
      rw [hlow]
      have HLOW := Lib.hid (show elB lv C D = (List.range 21).filter (fun k => opB C D k && decide (lvB lv k = low)) by unfold elB; rw [hlow])
      obtain ⟨I, hIe⟩ : ∃ I, (fun k => opB C D k && decide (lvB lv k = low)) = I := ⟨_, rfl⟩
      rw [hIe] at HLOW
      have HI := Lib.hid (fun k => congrFun hIe k)
      clear B0 hlow hIe
      go_upto_region 9 with fail
      go_loopw [7, 8] (fun ov i wr => ∃ (k : Nat) (vo : Value), i = .int .i64 (k : Int) ∧ ov = vo ∧ k ≤ 21 ∧ OwnZ wr w0.heap.size vo (zN ((List.range k).filter I)) ∧ Below w0.heap.size w0 wr) (fun _ i _ => 21 - (intOf i).toNat)
      case atStart => exact ⟨0, _, rfl, rfl, by omega, World.ownsRow_nil _ _ _ _, E0.out⟩
      case round =>
        obtain ⟨k, vo, rfl, rfl, hk, ho, hbw⟩ := hrel
        have HBW := Lib.hid hbw
        have HO := Lib.hid ho
        clear hbw
        by_cases hkn : k < 21
        · have e1 : (0 : Int) ≤ (k : Int) := by omega
          have e2 : (k : Int) < 21 := by omega
          obtain ⟨A, c', hvo⟩ := ho.form
          rw [zN_len] at hvo
          subst hvo
          clear ho
          have B0 := BK.out _ HBW.out
          have d0 := B0.cI k hkn
          have d1 := B0.cF k hkn
          have NOT := Lib.hid (fun (h : I k = false) => (show (List.range (k + 1)).filter I = (List.range k).filter I by rw [filter_succ, if_neg (by rw [h]; simp)]))
          cases hI : inB C k with
          | false =>
            rw [hI] at d0
            have HF := Lib.hid (NOT.out (by rw [← HI.out, opB_out hI]; rfl))
            clear B0
            go_wp2
            exact ⟨⟨k + 1, _, by go_num, rfl, by omega, by rw [HF.out]; exact HO.out, HBW.out⟩, by simp [intOf]; omega⟩
          | true =>
            have d2 := B0.cR k hkn hI
            rw [hI] at d0
            cases hD : inB D k with
            | true =>
              rw [hD] at d1
              have HF := Lib.hid (NOT.out (by rw [← HI.out, opB_done hD]; rfl))
              clear B0 d2
              go_wp2
              exact ⟨⟨k + 1, _, by go_num, rfl, by omega, by rw [HF.out]; exact HO.out, HBW.out⟩, by simp [intOf]; omega⟩
            | false =>
              rw [hD] at d1
              obtain ⟨r, h1, h2, h3⟩ := LV.out k hkn _ HBW.out
              rw [h1] at d2
              have e3 : (0 : Int) ≤ (r : Int) := by omega
              have e4 : (r : Int) < 3 := by omega
              have HK := Lib.hid (show I k = decide (lvB lv k = low) by rw [← HI.out, opB_yes hI hD]; simp)
              obtain ⟨L, hL⟩ : ∃ L, lvB lv k = L := ⟨_, rfl⟩
              rw [hL] at h3 HK
              clear B0 hL
              by_cases hl : L = low
              · subst hl
                have hll : (L == L) = true := by simp
                have HF := Lib.hid (show (List.range (k + 1)).filter I = (List.range k).filter I ++ [k] by rw [filter_succ, if_pos (by rw [HK.out]; simp)])
                have HL := Lib.hid (show (zN ((List.range k).filter I)).length ≤ 40000000 by rw [zN_len]; have := filter_len I k; omega)
                go_wp2_with (at_builtin; refine wpList_append_Z HO.out rfl (.tmp 71) (.tmp 73) rfl rfl (k : Int) _ rfl rfl HL.out HBW.out.size ?_; intro A2 c2 w2 ho2 hb2; have HO2 := Lib.hid ho2; have HB2 := Lib.hid (HBW.out.trans hb2); clear ho2 hb2)
                have HZ := Lib.hid (show OwnZ w2 w0.heap.size (.slice A2 ((zN ((List.range k).filter I)).length + 1) c2) (zN ((List.range (k + 1)).filter I)) by rw [HF.out]; have := HO2.out; unfold zN at this ⊢; rw [List.map_append]; exact this)
                exact ⟨⟨k + 1, by go_num, by omega, HZ.out, HB2.out⟩, by simp [intOf]; omega⟩
              · have hll : (L == low) = false := by simpa using hl
                have HF := Lib.hid (NOT.out (by rw [HK.out]; simpa using hl))
                go_wp2
                exact ⟨⟨k + 1, _, by go_num, rfl, by omega, by rw [HF.out]; exact HO.out, HBW.out⟩, by simp [intOf]; omega⟩
        · obtain rfl : k = 21 := by omega
          clear ho
          go_wp2
          go_ret
          exact ⟨_, rfl, by rw [HLOW.out]; exact HO.out.down (by have := HS.out; omega), HB.out.trans (HBW.out.mono HB.out.size)⟩
end Go.Proofs.YtjgigcnjgblekaaDoor
