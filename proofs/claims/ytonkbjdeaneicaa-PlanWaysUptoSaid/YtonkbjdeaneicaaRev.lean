/- slices.Reverse at a row of numbers of the call's own. -/
import Derived.Test.YtonkbjdeaneicaaShA
import Derived.Deep.Cut
import Derived.BigRegion
namespace Go.Proofs.Ytonkbjdeaneicaa
open Go.RowKit Pln Classical Go.Maps

theorem OwnI.len {w : World} {base : Nat} {A : Option Addr} {n c : Nat} {l : List Nat} (h : OwnI w base (.slice A n c) l) : n = l.length := by
  rcases h.2 with ⟨h', h0⟩ | ⟨g', cap', cur, h', _⟩
  · simp only [Value.slice.injEq] at h'
    omega
  · simp only [Value.slice.injEq] at h'
    exact h'.2.1
theorem OwnI.put {w : World} {base g n cap : Nat} {l : List Nat} (h : OwnI w base (.slice (some ⟨g, 0, none⟩) n cap) l) (j x : Nat) :
    OwnI (w.setCell ⟨g, j, none⟩ (.int .i64 (x : Int))) base (.slice (some ⟨g, 0, none⟩) n cap) (l.set j x) ∧ Turns [g] w (w.setCell ⟨g, j, none⟩ (.int .i64 (x : Int))) := by
  obtain rfl := h.len
  obtain ⟨h1, h2⟩ := World.ownsRow.stored (show w.ownsRow base 3 1 (.slice (some ⟨g, 0, none⟩) l.length cap) l.length (natVs l) from h) j (.int .i64 (x : Int))
  refine ⟨?_, by simpa using Turns.of_grown h2⟩
  unfold OwnI natVs
  rw [List.length_set, List.map_set]
  exact h1
theorem OwnI.frozen {w : World} {base g n cap : Nat} {l : List Nat} (h : OwnI w base (.slice (some ⟨g, 0, none⟩) n cap) l) (i : Nat) : w.frozen? ⟨g, i, none⟩ = false := by
  obtain rfl := h.len
  exact World.ownsRow.frozenAt (show w.ownsRow base 3 1 (.slice (some ⟨g, 0, none⟩) l.length cap) l.length (natVs l) from h) i
/-- The first and the last k places are exchanged. -/
def RevTo (l m : List Nat) (k : Nat) : Prop := ∀ q, q < l.length → m[q]? = if q < k ∨ l.length - k ≤ q then l[l.length - 1 - q]? else l[q]?
theorem RevTo.next {l m : List Nat} {k x y : Nat} (h : RevTo l m k) (hl : m.length = l.length) (hk : k + 1 < l.length - k) (hx : m[k]? = some x) (hy : m[l.length - 1 - k]? = some y) : RevTo l ((m.set k y).set (l.length - 1 - k) x) (k + 1) := by
  have ex := h k (by omega)
  rw [if_neg (by omega), hx] at ex
  have ey := h (l.length - 1 - k) (by omega)
  rw [if_neg (by omega), hy] at ey
  intro q hq
  by_cases e1 : q = l.length - 1 - k
  · subst e1
    rw [List.getElem?_set_self (by rw [List.length_set]; omega), if_pos (by omega), ex]
    congr 1
    omega
  · rw [List.getElem?_set_ne (fun h => e1 h.symm)]
    by_cases e2 : q = k
    · subst e2
      rw [List.getElem?_set_self (by omega), if_pos (by omega), ey]
    · rw [List.getElem?_set_ne (fun h => e2 h.symm), h q hq]
      by_cases h1 : q < k ∨ l.length - k ≤ q
      · rw [if_pos h1, if_pos (by omega)]
      · rw [if_neg h1, if_neg (by omega)]
theorem RevTo.done {l m : List Nat} {k : Nat} (h : RevTo l m k) (hl : m.length = l.length) (hk : ¬ k + 1 < l.length - k) : m = l.reverse := by
  apply List.ext_getElem?
  intro q
  by_cases hq : q < l.length
  · rw [h q hq, List.getElem?_reverse hq]
    by_cases h1 : q < k ∨ l.length - k ≤ q
    · rw [if_pos h1]
    · rw [if_neg h1]
      congr 1
      omega
  · rw [List.getElem?_eq_none (by omega), List.getElem?_eq_none (by simp; omega)]

set_option maxRecDepth 200000 in
set_option maxHeartbeats 4000000 in
theorem reverseW (w : World) (base g cap : Nat) (l : List Nat) (h : OwnI w base (.slice (some ⟨g, 0, none⟩) l.length cap) l) (hl : l.length ≤ 1000000) :
    Calls Try.prog 65 #[.slice (some ⟨g, 0, none⟩) l.length cap] w fun e w' => e = .returned (.tuple #[]) ∧ OwnI w' base (.slice (some ⟨g, 0, none⟩) l.length cap) l.reverse ∧ Turns [g] w w' := by
  have H := Lib.hid h
  clear h
  go_enter Try.func65, Try.ntmps65
  have e0 : IntKind.i64.wrap ((l.length : Int) - 1) = (l.length : Int) - 1 := IntWalk.i64_in _ (by omega)
  go_wp2
  clear e0
  go_loopw [2, 3] (fun iv jv wr => ∃ (k : Nat) (m : List Nat), iv = .int .i64 k ∧ jv = .int .i64 ((l.length : Int) - 1 - (k : Int)) ∧ 2 * k ≤ l.length + 1 ∧ m.length = l.length ∧ RevTo l m k ∧ OwnI wr base (.slice (some ⟨g, 0, none⟩) l.length cap) m ∧ Turns [g] w wr) (fun i _ _ => l.length - (intOf i).toNat)
  case atStart => exact ⟨0, l, rfl, by simp, by omega, rfl, fun q hq => by rw [if_neg (by omega)], H.out, Turns.refl _ _⟩
  case round =>
    obtain ⟨k, m, rfl, rfl, hk, hml, hR, hO, hT⟩ := hrel
    by_cases hkj : k + 1 < l.length - k
    · obtain ⟨j, hj⟩ : ∃ j, l.length - 1 - k = j := ⟨_, rfl⟩
      have hjj : (l.length : Int) - 1 - (k : Int) = (j : Int) := by omega
      obtain ⟨x, hx⟩ : ∃ x, m[k]? = some x := ⟨_, List.getElem?_eq_getElem (by omega)⟩
      obtain ⟨y, hy⟩ : ∃ y, m[j]? = some y := ⟨_, List.getElem?_eq_getElem (by omega)⟩
      have hN := hR.next hml hkj hx (by rw [hj]; exact hy)
      rw [hj] at hN
      rw [hjj]
      obtain ⟨g', hg', -, c0⟩ := hO.at hx
      obtain ⟨g'', hg'', -, c1⟩ := hO.at hy
      simp only [Option.some.injEq, Addr.mk.injEq, and_true] at hg' hg''
      subst hg'
      subst hg''
      have f0 := hO.frozen k
      have f1 := hO.frozen j
      have hkj2 : k < j := by omega
      have hjl : j < l.length := by omega
      have e1 : (0 : Int) ≤ (k : Int) := by omega
      have e2 : (k : Int) < (l.length : Int) := by omega
      have e3 : (0 : Int) ≤ (j : Int) := by omega
      have e4 : (j : Int) < (l.length : Int) := by omega
      have e5 : (k : Int) < (j : Int) := by omega
      have hne : ¬ k = j := by omega
      have P1 := hO.put k y
      have P2 := P1.1.put j x
      have Q1 := hO.put j x
      have Q2 := Q1.1.put k y
      rw [List.set_comm _ _ (by omega : j ≠ k)] at Q2
      have HP := Lib.hid (And.intro P2.1 ((hT.trans P1.2 (by simp)).trans P2.2 (by simp)))
      have HQ := Lib.hid (And.intro Q2.1 ((hT.trans Q1.2 (by simp)).trans Q2.2 (by simp)))
      have HN := Lib.hid hN
      have HJ := Lib.hid (And.intro hj hjj)
      have HML := Lib.hid hml
      clear hR hO hT P1 P2 Q1 Q2 hN hj hjj hx hy
      go_wp2_with fail
      go_region
      have e6 : IntKind.i64.wrap ((j : Int) - 1) = (j : Int) - 1 := IntWalk.i64_in _ (by omega)
      clear c0 c1 f0 f1
      go_wp2
      have hjv : Value.int IntKind.i64 ((j : Int) - 1) = .int .i64 ((l.length : Int) - 1 - ((k + 1 : Nat) : Int)) := by have := HJ.out.2; congr 1; omega
      exact ⟨⟨k + 1, (m.set k y).set j x, by go_num, hjv, by omega, by rw [List.length_set, List.length_set]; exact HML.out, HN.out, HP.out.1.step (Below.refl _ _).drew, HP.out.2.drew⟩, by simp [intOf]; omega⟩
    · have hRD := hR.done hml hkj
      subst hRD
      have HO := Lib.hid hO
      have HT := Lib.hid hT
      have e1 : ¬ (k : Int) < (l.length : Int) - 1 - (k : Int) := by omega
      clear hR hO hT hml
      go_wp2
      go_end0
      exact ⟨rfl, HO.out, HT.out⟩
end Go.Proofs.Ytonkbjdeaneicaa
