/- placesRight. -/
import Derived.Test.YtonkbjdeaneicaaChkS
namespace Go.Proofs.Ytonkbjdeaneicaa.Pln
open Classical

/-- The one ahead of place k, or -1. -/
def lastF {α : Type} (f : α → Int) (l : List α) : Nat → Int
  | 0 => -1
  | k + 1 => match l[k]? with | some x => f x | none => -1
def linkOk (m : Nat) (w : Int) (l : List (Int × Int)) (k : Nat) : Prop := ∀ x, l[k]? = some x → lastF Prod.fst l k < x.1 ∧ x.1 < (m : Int) ∧ 0 ≤ x.2 ∧ x.2 < w ∧ ∀ q, q < k → ∀ y, l[q]? = some y → y.2 ≠ x.2
def newOk (m : Nat) (l : List Int) (k : Nat) : Prop := ∀ x, l[k]? = some x → lastF id l k < x ∧ x < (m : Int)
/-- Each free place stands once, in the links or among the new ones. -/
def cellOk (cells pl : List Int) (i : Nat) : Prop := ∀ c, cells[i]? = some c → (pl.count (i : Int) : Int) = if c = -1 - (i : Int) then 1 else 0
def placesP (cells : List Int) (n : Nd) (w : Int) : Prop :=
  (n.test = noTst ∧ n.width = w + (n.new.length : Int) ∧ n.width ≤ 16) ∧ (∀ k, k < n.links.length → linkOk cells.length w n.links k) ∧ (∀ k, k < n.new.length → newOk cells.length n.new k) ∧
    ∀ i, i < cells.length → cellOk cells (n.links.map Prod.fst ++ n.new) i
theorem lastF_next {α : Type} {f : α → Int} {l : List α} {k : Nat} {x : α} (h : l[k]? = some x) : lastF f l (k + 1) = f x := by
  simp [lastF, h]
theorem last_link {m : Nat} {w : Int} {l : List (Int × Int)} : ∀ k, k ≤ l.length → (∀ q, q < k → linkOk m w l q) → -1 ≤ lastF Prod.fst l k
  | 0, _, _ => by simp [lastF]
  | k + 1, hk, h => by
    have ih := last_link k (by omega) (fun q hq => h q (by omega))
    have hx : l[k]? = some l[k] := List.getElem?_eq_getElem (by omega)
    rw [lastF_next hx]
    have := (h k (by omega) _ hx).1
    omega
theorem last_new {m : Nat} {l : List Int} : ∀ k, k ≤ l.length → (∀ q, q < k → newOk m l q) → -1 ≤ lastF id l k
  | 0, _, _ => by simp [lastF]
  | k + 1, hk, h => by
    have ih := last_new k (by omega) (fun q hq => h q (by omega))
    have hx : l[k]? = some l[k] := List.getElem?_eq_getElem (by omega)
    rw [lastF_next hx]
    have := (h k (by omega) _ hx).1
    simp only [id]
    omega
theorem last_link_ge {m : Nat} {w : Int} {l : List (Int × Int)} : ∀ k, k ≤ l.length → (∀ q, q < k → linkOk m w l q) → (k : Int) - 1 ≤ lastF Prod.fst l k
  | 0, _, _ => by simp [lastF]
  | k + 1, hk, h => by
    have ih := last_link_ge k (by omega) (fun q hq => h q (by omega))
    have hx : l[k]? = some l[k] := List.getElem?_eq_getElem (by omega)
    rw [lastF_next hx]
    have := (h k (by omega) _ hx).1
    omega
theorem links_len {m : Nat} {w : Int} {l : List (Int × Int)} (h : ∀ q, q < l.length → linkOk m w l q) : l.length ≤ m := by
  rcases Nat.eq_zero_or_pos l.length with h0 | h0
  · omega
  · have h1 := last_link_ge (l.length - 1) (by omega) (fun q hq => h q (by omega))
    have hx : l[l.length - 1]? = some (l[l.length - 1]'(by omega)) := List.getElem?_eq_getElem (by omega)
    obtain ⟨h2, h3, _⟩ := h (l.length - 1) (by omega) _ hx
    omega
theorem last_new_ge {m : Nat} {l : List Int} : ∀ k, k ≤ l.length → (∀ q, q < k → newOk m l q) → (k : Int) - 1 ≤ lastF id l k
  | 0, _, _ => by simp [lastF]
  | k + 1, hk, h => by
    have ih := last_new_ge k (by omega) (fun q hq => h q (by omega))
    have hx : l[k]? = some l[k] := List.getElem?_eq_getElem (by omega)
    rw [lastF_next hx]
    have := (h k (by omega) _ hx).1
    simp only [id]
    omega
theorem new_len {m : Nat} {l : List Int} (h : ∀ q, q < l.length → newOk m l q) : l.length ≤ m := by
  rcases Nat.eq_zero_or_pos l.length with h0 | h0
  · omega
  · have h1 := last_new_ge (l.length - 1) (by omega) (fun q hq => h q (by omega))
    have hx : l[l.length - 1]? = some (l[l.length - 1]'(by omega)) := List.getElem?_eq_getElem (by omega)
    obtain ⟨h2, h3⟩ := h (l.length - 1) (by omega) _ hx
    omega
/-- What the two arrays hold. -/
def tmL (pl : List Int) : List Value := (List.range 8).map fun (p : Nat) => .int .i64 (pl.count (p : Int) : Int)
noncomputable def hdL (vs : List Int) : List Value := (List.range 16).map fun (v : Nat) => .bool (decide ((v : Int) ∈ vs))
theorem tmL_at (pl : List Int) {p : Nat} (hp : p < 8) : (tmL pl)[p]? = some (.int .i64 (pl.count (p : Int) : Int)) := by
  unfold tmL; rw [List.getElem?_map, List.getElem?_range hp]; rfl
theorem hdL_at (vs : List Int) {v : Nat} (hv : v < 16) : (hdL vs)[v]? = some (.bool (decide ((v : Int) ∈ vs))) := by
  unfold hdL; rw [List.getElem?_map, List.getElem?_range hv]; rfl
theorem tmL_len (pl : List Int) : (tmL pl).length = 8 := by simp [tmL]
theorem hdL_len (vs : List Int) : (hdL vs).length = 16 := by simp [hdL]
theorem tmL_put (pl : List Int) {p : Nat} (hp : p < 8) : tmL (pl ++ [(p : Int)]) = (tmL pl).set p (.int .i64 ((pl.count (p : Int) : Int) + 1)) := by
  apply List.ext_getElem?
  intro i
  by_cases hi : i < 8
  · rw [tmL_at _ hi]
    by_cases e : p = i
    · subst e
      rw [List.getElem?_set_self (by rw [tmL_len]; exact hp), List.count_append]
      simp
    · rw [List.getElem?_set_ne e, tmL_at _ hi, List.count_append]
      have : ¬ (p : Int) = (i : Int) := by omega
      simp [List.count_singleton, this]
  · rw [List.getElem?_eq_none (by rw [tmL_len]; omega), List.getElem?_eq_none (by rw [List.length_set, tmL_len]; omega)]
theorem hdL_put (vs : List Int) {v : Nat} (hv : v < 16) : hdL (vs ++ [(v : Int)]) = (hdL vs).set v (.bool true) := by
  apply List.ext_getElem?
  intro i
  by_cases hi : i < 16
  · rw [hdL_at _ hi]
    by_cases e : v = i
    · subst e
      rw [List.getElem?_set_self (by rw [hdL_len]; exact hv)]
      simp
    · rw [List.getElem?_set_ne e, hdL_at _ hi]
      have : ¬ (i : Int) = (v : Int) := by omega
      simp [this]
  · rw [List.getElem?_eq_none (by rw [hdL_len]; omega), List.getElem?_eq_none (by rw [List.length_set, hdL_len]; omega)]
end Go.Proofs.Ytonkbjdeaneicaa.Pln
namespace Go.Proofs.Ytonkbjdeaneicaa
open Go.RowKit Pln Classical Go.Maps

/-- An array of the call's own. -/
def Arr (w : World) (T : Nat) (e : TypeId) (xs : List Value) : Prop := w.ownsRow 0 e 1 (.slice (some ⟨T, 0, none⟩) xs.length xs.length) xs.length xs
section
variable {w w' : World} {T : Nat} {e : TypeId} {xs : List Value}
theorem Arr.cell (h : Arr w T e xs) {i : Nat} {v : Value} (hi : xs[i]? = some v) : w.cell? ⟨T, i, none⟩ = some v := by
  have hlt := (List.getElem?_eq_some_iff.1 hi).1
  have := World.ownsRow.cellAt (show w.ownsRow 0 e 1 (.slice (some ⟨T, 0, none⟩) xs.length xs.length) xs.length xs from h) i (by omega)
  rw [this, hi]
theorem Arr.frozen (h : Arr w T e xs) (i : Nat) : w.frozen? ⟨T, i, none⟩ = false :=
  World.ownsRow.frozenAt (show w.ownsRow 0 e 1 (.slice (some ⟨T, 0, none⟩) xs.length xs.length) xs.length xs from h) i
theorem Arr.lt (h : Arr w T e xs) : T < w.heap.size := (ownBlock_cells h rfl).2.1
theorem Arr.put (h : Arr w T e xs) (j : Nat) (v : Value) : Arr (w.setCell ⟨T, j, none⟩ v) T e (xs.set j v) ∧ Turns [T] w (w.setCell ⟨T, j, none⟩ v) := by
  obtain ⟨h1, h2⟩ := World.ownsRow.stored (show w.ownsRow 0 e 1 (.slice (some ⟨T, 0, none⟩) xs.length xs.length) xs.length xs from h) j v
  refine ⟨?_, by simpa using Turns.of_grown h2⟩
  unfold Arr
  rw [List.length_set]
  exact h1
theorem Arr.turns (h : Arr w T e xs) {S : List Nat} (ht : Turns S w w') (hs : T ∉ S) : Arr w' T e xs :=
  ownsRow_turns h ht (fun b hb => by
    have : T = b := by simpa [Value.ownBlock] using hb
    rw [← this]; exact hs)
theorem Arr.step (h : Arr w T e xs) (hb : Below w.heap.size w w') : Arr w' T e xs := h.turns (Turns.of_below (S := []) hb) (by simp)
theorem Arr.new (w : World) (e : TypeId) (cs : Array Value) (hm : cs.size ≤ maxLen) : Arr (w.alloc (.cells cs e)) w.heap.size e cs.toList := by
  have h := World.ownsRow_lit (base := 0) (e := e) (size := 1) w cs cs.size (Nat.zero_le _) hm (by rw [Nat.mul_one])
  unfold Arr
  rw [Array.length_toList]
  exact h
end
end Go.Proofs.Ytonkbjdeaneicaa
