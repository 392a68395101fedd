/- 'strings' of edictlaw01: lists of strings that are alike. -/
import Derived.Test.YtblonickpmogiaaNewIds
import Derived.Deep.QuietTactic
import Derived.BigQuiet
namespace Go.Proofs.Ytblonickpmogiaa
open Go.RowKit Go.Maps

/-- A row of the call's own reads as a list of strings. -/
theorem own_sl {w : World} {base n : Nat} {v : Value} {ks : List ByteArray} (h : w.ownsRow base 9 1 v n (ks.map Value.string)) : ∃ (A : Option Addr) (c : Nat), v = .slice A ks.length c ∧ ks.length ≤ c ∧ c ≤ maxLen ∧ SlAt w w.heap.size 1 strCells A ks ∧ n = ks.length := by
  have hn : ks.length = n := by have := h.1; simpa using this
  subst hn
  rcases h.2 with ⟨rfl, h0⟩ | ⟨g, cap, cur, rfl, _, hg, h1, h2, _⟩
  · exact ⟨none, 0, by rw [h0], by omega, Nat.zero_le _, .inl (List.eq_nil_of_length_eq_zero h0), rfl⟩
  · refine ⟨_, cap, rfl, h1, h2, .inr ⟨g, 0, rfl, lt_of_heap hg, ?_⟩, rfl⟩
    intro i x hx j u hu
    match j, hu with
    | 0, hu =>
      simp only [strCells, List.getElem?_cons_zero, Option.some.injEq] at hu
      subst hu
      have := h.cells (g := g) rfl i (.string x) (by rw [List.getElem?_map, hx]; rfl)
      rw [add_none'] at this
      simpa using this
    | j + 1, hu => simp [strCells] at hu

set_option maxRecDepth 100000 in
theorem strings_same (A B : Option Addr) (c d : Nat) (ks : List ByteArray) (w : World) (hA : SlAt w w.heap.size 1 strCells A ks) (hB : SlAt w w.heap.size 1 strCells B ks) (hlen : ks.length ≤ 6000000000000) :
    Calls Try.prog 71 #[.slice A ks.length c, .slice B ks.length d] w fun e w' => e = .returned (.bool true) ∧ ∃ n, w' = w.drewN n := by
  go_enter Try.func71, Try.ntmps71
  go_wp2
  go_loopw [5] (fun i wr => ∃ k n : Nat, k ≤ ks.length ∧ i = .int .i64 k ∧ wr = w.drewN n) (fun i _ => ks.length - (intOf i).toNat)
  case atStart => exact ⟨0, 0, Nat.zero_le _, rfl, rfl⟩
  case round =>
    obtain ⟨i, n, hi, rfl, rfl⟩ := hrel
    by_cases hin : i < ks.length
    · obtain ⟨b, off, rfl, hblt, hc⟩ := hA.form (by omega)
      obtain ⟨b', off', rfl, hblt', hc'⟩ := hB.form (by omega)
      have i0 := hc i ks[i] (List.getElem?_eq_getElem hin) 0 _ rfl
      have j0 := hc' i ks[i] (List.getElem?_eq_getElem hin) 0 _ rfl
      obtain ⟨x, hx⟩ : ∃ x, x = ks[i] := ⟨_, rfl⟩
      rw [← hx] at i0 j0
      simp only [Nat.mul_one, Nat.add_zero] at i0 j0
      clear hx hc hc'
      have i1 : (w.drewN n).cell? ⟨b, off + i, none⟩ = some (.string x) := i0
      have j1 : (w.drewN n).cell? ⟨b', off' + i, none⟩ = some (.string x) := j0
      have hii : (0 : Int) ≤ (i : Int) := by omega
      have hin' : (i : Int) < (ks.length : Int) := by omega
      go_wp2
      go_quiet (fail)
      go_wp2
      exact ⟨⟨i + 1, n + nq, by omega, by go_num, rfl⟩, by simp [intOf]; omega⟩
    · go_wp2
      go_ret
      exact ⟨rfl, n, rfl⟩

theorem sl_eq {ad : Option Addr} {a b c : Nat} (h : a = b) : Ending.returned (.slice ad a c) = Ending.returned (.slice ad b c) := by rw [h]
theorem max_min' (a : Nat) (n : Int) : min (a : Int) (max 0 n) = ((min a n.toNat : Nat) : Int) := by omega

theorem SlAt.take {w : World} {B : Nat} {A : Option Addr} {ks : List ByteArray} (h : SlAt w B 1 strCells A ks) (m : Nat) : SlAt w B 1 strCells A (ks.take m) := by
  rcases h with h | ⟨b, off, hA, hlt, hc⟩
  · exact .inl (by rw [h, List.take_nil])
  · refine .inr ⟨b, off, hA, hlt, fun i x hx => hc i x ?_⟩
    rw [List.getElem?_take] at hx
    split at hx
    · exact hx
    · cases hx

set_option maxRecDepth 100000 in
/-- The first n of a list. -/
theorem first_some (ad : Addr) (c len : Nat) (w : World) (hlc : len ≤ c) (hc : c ≤ maxLen) (n : Int) (n1 : -9223372036854775808 ≤ n) (n2 : n ≤ 9223372036854775807) :
    Calls Try.prog 70 #[.slice (some ad) len c, .int .i64 n] w fun e w' => e = .returned (.slice (some ad) (min len n.toNat : Nat) c) ∧ w = w' := by
  unfold maxLen at hc
  rcases (show (n ≤ 0) ∨ (0 < n ∧ n ≤ (len : Int)) ∨ (0 < n ∧ (len : Int) < n) by omega) with h | ⟨h, h'⟩ | ⟨h, h'⟩
  all_goals
    go_enter Try.func70, Try.ntmps70
    go_wp2
    all_goals (go_ret; exact ⟨sl_eq (by omega), rfl⟩)

set_option maxRecDepth 100000 in
theorem first_none (w : World) (n : Int) (n1 : -9223372036854775808 ≤ n) (n2 : n ≤ 9223372036854775807) :
    Calls Try.prog 70 #[.slice none 0 0, .int .i64 n] w fun e w' => e = .returned (.slice none 0 0) ∧ w = w' := by
  rcases (show (n ≤ 0) ∨ (0 < n) by omega) with h | h
  all_goals
    go_enter Try.func70, Try.ntmps70
    go_wp2
    all_goals (go_ret; exact ⟨rfl, rfl⟩)

/-- The first n of a list that reads as ks. -/
theorem first_sl {A : Option Addr} {c : Nat} {ks : List ByteArray} {w : World} (hs : SlAt w w.heap.size 1 strCells A ks) (hA : A = none → c = 0) (hlc : ks.length ≤ c) (hc : c ≤ maxLen) (n : Int) (n1 : -9223372036854775808 ≤ n) (n2 : n ≤ 9223372036854775807) :
    Calls Try.prog 70 #[.slice A ks.length c, .int .i64 n] w fun e w' => (∃ c', e = .returned (.slice A (ks.take n.toNat).length c') ∧ SlAt w w.heap.size 1 strCells A (ks.take n.toNat)) ∧ w = w' := by
  cases A with
  | none =>
    obtain rfl := hA rfl
    obtain rfl : ks = [] := List.eq_nil_of_length_eq_zero (by omega)
    exact (first_none w n n1 n2).mono fun e w' h => ⟨⟨0, by simpa using h.1, .inl (by simp)⟩, h.2⟩
  | some ad => exact (first_some ad c ks.length w hlc hc n n1 n2).mono fun e w' h => ⟨⟨c, by rw [h.1]; exact sl_eq (by rw [List.length_take]; omega), hs.take _⟩, h.2⟩
end Go.Proofs.Ytblonickpmogiaa
