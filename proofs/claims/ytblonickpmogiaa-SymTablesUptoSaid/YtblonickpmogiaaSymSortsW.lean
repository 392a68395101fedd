/- The walk of SymSorts: it returns true. -/
import Derived.Test.YtblonickpmogiaaSymSort
import Derived.Deep.QuietTactic
import Derived.BigQuiet
namespace Go.Proofs.Ytblonickpmogiaa
open Go.RowKit
attribute [local go_sem ↓] Go.wp_at_zero Go.wp_at_succ

theorem own_slC {w : World} {base : Nat} {v : Value} {xs : List Cst} (h : OwnC w base v xs) : ∃ (A : Option Addr) (c : Nat), v = .slice A xs.length c ∧ SlAt w w.heap.size 3 Cst.cells A xs := by
  rcases Nat.eq_zero_or_pos xs.length with h0 | hp
  · obtain ⟨A, c, rfl⟩ := own_anyC h
    exact ⟨A, c, rfl, .inl (List.eq_nil_of_length_eq_zero h0)⟩
  · obtain ⟨g, cap, rfl, _⟩ := own_form3 h hp
    refine ⟨_, cap, rfl, ?_⟩
    have := own_sub h 0 xs.length
    rwa [List.drop_zero, List.take_length, Nat.zero_mul] at this

set_option maxRecDepth 100000 in
/-- Same, of one and the same constant. -/
theorem same_self (a : Cst) (w : World) : Calls Try.prog 77 #[.agg #[.int .i64 a.k, .int .i64 a.n, .string a.s], .agg #[.int .i64 a.k, .int .i64 a.n, .string a.s]] w fun e w' => e = .returned (.bool true) ∧ Below w.heap.size w w' := by
  go_enter Try.func77, Try.ntmps77
  go_wp2
  go_ret
  exact ⟨rfl, ((Below.refl _ _).alloc (Nat.le_refl _) _).alloc (by simp) _⟩

set_option maxRecDepth 100000 in
set_option maxHeartbeats 1000000 in
/-- The same list twice. -/
theorem consts_same (A B : Option Addr) (c d : Nat) (xs : List Cst) (w : World) (hA : SlAt w w.heap.size 3 Cst.cells A xs) (hB : SlAt w w.heap.size 3 Cst.cells B xs) (hlen : xs.length * 32 ≤ 140737488355328) :
    Calls Try.prog 33 #[.slice A xs.length c, .slice B xs.length d] w fun e w' => e = .returned (.bool true) ∧ Below w.heap.size w w' := by
  go_enter Try.func33, Try.ntmps33
  go_wp2
  go_loopw [5] (fun i wr => ∃ k : Nat, k ≤ xs.length ∧ i = .int .i64 k ∧ Below w.heap.size w wr) (fun i _ => xs.length - (intOf i).toNat)
  case atStart => exact ⟨0, Nat.zero_le _, rfl, Below.refl _ _⟩
  case round =>
    obtain ⟨i, hi, rfl, hb⟩ := hrel
    by_cases hin : i < xs.length
    · obtain ⟨b, off, rfl, hblt, hc⟩ := hA.form (by omega)
      obtain ⟨b', off', rfl, hblt', hc'⟩ := hB.form (by omega)
      have hci := (hc i xs[i] (List.getElem?_eq_getElem hin)).below hb.drew hblt
      have hcj := (hc' i xs[i] (List.getElem?_eq_getElem hin)).below hb.drew hblt'
      obtain ⟨a, ha⟩ : ∃ a, a = xs[i] := ⟨_, rfl⟩
      rw [← ha] at hci hcj
      have a0 := hci 0 _ rfl; have a1 := hci 1 _ rfl; have a2 := hci 2 _ rfl
      have d0 := hcj 0 _ rfl; have d1 := hcj 1 _ rfl; have d2 := hcj 2 _ rfl
      simp only [Nat.add_zero] at a0 d0
      have hii : (0 : Int) ≤ (i : Int) := by omega
      have hin' : (i : Int) < (xs.length : Int) := by omega
      have hbd := hb.drew
      have HB := Lib.hid hb
      have S := Lib.hid (fun W => same_self a W)
      clear hc hc' hci hcj ha hb
      go_wp2
      go_still_tail 8, (by kernel_rfl)
      change wpList _ _ _ _ _ wr.drew
      go_wp2_with fail
      refine (S.out _).mono ?_
      rintro e w2 ⟨rfl, h2⟩
      have hb2 := hbd.trans (h2.mono hbd.size)
      clear h2
      go_wp2
      exact ⟨⟨i + 1, by omega, by go_num, hb2⟩, by simp [intOf]; omega⟩
    · go_wp2
      go_ret
      exact ⟨rfl, hb⟩

set_option maxRecDepth 100000 in
set_option maxHeartbeats 1000000 in
theorem sortsW (A : Option Addr) (ca : Nat) (cs : List Cst) (w : World) (hn : A = none → ca = 0) (hA : SlAt w w.heap.size 3 Cst.cells A cs) (ok : ∀ c ∈ cs, c.s.size ≤ maxLen) (hlen : cs.length * 32 ≤ 140737488355328) :
    Calls Try.prog 9 #[.slice A cs.length ca] w fun e w' => e = .returned (.bool true) ∧ Below w.heap.size w w' := by
  have R := Lib.hid (rsortW A ca cs w hA ok hlen)
  go_enter Try.func9, Try.ntmps9
  go_wp2_with fail
  refine R.out.mono ?_
  rintro e w1 ⟨v, m, rfl, hv, hs, hp, b1⟩
  have hA1 : SlAt w1 w1.heap.size 3 Cst.cells A cs := by
    rcases hA with h | ⟨b, off, h1, h2, h3⟩
    · exact .inl h
    · exact .inr ⟨b, off, h1, Nat.lt_of_lt_of_le h2 b1.size, fun i x hx => (h3 i x hx).below b1 h2⟩
  have R2 := Lib.hid (ssortW A ca cs w1 hn hA1 hlen)
  clear hA1 hA
  go_wp2_with fail
  refine R2.out.mono ?_
  rintro e w2 ⟨u, k, rfl, hu, hs2, hp2, b2⟩
  obtain rfl : k = m := sd_eq hs2 hs (hp2.trans hp.symm)
  have hv2 := ownC_below hv b2
  obtain ⟨A1, c1, rfl, s1⟩ := own_slC hu
  obtain ⟨A2, c2, rfl, s2⟩ := own_slC hv2
  have hl : k.length * 32 ≤ 140737488355328 := by rw [hp.length_eq]; exact hlen
  have R3 := Lib.hid (consts_same A1 A2 c1 c2 k w2 s1 s2 hl)
  have B2 := b1.trans (b2.mono b1.size)
  clear hv hu hv2 s1 s2 hs hp hs2 hp2 b1 b2
  go_wp2_with fail
  refine R3.out.mono ?_
  rintro e w3 ⟨rfl, b3⟩
  go_wp2
  go_ret
  exact ⟨rfl, B2.trans (b3.mono B2.size)⟩
end Go.Proofs.Ytblonickpmogiaa
