/- The walk of SymRenamed: it returns true. -/
import Derived.Test.YtblonickpmogiaaRenC
namespace Go.Proofs.Ytblonickpmogiaa.symRenamed
open Go.RowKit Go.Maps
attribute [local go_sem ↓] Go.wp_at_zero Go.wp_at_succ

/-- Two Ids beside each other, any keys. -/
structure Two (base : Nat) (w : World) (g1 m1 : Nat) (s1 : Value) (ks : List Int) (g2 m2 : Nat) (s2 : Value) (ls : List Cst) : Prop where
  x : IdsAt Try.prog kindI base w g1 m1 s1 ks
  y : IdsAt Try.prog kindC base w g2 m2 s2 ls
  disj : ∀ b ∈ foot g1 m1 s1, b ∉ foot g2 m2 s2
  hb : base ≤ w.heap.size

section
variable {base : Nat} {w w' : World} {g1 m1 : Nat} {s1 : Value} {ks : List Int} {g2 m2 : Nat} {s2 : Value} {ls : List Cst}
theorem Two.below (h : Two base w g1 m1 s1 ks g2 m2 s2 ls) (hb : Below w.heap.size w w') : Two base w' g1 m1 s1 ks g2 m2 s2 ls := ⟨h.x.below hb, h.y.below hb, h.disj, Nat.le_trans h.hb hb.size⟩
theorem Two.leftX {ks' : List Int} (h : Two base w g1 m1 s1 ks g2 m2 s2 ls) (hl : Left Try.prog kindI base w g1 m1 s1 ks' w') : ∃ s1', Two base w' g1 m1 s1' ks' g2 m2 s2 ls ∧ Below base w w' := by
  obtain ⟨s1', hx, ht, hat⟩ := hl
  refine ⟨s1', ⟨hx, h.y.turns ht (fun b hb hm => h.disj b hm hb), ?_, Nat.le_trans h.hb ht.size⟩, ht.below h.hb (fun b hb => (h.x.foot_lt b hb).1)⟩
  intro b hb
  simp only [foot, List.mem_cons, Option.mem_toList] at hb
  rcases hb with rfl | rfl | hb
  · exact h.disj _ (by simp [foot])
  · exact h.disj _ (by simp [foot])
  · rcases hat b hb with h1 | h1
    · exact h.disj _ (by simp [foot, h1])
    · intro hm; have := (h.y.foot_lt b hm).2; omega
theorem Two.leftY {ls' : List Cst} (h : Two base w g1 m1 s1 ks g2 m2 s2 ls) (hl : Left Try.prog kindC base w g2 m2 s2 ls' w') : ∃ s2', Two base w' g1 m1 s1 ks g2 m2 s2' ls' ∧ Below base w w' := by
  obtain ⟨s2', hy, ht, hat⟩ := hl
  refine ⟨s2', ⟨h.x.turns ht (fun b hb hm => h.disj b hb hm), hy, ?_, Nat.le_trans h.hb ht.size⟩, ht.below h.hb (fun b hb => (h.y.foot_lt b hb).1)⟩
  intro b hb hm
  simp only [foot, List.mem_cons, Option.mem_toList] at hm
  rcases hm with rfl | rfl | hm
  · exact h.disj _ hb (by simp [foot])
  · exact h.disj _ hb (by simp [foot])
  · rcases hat b hm with h1 | h1
    · exact h.disj _ hb (by simp [foot, h1])
    · have := (h.x.foot_lt b hb).2; omega
end

/-- Two new ones. -/
theorem two_new {w w1 w2 : World} {g1 m1 g2 m2 : Nat} (hx : IdsAt Try.prog kindI w.heap.size w1 g1 m1 (.slice none 0 0) []) (b1 : Below w.heap.size w w1)
    (hy : IdsAt Try.prog kindC w1.heap.size w2 g2 m2 (.slice none 0 0) []) (b2 : Below w1.heap.size w1 w2) : Two w.heap.size w2 g1 m1 (.slice none 0 0) [] g2 m2 (.slice none 0 0) [] := by
  have hs := b1.size
  have hs2 := b2.size
  refine ⟨hx.below b2, ⟨hy.blk, World.ownsRow_nil _ _ _ _, hy.map, Nat.le_trans hs hy.gb, Nat.le_trans hs hy.mb⟩, ?_, Nat.le_trans hs hs2⟩
  intro b hb hm
  have h1 := (hx.foot_lt b hb).2
  have h2 := (hy.foot_lt b hm).1
  omega

/-- One call, as the argument holds it. -/
structure NOp where
  k : Int
  a : Int
  n : Int
def NOp.cells (o : NOp) : List Value := [.int .i64 o.k, .int .i64 o.a, .int .i64 o.n]
def NOp.ok (o : NOp) : Prop := (Lit.int .i64 o.k).wf = true ∧ (Lit.int .i64 o.a).wf = true ∧ (Lit.int .i64 o.n).wf = true

theorem wf64 {k : Int} (h : (Lit.int .i64 k).wf = true) : -9223372036854775808 ≤ k ∧ k ≤ 9223372036854775807 := by
  simp [Lit.wf, IntKind.min, IntKind.max, IntKind.signed, IntKind.bits] at h
  exact h

/-- What holds between two rounds. -/
inductive Rel (w : World) (g1 g2 m2 n : Nat) (i : Value) (wr : World) : Prop
  | mk (k : Nat) (s1 s2 : Value) (ks : List Int) (hk : k ≤ n) (hi : i = .int .i64 k) (hp : Pair w.heap.size wr g1 w.heap.size s1 ks g2 m2 s2) (hks : ks.length ≤ k + 1) (hb : Below w.heap.size w wr)

set_option maxRecDepth 100000 in
set_option maxHeartbeats 1000000 in
theorem walk (A : Option Addr) (cap : Nat) (xs : List NOp) (w : World) (hok : ∀ a ∈ xs, a.ok) (hs : SlAt w w.heap.size 3 NOp.cells A xs) (hlen : xs.length ≤ 5900000000000) :
    Calls Try.prog 7 #[.slice A xs.length cap] w fun e w' => e = .returned (.bool true) ∧ Below w.heap.size w w' := by
  go_enter Try.func7, Try.ntmps7
  go_wp2_with fail
  refine (newI w).mono ?_
  rintro e w1 ⟨rfl, hx, b1⟩
  go_wp2_with fail
  refine (newC w1).mono ?_
  rintro e w2 ⟨rfl, hy, b2⟩
  have T0 := two_new hx b1 hy b2
  have B0 : Below w.heap.size w w2 := b1.trans (b2.mono b1.size)
  clear hx b1 hy b2
  generalize w.heap.size + 1 = g1 at T0 ⊢
  generalize w1.heap.size + 1 = g2 at T0 ⊢
  generalize w1.heap.size = m2 at T0
  have h7 : (Lit.int .i64 7).wf = true := by decide
  have h8 : (Lit.int .i64 8).wf = true := by decide
  go_wp2_with fail
  refine (internI_new T0.x T0.hb h7 (by simp) (by simp)).mono ?_
  rintro e w3 ⟨rfl, hl⟩
  obtain ⟨s1, T1, b1⟩ := T0.leftX hl
  have B1 := B0.trans b1
  clear T0 hl B0 b1
  simp only [List.length_nil, List.nil_append] at T1 ⊢
  go_wp2_with fail
  refine (key_any 7 _).mono ?_
  rintro e w4 ⟨rfl, b1⟩
  have T2 := T1.below b1
  have B2 := B1.trans (b1.mono T1.hb)
  clear T1 B1 b1
  go_wp2_with fail
  refine (internC_new T2.y T2.hb (cstOf_ok h7) (by simp) (by simp)).mono ?_
  rintro e w5 ⟨rfl, hl⟩
  obtain ⟨s2, T3, b1⟩ := T2.leftY hl
  have B3 := B2.trans b1
  clear T2 hl B2 b1
  simp only [List.length_nil, List.nil_append] at T3 ⊢
  go_wp2_with fail
  refine (findI_hit T3.x (i := 0) (k := 7) rfl).mono ?_
  rintro e w6 ⟨rfl, rfl⟩
  go_wp2_with fail
  refine (findI_miss T3.x h8 (by decide)).mono ?_
  rintro e w6 ⟨rfl, rfl⟩
  go_wp2_with fail
  refine (lenI T3.x).mono ?_
  rintro e w6 ⟨rfl, rfl⟩
  simp only [List.length_cons, List.length_nil] at ⊢
  go_wp2_with fail
  have P0 : Pair w.heap.size w5 g1 w.heap.size s1 [7] g2 m2 s2 := ⟨T3.x, T3.y, T3.disj, T3.hb, by simpa using h7⟩
  clear T3 h7 h8
  go_loopw [5] (fun i wr => Rel w g1 g2 m2 xs.length i wr) (fun i _ => xs.length - (intOf i).toNat)
  case atStart => exact .mk 0 s1 s2 [7] (Nat.zero_le _) rfl P0 (by simp) B3
  case round =>
    clear P0 B3
    obtain ⟨i, t1, t2, ks, hi, rfl, P1, hks, hb⟩ := hrel
    by_cases hin : i < xs.length
    · obtain ⟨b, off, rfl, hblt, hc⟩ := hs.form (by omega)
      have hci := (hc i xs[i] (List.getElem?_eq_getElem hin)).below hb hblt
      have oki := hok _ (List.getElem_mem hin)
      obtain ⟨a, ha⟩ : ∃ a, a = xs[i] := ⟨_, rfl⟩
      rw [← ha] at hci oki
      clear ha hc
      have i0 := hci 0 _ rfl; have i1 := hci 1 _ rfl; have i2 := hci 2 _ rfl
      simp only [Nat.add_zero] at i0
      have hn := wf64 oki.2.2
      have C1 := Lib.hid (ren_any P1 a.k a.a a.n oki.2.1 hn.1 hn.2 (by omega))
      have HB := Lib.hid (And.intro hb (And.intro P1.hb hks))
      have hii : (0 : Int) ≤ (i : Int) := by omega
      have hin' : (i : Int) < (xs.length : Int) := by omega
      clear hci oki P1 hn hb hks
      go_wp2_with fail
      refine C1.out.mono ?_
      rintro e w' ⟨rfl, s1', s2', ks', P2, hl2, hb2⟩
      obtain ⟨hb, hb0, hks⟩ := HB.out
      go_wp2_with fail

      refine ⟨?_, ?measure⟩
      (repeat apply Exists.intro)
      refine ⟨?rel, rfl⟩
      case rel => exact Rel.mk (i + 1) s1' s2' ks' (by omega) (by go_num) P2 (by omega) (hb.trans hb2)
      case measure => simp [intOf]; omega
    · go_wp2_with fail
      refine (lenI P1.x).mono ?_
      rintro e w' ⟨rfl, rfl⟩
      go_wp2_with fail
      refine (lenC P1.y).mono ?_
      rintro e w' ⟨rfl, rfl⟩
      go_wp2_with fail
      go_ret
      exact ⟨by simp, hb⟩
end Go.Proofs.Ytblonickpmogiaa.symRenamed
