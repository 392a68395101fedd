/- The walk of SymIds: it returns true. -/
import Derived.Test.YtblonickpmogiaaIdsStep5
namespace Go.Proofs.Ytblonickpmogiaa.symIds
open Go.RowKit Go.Maps

/-- One call, as the argument holds it. -/
structure SOp where
  k : Int
  s : ByteArray
  n : Int
def SOp.cells (o : SOp) : List Value := [.int .i64 o.k, .string o.s, .int .i64 o.n]
def SOp.ok (o : SOp) : Prop := (Lit.int .i64 o.k).wf = true ∧ o.s.size ≤ maxLen ∧ (Lit.int .i64 o.n).wf = true

theorem wf64 {k : Int} (h : (Lit.int .i64 k).wf = true) : -9223372036854775808 ≤ k ∧ k ≤ 9223372036854775807 := by
  simp [Lit.wf, IntKind.min, IntKind.max, IntKind.signed, IntKind.bits] at h
  exact h

theorem slAt_mono {α : Type} {w : World} {B B' sz : Nat} {enc : α → List Value} {A : Option Addr} {xs : List α} (h : SlAt w B sz enc A xs) (hB : B ≤ B') : SlAt w B' sz enc A xs := by
  rcases h with h | ⟨b, off, hA, hlt, hc⟩
  · exact .inl h
  · exact .inr ⟨b, off, hA, by omega, hc⟩

/-- What holds between two rounds. -/
inductive Rel (w : World) (g1 m1 g2 l n : Nat) (i : Value) (wr : World) : Prop
  | mk (k : Nat) (s1 s2 : Value) (ks : List ByteArray) (hk : k ≤ n) (hi : i = .int .i64 k) (hp : Both w.heap.size wr g1 m1 s1 g2 s2 ks) (hks : ks.length ≤ l + k) (hb : Below w.heap.size w wr)

/-- Two new ones. -/
theorem both_new {w w1 w2 : World} {g1 m1 g2 : Nat} {s1 s2 : Value} {ks : List ByteArray} (hy : RefAt w.heap.size w1 g2 s2 ks) (b1 : Below w.heap.size w w1)
    (hx : IdsAt Try.prog kindS w1.heap.size w2 g1 m1 s1 ks) (b2 : Below w1.heap.size w1 w2) (hw : ∀ k ∈ ks, k.size ≤ maxLen) : Both w.heap.size w2 g1 m1 s1 g2 s2 ks := by
  have hs := b1.size
  have hs2 := b2.size
  refine ⟨⟨hx.blk, ownsRow_weak hx.own hs, hx.map, Nat.le_trans hs hx.gb, Nat.le_trans hs hx.mb⟩, hy.below b2, ?_, Nat.le_trans hs hs2, hw⟩
  intro b hb hm
  have h1 := (hy.foot_lt b hm).2
  have h2 := (hx.foot_lt b hb).1
  omega

set_option maxRecDepth 100000 in
set_option maxHeartbeats 1000000 in
theorem walk (A : Option Addr) (cap : Nat) (xs : List ByteArray) (A' : Option Addr) (cap' : Nat) (ys : List SOp) (w : World) (hok : ∀ k ∈ xs, k.size ≤ maxLen) (hs : SlAt w w.heap.size 1 strCells A xs)
    (hok' : ∀ a ∈ ys, a.ok) (hs' : SlAt w w.heap.size 3 SOp.cells A' ys) (hlen : xs.length ≤ 100000000000) (hlen' : ys.length ≤ 100000000000) :
    Calls Try.prog 8 #[.slice A xs.length cap, .slice A' ys.length cap'] w fun e w' => e = .returned (.bool true) ∧ Below w.heap.size w w' := by
  go_enter Try.func8, Try.ntmps8
  go_wp2_with fail
  refine (newR A cap xs w hok hs (by omega)).mono ?_
  rintro e w1 ⟨rfl, ⟨s2, hy⟩, b1⟩
  have hs1 := slAt_mono (hs.below b1 (Nat.le_refl _)) b1.size
  go_wp2_with fail
  refine (newS A cap xs w1 hok hs1 (by omega)).mono ?_
  rintro e w2 ⟨rfl, ⟨s1, hx⟩, b2⟩
  have T0 := both_new hy b1 hx b2 (allK_wf hok)
  have B0 : Below w.heap.size w w2 := b1.trans (b2.mono b1.size)
  have hl0 := allK_len xs
  clear hx b1 hy b2 hs1 hs
  generalize w1.heap.size + 1 = g1 at T0 ⊢
  generalize w1.heap.size = m1 at T0
  go_wp2_with fail
  go_loopw [7] (fun i wr => Rel w g1 m1 w.heap.size xs.length ys.length i wr) (fun i _ => ys.length - (intOf i).toNat)
  case atStart => exact .mk 0 s1 s2 _ (Nat.zero_le _) rfl T0 hl0 B0
  case round =>
    clear T0 B0
    obtain ⟨i, t1, t2, ks, hi, rfl, P1, hks, hb⟩ := hrel
    by_cases hin : i < ys.length
    · obtain ⟨b, off, rfl, hblt, hc⟩ := hs'.form (by omega)
      have hci := (hc i ys[i] (List.getElem?_eq_getElem hin)).below hb hblt
      have oki := hok' _ (List.getElem_mem hin)
      obtain ⟨a, ha⟩ : ∃ a, a = ys[i] := ⟨_, rfl⟩
      rw [← ha] at hci oki
      clear ha hc
      have i0 := hci 0 _ rfl; have i1 := hci 1 _ rfl; have i2 := hci 2 _ rfl
      simp only [Nat.add_zero] at i0
      have hn := wf64 oki.2.2
      have C1 := Lib.hid (step_any P1 a.k a.s a.n oki.2.1 hn.1 hn.2 (by omega))
      have HB := Lib.hid (And.intro hb (And.intro P1.hb hks))
      have hii : (0 : Int) ≤ (i : Int) := by omega
      have hin' : (i : Int) < (ys.length : Int) := by omega
      clear hci oki P1 hn hb hks hok hok'
      go_wp2_with fail
      refine C1.out.mono ?_
      rintro e w' ⟨rfl, s1', s2', ks', P2, hl2, hb2⟩
      obtain ⟨hb, hb0, hks⟩ := HB.out
      go_wp2_with fail
      exact ⟨Rel.mk (i + 1) s1' s2' ks' (by omega) (by go_num) P2 (by omega) (hb.trans hb2), by simp [intOf]; omega⟩
    · have C1 := Lib.hid (step_any P1 5 ⟨#[]⟩ 1 (by decide) (by decide) (by decide) (by omega))
      clear hok hok' hs'
      go_wp2_with fail
      refine C1.out.mono ?_
      rintro e w' ⟨rfl, s1', s2', ks', P2, hl2, hb2⟩
      have C2 := Lib.hid (step_any P2 4 ⟨#[]⟩ 0 (by decide) (by decide) (by decide) (by omega))
      go_wp2_with fail
      refine C2.out.mono ?_
      rintro e w'' ⟨rfl, _, _, _, _, _, hb3⟩
      go_wp2_with fail
      go_ret
      exact ⟨by simp, (hb.trans hb2).trans hb3⟩
end Go.Proofs.Ytblonickpmogiaa.symIds
