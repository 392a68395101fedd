/- idsStep's calls 5 and 7: All. -/
import Derived.Test.YtblonickpmogiaaIdsStep1
import Derived.Test.YtblonickpmogiaaIdsEveryW
import Derived.Test.YtblonickpmogiaaIdsShort
namespace Go.Proofs.Ytblonickpmogiaa
open Go.RowKit Go.Maps

theorem own_none {w : World} {base n c : Nat} {A : Option Addr} {e : TypeId} {sz m : Nat} {xs : List Value} (h : w.ownsRow base e sz (.slice A n c) m xs) : A = none → c = 0 := by
  rintro rfl
  rcases h.2 with ⟨e, _⟩ | ⟨_, _, _, e, _⟩
  · injection e with _ _ e
  · cases e

set_option maxRecDepth 100000 in
set_option maxHeartbeats 2000000 in
theorem step5 {base : Nat} {w : World} {g1 m1 : Nat} {s1 : Value} {g2 : Nat} {s2 : Value} {ks : List ByteArray} (h : Both base w g1 m1 s1 g2 s2 ks) (K : ByteArray) (N : Int) (hK : K.size ≤ maxLen) (n1 : -9223372036854775808 ≤ N) (n2 : N ≤ 9223372036854775807) (hlen : ks.length ≤ 900000000000) :
    Calls Try.prog 30 #[.pointer (some ⟨g1, 0, none⟩), .pointer (some ⟨g2, 0, none⟩), .agg #[.int .i64 5, .string K, .int .i64 N]] w fun e w' => e = .returned (.bool true) ∧ DoneS base w g1 m1 g2 (ks.length + 1) w' := by
  obtain ⟨W, hW, hbox, B, hB⟩ := h.boxed 5 N K
  have o2 : W.cell? ⟨w.heap.size, 2, none⟩ = some (.int .i64 N) := cell_of_row W _ 2 _ _ _ hbox
  have o1 : W.cell? ⟨w.heap.size, 1, none⟩ = some (.string K) := cell_of_row W _ 1 _ _ _ hbox
  have o0 : W.cell? ⟨w.heap.size, 0, none⟩ = some (.int .i64 5) := cell_of_row W _ 0 _ _ _ hbox
  obtain ⟨r, -, hy⟩ := intern_two (ks := ks) K hK (by omega)
  have hwf := addK_wf h.wf hK
  have hal := addK_len ks K
  have HE := Lib.hid (everyS B.x B.hb K hK N (by omega))
  have HY := Lib.hid hy
  have HBx := Lib.hid hbox
  have hsep : ∀ b, W.heap.size ≤ b → b ∉ rfoot g2 s2 := fun b hb hm => by have := (B.y.foot_lt b hm).2; omega
  have M := B.mid
  clear h hbox hy B
  obtain ⟨z, hz⟩ : ∃ z, z = W.heap.size := ⟨_, rfl⟩
  rw [← hz] at hsep HE
  clear hz
  subst hW
  go_enter Try.func30, Try.ntmps30
  go_wp2_with fail
  refine HE.out.mono ?_
  rintro e w1 ⟨u, v, rfl, ru, rv, hl⟩
  obtain ⟨t1, M1, b1⟩ := M.leftX hl
  have B1 := hB.trans b1
  have bx1 := left_cell hl M.x HBx.out
  have q1 : w1.cell? ⟨w.heap.size, 1, none⟩ = some (.string K) := cell_of_row w1 _ 1 _ _ _ bx1
  clear M hl hB b1 o0 o1 o2
  go_wp2_with fail
  refine (HY.out _ _ _ _ M1.hb M1.y).mono ?_
  rintro e w2 ⟨rfl, hl⟩
  obtain ⟨t2, M2, b2⟩ := M1.leftY hl
  have B2 := B1.trans b2
  have bx2 := ref_cell hl M1.y bx1
  have ru2 := ownsRow_turns ru hl.choose_spec.2.1 (fun b hb => hsep b (ownBlock_cells ru hb).1)
  have rv2 := ownsRow_turns rv hl.choose_spec.2.1 (fun b hb => hsep b (ownBlock_cells rv hb).1)
  clear M1 hl B1 b2 q1 bx1 ru rv hsep
  go_wp2_with fail
  refine (allR M2.y (by omega)).mono ?_
  rintro e w3 ⟨l, rfl, rl, b3⟩
  have M3 := M2.below b3
  have B3 := B2.trans (b3.mono M2.hb)
  have bx3 : w3.heap[w.heap.size]? = _ := (b3.block _ (lt_of_heap bx2)).trans bx2
  have q2 : w3.cell? ⟨w.heap.size, 2, none⟩ = some (.int .i64 N) := cell_of_row w3 _ 2 _ _ _ bx3
  have ru3 := ownsRow_turns ru2 (Turns.of_below (S := []) b3) (fun b _ => by simp)
  have rv3 := ownsRow_turns rv2 (Turns.of_below (S := []) b3) (fun b _ => by simp)
  obtain ⟨ua, uc, rfl, _, _, us, _⟩ := own_sl ru3
  obtain ⟨va, vc, rfl, _, _, vs, _⟩ := own_sl rv3
  obtain ⟨la, lc, rfl, h1, h2, ls, _⟩ := own_sl rl
  have HF := Lib.hid (first_sl ls (own_none rl) h1 h2 N n1 n2)
  have tl : ((addK ks K).take N.toNat).length ≤ 6000000000000 := by rw [List.length_take]; omega
  obtain ⟨ts, hts⟩ : ∃ ts, ts = (addK ks K).take N.toNat := ⟨_, rfl⟩
  rw [← hts] at HF us tl
  simp only [← hts] at ⊢
  have FIN : ∀ n, Hid (DoneS base w g1 m1 g2 (ks.length + 1) (w3.drewN n)) := fun n => ⟨_, _, _, (M3.both hwf).drewN n, hal, B3.trans (drewN_below (Below.refl _ _) n)⟩
  clear M2 B2 bx2 ru2 rv2 ru3 rv3 rl M3 B3 bx3 b3 hts
  go_wp2_with fail
  refine HF.out.mono ?_
  rintro e w4 ⟨⟨c', rfl, ms⟩, rfl⟩
  have S1 := Lib.hid (strings_same va la vc lc (addK ks K) w3 vs ls (by omega))
  have S2 := fun n => Lib.hid (strings_same ua la uc c' ts (w3.drewN n) us ms tl)
  clear us vs ls ms tl
  go_wp2_with fail
  refine S1.out.mono ?_
  rintro e w4 ⟨rfl, n, rfl⟩
  have S2' := S2 n
  clear S2
  go_wp2_with fail
  refine S2'.out.mono ?_
  rintro e w4 ⟨rfl, n', rfl⟩
  go_wp2_with fail
  go_ret
  exact ⟨rfl, (FIN (n + n')).out⟩

set_option maxRecDepth 100000 in
set_option maxHeartbeats 2000000 in
theorem step7 {base : Nat} {w : World} {g1 m1 : Nat} {s1 : Value} {g2 : Nat} {s2 : Value} {ks : List ByteArray} (h : Both base w g1 m1 s1 g2 s2 ks) (K : ByteArray) (N : Int) (n1 : -9223372036854775808 ≤ N) (n2 : N ≤ 9223372036854775807) (hlen : ks.length ≤ 900000000000) :
    Calls Try.prog 30 #[.pointer (some ⟨g1, 0, none⟩), .pointer (some ⟨g2, 0, none⟩), .agg #[.int .i64 7, .string K, .int .i64 N]] w fun e w' => e = .returned (.bool true) ∧ DoneS base w g1 m1 g2 (ks.length + 1) w' := by
  obtain ⟨W, hW, hbox, B, hB⟩ := h.boxed 7 N K
  have o2 : W.cell? ⟨w.heap.size, 2, none⟩ = some (.int .i64 N) := cell_of_row W _ 2 _ _ _ hbox
  have o1 : W.cell? ⟨w.heap.size, 1, none⟩ = some (.string K) := cell_of_row W _ 1 _ _ _ hbox
  have o0 : W.cell? ⟨w.heap.size, 0, none⟩ = some (.int .i64 7) := cell_of_row W _ 0 _ _ _ hbox
  have hwf : ∀ k ∈ ks.take N.toNat, k.size ≤ maxLen := fun k hk => h.wf k (List.mem_of_mem_take hk)
  have HY := Lib.hid (cutR B.y B.hb (by omega) N n1 n2)
  have HBx := Lib.hid hbox
  have M := B.mid
  have tl : (ks.take N.toNat).length ≤ ks.length := by rw [List.length_take]; omega
  obtain ⟨ts, hts⟩ : ∃ ts, ts = ks.take N.toNat := ⟨_, rfl⟩
  rw [← hts] at HY tl hwf
  clear h hbox B
  subst hW
  go_enter Try.func30, Try.ntmps30
  go_wp2_with fail
  refine HY.out.mono ?_
  rintro e w1 ⟨rfl, hl⟩
  obtain ⟨t2, M1, b1⟩ := M.leftY hl
  have B1 := hB.trans b1
  have bx1 := ref_cell hl M.y HBx.out
  have q1 : w1.cell? ⟨w.heap.size, 2, none⟩ = some (.int .i64 N) := cell_of_row w1 _ 2 _ _ _ bx1
  have HS := shortS M1.x N n1 n2 (by omega)
  rw [← hts] at HS
  have HS := Lib.hid HS
  clear M hl hB b1 o0 o1 o2 bx1 hts
  go_wp2_with fail
  refine HS.out.mono ?_
  rintro e w2 ⟨u, rfl, ru, hl⟩
  obtain ⟨t1, M2, b2⟩ := M1.leftX hl
  have B2 := B1.trans b2
  clear M1 hl B1 b2 q1
  go_wp2_with fail
  refine (allR M2.y (by omega)).mono ?_
  rintro e w3 ⟨l, rfl, rl, b3⟩
  have M3 := M2.below b3
  have B3 := B2.trans (b3.mono M2.hb)
  have ru3 := ownsRow_turns ru (Turns.of_below (S := []) b3) (fun b _ => by simp)
  obtain ⟨ua, uc, rfl, _, _, us, _⟩ := own_sl ru3
  obtain ⟨la, lc, rfl, _, _, ls, _⟩ := own_sl rl
  have FIN : ∀ n, Hid (DoneS base w g1 m1 g2 (ks.length + 1) (w3.drewN n)) := fun n => ⟨_, _, _, (M3.both hwf).drewN n, by omega, B3.trans (drewN_below (Below.refl _ _) n)⟩
  have S1 := Lib.hid (strings_same ua la uc lc ts w3 us ls (by omega))
  clear M2 B2 ru ru3 rl M3 B3 b3 us ls tl
  go_wp2_with fail
  refine S1.out.mono ?_
  rintro e w4 ⟨rfl, n, rfl⟩
  go_wp2_with fail
  go_ret
  exact ⟨rfl, (FIN n).out⟩

/-- Any call. -/
theorem step_any {base : Nat} {w : World} {g1 m1 : Nat} {s1 : Value} {g2 : Nat} {s2 : Value} {ks : List ByteArray} (h : Both base w g1 m1 s1 g2 s2 ks) (kd : Int) (K : ByteArray) (N : Int) (hK : K.size ≤ maxLen) (n1 : -9223372036854775808 ≤ N) (n2 : N ≤ 9223372036854775807) (hlen : ks.length ≤ 900000000000) :
    Calls Try.prog 30 #[.pointer (some ⟨g1, 0, none⟩), .pointer (some ⟨g2, 0, none⟩), .agg #[.int .i64 kd, .string K, .int .i64 N]] w fun e w' => e = .returned (.bool true) ∧ DoneS base w g1 m1 g2 (ks.length + 1) w' := by
  by_cases k1 : kd = 1
  · subst k1; exact step1 h K N hK (by omega)
  by_cases k2 : kd = 2
  · subst k2; exact step2 h K N hK (by omega)
  by_cases k3 : kd = 3
  · subst k3; exact step3 h K N
  by_cases k4 : kd = 4
  · subst k4; exact step4 h K N
  by_cases k5 : kd = 5
  · subst k5; exact step5 h K N hK n1 n2 hlen
  by_cases k6 : kd = 6
  · subst k6; exact step6 h K N n1 n2 (by omega)
  by_cases k7 : kd = 7
  · subst k7; exact step7 h K N n1 n2 hlen
  exact stepO h K N kd k1 k2 k3 k4 k5 k6 k7
end Go.Proofs.Ytblonickpmogiaa
