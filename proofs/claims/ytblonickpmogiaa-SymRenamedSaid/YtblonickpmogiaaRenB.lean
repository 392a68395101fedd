/- One call of 'renamed': the other ways. -/
import Derived.Test.YtblonickpmogiaaRen
import Derived.Deep.RegionHeld3
import Derived.Deep.DrawnRows
namespace Go.Proofs.Ytblonickpmogiaa
open Go.RowKit Go.Maps
attribute [local go_sem ↓] Go.wp_at_zero Go.wp_at_succ

set_option maxRecDepth 100000 in
theorem ren1_new {base : Nat} {w : World} {g1 m1 : Nat} {s1 : Value} {ks : List Int} {g2 m2 : Nat} {s2 : Value} (h : Pair base w g1 m1 s1 ks g2 m2 s2) (K N : Int) (hK : (Lit.int .i64 K).wf = true) (hk : K ∉ ks) (hlen : ks.length ≤ 6000000000000) :
    Calls Try.prog 26 #[.pointer (some ⟨g1, 0, none⟩), .pointer (some ⟨g2, 0, none⟩), .agg #[.int .i64 1, .int .i64 K, .int .i64 N]] w fun e w' => e = .returned (.bool true) ∧ Done base w g1 m1 g2 m2 (ks.length + 1) w' := by
  have R := h.ren 1 K N
  have hk2 := not_mem_cst hk
  have hwf : ∀ k ∈ ks ++ [K], (Lit.int .i64 k).wf = true := by
    intro k hm
    rcases List.mem_append.1 hm with hm | hm
    · exact h.wf k hm
    · rw [List.mem_singleton.1 hm]; exact hK
  have B0 : Below base w (w.alloc (.cells #[.int .i64 1, .int .i64 K, .int .i64 N] 41)) := (Below.refl _ _).alloc h.hb _
  clear h
  go_enter Try.func26, Try.ntmps26
  go_wp2_with fail
  refine (lenI R.x).mono ?_
  rintro e w1 ⟨rfl, rfl⟩
  go_wp2_with fail
  refine (findI_miss R.x hK hk).mono ?_
  rintro e w1 ⟨rfl, rfl⟩
  go_wp2_with fail
  refine (internI_new R.x R.hb hK hk hlen).mono ?_
  rintro e w1 ⟨rfl, hl⟩
  obtain ⟨s1', R1, b1⟩ := R.leftX hl
  have B1 := B0.trans b1
  clear R hl B0 b1
  have o1 := R1.c1
  go_wp2_with fail
  refine (lenI R1.x).mono ?_
  rintro e w2 ⟨rfl, rfl⟩
  go_wp2_with fail
  refine (key_any K _).mono ?_
  rintro e w2 ⟨rfl, b1⟩
  have R2 := R1.below b1
  have B2 := B1.trans (b1.mono R1.hb)
  clear o1
  have o1 := R2.c1
  clear R1 B1 b1
  go_wp2_with fail
  refine (internC_new R2.y R2.hb (cstOf_ok hK) hk2 (by simpa using hlen)).mono ?_
  rintro e w3 ⟨rfl, hl⟩
  obtain ⟨s2', R3, b1⟩ := R2.leftY hl
  have B3 := B2.trans b1
  clear o1
  have o1 := R3.c1
  clear R2 hl B2 b1
  go_wp2_with fail
  refine (findI_hit R3.x (i := ks.length) (k := K) (by simp)).mono ?_
  rintro e w4 ⟨rfl, rfl⟩
  go_wp2_with fail
  go_ret
  have R4 : Ren base w3 w.heap.size 1 K N g1 m1 s1' (ks ++ [K]) g2 m2 s2' ((ks ++ [K]).map cstOf) := by rw [List.map_append]; exact R3
  exact ⟨by simp, R4.done hwf (by simp) B3⟩

set_option maxRecDepth 100000 in
/-- Find on both. -/
theorem find_both {ks : List Int} (K : Int) (hK : (Lit.int .i64 K).wf = true) : ∃ r : Int, (∀ (base : Nat) (w : World) (g m : Nat) (s : Value), IdsAt Try.prog kindI base w g m s ks → Calls Try.prog 24 #[.pointer (some ⟨g, 0, none⟩), .int .i64 K] w fun e w' => e = .returned (.int .i64 r) ∧ w = w') ∧
    (∀ (base : Nat) (w : World) (g m : Nat) (s : Value), IdsAt Try.prog kindC base w g m s (ks.map cstOf) → Calls Try.prog 41 #[.pointer (some ⟨g, 0, none⟩), .agg #[.int .i64 1, .int .i64 K, .string ⟨#[]⟩]] w fun e w' => e = .returned (.int .i64 r) ∧ Below w.heap.size w w') := by
  by_cases hk : K ∈ ks
  · obtain ⟨i, hi, rfl⟩ := List.mem_iff_getElem.1 hk
    have h1 : ks[i]? = some ks[i] := List.getElem?_eq_getElem hi
    exact ⟨i, fun base w g m s h => findI_hit h h1, fun base w g m s h => by have := findC_hit h (c := cstOf ks[i]) (by rw [List.getElem?_map, h1]; rfl); simpa only [cstOf] using this⟩
  · exact ⟨-1, fun base w g m s h => findI_miss h hK hk, fun base w g m s h => by have := findC_miss h (cstOf_ok hK) (not_mem_cst hk); simpa only [cstOf] using this⟩

section
variable {base : Nat} {w W w' : World} {H : Nat} {kd K N : Int} {g1 m1 : Nat} {s1 : Value} {ks : List Int} {g2 m2 : Nat} {s2 : Value} {ls : List Cst}
theorem ren_keep (h1 : Ren base W H kd K N g1 m1 s1 ks g2 m2 s2 ls) (h2 : Below base w W) (hb : Below W.heap.size W w') : w'.cell? ⟨H, 1, none⟩ = some (.int .i64 K) ∧ Ren base w' H kd K N g1 m1 s1 ks g2 m2 s2 ls ∧ Below base w w' :=
  ⟨(h1.below hb).c1, h1.below hb, h2.trans (hb.mono h1.hb)⟩
theorem ren_done {ks : List Int} (h : W.cell? ⟨H, 1, none⟩ = some (.int .i64 K) ∧ Ren base W H kd K N g1 m1 s1 ks g2 m2 s2 (ks.map cstOf) ∧ Below base w W) (hw : ∀ k ∈ ks, (Lit.int .i64 k).wf = true) : Done base w g1 m1 g2 m2 (ks.length + 1) W := h.2.1.done hw (by omega) h.2.2
theorem ren_done2 {ks : List Int} {n : Nat} (h : W.cell? ⟨H, 2, none⟩ = some (.int .i64 N) ∧ Ren base W H kd K N g1 m1 s1 ks g2 m2 s2 (ks.map cstOf) ∧ Below base w W) (hw : ∀ k ∈ ks, (Lit.int .i64 k).wf = true) (hn : ks.length ≤ n) : Done base w g1 m1 g2 m2 n W := h.2.1.done hw hn h.2.2
theorem ren_x2 (h : W.cell? ⟨H, 2, none⟩ = some (.int .i64 N) ∧ Ren base W H kd K N g1 m1 s1 ks g2 m2 s2 ls ∧ Below base w W) : IdsAt Try.prog kindI base W g1 m1 s1 ks := h.2.1.x
theorem ren_x (h : W.cell? ⟨H, 1, none⟩ = some (.int .i64 K) ∧ Ren base W H kd K N g1 m1 s1 ks g2 m2 s2 ls ∧ Below base w W) : IdsAt Try.prog kindI base W g1 m1 s1 ks := h.2.1.x
theorem ren_y (h : W.cell? ⟨H, 1, none⟩ = some (.int .i64 K) ∧ Ren base W H kd K N g1 m1 s1 ks g2 m2 s2 ls ∧ Below base w W) : IdsAt Try.prog kindC base W g2 m2 s2 ls := h.2.1.y
end

set_option maxRecDepth 100000 in
theorem ren2 {base : Nat} {w : World} {g1 m1 : Nat} {s1 : Value} {ks : List Int} {g2 m2 : Nat} {s2 : Value} (h : Pair base w g1 m1 s1 ks g2 m2 s2) (K N : Int) (hK : (Lit.int .i64 K).wf = true) :
    Calls Try.prog 26 #[.pointer (some ⟨g1, 0, none⟩), .pointer (some ⟨g2, 0, none⟩), .agg #[.int .i64 2, .int .i64 K, .int .i64 N]] w fun e w' => e = .returned (.bool true) ∧ Done base w g1 m1 g2 m2 (ks.length + 1) w' := by
  have R := h.ren 2 K N
  obtain ⟨r, fx, fy⟩ := find_both (ks := ks) K hK
  have hwf := h.wf
  have B0 : Below base w (w.alloc (.cells #[.int .i64 2, .int .i64 K, .int .i64 N] 41)) := (Below.refl _ _).alloc h.hb _
  have FX := Lib.hid fx; have FY := Lib.hid fy
  clear h fx fy
  go_enter Try.func26, Try.ntmps26
  go_wp2_with fail
  obtain ⟨W, hW⟩ : ∃ W, W = w.alloc (.cells #[.int .i64 2, .int .i64 K, .int .i64 N] 41) := ⟨_, rfl⟩
  rw [← hW] at R B0 ⊢
  clear hW
  have o1 := R.c1
  have hS : (fun w' : World => w'.cell? ⟨w.heap.size, 1, none⟩ = some (.int .i64 K) ∧ Ren base w' w.heap.size 2 K N g1 m1 s1 ks g2 m2 s2 (ks.map cstOf) ∧ Below base w w') W.drew := ⟨o1, R.below (Below.refl _ _).drew, B0.drew⟩
  go_region_held3 (fun w' : World => w'.cell? ⟨w.heap.size, 1, none⟩ = some (.int .i64 K) ∧ Ren base w' w.heap.size 2 K N g1 m1 s1 ks g2 m2 s2 (ks.map cstOf) ∧ Below base w w')
    (first | go_keep | (go_split_ands; exact ren_keep (by assumption) (by assumption) hbel))
    (first | (go_at_call 24; refine (FX.out _ _ _ _ _ (ren_x (by assumption))).mono ?_; rintro e w' ⟨rfl, rfl⟩) | (go_at_call 23; refine (key_any _ _).mono ?_; rintro e w' ⟨rfl, hbel⟩) | (go_at_call 41; refine (FY.out _ _ _ _ _ (ren_y (by assumption))).mono ?_; rintro e w' ⟨rfl, hbel⟩))
  go_wp2
  go_ret
  exact ⟨by simp, ren_done (by assumption) hwf⟩

theorem ret_beq {a b : Int} (h : a = b) : Ending.returned (.bool (a == b)) = .returned (.bool true) := by rw [beq_iff_eq.2 h]
theorem max_min (a : Nat) (n : Int) : max 0 (min (a : Int) n) = ((min a n.toNat : Nat) : Int) := by omega

set_option maxRecDepth 100000 in
set_option maxHeartbeats 2000000 in
theorem ren6 {base : Nat} {w : World} {g1 m1 : Nat} {s1 : Value} {ks : List Int} {g2 m2 : Nat} {s2 : Value} (h : Pair base w g1 m1 s1 ks g2 m2 s2) (K N : Int) (n1 : -9223372036854775808 ≤ N) (n2 : N ≤ 9223372036854775807) (hlen : ks.length ≤ 6000000000000) :
    Calls Try.prog 26 #[.pointer (some ⟨g1, 0, none⟩), .pointer (some ⟨g2, 0, none⟩), .agg #[.int .i64 6, .int .i64 K, .int .i64 N]] w fun e w' => e = .returned (.bool true) ∧ Done base w g1 m1 g2 m2 (ks.length + 1) w' := by
  have R := h.ren 6 K N
  have hwf : ∀ k ∈ ks.take N.toNat, (Lit.int .i64 k).wf = true := fun k hk => h.wf k (List.mem_of_mem_take hk)
  have B0 : Below base w (w.alloc (.cells #[.int .i64 6, .int .i64 K, .int .i64 N] 41)) := (Below.refl _ _).alloc h.hb _
  have hml : (ks.take N.toNat).length = min N.toNat ks.length := List.length_take
  have hmm := max_min ks.length N
  have hlt : (ks.take N.toNat).length ≤ ks.length + 1 := by rw [hml]; omega
  have HM : Hid (((ks.take N.toNat).length : Int) = max 0 (min (ks.length : Int) N)) := by
    show ((ks.take N.toNat).length : Int) = _
    rw [hmm, hml, Nat.min_comm]
  clear h hmm hml
  go_enter Try.func26, Try.ntmps26
  go_wp2_with fail
  refine (lenI R.x).mono ?_
  rintro e w1 ⟨rfl, rfl⟩
  go_wp2_with fail
  refine (cutI R.x N n1 n2 hlen).mono ?_
  rintro e w1 ⟨rfl, hl⟩
  obtain ⟨s1', R1, b1⟩ := R.leftX hl
  have B1 := B0.trans b1
  clear R hl B0 b1
  have o1 := R1.c2
  go_wp2_with fail
  refine (cutC R1.y N n1 n2 (by simpa using hlen)).mono ?_
  rintro e w2 ⟨rfl, hl⟩
  obtain ⟨s2', R2, b1⟩ := R1.leftY hl
  have B2 := B1.trans b1
  clear R1 hl B1 b1 o1
  have o1 := R2.c2
  rw [← List.map_take] at R2
  go_wp2_with fail
  obtain ⟨kt, hkt⟩ : ∃ kt, kt = ks.take N.toNat := ⟨_, rfl⟩
  rw [← hkt] at R2 hwf hlt HM
  clear hkt
  have hS : (fun w' : World => w'.cell? ⟨w.heap.size, 2, none⟩ = some (.int .i64 N) ∧ Ren base w' w.heap.size 6 K N g1 m1 s1' kt g2 m2 s2' (kt.map cstOf) ∧ Below base w w') w2.drew := ⟨o1, R2.below (Below.refl _ _).drew, B2.drew⟩
  clear R2 B2
  rcases (show N < 0 ∨ (N ≤ 0 ∧ 0 ≤ N ∧ (ks.length : Int) ≤ 0) ∨ (N ≤ 0 ∧ 0 ≤ N ∧ 0 < (ks.length : Int)) ∨ (0 < N ∧ N < (ks.length : Int)) ∨ (0 < N ∧ (ks.length : Int) ≤ N ∧ (ks.length : Int) ≤ 0) ∨ (0 < N ∧ (ks.length : Int) ≤ N ∧ 0 < (ks.length : Int)) by omega) with h | ⟨h, h', h''⟩ | ⟨h, h', h''⟩ | ⟨h, h'⟩ | ⟨h, h', h''⟩ | ⟨h, h', h''⟩
  all_goals
    go_region_held3 (fun w' : World => w'.cell? ⟨w.heap.size, 2, none⟩ = some (.int .i64 N) ∧ Ren base w' w.heap.size 6 K N g1 m1 s1' kt g2 m2 s2' (kt.map cstOf) ∧ Below base w w')
      (go_keep)
      (first | (go_at_call 25; refine (lenI (ren_x2 (by assumption))).mono ?_; rintro e w' ⟨rfl, rfl⟩))
    all_goals go_wp2
    all_goals (go_ret; exact ⟨ret_beq (by have hm := HM.out; omega), ren_done2 (by assumption) hwf hlt⟩)
end Go.Proofs.Ytblonickpmogiaa
