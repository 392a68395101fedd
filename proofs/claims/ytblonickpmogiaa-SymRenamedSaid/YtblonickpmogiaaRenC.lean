/- One call of 'renamed': the way of At. -/
import Derived.Test.YtblonickpmogiaaRenB
import Derived.Deep.QuietTactic
import Derived.BigQuiet
namespace Go.Proofs.Ytblonickpmogiaa
open Go.RowKit Go.Maps
attribute [local go_sem ↓] Go.wp_at_zero Go.wp_at_succ

theorem Ren.drewN {base : Nat} {w : World} {H : Nat} {kd K N : Int} {g1 m1 : Nat} {s1 : Value} {ks : List Int} {g2 m2 : Nat} {s2 : Value} {ls : List Cst} (h : Ren base w H kd K N g1 m1 s1 ks g2 m2 s2 ls) (n : Nat) : Ren base (w.drewN n) H kd K N g1 m1 s1 ks g2 m2 s2 ls := h.below (below_drewN (Below.refl _ _) n)

section
variable {base : Nat} {w W w' : World} {H C : Nat} {kd K N : Int} {g1 m1 : Nat} {s1 : Value} {ks : List Int} {g2 m2 : Nat} {s2 : Value} {ls : List Cst} {c : Cst}
/-- The constant c in block C, beside. -/
theorem ren_x3 (h : W.cell? ⟨H, 2, none⟩ = some (.int .i64 N) ∧ W.heap[C]? = some (.cells #[.int .i64 c.k, .int .i64 c.n, .string c.s] 27 (0, 0)) ∧ Ren base W H kd K N g1 m1 s1 ks g2 m2 s2 ls ∧ Below base w W) : IdsAt Try.prog kindI base W g1 m1 s1 ks := h.2.2.1.x
theorem ren_keep3 (h1 : W.heap[C]? = some (.cells #[.int .i64 c.k, .int .i64 c.n, .string c.s] 27 (0, 0))) (h2 : Ren base W H kd K N g1 m1 s1 ks g2 m2 s2 ls) (h3 : Below base w W) (hb : Below W.heap.size W w') : w'.cell? ⟨H, 2, none⟩ = some (.int .i64 N) ∧ w'.heap[C]? = some (.cells #[.int .i64 c.k, .int .i64 c.n, .string c.s] 27 (0, 0)) ∧ Ren base w' H kd K N g1 m1 s1 ks g2 m2 s2 ls ∧ Below base w w' :=
  ⟨(h2.below hb).c2, (hb.block C (lt_of_heap h1)).trans h1, h2.below hb, h3.trans (hb.mono h2.hb)⟩
theorem ren_keep4 {x : Int} (h1 : W.heap[C]? = some (.cells #[.int .i64 1, .int .i64 x, .string ⟨#[]⟩] 27 (0, 0))) (h2 : Ren base W H kd K N g1 m1 s1 ks g2 m2 s2 ls) (h3 : Below base w W) (hb : Below W.heap.size W w') : w'.cell? ⟨H, 2, none⟩ = some (.int .i64 N) ∧ w'.cell? ⟨C, 0, none⟩ = some (.int .i64 (1)) ∧ w'.cell? ⟨C, 1, none⟩ = some (.int .i64 x) ∧ w'.cell? ⟨C, 2, none⟩ = some (.string ⟨#[]⟩) ∧ w'.heap[C]? = some (.cells #[.int .i64 (1), .int .i64 x, .string ⟨#[]⟩] 27 (0, 0)) ∧ Ren base w' H kd K N g1 m1 s1 ks g2 m2 s2 ls ∧ Below base w w' := by
  have cW := (hb.block C (lt_of_heap h1)).trans h1
  exact ⟨(h2.below hb).c2, cell_of_row w' C 0 _ _ _ cW, cell_of_row w' C 1 _ _ _ cW, cell_of_row w' C 2 _ _ _ cW, cW, h2.below hb, h3.trans (hb.mono h2.hb)⟩
theorem ren_x4 {x : Int} (h : W.cell? ⟨H, 2, none⟩ = some (.int .i64 N) ∧ W.cell? ⟨C, 0, none⟩ = some (.int .i64 (1)) ∧ W.cell? ⟨C, 1, none⟩ = some (.int .i64 x) ∧ W.cell? ⟨C, 2, none⟩ = some (.string ⟨#[]⟩) ∧ W.heap[C]? = some (.cells #[.int .i64 (1), .int .i64 x, .string ⟨#[]⟩] 27 (0, 0)) ∧ Ren base W H kd K N g1 m1 s1 ks g2 m2 s2 ls ∧ Below base w W) : IdsAt Try.prog kindI base W g1 m1 s1 ks := h.2.2.2.2.2.1.x
theorem ren_done4 {x : Int} {ks : List Int} {n : Nat} (h : W.cell? ⟨H, 2, none⟩ = some (.int .i64 N) ∧ W.cell? ⟨C, 0, none⟩ = some (.int .i64 (1)) ∧ W.cell? ⟨C, 1, none⟩ = some (.int .i64 x) ∧ W.cell? ⟨C, 2, none⟩ = some (.string ⟨#[]⟩) ∧ W.heap[C]? = some (.cells #[.int .i64 (1), .int .i64 x, .string ⟨#[]⟩] 27 (0, 0)) ∧ Ren base W H kd K N g1 m1 s1 ks g2 m2 s2 (ks.map cstOf) ∧ Below base w W) (hw : ∀ k ∈ ks, (Lit.int .i64 k).wf = true) (hn : ks.length ≤ n) : Done base w g1 m1 g2 m2 n W := h.2.2.2.2.2.1.done hw hn h.2.2.2.2.2.2
theorem ren_done3 {ks : List Int} {n : Nat} (h : W.cell? ⟨H, 2, none⟩ = some (.int .i64 N) ∧ W.heap[C]? = some (.cells #[.int .i64 c.k, .int .i64 c.n, .string c.s] 27 (0, 0)) ∧ Ren base W H kd K N g1 m1 s1 ks g2 m2 s2 (ks.map cstOf) ∧ Below base w W) (hw : ∀ k ∈ ks, (Lit.int .i64 k).wf = true) (hn : ks.length ≤ n) : Done base w g1 m1 g2 m2 n W := h.2.2.1.done hw hn h.2.2.2
end

set_option maxRecDepth 100000 in
theorem ren_out {base : Nat} {w : World} {g1 m1 : Nat} {s1 : Value} {ks : List Int} {g2 m2 : Nat} {s2 : Value} (h : Pair base w g1 m1 s1 ks g2 m2 s2) (kd K N : Int) (k1 : kd ≠ 1) (k2 : kd ≠ 2) (k6 : kd ≠ 6) (hN : N < 0 ∨ (ks.length : Int) ≤ N) (n1 : -9223372036854775808 ≤ N) (n2 : N ≤ 9223372036854775807) (hlen : ks.length ≤ 6000000000000) :
    Calls Try.prog 26 #[.pointer (some ⟨g1, 0, none⟩), .pointer (some ⟨g2, 0, none⟩), .agg #[.int .i64 kd, .int .i64 K, .int .i64 N]] w fun e w' => e = .returned (.bool true) ∧ Done base w g1 m1 g2 m2 (ks.length + 1) w' := by
  have R := h.ren kd K N
  have hwf := h.wf
  have B0 : Below base w (w.alloc (.cells #[.int .i64 kd, .int .i64 K, .int .i64 N] 41)) := (Below.refl _ _).alloc h.hb _
  have o0 := R.c0
  have e1 : (kd == 1) = false := by simpa using k1
  have e2 : (kd == 2) = false := by simpa using k2
  have e6 : (kd == 6) = false := by simpa using k6
  clear h k1 k2 k6
  go_enter Try.func26, Try.ntmps26
  go_wp2_with fail
  go_goals
  refine (atI_out R.x hN).mono ?_
  rintro e w1 ⟨rfl, rfl⟩
  go_wp2_with fail
  refine (atC_out R.y (by simpa using hN)).mono ?_
  rintro e w1 ⟨rfl, b1⟩
  have R1 := R.below b1
  have B1 := B0.trans (b1.mono R.hb)
  clear R B0 b1 o0
  have o1 := R1.c2
  go_wp2_with fail
  obtain ⟨W, hW⟩ : ∃ W, W = w1.alloc (.cells #[.int .i64 0, .int .i64 0, .string ⟨#[]⟩] 27) := ⟨_, rfl⟩
  have bW : Below w1.heap.size w1 W := by rw [hW]; exact (Below.refl _ _).alloc (Nat.le_refl _) _
  have cW : W.heap[w1.heap.size]? = some (.cells #[.int .i64 0, .int .i64 0, .string ⟨#[]⟩] 27 (0, 0)) := by rw [hW]; exact heap_alloc_new w1 _
  rw [← hW]
  clear hW
  have R2 := R1.below bW
  have B2 := B1.trans (bW.mono R1.hb)
  clear R1 B1 bW o1
  obtain ⟨C, hC⟩ : ∃ C, C = w1.heap.size := ⟨_, rfl⟩
  rw [← hC] at cW ⊢
  clear hC
  have o1 := R2.c2
  have p0 := cell_of_row W C 0 _ _ _ cW
  have p1 := cell_of_row W C 1 _ _ _ cW
  have p2 := cell_of_row W C 2 _ _ _ cW
  simp only [List.getElem?_toArray, List.getElem?_cons_zero, List.getElem?_cons_succ] at p0 p1 p2
  rcases hN with hN | hN
  · have g1' : (decide (0 ≤ N)) = false := by simpa using hN
    go_quiet (fail)
    go_wp2
    go_ret
    exact ⟨rfl, (R2.drewN _).done hwf (by omega) (below_drewN B2 _)⟩
  · by_cases hN0 : N < 0
    · exact absurd hN0 (by omega)
    · have g2' : (decide (N < (ks.length : Int))) = false := by simpa using hN
      have g1' : 0 ≤ N := by omega
      clear hN0
      go_quiet ((go_at_call 25; exact Calls.quiet_of_same ((lenI (R2.drewN _).x).mono (fun _ _ h => ⟨h.1, h.2.symm⟩))))
      go_wp2
      go_ret
      exact ⟨rfl, (R2.drewN _).done hwf (by omega) (below_drewN B2 _)⟩

set_option maxRecDepth 100000 in
set_option maxHeartbeats 2000000 in
theorem ren_in {base : Nat} {w : World} {g1 m1 : Nat} {s1 : Value} {ks : List Int} {g2 m2 : Nat} {s2 : Value} (h : Pair base w g1 m1 s1 ks g2 m2 s2) (kd K : Int) (N : Nat) (x : Int) (k1 : kd ≠ 1) (k2 : kd ≠ 2) (k6 : kd ≠ 6) (hN : ks[N]? = some x) :
    Calls Try.prog 26 #[.pointer (some ⟨g1, 0, none⟩), .pointer (some ⟨g2, 0, none⟩), .agg #[.int .i64 kd, .int .i64 K, .int .i64 N]] w fun e w' => e = .returned (.bool true) ∧ Done base w g1 m1 g2 m2 (ks.length + 1) w' := by
  have R := h.ren kd K N
  have hwf := h.wf
  have hlt : N < ks.length := (List.getElem?_eq_some_iff.1 hN).1
  have q1 : (0 : Int) ≤ N := by omega
  have q2 : (N : Int) < (ks.length : Int) := by omega
  have B0 : Below base w (w.alloc (.cells #[.int .i64 kd, .int .i64 K, .int .i64 N] 41)) := (Below.refl _ _).alloc h.hb _
  have o0 := R.c0
  have e1 : (kd == 1) = false := by simpa using k1
  have e2 : (kd == 2) = false := by simpa using k2
  have e6 : (kd == 6) = false := by simpa using k6
  have hN2 : (ks.map cstOf)[N]? = some (cstOf x) := by rw [List.getElem?_map, hN]; rfl
  clear h k1 k2 k6
  have HN := Lib.hid hN
  have HN2 := Lib.hid hN2
  clear hN hN2
  go_enter Try.func26, Try.ntmps26
  go_wp2_with fail
  refine (atI_in R.x HN.out).mono ?_
  rintro e w1 ⟨rfl, rfl⟩
  go_wp2_with fail
  have hat := atC_in R.y HN2.out
  simp only [cstOf] at hat
  refine hat.mono ?_
  clear hat
  rintro e w1 ⟨rfl, b1⟩
  have R1 := R.below b1
  have B1 := B0.trans (b1.mono R.hb)
  clear R B0 b1 o0
  have o1 := R1.c2
  go_wp2_with fail
  obtain ⟨W, hW⟩ : ∃ W, W = w1.alloc (.cells #[.int .i64 1, .int .i64 x, .string ⟨#[]⟩] 27) := ⟨_, rfl⟩
  have bW : Below w1.heap.size w1 W := by rw [hW]; exact (Below.refl _ _).alloc (Nat.le_refl _) _
  have cW : W.heap[w1.heap.size]? = some (.cells #[.int .i64 1, .int .i64 x, .string ⟨#[]⟩] 27 (0, 0)) := by rw [hW]; exact heap_alloc_new w1 _
  rw [← hW]
  clear hW
  have R2 := R1.below bW
  have B2 := B1.trans (bW.mono R1.hb)
  clear R1 B1 bW o1
  obtain ⟨C, hC⟩ : ∃ C, C = w1.heap.size := ⟨_, rfl⟩
  rw [← hC] at cW ⊢
  clear hC
  have o1 := R2.c2
  have CW := Lib.hid cW
  clear cW
  go_quiet ((go_at_call 25; exact Calls.quiet_of_same ((lenI (R2.drewN _).x).mono (fun _ _ h => ⟨h.1, h.2.symm⟩))))
  go_wp2_with fail
  obtain ⟨W', hW'⟩ : ∃ W', W' = W.drewN nq := ⟨_, rfl⟩
  have R3 : Ren base W' w.heap.size kd K N g1 m1 s1 ks g2 m2 s2 (ks.map cstOf) := by rw [hW']; exact R2.drewN _
  have B3 : Below base w W' := by rw [hW']; exact below_drewN B2 _
  have cW : W'.heap[C]? = some (.cells #[.int .i64 1, .int .i64 x, .string ⟨#[]⟩] 27 (0, 0)) := by rw [hW']; exact CW.out
  rw [← hW']
  clear R2 B2 CW o1 hW'
  have o1 := R3.c2
  have p0 := cell_of_row W' C 0 _ _ _ cW
  have p1 := cell_of_row W' C 1 _ _ _ cW
  have p2 := cell_of_row W' C 2 _ _ _ cW
  simp only [List.getElem?_toArray, List.getElem?_cons_zero, List.getElem?_cons_succ] at p0 p1 p2
  have hS : (fun w' : World => w'.cell? ⟨w.heap.size, 2, none⟩ = some (.int .i64 N) ∧ w'.cell? ⟨C, 0, none⟩ = some (.int .i64 1) ∧ w'.cell? ⟨C, 1, none⟩ = some (.int .i64 x) ∧ w'.cell? ⟨C, 2, none⟩ = some (.string ⟨#[]⟩) ∧ w'.heap[C]? = some (.cells #[.int .i64 1, .int .i64 x, .string ⟨#[]⟩] 27 (0, 0)) ∧ Ren base w' w.heap.size kd K N g1 m1 s1 ks g2 m2 s2 (ks.map cstOf) ∧ Below base w w') W'.drew := ⟨o1, p0, p1, p2, cW, R3.below (Below.refl _ _).drew, B3.drew⟩
  clear R3 B3
  first | go_region_held3 (fun w' : World => w'.cell? ⟨w.heap.size, 2, none⟩ = some (.int .i64 N) ∧ w'.cell? ⟨C, 0, none⟩ = some (.int .i64 1) ∧ w'.cell? ⟨C, 1, none⟩ = some (.int .i64 x) ∧ w'.cell? ⟨C, 2, none⟩ = some (.string ⟨#[]⟩) ∧ w'.heap[C]? = some (.cells #[.int .i64 1, .int .i64 x, .string ⟨#[]⟩] 27 (0, 0)) ∧ Ren base w' w.heap.size kd K N g1 m1 s1 ks g2 m2 s2 (ks.map cstOf) ∧ Below base w w')
    (first | go_keep | (go_split_ands; exact ren_keep4 (by assumption) (by assumption) (by assumption) hbel))
    (first | (go_at_call 23; refine (key_any _ _).mono ?_; rintro e w' ⟨rfl, hbel⟩) | (go_at_call 24; refine (findI_hit (ren_x4 (by assumption)) HN.out).mono ?_; rintro e w' ⟨rfl, rfl⟩)) | fail "x"
  all_goals go_wp2
  all_goals (go_ret; exact ⟨by first | rfl | simp, ren_done4 (by assumption) hwf (by omega)⟩)

/-- One call of 'renamed', whatever it is told. -/
theorem ren_any {base : Nat} {w : World} {g1 m1 : Nat} {s1 : Value} {ks : List Int} {g2 m2 : Nat} {s2 : Value} (h : Pair base w g1 m1 s1 ks g2 m2 s2) (kd K N : Int) (hK : (Lit.int .i64 K).wf = true) (n1 : -9223372036854775808 ≤ N) (n2 : N ≤ 9223372036854775807) (hlen : ks.length ≤ 6000000000000) :
    Calls Try.prog 26 #[.pointer (some ⟨g1, 0, none⟩), .pointer (some ⟨g2, 0, none⟩), .agg #[.int .i64 kd, .int .i64 K, .int .i64 N]] w fun e w' => e = .returned (.bool true) ∧ Done base w g1 m1 g2 m2 (ks.length + 1) w' := by
  by_cases k1 : kd = 1
  · subst k1
    by_cases hk : K ∈ ks
    · obtain ⟨i, hi, he⟩ := List.mem_iff_getElem.1 hk
      exact ren1_old h K N i (by rw [List.getElem?_eq_getElem hi, he])
    · exact ren1_new h K N hK hk hlen
  by_cases k2 : kd = 2
  · subst k2; exact ren2 h K N hK
  by_cases k6 : kd = 6
  · subst k6; exact ren6 h K N n1 n2 hlen
  by_cases hN : N < 0 ∨ (ks.length : Int) ≤ N
  · exact ren_out h kd K N k1 k2 k6 hN n1 n2 hlen
  · obtain ⟨M, rfl⟩ : ∃ M : Nat, N = (M : Int) := ⟨N.toNat, by omega⟩
    exact ren_in h kd K M ks[M] k1 k2 k6 (List.getElem?_eq_getElem (by omega))
end Go.Proofs.Ytblonickpmogiaa
