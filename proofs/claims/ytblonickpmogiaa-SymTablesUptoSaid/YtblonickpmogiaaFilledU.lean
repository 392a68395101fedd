/- filled, with what it fills in. -/
import Derived.Test.YtblonickpmogiaaFilled
namespace Go.Proofs.Ytblonickpmogiaa
open Go.RowKit Go.Maps
attribute [local go_sem ↓] Go.wp_at_zero Go.wp_at_succ

open Classical in
/-- One more constant comes to a table. -/
noncomputable def stC (ks : List Cst) (c : Cst) : List Cst := if validB c = true ∧ c ∉ ks then ks ++ [c] else ks
noncomputable def flC (xs : List Cst) : List Cst := xs.foldl stC []
theorem stC_bad {ks : List Cst} {c : Cst} (h : validB c = false) : stC ks c = ks := by unfold stC; rw [if_neg (by simp [h])]
theorem stC_old {ks : List Cst} {c : Cst} (h : c ∈ ks) : stC ks c = ks := by unfold stC; rw [if_neg (by simp [h])]
theorem stC_new {ks : List Cst} {c : Cst} (h : validB c = true) (hc : c ∉ ks) : stC ks c = ks ++ [c] := by unfold stC; rw [if_pos ⟨h, hc⟩]
theorem flC_take {xs : List Cst} {i : Nat} (h : i < xs.length) : flC (xs.take (i + 1)) = stC (flC (xs.take i)) xs[i] := by
  unfold flC
  rw [List.take_succ_eq_append_getElem h, List.foldl_append]
  rfl
theorem stC_len (ks : List Cst) (c : Cst) : ks.length ≤ (stC ks c).length ∧ (stC ks c).length ≤ ks.length + 1 := by
  unfold stC
  split <;> simp
theorem foldC_len (xs : List Cst) : ∀ ks : List Cst, ks.length ≤ (xs.foldl stC ks).length ∧ (xs.foldl stC ks).length ≤ ks.length + xs.length := by
  induction xs with
  | nil => intro ks; simp
  | cons a l ih =>
    intro ks
    have h1 := ih (stC ks a)
    have h2 := stC_len ks a
    simp only [List.foldl_cons, List.length_cons]
    omega
theorem flC_len (xs : List Cst) : (flC xs).length ≤ xs.length := by have := foldC_len xs []; simp at this; exact this

set_option maxRecDepth 100000 in
set_option maxHeartbeats 4000000 in
theorem filledU (A : Option Addr) (ca : Nat) (xs : List Cst) (w : World) (hA : SlAt w w.heap.size 3 Cst.cells A xs) (hok : ∀ c ∈ xs, c.ok) (hlen : xs.length ≤ 65000) :
    Calls Try.prog 37 #[.slice A xs.length ca] w fun e w' => ∃ (g : Nat) (sv : Value) (ks : List Cst), e = .returned (.tuple #[.pointer (some ⟨g, 0, none⟩), .int .i64 ks.length, .bool true]) ∧ IdsAt Try.prog kindT w.heap.size w' g w.heap.size sv ks ∧ ks.Nodup ∧ (∀ c ∈ ks, c.ok) ∧ ks = flC xs ∧ Below w.heap.size w w' := by
  obtain ⟨i0, hi0, hz0, hz1, hz2⟩ := info_parts infoK
  go_enter Try.func37, Try.ntmps37
  go_wp2_with fail
  refine (newT w).mono ?_
  rintro e w1 ⟨g, rfl, hT, hB⟩
  have F0 := Lib.hid (show Fl w w1 g (.slice none 0 0) (.slice none 0 0) [] from ⟨hT, ⟨rfl, .inl ⟨rfl, rfl⟩⟩, by simp [Value.ownBlock], by simp, by simp, hB⟩)
  clear hT hB
  go_wp2_with fail
  go_loopw [6, 7] (fun sn i wr => ∃ (snv : Value) (k : Nat) (sv : Value) (ks : List Cst), sn = snv ∧ i = .int .i64 k ∧ k ≤ xs.length ∧ ks.length ≤ k ∧ Hid (ks = flC (xs.take k)) ∧ Hid (Fl w wr g sv snv ks)) (fun _ i _ => xs.length - (intOf i).toNat)
  case atStart => exact ⟨_, 0, _, [], rfl, rfl, Nat.zero_le _, Nat.le_refl _, rfl, F0.out⟩
  case round =>
    obtain ⟨snv, k, sv, ks, hsn, rfl, hk, hkl, hE, hF⟩ := hrel
    obtain ⟨As, cs, hsf, _, _, _, hsl⟩ := own_all hF.out.seen
    subst hsf
    subst hsn
    by_cases hkn : k < xs.length
    · obtain ⟨b, off, rfl, hblt, hc⟩ := hA.form (by omega)
      have hci := (hc k xs[k] (List.getElem?_eq_getElem hkn)).at3
      have oki := hok _ (List.getElem_mem hkn)
      obtain ⟨c, hce⟩ : ∃ c, c = xs[k] := ⟨_, rfl⟩
      rw [← hce] at hci oki
      have FT := Lib.hid (flC_take hkn)
      rw [← hce, ← hE.out] at FT
      obtain ⟨k0, k1, k2⟩ := hci
      have CL := Lib.hid (fun (W : World) (hW : Below w.heap.size w W) => (show W.cell? ⟨b, off + k * 3, none⟩ = some (.int .i64 c.k) ∧ W.cell? ⟨b, off + k * 3 + 1, none⟩ = some (.int .i64 c.n) ∧ W.cell? ⟨b, off + k * 3 + 2, none⟩ = some (.string c.s) from
        ⟨(hW.cell (p := ⟨b, off + k * 3, none⟩) hblt).trans k0, (hW.cell (p := ⟨b, off + k * 3 + 1, none⟩) hblt).trans k1, (hW.cell (p := ⟨b, off + k * 3 + 2, none⟩) hblt).trans k2⟩))
      obtain ⟨c0, c1, c2⟩ := CL.out wr hF.out.below
      have hkk : (0 : Int) ≤ (k : Int) := by omega
      have hkn' : (k : Int) < (xs.length : Int) := by omega
      have HK := Lib.hid hkn
      have HKL := Lib.hid hkl
      have V := validW c oki.2.2
      clear hc hce k0 k1 k2 hA hok F0 hsl hkn hkl hk
      rcases hv : validB c with _ | _
      · rw [hv] at V
        have VV := Lib.hid V
        have FE := Lib.hid (FT.out.trans (stC_bad hv))
        clear V hv oki
        go_wp2_with fail
        refine (tIntern_bad (g := g) VV.out).mono ?_
        rintro e w2 ⟨rfl, hb⟩
        have F2 := Lib.hid (hF.out.keep hb)
        obtain ⟨d0, d1, d2⟩ := CL.out w2 F2.out.below
        clear hb c0 c1 c2
        go_wp2_with fail
        refine (VV.out _).mono ?_
        rintro e w3 ⟨rfl, hb⟩
        have F3 := Lib.hid (F2.out.keep hb)
        clear hb d0 d1 d2
        go_wp2_with fail
        exact ⟨⟨_, k + 1, sv, ks, rfl, by go_num, HK.out, by have := HKL.out; omega, FE.out.symm, F3.out⟩, by simp [intOf]; have := HK.out; omega⟩
      · rw [hv] at V
        have VV := Lib.hid V
        have NQ := fun W => neq_self c W
        have HVB := Lib.hid hv
        clear V hv
        rcases Classical.em (c ∈ ks) with hin | hin
        · have FE := Lib.hid (FT.out.trans (stC_old hin))
          obtain ⟨i, hi, hie⟩ := List.getElem_of_mem hin
          have hget : ks[i]? = some c := by rw [List.getElem?_eq_getElem hi, hie]
          obtain ⟨N, hN⟩ : ∃ N, N = ks.countP (fun x => sameB x c) := ⟨_, rfl⟩
          have hN0 := count_in hin
          rw [← hN] at hN0
          have hNf : ((N : Int) == 0) = false := by simp; omega
          have TW := Lib.hid (fun (W : World) (h : SlAt W W.heap.size 3 Cst.cells As ks) => (show Calls Try.prog 78 #[.slice As ks.length cs, .agg #[.int .i64 c.k, .int .i64 c.n, .string c.s]] W fun e w' => e = .returned (.int .i64 N) ∧ Below W.heap.size W w' by rw [hN]; exact timesW As cs ks c W h (by have := HKL.out; have := HK.out; omega)))
          have hii : (0 : Int) ≤ (i : Int) := by omega
          have hilt : (i : Int) < (ks.length : Int) := by omega
          have g1 : decide ((ks.length : Int) ≤ (i : Int)) = false := by simp; omega
          have g2 : decide (ks.length ≤ i) = false := by simp; omega
          have IO := Lib.hid (tIntern_old (g := g) hF.out.ids VV.out hget)
          have GI := Lib.hid hget
          have HI := Lib.hid hi
          clear hN hie hi hget hin oki
          go_wp2_with fail
          refine IO.out.mono ?_
          rintro e w2 ⟨rfl, hb⟩
          have F2 := Lib.hid (hF.out.keep hb)
          obtain ⟨d0, d1, d2⟩ := CL.out w2 F2.out.below
          clear hb c0 c1 c2
          go_wp2_with fail
          refine (VV.out _).mono ?_
          rintro e w3 ⟨rfl, hb⟩
          have F3 := Lib.hid (F2.out.keep hb)
          obtain ⟨e0, e1, e2⟩ := CL.out w3 F3.out.below
          clear hb d0 d1 d2
          go_wp2_with fail
          refine (TW.out _ (own_slA F3.out.seen)).mono ?_
          rintro e w4 ⟨rfl, hb⟩
          have F4 := Lib.hid (F3.out.keep hb)
          obtain ⟨d0, d1, d2⟩ := CL.out w4 F4.out.below
          obtain ⟨bs, os, rfl, _, hcs⟩ := (own_slA F4.out.seen).form (by have := HI.out; omega)
          obtain ⟨s0, s1, s2⟩ := (hcs i c GI.out).at3
          clear hb e0 e1 e2 hcs
          go_wp2_with fail
          go_quiet (fail)
          have F5 := Lib.hid (F4.out.keep (below_drewN (Below.refl _ _) nq))
          clear d0 d1 d2 s0 s1 s2
          go_wp2_with fail
          exact ⟨⟨_, k + 1, sv, ks, rfl, by go_num, HK.out, by have := HKL.out; omega, FE.out.symm, F5.out⟩, by simp [intOf]; have := HK.out; omega⟩
        · have FE := Lib.hid (FT.out.trans (stC_new HVB.out hin))
          have TW := Lib.hid (fun (W : World) (h : SlAt W W.heap.size 3 Cst.cells As ks) => (show Calls Try.prog 78 #[.slice As ks.length cs, .agg #[.int .i64 c.k, .int .i64 c.n, .string c.s]] W fun e w' => e = .returned (.int .i64 0) ∧ Below W.heap.size W w' by have h2 := timesW As cs ks c W h (by have := HKL.out; have := HK.out; omega); rw [count_out hin] at h2; exact h2))
          have IO := Lib.hid (tIntern_new (g := g) hF.out.ids hF.out.below.size VV.out oki hin (by have := HKL.out; have := HK.out; omega))
          have CO := Lib.hid (fun w' h => hF.out.come (w' := w') hin oki h)
          have hl0 : (0 : Int) ≤ (ks.length : Int) := by omega
          have hl1 := Lib.hid (show (ks ++ [c]).length = ks.length + 1 by simp)
          clear hin oki
          go_wp2_with fail
          refine IO.out.mono ?_
          rintro e w2 ⟨rfl, hb⟩
          obtain ⟨sv2, f2⟩ := CO.out _ hb
          have F2 := Lib.hid f2
          obtain ⟨d0, d1, d2⟩ := CL.out w2 F2.out.below
          clear hb c0 c1 c2 f2
          go_wp2_with fail
          refine (VV.out _).mono ?_
          rintro e w3 ⟨rfl, hb⟩
          have F3 := Lib.hid (F2.out.keep hb)
          obtain ⟨e0, e1, e2⟩ := CL.out w3 F3.out.below
          clear hb d0 d1 d2
          go_wp2_with fail
          refine (TW.out _ (own_slA F3.out.seen)).mono ?_
          rintro e w4 ⟨rfl, hb⟩
          have F4 := Lib.hid (F3.out.keep hb)
          obtain ⟨d0, d1, d2⟩ := CL.out w4 F4.out.below
          have BA := Lib.hid ((Below.refl w4.heap.size w4).alloc (Nat.le_refl _) (.cells #[.int .i64 c.k, .int .i64 c.n, .string c.s] 27))
          clear hb e0 e1 e2
          go_wp2_with (at_builtin; refine wpList_append_sl rfl (.tmp 47) (.tmp 52) rfl w.heap.size (.slice As ks.length cs) ks [c] rfl (ownC_below F4.out.seen BA.out) (some ⟨w4.heap.size, 0, none⟩) 1 1 rfl rfl (sl_one w4 c) (by simp) (by simp; have := HKL.out; have := HK.out; omega) (by have := F4.out.below.size; simp; omega) ?_; intro v5 w5 h1 h2 h3; have f5 := F4.out.see BA.out h1 h2 h3; obtain ⟨ks', hks'⟩ : ∃ r, r = ks ++ [c] := ⟨_, rfl⟩; rw [← hks'] at f5; have hkl5 : ks'.length = ks.length + 1 := (by rw [hks']; simp); obtain ⟨A5, c5, rfl, _, _, _, _⟩ := own_all f5.seen; obtain ⟨b5, o5, rfl, _, hcs⟩ := (own_slA f5.seen).form (by omega); obtain ⟨s0, s1, s2⟩ := (hcs ks.length c (by rw [hks']; simp)).at3; obtain ⟨q0, q1, q2⟩ := CL.out w5 f5.below; have F5 := Lib.hid f5; have FE5 := Lib.hid (show flC (xs.take (k + 1)) = ks' from FE.out.trans hks'.symm); have hlt5 : (ks.length : Int) < (ks'.length : Int) := (by omega); have g1 : decide ((ks'.length : Int) ≤ (ks.length : Int)) = false := (by simp; omega); have g2 : decide (ks'.length ≤ ks.length) = false := (by simp; omega); have HL5 := Lib.hid hkl5; clear h1 h2 h3 f5 hkl5 hks' hcs d0 d1 d2)
          go_quiet (fail)
          have F6 := Lib.hid (F5.out.keep (below_drewN (Below.refl _ _) nq))
          clear q0 q1 q2 s0 s1 s2
          go_wp2_with fail
          exact ⟨⟨_, k + 1, sv2, ks', rfl, by go_num, HK.out, by have := HKL.out; have := HL5.out; omega, FE5.out.symm, F6.out⟩, by simp [intOf]; have := HK.out; omega⟩
    · obtain rfl : k = xs.length := by omega
      clear hA hok hsl F0
      go_wp2_with fail
      refine bodyPost_ret (results_tmp3 (t := 2) (u := 3) (v := 4) rfl _ _ _) rfl ⟨g, sv, ks, rfl, hF.out.ids, hF.out.nodup, hF.out.ok, by have := hE.out; rwa [List.take_length] at this, hF.out.below⟩
end Go.Proofs.Ytblonickpmogiaa
