/- The law's filled: a table into which a list came. -/
import Derived.Test.YtblonickpmogiaaTable
import Derived.Test.YtblonickpmogiaaTimes
import Derived.Test.YtblonickpmogiaaTally
import Derived.Test.YtblonickpmogiaaSymSortsW
import Derived.Test.YtblonickpmogiaaValid
namespace Go.Proofs.Ytblonickpmogiaa
open Go.RowKit Go.Maps
attribute [local go_sem ↓] Go.wp_at_zero Go.wp_at_succ

/-- Between two rounds: the table and the list of those that were seen hold the same. -/
structure Fl (w wr : World) (g : Nat) (sv sn : Value) (ks : List Cst) : Prop where
  ids : IdsAt Try.prog kindT w.heap.size wr g w.heap.size sv ks
  seen : OwnC wr w.heap.size sn ks
  far : ∀ b, sn.ownBlock = some b → b ∉ foot g w.heap.size sv
  nodup : ks.Nodup
  ok : ∀ c ∈ ks, c.ok
  below : Below w.heap.size w wr

theorem Fl.keep {w wr w' : World} {g : Nat} {sv sn : Value} {ks : List Cst} (h : Fl w wr g sv sn ks) (hb : Below wr.heap.size wr w') : Fl w w' g sv sn ks :=
  ⟨h.ids.below hb, ownC_below h.seen hb, h.far, h.nodup, h.ok, h.below.trans (hb.mono h.below.size)⟩
/-- One more came into the table; the list of those seen not yet. -/
structure Fm (w wr : World) (g : Nat) (sv sn : Value) (ks : List Cst) (c : Cst) : Prop where
  ids : IdsAt Try.prog kindT w.heap.size wr g w.heap.size sv (ks ++ [c])
  seen : OwnC wr w.heap.size sn ks
  far : ∀ b, sn.ownBlock = some b → b ∉ foot g w.heap.size sv
  nodup : (ks ++ [c]).Nodup
  ok : ∀ x ∈ ks ++ [c], x.ok
  below : Below w.heap.size w wr
theorem Fm.keep {w wr w' : World} {g : Nat} {sv sn : Value} {ks : List Cst} {c : Cst} (h : Fm w wr g sv sn ks c) (hb : Below wr.heap.size wr w') : Fm w w' g sv sn ks c :=
  ⟨h.ids.below hb, ownC_below h.seen hb, h.far, h.nodup, h.ok, h.below.trans (hb.mono h.below.size)⟩
theorem Fl.come {w wr w' : World} {g : Nat} {sv sn : Value} {ks : List Cst} {c : Cst} (h : Fl w wr g sv sn ks) (hc : c ∉ ks) (hok : c.ok) (hl : Left Try.prog kindT w.heap.size wr g w.heap.size sv (ks ++ [c]) w') : ∃ sv', Fm w w' g sv' sn ks c := by
  obtain ⟨s', h1, ht, hf⟩ := hl
  refine ⟨s', h1, ownsRow_turns h.seen ht (fun b hb => h.far b hb), fun b hb hm => ?_, ?_, ?_, h.below.trans (ht.below h.below.size (fun x hx => (h.ids.foot_lt x hx).1))⟩
  · have hlt := (ownBlock_cells h.seen hb).2.1
    have hn := h.far b hb
    unfold foot at hm hn
    simp only [List.mem_cons, Option.mem_toList, not_or] at hm hn
    rcases hm with hm | hm | hm
    · exact hn.1 hm
    · exact hn.2.1 hm
    · rcases hf b hm with h2 | h2
      · exact hn.2.2 h2
      · omega
  · rw [List.nodup_append]
    exact ⟨h.nodup, by simp, fun a ha b hb => by rintro rfl; exact hc (by simpa using (List.mem_singleton.1 hb ▸ ha))⟩
  · intro x hx
    rcases List.mem_append.1 hx with hx | hx
    · exact h.ok x hx
    · rw [List.mem_singleton.1 hx]; exact hok
theorem Fm.see {w wr wa w' : World} {g : Nat} {sv sn sn' : Value} {ks : List Cst} {c : Cst} (h : Fm w wr g sv sn ks c) (hb : Below wr.heap.size wr wa) (hown : OwnC w' w.heap.size sn' (ks ++ [c])) (hg : wa.grownBy w' sn.ownBlock) (hat : sn'.ownBlock = sn.ownBlock ∨ sn'.ownBlock = some wa.heap.size) : Fl w w' g sv sn' (ks ++ [c]) := by
  have h2 := h.keep hb
  refine ⟨h2.ids.turns (Turns.of_grown hg) (fun x hx hm => h2.far x (by simpa using hm) hx), hown, fun b hb' hm => ?_, h.nodup, h.ok, h2.below.trans ((Turns.of_grown hg).below h2.below.size (fun x hx => (ownBlock_cells h2.seen (by simpa using hx)).1))⟩
  rcases hat with hat | hat
  · exact h2.far b (hat ▸ hb') hm
  · rw [hat] at hb'
    have := Option.some.inj hb'
    have := (h2.ids.foot_lt b hm).2
    omega

theorem own_slA {w : World} {base n c : Nat} {A : Option Addr} {xs : List Cst} (h : OwnC w base (.slice A n c) xs) : SlAt w w.heap.size 3 Cst.cells A xs := by
  obtain ⟨A', c', e, hs⟩ := own_slC h
  obtain ⟨rfl, _, _⟩ := Value.slice.inj e
  exact hs
theorem count_in {ks : List Cst} {c : Cst} (h : c ∈ ks) : 0 < ks.countP (fun x => sameB x c) := List.countP_pos_iff.2 ⟨c, h, sameB_iff.2 rfl⟩
theorem count_out {ks : List Cst} {c : Cst} (h : c ∉ ks) : ks.countP (fun x => sameB x c) = 0 := List.countP_eq_zero.2 (fun _ hx hs => h (sameB_iff.1 hs ▸ hx))

set_option maxRecDepth 100000 in
set_option maxHeartbeats 4000000 in
theorem filledW (A : Option Addr) (ca : Nat) (xs : List Cst) (w : World) (hA : SlAt w w.heap.size 3 Cst.cells A xs) (hok : ∀ c ∈ xs, c.ok) (hlen : xs.length ≤ 65000) :
    Calls Try.prog 37 #[.slice A xs.length ca] w fun e w' => ∃ (g : Nat) (sv : Value) (ks : List Cst), e = .returned (.tuple #[.pointer (some ⟨g, 0, none⟩), .int .i64 ks.length, .bool true]) ∧ IdsAt Try.prog kindT w.heap.size w' g w.heap.size sv ks ∧ ks.Nodup ∧ (∀ c ∈ ks, c.ok) ∧ ks.length ≤ xs.length ∧ Below w.heap.size w w' := by
  obtain ⟨i0, hi0, hz0, hz1, hz2⟩ := info_parts infoK
  go_enter Try.func37, Try.ntmps37
  go_wp2_with fail
  refine (newT w).mono ?_
  rintro e w1 ⟨g, rfl, hT, hB⟩
  have F0 := Lib.hid (show Fl w w1 g (.slice none 0 0) (.slice none 0 0) [] from ⟨hT, ⟨rfl, .inl ⟨rfl, rfl⟩⟩, by simp [Value.ownBlock], by simp, by simp, hB⟩)
  clear hT hB
  go_wp2_with fail
  go_loopw [6, 7] (fun sn i wr => ∃ (snv : Value) (k : Nat) (sv : Value) (ks : List Cst), sn = snv ∧ i = .int .i64 k ∧ k ≤ xs.length ∧ ks.length ≤ k ∧ Hid (Fl w wr g sv snv ks)) (fun _ i _ => xs.length - (intOf i).toNat)
  case atStart => exact ⟨_, 0, _, [], rfl, rfl, Nat.zero_le _, Nat.le_refl _, F0.out⟩
  case round =>
    obtain ⟨snv, k, sv, ks, hsn, rfl, hk, hkl, hF⟩ := hrel
    obtain ⟨As, cs, hsf, _, _, _, hsl⟩ := own_all hF.out.seen
    subst hsf
    subst hsn
    by_cases hkn : k < xs.length
    · obtain ⟨b, off, rfl, hblt, hc⟩ := hA.form (by omega)
      have hci := (hc k xs[k] (List.getElem?_eq_getElem hkn)).at3
      have oki := hok _ (List.getElem_mem hkn)
      obtain ⟨c, hce⟩ : ∃ c, c = xs[k] := ⟨_, rfl⟩
      rw [← hce] at hci oki
      obtain ⟨k0, k1, k2⟩ := hci
      have CL := Lib.hid (fun (W : World) (hW : Below w.heap.size w W) => (show W.cell? ⟨b, off + k * 3, none⟩ = some (.int .i64 c.k) ∧ W.cell? ⟨b, off + k * 3 + 1, none⟩ = some (.int .i64 c.n) ∧ W.cell? ⟨b, off + k * 3 + 2, none⟩ = some (.string c.s) from
        ⟨(hW.cell (p := ⟨b, off + k * 3, none⟩) hblt).trans k0, (hW.cell (p := ⟨b, off + k * 3 + 1, none⟩) hblt).trans k1, (hW.cell (p := ⟨b, off + k * 3 + 2, none⟩) hblt).trans k2⟩))
      obtain ⟨c0, c1, c2⟩ := CL.out wr hF.out.below
      have hkk : (0 : Int) ≤ (k : Int) := by omega
      have hkn' : (k : Int) < (xs.length : Int) := by omega
      have HK := Lib.hid hkn
      have HKL := Lib.hid hkl
      have V := validW c oki.2.2
      clear hc hce k0 k1 k2 hA hok F0 hsl hkn hkl hk
      rcases hv : validB c with _ | _
      · rw [hv] at V
        have VV := Lib.hid V
        clear V hv oki
        go_wp2_with fail
        refine (tIntern_bad (g := g) VV.out).mono ?_
        rintro e w2 ⟨rfl, hb⟩
        have F2 := Lib.hid (hF.out.keep hb)
        obtain ⟨d0, d1, d2⟩ := CL.out w2 F2.out.below
        clear hb c0 c1 c2
        go_wp2_with fail
        refine (VV.out _).mono ?_
        rintro e w3 ⟨rfl, hb⟩
        have F3 := Lib.hid (F2.out.keep hb)
        clear hb d0 d1 d2
        go_wp2_with fail
        exact ⟨⟨_, k + 1, sv, ks, rfl, by go_num, HK.out, by have := HKL.out; omega, F3.out⟩, by simp [intOf]; have := HK.out; omega⟩
      · rw [hv] at V
        have VV := Lib.hid V
        have NQ := fun W => neq_self c W
        clear V hv
        rcases Classical.em (c ∈ ks) with hin | hin
        · obtain ⟨i, hi, hie⟩ := List.getElem_of_mem hin
          have hget : ks[i]? = some c := by rw [List.getElem?_eq_getElem hi, hie]
          obtain ⟨N, hN⟩ : ∃ N, N = ks.countP (fun x => sameB x c) := ⟨_, rfl⟩
          have hN0 := count_in hin
          rw [← hN] at hN0
          have hNf : ((N : Int) == 0) = false := by simp; omega
          have TW := Lib.hid (fun (W : World) (h : SlAt W W.heap.size 3 Cst.cells As ks) => (show Calls Try.prog 78 #[.slice As ks.length cs, .agg #[.int .i64 c.k, .int .i64 c.n, .string c.s]] W fun e w' => e = .returned (.int .i64 N) ∧ Below W.heap.size W w' by rw [hN]; exact timesW As cs ks c W h (by have := HKL.out; have := HK.out; omega)))
          have hii : (0 : Int) ≤ (i : Int) := by omega
          have hilt : (i : Int) < (ks.length : Int) := by omega
          have g1 : decide ((ks.length : Int) ≤ (i : Int)) = false := by simp; omega
          have g2 : decide (ks.length ≤ i) = false := by simp; omega
          have IO := Lib.hid (tIntern_old (g := g) hF.out.ids VV.out hget)
          have GI := Lib.hid hget
          have HI := Lib.hid hi
          clear hN hie hi hget hin oki
          go_wp2_with fail
          refine IO.out.mono ?_
          rintro e w2 ⟨rfl, hb⟩
          have F2 := Lib.hid (hF.out.keep hb)
          obtain ⟨d0, d1, d2⟩ := CL.out w2 F2.out.below
          clear hb c0 c1 c2
          go_wp2_with fail
          refine (VV.out _).mono ?_
          rintro e w3 ⟨rfl, hb⟩
          have F3 := Lib.hid (F2.out.keep hb)
          obtain ⟨e0, e1, e2⟩ := CL.out w3 F3.out.below
          clear hb d0 d1 d2
          go_wp2_with fail
          refine (TW.out _ (own_slA F3.out.seen)).mono ?_
          rintro e w4 ⟨rfl, hb⟩
          have F4 := Lib.hid (F3.out.keep hb)
          obtain ⟨d0, d1, d2⟩ := CL.out w4 F4.out.below
          obtain ⟨bs, os, rfl, _, hcs⟩ := (own_slA F4.out.seen).form (by have := HI.out; omega)
          obtain ⟨s0, s1, s2⟩ := (hcs i c GI.out).at3
          clear hb e0 e1 e2 hcs
          go_wp2_with fail
          go_quiet (fail)
          have F5 := Lib.hid (F4.out.keep (below_drewN (Below.refl _ _) nq))
          clear d0 d1 d2 s0 s1 s2
          go_wp2_with fail
          exact ⟨⟨_, k + 1, sv, ks, rfl, by go_num, HK.out, by have := HKL.out; omega, F5.out⟩, by simp [intOf]; have := HK.out; omega⟩
        · have TW := Lib.hid (fun (W : World) (h : SlAt W W.heap.size 3 Cst.cells As ks) => (show Calls Try.prog 78 #[.slice As ks.length cs, .agg #[.int .i64 c.k, .int .i64 c.n, .string c.s]] W fun e w' => e = .returned (.int .i64 0) ∧ Below W.heap.size W w' by have h2 := timesW As cs ks c W h (by have := HKL.out; have := HK.out; omega); rw [count_out hin] at h2; exact h2))
          have IO := Lib.hid (tIntern_new (g := g) hF.out.ids hF.out.below.size VV.out oki hin (by have := HKL.out; have := HK.out; omega))
          have CO := Lib.hid (fun w' h => hF.out.come (w' := w') hin oki h)
          have hl0 : (0 : Int) ≤ (ks.length : Int) := by omega
          have hl1 := Lib.hid (show (ks ++ [c]).length = ks.length + 1 by simp)
          clear hin oki
          go_wp2_with fail
          refine IO.out.mono ?_
          rintro e w2 ⟨rfl, hb⟩
          obtain ⟨sv2, f2⟩ := CO.out _ hb
          have F2 := Lib.hid f2
          obtain ⟨d0, d1, d2⟩ := CL.out w2 F2.out.below
          clear hb c0 c1 c2 f2
          go_wp2_with fail
          refine (VV.out _).mono ?_
          rintro e w3 ⟨rfl, hb⟩
          have F3 := Lib.hid (F2.out.keep hb)
          obtain ⟨e0, e1, e2⟩ := CL.out w3 F3.out.below
          clear hb d0 d1 d2
          go_wp2_with fail
          refine (TW.out _ (own_slA F3.out.seen)).mono ?_
          rintro e w4 ⟨rfl, hb⟩
          have F4 := Lib.hid (F3.out.keep hb)
          obtain ⟨d0, d1, d2⟩ := CL.out w4 F4.out.below
          have BA := Lib.hid ((Below.refl w4.heap.size w4).alloc (Nat.le_refl _) (.cells #[.int .i64 c.k, .int .i64 c.n, .string c.s] 27))
          clear hb e0 e1 e2
          go_wp2_with (at_builtin; refine wpList_append_sl rfl (.tmp 47) (.tmp 52) rfl w.heap.size (.slice As ks.length cs) ks [c] rfl (ownC_below F4.out.seen BA.out) (some ⟨w4.heap.size, 0, none⟩) 1 1 rfl rfl (sl_one w4 c) (by simp) (by simp; have := HKL.out; have := HK.out; omega) (by have := F4.out.below.size; simp; omega) ?_; intro v5 w5 h1 h2 h3; have f5 := F4.out.see BA.out h1 h2 h3; obtain ⟨ks', hks'⟩ : ∃ r, r = ks ++ [c] := ⟨_, rfl⟩; rw [← hks'] at f5; have hkl5 : ks'.length = ks.length + 1 := (by rw [hks']; simp); obtain ⟨A5, c5, rfl, _, _, _, _⟩ := own_all f5.seen; obtain ⟨b5, o5, rfl, _, hcs⟩ := (own_slA f5.seen).form (by omega); obtain ⟨s0, s1, s2⟩ := (hcs ks.length c (by rw [hks']; simp)).at3; obtain ⟨q0, q1, q2⟩ := CL.out w5 f5.below; have F5 := Lib.hid f5; have hlt5 : (ks.length : Int) < (ks'.length : Int) := (by omega); have g1 : decide ((ks'.length : Int) ≤ (ks.length : Int)) = false := (by simp; omega); have g2 : decide (ks'.length ≤ ks.length) = false := (by simp; omega); have HL5 := Lib.hid hkl5; clear h1 h2 h3 f5 hkl5 hks' hcs d0 d1 d2)
          go_quiet (fail)
          have F6 := Lib.hid (F5.out.keep (below_drewN (Below.refl _ _) nq))
          clear q0 q1 q2 s0 s1 s2
          go_wp2_with fail
          exact ⟨⟨_, k + 1, sv2, ks', rfl, by go_num, HK.out, by have := HKL.out; have := HL5.out; omega, F6.out⟩, by simp [intOf]; have := HK.out; omega⟩
    · obtain rfl : k = xs.length := by omega
      clear hA hok hsl F0
      go_wp2_with fail
      refine bodyPost_ret (results_tmp3 (t := 2) (u := 3) (v := 4) rfl _ _ _) rfl ⟨g, sv, ks, rfl, hF.out.ids, hF.out.nodup, hF.out.ok, hkl, hF.out.below⟩
end Go.Proofs.Ytblonickpmogiaa
