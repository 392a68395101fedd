/- Fire: an act fires. The walk. silent: a nil agenda answers zero values; a new one has nothing to do. The walk. separate's state: a row of headers, each list in a block of its own. Over any program but for the types. -/
import Derived.Test.YtjgigcnjgblekaaDoorKaq20
import Derived.Test.YtjgigcnjgblekaaDoorKaq25
import Derived.Deep.Cut
namespace Go.Proofs.YtjgigcnjgblekaaDoor
open Go Go.RowKit Go.Maps Classical

/-- What Fire leaves. -/
def FirRes (M : List Nat) (p mc mf N : Nat) (R : Int × Agd) (w : World) (e : Ending) (w' : World) : Prop := e = .returned (.int .i64 R.1) ∧ AgAt M w' p mc mf R.2 N ∧ Turns [mf] w w'
theorem fir_arg {g : Agd} {a : Ac} (h : ¬ ownA g a) : fireF g a = (2, g) := by unfold fireF; rw [if_pos h]
theorem fir_twice {g : Agd} {a : Ac} (h : ownA g a) (hd : a ∈ g.D) : fireF g a = (51, g) := by unfold fireF; rw [if_neg (by simpa using h), if_pos hd]
theorem fir_none {g : Agd} {a : Ac} (h : ownA g a) (hd : a ∉ g.D) (hc : a ∉ g.C) : fireF g a = (50, g) := by unfold fireF; rw [if_neg (by simpa using h), if_neg hd, if_pos hc]
theorem fir_state {g : Agd} {a : Ac} (h : ownA g a) (hd : a ∉ g.D) (hc : a ∈ g.C) (hl : strA g < lvl g.lv a) : fireF g a = (53, g) := by unfold fireF; rw [if_neg (by simpa using h), if_neg hd, if_neg (by simpa using hc), if_pos hl]
theorem fir_go {g : Agd} {a : Ac} (h : ownA g a) (hd : a ∉ g.D) (hc : a ∈ g.C) (hl : ¬ strA g < lvl g.lv a) : fireF g a = (0, { g with D := g.D ++ [a] }) := by unfold fireF; rw [if_neg (by simpa using h), if_neg hd, if_neg (by simpa using hc), if_neg hl]
theorem mark_keeps {M : List Nat} {w w' : World} {p mc mf N q : Nat} {g : Agd} {v r s : Value} (T : Turns [mf] w w') (h : AgAt M w p mc mf g N) (hq : q < w.heap.size) (hmq : mf < q)
    (hS : w.cell? ⟨p, 3, none⟩ = some v ∧ w.cell? ⟨q, 0, none⟩ = some r ∧ w.cell? ⟨q, 1, none⟩ = some s) : w'.cell? ⟨p, 3, none⟩ = some v ∧ w'.cell? ⟨q, 0, none⟩ = some r ∧ w'.cell? ⟨q, 1, none⟩ = some s :=
  ⟨(T.cell h.lt (fun hm => h.pM (by rw [List.mem_singleton.1 hm]; exact h.fM))).trans hS.1, (T.cell hq (fun hm => by rw [List.mem_singleton.1 hm] at hmq; omega)).trans hS.2.1, (T.cell hq (fun hm => by rw [List.mem_singleton.1 hm] at hmq; omega)).trans hS.2.2⟩
set_option maxRecDepth 100000 in
set_option maxHeartbeats 8000000 in
theorem fireW {F : Nat → Prop} {M : List Nat} {p mc mf N : Nat} {G : Agd} (a : Ac) (sv : Value) (w : World) (h : AgAt M w p mc mf G N) (hs : RSl F w 1 EInt sv a.sub) (hok : AcOk a) (hM : ∀ x ∈ M, x < w.heap.size) (hN : N < maxLen) (ht : Tab w) :
    Calls Tryd.prog 31 #[.pointer (some ⟨p, 0, none⟩), .agg #[.int .i64 a.rule, sv]] w (FirRes M p mc mf (N + 1) (fireF G a) w) := by
  obtain ⟨A, c, rfl⟩ := hs.form
  obtain ⟨w0, hw0⟩ : ∃ w0, w0 = w.alloc (.cells #[.int .i64 a.rule, .slice A a.sub.length c] 30) := ⟨_, rfl⟩
  have hx0 : Below (w.heap.size + 1) (w.alloc (.cells #[.int .i64 a.rule, .slice A a.sub.length c] 30)) w0 := by rw [hw0]; exact Below.refl _ _
  have hb0 := box_belowD hx0
  have hs0 : w0.heap.size = w.heap.size + 1 := by rw [hw0]; simp
  have x0 := box_cellD hx0 0 rfl
  have x1 := box_cellD hx0 1 rfl
  have BX := Lib.hid (fun (W : World) (hW : Below w0.heap.size w0 W) => (show W.cell? ⟨w.heap.size, 0, none⟩ = some (.int .i64 a.rule) ∧ W.cell? ⟨w.heap.size, 1, none⟩ = some (.slice A a.sub.length c) from
    ⟨(hW.cell (p := ⟨w.heap.size, 0, none⟩) (by show w.heap.size < w0.heap.size; omega)).trans x0, (hW.cell (p := ⟨w.heap.size, 1, none⟩) (by show w.heap.size < w0.heap.size; omega)).trans x1⟩))
  have HS0 := Lib.hid (show w.heap.size < w0.heap.size by omega)
  have OW := Lib.hid (ownW a (.slice A a.sub.length c) w0 (h.below hb0) (hs.keep (Kp.of_below hb0)) hok.rule)
  have KW := Lib.hid (fun (W : World) (hW : Below w0.heap.size w0 W) => keyW a (.slice A a.sub.length c) W ((hs.keep (Kp.of_below hb0)).keep (Kp.of_below hW)) hok ((ht.below hb0).below hW))
  have CW := Lib.hid (fun (W : World) (hW : Below w0.heap.size w0 W) => copiedW a (.slice A a.sub.length c) W ((hs.keep (Kp.of_below hb0)).keep (Kp.of_below hW)) (by have := hok.len; omega))
  have HA := Lib.hid (fun (W : World) (hW : Below w0.heap.size w0 W) => (h.below hb0).below hW)
  have HT := Lib.hid (fun (W : World) (hW : Below w0.heap.size w0 W) => (show Turns [mf] w W from Turns.of_below (hb0.trans (hW.mono hb0.size))))
  have HOK := Lib.hid hok
  have HM := Lib.hid hM
  have E0 := Lib.hid (Below.refl w0.heap.size w0)
  clear h hs hok hM ht hx0 hb0 hs0
  go_enter Tryd.func31, Tryd.ntmps31
  go_upto_region 1 with fail
  rw [← hw0]
  clear hw0
  go_wp2_with fail
  refine OW.out.mono ?_
  rintro e w1 ⟨rfl, hb1⟩
  have B1 := Lib.hid (E0.out.trans hb1)
  clear hb1 OW x0 x1
  obtain ⟨x0, x1⟩ := BX.out w1 B1.out
  by_cases ho : ownA G a
  rotate_left
  · have HR := Lib.hid (fir_arg ho)
    have hd : decide (ownA G a) = false := decide_eq_false ho
    rw [hd]
    clear hd
    go_wp2
    go_ret
    rw [HR.out]
    exact ⟨rfl, (HA.out _ B1.out).mono (Nat.le_succ _), HT.out _ B1.out⟩
  have hd : decide (ownA G a) = true := decide_eq_true ho
  rw [hd]
  clear hd
  have HO := Lib.hid ho
  clear ho
  have C := Lib.hid (KW.out w1 B1.out)
  go_wp2_with fail
  refine C.out.mono ?_
  rintro e w2 ⟨rfl, hb2⟩
  have B2 := Lib.hid (B1.out.trans (hb2.mono B1.out.size))
  clear hb2 C x0 x1
  obtain ⟨x0, x1⟩ := BX.out w2 B2.out
  obtain ⟨u0, uA, u1, u2, hlook⟩ := lookAct (HA.out _ B2.out) HOK.out
  obtain ⟨A3, c3, A4, c4, q0, q1, q2, q3, L3, L4⟩ := (HA.out _ B2.out).cells
  obtain ⟨w3, hw3⟩ : ∃ w3, w3 = w2.alloc (.cells #[.int .i64 u0, .slice uA u1 u2] 30) := ⟨_, rfl⟩
  have B3 := Lib.hid (show Below w0.heap.size w0 w3 by rw [hw3]; exact B2.out.alloc B2.out.size _)
  clear q0 q1 q2 L3 L4
  go_upto_region 7 with fail
  rw [← hw3]
  clear hw3 x0 x1 q3 hlook
  obtain ⟨x0, x1⟩ := BX.out w3 B3.out
  by_cases hin : a ∈ G.D
  · have hd : decide (a ∈ G.D) = true := decide_eq_true hin
    rw [hd]
    clear hd
    have HR := Lib.hid (fir_twice HO.out hin)
    go_wp2
    go_ret
    rw [HR.out]
    exact ⟨rfl, (HA.out _ B3.out).mono (Nat.le_succ _), HT.out _ B3.out⟩
  have hd : decide (a ∈ G.D) = false := decide_eq_false hin
  rw [hd]
  have HD := Lib.hid hin
  clear hd hin
  obtain ⟨v0, vA, v1, v2, hlook⟩ := lookCon (HA.out _ B3.out) HOK.out
  obtain ⟨A3, c3, A4, c4, q0, q1, q2, q3, L3, L4⟩ := (HA.out _ B3.out).cells
  obtain ⟨w4, hw4⟩ : ∃ w4, w4 = w3.alloc (.cells #[.int .i64 v0, .slice vA v1 v2] 30) := ⟨_, rfl⟩
  have B4 := Lib.hid (show Below w0.heap.size w0 w4 by rw [hw4]; exact B3.out.alloc B3.out.size _)
  clear q0 q1 q3 L3 L4
  go_upto_region 10 with fail
  rw [← hw4]
  clear hw4 x0 x1 q2 hlook
  obtain ⟨x0, x1⟩ := BX.out w4 B4.out
  by_cases hin : a ∈ G.C
  rotate_left
  · have hd : decide (a ∈ G.C) = false := decide_eq_false hin
    rw [hd]
    clear hd
    have HR := Lib.hid (fir_none HO.out HD.out hin)
    go_wp2
    go_ret
    rw [HR.out]
    exact ⟨rfl, (HA.out _ B4.out).mono (Nat.le_succ _), HT.out _ B4.out⟩
  have hd : decide (a ∈ G.C) = true := decide_eq_true hin
  rw [hd]
  have HC := Lib.hid hin
  clear hd hin
  obtain ⟨A3, c3, A4, c4, q0, q1, q2, q3, L3, L4⟩ := (HA.out _ B4.out).cells
  obtain ⟨lb, lo, hAe, _, hlb, ds, ⟨rfl, lok⟩, hd⟩ := L3.at (lvl_at HO.out)
  subst hAe
  have d0 := hd 0 _ rfl
  simp only [Nat.add_zero, Nat.mul_one] at d0
  obtain ⟨lv, hlv⟩ : ∃ x, lvl G.lv a = x := ⟨_, rfl⟩
  obtain ⟨s, hs⟩ : ∃ s, strA G = s := ⟨_, rfl⟩
  rw [hlv] at d0
  have i1 := HO.out.1.1
  have i2 := HO.out.1.2
  have hpl := (HA.out _ B4.out).lt
  have D4 : Below w4.heap.size w4 w4.drew := (Below.refl _ _).drew
  have SW := Lib.hid (fun (W : World) (hW : Below w4.heap.size w4 W) => hs ▸ stratumW W ((HA.out _ B4.out).below hW))
  have SCc := Lib.hid (fun (W : World) (hW : Below w4.heap.size w4 W) => (show W.cell? ⟨p, 0, none⟩ = some (.slice (some ⟨lb, lo, none⟩) G.lv.length c3) ∧ W.cell? ⟨w.heap.size, 0, none⟩ = some (.int .i64 a.rule) ∧ W.cell? ⟨lb, lo + a.rule.toNat, none⟩ = some (.int .i64 lv) from
    ⟨(hW.cell (p := ⟨p, 0, none⟩) hpl).trans q0, (hW.cell (p := ⟨w.heap.size, 0, none⟩) (by have := B4.out.size; have := HS0.out; show w.heap.size < w4.heap.size; omega)).trans x0, (hW.cell (p := ⟨lb, lo + a.rule.toNat, none⟩) hlb).trans d0⟩))
  have HLV := Lib.hid hlv
  have HSS := Lib.hid hs
  clear hlv hs hd lok q1 q2 L3 L4 hlb
  go_upto_region 12 with fail
  go_cut [49] from 39 to 50 (fun t wx => t = .bool (decide (s < lv)) ∧ Below w4.heap.size w4 wx)
  case first =>
    clear x0 x1 q0 q3 d0
    go_region_held3 (fun W : World => W.cell? ⟨p, 0, none⟩ = some (.slice (some ⟨lb, lo, none⟩) G.lv.length c3) ∧ W.cell? ⟨w.heap.size, 0, none⟩ = some (.int .i64 a.rule) ∧ W.cell? ⟨lb, lo + a.rule.toNat, none⟩ = some (.int .i64 lv))
      (first | with_reducible exact SCc.out _ D4 | with_reducible exact SCc.out _ G4 | go_keep)
      (first | (go_at_call 12; refine (SW.out _ D4).mono ?_; rintro e w5 ⟨rfl, hb5⟩; have G4 := D4.trans (hb5.mono D4.size); clear hb5))
    all_goals
      go_wp2_with fail
      go_meet
      exact ⟨rfl, by first | exact G4 | exact D4⟩
  case rest =>
    obtain ⟨rfl, hbc⟩ := hcut
    have B5 := Lib.hid (B4.out.trans (hbc.mono B4.out.size))
    clear hbc SCc D4 SW x0 x1 q0 q3 d0
    obtain ⟨x0, x1⟩ := BX.out wc B5.out
    by_cases hl : s < lv
    · have hd : decide (s < lv) = true := decide_eq_true hl
      have HR := Lib.hid (fir_state HO.out HD.out HC.out (show strA G < lvl G.lv a by rw [HSS.out, HLV.out]; exact hl))
      rw [hd]
      clear hd
      go_wp2
      go_ret
      rw [HR.out]
      exact ⟨rfl, (HA.out _ B5.out).mono (Nat.le_succ _), HT.out _ B5.out⟩
    · have hd : decide (s < lv) = false := decide_eq_false hl
      have HR := Lib.hid (fir_go HO.out HD.out HC.out (show ¬ strA G < lvl G.lv a by rw [HSS.out, HLV.out]; exact hl))
      rw [hd]
      clear hd hl
      obtain ⟨A3, c3, A4, c4, q0, q1, q2, q3, L3, L4⟩ := (HA.out _ B5.out).cells
      go_upto_region 14 with fail
      have D0 : Below w0.heap.size w0 wc.drew := B5.out.drew
      have hpl := (HA.out _ B5.out).lt
      have SCc := Lib.hid (fun (W : World) (hW : Below wc.heap.size wc W) => (show W.cell? ⟨p, 3, none⟩ = some (.map (some mf)) ∧ W.cell? ⟨w.heap.size, 0, none⟩ = some (.int .i64 a.rule) ∧ W.cell? ⟨w.heap.size, 1, none⟩ = some (.slice A a.sub.length c) from
        ⟨(hW.cell (p := ⟨p, 3, none⟩) hpl).trans q3, (hW.cell (p := ⟨w.heap.size, 0, none⟩) (by have := B5.out.size; have := HS0.out; show w.heap.size < wc.heap.size; omega)).trans x0, (hW.cell (p := ⟨w.heap.size, 1, none⟩) (by have := B5.out.size; have := HS0.out; show w.heap.size < wc.heap.size; omega)).trans x1⟩))
      have D3 : Below wc.heap.size wc wc.drew := (Below.refl _ _).drew
      clear x0 x1 q0 q1 q2 q3 L3 L4
      go_region_held3 (fun W : World => W.cell? ⟨p, 3, none⟩ = some (.map (some mf)) ∧ W.cell? ⟨w.heap.size, 0, none⟩ = some (.int .i64 a.rule) ∧ W.cell? ⟨w.heap.size, 1, none⟩ = some (.slice A a.sub.length c))
        (first | with_reducible exact SCc.out _ D3 | with_reducible exact SCc.out _ G3 | with_reducible exact S5 | go_keep)
        (first
          | (go_at_call 55; refine (CW.out _ D0).mono ?_; rintro e w4 ⟨sv4, rfl, ho4, hb4⟩; obtain ⟨s4, c4', hf4⟩ := ho4.form; subst hf4; have G3 := D3.trans (hb4.mono D3.size); have G4 := D0.trans (hb4.mono D0.size); obtain ⟨w5, hupd, hA5, hT5⟩ := (HA.out w4 G4).marked HOK.out HO.out HD.out hN (ho4.rsl (fun b hb hm => by have := (ownBlock_cells ho4 hb).1; have := HM.out b hm; have := D0.size; have := HS0.out; omega) HOK.out.sub); have S5 := mark_keeps hT5 (HA.out w4 G4) (by have := G4.size; have := HS0.out; omega) (HM.out mf (HA.out w4 G4).fM) (SCc.out _ G3); have HA5 := Lib.hid (And.intro hA5 hT5); have HG4 := Lib.hid G4; clear ho4 hb4 hA5 hT5))
      all_goals
        clear S5 G3 G4
        go_wp2
        go_ret
        rw [HR.out]
        exact ⟨rfl, HA5.out.1, (HT.out _ HG4.out).trans HA5.out.2 (fun x hx => .inl hx)⟩
end Go.Proofs.YtjgigcnjgblekaaDoor

namespace Go.Proofs.YtjgigcnjgblekaaDoor
open Go Go.RowKit Go.Maps Classical

def zAc : Ac := ⟨0, []⟩
theorem zAc_ok : AcOk zAc := ⟨by unfold i64ok; decide, fun i hi => by simp [zAc] at hi, by simp [zAc]⟩
theorem zAc_own {C D : List Ac} : ownA ⟨[0], [], C, D⟩ zAc := ⟨⟨by simp [zAc], by simp [zAc]⟩, fun i hi => by simp [zAc] at hi⟩
theorem str_zero : strA ⟨[0], [], [zAc], []⟩ = 0 := by
  unfold strA
  rw [open_noD rfl]
  show lowS [0] (-1) zAc = 0
  unfold lowS
  rw [if_pos (.inl (by omega))]
  rfl
theorem open_gone : openA ⟨[0], [], [zAc], [zAc]⟩ = [] := by
  unfold openA
  simp
theorem fire_zero : fireF ⟨[0], [], [zAc], []⟩ zAc = (0, ⟨[0], [], [zAc], [zAc]⟩) := by
  rw [fir_go zAc_own (by simp) (by simp) (by rw [str_zero]; show ¬ (0 : Int) < lvl [0] zAc; simp [lvl, zAc])]
  rfl
set_option maxRecDepth 100000 in
set_option maxHeartbeats 8000000 in
theorem silentW (w : World) (ht : Tab w) : Calls Tryd.prog 23 #[] w fun e w' => e = .returned (.bool true) ∧ Below w.heap.size w w' := by
  have HT := Lib.hid (fun (W : World) (hW : Below w.heap.size w W) => ht.below hW)
  clear ht
  go_enter Tryd.func23, Tryd.ntmps23
  go_wp2_with fail
  refine (napplyW _ _ _ _).mono ?_
  rintro e w1 ⟨rfl, hb1⟩
  have B1 := Lib.hid (show Below w.heap.size w w1 from ((Below.refl w.heap.size w).alloc (Nat.le_refl _) _).trans (hb1.mono (by simp)))
  clear hb1
  go_wp2_with fail
  refine (npickW _ _).mono ?_
  rintro e w2 ⟨rfl, hb2⟩
  obtain ⟨w3, hw3⟩ : ∃ w3, w3 = w2.alloc (.cells #[.int .i64 0, .slice none 0 0] 30) := ⟨_, rfl⟩
  have hb3 : Below w2.heap.size w2 w3 := by rw [hw3]; exact (Below.refl _ _).alloc (Nat.le_refl _) _
  have r3 : w3.heap[w2.heap.size]? = some (.cells #[.int .i64 0, .slice none 0 0] 30 (0, 0)) := by rw [hw3]; exact heap_alloc_new w2 _
  have B3 := Lib.hid (B1.out.trans ((hb2.trans (hb3.mono hb2.size)).mono B1.out.size))
  have y0 : w3.cell? ⟨w2.heap.size, 0, none⟩ = some (.int .i64 0) := cell_of_row _ _ 0 _ _ _ r3
  have y1 : w3.cell? ⟨w2.heap.size, 1, none⟩ = some (.slice none 0 0) := cell_of_row _ _ 1 _ _ _ r3
  have R3 := Lib.hid r3
  clear hb2 hb3 r3
  go_upto_region 4 with fail
  rw [← hw3]
  clear hw3
  go_wp2_with fail
  refine (nstratumW _).mono ?_
  rintro e w4 ⟨rfl, hb4⟩
  have r4 := (hb4.block _ (lt_of_heap R3.out)).trans R3.out
  have y0 : w4.cell? ⟨w2.heap.size, 0, none⟩ = some (.int .i64 0) := cell_of_row _ _ 0 _ _ _ r4
  have y1 : w4.cell? ⟨w2.heap.size, 1, none⟩ = some (.slice none 0 0) := cell_of_row _ _ 1 _ _ _ r4
  have B4 := Lib.hid (B3.out.trans (hb4.mono B3.out.size))
  clear hb4 r4
  go_wp2_with fail
  refine (nfireW _ _ _ _ _).mono ?_
  rintro e w5 ⟨rfl, hb5⟩
  have B5 := Lib.hid (B4.out.trans (hb5.mono B4.out.size))
  clear hb5 y0 y1
  go_wp2_with fail
  refine (neligibleW _).mono ?_
  rintro e w6 ⟨rfl, hb6⟩
  have B6 := Lib.hid (B5.out.trans (hb6.mono B5.out.size))
  clear hb6
  go_wp2_with fail
  refine (nconflictW _).mono ?_
  rintro e w7 ⟨rfl, hb7⟩
  have B7 := Lib.hid (B6.out.trans (hb7.mono B6.out.size))
  clear hb7
  go_wp2_with fail
  refine (nfiredW _).mono ?_
  rintro e w8 ⟨rfl, hb8⟩
  have B8 := Lib.hid (B7.out.trans (hb8.mono B7.out.size))
  clear hb8
  go_wp2_with fail
  refine (ntakenW _ _).mono ?_
  rintro e w9 ⟨rfl, hb9⟩
  have B9 := Lib.hid (B8.out.trans (hb9.mono B8.out.size))
  clear hb9
  obtain ⟨wa, hwa⟩ : ∃ wa, wa = w9.alloc (.cells #[.int .i64 0] 3) := ⟨_, rfl⟩
  have hba : Below w9.heap.size w9 wa := by rw [hwa]; exact (Below.refl _ _).alloc (Nat.le_refl _) _
  have ra : wa.heap[w9.heap.size]? = some (.cells #[.int .i64 0] 3 (0, 0)) := by rw [hwa]; exact heap_alloc_new w9 _
  have BA := Lib.hid (B9.out.trans (hba.mono B9.out.size))
  have hlv : RSl (fun _ => True) wa 1 EInt (.slice (some ⟨w9.heap.size, 0, none⟩) 1 1) [0] := by
    refine ⟨some ⟨w9.heap.size, 0, none⟩, 1, rfl, Nat.le_refl _, by unfold maxLen; decide, (fun h => by cases h), .inr ⟨w9.heap.size, 0, rfl, trivial, lt_of_heap ra, fun i x hx => ?_⟩⟩
    match i with
    | 0 =>
      simp only [List.getElem?_cons_zero, Option.some.injEq] at hx
      subst hx
      refine ⟨[.int .i64 0], ⟨rfl, by unfold i64ok; decide⟩, fun j u hu => ?_⟩
      match j with
      | 0 => simp only [List.getElem?_cons_zero, Option.some.injEq] at hu; rw [← hu]; exact cell_of_row _ _ 0 _ _ _ ra
      | j + 1 => simp at hu
    | i + 1 => simp at hx
  have NW := Lib.hid (newW (F := fun _ => True) [] (.slice (some ⟨w9.heap.size, 0, none⟩) 1 1) (.slice none 0 0) [0] [] wa hlv RSl.nil (by simp) (by simp) (fun x hx => by simp at hx))
  clear hba ra hlv
  go_wp2_with fail
  rw [← hwa]
  clear hwa
  refine NW.out.mono ?_
  rintro e wb ⟨p, mc, mf, rfl, hA, hbb, g1, g2, g3⟩
  have HA := Lib.hid (show AgAt [mc, mf] wb p mc mf ⟨[0], [], [], []⟩ 0 from hA)
  have BB := Lib.hid (BA.out.trans (hbb.mono BA.out.size))
  have GG := Lib.hid (show w.heap.size ≤ mc ∧ w.heap.size ≤ mf from ⟨Nat.le_trans BA.out.size g1, Nat.le_trans BA.out.size g2⟩)
  have E0 := Lib.hid (show strA ⟨[0], [], [], []⟩ = -1 by unfold strA openA; rfl)
  have L0 := Lib.hid (show eligA ⟨[0], [], [], []⟩ = [] from (elig_ne hA.ok).2 (by unfold openA; rfl))
  clear hA hbb g1 g2 g3 NW
  go_wp2_with fail
  refine (stratumW wb HA.out).mono ?_
  rintro e wc ⟨rfl, hbc⟩
  rw [E0.out]
  have AC := Lib.hid (HA.out.below hbc)
  have BC := Lib.hid (BB.out.trans (hbc.mono BB.out.size))
  clear hbc
  go_wp2_with fail
  refine (eligibleW wc AC.out (by simp)).mono ?_
  intro e wd hr
  rw [L0.out] at hr
  obtain ⟨A3, c3, rfl, hbd, -⟩ := hr.rsl
  simp only [List.length_nil]
  have AD := Lib.hid (AC.out.below hbd)
  have BD := Lib.hid (BC.out.trans (hbd.mono BC.out.size))
  clear hr hbd
  go_wp2_with fail
  refine (each0W p wd).mono ?_
  rintro e we ⟨rfl, hbe⟩
  have AE := Lib.hid (AD.out.below hbe)
  have BE := Lib.hid (BD.out.trans (hbe.mono BD.out.size))
  clear hbe
  obtain ⟨wf, hwf⟩ : ∃ wf, wf = we.alloc (.cells #[.bool true, .int .i64 0, .slice none 0 0] 36) := ⟨_, rfl⟩
  have hbf : Below we.heap.size we wf := by rw [hwf]; exact (Below.refl _ _).alloc (Nat.le_refl _) _
  have rf : wf.heap[we.heap.size]? = some (.cells #[.bool true, .int .i64 zAc.rule, .slice none 0 0] 36 (0, 0)) := by rw [hwf]; exact heap_alloc_new we _
  have AF := Lib.hid (AE.out.below hbf)
  have BF := Lib.hid (BE.out.trans (hbf.mono BE.out.size))
  have hmcl := AE.out.con.lt
  have RC := one_chg (F := fun b => b ≠ mc) (x := (true, zAc)) rf (by omega) zAc_ok RSl.nil
  have AP := applyW (.slice (some ⟨we.heap.size, 0, none⟩) 1 1) [(true, zAc)] wf AF.out RC (by simp) (fun x hx => by
    have k1 := AF.out.con.lt
    have k2 := AF.out.fir.lt
    simp only [List.mem_cons, List.not_mem_nil, or_false] at hx
    rcases hx with e | e <;> omega) (by unfold maxLen; decide) (fun W T => HT.out W (BF.out.trans (T.below BF.out.size (fun x hx => by rw [List.mem_singleton.1 hx]; exact GG.out.1))))
  rw [app_one zAc zAc_own, if_neg (by simp)] at AP
  have AP := Lib.hid AP
  clear hbf rf hmcl RC
  go_wp2_with fail
  rw [← hwf]
  clear hwf
  refine AP.out.mono ?_
  rintro e wg ⟨rfl, hAg, hTg⟩
  have AG := Lib.hid (show AgAt [mc, mf] wg p mc mf ⟨[0], [], [zAc], []⟩ 1 from hAg)
  have BG := Lib.hid (BF.out.trans (hTg.below BF.out.size (fun x hx => by rw [List.mem_singleton.1 hx]; exact GG.out.1)))
  have L1 := Lib.hid (show eligA ⟨[0], [], [zAc], []⟩ ≠ [] from fun h => by
    have h2 := (elig_ne AG.out.ok).1 h
    rw [open_noD rfl] at h2
    cases h2)
  clear hAg hTg AP
  go_wp2_with fail
  refine (pickW 0 (by unfold i64ok; decide) wg AG.out (by simp)).mono ?_
  rintro e wh ⟨x, sv, er, rfl, -, hbh, hcase⟩
  have her : er = 0 := by
    rcases hcase with ⟨h1, _⟩ | ⟨_, _, h3⟩
    · exact absurd h1 L1.out
    · exact h3
  subst her
  have AH := Lib.hid (AG.out.below hbh)
  have BH := Lib.hid (BG.out.trans (hbh.mono BG.out.size))
  clear hbh hcase
  go_wp2_with fail
  refine (stratumW wh AH.out).mono ?_
  rintro e wi ⟨rfl, hbi⟩
  rw [str_zero]
  have AI := Lib.hid (AH.out.below hbi)
  have BI := Lib.hid (BH.out.trans (hbi.mono BH.out.size))
  have FW := fireW (F := fun _ => True) zAc (.slice none 0 0) wi AI.out RSl.nil zAc_ok (fun x hx => by
    have k1 := AI.out.con.lt
    have k2 := AI.out.fir.lt
    simp only [List.mem_cons, List.not_mem_nil, or_false] at hx
    rcases hx with e | e <;> omega) (by unfold maxLen; decide) (HT.out wi BI.out)
  rw [fire_zero] at FW
  have FW := Lib.hid FW
  clear hbi
  go_wp2_with fail
  refine FW.out.mono ?_
  rintro e wj ⟨rfl, hAj, hTj⟩
  have AJ := Lib.hid hAj
  have BJ := Lib.hid (BI.out.trans (hTj.below BI.out.size (fun x hx => by rw [List.mem_singleton.1 hx]; exact GG.out.2)))
  have E2 := Lib.hid (show strA ⟨[0], [], [zAc], [zAc]⟩ = -1 from (str_none hAj.ok).2 open_gone)
  clear hAj hTj FW
  go_wp2_with fail
  refine (stratumW wj AJ.out).mono ?_
  rintro e wk ⟨rfl, hbk⟩
  rw [E2.out]
  have BK := Lib.hid (BJ.out.trans (hbk.mono BJ.out.size))
  clear hbk
  go_wp2
  go_ret
  exact ⟨rfl, BK.out⟩
end Go.Proofs.YtjgigcnjgblekaaDoor

namespace Go.Proofs.YtjgigcnjgblekaaDoor
open Go Go.RowKit Go.Maps Classical

/-- A number more, in a region that draws its order and calls nothing ahead of it. -/
theorem step_append_Ze {ops : Array Oper} {o : Oper} {a : Act} {K : Act → World → Prop} {Q : Exit → Act → World → Prop} {E : Prop} {w : World} {B : Nat} {v : Value} {l : List Int} (h : OwnZ w B v l) (hgd : o.guard = none) (s q : Operand)
    (ho : o.op = .call { callee := .builtin .append, args := #[s, q], argTypes := #[22, 22] }) {c H : Nat} (hs : a.eval s = v) (x : Int) (T : TypeId) (hq : a.eval q = .slice (some ⟨H, 0, none⟩) 1 c) (hH : w.heap.size = H) (hn : l.length ≤ 40000000) (hB : B ≤ w.heap.size)
    (k : ∀ g cap w', OwnZ w' B (.slice (some ⟨g, 0, none⟩) (l.length + 1) cap) (l ++ [x]) → Turns v.ownBlock.toList w w' → (v.ownBlock = some g ∨ w.heap.size ≤ g) → g < w'.heap.size →
      K (a.put o.dst (.slice (some ⟨g, 0, none⟩) (l.length + 1) cap)) w') : if Region.wanted o (yielded ops a.tmps) = true then Oper.wp Tryd.prog o a (w.alloc (.cells #[.int .i64 x] T)).drew K Q else E := by
  subst hH
  obtain ⟨i0, hi0, hz0, hz1, hz2⟩ := info_parts infoIntR
  have hbl : Below w.heap.size w (w.alloc (.cells #[.int .i64 x] T)).drew := ((Below.refl w.heap.size w).alloc (Nat.le_refl _) (.cells #[.int .i64 x] T)).drew
  have h1 := h.below hbl
  refine step_append1s (w.alloc (.cells #[.int .i64 x] T)).drew hgd s q 22 ho B 3 i0 (.int .i64 0) 1 8 Tryd.underlying22 hi0 hz0 hz1 hz2 rfl (by decide) v l.length (intVs l) hs h1 ⟨w.heap.size, 0, none⟩ c [.int .i64 x] hq rfl (World.news_of_block (heap_alloc_new w _)) (by simp [Value.oneCell']) hn (by decide) (by simp; omega) _ rfl ?_
  intro g cap w' hown hgrow hat hlt
  refine k g cap w' ?_ (((((Turns.refl [] w).alloc _).drew).mono (by simp)).trans (Turns.of_grown hgrow) (fun x hx => .inl hx)) ?_ hlt
  · unfold OwnZ
    rw [show intVs (l ++ [x]) = intVs l ++ [.int .i64 x] by simp [intVs], List.length_append]
    exact hown
  · rcases hat with h | h
    · exact .inl h
    · exact .inr (by have := h.1; simp at this; omega)
def upd {α : Type} (f : Nat → α) (i : Nat) (x : α) : Nat → α := fun q => if q = i then x else f q
theorem upd_same {α : Type} (f : Nat → α) (i : Nat) (x : α) : upd f i x i = x := if_pos rfl
theorem upd_ne {α : Type} {f : Nat → α} {i q : Nat} {x : α} (h : q ≠ i) : upd f i x q = f q := if_neg h
theorem map_upd {hv : Nat → Value} {i m : Nat} {x : Value} : (List.range m).map (upd hv i x) = ((List.range m).map hv).set i x := by
  refine List.ext_getElem? fun q => ?_
  by_cases hq : q < m
  · rw [List.getElem?_map, List.getElem?_range hq, List.getElem?_set]
    by_cases e : i = q
    · subst e
      rw [if_pos rfl, if_pos (by simpa using hq)]
      simp [upd]
    · rw [if_neg e, List.getElem?_map, List.getElem?_range hq]
      simp only [Option.map_some, Option.some.injEq]
      exact upd_ne (fun h => e h.symm)
  · rw [List.getElem?_eq_none (by simp; omega), List.getElem?_eq_none (by simp; omega)]
theorem infoSInt : (Tryd.prog.info? 22).map (fun i => (i.zero, i.size, i.bytes)) = some (some (.slice none 0 0), 1, 24) := by kernel_rfl
/-- The state: m headers laid in the row, n lists. -/
structure SepSt (B n m : Nat) (S : List Nat) (w wr : World) (vss : Value) (hv : Nat → Value) (ll : Nat → List Int) : Prop where
  row : wr.ownsRow w.heap.size 22 1 vss m ((List.range m).map hv)
  own : ∀ q, q < n → OwnZ wr B (hv q) (ll q)
  ap : ∀ p q, p < n → q < n → p ≠ q → ∀ b, (hv p).ownBlock = some b → (hv q).ownBlock ≠ some b
  rap : ∀ q, q < n → ∀ b, (hv q).ownBlock = some b → vss.ownBlock ≠ some b
  bS : ∀ q, q < n → ∀ b, (hv q).ownBlock = some b → b ∈ S ∨ w.heap.size ≤ b
  T : Turns S w wr
  BB : B ≤ w.heap.size
section
variable {B n m i : Nat} {S : List Nat} {w wr w3 : World} {vss v' : Value} {hv : Nat → Value} {ll : Nat → List Int}
theorem SepSt.below (h : SepSt B n m S w wr vss hv ll) (hb : Below wr.heap.size wr w3) : SepSt B n m S w w3 vss hv ll :=
  ⟨ownsRow_turns h.row (Turns.of_below (S := []) hb) (fun _ _ => by simp), fun q hq => (h.own q hq).below hb, h.ap, h.rap, h.bS, h.T.trans (Turns.of_below (S := []) hb) (fun x hx => by simp at hx), h.BB⟩
/-- A list is another; its block is its own or new. -/
theorem SepSt.list (h : SepSt B n m S w wr vss hv ll) (hi : i < n) {l' : List Int} (T : Turns (hv i).ownBlock.toList wr w3) (ho : OwnZ w3 B (hv i) l') : SepSt B n m S w w3 vss hv (upd ll i l') := by
  have hm : ∀ {b : Nat}, b ∈ (hv i).ownBlock.toList → (hv i).ownBlock = some b := fun hb => by simpa using hb
  refine ⟨ownsRow_turns h.row T (fun b hb hx => h.rap i hi b (hm hx) hb), fun q hq => ?_, h.ap, h.rap, h.bS, h.T.trans T (fun x hx => h.bS i hi x (hm hx)), h.BB⟩
  by_cases e : q = i
  · subst e; rw [upd_same]; exact ho
  · rw [upd_ne e]
    exact (h.own q hq).turns T (fun b hb hx => h.ap q i hq hi e b hb (hm hx))
/-- A cell of a list is written. -/
theorem SepSt.write (h : SepSt B n m S w wr vss hv ll) (hi : i < n) {g c j : Nat} (hv0 : hv i = .slice (some ⟨g, 0, none⟩) (ll i).length c) (x : Int) : SepSt B n m S w (wr.setCell ⟨g, j, none⟩ (.int .i64 x)) vss hv (upd ll i ((ll i).set j x)) := by
  have ho := h.own i hi
  rw [hv0] at ho
  refine h.list hi (by rw [hv0]; exact (Turns.refl _ _).setCell (.inl (by simp [Value.ownBlock])) _) ?_
  rw [hv0]
  have h1 := (World.ownsRow.stored ho j (.int .i64 x)).1
  unfold OwnZ
  rw [List.length_set, show intVs ((ll i).set j x) = (intVs (ll i)).set j (.int .i64 x) by simp [intVs, List.map_set]]
  exact h1
/-- A list grew, its header was laid back. -/
theorem SepSt.grow (h : SepSt B n n S w wr vss hv ll) (hi : i < n) {gs : Nat} {cap : Nat} (hvs : vss = .slice (some ⟨gs, 0, none⟩) n cap) {l' : List Int} {g c : Nat} (hv' : v' = .slice (some ⟨g, 0, none⟩) l'.length c) (T : Turns (hv i).ownBlock.toList wr w3) (ho : OwnZ w3 B v' l') (hat : (hv i).ownBlock = some g ∨ wr.heap.size ≤ g) :
    SepSt B n n S w (w3.setCell ⟨gs, i, none⟩ v') vss (upd hv i v') (upd ll i l') := by
  have hm : ∀ {b : Nat}, b ∈ (hv i).ownBlock.toList → (hv i).ownBlock = some b := fun hb => by simpa using hb
  have hgs : vss.ownBlock = some gs := by rw [hvs]; rfl
  have hv'b : ∀ b, v'.ownBlock = some b → b = g := fun b hb => by rw [hv'] at hb; simpa [Value.ownBlock] using hb.symm
  have hrow := ownsRow_turns h.row T (fun b hb hx => h.rap i hi b (hm hx) hb)
  have hsz : ∀ q, q < n → ∀ b, (hv q).ownBlock = some b → b < wr.heap.size := fun q hq b hb => (ownBlock_cells (h.own q hq) hb).2.1
  have hgsz : gs < wr.heap.size := (ownBlock_cells h.row hgs).2.1
  have T2 : Turns [gs] w3 (w3.setCell ⟨gs, i, none⟩ v') := (Turns.refl _ _).setCell (.inl (by simp)) _
  have hgg : g ≠ gs := by
    rcases hat with e | e
    · exact fun x => h.rap i hi g e (by rw [hgs, x])
    · omega
  refine ⟨?_, fun q hq => ?_, fun p q hp hq hpq b hb => ?_, fun q hq b hb => ?_, fun q hq b hb => ?_, ?_, h.BB⟩
  · rw [map_upd]
    rw [hvs] at hrow ⊢
    exact (World.ownsRow.stored hrow i v').1
  · by_cases e : q = i
    · subst e; rw [upd_same, upd_same]
      exact ho.turns T2 (fun b hb hx => hgg (by rw [← hv'b b hb]; exact List.mem_singleton.1 hx))
    · rw [upd_ne e, upd_ne e]
      exact ((h.own q hq).turns T (fun b hb hx => h.ap q i hq hi e b hb (hm hx))).turns T2 (fun b hb hx => h.rap q hq b hb (by rw [hgs, List.mem_singleton.1 hx]))
  · by_cases e : p = i
    · subst e
      rw [upd_same] at hb
      have eb := hv'b b hb
      rw [upd_ne (fun x => hpq x.symm)]
      intro hq2
      rcases hat with e2 | e2
      · exact h.ap p q hp hq hpq g e2 (eb ▸ hq2)
      · have := hsz q hq b hq2; omega
    · rw [upd_ne e] at hb
      by_cases e3 : q = i
      · subst e3
        rw [upd_same]
        intro hq2
        have eb := hv'b b hq2
        rcases hat with e2 | e2
        · exact h.ap p q hp hq hpq b hb (eb ▸ e2)
        · have := hsz p hp b hb; omega
      · rw [upd_ne e3]
        exact h.ap p q hp hq hpq b hb
  · by_cases e : q = i
    · subst e
      rw [upd_same] at hb
      intro h2
      rw [hgs] at h2
      have := hv'b b hb
      exact hgg (by rw [← this]; exact (Option.some.inj h2).symm)
    · rw [upd_ne e] at hb
      exact h.rap q hq b hb
  · by_cases e : q = i
    · subst e
      rw [upd_same] at hb
      rw [hv'b b hb]
      rcases hat with e2 | e2
      · exact h.bS q hq g e2
      · exact .inr (Nat.le_trans h.T.size e2)
    · rw [upd_ne e] at hb
      exact h.bS q hq b hb
  · exact (h.T.trans T (fun x hx => h.bS i hi x (hm hx))).trans T2 (fun x hx => by rw [List.mem_singleton.1 hx]; exact .inr (ownBlock_cells h.row hgs).1)
/-- A header is laid behind the row. -/
theorem SepSt.push (h : SepSt B n m S w wr vss hv ll) (T : Turns vss.ownBlock.toList wr w3) {g cap : Nat} (ho : w3.ownsRow w.heap.size 22 1 (.slice (some ⟨g, 0, none⟩) (m + 1) cap) (m + 1) ((List.range m).map hv ++ [hv m])) (hat : vss.ownBlock = some g ∨ wr.heap.size ≤ g) : SepSt B n (m + 1) S w w3 (.slice (some ⟨g, 0, none⟩) (m + 1) cap) hv ll := by
  have hm : ∀ {b : Nat}, b ∈ vss.ownBlock.toList → vss.ownBlock = some b := fun hb => by simpa using hb
  refine ⟨?_, fun q hq => (h.own q hq).turns T (fun b hb hx => h.rap q hq b hb (hm hx)), h.ap, fun q hq b hb e => ?_, h.bS, h.T.trans T (fun x hx => .inr (ownBlock_cells h.row (hm hx)).1), h.BB⟩
  · rw [List.range_succ, List.map_append]
    exact ho
  · have eb : g = b := by simpa [Value.ownBlock] using e
    subst eb
    rcases hat with e2 | e2
    · exact h.rap q hq _ hb e2
    · have := (ownBlock_cells (h.own q hq) hb).2.1; omega
/-- What is read. -/
theorem SepSt.hdr (h : SepSt B n m S w wr vss hv ll) (hm : 0 < m) : ∃ gs cap, vss = .slice (some ⟨gs, 0, none⟩) m cap ∧ (∀ i, i < m → wr.cell? ⟨gs, i, none⟩ = some (hv i)) ∧ ∀ o, wr.frozen? ⟨gs, o, none⟩ = false := by
  rcases h.row.2 with ⟨_, h0⟩ | ⟨g, cap, cur, h', _, hh, _⟩
  · omega
  · subst h'
    refine ⟨g, cap, rfl, fun i hi => ?_, fun o => frozen_of_row _ _ _ _ _ hh⟩
    rw [World.ownsRow.cellAt h.row i (by omega)]
    simp [hi]
theorem SepSt.lst (h : SepSt B n m S w wr vss hv ll) (hi : i < n) (h0 : 0 < (ll i).length) : ∃ g c, hv i = .slice (some ⟨g, 0, none⟩) (ll i).length c ∧ (∀ j x, (ll i)[j]? = some x → wr.cell? ⟨g, j, none⟩ = some (.int .i64 x)) ∧ ∀ o, wr.frozen? ⟨g, o, none⟩ = false := by
  have ho := h.own i hi
  rcases ho.2 with ⟨_, h1⟩ | ⟨g, cap, cur, h', _, hh, _⟩
  · omega
  · unfold OwnZ at ho
    rw [h'] at ho ⊢
    refine ⟨g, cap, rfl, fun j x hx => ?_, fun o => frozen_of_row _ _ _ _ _ hh⟩
    rw [World.ownsRow.cellAt ho j (by have := (List.getElem?_eq_some_iff.1 hx).1; omega)]
    simp [intVs, hx]
end
end Go.Proofs.YtjgigcnjgblekaaDoor
