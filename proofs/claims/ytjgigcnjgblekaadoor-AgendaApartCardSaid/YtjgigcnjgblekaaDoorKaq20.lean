/- change: one change comes in. The walk. Apply: changes, one by one. The walk. slices.Clone of constants; New: an agenda with nothing in it. The walks. -/
import Derived.Test.YtjgigcnjgblekaaDoorKaq17
import Derived.Test.YtjgigcnjgblekaaDoorKaq19
import Derived.Carry
namespace Go.Proofs.YtjgigcnjgblekaaDoor
open Go Go.RowKit Go.Maps Classical

section
variable {M : List Nat} {w w' : World} {p mc mf N : Nat} {g : Agd}
theorem AgAt.stored (h : AgAt M w p mc mf g N) {a : Ac} (hok : AcOk a) (ho : ownA g a) (ha : a ∉ g.C) (hN : N < maxLen) {sv : Value} (hs : RSl (fun b => b ∉ M) w 1 EInt sv a.sub) :
    ∃ w', (Instr.mapUpdate 77 (.map (some mc)) (keyV a) (.agg #[.int .i64 a.rule, sv])).run Tryd.prog w = .ok () w' ∧ AgAt M w' p mc mf { g with C := g.C ++ [a] } (N + 1) ∧ Turns [mc] w w' := by
  obtain ⟨w', hrun, hm, T⟩ := h.con.store hok hN (fun hn => hn h.cM) hs
  have K : Kp (fun b => b ∉ M) w w' := Kp.of_turns T (fun x hx hn => by rw [List.mem_singleton.1 hx] at hn; exact hn h.cM)
  obtain ⟨lv, cv, h1, h2, h3⟩ := h.blk
  refine ⟨w', hrun, ⟨h.ok.add ho ha, h.big, ⟨lv, cv, ?_, h2.keep K, h3.keep K⟩, h.pM, h.cM, h.fM, h.ne, hm, (h.fir.keep (T.block mf h.fir.lt (by simpa using h.ne.symm)) K (fun _ _ h => h)).mono (Nat.le_succ _)⟩, T⟩
  rw [T.block p (lt_of_heap h1) (fun hm => h.pM (by rw [List.mem_singleton.1 hm]; exact h.cM))]
  exact h1
theorem AgAt.dropped (h : AgAt M w p mc mf g N) {a : Ac} (hok : AcOk a) (ty : TypeId) :
    ∃ w', (Builtin.delete_ #[77, 9] ty #[.map (some mc), keyV a]).run Tryd.prog w = .ok (.tuple #[]) w' ∧ AgAt M w' p mc mf { g with C := dropA g.C a } N ∧ Turns [mc] w w' := by
  obtain ⟨w', hrun, hm, T⟩ := h.con.drop hok (fun hn => hn h.cM) ty
  have K : Kp (fun b => b ∉ M) w w' := Kp.of_turns T (fun x hx hn => by rw [List.mem_singleton.1 hx] at hn; exact hn h.cM)
  obtain ⟨lv, cv, h1, h2, h3⟩ := h.blk
  refine ⟨w', hrun, ⟨h.ok.drop a, h.big, ⟨lv, cv, ?_, h2.keep K, h3.keep K⟩, h.pM, h.cM, h.fM, h.ne, hm, h.fir.keep (T.block mf h.fir.lt (by simpa using h.ne.symm)) K (fun _ _ h => h)⟩, T⟩
  rw [T.block p (lt_of_heap h1) (fun hm => h.pM (by rw [List.mem_singleton.1 hm]; exact h.cM))]
  exact h1
theorem AgAt.marked (h : AgAt M w p mc mf g N) {a : Ac} (hok : AcOk a) (ho : ownA g a) (ha : a ∉ g.D) (hN : N < maxLen) {sv : Value} (hs : RSl (fun b => b ∉ M) w 1 EInt sv a.sub) :
    ∃ w', (Instr.mapUpdate 77 (.map (some mf)) (keyV a) (.agg #[.int .i64 a.rule, sv])).run Tryd.prog w = .ok () w' ∧ AgAt M w' p mc mf { g with D := g.D ++ [a] } (N + 1) ∧ Turns [mf] w w' := by
  obtain ⟨w', hrun, hm, T⟩ := h.fir.store hok hN (fun hn => hn h.fM) hs
  have K : Kp (fun b => b ∉ M) w w' := Kp.of_turns T (fun x hx hn => by rw [List.mem_singleton.1 hx] at hn; exact hn h.fM)
  obtain ⟨lv, cv, h1, h2, h3⟩ := h.blk
  refine ⟨w', hrun, ⟨h.ok.fire ho ha, h.big, ⟨lv, cv, ?_, h2.keep K, h3.keep K⟩, h.pM, h.cM, h.fM, h.ne, (h.con.keep (T.block mc h.con.lt (by simpa using h.ne)) K (fun _ _ h => h)).mono (Nat.le_succ _), hm⟩, T⟩
  rw [T.block p (lt_of_heap h1) (fun hm => h.pM (by rw [List.mem_singleton.1 hm]; exact h.fM))]
  exact h1
theorem lookCon (h : AgAt M w p mc mf g N) {a : Ac} (ha : AcOk a) : ∃ (u0 : Int) (uA : Option Addr) (u1 u2 : Nat), (Instr.lookup 77 (.map (some mc)) (keyV a) true).run Tryd.prog w = .ok (.tuple #[.agg #[.int .i64 u0, .slice uA u1 u2], .bool (decide (a ∈ g.C))]) w := by
  by_cases hd : a ∈ g.C
  · obtain ⟨sv, h1, h2⟩ := h.con.in hd
    obtain ⟨A, c, rfl⟩ := h2.form
    exact ⟨a.rule, A, _, c, by rw [h1, decide_eq_true hd]⟩
  · exact ⟨0, none, 0, 0, by rw [h.con.out ha hd, decide_eq_false hd]; rfl⟩
end
theorem store_keeps {M : List Nat} {w w' : World} {p mc mf N q : Nat} {g : Agd} {v r s : Value} (T : Turns [mc] w w') (h : AgAt M w p mc mf g N) (hq : q < w.heap.size) (hmq : mc < q)
    (hS : w.cell? ⟨p, 2, none⟩ = some v ∧ w.cell? ⟨q, 1, none⟩ = some r ∧ w.cell? ⟨q, 2, none⟩ = some s) : w'.cell? ⟨p, 2, none⟩ = some v ∧ w'.cell? ⟨q, 1, none⟩ = some r ∧ w'.cell? ⟨q, 2, none⟩ = some s :=
  ⟨(T.cell h.lt (fun hm => h.pM (by rw [List.mem_singleton.1 hm]; exact h.cM))).trans hS.1, (T.cell hq (fun hm => by rw [List.mem_singleton.1 hm] at hmq; omega)).trans hS.2.1, (T.cell hq (fun hm => by rw [List.mem_singleton.1 hm] at hmq; omega)).trans hS.2.2⟩
/-- What a change leaves. -/
def ChgRes (M : List Nat) (p mc mf N : Nat) (R : Int × Agd) (w : World) (e : Ending) (w' : World) : Prop := e = .returned (.int .i64 R.1) ∧ AgAt M w' p mc mf R.2 N ∧ Turns [mc] w w'
theorem chg_arg {g : Agd} {came : Bool} {a : Ac} (h : ¬ ownA g a) : chgF g came a = (2, g) := by unfold chgF; rw [if_pos h]
theorem chg_twice {g : Agd} {a : Ac} (h : ownA g a) (hc : a ∈ g.C) : chgF g true a = (51, g) := by unfold chgF; rw [if_neg (by simpa using h), if_pos rfl, if_pos hc]
theorem chg_come {g : Agd} {a : Ac} (h : ownA g a) (hc : a ∉ g.C) : chgF g true a = (0, { g with C := g.C ++ [a] }) := by unfold chgF; rw [if_neg (by simpa using h), if_pos rfl, if_neg hc]
theorem chg_none {g : Agd} {a : Ac} (h : ownA g a) (hc : a ∉ g.C) : chgF g false a = (50, g) := by unfold chgF; rw [if_neg (by simpa using h), if_neg (by simp), if_neg hc]
theorem chg_go {g : Agd} {a : Ac} (h : ownA g a) (hc : a ∈ g.C) : chgF g false a = (0, { g with C := dropA g.C a }) := by unfold chgF; rw [if_neg (by simpa using h), if_neg (by simp), if_pos hc]
set_option maxRecDepth 100000 in
set_option maxHeartbeats 8000000 in
theorem changeW {F : Nat → Prop} {M : List Nat} {p mc mf N : Nat} {G : Agd} (came : Bool) (a : Ac) (sv : Value) (w : World) (h : AgAt M w p mc mf G N) (hs : RSl F w 1 EInt sv a.sub) (hok : AcOk a) (hM : ∀ x ∈ M, x < w.heap.size) (hN : N < maxLen) (ht : Tab w) :
    Calls Tryd.prog 34 #[.pointer (some ⟨p, 0, none⟩), .agg #[.bool came, .int .i64 a.rule, sv]] w (ChgRes M p mc mf (N + 1) (chgF G came a) w) := by
  obtain ⟨A, c, rfl⟩ := hs.form
  obtain ⟨w0, hw0⟩ : ∃ w0, w0 = w.alloc (.cells #[.bool came, .int .i64 a.rule, .slice A a.sub.length c] 36) := ⟨_, rfl⟩
  have hx0 : Below (w.heap.size + 1) (w.alloc (.cells #[.bool came, .int .i64 a.rule, .slice A a.sub.length c] 36)) w0 := by rw [hw0]; exact Below.refl _ _
  have hb0 := box_belowD hx0
  have hs0 : w0.heap.size = w.heap.size + 1 := by rw [hw0]; simp
  have x0 := box_cellD hx0 0 rfl
  have x1 := box_cellD hx0 1 rfl
  have x2 := box_cellD hx0 2 rfl
  have BX := Lib.hid (fun (W : World) (hW : Below w0.heap.size w0 W) => (show W.cell? ⟨w.heap.size, 0, none⟩ = some (.bool came) ∧ W.cell? ⟨w.heap.size, 1, none⟩ = some (.int .i64 a.rule) ∧ W.cell? ⟨w.heap.size, 2, none⟩ = some (.slice A a.sub.length c) from
    ⟨(hW.cell (p := ⟨w.heap.size, 0, none⟩) (by show w.heap.size < w0.heap.size; omega)).trans x0, (hW.cell (p := ⟨w.heap.size, 1, none⟩) (by show w.heap.size < w0.heap.size; omega)).trans x1, (hW.cell (p := ⟨w.heap.size, 2, none⟩) (by show w.heap.size < w0.heap.size; omega)).trans x2⟩))
  have OW := Lib.hid (ownW a (.slice A a.sub.length c) w0 (h.below hb0) (hs.keep (Kp.of_below hb0)) hok.rule)
  have KW := Lib.hid (fun (W : World) (hW : Below w0.heap.size w0 W) => keyW a (.slice A a.sub.length c) W ((hs.keep (Kp.of_below hb0)).keep (Kp.of_below hW)) hok ((ht.below hb0).below hW))
  have CW := Lib.hid (fun (W : World) (hW : Below w0.heap.size w0 W) => copiedW a (.slice A a.sub.length c) W ((hs.keep (Kp.of_below hb0)).keep (Kp.of_below hW)) (by have := hok.len; omega))
  have HA := Lib.hid (fun (W : World) (hW : Below w0.heap.size w0 W) => (h.below hb0).below hW)
  have HT := Lib.hid (fun (W : World) (hW : Below w0.heap.size w0 W) => (show Turns [mc] w W from Turns.of_below (hb0.trans (hW.mono hb0.size))))
  have HOK := Lib.hid hok
  have HM := Lib.hid hM
  have E0 := Lib.hid (Below.refl w0.heap.size w0)
  clear h hs hok hM ht hx0 hb0
  go_enter Tryd.func34, Tryd.ntmps34
  go_upto_region 1 with fail
  rw [← hw0]
  clear hw0
  go_wp2_with fail
  refine OW.out.mono ?_
  rintro e w1 ⟨rfl, hb1⟩
  have B1 := Lib.hid (E0.out.trans hb1)
  clear hb1 OW x0 x1 x2
  obtain ⟨x0, x1, x2⟩ := BX.out w1 B1.out
  by_cases ho : ownA G a
  rotate_left
  · have HR := Lib.hid (chg_arg (came := came) ho)
    have hd : decide (ownA G a) = false := decide_eq_false ho
    rw [hd]
    clear hd
    go_wp2
    go_ret
    rw [HR.out]
    exact ⟨rfl, (HA.out _ B1.out).mono (Nat.le_succ _), HT.out _ B1.out⟩
  have hd : decide (ownA G a) = true := decide_eq_true ho
  rw [hd]
  clear hd
  have HO := Lib.hid ho
  clear ho
  have C := Lib.hid (KW.out w1 B1.out)
  go_wp2_with fail
  refine C.out.mono ?_
  rintro e w2 ⟨rfl, hb2⟩
  have B2 := Lib.hid (B1.out.trans (hb2.mono B1.out.size))
  clear hb2 C x0 x1 x2
  obtain ⟨x0, x1, x2⟩ := BX.out w2 B2.out
  obtain ⟨u0, uA, u1, u2, hlook⟩ := lookCon (HA.out _ B2.out) HOK.out
  obtain ⟨A3, c3, A4, c4, q0, q1, q2, q3, L3, L4⟩ := (HA.out _ B2.out).cells
  obtain ⟨w3, hw3⟩ : ∃ w3, w3 = w2.alloc (.cells #[.int .i64 u0, .slice uA u1 u2] 30) := ⟨_, rfl⟩
  have B3 := Lib.hid (show Below w0.heap.size w0 w3 by rw [hw3]; exact B2.out.alloc B2.out.size _)
  clear q0 q1 q3 L3 L4
  go_upto_region 6 with fail
  rw [← hw3]
  clear hw3 x0 x1 x2 q2 hlook
  obtain ⟨x0, x1, x2⟩ := BX.out w3 B3.out
  obtain ⟨A3, c3, A4, c4, q0, q1, q2, q3, L3, L4⟩ := (HA.out _ B3.out).cells
  clear q0 q1 q3 L3 L4
  by_cases hin : a ∈ G.C
  · have hd : decide (a ∈ G.C) = true := decide_eq_true hin
    rw [hd]
    clear hd
    cases came with
    | true =>
      have HR := Lib.hid (chg_twice HO.out hin)
      go_wp2
      go_ret
      rw [HR.out]
      exact ⟨rfl, (HA.out _ B3.out).mono (Nat.le_succ _), HT.out _ B3.out⟩
    | false =>
      have HR := Lib.hid (chg_go HO.out hin)
      obtain ⟨w4, hdel, hA4, hT4⟩ := (HA.out _ B3.out).dropped HOK.out 0
      have HA4 := Lib.hid (And.intro hA4 hT4)
      clear hA4 hT4
      go_wp2
      go_ret
      rw [HR.out]
      exact ⟨rfl, HA4.out.1.mono (Nat.le_succ _), (HT.out _ B3.out).trans HA4.out.2 (fun x hx => .inl hx)⟩
  · have hd : decide (a ∈ G.C) = false := decide_eq_false hin
    rw [hd]
    clear hd
    cases came with
    | false =>
      have HR := Lib.hid (chg_none HO.out hin)
      go_wp2
      go_ret
      rw [HR.out]
      exact ⟨rfl, (HA.out _ B3.out).mono (Nat.le_succ _), HT.out _ B3.out⟩
    | true =>
      have HR := Lib.hid (chg_come HO.out hin)
      have HIN := Lib.hid hin
      clear hin
      go_upto_region 9 with fail
      have D0 : Below w0.heap.size w0 w3.drew := B3.out.drew
      have hpl := (HA.out _ B3.out).lt
      have SCc := Lib.hid (fun (W : World) (hW : Below w3.heap.size w3 W) => (show W.cell? ⟨p, 2, none⟩ = some (.map (some mc)) ∧ W.cell? ⟨w.heap.size, 1, none⟩ = some (.int .i64 a.rule) ∧ W.cell? ⟨w.heap.size, 2, none⟩ = some (.slice A a.sub.length c) from
        ⟨(hW.cell (p := ⟨p, 2, none⟩) hpl).trans q2, (hW.cell (p := ⟨w.heap.size, 1, none⟩) (by have := B3.out.size; show w.heap.size < w3.heap.size; omega)).trans x1, (hW.cell (p := ⟨w.heap.size, 2, none⟩) (by have := B3.out.size; show w.heap.size < w3.heap.size; omega)).trans x2⟩))
      have D3 : Below w3.heap.size w3 w3.drew := (Below.refl _ _).drew
      clear x0 x1 x2 q2
      go_region_held3 (fun W : World => W.cell? ⟨p, 2, none⟩ = some (.map (some mc)) ∧ W.cell? ⟨w.heap.size, 1, none⟩ = some (.int .i64 a.rule) ∧ W.cell? ⟨w.heap.size, 2, none⟩ = some (.slice A a.sub.length c))
        (first | with_reducible exact SCc.out _ D3 | with_reducible exact SCc.out _ G3 | with_reducible exact S5 | go_keep)
        (first
          | (go_at_call 55; refine (CW.out _ D0).mono ?_; rintro e w4 ⟨sv4, rfl, ho4, hb4⟩; obtain ⟨s4, c4', hf4⟩ := ho4.form; subst hf4; have G3 := D3.trans (hb4.mono D3.size); have G4 := D0.trans (hb4.mono D0.size); obtain ⟨w5, hupd, hA5, hT5⟩ := (HA.out w4 G4).stored HOK.out HO.out HIN.out hN (ho4.rsl (fun b hb hm => by have := (ownBlock_cells ho4 hb).1; have := HM.out b hm; have := D0.size; omega) HOK.out.sub); have S5 := store_keeps hT5 (HA.out w4 G4) (by have := G4.size; omega) (HM.out mc (HA.out w4 G4).cM) (SCc.out _ G3); have HA5 := Lib.hid (And.intro hA5 hT5); have HG4 := Lib.hid G4; clear ho4 hb4 hA5 hT5))
      all_goals
        clear S5 G3 G4
        go_wp2
        go_ret
        rw [HR.out]
        exact ⟨rfl, HA5.out.1, (HT.out _ HG4.out).trans HA5.out.2 (fun x hx => .inl hx)⟩
end Go.Proofs.YtjgigcnjgblekaaDoor

namespace Go.Proofs.YtjgigcnjgblekaaDoor
open Go Go.RowKit Go.Maps Classical

/-- A change's cells. -/
def EChg (F : Nat → Prop) (w : World) (cs : List Value) (x : Bool × Ac) : Prop := ∃ sv, cs = [.bool x.1, .int .i64 x.2.rule, sv] ∧ AcOk x.2 ∧ RSl F w 1 EInt sv x.2.sub
theorem EChg.kp {F F' : Nat → Prop} {w w' : World} {cs : List Value} {x : Bool × Ac} (h : EChg F w cs x) (hk : Kp F w w') (hF : ∀ b, b < w.heap.size → F b → F' b) : EChg F' w' cs x := by
  obtain ⟨sv, h1, h2, h3⟩ := h
  exact ⟨sv, h1, h2, h3.kp hk hF (fun _ _ h => h)⟩
theorem app_nil (g : Agd) (n : Nat) : appF g [] n = (n, 0, g) := rfl
theorem app_stop {g : Agd} {x : Bool × Ac} {r : List (Bool × Ac)} {n : Nat} (h : (chgF g x.1 x.2).1 ≠ 0) : appF g (x :: r) n = (n, (chgF g x.1 x.2).1, g) := by unfold appF; rw [if_neg h]
theorem app_next {g : Agd} {x : Bool × Ac} {r : List (Bool × Ac)} {n : Nat} (h : (chgF g x.1 x.2).1 = 0) : appF g (x :: r) n = appF (chgF g x.1 x.2).2 r (n + 1) := by rw [appF, if_pos h]
theorem chg_bad {g : Agd} {came : Bool} {a : Ac} (h : (chgF g came a).1 ≠ 0) : (chgF g came a).2 = g := by
  by_cases ho : ownA g a
  · by_cases hc : a ∈ g.C
    · cases came with
      | true => rw [chg_twice ho hc]
      | false => rw [chg_go ho hc] at h; exact absurd rfl h
    · cases came with
      | true => rw [chg_come ho hc] at h; exact absurd rfl h
      | false => rw [chg_none ho hc]
  · rw [chg_arg ho]
/-- What Apply leaves. -/
def AppRes (M : List Nat) (p mc mf N : Nat) (R : Nat × Int × Agd) (w : World) (e : Ending) (w' : World) : Prop := e = .returned (.tuple #[.int .i64 (R.1 : Int), .int .i64 R.2.1]) ∧ AgAt M w' p mc mf R.2.2 N ∧ Turns [mc] w w'
set_option maxRecDepth 100000 in
set_option maxHeartbeats 4000000 in
theorem applyW {F : Nat → Prop} {M : List Nat} {p mc mf N : Nat} {G : Agd} (v : Value) (xs : List (Bool × Ac)) (w : World) (h : AgAt M w p mc mf G N) (hs : RSl F w 3 (EChg F w) v xs) (hF : ¬ F mc) (hM : ∀ x ∈ M, x < w.heap.size) (hN : N + xs.length < maxLen) (ht : ∀ W, Turns [mc] w W → Tab W) :
    Calls Tryd.prog 10 #[.pointer (some ⟨p, 0, none⟩), v] w (AppRes M p mc mf (N + xs.length) (appF G xs 0) w) := by
  obtain ⟨A, c, rfl⟩ := hs.form
  have hml := hs.len
  unfold maxLen at hml hN
  obtain ⟨R, hR⟩ : ∃ R, appF G xs 0 = R := ⟨_, rfl⟩
  rw [hR]
  have HR := Lib.hid hR
  have HA := Lib.hid h
  have HS := Lib.hid (fun (W : World) (hW : Turns [mc] w W) => (hs.kp (E' := EChg F W) (Kp.of_turns hW (fun x hx hf => hF (by rw [← List.mem_singleton.1 hx]; exact hf))) (fun _ _ h => h) (fun _ _ hc => hc.kp (Kp.of_turns hW (fun x hx hf => hF (by rw [← List.mem_singleton.1 hx]; exact hf))) (fun _ _ h => h))))
  have HM := Lib.hid hM
  have HT := Lib.hid ht
  have hmc := h.cM
  have HMC := Lib.hid (hM mc h.cM)
  clear h hs hM ht hR
  go_enter Tryd.func10, Tryd.ntmps10
  go_wp2
  go_loopw [13] (fun i wr => ∃ (k : Nat) (g : Agd), i = .int .i64 (k : Int) ∧ k ≤ xs.length ∧ AgAt M wr p mc mf g (N + k) ∧ Turns [mc] w wr ∧ Hid (appF g (xs.drop k) k = R)) (fun i _ => xs.length - (intOf i).toNat)
  case atStart => exact ⟨0, G, rfl, Nat.zero_le _, HA.out, Turns.refl _ _, HR⟩
  case round =>
    obtain ⟨k, g, rfl, hk, hA, hT, HO⟩ := hrel
    by_cases hkn : k < xs.length
    · obtain ⟨x, hx⟩ : ∃ x, xs[k]? = some x := ⟨_, List.getElem?_eq_getElem hkn⟩
      obtain ⟨b, off, rfl, _, _, cs, ⟨sv, rfl, hok, hsv⟩, hc⟩ := (HS.out wr hT).at hx
      have d0 := hc 0 _ rfl
      have d1 := hc 1 _ rfl
      have d2 := hc 2 _ rfl
      simp only [Nat.add_zero] at d0
      obtain ⟨came, a⟩ := x
      simp only at hok hsv d0 d1 d2
      obtain ⟨A2, c2, rfl⟩ := hsv.form
      have hdrop : xs.drop k = (came, a) :: xs.drop (k + 1) := by
        rw [List.drop_eq_getElem_cons hkn]
        rw [List.getElem?_eq_getElem hkn] at hx
        rw [Option.some.inj hx]
      have e1 : (0 : Int) ≤ (k : Int) := by omega
      have e2 : (k : Int) < (xs.length : Int) := by omega
      obtain ⟨w1, hw1⟩ : ∃ w1, w1 = wr.alloc (.cells #[.bool came, .int .i64 a.rule, .slice A2 a.sub.length c2] 36) := ⟨_, rfl⟩
      have hb1 : Below wr.heap.size wr w1 := by rw [hw1]; exact (Below.refl _ _).alloc (Nat.le_refl _) _
      have T1 : Turns [mc] w w1 := hT.trans (S' := []) (Turns.of_below hb1) (fun x hx => by simp at hx)
      have y0 : w1.cell? ⟨wr.heap.size, 0, none⟩ = some (.bool came) := by rw [hw1]; exact cell_of_row _ _ 0 _ _ _ (heap_alloc_new wr _)
      have y1 : w1.cell? ⟨wr.heap.size, 1, none⟩ = some (.int .i64 a.rule) := by rw [hw1]; exact cell_of_row _ _ 1 _ _ _ (heap_alloc_new wr _)
      have y2 : w1.cell? ⟨wr.heap.size, 2, none⟩ = some (.slice A2 a.sub.length c2) := by rw [hw1]; exact cell_of_row _ _ 2 _ _ _ (heap_alloc_new wr _)
      have CH := changeW came a (.slice A2 a.sub.length c2) w1 (hA.below hb1) (hsv.keep (Kp.of_below hb1)) hok (fun x hx => Nat.lt_of_lt_of_le (HM.out x hx) T1.size) (by unfold maxLen; omega) (HT.out w1 T1)
      obtain ⟨r, hr⟩ : ∃ r, chgF g came a = r := ⟨_, rfl⟩
      rw [hr] at CH
      have CH := Lib.hid CH
      have HRC := Lib.hid hr
      have HT1 := Lib.hid T1
      rw [hdrop] at HO
      clear hA hT hx hok hsv hc hdrop hb1 T1 hr
      go_upto_region 6 with fail
      rw [← hw1]
      clear hw1 d0 d1 d2
      go_wp2_with fail
      refine CH.out.mono ?_
      rintro e w2 ⟨rfl, hA2, hT2⟩
      have HA2 := Lib.hid hA2
      have HT2 := Lib.hid (HT1.out.trans hT2 (fun x hx => .inl hx))
      clear hA2 hT2 CH y0 y1 y2
      by_cases h0 : r.1 = 0
      · have HN := Lib.hid (show appF r.2 (xs.drop (k + 1)) (k + 1) = R by
          rw [← HO.out, app_next (by rw [HRC.out]; exact h0), HRC.out])
        have z1 : (r.1 == 0) = true := by simpa using h0
        rw [h0]
        go_wp2
        exact ⟨⟨k + 1, r.2, by go_num, by omega, HA2.out, HT2.out, HN⟩, by simp [intOf]; omega⟩
      · have HN := Lib.hid (show (k, r.1, g) = R by
          rw [← HO.out, app_stop (by rw [HRC.out]; exact h0), HRC.out])
        have HG := Lib.hid (show r.2 = g by rw [← HRC.out]; exact chg_bad (by rw [HRC.out]; exact h0))
        have z1 : (r.1 == 0) = false := by simpa using h0
        have z2 : (r.1 != 0) = true := by simpa using h0
        go_wp2
        go_ret2
        rw [← HN.out]
        refine ⟨rfl, ?_, HT2.out⟩
        have := HA2.out
        rw [HG.out] at this
        exact this.mono (by omega)
    · obtain rfl : k = xs.length := by omega
      have HN := Lib.hid (show (xs.length, 0, g) = R by rw [← HO.out, List.drop_length, app_nil])
      have HA2 := Lib.hid (And.intro hA hT)
      clear hA hT
      go_wp2
      go_ret2
      rw [← HN.out]
      exact ⟨rfl, HA2.out.1, HA2.out.2⟩
end Go.Proofs.YtjgigcnjgblekaaDoor

namespace Go.Proofs.YtjgigcnjgblekaaDoor
open Go Go.RowKit Go.Maps Classical

def cstVs (cs : List Cst) : List Value := cs.flatMap fun c => [.int .i64 c.k, .int .i64 c.n, .string c.s]
theorem cstVs_len : ∀ cs : List Cst, (cstVs cs).length = cs.length * 3
  | [] => rfl
  | c :: r => by
    have := cstVs_len r
    unfold cstVs at *
    rw [List.flatMap_cons, List.length_append, this]
    simp only [List.length_cons, List.length_nil]
    omega
theorem cstVs_one (cs : List Cst) : ∀ u ∈ cstVs cs, u.oneCell' = true := by
  intro u hu
  obtain ⟨c, _, hc⟩ := List.mem_flatMap.1 hu
  simp only [List.mem_cons, List.not_mem_nil, or_false] at hc
  rcases hc with rfl | rfl | rfl <;> rfl
theorem cstVs_at : ∀ {cs : List Cst} {j r : Nat} {c : Cst}, r < 3 → cs[j]? = some c → (cstVs cs)[j * 3 + r]? = [Value.int .i64 c.k, .int .i64 c.n, .string c.s][r]?
  | [], _, _, _, _, h => by simp at h
  | y :: l, 0, r, c, hr, h => by
    simp only [List.getElem?_cons_zero, Option.some.injEq] at h
    subst h
    unfold cstVs
    rw [List.flatMap_cons, Nat.zero_mul, Nat.zero_add, List.getElem?_append_left (by simpa using hr)]
  | y :: l, j + 1, r, c, hr, h => by
    have := cstVs_at (cs := l) (j := j) (r := r) (c := c) hr (by simpa using h)
    unfold cstVs at *
    rw [List.flatMap_cons, show (j + 1) * 3 + r = j * 3 + r + 3 by omega, List.getElem?_append_right (by simp)]
    simpa using this
theorem RSl.cstCells {F : Nat → Prop} {w : World} {A : Option Addr} {n c : Nat} {l : List Cst} (h : RSl F w 3 ECst (.slice A n c) l) : l = [] ∨ ∃ ad, A = some ad ∧ ∀ j u, (cstVs l)[j]? = some u → w.cell? (ad.add j) = some u := by
  obtain ⟨A', c', h1, h2, h3, _, h4⟩ := h
  simp only [Value.slice.injEq] at h1
  obtain ⟨rfl, rfl, rfl⟩ := h1
  rcases h4 with h4 | ⟨b, off, hA, hf, hb, hc⟩
  · exact .inl h4
  · refine .inr ⟨_, hA, fun j u hu => ?_⟩
    have hj : j < l.length * 3 := by rw [← cstVs_len]; exact (List.getElem?_eq_some_iff.1 hu).1
    have hi : j / 3 < l.length := by omega
    obtain ⟨cs, rfl, h5⟩ := hc (j / 3) _ (List.getElem?_eq_getElem hi)
    have e : j = j / 3 * 3 + j % 3 := by omega
    rw [e, cstVs_at (by omega) (List.getElem?_eq_getElem hi)] at hu
    have := h5 (j % 3) u hu
    rw [rd_add, e]
    rwa [Nat.add_assoc] at this
theorem RSl.of_cst {w : World} {B : Nat} {F : Nat → Prop} {v : Value} {cs : List Cst} (h : w.ownsRow B 62 3 v cs.length (cstVs cs)) (hF : ∀ b, v.ownBlock = some b → F b) : RSl F w 3 ECst v cs := by
  refine RSl.of_own h rfl hF (fun i x hx => ⟨_, rfl, fun j u hu => ?_⟩)
  have hj : j < 3 := by have := (List.getElem?_eq_some_iff.1 hu).1; simpa using this
  rw [cstVs_at hj hx]
  exact hu
section
variable {P : Program}
/-- Cells that are read are appended onto a row of the call's own. -/
theorem run_append_any (w : World) (t ty : TypeId) (base : Nat) (e : TypeId) (i : TypeInfo) (z : Value) (size bytes : Nat) (ht : P.underlying t = some (.slice e)) (hi : P.info? e = some i) (hz : i.zero = some z)
    (hsize : i.size = size) (hby : i.bytes = bytes) (hzs : z.cells.size = size) (hsz : 0 < size)
    (v : Value) (n : Nat) (xs : List Value) (hown : w.ownsRow base e size v n xs) (A : Option Addr) (m c : Nat) (news : List Value) (hl : news.length = m * size) (h1 : ∀ u ∈ news, u.oneCell' = true)
    (hc : m = 0 ∨ ∃ ad, A = some ad ∧ ∀ j u, news[j]? = some u → w.cell? (ad.add j) = some u) (h63 : n + m ≤ maxLen) (hbytes : (n + m) * bytes ≤ 140737488355328) (hbase : base ≤ w.heap.size) :
    ∃ v' w', (Builtin.append_ #[t, t] ty #[v, .slice A m c]).run P w = .ok v' w' ∧ w'.ownsRow base e size v' (n + m) (xs ++ news) ∧ w.grownBy w' v.ownBlock ∧ (v'.ownBlock = v.ownBlock ∨ v'.ownBlock = some w.heap.size) := by
  have none_case : ∀ A, m = 0 → ∃ v' w', (Builtin.append_ #[t, t] ty #[v, .slice A m c]).run P w = .ok v' w' ∧ w'.ownsRow base e size v' (n + m) (xs ++ news) ∧ w.grownBy w' v.ownBlock ∧ (v'.ownBlock = v.ownBlock ∨ v'.ownBlock = some w.heap.size) := by
    intro A h0
    subst h0
    obtain rfl : news = [] := List.eq_nil_of_length_eq_zero (by simpa using hl)
    have hl0 : ∀ (x : Addr), (loadCells x 0).run P w = .ok #[] w := fun x => by simpa using run_loadCells_list (P := P) w x [] (by simp)
    refine ⟨v, w, ?_, by simpa using hown, ⟨rfl, rfl, rfl, Nat.le_refl _, fun _ _ _ => rfl⟩, .inl rfl⟩
    rcases hown.2 with ⟨rfl, rfl⟩ | ⟨g, cap, cur, rfl, _, _, hnc, _⟩
    · cases A <;> simp [Builtin.append_, run_underlying ht, sizeOf, typeInfo, hi, Builtin.lenOf, Builtin.firstCells, loadCells, loadCellsFrom]
    · cases A <;> simp [Builtin.append_, run_underlying ht, sizeOf, typeInfo, hi, Builtin.lenOf, Builtin.firstCells, loadCells, loadCellsFrom, storeCells, hnc]
  rcases hc with h0 | ⟨ad, rfl, hcc⟩
  · exact none_case A h0
  · obtain ⟨v', w', hr, h2, h3, _, h5⟩ := run_append_own_at (P := P) w base t ty e i z size bytes ht hi hz hsize hby hzs hsz v n xs hown ad m c news hl hcc h1 h63 hbytes hbase
    exact ⟨v', w', hr, h2, h3, h5⟩
theorem wpList_append_any {w : World} {ops : Array Oper} {rest : List Oper} {o : Oper} {a : Act} {Q : Exit → Act → World → Prop} (hgd : o.guard = none) (s x : Operand) (t : TypeId)
    (ho : o.op = .call { callee := .builtin .append, args := #[s, x], argTypes := #[t, t] })
    (base : Nat) (e : TypeId) {z : Value} {size bytes : Nat} (ht : P.underlying t = some (.slice e)) (hi : (P.info? e).map (fun i => (i.zero, i.size, i.bytes)) = some (some z, size, bytes)) (hzs : z.cells.size = size) (hsz : 0 < size)
    (v : Value) (n : Nat) (xs : List Value) (hs : a.eval s = v) (hown : w.ownsRow base e size v n xs) (A : Option Addr) (m c : Nat) (hx : a.eval x = .slice A m c) (news : List Value) (hl : news.length = m * size) (h1 : ∀ u ∈ news, u.oneCell' = true)
    (hc : m = 0 ∨ ∃ ad, A = some ad ∧ ∀ j u, news[j]? = some u → w.cell? (ad.add j) = some u) (h63 : n + m ≤ maxLen) (hbytes : (n + m) * bytes ≤ 140737488355328) (hbase : base ≤ w.heap.size)
    (h : ∀ v' w', w'.ownsRow base e size v' (n + m) (xs ++ news) → Turns v.ownBlock.toList w w' → wpList P ops Q rest (a.put o.dst v') w') : wpList P ops Q (o :: rest) a w := by
  obtain ⟨i0, hi0, hz0, hz1, hz2⟩ := info_parts hi
  refine wpList_plain hgd fun _ hK => ?_
  obtain ⟨v', w', hr, h2, h3, _⟩ := run_append_any (P := P) w t o.type base e i0 z size bytes ht hi0 hz0 hz1 hz2 hzs hsz v n xs hown A m c news hl h1 hc h63 hbytes hbase
  unfold Oper.wp execOp
  simp only [ho, resolve, invoke, builtin, Sem.run_bind, Sem.run_pure, Result.andThen_ok, List.map_toArray, List.map_cons, List.map_nil, hs, hx, hr]
  exact hK _ _ (h v' w' h2 (Turns.of_grown h3))
/-- One more, up to a great many. -/
theorem wpList_append_one {w : World} {ops : Array Oper} {rest : List Oper} {o : Oper} {a : Act} {Q : Exit → Act → World → Prop} (hgd : o.guard = none) (s x : Operand) (t : TypeId)
    (ho : o.op = .call { callee := .builtin .append, args := #[s, x], argTypes := #[t, t] })
    (base : Nat) (e : TypeId) {z : Value} {size bytes : Nat} (ht : P.underlying t = some (.slice e)) (hi : (P.info? e).map (fun i => (i.zero, i.size, i.bytes)) = some (some z, size, bytes)) (hzs : z.cells.size = size) (hsz : 0 < size)
    (v : Value) (n : Nat) (xs : List Value) (hs : a.eval s = v) (hown : w.ownsRow base e size v n xs) (ad : Addr) (c : Nat) (hx : a.eval x = .slice (some ad) 1 c) (news : List Value) (hl : news.length = 1 * size) (hnews : ∀ j u, news[j]? = some u → w.cell? (ad.add j) = some u) (h1 : ∀ u ∈ news, u.oneCell' = true)
    (hn : n ≤ 6000000000000 ∨ (0 < bytes ∧ n * bytes ≤ 200000000000000)) (hb : bytes ≤ 32) (hbase : base ≤ w.heap.size)
    (h : ∀ g cap w', w'.ownsRow base e size (.slice (some ⟨g, 0, none⟩) (n + 1) cap) (n + 1) (xs ++ news) → Turns v.ownBlock.toList w w' → wpList P ops Q rest (a.put o.dst (.slice (some ⟨g, 0, none⟩) (n + 1) cap)) w') : wpList P ops Q (o :: rest) a w := by
  obtain ⟨i0, hi0, hz0, hz1, hz2⟩ := info_parts hi
  refine wpList_plain hgd fun _ hK => ?_
  obtain ⟨g, cap, w', hr, h2, h3, _⟩ := run_append1 (P := P) w t o.type base e i0 z size bytes ht hi0 hz0 hz1 hz2 hzs hsz v n xs hown ad c news hl hnews h1 hn hb hbase _ rfl
  unfold Oper.wp execOp
  simp only [ho, resolve, invoke, builtin, Sem.run_bind, Sem.run_pure, Result.andThen_ok, List.map_toArray, List.map_cons, List.map_nil, hs, hx, hr]
  exact hK _ _ (h g cap w' h2 (Turns.of_grown h3))
end
theorem eqlNilS {P : Program} (W : World) (t e : TypeId) (a : Option Addr) (n c : Nat) (h : P.underlying t = some (.slice e)) : (binOp .eql t (.slice a n c) (.slice none 0 0)).run P W = .ok (.bool a.isNone) W := by
  have h1 : ∀ d, (Op.equalIn (d + 1) t (.slice a n c) (.slice none 0 0)).run P W = .ok a.isNone W := fun d => by cases a <;> simp [Op.equalIn, run_underlying h]
  have h2 : (Op.equal t (.slice a n c) (.slice none 0 0)).run P W = .ok a.isNone W := h1 9999
  simp only [binOp]
  simp [h2]
theorem infoCst : (Tryd.prog.info? 62).map (fun i => (i.zero, i.size, i.bytes)) = some (some (.agg #[.int .i64 0, .int .i64 0, .string ⟨#[]⟩]), 3, 32) := by kernel_rfl
/-- What Clone leaves. -/
def ClnRes (cs : List Cst) (w : World) (e : Ending) (w' : World) : Prop := ∃ v, e = .returned v ∧ RSl (fun b => w.heap.size ≤ b) w' 3 ECst v cs ∧ Below w.heap.size w w'
set_option maxRecDepth 100000 in
set_option maxHeartbeats 1000000 in
theorem cloneW {F : Nat → Prop} (v : Value) (cs : List Cst) (w : World) (h : RSl F w 3 ECst v cs) (hl : cs.length ≤ 1000000000000) :
    Calls Tryd.prog 33 #[v] w (ClnRes cs w) := by
  obtain ⟨A, c, rfl⟩ := h.form
  cases A with
  | none =>
    obtain ⟨A', c', e1, h2, h3, h5, h4⟩ := h
    simp only [Value.slice.injEq] at e1
    obtain ⟨rfl, -, rfl⟩ := e1
    have hc0 := h5 rfl
    have hcs : cs = [] := List.eq_nil_of_length_eq_zero (by omega)
    subst hc0 hcs
    clear h2 h3 h4 h5
    have hnil := fun W => eqlNilS (P := Tryd.prog) W 26 62 none 0 0 Tryd.underlying26
    go_enter Tryd.func33, Tryd.ntmps33
    go_wp2
    go_ret
    exact ⟨_, rfl, RSl.nil, Below.refl _ _⟩
  | some ad =>
    have HC := Lib.hid (h.keep (Kp.of_below ((Below.refl w.heap.size w).alloc (Nat.le_refl _) (.cells #[] 62)))).cstCells
    have O0 := Lib.hid (own0 w 62 3 w.heap.size (Nat.le_refl _))
    have hm : cs.length ≤ maxLen := h.len
    clear h
    have hnil := fun W => eqlNilS (P := Tryd.prog) W 26 62 (some ad) cs.length c Tryd.underlying26
    go_enter Tryd.func33, Tryd.ntmps33
    go_wp2_with (at_builtin; refine wpList_append_any rfl (.tmp 5) (.tmp 6) 26 rfl w.heap.size 62 Tryd.underlying26 infoCst rfl (by decide) (.slice (some ⟨w.heap.size, 0, none⟩) 0 0) 0 [] rfl O0.out (some ad) cs.length c rfl (cstVs cs) (cstVs_len cs) (cstVs_one cs) (HC.out.imp (fun h => by rw [h]; rfl) id) (by omega) (by omega) (by simp) ?_; intro v' w2 hown2 ht2; have N1 := Lib.hid hown2; have N2 := Lib.hid ht2; clear hown2 ht2)
    go_ret
    have o2 := N1.out
    rw [Nat.zero_add, List.nil_append] at o2
    refine ⟨_, rfl, RSl.of_cst o2 (fun b hb => (ownBlock_cells o2 hb).1), ((Below.refl w.heap.size w).alloc (Nat.le_refl _) _).trans (N2.out.below (by simp) (fun x hx => by rw [show x = w.heap.size by simpa [Value.ownBlock] using hx]; exact Nat.le_refl _))⟩
def lev0 (xs : List Int) : List Int := xs.map fun l => max l 0
theorem lev0_len (xs : List Int) : (lev0 xs).length = xs.length := by simp [lev0]
theorem lev0_take {xs : List Int} {k : Nat} {l : Int} (h : xs[k]? = some l) : lev0 (xs.take (k + 1)) = lev0 (xs.take k) ++ [max l 0] := by
  rw [List.take_add_one, h]
  simp [lev0]
theorem intVs_app (l m : List Int) : intVs (l ++ m) = intVs l ++ intVs m := by simp [intVs]
theorem ownZ_snoc {w : World} {B k g cap : Nat} {ls : List Int} {i : Int} (hk : ls.length = k) (h : w.ownsRow B 3 1 (.slice (some ⟨g, 0, none⟩) (k + 1) cap) (k + 1) (intVs ls ++ [.int .i64 i])) : OwnZ w B (.slice (some ⟨g, 0, none⟩) (k + 1) cap) (ls ++ [i]) := by
  unfold OwnZ
  rw [intVs_app, List.length_append, hk]
  exact h
theorem MapV.of_blockAt {P : Program} {k : TypeId} {w w' : World} {m : Nat} (h : MapV P k (w.alloc (.map #[] 0)) w.heap.size 0 (fun _ => none)) (hm : w'.heap[m]? = some (.map #[] 0)) : MapV P k w' m 0 (fun _ => none) := by
  obtain ⟨n, D, ⟨es, c, h1, h2, h3, h4⟩, hn, hN⟩ := h
  rw [heap_alloc_new w (.map #[] 0)] at h1
  exact ⟨n, D, ⟨es, c, hm.trans h1, h2, h3, h4⟩, hn, hN⟩
/-- The new agenda on its way. -/
structure NwSt (w2 : World) (p : Nat) (cv : Value) (mc mf : Nat) (wr : World) (lv : Value) (ls : List Int) : Prop where
  blk : wr.heap[p]? = some (.cells #[lv, cv, .map (some mc), .map (some mf)] 79 (0, 0))
  own : OwnZ wr w2.heap.size lv ls
  turns : Turns [p] w2 wr
  pl : p < w2.heap.size
theorem NwSt.push {w2 wr w3 : World} {p mc mf : Nat} {cv lv v' : Value} {ls : List Int} {i : Int} (h : NwSt w2 p cv mc mf wr lv ls) (hown : OwnZ w3 w2.heap.size v' (ls ++ [i])) (T : Turns lv.ownBlock.toList wr w3) :
    w3.cell? ⟨p, 0, none⟩ = some lv ∧ w3.frozen? ⟨p, 0, none⟩ = false ∧ NwSt w2 p cv mc mf (w3.setCell ⟨p, 0, none⟩ v') v' (ls ++ [i]) := by
  have hpl := h.pl
  have hlt := lt_of_heap h.blk
  have memv : ∀ {b : Nat}, b ∈ lv.ownBlock.toList → w2.heap.size ≤ b := fun hm => (ownBlock_cells h.own (by simpa using hm)).1
  have hb3 : w3.heap[p]? = some (.cells #[lv, cv, .map (some mc), .map (some mf)] 79 (0, 0)) := (T.block p hlt (fun hm => by have := memv hm; omega)).trans h.blk
  have T3 : Turns [p] w3 (w3.setCell ⟨p, 0, none⟩ v') := (Turns.refl _ _).setCell (.inl (by simp)) _
  refine ⟨cell_of_row _ _ 0 _ _ _ hb3, frozen_of_row _ _ 0 _ _ hb3, ⟨?_, hown.turns T3 (fun b hb hm => ?_), (h.turns.trans T (fun x hx => .inr (memv hx))).trans T3 (fun x hx => .inl hx), hpl⟩⟩
  · have := heap_setCell_same _ _ 0 _ _ v' hb3
    rw [this]
    rfl
  · have := (ownBlock_cells hown hb).1
    rw [List.mem_singleton.1 hm] at this
    omega
/-- What New leaves: an agenda, its maps in two new blocks. -/
def NewRes (M : List Nat) (xs : List Int) (cs : List Cst) (w : World) (e : Ending) (w' : World) : Prop :=
  ∃ p mc mf, e = .returned (.pointer (some ⟨p, 0, none⟩)) ∧ AgAt (mc :: mf :: M) w' p mc mf ⟨lev0 xs, cs, [], []⟩ 0 ∧ Below w.heap.size w w' ∧ w.heap.size ≤ mc ∧ w.heap.size ≤ mf ∧ w.heap.size ≤ p
set_option maxRecDepth 100000 in
set_option maxHeartbeats 4000000 in
theorem newW {F : Nat → Prop} (M : List Nat) (lv cv : Value) (xs : List Int) (cs : List Cst) (w : World) (h1 : RSl F w 1 EInt lv xs) (h2 : RSl F w 3 ECst cv cs) (hl : cs.length ≤ 1000000000000) (hx : xs.length * 8 ≤ 140737488355328) (hM : ∀ x ∈ M, x < w.heap.size) :
    Calls Tryd.prog 7 #[lv, cv] w (NewRes M xs cs w) := by
  obtain ⟨A1, c1, rfl⟩ := h1.form
  have hm1 := h1.len
  unfold maxLen at hm1
  have hmm := @run_makeMap Tryd.prog
  have CL := Lib.hid (cloneW cv cs w h2 hl)
  have H1 := Lib.hid h1
  have HM := Lib.hid hM
  clear h1 h2 hM
  go_enter Tryd.func7, Tryd.ntmps7
  go_wp2_with fail
  refine CL.out.mono ?_
  rintro e w1 ⟨cv', rfl, hc1, hb1⟩
  obtain ⟨A2, c2, hcf⟩ := hc1.form
  subst hcf
  have HC1 := Lib.hid hc1
  have HB1 := Lib.hid hb1
  clear hc1 hb1 CL
  obtain ⟨w2, hw2⟩ : ∃ w2, w2 = ((w1.alloc (.map #[] 0)).alloc (.map #[] 0)).alloc (.cells #[.slice none 0 0, .slice A2 cs.length c2, .map (some w1.heap.size), .map (some (w1.heap.size + 1))] 79) := ⟨_, rfl⟩
  have hs2 : w2.heap.size = w1.heap.size + 3 := by rw [hw2]; simp
  have hb2 : Below w1.heap.size w1 w2 := by rw [hw2]; exact (((Below.refl _ _).alloc (Nat.le_refl _) _).alloc (by simp) _).alloc (by simp; omega) _
  have m1 : w2.heap[w1.heap.size]? = some (.map #[] 0) := by
    rw [hw2, heap_alloc_old _ _ (by simp; omega), heap_alloc_old _ _ (by simp)]
    exact heap_alloc_new w1 _
  have m2 : w2.heap[w1.heap.size + 1]? = some (.map #[] 0) := by
    rw [hw2, heap_alloc_old _ _ (by simp)]
    have := heap_alloc_new (w1.alloc (.map #[] 0)) (.map #[] 0)
    simpa using this
  have pb : w2.heap[w1.heap.size + 1 + 1]? = some (.cells #[.slice none 0 0, .slice A2 cs.length c2, .map (some w1.heap.size), .map (some (w1.heap.size + 1))] 79 (0, 0)) := by
    have := heap_alloc_new ((w1.alloc (.map #[] 0)).alloc (.map #[] 0)) (.cells #[.slice none 0 0, .slice A2 cs.length c2, .map (some w1.heap.size), .map (some (w1.heap.size + 1))] 79)
    rw [hw2]
    simpa using this
  have N0 := Lib.hid (show NwSt w2 (w1.heap.size + 1 + 1) (.slice A2 cs.length c2) w1.heap.size (w1.heap.size + 1) w2 (.slice none 0 0) (lev0 (xs.take 0)) from ⟨pb, by show w2.ownsRow _ _ _ _ _ _; simpa [lev0, intVs] using World.ownsRow_nil _ _ _ _, Turns.refl _ _, by omega⟩)
  have HB2 := Lib.hid hb2
  have MM := Lib.hid (And.intro m1 m2)
  clear hb2 m1 m2 pb
  go_upto_region 2 with fail
  rw [← hw2]
  clear hw2
  go_wp2
  go_loopw [16] (fun i wr => ∃ (k : Nat) (lvv : Value), i = .int .i64 (k : Int) ∧ k ≤ xs.length ∧ NwSt w2 (w1.heap.size + 1 + 1) (.slice A2 cs.length c2) w1.heap.size (w1.heap.size + 1) wr lvv (lev0 (xs.take k))) (fun i _ => xs.length - (intOf i).toNat)
  case atStart => exact ⟨0, _, rfl, Nat.zero_le _, N0.out⟩
  case round =>
    obtain ⟨k, lvv, rfl, hk, hN⟩ := hrel
    clear N0
    have T0 : Below w.heap.size w wr := by
      have t1 := hN.turns.below (B := w1.heap.size) (by omega) (fun x hx => by rw [List.mem_singleton.1 hx]; omega)
      exact HB1.out.trans ((HB2.out.trans t1).mono HB1.out.size)
    by_cases hkn : k < xs.length
    · obtain ⟨l, hlx⟩ : ∃ l, xs[k]? = some l := ⟨_, List.getElem?_eq_getElem hkn⟩
      obtain ⟨b, off, rfl, _, _, ds, ⟨rfl, lok⟩, hc⟩ := (H1.out.keep (Kp.of_below T0)).at hlx
      have d0 := hc 0 _ rfl
      simp only [Nat.add_zero, Nat.mul_one] at d0
      have e1 : (0 : Int) ≤ (k : Int) := by omega
      have e2 : (k : Int) < (xs.length : Int) := by omega
      have hll : (lev0 (xs.take k)).length = k := by rw [lev0_len, List.length_take_of_le hk]
      obtain ⟨la, lc, hlf⟩ := hN.own.form
      rw [hll] at hlf
      subst hlf
      have y0 := cell_of_row _ _ 0 _ _ _ hN.blk
      have ho := hN.own
      unfold OwnZ at ho
      rw [hll] at ho
      have HN := Lib.hid hN
      have HX := Lib.hid (lev0_take hlx)
      have HLL := Lib.hid hll
      have HO := Lib.hid ho
      have hsz2 : w2.heap.size ≤ wr.heap.size := hN.turns.size
      clear hN hlx hc ho hll T0
      go_wp2_with (at_builtin; refine wpList_append_one rfl (.tmp 24) (.tmp 27) 22 rfl w2.heap.size 3 Tryd.underlying22 infoIntR rfl (by decide) (.slice la k lc) k (intVs (lev0 (xs.take k))) rfl (ownsRow_turns HO.out (Turns.of_below (S := []) ((Below.refl _ wr).alloc (Nat.le_refl _) _)) (fun _ _ => by simp)) ⟨wr.heap.size, 0, none⟩ 1 rfl [.int .i64 (max l 0)] rfl (World.news_of_block (heap_alloc_new wr _)) (by simp [Value.oneCell']) (.inr ⟨by decide, by omega⟩) (by decide) (by simp; omega) ?_; intro g cap w3 hown3 ht3; have o3 := ownZ_snoc HLL.out hown3; obtain ⟨q0, q1, q2⟩ := HN.out.push (i := max l 0) o3 ((((Turns.refl [] wr).alloc _).mono (by simp)).trans ht3 (fun x hx => .inl hx)); have Q2 := Lib.hid q2; clear hown3 ht3 o3 q2)
      exact ⟨⟨k + 1, .slice (some ⟨g, 0, none⟩) (k + 1) cap, by go_num, by omega, by rw [HX.out]; exact Q2.out⟩, by simp [intOf]; omega⟩
    · obtain rfl : k = xs.length := by omega
      rw [List.take_length] at hN
      have HN := Lib.hid hN
      have HT := Lib.hid T0
      clear hN T0
      go_wp2
      go_ret
      have hN := HN.out
      have hs := HB1.out.size
      have kmap : ∀ b, b < w2.heap.size → b ≠ w1.heap.size + 1 + 1 → wr.heap[b]? = w2.heap[b]? := fun b hb hne => hN.turns.block b hb (by simpa using hne)
      have hsr := hN.turns.size
      have inM : ∀ b, w.heap.size ≤ b → b ≠ w1.heap.size → b ≠ w1.heap.size + 1 → b ∉ (w1.heap.size :: (w1.heap.size + 1) :: M) := fun b h1 h2 h3 hm => by
        rcases List.mem_cons.1 hm with e | hm
        · exact h2 e
        · rcases List.mem_cons.1 hm with e | hm
          · exact h3 e
          · have := HM.out b hm; omega
      have am : ∀ (F : Nat → Prop) (m : Nat), wr.heap[m]? = some (.map #[] 0) → ActMap F wr m [] 0 := fun F m hm =>
        ⟨_, (MapV.made (P := Tryd.prog) (k := 9) w).of_blockAt hm, fun a ha => by simp at ha, fun v z h => by cases h⟩
      refine ⟨_, w1.heap.size, w1.heap.size + 1, rfl, ⟨⟨?_, fun a ha => by simp at ha, fun a ha => by simp at ha, List.nodup_nil, List.nodup_nil⟩, ⟨by rw [lev0_len]; unfold maxLen; omega, by show cs.length ≤ maxLen; unfold maxLen; omega⟩, ⟨_, _, hN.blk, ?_, ?_⟩, inM _ (by omega) (by omega) (by omega), by simp, by simp, by omega, am _ _ ((kmap _ (by omega) (by omega)).trans MM.out.1), am _ _ ((kmap _ (by omega) (by omega)).trans MM.out.2)⟩, HT.out, hs, by omega, by omega⟩
      · intro l hl
        obtain ⟨x, _, rfl⟩ := List.mem_map.1 (show l ∈ lev0 xs from hl)
        omega
      · refine hN.own.rsl (fun b hb => inM b (by have := (ownBlock_cells hN.own hb).1; omega) (by have := (ownBlock_cells hN.own hb).1; omega) (by have := (ownBlock_cells hN.own hb).1; omega)) (fun i hi => ?_)
        obtain ⟨x, hx, rfl⟩ := List.mem_map.1 (show i ∈ lev0 xs from hi)
        obtain ⟨q, hq⟩ := List.getElem?_of_mem hx
        obtain ⟨b, off, _, _, _, ds, ⟨rfl, lok⟩, _⟩ := H1.out.at hq
        have hlo := lok.lo
        have h2 : max x 0 ≤ 9223372036854775807 := by omega
        have h3 : 0 ≤ max x 0 := by omega
        generalize max x 0 = m at h2 h3
        unfold i64ok
        simp [Lit.wf, IntKind.min, IntKind.max, IntKind.signed, IntKind.bits]
        omega
      · have k1 : Kp (fun b => w.heap.size ≤ b ∧ b < w1.heap.size) w1 wr := ⟨by omega, fun b hb _ => (kmap b (by omega) (by omega)).trans (HB2.out.block b hb)⟩
        exact ((HC1.out.kp (F' := fun b => w.heap.size ≤ b ∧ b < w1.heap.size) (Kp.refl _ _) (fun b hb hf => ⟨hf, hb⟩) (fun _ _ h => h)).keep k1).kp (Kp.refl _ _) (fun b _ hf => inM b hf.1 (by omega) (by omega)) (fun _ _ h => h)
end Go.Proofs.YtjgigcnjgblekaaDoor
