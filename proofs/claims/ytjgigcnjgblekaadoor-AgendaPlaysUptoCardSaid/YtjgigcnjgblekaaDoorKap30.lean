/- AgendaPlays' turns: a call on either agenda, whatever the other holds. AgendaPlays' step: one call on both. The walk. The opening of AgendaPlays' arguments, with how long the lists are. -/
import Derived.Test.YtjgigcnjgblekaaDoorKap22
import Derived.Test.YtjgigcnjgblekaaDoorKap29
import Derived.Test.YtjgigcnjgblekaaDoorRows
namespace Go.Proofs.YtjgigcnjgblekaaDoor
open Go Go.RowKit Go.Maps Classical

/-- Both agendas, each with its own. -/
structure Mix (M : List Nat) (B p mc mf rb N : Nat) (ga gb : Agd) (w : World) : Prop where
  a : AgAt M w p mc mf ga N
  b : RfAt M [mc, mf] B w rb gb
  ML : ∀ x ∈ M, x < w.heap.size
  BB : B ≤ w.heap.size
  MB : ∀ x ∈ M, B ≤ x
/-- How far a turn reaches. -/
structure Rch (M M' : List Nat) (w w' : World) : Prop where
  T : Turns M w w'
  sub : ∀ x ∈ M, x ∈ M'
  new : ∀ x ∈ M', x ∈ M ∨ w.heap.size ≤ x
section
variable {M M' M2 : List Nat} {B p mc mf rb N : Nat} {ga gb g' : Agd} {w w' w2 : World}
theorem Mix.ply (h : Mix M B p mc mf rb N ga ga w) : Ply M B p mc mf rb N ga w := ⟨h.a, h.b, h.ML, h.BB⟩
theorem Mix.below (h : Mix M B p mc mf rb N ga gb w) (hb : Below w.heap.size w w') : Mix M B p mc mf rb N ga gb w' :=
  ⟨h.a.below hb, h.b.below hb, fun x hx => Nat.lt_of_lt_of_le (h.ML x hx) hb.size, Nat.le_trans h.BB hb.size, h.MB⟩
theorem Mix.mono {N' : Nat} (h : Mix M B p mc mf rb N ga gb w) (hn : N ≤ N') : Mix M B p mc mf rb N' ga gb w := ⟨h.a.mono hn, h.b, h.ML, h.BB, h.MB⟩
theorem Rch.refl : Rch M M w w := ⟨Turns.refl _ _, fun _ h => h, fun _ h => .inl h⟩
theorem Rch.below (hb : Below w.heap.size w w') : Rch M M w w' := ⟨Turns.of_below hb, fun _ h => h, fun _ h => .inl h⟩
theorem Rch.trans (h : Rch M M' w w') (k : Rch M' M2 w' w2) : Rch M M2 w w2 :=
  ⟨h.T.trans k.T (fun x hx => h.new x hx), fun x hx => k.sub x (h.sub x hx), fun x hx => by
    rcases k.new x hx with h1 | h1
    · exact h.new x h1
    · exact .inr (Nat.le_trans h.T.size h1)⟩
theorem Rch.kp (h : Rch M M' w w') : Kp (fun b => b ∉ M) w w' := Kp.of_turns h.T (fun _x hx hn => hn hx)
theorem Rch.rsl {α : Type} {sz : Nat} {E : List Value → α → Prop} {v : Value} {xs : List α} (h : Rch M M' w w') (hs : RSl (fun b => b ∉ M) w sz E v xs) (_ML : ∀ x ∈ M, x < w.heap.size) : RSl (fun b => b ∉ M') w' sz E v xs :=
  hs.kp h.kp (fun b hb hn hm => by
    rcases h.new b hm with h1 | h1
    · exact hn h1
    · omega) (fun _ _ h => h)
theorem Rch.to (h : Rch M M' w w') (MB : ∀ x ∈ M, B ≤ x) (BB : B ≤ w.heap.size) : Below B w w' := h.T.below BB MB
/-- The reference turned. -/
theorem Mix.ref (h : Mix M B p mc mf rb N ga gb w) (k : RfTo M [mc, mf] B rb g' w w') : ∃ M', Mix M' B p mc mf rb N ga g' w' ∧ Rch M M' w w' := by
  obtain ⟨M', k1, k2, k3, k4, k5⟩ := k
  have hn : ∀ x ∈ M.filter (fun x => decide (x ∉ [mc, mf])), x ∈ M ∧ x ≠ mc ∧ x ≠ mf := fun x hx => by
    obtain ⟨e1, e2⟩ := List.mem_filter.1 hx
    have e3 := of_decide_eq_true e2
    exact ⟨e1, fun e => e3 (by rw [e]; simp), fun e => e3 (by rw [e]; simp)⟩
  exact ⟨M', ⟨h.a.step k1 hn k3 k4, k2, k5, Nat.le_trans h.BB k1.size, fun x hx => by
    rcases k4 x hx with h1 | h1
    · exact h.MB x h1
    · exact Nat.le_trans h.BB h1⟩, ⟨k1.mono (fun x hx => (hn x hx).1), k3, k4⟩⟩
/-- The agenda turned. -/
theorem Mix.agd {S : List Nat} {N' : Nat} (h : Mix M B p mc mf rb N ga gb w) (k : AgAt M w' p mc mf g' N') (T : Turns S w w') (hS : ∀ x ∈ S, x = mc ∨ x = mf) : Mix M B p mc mf rb N' g' gb w' ∧ Rch M M w w' := by
  have h1 : ∀ x ∈ S, x ∈ M ∧ x ∈ [mc, mf] := fun x hx => by
    rcases hS x hx with e | e
    · rw [e]; exact ⟨h.a.cM, by simp⟩
    · rw [e]; exact ⟨h.a.fM, by simp⟩
  exact ⟨⟨k, h.b.step T h1 (fun _ h => h) (fun _ h => .inl h), fun x hx => Nat.lt_of_lt_of_le (h.ML x hx) T.size, Nat.le_trans h.BB T.size, h.MB⟩, ⟨T.mono (fun x hx => (h1 x hx).1), fun _ h => h, fun _ h => .inl h⟩⟩
theorem Mix.XM (h : Mix M B p mc mf rb N ga gb w) : ∀ x ∈ [mc, mf], x ∈ M := fun x hx => by
  simp only [List.mem_cons, List.not_mem_nil, or_false] at hx
  rcases hx with rfl | rfl
  · exact h.a.cM
  · exact h.a.fM
end
/-- The reference fires. -/
def MxB (M : List Nat) (B p mc mf rb N : Nat) (ga : Agd) (R : Int × Agd) (w : World) (e : Ending) (w' : World) : Prop := e = .returned (.int .i64 R.1) ∧ ∃ M', Mix M' B p mc mf rb N ga R.2 w' ∧ Rch M M' w w'
/-- The agenda fires. -/
def MxA (M : List Nat) (B p mc mf rb N : Nat) (gb : Agd) (R : Int × Agd) (w : World) (e : Ending) (w' : World) : Prop := e = .returned (.int .i64 R.1) ∧ Mix M B p mc mf rb N R.2 gb w' ∧ Rch M M w w'
theorem mix_rfire {M : List Nat} {B p mc mf rb N : Nat} {ga gb : Agd} (a : Ac) (sv : Value) (w : World) (h : Mix M B p mc mf rb N ga gb w) (hs : RSl (fun b => b ∉ M) w 1 EInt sv a.sub) (hok : AcOk a) (hC : gb.C.length ≤ 40000000) (hD : gb.D.length ≤ 40000000) :
    Calls Tryd.prog 42 #[.pointer (some ⟨rb, 0, none⟩), .agg #[.int .i64 a.rule, sv]] w (MxB M B p mc mf rb N ga (fireF gb a) w) :=
  (rfireW a sv w h.b hs hok h.ML h.XM h.BB hC hD).mono fun _e _w' ⟨h1, h2⟩ => ⟨h1, h.ref h2⟩
theorem mix_afire {M : List Nat} {B p mc mf rb N : Nat} {ga gb : Agd} (a : Ac) (sv : Value) (w : World) (h : Mix M B p mc mf rb N ga gb w) (hs : RSl (fun b => b ∉ M) w 1 EInt sv a.sub) (hok : AcOk a) (hN : N < maxLen) (ht : Tab w) :
    Calls Tryd.prog 31 #[.pointer (some ⟨p, 0, none⟩), .agg #[.int .i64 a.rule, sv]] w (MxA M B p mc mf rb (N + 1) gb (fireF ga a) w) :=
  (fireW a sv w h.a hs hok h.ML hN ht).mono fun _e _w' ⟨h1, h2, h3⟩ => ⟨h1, h.agd h2 h3 (fun _x hx => .inr (List.mem_singleton.1 hx))⟩
/-- Both are given the same changes. -/
theorem mix_rapply {F : Nat → Prop} {M : List Nat} {B p mc mf rb N : Nat} {ga gb : Agd} (v : Value) (xs : List (Bool × Ac)) (w : World) (h : Mix M B p mc mf rb N ga gb w) (hs : RSl F w 3 (EChg F w) v xs) (hF : ∀ b, F b → b ∉ M) (hn : gb.C.length + xs.length ≤ 40000000) :
    Calls Tryd.prog 41 #[.pointer (some ⟨rb, 0, none⟩), v] w fun e w' => e = .returned (.tuple #[.int .i64 ((appF gb xs 0).1 : Int), .int .i64 (appF gb xs 0).2.1]) ∧ ∃ M', Mix M' B p mc mf rb N ga (appF gb xs 0).2.2 w' ∧ Rch M M' w w' :=
  (rapplyW v xs w h.b hs hF h.ML h.XM h.BB hn).mono fun _e _w' ⟨h1, h2⟩ => ⟨h1, h.ref h2⟩
theorem mix_aapply {F : Nat → Prop} {M : List Nat} {B p mc mf rb N : Nat} {ga gb : Agd} (v : Value) (xs : List (Bool × Ac)) (w : World) (h : Mix M B p mc mf rb N ga gb w) (hs : RSl F w 3 (EChg F w) v xs) (hF : ¬ F mc) (hN : N + xs.length < maxLen) (ht : ∀ W, Turns [mc] w W → Tab W) :
    Calls Tryd.prog 10 #[.pointer (some ⟨p, 0, none⟩), v] w fun e w' => e = .returned (.tuple #[.int .i64 ((appF ga xs 0).1 : Int), .int .i64 (appF ga xs 0).2.1]) ∧ Mix M B p mc mf rb (N + xs.length) (appF ga xs 0).2.2 gb w' ∧ Rch M M w w' :=
  (applyW v xs w h.a hs hF h.ML hN ht).mono fun _e _w' ⟨h1, h2, h3⟩ => ⟨h1, h.agd h2 h3 (fun _x hx => .inl (List.mem_singleton.1 hx))⟩
theorem app_len : ∀ (l : List (Bool × Ac)) (g : Agd) (n : Nat), (appF g l n).2.2.C.length ≤ g.C.length + l.length ∧ (appF g l n).2.2.D = g.D
  | [], g, n => by rw [app_nil]; exact ⟨by simp, rfl⟩
  | x :: r, g, n => by
    have hc := chg_len g x.1 x.2
    by_cases h : (chgF g x.1 x.2).1 = 0
    · rw [app_next h]
      have := app_len r (chgF g x.1 x.2).2 (n + 1)
      rw [this.2, hc.2]
      exact ⟨by have h1 := this.1; have h2 := hc.1; simp only [List.length_cons]; omega, rfl⟩
    · rw [app_stop h]
      exact ⟨by simp, rfl⟩
theorem fire_len (g : Agd) (a : Ac) : (fireF g a).2.C = g.C ∧ (fireF g a).2.D.length ≤ g.D.length + 1 := by
  by_cases ho : ownA g a
  · by_cases hd : a ∈ g.D
    · rw [fir_twice ho hd]; exact ⟨rfl, Nat.le_succ _⟩
    · by_cases hc : a ∈ g.C
      · by_cases hl : strA g < lvl g.lv a
        · rw [fir_state ho hd hc hl]; exact ⟨rfl, Nat.le_succ _⟩
        · rw [fir_go ho hd hc hl]; exact ⟨rfl, by simp⟩
      · rw [fir_none ho hd hc]; exact ⟨rfl, Nat.le_succ _⟩
  · rw [fir_arg ho]; exact ⟨rfl, Nat.le_succ _⟩
end Go.Proofs.YtjgigcnjgblekaaDoor

namespace Go.Proofs.YtjgigcnjgblekaaDoor
open Go Go.RowKit Go.Maps Classical

/-- What a step leaves. -/
def StpRes (M : List Nat) (B p mc mf rb N n m : Nat) (w : World) (e : Ending) (w' : World) : Prop :=
  e = .returned (.bool true) ∧ ∃ M' g', Mix M' B p mc mf rb N g' g' w' ∧ Rch M M' w w' ∧ g'.C.length ≤ n ∧ g'.D.length ≤ m
theorem pck_ok {g : Agd} {n : Int} {x : Ac} {e : Int} (hok : ∀ a ∈ g.C, AcOk a) (h : (eligA g = [] ∧ x = ⟨0, []⟩ ∧ e = 50) ∨ (eligA g ≠ [] ∧ (eligA g)[(idxOf n (eligA g).length).toNat]? = some x ∧ e = 0)) : AcOk x := by
  rcases h with ⟨_, h, _⟩ | ⟨_, h, _⟩
  · rw [h]
    exact ⟨by unfold i64ok; decide, fun i hi => by simp at hi, by simp⟩
  · have h1 := (sortA_perm g.cs _).mem_iff.1 (show x ∈ sortA g.cs _ from List.mem_of_getElem? h)
    exact hok x (List.mem_filter.1 (List.mem_filter.1 h1).1).1
set_option maxRecDepth 100000 in
set_option maxHeartbeats 16000000 in
theorem stepW {M : List Nat} {B p mc mf rb N : Nat} {G : Agd} (kind n : Int) (ac : Ac) (cl : List (Bool × Ac)) (chv sv : Value) (w : World) (h : Mix M B p mc mf rb N G G w) (hch : RSl (fun b => b < B) w 3 (EChg (fun b => b < B) w) chv cl) (hsv : RSl (fun b => b < B) w 1 EInt sv ac.sub) (hok : AcOk ac) (hn : i64ok n)
    (hC : G.C.length + cl.length ≤ 40000000) (hD : G.D.length ≤ 40000000) (hN : N + cl.length + 2 < maxLen) (ht : ∀ W, Below B w W → Tab W) :
    Calls Tryd.prog 21 #[.pointer (some ⟨p, 0, none⟩), .pointer (some ⟨rb, 0, none⟩), .agg #[.int .i64 kind, chv, .int .i64 ac.rule, sv, .int .i64 n]] w (StpRes M B p mc mf rb (N + cl.length + 1) (G.C.length + cl.length) (G.D.length + 1) w) := by
  obtain ⟨A1, c1, rfl⟩ := hch.form
  obtain ⟨A2, c2, rfl⟩ := hsv.form
  obtain ⟨w0, hw0⟩ : ∃ w0, w0 = w.alloc (.cells #[.int .i64 kind, .slice A1 cl.length c1, .int .i64 ac.rule, .slice A2 ac.sub.length c2, .int .i64 n] 50) := ⟨_, rfl⟩
  have hb0 : Below w.heap.size w w0 := by rw [hw0]; exact (Below.refl _ _).alloc (Nat.le_refl _) _
  have r0 : w0.heap[w.heap.size]? = some (.cells #[.int .i64 kind, .slice A1 cl.length c1, .int .i64 ac.rule, .slice A2 ac.sub.length c2, .int .i64 n] 50 (0, 0)) := by rw [hw0]; exact heap_alloc_new w _
  have hFM : ∀ b, b < B → b ∉ M := fun b hb hm => by have := h.MB b hm; omega
  have H0 := h.below hb0
  have hnm : w.heap.size ∉ M := fun hm => by have := h.ML _ hm; omega
  have BX := Lib.hid (fun (W : World) (M' : List Nat) (hW : Rch M M' w0 W) => (show W.heap[w.heap.size]? = some (.cells #[.int .i64 kind, .slice A1 cl.length c1, .int .i64 ac.rule, .slice A2 ac.sub.length c2, .int .i64 n] 50 (0, 0)) from (hW.T.block _ (lt_of_heap r0) hnm).trans r0))
  have HS := Lib.hid H0
  have HB := Lib.hid hb0
  have TB := Lib.hid (fun (W : World) (M' : List Nat) (hW : Rch M M' w0 W) => ht W ((hb0.mono h.BB).trans (hW.to H0.MB H0.BB)))
  have TB2 := Lib.hid (fun (W : World) (hW : Below B w0 W) => ht W ((hb0.mono h.BB).trans hW))
  have HCH := Lib.hid (fun (W : World) (M' : List Nat) (hW : Rch M M' w0 W) => ((hch.keep (Kp.of_below hb0) |>.kp (E' := EChg (fun b => b < B) W) (Kp.of_turns hW.T (fun x hx hf => hFM x hf hx)) (fun _ _ h => h) (fun _ _ hc => (hc.kp (Kp.of_below hb0) (fun _ _ h => h)).kp (Kp.of_turns hW.T (fun x hx hf => hFM x hf hx)) (fun _ _ h => h))) : RSl (fun b => b < B) W 3 (EChg (fun b => b < B) W) (.slice A1 cl.length c1) cl))
  have HSV := Lib.hid ((hsv.keep (Kp.of_below hb0)).kp (F' := fun b => b ∉ M) (Kp.refl _ _) (fun b _ hf => hFM b hf) (fun _ _ h => h))
  have HOK := Lib.hid hok
  have HN0 := Lib.hid hn
  have HC := Lib.hid hC
  have HD := Lib.hid hD
  have HN := Lib.hid hN
  have HMB := Lib.hid h.MB
  have x0 : w0.cell? ⟨w.heap.size, 0, none⟩ = some (.int .i64 kind) := cell_of_row _ _ 0 _ _ _ r0
  have FINE := Lib.hid (fun (M' : List Nat) (g' : Agd) (N' : Nat) (W : World) (hm : Mix M' B p mc mf rb N' g' g' W) (hr : Rch M M' w0 W) (hN' : N' ≤ N + cl.length + 1) (h1 : g'.C.length ≤ G.C.length + cl.length) (h2 : g'.D.length ≤ G.D.length + 1) =>
    (⟨M', g', hm.mono hN', (Rch.below hb0).trans hr, h1, h2⟩ : ∃ M' g', Mix M' B p mc mf rb (N + cl.length + 1) g' g' W ∧ Rch M M' w W ∧ g'.C.length ≤ G.C.length + cl.length ∧ g'.D.length ≤ G.D.length + 1))
  clear h hch hsv hok hn hC hD hN ht hb0 r0 hFM H0 hnm
  go_enter Tryd.func21, Tryd.ntmps21
  go_upto_region 1 with fail
  rw [← hw0]
  clear hw0
  by_cases k1 : kind = 1
  · subst k1
    have x1 : w0.cell? ⟨w.heap.size, 1, none⟩ = some (.slice A1 cl.length c1) := cell_of_row _ _ 1 _ _ _ (BX.out w0 M Rch.refl)
    obtain ⟨R, hR⟩ : ∃ R, appF G cl 0 = R := ⟨_, rfl⟩
    have hlen := app_len cl G 0
    rw [hR] at hlen
    have RA := mix_rapply (.slice A1 cl.length c1) cl w0 HS.out (HCH.out w0 M Rch.refl) (fun b hb hm => by have := HMB.out b hm; omega) HC.out
    rw [hR] at RA
    have RA := Lib.hid RA
    have AA := Lib.hid (fun (M' : List Nat) (gb : Agd) (W : World) (hm : Mix M' B p mc mf rb N G gb W) (hr : Rch M M' w0 W) => (hR ▸ mix_aapply (.slice A1 cl.length c1) cl W hm (HCH.out W M' hr) (fun hf => by have := hm.MB mc hm.a.cM; omega) (by have := HN.out; omega) (fun W2 T => TB2.out W2 ((hr.to HMB.out HS.out.BB).trans (T.below hm.BB (fun x hx => by rw [List.mem_singleton.1 hx]; exact hm.MB mc hm.a.cM)))) :
      Calls Tryd.prog 10 #[.pointer (some ⟨p, 0, none⟩), .slice A1 cl.length c1] W fun e w' => e = .returned (.tuple #[.int .i64 (R.1 : Int), .int .i64 R.2.1]) ∧ Mix M' B p mc mf rb (N + cl.length) R.2.2 gb w' ∧ Rch M' M' W w'))
    have HLEN := Lib.hid hlen
    have he1 : ((R.1 : Int) == (R.1 : Int)) = true := by simp
    have he2 : (R.2.1 == R.2.1) = true := by simp
    clear hR hlen
    go_wp2_with fail
    refine RA.out.mono ?_
    rintro e w1 ⟨rfl, M1, hm1, hr1⟩
    have AW := Lib.hid (AA.out M1 R.2.2 w1 hm1 hr1)
    have R1 := Lib.hid hr1
    have x1 : w1.cell? ⟨w.heap.size, 1, none⟩ = some (.slice A1 cl.length c1) := cell_of_row _ _ 1 _ _ _ (BX.out w1 M1 hr1)
    clear hm1 hr1 RA AA x0
    go_wp2_with fail
    refine AW.out.mono ?_
    rintro e w2 ⟨rfl, hm2, hr2⟩
    have M2 := Lib.hid hm2
    have R2 := Lib.hid (R1.out.trans hr2)
    clear hm2 hr2 AW x1
    go_wp2
    go_ret
    exact ⟨rfl, FINE.out M1 R.2.2 _ _ M2.out R2.out (by omega) HLEN.out.1 (by rw [HLEN.out.2]; omega)⟩
  have f1 : (kind == 1) = false := beq_false_of_ne k1
  by_cases k7 : kind = 7
  · subst k7
    clear k1 f1
    obtain ⟨R, hR⟩ : ∃ R, fireF G ac = R := ⟨_, rfl⟩
    have hlen := fire_len G ac
    rw [hR] at hlen
    have HLEN := Lib.hid hlen
    have FB := Lib.hid (fun (M' : List Nat) (ga : Agd) (N' : Nat) (W : World) (hm : Mix M' B p mc mf rb N' ga G W) (hv : RSl (fun b => b ∉ M') W 1 EInt (.slice A2 ac.sub.length c2) ac.sub) => (hR ▸ mix_rfire ac (.slice A2 ac.sub.length c2) W hm hv HOK.out (by have := HC.out; omega) HD.out : Calls Tryd.prog 42 #[.pointer (some ⟨rb, 0, none⟩), .agg #[.int .i64 ac.rule, .slice A2 ac.sub.length c2]] W (MxB M' B p mc mf rb N' ga R W)))
    have FA := Lib.hid (fun (M' : List Nat) (gb : Agd) (W : World) (hm : Mix M' B p mc mf rb N G gb W) (hv : RSl (fun b => b ∉ M') W 1 EInt (.slice A2 ac.sub.length c2) ac.sub) (hr : Rch M M' w0 W) => (hR ▸ mix_afire ac (.slice A2 ac.sub.length c2) W hm hv HOK.out (by have := HN.out; omega) (TB.out W M' hr) : Calls Tryd.prog 31 #[.pointer (some ⟨p, 0, none⟩), .agg #[.int .i64 ac.rule, .slice A2 ac.sub.length c2]] W (MxA M' B p mc mf rb (N + 1) gb R W)))
    have BXS := Lib.hid (fun (W : World) (M' : List Nat) (hW : Rch M M' w0 W) => (show W.cell? ⟨w.heap.size, 2, none⟩ = some (.int .i64 ac.rule) ∧ W.cell? ⟨w.heap.size, 3, none⟩ = some (.slice A2 ac.sub.length c2) from ⟨cell_of_row _ _ 2 _ _ _ (BX.out W M' hW), cell_of_row _ _ 3 _ _ _ (BX.out W M' hW)⟩))
    have D0 : Below w0.heap.size w0 w0.drew := (Below.refl _ _).drew
    have RD := Lib.hid (Rch.below (M := M) D0)
    have MX := Lib.hid (HS.out.below D0)
    have VX := Lib.hid (HSV.out.keep (Kp.of_below D0))
    have SX := BXS.out _ _ RD.out
    clear hR hlen
    go_upto_region 7 with fail
    clear x0
    go_region_held3 (fun W : World => W.cell? ⟨w.heap.size, 2, none⟩ = some (.int .i64 ac.rule) ∧ W.cell? ⟨w.heap.size, 3, none⟩ = some (.slice A2 ac.sub.length c2))
      (first | with_reducible exact SX | with_reducible exact S2 | with_reducible exact S1 | go_keep)
      (first
        | (go_at_call 42; first
          | (refine (FB.out M R.2 _ _ MA1.out VA1.out).mono ?_; rintro e w6 ⟨rfl, M6, hm6, hr6⟩; have S2 := BXS.out w6 M6 (RA1.out.trans hr6); have FN := Lib.hid (And.intro hm6 (RA1.out.trans hr6)); clear hm6 hr6)
          | (refine (FB.out M G _ _ MX.out VX.out).mono ?_; rintro e w5 ⟨rfl, M5, hm5, hr5⟩; have S1 := BXS.out w5 M5 (RD.out.trans hr5); have MB1 := Lib.hid hm5; have RB1 := Lib.hid (RD.out.trans hr5); have VB1 := Lib.hid (hr5.rsl VX.out MX.out.ML); clear hm5 hr5))
        | (go_at_call 31; first
          | (refine (FA.out _ R.2 _ MB1.out VB1.out RB1.out).mono ?_; rintro e w6 ⟨rfl, hm6, hr6⟩; have S2 := BXS.out w6 _ (RB1.out.trans hr6); have FN := Lib.hid (And.intro hm6 (RB1.out.trans hr6)); clear hm6 hr6)
          | (refine (FA.out M G _ MX.out VX.out RD.out).mono ?_; rintro e w5 ⟨rfl, hm5, hr5⟩; have S1 := BXS.out w5 M (RD.out.trans hr5); have MA1 := Lib.hid hm5; have RA1 := Lib.hid (RD.out.trans hr5); have VA1 := Lib.hid (hr5.rsl VX.out MX.out.ML); clear hm5 hr5)))
    all_goals
      clear SX S1 S2
      have hee : (R.1 == R.1) = true := by simp
      go_wp2
      go_ret
      exact ⟨by simp, FINE.out _ R.2 (N + 1) _ FN.out.1 FN.out.2 (by omega) (by rw [HLEN.out.1]; omega) HLEN.out.2⟩
  have f7 : (kind == 7) = false := beq_false_of_ne k7
  by_cases k9 : kind = 9
  · subst k9
    clear k1 f1 k7 f7
    have x4 : w0.cell? ⟨w.heap.size, 4, none⟩ = some (.int .i64 n) := cell_of_row _ _ 4 _ _ _ (BX.out w0 M Rch.refl)
    have PB := Lib.hid (rpickW n HN0.out w0 HS.out.b (by have := HC.out; omega))
    have PA := Lib.hid (fun (W : World) (hW : Below w0.heap.size w0 W) => pickW n HN0.out W (HS.out.below hW).a (by have := HC.out; omega))
    have NEW := Lib.hid (fun (b : Nat) (hb : w0.heap.size ≤ b) => (show b ∉ M from fun hm => by have := HS.out.ML b hm; omega))
    go_wp2_with fail
    refine PB.out.mono ?_
    rintro e w1 ⟨y, sv1, er, rfl, hsv1, hb1, hcase⟩
    obtain ⟨A3, c3, rfl⟩ := hsv1.form
    have HOKY := Lib.hid (pck_ok HS.out.b.acC hcase)
    obtain ⟨w2, hw2⟩ : ∃ w2, w2 = w1.alloc (.cells #[.int .i64 y.rule, .slice A3 y.sub.length c3] 30) := ⟨_, rfl⟩
    have hb2 : Below w1.heap.size w1 w2 := by rw [hw2]; exact (Below.refl _ _).alloc (Nat.le_refl _) _
    have r2 : w2.heap[w1.heap.size]? = some (.cells #[.int .i64 y.rule, .slice A3 y.sub.length c3] 30 (0, 0)) := by rw [hw2]; exact heap_alloc_new w1 _
    have B2 := Lib.hid (hb1.trans (hb2.mono hb1.size))
    have V2 := Lib.hid ((hsv1.keep (Kp.of_below hb2)).kp (F' := fun b => b ∉ M) (Kp.refl _ _) (fun b _ hf => NEW.out b hf) (fun _ _ h => h))
    have x4 : w2.cell? ⟨w.heap.size, 4, none⟩ = some (.int .i64 n) := cell_of_row _ _ 4 _ _ _ (BX.out w2 M (Rch.below B2.out))
    have R2 := Lib.hid r2
    have HCA := Lib.hid hcase
    have LT1 := Lib.hid (show w0.heap.size ≤ w1.heap.size from hb1.size)
    clear hsv1 hb1 hb2 r2 hcase x0 PB
    go_upto_region 10 with fail
    rw [← hw2]
    clear hw2
    go_wp2_with fail
    refine (PA.out w2 B2.out).mono ?_
    rintro e w3 ⟨x, sv3, er3, rfl, hsv3, hb3, hcase3⟩
    obtain ⟨hxy, hef⟩ := pck_same hcase3 HCA.out
    subst hxy hef
    obtain ⟨A4, c4, rfl⟩ := hsv3.form
    obtain ⟨w4, hw4⟩ : ∃ w4, w4 = w3.alloc (.cells #[.int .i64 x.rule, .slice A4 x.sub.length c4] 30) := ⟨_, rfl⟩
    have hb4 : Below w3.heap.size w3 w4 := by rw [hw4]; exact (Below.refl _ _).alloc (Nat.le_refl _) _
    have r4 : w4.heap[w3.heap.size]? = some (.cells #[.int .i64 x.rule, .slice A4 x.sub.length c4] 30 (0, 0)) := by rw [hw4]; exact heap_alloc_new w3 _
    have hb24 := hb3.trans (hb4.mono hb3.size)
    have r24 := (hb24.block _ (lt_of_heap R2.out)).trans R2.out
    have B4 := Lib.hid (B2.out.trans (hb24.mono B2.out.size))
    have VY := Lib.hid (V2.out.keep (Kp.of_below hb24))
    have VX0 := Lib.hid ((hsv3.keep (Kp.of_below hb4)).kp (F' := fun b => b ∉ M) (Kp.refl _ _) (fun b _ hf => NEW.out b (Nat.le_trans B2.out.size hf)) (fun _ _ h => h))
    have y0 : w4.cell? ⟨w1.heap.size, 0, none⟩ = some (.int .i64 x.rule) := cell_of_row _ _ 0 _ _ _ r24
    have y1 : w4.cell? ⟨w1.heap.size, 1, none⟩ = some (.slice A3 x.sub.length c3) := cell_of_row _ _ 1 _ _ _ r24
    have y2 : w4.cell? ⟨w3.heap.size, 0, none⟩ = some (.int .i64 x.rule) := cell_of_row _ _ 0 _ _ _ r4
    have y3 : w4.cell? ⟨w3.heap.size, 1, none⟩ = some (.slice A4 x.sub.length c4) := cell_of_row _ _ 1 _ _ _ r4
    have SM := Lib.hid (sameW x (.slice A4 x.sub.length c4) (.slice A3 x.sub.length c3) w4 VX0.out VY.out)
    have RY := Lib.hid r24
    have RX := Lib.hid r4
    have LT3 := Lib.hid (show w0.heap.size ≤ w3.heap.size from Nat.le_trans B2.out.size hb3.size)
    have hee : (er3 == er3) = true := by simp
    have hen : (er3 != er3) = false := by simp
    clear hsv3 hb3 hb4 hb24 r4 r24 hcase3 x4 PA
    go_upto_region 11 with fail
    rw [← hw4]
    clear hw4
    go_wp2_with fail
    refine SM.out.mono ?_
    rintro e w5 ⟨rfl, hb5⟩
    have B5 := Lib.hid (B4.out.trans (hb5.mono B4.out.size))
    have VY5 := Lib.hid (VY.out.keep (Kp.of_below hb5))
    have VX5 := Lib.hid (VX0.out.keep (Kp.of_below hb5))
    have BXS := Lib.hid (fun (W : World) (M' : List Nat) (hW : Rch M M' w5 W) => (show W.cell? ⟨w1.heap.size, 0, none⟩ = some (.int .i64 x.rule) ∧ W.cell? ⟨w1.heap.size, 1, none⟩ = some (.slice A3 x.sub.length c3) ∧ W.cell? ⟨w3.heap.size, 0, none⟩ = some (.int .i64 x.rule) ∧ W.cell? ⟨w3.heap.size, 1, none⟩ = some (.slice A4 x.sub.length c4) by
      have e1 := (hW.T.block _ (Nat.lt_of_lt_of_le (lt_of_heap RY.out) hb5.size) (NEW.out _ LT1.out)).trans ((hb5.block _ (lt_of_heap RY.out)).trans RY.out)
      have e2 := (hW.T.block _ (Nat.lt_of_lt_of_le (lt_of_heap RX.out) hb5.size) (NEW.out _ LT3.out)).trans ((hb5.block _ (lt_of_heap RX.out)).trans RX.out)
      exact ⟨cell_of_row _ _ 0 _ _ _ e1, cell_of_row _ _ 1 _ _ _ e1, cell_of_row _ _ 0 _ _ _ e2, cell_of_row _ _ 1 _ _ _ e2⟩))
    obtain ⟨R, hR⟩ : ∃ R, fireF G x = R := ⟨_, rfl⟩
    have hlen := fire_len G x
    rw [hR] at hlen
    have HLEN := Lib.hid hlen
    have FB := Lib.hid (fun (M' : List Nat) (ga : Agd) (N' : Nat) (W : World) (hm : Mix M' B p mc mf rb N' ga G W) (hv : RSl (fun b => b ∉ M') W 1 EInt (.slice A3 x.sub.length c3) x.sub) => (hR ▸ mix_rfire x (.slice A3 x.sub.length c3) W hm hv HOKY.out (by have := HC.out; omega) HD.out : Calls Tryd.prog 42 #[.pointer (some ⟨rb, 0, none⟩), .agg #[.int .i64 x.rule, .slice A3 x.sub.length c3]] W (MxB M' B p mc mf rb N' ga R W)))
    have R05 := Lib.hid (Rch.below (M := M) B5.out)
    have FA := Lib.hid (fun (M' : List Nat) (gb : Agd) (W : World) (hm : Mix M' B p mc mf rb N G gb W) (hv : RSl (fun b => b ∉ M') W 1 EInt (.slice A4 x.sub.length c4) x.sub) (hr : Rch M M' w5 W) => (hR ▸ mix_afire x (.slice A4 x.sub.length c4) W hm hv HOKY.out (by have := HN.out; omega) (TB.out W M' (R05.out.trans hr)) : Calls Tryd.prog 31 #[.pointer (some ⟨p, 0, none⟩), .agg #[.int .i64 x.rule, .slice A4 x.sub.length c4]] W (MxA M' B p mc mf rb (N + 1) gb R W)))
    have D0 : Below w5.heap.size w5 w5.drew := (Below.refl _ _).drew
    have RD := Lib.hid (Rch.below (M := M) D0)
    have MX := Lib.hid ((HS.out.below B5.out).below D0)
    have VYD := Lib.hid (VY5.out.keep (Kp.of_below D0))
    have VXD := Lib.hid (VX5.out.keep (Kp.of_below D0))
    have SX := BXS.out _ _ RD.out
    clear hR hlen y0 y1 y2 y3 hb5 SM
    obtain ⟨y0, y1, y2, y3⟩ := BXS.out w5 M Rch.refl
    go_upto_region 13 with fail
    clear y0 y1 y2 y3
    go_region_held3 (fun W : World => W.cell? ⟨w1.heap.size, 0, none⟩ = some (.int .i64 x.rule) ∧ W.cell? ⟨w1.heap.size, 1, none⟩ = some (.slice A3 x.sub.length c3) ∧ W.cell? ⟨w3.heap.size, 0, none⟩ = some (.int .i64 x.rule) ∧ W.cell? ⟨w3.heap.size, 1, none⟩ = some (.slice A4 x.sub.length c4))
      (first | with_reducible exact SX | with_reducible exact S2 | with_reducible exact S1 | go_keep)
      (first
        | (go_at_call 42; first
          | (refine (FB.out M R.2 _ _ MA1.out VA1.out).mono ?_; rintro e w6 ⟨rfl, M6, hm6, hr6⟩; have S2 := BXS.out w6 M6 (RA1.out.trans hr6); have FN := Lib.hid (And.intro hm6 (RA1.out.trans hr6)); clear hm6 hr6)
          | (refine (FB.out M G _ _ MX.out VYD.out).mono ?_; rintro e w6 ⟨rfl, M5, hm5, hr5⟩; have S1 := BXS.out w6 M5 (RD.out.trans hr5); have MB1 := Lib.hid hm5; have RB1 := Lib.hid (RD.out.trans hr5); have VB1 := Lib.hid (hr5.rsl VXD.out MX.out.ML); clear hm5 hr5))
        | (go_at_call 31; first
          | (refine (FA.out _ R.2 _ MB1.out VB1.out RB1.out).mono ?_; rintro e w7 ⟨rfl, hm6, hr6⟩; have S2 := BXS.out w7 _ (RB1.out.trans hr6); have FN := Lib.hid (And.intro hm6 (RB1.out.trans hr6)); clear hm6 hr6)
          | (refine (FA.out M G _ MX.out VXD.out RD.out).mono ?_; rintro e w7 ⟨rfl, hm5, hr5⟩; have S1 := BXS.out w7 M (RD.out.trans hr5); have MA1 := Lib.hid hm5; have RA1 := Lib.hid (RD.out.trans hr5); have VA1 := Lib.hid (hr5.rsl VYD.out MX.out.ML); clear hm5 hr5)))
    all_goals
      clear SX S1 S2
      have hrr : (R.1 == R.1) = true := by simp
      go_wp2
      go_ret
      exact ⟨by simp, FINE.out _ R.2 (N + 1) _ FN.out.1 (R05.out.trans FN.out.2) (by omega) (by rw [HLEN.out.1]; omega) HLEN.out.2⟩
  have f9 : (kind == 9) = false := beq_false_of_ne k9
  clear k1 k7 k9
  by_cases h2 : kind < 2
  · go_wp2
    go_ret
    exact ⟨rfl, FINE.out M G N _ HS.out Rch.refl (by omega) (by omega) (by omega)⟩
  · by_cases h8 : kind > 8
    · go_wp2
      go_ret
      exact ⟨rfl, FINE.out M G N _ HS.out Rch.refl (by omega) (by omega) (by omega)⟩
    · have hrow := BX.out w0 M Rch.refl
      have x1 : w0.cell? ⟨w.heap.size, 1, none⟩ = some (.slice A1 cl.length c1) := cell_of_row _ _ 1 _ _ _ hrow
      have x2 : w0.cell? ⟨w.heap.size, 2, none⟩ = some (.int .i64 ac.rule) := cell_of_row _ _ 2 _ _ _ hrow
      have x3 : w0.cell? ⟨w.heap.size, 3, none⟩ = some (.slice A2 ac.sub.length c2) := cell_of_row _ _ 3 _ _ _ hrow
      have x4 : w0.cell? ⟨w.heap.size, 4, none⟩ = some (.int .i64 n) := cell_of_row _ _ 4 _ _ _ hrow
      have AS := Lib.hid (asksW kind ac.rule n A1 A2 cl.length c1 ac.sub.length c2 w0 HS.out.ply (by have := HC.out; omega) HD.out HN0.out)
      clear hrow
      go_wp2_with fail
      refine AS.out.mono ?_
      rintro e w1 ⟨rfl, hb1⟩
      have B1 := Lib.hid hb1
      clear hb1 AS x0 x1 x2 x3 x4
      go_wp2
      go_ret
      exact ⟨rfl, FINE.out M G N _ (HS.out.below B1.out) (Rch.below B1.out) (by omega) (by omega) (by omega)⟩
end Go.Proofs.YtjgigcnjgblekaaDoor

namespace Go.Proofs.YtjgigcnjgblekaaDoor
open Go.ChangeShapes Go.WideShapes Go.ChangeAt Go.RowKit Go.Deep

/-- What the bound gives: how long the lists are. -/
theorem bulk_ge {H : Type} (l : List (DataW H)) : l.length ≤ Rows.uptoBulkAll l := by
  induction l with
  | nil => simp [Rows.uptoBulkAll]
  | cons d l ih =>
    have : 1 ≤ Rows.uptoBulk d := by
      cases d with
      | lit l => cases l <;> simp [Rows.uptoBulk]
      | nil => simp [Rows.uptoBulk]
      | ptr d => simp [Rows.uptoBulk]
      | slice e s => simp [Rows.uptoBulk]
      | agg p => simp [Rows.uptoBulk]
      | iface t d => simp [Rows.uptoBulk]
      | map e => simp [Rows.uptoBulk]
      | held h => simp [Rows.uptoBulk]
    simp only [Rows.uptoBulkAll, List.length_cons]
    omega
theorem bulk_mem {H : Type} {l : List (DataW H)} {d : DataW H} (h : d ∈ l) : Rows.uptoBulk d ≤ Rows.uptoBulkAll l := by
  induction l with
  | nil => cases h
  | cons a l ih =>
    simp only [Rows.uptoBulkAll]
    rcases List.mem_cons.1 h with rfl | h
    · omega
    · have := ih h; omega
theorem bulk_arg {H : Type} {ds : List (DataW H)} (h : Rows.uptoSmall H ds = true) {j : Nat} {d : DataW H} (hd : ds[j]? = some d) : Rows.uptoBulk d ≤ 1048576 := by
  have h : Rows.uptoBulkAll ds ≤ 1048576 := of_decide_eq_true h
  have := bulk_mem (List.mem_of_getElem? hd)
  omega

theorem bulk_sum {H : Type} : ∀ (l : List Nat) (D : Nat → DataW H) (f : Nat → Nat), (∀ i ∈ l, f i ≤ Rows.uptoBulk (D i)) → (l.map f).sum ≤ Rows.uptoBulkAll (l.map D)
  | [], _, _, _ => by simp [Rows.uptoBulkAll]
  | i :: l, D, f, h => by
    have h1 := h i (List.mem_cons_self ..)
    have h2 := bulk_sum l D f (fun j hj => h j (List.mem_cons_of_mem _ hj))
    simp only [List.map_cons, List.sum_cons, Rows.uptoBulkAll]
    omega
section
variable {H : Type} {enc : TypeId × Value → H} {P : Program} {w : World} {base : Nat} {spare : Nat → Bool} {held : Bool}
theorem open_rslW {α : Type} (N : Nat) (wt : α → Nat) {t e : TypeId} {fuel : Nat} {v : Value} {x : DataW H × List MemPlace} {sz : Nat} {E : List Value → α → Prop}
    (ht : P.underlying t = some (.slice e)) (hC : P.cellsOf e = sz) (hsz : 0 < sz)
    (hel : ∀ (fuel : Nat) (cs : List Value) (x : DataW H × List MemPlace), DataW.trod enc P w base spare held fuel e cs = some x → Rows.uptoBulk x.1 ≤ N → ∃ a, E cs a ∧ wt a ≤ Rows.uptoBulk x.1)
    (h : DataW.trod enc P w base spare held fuel t [v] = some x) (hN : Rows.uptoBulk x.1 ≤ N) :
    ∃ xs : List α, RSl (fun b => b < w.heap.size) w sz E v xs ∧ xs.length ≤ Rows.uptoBulk x.1 ∧ (xs.map wt).sum ≤ Rows.uptoBulk x.1 := by
  rcases open_slice ht h with ⟨hv, _⟩ | ⟨a, len, cap, m, n, D, Pl, hv, hb, hl, hm, hmm, hx, hi⟩
  · simp only [List.cons.injEq, and_true] at hv
    subst hv
    exact ⟨[], RSl.nil, by simp, by simp⟩
  · simp only [List.cons.injEq, and_true] at hv
    subst hv
    have hml : len ≤ m := by rw [hmm]; split <;> omega
    have hbk : Rows.uptoBulkAll ((List.range len).map D) + 1 ≤ Rows.uptoBulk x.1 := by rw [hx]; simp only [Rows.uptoBulk]; omega
    have hbl := bulk_ge ((List.range len).map D)
    simp only [List.length_map, List.length_range] at hbl
    have hq : ∀ i, i < len → ∃ a' : α, wt a' ≤ Rows.uptoBulk (D i) ∧ ∃ cs, E cs a' ∧ cs.length = sz ∧ ∀ j u, cs[j]? = some u → w.cell? ((a.add (i * sz)).add j) = some u := by
      intro i hil
      obtain ⟨cs', hc, ht'⟩ := hi i (by omega)
      rw [hC] at hc
      have hD : Rows.uptoBulk (D i) ≤ Rows.uptoBulkAll ((List.range len).map D) := bulk_mem (List.mem_map.2 ⟨i, List.mem_range.2 hil, rfl⟩)
      obtain ⟨a', hE, hWt⟩ := hel _ _ _ ht' (show Rows.uptoBulk (D i) ≤ N by omega)
      obtain ⟨_, hcl, hat⟩ := World.cells?_some hc
      refine ⟨a', hWt, cs', hE, hcl, fun j u hu => ?_⟩
      have hj : j < sz := by
        have := (List.getElem?_eq_some_iff.1 hu).1
        omega
      rw [hat j hj, hu]
    rcases Nat.eq_zero_or_pos len with h0 | hpos
    · subst h0
      exact ⟨[], ⟨some a, cap, rfl, Nat.zero_le _, hm, fun h => (by cases h), .inl rfl⟩, by simp, by simp⟩
    · have hne : ∃ _ : α, True := by obtain ⟨a', _, _⟩ := hq 0 hpos; exact ⟨a', trivial⟩
      obtain ⟨dflt, _⟩ := hne
      have hch : ∃ f : Nat → α, ∀ i, i < len → wt (f i) ≤ Rows.uptoBulk (D i) ∧ ∃ cs, E cs (f i) ∧ cs.length = sz ∧ ∀ j u, cs[j]? = some u → w.cell? ((a.add (i * sz)).add j) = some u := by
        refine ⟨fun i => if hil : i < len then (hq i hil).choose else dflt, fun i hil => ?_⟩
        simp only [dif_pos hil]
        exact (hq i hil).choose_spec
      obtain ⟨f, hf⟩ := hch
      obtain ⟨b, off, spot⟩ := a
      obtain ⟨_, cs0, _, hl0, hc0⟩ := hf 0 hpos
      have h00 := hc0 0 (cs0[0]'(by omega)) (List.getElem?_eq_getElem _)
      have hspot : spot = none := by
        have := World.cell?_spot h00
        simpa [Addr.add] using this
      subst hspot
      have hblt : b < w.heap.size := by
        have := World.block_lt_of_cell? w _ h00
        rwa [rd_add, rd_add] at this
      refine ⟨(List.range len).map f, ⟨some ⟨b, off, none⟩, cap, by simp, by simpa using hl, hm, (fun h => by cases h), .inr ⟨b, off, rfl, hblt, hblt, ?_⟩⟩, by simp; omega, ?_⟩
      · intro i y hy
        have hil : i < len := by
          have := (List.getElem?_eq_some_iff.1 hy).1
          simpa using this
        have hx' : f i = y := by simpa [List.getElem?_map, List.getElem?_range hil] using hy
        subst hx'
        obtain ⟨_, cs, h1, h2, h3⟩ := hf i hil
        refine ⟨cs, h1, fun j u hu => ?_⟩
        have := h3 j u hu
        rw [rd_add, rd_add] at this
        exact this
      · refine Nat.le_trans ?_ (Nat.le_trans (Nat.le_succ _) hbk)
        rw [List.map_map]
        exact bulk_sum (List.range len) D (fun i => wt (f i)) (fun i hi' => (hf i (List.mem_range.1 hi')).1)
end
/-- A call of the script, all of it. -/
structure OpP where
  kind : Int
  cl : List (Bool × Ac)
  ac : Ac
  n : Int
/-- Its cells. -/
def EOpP (F : Nat → Prop) (w : World) (cs : List Value) (o : OpP) : Prop :=
  ∃ cv sv, cs = [.int .i64 o.kind, cv, .int .i64 o.ac.rule, sv, .int .i64 o.n] ∧ RSl F w 3 (EChg F w) cv o.cl ∧ RSl F w 1 EInt sv o.ac.sub ∧ AcOk o.ac ∧ i64ok o.n
theorem EOpP.kp {F F' : Nat → Prop} {w w' : World} {cs : List Value} {o : OpP} (h : EOpP F w cs o) (hk : Kp F w w') (hF : ∀ b, b < w.heap.size → F b → F' b) : EOpP F' w' cs o := by
  obtain ⟨cv, sv, h1, h2, h3, h4, h5⟩ := h
  exact ⟨cv, sv, h1, h2.kp hk hF (fun _ _ hc => hc.kp hk hF), h3.kp hk hF (fun _ _ h => h), h4, h5⟩
theorem EOpP.all {F F' : Nat → Prop} {w w' : World} {n : Nat} {v : Value} {l : List OpP} (h : RSl F w n (EOpP F w) v l) (hk : Kp F w w') (hF : ∀ b, b < w.heap.size → F b → F' b) : RSl F' w' n (EOpP F' w') v l :=
  h.kp hk hF (fun _ _ hc => hc.kp hk hF)
theorem list_fourP {α : Type} {l : List α} (h : l.length = 4) : ∃ a b c d, l = [a, b, c, d] := by
  match l, h with
  | [a, b, c, d], _ => exact ⟨a, b, c, d, rfl⟩
theorem list_fiveP {α : Type} {l : List α} (h : l.length = 5) : ∃ a b c d e, l = [a, b, c, d, e] := by
  match l, h with
  | [a, b, c, d, e], _ => exact ⟨a, b, c, d, e, rfl⟩
theorem list_threeP {α : Type} {l : List α} (h : l.length = 3) : ∃ a b c, l = [a, b, c] := by
  match l, h with
  | [a, b, c], _ => exact ⟨a, b, c, rfl⟩
theorem cOpP : Tryd.prog.cellsOf 50 = 5 := by kernel_rfl
theorem cSChgP : Tryd.prog.cellsOf 28 = 1 := by kernel_rfl
theorem cChgP : Tryd.prog.cellsOf 36 = 3 := by kernel_rfl
theorem cBoolP : Tryd.prog.cellsOf 4 = 1 := by kernel_rfl
theorem cCstP : Tryd.prog.cellsOf 62 = 3 := by kernel_rfl
theorem cStrP : Tryd.prog.cellsOf 9 = 1 := by kernel_rfl
theorem cI64P : Tryd.prog.cellsOf 2 = 1 := by kernel_rfl
section
variable {H : Type} {enc : TypeId × Value → H} {w : World} {base : Nat} {spare : Nat → Bool} {held : Bool} {fuel : Nat} {cs : List Value} {v : Value} {x : DataW H × List MemPlace}
theorem bulk_partP {d : DataW H} {ys : List (DataW H × List MemPlace)} (hx : d = .agg (ys.map (·.1))) {y : DataW H × List MemPlace} (hy : y ∈ ys) : Rows.uptoBulk y.1 ≤ Rows.uptoBulk d := by
  have := bulk_mem (List.mem_map.2 ⟨y, hy, rfl⟩ : y.1 ∈ ys.map (·.1))
  rw [hx]
  simp only [Rows.uptoBulk]
  omega
theorem open_intsP (h : DataW.trod enc Tryd.prog w base spare held fuel 22 [v] = some x) : ∃ xs : List Int, RSl (fun b => b < w.heap.size) w 1 EInt v xs ∧ xs.length ≤ Rows.uptoBulk x.1 := by
  obtain ⟨xs, h1, h2, _⟩ := open_rslW (E := EInt) (Rows.uptoBulk x.1) (fun _ => 0) Tryd.underlying22 cIntR (by decide) (fun _ _ _ h _ => by
    obtain ⟨n, hn⟩ := open_intE h
    exact ⟨n, hn, Nat.zero_le _⟩) h (Nat.le_refl _)
  exact ⟨xs, h1, h2⟩
theorem open_actP (h : DataW.trod enc Tryd.prog w base spare held fuel 30 cs = some x) (hN : Rows.uptoBulk x.1 ≤ 1048576) : ∃ (a : Ac) (sv : Value), cs = [.int .i64 a.rule, sv] ∧ AcOk a ∧ RSl (fun b => b < w.heap.size) w 1 EInt sv a.sub := by
  obtain ⟨ys, n, _, hx, hlen, hyl, hf⟩ := DataW.trod_struct Tryd.underlying30 h
  rw [cActR] at hlen
  obtain ⟨a, b, rfl⟩ := list_twoA hlen
  obtain ⟨y0, y1, rfl⟩ := list_twoA (show ys.length = 2 from hyl)
  have g0 := hf 0 _ rfl
  change DataW.trod enc Tryd.prog w base spare held n 3 (List.take (Tryd.prog.cellsOf 3) (List.drop 0 [a, b])) = some y0 at g0
  rw [cIntR] at g0
  have g1 := hf 1 _ rfl
  change DataW.trod enc Tryd.prog w base spare held n 22 (List.take (Tryd.prog.cellsOf 22) (List.drop 1 [a, b])) = some y1 at g1
  rw [cSInt] at g1
  simp only [List.drop_zero, List.take_succ_cons, List.take_zero, List.drop_succ_cons] at g0 g1
  obtain ⟨k, hk, wk⟩ := open_intE g0
  simp only [List.cons.injEq, and_true] at hk
  subst hk
  obtain ⟨xs, r1, r2⟩ := open_intsP g1
  have hb := bulk_partP (d := x.1) (by rw [hx]) (show y1 ∈ [y0, y1] by simp)
  refine ⟨⟨k, xs⟩, b, rfl, ⟨wk, fun i hi => ?_, ?_⟩, r1⟩
  · obtain ⟨q, hq⟩ := List.getElem?_of_mem hi
    obtain ⟨A, c, rfl⟩ := r1.form
    obtain ⟨_, _, _, _, _, _, ⟨rfl, lok⟩, _⟩ := r1.at hq
    exact lok
  · show xs.length ≤ _
    omega
theorem open_chgP (h : DataW.trod enc Tryd.prog w base spare held fuel 36 cs = some x) (hN : Rows.uptoBulk x.1 ≤ 1048576) : ∃ a : Bool × Ac, EChg (fun b => b < w.heap.size) w cs a := by
  obtain ⟨ys, n, _, hx, hlen, hyl, hf⟩ := DataW.trod_struct Tryd.underlying36 h
  rw [cChgP] at hlen
  obtain ⟨a, b, c, rfl⟩ := list_threeP hlen
  obtain ⟨y0, y1, rfl⟩ := list_twoA (show ys.length = 2 from hyl)
  have g0 := hf 0 _ rfl
  change DataW.trod enc Tryd.prog w base spare held n 4 (List.take (Tryd.prog.cellsOf 4) (List.drop 0 [a, b, c])) = some y0 at g0
  rw [cBoolP] at g0
  have g1 := hf 1 _ rfl
  change DataW.trod enc Tryd.prog w base spare held n 30 (List.take (Tryd.prog.cellsOf 30) (List.drop 1 [a, b, c])) = some y1 at g1
  rw [cActR] at g1
  simp only [List.drop_zero, List.take_succ_cons, List.take_zero, List.drop_succ_cons] at g0 g1
  obtain ⟨came, hv, _⟩ := DataW.trod_bool Tryd.underlying4 g0
  simp only [List.cons.injEq, and_true] at hv
  subst hv
  have hb := bulk_partP (d := x.1) (by rw [hx]) (show y1 ∈ [y0, y1] by simp)
  obtain ⟨ac, sv, he, hok, hr⟩ := open_actP g1 (by omega)
  simp only [List.cons.injEq, and_true] at he
  obtain ⟨rfl, rfl⟩ := he
  exact ⟨(came, ac), _, rfl, hok, hr⟩
theorem open_chgsP (h : DataW.trod enc Tryd.prog w base spare held fuel 28 [v] = some x) (hN : Rows.uptoBulk x.1 ≤ 1048576) : ∃ xs : List (Bool × Ac), RSl (fun b => b < w.heap.size) w 3 (EChg (fun b => b < w.heap.size) w) v xs ∧ xs.length ≤ Rows.uptoBulk x.1 := by
  obtain ⟨xs, h1, h2, _⟩ := open_rslW (E := EChg (fun b => b < w.heap.size) w) 1048576 (fun _ => 0) Tryd.underlying28 cChgP (by decide) (fun _ _ _ h hb => by
    obtain ⟨n, hn⟩ := open_chgP h hb
    exact ⟨n, hn, Nat.zero_le _⟩) h hN
  exact ⟨xs, h1, h2⟩
theorem open_opP (h : DataW.trod enc Tryd.prog w base spare held fuel 50 cs = some x) (hN : Rows.uptoBulk x.1 ≤ 1048576) : ∃ o : OpP, EOpP (fun b => b < w.heap.size) w cs o ∧ o.cl.length ≤ Rows.uptoBulk x.1 := by
  obtain ⟨ys, n, _, hx, hlen, hyl, hf⟩ := DataW.trod_struct Tryd.underlying50 h
  rw [cOpP] at hlen
  obtain ⟨a, b, c, d, e, rfl⟩ := list_fiveP hlen
  obtain ⟨y0, y1, y2, y3, rfl⟩ := list_fourP (show ys.length = 4 from hyl)
  have g0 := hf 0 _ rfl
  change DataW.trod enc Tryd.prog w base spare held n 3 (List.take (Tryd.prog.cellsOf 3) (List.drop 0 [a, b, c, d, e])) = some y0 at g0
  rw [cIntR] at g0
  have g1 := hf 1 _ rfl
  change DataW.trod enc Tryd.prog w base spare held n 28 (List.take (Tryd.prog.cellsOf 28) (List.drop 1 [a, b, c, d, e])) = some y1 at g1
  rw [cSChgP] at g1
  have g2 := hf 2 _ rfl
  change DataW.trod enc Tryd.prog w base spare held n 30 (List.take (Tryd.prog.cellsOf 30) (List.drop 2 [a, b, c, d, e])) = some y2 at g2
  rw [cActR] at g2
  have g3 := hf 3 _ rfl
  change DataW.trod enc Tryd.prog w base spare held n 3 (List.take (Tryd.prog.cellsOf 3) (List.drop 4 [a, b, c, d, e])) = some y3 at g3
  rw [cIntR] at g3
  simp only [List.drop_zero, List.take_succ_cons, List.take_zero, List.drop_succ_cons] at g0 g1 g2 g3
  have hb1 := bulk_partP (d := x.1) (by rw [hx]) (show y1 ∈ [y0, y1, y2, y3] by simp)
  have hb2 := bulk_partP (d := x.1) (by rw [hx]) (show y2 ∈ [y0, y1, y2, y3] by simp)
  obtain ⟨k0, hk0, wk0⟩ := open_intE g0
  obtain ⟨k3, hk3, wk3⟩ := open_intE g3
  obtain ⟨ac, sv, hac, hok, r⟩ := open_actP g2 (by omega)
  obtain ⟨cl, r1, r2⟩ := open_chgsP g1 (by omega)
  simp only [List.cons.injEq, and_true] at hk0 hk3 hac
  obtain ⟨hac, hsv⟩ := hac
  subst hk0 hk3 hac hsv
  exact ⟨⟨k0, cl, ac, k3⟩, ⟨_, _, rfl, r1, r, hok, wk3⟩, Nat.le_trans r2 hb1⟩
theorem open_opsP (h : DataW.trod enc Tryd.prog w base spare held fuel 43 [v] = some x) (hN : Rows.uptoBulk x.1 ≤ 1048576) : ∃ xs : List OpP, RSl (fun b => b < w.heap.size) w 5 (EOpP (fun b => b < w.heap.size) w) v xs ∧ xs.length ≤ Rows.uptoBulk x.1 ∧ (xs.map fun o => o.cl.length).sum ≤ Rows.uptoBulk x.1 :=
  open_rslW (E := EOpP (fun b => b < w.heap.size) w) 1048576 (fun o => o.cl.length) Tryd.underlying43 cOpP (by decide) (fun _ _ _ h hb => open_opP h hb) h hN
theorem open_cstP (h : DataW.trod enc Tryd.prog w base spare held fuel 62 cs = some x) : ∃ c : Cst, ECst cs c ∧ c.s.size ≤ maxLen := by
  obtain ⟨ys, n, _, hx, hlen, hyl, hf⟩ := DataW.trod_struct Tryd.underlying62 h
  rw [cCstP] at hlen
  obtain ⟨a, b, c, rfl⟩ := list_threeP hlen
  obtain ⟨y0, y1, y2, rfl⟩ := list_threeP (show ys.length = 3 from hyl)
  have g0 := hf 0 _ rfl
  change DataW.trod enc Tryd.prog w base spare held n 3 (List.take (Tryd.prog.cellsOf 3) (List.drop 0 [a, b, c])) = some y0 at g0
  rw [cIntR] at g0
  have g1 := hf 1 _ rfl
  change DataW.trod enc Tryd.prog w base spare held n 2 (List.take (Tryd.prog.cellsOf 2) (List.drop 1 [a, b, c])) = some y1 at g1
  rw [cI64P] at g1
  have g2 := hf 2 _ rfl
  change DataW.trod enc Tryd.prog w base spare held n 9 (List.take (Tryd.prog.cellsOf 9) (List.drop 2 [a, b, c])) = some y2 at g2
  rw [cStrP] at g2
  simp only [List.drop_zero, List.take_succ_cons, List.take_zero, List.drop_succ_cons] at g0 g1 g2
  obtain ⟨k0, hk0, _⟩ := open_intE g0
  obtain ⟨k1, hk1, _, _⟩ := DataW.trod_int Tryd.underlying2 g1
  obtain ⟨s, hs, _, ws⟩ := DataW.trod_string Tryd.underlying9 g2
  simp only [List.cons.injEq, and_true] at hk0 hk1 hs
  subst hk0 hk1 hs
  exact ⟨⟨k0, k1, s⟩, rfl, ws⟩
theorem open_cstsP (h : DataW.trod enc Tryd.prog w base spare held fuel 26 [v] = some x) : ∃ xs : List Cst, RSl (fun b => b < w.heap.size) w 3 ECst v xs ∧ xs.length ≤ Rows.uptoBulk x.1 ∧ ∀ c ∈ xs, c.s.size ≤ maxLen := by
  obtain ⟨xs, h1, h2, _⟩ := open_rslW (E := fun cs c => ECst cs c ∧ c.s.size ≤ maxLen) (Rows.uptoBulk x.1) (fun _ => 0) Tryd.underlying26 cCstP (by decide) (fun _ _ _ h _ => by
    obtain ⟨n, hn⟩ := open_cstP h
    exact ⟨n, hn, Nat.zero_le _⟩) h (Nat.le_refl _)
  refine ⟨xs, h1.kp (Kp.refl _ _) (fun _ _ h => h) (fun _ _ h => h.1), h2, fun c hc => ?_⟩
  obtain ⟨q, hq⟩ := List.getElem?_of_mem hc
  obtain ⟨A, cc, rfl⟩ := h1.form
  obtain ⟨_, _, _, _, _, _, ⟨_, hsz⟩, _⟩ := h1.at hq
  exact hsz
end
end Go.Proofs.YtjgigcnjgblekaaDoor
