/- The reference's Check: a plan is well formed if the rules read back compile to it. Chain and Kids, whatever the plan. The reference's Chain and Kids. -/
import Derived.Test.YtonkbjdeaneicaaDoorKpa23
import Derived.Test.YtonkbjdeaneicaaDoorKpa24
import Derived.Test.YtonkbjdeaneicaaDoorKpa29
import Derived.Test.YtonkbjdeaneicaaDoorKpa30
import Derived.Deep.RegionHeld3
import Derived.StillTailTactics
namespace Go.Proofs.YtonkbjdeaneicaaDoor.Pln
open Classical
theorem rules_none {al : List Shp} {ns : List Nd} (es : List Int) : es.foldl (rulesS al ns) none = none := by
  induction es with
  | nil => rfl
  | cons n r ih => exact ih
theorem rulesB_none {al : List Shp} {ns : List Nd} {es : List Int} {k : Nat} (h : (es.take k).foldl (rulesS al ns) (some []) = none) : rulesB al ns es = none := by
  unfold rulesB
  rw [fold_all (rulesS al ns) (some []) es k, h, rules_none]
theorem rulesS_some {al : List Shp} {ns : List Nd} {acc : List Rl} {e : Int} {r : Rl} (h : ruleB al ns e = some r) : rulesS al ns (some acc) e = some (acc ++ [r]) := by
  unfold rulesS; rw [h]
theorem rulesS_none {al : List Shp} {ns : List Nd} {acc : List Rl} {e : Int} (h : ruleB al ns e = none) : rulesS al ns (some acc) e = none := by
  unfold rulesS; rw [h]
end Go.Proofs.YtonkbjdeaneicaaDoor.Pln
namespace Go.Proofs.YtonkbjdeaneicaaDoor
open Go.RowKit Pln Classical Go.Maps

theorem rruleS {F : Nat → Prop} (W : World) (av nv ev : Value) (al : List Shp) (ns : List Nd) (es : List Int) (h : RPl F W av nv ev al ns es) (hS : plSm 1048576 al ns es) (e : Int) {r : Rl} (hr : ruleB al ns e = some r) :
    Calls Tryd.prog 54 #[.agg #[av, nv, ev], .int .i64 e] W fun en W' => ∃ a1 n1 c1 a2 n2 c2 a3 n3 c3, en = .returned (.tuple #[.agg #[.int .i64 0, .slice none 0 0, .slice a1 n1 c1, .slice a2 n2 c2, .slice a3 n3 c3, .slice none 0 0, .int .i64 0], .bool true]) ∧
      ERule (fun b => W.heap.size ≤ b) W' [.int .i64 0, .slice none 0 0, .slice a1 n1 c1, .slice a2 n2 c2, .slice a3 n3 c3, .slice none 0 0, .int .i64 0] r ∧ rlSm 1048576 r ∧ Below W.heap.size W W' := by
  refine (rruleW W av nv ev al ns es h hS e).mono ?_
  rintro en W' ⟨hb, a1, n1, c1, a2, n2, c2, a3, n3, c3, ⟨he, r', h1, h2, h3⟩ | ⟨he, h1⟩⟩
  · rw [hr] at h1
    obtain rfl := Option.some.inj h1
    exact ⟨a1, n1, c1, a2, n2, c2, a3, n3, c3, he, h2, h3, hb⟩
  · rw [hr] at h1; cases h1
theorem rruleN {F : Nat → Prop} (W : World) (av nv ev : Value) (al : List Shp) (ns : List Nd) (es : List Int) (h : RPl F W av nv ev al ns es) (hS : plSm 1048576 al ns es) (e : Int) (hr : ruleB al ns e = none) :
    Calls Tryd.prog 54 #[.agg #[av, nv, ev], .int .i64 e] W fun en W' => ∃ a1 n1 c1 a2 n2 c2 a3 n3 c3, en = .returned (.tuple #[.agg #[.int .i64 0, .slice none 0 0, .slice a1 n1 c1, .slice a2 n2 c2, .slice a3 n3 c3, .slice none 0 0, .int .i64 0], .bool false]) ∧ Below W.heap.size W W' := by
  refine (rruleW W av nv ev al ns es h hS e).mono ?_
  rintro en W' ⟨hb, a1, n1, c1, a2, n2, c2, a3, n3, c3, ⟨he, r', h1, h2, h3⟩ | ⟨he, h1⟩⟩
  · rw [hr] at h1; cases h1
  · exact ⟨a1, n1, c1, a2, n2, c2, a3, n3, c3, he, hb⟩

set_option maxRecDepth 200000 in
set_option maxHeartbeats 8000000 in
theorem rcheckW {F : Nat → Prop} (W : World) (av nv ev : Value) (al : List Shp) (ns : List Nd) (es : List Int) (h : RPl F W av nv ev al ns es) (hS : plSm 1048576 al ns es) :
    Calls Tryd.prog 29 #[.agg #[av, nv, ev]] W fun e W' => e = .returned (.int .i64 (if refP al ns es then 0 else 2)) ∧ Below W.heap.size W W' := by
  obtain ⟨R, hR⟩ : ∃ R : Int, (if refP al ns es then 0 else 2) = R := ⟨_, rfl⟩
  rw [hR]
  have NO := Lib.hid (show ¬ refP al ns es → R = 2 from fun h => by rw [← hR, if_neg h])
  have YES := Lib.hid (show refP al ns es → R = 0 from fun h => by rw [← hR, if_pos h])
  clear hR
  have HP := Lib.hid h
  have SM := Lib.hid hS
  obtain ⟨Aa, ca, rfl⟩ := h.al.form
  obtain ⟨An, cn, rfl⟩ := h.ns.form
  obtain ⟨Ae, ce, rfl⟩ := h.en.form
  clear h hS
  go_enter Tryd.func29, Tryd.ntmps29
  by_cases hn0 : ns = []
  · have HF := Lib.hid (NO.out (fun h => h.1 hn0))
    subst hn0
    go_wp2
    go_ret
    exact ⟨by rw [HF.out]; rfl, (Below.refl _ _).alloc (Nat.le_refl _) _⟩
  have HN0 := Lib.hid hn0
  have hnl : 0 < ns.length := by cases ns with | nil => exact absurd rfl hn0 | cons a l => simp
  have hnb : ((ns.length : Int) == 0) = false := by simp; omega
  clear hn0
  go_wp2
  go_loopw [3, 4] (fun mv iv wr => ∃ (k : Nat) (v : Value) (acc : List Rl), iv = .int .i64 k ∧ mv = v ∧ k ≤ es.length ∧ acc.length = k ∧ (es.take k).foldl (rulesS al ns) (some []) = some acc ∧ (∀ r ∈ acc, rlSm 1048576 r) ∧ OwnL (W.heap.size + 1) wr 85 cdRl v acc ∧
    Below (W.heap.size + 1) (W.alloc (.cells #[.slice Aa al.length ca, .slice An ns.length cn, .slice Ae es.length ce] 26)) wr) (fun _ iv _ => es.length - (intOf iv).toNat)
  case atStart => exact ⟨0, _, [], rfl, rfl, Nat.zero_le _, rfl, rfl, by simp, OwnL.nil, Below.refl _ _⟩
  case round =>
    obtain ⟨k, v, acc, rfl, rfl, hk, hal, hf, hsm, hO, hb⟩ := hrel
    obtain ⟨ma, mc, hmf⟩ := hO.form
    subst hmf
    have hsz : W.heap.size + 1 ≤ wr.heap.size := by have := hb.size; simp at this; omega
    have y2 := box_cellL hb 2 rfl
    have he20 := SM.out.en
    have HAL := Lib.hid hal
    have hac : acc.length ≤ 1048576 := by omega
    clear hal
    by_cases hkn : k < es.length
    · obtain ⟨e, he⟩ : ∃ e, es[k]? = some e := ⟨_, List.getElem?_eq_getElem hkn⟩
      obtain ⟨eb, eo, rfl, -, heb, ecs, ⟨rfl, -⟩, hec⟩ := HP.out.en.at he
      have KP := Lib.hid (fun (w' : World) (hW : Below wr.heap.size wr w') => (show w'.cell? ⟨W.heap.size, 0, none⟩ = some (.slice Aa al.length ca) ∧ w'.cell? ⟨W.heap.size, 1, none⟩ = some (.slice An ns.length cn) ∧ w'.cell? ⟨W.heap.size, 2, none⟩ = some (.slice (some ⟨eb, eo, none⟩) es.length ce) ∧ w'.cell? ⟨eb, eo + k, none⟩ = some (.int .i64 e) from by
        have h1 := box_step hb hW
        have d0 := ((box_below h1).cell (p := ⟨eb, eo + k * 1 + 0, none⟩) heb).trans (hec 0 _ rfl)
        simp only [Nat.mul_one, Nat.add_zero] at d0
        exact ⟨box_cellL h1 0 rfl, box_cellL h1 1 rfl, box_cellL h1 2 rfl, d0⟩))
      have e1 : (0 : Int) ≤ (k : Int) := by omega
      have e2 : (k : Int) < (es.length : Int) := by omega
      have hS0 := KP.out _ (Below.refl wr.heap.size wr).drew
      have B1 := Lib.hid (((Below.refl wr.heap.size wr).alloc (Nat.le_refl _) (.cells #[.int .i64 0, .slice none 0 0, .slice none 0 0, .slice none 0 0, .slice none 0 0, .slice none 0 0, .int .i64 0] 85)).drew)
      have hz := heap_alloc_new wr (.cells #[.int .i64 0, .slice none 0 0, .slice none 0 0, .slice none 0 0, .slice none 0 0, .slice none 0 0, .int .i64 0] 85)
      have HZ := Lib.hid hz
      clear hz
      have HB := Lib.hid hb
      have HO := Lib.hid hO
      have HK := Lib.hid hkn
      have HSM := Lib.hid hsm
      have HF := Lib.hid (show (es.take (k + 1)).foldl (rulesS al ns) (some []) = rulesS al ns (some acc) e by rw [fold_next (rulesS al ns) (some []) he, hf])
      cases hr : ruleB al ns e with
      | none =>
        have HX := Lib.hid (NO.out (fun h => by
          obtain ⟨_, rs, h1, _⟩ := h
          rw [rulesB_none (k := k + 1) (by rw [HF.out]; exact rulesS_none hr)] at h1
          cases h1))
        have CR := Lib.hid (fun (Wx : World) (hb2 : Below wr.heap.size wr Wx) => rruleN Wx _ _ _ al ns es (HP.out.below (box_below (box_step HB.out hb2))) SM.out e hr)
        clear hr hec he hkn hO hb hsm hf
        go_wp2_with fail
        go_region_held3 (fun w' : World => w'.cell? ⟨W.heap.size, 0, none⟩ = some (.slice Aa al.length ca) ∧ w'.cell? ⟨W.heap.size, 1, none⟩ = some (.slice An ns.length cn) ∧ w'.cell? ⟨W.heap.size, 2, none⟩ = some (.slice (some ⟨eb, eo, none⟩) es.length ce) ∧ w'.cell? ⟨eb, eo + k, none⟩ = some (.int .i64 e))
          (first | with_reducible exact hS0 | with_reducible exact KP.out _ B1.out | with_reducible exact KP.out _ B3.out | with_reducible exact KP.out _ B9.out | with_reducible exact KP.out _ (B3.out.alloc B3.out.size _))
          (first
            | (go_at_call 54; refine (CR.out _ B1.out).mono ?_; rintro e' w3 ⟨a1, n1, c1, a2, n2, c2, a3, n3, c3, rfl, hb3⟩; have eb := (hb3.block wr.heap.size (by simp)).trans HZ.out; have EB := Lib.hid eb; have z0 := rboxL eb 0 rfl; have z1 := rboxL eb 1 rfl; have z2 := rboxL eb 2 rfl; have z3 := rboxL eb 3 rfl; have z4 := rboxL eb 4 rfl; have z5 := rboxL eb 5 rfl; have z6 := rboxL eb 6 rfl; have zf : ∀ o, w3.frozen? ⟨wr.heap.size, o, none⟩ = false := (fun o => by simp [World.frozen?, eb]); have zl := lt_of_heap eb; have B3 := Lib.hid (B1.out.trans (hb3.mono (show wr.heap.size ≤ _ by simp))); have B9 := Lib.hid (B3.out.trans ((turns7 w3 wr.heap.size (.int .i64 0) (.slice none 0 0) (.slice a1 n1 c1) (.slice a2 n2 c2) (.slice a3 n3 c3) (.slice none 0 0) (.int .i64 0)).below B3.out.size (fun x hx => by rw [List.mem_singleton.1 hx]; exact Nat.le_refl _))); clear hb3 eb)
            | (go_at_call 54; refine (CR.out _ (Below.refl wr.heap.size wr).drew).mono ?_; rintro e' w3 ⟨a1, n1, c1, a2, n2, c2, a3, n3, c3, rfl, hb3⟩; have B3 := Lib.hid ((Below.refl wr.heap.size wr).drew.trans (hb3.mono (show wr.heap.size ≤ wr.drew.heap.size from Nat.le_refl _))); clear hb3))
        all_goals (first | have HD4 := Lib.hid (box_below (box_step HB.out B9.out)) | have HD4 := Lib.hid (box_below (box_step HB.out (B3.out.alloc B3.out.size (.cells #[.int .i64 0, .slice none 0 0, .slice a1 n1 c1, .slice a2 n2 c2, .slice a3 n3 c3, .slice none 0 0, .int .i64 0] 85)))))
        all_goals clear hS0 CR
        all_goals go_wp2
        all_goals go_ret
        all_goals exact ⟨by rw [HX.out]; rfl, HD4.out⟩
      | some r =>
        have HF2 := Lib.hid (show (es.take (k + 1)).foldl (rulesS al ns) (some []) = some (acc ++ [r]) by rw [HF.out]; exact rulesS_some hr)
        have CR := Lib.hid (fun (Wx : World) (hb2 : Below wr.heap.size wr Wx) => rruleS Wx _ _ _ al ns es (HP.out.below (box_below (box_step HB.out hb2))) SM.out e hr)
        clear hr hec he hkn hO hb hsm hf
        go_wp2_with fail
        go_region_held3 (fun w' : World => w'.cell? ⟨W.heap.size, 0, none⟩ = some (.slice Aa al.length ca) ∧ w'.cell? ⟨W.heap.size, 1, none⟩ = some (.slice An ns.length cn) ∧ w'.cell? ⟨W.heap.size, 2, none⟩ = some (.slice (some ⟨eb, eo, none⟩) es.length ce) ∧ w'.cell? ⟨eb, eo + k, none⟩ = some (.int .i64 e))
          (first | with_reducible exact hS0 | with_reducible exact KP.out _ B1.out | with_reducible exact KP.out _ B3.out | with_reducible exact KP.out _ B9.out | with_reducible exact KP.out _ (B3.out.alloc B3.out.size _))
          (first
            | (go_at_call 54; refine (CR.out _ B1.out).mono ?_; rintro e' w3 ⟨a1, n1, c1, a2, n2, c2, a3, n3, c3, rfl, hER, hSR, hb3⟩; have HER := Lib.hid hER; have HSR := Lib.hid hSR; clear hER hSR; have eb := (hb3.block wr.heap.size (by simp)).trans HZ.out; have EB := Lib.hid eb; have z0 := rboxL eb 0 rfl; have z1 := rboxL eb 1 rfl; have z2 := rboxL eb 2 rfl; have z3 := rboxL eb 3 rfl; have z4 := rboxL eb 4 rfl; have z5 := rboxL eb 5 rfl; have z6 := rboxL eb 6 rfl; have zf : ∀ o, w3.frozen? ⟨wr.heap.size, o, none⟩ = false := (fun o => by simp [World.frozen?, eb]); have zl := lt_of_heap eb; have B3 := Lib.hid (B1.out.trans (hb3.mono (show wr.heap.size ≤ _ by simp))); have B9 := Lib.hid (B3.out.trans ((turns7 w3 wr.heap.size (.int .i64 0) (.slice none 0 0) (.slice a1 n1 c1) (.slice a2 n2 c2) (.slice a3 n3 c3) (.slice none 0 0) (.int .i64 0)).below B3.out.size (fun x hx => by rw [List.mem_singleton.1 hx]; exact Nat.le_refl _))); clear hb3 eb)
            | (go_at_call 54; refine (CR.out _ (Below.refl wr.heap.size wr).drew).mono ?_; rintro e' w3 ⟨a1, n1, c1, a2, n2, c2, a3, n3, c3, rfl, hER, hSR, hb3⟩; have HER := Lib.hid hER; have HSR := Lib.hid hSR; clear hER hSR; have B3 := Lib.hid ((Below.refl wr.heap.size wr).drew.trans (hb3.mono (show wr.heap.size ≤ wr.drew.heap.size from Nat.le_refl _))); clear hb3))
        · obtain ⟨wn, hwn⟩ : ∃ wn, wn = w3.alloc (.cells #[.int .i64 0, .slice none 0 0, .slice a1 n1 c1, .slice a2 n2 c2, .slice a3 n3 c3, .slice none 0 0, .int .i64 0] 85) := ⟨_, rfl⟩
          have hbn : Below wr.heap.size wr wn := by rw [hwn]; exact B3.out.alloc B3.out.size _
          have hrow : wn.heap[w3.heap.size]? = some (.cells #[.int .i64 0, .slice none 0 0, .slice a1 n1 c1, .slice a2 n2 c2, .slice a3 n3 c3, .slice none 0 0, .int .i64 0] 85 (0, 0)) := by rw [hwn]; exact heap_alloc_new w3 _
          have hEn : ERule (New (W.heap.size + 1) (.slice ma acc.length mc)) wn [.int .i64 0, .slice none 0 0, .slice a1 n1 c1, .slice a2 n2 c2, .slice a3 n3 c3, .slice none 0 0, .int .i64 0] r := by
            rw [hwn]
            exact HER.out.kp (Kp.of_below ((Below.refl _ _).alloc (Nat.le_refl _) _)) (fun b _ hb => ⟨by simp at hb; omega, fun e => by have := (HO.out.block e).2; simp at hb; omega⟩)
          have HEN := Lib.hid hEn
          have HBN := Lib.hid hbn
          have q0 := rboxL hrow 0 rfl
          have q1 := rboxL hrow 1 rfl
          have q2 := rboxL hrow 2 rfl
          have q3 := rboxL hrow 3 rfl
          have q4 := rboxL hrow 4 rfl
          have q5 := rboxL hrow 5 rfl
          have q6 := rboxL hrow 6 rfl
          have hOn := HO.out.below hbn
          have HOn := Lib.hid hOn
          have hszn : W.heap.size + 1 ≤ wn.heap.size := Nat.le_trans hsz hbn.size
          have hwl := lt_of_heap hrow
          go_upto_region 8 with fail
          rw [← hwn]
          clear hwn hrow hEn hbn hOn hS0 CR HER B1 HZ B3
          go_wp2_with (at_builtin; refine wpList_append_L HOn.out rfl (.tmp 32) (.tmp 34) 43 rfl Tryd.underlying43 infoRl rfl (by decide) rfl #[.int .i64 0, .slice none 0 0, .slice a1 n1 c1, .slice a2 n2 c2, .slice a3 n3 c3, .slice none 0 0, .int .i64 0] _ rfl rfl (x := r) HEN.out (by omega) (by decide) hszn ?_; intro g cap w9 hown9 ht9 hat9 hlt9; have N1 := Lib.hid hown9; have N2 := Lib.hid ((box_step HB.out HBN.out).trans (ht9.below hszn (fun b hb => (HO.out.block (by simpa using hb)).1))); have N3 := Lib.hid ht9; clear hown9 ht9 hat9 hlt9)
          exact ⟨⟨k + 1, _, acc ++ [r], by go_num, rfl, HK.out, by rw [List.length_append, HAL.out]; rfl, HF2.out, fun x hx => by (rcases List.mem_append.1 hx with hx | hx; exact HSM.out x hx; rw [List.mem_singleton.1 hx]; exact HSR.out), N1.out, N2.out⟩, by simp [intOf]; have := HK.out; omega⟩
        · obtain ⟨wn, hwn⟩ : ∃ wn, wn = (((((((w3.setCell ⟨wr.heap.size, 0, none⟩ (.int .i64 0)).setCell ⟨wr.heap.size, 1, none⟩ (.slice none 0 0)).setCell ⟨wr.heap.size, 2, none⟩ (.slice a1 n1 c1)).setCell ⟨wr.heap.size, 3, none⟩ (.slice a2 n2 c2)).setCell ⟨wr.heap.size, 4, none⟩ (.slice a3 n3 c3)).setCell ⟨wr.heap.size, 5, none⟩ (.slice none 0 0)).setCell ⟨wr.heap.size, 6, none⟩ (.int .i64 0)) := ⟨_, rfl⟩
          have hbn : Below wr.heap.size wr wn := by rw [hwn]; exact B9.out
          have hrow : wn.heap[wr.heap.size]? = some (.cells #[.int .i64 0, .slice none 0 0, .slice a1 n1 c1, .slice a2 n2 c2, .slice a3 n3 c3, .slice none 0 0, .int .i64 0] 85 (0, 0)) := by rw [hwn]; exact store7 EB.out _ _ _ _ _ _ _
          have hEn : ERule (New (W.heap.size + 1) (.slice ma acc.length mc)) wn [.int .i64 0, .slice none 0 0, .slice a1 n1 c1, .slice a2 n2 c2, .slice a3 n3 c3, .slice none 0 0, .int .i64 0] r := by
            rw [hwn]
            exact HER.out.kp (Kp.of_turns (turns7 w3 wr.heap.size _ _ _ _ _ _ _) (fun x hx hf => by rw [List.mem_singleton.1 hx] at hf; simp at hf; omega)) (fun b _ hb => ⟨by simp at hb; omega, fun e => by have := (HO.out.block e).2; simp at hb; omega⟩)
          have HEN := Lib.hid hEn
          have HBN := Lib.hid hbn
          have q0 := rboxL hrow 0 rfl
          have q1 := rboxL hrow 1 rfl
          have q2 := rboxL hrow 2 rfl
          have q3 := rboxL hrow 3 rfl
          have q4 := rboxL hrow 4 rfl
          have q5 := rboxL hrow 5 rfl
          have q6 := rboxL hrow 6 rfl
          have hOn := HO.out.below hbn
          have HOn := Lib.hid hOn
          have hszn : W.heap.size + 1 ≤ wn.heap.size := Nat.le_trans hsz hbn.size
          have hwl := lt_of_heap hrow
          go_upto_region 8 with fail
          rw [← hwn]
          clear hwn hrow hEn hbn hOn hS0 CR HER B1 HZ z0 z1 z2 z3 z4 z5 z6 zf zl EB B3 B9
          go_wp2_with (at_builtin; refine wpList_append_L HOn.out rfl (.tmp 32) (.tmp 34) 43 rfl Tryd.underlying43 infoRl rfl (by decide) rfl #[.int .i64 0, .slice none 0 0, .slice a1 n1 c1, .slice a2 n2 c2, .slice a3 n3 c3, .slice none 0 0, .int .i64 0] _ rfl rfl (x := r) HEN.out (by omega) (by decide) hszn ?_; intro g cap w9 hown9 ht9 hat9 hlt9; have N1 := Lib.hid hown9; have N2 := Lib.hid ((box_step HB.out HBN.out).trans (ht9.below hszn (fun b hb => (HO.out.block (by simpa using hb)).1))); have N3 := Lib.hid ht9; clear hown9 ht9 hat9 hlt9)
          exact ⟨⟨k + 1, _, acc ++ [r], by go_num, rfl, HK.out, by rw [List.length_append, HAL.out]; rfl, HF2.out, fun x hx => by (rcases List.mem_append.1 hx with hx | hx; exact HSM.out x hx; rw [List.mem_singleton.1 hx]; exact HSR.out), N1.out, N2.out⟩, by simp [intOf]; have := HK.out; omega⟩
    · obtain rfl : k = es.length := by omega
      rw [List.take_length] at hf
      have hf' : rulesB al ns es = some acc := hf
      have HF := Lib.hid hf'
      have HSM := Lib.hid hsm
      have HB := Lib.hid hb
      have hbw := box_below hb
      have CC := Lib.hid (rcompileW (.slice ma acc.length mc) acc wr (RRules.kp (F' := fun _ => True) (hO.rsl' (F := fun _ => True) (fun _ _ _ => trivial)) (Kp.refl _ _) (fun _ _ h => h)) ⟨by omega, hsm⟩)
      clear hf hf' hsm hb hO hkn
      go_wp2_with fail
      refine CC.out.mono ?_
      rintro e w5 ⟨hb5, hres⟩
      have HB5 := Lib.hid (box_step HB.out hb5)
      have y0 := box_cellL HB5.out 0 rfl
      have y1 := box_cellL HB5.out 1 rfl
      have y2 := box_cellL HB5.out 2 rfl
      have hl5 : W.heap.size < w5.heap.size := by have := HB5.out.size; simp at this; omega
      clear hb5 CC
      rcases hres with ⟨hall, qa, qn, qe, rfl, hq⟩ | ⟨⟨r, hr1, hr2⟩, rfl⟩
      · obtain ⟨ql, hql⟩ : ∃ ql, ((compF acc).2.map fun (e : Nat) => (e : Int)) = ql := ⟨_, rfl⟩
        rw [hql] at hq
        have HQL := Lib.hid hql
        clear hql
        obtain ⟨A1, C1, rfl⟩ := hq.al.form
        obtain ⟨A2, C2, rfl⟩ := hq.ns.form
        obtain ⟨A3, C3, rfl⟩ := hq.en.form
        obtain ⟨w6, hw6⟩ : ∃ w6, w6 = w5.alloc (.cells #[.slice A1 (compF acc).1.al.length C1, .slice A2 (compF acc).1.ns.length C2, .slice A3 ql.length C3] 26) := ⟨_, rfl⟩
        have hb6 : Below (w5.heap.size + 1) (w5.alloc (.cells #[.slice A1 (compF acc).1.al.length C1, .slice A2 (compF acc).1.ns.length C2, .slice A3 ql.length C3] 26)) w6 := by rw [hw6]; exact Below.refl _ _
        have v0 := box_cellL hb6 0 rfl
        have v1 := box_cellL hb6 1 rfl
        have v2 := box_cellL hb6 2 rfl
        have y0 := box_cellL (box_step HB5.out (box_below hb6)) 0 rfl
        have y1 := box_cellL (box_step HB5.out (box_below hb6)) 1 rfl
        have y2 := box_cellL (box_step HB5.out (box_below hb6)) 2 rfl
        have hcl := comp_len_take (rs := acc) (k := acc.length) (by rw [List.take_length]; exact hall) (Nat.le_refl _)
        rw [List.take_length] at hcl
        have hs1 := SM.out.al.1
        have hs2 := SM.out.ns.1
        have CE := Lib.hid (requalW w6 _ _ _ _ _ _ al (compF acc).1.al ns (compF acc).1.ns es _ (HP.out.below (box_below (box_step HB5.out (box_below hb6)))) (hq.below (box_below hb6)) (by omega) (by omega) (by omega) (by omega))
        have HB6 := Lib.hid (box_below (box_step HB5.out (box_below hb6)))
        have HALL := Lib.hid hall
        clear hq hb6 hall hcl
        go_upto_region 12 with fail
        rw [← hw6]
        clear hw6
        by_cases heq : al = (compF acc).1.al ∧ ns = (compF acc).1.ns ∧ es = ql
        · rw [decide_eq_true heq] at CE
          have HX := Lib.hid (YES.out ⟨HN0.out, acc, HF.out, HALL.out, by rw [heq.1, heq.2.1], by rw [HQL.out]; exact heq.2.2.symm⟩)
          clear heq
          go_wp2_with fail
          refine CE.out.mono ?_
          rintro e w7 ⟨rfl, hb7⟩
          have HB7 := Lib.hid (HB6.out.trans (hb7.mono HB6.out.size))
          clear hb7 CE
          go_wp2
          go_ret
          exact ⟨by rw [HX.out]; rfl, HB7.out⟩
        · rw [decide_eq_false heq] at CE
          have HX := Lib.hid (NO.out (fun h => heq (by
            obtain ⟨_, rs, h1, h2, h3, h4⟩ := h
            rw [HF.out] at h1
            obtain rfl := Option.some.inj h1
            rw [h3]
            exact ⟨rfl, rfl, by rw [← HQL.out]; exact h4.symm⟩)))
          clear heq
          go_wp2_with fail
          refine CE.out.mono ?_
          rintro e w7 ⟨rfl, hb7⟩
          have HB7 := Lib.hid (HB6.out.trans (hb7.mono HB6.out.size))
          clear hb7 CE
          go_wp2
          go_ret
          exact ⟨by rw [HX.out]; rfl, HB7.out⟩
      · have HX := Lib.hid (NO.out (fun h => hr2 (by
          obtain ⟨_, rs, h1, h2, _⟩ := h
          rw [HF.out] at h1
          obtain rfl := Option.some.inj h1
          exact h2 r hr1)))
        clear hr1 hr2
        go_wp2
        go_ret
        exact ⟨by rw [HX.out]; rfl, (box_below HB5.out).alloc (by omega) _⟩
end Go.Proofs.YtonkbjdeaneicaaDoor

namespace Go.Proofs.YtonkbjdeaneicaaDoor.Pln
open Classical
theorem ends_range {ns : List Nd} {es : List Int} (h : endsP ns es) : ∀ x ∈ es, 0 ≤ x ∧ x < (ns.length : Int) := by
  have key : ∀ (es : List Int) (q q' : Nat), es.foldl (endE ns) (some q) = some q' → ∀ x ∈ es, 0 ≤ x ∧ x < (ns.length : Int) := by
    intro es
    induction es with
    | nil => intro _ _ _ x hx; cases hx
    | cons e r ih =>
      intro q q' h x hx
      rw [List.foldl_cons] at h
      cases hy : endE ns (some q) e with
      | none => rw [hy, endE_none] at h; cases h
      | some a =>
        rw [hy] at h
        rcases List.mem_cons.1 hx with rfl | hx
        · unfold endE at hy
          simp only at hy
          split at hy
          · rename_i hc; exact hc
          · cases hy
        · exact ih a q' h x hx
  exact key es _ _ h
/-- The nodes right below a node, among the first k. -/
noncomputable def kidAt (ns : List Nd) (node : Int) (i : Nat) : List Nat := match ns[i]? with
  | some n => if n.parent = node then [i] else []
  | none => []
noncomputable def kidsK (ns : List Nd) (node : Int) (k : Nat) : List Nat := (List.range k).flatMap (kidAt ns node)
theorem kidsK_succ (ns : List Nd) (node : Int) (k : Nat) : kidsK ns node (k + 1) = kidsK ns node k ++ kidAt ns node k := by
  unfold kidsK; rw [List.range_succ, List.flatMap_append]; simp
theorem kidAt_one (ns : List Nd) (node : Int) (i : Nat) : (kidAt ns node i).length ≤ 1 := by
  unfold kidAt
  split
  · split <;> simp
  · simp
theorem kidsK_le (ns : List Nd) (node : Int) : ∀ k, (kidsK ns node k).length ≤ k
  | 0 => by simp [kidsK]
  | k + 1 => by
    rw [kidsK_succ, List.length_append]
    have := kidsK_le ns node k
    have := kidAt_one ns node k
    omega
end Go.Proofs.YtonkbjdeaneicaaDoor.Pln
namespace Go.Proofs.YtonkbjdeaneicaaDoor
open Go.RowKit Pln Classical Go.Maps

section
variable {F : Nat → Prop} (W : World) (av nv ev : Value) (al : List Shp) (ns : List Nd) (es : List Int)
def ChainRes (k : Int) (e : Ending) (W' : World) : Prop :=
  Below W.heap.size W W' ∧ ((¬ (checkP al ns es ∧ 0 ≤ k ∧ k < (es.length : Int)) ∧ e = .returned (.tuple #[.slice none 0 0, .int .i64 2])) ∨
    (checkP al ns es ∧ ∃ (q : Nat) (x : Int) (v : Value), k = q ∧ es[q]? = some x ∧ e = .returned (.tuple #[v, .int .i64 0]) ∧ OwnI W' W.heap.size v (wayN ns x.toNat)))
def KidsRes (k : Int) (e : Ending) (W' : World) : Prop :=
  Below W.heap.size W W' ∧ ((¬ (checkP al ns es ∧ 0 ≤ k ∧ k < (ns.length : Int)) ∧ e = .returned (.tuple #[.slice none 0 0, .int .i64 2])) ∨
    (checkP al ns es ∧ 0 ≤ k ∧ k < (ns.length : Int) ∧ ∃ v : Value, e = .returned (.tuple #[v, .int .i64 0]) ∧ OwnI W' W.heap.size v (kidsK ns k ns.length)))
end
theorem ownI_weak {w : World} {base base' : Nat} {v : Value} {l : List Nat} (h : OwnI w base v l) (hb : base' ≤ base) : OwnI w base' v l :=
  ⟨h.1, h.2.imp id (fun ⟨g, cap, cur, h1, h2, r⟩ => ⟨g, cap, cur, h1, Nat.le_trans hb h2, r⟩)⟩

set_option maxRecDepth 200000 in
set_option maxHeartbeats 4000000 in
theorem chainW {F : Nat → Prop} (W : World) (av nv ev : Value) (al : List Shp) (ns : List Nd) (es : List Int) (hA : RSl F W 2 (EShp F W) av al) (hN : RSl F W 11 (ENode F W) nv ns) (hE : RSl F W 1 EInt ev es) (hm : ns.length ≤ 1000000000) (hml : ∀ n ∈ ns, n.new.length ≤ 1000000000) (k : Int) :
    Calls Tryd.prog 7 #[.agg #[av, nv, ev], .int .i64 k] W (ChainRes W al ns es k) := by
  have kpN := fun (Wx : World) (hb : Below W.heap.size W Wx) => RSl.kp (F' := F) (E' := ENode F Wx) hN (Kp.of_below hb) (fun _ _ h => h) (fun _ _ h => h.kp (Kp.of_below hb) (fun _ _ h => h))
  have hB0 : Below (W.heap.size + 1) (W.alloc (.cells #[av, nv, ev] 26)) (W.alloc (.cells #[av, nv, ev] 26)) := Below.refl _ _
  have CW := Lib.hid (checkW _ av nv ev al ns es (RSl.kp (F' := F) (E' := EShp F _) hA (Kp.of_below (box_below hB0)) (fun _ _ h => h) (fun _ _ h => h.kp (Kp.of_below (box_below hB0)) (fun _ _ h => h))) (kpN _ (box_below hB0)) (hE.keep (Kp.of_below (box_below hB0))) hm hml)
  have WW := Lib.hid (fun (Wx : World) (hb : Below W.heap.size W Wx) (hn : nodesP al ns) (x : Nat) (hx : x < ns.length) => wayW Wx av nv ev al ns (kpN Wx hb) (nodesP_par hn) x hx hm (Nat.le_trans (way_short hn hx) (by omega)))
  obtain ⟨Ae, ce, rfl⟩ := hE.form
  have hel := hE.len
  unfold maxLen at hel
  have y0 := box_cellL hB0 0 rfl
  have y1 := box_cellL hB0 1 rfl
  have y2 := box_cellL hB0 2 rfl
  have HB0 := Lib.hid hB0
  have HE := Lib.hid hE
  clear hB0 hA hN hE kpN
  go_enter Tryd.func7, Tryd.ntmps7
  go_wp2_with fail
  refine CW.out.mono ?_
  rintro e w2 ⟨rfl, hb2⟩
  have hB2 := box_step HB0.out hb2
  have y0 := box_cellL hB2 0 rfl
  have y1 := box_cellL hB2 1 rfl
  have y2 := box_cellL hB2 2 rfl
  have HB2 := Lib.hid hB2
  clear hb2 hB2 CW
  by_cases hc : checkP al ns es
  · rw [if_pos hc]
    by_cases h0 : 0 ≤ k
    · by_cases hk : k < (es.length : Int)
      · obtain ⟨q, rfl⟩ : ∃ q : Nat, k = (q : Int) := ⟨k.toNat, by omega⟩
        obtain ⟨x, hx⟩ : ∃ x, es[q]? = some x := ⟨_, List.getElem?_eq_getElem (by omega)⟩
        obtain ⟨x1, x2⟩ := ends_range hc.2.2 x (List.mem_of_getElem? hx)
        obtain ⟨xn, rfl⟩ : ∃ xn : Nat, x = (xn : Int) := ⟨x.toNat, by omega⟩
        obtain ⟨eb, eo, cs, rfl, ⟨rfl, -⟩, hcc⟩ := HE.out.rd hx
        have hBd := HB2.out.drew
        have c0 := hcc _ (box_below hBd) 0 _ rfl
        simp only [Nat.add_zero, Nat.mul_one] at c0
        have WC := Lib.hid (WW.out _ (box_below hBd) hc.2.1 xn (by omega))
        have hsz : W.heap.size ≤ w2.drew.heap.size := (box_below hBd).size
        have e1 : ¬ (q : Int) < 0 := by omega
        have e2 : ¬ (es.length : Int) ≤ (q : Int) := by omega
        have HC := Lib.hid hc
        have HX := Lib.hid hx
        have HBD := Lib.hid hBd
        clear hcc hx x1 x2 hc hBd
        go_wp2_with fail
        go_still_tail 6, (by kernel_rfl)
        change wpList _ _ _ _ _ w2.drew
        go_wp2_with fail
        refine WC.out.mono ?_
        rintro e w3 ⟨v, rfl, hO, hb3⟩
        have HB3 := Lib.hid (box_below (box_step HBD.out hb3))
        have HO := Lib.hid (ownI_weak hO (show W.heap.size ≤ w2.drew.heap.size + 1 by omega))
        clear hO hb3 WC
        go_wp2
        go_ret2
        refine ⟨HB3.out, .inr ⟨HC.out, q, _, v, rfl, HX.out, rfl, ?_⟩⟩
        rw [Int.toNat_natCast]
        exact HO.out
      · have e1 : ¬ k < 0 := by omega
        have e2 : (es.length : Int) ≤ k := by omega
        have HNO := Lib.hid (show ¬ (checkP al ns es ∧ 0 ≤ k ∧ k < (es.length : Int)) from fun h => hk h.2.2)
        clear hk hc
        go_wp2
        go_ret2
        exact ⟨box_below HB2.out, .inl ⟨HNO.out, rfl⟩⟩
    · have e1 : k < 0 := by omega
      have HNO := Lib.hid (show ¬ (checkP al ns es ∧ 0 ≤ k ∧ k < (es.length : Int)) from fun h => h0 h.2.1)
      clear h0 hc
      go_wp2
      go_ret2
      exact ⟨box_below HB2.out, .inl ⟨HNO.out, rfl⟩⟩
  · rw [if_neg hc]
    have HNO := Lib.hid (show ¬ (checkP al ns es ∧ 0 ≤ k ∧ k < (es.length : Int)) from fun h => hc h.1)
    clear hc
    go_wp2
    go_ret2
    exact ⟨box_below HB2.out, .inl ⟨HNO.out, rfl⟩⟩

set_option maxRecDepth 200000 in
set_option maxHeartbeats 4000000 in
theorem kidsW {F : Nat → Prop} (W : World) (av nv ev : Value) (al : List Shp) (ns : List Nd) (es : List Int) (hA : RSl F W 2 (EShp F W) av al) (hN : RSl F W 11 (ENode F W) nv ns) (hE : RSl F W 1 EInt ev es) (hm : ns.length ≤ 900000000) (hml : ∀ n ∈ ns, n.new.length ≤ 1000000000) (k : Int) :
    Calls Tryd.prog 8 #[.agg #[av, nv, ev], .int .i64 k] W (KidsRes W al ns es k) := by
  have hB0 : Below (W.heap.size + 1) (W.alloc (.cells #[av, nv, ev] 26)) (W.alloc (.cells #[av, nv, ev] 26)) := Below.refl _ _
  have CW := Lib.hid (checkW _ av nv ev al ns es (RSl.kp (F' := F) (E' := EShp F _) hA (Kp.of_below (box_below hB0)) (fun _ _ h => h) (fun _ _ h => h.kp (Kp.of_below (box_below hB0)) (fun _ _ h => h))) (RSl.kp (F' := F) (E' := ENode F _) hN (Kp.of_below (box_below hB0)) (fun _ _ h => h) (fun _ _ h => h.kp (Kp.of_below (box_below hB0)) (fun _ _ h => h))) (hE.keep (Kp.of_below (box_below hB0))) (by omega) hml)
  obtain ⟨An, cn, rfl⟩ := hN.form
  have y0 := box_cellL hB0 0 rfl
  have y1 := box_cellL hB0 1 rfl
  have y2 := box_cellL hB0 2 rfl
  have HB0 := Lib.hid hB0
  have HN := Lib.hid hN
  clear hB0 hA hN hE
  go_enter Tryd.func8, Tryd.ntmps8
  go_wp2_with fail
  refine CW.out.mono ?_
  rintro e w2 ⟨rfl, hb2⟩
  have hB2 := box_step HB0.out hb2
  have y0 := box_cellL hB2 0 rfl
  have y1 := box_cellL hB2 1 rfl
  have y2 := box_cellL hB2 2 rfl
  have HB2 := Lib.hid hB2
  clear hb2 hB2 CW
  by_cases hc : checkP al ns es
  · rw [if_pos hc]
    by_cases h0 : 0 ≤ k
    · by_cases hk : k < (ns.length : Int)
      · have e1 : ¬ k < 0 := by omega
        have e2 : ¬ (ns.length : Int) ≤ k := by omega
        have HC := Lib.hid hc
        clear hc
        go_wp2_with fail
        clear y0 y1 y2
        go_loopw [6, 26] (fun ov iv wr => ∃ (i : Nat) (v : Value), iv = .int .i64 i ∧ ov = v ∧ i ≤ ns.length ∧ OwnI wr (W.heap.size + 1) v (kidsK ns k i) ∧ Below (W.heap.size + 1) (W.alloc (.cells #[av, .slice An ns.length cn, ev] 26)) wr) (fun _ i _ => ns.length - (intOf i).toNat)
        case atStart => exact ⟨0, _, rfl, rfl, Nat.zero_le _, World.ownsRow_nil _ _ _ _, HB2.out⟩
        case round =>
          obtain ⟨i, v, rfl, rfl, hi, hO, hb⟩ := hrel
          have y1 := box_cellL hb 1 rfl
          by_cases hin : i < ns.length
          · obtain ⟨n, hn⟩ : ∃ n, ns[i]? = some n := ⟨_, List.getElem?_eq_getElem hin⟩
            obtain ⟨nb, no, ncs, rfl, ⟨lv, mv, hE⟩, hcc⟩ := HN.out.rd hn
            have hcs := hE.cells
            subst hcs
            have cc := hcc _ (box_below hb)
            have c0 := cc 0 _ rfl
            have c1 := cc 1 _ rfl
            have c2 := cc 2 _ rfl
            have c3 := cc 3 _ rfl
            have c4 := cc 4 _ rfl
            have c5 := cc 5 _ rfl
            have c6 := cc 6 _ rfl
            have c7 := cc 7 _ rfl
            have c8 := cc 8 _ rfl
            have c9 := cc 9 _ rfl
            have c10 := cc 10 _ rfl
            simp only [Nat.add_zero] at c0
            have e3 : (0 : Int) ≤ (i : Int) := by omega
            have e4 : (i : Int) < (ns.length : Int) := by omega
            obtain ⟨wa, hwa⟩ : ∃ wa, wa = wr.alloc (.cells #[.int .i64 n.kind, .int .i64 n.parent, .int .i64 n.alpha, lv, mv, .int .i64 n.test.op, .bool n.test.l.v, .int .i64 n.test.l.n, .bool n.test.r.v, .int .i64 n.test.r.n, .int .i64 n.width] 40) := ⟨_, rfl⟩
            obtain ⟨Bl, dl, rfl⟩ := hE.links.form
            obtain ⟨Bm, dm, rfl⟩ := hE.new.form
            have hba : Below wr.heap.size wr wa := by rw [hwa]; exact (Below.refl _ _).alloc (Nat.le_refl _) _
            have hrow : wa.heap[wr.heap.size]? = some (.cells #[.int .i64 n.kind, .int .i64 n.parent, .int .i64 n.alpha, .slice Bl n.links.length dl, .slice Bm n.new.length dm, .int .i64 n.test.op, .bool n.test.l.v, .int .i64 n.test.l.n, .bool n.test.r.v, .int .i64 n.test.r.n, .int .i64 n.width] 40 (0, 0)) := by rw [hwa]; exact heap_alloc_new wr _
            have z1 := rboxL hrow 1 rfl
            have HBA := Lib.hid (box_step hb hba)
            have hOa := hO.step hba
            have HI := Lib.hid hin
            have hkl := kidsK_le ns k i
            have hkn := kidsK_succ ns k i
            have hka : kidAt ns k i = if n.parent = k then [i] else [] := by unfold kidAt; rw [hn]
            have hsz : W.heap.size + 1 ≤ wa.heap.size := by have := HBA.out.size; simp at this; omega
            clear hcc cc hE hn hin hrow hb hO hba
            go_upto_region 7 with fail
            rw [← hwa]
            clear hwa c0 c1 c2 c3 c4 c5 c6 c7 c8 c9 c10 y1
            by_cases hpk : n.parent = k
            · rw [if_pos hpk] at hka
              rw [hka] at hkn
              rw [hpk] at z1
              have O1 := Lib.hid (ownI_one (w := wa) (base := W.heap.size + 1) (k := i) hsz)
              have O2 := Lib.hid (hOa.below ((Below.refl _ _).alloc (Nat.le_refl _) (.cells #[.int .i64 i] 3)))
              have STEP := Lib.hid (show ∀ w', (wa.alloc (.cells #[.int .i64 (i : Int)] 3)).grownBy w' u6.ownBlock → Below (W.heap.size + 1) (W.alloc (.cells #[av, .slice (some ⟨nb, no, none⟩) ns.length cn, ev] 26)) w' from fun w' hgr =>
                HBA.out.trans (((Turns.alloc (Turns.refl _ wa) (.cells #[.int .i64 (i : Int)] 3)).trans (Turns.of_grown hgr) (fun x hx => .inl hx)).below (by omega) (fun x hx => by
                  simp only [Option.mem_toList] at hx
                  exact (ownBlock_cells hOa hx).1)))
              have HKN := Lib.hid hkn
              have hsz2 : W.heap.size + 1 ≤ (wa.alloc (.cells #[.int .i64 (i : Int)] 3)).heap.size := by simp; omega
              clear hkn hka hOa hpk
              go_wp2_with (at_builtin; refine wpList_append_I rfl (.tmp 35) (.tmp 37) rfl (W.heap.size + 1) (W.heap.size + 1) _ _ (kidsK ns k i) [i] rfl O2.out rfl O1.out (by simp; omega) hsz2 ?_; intro v' w' hw1 hw2; have HB9 := Lib.hid (STEP.out w' hw2); have HO9 := Lib.hid hw1; clear hw1 hw2)
              rw [← HKN.out] at HO9
              exact ⟨⟨i + 1, v', by go_num, rfl, HI.out, HO9.out, HB9.out⟩, by simp [intOf]; have := HI.out; omega⟩
            · rw [if_neg hpk] at hka
              rw [hka, List.append_nil] at hkn
              have hpk2 : (n.parent == k) = false := by simpa using hpk
              have HO9 := Lib.hid hOa
              rw [← hkn] at HO9
              clear hkn hka hOa
              go_wp2
              exact ⟨⟨i + 1, _, by go_num, rfl, HI.out, HO9.out, HBA.out⟩, by simp [intOf]; have := HI.out; omega⟩
          · obtain rfl : i = ns.length := by omega
            have HO := Lib.hid (ownI_weak hO (Nat.le_succ _))
            have HB := Lib.hid (box_below hb)
            clear hO hb hin
            go_wp2
            go_ret2
            exact ⟨HB.out, .inr ⟨HC.out, h0, hk, _, rfl, HO.out⟩⟩
      · have e1 : ¬ k < 0 := by omega
        have e2 : (ns.length : Int) ≤ k := by omega
        have HNO := Lib.hid (show ¬ (checkP al ns es ∧ 0 ≤ k ∧ k < (ns.length : Int)) from fun h => hk h.2.2)
        clear hk hc
        go_wp2
        go_ret2
        exact ⟨box_below HB2.out, .inl ⟨HNO.out, rfl⟩⟩
    · have e1 : k < 0 := by omega
      have HNO := Lib.hid (show ¬ (checkP al ns es ∧ 0 ≤ k ∧ k < (ns.length : Int)) from fun h => h0 h.2.1)
      clear h0 hc
      go_wp2
      go_ret2
      exact ⟨box_below HB2.out, .inl ⟨HNO.out, rfl⟩⟩
  · rw [if_neg hc]
    have HNO := Lib.hid (show ¬ (checkP al ns es ∧ 0 ≤ k ∧ k < (ns.length : Int)) from fun h => hc h.1)
    clear hc
    go_wp2
    go_ret2
    exact ⟨box_below HB2.out, .inl ⟨HNO.out, rfl⟩⟩
end Go.Proofs.YtonkbjdeaneicaaDoor

namespace Go.Proofs.YtonkbjdeaneicaaDoor
open Go.RowKit Pln Classical Go.Maps

theorem rcheckP {F : Nat → Prop} (W : World) (av nv ev : Value) (al : List Shp) (ns : List Nd) (es : List Int) (h : RPl F W av nv ev al ns es) (hS : plSm 1048576 al ns es) :
    Calls Tryd.prog 29 #[.agg #[av, nv, ev]] W fun e W' => e = .returned (.int .i64 (if checkP al ns es then 0 else 2)) ∧ Below W.heap.size W W' := by
  have h1 := rcheckW W av nv ev al ns es h hS
  rw [show (if refP al ns es then (0 : Int) else 2) = (if checkP al ns es then 0 else 2) by by_cases hc : refP al ns es; rw [if_pos hc, if_pos (ref_check.1 hc)]; rw [if_neg hc, if_neg (fun h => hc (ref_check.2 h))]] at h1
  exact h1

set_option maxRecDepth 200000 in
set_option maxHeartbeats 4000000 in
theorem rchainW {F : Nat → Prop} (W : World) (av nv ev : Value) (al : List Shp) (ns : List Nd) (es : List Int) (h : RPl F W av nv ev al ns es) (hS : plSm 1048576 al ns es) (k : Int) :
    Calls Tryd.prog 10 #[.agg #[av, nv, ev], .int .i64 k] W (ChainRes W al ns es k) := by
  have hE := h.en
  have hm := hS.ns.1
  have hB0 : Below (W.heap.size + 1) (W.alloc (.cells #[av, nv, ev] 26)) (W.alloc (.cells #[av, nv, ev] 26)) := Below.refl _ _
  have CW := Lib.hid (rcheckP _ av nv ev al ns es (h.below (box_below hB0)) hS)
  have WW := Lib.hid (fun (Wx : World) (hb : Below W.heap.size W Wx) (x : Int) => rwayW Wx av nv ev ns (h.below hb).ns x (by omega))
  obtain ⟨Ae, ce, rfl⟩ := hE.form
  have hel := hE.len
  unfold maxLen at hel
  have y0 := box_cellL hB0 0 rfl
  have y1 := box_cellL hB0 1 rfl
  have y2 := box_cellL hB0 2 rfl
  have HB0 := Lib.hid hB0
  have HE := Lib.hid hE
  clear hB0 h hS hE
  go_enter Tryd.func10, Tryd.ntmps10
  go_wp2_with fail
  refine CW.out.mono ?_
  rintro e w2 ⟨rfl, hb2⟩
  have hB2 := box_step HB0.out hb2
  have y0 := box_cellL hB2 0 rfl
  have y1 := box_cellL hB2 1 rfl
  have y2 := box_cellL hB2 2 rfl
  have HB2 := Lib.hid hB2
  clear hb2 hB2 CW
  by_cases hc : checkP al ns es
  · rw [if_pos hc]
    by_cases h0 : 0 ≤ k
    · by_cases hk : k < (es.length : Int)
      · obtain ⟨q, rfl⟩ : ∃ q : Nat, k = (q : Int) := ⟨k.toNat, by omega⟩
        obtain ⟨x, hx⟩ : ∃ x, es[q]? = some x := ⟨_, List.getElem?_eq_getElem (by omega)⟩
        obtain ⟨x1, x2⟩ := ends_range hc.2.2 x (List.mem_of_getElem? hx)
        obtain ⟨xn, rfl⟩ : ∃ xn : Nat, x = (xn : Int) := ⟨x.toNat, by omega⟩
        obtain ⟨eb, eo, cs, rfl, ⟨rfl, -⟩, hcc⟩ := HE.out.rd hx
        have hBd := HB2.out.drew
        have c0 := hcc _ (box_below hBd) 0 _ rfl
        simp only [Nat.add_zero, Nat.mul_one] at c0
        have HWE := wayR_eq (nodesP_par hc.2.1) x1 x2
        have W2 := Lib.hid (fun (Wx : World) (hb : Below W.heap.size W Wx) => (show Calls Tryd.prog 30 #[.agg #[av, nv, .slice (some ⟨eb, eo, none⟩) es.length ce], .int .i64 (xn : Int)] Wx (fun e w' => ∃ v, e = .returned (.tuple #[v, .bool true]) ∧ OwnI w' Wx.heap.size v (wayN ns (xn : Int).toNat) ∧ Below Wx.heap.size Wx w') from
          (WW.out Wx hb (xn : Int)).mono (fun e w' ⟨hb3, hr⟩ => by
            rcases hr with ⟨l, v, hl, h1, hO, -⟩ | ⟨hno, -⟩
            · have h2 := Option.some.inj (hl.symm.trans HWE)
              rw [h2] at hO
              exact ⟨v, h1, hO, hb3⟩
            · exact absurd (HWE.symm.trans hno) (by simp))))
        clear HWE
        have e1 : ¬ (q : Int) < 0 := by omega
        have e2 : ¬ (es.length : Int) ≤ (q : Int) := by omega
        have HC := Lib.hid hc
        have HX := Lib.hid hx
        have B2 := Lib.hid ((Below.refl w2.heap.size w2).drew)
        have KP := Lib.hid (fun (w' : World) (hW : Below w2.heap.size w2 w') => (show w'.cell? ⟨W.heap.size, 0, none⟩ = some av ∧ w'.cell? ⟨W.heap.size, 1, none⟩ = some nv ∧ w'.cell? ⟨W.heap.size, 2, none⟩ = some (.slice (some ⟨eb, eo, none⟩) es.length ce) ∧ w'.cell? ⟨eb, eo + q, none⟩ = some (.int .i64 (xn : Int)) from by
          have hq := box_step HB2.out hW
          have c0 := hcc _ (box_below hq) 0 _ rfl
          simp only [Nat.add_zero, Nat.mul_one] at c0
          exact ⟨box_cellL hq 0 rfl, box_cellL hq 1 rfl, box_cellL hq 2 rfl, c0⟩))
        have hS0 := KP.out _ B2.out
        have hsz2 : W.heap.size ≤ w2.heap.size := (box_below HB2.out).size
        clear hcc hx x1 x2 hc hBd c0
        go_wp2_with fail
        go_region_held3 (fun w' : World => w'.cell? ⟨W.heap.size, 0, none⟩ = some av ∧ w'.cell? ⟨W.heap.size, 1, none⟩ = some nv ∧ w'.cell? ⟨W.heap.size, 2, none⟩ = some (.slice (some ⟨eb, eo, none⟩) es.length ce) ∧ w'.cell? ⟨eb, eo + q, none⟩ = some (.int .i64 (xn : Int)))
          (first | with_reducible exact hS0 | with_reducible exact KP.out _ BB.out)
          (first
            | (go_at_call 30; with_reducible refine (W2.out _ (box_below (box_step HB2.out B2.out))).mono ?_; rintro e w3 ⟨v, rfl, hO, hb3⟩; have BB := Lib.hid (B2.out.trans (hb3.mono B2.out.size)); have HO := Lib.hid (ownI_weak hO (box_below (box_step HB2.out B2.out)).size); clear hO hb3))
        have HB3 := Lib.hid (box_below (box_step HB2.out BB.out))
        clear BB hS0
        go_wp2
        go_ret2
        exact ⟨HB3.out, .inr ⟨HC.out, q, _, v, rfl, HX.out, rfl, HO.out⟩⟩
      · have e1 : ¬ k < 0 := by omega
        have e2 : (es.length : Int) ≤ k := by omega
        have HNO := Lib.hid (show ¬ (checkP al ns es ∧ 0 ≤ k ∧ k < (es.length : Int)) from fun h => hk h.2.2)
        clear hk hc
        go_wp2
        go_ret2
        exact ⟨box_below HB2.out, .inl ⟨HNO.out, rfl⟩⟩
    · have e1 : k < 0 := by omega
      have HNO := Lib.hid (show ¬ (checkP al ns es ∧ 0 ≤ k ∧ k < (es.length : Int)) from fun h => h0 h.2.1)
      clear h0 hc
      go_wp2
      go_ret2
      exact ⟨box_below HB2.out, .inl ⟨HNO.out, rfl⟩⟩
  · rw [if_neg hc]
    have HNO := Lib.hid (show ¬ (checkP al ns es ∧ 0 ≤ k ∧ k < (es.length : Int)) from fun h => hc h.1)
    clear hc
    go_wp2
    go_ret2
    exact ⟨box_below HB2.out, .inl ⟨HNO.out, rfl⟩⟩

set_option maxRecDepth 200000 in
set_option maxHeartbeats 4000000 in
theorem rkidsW {F : Nat → Prop} (W : World) (av nv ev : Value) (al : List Shp) (ns : List Nd) (es : List Int) (h : RPl F W av nv ev al ns es) (hS : plSm 1048576 al ns es) (k : Int) :
    Calls Tryd.prog 11 #[.agg #[av, nv, ev], .int .i64 k] W (KidsRes W al ns es k) := by
  have hB0 : Below (W.heap.size + 1) (W.alloc (.cells #[av, nv, ev] 26)) (W.alloc (.cells #[av, nv, ev] 26)) := Below.refl _ _
  have hN := h.ns
  have hm := hS.ns.1
  have CW := Lib.hid (rcheckP _ av nv ev al ns es (h.below (box_below hB0)) hS)
  obtain ⟨An, cn, rfl⟩ := hN.form
  have y0 := box_cellL hB0 0 rfl
  have y1 := box_cellL hB0 1 rfl
  have y2 := box_cellL hB0 2 rfl
  have HB0 := Lib.hid hB0
  have HN := Lib.hid hN
  clear hB0 h hS hN
  go_enter Tryd.func11, Tryd.ntmps11
  go_wp2_with fail
  refine CW.out.mono ?_
  rintro e w2 ⟨rfl, hb2⟩
  have hB2 := box_step HB0.out hb2
  have y0 := box_cellL hB2 0 rfl
  have y1 := box_cellL hB2 1 rfl
  have y2 := box_cellL hB2 2 rfl
  have HB2 := Lib.hid hB2
  clear hb2 hB2 CW
  by_cases hc : checkP al ns es
  · rw [if_pos hc]
    by_cases h0 : 0 ≤ k
    · by_cases hk : k < (ns.length : Int)
      · have e1 : ¬ k < 0 := by omega
        have e2 : ¬ (ns.length : Int) ≤ k := by omega
        have HC := Lib.hid hc
        clear hc
        go_wp2_with fail
        clear y0 y1 y2
        go_loopw [6, 7] (fun ov iv wr => ∃ (i : Nat) (v : Value), iv = .int .i64 i ∧ ov = v ∧ i ≤ ns.length ∧ OwnI wr (W.heap.size + 1) v (kidsK ns k i) ∧ Below (W.heap.size + 1) (W.alloc (.cells #[av, .slice An ns.length cn, ev] 26)) wr) (fun _ i _ => ns.length - (intOf i).toNat)
        case atStart => exact ⟨0, _, rfl, rfl, Nat.zero_le _, World.ownsRow_nil _ _ _ _, HB2.out⟩
        case round =>
          obtain ⟨i, v, rfl, rfl, hi, hO, hb⟩ := hrel
          have y1 := box_cellL hb 1 rfl
          by_cases hin : i < ns.length
          · obtain ⟨n, hn⟩ : ∃ n, ns[i]? = some n := ⟨_, List.getElem?_eq_getElem hin⟩
            obtain ⟨nb, no, ncs, rfl, ⟨lv, mv, hE⟩, hcc⟩ := HN.out.rd hn
            have hcs := hE.cells
            subst hcs
            have cc := hcc _ (box_below hb)
            have c0 := cc 0 _ rfl
            have c1 := cc 1 _ rfl
            have c2 := cc 2 _ rfl
            have c3 := cc 3 _ rfl
            have c4 := cc 4 _ rfl
            have c5 := cc 5 _ rfl
            have c6 := cc 6 _ rfl
            have c7 := cc 7 _ rfl
            have c8 := cc 8 _ rfl
            have c9 := cc 9 _ rfl
            have c10 := cc 10 _ rfl
            simp only [Nat.add_zero] at c0
            have e3 : (0 : Int) ≤ (i : Int) := by omega
            have e4 : (i : Int) < (ns.length : Int) := by omega
            have HBA := Lib.hid hb
            have hOa := hO
            have HI := Lib.hid hin
            have hkl := kidsK_le ns k i
            have hkn := kidsK_succ ns k i
            have hka : kidAt ns k i = if n.parent = k then [i] else [] := by unfold kidAt; rw [hn]
            have hsz : W.heap.size + 1 ≤ wr.heap.size := by have := hb.size; simpa using this
            clear hcc cc hE hn hin hb hO c0 c2 c3 c4 c5 c6 c7 c8 c9 c10
            by_cases hpk : n.parent = k
            · rw [if_pos hpk] at hka
              rw [hka] at hkn
              rw [hpk] at c1
              have O1 := Lib.hid (ownI_one (w := wr) (base := W.heap.size + 1) (k := i) hsz)
              have O2 := Lib.hid (hOa.below ((Below.refl _ _).alloc (Nat.le_refl _) (.cells #[.int .i64 i] 3)))
              have STEP := Lib.hid (show ∀ w', (wr.alloc (.cells #[.int .i64 (i : Int)] 3)).grownBy w' u6.ownBlock → Below (W.heap.size + 1) (W.alloc (.cells #[av, .slice (some ⟨nb, no, none⟩) ns.length cn, ev] 26)) w' from fun w' hgr =>
                HBA.out.trans (((Turns.alloc (Turns.refl _ wr) (.cells #[.int .i64 (i : Int)] 3)).trans (Turns.of_grown hgr) (fun x hx => .inl hx)).below (by omega) (fun x hx => by
                  simp only [Option.mem_toList] at hx
                  exact (ownBlock_cells hOa hx).1)))
              have HKN := Lib.hid hkn
              have hsz2 : W.heap.size + 1 ≤ (wr.alloc (.cells #[.int .i64 (i : Int)] 3)).heap.size := by simp; omega
              clear hkn hka hOa hpk
              go_wp2_with (at_builtin; refine wpList_append_I rfl (.tmp 37) (.tmp 39) rfl (W.heap.size + 1) (W.heap.size + 1) _ _ (kidsK ns k i) [i] rfl O2.out rfl O1.out (by simp; omega) hsz2 ?_; intro v' w' hw1 hw2; have HB9 := Lib.hid (STEP.out w' hw2); have HO9 := Lib.hid hw1; clear hw1 hw2)
              rw [← HKN.out] at HO9
              exact ⟨⟨i + 1, v', by go_num, rfl, HI.out, HO9.out, HB9.out⟩, by simp [intOf]; have := HI.out; omega⟩
            · rw [if_neg hpk] at hka
              rw [hka, List.append_nil] at hkn
              have hpk2 : (n.parent == k) = false := by simpa using hpk
              have HO9 := Lib.hid hOa
              rw [← hkn] at HO9
              clear hkn hka hOa
              go_wp2
              exact ⟨⟨i + 1, _, by go_num, rfl, HI.out, HO9.out, HBA.out⟩, by simp [intOf]; have := HI.out; omega⟩
          · obtain rfl : i = ns.length := by omega
            have HO := Lib.hid (ownI_weak hO (Nat.le_succ _))
            have HB := Lib.hid (box_below hb)
            clear hO hb hin
            go_wp2
            go_ret2
            exact ⟨HB.out, .inr ⟨HC.out, h0, hk, _, rfl, HO.out⟩⟩
      · have e1 : ¬ k < 0 := by omega
        have e2 : (ns.length : Int) ≤ k := by omega
        have HNO := Lib.hid (show ¬ (checkP al ns es ∧ 0 ≤ k ∧ k < (ns.length : Int)) from fun h => hk h.2.2)
        clear hk hc
        go_wp2
        go_ret2
        exact ⟨box_below HB2.out, .inl ⟨HNO.out, rfl⟩⟩
    · have e1 : k < 0 := by omega
      have HNO := Lib.hid (show ¬ (checkP al ns es ∧ 0 ≤ k ∧ k < (ns.length : Int)) from fun h => h0 h.2.1)
      clear h0 hc
      go_wp2
      go_ret2
      exact ⟨box_below HB2.out, .inl ⟨HNO.out, rfl⟩⟩
  · rw [if_neg hc]
    have HNO := Lib.hid (show ¬ (checkP al ns es ∧ 0 ≤ k ∧ k < (ns.length : Int)) from fun h => hc h.1)
    clear hc
    go_wp2
    go_ret2
    exact ⟨box_below HB2.out, .inl ⟨HNO.out, rfl⟩⟩
end Go.Proofs.YtonkbjdeaneicaaDoor
