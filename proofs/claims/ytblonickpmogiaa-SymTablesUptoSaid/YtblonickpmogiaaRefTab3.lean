/- The walks of the document's Table (edictref01), third part: Sorted, Ranks. -/
import Derived.Test.YtblonickpmogiaaRefTab2
import Derived.Test.YtblonickpmogiaaTabLaw
import Derived.Test.YtblonickpmogiaaTimes
namespace Go.Proofs.Ytblonickpmogiaa
open Go.RowKit Go.Maps
attribute [local go_sem ↓] Go.wp_at_zero Go.wp_at_succ

theorem ownN_push {w wr w2 : World} {u v' : Value} {o : List Nat} {a : Nat} {obj : Obj} (hb : Below w.heap.size w wr) (hr : OwnN wr w.heap.size u o)
    (hown : w2.ownsRow w.heap.size 3 1 v' (o.length + 1) ((o.map fun (i : Nat) => Value.int .i64 (i : Int)) ++ [.int .i64 (a : Int)])) (hg : (wr.alloc obj).grownBy w2 u.ownBlock) : OwnN w2 w.heap.size v' (o ++ [a]) ∧ Below w.heap.size w w2 := by
  refine ⟨?_, (hb.alloc hb.size obj).trans ((Turns.of_grown hg).below (by have := hb.size; simp; omega) (fun x hx => (ownBlock_cells hr (by simpa using hx)).1))⟩
  unfold OwnN
  rw [List.length_append, List.map_append]
  exact hown

section
variable {base g : Nat} {sv : Value} {ks : List Cst} {l : List Nat} {w : World}
set_option maxRecDepth 100000 in
set_option maxHeartbeats 2000000 in
theorem sortedRT (h : RTab base w g sv ks) (hlen : ks.length ≤ 70000) (nd : ks.Nodup) (ok : ∀ c ∈ ks, c.ok) (hl : l.Perm (List.range ks.length)) (sl : SdIds ks l) :
    Calls Try.prog 94 #[.pointer (some ⟨g, 0, none⟩)] w fun e w' => ∃ u, e = .returned u ∧ OwnN w' w.heap.size u l ∧ Below w.heap.size w w' := by
  obtain ⟨a, c, rfl⟩ := h.form
  obtain ⟨i0, hi0, hz0, hz1, hz2⟩ := info_parts infoInt
  have R := Lib.hid (rsortW a c ks w (own_slA h.own) (fun c hc => (ok c hc).2.2) (by omega))
  have H := Lib.hid h
  have c0 := h.c0
  clear h ok
  have hll := ids_len hl
  go_enter Try.func94, Try.ntmps94
  go_wp2_with fail
  refine R.out.mono ?_
  rintro e w1 ⟨v, m, rfl, hv, hs, hp, b1⟩
  have hm := sorted_keys hl sl hp hs
  have hml : m.length = l.length := by rw [hm]; simp
  obtain ⟨A, cp, rfl, hs1⟩ := own_slC hv
  rw [hml]
  have HV := Lib.hid (And.intro hs1 (And.intro b1 hm))
  have HP := Lib.hid (And.intro hl hml)
  have FW := Lib.hid (fun W (hW : Below w.heap.size w W) (c : Cst) (j : Nat) (hj : ks[j]? = some c) => findRT (H.out.below hW) hlen c j (placeC_nodup nd hj))
  have hl7 : l.length ≤ 70000 := by omega
  clear hs1 b1 hm hml hl sl hp hs hv R nd c0 hll hlen
  go_wp2_with fail
  go_loopw [4, 5] (fun ids i wr => ∃ (u : Value) (k : Nat), ids = u ∧ i = .int .i64 k ∧ k ≤ l.length ∧ Hid (OwnN wr w1.heap.size u (l.take k) ∧ Below w1.heap.size w1 wr)) (fun _ i _ => l.length - (intOf i).toNat)
  case atStart => exact ⟨_, 0, rfl, rfl, Nat.zero_le _, ⟨World.ownsRow_nil _ _ _ _, Below.refl _ _⟩⟩
  case round =>
    obtain ⟨u, k, hu, rfl, hk, hL⟩ := hrel
    have hlt : (l.take k).length = k := by rw [List.length_take]; omega
    obtain ⟨ua, uc, rfl⟩ := hL.out.1.form
    rw [hlt] at hL hu
    subst hu
    have hkk : (0 : Int) ≤ (k : Int) := by omega
    by_cases hkn : k < l.length
    · obtain ⟨j, c, hj, hc, hm⟩ := sorted_at HP.out.1 hkn
      obtain ⟨b, off, rfl, hblt, hcs⟩ := HV.out.1.form (by rw [HP.out.2]; omega)
      obtain ⟨k0, k1, k2⟩ := ((hcs k c (by rw [HV.out.2.2]; exact hm)).below hL.out.2 hblt).at3
      have hB : Below w.heap.size w wr := HV.out.2.1.trans (hL.out.2.mono HV.out.2.1.size)
      have F := Lib.hid (FW.out wr hB c j hc)
      have E := Lib.hid (show l.take (k + 1) = l.take k ++ [j] by rw [List.take_succ_eq_append_getElem hkn]; rw [List.getElem?_eq_getElem hkn] at hj; rw [Option.some.inj hj])
      have HT := Lib.hid hlt
      have hkn' : (k : Int) < (l.length : Int) := by omega
      have HK := Lib.hid hkn
      clear hcs hm hB hj hc hlt hkn hk
      go_wp2_with fail
      refine F.out.mono ?_
      rintro e w2 ⟨rfl, hb2⟩
      have hown : w2.ownsRow w1.heap.size 3 1 (.slice ua k uc) k ((l.take k).map fun (i : Nat) => Value.int .i64 (i : Int)) := by
        have := hL.out.1.turns (Turns.of_below (S := []) hb2) (fun _ _ => by simp)
        unfold OwnN at this
        rwa [HT.out] at this
      have B2 := Lib.hid (hL.out.2.trans (hb2.mono hL.out.2.size))
      have hsz := B2.out.size
      clear k0 k1 k2 hb2
      go_wp2_with (at_builtin; refine wpList_append_lies _ rfl (.tmp 24) (.tmp 26) 66 rfl w1.heap.size 3 i0 (.int .i64 0) 1 8 Try.underlying66 hi0 hz0 hz1 hz2 rfl (by decide) _ _ _ rfl (hown.alloc _) ⟨w2.heap.size, 0, none⟩ 1 1 [.int .i64 (j : Int)] rfl rfl (cell_one_new _ _ _) (by simp [Value.oneCell']) (by decide) (by have := HK.out; unfold maxLen; omega) (by have := HK.out; omega) (by simp; omega) (w2.heap.size + 1) (by simp) ?_; intro g' cap w3 hown2 hgrow2 hat2 hlt2)
      obtain ⟨r2, b2⟩ := ownN_push B2.out (by unfold OwnN; rw [HT.out]; exact hown) (by rw [HT.out]; exact hown2) hgrow2
      exact ⟨⟨_, k + 1, rfl, by go_num, HK.out, by rw [E.out]; exact ⟨r2, b2⟩⟩, by simp [intOf]; have := HK.out; omega⟩
    · obtain rfl : k = l.length := by omega
      go_wp2
      go_ret
      have hL := hL.out
      rw [List.take_length] at hL
      exact ⟨_, rfl, ownsRow_weakT hL.1 HV.out.2.1.size, HV.out.2.1.trans (hL.2.mono HV.out.2.1.size)⟩

set_option maxRecDepth 100000 in
set_option maxHeartbeats 4000000 in
theorem ranksRT (h : RTab base w g sv ks) (hlen : ks.length ≤ 70000) (nd : ks.Nodup) (ok : ∀ c ∈ ks, c.ok) (hl : l.Perm (List.range ks.length)) (sl : SdIds ks l) :
    Calls Try.prog 95 #[.pointer (some ⟨g, 0, none⟩)] w fun e w' => ∃ u, e = .returned u ∧ OwnN w' w.heap.size u (rk l ks.length) ∧ Below w.heap.size w w' := by
  obtain ⟨a, c, rfl⟩ := h.form
  obtain ⟨i0, hi0, hz0, hz1, hz2⟩ := info_parts infoInt
  have H := Lib.hid h
  have OK := Lib.hid ok
  have RC := Lib.hid (fun (i : Nat) (x : Cst) (hi : ks[i]? = some x) => rank_count nd hl sl hi)
  obtain ⟨rs, hrs⟩ : ∃ rs, rs = rk l ks.length := ⟨_, rfl⟩
  have HRL := Lib.hid (show rs.length = ks.length by rw [hrs]; exact rk_len hl)
  rw [← hrs] at RC ⊢
  clear h ok nd hl sl hrs
  go_enter Try.func95, Try.ntmps95
  go_wp2_with fail
  go_loopw [3, 4] (fun lv i wr => ∃ (u : Value) (k : Nat), lv = u ∧ i = .int .i64 k ∧ k ≤ ks.length ∧ Hid (OwnN wr w.heap.size u (rs.take k) ∧ Below w.heap.size w wr)) (fun _ i _ => ks.length - (intOf i).toNat)
  case atStart => exact ⟨_, 0, rfl, rfl, Nat.zero_le _, ⟨World.ownsRow_nil _ _ _ _, Below.refl _ _⟩⟩
  case round =>
    obtain ⟨u, k, hu, rfl, hk, hL⟩ := hrel
    have hlt : (rs.take k).length = k := by rw [List.length_take, HRL.out]; omega
    obtain ⟨ua, uc, rfl⟩ := hL.out.1.form
    rw [hlt] at hL hu
    subst hu
    have HT := Lib.hid hlt
    clear hlt
    have hkk : (0 : Int) ≤ (k : Int) := by omega
    have HR := Lib.hid (H.out.below hL.out.2)
    have c0 := HR.out.c0
    by_cases hkn : k < ks.length
    · obtain ⟨b, c', hf, hblt⟩ := HR.out.form1 (by omega)
      simp only [Value.slice.injEq] at hf
      obtain ⟨rfl, _, rfl⟩ := hf
      obtain ⟨y, hy⟩ : ∃ y, y = ks[k] := ⟨_, rfl⟩
      have hyk : ks[k]? = some y := by rw [List.getElem?_eq_getElem hkn, hy]
      obtain ⟨k0, k1, k2⟩ := HR.out.keyAt hyk
      have RK := Lib.hid (RC.out k y hyk)
      have hkn' : (k : Int) < (ks.length : Int) := by omega
      have HK := Lib.hid hkn
      have YS := Lib.hid (OK.out y (List.mem_of_getElem? hyk)).2.2
      have hgl := HR.out.lt
      clear hy hyk hkn hk
      obtain ⟨wo, rfl⟩ : ∃ wo : World, wo = wr := ⟨_, rfl⟩
      go_wp2_with fail
      go_loopw [5, 6] (fun n j wx => ∃ q : Nat, j = .int .i64 q ∧ q ≤ ks.length ∧ n = .int .i64 ((ks.take q).countP fun d => decide (cmpC d y < 0)) ∧ Below wo.heap.size wo wx) (fun _ j _ => ks.length - (intOf j).toNat)
      case atStart => exact ⟨0, rfl, Nat.zero_le _, rfl, Below.refl _ _⟩
      case round =>
        obtain ⟨q, rfl, hq, rfl, hbx⟩ := hrel
        have hqq : (0 : Int) ≤ (q : Int) := by omega
        have d0 := (hbx.cell (p := ⟨g, 0, none⟩) hgl).trans c0
        by_cases hqn : q < ks.length
        · obtain ⟨x, hx⟩ : ∃ x, x = ks[q] := ⟨_, rfl⟩
          have hxk : ks[q]? = some x := by rw [List.getElem?_eq_getElem hqn, hx]
          obtain ⟨x0, x1, x2⟩ := HR.out.keyAt hxk
          have E := Lib.hid (show (ks.take (q + 1)).countP (fun d => decide (cmpC d y < 0)) = (ks.take q).countP (fun d => decide (cmpC d y < 0)) + (if decide (cmpC x y < 0) then 1 else 0) by
            rw [List.take_add_one, List.getElem?_eq_getElem hqn, List.countP_append, hx]; simp [List.countP_cons])
          have HC := Lib.hid (fun W => rcmp_c x y W (OK.out x (List.mem_of_getElem? hxk)).2.2 YS.out)
          obtain ⟨r, hr⟩ : ∃ r, r = cmpC x y := ⟨_, rfl⟩
          rw [← hr] at HC E
          have hqn' : (q : Int) < (ks.length : Int) := by omega
          obtain ⟨N, hN⟩ : ∃ N, N = (ks.take q).countP (fun d => decide (cmpC d y < 0)) := ⟨_, rfl⟩
          have hNi : N ≤ q := by rw [hN]; exact Nat.le_trans List.countP_le_length (by simp; omega)
          rw [← hN] at E ⊢
          have NE : Nonempty (Pt (Below wo.heap.size wo)) := ⟨⟨wo, Below.refl _ _⟩⟩
          have p0 := fun p : Pt (Below wo.heap.size wo) => (p.property.cell (p := ⟨g, 0, none⟩) hgl).trans c0
          have p1 := fun p : Pt (Below wo.heap.size wo) => (p.property.cell (p := ⟨b, q * 3, none⟩) hblt).trans x0
          have p2 := fun p : Pt (Below wo.heap.size wo) => (p.property.cell (p := ⟨b, q * 3 + 1, none⟩) hblt).trans x1
          have p3 := fun p : Pt (Below wo.heap.size wo) => (p.property.cell (p := ⟨b, q * 3 + 2, none⟩) hblt).trans x2
          have p4 := fun p : Pt (Below wo.heap.size wo) => (p.property.cell (p := ⟨b, k * 3, none⟩) hblt).trans k0
          have p5 := fun p : Pt (Below wo.heap.size wo) => (p.property.cell (p := ⟨b, k * 3 + 1, none⟩) hblt).trans k1
          have p6 := fun p : Pt (Below wo.heap.size wo) => (p.property.cell (p := ⟨b, k * 3 + 2, none⟩) hblt).trans k2
          have HD := Lib.hid hbx.drew
          have HQ := Lib.hid hqn
          have HN6 : (N : Int) ≤ 70000 := by omega
          have hNN : (0 : Int) ≤ (N : Int) := by omega
          clear hx hxk hr hN hqn hq hbx x0 x1 x2
          go_wp2_with fail
          refine wp_region_class (S := Below wo.heap.size wo) HD.out (by kernel_rfl) (by kernel_rfl) ?_
          repeat (go_big_quiet_step ((go_at_call 18; refine (HC.out _).mono ?_; rintro e w' ⟨rfl, hbel⟩; exact ⟨rfl, ⟨w', below_step (Pt.property _) hbel⟩, rfl⟩)))
          refine wpQuiet_nil ?_
          rintro _ ⟨⟨W, hW⟩, rfl⟩
          have HF := Lib.hid hW
          clear p0 p1 p2 p3 p4 p5 p6 NE hW
          by_cases hr0 : r < 0
          · have E2 := Lib.hid (E.out.trans (by rw [if_pos (decide_eq_true hr0)]))
            go_wp2_with fail
            exact ⟨⟨q + 1, by go_num, HQ.out, by rw [E2.out]; go_num, HF.out⟩, by simp [intOf]; have := HQ.out; omega⟩
          · have E2 := Lib.hid (E.out.trans (by rw [if_neg (by simpa using hr0)]))
            go_wp2_with fail
            exact ⟨⟨q + 1, by go_num, HQ.out, by rw [E2.out]; rfl, HF.out⟩, by simp [intOf]; have := HQ.out; omega⟩
        · obtain rfl : q = ks.length := by omega
          rw [List.take_length]
          obtain ⟨N, hN⟩ : ∃ N, N = ks.countP (fun d => decide (cmpC d y < 0)) := ⟨_, rfl⟩
          rw [← hN] at RK ⊢
          have hlt := HT.out
          have hown : wr.ownsRow w.heap.size 3 1 (.slice ua k uc) k ((rs.take k).map fun (i : Nat) => Value.int .i64 (i : Int)) := by
            have := hL.out.1.turns (Turns.of_below (S := []) hbx) (fun _ _ => by simp)
            unfold OwnN at this
            rwa [hlt] at this
          have E := Lib.hid (show rs.take (k + 1) = rs.take k ++ [N] by rw [List.take_add_one, RK.out]; rfl)
          have B2 := Lib.hid (hL.out.2.trans (hbx.mono hL.out.2.size))
          have hsz := B2.out.size
          clear hN hlt hqn hq hbx k0 k1 k2
          go_wp2_with (at_builtin; refine wpList_append_lies _ rfl (.tmp 43) (.tmp 45) 66 rfl w.heap.size 3 i0 (.int .i64 0) 1 8 Try.underlying66 hi0 hz0 hz1 hz2 rfl (by decide) _ _ _ rfl (hown.alloc _) ⟨wr.heap.size, 0, none⟩ 1 1 [.int .i64 (N : Int)] rfl rfl (cell_one_new _ _ _) (by simp [Value.oneCell']) (by decide) (by have := HK.out; unfold maxLen; omega) (by have := HK.out; omega) (by simp; omega) (wr.heap.size + 1) (by simp) ?_; intro g' cap w3 hown2 hgrow2 hat2 hlt2)
          obtain ⟨r2, b2⟩ := ownN_push B2.out (by unfold OwnN; rw [HT.out]; exact hown) (by rw [HT.out]; exact hown2) hgrow2
          exact ⟨⟨_, k + 1, rfl, by go_num, HK.out, by rw [E.out]; exact ⟨r2, b2⟩⟩, by simp [intOf]; have := HK.out; omega⟩
    · obtain rfl : k = ks.length := by omega
      go_wp2
      go_ret
      have hL := hL.out
      rw [List.take_of_length_le (Nat.le_of_eq HRL.out)] at hL
      exact ⟨_, rfl, hL.1, hL.2⟩
end
end Go.Proofs.Ytblonickpmogiaa
