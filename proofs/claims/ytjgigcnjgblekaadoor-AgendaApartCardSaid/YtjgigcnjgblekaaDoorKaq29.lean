/- separate: marks are written into all lists, then behind all, then all are looked at. The walk. smudge, of one act: marks are written into it, and behind it. The walk. lists: its state. Lists of acts, each in blocks of a range of its own. -/
import Derived.Test.YtjgigcnjgblekaaDoorKaq26
import Derived.Test.YtjgigcnjgblekaaDoorKaq27
namespace Go.Proofs.YtjgigcnjgblekaaDoor
open Go Go.RowKit Go.Maps Classical

def mkI (i j : Nat) : Int := -5000 - 20 * (i : Int) - (j : Int)
def mkL (i n : Nat) : List Int := (List.range n).map (mkI i)
theorem mkL_len (i n : Nat) : (mkL i n).length = n := by simp [mkL]
theorem mkL_succ (i n : Nat) : mkL i (n + 1) = mkL i n ++ [mkI i n] := by simp [mkL, List.range_succ]
theorem mkL_at {i n j : Nat} (h : j < n) : (mkL i n)[j]? = some (mkI i j) := by simp [mkL, h]
theorem mk_set {i j : Nat} {l : List Int} (h : j < l.length) : (mkL i j ++ l.drop j).set j (mkI i j) = mkL i (j + 1) ++ l.drop (j + 1) := by
  rw [List.set_append_right _ _ (by rw [mkL_len]; exact Nat.le_refl _), mkL_len, Nat.sub_self, mkL_succ, List.append_assoc, List.drop_eq_getElem_cons h]
  rfl
theorem mk_tlen {i j : Nat} {l : List Int} (h : j ≤ l.length) : (mkL i j ++ l.drop j).length = l.length := by rw [List.length_append, mkL_len, List.length_drop]; omega
/-- A row of acts with their lists' headers. -/
def EZ (cs : List Value) (z : Ac × Value) : Prop := cs = [.int .i64 z.1.rule, z.2]
def dz : Ac × Value := (zAc, .slice none 0 0)
theorem getD_at {zs : List (Ac × Value)} {k : Nat} {z : Ac × Value} (h : zs[k]? = some z) : zs.getD k dz = z := by rw [List.getD_eq_getElem?_getD, h]; rfl
set_option maxRecDepth 100000 in
set_option maxHeartbeats 8000000 in
theorem separateW (zs : List (Ac × Value)) (v : Value) (w : World) (B : Nat) (S : List Nat) (hrow : RSl (fun b => b ∉ S) w 2 EZ v zs) (hst : SepSt B zs.length 0 S w w (.slice none 0 0) (fun q => (zs.getD q dz).2) (fun q => (zs.getD q dz).1.sub)) (hn : zs.length ≤ 100000) (hlen : ∀ q, q < zs.length → (zs.getD q dz).1.sub.length ≤ 100000) :
    Calls Tryd.prog 50 #[v] w fun e w' => e = .returned (.bool true) ∧ Turns S w w' := by
  obtain ⟨A, c, rfl⟩ := hrow.form
  obtain ⟨hv0, hhv⟩ : ∃ f, (fun q => (zs.getD q dz).2) = f := ⟨_, rfl⟩
  obtain ⟨ll0, hll⟩ : ∃ f, (fun q => (zs.getD q dz).1.sub) = f := ⟨_, rfl⟩
  have hlen' : ∀ q, q < zs.length → (ll0 q).length ≤ 100000 := fun q hq => by rw [← hll]; exact hlen q hq
  rw [hhv, hll] at hst
  have HV := Lib.hid (fun q => congrFun hhv q)
  have HR := Lib.hid hrow
  have HST := Lib.hid hst
  have HN := Lib.hid hn
  have HLEN := Lib.hid hlen'
  obtain ⟨i0, hi, hz0, hz1, hz2⟩ := info_parts infoSInt
  clear hrow hst hhv hll hlen hlen'
  go_enter Tryd.func50, Tryd.ntmps50
  go_upto_region 3 with fail
  go_loopw [3, 4] (fun ov i wr => ∃ (k : Nat) (vo : Value) (ll : Nat → List Int), i = .int .i64 (k : Int) ∧ ov = vo ∧ k ≤ zs.length ∧ SepSt B zs.length k S w wr vo hv0 ll ∧ Hid ((∀ q, q < k → ll q = mkL q (ll0 q).length) ∧ ∀ q, k ≤ q → ll q = ll0 q)) (fun _ i _ => zs.length - (intOf i).toNat)
  case atStart => exact ⟨0, _, ll0, rfl, rfl, Nat.zero_le _, HST.out, ⟨fun q hq => by omega, fun _ _ => rfl⟩⟩
  case round =>
    obtain ⟨k, vo, ll, rfl, rfl, hk, hst, HM⟩ := hrel
    have ST := Lib.hid hst
    obtain ⟨A5, c5, hvo⟩ := own_form1 hst.row
    subst hvo
    clear hst HST
    by_cases hkn : k < zs.length
    · obtain ⟨z, hz⟩ : ∃ z, zs[k]? = some z := ⟨_, List.getElem?_eq_getElem hkn⟩
      have hzv : hv0 k = z.2 := by rw [← HV.out k, getD_at hz]
      obtain ⟨b, off, rfl, _, hbs, cs, rfl, hc⟩ := (HR.out.keep (Kp.of_turns ST.out.T (fun x hx hn => hn hx))).at hz
      obtain ⟨A6, c6, hf6⟩ := (ST.out.own k hkn).form
      have hlk : ll k = ll0 k := HM.out.2 k (Nat.le_refl _)
      rw [hlk] at hf6
      have d1 := hc 1 _ rfl
      rw [← hzv, hf6] at d1
      have e1 : (0 : Int) ≤ (k : Int) := by omega
      have e2 : (k : Int) < (zs.length : Int) := by omega
      have HF6 := Lib.hid hf6
      have HLK := Lib.hid hlk
      have h40 : k ≤ 40000000 := by have := HN.out; omega
      have hsw : w.heap.size ≤ wr.heap.size := ST.out.T.size
      clear hz hc hf6 hlk hzv
      obtain ⟨wb, rfl⟩ : ∃ x, x = wr := ⟨_, rfl⟩
      go_wp2_with (at_builtin; refine wpList_append1s _ rfl (.tmp 15) (.tmp 21) 98 rfl w.heap.size 22 i0 _ 1 24 Tryd.underlying98 hi hz0 hz1 hz2 rfl (by decide) _ _ _ rfl (ownsRow_turns ST.out.row (Turns.of_below (S := []) ((Below.refl _ wb).alloc (Nat.le_refl _) _)) (fun _ _ => by simp)) ⟨wb.heap.size, 0, none⟩ 1 [.slice A6 (ll0 k).length c6] rfl rfl (World.news_of_block (heap_alloc_new wb _)) (by simp [Value.oneCell']) h40 (by decide) (by simp; omega) _ rfl ?_; intro g cap w6 hown hgrow hat hlt6; have N1 := Lib.hid hown; have N2 := Lib.hid hgrow; have N3 := Lib.hid hat; clear hown hgrow hat hlt6)
      have ST6 := Lib.hid (ST.out.push (w3 := w6) ((((Turns.refl [] wb).alloc _).mono (by simp)).trans (Turns.of_grown N2.out) (fun x hx => .inl hx)) (by have := N1.out; rw [HF6.out]; exact this) (by
        rcases N3.out with h | h
        · exact .inl h
        · right; have := h.1; simp at this; omega))
      clear N1 N2 N3 d1
      go_loopw [5] (fun jv wq => ∃ (j : Nat) (lq : Nat → List Int), jv = .int .i64 (j : Int) ∧ j ≤ (ll0 k).length ∧ SepSt B zs.length (k + 1) S w wq (.slice (some ⟨g, 0, none⟩) (k + 1) cap) hv0 lq ∧ Hid (lq k = mkL k j ++ (ll0 k).drop j ∧ ∀ q, q ≠ k → lq q = ll q)) (fun jv _ => (ll0 k).length - (intOf jv).toNat)
      case atStart => exact ⟨0, ll, rfl, Nat.zero_le _, ST6.out, ⟨by rw [HLK.out]; simp [mkL], fun _ _ => rfl⟩⟩
      case round =>
        obtain ⟨j, lq, rfl, hj, hstq, HQ⟩ := hrel
        have SQ := Lib.hid hstq
        have hkl := HLEN.out k hkn
        have hkn2 := HN.out
        obtain ⟨gs, cap', hgs, hcell, -⟩ := hstq.hdr (Nat.succ_pos k)
        simp only [Value.slice.injEq, Option.some.injEq, Addr.mk.injEq, and_true, true_and] at hgs
        obtain ⟨rfl, -⟩ := hgs
        have x0 := hcell k (Nat.lt_succ_self k)
        rw [HF6.out] at x0
        have g1 : (k : Int) < ((k + 1 : Nat) : Int) := by omega
        have g1' : (k : Int) < (k : Int) + 1 := by omega
        clear hcell hstq ST6
        by_cases hjn : j < (ll0 k).length
        · have hql : (lq k).length = (ll0 k).length := by rw [HQ.out.1, mk_tlen (by omega)]
          obtain ⟨g2, c2, hh2, hrd, hfz⟩ := SQ.out.lst hkn (by omega)
          rw [hql] at hh2
          have hh3 : Value.slice A6 (ll0 k).length c6 = .slice (some ⟨g2, 0, none⟩) (ll0 k).length c2 := HF6.out.symm.trans hh2
          simp only [Value.slice.injEq, true_and] at hh3
          obtain ⟨rfl, rfl⟩ := hh3
          obtain ⟨u, hu⟩ : ∃ u, (lq k)[j]? = some u := ⟨_, List.getElem?_eq_getElem (by omega)⟩
          have d0 := hrd j u hu
          have fz := hfz j
          have WR := Lib.hid (SQ.out.write (j := j) hkn (by rw [hql]; exact hh2) (mkI k j))
          have HMK := Lib.hid (show (lq k).set j (mkI k j) = mkL k (j + 1) ++ (ll0 k).drop (j + 1) by rw [HQ.out.1]; exact mk_set hjn)
          have HMI := Lib.hid (show mkI k j = -5000 - 20 * (k : Int) - (j : Int) from rfl)
          have e3 : (0 : Int) ≤ (j : Int) := by omega
          have e4 : (j : Int) < ((ll0 k).length : Int) := by omega
          clear hrd hfz hu hh2 hql
          go_wp2
          refine ⟨⟨j + 1, _, by go_num, by omega, by rw [HMI.out] at WR; exact WR.out, ⟨by rw [upd_same, ← HMI.out]; exact HMK.out, fun q hq => by rw [upd_ne hq]; exact HQ.out.2 q hq⟩⟩, by simp [intOf]; omega⟩
        · obtain rfl : j = (ll0 k).length := by omega
          have HM2 := Lib.hid (show (∀ q, q < k + 1 → lq q = mkL q (ll0 q).length) ∧ ∀ q, k + 1 ≤ q → lq q = ll0 q from ⟨fun q hq => by
            by_cases e : q = k
            · subst e; rw [HQ.out.1, List.drop_length, List.append_nil]
            · rw [HQ.out.2 q e]; exact HM.out.1 q (by omega), fun q hq => by rw [HQ.out.2 q (by omega)]; exact HM.out.2 q (by omega)⟩)
          go_wp2
          exact ⟨⟨k + 1, _, lq, by go_num, rfl, by omega, SQ.out, HM2⟩, by simp [intOf]; omega⟩
    · obtain rfl : k = zs.length := by omega
      have HM0 := Lib.hid (fun q (hq : q < zs.length) => HM.out.1 q hq)
      clear HM
      go_upto_region 11 with fail
      go_loopw [6] (fun i wr => ∃ (k : Nat) (hv : Nat → Value) (ll2 : Nat → List Int), i = .int .i64 (k : Int) ∧ k ≤ zs.length ∧ SepSt B zs.length zs.length S w wr (.slice A5 zs.length c5) hv ll2 ∧ Hid ((∀ q, q < k → ll2 q = mkL q ((ll0 q).length + 1)) ∧ ∀ q, k ≤ q → q < zs.length → ll2 q = mkL q (ll0 q).length)) (fun i _ => zs.length - (intOf i).toNat)
      case atStart => exact ⟨0, hv0, ll, rfl, Nat.zero_le _, ST.out, ⟨fun q hq => by omega, fun q _ hq => HM0.out q hq⟩⟩
      case round =>
        obtain ⟨k, hv, ll2, rfl, hk, hst, HQ⟩ := hrel
        have SQ := Lib.hid hst
        clear ST HM0
        by_cases hkn : k < zs.length
        · obtain ⟨gs, cap', hgs, hcell, hfz⟩ := hst.hdr (by omega)
          simp only [Value.slice.injEq, true_and] at hgs
          obtain ⟨rfl, rfl⟩ := hgs
          have x0 := hcell k hkn
          obtain ⟨A6, c6, hf6⟩ := (hst.own k hkn).form
          have hlk : ll2 k = mkL k (ll0 k).length := HQ.out.2 k (Nat.le_refl _) hkn
          rw [hlk, mkL_len] at hf6
          rw [hf6] at x0
          have y0 := hfz k
          have hkl := HLEN.out k hkn
          have hkn2 := HN.out
          have HF6 := Lib.hid hf6
          have HLK := Lib.hid hlk
          have e1 : (0 : Int) ≤ (k : Int) := by omega
          have e2 : (k : Int) < (zs.length : Int) := by omega
          have hBw : B ≤ wr.heap.size := Nat.le_trans hst.BB hst.T.size
          have OWN := Lib.hid (show OwnZ wr B (.slice A6 (ll0 k).length c6) (mkL k (ll0 k).length) by have := hst.own k hkn; rw [hf6, hlk] at this; exact this)
          have HML := Lib.hid (mkL_len k (ll0 k).length)
          have STAY := Lib.hid (fun (w3 : World) (T : Turns (Value.slice A6 (ll0 k).length c6).ownBlock.toList wr w3) => (show w3.cell? ⟨gs, k, none⟩ = some (.slice A6 (ll0 k).length c6) ∧ w3.frozen? ⟨gs, k, none⟩ = false by
            have hgn : gs ∉ (Value.slice A6 (ll0 k).length c6).ownBlock.toList := fun hm => SQ.out.rap k hkn gs (by rw [HF6.out]; simpa using hm) rfl
            have hgl : gs < wr.heap.size := (ownBlock_cells SQ.out.row (by rfl)).2.1
            refine ⟨(T.cell hgl hgn).trans x0, ?_⟩
            have hb := T.block gs hgl hgn
            unfold World.frozen? at y0 ⊢
            simp only [hb]
            exact y0))
          have v1 : IntKind.i64.wrap (20 * (k : Int)) = 20 * (k : Int) := IntWalk.i64_in _ (by omega)
          have v2 : IntKind.i64.wrap (-5000 - 20 * (k : Int)) = -5000 - 20 * (k : Int) := IntWalk.i64_in _ (by omega)
          obtain ⟨mv, hmv⟩ : ∃ mv, mkI k (ll0 k).length = mv := ⟨_, rfl⟩
          have v3 : IntKind.i64.wrap (-5000 - 20 * (k : Int) - ((ll0 k).length : Int)) = mv := by rw [← hmv]; exact IntWalk.i64_in _ (by omega)
          have HMV := Lib.hid hmv
          clear hmv
          have FIN := Lib.hid (fun (g cap : Nat) (w3 : World) (ho : OwnZ w3 B (.slice (some ⟨g, 0, none⟩) ((mkL k (ll0 k).length).length + 1) cap) (mkL k (ll0 k).length ++ [mv])) (ht : Turns (Value.slice A6 (ll0 k).length c6).ownBlock.toList wr w3) (hat : (Value.slice A6 (ll0 k).length c6).ownBlock = some g ∨ wr.heap.size ≤ g) =>
            (show (w3.cell? ⟨gs, k, none⟩ = some (.slice A6 (ll0 k).length c6) ∧ w3.frozen? ⟨gs, k, none⟩ = false) ∧ SepSt B zs.length zs.length S w (w3.setCell ⟨gs, k, none⟩ (.slice (some ⟨g, 0, none⟩) ((ll0 k).length + 1) cap)) (.slice (some ⟨gs, 0, none⟩) zs.length c5) (upd hv k (.slice (some ⟨g, 0, none⟩) ((ll0 k).length + 1) cap)) (upd ll2 k (mkL k ((ll0 k).length + 1))) by
              rw [mkL_len] at ho
              refine ⟨STAY.out w3 ht, SQ.out.grow (l' := mkL k ((ll0 k).length + 1)) hkn rfl (by rw [mkL_len]) (by rw [HF6.out]; exact ht) ?_ (by rw [HF6.out]; exact hat)⟩
              rw [mkL_succ, HMV.out]
              exact ho))
          have x0a := fun (o : Obj) => show (wr.alloc o).cell? ⟨gs, k, none⟩ = some (.slice A6 (ll0 k).length c6) from (((Below.refl wr.heap.size wr).alloc (Nat.le_refl _) o).cell (p := ⟨gs, k, none⟩) (ownBlock_cells SQ.out.row (by rfl)).2.1).trans x0
          clear hst hcell hfz hf6 hlk
          go_wp2
          go_region_law (refine step_append_Ze OWN.out (by rfl) (.tmp 54) (.tmp 64) (by rfl) (by rfl) mv _ (by rfl) (by simp) (by rw [HML.out]; omega) (by omega) ?_; intro g cap w3 ho ht hat hlt2; obtain ⟨⟨z1, z2⟩, n1⟩ := FIN.out g cap w3 ho ht hat; have N1 := Lib.hid n1; simp only [mkL_len]; clear ho ht hat hlt2 n1)
          all_goals
            have NX := Lib.hid (show (∀ q, q < k + 1 → upd ll2 k (mkL k ((ll0 k).length + 1)) q = mkL q ((ll0 q).length + 1)) ∧ ∀ q, k + 1 ≤ q → q < zs.length → upd ll2 k (mkL k ((ll0 k).length + 1)) q = mkL q (ll0 q).length from ⟨fun q hq => by
              by_cases e : q = k
              · subst e; rw [upd_same]
              · rw [upd_ne e]; exact HQ.out.1 q (by omega), fun q hq hq2 => by rw [upd_ne (by omega)]; exact HQ.out.2 q (by omega) hq2⟩)
            go_wp2
            exact ⟨⟨k + 1, _, _, by go_num, by omega, N1.out, NX⟩, by simp [intOf]; omega⟩
        · obtain rfl : k = zs.length := by omega
          have HALL := Lib.hid (fun q (hq : q < zs.length) => HQ.out.1 q hq)
          clear HQ hst
          obtain ⟨wb, rfl⟩ : ∃ x, x = wr := ⟨_, rfl⟩
          go_upto_region 15 with fail
          go_loopw [7] (fun i wr => ∃ k : Nat, i = .int .i64 (k : Int) ∧ k ≤ zs.length ∧ Below wb.heap.size wb wr) (fun i _ => zs.length - (intOf i).toNat)
          case atStart => exact ⟨0, rfl, Nat.zero_le _, Below.refl _ _⟩
          case round =>
            obtain ⟨k, rfl, hk, hb⟩ := hrel
            have HB := Lib.hid hb
            clear hb
            by_cases hkn : k < zs.length
            · have e1 : (0 : Int) ≤ (k : Int) := by omega
              have e2 : (k : Int) < (zs.length : Int) := by omega
              obtain ⟨wc, rfl⟩ : ∃ x, x = wr := ⟨_, rfl⟩
              go_upto_region 18 with fail
              go_loopw [8] (fun jv wr => ∃ j : Nat, jv = .int .i64 (j : Int) ∧ j ≤ (ll0 k).length + 1 ∧ Below wb.heap.size wb wr) (fun jv _ => (ll0 k).length + 1 - (intOf jv).toNat)
              case atStart => exact ⟨0, rfl, Nat.zero_le _, HB.out⟩
              case round =>
                obtain ⟨j, rfl, hj, hb⟩ := hrel
                have HB2 := Lib.hid hb
                have hst := SQ.out.below hb
                obtain ⟨gs, cap', hgs, hcell, -⟩ := hst.hdr (by omega)
                simp only [Value.slice.injEq, true_and] at hgs
                obtain ⟨rfl, rfl⟩ := hgs
                have x0 := hcell k hkn
                have hlk := HALL.out k hkn
                have hll : (ll2 k).length = (ll0 k).length + 1 := by rw [hlk, mkL_len]
                obtain ⟨g2, c2, hh2, hrd, -⟩ := hst.lst hkn (by omega)
                rw [hll] at hh2
                rw [hh2] at x0
                have hkl := HLEN.out k hkn
                have hkn2 := HN.out
                clear hcell hst hb
                by_cases hjn : j < (ll0 k).length + 1
                · have d0 := hrd j (mkI k j) (by rw [hlk]; exact mkL_at hjn)
                  have e3 : (0 : Int) ≤ (j : Int) := by omega
                  have e4 : (j : Int) < (((ll0 k).length + 1 : Nat) : Int) := by omega
                  have e5 : (j : Int) < ((ll0 k).length : Int) + 1 := by omega
                  obtain ⟨mv, hmv⟩ : ∃ mv, -5000 - 20 * (k : Int) - (j : Int) = mv := ⟨_, rfl⟩
                  have d9 : wr.cell? ⟨g2, j, none⟩ = some (.int .i64 mv) := by rw [← hmv]; exact d0
                  clear d0
                  clear hrd hh2 hlk hll
                  go_wp2
                  exact ⟨⟨j + 1, by go_num, by omega, HB2.out⟩, by simp [intOf]; omega⟩
                · obtain rfl : j = (ll0 k).length + 1 := by omega
                  have e5 : ¬ (((ll0 k).length + 1 : Nat) : Int) < (((ll0 k).length + 1 : Nat) : Int) := by omega
                  clear hrd hh2 hlk hll
                  go_wp2
                  exact ⟨⟨k + 1, by go_num, by omega, HB2.out⟩, by simp [intOf]; omega⟩
            · obtain rfl : k = zs.length := by omega
              have FT := Lib.hid (SQ.out.T.trans (Turns.of_below (S := []) HB.out) (fun x hx => by simp at hx))
              go_wp2
              go_ret
              exact ⟨rfl, FT.out⟩
end Go.Proofs.YtjgigcnjgblekaaDoor

namespace Go.Proofs.YtjgigcnjgblekaaDoor
open Go Go.RowKit Go.Maps Classical

/-- A list's cell is written. -/
theorem ownZ_write {w : World} {B g c j : Nat} {l : List Int} (h : OwnZ w B (.slice (some ⟨g, 0, none⟩) l.length c) l) (x : Int) : OwnZ (w.setCell ⟨g, j, none⟩ (.int .i64 x)) B (.slice (some ⟨g, 0, none⟩) l.length c) (l.set j x) := by
  have h1 := (World.ownsRow.stored h j (.int .i64 x)).1
  unfold OwnZ
  rw [List.length_set, show intVs (l.set j x) = (intVs l).set j (.int .i64 x) by simp [intVs, List.map_set]]
  exact h1
theorem ownZ_head {w : World} {B n c : Nat} {A : Option Addr} {l : List Int} (h : OwnZ w B (.slice A n c) l) (h0 : 0 < l.length) : ∃ g, A = some ⟨g, 0, none⟩ ∧ n = l.length ∧ (∀ j x, l[j]? = some x → w.cell? ⟨g, j, none⟩ = some (.int .i64 x)) ∧ ∀ o, w.frozen? ⟨g, o, none⟩ = false := by
  rcases h.2 with ⟨_, h1⟩ | ⟨g, cap, cur, h', _, hh, _⟩
  · omega
  · have h2 := h'
    simp only [Value.slice.injEq] at h'
    obtain ⟨rfl, rfl, rfl⟩ := h'
    refine ⟨g, rfl, rfl, fun j x hx => ?_, fun o => frozen_of_row _ _ _ _ _ hh⟩
    rw [World.ownsRow.cellAt h j (by have := (List.getElem?_eq_some_iff.1 hx).1; omega)]
    simp [intVs, hx]
/-- A row of one act as an owned row. -/
theorem own_oneA {w : World} {H : Nat} {r : Int} {sv : Value} (h : w.heap[H]? = some (.cells #[.int .i64 r, sv] 30 (0, 0))) : w.ownsRow H 30 2 (.slice (some ⟨H, 0, none⟩) 1 1) 1 [.int .i64 r, sv] :=
  ⟨rfl, .inr ⟨H, 1, _, rfl, Nat.le_refl _, h, Nat.le_refl _, by unfold maxLen; decide, rfl, rfl⟩⟩
/-- The state of smudge. -/
structure SmSt (B H : Nat) (sv : Value) (n : Nat) (w wr : World) (r : Int) (l : List Int) : Prop where
  row : wr.heap[H]? = some (.cells #[.int .i64 r, sv] 30 (0, 0))
  own : OwnZ wr B sv l
  len : l.length = n
  ne : sv.ownBlock ≠ some H
  T : Turns (H :: sv.ownBlock.toList) w wr
set_option maxRecDepth 100000 in
set_option maxHeartbeats 8000000 in
theorem smudgeW (B H : Nat) (x : Ac) (sv : Value) (mark : Int) (w : World) (hrow : w.heap[H]? = some (.cells #[.int .i64 x.rule, sv] 30 (0, 0))) (hown : OwnZ w B sv x.sub) (hne : sv.ownBlock ≠ some H) (hlen : x.sub.length ≤ 100000) (hm : -100000 ≤ mark ∧ mark ≤ 100000) (hB : B ≤ w.heap.size) :
    Calls Tryd.prog 30 #[.slice (some ⟨H, 0, none⟩) 1 1, .int .i64 mark] w fun e w' => e = .returned (.tuple #[]) ∧ Turns (H :: sv.ownBlock.toList) w w' := by
  obtain ⟨A, c, rfl⟩ := hown.form
  obtain ⟨n, hn⟩ : ∃ n, x.sub.length = n := ⟨_, rfl⟩
  rw [hn] at hrow hown hne hlen ⊢
  have S0 := Lib.hid (show SmSt B H (.slice A n c) n w w x.rule x.sub from ⟨hrow, hown, hn, hne, Turns.refl _ _⟩)
  have HBW := Lib.hid hB
  have HML := Lib.hid hm
  clear hrow hown hne hn hB
  go_enter Tryd.func30, Tryd.ntmps30
  go_upto_region 1 with fail
  go_loopw [4] (fun i wr => ∃ (k : Nat) (r : Int), i = .int .i64 (k : Int) ∧ k ≤ 1 ∧ Hid (k = 0 → ∃ l, SmSt B H (.slice A n c) n w wr r l) ∧ Hid (wr.heap[H]? = some (.cells #[.int .i64 r, .slice A n c] 30 (0, 0))) ∧ Hid (Turns (H :: (Value.slice A n c).ownBlock.toList) w wr)) (fun i _ => 1 - (intOf i).toNat)
  case atStart => exact ⟨0, _, rfl, by omega, fun _ => ⟨_, S0.out⟩, S0.out.row, S0.out.T⟩
  case round =>
    obtain ⟨k, r, rfl, hk, HS0, HROW, HTT⟩ := hrel
    clear S0
    by_cases hk0 : k = 0
    · subst hk0
      obtain ⟨l, hst⟩ := HS0.out rfl
      have ST := Lib.hid hst
      have r0 := hst.row
      have x0 : wr.cell? ⟨H, 0, none⟩ = some (.int .i64 r) := cell_of_row _ _ 0 _ _ _ r0
      have xf : ∀ o, wr.frozen? ⟨H, o, none⟩ = false := fun o => frozen_of_row _ _ _ _ _ r0
      have S1 := Lib.hid (show SmSt B H (.slice A n c) n w (wr.setCell ⟨H, 0, none⟩ (.int .i64 mark)) mark l from by
        have T2 : Turns [H] wr (wr.setCell ⟨H, 0, none⟩ (.int .i64 mark)) := (Turns.refl _ _).setCell (.inl (by simp)) _
        exact ⟨heap_setCell_same _ _ 0 _ _ _ r0, ST.out.own.turns T2 (fun b hb hx => ST.out.ne (by rw [hb, List.mem_singleton.1 hx])), ST.out.len, ST.out.ne, ST.out.T.trans T2 (fun y hy => .inl (by rw [List.mem_singleton.1 hy]; simp))⟩)
      clear hst r0
      go_upto_region 5 with fail
      clear x0 xf
      go_loopw [5] (fun jv wq => ∃ (j : Nat) (lq : List Int), jv = .int .i64 (j : Int) ∧ j ≤ n ∧ SmSt B H (.slice A n c) n w wq mark lq) (fun jv _ => n - (intOf jv).toNat)
      case atStart => exact ⟨0, l, rfl, Nat.zero_le _, S1.out⟩
      case round =>
        obtain ⟨j, lq, rfl, hj, hsq⟩ := hrel
        have SQ := Lib.hid hsq
        have x1 : wr.cell? ⟨H, 1, none⟩ = some (.slice A n c) := cell_of_row _ _ 1 _ _ _ hsq.row
        have hm1 := HML.out.1
        have hm2 := HML.out.2
        clear hsq S1
        by_cases hjn : j < n
        · obtain ⟨g, hA, -, hrd, hfz⟩ := ownZ_head SQ.out.own (by rw [SQ.out.len]; omega)
          subst hA
          obtain ⟨u, hu⟩ : ∃ u, lq[j]? = some u := ⟨_, List.getElem?_eq_getElem (by rw [SQ.out.len]; omega)⟩
          have d0 := hrd j u hu
          have fz := hfz j
          have e1 : (0 : Int) ≤ (j : Int) := by omega
          have e2 : (j : Int) < (n : Int) := by omega
          have N1 := Lib.hid (fun (mv : Int) => (show SmSt B H (.slice (some ⟨g, 0, none⟩) n c) n w (wr.setCell ⟨g, j, none⟩ (.int .i64 mv)) mark (lq.set j mv) from by
            have T2 : Turns [g] wr (wr.setCell ⟨g, j, none⟩ (.int .i64 mv)) := (Turns.refl _ _).setCell (.inl (by simp)) _
            have hgH : H ∉ [g] := fun hx => SQ.out.ne (by rw [List.mem_singleton.1 hx]; rfl)
            refine ⟨(T2.block _ (lt_of_heap SQ.out.row) hgH).trans SQ.out.row, ?_, by rw [List.length_set]; exact SQ.out.len, SQ.out.ne, SQ.out.T.trans T2 (fun y hy => .inl (by rw [List.mem_singleton.1 hy]; simp [Value.ownBlock]))⟩
            have ho := SQ.out.own
            have hl := SQ.out.len
            rw [← hl] at ho ⊢
            exact ownZ_write ho mv))
          clear hrd hfz hu
          go_wp2
          exact ⟨⟨j + 1, _, by go_num, by omega, N1.out _⟩, by simp [intOf]; omega⟩
        · obtain rfl : j = n := by omega
          obtain ⟨wb, rfl⟩ : ∃ x, x = wr := ⟨_, rfl⟩
          have OW := Lib.hid (show wb.ownsRow B 3 1 (.slice A j c) j (intVs lq) by have ho := SQ.out.own; have hl := SQ.out.len; unfold OwnZ at ho; rw [hl] at ho; exact ho)
          have hsz : B ≤ wb.heap.size := Nat.le_trans HBW.out SQ.out.T.size
          go_wp2_with (at_builtin; refine wpList_append_one rfl (.tmp 41) (.tmp 43) 22 rfl B 3 Tryd.underlying22 infoIntR rfl (by decide) (.slice A j c) j (intVs lq) rfl (ownsRow_turns OW.out (Turns.of_below (S := []) ((Below.refl _ wb).alloc (Nat.le_refl _) _)) (fun _ _ => by simp)) ⟨wb.heap.size, 0, none⟩ 1 rfl [.int .i64 mark] rfl (World.news_of_block (heap_alloc_new wb _)) (by simp [Value.oneCell']) (.inl (by omega)) (by decide) (by simp; omega) ?_; intro g2 cap2 w3 hown3 ht3; have HT3 := Lib.hid ((((Turns.refl [] wb).alloc _).mono (by simp)).trans ht3 (fun y hy => .inl hy)); clear hown3 ht3)
          have hHn : H ∉ (Value.slice A j c).ownBlock.toList := fun hx => SQ.out.ne (by simpa using hx)
          have ROW3 := Lib.hid ((HT3.out.block _ (lt_of_heap SQ.out.row) hHn).trans SQ.out.row)
          have T3 := Lib.hid (SQ.out.T.trans HT3.out (fun y hy => .inl (List.mem_cons_of_mem _ hy)))
          clear hHn hsz
          go_wp2
          exact ⟨⟨1, mark, by go_num, by omega, fun h => by omega, ROW3.out, T3.out⟩, by simp [intOf]⟩
    · obtain rfl : k = 1 := by omega
      obtain ⟨wb, rfl⟩ : ∃ x, x = wr := ⟨_, rfl⟩
      have OW := Lib.hid (own_oneA HROW.out)
      have hsz : H ≤ wb.heap.size := Nat.le_of_lt (lt_of_heap HROW.out)
      clear hk0
      go_wp2_with (at_builtin; refine wpList_append_one rfl (.tmp 45) (.tmp 48) 23 rfl H 30 Tryd.underlying23 infoAct rfl (by decide) (.slice (some ⟨H, 0, none⟩) 1 1) 1 [.int .i64 r, .slice A n c] rfl (ownsRow_turns OW.out (Turns.of_below (S := []) ((Below.refl _ wb).alloc (Nat.le_refl _) _)) (fun _ _ => by simp)) ⟨wb.heap.size, 0, none⟩ 1 rfl [.int .i64 mark, .slice none 0 0] rfl (World.news_of_block (heap_alloc_new wb _)) (by simp [Value.oneCell']) (.inl (by omega)) (by decide) (by simp; omega) ?_; intro g2 cap2 w3 hown3 ht3; have HT3 := Lib.hid ((((Turns.refl [] wb).alloc _).mono (by simp)).trans ht3 (fun y hy => .inl hy)); clear hown3 ht3)
      have T3 := Lib.hid (HTT.out.trans HT3.out (fun y hy => .inl (by
        have e : y = H := by simpa [Value.ownBlock] using hy
        rw [e]
        exact List.mem_cons_self ..)))
      go_end0
      exact ⟨rfl, T3.out⟩
end Go.Proofs.YtjgigcnjgblekaaDoor

namespace Go.Proofs.YtjgigcnjgblekaaDoor
open Go Go.RowKit Go.Maps Classical

/-- K lists that were told one behind another: list k lies in blocks from lo k up to lo (k + 1). -/
structure LsOk (K : Nat) (lo : Nat → Nat) (w : World) (rv : Nat → Value) (zz : Nat → List (Ac × Value)) : Prop where
  zs : ∀ k, k < K → Zs (lo k) w (rv k) (zz k)
  rhi : ∀ k, k < K → ∀ b, (rv k).ownBlock = some b → b < lo (k + 1)
  shi : ∀ k, k < K → ∀ z ∈ zz k, ∀ b, z.2.ownBlock = some b → b < lo (k + 1)
  mono : ∀ i j, i ≤ j → lo i ≤ lo j
  top : lo K ≤ w.heap.size
def cat (zz : Nat → List (Ac × Value)) (k : Nat) : List (Ac × Value) := (List.range k).flatMap zz
theorem cat_succ (zz : Nat → List (Ac × Value)) (k : Nat) : cat zz (k + 1) = cat zz k ++ zz k := by unfold cat; rw [List.range_succ, List.flatMap_append]; simp
theorem cat_mem {zz : Nat → List (Ac × Value)} {k : Nat} {z : Ac × Value} (h : z ∈ cat zz k) : ∃ i, i < k ∧ z ∈ zz i := by
  obtain ⟨i, hi, hz⟩ := List.mem_flatMap.1 h
  exact ⟨i, List.mem_range.1 hi, hz⟩
section
variable {K : Nat} {lo : Nat → Nat} {w w' : World} {rv : Nat → Value} {zz : Nat → List (Ac × Value)}
theorem LsOk.below (h : LsOk K lo w rv zz) (hb : Below w.heap.size w w') : LsOk K lo w' rv zz :=
  ⟨fun k hk => (h.zs k hk).below hb, h.rhi, h.shi, h.mono, Nat.le_trans h.top hb.size⟩
theorem LsOk.sub (h : LsOk K lo w rv zz) {k : Nat} (hk : k < K) {z : Ac × Value} (hz : z ∈ zz k) {b : Nat} (hb : z.2.ownBlock = some b) : lo k ≤ b ∧ b < lo (k + 1) := ⟨(ownBlock_cells ((h.zs k hk).sub z hz).1 hb).1, h.shi k hk z hz b hb⟩
theorem LsOk.row (h : LsOk K lo w rv zz) {k : Nat} (hk : k < K) {b : Nat} (hb : (rv k).ownBlock = some b) : lo k ≤ b ∧ b < lo (k + 1) := ⟨(ownBlock_cells (h.zs k hk).row hb).1, h.rhi k hk b hb⟩
/-- All acts' lists lie apart. -/
theorem LsOk.apart (h : LsOk K lo w rv zz) : ∀ k, k ≤ K → (cat zz k).Pairwise (fun x y => ∀ b, x.2.ownBlock = some b → y.2.ownBlock ≠ some b)
  | 0, _ => by unfold cat; exact List.Pairwise.nil
  | k + 1, hk => by
    rw [cat_succ, List.pairwise_append]
    refine ⟨h.apart k (by omega), (h.zs k (by omega)).ap, fun x hx y hy b hb hb2 => ?_⟩
    obtain ⟨i, hi, hz⟩ := cat_mem hx
    have h1 := h.sub (by omega) hz hb
    have h2 := h.sub (by omega) hy hb2
    have h3 := h.mono (i + 1) k (by omega)
    omega
/-- separate's start. -/
theorem LsOk.sep (h : LsOk K lo w rv zz) : SepSt (lo 0) (cat zz K).length 0 ((cat zz K).flatMap fun z => z.2.ownBlock.toList) w w (.slice none 0 0) (fun q => ((cat zz K).getD q dz).2) (fun q => ((cat zz K).getD q dz).1.sub) := by
  have hget : ∀ q, q < (cat zz K).length → ∃ i, i < K ∧ (cat zz K).getD q dz ∈ zz i ∧ (cat zz K)[q]? = some ((cat zz K).getD q dz) := fun q hq => by
    have e : (cat zz K)[q]? = some ((cat zz K).getD q dz) := by rw [List.getD_eq_getElem?_getD, List.getElem?_eq_getElem hq]; rfl
    obtain ⟨i, hi, hz⟩ := cat_mem (List.mem_of_getElem? e)
    exact ⟨i, hi, hz, e⟩
  refine ⟨World.ownsRow_nil _ _ _ _, fun q hq => ?_, fun p q hp hq hpq b hb hb2 => ?_, fun q _ b _ => by simp [Value.ownBlock], fun q hq b hb => ?_, Turns.refl _ _, Nat.le_trans (h.mono 0 K (Nat.zero_le _)) h.top⟩
  · obtain ⟨i, hi, hz, _⟩ := hget q hq
    exact ((h.zs i hi).sub _ hz).1.down (h.mono 0 i (Nat.zero_le _))
  · have hpw := h.apart K (Nat.le_refl _)
    have ep : (cat zz K).getD p dz = (cat zz K)[p] := by rw [List.getD_eq_getElem?_getD, List.getElem?_eq_getElem hp]; rfl
    have eq : (cat zz K).getD q dz = (cat zz K)[q] := by rw [List.getD_eq_getElem?_getD, List.getElem?_eq_getElem hq]; rfl
    rw [ep] at hb
    rw [eq] at hb2
    rcases Nat.lt_or_ge p q with h1 | h1
    · exact List.pairwise_iff_getElem.1 hpw p q hp hq h1 b hb hb2
    · exact List.pairwise_iff_getElem.1 hpw q p hq hp (by omega) b hb2 hb
  · obtain ⟨i, hi, hz, e⟩ := hget q hq
    exact .inl (List.mem_flatMap.2 ⟨_, List.mem_of_getElem? e, by simpa using hb⟩)
end
end Go.Proofs.YtjgigcnjgblekaaDoor
