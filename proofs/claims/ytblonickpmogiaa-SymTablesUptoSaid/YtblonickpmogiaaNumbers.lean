/- numbers: lists of ints that share no memory; ints. -/
import Derived.Test.YtblonickpmogiaaMark
import Derived.Test.YtblonickpmogiaaRankLaw
import Derived.Maps.AppendAt
import Derived.IntWalk
namespace Go.Proofs.Ytblonickpmogiaa
open Go.RowKit
attribute [local go_sem ↓] Go.wp_at_zero Go.wp_at_succ

theorem infoSI : (Try.prog.info? 66).map (fun i => (i.zero, i.size, i.bytes)) = some (some (.slice none 0 0), 1, 24) := by kernel_rfl
/-- The mark of list k. -/
def markI (k : Nat) : List Value := [.int .i64 (-100 - k)]

section
variable {w : World} {base : Nat} {e : TypeId} {vs : List Value} {n : Nat → Nat} {k t g a cap : Nat}
theorem St1.spot1 {M : Nat → List Value} (h : St1 w base e 1 vs n M k t) (hk : vs[k]? = some (.slice (some ⟨g, 0, none⟩) a cap)) (hi : t < n k) :
    ∃ u0, w.cell? ⟨g, t, none⟩ = some u0 ∧ w.frozen? ⟨g, t, none⟩ = false := by
  have h0 := h k _ hk
  rw [if_neg (by omega), if_pos rfl] at h0
  have th := h0.there hi
  rw [Nat.mul_one] at th
  obtain ⟨u0, e0⟩ := Option.isSome_iff_exists.1 (th 0 (by decide)).1
  exact ⟨u0, e0, (th 0 (by decide)).2⟩
theorem St1.store1 {S : List Nat} {H : Nat} (h : St1 w base e 1 vs n markI k t) (hr : RowSet S H vs) (hk : vs[k]? = some (.slice (some ⟨g, 0, none⟩) (n k) cap)) (hi : t < n k) :
    St1 (w.setCell ⟨g, t, none⟩ (.int .i64 (-100 - k))) base e 1 vs n markI k (t + 1) := by
  have := (h.store hr hk hi rfl).1
  rw [Nat.mul_one] at this
  exact this
end

set_option maxRecDepth 100000 in
set_option maxHeartbeats 4000000 in
theorem numbersW (L ca base : Nat) (vs : List Value) (n : Nat → Nat) (S : List Nat) (w : World) (hL : ∀ j v, vs[j]? = some v → w.cell? ⟨L, j, none⟩ = some v) (hLw : L < w.heap.size) (hLS : L ∉ S)
    (hr : RowSet S w.heap.size vs) (own : ∀ j v, vs[j]? = some v → ∃ xs, w.ownsRow base 3 1 v (n j) xs) (hn : ∀ j, n j ≤ 70000) (hl : vs.length ≤ 100) (hbase : base ≤ w.heap.size) :
    Calls Try.prog 44 #[.slice (some ⟨L, 0, none⟩) vs.length ca] w fun e w' => e = .returned (.bool true) ∧ Turns S w w' := by
  have FM := Lib.hid (show ∀ k v, vs[k]? = some v → ∃ a c, v = .slice a (n k) c ∧ (0 < n k → ∃ g, a = some ⟨g, 0, none⟩) from fun k v hv => by
    obtain ⟨xs, h1⟩ := own k v hv
    rcases h1.2 with ⟨rfl, h0⟩ | ⟨g, cap, cur, rfl, _, _, h1, h2, _⟩
    · exact ⟨none, 0, by rw [h0], fun h => by omega⟩
    · exact ⟨_, cap, rfl, fun _ => ⟨g, rfl⟩⟩)
  go_enter Try.func44, Try.ntmps44
  go_wp2
  go_loopw [3, 4] (fun k _ wr => ∃ j : Nat, k = .int .i64 j ∧ j ≤ vs.length ∧ St1 wr base 3 1 vs n markI j 0 ∧ Turns S w wr) (fun k _ _ => vs.length - (intOf k).toNat)
  case atStart => exact ⟨0, rfl, Nat.zero_le _, St1.start own, Turns.refl _ _⟩
  case round =>
    obtain ⟨k, rfl, hk, hst, ht⟩ := hrel
    by_cases hkn : k < vs.length
    · obtain ⟨v, hv⟩ : ∃ v, vs[k]? = some v := ⟨_, List.getElem?_eq_getElem hkn⟩
      obtain ⟨A, c, rfl, hAf⟩ := FM.out k v hv
      have AF := Lib.hid hAf
      have hkk : (0 : Int) ≤ (k : Int) := by omega
      have hnk := hn k
      have hkn' : (k : Int) < (vs.length : Int) := by omega
      have CL := Lib.hid (fun (W : World) (hW : Turns S w W) => (hW.cell (o := k) hLw hLS).trans (hL k _ hv))
      have HK := Lib.hid hkn
      clear hkn hAf
      obtain ⟨wo, rfl⟩ : ∃ wo : World, wo = wr := ⟨_, rfl⟩
      have hk100 : k ≤ 100 := by omega
      go_wp2
      go_loopw [4] (fun i wr => ∃ t : Nat, i = .int .i64 t ∧ t ≤ n k ∧ St1 wr base 3 1 vs n markI k t ∧ Turns S w wr) (fun i _ => n k - (intOf i).toNat)
      case atStart => exact ⟨0, rfl, Nat.zero_le _, hst, ht⟩
      case round =>
        obtain ⟨t, rfl, htn, hst2, ht2⟩ := hrel
        have l0 := CL.out wr ht2
        by_cases hlt : t < n k
        · obtain ⟨g, rfl⟩ := AF.out (by omega)
          have htt : (0 : Int) ≤ (t : Int) := by omega
          have htn' : (t : Int) < (n k : Int) := by omega
          have hgS : g ∈ S := hr.ins k _ g hv rfl
          obtain ⟨u0, y0, z0⟩ := hst2.spot1 hv hlt
          have T5 := ht2.setCell (p := ⟨g, t, none⟩) (.inl hgS) (.int .i64 (-100 - k))
          have e1 : IntKind.i64.wrap (-100 - (k : Int)) = -100 - k := IntWalk.i64_in _ (by omega)
          have ST := Lib.hid (hst2.store1 hr hv hlt)
          have HH := Lib.hid hlt
          have T6 := Lib.hid T5
          clear hst hst2 ht hL own ht2 hlt T5
          go_wp2
          exact ⟨⟨t + 1, by go_num, HH.out, ST.out, T6.out⟩, by simp [intOf]; have := HH.out; omega⟩
        · obtain rfl : t = n k := by omega
          have ST := Lib.hid hst2.next
          have T6 := Lib.hid ht2
          clear hst hst2 ht hL own ht2
          go_wp2
          go_roundw
          case rel => exact ⟨k + 1, by go_num, HK.out, ST.out, T6.out⟩
          case measure => simp [intOf]; have := HK.out; omega
    · obtain rfl : k = vs.length := by omega
      have s2 := St2.start (eS := 66) (H := w.heap.size) hst (fun _ => rfl)
      clear hst own
      obtain ⟨i0, hi0, hz0, hz1, hz2⟩ := info_parts infoInt
      obtain ⟨i1, hi1, hz3, hz4, hz5⟩ := info_parts infoSI
      go_wp2
      go_loopw [5, 6] (fun m k wr => ∃ (j : Nat) (mv : Value) (ms : List Value), m = mv ∧ k = .int .i64 j ∧ j ≤ vs.length ∧ ms.length = j ∧ St2 wr base 3 66 1 w.heap.size vs n markI mv j ms j ms ∧ Turns S w wr) (fun _ k _ => vs.length - (intOf k).toNat)
      case atStart => exact ⟨0, _, [], rfl, rfl, Nat.zero_le _, rfl, s2, ht⟩
      case round =>
        obtain ⟨k, mv, ms, hmv, rfl, hk, hml, hst, ht⟩ := hrel
        clear s2
        by_cases hkn : k < vs.length
        · obtain ⟨v, hv⟩ : ∃ v, vs[k]? = some v := ⟨_, List.getElem?_eq_getElem hkn⟩
          obtain ⟨A, c, rfl, -⟩ := FM.out k v hv
          obtain ⟨ma, mc, hmf⟩ : ∃ a c, mv = .slice a k c := by
            rcases hst.more.2 with ⟨rfl, h0⟩ | ⟨g, cap, cur, rfl, _, _, h1, h2, _⟩
            · exact ⟨none, 0, by rw [h0]⟩
            · exact ⟨_, cap, rfl⟩
          subst hmf
          subst hmv
          have hkk : (0 : Int) ≤ (k : Int) := by omega
          have hkn' : (k : Int) < (vs.length : Int) := by omega
          have hnk := hn k
          have hk100 : k ≤ 100 := by omega
          have e1 : IntKind.i64.wrap (-100 - (k : Int)) = -100 - k := IntWalk.i64_in _ (by omega)
          have c0 : wr.cell? ⟨L, k, none⟩ = some (.slice A (n k) c) := (ht.cell (o := k) hLw hLS).trans (hL k _ hv)
          have hAS : ∀ x ∈ (Value.slice A (n k) c).ownBlock.toList, x ∈ S ∨ w.heap.size ≤ x := fun x hx => .inl (hr.ins k _ x hv (by simpa using hx))
          obtain ⟨xs, o1, o2⟩ := (hst.below ((Below.refl wr.heap.size wr).alloc (Nat.le_refl _) (.cells #[.int .i64 (-100 - k)] 3))).own k _ (Nat.le_refl _) hv
          have HK := Lib.hid hkn
          have HML := Lib.hid hml
          have HST := Lib.hid hst
          have HT := Lib.hid ht
          have HSZ := Lib.hid ht.size
          have hMS : ∀ x ∈ (Value.slice ma k mc).ownBlock.toList, x ∈ S ∨ w.heap.size ≤ x := fun x hx => .inr (ownBlock_cells hst.more (by simpa using hx)).1
          clear hst ht hL hkn hml
          go_wp2_with (first
            | (at_builtin; refine wpList_append1k _ rfl (.tmp 42) (.tmp 45) 66 rfl base 3 i0 (.int .i64 0) 1 8 Try.underlying66 hi0 hz0 hz1 hz2 rfl (by decide) _ _ _ rfl o1 ⟨wr.heap.size, 0, none⟩ 1 [.int .i64 (-100 - k)] rfl rfl (cell_one_new _ _ _) (by simp [Value.oneCell']) (by omega) (by decide) (by have := HSZ.out; simp; omega) _ rfl ?_; intro g' cap w2 hown2 hgrow2 hat2 hlt2; have T2 := (HT.out.alloc _).trans (Turns.of_grown hgrow2) hAS; have S2 := Lib.hid ((HST.out.below ((Below.refl wr.heap.size wr).alloc (Nat.le_refl _) _)).grow1 hr HML.out (fun _ => rfl) (by have := HSZ.out; simp; omega) hv o2 o1.1 hown2 hgrow2 hat2); have H2 := Lib.hid T2.size; have o3 := (S2.out.below ((Below.refl w2.heap.size w2).alloc (Nat.le_refl _) (.cells #[.slice (some ⟨g', 0, none⟩) (n k + 1) cap] 66))).more; have HT2 := Lib.hid T2; clear T2 hown2 hgrow2 hat2 hlt2 o1 o2)
            | (at_builtin; refine wpList_append1k _ rfl (.tmp 38) (.tmp 47) 72 rfl w.heap.size 66 i1 (.slice none 0 0) 1 24 Try.underlying72 hi1 hz3 hz4 hz5 rfl (by decide) _ _ _ rfl o3 ⟨w2.heap.size, 0, none⟩ 1 [.slice (some ⟨g', 0, none⟩) (n k + 1) cap] rfl rfl (cell_one_new _ _ _) (by simp [Value.oneCell']) (by omega) (by decide) (by have := H2.out; simp; omega) _ rfl ?_; intro g2 cap2 w4 hown4 hgrow4 hat4 hlt4; have T3 := Lib.hid ((HT2.out.alloc _).trans (Turns.of_grown hgrow4) hMS); have S3 := Lib.hid ((S2.out.below ((Below.refl w2.heap.size w2).alloc (Nat.le_refl _) _)).grow2 hr hown4 hgrow4 hat4); clear hown4 hgrow4 hat4 hlt4 o3))
          exact ⟨⟨k + 1, _, _, rfl, by go_num, HK.out, by simp [HML.out], S3.out, T3.out⟩, by simp [intOf]; have := HK.out; omega⟩
        · obtain rfl : k = vs.length := by omega
          obtain ⟨ma, mc, hmf⟩ : ∃ a c, mv = .slice a vs.length c := by
            rcases hst.more.2 with ⟨rfl, h0⟩ | ⟨g, cap, cur, rfl, _, _, h1, h2, _⟩
            · exact ⟨none, 0, by rw [h0]⟩
            · exact ⟨_, cap, rfl⟩
          subst hmf
          subst hmv
          obtain ⟨ws, rfl⟩ : ∃ ws : World, ws = wr := ⟨_, rfl⟩
          go_wp2
          go_loopw [7, 8] (fun k _ wr => ∃ j : Nat, k = .int .i64 j ∧ j ≤ vs.length ∧ wr = ws) (fun k _ _ => vs.length - (intOf k).toNat)
          case atStart => exact ⟨0, rfl, Nat.zero_le _, rfl⟩
          case round =>
            obtain ⟨k, rfl, hk, rfl⟩ := hrel
            by_cases hkn : k < vs.length
            · obtain ⟨v, hv⟩ : ∃ v, vs[k]? = some v := ⟨_, List.getElem?_eq_getElem hkn⟩
              obtain ⟨A, c, rfl, hAf⟩ := FM.out k v hv
              have AF := Lib.hid hAf
              clear hAf
              obtain ⟨u, hu⟩ : ∃ u, ms[k]? = some u := ⟨_, List.getElem?_eq_getElem (by omega)⟩
              obtain ⟨g', cap', rfl, hrd', _, _⟩ := hst.mrd k u hu
              obtain ⟨hg', hrd'⟩ := hrd' g' _ _ rfl
              obtain ⟨gm, rfl⟩ : ∃ g, ma = some ⟨g, 0, none⟩ := by
                rcases hst.more.2 with ⟨h, h0⟩ | ⟨g, cap, cur, h, _⟩
                · omega
                · simp only [Value.slice.injEq] at h; exact ⟨g, h.1⟩
              have hmc : wr.cell? ⟨gm, k, none⟩ = some (.slice (some ⟨g', 0, none⟩) (n k + 1) cap') := by rw [hst.more.cellAt k (by omega)]; exact hu
              have hkk : (0 : Int) ≤ (k : Int) := by omega
              have hkn' : (k : Int) < (vs.length : Int) := by omega
              have hnk := hn k
              have hk100 : k ≤ 100 := by omega
              have e1 : IntKind.i64.wrap (-100 - (k : Int)) = -100 - k := IntWalk.i64_in _ (by omega)
              have c0 : wr.cell? ⟨L, k, none⟩ = some (.slice A (n k) c) := (ht.cell (o := k) hLw hLS).trans (hL k _ hv)
              have HK := Lib.hid hkn
              have R1 := Lib.hid hrd'
              have R2 := Lib.hid (hst.rd k _ hv)
              obtain ⟨wp, hwp⟩ : ∃ wp : World, wp = wr := ⟨_, rfl⟩
              go_wp2
              rw [← hwp]
              go_loopw [8] (fun i wr => ∃ t : Nat, i = .int .i64 t ∧ t ≤ n k + 1 ∧ wr = wp) (fun i _ => n k + 1 - (intOf i).toNat)
              case atStart => exact ⟨0, rfl, Nat.zero_le _, rfl⟩
              case round =>
                obtain ⟨t, rfl, ht1, rfl⟩ := hrel
                subst hwp
                have htt : (0 : Int) ≤ (t : Int) := by omega
                by_cases hlt1 : t < n k + 1
                · have ht1' : (t : Int) < ((n k + 1 : Nat) : Int) := by omega
                  have d1 := R1.out t 0 _ hlt1 rfl
                  rw [Nat.mul_one, Nat.add_zero] at d1
                  by_cases hlt : t < n k
                  · have hlt' : (t : Int) < (n k : Int) := by omega
                    obtain ⟨g, rfl⟩ := AF.out (by omega)
                    obtain ⟨hg, hR2⟩ := R2.out g _ _ rfl
                    have d2 := hR2 t 0 _ hlt rfl
                    rw [Nat.mul_one, Nat.add_zero] at d2
                    have H1 := Lib.hid hlt
                    clear hst ht hL hml hu hv hkn hrd' hlt1 hlt hR2 ht1
                    go_wp2
                    exact ⟨⟨t + 1, by go_num, by have := H1.out; omega, trivial⟩, by simp [intOf]; have := H1.out; omega⟩
                  · obtain rfl : t = n k := by omega
                    clear hst ht hL hml hu hv hkn hrd' hlt1 hlt ht1
                    go_wp2
                    exact ⟨⟨n k + 1, by go_num, by omega, trivial⟩, by simp [intOf]⟩
                · obtain rfl : t = n k + 1 := by omega
                  clear hst ht hL hml hu hv hkn hrd' hlt1 ht1
                  go_wp2
                  go_roundw
                  case rel => exact ⟨k + 1, by go_num, HK.out, trivial⟩
                  case measure => simp [intOf]; have := HK.out; omega
            · obtain rfl : k = vs.length := by omega
              go_wp2
              go_ret
              exact ⟨rfl, ht⟩

/-- Lists of numbers that are the same. -/
theorem intsW (va vb : Value) (ba bb : Nat) (l : List Nat) (w : World) (ha : OwnN w ba va l) (hb : OwnN w bb vb l) (hlen : l.length ≤ 70000) :
    Calls Try.prog 43 #[va, vb] w fun e w' => e = .returned (.bool true) ∧ Below w.heap.size w w' := by
  obtain ⟨aa, ca, rfl⟩ := ha.form
  obtain ⟨ab, cb, rfl⟩ := hb.form
  go_enter Try.func43, Try.ntmps43
  go_wp2
  go_loopw [5] (fun i wr => ∃ k : Nat, i = .int .i64 k ∧ k ≤ l.length ∧ Below w.heap.size w wr) (fun i _ => l.length - (intOf i).toNat)
  case atStart => exact ⟨0, rfl, Nat.zero_le _, Below.refl _ _⟩
  case round =>
    obtain ⟨k, rfl, hk, hbl⟩ := hrel
    by_cases hkn : k < l.length
    · obtain ⟨b1, c1, hu⟩ := ha.form1 (by omega)
      simp only [Value.slice.injEq] at hu
      obtain ⟨rfl, -, rfl⟩ := hu
      obtain ⟨b2, c2, hu⟩ := hb.form1 (by omega)
      simp only [Value.slice.injEq] at hu
      obtain ⟨rfl, -, rfl⟩ := hu
      have hx : l[k]? = some l[k] := List.getElem?_eq_getElem hkn
      obtain ⟨x, hxe⟩ : ∃ x, x = l[k] := ⟨_, rfl⟩
      rw [← hxe] at hx
      have d1 := (ha.turns (Turns.of_below (S := []) hbl) (fun _ _ => by simp)).cell hx
      have d2 := (hb.turns (Turns.of_below (S := []) hbl) (fun _ _ => by simp)).cell hx
      have e1 : (0 : Int) ≤ (k : Int) := by omega
      have e2 : (k : Int) < (l.length : Int) := by omega
      have HK := Lib.hid hkn
      have HB := Lib.hid hbl
      clear ha hb hbl hx hxe hkn hk
      go_wp2
      go_quiet (fail)
      have HB2 := Lib.hid (HB.out.trans (below_drewN (Below.refl _ _) nq))
      go_wp2
      exact ⟨⟨k + 1, by go_num, HK.out, HB2.out⟩, by simp [intOf]; have := HK.out; omega⟩
    · obtain rfl : k = l.length := by omega
      go_wp2
      go_ret
      exact ⟨rfl, hbl⟩
end Go.Proofs.Ytblonickpmogiaa
