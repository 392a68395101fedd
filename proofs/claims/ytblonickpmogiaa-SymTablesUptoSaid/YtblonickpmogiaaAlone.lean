/- alone: lists that share no memory. -/
import Derived.Test.YtblonickpmogiaaMark
import Derived.Test.YtblonickpmogiaaClass
import Derived.Test.YtblonickpmogiaaRefSort
import Derived.Deep.QuietTactic
import Derived.BigQuiet
import Derived.IntWalk
import Derived.Deep.RegionHeld3
import Derived.Deep.DrawnRows
namespace Go.Proofs.Ytblonickpmogiaa
open Go.RowKit
attribute [local go_sem ↓] Go.wp_at_zero Go.wp_at_succ

theorem infoSC : (Try.prog.info? 24).map (fun i => (i.zero, i.size, i.bytes)) = some (some (.slice none 0 0), 1, 24) := by kernel_rfl
/-- The mark of list k. -/
def markC (k : Nat) : Cst := ⟨90 + k, -k, ⟨#[]⟩⟩
def markM (k : Nat) : List Value := [.int .i64 (90 + k), .int .i64 (-k), .string ⟨#[]⟩]

set_option maxRecDepth 100000 in
theorem markW (k : Nat) (hk : k ≤ 1000) (w : World) : Calls Try.prog 79 #[.int .i64 k] w fun e w' => e = .returned (.agg #[.int .i64 (90 + k), .int .i64 (-k), .string ⟨#[]⟩]) ∧ Below w.heap.size w w' := by
  have e1 : IntKind.i64.wrap (90 + (k : Int)) = 90 + k := IntWalk.i64_in _ (by omega)
  have e2 : IntKind.i64.wrap (-(k : Int)) = -k := IntWalk.i64_in _ (by omega)
  go_enter Try.func79, Try.ntmps79
  go_wp2
  refine bodyPost_ret (v := .agg #[.int .i64 (90 + k), .int .i64 (-k), .string ⟨#[]⟩]) (by simp [results, Try.results79, go_sem]) rfl ⟨rfl, ?_⟩
  exact (Below.refl _ _).alloc (Nat.le_refl _) _

/-- The three cells that are about to be written. -/
theorem St1.spots {w : World} {base : Nat} {e : TypeId} {vs : List Value} {n : Nat → Nat} {M : Nat → List Value} {k t g a cap : Nat} (h : St1 w base e 3 vs n M k t) (hk : vs[k]? = some (.slice (some ⟨g, 0, none⟩) a cap)) (hi : t < n k) :
    ∃ u0 u1 u2, w.cell? ⟨g, t * 3, none⟩ = some u0 ∧ w.cell? ⟨g, t * 3 + 1, none⟩ = some u1 ∧ w.cell? ⟨g, t * 3 + 2, none⟩ = some u2 ∧ w.frozen? ⟨g, t * 3, none⟩ = false ∧ w.frozen? ⟨g, t * 3 + 1, none⟩ = false ∧ w.frozen? ⟨g, t * 3 + 2, none⟩ = false := by
  have h0 := h k _ hk
  rw [if_neg (by omega), if_pos rfl] at h0
  have th := h0.there hi
  obtain ⟨u0, e0⟩ := Option.isSome_iff_exists.1 (th 0 (by decide)).1
  obtain ⟨u1, e1⟩ := Option.isSome_iff_exists.1 (th 1 (by decide)).1
  obtain ⟨u2, e2⟩ := Option.isSome_iff_exists.1 (th 2 (by decide)).1
  exact ⟨u0, u1, u2, e0, e1, e2, (th 0 (by decide)).2, (th 1 (by decide)).2, (th 2 (by decide)).2⟩

theorem St1.store3 {w : World} {base : Nat} {e : TypeId} {vs : List Value} {n : Nat → Nat} {S : List Nat} {H k t g cap : Nat} (h : St1 w base e 3 vs n markM k t) (hr : RowSet S H vs) (hk : vs[k]? = some (.slice (some ⟨g, 0, none⟩) (n k) cap)) (hi : t < n k) :
    St1 (((w.setCell ⟨g, t * 3, none⟩ (.int .i64 (90 + k))).setCell ⟨g, t * 3 + 1, none⟩ (.int .i64 (-k))).setCell ⟨g, t * 3 + 2, none⟩ (.string ⟨#[]⟩)) base e 3 vs n markM k (t + 1) :=
  (h.store hr hk hi rfl).1

theorem neq_self (c : Cst) (w : World) : (binOp .neq 27 (.agg #[.int .i64 c.k, .int .i64 c.n, .string c.s]) (.agg #[.int .i64 c.k, .int .i64 c.n, .string c.s])).run Try.prog w = .ok (.bool false) w := by
  simp [go_sem]

set_option maxRecDepth 100000 in
set_option maxHeartbeats 4000000 in
theorem aloneW (L ca base : Nat) (vs : List Value) (n : Nat → Nat) (S : List Nat) (w : World) (hL : ∀ j v, vs[j]? = some v → w.cell? ⟨L, j, none⟩ = some v) (hLw : L < w.heap.size) (hLS : L ∉ S)
    (hr : RowSet S w.heap.size vs) (own : ∀ j v, vs[j]? = some v → ∃ xs, w.ownsRow base 27 3 v (n j) xs) (hn : ∀ j, n j ≤ 6000000000000) (hl : vs.length ≤ 100) (hbase : base ≤ w.heap.size) :
    Calls Try.prog 35 #[.slice (some ⟨L, 0, none⟩) vs.length ca] w fun e w' => e = .returned (.bool true) ∧ Turns S w w' := by
  have FM := Lib.hid (show ∀ k v, vs[k]? = some v → ∃ a c, v = .slice a (n k) c ∧ (0 < n k → ∃ g, a = some ⟨g, 0, none⟩) from fun k v hv => by
    obtain ⟨xs, h1⟩ := own k v hv
    rcases h1.2 with ⟨rfl, h0⟩ | ⟨g, cap, cur, rfl, _, _, h1, h2, _⟩
    · exact ⟨none, 0, by rw [h0], fun h => by omega⟩
    · exact ⟨_, cap, rfl, fun _ => ⟨g, rfl⟩⟩)
  go_enter Try.func35, Try.ntmps35
  go_wp2
  go_loopw [3, 4] (fun k _ wr => ∃ j : Nat, k = .int .i64 j ∧ j ≤ vs.length ∧ St1 wr base 27 3 vs n markM j 0 ∧ Turns S w wr) (fun k _ _ => vs.length - (intOf k).toNat)
  case atStart => exact ⟨0, rfl, Nat.zero_le _, St1.start own, Turns.refl _ _⟩
  case round =>
    obtain ⟨k, rfl, hk, hst, ht⟩ := hrel
    by_cases hkn : k < vs.length
    · obtain ⟨v, hv⟩ : ∃ v, vs[k]? = some v := ⟨_, List.getElem?_eq_getElem hkn⟩
      obtain ⟨xs0, own0⟩ := own k v hv
      obtain ⟨A, c, hvv, _, _⟩ : ∃ a c, v = .slice a (n k) c ∧ n k ≤ c ∧ c ≤ maxLen := by
        rcases own0.2 with ⟨rfl, h0⟩ | ⟨g, cap, cur, rfl, _, _, h1, h2, _⟩
        · exact ⟨none, 0, by rw [h0], by omega, Nat.zero_le _⟩
        · exact ⟨_, cap, rfl, h1, h2⟩
      subst hvv
      have hkk : (0 : Int) ≤ (k : Int) := by omega
      have hnk := hn k
      have hkn' : (k : Int) < (vs.length : Int) := by omega
      have hcL := fun (W : World) (hW : Turns S w W) => (hW.cell (o := k) hLw hLS).trans (hL k _ hv)
      have CL := Lib.hid hcL
      have HK := Lib.hid hkn
      clear hcL hkn own0 
      obtain ⟨wo, rfl⟩ : ∃ wo : World, wo = wr := ⟨_, rfl⟩
      have MW := Lib.hid (fun W => markW k (by omega) W)
      go_wp2
      go_loopw [4] (fun i wr => ∃ t : Nat, i = .int .i64 t ∧ t ≤ n k ∧ St1 wr base 27 3 vs n markM k t ∧ Turns S w wr) (fun i _ => n k - (intOf i).toNat)
      case atStart => exact ⟨0, rfl, Nat.zero_le _, hst, ht⟩
      case round =>
        obtain ⟨t, rfl, htn, hst2, ht2⟩ := hrel
        have l0 := CL.out wr ht2
        by_cases hlt : t < n k
        · have l1 := CL.out wr.drew ht2.drew
          obtain ⟨g, rfl⟩ : ∃ g, A = some ⟨g, 0, none⟩ := by
            obtain ⟨xs, h1, _⟩ := hst2 k _ hv
            rcases h1.2 with ⟨h, _⟩ | ⟨g, cap, cur, h, _⟩
            · simp only [Value.slice.injEq] at h; omega
            · simp only [Value.slice.injEq] at h; exact ⟨g, h.1⟩
          have htt : (0 : Int) ≤ (t : Int) := by omega
          have htn' : (t : Int) < (n k : Int) := by omega
          have hgS : g ∈ S := hr.ins k _ g hv rfl
          have hst3 := hst2.below (Below.refl wr.heap.size wr).drew
          have HH := Lib.hid hlt
          have hS : (fun w' : World => w'.cell? ⟨L, k, none⟩ = some (.slice (some ⟨g, 0, none⟩) (n k) c) ∧ Turns S w w') wr.drew := ⟨l1, ht2.drew⟩
          have h3 := Lib.hid hst3
          have TD := Lib.hid ht2.drew
          clear hst hst2 ht hL own ht2 l1 hlt hst3
          go_wp2
          go_region_held3 (fun w' : World => w'.cell? ⟨L, k, none⟩ = some (.slice (some ⟨g, 0, none⟩) (n k) c) ∧ Turns S w w') (first | exact ⟨CL.out _ T4, T4⟩ | exact (have T5 := (((T4.setCell (p := ⟨g, _, none⟩) (.inl hgS) _).setCell (p := ⟨g, _, none⟩) (.inl hgS) _).setCell (p := ⟨g, _, none⟩) (.inl hgS) _); ⟨CL.out _ T5, T5⟩) | go_keep)
            (first | (go_at_call 79; refine (MW.out _).mono ?_; rintro e w' ⟨rfl, hbel⟩; have h4 := h3.out.below hbel; have T4 := TD.out.trans (Turns.of_below (S := []) hbel) (fun x hx => by simp at hx); obtain ⟨u0, u1, u2, y0, y1, y2, z0, z1, z2⟩ := h4.spots hv HH.out))
          have T5 := (((T4.setCell (p := ⟨g, t * 3, none⟩) (.inl hgS) (.int .i64 (90 + k))).setCell (p := ⟨g, t * 3 + 1, none⟩) (.inl hgS) (.int .i64 (-k))).setCell (p := ⟨g, t * 3 + 2, none⟩) (.inl hgS) (.string ⟨#[]⟩))
          have ST := Lib.hid (h4.store3 hr hv HH.out)
          have T6 := Lib.hid T5
          clear T4 T5 h4 y0 y1 y2 z0 z1 z2 hbel
          go_wp2
          exact ⟨⟨t + 1, by go_num, HH.out, ST.out, T6.out⟩, by simp [intOf]; have := HH.out; omega⟩
        · obtain rfl : t = n k := by omega
          have ST := Lib.hid hst2.next
          have T6 := Lib.hid ht2
          clear hst hst2 ht hL own ht2
          go_wp2
          go_roundw
          case rel => exact ⟨k + 1, by go_num, HK.out, ST.out, T6.out⟩
          case measure => simp [intOf]; have := HK.out; omega
    · obtain rfl : k = vs.length := by omega
      have s2 := St2.start (eS := 24) (H := w.heap.size) hst (fun _ => rfl)
      clear hst own
      obtain ⟨i0, hi0, hz0, hz1, hz2⟩ := info_parts infoK
      obtain ⟨i1, hi1, hz3, hz4, hz5⟩ := info_parts infoSC
      go_wp2
      go_loopw [5, 6] (fun m k wr => ∃ (j : Nat) (mv : Value) (ms : List Value), m = mv ∧ k = .int .i64 j ∧ j ≤ vs.length ∧ ms.length = j ∧ St2 wr base 27 24 3 w.heap.size vs n markM mv j ms j ms ∧ Turns S w wr) (fun _ k _ => vs.length - (intOf k).toNat)
      case atStart => exact ⟨0, _, [], rfl, rfl, Nat.zero_le _, rfl, s2, ht⟩
      case round =>
        obtain ⟨k, mv, ms, hmv, rfl, hk, hml, hst, ht⟩ := hrel
        clear s2
        by_cases hkn : k < vs.length
        · obtain ⟨v, hv⟩ : ∃ v, vs[k]? = some v := ⟨_, List.getElem?_eq_getElem hkn⟩
          obtain ⟨A, c, rfl⟩ : ∃ a c, v = .slice a (n k) c := by
            obtain ⟨xs, h1, _⟩ := hst.own k v (Nat.le_refl _) hv
            rcases h1.2 with ⟨rfl, h0⟩ | ⟨g, cap, cur, rfl, _, _, h1, h2, _⟩
            · exact ⟨none, 0, by rw [h0]⟩
            · exact ⟨_, cap, rfl⟩
          obtain ⟨ma, mc, hmf⟩ : ∃ a c, mv = .slice a k c := by
            rcases hst.more.2 with ⟨rfl, h0⟩ | ⟨g, cap, cur, rfl, _, _, h1, h2, _⟩
            · exact ⟨none, 0, by rw [h0]⟩
            · exact ⟨_, cap, rfl⟩
          subst hmf
          subst hmv
          have hkk : (0 : Int) ≤ (k : Int) := by omega
          have hkn' : (k : Int) < (vs.length : Int) := by omega
          have hnk := hn k
          have MW := Lib.hid (fun W => markW k (by omega) W)
          have CL := Lib.hid (fun (W : World) (hW : Turns S w W) => (hW.cell (o := k) hLw hLS).trans (hL k _ hv))
          have hAS : ∀ x ∈ (Value.slice A (n k) c).ownBlock.toList, x ∈ S ∨ w.heap.size ≤ x := fun x hx => .inl (hr.ins k _ x hv (by simpa using hx))
          have hS : (fun w' : World => w'.cell? ⟨L, k, none⟩ = some (.slice A (n k) c) ∧ Turns S w w') wr.drew := ⟨CL.out _ ht.drew, ht.drew⟩
          have TD := Lib.hid ht.drew
          have SD := Lib.hid (hst.below (Below.refl wr.heap.size wr).drew)
          have HK := Lib.hid hkn
          have HML := Lib.hid hml
          have HSZ := Lib.hid ht.size
          have hMS : ∀ x ∈ (Value.slice ma k mc).ownBlock.toList, x ∈ S ∨ w.heap.size ≤ x := fun x hx => .inr (ownBlock_cells hst.more (by simpa using hx)).1
          clear hst ht hL hkn hml
          go_wp2
          first | go_region_held3 (fun w' : World => w'.cell? ⟨L, k, none⟩ = some (.slice A (n k) c) ∧ Turns S w w')
            (first | exact ⟨CL.out _ T3, T3⟩ | exact ⟨CL.out _ (T2.alloc _), T2.alloc _⟩ | exact ⟨CL.out _ T2, T2⟩ | exact ⟨CL.out _ (T1.alloc _), T1.alloc _⟩ | exact ⟨CL.out _ T1, T1⟩ | go_keep)
            (first
              | (go_at_call 79; refine (MW.out _).mono ?_; rintro e w' ⟨rfl, hbel⟩; have T1 := TD.out.trans (Turns.of_below (S := []) hbel) (fun x hx => by simp at hx); have S1 := SD.out.below hbel; obtain ⟨xs, o1, o2⟩ := (S1.below ((Below.refl w'.heap.size w').alloc (Nat.le_refl _) (.cells #[.int .i64 (90 + k), .int .i64 (-k), .string ⟨#[]⟩] 27))).own k _ (Nat.le_refl _) hv)
              | (refine step_append1k _ (by rfl) (.tmp 42) (.tmp 45) 24 (by rfl) base 27 i0 _ 3 32 Try.underlying24 hi0 hz0 hz1 hz2 rfl (by decide) _ _ _ (by rfl) o1 ⟨w'.heap.size, 0, none⟩ 1 [.int .i64 (90 + k), .int .i64 (-k), .string ⟨#[]⟩] (by rfl) (by rfl) (World.news_of_block (cs := #[.int .i64 (90 + k), .int .i64 (-k), .string ⟨#[]⟩]) (t := 27) (fr := (0, 0)) (heap_alloc_new w' _)) (by simp [Value.oneCell']) (by omega) (by decide) (by have := T1.size; simp; omega) _ rfl ?_; intro g' cap w2 hown2 hgrow2 hat2 hlt2; have T2 := (T1.alloc _).trans (Turns.of_grown hgrow2) hAS; have S2 := (S1.below ((Below.refl w'.heap.size w').alloc (Nat.le_refl _) _)).grow1 hr HML.out (fun _ => rfl) (by have := T1.size; simp; omega) hv o2 o1.1 hown2 hgrow2 hat2)
              | (refine step_append1k _ (by rfl) (.tmp 38) (.tmp 47) 56 (by rfl) w.heap.size 24 i1 _ 1 24 Try.underlying56 hi1 hz3 hz4 hz5 rfl (by decide) _ _ _ (by rfl) (S2.below ((Below.refl w2.heap.size w2).alloc (Nat.le_refl _) _)).more ⟨w2.heap.size, 0, none⟩ 1 [.slice (some ⟨g', 0, none⟩) (n k + 1) cap] (by rfl) (by rfl) (World.news_of_block (cs := #[.slice (some ⟨g', 0, none⟩) (n k + 1) cap]) (t := 24) (fr := (0, 0)) (heap_alloc_new w2 _)) (by simp [Value.oneCell']) (by omega) (by decide) (by have := T2.size; simp; omega) _ rfl ?_; intro g2 cap2 w4 hown4 hgrow4 hat4 hlt4; have T3 := (T2.alloc _).trans (Turns.of_grown hgrow4) hMS; have S3 := (S2.below ((Below.refl w2.heap.size w2).alloc (Nat.le_refl _) _)).grow2 hr hown4 hgrow4 hat4)) | fail "x"
          have S4 := Lib.hid S3
          have T4 := Lib.hid T3
          clear S1 S2 S3 T1 T2 T3 hown2 hgrow2 hat2 hlt2 hown4 hgrow4 hat4 hlt4 o1 o2 hbel
          go_wp2
          exact ⟨⟨k + 1, _, _, rfl, by go_num, HK.out, by simp [HML.out], S4.out, T4.out⟩, by simp [intOf]; have := HK.out; omega⟩
        · obtain rfl : k = vs.length := by omega
          obtain ⟨ma, mc, hmf⟩ : ∃ a c, mv = .slice a vs.length c := by
            rcases hst.more.2 with ⟨rfl, h0⟩ | ⟨g, cap, cur, rfl, _, _, h1, h2, _⟩
            · exact ⟨none, 0, by rw [h0]⟩
            · exact ⟨_, cap, rfl⟩
          subst hmf
          subst hmv
          obtain ⟨ws, rfl⟩ : ∃ ws : World, ws = wr := ⟨_, rfl⟩
          go_wp2
          go_loopw [7, 8] (fun k _ wr => ∃ j : Nat, k = .int .i64 j ∧ j ≤ vs.length ∧ Below ws.heap.size ws wr) (fun k _ _ => vs.length - (intOf k).toNat)
          case atStart => exact ⟨0, rfl, Nat.zero_le _, Below.refl _ _⟩
          case round =>
            obtain ⟨k, rfl, hk, hb⟩ := hrel
            by_cases hkn : k < vs.length
            · obtain ⟨v, hv⟩ : ∃ v, vs[k]? = some v := ⟨_, List.getElem?_eq_getElem hkn⟩
              obtain ⟨A, c, rfl, hAf⟩ := FM.out k v hv
              have AF := Lib.hid hAf
              clear hAf
              obtain ⟨u, hu⟩ : ∃ u, ms[k]? = some u := ⟨_, List.getElem?_eq_getElem (by omega)⟩
              obtain ⟨g', cap', rfl, hrd', _, _⟩ := hst.mrd k u hu
              obtain ⟨hg', hrd'⟩ := hrd' g' _ _ rfl
              obtain ⟨gm, rfl⟩ : ∃ g, ma = some ⟨g, 0, none⟩ := by
                rcases hst.more.2 with ⟨h, h0⟩ | ⟨g, cap, cur, h, _⟩
                · omega
                · simp only [Value.slice.injEq] at h; exact ⟨g, h.1⟩
              have hgm : gm < ws.heap.size := (ownBlock_cells hst.more rfl).2.1
              have hmc : ws.cell? ⟨gm, k, none⟩ = some (.slice (some ⟨g', 0, none⟩) (n k + 1) cap') := by rw [hst.more.cellAt k (by omega)]; exact hu
              have hkk : (0 : Int) ≤ (k : Int) := by omega
              have hkn' : (k : Int) < (vs.length : Int) := by omega
              have hnk := hn k
              have MW := Lib.hid (fun W => markW k (by omega) W)
              have CL := Lib.hid (fun (W : World) (hW : Below ws.heap.size ws W) => (show W.cell? ⟨L, k, none⟩ = some (.slice A (n k) c) ∧ W.cell? ⟨gm, k, none⟩ = some (.slice (some ⟨g', 0, none⟩) (n k + 1) cap') from
                ⟨((ht.trans (Turns.of_below (S := []) hW) (fun x hx => by simp at hx)).cell (o := k) hLw hLS).trans (hL k _ hv), (hW.cell (p := ⟨gm, k, none⟩) hgm).trans hmc⟩))
              have HK := Lib.hid hkn
              have R1 := Lib.hid hrd'
              have R2 := Lib.hid (hst.rd k _ hv)
              have NQ := fun W => neq_self (markC k) W
              simp only [markC] at NQ
              obtain ⟨wp, rfl⟩ : ∃ wp : World, wp = wr := ⟨_, rfl⟩
              clear hst ht hL hml hu hv hkn hmc hrd'
              go_wp2
              go_loopw [8] (fun i wr => ∃ t : Nat, i = .int .i64 t ∧ t ≤ n k + 1 ∧ Below ws.heap.size ws wr) (fun i _ => n k + 1 - (intOf i).toNat)
              case atStart => exact ⟨0, rfl, Nat.zero_le _, hb⟩
              case round =>
                obtain ⟨t, rfl, ht1, hb2⟩ := hrel
                have l1 := (CL.out wr hb2).2
                have htt : (0 : Int) ≤ (t : Int) := by omega
                by_cases hlt1 : t < n k + 1
                · have ht1' : (t : Int) < ((n k + 1 : Nat) : Int) := by omega
                  have HB := Lib.hid hb2
                  have G' := Lib.hid hg'
                  have D1 := fun (W : World) (hW : Below ws.heap.size ws W) (q : Nat) (u : Value) (hu : (markM k)[q]? = some u) => (hW.cell (p := ⟨g', t * 3 + q, none⟩) G'.out).trans (R1.out t q u hlt1 hu)
                  have NE : Nonempty (Pt (Below ws.heap.size ws)) := ⟨⟨ws, Below.refl _ _⟩⟩
                  have p0 := fun p : Pt (Below ws.heap.size ws) => (CL.out p.val p.property).1
                  have p1 := fun p : Pt (Below ws.heap.size ws) => (CL.out p.val p.property).2
                  have p2 := fun p : Pt (Below ws.heap.size ws) => D1 p.val p.property 0 _ rfl
                  have p3 := fun p : Pt (Below ws.heap.size ws) => D1 p.val p.property 1 _ rfl
                  have p4 := fun p : Pt (Below ws.heap.size ws) => D1 p.val p.property 2 _ rfl
                  have l0 := (CL.out wr hb2).1
                  by_cases hlt : t < n k
                  · have hlt' : (t : Int) < (n k : Int) := by omega
                    obtain ⟨g, rfl⟩ := AF.out (by omega)
                    obtain ⟨hg, hR2⟩ := R2.out g _ _ rfl
                    have D2 := fun (W : World) (hW : Below ws.heap.size ws W) (q : Nat) (u : Value) (hu : (markM k)[q]? = some u) => (hW.cell (p := ⟨g, t * 3 + q, none⟩) hg).trans (hR2 t q u hlt hu)
                    have p5 := fun p : Pt (Below ws.heap.size ws) => D2 p.val p.property 0 _ rfl
                    have p6 := fun p : Pt (Below ws.heap.size ws) => D2 p.val p.property 1 _ rfl
                    have p7 := fun p : Pt (Below ws.heap.size ws) => D2 p.val p.property 2 _ rfl
                    simp only [Nat.add_zero] at p2 p5
                    have H1 := Lib.hid hlt
                    have HD := Lib.hid hb2.drew
                    clear D1 D2 hR2 hg hg' hlt1 hlt hb hb2 ht1
                    go_wp2
                    refine wp_region_class (S := Below ws.heap.size ws) HD.out (by kernel_rfl) (by kernel_rfl) ?_
                    repeat (go_big_quiet_step ((go_at_call 79; refine (MW.out _).mono ?_; rintro e w' ⟨rfl, hbel⟩; exact ⟨rfl, ⟨w', below_step (Pt.property _) hbel⟩, rfl⟩)))
                    refine wpQuiet_nil ?_
                    rintro _ ⟨⟨W, hW⟩, rfl⟩
                    have HF := Lib.hid hW
                    clear p0 p1 p2 p3 p4 p5 p6 p7 NE hW l0 l1
                    go_wp2
                    exact ⟨⟨t + 1, by go_num, by have := H1.out; omega, HF.out⟩, by simp [intOf]; have := H1.out; omega⟩
                  · obtain rfl : t = n k := by omega
                    simp only [Nat.add_zero] at p2
                    have HD := Lib.hid hb2.drew
                    clear D1 hg' hlt1 hlt hb hb2 ht1
                    go_wp2
                    refine wp_region_class (S := Below ws.heap.size ws) HD.out (by kernel_rfl) (by kernel_rfl) ?_
                    repeat (go_big_quiet_step ((go_at_call 79; refine (MW.out _).mono ?_; rintro e w' ⟨rfl, hbel⟩; exact ⟨rfl, ⟨w', below_step (Pt.property _) hbel⟩, rfl⟩)))
                    refine wpQuiet_nil ?_
                    rintro _ ⟨⟨W, hW⟩, rfl⟩
                    have HF := Lib.hid hW
                    clear p0 p1 p2 p3 p4 NE hW l0 l1
                    go_wp2
                    exact ⟨⟨n k + 1, by go_num, by omega, HF.out⟩, by simp [intOf]⟩
                · obtain rfl : t = n k + 1 := by omega
                  have HB := Lib.hid hb2
                  clear hb hb2 hlt1
                  go_wp2
                  go_roundw
                  case rel => exact ⟨k + 1, by go_num, HK.out, HB.out⟩
                  case measure => simp [intOf]; have := HK.out; omega
            · obtain rfl : k = vs.length := by omega
              have T6 := ht.trans (Turns.of_below (S := []) hb) (fun x hx => by simp at hx)
              clear hst ht hL hml
              go_wp2
              go_ret
              exact ⟨rfl, T6⟩
end Go.Proofs.Ytblonickpmogiaa
