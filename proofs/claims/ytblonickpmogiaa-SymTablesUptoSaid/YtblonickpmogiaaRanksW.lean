/- The walk of SymRanks: it returns true. -/
import Derived.Test.YtblonickpmogiaaRankLaw
import Derived.Test.YtblonickpmogiaaFilled
import Derived.Test.YtblonickpmogiaaMade
import Derived.Deep.AppendLies
import Derived.Deep.RegionHeld3
namespace Go.Proofs.Ytblonickpmogiaa
open Go.RowKit Go.Maps Go.Shelf
attribute [local go_sem ↓] Go.wp_at_zero Go.wp_at_succ

/-- The list that is built: the call's own, of constants that may be. -/
structure Rl (w wr : World) (v : Value) (xs : List Cst) : Prop where
  own : OwnC wr w.heap.size v xs
  ok : ∀ c ∈ xs, c.ok
  below : Below w.heap.size w wr
theorem Rl.push {w wr w2 w3 : World} {v v' : Value} {xs ys : List Cst} (h : Rl w wr v xs) (hb : Below wr.heap.size wr w2) (ho : w3.ownsRow w.heap.size 27 3 v' (xs.length + ys.length) (xs.flatMap Cst.cells ++ ys.flatMap Cst.cells)) (hg : w2.grownBy w3 v.ownBlock) (hy : ∀ c ∈ ys, c.ok) : Rl w w3 v' (xs ++ ys) := by
  refine ⟨?_, ?_, ?_⟩
  · unfold OwnC
    rw [List.length_append, List.flatMap_append]
    exact ho
  · intro c hc
    rcases List.mem_append.1 hc with h1 | h1
    · exact h.ok c h1
    · exact hy c h1
  · exact (below_step h.below hb).trans ((Turns.of_grown hg).below (Nat.le_trans h.below.size hb.size) (fun x hx => (ownBlock_cells h.own (by simpa using hx)).1))

theorem rl_two {w wr w2 w3 : World} {v v' : Value} {xs : List Cst} {d c : Cst} (h : Rl w wr v xs) (hb : Below wr.heap.size wr w2) (ho : w3.ownsRow w.heap.size 27 3 v' (xs.length + 2) (xs.flatMap Cst.cells ++ [.int .i64 d.k, .int .i64 d.n, .string d.s, .int .i64 c.k, .int .i64 c.n, .string c.s])) (hg : w2.grownBy w3 v.ownBlock) (hd : d.ok) (hc : c.ok) : Rl w w3 v' (xs ++ [d, c]) :=
  h.push hb (ys := [d, c]) ho hg (by simp; exact ⟨hd, hc⟩)

/-- Behind Sorted and Ranks. -/
structure RK (base : Nat) (W : World) (g m : Nat) (sv : Value) (ks : List Cst) (s r : Value) (l : List Nat) : Prop where
  ids : IdsAt Try.prog kindT base W g m sv ks
  sd : OwnN W base s l
  rk : OwnN W base r (rk l ks.length)
theorem RK.below {base : Nat} {W W' : World} {g m : Nat} {sv : Value} {ks : List Cst} {s r : Value} {l : List Nat} (h : RK base W g m sv ks s r l) (hb : Below W.heap.size W W') : RK base W' g m sv ks s r l :=
  ⟨h.ids.below hb, h.sd.turns (Turns.of_below (S := []) hb) (fun _ _ => by simp), h.rk.turns (Turns.of_below (S := []) hb) (fun _ _ => by simp)⟩

theorem rk_all {base : Nat} {w2 w3 w4 : World} {g m : Nat} {sv s r : Value} {ks : List Cst} {l : List Nat} (hx : IdsAt Try.prog kindT base w2 g m sv ks) (hz : base ≤ w2.heap.size) (q1 : OwnN w3 w2.heap.size s l) (q4 : Below w2.heap.size w2 w3) (r3 : OwnN w4 w3.heap.size r (rk l ks.length)) (r4 : Below w3.heap.size w3 w4) :
    RK base w4 g m sv ks s r l :=
  ⟨hx.below (below_step q4 r4), OwnN.turns (ownsRow_weakT q1 hz) (Turns.of_below (S := []) r4) (fun _ _ => by simp), ownsRow_weakT r3 (Nat.le_trans hz q4.size)⟩

set_option maxRecDepth 100000 in
set_option maxHeartbeats 8000000 in
theorem ranksLawW (A : Option Addr) (ca : Nat) (cs : List Cst) (w : World) (hA : SlAt w w.heap.size 3 Cst.cells A cs) (hok : ∀ c ∈ cs, c.ok) (hlen : cs.length ≤ maxLen) :
    Calls Try.prog 11 #[.slice A cs.length ca] w fun e w' => e = .returned (.bool true) ∧ Below w.heap.size w w' := by
  obtain ⟨i0, hi0, hz0, hz1, hz2⟩ := info_parts infoK
  go_enter Try.func11, Try.ntmps11
  go_wp2_with fail
  unfold maxLen at hlen
  go_loopw [3, 4] (fun lv i wr => ∃ (v : Value) (k : Nat) (xs : List Cst), lv = v ∧ i = .int .i64 k ∧ k ≤ cs.length ∧ k ≤ 30000 ∧ xs.length = 2 * k ∧ Hid (Rl w wr v xs)) (fun _ i _ => cs.length - (intOf i).toNat)
  case atStart => exact ⟨_, 0, [], rfl, rfl, Nat.zero_le _, Nat.zero_le _, rfl, ⟨⟨rfl, .inl ⟨rfl, rfl⟩⟩, by simp, Below.refl _ _⟩⟩
  case round =>
    obtain ⟨v, k, xs, hlv, rfl, hk, hk3, hxl, hR⟩ := hrel
    subst hlv
    by_cases hkn : k < cs.length
    · by_cases hk30 : k < 30000
      · obtain ⟨b, off, rfl, hblt, hc⟩ := hA.form (by omega)
        have hci := (hc k cs[k] (List.getElem?_eq_getElem hkn)).at3
        have oki := hok _ (List.getElem_mem hkn)
        obtain ⟨c, hce⟩ : ∃ c, c = cs[k] := ⟨_, rfl⟩
        rw [← hce] at hci oki
        obtain ⟨k0, k1, k2⟩ := hci
        have CL := Lib.hid (fun (W : World) (hW : Below w.heap.size w W) => (show W.cell? ⟨b, off + k * 3, none⟩ = some (.int .i64 c.k) ∧ W.cell? ⟨b, off + k * 3 + 1, none⟩ = some (.int .i64 c.n) ∧ W.cell? ⟨b, off + k * 3 + 2, none⟩ = some (.string c.s) ∧ Below w.heap.size w W from
          ⟨(hW.cell (p := ⟨b, off + k * 3, none⟩) hblt).trans k0, (hW.cell (p := ⟨b, off + k * 3 + 1, none⟩) hblt).trans k1, (hW.cell (p := ⟨b, off + k * 3 + 2, none⟩) hblt).trans k2, hW⟩))
        obtain ⟨c0, c1, c2, hbw⟩ := CL.out wr hR.out.below
        have hkk : (0 : Int) ≤ (k : Int) := by omega
        have hkn' : (k : Int) < (cs.length : Int) := by omega
        have hk3' : (k : Int) < 30000 := by omega
        have HK := Lib.hid (And.intro hkn (And.intro hk30 hxl))
        have HL := Lib.hid (show xs.length + 2 ≤ maxLen ∧ (xs.length + 2) * 32 ≤ 140737488355328 from ⟨by unfold maxLen; omega, by omega⟩)
        have MW := Lib.hid (fun W => madeW c oki W)
        have OK := Lib.hid oki
        have HS := Lib.hid hR.out.below.size
        obtain ⟨va, vc, rfl⟩ := own_anyC hR.out.own
        have RD := Lib.hid (show Below wr.heap.size wr wr.drew from (Below.refl _ _).drew)
        clear hc hce k0 k1 k2 hA hok hkn hk30 hk hk3 hxl oki
        go_wp2_with fail
        go_region_held3 (fun w' : World => w'.cell? ⟨b, off + k * 3, none⟩ = some (.int .i64 c.k) ∧ w'.cell? ⟨b, off + k * 3 + 1, none⟩ = some (.int .i64 c.n) ∧ w'.cell? ⟨b, off + k * 3 + 2, none⟩ = some (.string c.s) ∧ Below w.heap.size w w')
          (first | exact CL.out _ hbw.drew | exact CL.out _ B3 | exact CL.out _ (B1.alloc (Nat.le_trans HS.out S1.out) _) | exact CL.out _ B1 | go_keep)
          (first
            | (go_at_call 36; refine (MW.out _).mono ?_; rintro e w' ⟨d, rfl, dok, _, hbel⟩; have D1 := below_step RD.out hbel; have B1 := below_step hR.out.below D1; have S1 := Lib.hid D1.size; have A1 := Lib.hid ((D1.alloc D1.size (.cells #[.int .i64 d.k, .int .i64 d.n, .string d.s, .int .i64 c.k, .int .i64 c.n, .string c.s] 27))); have o1 := ownC_below hR.out.own A1.out)
            | (refine step_append_lies _ (by rfl) (.tmp 26) (.tmp 36) 24 (by rfl) w.heap.size 27 i0 _ 3 32 Try.underlying24 hi0 hz0 hz1 hz2 rfl (by decide) _ _ _ (by rfl) o1 ⟨w'.heap.size, 0, none⟩ 2 2 [.int .i64 d.k, .int .i64 d.n, .string d.s, .int .i64 c.k, .int .i64 c.n, .string c.s] (by rfl) (by rfl) (World.news_of_block (cs := #[.int .i64 d.k, .int .i64 d.n, .string d.s, .int .i64 c.k, .int .i64 c.n, .string c.s]) (t := 27) (fr := (0, 0)) (heap_alloc_new w' _)) (by simp [Value.oneCell']) (by decide) HL.out.1 HL.out.2 (Nat.le_trans HS.out A1.out.size) _ rfl ?_; intro g' cap w2 hown2 hgrow2 hat2 hlt2; have R3 := rl_two hR.out A1.out hown2 hgrow2 dok OK.out; have B3 := R3.below))
        have F3 := Lib.hid R3
        have F4 := Lib.hid (show (xs ++ [d, c]).length = 2 * (k + 1) by simp; have := HK.out; omega)
        clear R3 B3 B1 D1 o1 hown2 hgrow2 hat2 hlt2 hbel dok
        go_wp2_with fail
        exact ⟨⟨_, k + 1, _, rfl, by go_num, by have := HK.out; omega, by have := HK.out; omega, F4.out, F3.out⟩, by simp [intOf]; have := HK.out; omega⟩
      · obtain rfl : k = 30000 := by omega
        obtain ⟨AL, cL, rfl, _⟩ := own_all hR.out.own
        have FW := Lib.hid (filledW AL cL xs wr (own_slA hR.out.own) hR.out.ok (by omega))
        have HB0 := Lib.hid hR.out.below
        have HX := Lib.hid hxl
        have h30 : (30000 : Int) < (cs.length : Int) := by omega
        clear hR hk hk3 hxl hA hok hlen
        go_wp2_with fail
        refine FW.out.mono ?_
        rintro e w2 ⟨g, sv, ks, rfl, hx, nd, _, hkl, hb⟩
        have hkl7 : ks.length ≤ 60000 := by have := HX.out; omega
        have HB2 := Lib.hid (below_step HB0.out hb)
        have XI := Lib.hid hx
        have LW := Lib.hid (lenT hx)
        have SW := Lib.hid (sortedW hx (by omega))
        have ND := Lib.hid nd
        have HZ := Lib.hid hb.size
        clear hx hb hkl nd
        go_wp2_with (first
          | (go_at_call 27; refine LW.out.mono ?_; rintro e w' ⟨rfl, rfl⟩)
          | (go_at_call 38; refine SW.out.mono ?_; rintro e w3 ⟨u, l, rfl, q1, q2, q3, q4⟩; have RW := Lib.hid (ranksW (XI.out.below q4) (by omega)); obtain ⟨sa, sc, rfl⟩ := q1.form; have hll := ids_len q2; rw [hll] at q1 ⊢; have QQ := Lib.hid (And.intro q1 (And.intro q2 (And.intro q3 q4))); clear q1 q2 q3 q4 hll)
          | (go_at_call 39; refine RW.out.mono ?_; rintro e w4 ⟨r, l2, rfl, r1, r2, r3, r4⟩; obtain rfl := sdIds_unique ND.out QQ.out.2.1 r1 QQ.out.2.2.1 r2; obtain ⟨ra, rc, rfl⟩ := r3.form; rw [rk_length, ids_len r1] at r3 ⊢; have K4 := Lib.hid (rk_all XI.out HZ.out QQ.out.1 QQ.out.2.2.2 r3 r4); have HB4 := Lib.hid (below_step HB2.out (below_step QQ.out.2.2.2 r4)); have LL := Lib.hid (And.intro r1 r2); clear r1 r2 r3 r4))
        go_loopw [10] (fun i wr => ∃ k : Nat, i = .int .i64 k ∧ k ≤ ks.length ∧ Below w4.heap.size w4 wr) (fun i _ => ks.length - (intOf i).toNat)
        case atStart => exact ⟨0, rfl, Nat.zero_le _, Below.refl _ _⟩
        case round =>
          obtain ⟨i, rfl, hi, hb⟩ := hrel
          by_cases hin : i < ks.length
          · obtain ⟨a, ha, hra, hla⟩ := rank_at LL.out.1 hin
            have KR := K4.out.below hb
            obtain ⟨sb, sc', hu⟩ := KR.sd.form1 (by rw [ids_len LL.out.1]; omega)
            simp only [Value.slice.injEq] at hu
            obtain ⟨rfl, -, rfl⟩ := hu
            obtain ⟨rb, rc', hu⟩ := KR.rk.form1 (by rw [rk_length, ids_len LL.out.1]; omega)
            simp only [Value.slice.injEq] at hu
            obtain ⟨rfl, -, rfl⟩ := hu
            have c0 := KR.rk.cell hra
            have c1 := KR.sd.cell hla
            obtain ⟨c, hc⟩ : ∃ c, ks[i]? = some c := ⟨ks[i], List.getElem?_eq_getElem hin⟩
            have TC := Lib.hid (fun W hW => tConst_in (KR.ids.below (w' := W) hW) hc)
            have TF := Lib.hid (fun W hW => findT_hit (KR.ids.below (w' := W) hW) hc)
            have e1 : (0 : Int) ≤ (i : Int) := by omega
            have e2 : (i : Int) < (ks.length : Int) := by omega
            have e3 : (0 : Int) ≤ (a : Int) := by omega
            have e4 : (a : Int) < (ks.length : Int) := by omega
            have g1 : decide ((a : Int) < 0) = false := by simp
            have g2 : decide ((ks.length : Int) ≤ (a : Int)) = false := by simp; omega
            have g3 : decide (ks.length ≤ a) = false := by simp; omega
            have HB := Lib.hid hb
            clear KR hb
            go_wp2_with fail
            refine (TC.out _ (Below.refl _ _)).mono ?_
            rintro e w5 ⟨rfl, hb5⟩
            go_wp2_with fail
            obtain ⟨W7, hW7⟩ : ∃ W7, W7 = w5.alloc (.cells #[.int .i64 c.k, .int .i64 c.n, .string c.s] 27) := ⟨_, rfl⟩
            have hx7 : W7.heap[w5.heap.size]? = some (.cells #[.int .i64 c.k, .int .i64 c.n, .string c.s] 27 (0, 0)) := by rw [hW7]; exact heap_alloc_new w5 _
            have l7 : w5.heap.size < W7.heap.size := by rw [hW7]; simp
            have hb7 : Below wr.heap.size wr W7 := by rw [hW7]; exact hb5.alloc hb5.size _
            rw [← hW7]
            have NE : Nonempty (Pt (Below W7.heap.size W7)) := ⟨⟨W7, Below.refl _ _⟩⟩
            have p0 := fun p : Pt (Below W7.heap.size W7) => (p.property.cell (p := ⟨w5.heap.size, 0, none⟩) l7).trans (cell_of_row W7 _ 0 _ _ _ hx7)
            have p1 := fun p : Pt (Below W7.heap.size W7) => (p.property.cell (p := ⟨w5.heap.size, 1, none⟩) l7).trans (cell_of_row W7 _ 1 _ _ _ hx7)
            have p2 := fun p : Pt (Below W7.heap.size W7) => (p.property.cell (p := ⟨w5.heap.size, 2, none⟩) l7).trans (cell_of_row W7 _ 2 _ _ _ hx7)
            have HB7 := Lib.hid hb7
            have HX7 := Lib.hid hx7
            have HL7 := Lib.hid l7
            obtain ⟨B7, hB7⟩ : ∃ B7, B7 = w5.heap.size := ⟨_, rfl⟩
            rw [← hB7] at p0 p1 p2 HX7 HL7 ⊢
            clear hx7 l7 hb7 hb5 hW7 hB7 c0 c1
            refine wp_region_class (S := Below W7.heap.size W7) (Below.refl _ _).drew (by kernel_rfl) (by kernel_rfl) ?_
            repeat (go_big_quiet_step ((go_at_call 41; refine (TF.out _ (below_step HB7.out (Pt.property _))).mono ?_; rintro e w' ⟨rfl, hbel⟩; exact ⟨rfl, ⟨w', below_step (Pt.property _) hbel⟩, rfl⟩)))
            refine wpQuiet_nil ?_
            rintro _ ⟨⟨W8, hW8⟩, rfl⟩
            have HB8 := Lib.hid (HB.out.trans ((below_step HB7.out hW8).mono HB.out.size))
            have HX8 := Lib.hid ((hW8.block _ HL7.out).trans HX7.out)
            clear p0 p1 p2 NE hW8
            go_wp2
            rename_i V8
            go_loopw [13] (fun j wx => ∃ q : Nat, j = .int .i64 q ∧ q ≤ ks.length ∧ Below V8.heap.size V8 wx) (fun j _ => ks.length - (intOf j).toNat)
            case atStart => exact ⟨0, rfl, Nat.zero_le _, Below.refl _ _⟩
            case round =>
              obtain ⟨j, rfl, hj, hbx⟩ := hrel
              by_cases hjn : j < ks.length
              · obtain ⟨b, hbk, hrb, hlb⟩ := rank_at LL.out.1 hjn
                have KR := K4.out.below (HB8.out.trans (hbx.mono HB8.out.size))
                obtain ⟨d, hd⟩ : ∃ d, ks[j]? = some d := ⟨ks[j], List.getElem?_eq_getElem hjn⟩
                have hz := rank_lt ND.out LL.out.1 LL.out.2 hc hd hla hlb
                have TD := Lib.hid (fun W hW => tConst_in (KR.ids.below (w' := W) hW) hd)
                have AH := Lib.hid (fun W => aheadW d c W)
                have hz' : aheadB d c = decide (b < a) := by rw [← hz]; simp
                rw [hz'] at AH
                have f1 : (0 : Int) ≤ (j : Int) := by omega
                have f2 : (j : Int) < (ks.length : Int) := by omega
                have HJ := Lib.hid hjn
                have HBX := Lib.hid hbx
                clear hz hz' hjn hbx hbk hlb
                have HIN := Lib.hid hin
                have HRA := Lib.hid hra
                have HRB := Lib.hid hrb
                clear hin hra hrb hla hi hj hc hd
                go_wp2_with fail
                refine (TD.out _ (Below.refl _ _)).mono ?_
                rintro e w9 ⟨rfl, hb9⟩
                go_wp2_with fail
                obtain ⟨V, hV⟩ : ∃ V, V = w9.alloc (.cells #[.int .i64 d.k, .int .i64 d.n, .string d.s] 27) := ⟨_, rfl⟩
                have hxv : V.heap[w9.heap.size]? = some (.cells #[.int .i64 d.k, .int .i64 d.n, .string d.s] 27 (0, 0)) := by rw [hV]; exact heap_alloc_new w9 _
                have lv : w9.heap.size < V.heap.size := by rw [hV]; simp
                have hbv : Below wr.heap.size wr V := by rw [hV]; exact hb9.alloc hb9.size _
                rw [← hV]
                have NE : Nonempty (Pt (Below V.heap.size V)) := ⟨⟨V, Below.refl _ _⟩⟩
                have hVV := HBX.out.trans (hbv.mono HBX.out.size)
                have hx7 := (hVV.block _ (lt_of_heap HX8.out)).trans HX8.out
                have KV := KR.below hbv
                have ca' := KV.rk.cell HRA.out
                have cb' := KV.rk.cell HRB.out
                have l7 := lt_of_heap hx7
                have lr : rb < V.heap.size := by obtain ⟨_, hh, _⟩ := ownN_block KV.rk; exact lt_of_heap hh
                have p0 := fun p : Pt (Below V.heap.size V) => (p.property.cell (p := ⟨B7, 0, none⟩) l7).trans (cell_of_row V _ 0 _ _ _ hx7)
                have p1 := fun p : Pt (Below V.heap.size V) => (p.property.cell (p := ⟨B7, 1, none⟩) l7).trans (cell_of_row V _ 1 _ _ _ hx7)
                have p2 := fun p : Pt (Below V.heap.size V) => (p.property.cell (p := ⟨B7, 2, none⟩) l7).trans (cell_of_row V _ 2 _ _ _ hx7)
                have p3 := fun p : Pt (Below V.heap.size V) => (p.property.cell (p := ⟨w9.heap.size, 0, none⟩) lv).trans (cell_of_row V _ 0 _ _ _ hxv)
                have p4 := fun p : Pt (Below V.heap.size V) => (p.property.cell (p := ⟨w9.heap.size, 1, none⟩) lv).trans (cell_of_row V _ 1 _ _ _ hxv)
                have p5 := fun p : Pt (Below V.heap.size V) => (p.property.cell (p := ⟨w9.heap.size, 2, none⟩) lv).trans (cell_of_row V _ 2 _ _ _ hxv)
                have p6 := fun p : Pt (Below V.heap.size V) => (p.property.cell (p := ⟨rb, i, none⟩) lr).trans ca'
                have p7 := fun p : Pt (Below V.heap.size V) => (p.property.cell (p := ⟨rb, j, none⟩) lr).trans cb'
                have HVV := Lib.hid hVV
                obtain ⟨B9, hB9⟩ : ∃ B9, B9 = w9.heap.size := ⟨_, rfl⟩
                rw [← hB9] at p3 p4 p5 ⊢
                clear hxv lv hbv hV hB9 hVV hx7 KV ca' cb' l7 lr hb9 KR
                refine wp_region_class (S := Below V.heap.size V) (Below.refl _ _).drew (by kernel_rfl) (by kernel_rfl) ?_
                repeat (go_big_quiet_step ((go_at_call 42; refine (AH.out _).mono ?_; rintro e w' ⟨rfl, hbel⟩; exact ⟨rfl, ⟨w', below_step (Pt.property _) hbel⟩, rfl⟩)))
                refine wpQuiet_nil ?_
                rintro _ ⟨⟨W10, hW10⟩, rfl⟩
                have H10 := Lib.hid (HVV.out.trans (hW10.mono HVV.out.size))
                clear p0 p1 p2 p3 p4 p5 p6 p7 NE hW10
                go_wp2
                exact ⟨⟨j + 1, by go_num, HJ.out, H10.out⟩, by simp [intOf]; have := HJ.out; omega⟩
              · obtain rfl : j = ks.length := by omega
                have HIN := Lib.hid hin
                have H11 := Lib.hid (HB8.out.trans (hbx.mono HB8.out.size))
                clear hin hi hbx
                go_wp2_with fail
                exact ⟨⟨i + 1, by go_num, HIN.out, H11.out⟩, by simp [intOf]; have := HIN.out; omega⟩
          · obtain rfl : i = ks.length := by omega
            go_wp2_with fail
            go_ret
            exact ⟨rfl, HB4.out.trans (hb.mono HB4.out.size)⟩
    · obtain rfl : k = cs.length := by omega
      obtain ⟨AL, cL, rfl, _⟩ := own_all hR.out.own
      have FW := Lib.hid (filledW AL cL xs wr (own_slA hR.out.own) hR.out.ok (by omega))
      have HB0 := Lib.hid hR.out.below
      have HX := Lib.hid (show xs.length ≤ 60000 by omega)
      clear hR hk hk3 hxl hA hok hlen
      go_wp2_with fail
      refine FW.out.mono ?_
      rintro e w2 ⟨g, sv, ks, rfl, hx, nd, _, hkl, hb⟩
      have hkl7 : ks.length ≤ 60000 := by have := HX.out; omega
      have HB2 := Lib.hid (below_step HB0.out hb)
      have XI := Lib.hid hx
      have LW := Lib.hid (lenT hx)
      have SW := Lib.hid (sortedW hx (by omega))
      have ND := Lib.hid nd
      have HZ := Lib.hid hb.size
      clear hx hb hkl nd
      go_wp2_with (first
        | (go_at_call 27; refine LW.out.mono ?_; rintro e w' ⟨rfl, rfl⟩)
        | (go_at_call 38; refine SW.out.mono ?_; rintro e w3 ⟨u, l, rfl, q1, q2, q3, q4⟩; have RW := Lib.hid (ranksW (XI.out.below q4) (by omega)); obtain ⟨sa, sc, rfl⟩ := q1.form; have hll := ids_len q2; rw [hll] at q1 ⊢; have QQ := Lib.hid (And.intro q1 (And.intro q2 (And.intro q3 q4))); clear q1 q2 q3 q4 hll)
        | (go_at_call 39; refine RW.out.mono ?_; rintro e w4 ⟨r, l2, rfl, r1, r2, r3, r4⟩; obtain rfl := sdIds_unique ND.out QQ.out.2.1 r1 QQ.out.2.2.1 r2; obtain ⟨ra, rc, rfl⟩ := r3.form; rw [rk_length, ids_len r1] at r3 ⊢; have K4 := Lib.hid (rk_all XI.out HZ.out QQ.out.1 QQ.out.2.2.2 r3 r4); have HB4 := Lib.hid (below_step HB2.out (below_step QQ.out.2.2.2 r4)); have LL := Lib.hid (And.intro r1 r2); clear r1 r2 r3 r4))
      go_loopw [10] (fun i wr => ∃ k : Nat, i = .int .i64 k ∧ k ≤ ks.length ∧ Below w4.heap.size w4 wr) (fun i _ => ks.length - (intOf i).toNat)
      case atStart => exact ⟨0, rfl, Nat.zero_le _, Below.refl _ _⟩
      case round =>
        obtain ⟨i, rfl, hi, hb⟩ := hrel
        by_cases hin : i < ks.length
        · obtain ⟨a, ha, hra, hla⟩ := rank_at LL.out.1 hin
          have KR := K4.out.below hb
          obtain ⟨sb, sc', hu⟩ := KR.sd.form1 (by rw [ids_len LL.out.1]; omega)
          simp only [Value.slice.injEq] at hu
          obtain ⟨rfl, -, rfl⟩ := hu
          obtain ⟨rb, rc', hu⟩ := KR.rk.form1 (by rw [rk_length, ids_len LL.out.1]; omega)
          simp only [Value.slice.injEq] at hu
          obtain ⟨rfl, -, rfl⟩ := hu
          have c0 := KR.rk.cell hra
          have c1 := KR.sd.cell hla
          obtain ⟨c, hc⟩ : ∃ c, ks[i]? = some c := ⟨ks[i], List.getElem?_eq_getElem hin⟩
          have TC := Lib.hid (fun W hW => tConst_in (KR.ids.below (w' := W) hW) hc)
          have TF := Lib.hid (fun W hW => findT_hit (KR.ids.below (w' := W) hW) hc)
          have e1 : (0 : Int) ≤ (i : Int) := by omega
          have e2 : (i : Int) < (ks.length : Int) := by omega
          have e3 : (0 : Int) ≤ (a : Int) := by omega
          have e4 : (a : Int) < (ks.length : Int) := by omega
          have g1 : decide ((a : Int) < 0) = false := by simp
          have g2 : decide ((ks.length : Int) ≤ (a : Int)) = false := by simp; omega
          have g3 : decide (ks.length ≤ a) = false := by simp; omega
          have HB := Lib.hid hb
          clear KR hb
          go_wp2_with fail
          refine (TC.out _ (Below.refl _ _)).mono ?_
          rintro e w5 ⟨rfl, hb5⟩
          go_wp2_with fail
          obtain ⟨W7, hW7⟩ : ∃ W7, W7 = w5.alloc (.cells #[.int .i64 c.k, .int .i64 c.n, .string c.s] 27) := ⟨_, rfl⟩
          have hx7 : W7.heap[w5.heap.size]? = some (.cells #[.int .i64 c.k, .int .i64 c.n, .string c.s] 27 (0, 0)) := by rw [hW7]; exact heap_alloc_new w5 _
          have l7 : w5.heap.size < W7.heap.size := by rw [hW7]; simp
          have hb7 : Below wr.heap.size wr W7 := by rw [hW7]; exact hb5.alloc hb5.size _
          rw [← hW7]
          have NE : Nonempty (Pt (Below W7.heap.size W7)) := ⟨⟨W7, Below.refl _ _⟩⟩
          have p0 := fun p : Pt (Below W7.heap.size W7) => (p.property.cell (p := ⟨w5.heap.size, 0, none⟩) l7).trans (cell_of_row W7 _ 0 _ _ _ hx7)
          have p1 := fun p : Pt (Below W7.heap.size W7) => (p.property.cell (p := ⟨w5.heap.size, 1, none⟩) l7).trans (cell_of_row W7 _ 1 _ _ _ hx7)
          have p2 := fun p : Pt (Below W7.heap.size W7) => (p.property.cell (p := ⟨w5.heap.size, 2, none⟩) l7).trans (cell_of_row W7 _ 2 _ _ _ hx7)
          have HB7 := Lib.hid hb7
          have HX7 := Lib.hid hx7
          have HL7 := Lib.hid l7
          obtain ⟨B7, hB7⟩ : ∃ B7, B7 = w5.heap.size := ⟨_, rfl⟩
          rw [← hB7] at p0 p1 p2 HX7 HL7 ⊢
          clear hx7 l7 hb7 hb5 hW7 hB7 c0 c1
          refine wp_region_class (S := Below W7.heap.size W7) (Below.refl _ _).drew (by kernel_rfl) (by kernel_rfl) ?_
          repeat (go_big_quiet_step ((go_at_call 41; refine (TF.out _ (below_step HB7.out (Pt.property _))).mono ?_; rintro e w' ⟨rfl, hbel⟩; exact ⟨rfl, ⟨w', below_step (Pt.property _) hbel⟩, rfl⟩)))
          refine wpQuiet_nil ?_
          rintro _ ⟨⟨W8, hW8⟩, rfl⟩
          have HB8 := Lib.hid (HB.out.trans ((below_step HB7.out hW8).mono HB.out.size))
          have HX8 := Lib.hid ((hW8.block _ HL7.out).trans HX7.out)
          clear p0 p1 p2 NE hW8
          go_wp2
          rename_i V8
          go_loopw [13] (fun j wx => ∃ q : Nat, j = .int .i64 q ∧ q ≤ ks.length ∧ Below V8.heap.size V8 wx) (fun j _ => ks.length - (intOf j).toNat)
          case atStart => exact ⟨0, rfl, Nat.zero_le _, Below.refl _ _⟩
          case round =>
            obtain ⟨j, rfl, hj, hbx⟩ := hrel
            by_cases hjn : j < ks.length
            · obtain ⟨b, hbk, hrb, hlb⟩ := rank_at LL.out.1 hjn
              have KR := K4.out.below (HB8.out.trans (hbx.mono HB8.out.size))
              obtain ⟨d, hd⟩ : ∃ d, ks[j]? = some d := ⟨ks[j], List.getElem?_eq_getElem hjn⟩
              have hz := rank_lt ND.out LL.out.1 LL.out.2 hc hd hla hlb
              have TD := Lib.hid (fun W hW => tConst_in (KR.ids.below (w' := W) hW) hd)
              have AH := Lib.hid (fun W => aheadW d c W)
              have hz' : aheadB d c = decide (b < a) := by rw [← hz]; simp
              rw [hz'] at AH
              have f1 : (0 : Int) ≤ (j : Int) := by omega
              have f2 : (j : Int) < (ks.length : Int) := by omega
              have HJ := Lib.hid hjn
              have HBX := Lib.hid hbx
              clear hz hz' hjn hbx hbk hlb
              have HIN := Lib.hid hin
              have HRA := Lib.hid hra
              have HRB := Lib.hid hrb
              clear hin hra hrb hla hi hj hc hd
              go_wp2_with fail
              refine (TD.out _ (Below.refl _ _)).mono ?_
              rintro e w9 ⟨rfl, hb9⟩
              go_wp2_with fail
              obtain ⟨V, hV⟩ : ∃ V, V = w9.alloc (.cells #[.int .i64 d.k, .int .i64 d.n, .string d.s] 27) := ⟨_, rfl⟩
              have hxv : V.heap[w9.heap.size]? = some (.cells #[.int .i64 d.k, .int .i64 d.n, .string d.s] 27 (0, 0)) := by rw [hV]; exact heap_alloc_new w9 _
              have lv : w9.heap.size < V.heap.size := by rw [hV]; simp
              have hbv : Below wr.heap.size wr V := by rw [hV]; exact hb9.alloc hb9.size _
              rw [← hV]
              have NE : Nonempty (Pt (Below V.heap.size V)) := ⟨⟨V, Below.refl _ _⟩⟩
              have hVV := HBX.out.trans (hbv.mono HBX.out.size)
              have hx7 := (hVV.block _ (lt_of_heap HX8.out)).trans HX8.out
              have KV := KR.below hbv
              have ca' := KV.rk.cell HRA.out
              have cb' := KV.rk.cell HRB.out
              have l7 := lt_of_heap hx7
              have lr : rb < V.heap.size := by obtain ⟨_, hh, _⟩ := ownN_block KV.rk; exact lt_of_heap hh
              have p0 := fun p : Pt (Below V.heap.size V) => (p.property.cell (p := ⟨B7, 0, none⟩) l7).trans (cell_of_row V _ 0 _ _ _ hx7)
              have p1 := fun p : Pt (Below V.heap.size V) => (p.property.cell (p := ⟨B7, 1, none⟩) l7).trans (cell_of_row V _ 1 _ _ _ hx7)
              have p2 := fun p : Pt (Below V.heap.size V) => (p.property.cell (p := ⟨B7, 2, none⟩) l7).trans (cell_of_row V _ 2 _ _ _ hx7)
              have p3 := fun p : Pt (Below V.heap.size V) => (p.property.cell (p := ⟨w9.heap.size, 0, none⟩) lv).trans (cell_of_row V _ 0 _ _ _ hxv)
              have p4 := fun p : Pt (Below V.heap.size V) => (p.property.cell (p := ⟨w9.heap.size, 1, none⟩) lv).trans (cell_of_row V _ 1 _ _ _ hxv)
              have p5 := fun p : Pt (Below V.heap.size V) => (p.property.cell (p := ⟨w9.heap.size, 2, none⟩) lv).trans (cell_of_row V _ 2 _ _ _ hxv)
              have p6 := fun p : Pt (Below V.heap.size V) => (p.property.cell (p := ⟨rb, i, none⟩) lr).trans ca'
              have p7 := fun p : Pt (Below V.heap.size V) => (p.property.cell (p := ⟨rb, j, none⟩) lr).trans cb'
              have HVV := Lib.hid hVV
              obtain ⟨B9, hB9⟩ : ∃ B9, B9 = w9.heap.size := ⟨_, rfl⟩
              rw [← hB9] at p3 p4 p5 ⊢
              clear hxv lv hbv hV hB9 hVV hx7 KV ca' cb' l7 lr hb9 KR
              refine wp_region_class (S := Below V.heap.size V) (Below.refl _ _).drew (by kernel_rfl) (by kernel_rfl) ?_
              repeat (go_big_quiet_step ((go_at_call 42; refine (AH.out _).mono ?_; rintro e w' ⟨rfl, hbel⟩; exact ⟨rfl, ⟨w', below_step (Pt.property _) hbel⟩, rfl⟩)))
              refine wpQuiet_nil ?_
              rintro _ ⟨⟨W10, hW10⟩, rfl⟩
              have H10 := Lib.hid (HVV.out.trans (hW10.mono HVV.out.size))
              clear p0 p1 p2 p3 p4 p5 p6 p7 NE hW10
              go_wp2
              exact ⟨⟨j + 1, by go_num, HJ.out, H10.out⟩, by simp [intOf]; have := HJ.out; omega⟩
            · obtain rfl : j = ks.length := by omega
              have HIN := Lib.hid hin
              have H11 := Lib.hid (HB8.out.trans (hbx.mono HB8.out.size))
              clear hin hi hbx
              go_wp2_with fail
              exact ⟨⟨i + 1, by go_num, HIN.out, H11.out⟩, by simp [intOf]; have := HIN.out; omega⟩
        · obtain rfl : i = ks.length := by omega
          go_wp2_with fail
          go_ret
          exact ⟨rfl, HB4.out.trans (hb.mono HB4.out.size)⟩
end Go.Proofs.Ytblonickpmogiaa
