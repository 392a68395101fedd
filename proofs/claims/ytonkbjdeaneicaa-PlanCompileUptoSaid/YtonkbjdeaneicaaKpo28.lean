/- PlanCompile: the compiled plan is the reference's, whatever the rules. -/
import Derived.Test.YtonkbjdeaneicaaKpo27
import Derived.Deep.Cut
namespace Go.Proofs.Ytonkbjdeaneicaa
open Go.RowKit Pln Classical Go.Maps

set_option maxRecDepth 200000 in
set_option maxHeartbeats 32000000 in
theorem compilePW {F : Nat → Prop} (v : Value) (rs : List Rl) (W : World) (h : RRules F W v rs) (hS : rs.length ≤ 1048576 ∧ ∀ r ∈ rs, rlSm 1048576 r) :
    Calls Try.prog 3 #[v] W fun e W' => e = .returned (.bool true) ∧ Below W.heap.size W W' := by
  have RC := Lib.hid (rcompileU v rs W h hS)
  have hlen := plF_len hS.1
  obtain ⟨A, c, rfl⟩ := h.form
  have hm := hS.1
  have HH := Lib.hid h
  have SM := Lib.hid hS
  obtain ⟨P0, hP0⟩ : ∃ P0, plF rs = P0 := ⟨_, rfl⟩
  obtain ⟨E0, hE0⟩ : ∃ E0, erF rs = E0 := ⟨_, rfl⟩
  rw [hP0] at hlen
  have PE := Lib.hid (And.intro hP0 hE0)
  have LEN := Lib.hid hlen
  clear h hS hP0 hE0 hlen
  go_enter Try.func3, Try.ntmps3
  go_wp2_with fail
  refine RC.out.mono ?_
  rintro e W1 ⟨hb1, av, nv, ev, rfl, hP⟩
  rw [PE.out.1] at hP
  rw [PE.out.2]
  obtain ⟨A1, C1, rfl⟩ := hP.al.form
  obtain ⟨A2, C2, rfl⟩ := hP.ns.form
  obtain ⟨A3, C3, rfl⟩ := hP.en.form
  have HP1 := Lib.hid hP
  have HB1 := Lib.hid hb1
  clear hP hb1 RC
  go_upto_region 2 with fail
  obtain ⟨w2, hw2⟩ : ∃ w2, w2 = W1.alloc (.cells #[.slice A1 P0.1.length C1, .slice A2 P0.2.1.length C2, .slice A3 P0.2.2.length C3] 27) := ⟨_, rfl⟩
  have X2 := Lib.hid (show w2.heap[W1.heap.size]? = some (.cells #[.slice A1 P0.1.length C1, .slice A2 P0.2.1.length C2, .slice A3 P0.2.2.length C3] 27 (0, 0)) from by rw [hw2]; exact heap_alloc_new W1 _)
  have HB2 := Lib.hid (show Below W1.heap.size W1 w2 from by rw [hw2]; exact (Below.refl _ _).alloc (Nat.le_refl _) _)
  have RO := Lib.hid (rulesOfW _ rs w2 (RRules.kp (F' := fun b => b < W.heap.size) HH.out (Kp.of_below (HB1.out.trans (HB2.out.mono HB1.out.size))) (fun b hb _ => hb)) SM.out)
  rw [← hw2]
  clear hw2
  go_wp2_with fail
  refine RO.out.mono ?_
  rintro e w3 ⟨v', rfl, hO, hb3⟩
  obtain ⟨A', c', rfl⟩ := hO.form
  have hn40 : rs.length ≤ 40000000 := by omega
  have hs3 : w2.heap.size ≤ w3.heap.size := hb3.size
  have HO := Lib.hid hO
  have HB3 := Lib.hid hb3
  clear hO hb3 RO
  go_wp2_with (at_builtin; refine wpList_append_L HO.out rfl (.tmp 21) (.tmp 23) 22 rfl Try.underlying22 infoRl rfl (by decide) rfl #[.int .i64 0, .slice none 0 0, .slice none 0 0, .slice none 0 0, .slice none 0 0, .slice none 0 0, .int .i64 (-77)] _ rfl rfl (x := rMark) (erMark _ _) hn40 (by decide) hs3 ?_; intro g cap w4 ho4 ht4 hat4 hlt4; have HO4 := Lib.hid ho4; have HB4 := Lib.hid (below_own HB3.out ht4 (fun b hb => (HO.out.block hb).1)); have hcap := (ho4.rsl (F := fun _ => True) (fun _ _ => trivial)).cap; have hcut := (fun w => run_cutR (some ⟨g, 0, none⟩) (rs.length + 1) cap rs.length (by omega) (by simpa using hcap.2) w); clear ho4 ht4 hat4 hcap)
  have GV := Lib.hid (fun (Wx : World) (hx : Below w4.heap.size w4 Wx) => (show RRules (fun b => b < Wx.heap.size) Wx (.slice (some ⟨g, 0, none⟩) rs.length cap) rs from by
    have h1 := ((HO4.out.below hx).rsl' (F := fun b => b < Wx.heap.size) (fun b _ h => h)).take (k := rs.length) (by simp)
    rw [List.take_left] at h1
    exact h1))
  refine (compileU _ rs w4 (GV.out w4 (Below.refl _ _)) SM.out).mono ?_
  rintro e W5 ⟨hb5, av, nv, ev, xa1, xn1, xe1, G1, rfl, hP⟩
  rw [PE.out.1] at hP
  rw [PE.out.2]
  obtain ⟨B1, D1, rfl⟩ := hP.rd.al.form
  obtain ⟨B2, D2, rfl⟩ := hP.rd.ns.form
  obtain ⟨B3, D3, rfl⟩ := hP.rd.en.form
  have HP5 := Lib.hid hP
  have HB5 := Lib.hid hb5
  clear hP hb5 hcut
  go_upto_region 5 with fail
  obtain ⟨w6, hw6⟩ : ∃ w6, w6 = W5.alloc (.cells #[.slice B1 P0.1.length D1, .slice B2 P0.2.1.length D2, .slice B3 P0.2.2.length D3] 27) := ⟨_, rfl⟩
  have X6 := Lib.hid (show w6.heap[W5.heap.size]? = some (.cells #[.slice B1 P0.1.length D1, .slice B2 P0.2.1.length D2, .slice B3 P0.2.2.length D3] 27 (0, 0)) from by rw [hw6]; exact heap_alloc_new W5 _)
  have HB6 := Lib.hid (show Below W5.heap.size W5 w6 from by rw [hw6]; exact (Below.refl _ _).alloc (Nat.le_refl _) _)
  rw [← hw6]
  clear hw6
  go_wp2_with fail
  obtain ⟨w7, hw7⟩ : ∃ w7, w7 = (((w6.alloc (.cells #[.int .i64 0, .slice none 0 0] 34)).alloc (.cells #[.int .i64 2, .slice none 0 0] 34)).alloc (.cells #[.int .i64 1, .slice none 0 0, .slice (some ⟨w6.heap.size, 0, none⟩) 1 1, .slice none 0 0, .slice (some ⟨w6.heap.size + 1, 0, none⟩) 1 1, .slice none 0 0, .int .i64 0] 39)) := ⟨_, rfl⟩
  have HB7 := Lib.hid (show Below w6.heap.size w6 w7 from by rw [hw7]; exact (((Below.refl _ _).alloc (Nat.le_refl _) _).alloc (by simp) _).alloc (by simp <;> omega) _)
  have RO1 : RRules (fun _ => True) w7 (.slice (some ⟨w6.heap.size + 1 + 1, 0, none⟩) 1 1) [rOther] := by
    refine rules_one (H0 := w6.heap.size) (H1 := w6.heap.size + 1) (T0 := 34) (T1 := 34) (T2 := 39) ?_ ?_ ?_
    · rw [hw7, Below.heap_alloc _ _ _ (by simp <;> omega), Below.heap_alloc _ _ _ (by simp)]
      exact heap_alloc_new w6 _
    · rw [hw7, Below.heap_alloc _ _ _ (by simp)]
      have := heap_alloc_new (w6.alloc (.cells #[.int .i64 0, .slice none 0 0] 34)) (.cells #[.int .i64 2, .slice none 0 0] 34)
      simpa using this
    · rw [hw7]
      have := heap_alloc_new ((w6.alloc (.cells #[.int .i64 0, .slice none 0 0] 34)).alloc (.cells #[.int .i64 2, .slice none 0 0] 34)) (.cells #[.int .i64 1, .slice none 0 0, .slice (some ⟨w6.heap.size, 0, none⟩) 1 1, .slice none 0 0, .slice (some ⟨w6.heap.size + 1, 0, none⟩) 1 1, .slice none 0 0, .int .i64 0] 39)
      simpa using this
  have CO := Lib.hid (compileU _ [rOther] w7 RO1 smOther)
  rw [← hw7]
  clear hw7 RO1
  refine CO.out.mono ?_
  rintro e W8 ⟨hb8, av, nv, ev, xa2, xn2, xe2, G2, rfl, hP⟩
  rw [otherL.2]
  obtain ⟨U1, V1, rfl⟩ := hP.rd.al.form
  obtain ⟨U2, V2, rfl⟩ := hP.rd.ns.form
  obtain ⟨U3, V3, rfl⟩ := hP.rd.en.form
  have HP8 := Lib.hid hP
  have HB8 := Lib.hid hb8
  clear hP hb8 CO
  go_upto_region 6 with fail
  obtain ⟨w9, hw9⟩ : ∃ w9, w9 = W8.alloc (.cells #[.slice U1 (plF [rOther]).1.length V1, .slice U2 (plF [rOther]).2.1.length V2, .slice U3 (plF [rOther]).2.2.length V3] 27) := ⟨_, rfl⟩
  have X9 := Lib.hid (show w9.heap[W8.heap.size]? = some (.cells #[.slice U1 (plF [rOther]).1.length V1, .slice U2 (plF [rOther]).2.1.length V2, .slice U3 (plF [rOther]).2.2.length V3] 27 (0, 0)) from by rw [hw9]; exact heap_alloc_new W8 _)
  have HB9 := Lib.hid (show Below W8.heap.size W8 w9 from by rw [hw9]; exact (Below.refl _ _).alloc (Nat.le_refl _) _)
  have B49 := Lib.hid (show Below w4.heap.size w4 w9 from by
    have s5 := HB5.out.size
    have s6 := HB6.out.size
    have s7 := HB7.out.size
    have s8 := HB8.out.size
    exact HB5.out.trans ((HB6.out.mono s5).trans ((HB7.out.mono (by omega)).trans ((HB8.out.mono (by omega)).trans (HB9.out.mono (by omega))))))
  rw [← hw9]
  clear hw9
  go_wp2_with fail
  refine (compileU _ rs w9 (GV.out w9 B49.out) SM.out).mono ?_
  rintro e W10 ⟨hb10, av, nv, ev, xa3, xn3, xe3, G3, rfl, hP⟩
  rw [PE.out.1] at hP
  rw [PE.out.2]
  obtain ⟨Y1, Z1, rfl⟩ := hP.rd.al.form
  obtain ⟨Y2, Z2, rfl⟩ := hP.rd.ns.form
  obtain ⟨Y3, Z3, rfl⟩ := hP.rd.en.form
  have HP10 := Lib.hid hP
  have HB10 := Lib.hid hb10
  clear hP hb10
  go_upto_region 7 with fail
  obtain ⟨w11, hw11⟩ : ∃ w11, w11 = W10.alloc (.cells #[.slice Y1 P0.1.length Z1, .slice Y2 P0.2.1.length Z2, .slice Y3 P0.2.2.length Z3] 27) := ⟨_, rfl⟩
  have X11 := Lib.hid (show w11.heap[W10.heap.size]? = some (.cells #[.slice Y1 P0.1.length Z1, .slice Y2 P0.2.1.length Z2, .slice Y3 P0.2.2.length Z3] 27 (0, 0)) from by rw [hw11]; exact heap_alloc_new W10 _)
  have HB11 := Lib.hid (show Below W10.heap.size W10 w11 from by rw [hw11]; exact (Below.refl _ _).alloc (Nat.le_refl _) _)
  rw [← hw11]
  clear hw11
  have SZ := Lib.hid (show w2.heap.size ≤ w4.heap.size ∧ w4.heap.size ≤ W5.heap.size ∧ W5.heap.size < w6.heap.size ∧ w6.heap.size ≤ w7.heap.size ∧ w7.heap.size ≤ W8.heap.size ∧ W8.heap.size < w9.heap.size ∧ w9.heap.size ≤ W10.heap.size ∧ W10.heap.size < w11.heap.size ∧ W1.heap.size < w2.heap.size ∧ W.heap.size ≤ W1.heap.size from
    ⟨HB4.out.size, HB5.out.size, lt_of_heap X6.out, HB7.out.size, HB8.out.size, lt_of_heap X9.out, HB10.out.size, lt_of_heap X11.out, lt_of_heap X2.out, HB1.out.size⟩)
  obtain ⟨s24, s45, s56, s67, s78, s89, s910, s1011, s12, s01⟩ := SZ.out
  have B911 := Lib.hid (show Below w9.heap.size w9 w11 from HB10.out.trans (HB11.out.mono s910))
  have B411 := Lib.hid (show Below w4.heap.size w4 w11 from B49.out.trans (B911.out.mono (by omega)))
  have B711 := Lib.hid (show Below w7.heap.size w7 w11 from HB8.out.trans ((HB9.out.mono s78).trans (B911.out.mono (by omega))))
  have B611 := Lib.hid (show Below w6.heap.size w6 w11 from HB7.out.trans (B711.out.mono s67))
  have B211 := Lib.hid (show Below w2.heap.size w2 w11 from HB4.out.trans (B411.out.mono s24))
  have K3 := Lib.hid ((B211.out.block _ s12).trans X2.out)
  have K7 := Lib.hid ((B611.out.block _ s56).trans X6.out)
  have K9 := Lib.hid ((B911.out.block _ s89).trans X9.out)
  obtain ⟨Ap, cp, m1, m2⟩ := mark_cells (HO4.out.below B411.out)
  have k9 := (cell_of_row _ _ 1 _ _ _ K9.out).trans (rfl : _ = some (Value.slice U2 (plF [rOther]).2.1.length V2))
  rw [otherL.1] at k9
  clear s24 s45 s56 s67 s78 s89 s910 s1011 s12 s01
  have q30 := rboxL K3.out 0 rfl
  have q31 := rboxL K3.out 1 rfl
  have q32 := rboxL K3.out 2 rfl
  have q70 := rboxL K7.out 0 rfl
  have q71 := rboxL K7.out 1 rfl
  have q72 := rboxL K7.out 2 rfl
  have B511 := Lib.hid (show Below W5.heap.size W5 w11 from HB6.out.trans (B611.out.mono (by have := SZ.out; omega)))
  have B111 := Lib.hid (show Below W1.heap.size W1 w11 from HB2.out.trans (B211.out.mono (by have := SZ.out; omega)))
  have P5 := Lib.hid (HP5.out.below B511.out)
  have P8 := Lib.hid (HP8.out.below (HB9.out.trans (B911.out.mono (by have := SZ.out; omega))))
  have P10 := Lib.hid (HP10.out.below HB11.out)
  have P1 := Lib.hid (HP1.out.below B111.out)
  have EQ1 := Lib.hid (eqU w11 P5.out.rd P1.out LEN.out)
  have K11 := X11
  clear X11
  go_wp2_with fail
  refine EQ1.out.mono ?_
  rintro e W12 ⟨rfl, hb12⟩
  have J3 := Lib.hid ((hb12.block _ (lt_of_heap K3.out)).trans K3.out)
  have J7 := Lib.hid ((hb12.block _ (lt_of_heap K7.out)).trans K7.out)
  have J9 := Lib.hid ((hb12.block _ (lt_of_heap K9.out)).trans K9.out)
  have J11 := Lib.hid ((hb12.block _ (lt_of_heap K11.out)).trans K11.out)
  have HB12 := Lib.hid hb12
  clear hb12 q30 q31 q32 q70 q71 q72 k9 m1 m2 EQ1
  have EQ2 := Lib.hid (eqU W12 (P10.out.below HB12.out).rd (P1.out.below HB12.out) LEN.out)
  have q30 := rboxL J3.out 0 rfl
  have q31 := rboxL J3.out 1 rfl
  have q32 := rboxL J3.out 2 rfl
  have q40 := rboxL J11.out 0 rfl
  have q41 := rboxL J11.out 1 rfl
  have q42 := rboxL J11.out 2 rfl
  go_wp2_with fail
  refine EQ2.out.mono ?_
  rintro e W13 ⟨rfl, hb13⟩
  have B13 := Lib.hid (show Below w11.heap.size w11 W13 from HB12.out.trans (hb13.mono HB12.out.size))
  have I3 := Lib.hid ((hb13.block _ (lt_of_heap J3.out)).trans J3.out)
  have I7 := Lib.hid ((hb13.block _ (lt_of_heap J7.out)).trans J7.out)
  have I9 := Lib.hid ((hb13.block _ (lt_of_heap J9.out)).trans J9.out)
  have I11 := Lib.hid ((hb13.block _ (lt_of_heap J11.out)).trans J11.out)
  clear hb13 q30 q31 q32 q40 q41 q42 EQ2 J3 J7 J9 J11 HB12
  have B413 := Lib.hid (show Below w4.heap.size w4 W13 from B411.out.trans (B13.out.mono (by have := SZ.out; omega)))
  have BW13 := Lib.hid (show Below W.heap.size W W13 from HB1.out.trans (B111.out.mono (by have := SZ.out; omega)) |>.trans (B13.out.mono (by have := SZ.out; omega)))
  have EC := Lib.hid (equalChainsW _ _ rs W13 (GV.out W13 B413.out) (RRules.kp (F' := fun b => b < W.heap.size) HH.out (Kp.of_below BW13.out) (fun b hb _ => hb)))
  go_wp2_with fail
  refine EC.out.mono ?_
  rintro e W14 ⟨rfl, hb14⟩
  have B14 := Lib.hid (show Below w11.heap.size w11 W14 from B13.out.trans (hb14.mono B13.out.size))
  have J3 := Lib.hid ((hb14.block _ (lt_of_heap I3.out)).trans I3.out)
  have J7 := Lib.hid ((hb14.block _ (lt_of_heap I7.out)).trans I7.out)
  have J9 := Lib.hid ((hb14.block _ (lt_of_heap I9.out)).trans I9.out)
  have J11 := Lib.hid ((hb14.block _ (lt_of_heap I11.out)).trans I11.out)
  clear hb14 EC I3 I7 I9 I11 BW13
  have q70 := rboxL J7.out 0 rfl
  have q71 := rboxL J7.out 1 rfl
  have q72 := rboxL J7.out 2 rfl
  have q90 := rboxL J9.out 0 rfl
  have q91 := rboxL J9.out 1 rfl
  have q92 := rboxL J9.out 2 rfl
  have q40 := rboxL J11.out 0 rfl
  have q41 := rboxL J11.out 1 rfl
  have q42 := rboxL J11.out 2 rfl
  have FM : Fam W14 (tri w4.heap.size w7.heap.size w9.heap.size) (tri W5.heap.size W8.heap.size W10.heap.size) (tri (.slice B1 P0.1.length D1) (.slice U1 (plF [rOther]).1.length V1) (.slice Y1 P0.1.length Z1)) (tri (.slice B2 P0.2.1.length D2) (.slice U2 (plF [rOther]).2.1.length V2) (.slice Y2 P0.2.1.length Z2)) (tri (.slice B3 P0.2.2.length D3) (.slice U3 (plF [rOther]).2.2.length V3) (.slice Y3 P0.2.2.length Z3)) (tri P0 (plF [rOther]) P0) (tri xa1 xa2 xa3) (tri xn1 xn2 xn3) (tri xe1 xe2 xe3) (tri G1 G2 G3) := by
    refine ⟨three3 (P5.out.below B14.out) (P8.out.below B14.out) (P10.out.below B14.out), fun i j hij hj => ?_, three3 LEN.out (plF_len (by decide)) LEN.out⟩
    have := SZ.out
    have h3 : (i = 0 ∧ j = 1) ∨ (i = 0 ∧ j = 2) ∨ (i = 1 ∧ j = 2) := by omega
    rcases h3 with ⟨rfl, rfl⟩ | ⟨rfl, rfl⟩ | ⟨rfl, rfl⟩
    · show W5.heap.size ≤ w7.heap.size; omega
    · show W5.heap.size ≤ w9.heap.size; omega
    · show W8.heap.size ≤ w9.heap.size; omega
  have JU := Lib.hid (joinedU FM (three3 (Nat.le_refl _) (show w4.heap.size ≤ w7.heap.size by have := SZ.out; omega) (show w4.heap.size ≤ w9.heap.size by have := SZ.out; omega)) (show w4.heap.size ≤ W14.heap.size by have := SZ.out; have := B14.out.size; omega))
  clear FM
  go_wp2_with fail
  refine JU.out.mono ?_
  rintro e W15 ⟨⟨hb15, hk15⟩, pa, pn, rfl, CF⟩
  have HB15 := Lib.hid hb15
  have J3' := Lib.hid (hk15 _ _ J3.out)
  have J7' := Lib.hid (hk15 _ _ J7.out)
  have HCF := Lib.hid CF
  clear hb15 hk15 CF JU q70 q71 q72 q90 q91 q92 q40 q41 q42
  go_wp2_with fail
  refine HCF.out.mono ?_
  rintro e W16 ⟨rfl, hb16, hk16⟩
  have I3 := Lib.hid (hk16 _ _ J3'.out)
  have I7 := Lib.hid (hk16 _ _ J7'.out)
  have B16 := Lib.hid (show Below w4.heap.size w4 W16 from (B411.out.trans (B14.out.mono (by have := SZ.out; omega))).trans (HB15.out.trans hb16))
  clear hb16 hk16 HCF J3 J7 J9 J11 J3' J7'
  go_wp2_with fail
  have hg2 := (HO4.out.block (b := g) rfl).1
  have B216 := Lib.hid (show Below w2.heap.size w2 W16 from HB4.out.trans (B16.out.mono (by have := SZ.out; omega)))
  have O16 := Lib.hid (HO4.out.below B16.out)
  have hg5 : g < W5.heap.size := by have := SZ.out; omega
  have HG := Lib.hid (And.intro hg2 hg5)
  clear hg2 hg5
  go_loopw [13] (fun iv wr => ∃ (i : Nat) (zs : List Rl), iv = .int .i64 i ∧ i ≤ rs.length / 2 ∧ zs.length = rs.length + 1 ∧ (∀ q, q < rs.length → ∃ r ∈ rs, zs[q]? = some r) ∧ OwnL w2.heap.size wr 39 cdRl (.slice (some ⟨g, 0, none⟩) (rs.length + 1) cap) zs ∧ Below w2.heap.size w2 wr ∧ wr.heap[W5.heap.size]? = some (.cells #[.slice B1 P0.1.length D1, .slice B2 P0.2.1.length D2, .slice B3 P0.2.2.length D3] 27 (0, 0))) (fun iv _ => rs.length / 2 - (intOf iv).toNat)
  case atStart =>
    refine ⟨0, rs ++ [rMark], rfl, Nat.zero_le _, by simp, fun q hq => ⟨rs[q], List.getElem_mem hq, ?_⟩, O16.out, B216.out, I7.out⟩
    rw [List.getElem?_append_left hq, List.getElem?_eq_getElem hq]
  case round =>
    obtain ⟨i, zs, rfl, hi, hzl, hzr, ho, hb, h7⟩ := hrel
    have hw7 := lt_of_heap h7
    by_cases hin : i < rs.length / 2
    · obtain ⟨m, hm2⟩ : ∃ m, m + 1 + i = rs.length := ⟨rs.length - 1 - i, by omega⟩
      obtain ⟨y, hy⟩ : ∃ y, zs[i]? = some y := ⟨_, List.getElem?_eq_getElem (by omega)⟩
      obtain ⟨b1, o1, he1, -, -, cs, hE, hc⟩ := RSl.at (show RSl (fun _ => True) wr 7 (ERule (New w2.heap.size (.slice (some ⟨g, 0, none⟩) (rs.length + 1) cap)) wr) (.slice (some ⟨g, 0, none⟩) (rs.length + 1) cap) zs from ho.rsl (F := fun _ => True) (fun _ _ => trivial)) hy
      simp only [Option.some.injEq, Addr.mk.injEq] at he1
      obtain ⟨rfl, rfl, -⟩ := he1
      obtain ⟨hv, pv, tv, nv, vv, hE'⟩ := id hE
      have hcs := hE'.cells
      subst hcs
      obtain ⟨Ah, ch, rfl⟩ := hE'.head.form
      obtain ⟨Aq, cq, rfl⟩ := hE'.pos.form
      obtain ⟨At, ct, rfl⟩ := hE'.tests.form
      obtain ⟨An, cn, rfl⟩ := hE'.neg.form
      obtain ⟨Av, cv, rfl⟩ := hE'.vars.form
      have d0 := hc 0 _ rfl
      have d1 := hc 1 _ rfl
      have d2 := hc 2 _ rfl
      have d3 := hc 3 _ rfl
      have d4 := hc 4 _ rfl
      have d5 := hc 5 _ rfl
      have d6 := hc 6 _ rfl
      simp only [Nat.zero_add, Nat.add_zero] at d0 d1 d2 d3 d4 d5 d6
      have e1 : (0 : Int) ≤ (i : Int) := by omega
      have e2 : (i : Int) < (rs.length : Int) := by omega
      have e3 : (i : Int) < ((rs.length / 2 : Nat) : Int) := by omega
      go_upto_region 15 with fail
      have W1e := Lib.hid (show Value.int .i64 (IntKind.i64.wrap ((rs.length : Int) - 1)) = .int .i64 ((rs.length : Int) - 1) from congrArg _ (IntWalk.i64_in _ (by omega)))
      have W2e := Lib.hid (show Value.int .i64 (IntKind.i64.wrap ((rs.length : Int) - 1 - (i : Int))) = .int .i64 (m : Int) from congrArg _ ((IntWalk.i64_in _ (by omega)).trans (by omega)))
      have W3e := Lib.hid (show Value.int .i64 (wrap64 ((rs.length : Int) - 1)) = .int .i64 ((rs.length : Int) - 1) from congrArg _ (IntWalk.wrap64_in _ (by omega)))
      have W4e := Lib.hid (show Value.int .i64 (wrap64 ((rs.length : Int) - 1 - (i : Int))) = .int .i64 (m : Int) from congrArg _ ((IntWalk.wrap64_in _ (by omega)).trans (by omega)))
      obtain ⟨wa, hwa⟩ : ∃ wa, wa = wr.alloc (.cells #[.int .i64 y.head.pred, .slice Ah y.head.args.length ch, .slice Aq y.pos.length cq, .slice At y.tests.length ct, .slice An y.neg.length cn, .slice Av y.vars.length cv, .int .i64 y.clause] 39) := ⟨_, rfl⟩
      have hba : Below wr.heap.size wr wa := by rw [hwa]; exact (Below.refl _ _).alloc (Nat.le_refl _) _
      have BXA := Lib.hid (show wa.heap[wr.heap.size]? = some (.cells #[.int .i64 y.head.pred, .slice Ah y.head.args.length ch, .slice Aq y.pos.length cq, .slice At y.tests.length ct, .slice An y.neg.length cn, .slice Av y.vars.length cv, .int .i64 y.clause] 39 (0, 0)) from by rw [hwa]; exact heap_alloc_new wr _)
      rw [← hwa]
      clear hwa d0 d1 d2 d3 d4 d5 d6
      obtain ⟨x, hx⟩ : ∃ x, zs[m]? = some x := ⟨_, List.getElem?_eq_getElem (by omega)⟩
      have hoa := ho.below hba
      obtain ⟨b1, o1, he1, -, hbm, cs, hX, hc'⟩ := RSl.at (show RSl (fun _ => True) wa 7 (ERule (New w2.heap.size (.slice (some ⟨g, 0, none⟩) (rs.length + 1) cap)) wa) (.slice (some ⟨g, 0, none⟩) (rs.length + 1) cap) zs from hoa.rsl (F := fun _ => True) (fun _ _ => trivial)) hx
      simp only [Option.some.injEq, Addr.mk.injEq] at he1
      obtain ⟨rfl, rfl, -⟩ := he1
      obtain ⟨hv, pv, tv, nv, vv, hX'⟩ := id hX
      have hcs := hX'.cells
      subst hcs
      obtain ⟨Kh, lh, rfl⟩ := hX'.head.form
      obtain ⟨Kq, lq, rfl⟩ := hX'.pos.form
      obtain ⟨Kt, lt, rfl⟩ := hX'.tests.form
      obtain ⟨Kn, ln, rfl⟩ := hX'.neg.form
      obtain ⟨Kv, lv, rfl⟩ := hX'.vars.form
      have d0 := hc' 0 _ rfl
      have d1 := hc' 1 _ rfl
      have d2 := hc' 2 _ rfl
      have d3 := hc' 3 _ rfl
      have d4 := hc' 4 _ rfl
      have d5 := hc' 5 _ rfl
      have d6 := hc' 6 _ rfl
      have g0 := (hba.cell (p := ⟨g, 0 + i * 7 + 0, none⟩) (by show g < wr.heap.size; exact (ho.block (b := g) rfl).2)).trans (hc 0 _ rfl)
      have g1 := (hba.cell (p := ⟨g, 0 + i * 7 + 1, none⟩) (by show g < wr.heap.size; exact (ho.block (b := g) rfl).2)).trans (hc 1 _ rfl)
      have g2 := (hba.cell (p := ⟨g, 0 + i * 7 + 2, none⟩) (by show g < wr.heap.size; exact (ho.block (b := g) rfl).2)).trans (hc 2 _ rfl)
      have g3 := (hba.cell (p := ⟨g, 0 + i * 7 + 3, none⟩) (by show g < wr.heap.size; exact (ho.block (b := g) rfl).2)).trans (hc 3 _ rfl)
      have g4 := (hba.cell (p := ⟨g, 0 + i * 7 + 4, none⟩) (by show g < wr.heap.size; exact (ho.block (b := g) rfl).2)).trans (hc 4 _ rfl)
      have g5 := (hba.cell (p := ⟨g, 0 + i * 7 + 5, none⟩) (by show g < wr.heap.size; exact (ho.block (b := g) rfl).2)).trans (hc 5 _ rfl)
      have g6 := (hba.cell (p := ⟨g, 0 + i * 7 + 6, none⟩) (by show g < wr.heap.size; exact (ho.block (b := g) rfl).2)).trans (hc 6 _ rfl)
      simp only [Nat.zero_add, Nat.add_zero] at d0 d1 d2 d3 d4 d5 d6 g0 g1 g2 g3 g4 g5 g6
      have fz : ∀ o, wa.frozen? ⟨g, o, none⟩ = false := fun o => by
        obtain ⟨_, _, cur, hcur⟩ := ownBlock_cells (Exists.choose_spec hoa).1 (b := g) rfl
        exact frozen_of_row _ _ _ _ _ hcur
      have OP := Lib.hid (OwnL.put hoa (i := i) (by omega) (y := x) hX)
      have EY := Lib.hid (cdRl.kp _ _ _ _ _ _ hE (Kp.of_below hba) (fun _ _ h => h))
      have f1 : (0 : Int) ≤ (m : Int) := by omega
      have f2 : (m : Int) < (rs.length : Int) := by omega
      have HBA := Lib.hid hba
      have HC := Lib.hid (And.intro hb h7)
      have HI := Lib.hid (And.intro hin (And.intro hm2 (And.intro hzl hzr)))
      have HXY := Lib.hid (And.intro hx hy)
      clear hoa hX hX' hc hc' hE hE' ho hb h7 hba hin hm2 hzl hzr hx hy hbm e3 hi
      have v1 := W1e.out
      have v2 := W2e.out
      have v3 := W3e.out
      have v4 := W4e.out
      go_upto_region 16 with fail
      clear v1 v2 v3 v4 d0 d1 d2 d3 d4 d5 d6 g0 g1 g2 g3 g4 g5 g6 fz
      obtain ⟨wb, hwb⟩ : ∃ wb, wb = (((((((wa.setCell ⟨g, i * 7, none⟩ (.int .i64 x.head.pred)).setCell ⟨g, i * 7 + 1, none⟩ (.slice Kh x.head.args.length lh)).setCell ⟨g, i * 7 + 2, none⟩ (.slice Kq x.pos.length lq)).setCell ⟨g, i * 7 + 3, none⟩ (.slice Kt x.tests.length lt)).setCell ⟨g, i * 7 + 4, none⟩ (.slice Kn x.neg.length ln)).setCell ⟨g, i * 7 + 5, none⟩ (.slice Kv x.vars.length lv)).setCell ⟨g, i * 7 + 6, none⟩ (.int .i64 x.clause)) := ⟨_, rfl⟩
      have hob : OwnL w2.heap.size wb 39 cdRl (.slice (some ⟨g, 0, none⟩) (rs.length + 1) cap) (zs.set i x) := by rw [hwb]; exact OP.out
      have htb : Turns [g] wa wb := by rw [hwb]; exact setL_turns g [.int .i64 x.head.pred, .slice Kh x.head.args.length lh, .slice Kq x.pos.length lq, .slice Kt x.tests.length lt, .slice Kn x.neg.length ln, .slice Kv x.vars.length lv, .int .i64 x.clause] wa (i * 7)
      rw [← hwb]
      clear hwb OP
      have hgw := (hob.block (b := g) rfl)
      have hwne : wr.heap.size ≠ g := fun e => by
        have h1 := (HG.out).2
        have h2 := lt_of_heap HC.out.2
        omega
      have BXB := Lib.hid ((htb.block _ (lt_of_heap BXA.out) (fun hm => hwne (List.mem_singleton.1 hm))).trans BXA.out)
      have hzx : (zs.set i x)[m]? = some x := by rw [List.getElem?_set_ne (by have := HI.out; omega)]; exact HXY.out.1
      obtain ⟨b1, o1, he1, -, hbm, cs, hX, hc'⟩ := RSl.at (show RSl (fun _ => True) wb 7 (ERule (New w2.heap.size (.slice (some ⟨g, 0, none⟩) (rs.length + 1) cap)) wb) (.slice (some ⟨g, 0, none⟩) (rs.length + 1) cap) (zs.set i x) from hob.rsl (F := fun _ => True) (fun _ _ => trivial)) hzx
      simp only [Option.some.injEq, Addr.mk.injEq] at he1
      obtain ⟨rfl, rfl, -⟩ := he1
      obtain ⟨hv, pv, tv, nv, vv, hX'⟩ := id hX
      have hcs := hX'.cells
      subst hcs
      have d0 := hc' 0 _ rfl
      have d1 := hc' 1 _ rfl
      have d2 := hc' 2 _ rfl
      have d3 := hc' 3 _ rfl
      have d4 := hc' 4 _ rfl
      have d5 := hc' 5 _ rfl
      have d6 := hc' 6 _ rfl
      simp only [Nat.zero_add, Nat.add_zero] at d0 d1 d2 d3 d4 d5 d6
      have fz : ∀ o, wb.frozen? ⟨g, o, none⟩ = false := fun o => by
        obtain ⟨_, _, cur, hcur⟩ := ownBlock_cells (Exists.choose_spec hob).1 (b := g) rfl
        exact frozen_of_row _ _ _ _ _ hcur
      have q0 := rboxL BXB.out 0 rfl
      have q1 := rboxL BXB.out 1 rfl
      have q2 := rboxL BXB.out 2 rfl
      have q3 := rboxL BXB.out 3 rfl
      have q4 := rboxL BXB.out 4 rfl
      have q5 := rboxL BXB.out 5 rfl
      have q6 := rboxL BXB.out 6 rfl
      have EYB : cdRl.E (New w2.heap.size (.slice (some ⟨g, 0, none⟩) (rs.length + 1) cap)) wb [.int .i64 y.head.pred, .slice Ah y.head.args.length ch, .slice Aq y.pos.length cq, .slice At y.tests.length ct, .slice An y.neg.length cn, .slice Av y.vars.length cv, .int .i64 y.clause] y := cdRl.kp _ _ _ _ _ _ EY.out (Kp.of_turns htb (fun b hb hn => by
        rw [List.mem_singleton.1 hb] at hn
        exact hn.2 rfl)) (fun _ _ h => h)
      have OQ := Lib.hid (OwnL.put hob (i := m) (by rw [List.length_set]; have := HI.out; omega) (y := y) EYB)
      have HTB := Lib.hid (htb.trans (setL_turns g [.int .i64 y.head.pred, .slice Ah y.head.args.length ch, .slice Aq y.pos.length cq, .slice At y.tests.length ct, .slice An y.neg.length cn, .slice Av y.vars.length cv, .int .i64 y.clause] wb (m * 7)) (fun x hx => .inl hx))
      clear hob htb hX hX' hc' hzx EYB hbm hgw hwne EY BXA
      have v1 := W1e.out
      have v2 := W2e.out
      have v3 := W3e.out
      have v4 := W4e.out
      have hbig : i < 1048576 := by have := HI.out; omega
      go_wp2_with fail
      clear v1 v2 v3 v4 d0 d1 d2 d3 d4 d5 d6 q0 q1 q2 q3 q4 q5 q6 fz
      have h1 := HI.out
      refine ⟨⟨i + 1, (zs.set i x).set m y, by go_num, by omega, by rw [List.length_set, List.length_set]; exact h1.2.2.1, fun q hq => ?_, OQ.out, ?_, ?_⟩, by simp [intOf]; omega⟩
      · obtain ⟨rx, hrx, hqx⟩ := h1.2.2.2 m (by omega)
        obtain ⟨ry, hry, hqy⟩ := h1.2.2.2 i (by omega)
        rw [HXY.out.1] at hqx
        rw [HXY.out.2] at hqy
        by_cases e1 : q = m
        · rw [e1, List.getElem?_set_self (by rw [List.length_set]; omega)]
          exact ⟨ry, hry, hqy⟩
        · rw [List.getElem?_set_ne (fun e => e1 e.symm)]
          by_cases e2 : q = i
          · rw [e2, List.getElem?_set_self (by omega)]
            exact ⟨rx, hrx, hqx⟩
          · rw [List.getElem?_set_ne (fun e => e2 e.symm)]
            exact h1.2.2.2 q hq
      · have hb2 := HC.out.1.trans (HBA.out.mono HC.out.1.size)
        exact hb2.trans (HTB.out.below hb2.size (fun b hb => by rw [List.mem_singleton.1 hb]; exact HG.out.1))
      · have hb3 := (HBA.out.block _ (lt_of_heap HC.out.2)).trans HC.out.2
        exact (HTB.out.block _ (lt_of_heap hb3) (fun hm => by have h2 := HG.out.2; rw [← List.mem_singleton.1 hm] at h2; omega)).trans hb3
    · have HIR := Lib.hid (And.intro hzl hzr)
      have HOW := Lib.hid ho
      have HB := Lib.hid hb
      have H7 := Lib.hid h7
      clear hzl hzr ho hb h7 hw7
      have ein : i = rs.length / 2 := by omega
      subst ein
      obtain ⟨rs2, hr2⟩ : ∃ rs2, zs.take rs.length = rs2 := ⟨_, rfl⟩
      have hl2 : rs2.length = rs.length := by rw [← hr2, List.length_take, HIR.out.1]; omega
      have SM2 := Lib.hid (show rs2.length ≤ 1048576 ∧ ∀ r ∈ rs2, rlSm 1048576 r from by
        refine ⟨by omega, fun r hr => ?_⟩
        obtain ⟨q, hq⟩ := List.getElem?_of_mem hr
        have hql := (List.getElem?_eq_some_iff.1 hq).1
        rw [← hr2, List.getElem?_take_of_lt (by omega)] at hq
        obtain ⟨r', hr', hq'⟩ := HIR.out.2 q (by omega)
        rw [hq] at hq'
        rw [Option.some.inj hq']
        exact SM.out.2 r' hr')
      have GR := Lib.hid (fun (Wx : World) (hx : OwnL w2.heap.size Wx 39 cdRl (.slice (some ⟨g, 0, none⟩) (rs.length + 1) cap) zs) => (show RRules (fun b => b < Wx.heap.size) Wx (.slice (some ⟨g, 0, none⟩) rs.length cap) rs2 from by
        have h1 := (hx.rsl' (F := fun b => b < Wx.heap.size) (fun b _ h => h)).take (k := rs.length) (by have := HIR.out.1; omega)
        rw [hr2] at h1
        exact h1))
      have K3 := Lib.hid ((HB.out.block _ (lt_of_heap X2.out)).trans X2.out)
      have ROF := Lib.hid (rulesOfW _ rs2 wr (GR.out wr HOW.out) SM2.out)
      clear hr2
      go_wp2_with fail
      refine ROF.out.mono ?_
      rintro e W17 ⟨v', rfl, hO, hb17⟩
      have RC2 := Lib.hid (rcompileU v' rs2 W17 (hO.rsl' (F := fun b => b < W17.heap.size) (fun b _ h => h)) SM2.out)
      have HB17 := Lib.hid hb17
      clear hO hb17 ROF
      go_wp2_with fail
      refine RC2.out.mono ?_
      rintro e W18 ⟨hb18, av, nv, ev, rfl, hP⟩
      obtain ⟨P2, hP2⟩ : ∃ P2, plF rs2 = P2 := ⟨_, rfl⟩
      obtain ⟨E2, hE2⟩ : ∃ E2, erF rs2 = E2 := ⟨_, rfl⟩
      have LEN2 := Lib.hid (plF_len SM2.out.1)
      rw [hP2] at hP LEN2
      rw [hE2]
      have PE2 := Lib.hid (And.intro hP2 hE2)
      clear hP2 hE2
      obtain ⟨M1, N1, rfl⟩ := hP.al.form
      obtain ⟨M2, N2, rfl⟩ := hP.ns.form
      obtain ⟨M3, N3, rfl⟩ := hP.en.form
      have HPr := Lib.hid hP
      have HB18 := Lib.hid (show Below wr.heap.size wr W18 from HB17.out.trans (hb18.mono HB17.out.size))
      have s17 := HB17.out.size
      have S17 := Lib.hid s17
      clear hP hb18 RC2 s17
      have K3b := Lib.hid ((HB18.out.block _ (lt_of_heap K3.out)).trans K3.out)
      have K7b := Lib.hid ((HB18.out.block _ (lt_of_heap H7.out)).trans H7.out)
      have a0 := rboxL K3b.out 0 rfl
      have a1 := rboxL K3b.out 1 rfl
      have a2 := rboxL K3b.out 2 rfl
      have k3b := K3b.out
      have fza : ∀ o, W18.frozen? ⟨W1.heap.size, o, none⟩ = false := fun o => frozen_of_row _ _ _ _ _ k3b
      clear k3b
      go_upto_region 18 with fail
      clear a0 a1 a2 fza
      obtain ⟨W19, hW19⟩ : ∃ W19, W19 = (((W18.setCell ⟨W1.heap.size, 0, none⟩ (.slice M1 P2.1.length N1)).setCell ⟨W1.heap.size, 1, none⟩ (.slice M2 P2.2.1.length N2)).setCell ⟨W1.heap.size, 2, none⟩ (.slice M3 P2.2.2.length N3)) := ⟨_, rfl⟩
      have T19 := Lib.hid (show Turns [W1.heap.size] W18 W19 from by rw [hW19]; exact (((Turns.refl _ _).setCell (.inl (by simp)) _).setCell (.inl (by simp)) _).setCell (.inl (by simp)) _)
      have K3c := Lib.hid (show W19.heap[W1.heap.size]? = some (.cells #[.slice M1 P2.1.length N1, .slice M2 P2.2.1.length N2, .slice M3 P2.2.2.length N3] 27 (0, 0)) from by
        rw [hW19]
        have h1 := heap_setCell_same _ _ 2 _ _ (.slice M3 P2.2.2.length N3) (heap_setCell_same _ _ 1 _ _ (.slice M2 P2.2.1.length N2) (heap_setCell_same _ _ 0 _ _ (.slice M1 P2.1.length N1) K3b.out))
        simpa using h1)
      rw [← hW19]
      clear hW19
      have s1w : W1.heap.size < wr.heap.size := by have := lt_of_heap K3.out; omega
      have s5w : W5.heap.size < wr.heap.size := by have := lt_of_heap H7.out; omega
      have SW := Lib.hid (And.intro s1w s5w)
      clear s1w s5w
      have HO19 := Lib.hid ((HOW.out.below HB18.out).turns T19.out (fun b hb hm => by
        have h1 := (HOW.out.block hb).1
        rw [List.mem_singleton.1 hm] at h1
        have := SZ.out; omega) (fun b hb hn => by
        rw [List.mem_singleton.1 hb] at hn
        have h1 := hn.1
        have := SZ.out; omega))
      have K7c := Lib.hid ((T19.out.block _ (lt_of_heap K7b.out) (fun hm => by have h1 := List.mem_singleton.1 hm; have := SZ.out; omega)).trans K7b.out)
      have CG := Lib.hid (compileU _ rs2 W19 (GR.out W19 HO19.out) SM2.out)
      go_wp2_with fail
      refine CG.out.mono ?_
      rintro e W20 ⟨hb20, av, nv, ev, xa9, xn9, xe9, G9, rfl, hP⟩
      rw [PE2.out.1] at hP
      rw [PE2.out.2]
      obtain ⟨R1, S1, rfl⟩ := hP.rd.al.form
      obtain ⟨R2, S2, rfl⟩ := hP.rd.ns.form
      obtain ⟨R3, S3, rfl⟩ := hP.rd.en.form
      have HPc := Lib.hid hP.rd
      have HB20 := Lib.hid hb20
      clear hP hb20 CG
      have K3d := Lib.hid ((HB20.out.block _ (lt_of_heap K3c.out)).trans K3c.out)
      have K7d := Lib.hid ((HB20.out.block _ (lt_of_heap K7c.out)).trans K7c.out)
      have a0 := rboxL K7d.out 0 rfl
      have a1 := rboxL K7d.out 1 rfl
      have a2 := rboxL K7d.out 2 rfl
      have k7d := K7d.out
      have fza : ∀ o, W20.frozen? ⟨W5.heap.size, o, none⟩ = false := fun o => frozen_of_row _ _ _ _ _ k7d
      clear k7d
      go_upto_region 19 with fail
      clear a0 a1 a2 fza
      obtain ⟨W21, hW21⟩ : ∃ W21, W21 = (((W20.setCell ⟨W5.heap.size, 0, none⟩ (.slice R1 P2.1.length S1)).setCell ⟨W5.heap.size, 1, none⟩ (.slice R2 P2.2.1.length S2)).setCell ⟨W5.heap.size, 2, none⟩ (.slice R3 P2.2.2.length S3)) := ⟨_, rfl⟩
      have T21 := Lib.hid (show Turns [W5.heap.size] W20 W21 from by rw [hW21]; exact (((Turns.refl _ _).setCell (.inl (by simp)) _).setCell (.inl (by simp)) _).setCell (.inl (by simp)) _)
      have K7e := Lib.hid (show W21.heap[W5.heap.size]? = some (.cells #[.slice R1 P2.1.length S1, .slice R2 P2.2.1.length S2, .slice R3 P2.2.2.length S3] 27 (0, 0)) from by
        rw [hW21]
        have h1 := heap_setCell_same _ _ 2 _ _ (.slice R3 P2.2.2.length S3) (heap_setCell_same _ _ 1 _ _ (.slice R2 P2.2.1.length S2) (heap_setCell_same _ _ 0 _ _ (.slice R1 P2.1.length S1) K7d.out))
        simpa using h1)
      rw [← hW21]
      clear hW21
      have s18 := HB18.out.size
      have s19 := T19.out.size
      have s20 := HB20.out.size
      have K3e := Lib.hid ((T21.out.block _ (lt_of_heap K3d.out) (fun hm => by have h1 := List.mem_singleton.1 hm; have := SZ.out; omega)).trans K3d.out)
      have RW := HPr.out.kp (F' := fun b => W17.heap.size ≤ b) (Kp.of_turns T19.out (fun b hb hn => by
        rw [List.mem_singleton.1 hb] at hn
        have := SW.out; have := S17.out; omega)) (fun _ _ h => h)
      have RW2 := (RW.below HB20.out).kp (F' := fun b => W17.heap.size ≤ b) (Kp.of_turns T21.out (fun b hb hn => by
        rw [List.mem_singleton.1 hb] at hn
        have := SW.out; have := S17.out; omega)) (fun _ _ h => h)
      have RG2 := HPc.out.kp (F' := fun b => W19.heap.size ≤ b ∧ b < W20.heap.size) (Kp.of_turns T21.out (fun b hb hn => by
        rw [List.mem_singleton.1 hb] at hn
        have := SW.out; have := S17.out; omega)) (fun _ _ h => h)
      have EQ := Lib.hid (eqU W21 RG2 RW2 LEN2.out)
      clear RW RW2 RG2 s18 s19 s20
      have a0 := rboxL K7e.out 0 rfl
      have a1 := rboxL K7e.out 1 rfl
      have a2 := rboxL K7e.out 2 rfl
      have c0 := rboxL K3e.out 0 rfl
      have c1 := rboxL K3e.out 1 rfl
      have c2 := rboxL K3e.out 2 rfl
      go_wp2_with fail
      refine EQ.out.mono ?_
      rintro e W22 ⟨rfl, hb22⟩
      have HB22 := Lib.hid hb22
      clear hb22 EQ a0 a1 a2 c0 c1 c2
      go_wp2
      go_ret
      refine ⟨rfl, ?_⟩
      have z := SZ.out
      have zw := SW.out
      have b1 : Below W.heap.size W w2 := HB1.out.trans (HB2.out.mono HB1.out.size)
      have b2 := b1.trans (HB.out.mono b1.size)
      have b3 := b2.trans (HB18.out.mono b2.size)
      have b4 := b3.trans (T19.out.below b3.size (fun b hb => by rw [List.mem_singleton.1 hb]; omega))
      have b5 := b4.trans (HB20.out.mono b4.size)
      have b6 := b5.trans (T21.out.below b5.size (fun b hb => by rw [List.mem_singleton.1 hb]; omega))
      exact b6.trans (HB22.out.mono b6.size)
end Go.Proofs.Ytonkbjdeaneicaa
