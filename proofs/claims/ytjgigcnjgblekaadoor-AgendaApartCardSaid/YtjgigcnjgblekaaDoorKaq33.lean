/- AgendaApart: four's row; Pick once more: what is picked is the caller's own. The walks. within's closure: whatever the agenda is asked from within Each, it answers as ever. The walk. within: whatever the agenda is asked from within Each, it answers as ever. The walk. -/
import Derived.Test.YtjgigcnjgblekaaDoorKaq30
import Derived.Test.YtjgigcnjgblekaaDoorKaq32
namespace Go.Proofs.YtjgigcnjgblekaaDoor
open Go Go.RowKit Go.Maps Classical

/-- What Pick leaves: an act whose list is the caller's own. -/
def PckRes2 (l : List Ac) (n : Int) (w : World) (e : Ending) (w' : World) : Prop :=
  ∃ (x : Ac) (sv : Value), e = .returned (.tuple #[.agg #[.int .i64 x.rule, sv], .int .i64 0]) ∧ (OwnZ w' w.heap.size sv x.sub ∧ AcOk x) ∧ Below w.heap.size w w' ∧ l[(idxOf n l.length).toNat]? = some x
theorem four2W (w : World) : Calls Tryd.prog 8 #[] w (fun e w' => e = .returned (.slice (some ⟨w.heap.size, 0, none⟩) 4 4) ∧ RSl (fun b => b = w.heap.size) w' 3 ECst (.slice (some ⟨w.heap.size, 0, none⟩) 4 4) fourL ∧ Below w.heap.size w w' ∧ w'.heap.size = w.heap.size + 1 ∧ ∃ cs, cs.size = 12 ∧ w'.heap[w.heap.size]? = some (.cells cs 62 (0, 0))) := by
  go_enter Tryd.func8, Tryd.ntmps8
  go_wp2
  go_ret
  refine ⟨rfl, RSl.of_cst (B := w.heap.size) ⟨by simp [cstVs, fourL], .inr ⟨w.heap.size, 4, _, rfl, Nat.le_refl _, heap_alloc_new w _, by simp [fourL], by unfold maxLen; decide, by simp, by simp [cstVs, fourL]⟩⟩ (fun b hb => ?_), (Below.refl _ _).alloc (Nat.le_refl _) _, by simp, _, rfl, heap_alloc_new w _⟩
  have : w.heap.size = b := by simpa [Value.ownBlock] using hb
  exact this.symm
set_option maxRecDepth 100000 in
set_option maxHeartbeats 4000000 in
theorem pick2W {M : List Nat} {p mc mf N : Nat} {G : Agd} (n : Int) (hn : i64ok n) (w : World) (h : AgAt M w p mc mf G N) (hlen : G.C.length ≤ 40000000) (hnn : eligA G ≠ []) :
    Calls Tryd.prog 29 #[.pointer (some ⟨p, 0, none⟩), .int .i64 n] w (PckRes2 (eligA G) n w) := by
  obtain ⟨w0, hw0⟩ : ∃ w0, w0 = w.alloc (.cells #[.int .i64 0, .slice none 0 0] 30) := ⟨_, rfl⟩
  have hb0 : Below w.heap.size w w0 := by rw [hw0]; exact (Below.refl _ _).alloc (Nat.le_refl _) _
  have hr0 : w0.heap[w.heap.size]? = some (.cells #[.int .i64 0, .slice none 0 0] 30 (0, 0)) := by rw [hw0]; exact heap_alloc_new w _
  have hs0 : w0.heap.size = w.heap.size + 1 := by rw [hw0]; simp
  have EW := Lib.hid (eligibleW w0 (h.below hb0) hlen)
  have HB := Lib.hid hb0
  have HR0 := Lib.hid hr0
  have HS := Lib.hid hs0
  have HNN := Lib.hid hnn
  clear h hb0 hr0 hs0 hnn
  go_enter Tryd.func29, Tryd.ntmps29
  go_upto_region 1 with fail
  rw [← hw0]
  clear hw0
  go_wp2_with fail
  refine EW.out.mono ?_
  rintro e w1 ⟨v, zs, rfl, hz, hmz, hb1⟩
  obtain ⟨l, hle⟩ : ∃ l, eligA G = l := ⟨_, rfl⟩
  rw [hle] at hmz HNN ⊢
  have hzl : zs.length = l.length := by rw [← hmz, List.length_map]
  have hlr := hz.rsl
  obtain ⟨A, c, rfl⟩ := hz.form
  rw [hzl] at hz hlr ⊢
  have R1 : w1.heap[w.heap.size]? = some (.cells #[.int .i64 0, .slice none 0 0] 30 (0, 0)) := (hb1.block _ (by have := HS.out; omega)).trans HR0.out
  have B1 := Lib.hid (HB.out.trans (hb1.mono HB.out.size))
  have HR1 := Lib.hid R1
  have hm := hlr.len
  unfold maxLen at hm
  rw [List.length_map, hzl] at hm
  have y0 : w1.cell? ⟨w.heap.size, 0, none⟩ = some (.int .i64 0) := cell_of_row _ _ 0 _ _ _ R1
  have y1 : w1.cell? ⟨w.heap.size, 1, none⟩ = some (.slice none 0 0) := cell_of_row _ _ 1 _ _ _ R1
  have yf : ∀ o, w1.frozen? ⟨w.heap.size, o, none⟩ = false := fun o => by simp [World.frozen?, R1]
  have FIN := Lib.hid (fun (r : Int) (v : Value) => (show Turns [w.heap.size] w1 ((w1.setCell ⟨w.heap.size, 0, none⟩ (.int .i64 r)).setCell ⟨w.heap.size, 1, none⟩ v) from ((Turns.refl _ _).setCell (.inl (by simp)) _).setCell (.inl (by simp)) _))
  have EF := Lib.hid (fun (r : Int) (v : Value) => (heap_setCell_same _ _ 1 _ _ _ (heap_setCell_same _ _ 0 _ _ _ R1) : ((w1.setCell ⟨w.heap.size, 0, none⟩ (.int .i64 r)).setCell ⟨w.heap.size, 1, none⟩ v).heap[w.heap.size]? = some (.cells #[.int .i64 r, v] 30 (0, 0))))
  have HZ := Lib.hid hz
  have HMZ := Lib.hid hmz
  have HLE := Lib.hid hle
  have S1 := Lib.hid (show w0.heap.size = w.heap.size + 1 from HS.out)
  clear EW hz hmz hlr hb1 R1 hle
  · have h0 := HNN.out
    have hpos : 0 < l.length := List.length_pos_iff.2 h0
    have H0 := Lib.hid h0
    have hne : ((l.length : Int) == 0) = false := by simp; omega
    have IW := Lib.hid (fun (W : World) => idx_any n (l.length : Int) W hn (WalkArith.wf_i64 (by omega)))
    have hrng : 0 ≤ idxOf n (l.length : Int) ∧ idxOf n (l.length : Int) < (l.length : Int) := by
      unfold idxOf
      rw [if_neg (by omega)]
      exact ⟨Int.emod_nonneg _ (by omega), Int.emod_lt_of_pos _ (by omega)⟩
    obtain ⟨k, hk⟩ : ∃ k : Nat, idxOf n (l.length : Int) = (k : Int) := ⟨(idxOf n (l.length : Int)).toNat, by omega⟩
    have HK := Lib.hid hk
    rw [hk] at IW hrng
    obtain ⟨x, hx⟩ : ∃ x, l[k]? = some x := ⟨_, List.getElem?_eq_getElem (by omega)⟩
    have HX := Lib.hid hx
    obtain ⟨⟨x', sv⟩, hzk⟩ : ∃ z, zs[k]? = some z := ⟨_, List.getElem?_eq_getElem (by omega)⟩
    obtain rfl : x' = x := by
      have := congrArg (fun L : List Ac => L[k]?) HMZ.out
      simp only [List.getElem?_map, hzk, Option.map_some, hx, Option.some.injEq] at this
      exact this
    obtain ⟨b, c', hA, hbF, hbs, d0', d1'⟩ := Zs.rd (hzl ▸ HZ.out) hzk
    simp only [Value.slice.injEq] at hA
    obtain ⟨rfl, -, rfl⟩ := hA
    have hsv := HZ.out.sub _ (List.mem_of_getElem? hzk)
    obtain ⟨A3, c3, hsf⟩ : ∃ A c, sv = .slice A x'.sub.length c := hsv.1.form
    simp only at d0' d1' hsv
    subst hsf
    have d0 : w1.cell? ⟨b, k * 2, none⟩ = some (.int .i64 x'.rule) := d0'
    have d1 : w1.cell? ⟨b, k * 2 + 1, none⟩ = some (.slice A3 x'.sub.length c3) := d1'
    have HSV := Lib.hid hsv
    obtain ⟨e1, e2⟩ := hrng
    clear h0 hk hx hsv hzk d0' d1' hbF hbs
    go_wp2_with fail
    refine (IW.out _).mono ?_
    rintro e w2 ⟨rfl, rfl⟩
    go_wp2
    refine bodyPost_ret (results_row_slot rfl _ _ (w.heap.size) 30 #[.int .i64 x'.rule, .slice A3 x'.sub.length c3] (0, 0) _ _ rfl rfl (EF.out x'.rule (.slice A3 x'.sub.length c3)) Tryd.underlying30 rfl sizeAct) rfl ?_
    unfold PckRes2
    rw [HLE.out]
    refine ⟨x', _, rfl, ?_, B1.out.trans ((FIN.out _ _).below B1.out.size (fun x hx => by rw [List.mem_singleton.1 hx]; omega)), by rw [HK.out]; exact HX.out⟩
    refine ⟨(OwnZ.down (HSV.out.1.turns (FIN.out _ _) (fun b hb hf => ?_)) (by have := S1.out; omega)), HSV.out.2⟩
    have := (ownBlock_cells HSV.out.1 hb).1
    rw [List.mem_singleton.1 hf] at this
    have := S1.out
    omega
end Go.Proofs.YtjgigcnjgblekaaDoor

namespace Go.Proofs.YtjgigcnjgblekaaDoor
open Go Go.RowKit Go.Maps Classical

theorem heap_drew (w : World) : w.drew.heap = w.heap := rfl
set_option maxRecDepth 100000 in
set_option maxHeartbeats 8000000 in
theorem withFW {F F2 : Nat → Prop} {M : List Nat} {p mc mf N : Nat} {G : Agd} {l : List Ac} {b : Nat} {off c : Nat} (w W : World) (i : Nat) (x : Ac) (sv : Value) (h : AgAt M w p mc mf G N) (hA : AllE G l) (hw : RSl F w 2 (EAc F w) (.slice (some ⟨b, off, none⟩) l.length c) l)
    (hx : l[i]? = some x) (hs : WiSt w p (some ⟨b, off, none⟩) l.length c i W) (hsv : RSl F2 W 1 EInt sv x.sub) (_hF2 : ∀ z, F2 z → z ≠ w.heap.size + 3) (hok : i64ok x.rule) :
    Calls Tryd.prog 51 #[.agg #[.int .i64 x.rule, sv], .pointer (some ⟨w.heap.size, 0, none⟩), .pointer (some ⟨w.heap.size + 2, 0, none⟩), .pointer (some ⟨w.heap.size + 3, 0, none⟩), .pointer (some ⟨w.heap.size + 1, 0, none⟩)] W fun e W' =>
      e = .returned (.bool true) ∧ WiSt w p (some ⟨b, off, none⟩) l.length c (i + 1) W' ∧ Turns [w.heap.size + 2, w.heap.size + 3] W W' := by
  obtain ⟨A3, c3, rfl⟩ := hsv.form
  obtain ⟨W0, hW0⟩ : ∃ W0, W0 = W.alloc (.cells #[.int .i64 x.rule, .slice A3 x.sub.length c3] 30) := ⟨_, rfl⟩
  have hb0 : Below W.heap.size W W0 := by rw [hW0]; exact (Below.refl _ _).alloc (Nat.le_refl _) _
  have R0 := Lib.hid (show W0.heap[W.heap.size]? = some (.cells #[.int .i64 x.rule, .slice A3 x.sub.length c3] 30 (0, 0)) by rw [hW0]; exact heap_alloc_new W _)
  have hs0 := hs.turns hb0
  have S0 := Lib.hid hs0
  have B0 := Lib.hid hb0
  have SV0 := Lib.hid (hsv.keep (Kp.of_below hb0))
  have hwlt : b < w.heap.size := by
    obtain ⟨bw, ow, hbw, -, hwl, _⟩ := hw.at hx
    simp only [Option.some.injEq, Addr.mk.injEq, and_true] at hbw
    rw [hbw.1]; exact hwl
  have HL3 := Lib.hid (And.intro (lt_of_heap hs.r3) hwlt)
  clear hwlt
  have hil := (List.getElem?_eq_some_iff.1 hx).1
  have HX := Lib.hid hx
  have HOK := Lib.hid hok
  have AG := Lib.hid (fun (V : World) (hV : Below w.heap.size w V) => h.below hV)
  have WR := Lib.hid (fun (V : World) (hV : Below w.heap.size w V) => EAc.all hw (Kp.of_below hV) (F' := fun z => z ≠ w.heap.size + 3) (fun z hz _ => by show z ≠ w.heap.size + 3; omega))
  have HA := Lib.hid hA
  have hcap : l.length ≤ c ∧ c ≤ maxLen := by
    obtain ⟨A', c', e1, e2, e3, _⟩ := hw
    simp only [Value.slice.injEq] at e1
    exact ⟨by omega, by omega⟩
  unfold maxLen at hcap
  have x1 : W0.cell? ⟨w.heap.size, 0, none⟩ = some (.pointer (some ⟨p, 0, none⟩)) := cell_of_row _ _ 0 _ _ _ hs0.r0
  have x2 : W0.cell? ⟨w.heap.size + 2, 0, none⟩ = some (.int .i64 (i : Int)) := cell_of_row _ _ 0 _ _ _ hs0.r2
  have hi64 : i64ok (i : Int) := WalkArith.wf_i64 (by omega)
  have PW := Lib.hid (HA.out.el ▸ pickW (i : Int) hi64 W0 (AG.out W0 hs0.B) HA.out.len : Calls Tryd.prog 29 #[.pointer (some ⟨p, 0, none⟩), .int .i64 (i : Int)] W0 (PckRes l (i : Int) W0))
  clear h hw hx hs hsv hok hs0 hb0 hA hi64
  go_enter Tryd.func51, Tryd.ntmps51
  go_upto_region 1 with fail
  rw [← hW0]
  clear hW0
  go_wp2_with fail
  refine PW.out.mono ?_
  rintro e w1 ⟨y, su, er, rfl, hsu, hb1, hcase⟩
  obtain ⟨A4, c4, rfl⟩ := hsu.form
  obtain ⟨rfl, rfl⟩ : y = x ∧ er = 0 := by
    rcases hcase with ⟨h1, _, _⟩ | ⟨_, h2, h3⟩
    · rw [h1] at hil; simp at hil
    · rw [idx_self hil, HX.out] at h2
      exact ⟨(Option.some.inj h2).symm, h3⟩
  have S1 := Lib.hid (S0.out.turns hb1)
  have B1 := Lib.hid hb1
  have SU := Lib.hid hsu
  clear hb1 hsu hcase PW x1 x2
  go_upto_region 2 with fail
  obtain ⟨w2, hw2⟩ : ∃ w2, w2 = w1.alloc (.cells #[.int .i64 y.rule, .slice A4 y.sub.length c4] 30) := ⟨_, rfl⟩
  have hb2 : Below w1.heap.size w1 w2 := by rw [hw2]; exact (Below.refl _ _).alloc (Nat.le_refl _) _
  have R2 := Lib.hid (show w2.heap[w1.heap.size]? = some (.cells #[.int .i64 y.rule, .slice A4 y.sub.length c4] 30 (0, 0)) by rw [hw2]; exact heap_alloc_new w1 _)
  have hs2 := S1.out.turns hb2
  have S2 := Lib.hid hs2
  have B2 := Lib.hid hb2
  rw [← hw2]
  have x1 : w2.cell? ⟨w.heap.size, 0, none⟩ = some (.pointer (some ⟨p, 0, none⟩)) := cell_of_row _ _ 0 _ _ _ hs2.r0
  have TW := Lib.hid (HA.out.el ▸ takenW 1 w2 (AG.out w2 hs2.B) HA.out.len (Nat.le_trans (eligLen G) HA.out.len) : Calls Tryd.prog 24 #[.pointer (some ⟨p, 0, none⟩), .int .i64 1] w2 (TknRes (tkn l 1) w2))
  clear hw2 hb2 hs2
  go_wp2_with fail
  refine TW.out.mono ?_
  rintro e w3 ⟨A5, c5, rfl, hb3, hr5⟩
  have hl1 : (l.take 1).length = 1 := by rw [List.length_take]; omega
  rw [tkn_one (by omega), hl1] at hr5
  have R5 := Lib.hid hr5
  rw [tkn_one (by omega), hl1]
  have hs3 := S2.out.turns hb3
  have S3 := Lib.hid hs3
  have B3 := Lib.hid hb3
  clear hb3 hr5 TW x1 hl1
  obtain ⟨bw, ow, hbw, -, hwl, cs, ⟨sw, rfl, hok, hsw⟩, hc⟩ := (WR.out w3 hs3.B).at HX.out
  simp only [Option.some.injEq, Addr.mk.injEq, and_true] at hbw
  obtain ⟨rfl, rfl⟩ := hbw
  obtain ⟨A6, c6, rfl⟩ := hsw.form
  have SW := Lib.hid hsw
  have hc0 := hc 0 _ rfl
  have hc1 := hc 1 _ rfl
  simp only [Nat.add_zero] at hc0
  have B13 := Lib.hid (B2.out.trans (B3.out.mono B2.out.size))
  have B03 := Lib.hid (B1.out.trans (B13.out.mono B1.out.size))
  have R03 := Lib.hid ((B03.out.block _ (lt_of_heap R0.out)).trans R0.out)
  have R23 := Lib.hid ((B3.out.block _ (lt_of_heap R2.out)).trans R2.out)
  have KP := Lib.hid (fun (V : World) (hV : Below w3.heap.size w3 V) => (show (V.cell? ⟨w.heap.size + 2, 0, none⟩ = some (.int .i64 (i : Int)) ∧ V.cell? ⟨w.heap.size + 1, 0, none⟩ = some (.slice (some ⟨b, off, none⟩) l.length c) ∧ V.cell? ⟨W.heap.size, 0, none⟩ = some (.int .i64 y.rule) ∧ V.cell? ⟨W.heap.size, 1, none⟩ = some (.slice A3 y.sub.length c3) ∧ V.cell? ⟨w1.heap.size, 0, none⟩ = some (.int .i64 y.rule) ∧ V.cell? ⟨w1.heap.size, 1, none⟩ = some (.slice A4 y.sub.length c4) ∧ V.cell? ⟨b, off + i * 2, none⟩ = some (.int .i64 y.rule) ∧ V.cell? ⟨b, off + i * 2 + 1, none⟩ = some (.slice A6 y.sub.length c6) ∧ V.cell? ⟨w.heap.size + 3, 0, none⟩ = some (.bool true) ∧ V.frozen? ⟨w.heap.size + 3, 0, none⟩ = false) by
    have hz {k : Nat} {o : Obj} (h : w3.heap[k]? = some o) : V.heap[k]? = some o := (hV.block k (lt_of_heap h)).trans h
    exact ⟨cell_of_row _ _ 0 _ _ _ (hz S3.out.r2), cell_of_row _ _ 0 _ _ _ (hz S3.out.r1), cell_of_row _ _ 0 _ _ _ (hz R03.out), cell_of_row _ _ 1 _ _ _ (hz R03.out), cell_of_row _ _ 0 _ _ _ (hz R23.out), cell_of_row _ _ 1 _ _ _ (hz R23.out),
      (hV.cell (p := ⟨b, off + i * 2, none⟩) hwl).trans hc0, (hV.cell (p := ⟨b, off + i * 2 + 1, none⟩) hwl).trans hc1, cell_of_row _ _ 0 _ _ _ (hz S3.out.r3), frozen_of_row _ _ _ _ _ (hz S3.out.r3)⟩))
  have D0 : Below w3.heap.size w3 w3.drew := (Below.refl _ _).drew
  have hS0 := KP.out _ D0
  have SX := Lib.hid (SV0.out.keep (Kp.of_below B03.out))
  have SY := Lib.hid (SU.out.keep (Kp.of_below B13.out))
  have CX := Lib.hid (fun (V : World) (H1 H2 : Nat) (hV : Below w3.heap.size w3 V) (h1 : V.heap[H1]? = some (.cells #[.int .i64 y.rule, .slice A3 y.sub.length c3, .int .i64 y.rule, .slice A4 y.sub.length c4] 30 (0, 0))) (h2 : V.heap[H2]? = some (.cells #[.int .i64 y.rule, .slice A6 y.sub.length c6, .int .i64 y.rule, .slice A6 y.sub.length c6] 30 (0, 0))) =>
    actsW (F := fun _ => True) (F' := fun _ => True) (.slice (some ⟨H1, 0, none⟩) 2 2) (.slice (some ⟨H2, 0, none⟩) 2 2) [y, y] V (two_act h1 trivial HOK.out ((SX.out.keep (Kp.of_below hV)).kp (Kp.refl _ _) (fun _ _ _ => trivial) (fun _ _ h => h)) HOK.out ((SY.out.keep (Kp.of_below hV)).kp (Kp.refl _ _) (fun _ _ _ => trivial) (fun _ _ h => h)))
      (two_act h2 trivial HOK.out ((SW.out.keep (Kp.of_below hV)).kp (Kp.refl _ _) (fun _ _ _ => trivial) (fun _ _ h => h)) HOK.out ((SW.out.keep (Kp.of_below hV)).kp (Kp.refl _ _) (fun _ _ _ => trivial) (fun _ _ h => h))))
  have CY := Lib.hid (fun (V : World) (hV : Below w3.heap.size w3 V) => (show Calls Tryd.prog 13 #[.slice A5 1 c5, .slice (some ⟨b, off, none⟩) 1 c] V (fun e w' => e = .returned (.bool true) ∧ Below V.heap.size V w') from
    actsW _ _ (l.take 1) V (EAc.all R5.out (Kp.of_below hV) (F' := fun _ => True) (fun _ _ _ => trivial)) (by
      have := RSl.cut (EAc.all (WR.out w3 S3.out.B) (Kp.of_below hV) (F' := fun _ => True) (fun _ _ _ => trivial)) (i := 0) (j := 1) (by omega) (by omega)
      simpa using this)))
  have BDA := Lib.hid (show Below w3.heap.size w3 ((w3.alloc (.cells #[.int .i64 y.rule, .slice A3 y.sub.length c3, .int .i64 y.rule, .slice A4 y.sub.length c4] 30)).alloc (.cells #[.int .i64 y.rule, .slice A6 y.sub.length c6, .int .i64 y.rule, .slice A6 y.sub.length c6] 30)).drew from (((Below.refl _ _).alloc (Nat.le_refl _) _).alloc (by simp) _).drew)
  have BDB := Lib.hid (show Below w3.heap.size w3 ((w3.alloc (.cells #[.int .i64 y.rule, .slice A6 y.sub.length c6, .int .i64 y.rule, .slice A6 y.sub.length c6] 30)).alloc (.cells #[.int .i64 y.rule, .slice A3 y.sub.length c3, .int .i64 y.rule, .slice A4 y.sub.length c4] 30)).drew from (((Below.refl _ _).alloc (Nat.le_refl _) _).alloc (by simp) _).drew)
  have CXA := Lib.hid (CX.out _ w3.heap.size (w3.heap.size + 1) BDA.out (by show _ = _; rw [heap_drew, heap_alloc_old _ _ (by simp)]; exact heap_alloc_new w3 _) (by rw [heap_drew]; have := heap_alloc_new (w3.alloc (.cells #[.int .i64 y.rule, .slice A3 y.sub.length c3, .int .i64 y.rule, .slice A4 y.sub.length c4] 30)) (.cells #[.int .i64 y.rule, .slice A6 y.sub.length c6, .int .i64 y.rule, .slice A6 y.sub.length c6] 30); simpa using this))
  have CXB := Lib.hid (CX.out _ (w3.heap.size + 1) w3.heap.size BDB.out (by rw [heap_drew]; have := heap_alloc_new (w3.alloc (.cells #[.int .i64 y.rule, .slice A6 y.sub.length c6, .int .i64 y.rule, .slice A6 y.sub.length c6] 30)) (.cells #[.int .i64 y.rule, .slice A3 y.sub.length c3, .int .i64 y.rule, .slice A4 y.sub.length c4] 30); simpa using this) (by show _ = _; rw [heap_drew, heap_alloc_old _ _ (by simp)]; exact heap_alloc_new w3 _))
  have hB3 := S3.out.r3
  have g1 : (0 : Int) ≤ (i : Int) := by omega
  have g2 : (i : Int) < (l.length : Int) := by omega
  have g3 : (1 : Int) ≤ (c : Int) := by omega
  have KQ := Lib.hid (fun (V : World) (hV : Below w3.heap.size w3 V) => (show (V.cell? ⟨w.heap.size, 0, none⟩ = some (.pointer (some ⟨p, 0, none⟩)) ∧ V.cell? ⟨w.heap.size + 1, 0, none⟩ = some (.slice (some ⟨b, off, none⟩) l.length c) ∧ V.cell? ⟨w.heap.size + 3, 0, none⟩ = some (.bool true) ∧ V.frozen? ⟨w.heap.size + 3, 0, none⟩ = false) from
    ⟨cell_of_row _ _ 0 _ _ _ ((hV.block _ (lt_of_heap S3.out.r0)).trans S3.out.r0), (KP.out V hV).2.1, (KP.out V hV).2.2.2.2.2.2.2.2.1, (KP.out V hV).2.2.2.2.2.2.2.2.2⟩))
  have AQ := Lib.hid (fun (V : World) (hV : Below w3.heap.size w3 V) => AG.out V (S3.out.B.trans (hV.mono S3.out.B.size)))
  have EC := Lib.hid (fun (V : World) (hV : Below w3.heap.size w3 V) => (show Calls Tryd.prog 14 #[.pointer (some ⟨p, 0, none⟩)] V (fun e w' => ∃ A c, e = .returned (.slice A l.length c) ∧ Below V.heap.size V w' ∧ RSl (fun b => V.heap.size ≤ b) w' 2 (EAc (fun b => V.heap.size ≤ b) w') (.slice A l.length c) l) from (eligibleW V (AQ.out V hV) HA.out.len).mono (fun e w' hr => by rw [HA.out.el] at hr; exact hr.rsl)))
  have CC := Lib.hid (fun (V : World) (hV : Below w3.heap.size w3 V) => (show Calls Tryd.prog 15 #[.pointer (some ⟨p, 0, none⟩)] V (fun e w' => ∃ A c, e = .returned (.slice A l.length c) ∧ Below V.heap.size V w' ∧ RSl (fun b => V.heap.size ≤ b) w' 2 (EAc (fun b => V.heap.size ≤ b) w') (.slice A l.length c) l) from (conflictW V (AQ.out V hV) HA.out.len).mono (fun e w' hr => by rw [HA.out.cf] at hr; exact hr.rsl)))
  have FC := Lib.hid (fun (V : World) (hV : Below w3.heap.size w3 V) => (show Calls Tryd.prog 32 #[.pointer (some ⟨p, 0, none⟩)] V (fun e w' => ∃ A c, e = .returned (.slice A 0 c) ∧ Below V.heap.size V w') from (firedW V (AQ.out V hV) (by rw [HA.out.fi]; simp)).mono (fun e w' hr => by
    rw [HA.out.fi] at hr
    obtain ⟨A, c, h1, h2, _⟩ := hr.rsl
    rw [show (sortA G.cs []).length = 0 from (sortA_perm _ _).length_eq] at h1
    exact ⟨A, c, h1, h2⟩)))
  have SC := Lib.hid (fun (V : World) (hV : Below w3.heap.size w3 V) => (HA.out.st ▸ stratumW V (AQ.out V hV) : Calls Tryd.prog 12 #[.pointer (some ⟨p, 0, none⟩)] V fun e w' => e = .returned (.int .i64 0) ∧ Below V.heap.size V w'))
  have AC := Lib.hid (fun (V : World) (A : Option Addr) (cc : Nat) (F3 F4 : Nat → Prop) (hr : RSl F3 V 2 (EAc F4 V) (.slice A l.length cc) l) (hV : Below w3.heap.size w3 V) => (show Calls Tryd.prog 13 #[.slice A l.length cc, .slice (some ⟨b, off, none⟩) l.length c] V (fun e w' => e = .returned (.bool true) ∧ Below V.heap.size V w') from
    actsW (F := fun _ => True) _ _ l V (hr.kp (Kp.refl _ _) (fun _ _ _ => trivial) (fun _ _ h => h.kp (Kp.refl _ _) (fun _ _ _ => trivial))) (WR.out V (S3.out.B.trans (hV.mono S3.out.B.size)))))
  clear hs3 hc hc0 hc1 SV0 CX
  go_upto_region 3 with fail
  go_region_held3 (fun V : World => V.cell? ⟨w.heap.size + 2, 0, none⟩ = some (.int .i64 (i : Int)) ∧ V.cell? ⟨w.heap.size + 1, 0, none⟩ = some (.slice (some ⟨b, off, none⟩) l.length c) ∧ V.cell? ⟨W.heap.size, 0, none⟩ = some (.int .i64 y.rule) ∧ V.cell? ⟨W.heap.size, 1, none⟩ = some (.slice A3 y.sub.length c3) ∧ V.cell? ⟨w1.heap.size, 0, none⟩ = some (.int .i64 y.rule) ∧ V.cell? ⟨w1.heap.size, 1, none⟩ = some (.slice A4 y.sub.length c4) ∧ V.cell? ⟨b, off + i * 2, none⟩ = some (.int .i64 y.rule) ∧ V.cell? ⟨b, off + i * 2 + 1, none⟩ = some (.slice A6 y.sub.length c6) ∧ V.cell? ⟨w.heap.size + 3, 0, none⟩ = some (.bool true) ∧ V.frozen? ⟨w.heap.size + 3, 0, none⟩ = false)
    (first | with_reducible exact hS0 | with_reducible exact KP.out _ (below_again B5 hB3) | with_reducible exact KP.out _ B5 | with_reducible exact KP.out _ B4 | with_reducible exact KP.out _ (((Below.refl w3.heap.size w3).alloc (Nat.le_refl _) _).drew) | with_reducible exact KP.out _ BDA.out | with_reducible exact KP.out _ BDB.out)
    (first
      | (go_at_call 13; with_reducible refine (CY.out _ B4).mono ?_; rintro e' w5 ⟨rfl, hb5⟩; have B5 := B4.trans (hb5.mono B4.size); clear hb5)
      | (go_at_call 13; with_reducible refine CXA.out.mono ?_; rintro e' w4 ⟨rfl, hb4⟩; have B4 := BDA.out.trans (hb4.mono BDA.out.size); clear hb4)
      | (go_at_call 13; with_reducible refine CXB.out.mono ?_; rintro e' w4 ⟨rfl, hb4⟩; have B4 := BDB.out.trans (hb4.mono BDB.out.size); clear hb4))
  all_goals
    obtain ⟨w6, hw6⟩ : ∃ w6, w6 = w5.setCell ⟨w.heap.size + 3, 0, none⟩ (.bool true) := ⟨_, rfl⟩
    have B6 : Below w3.heap.size w3 w6 := by rw [hw6]; exact below_again B5 hB3
    rw [← hw6]
    clear hS0 hw6 B4 B5 CXA CXB BDA BDB CY D0
    have D6 : Below w3.heap.size w3 w6.drew := B6.drew
    have hS0 := KQ.out _ D6
    go_upto_region 4 with fail
    go_region_held3 (fun V : World => V.cell? ⟨w.heap.size, 0, none⟩ = some (.pointer (some ⟨p, 0, none⟩)) ∧ V.cell? ⟨w.heap.size + 1, 0, none⟩ = some (.slice (some ⟨b, off, none⟩) l.length c) ∧ V.cell? ⟨w.heap.size + 3, 0, none⟩ = some (.bool true) ∧ V.frozen? ⟨w.heap.size + 3, 0, none⟩ = false)
      (first | with_reducible exact hS0 | with_reducible exact KQ.out _ (below_again B12 hB3) | with_reducible exact KQ.out _ B12 | with_reducible exact KQ.out _ B11 | with_reducible exact KQ.out _ B10 | with_reducible exact KQ.out _ B9 | with_reducible exact KQ.out _ B8 | with_reducible exact KQ.out _ B7)
      (first
        | (go_at_call 12; with_reducible refine (SC.out _ B11).mono ?_; rintro e' w12 ⟨rfl, hb12⟩; have B12 := B11.trans (hb12.mono B11.size); clear hb12)
        | (go_at_call 32; with_reducible refine (FC.out _ B10).mono ?_; rintro e' w11 ⟨A11, c11, rfl, hb11⟩; have B11 := B10.trans (hb11.mono B10.size); clear hb11)
        | (go_at_call 13; with_reducible refine (AC.out _ _ _ _ _ R9.out B9).mono ?_; rintro e' w10 ⟨rfl, hb10⟩; have B10 := B9.trans (hb10.mono B9.size); clear hb10)
        | (go_at_call 15; with_reducible refine (CC.out _ B8).mono ?_; rintro e' w9 ⟨A9, c9, rfl, hb9, hr9⟩; have B9 := B8.trans (hb9.mono B8.size); have R9 := Lib.hid hr9; clear hb9 hr9)
        | (go_at_call 13; with_reducible refine (AC.out _ _ _ _ _ R7.out B7).mono ?_; rintro e' w8 ⟨rfl, hb8⟩; have B8 := B7.trans (hb8.mono B7.size); clear hb8)
        | (go_at_call 14; with_reducible refine (EC.out _ D6).mono ?_; rintro e' w7 ⟨A7, c7, rfl, hb7, hr7⟩; have B7 := D6.trans (hb7.mono D6.size); have R7 := Lib.hid hr7; clear hb7 hr7))
    obtain ⟨w13, hw13⟩ : ∃ w13, w13 = w12.setCell ⟨w.heap.size + 3, 0, none⟩ (.bool true) := ⟨_, rfl⟩
    have B14 : Below w3.heap.size w3 w13 := by rw [hw13]; exact below_again B12 hB3
    rw [← hw13]
    clear hw13 hS0 B12
    have S5 : WiSt w p (some ⟨b, off, none⟩) l.length c i w13 := S3.out.turns B14
    have z2 : w13.cell? ⟨w.heap.size + 2, 0, none⟩ = some (.int .i64 (i : Int)) := cell_of_row _ _ 0 _ _ _ S5.r2
    have z3 : w13.frozen? ⟨w.heap.size + 2, 0, none⟩ = false := frozen_of_row _ _ _ _ _ S5.r2
    have FIN := Lib.hid (show WiSt w p (some ⟨b, off, none⟩) l.length c (i + 1) (w13.setCell ⟨w.heap.size + 2, 0, none⟩ (.int .i64 ((i : Int) + 1))) ∧ Turns [w.heap.size + 2, w.heap.size + 3] W (w13.setCell ⟨w.heap.size + 2, 0, none⟩ (.int .i64 ((i : Int) + 1))) by
      have T2 : Turns [w.heap.size + 2] w13 (w13.setCell ⟨w.heap.size + 2, 0, none⟩ (.int .i64 ((i : Int) + 1))) := (Turns.refl _ _).setCell (.inl (by simp)) _
      have BW : Below W.heap.size W w13 := B0.out.trans ((B03.out.mono B0.out.size).trans (B14.mono (Nat.le_trans B0.out.size B03.out.size)))
      refine ⟨⟨(T2.block _ (lt_of_heap S5.r0) (by simp)).trans S5.r0, (T2.block _ (lt_of_heap S5.r1) (by simp)).trans S5.r1, ?_, (T2.block _ (lt_of_heap S5.r3) (by simp)).trans S5.r3, S5.B.trans (T2.below S5.B.size (fun x hx => by rw [List.mem_singleton.1 hx]; omega))⟩, (Turns.of_below (S := [w.heap.size + 2, w.heap.size + 3]) BW).trans T2 (fun x hx => .inl (by rw [List.mem_singleton.1 hx]; simp))⟩
      rw [heap_setCell_same _ _ 0 _ _ _ S5.r2]
      simp)
    clear S5 B14
    go_wp2
    go_ret
    exact ⟨ret_boolA rfl, FIN.out⟩
end Go.Proofs.YtjgigcnjgblekaaDoor

namespace Go.Proofs.YtjgigcnjgblekaaDoor
open Go Go.RowKit Go.Maps Classical

set_option maxRecDepth 100000 in
set_option maxHeartbeats 4000000 in
theorem withinW {F : Nat → Prop} {M : List Nat} {p mc mf N : Nat} {G : Agd} {l : List Ac} {b : Nat} {off c : Nat} (w : World) (h : AgAt M w p mc mf G N) (hA : AllE G l) (hw : RSl F w 2 (EAc F w) (.slice (some ⟨b, off, none⟩) l.length c) l) :
    Calls Tryd.prog 28 #[.pointer (some ⟨p, 0, none⟩), .slice (some ⟨b, off, none⟩) l.length c] w fun e w' => e = .returned (.bool true) ∧ Below w.heap.size w w' := by
  have eg : ∀ args w, (callFunc 51 args).run Tryd.prog w = .ok (.enter 51 args) w := enters_of Tryd.func51 (by kernel_rfl) rfl
  have hcap : l.length ≤ maxLen := hw.len
  unfold maxLen at hcap
  have EW : ∀ w0 : World, WiSt w p (some ⟨b, off, none⟩) l.length c 0 w0 → w0.heap.size = w.heap.size + 4 → Calls Tryd.prog 48 #[.pointer (some ⟨p, 0, none⟩), .func (.func 51) #[] #[.pointer (some ⟨w.heap.size, 0, none⟩), .pointer (some ⟨w.heap.size + 2, 0, none⟩), .pointer (some ⟨w.heap.size + 3, 0, none⟩), .pointer (some ⟨w.heap.size + 1, 0, none⟩)]] w0 (fun e w' => e = .returned (.tuple #[]) ∧ WiSt w p (some ⟨b, off, none⟩) l.length c l.length w') := fun w0 h0 hs0 =>
    (eachW (cb := #[.pointer (some ⟨w.heap.size, 0, none⟩), .pointer (some ⟨w.heap.size + 2, 0, none⟩), .pointer (some ⟨w.heap.size + 3, 0, none⟩), .pointer (some ⟨w.heap.size + 1, 0, none⟩)]) (fun _ i W => WiSt w p (some ⟨b, off, none⟩) l.length c i W) (fun _ => true) w0 (h.below h0.B) hA.len eg
      (fun w1 hw1 => h0.turns hw1) (fun _ _ _ _ hs hb => hs.turns hb)
      (fun w1 hw1 i x sv W hx hk hst hsv hok => (withFW w W i x sv h hA hw (by rw [← hA.el]; exact hx) hst hsv (fun z hz => by omega) hok).mono (fun e W' ⟨e1, e2, e3⟩ => ⟨e1, e2, Kp.of_turns e3 (fun z hz hf => by
        simp only [List.mem_cons, List.not_mem_nil, or_false] at hz
        omega)⟩))).mono (fun e W' ⟨e1, K, k, hsp, e2⟩ => ⟨e1, by
          have hk : k = (eligA G).length := by
            rcases hsp.2.2 with h1 | ⟨_, h1⟩
            · exact h1
            · simp at h1
          rw [hA.el] at hk
          subst hk
          exact e2⟩)
  have EW := Lib.hid EW
  clear h hA hw
  go_enter Tryd.func28, Tryd.ntmps28
  go_upto_region 3 with fail
  obtain ⟨w0, hw0⟩ : ∃ w0, w0 = (((w.alloc (.cells #[.pointer (some ⟨p, 0, none⟩)] 24)).alloc (.cells #[.slice (some ⟨b, off, none⟩) l.length c] 23)).alloc (.cells #[.int .i64 0] 3)).alloc (.cells #[.bool true] 4) := ⟨_, rfl⟩
  have hb0 : Below w.heap.size w w0 := by rw [hw0]; exact ((((Below.refl _ _).alloc (Nat.le_refl _) _).alloc (by simp) _).alloc (by simp <;> omega) _).alloc (by simp <;> omega) _
  have hs0 : w0.heap.size = w.heap.size + 4 := by rw [hw0]; simp
  have S0 : WiSt w p (some ⟨b, off, none⟩) l.length c 0 w0 := by
    refine ⟨?_, ?_, ?_, ?_, hb0⟩
    · rw [hw0, heap_alloc_old _ _ (by simp <;> omega), heap_alloc_old _ _ (by simp <;> omega), heap_alloc_old _ _ (by simp)]; exact heap_alloc_new w _
    · rw [hw0, heap_alloc_old _ _ (by simp <;> omega), heap_alloc_old _ _ (by simp)]
      have := heap_alloc_new (w.alloc (.cells #[.pointer (some ⟨p, 0, none⟩)] 24)) (.cells #[.slice (some ⟨b, off, none⟩) l.length c] 23)
      simpa using this
    · rw [hw0, heap_alloc_old _ _ (by simp)]
      have := heap_alloc_new ((w.alloc (.cells #[.pointer (some ⟨p, 0, none⟩)] 24)).alloc (.cells #[.slice (some ⟨b, off, none⟩) l.length c] 23)) (.cells #[.int .i64 0] 3)
      simpa using this
    · rw [hw0]
      have := heap_alloc_new (((w.alloc (.cells #[.pointer (some ⟨p, 0, none⟩)] 24)).alloc (.cells #[.slice (some ⟨b, off, none⟩) l.length c] 23)).alloc (.cells #[.int .i64 0] 3)) (.cells #[.bool true] 4)
      simpa using this
  have y0 : w0.cell? ⟨w.heap.size, 0, none⟩ = some (.pointer (some ⟨p, 0, none⟩)) := cell_of_row _ _ 0 _ _ _ S0.r0
  have EC := Lib.hid (EW.out w0 S0 hs0)
  rw [← hw0]
  clear hw0 hb0 S0 hs0 EW
  go_wp2_with fail
  refine EC.out.mono ?_
  rintro e w1 ⟨rfl, hS1⟩
  have x1 : w1.cell? ⟨w.heap.size + 1, 0, none⟩ = some (.slice (some ⟨b, off, none⟩) l.length c) := cell_of_row _ _ 0 _ _ _ hS1.r1
  have x2 : w1.cell? ⟨w.heap.size + 1 + 1, 0, none⟩ = some (.int .i64 (l.length : Int)) := cell_of_row _ _ 0 _ _ _ hS1.r2
  have x3 : w1.cell? ⟨w.heap.size + 1 + 1 + 1, 0, none⟩ = some (.bool true) := cell_of_row _ _ 0 _ _ _ hS1.r3
  have B1 := Lib.hid hS1.B
  clear hS1 EC y0
  go_wp2
  go_ret
  exact ⟨ret_boolA (by simp), B1.out⟩
end Go.Proofs.YtjgigcnjgblekaaDoor
