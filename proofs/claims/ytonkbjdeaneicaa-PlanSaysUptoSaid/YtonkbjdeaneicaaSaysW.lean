/- `says`: a node says its pattern. -/
import Derived.Test.YtonkbjdeaneicaaEqT
import Derived.Test.YtonkbjdeaneicaaSaysL
import Derived.Deep.RegionWith
import Derived.Deep.Cut
namespace Go.Proofs.Ytonkbjdeaneicaa
open Go.RowKit Pln Classical Go.Maps

theorem eql_slt_diff {s t : Slt} (h : s ≠ t) (w : World) : (binOp .eql 50 (.agg #[.bool s.v, .int .i64 s.n]) (.agg #[.bool t.v, .int .i64 t.n])).run Try.prog w = .ok (.bool false) w := by
  obtain ⟨sv, sn⟩ := s
  obtain ⟨tv, tn⟩ := t
  by_cases h1 : sv = tv
  · have h2 : ¬ sn = tn := fun h2 => h (by rw [h1, h2])
    simp [go_sem, h1, h2]
  · simp [go_sem, h1]

/-- A box's cell, by its list. -/
theorem box_cellL {w wr : World} {cs : Array Value} {T : TypeId} (hb : Below (w.heap.size + 1) (w.alloc (.cells cs T)) wr) (j : Nat) {u : Value} (hu : cs.toList[j]? = some u) : wr.cell? ⟨w.heap.size, j, none⟩ = some u :=
  box_cell hb j u (by rw [← Array.getElem?_toList]; exact hu)
theorem rboxL {w : World} {b : Nat} {cs : Array Value} {T : TypeId} (hb : w.heap[b]? = some (.cells cs T (0, 0))) (j : Nat) {u : Value} (hu : cs.toList[j]? = some u) : w.cell? ⟨b, j, none⟩ = some u :=
  rbox hb (by rw [← Array.getElem?_toList]; exact hu)
/-- Three boxes. -/
structure Three (W W3 : World) (a b c : Array Value) (ta tb tc : TypeId) : Prop where
  below : Below W.heap.size W W3
  size : W3.heap.size = W.heap.size + 3
  ha : W3.heap[W.heap.size]? = some (.cells a ta (0, 0))
  hb : W3.heap[W.heap.size + 1]? = some (.cells b tb (0, 0))
  hc : W3.heap[W.heap.size + 1 + 1]? = some (.cells c tc (0, 0))
theorem three (W : World) (a b c : Array Value) (ta tb tc : TypeId) : Three W (((W.alloc (.cells a ta)).alloc (.cells b tb)).alloc (.cells c tc)) a b c ta tb tc := by
  refine ⟨(((Below.refl _ _).alloc (Nat.le_refl _) _).alloc (by simp) _).alloc (by simp; omega) _, by simp, ?_, ?_, ?_⟩
  · rw [Below.heap_alloc _ _ _ (by simp; omega), Below.heap_alloc _ _ _ (by simp)]
    exact heap_alloc_new W _
  · rw [Below.heap_alloc _ _ _ (by simp)]
    have := heap_alloc_new (W.alloc (.cells a ta)) (.cells b tb)
    simpa using this
  · have := heap_alloc_new ((W.alloc (.cells a ta)).alloc (.cells b tb)) (.cells c tc)
    simpa using this
section
variable {W W3 wr : World} {a b c sh : Array Value} {ta tb tc ts : TypeId}
theorem Three.ca (h : Three W W3 a b c ta tb tc) (hb : Below W3.heap.size W3 wr) (j : Nat) {u : Value} (hu : a.toList[j]? = some u) : wr.cell? ⟨W.heap.size, j, none⟩ = some u := rbox ((hb.block _ (by have := h.size; omega)).trans h.ha) (by rw [← Array.getElem?_toList]; exact hu)
theorem Three.cb (h : Three W W3 a b c ta tb tc) (hb : Below W3.heap.size W3 wr) (j : Nat) {u : Value} (hu : b.toList[j]? = some u) : wr.cell? ⟨W.heap.size + 1, j, none⟩ = some u := rbox ((hb.block _ (by have := h.size; omega)).trans h.hb) (by rw [← Array.getElem?_toList]; exact hu)
theorem Three.cc (h : Three W W3 a b c ta tb tc) (hb : Below W3.heap.size W3 wr) (j : Nat) {u : Value} (hu : c.toList[j]? = some u) : wr.cell? ⟨W.heap.size + 1 + 1, j, none⟩ = some u := rbox ((hb.block _ (by have := h.size; omega)).trans h.hc) (by rw [← Array.getElem?_toList]; exact hu)
theorem Three.all (h : Three W W3 a b c ta tb tc) (hb : Below W3.heap.size W3 wr) : Below W.heap.size W wr := h.below.trans (hb.mono (by have := h.size; omega))
end

set_option maxRecDepth 200000 in
set_option maxHeartbeats 8000000 in
theorem saysW {F G : Nat → Prop} (W : World) (av nv ev : Value) (st : St) (es : List Nat) (hP : RPlan F W av nv ev st es) (n : Nd) (ncs : List Value) (lv mv : Value) (hN : ENd F W ncs n lv mv) (p : Pat) (pv : Value) (hp : RSl G W 2 ESlt pv p.args) (w ai : Nat)
    (hai : st.al[ai]? = some (shapeF p)) (ha : n.alpha = ai) (hl : n.links = linksK p.args w p.args.length) (hn : n.new = newK p.args w p.args.length) (hw : n.width = (w : Int) + ((newK p.args w p.args.length).length : Int)) (ok : okA p.args w) (h8 : p.args.length ≤ 8) :
    Calls Try.prog 17 #[.agg #[av, nv, ev], .agg #[.int .i64 n.kind, .int .i64 n.parent, .int .i64 n.alpha, lv, mv, .int .i64 n.test.op, .bool n.test.l.v, .int .i64 n.test.l.n, .bool n.test.r.v, .int .i64 n.test.r.n, .int .i64 n.width], .agg #[.int .i64 p.pred, pv], .int .i64 (w : Int)] W
      fun e W' => e = .returned (.bool true) ∧ Below W.heap.size W W' := by
  obtain ⟨A3, C3, rfl⟩ := hP.al.form
  have hal := (List.getElem?_eq_some_iff.1 hai).1
  have ham := hP.al.len
  unfold maxLen at ham
  obtain ⟨ab, ao, rfl, -, hab, scs, ⟨sv, rfl, -, hsc⟩, hcs⟩ := RSl.at hP.al hai
  obtain ⟨Al, cl, rfl⟩ := hN.links.form
  obtain ⟨Am, cm, rfl⟩ := hN.new.form
  obtain ⟨Ap, cp, rfl⟩ := hp.form
  obtain ⟨As, cc, rfl⟩ := hsc.form
  have hHL := hN.links
  have hHM := hN.new
  have hsl : (shapeF p).cells.length = p.args.length := by simp [shapeF]
  rw [hsl] at hsc hcs
  rw [hl] at hHL ⊢
  rw [hn] at hHM ⊢
  have hwb := hN.ok.2.2.2.1.lo.2
  rw [hw] at hwb
  rw [ha, hw]
  obtain ⟨L, hL⟩ : ∃ L, linksK p.args w p.args.length = L := ⟨_, rfl⟩
  obtain ⟨M, hM⟩ : ∃ M, newK p.args w p.args.length = M := ⟨_, rfl⟩
  rw [hL] at hHL ⊢
  rw [hM] at hHM hwb ⊢
  have hLl : L.length ≤ 8 := by rw [← hL]; exact Nat.le_trans (linksK_le _ _ _) h8
  have hMl : M.length ≤ 8 := by rw [← hM]; exact Nat.le_trans (newK_le _ _ _) h8
  have HL := Lib.hid hL
  have HM := Lib.hid hM
  have HHL := Lib.hid hHL
  have HHM := Lib.hid hHM
  have HSC := Lib.hid hsc
  have HCS := Lib.hid hcs
  have HPP := Lib.hid hp
  have HOK := Lib.hid ok
  have HAI := Lib.hid hai
  clear hN hP hHL hHM hsc hcs hp ok hai hL hM ha hl hn hw hsl
  have e1 : (0 : Int) ≤ (ai : Int) := by omega
  have e2 : (ai : Int) < (st.al.length : Int) := by omega
  have e3 : ¬ (ai : Int) < 0 := by omega
  have e4 : ¬ (st.al.length : Int) ≤ (ai : Int) := by omega
  go_enter Try.func17, Try.ntmps17
  have T := Lib.hid (three W #[.slice (some ⟨ab, ao, none⟩) st.al.length C3, nv, ev] #[.int .i64 n.kind, .int .i64 n.parent, .int .i64 (ai : Int), .slice Al L.length cl, .slice Am M.length cm, .int .i64 n.test.op, .bool n.test.l.v, .int .i64 n.test.l.n, .bool n.test.r.v, .int .i64 n.test.r.n, .int .i64 ((w : Int) + (M.length : Int))] #[.int .i64 p.pred, .slice Ap p.args.length cp] 27 54 34)
  go_upto_region 1 with fail
  obtain ⟨W3, hW3⟩ : ∃ W3, W3 = ((W.alloc (.cells #[.slice (some ⟨ab, ao, none⟩) st.al.length C3, nv, ev] 27)).alloc (.cells #[.int .i64 n.kind, .int .i64 n.parent, .int .i64 (ai : Int), .slice Al L.length cl, .slice Am M.length cm, .int .i64 n.test.op, .bool n.test.l.v, .int .i64 n.test.l.n, .bool n.test.r.v, .int .i64 n.test.r.n, .int .i64 ((w : Int) + (M.length : Int))] 54)).alloc (.cells #[.int .i64 p.pred, .slice Ap p.args.length cp] 34) := ⟨_, rfl⟩
  rw [← hW3] at T ⊢
  clear hW3
  have b0 := T.out.ca (Below.refl _ _) 0 rfl
  have b1 := T.out.cb (Below.refl _ _) 2 rfl
  have hB4 : Below W3.heap.size W3 (W3.alloc (.cells #[.int .i64 p.pred, .slice As p.args.length cc] 79)) := (Below.refl _ _).alloc (Nat.le_refl _) _
  have b2 := T.out.cc hB4 0 rfl
  have b3 := T.out.cc hB4 1 rfl
  clear hB4
  have c0 := ((T.out.all (Below.refl _ _)).cell (p := ⟨ab, ao + ai * 2 + 0, none⟩) hab).trans (HCS.out 0 _ rfl)
  have c1 := ((T.out.all (Below.refl _ _)).cell (p := ⟨ab, ao + ai * 2 + 1, none⟩) hab).trans (HCS.out 1 _ rfl)
  have hpp : (shapeF p).pred = p.pred := rfl
  rw [hpp] at c0
  simp only [Nat.add_zero] at c0
  clear hpp
  go_wp2_with fail
  clear b0 b1 b2 b3 c0 c1
  go_loopw [10, 11, 12] (fun lv fv iv wr => ∃ i ln nn : Nat, iv = .int .i64 i ∧ lv = .int .i64 ln ∧ fv = .int .i64 nn ∧ i ≤ p.args.length ∧ ln = (linksK p.args w i).length ∧ nn = (newK p.args w i).length ∧ Below (W3.heap.size + 1) (W3.alloc (.cells #[.int .i64 p.pred, .slice As p.args.length cc] 79)) wr) (fun _ _ i _ => p.args.length - (intOf i).toNat)
  case atStart => exact ⟨0, 0, 0, rfl, rfl, rfl, Nat.zero_le _, by rw [linksK_zero]; rfl, by rw [newK_zero]; rfl, Below.refl _ _⟩
  case round =>
    obtain ⟨i, ln, nn, rfl, rfl, rfl, hi, hln, hnn, hS⟩ := hrel
    have hl9 : ln ≤ 8 := by rw [hln]; exact Nat.le_trans (linksK_le _ _ _) (by omega)
    have hn9 : nn ≤ 8 := by rw [hnn]; exact Nat.le_trans (newK_le _ _ _) (by omega)
    have hB := box_below hS
    by_cases hin : i < p.args.length
    · obtain ⟨s, hs⟩ : ∃ s, p.args[i]? = some s := ⟨_, List.getElem?_eq_getElem hin⟩
      have hsh : (shapeF p).cells[i]? = some (cellF p.args s) := by simp [shapeF, hs]
      obtain ⟨pb, po, rfl, -, hpb, cs, ⟨rfl, sok⟩, hc⟩ := RSl.at HPP.out hs
      obtain ⟨cb, co, rfl, -, hcb, cs, ⟨rfl, -⟩, hc2⟩ := RSl.at HSC.out hsh
      obtain ⟨wa, hwa⟩ : ∃ wa, wa = wr.alloc (.cells #[.bool s.v, .int .i64 s.n] 50) := ⟨_, rfl⟩
      have hSa : Below (W3.heap.size + 1) (W3.alloc (.cells #[.int .i64 p.pred, .slice (some ⟨cb, co, none⟩) p.args.length cc] 79)) wa := by rw [hwa]; exact box_step hS ((Below.refl _ _).alloc (Nat.le_refl _) _)
      have hzz : wa.heap[wr.heap.size]? = some (.cells #[.bool s.v, .int .i64 s.n] 50 (0, 0)) := by rw [hwa]; exact heap_alloc_new wr _
      have hzs : wr.heap.size < wa.heap.size := lt_of_heap hzz
      have hBa := box_below hSa
      have q0 := T.out.cc hB 1 rfl
      have x0 := ((T.out.all hB).cell (p := ⟨pb, po + i * 2 + 0, none⟩) hpb).trans (hc 0 _ rfl)
      have x1 := ((T.out.all hB).cell (p := ⟨pb, po + i * 2 + 1, none⟩) hpb).trans (hc 1 _ rfl)
      have y0 := box_cellL hSa 1 rfl
      have z0 := rboxL hzz 0 rfl
      have z1 := rboxL hzz 1 rfl
      have w0 := ((T.out.all hBa).cell (p := ⟨cb, co + i * 1 + 0, none⟩) hcb).trans (hc2 0 _ rfl)
      simp only [Nat.add_zero, Nat.mul_one] at x0 w0
      have e1 : (0 : Int) ≤ (i : Int) := by omega
      have e2 : (i : Int) < (p.args.length : Int) := by omega
      have HI := Lib.hid hin
      have HS := Lib.hid hs
      have HLN := Lib.hid hln
      have HNN := Lib.hid hnn
      have HSA := Lib.hid hSa
      have HZ := Lib.hid hzz
      clear hc hc2 hs hin hln hnn hS hSa hB hzz
      obtain ⟨sv, sn⟩ := s
      simp only at z0 z1 x0 x1 w0 hwa HZ
      go_upto_region 12 with fail
      rw [← hwa]
      clear hwa
      by_cases hv : sv = false
      · subst hv
        obtain ⟨p1, p2, p3⟩ := place_const (w := w) HS.out rfl
        rw [p1] at w0
        have HR := Lib.hid (And.intro p2 p3)
        clear p1 p2 p3 hBa hsh
        go_wp2_with fail
        go_quiet (fail)
        go_wp2
        exact ⟨⟨i + 1, ln, nn, by go_num, rfl, rfl, HI.out, by rw [linksK_succ, HR.out.1, List.append_nil]; exact HLN.out, by rw [newK_succ, HR.out.2, List.append_nil]; exact HNN.out, below_drewN HSA.out _⟩, by simp [intOf]; have := HI.out; omega⟩
      · have hv : sv = true := by simpa using hv
        subst hv
        obtain ⟨p1, p2, p3⟩ := place_var HS.out rfl
        rw [p1] at w0
        simp only at p2 p3 w0
        obtain ⟨j, hj⟩ : ∃ j, firstV p.args sn = j := ⟨_, rfl⟩
        rw [hj] at w0 p2 p3
        obtain ⟨pb', po', hA', -, -, cs, ⟨rfl, -⟩, hc⟩ := RSl.at HPP.out p3
        simp only [Option.some.injEq, Addr.mk.injEq, and_true] at hA'
        obtain ⟨rfl, rfl⟩ := hA'
        have r0 := ((T.out.all hBa).cell (p := ⟨pb, po + j * 2 + 0, none⟩) hpb).trans (hc 0 _ rfl)
        have r1 := ((T.out.all hBa).cell (p := ⟨pb, po + j * 2 + 1, none⟩) hpb).trans (hc 1 _ rfl)
        simp only [Nat.add_zero] at r0
        have q1 := T.out.cc hBa 1 rfl
        have hne := fun W => neq_slt_same ⟨true, sn⟩ W
        simp only at hne
        have e5 : IntKind.i64.wrap (-1 - (-1 - (j : Int))) = (j : Int) := by rw [IntWalk.i64_in _ (by omega)]; omega
        have e5' : IntKind.i64.wrap (j : Int) = (j : Int) := IntWalk.i64_in _ (by omega)
        have e6 : (0 : Int) ≤ (j : Int) := by omega
        have e7 : decide ((j : Int) < 0) = false := by simp
        have e8 : decide ((i : Int) < (j : Int)) = false := by simpa using p2
        have e8' : decide (i < j) = false := by simpa using p2
        have e9 : (j : Int) < (p.args.length : Int) := by have := HI.out; omega
        have HJ := Lib.hid hj
        clear hj p1 p3 hc hsh
        by_cases hji : j < i
        · obtain ⟨k1, k2⟩ := place_again (w := w) HS.out (by rw [HJ.out]; exact hji)
          have HR := Lib.hid (And.intro k1 k2)
          clear k1 k2 hBa
          go_wp2_with fail
          go_quiet (fail)
          go_wp2
          exact ⟨⟨i + 1, ln, nn, by go_num, rfl, rfl, HI.out, by rw [linksK_succ, HR.out.1, List.append_nil]; exact HLN.out, by rw [newK_succ, HR.out.2, List.append_nil]; exact HNN.out, below_drewN HSA.out _⟩, by simp [intOf]; have := HI.out; omega⟩
        · have hji2 : i = j := by omega
          subst hji2
          clear hji
          go_wp2_with fail
          go_quiet (fail)
          clear r0 r1 q1 q0 x0 x1 y0 w0 e5 e5' e6 e9 hne hBa
          go_wp2_with fail
          have WN := Lib.hid (below_drewN (Below.refl wa.heap.size wa) nq)
          clear z0 z1 e7 e8 e8' p2
          obtain ⟨wo, rfl⟩ : ∃ wo : World, wo = wr := ⟨_, rfl⟩
          go_loopw [15] (fun kv wq => ∃ k : Nat, kv = .int .i64 k ∧ k ≤ i ∧ Below wa.heap.size wa wq) (fun k _ => i - (intOf k).toNat)
          case atStart => exact ⟨0, rfl, Nat.zero_le _, WN.out⟩
          case round =>
            obtain ⟨k, rfl, hk, hW⟩ := hrel
            clear WN
            have hSq := box_step HSA.out hW
            have hBq := box_below hSq
            have z0 := (hW.cell (p := ⟨wo.heap.size, 0, none⟩) hzs).trans (rboxL HZ.out 0 rfl)
            have z1 := (hW.cell (p := ⟨wo.heap.size, 1, none⟩) hzs).trans (rboxL HZ.out 1 rfl)
            have HW := Lib.hid hW
            have HSQ := Lib.hid hSq
            by_cases hki : k < i
            · obtain ⟨t, ht⟩ : ∃ t, p.args[k]? = some t := ⟨_, List.getElem?_eq_getElem (by have := HI.out; omega)⟩
              have hne2 := fun W => eql_slt_diff (place_first HS.out rfl HJ.out k hki t ht) W
              obtain ⟨pb', po', hA', -, -, cs, ⟨rfl, -⟩, hc⟩ := RSl.at HPP.out ht
              simp only [Option.some.injEq, Addr.mk.injEq, and_true] at hA'
              obtain ⟨rfl, rfl⟩ := hA'
              have r0 := ((T.out.all hBq).cell (p := ⟨pb, po + k * 2 + 0, none⟩) hpb).trans (hc 0 _ rfl)
              have r1 := ((T.out.all hBq).cell (p := ⟨pb, po + k * 2 + 1, none⟩) hpb).trans (hc 1 _ rfl)
              simp only [Nat.add_zero] at r0
              have q1 := T.out.cc hBq 1 rfl
              have e6 : (0 : Int) ≤ (k : Int) := by omega
              have e7 : (k : Int) < (i : Int) := by omega
              have e9 : (k : Int) < (p.args.length : Int) := by have := HI.out; omega
              have HK := Lib.hid hki
              clear hc ht hW hSq hBq hki
              go_wp2_with fail
              go_quiet (fail)
              go_wp2
              exact ⟨⟨k + 1, by go_num, HK.out, below_drewN HW.out _⟩, by simp [intOf]; have := HK.out; omega⟩
            · have hki2 : i = k := by omega
              subst hki2
              by_cases hsw : sn < (w : Int)
              · have hpl := place_link HS.out rfl HJ.out hsw
                have hat : L[ln]? = some ((i : Int), sn) := by
                  have := linksK_at hpl.1 HI.out
                  rw [HL.out, ← HLN.out] at this
                  exact this
                obtain ⟨lb, lo, rfl, -, hlb, cs, ⟨rfl, -, -⟩, hc⟩ := RSl.at HHL.out hat
                have r0 := ((T.out.all hBq).cell (p := ⟨lb, lo + ln * 2 + 0, none⟩) hlb).trans (hc 0 _ rfl)
                have r1 := ((T.out.all hBq).cell (p := ⟨lb, lo + ln * 2 + 1, none⟩) hlb).trans (hc 1 _ rfl)
                simp only [Nat.add_zero] at r0
                have q1 := T.out.cb hBq 3 rfl
                have hlt := (List.getElem?_eq_some_iff.1 hat).1
                have e6 : (0 : Int) ≤ (ln : Int) := by omega
                have e9 : (ln : Int) < (L.length : Int) := by omega
                have e7 : decide ((L.length : Int) ≤ (ln : Int)) = false := by simpa using hlt
                have e8 : decide (L.length ≤ ln) = false := by simpa using hlt
                have HR := Lib.hid hpl
                clear hc hat hW hSq hBq hki hpl hlt
                go_wp2_with fail
                go_quiet (fail)
                go_wp2
                exact ⟨⟨i + 1, ln + 1, nn, by go_num, by go_num, rfl, HI.out, by rw [linksK_succ, HR.out.1, List.length_append, ← HLN.out]; rfl, by rw [newK_succ, HR.out.2, List.append_nil]; exact HNN.out, below_drewN HSQ.out _⟩, by simp [intOf]; have := HI.out; omega⟩
              · have hpl := place_new HOK.out HS.out rfl HJ.out hsw
                have hat : M[nn]? = some (i : Int) := by
                  have := newK_at hpl.2.1 HI.out
                  rw [HM.out, ← HNN.out] at this
                  exact this
                obtain ⟨lb, lo, rfl, -, hlb, cs, ⟨rfl, -⟩, hc⟩ := RSl.at HHM.out hat
                have r0 := ((T.out.all hBq).cell (p := ⟨lb, lo + nn * 1 + 0, none⟩) hlb).trans (hc 0 _ rfl)
                simp only [Nat.add_zero, Nat.mul_one] at r0
                have q1 := T.out.cb hBq 4 rfl
                have hlt := (List.getElem?_eq_some_iff.1 hat).1
                have hsn : sn = (w : Int) + (nn : Int) := by have := hpl.2.2; rw [← HNN.out] at this; exact this
                have e6 : (0 : Int) ≤ (nn : Int) := by omega
                have e9 : (nn : Int) < (M.length : Int) := by omega
                have e7 : decide ((M.length : Int) ≤ (nn : Int)) = false := by simpa using hlt
                have e8 : decide (M.length ≤ nn) = false := by simpa using hlt
                have e10 : IntKind.i64.wrap ((w : Int) + (nn : Int)) = sn := by rw [IntWalk.i64_in _ (by omega)]; exact hsn.symm
                have HR := Lib.hid hpl
                clear hc hat hW hSq hBq hki hpl hlt hsn
                go_wp2_with fail
                exact ⟨⟨i + 1, ln, nn + 1, by go_num, rfl, by go_num, HI.out, by rw [linksK_succ, HR.out.1, List.append_nil]; exact HLN.out, by rw [newK_succ, HR.out.2.1, List.length_append, ← HNN.out]; rfl, (by first | exact HSQ.out | exact below_drewN HSQ.out _ | exact HSQ.out.drew)⟩, by simp [intOf]; have := HI.out; omega⟩
    · obtain rfl : i = p.args.length := by omega
      have b1 := T.out.cb hB 3 rfl
      have b2 := T.out.cb hB 4 rfl
      have b3 := T.out.cb hB 10 rfl
      have b4 := T.out.cc hB 1 rfl
      rw [HL.out] at hln
      rw [HM.out] at hnn
      subst hln
      subst hnn
      have HB := Lib.hid (T.out.all hB)
      clear hB hS hin
      go_wp2
      go_ret
      exact ⟨rfl, HB.out⟩
end Go.Proofs.Ytonkbjdeaneicaa
