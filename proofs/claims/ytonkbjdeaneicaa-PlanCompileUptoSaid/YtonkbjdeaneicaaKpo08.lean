/- patterns, rulesOf: rules that share nothing with what came in. may: may a rule be compiled? -/
import Derived.Test.YtonkbjdeaneicaaKpo04
import Derived.Test.YtonkbjdeaneicaaKpo07
namespace Go.Proofs.Ytonkbjdeaneicaa
open Go.RowKit Pln

theorem infoSlt : (Try.prog.info? 50).map (fun i => (i.zero, i.size, i.bytes)) = some (some (.agg #[.bool false, .int .i64 0]), 2, 16) := by kernel_rfl
theorem infoPat : (Try.prog.info? 34).map (fun i => (i.zero, i.size, i.bytes)) = some (some (.agg #[.int .i64 0, .slice none 0 0]), 2, 32) := by kernel_rfl
theorem infoTst : (Try.prog.info? 52).map (fun i => (i.zero, i.size, i.bytes)) = some (some (.agg #[.int .i64 0, .bool false, .int .i64 0, .bool false, .int .i64 0]), 5, 40) := by kernel_rfl
theorem infoStrR : (Try.prog.info? 9).map (fun i => (i.zero, i.size, i.bytes)) = some (some (.string ⟨#[]⟩), 1, 16) := by kernel_rfl
theorem infoRl : (Try.prog.info? 39).map (fun i => (i.zero, i.size, i.bytes)) = some (some (.agg #[.int .i64 0, .slice none 0 0, .slice none 0 0, .slice none 0 0, .slice none 0 0, .slice none 0 0, .int .i64 0]), 7, 136) := by kernel_rfl

/-- A new list of the call's own. -/
def OwnsRes {α : Type} (C : Cdc α) (e : TypeId) (xs : List α) (w : World) (en : Ending) (w' : World) : Prop := ∃ v', en = .returned v' ∧ OwnL w.heap.size w' e C v' xs ∧ Below w.heap.size w w'
theorem below_own {w wr w' : World} {v : Value} (h : Below w.heap.size w wr) (ht : Turns v.ownBlock.toList wr w') (hv : ∀ b, v.ownBlock = some b → w.heap.size ≤ b) : Below w.heap.size w w' :=
  h.trans (ht.below h.size (fun x hx => hv x (by simpa using hx)))

set_option maxRecDepth 100000 in
set_option maxHeartbeats 1000000 in
theorem patternsW {F : Nat → Prop} (v : Value) (ps : List Pat) (w : World) (h : RPats F w v ps) (hS : ps.length ≤ 1048576 ∧ ∀ p ∈ ps, patSm 1048576 p) :
    Calls Try.prog 28 #[v] w (OwnsRes cdPat 34 ps w) := by
  obtain ⟨A, c, rfl⟩ := h.form
  have hm := hS.1
  have H := Lib.hid h
  have SM := Lib.hid hS
  clear h hS
  go_enter Try.func28, Try.ntmps28
  go_wp2
  go_loopw [3, 4] (fun m i wr => ∃ (k : Nat) (mv : Value), i = .int .i64 k ∧ m = mv ∧ k ≤ ps.length ∧ OwnL w.heap.size wr 34 cdPat mv (ps.take k) ∧ Below w.heap.size w wr) (fun _ i _ => ps.length - (intOf i).toNat)
  case atStart => exact ⟨0, _, rfl, rfl, Nat.zero_le _, OwnL.nil, Below.refl _ _⟩
  case round =>
    obtain ⟨k, mv, rfl, hmv, hk, hown, hb⟩ := hrel
    obtain ⟨ma, mc, hmf⟩ := hown.form
    rw [List.length_take_of_le hk] at hmf
    subst hmf
    subst hmv
    by_cases hkn : k < ps.length
    · obtain ⟨p, hp⟩ : ∃ p, ps[k]? = some p := ⟨_, List.getElem?_eq_getElem hkn⟩
      obtain ⟨b, off, rfl, hFb, hbs, cs, ⟨av, rfl, pok, ha⟩, hc⟩ := (RPats.kp H.out (Kp.of_below hb) (fun _ _ h => h)).at hp
      have c0 := hc 0 _ rfl
      have c1 := hc 1 _ rfl
      simp only [Nat.add_zero] at c0
      obtain ⟨Aa, ca, rfl⟩ := ha.form
      have hpl := SM.out.2 p (List.mem_of_getElem? hp)
      unfold patSm at hpl
      have e1 : (0 : Int) ≤ (k : Int) := by omega
      have e2 : (k : Int) < (ps.length : Int) := by omega
      have hsz := hb.size
      have HP := Lib.hid hp
      have HK := Lib.hid hkn
      have HB := Lib.hid hb
      have HA := Lib.hid ha
      have HO := Lib.hid hown
      have POK := Lib.hid pok
      have hc' := Lib.hid hc
      clear hc hp hkn hb ha hown pok
      go_wp2
      obtain ⟨wo, rfl⟩ : ∃ wo : World, wo = wr := ⟨_, rfl⟩
      go_loopw [5, 6] (fun m i wr => ∃ (j : Nat) (av : Value), i = .int .i64 j ∧ m = av ∧ j ≤ p.args.length ∧ OwnL wo.heap.size wr 50 cdSlt av (p.args.take j) ∧ Below wo.heap.size wo wr) (fun _ i _ => p.args.length - (intOf i).toNat)
      case atStart => exact ⟨0, _, rfl, rfl, Nat.zero_le _, OwnL.nil, Below.refl _ _⟩
      case round =>
        obtain ⟨j, av, rfl, hav, hj, hown2, hb2⟩ := hrel
        obtain ⟨aa, ac, haf⟩ := hown2.form
        rw [List.length_take_of_le hj] at haf
        subst haf
        subst hav
        have hC2 := hc'.out.kp (F := fun _ => True) (Kp.of_below hb2) hbs trivial
        have c0' := hC2 0 _ rfl
        have c1' := hC2 1 _ rfl
        simp only [Nat.add_zero] at c0'
        have hsz2 := hb2.size
        clear c0 c1 hC2
        by_cases hjn : j < p.args.length
        · obtain ⟨s, hs⟩ : ∃ s, p.args[j]? = some s := ⟨_, List.getElem?_eq_getElem hjn⟩
          obtain ⟨b', off', hAe, hF', hbs', cs', ⟨rfl, sok⟩, hc2⟩ := (HA.out.keep (Kp.of_below hb2)).at hs
          subst hAe
          have d0 := hc2 0 _ rfl
          have d1 := hc2 1 _ rfl
          simp only [Nat.add_zero] at d0
          have f1 : (0 : Int) ≤ (j : Int) := by omega
          have f2 : (j : Int) < (p.args.length : Int) := by omega
          have HJ := Lib.hid hjn
          have HS := Lib.hid hs
          have HO2 := Lib.hid hown2
          have HB2 := Lib.hid hb2
          have htl : (p.args.take j).length = j := List.length_take_of_le hj
          have HTL := Lib.hid htl
          clear hjn hs hown2 hb2 hc2 htl
          go_wp2_with (at_builtin; refine wpList_append_L HO2.out rfl (.tmp 23) (.tmp 32) 32 rfl Try.underlying32 infoSlt rfl (by decide) rfl #[.bool s.v, .int .i64 s.n] _ rfl rfl (x := s) ⟨rfl, sok⟩ (by rw [HTL.out]; omega) (by decide) hsz2 ?_; intro g cap w2 hown3 ht3 hat3 hlt3; rw [HTL.out] at hown3 ⊢; have N1 := Lib.hid hown3; have N2 := Lib.hid (below_own HB2.out ht3 (fun b hb => (HO2.out.block hb).1)); clear hown3 ht3 hat3 hlt3)
          refine ⟨⟨j + 1, _, by go_num, rfl, HJ.out, ?_, N2.out⟩, by simp [intOf]; have := HJ.out; omega⟩
          rw [List.take_add_one, HS.out]
          exact N1.out
        · obtain rfl : j = p.args.length := by omega
          rw [List.take_length] at hown2
          have HB2 := Lib.hid (HB.out.trans (hb2.mono hsz))
          have HO2 := Lib.hid (HO.out.below hb2)
          have htl : (ps.take k).length = k := List.length_take_of_le hk
          have HTL := Lib.hid htl
          have EP : EPat (New w.heap.size (.slice ma k mc)) wr [.int .i64 p.pred, .slice aa p.args.length ac] p := by
            refine ⟨_, rfl, POK.out, hown2.rsl (fun b hb => ⟨Nat.le_trans hsz (hown2.block hb).1, fun e => ?_⟩)⟩
            have h1 := (HO.out.block e).2
            have h2 := (hown2.block hb).1
            omega
          have HEP := Lib.hid EP
          have hsz3 := HB2.out.size
          clear hown2 hb2 hjn htl EP
          go_wp2_with (at_builtin; refine wpList_append_L HO2.out rfl (.tmp 34) (.tmp 42) 35 rfl Try.underlying35 infoPat rfl (by decide) rfl #[.int .i64 p.pred, .slice aa p.args.length ac] _ rfl rfl (x := p) HEP.out (by rw [HTL.out]; omega) (by decide) hsz3 ?_; intro g cap w2 hown3 ht3 hat3 hlt3; rw [HTL.out] at hown3 ⊢; have N1 := Lib.hid hown3; have N2 := Lib.hid (below_own HB2.out ht3 (fun b hb => (HO2.out.block hb).1)); clear hown3 ht3 hat3 hlt3)
          refine ⟨⟨k + 1, _, by go_num, rfl, HK.out, ?_, N2.out⟩, by simp [intOf]; have := HK.out; omega⟩
          rw [List.take_add_one, HP.out]
          exact N1.out
    · obtain rfl : k = ps.length := by omega
      rw [List.take_length] at hown
      have HO := Lib.hid hown
      have HB := Lib.hid hb
      clear hown hb
      go_wp2
      go_ret
      exact ⟨_, rfl, HO.out, HB.out⟩

/-- A block of cells that is written cell by cell: what lay ahead of it stays. -/
structure BoxSt (wo W : World) (T : TypeId) (cells : Array Value) : Prop where
  blk : W.heap[wo.heap.size]? = some (.cells cells T (0, 0))
  below : Below wo.heap.size wo W
theorem BoxSt.mk0 {wo wr : World} {T : TypeId} {cells : Array Value} (h : Below (wo.heap.size + 1) (wo.alloc (.cells cells T)) wr) : BoxSt wo wr T cells :=
  ⟨(h.block _ (by simp)).trans (heap_alloc_new wo _), box_below h⟩
section
variable {wo W W' : World} {T : TypeId} {cells : Array Value}
theorem BoxSt.lt (h : BoxSt wo W T cells) : wo.heap.size < W.heap.size := lt_of_heap h.blk
theorem BoxSt.cell (h : BoxSt wo W T cells) (j : Nat) {u : Value} (hu : cells[j]? = some u) : W.cell? ⟨wo.heap.size, j, none⟩ = some u := (cell_of_row _ _ j _ _ _ h.blk).trans hu
theorem BoxSt.fz (h : BoxSt wo W T cells) (o : Nat) : W.frozen? ⟨wo.heap.size, o, none⟩ = false := by
  have := h.blk
  simp [World.frozen?, this]
theorem BoxSt.set (h : BoxSt wo W T cells) (j : Nat) (u : Value) {cells' : Array Value} (hc : cells.setIfInBounds j u = cells') : BoxSt wo (W.setCell ⟨wo.heap.size, j, none⟩ u) T cells' := by
  subst hc
  exact ⟨heap_setCell_same W _ j cells T u h.blk, h.below.setCell (Nat.le_refl _) u⟩
theorem BoxSt.step (h : BoxSt wo W T cells) (hb : Below W.heap.size W W') : BoxSt wo W' T cells :=
  ⟨(hb.block _ h.lt).trans h.blk, h.below.trans (hb.mono h.below.size)⟩
theorem BoxSt.kp (W : World) (j : Nat) (u : Value) : Kp (fun b => wo.heap.size < b) W (W.setCell ⟨wo.heap.size, j, none⟩ u) :=
  ⟨by simp, fun b _ hb => Below.heap_setCell _ _ _ _ (by simp; omega)⟩
end

set_option maxRecDepth 100000 in
set_option maxHeartbeats 4000000 in
theorem rulesOfW {F : Nat → Prop} (v : Value) (rs : List Rl) (w : World) (h : RRules F w v rs) (hS : rs.length ≤ 1048576 ∧ ∀ r ∈ rs, rlSm 1048576 r) :
    Calls Try.prog 9 #[v] w (OwnsRes cdRl 39 rs w) := by
  obtain ⟨A, c, rfl⟩ := h.form
  have hm := hS.1
  have H := Lib.hid h
  have SM := Lib.hid hS
  clear h hS
  go_enter Try.func9, Try.ntmps9
  go_wp2
  go_loopw [3, 4] (fun m i wr => ∃ (k : Nat) (mv : Value), i = .int .i64 k ∧ m = mv ∧ k ≤ rs.length ∧ OwnL w.heap.size wr 39 cdRl mv (rs.take k) ∧ Below w.heap.size w wr) (fun _ i _ => rs.length - (intOf i).toNat)
  case atStart => exact ⟨0, _, rfl, rfl, Nat.zero_le _, OwnL.nil, Below.refl _ _⟩
  case round =>
    obtain ⟨k, mv, rfl, hmv, hk, hown, hb⟩ := hrel
    obtain ⟨ma, mc, hmf⟩ := hown.form
    rw [List.length_take_of_le hk] at hmf
    subst hmf
    subst hmv
    by_cases hkn : k < rs.length
    · obtain ⟨r, hr⟩ : ∃ r, rs[k]? = some r := ⟨_, List.getElem?_eq_getElem hkn⟩
      obtain ⟨b, off, rfl, hFb, hbs, cs, ⟨hv, pv, tv, nv, vv, hE⟩, hc⟩ := (RRules.kp H.out (Kp.of_below hb) (fun _ _ h => h)).at hr
      have hcs := hE.cells
      subst hcs
      have c0 := hc 0 _ rfl
      have c1 := hc 1 _ rfl
      have c2 := hc 2 _ rfl
      have c3 := hc 3 _ rfl
      have c4 := hc 4 _ rfl
      have c5 := hc 5 _ rfl
      have c6 := hc 6 _ rfl
      simp only [Nat.add_zero] at c0
      obtain ⟨Ah, ch, rfl⟩ := hE.head.form
      obtain ⟨Ap, cp, rfl⟩ := hE.pos.form
      obtain ⟨At, ct, rfl⟩ := hE.tests.form
      obtain ⟨An, cn, rfl⟩ := hE.neg.form
      obtain ⟨Av, cv, rfl⟩ := hE.vars.form
      have hpl := SM.out.2 r (List.mem_of_getElem? hr)
      have hp2 := hpl.tests
      have hp3 := hpl.vars
      have e1 : (0 : Int) ≤ (k : Int) := by omega
      have e2 : (k : Int) < (rs.length : Int) := by omega
      have hsz := hb.size
      have HP := Lib.hid hr
      have HK := Lib.hid hkn
      have HB := Lib.hid hb
      have HE := Lib.hid hE
      have HO := Lib.hid hown
      have SR := Lib.hid hpl
      clear hc hr hkn hb hE hown hpl
      go_wp2
      obtain ⟨wo, rfl⟩ : ∃ wo : World, wo = wr := ⟨_, rfl⟩
      go_loopw [6, 7] (fun m i wr => ∃ (j : Nat) (av : Value), i = .int .i64 j ∧ m = av ∧ j ≤ r.tests.length ∧ OwnL (wo.heap.size + 1) wr 52 cdTst av (r.tests.take j) ∧ Below (wo.heap.size + 1) (wo.alloc (.cells #[.int .i64 r.head.pred, .slice Ah r.head.args.length ch, .slice Ap r.pos.length cp, .slice At r.tests.length ct, .slice An r.neg.length cn, .slice Av r.vars.length cv, .int .i64 r.clause] 39)) wr) (fun _ i _ => r.tests.length - (intOf i).toNat)
      case atStart => exact ⟨0, _, rfl, rfl, Nat.zero_le _, OwnL.nil, Below.refl _ _⟩
      case round =>
        obtain ⟨j, av, rfl, hav, hj, hown2, hb2⟩ := hrel
        obtain ⟨aa, ac, haf⟩ := hown2.form
        rw [List.length_take_of_le hj] at haf
        subst haf
        subst hav
        have x3 := box_cell hb2 3 _ rfl
        have hsz2 : wo.heap.size + 1 ≤ wr.heap.size := by have := hb2.size; simpa using this
        clear c0 c1 c2 c3 c4 c5 c6
        by_cases hjn : j < r.tests.length
        · obtain ⟨t, ht⟩ : ∃ t, r.tests[j]? = some t := ⟨_, List.getElem?_eq_getElem hjn⟩
          obtain ⟨b', off', hAe, hF', hbs', cs', ⟨rfl, tok⟩, hc2⟩ := (HE.out.tests.keep (Kp.of_below (box_below hb2))).at ht
          subst hAe
          have d0 := hc2 0 _ rfl
          have d1 := hc2 1 _ rfl
          have d2 := hc2 2 _ rfl
          have d3 := hc2 3 _ rfl
          have d4 := hc2 4 _ rfl
          simp only [Nat.add_zero] at d0
          have f1 : (0 : Int) ≤ (j : Int) := by omega
          have f2 : (j : Int) < (r.tests.length : Int) := by omega
          have HJ := Lib.hid hjn
          have HS := Lib.hid ht
          have HO2 := Lib.hid hown2
          have HB2 := Lib.hid hb2
          have htl : (r.tests.take j).length = j := List.length_take_of_le hj
          have HTL := Lib.hid htl
          clear hjn ht hown2 hb2 hc2 htl
          go_wp2_with (at_builtin; refine wpList_append_L HO2.out rfl (.tmp 27) (.tmp 33) 36 rfl Try.underlying36 infoTst rfl (by decide) rfl #[.int .i64 t.op, .bool t.l.v, .int .i64 t.l.n, .bool t.r.v, .int .i64 t.r.n] _ rfl rfl (x := t) ⟨rfl, tok⟩ (by rw [HTL.out]; omega) (by decide) hsz2 ?_; intro g cap w2 hown3 ht3 hat3 hlt3; rw [HTL.out] at hown3 ⊢; have N1 := Lib.hid hown3; have N2 := Lib.hid (HB2.out.trans (ht3.below hsz2 (fun b hb => (HO2.out.block (by simpa using hb)).1))); clear hown3 ht3 hat3 hlt3)
          refine ⟨⟨j + 1, _, by go_num, rfl, HJ.out, ?_, N2.out⟩, by simp [intOf]; have := HJ.out; omega⟩
          rw [List.take_add_one, HS.out]
          exact N1.out
        · obtain rfl : j = r.tests.length := by omega
          rw [List.take_length] at hown2
          have HB2 := Lib.hid hb2
          have HO2 := Lib.hid hown2
          clear hown2 hb2 hjn
          go_wp2
          obtain ⟨wq, rfl⟩ : ∃ wo : World, wo = wr := ⟨_, rfl⟩
          go_loopw [8, 9] (fun m i wr => ∃ (j : Nat) (sv : Value), i = .int .i64 j ∧ m = sv ∧ j ≤ r.vars.length ∧ OwnL wq.heap.size wr 9 cdStr sv (r.vars.take j) ∧ Below wq.heap.size wq wr) (fun _ i _ => r.vars.length - (intOf i).toNat)
          case atStart => exact ⟨0, _, rfl, rfl, Nat.zero_le _, OwnL.nil, Below.refl _ _⟩
          case round =>
            obtain ⟨j, sv, rfl, hav, hj, hown2, hb3⟩ := hrel
            obtain ⟨va, vc, haf⟩ := hown2.form
            rw [List.length_take_of_le hj] at haf
            subst haf
            subst hav
            have HB4 := Lib.hid (HB2.out.trans (hb3.mono hsz2))
            have x5 := box_cell HB4.out 5 _ rfl
            have hsz3 := hb3.size
            have hsz4 : wo.heap.size < wr.heap.size := by omega
            clear x3
            by_cases hjn : j < r.vars.length
            · obtain ⟨t, ht⟩ : ∃ t, r.vars[j]? = some t := ⟨_, List.getElem?_eq_getElem hjn⟩
              obtain ⟨b', off', hAe, hF', hbs', cs', ⟨rfl, tok⟩, hc2⟩ := (HE.out.vars.keep (Kp.of_below (box_below HB4.out))).at ht
              subst hAe
              have d0 := hc2 0 _ rfl
              simp only [Nat.add_zero] at d0
              rw [Nat.mul_one] at d0
              have f1 : (0 : Int) ≤ (j : Int) := by omega
              have f2 : (j : Int) < (r.vars.length : Int) := by omega
              have HJ := Lib.hid hjn
              have HS := Lib.hid ht
              have HO3 := Lib.hid hown2
              have HB3 := Lib.hid hb3
              have htl : (r.vars.take j).length = j := List.length_take_of_le hj
              have HTL := Lib.hid htl
              clear hjn ht hown2 hb3 hc2 htl
              go_wp2_with (at_builtin; refine wpList_append_L HO3.out rfl (.tmp 42) (.tmp 48) 37 rfl Try.underlying37 infoStrR rfl (by decide) rfl #[.string t] _ rfl rfl (x := t) ⟨rfl, tok⟩ (by rw [HTL.out]; omega) (by decide) hsz3 ?_; intro g cap w2 hown3 ht3 hat3 hlt3; rw [HTL.out] at hown3 ⊢; have N1 := Lib.hid hown3; have N2 := Lib.hid (HB3.out.trans (ht3.below hsz3 (fun b hb => (HO3.out.block (by simpa using hb)).1))); clear hown3 ht3 hat3 hlt3)
              refine ⟨⟨j + 1, _, by go_num, rfl, HJ.out, ?_, N2.out⟩, by simp [intOf]; have := HJ.out; omega⟩
              rw [List.take_add_one, HS.out]
              exact N1.out
            · obtain rfl : j = r.vars.length := by omega
              rw [List.take_length] at hown2
              have HB3 := Lib.hid hb3
              have HO3 := Lib.hid hown2
              have B0 := BoxSt.mk0 HB4.out
              have x0 := B0.cell 0 rfl
              have x1 := B0.cell 1 rfl
              have x2 := B0.cell 2 rfl
              have x3 := B0.cell 3 rfl
              have x4 := B0.cell 4 rfl
              have x6 := B0.cell 6 rfl
              have fz := B0.fz
              have L1 := Lib.hid ((HO2.out.below hb3).rsl (F := fun b => wo.heap.size < b) (fun b hb => (HO2.out.block hb).1))
              have L2 := Lib.hid (hown2.rsl (F := fun b => wo.heap.size < b) (fun b hb => by have := (hown2.block hb).1; omega))
              have B1 := Lib.hid ((((B0.set 3 (.slice aa r.tests.length ac) rfl).set 5 (.slice va r.vars.length vc) rfl)).step ((Below.refl _ _).alloc (Nat.le_refl _) (.cells #[.int .i64 r.head.pred, .slice Ah r.head.args.length ch] 34)))
              have K1 := Lib.hid (((BoxSt.kp (wo := wo) wr 3 (.slice aa r.tests.length ac)).trans (BoxSt.kp (wo := wo) _ 5 (.slice va r.vars.length vc))).trans (Kp.of_below ((Below.refl _ _).alloc (Nat.le_refl _) (.cells #[.int .i64 r.head.pred, .slice Ah r.head.args.length ch] 34))))
              clear hown2 hb3 hjn B0
              go_wp2_with fail
              have R1 : RPats (fun b => b < wo.heap.size ∨ True) (((wr.setCell ⟨wo.heap.size, 3, none⟩ (.slice aa r.tests.length ac)).setCell ⟨wo.heap.size, 5, none⟩ (.slice va r.vars.length vc)).alloc (.cells #[.int .i64 r.head.pred, .slice Ah r.head.args.length ch] 34)) (.slice (some ⟨wr.heap.size, 0, none⟩) 1 1) [r.head] := by
                refine ⟨_, 1, rfl, Nat.le_refl _, by unfold maxLen; decide, (fun h => by cases h), .inr ⟨wr.heap.size, 0, rfl, .inr trivial, by simp, fun i x hx => ?_⟩⟩
                match i with
                | 0 =>
                  simp only [List.getElem?_cons_zero, Option.some.injEq] at hx
                  subst hx
                  refine ⟨[.int .i64 r.head.pred, .slice Ah r.head.args.length ch], ⟨_, rfl, HE.out.hok, HE.out.head.kp (Kp.of_below B1.out.below) (fun _ _ _ => .inr trivial) (fun _ _ h => h)⟩, fun j u hu => ?_⟩
                  have hh := heap_alloc_new ((wr.setCell ⟨wo.heap.size, 3, none⟩ (.slice aa r.tests.length ac)).setCell ⟨wo.heap.size, 5, none⟩ (.slice va r.vars.length vc)) (.cells #[.int .i64 r.head.pred, .slice Ah r.head.args.length ch] 34)
                  simp only [World.size_setCell] at hh
                  refine (cell_of_row _ wr.heap.size (0 + 0 * 2 + j) _ _ _ hh).trans ?_
                  rw [← hu]
                  simp
                | i + 1 => simp at hx
              refine (patternsW _ _ _ R1 ⟨by simp, by simpa using SR.out.head⟩).mono ?_
              rintro e w4 ⟨v1, rfl, o1, hb5⟩
              obtain ⟨g1, q1, rfl⟩ : ∃ g c, v1 = .slice (some ⟨g, 0, none⟩) 1 c := by
                obtain ⟨cells, q1, _⟩ := o1
                rcases q1.2 with ⟨_, h0⟩ | ⟨g, cap, cur, rfl, _⟩
                · simp at h0
                · exact ⟨_, _, rfl⟩
              have B2 := B1.out.step hb5
              obtain ⟨b6, off6, hA6, hF6, hlt6, cs6, ⟨hv6, rfl, pok6, hl6⟩, hc6⟩ := (o1.rsl (F := fun b => wr.heap.size < b) (fun b hb => by have := (o1.block hb).1; simp at this; omega)).at (i := 0) (x := r.head) rfl
              obtain ⟨A6, c6, rfl⟩ := hl6.form
              simp only [Option.some.injEq, Addr.mk.injEq, and_true] at hA6
              obtain ⟨rfl, rfl⟩ := hA6
              have k0 := hc6 0 _ rfl
              have k1 := hc6 1 _ rfl
              have K2 := Lib.hid (K1.out.trans (Kp.of_below hb5))
              have x0 := B2.cell 0 rfl
              have x1 := B2.cell 1 rfl
              have x2 := B2.cell 2 rfl
              have x4 := B2.cell 4 rfl
              have fz := B2.fz
              have hg1 := hlt6
              have hne : g1 ≠ wo.heap.size := by omega
              have hwo4 := B2.lt
              have L3 := Lib.hid (hl6.kp (F' := fun b => wo.heap.size < b) (Kp.refl _ _) (fun b _ hb => by have := hb.1; simp at this; omega) (fun _ _ h => h))
              have B3 := Lib.hid ((B2.set 0 (.int .i64 r.head.pred) rfl).set 1 (.slice A6 r.head.args.length c6) rfl)
              have K3 := Lib.hid ((BoxSt.kp (wo := wo) w4 0 (.int .i64 r.head.pred)).trans (BoxSt.kp (wo := wo) _ 1 (.slice A6 r.head.args.length c6)))
              simp only [Nat.zero_mul, Nat.add_zero, Nat.zero_add] at k0 k1
              clear hb5 B2 o1 hl6 hc6 R1
              go_wp2_with fail
              refine (patternsW _ _ _ (RPats.kp HE.out.pos (Kp.of_below B3.out.below) (fun _ _ h => h)) SR.out.pos).mono ?_
              rintro e w5 ⟨v2, rfl, o2, hb7⟩
              obtain ⟨A7, c7, rfl⟩ := o2.form
              have B4 := B3.out.step hb7
              have K4 := Lib.hid ((K2.out.trans K3.out).trans (Kp.of_below hb7))
              have K5 := Lib.hid (K3.out.trans (Kp.of_below hb7))
              have L4 := Lib.hid (o2.rsl' (F := fun b => wo.heap.size < b) (fun b hb _ => by simp at hb; omega))
              have x0 := B4.cell 0 rfl
              have x1 := B4.cell 1 rfl
              have x2 := B4.cell 2 rfl
              have x4 := B4.cell 4 rfl
              have fz := B4.fz
              have hwo5 := B4.lt
              have B5 := Lib.hid (B4.set 2 (.slice A7 r.pos.length c7) rfl)
              have K6 := Lib.hid (BoxSt.kp (wo := wo) w5 2 (.slice A7 r.pos.length c7))
              clear hb7 B4 o2 k0 k1
              go_wp2_with fail
              refine (patternsW _ _ _ (RPats.kp HE.out.neg (Kp.of_below B5.out.below) (fun _ _ h => h)) SR.out.neg).mono ?_
              rintro e w6 ⟨v3, rfl, o3, hb8⟩
              obtain ⟨A8, c8, rfl⟩ := o3.form
              have B6 := B5.out.step hb8
              have L5 := Lib.hid (o3.rsl' (F := fun b => wo.heap.size < b) (fun b hb _ => by simp at hb; omega))
              have x0 := B6.cell 0 rfl
              have x1 := B6.cell 1 rfl
              have x2 := B6.cell 2 rfl
              have x3 := B6.cell 3 rfl
              have x4 := B6.cell 4 rfl
              have x5 := B6.cell 5 rfl
              have x6 := B6.cell 6 rfl
              have fz := B6.fz
              have hwo6 := B6.lt
              have B7 := Lib.hid (B6.set 4 (.slice A8 r.neg.length c8) rfl)
              have K7 : Kp (fun b => wo.heap.size < b) w6 (w6.setCell ⟨wo.heap.size, 4, none⟩ (.slice A8 r.neg.length c8)) := BoxSt.kp (wo := wo) w6 4 (.slice A8 r.neg.length c8)
              have K8 := (K6.out.trans (Kp.of_below hb8)).trans K7
              have G1 : ∀ b, True → wo.heap.size < b → New w.heap.size (.slice ma k mc) b := fun b _ hb => ⟨by omega, fun e => by have := (HO.out.block e).2; omega⟩
              have EP : ERule (New w.heap.size (.slice ma k mc)) (w6.setCell ⟨wo.heap.size, 4, none⟩ (.slice A8 r.neg.length c8)) [.int .i64 r.head.pred, .slice A6 r.head.args.length c6, .slice A7 r.pos.length c7, .slice aa r.tests.length ac, .slice A8 r.neg.length c8, .slice va r.vars.length vc, .int .i64 r.clause] r :=
                ⟨_, _, _, _, _, ⟨rfl, HE.out.hok, HE.out.cok, L3.out.kp (K5.out.trans K8) (fun b _ h => G1 b trivial h) (fun _ _ h => h), RPats.kp L4.out K8 (fun b _ h => G1 b trivial h),
                  L1.out.kp (K4.out.trans K8) (fun b _ h => G1 b trivial h) (fun _ _ h => h), RPats.kp L5.out K7 (fun b _ h => G1 b trivial h), L2.out.kp (K4.out.trans K8) (fun b _ h => G1 b trivial h) (fun _ _ h => h)⟩⟩
              have HEP := Lib.hid EP
              have HO4 := Lib.hid (HO.out.below B7.out.below)
              have HB5 := Lib.hid (HB.out.trans (B7.out.below.mono hsz))
              have hsz8 : w.heap.size ≤ (w6.setCell ⟨wo.heap.size, 4, none⟩ (.slice A8 r.neg.length c8)).heap.size := HB5.out.size
              have HTL := Lib.hid (show (rs.take k).length = k from List.length_take_of_le hk)
              clear hb8 B6 o3 K7 K8 G1 EP
              go_wp2_with (at_builtin; refine wpList_append_L HO4.out rfl (.tmp 69) (.tmp 71) 22 rfl Try.underlying22 infoRl rfl (by decide) rfl #[.int .i64 r.head.pred, .slice A6 r.head.args.length c6, .slice A7 r.pos.length c7, .slice aa r.tests.length ac, .slice A8 r.neg.length c8, .slice va r.vars.length vc, .int .i64 r.clause] _ rfl (by simp) (x := r) HEP.out (by rw [HTL.out]; omega) (by decide) hsz8 ?_; intro g cap w9 hown9 ht9 hat9 hlt9; rw [HTL.out] at hown9 ⊢; have N1 := Lib.hid hown9; have N2 := Lib.hid (below_own HB5.out ht9 (fun b hb => (HO4.out.block hb).1)); clear hown9 ht9 hat9 hlt9)
              refine ⟨⟨k + 1, _, by go_num, rfl, HK.out, ?_, N2.out⟩, by simp [intOf]; have := HK.out; omega⟩
              rw [List.take_add_one, HP.out]
              exact N1.out
    · obtain rfl : k = rs.length := by omega
      rw [List.take_length] at hown
      have HO := Lib.hid hown
      have HB := Lib.hid hb
      clear hown hb
      go_wp2
      go_ret
      exact ⟨_, rfl, HO.out, HB.out⟩
end Go.Proofs.Ytonkbjdeaneicaa

namespace Go.Proofs.Ytonkbjdeaneicaa
open Go.RowKit Pln Classical

theorem conditionsW {F : Nat → Prop} {cs : List Value} {hv pv tv nv vv : Value} (r : Rl) (w : World) (h : ERl F w cs r hv pv tv nv vv) (hS : rlSm 1048576 r) :
    Calls Try.prog 49 #[.agg #[.int .i64 r.head.pred, hv, pv, tv, nv, vv, .int .i64 r.clause]] w fun e w' => e = .returned (.int .i64 ((r.pos.length + r.tests.length + r.neg.length : Nat) : Int)) ∧ Below w.heap.size w w' := by
  obtain ⟨Ap, cp, hpv⟩ := h.pos.form
  obtain ⟨At, ct, htv⟩ := h.tests.form
  obtain ⟨An, cn, hnv⟩ := h.neg.form
  subst hpv; subst htv; subst hnv
  have l1 := hS.pos.1
  have l2 := hS.tests
  have l3 := hS.neg.1
  clear h hS
  go_enter Try.func49, Try.ntmps49
  go_wp2
  go_ret
  exact ⟨ret_i64 (by omega), (Below.refl _ _).alloc (Nat.le_refl _) _⟩

noncomputable def mpB (p : Pat) : Bool := decide (0 ≤ p.pred ∧ p.args.length ≤ 8 ∧ ∀ s ∈ p.args, 0 ≤ s.n)
theorem mpB_true {p : Pat} (h : 0 ≤ p.pred ∧ p.args.length ≤ 8 ∧ ∀ s ∈ p.args, 0 ≤ s.n) : mpB p = true := by simp only [mpB, decide_eq_true_eq]; exact h
theorem mpB_false {p : Pat} (h : ¬ (0 ≤ p.pred ∧ p.args.length ≤ 8 ∧ ∀ s ∈ p.args, 0 ≤ s.n)) : mpB p = false := by simp only [mpB, decide_eq_false_iff_not]; exact h
set_option maxRecDepth 100000 in
theorem mayPatternW {F : Nat → Prop} (p : Pat) (v : Value) (w : World) (h : RSl F w 2 ESlt v p.args) (hS : patSm 1048576 p) :
    Calls Try.prog 50 #[.agg #[.int .i64 p.pred, v]] w fun e w' => e = .returned (.bool (mpB p)) ∧ Below w.heap.size w w' := by
  obtain ⟨A, c, rfl⟩ := h.form
  have hS' : p.args.length ≤ 1048576 := hS
  by_cases h0 : p.pred < 0
  · have HF := Lib.hid (mpB_false (p := p) (fun hh => by omega))
    clear h hS
    go_enter Try.func50, Try.ntmps50
    go_wp2
    go_ret
    exact ⟨ret_bool HF.out.symm, (Below.refl _ _).alloc (Nat.le_refl _) _⟩
  · by_cases h8 : 8 < p.args.length
    · have HF := Lib.hid (mpB_false (p := p) (fun hh => by omega))
      clear h hS
      go_enter Try.func50, Try.ntmps50
      go_wp2
      go_ret
      exact ⟨ret_bool HF.out.symm, (Below.refl _ _).alloc (Nat.le_refl _) _⟩
    · have C := Lib.hid (fun W (hb : Below w.heap.size w W) => containsFunc_mayPattern _ p.args (fun s => decide (s.n < 0)) W (h.keep (Kp.of_below hb)) (fun s _ W' _ => mayPattern1W s W'))
      clear h hS
      have hfin : (!decide (0 ≤ idxI (fun s => decide (s.n < 0)) p.args)) = mpB p := by
        by_cases hn : ∀ s ∈ p.args, 0 ≤ s.n
        · rw [mpB_true ⟨by omega, by omega, hn⟩, idxI_none (fun s hs => by simpa using hn s hs)]
          decide
        · rw [mpB_false (fun h => hn h.2.2)]
          obtain ⟨s, hs⟩ := Classical.not_forall.1 hn
          obtain ⟨hs1, hs2⟩ := Classical.not_imp.1 hs
          have : 0 ≤ idxI (fun s => decide (s.n < 0)) p.args := idxI_ge.2 ⟨s, hs1, by simp; omega⟩
          simp [this]
      have HF := Lib.hid hfin
      clear hfin
      go_enter Try.func50, Try.ntmps50
      go_wp2_with (go_at_call 51; refine (C.out _ ?_).mono ?_; exact (Below.refl _ _).alloc (Nat.le_refl _) _; rintro e w' ⟨rfl, hb2⟩; have HB2 := Lib.hid hb2; clear hb2)
      go_ret
      exact ⟨ret_bool HF.out, ((Below.refl _ _).alloc (Nat.le_refl _) _).trans (HB2.out.mono (by simp))⟩

theorem okA_nonneg {args : List Slt} {w : Nat} (h : okA args w) : ∀ s ∈ args, 0 ≤ s.n := by
  intro s hs
  obtain ⟨k, hk⟩ := List.mem_iff_getElem?.1 hs
  exact (okA_at h hk).1
theorem Kp.of_two {B : Nat} {w a c : World} (ha : Below B w a) (hc : Below B w c) (hs : a.heap.size ≤ c.heap.size) : Kp (fun b => b < B) a c :=
  ⟨hs, fun b _ hb => (hc.block b hb).trans (ha.block b hb).symm⟩
theorem BoxSt.alloc {wo W : World} {T : TypeId} {cells : Array Value} (h : BoxSt wo W T cells) (o : Obj) : BoxSt wo (W.alloc o) T cells := h.step ((Below.refl _ _).alloc (Nat.le_refl _) o)

set_option maxRecDepth 100000 in
set_option maxHeartbeats 8000000 in
theorem mayW {F : Nat → Prop} {cs : List Value} {hv pv tv nv vv : Value} (r : Rl) (w : World) (h : ERl F w cs r hv pv tv nv vv) (hS : rlSm 1048576 r) :
    Calls Try.prog 29 #[.agg #[.int .i64 r.head.pred, hv, pv, tv, nv, vv, .int .i64 r.clause]] w fun e w' => e = .returned (.bool (mayB r)) ∧ Below w.heap.size w w' := by
  have C0 := Lib.hid (fun W (hb : Below w.heap.size w W) => conditionsW r W (h.kp (Kp.of_below hb) (fun _ _ h => h)) hS)
  obtain ⟨Ap, cp, hpv⟩ := h.pos.form
  obtain ⟨At, ct, htv⟩ := h.tests.form
  obtain ⟨An, cn, hnv⟩ := h.neg.form
  subst hpv; subst htv; subst hnv
  have l1 := hS.pos.1
  have l2 := hS.tests
  have l3 := hS.neg.1
  have H := Lib.hid (h.kp (F' := fun b => b < w.heap.size) (Kp.refl _ _) (fun b hb _ => hb))
  have SM := Lib.hid hS
  clear h hS
  by_cases hmany : 16 < r.pos.length + r.tests.length + r.neg.length
  · have hb := Lib.hid (mayB_false (r := r) (fun ⟨w, hh⟩ => by have := hh.many; omega))
    have hm1 : (16 : Int) < ((r.pos.length + r.tests.length + r.neg.length : Nat) : Int) := by omega
    go_enter Try.func29, Try.ntmps29
    go_wp2_with (go_at_call 49; refine (C0.out _ ?_).mono ?_; exact (Below.refl _ _).alloc (Nat.le_refl _) _; rintro e w' ⟨rfl, hb2⟩; have HB2 := Lib.hid hb2; clear hb2)
    go_ret
    exact ⟨ret_bool hb.out.symm, ((Below.refl _ _).alloc (Nat.le_refl _) _).trans (HB2.out.mono (by simp))⟩
  · have hm1 : ¬ (16 : Int) < ((r.pos.length + r.tests.length + r.neg.length : Nat) : Int) := by omega
    go_enter Try.func29, Try.ntmps29
    go_wp2_with (go_at_call 49; refine (C0.out _ ?_).mono ?_; exact (Below.refl _ _).alloc (Nat.le_refl _) _; rintro e w2 ⟨rfl, hb2⟩; have x1 := box_cell (hb2.mono (by simp)) 2 _ rfl; have HB2 := Lib.hid (hb2.mono (show w.heap.size + 1 ≤ _ by simp)); have hz2 : w.heap.size < w2.heap.size := (by have := hb2.size; simp at this; omega); clear hb2)
    obtain ⟨wo, rfl⟩ : ∃ wo : World, wo = w2 := ⟨_, rfl⟩
    go_loopw [18] (fun i wr => ∃ k : Nat, i = .int .i64 k ∧ PosTo r k ∧ BoxSt wo wr 3 #[.int .i64 (wAt r k)]) (fun i _ => r.pos.length - (intOf i).toNat)
    case atStart => exact ⟨0, rfl, ⟨Nat.zero_le _, by simp, trivial⟩, ⟨heap_alloc_new wo _, (Below.refl _ _).alloc (Nat.le_refl _) _⟩⟩
    case round =>
      obtain ⟨k, rfl, hP, hB⟩ := hrel
      have hw128 := hP.wle (by omega)
      have hwz := hB.lt
      have bw := (box_below HB2.out).trans (hB.below.mono (by omega))
      have hkle := hP.le
      by_cases hkn : k < r.pos.length
      · obtain ⟨p, hp⟩ : ∃ p, r.pos[k]? = some p := ⟨_, List.getElem?_eq_getElem hkn⟩
        obtain ⟨b, off, rfl, hFb, hbs, cs, ⟨av, rfl, pok, ha⟩, hc⟩ := (H.out.pos.kp (Kp.of_below bw) (fun _ _ h => h) (fun _ _ h => h.kp (Kp.of_below bw) (fun _ _ h => h))).at hp
        have c0 := hc 0 _ rfl
        have c1 := hc 1 _ rfl
        simp only [Nat.add_zero] at c0
        have hpl := SM.out.pos.2 p (List.mem_of_getElem? hp)
        have MP := Lib.hid (fun W (hb : Below wr.heap.size wr W) => mayPatternW p av W (ha.keep (Kp.of_below hb)) hpl)
        obtain ⟨Aa, ca, rfl⟩ := ha.form
        have hpl2 : p.args.length ≤ 1048576 := hpl
        obtain ⟨w0, hw0⟩ : ∃ w0, wAt r k = w0 := ⟨_, rfl⟩
        have HW0 := Lib.hid hw0
        rw [hw0] at hw128 hB
        have e1 : (0 : Int) ≤ (k : Int) := by omega
        have e2 : (k : Int) < (r.pos.length : Int) := by omega
        have HP := Lib.hid hp
        have HH := Lib.hid hP
        have HK := Lib.hid hkn
        have HB := Lib.hid hB
        have HA := Lib.hid ha
        have BW := Lib.hid bw
        clear hc hw0 hp hP hkn hB ha bw hpl
        by_cases hmp : mpB p = true
        · have HMP := Lib.hid hmp
          have hpr := hmp
          simp only [mpB, decide_eq_true_eq] at hpr
          have HPR := Lib.hid hpr
          clear hmp hpr
          go_wp2_with (go_at_call 50; refine (MP.out _ ?_).mono ?_; exact (Below.refl _ _).alloc (Nat.le_refl _) _; rintro e w3 ⟨he, hb3⟩; rw [HMP.out] at he; subst he; have y1 := box_cell (hb3.mono (by simp)) 1 _ rfl; have HB3 := Lib.hid hb3; have hz3 : wr.heap.size < w3.heap.size := (by have := hb3.size; simp at this; omega); clear hb3)
          have hpa8 := HPR.out.2.1
          have B3 := (HB.out.alloc (.cells #[.int .i64 p.pred, .slice Aa p.args.length ca] 34)).step HB3.out
          have hA3 := HA.out.keep (Kp.of_below (box_below (HB3.out.mono (by simp))))
          have HA3 := Lib.hid hA3
          have HB3' := Lib.hid B3
          clear hA3 B3 c0 c1
          obtain ⟨wq, rfl⟩ : ∃ wq : World, wq = w3 := ⟨_, rfl⟩
          go_loopw [28] (fun i wr => ∃ j : Nat, i = .int .i64 j ∧ j ≤ p.args.length ∧ okA (p.args.take j) w0 ∧ BoxSt wo wr 3 #[.int .i64 (scanD (p.args.take j) w0)] ∧ wq.heap.size ≤ wr.heap.size) (fun i _ => p.args.length - (intOf i).toNat)
          case atStart => exact ⟨0, rfl, Nat.zero_le _, trivial, HB3'.out, Nat.le_refl _⟩
          case round =>
            obtain ⟨j, rfl, hj, hok, hB, hsz⟩ := hrel
            have hwz2 := hB.lt
            have bw2 := (box_below HB2.out).trans (hB.below.mono (by omega))
            have hlen := scanD_len (p.args.take j) w0
            have hlj : (p.args.take j).length ≤ j := List.length_take_le _ _
            have x3 := hB.cell 0 rfl
            have fz := hB.fz 0
            by_cases hjn : j < p.args.length
            · obtain ⟨s, hs⟩ : ∃ s, p.args[j]? = some s := ⟨_, List.getElem?_eq_getElem hjn⟩
              obtain ⟨b', off', hAe, hF', hbs', cs', ⟨rfl, sok⟩, hc2⟩ := (HA3.out.keep (Kp.of_two ((box_below HB2.out).trans (HB3'.out.below.mono (by omega))) bw2 hsz)).at hs
              subst hAe
              have d0 := hc2 0 _ rfl
              have d1 := hc2 1 _ rfl
              simp only [Nat.add_zero] at d0
              have hs0 : 0 ≤ s.n := HPR.out.2.2 s (List.mem_of_getElem? hs)
              obtain ⟨sv, sn⟩ := s
              simp only at d0 d1 hs0
              have f1 : (0 : Int) ≤ (j : Int) := by omega
              have f2 : (j : Int) < (p.args.length : Int) := by omega
              obtain ⟨wc, hwc⟩ : ∃ wc, scanD (p.args.take j) w0 = wc := ⟨_, rfl⟩
              have HWC := Lib.hid hwc
              have HOK := Lib.hid hok
              have HJ := Lib.hid hjn
              have HS := Lib.hid hs
              rw [hwc] at hlen hB x3
              have hwc2 : wc ≤ 136 := by omega
              have BA := Lib.hid (hB.alloc (.cells #[.bool sv, .int .i64 sn] 50))
              have HBB := Lib.hid hB
              have BW2 := Lib.hid bw2
              have HSZ := Lib.hid hsz
              clear hwc hlen hok hc2 hs hjn hlj hB bw2 hsz
              cases sv with
              | false =>
                have HX := Lib.hid (show scanD (p.args.take (j + 1)) w0 = wc by rw [scanD_succ HS.out, if_neg (by simp)]; exact HWC.out)
                have HO := Lib.hid (okA_snoc HS.out HOK.out (by simp only; omega) (by simp))
                go_wp2
                exact ⟨⟨j + 1, by go_num, HJ.out, HO.out, by rw [HX.out]; exact BA.out, by have := HSZ.out; simp; omega⟩, by simp [intOf]; have := HJ.out; omega⟩
              | true =>
                by_cases h1 : (wc : Int) < sn
                · have HF := Lib.hid (mayB_false (r := r) (fun hh => by
                    have h2 := (okA_at (fit_at hh HP.out).1 HS.out).2 rfl
                    rw [HW0.out, HWC.out] at h2
                    simp only at h2
                    omega))
                  go_wp2
                  go_ret
                  exact ⟨ret_bool HF.out.symm, BW2.out.trans (((Below.refl _ _).alloc (Nat.le_refl _) _).mono (by omega))⟩
                · have HO := Lib.hid (okA_snoc HS.out HOK.out (by simp only; omega) (fun _ => by rw [HWC.out]; simp only; omega))
                  by_cases h2 : sn = (wc : Int)
                  · have HX := Lib.hid (show scanD (p.args.take (j + 1)) w0 = wc + 1 by rw [scanD_succ HS.out, HWC.out, if_pos ⟨rfl, h2⟩])
                    have h2b : (sn == (wc : Int)) = true := by simpa using h2
                    have BS := Lib.hid ((HBB.out.set 0 (.int .i64 ((wc : Int) + 1)) rfl).alloc (.cells #[.bool true, .int .i64 sn] 50))
                    clear h2
                    go_wp2
                    exact ⟨⟨j + 1, by go_num, HJ.out, HO.out, by rw [HX.out, show ((wc + 1 : Nat) : Int) = (wc : Int) + 1 by omega]; exact BS.out, by have := HSZ.out; simp; omega⟩, by simp [intOf]; have := HJ.out; omega⟩
                  · have HX := Lib.hid (show scanD (p.args.take (j + 1)) w0 = wc by rw [scanD_succ HS.out, HWC.out, if_neg (fun h => h2 h.2)])
                    have h2b : (sn == (wc : Int)) = false := by simpa using h2
                    clear h2
                    go_wp2
                    exact ⟨⟨j + 1, by go_num, HJ.out, HO.out, by rw [HX.out]; exact BA.out, by have := HSZ.out; simp; omega⟩, by simp [intOf]; have := HJ.out; omega⟩
            · obtain rfl : j = p.args.length := by omega
              rw [List.take_length] at hok hB
              have N := HH.out.next HP.out HPR.out.1 HPR.out.2.1 (by rw [HW0.out]; exact hok)
              rw [HW0.out] at N
              have N1 := Lib.hid N.1
              have N2 := Lib.hid (show BoxSt wo wr 3 #[.int .i64 (wAt r (k + 1))] by rw [N.2]; exact hB)
              clear N hok hB hjn hlj
              go_wp2
              exact ⟨⟨k + 1, by go_num, N1.out, N2.out⟩, by simp [intOf]; have := HK.out; omega⟩
        · have HMP := Lib.hid (show mpB p = false by simpa using hmp)
          have HF := Lib.hid (mayB_false (r := r) (fun hh => hmp (mpB_true ⟨(fit_at hh HP.out).2.1, (fit_at hh HP.out).2.2, okA_nonneg (fit_at hh HP.out).1⟩)))
          clear hmp
          go_wp2_with (go_at_call 50; refine (MP.out _ ?_).mono ?_; exact (Below.refl _ _).alloc (Nat.le_refl _) _; rintro e w3 ⟨he, hb3⟩; rw [HMP.out] at he; subst he; have HB3 := Lib.hid hb3; clear hb3)
          go_ret
          exact ⟨ret_bool HF.out.symm, BW.out.trans (((Below.refl _ _).alloc (Nat.le_refl _) _ |>.trans (HB3.out.mono (by simp))).mono (by omega))⟩
      · obtain rfl : k = r.pos.length := by omega
        have hP' : okA (r.pos.flatMap Pat.args) 0 ∧ ∀ p ∈ r.pos, 0 ≤ p.pred ∧ p.args.length ≤ 8 := by
          have h1 := hP.ok
          have h2 := hP.pats
          rw [List.take_length] at h1 h2
          exact ⟨h1, h2⟩
        obtain ⟨wn, hwn⟩ : ∃ wn, wAt r r.pos.length = wn := ⟨_, rfl⟩
        have HW := Lib.hid (show scanD (r.pos.flatMap Pat.args) 0 = wn by unfold wAt at hwn; rw [List.take_length] at hwn; exact hwn)
        rw [hwn] at hw128 hB
        have HP := Lib.hid hP'
        have HB := Lib.hid hB
        have x3 := hB.cell 0 rfl
        have x4 := box_cell (HB2.out.trans (hB.below.mono (by omega))) 4 _ rfl
        have hwzz : w.heap.size < wr.heap.size := by omega
        clear hwn hP' hP hB hkn bw x1
        by_cases h16 : 16 < wn
        · have HF := Lib.hid (mayB_false (r := r) (fun ⟨w', hh⟩ => by have h1 := hh.wid; have h2 := hh.w16; rw [HW.out] at h1; omega))
          have h16' : (16 : Int) < (wn : Int) := by omega
          go_wp2
          go_ret
          exact ⟨ret_bool HF.out.symm, (box_below HB2.out).trans (HB.out.below.mono (by omega))⟩
        have h16' : ¬ (16 : Int) < (wn : Int) := by omega
        have H16 := Lib.hid h16
        clear h16
        go_wp2
        clear x3 x4
        go_loopw [57] (fun i wr => ∃ k : Nat, i = .int .i64 k ∧ k ≤ r.neg.length ∧ (∀ p ∈ r.neg.take k, 0 ≤ p.pred ∧ p.args.length ≤ 8 ∧ ∀ s ∈ p.args, belowP wn s) ∧ BoxSt wo wr 3 #[.int .i64 wn]) (fun i _ => r.neg.length - (intOf i).toNat)
        case atStart => exact ⟨0, rfl, Nat.zero_le _, by simp, HB.out⟩
        case round =>
          obtain ⟨k, rfl, hk, hq, hB⟩ := hrel
          have hwz2 := hB.lt
          have bw := (box_below HB2.out).trans (hB.below.mono (by omega))
          clear hwz hwzz
          by_cases hkn : k < r.neg.length
          · obtain ⟨p, hp⟩ : ∃ p, r.neg[k]? = some p := ⟨_, List.getElem?_eq_getElem hkn⟩
            obtain ⟨b, off, rfl, hFb, hbs, cs, ⟨av, rfl, pok, ha⟩, hc⟩ := (H.out.neg.kp (Kp.of_below bw) (fun _ _ h => h) (fun _ _ h => h.kp (Kp.of_below bw) (fun _ _ h => h))).at hp
            have c0 := hc 0 _ rfl
            have c1 := hc 1 _ rfl
            simp only [Nat.add_zero] at c0
            have hpl := SM.out.neg.2 p (List.mem_of_getElem? hp)
            have MP := Lib.hid (fun W (hb : Below wr.heap.size wr W) => mayPatternW p av W (ha.keep (Kp.of_below hb)) hpl)
            have CF := Lib.hid (fun W (hb : Below wr.heap.size wr W) => containsFunc_may av p.args wo.heap.size (fun s => !bel wn s) W (ha.keep (Kp.of_below hb))
              (fun s _ W' hb' => may1W s wn wo.heap.size W' (((hB.step hb).step hb').cell 0 rfl) ((hB.step hb).step hb').lt))
            obtain ⟨Aa, ca, rfl⟩ := ha.form
            have e1 : (0 : Int) ≤ (k : Int) := by omega
            have e2 : (k : Int) < (r.neg.length : Int) := by omega
            have hp2 := Lib.hid hp
            have HQ := Lib.hid hq
            have HK := Lib.hid hkn
            have HB' := Lib.hid hB
            have BW := Lib.hid bw
            have HM : ∀ h : mayP r, 0 ≤ p.pred ∧ p.args.length ≤ 8 ∧ ∀ s ∈ p.args, belowP wn s := fun ⟨w', hh⟩ => by
              have := hh.ngs p (List.mem_of_getElem? hp)
              rw [← hh.wid, HW.out] at this
              exact this
            have HM' := Lib.hid HM
            clear hc hp hq hkn hB ha bw hpl HM
            by_cases hmp : mpB p = true
            · have HMP := Lib.hid hmp
              have hpr := hmp
              simp only [mpB, decide_eq_true_eq] at hpr
              have HPR := Lib.hid hpr
              clear hmp hpr
              by_cases hcf : 0 ≤ idxI (fun s => !bel wn s) p.args
              · have HF := Lib.hid (mayB_false (r := r) (fun hh => by
                  obtain ⟨s, h1, h2⟩ := idxI_ge.1 hcf
                  have := (HM'.out hh).2.2 s h1
                  simp [bel, this] at h2))
                have HCF := Lib.hid hcf
                clear hcf
                go_wp2_with (first
                  | (go_at_call 50; refine (MP.out _ ?_).mono ?_; exact (Below.refl _ _).alloc (Nat.le_refl _) _; rintro e w3 ⟨he, hb3⟩; rw [HMP.out] at he; subst he; have y1 := box_cell (hb3.mono (by simp)) 1 _ rfl; have HB3 := Lib.hid hb3; have hz3 : wr.heap.size < w3.heap.size := (by have := hb3.size; simp at this; omega); clear hb3)
                  | (go_at_call 51; refine (CF.out _ ?_).mono ?_; exact ((Below.refl _ _).alloc (Nat.le_refl _) _).trans (HB3.out.mono (by simp)); rintro e w4 ⟨he, hb4⟩; rw [decide_eq_true HCF.out] at he; subst he; have HB4 := Lib.hid hb4; clear hb4))
                go_ret
                exact ⟨ret_bool HF.out.symm, BW.out.trans ((((Below.refl _ _).alloc (Nat.le_refl _) _ |>.trans (HB3.out.mono (by simp))).trans (HB4.out.mono (by omega))).mono (by omega))⟩
              · have HQ2 := Lib.hid (take_all HQ.out hp2.out (by
                  refine ⟨HPR.out.1, HPR.out.2.1, fun s hs => ?_⟩
                  rcases Classical.em (belowP wn s) with h1 | h1
                  · exact h1
                  · exact absurd (idxI_ge.2 ⟨s, hs, by simp [bel, h1]⟩) hcf))
                have HCF := Lib.hid hcf
                clear hcf
                go_wp2_with fail
                refine (MP.out _ ?_).mono ?_
                · exact (Below.refl _ _).alloc (Nat.le_refl _) _
                rintro e w3 ⟨he, hb3⟩
                rw [HMP.out] at he
                subst he
                have y1 := box_cell (hb3.mono (by simp)) 1 _ rfl
                have HB3 := Lib.hid hb3
                have hz3 : wr.heap.size < w3.heap.size := by have := hb3.size; simp at this; omega
                clear hb3
                go_wp2_with fail
                refine (CF.out _ ?_).mono ?_
                · exact ((Below.refl _ _).alloc (Nat.le_refl _) _).trans (HB3.out.mono (by simp))
                rintro e w4 ⟨he, hb4⟩
                rw [decide_eq_false (show ¬ 0 ≤ idxI (fun s => !bel wn s) p.args by have := HCF.out; omega)] at he
                subst he
                have HB4 := Lib.hid hb4
                clear hb4
                go_wp2
                exact ⟨⟨k + 1, by go_num, HK.out, HQ2.out, HB'.out.step (((Below.refl _ _).alloc (Nat.le_refl _) _ |>.trans (HB3.out.mono (by simp))).trans (HB4.out.mono (by omega)))⟩, by simp [intOf]; have := HK.out; omega⟩
            · have HMP := Lib.hid (show mpB p = false by simpa using hmp)
              have HF := Lib.hid (mayB_false (r := r) (fun hh => hmp (mpB_true ⟨(HM'.out hh).1, (HM'.out hh).2.1, fun s hs => ((HM'.out hh).2.2 s hs).1⟩)))
              clear hmp
              go_wp2_with (go_at_call 50; refine (MP.out _ ?_).mono ?_; exact (Below.refl _ _).alloc (Nat.le_refl _) _; rintro e w3 ⟨he, hb3⟩; rw [HMP.out] at he; subst he; have HB3 := Lib.hid hb3; clear hb3)
              go_ret
              exact ⟨ret_bool HF.out.symm, BW.out.trans (((Below.refl _ _).alloc (Nat.le_refl _) _ |>.trans (HB3.out.mono (by simp))).mono (by omega))⟩
          · obtain rfl : k = r.neg.length := by omega
            rw [List.take_length] at hq
            have HQ := Lib.hid hq
            have HB' := Lib.hid hB
            have x5 := box_cell (HB2.out.trans (hB.below.mono (by omega))) 3 _ rfl
            have hwzz : w.heap.size < wr.heap.size := by omega
            clear hq hB bw hkn
            go_wp2
            clear x5
            go_loopw [74] (fun i wr => ∃ k : Nat, i = .int .i64 k ∧ k ≤ r.tests.length ∧ (∀ t ∈ r.tests.take k, 1 ≤ t.op ∧ t.op ≤ 6 ∧ belowP wn t.l ∧ belowP wn t.r) ∧ BoxSt wo wr 3 #[.int .i64 wn]) (fun i _ => r.tests.length - (intOf i).toNat)
            case atStart => exact ⟨0, rfl, Nat.zero_le _, by simp, HB'.out⟩
            case round =>
              obtain ⟨k, rfl, hk, hq, hB⟩ := hrel
              have hwz3 := hB.lt
              have bw := (box_below HB2.out).trans (hB.below.mono (by omega))
              clear hwz2 hwzz
              by_cases hkn : k < r.tests.length
              · obtain ⟨t, ht⟩ : ∃ t, r.tests[k]? = some t := ⟨_, List.getElem?_eq_getElem hkn⟩
                obtain ⟨b, off, rfl, hFb, hbs, cs, ⟨rfl, ok1, ok2, ok3⟩, hc⟩ := (H.out.tests.keep (Kp.of_below bw)).at ht
                have c0 := hc 0 _ rfl
                have c1 := hc 1 _ rfl
                have c2 := hc 2 _ rfl
                have c3 := hc 3 _ rfl
                have c4 := hc 4 _ rfl
                simp only [Nat.add_zero] at c0
                have x3 := hB.cell 0 rfl
                have e1 : (0 : Int) ≤ (k : Int) := by omega
                have e2 : (k : Int) < (r.tests.length : Int) := by omega
                have HT := Lib.hid ht
                have HQ2 := Lib.hid hq
                have HK := Lib.hid hkn
                have HBB := Lib.hid hB
                have BW := Lib.hid bw
                have HM : ∀ h : mayP r, 1 ≤ t.op ∧ t.op ≤ 6 ∧ belowP wn t.l ∧ belowP wn t.r := fun ⟨w', hh⟩ => by
                  have := hh.tst t (List.mem_of_getElem? ht)
                  rw [← hh.wid, HW.out] at this
                  exact this
                have HM' := Lib.hid HM
                have CL := Lib.hid (fun (s : Slt) W => belowW s wn W)
                have y0 : ∀ W, Below (wr.heap.size + 1) (wr.alloc (.cells #[.int .i64 t.op, .bool t.l.v, .int .i64 t.l.n, .bool t.r.v, .int .i64 t.r.n] 52)) W → W.cell? ⟨wo.heap.size, 0, none⟩ = some (.int .i64 wn) := fun W hb => ((hB.step (((Below.refl _ _).alloc (Nat.le_refl _) _).trans (hb.mono (by simp)))).cell 0 rfl)
                have Y0 := Lib.hid y0
                clear hc ht hq hkn hB bw HM y0
                by_cases h1 : t.op < 1
                · have HF := Lib.hid (mayB_false (r := r) (fun hh => by have := (HM'.out hh).1; omega))
                  go_wp2
                  go_ret
                  exact ⟨ret_bool HF.out.symm, BW.out.trans (((Below.refl _ _).alloc (Nat.le_refl _) _).mono (by omega))⟩
                · by_cases h2 : 6 < t.op
                  · have HF := Lib.hid (mayB_false (r := r) (fun hh => by have := (HM'.out hh).2.1; omega))
                    go_wp2
                    go_ret
                    exact ⟨ret_bool HF.out.symm, BW.out.trans (((Below.refl _ _).alloc (Nat.le_refl _) _).mono (by omega))⟩
                  · by_cases h3 : belowP wn t.l
                    · have B3 := Lib.hid (show bel wn t.l = true by simp [bel, h3])
                      by_cases h4 : belowP wn t.r
                      · have B4 := Lib.hid (show bel wn t.r = true by simp [bel, h4])
                        have HQ3 := Lib.hid (take_all HQ2.out HT.out ⟨by omega, by omega, h3, h4⟩)
                        clear h3 h4
                        go_wp2_with fail
                        refine (CL.out t.l _).mono ?_
                        rintro e w5 ⟨he, hb5⟩
                        rw [B3.out] at he
                        subst he
                        have z0 := Y0.out _ (hb5.mono (by simp))
                        have z3 := box_cell (hb5.mono (by simp)) 3 _ rfl
                        have z4 := box_cell (hb5.mono (by simp)) 4 _ rfl
                        have hz5 : wr.heap.size < w5.heap.size := by have := hb5.size; simp at this; omega
                        have HB5 := Lib.hid hb5
                        clear hb5
                        go_wp2_with fail
                        refine (CL.out t.r _).mono ?_
                        rintro e w6 ⟨he, hb6⟩
                        rw [B4.out] at he
                        subst he
                        have HB6 := Lib.hid hb6
                        clear hb6 z3 z4 z0
                        go_wp2
                        exact ⟨⟨k + 1, by go_num, HK.out, HQ3.out, HBB.out.step (((Below.refl _ _).alloc (Nat.le_refl _) _ |>.trans (HB5.out.mono (by simp))).trans (HB6.out.mono (by omega)))⟩, by simp [intOf]; have := HK.out; omega⟩
                      · have B4 := Lib.hid (show bel wn t.r = false by simp [bel, h4])
                        have HF := Lib.hid (mayB_false (r := r) (fun hh => h4 (HM'.out hh).2.2.2))
                        clear h3 h4
                        go_wp2_with fail
                        refine (CL.out t.l _).mono ?_
                        rintro e w5 ⟨he, hb5⟩
                        rw [B3.out] at he
                        subst he
                        have z0 := Y0.out _ (hb5.mono (by simp))
                        have z3 := box_cell (hb5.mono (by simp)) 3 _ rfl
                        have z4 := box_cell (hb5.mono (by simp)) 4 _ rfl
                        have hz5 : wr.heap.size < w5.heap.size := by have := hb5.size; simp at this; omega
                        have HB5 := Lib.hid hb5
                        clear hb5
                        go_wp2_with fail
                        refine (CL.out t.r _).mono ?_
                        rintro e w6 ⟨he, hb6⟩
                        rw [B4.out] at he
                        subst he
                        have HB6 := Lib.hid hb6
                        clear hb6 z3 z4 z0
                        go_wp2
                        go_ret
                        exact ⟨ret_bool HF.out.symm, BW.out.trans ((((Below.refl _ _).alloc (Nat.le_refl _) _ |>.trans (HB5.out.mono (by simp))).trans (HB6.out.mono (by omega))).mono (by omega))⟩
                    · have B3 := Lib.hid (show bel wn t.l = false by simp [bel, h3])
                      have HF := Lib.hid (mayB_false (r := r) (fun hh => h3 (HM'.out hh).2.2.1))
                      clear h3
                      go_wp2_with fail
                      refine (CL.out t.l _).mono ?_
                      rintro e w5 ⟨he, hb5⟩
                      rw [B3.out] at he
                      subst he
                      have HB5 := Lib.hid hb5
                      clear hb5
                      go_wp2
                      go_ret
                      exact ⟨ret_bool HF.out.symm, BW.out.trans ((((Below.refl _ _).alloc (Nat.le_refl _) _ |>.trans (HB5.out.mono (by simp)))).mono (by omega))⟩
              · obtain rfl : k = r.tests.length := by omega
                rw [List.take_length] at hq
                have HF := Lib.hid (mayB_true (r := r) ⟨wn, ⟨by omega, HP.out.2, HP.out.1, HW.out, by have := H16.out; omega, hq, HQ.out⟩⟩)
                have BW := Lib.hid bw
                clear hq hB bw hkn
                go_wp2
                go_ret
                exact ⟨ret_bool HF.out.symm, BW.out⟩
end Go.Proofs.Ytonkbjdeaneicaa
