/- `common`: how many conditions two rules' chains have in common from the top. -/
import Derived.Test.YtonkbjdeaneicaaEqT
import Derived.Test.YtonkbjdeaneicaaClass
import Derived.Test.YtonkbjdeaneicaaWidth
namespace Go.Proofs.Ytonkbjdeaneicaa
open Go.RowKit Pln Classical Go.Maps

def CmS (W : World) (ra rb : Array Value) (wr : World) : Prop :=
  Below W.heap.size W wr ∧ wr.heap[W.heap.size]? = some (.cells ra 39 (0, 0)) ∧ wr.heap[W.heap.size + 1]? = some (.cells rb 39 (0, 0))
section
variable {W wr wr' : World} {ra rb : Array Value}
theorem CmS.step (h : CmS W ra rb wr) (hb : Below wr.heap.size wr wr') : CmS W ra rb wr' :=
  ⟨h.1.trans (hb.mono h.1.size), (hb.block _ (lt_of_heap h.2.1)).trans h.2.1, (hb.block _ (lt_of_heap h.2.2)).trans h.2.2⟩
theorem CmS.drew (h : CmS W ra rb wr) : CmS W ra rb wr.drew := h.step (Below.refl _ _).drew
theorem CmS.start : CmS W ra rb ((W.alloc (.cells ra 39)).alloc (.cells rb 39)) := by
  refine ⟨((Below.refl _ _).alloc (Nat.le_refl _) _).alloc (by simp) _, ?_, ?_⟩
  · rw [Below.heap_alloc _ _ _ (by simp)]
    exact heap_alloc_new W _
  · have := heap_alloc_new (W.alloc (.cells ra 39)) (.cells rb 39)
    simpa using this
theorem CmS.ca (h : CmS W ra rb wr) (j : Nat) {u : Value} (hu : ra[j]? = some u) : wr.cell? ⟨W.heap.size, j, none⟩ = some u := rbox h.2.1 hu
theorem CmS.cb (h : CmS W ra rb wr) (j : Nat) {u : Value} (hu : rb[j]? = some u) : wr.cell? ⟨W.heap.size + 1, j, none⟩ = some u := rbox h.2.2 hu
end
theorem lcp_in {α : Type} : ∀ (x y : List α) (k : Nat), k < lcp x y → ∃ p, x[k]? = some p ∧ y[k]? = some p
  | [], _, k, h => by simp [lcp] at h
  | _ :: _, [], k, h => by simp [lcp] at h
  | a :: l, b :: r, k, h => by
    unfold lcp at h
    split at h
    · rename_i hab
      subst hab
      cases k with
      | zero => exact ⟨a, rfl, rfl⟩
      | succ k => simpa using lcp_in l r k (by omega)
    · omega

set_option maxRecDepth 200000 in
set_option maxHeartbeats 4000000 in
theorem commonW {F : Nat → Prop} (a b : Rl) (W : World) {ha pa ta na va hb pb tb nb vb : Value} {cs ds : List Value} (hA : ERl F W cs a ha pa ta na va) (hB : ERl F W ds b hb pb tb nb vb) (sa : rlSm 1048576 a) (sb : rlSm 1048576 b) :
    Calls Try.prog 18 #[.agg #[.int .i64 a.head.pred, ha, pa, ta, na, va, .int .i64 a.clause], .agg #[.int .i64 b.head.pred, hb, pb, tb, nb, vb, .int .i64 b.clause]] W
      fun e W' => e = .returned (.int .i64 (lcp (conds a) (conds b) : Nat)) ∧ Below W.heap.size W W' := by
  obtain ⟨R, hR⟩ : ∃ R, lcp (conds a) (conds b) = R := ⟨_, rfl⟩
  rw [hR]
  rw [lcp_conds] at hR
  have HR := Lib.hid hR
  clear hR
  obtain ⟨A0, c0, rfl⟩ := hA.head.form
  obtain ⟨A1, c1, rfl⟩ := hA.pos.form
  obtain ⟨A2, c2, rfl⟩ := hA.tests.form
  obtain ⟨A3, c3, rfl⟩ := hA.neg.form
  obtain ⟨A4, c4, rfl⟩ := hA.vars.form
  obtain ⟨B0, d0, rfl⟩ := hB.head.form
  obtain ⟨B1, d1, rfl⟩ := hB.pos.form
  obtain ⟨B2, d2, rfl⟩ := hB.tests.form
  obtain ⟨B3, d3, rfl⟩ := hB.neg.form
  obtain ⟨B4, d4, rfl⟩ := hB.vars.form
  have l1 := sa.pos.1
  have l2 := sa.tests
  have l3 := sa.neg.1
  have m1 := sb.pos.1
  have m2 := sb.tests
  have m3 := sb.neg.1
  have HA := Lib.hid hA
  have HB := Lib.hid hB
  clear hA hB sa sb
  go_enter Try.func18, Try.ntmps18
  go_wp2
  have HS := Lib.hid (CmS.start (W := W) (ra := #[.int .i64 a.head.pred, .slice A0 a.head.args.length c0, .slice A1 a.pos.length c1, .slice A2 a.tests.length c2, .slice A3 a.neg.length c3, .slice A4 a.vars.length c4, .int .i64 a.clause]) (rb := #[.int .i64 b.head.pred, .slice B0 b.head.args.length d0, .slice B1 b.pos.length d1, .slice B2 b.tests.length d2, .slice B3 b.neg.length d3, .slice B4 b.vars.length d4, .int .i64 b.clause]))
  go_loopw [5] (fun i wr => ∃ k : Nat, i = .int .i64 k ∧ k ≤ lcp a.pos b.pos ∧ CmS W #[.int .i64 a.head.pred, .slice A0 a.head.args.length c0, .slice A1 a.pos.length c1, .slice A2 a.tests.length c2, .slice A3 a.neg.length c3, .slice A4 a.vars.length c4, .int .i64 a.clause] #[.int .i64 b.head.pred, .slice B0 b.head.args.length d0, .slice B1 b.pos.length d1, .slice B2 b.tests.length d2, .slice B3 b.neg.length d3, .slice B4 b.vars.length d4, .int .i64 b.clause] wr) (fun i _ => lcp a.pos b.pos - (intOf i).toNat)
  case atStart => exact ⟨0, rfl, Nat.zero_le _, HS.out⟩
  case round =>
    obtain ⟨k, rfl, hk, hS⟩ := hrel
    clear HS
    have hle := lcp_le a.pos b.pos
    by_cases hkn : k < lcp a.pos b.pos
    · obtain ⟨p, hp, hq⟩ := lcp_in _ _ _ hkn
      obtain ⟨b1, o1, rfl, hF1, hs1, cs1, ⟨v1, rfl, ok1, ha1⟩, hc1⟩ := RSl.at HA.out.pos hp
      obtain ⟨b2, o2, rfl, hF2, hs2, cs2, ⟨v2, rfl, ok2, ha2⟩, hc2⟩ := RSl.at HB.out.pos hq
      have CY := Lib.hid (fun W' (hb : Below W.heap.size W W') => samePatternW p p v1 v2 W' (ha1.keep (Kp.of_below hb)) (ha2.keep (Kp.of_below hb)))
      obtain ⟨X1, y1, rfl⟩ := ha1.form
      obtain ⟨X2, y2, rfl⟩ := ha2.form
      obtain ⟨S, hSe⟩ : ∃ S, S = CmS W #[.int .i64 a.head.pred, .slice A0 a.head.args.length c0, .slice (some ⟨b1, o1, none⟩) a.pos.length c1, .slice A2 a.tests.length c2, .slice A3 a.neg.length c3, .slice A4 a.vars.length c4, .int .i64 a.clause] #[.int .i64 b.head.pred, .slice B0 b.head.args.length d0, .slice (some ⟨b2, o2, none⟩) b.pos.length d1, .slice B2 b.tests.length d2, .slice B3 b.neg.length d3, .slice B4 b.vars.length d4, .int .i64 b.clause] := ⟨_, rfl⟩
      have q0 := fun p : Pt S => ((congrFun hSe p.val).mp p.property).ca 2 rfl
      have q1 := fun p : Pt S => ((congrFun hSe p.val).mp p.property).cb 2 rfl
      have x0 := fun p : Pt S => (((congrFun hSe p.val).mp p.property).1.cell (p := ⟨b1, o1 + k * 2 + 0, none⟩) hs1).trans (hc1 0 _ rfl)
      have x1 := fun p : Pt S => (((congrFun hSe p.val).mp p.property).1.cell (p := ⟨b1, o1 + k * 2 + 1, none⟩) hs1).trans (hc1 1 _ rfl)
      have z0 := fun p : Pt S => (((congrFun hSe p.val).mp p.property).1.cell (p := ⟨b2, o2 + k * 2 + 0, none⟩) hs2).trans (hc2 0 _ rfl)
      have z1 := fun p : Pt S => (((congrFun hSe p.val).mp p.property).1.cell (p := ⟨b2, o2 + k * 2 + 1, none⟩) hs2).trans (hc2 1 _ rfl)
      simp only [Nat.add_zero] at x0 z0
      have e1 : (0 : Int) ≤ (k : Int) := by omega
      have e2 : (k : Int) < (a.pos.length : Int) := by omega
      have e3 : (k : Int) < (b.pos.length : Int) := by omega
      have NE : Nonempty (Pt S) := ⟨⟨wr, (congrFun hSe wr).mpr hS⟩⟩
      have hd : decide (p = p) = true := by simp
      have HD := Lib.hid ((congrFun hSe wr.drew).mpr hS.drew)
      have HK := Lib.hid hkn
      have SE := Lib.hid hSe
      have KP := Lib.hid (fun (p : Pt S) => ((congrFun hSe p.val).mp p.property))
      clear hc1 hc2 hp hq hS hkn hSe ha1 ha2 hle
      go_wp2_with fail
      refine wp_region_class (S := S) HD.out (by kernel_rfl) (by kernel_rfl) ?_
      repeat (go_big_quiet_step ((go_at_call 38; refine (CY.out _ (KP.out _).1).mono ?_; rintro e w' ⟨rfl, hbel⟩; exact ⟨rfl, ⟨w', (congrFun SE.out w').mpr ((KP.out _).step hbel)⟩, rfl⟩)))
      refine wpQuiet_nil ?_
      rintro wq ⟨⟨_, hW⟩, rfl⟩
      have HF := Lib.hid ((congrFun SE.out wq).mp hW)
      clear q0 q1 x0 x1 z0 z1 NE hW
      go_wp2
      exact ⟨⟨k + 1, by go_num, HK.out, HF.out⟩, by simp [intOf]; have := HK.out; omega⟩
    · have hke : lcp a.pos b.pos = k := by omega
      rw [hke] at hle
      obtain ⟨S, hSe⟩ : ∃ S, S = CmS W #[.int .i64 a.head.pred, .slice A0 a.head.args.length c0, .slice A1 a.pos.length c1, .slice A2 a.tests.length c2, .slice A3 a.neg.length c3, .slice A4 a.vars.length c4, .int .i64 a.clause] #[.int .i64 b.head.pred, .slice B0 b.head.args.length d0, .slice B1 b.pos.length d1, .slice B2 b.tests.length d2, .slice B3 b.neg.length d3, .slice B4 b.vars.length d4, .int .i64 b.clause] := ⟨_, rfl⟩
      have q0 := fun p : Pt S => ((congrFun hSe p.val).mp p.property).ca 2 rfl
      have q1 := fun p : Pt S => ((congrFun hSe p.val).mp p.property).cb 2 rfl
      have NE : Nonempty (Pt S) := ⟨⟨wr, (congrFun hSe wr).mpr hS⟩⟩
      have HD := Lib.hid ((congrFun hSe wr.drew).mpr hS.drew)
      have SE := Lib.hid hSe
      have KE := Lib.hid hke
      have e1 : (0 : Int) ≤ (k : Int) := by omega
      rcases Nat.lt_or_ge k a.pos.length with h1 | h1
      · rcases Nat.lt_or_ge k b.pos.length with h2 | h2
        · obtain ⟨p, hp⟩ : ∃ p, a.pos[k]? = some p := ⟨_, List.getElem?_eq_getElem h1⟩
          obtain ⟨q, hq⟩ : ∃ q, b.pos[k]? = some q := ⟨_, List.getElem?_eq_getElem h2⟩
          have hpq : decide (p = q) = false := by simpa using lcp_ne a.pos b.pos p q (by rw [hke]; exact hp) (by rw [hke]; exact hq)
          have hne : ¬ a.pos = b.pos := fun h => by rw [h, hq] at hp; simp at hp; simp [hp] at hpq
          have HN := Lib.hid (show R = k by have := HR.out; rw [if_neg hne, hke] at this; omega)
          obtain ⟨b1, o1, rfl, hF1, hs1, cs1, ⟨v1, rfl, ok1, ha1⟩, hc1⟩ := RSl.at HA.out.pos hp
          obtain ⟨b2, o2, rfl, hF2, hs2, cs2, ⟨v2, rfl, ok2, ha2⟩, hc2⟩ := RSl.at HB.out.pos hq
          have CY := Lib.hid (fun W' (hb : Below W.heap.size W W') => samePatternW p q v1 v2 W' (ha1.keep (Kp.of_below hb)) (ha2.keep (Kp.of_below hb)))
          rw [hpq] at CY
          obtain ⟨X1, y1, rfl⟩ := ha1.form
          obtain ⟨X2, y2, rfl⟩ := ha2.form
          have x0 := fun p : Pt S => (((congrFun hSe p.val).mp p.property).1.cell (p := ⟨b1, o1 + k * 2 + 0, none⟩) hs1).trans (hc1 0 _ rfl)
          have x1 := fun p : Pt S => (((congrFun hSe p.val).mp p.property).1.cell (p := ⟨b1, o1 + k * 2 + 1, none⟩) hs1).trans (hc1 1 _ rfl)
          have z0 := fun p : Pt S => (((congrFun hSe p.val).mp p.property).1.cell (p := ⟨b2, o2 + k * 2 + 0, none⟩) hs2).trans (hc2 0 _ rfl)
          have z1 := fun p : Pt S => (((congrFun hSe p.val).mp p.property).1.cell (p := ⟨b2, o2 + k * 2 + 1, none⟩) hs2).trans (hc2 1 _ rfl)
          simp only [Nat.add_zero] at x0 z0
          have e2 : (k : Int) < (a.pos.length : Int) := by omega
          have e3 : (k : Int) < (b.pos.length : Int) := by omega
          have KP := Lib.hid (fun (p : Pt S) => ((congrFun hSe p.val).mp p.property))
          clear hc1 hc2 hp hq hSe hke hkn hk hne hle hS ha1 ha2
          go_wp2_with fail
          refine wp_region_class (S := S) HD.out (by kernel_rfl) (by kernel_rfl) ?_
          repeat (go_big_quiet_step ((go_at_call 38; refine (CY.out _ (KP.out _).1).mono ?_; rintro e w' ⟨rfl, hbel⟩; exact ⟨rfl, ⟨w', (congrFun SE.out w').mpr ((KP.out _).step hbel)⟩, rfl⟩)))
          refine wpQuiet_nil ?_
          rintro wq ⟨⟨_, hW⟩, rfl⟩
          have hF := (congrFun SE.out wq).mp hW
          have r0 := hF.ca 2 rfl
          have r1 := hF.cb 2 rfl
          have HF := Lib.hid hF
          clear q0 q1 NE hW hF x0 x1 z0 z1
          go_wp2
          go_ret
          exact ⟨by rw [HN.out]; rfl, HF.out.1⟩
        · obtain rfl : k = b.pos.length := by omega
          have hne : ¬ a.pos = b.pos := fun h => by rw [h] at h1; omega
          have HN := Lib.hid (show R = b.pos.length by have := HR.out; rw [if_neg hne, hke] at this; omega)
          have e2 : (b.pos.length : Int) < (a.pos.length : Int) := by omega
          clear hSe hke hkn hk hne hle hS
          go_wp2_with fail
          refine wp_region_class (S := S) HD.out (by kernel_rfl) (by kernel_rfl) ?_
          repeat (go_big_quiet_step (fail))
          refine wpQuiet_nil ?_
          rintro wq ⟨⟨_, hW⟩, rfl⟩
          have hF := (congrFun SE.out wq).mp hW
          have r0 := hF.ca 2 rfl
          have r1 := hF.cb 2 rfl
          have HF := Lib.hid hF
          clear q0 q1 NE hW hF
          go_wp2
          go_ret
          exact ⟨by rw [HN.out]; rfl, HF.out.1⟩
      · obtain rfl : k = a.pos.length := by omega
        rcases Nat.lt_or_ge a.pos.length b.pos.length with h2 | h2
        · have hne : ¬ a.pos = b.pos := fun h => by rw [h] at h2; omega
          have HN := Lib.hid (show R = a.pos.length by have := HR.out; rw [if_neg hne, hke] at this; omega)
          have e2 : (a.pos.length : Int) < (b.pos.length : Int) := by omega
          clear hSe hke hkn hk hne hle hS
          go_wp2_with fail
          refine wp_region_class (S := S) HD.out (by kernel_rfl) (by kernel_rfl) ?_
          repeat (go_big_quiet_step (fail))
          refine wpQuiet_nil ?_
          rintro wq ⟨⟨_, hW⟩, rfl⟩
          have hF := (congrFun SE.out wq).mp hW
          have r0 := hF.ca 2 rfl
          have r1 := hF.cb 2 rfl
          have HF := Lib.hid hF
          clear q0 q1 NE hW hF
          go_wp2
          go_ret
          exact ⟨by rw [HN.out]; rfl, HF.out.1⟩
        · have hle2 : a.pos.length = b.pos.length := by omega
          have HEQ := Lib.hid (lcp_full a.pos b.pos hke (hke.trans hle2))
          have HLN := Lib.hid hle2
          have g1 : ¬ (a.pos.length : Int) < (b.pos.length : Int) := by omega
          have g2 : ¬ a.pos.length < b.pos.length := by omega
          clear hSe hke hkn hk hle hS hle2 h2
          go_wp2_with fail
          refine wp_region_class (S := S) HD.out (by kernel_rfl) (by kernel_rfl) ?_
          repeat (go_big_quiet_step (fail))
          refine wpQuiet_nil ?_
          rintro wq ⟨⟨_, hW⟩, rfl⟩
          have hF := (congrFun SE.out wq).mp hW
          have r0 := hF.ca 2 rfl
          have r1 := hF.cb 2 rfl
          have HF := Lib.hid hF
          clear q0 q1 NE hW hF
          go_wp2
          clear r0 r1 g1 g2 e1 h1
          have hle2 := lcp_le a.tests b.tests
          go_loopw [6] (fun i wr => ∃ j : Nat, i = .int .i64 j ∧ j ≤ lcp a.tests b.tests ∧ CmS W #[.int .i64 a.head.pred, .slice A0 a.head.args.length c0, .slice A1 a.pos.length c1, .slice A2 a.tests.length c2, .slice A3 a.neg.length c3, .slice A4 a.vars.length c4, .int .i64 a.clause] #[.int .i64 b.head.pred, .slice B0 b.head.args.length d0, .slice B1 b.pos.length d1, .slice B2 b.tests.length d2, .slice B3 b.neg.length d3, .slice B4 b.vars.length d4, .int .i64 b.clause] wr) (fun i _ => lcp a.tests b.tests - (intOf i).toNat)
          case atStart => exact ⟨0, rfl, Nat.zero_le _, HF.out⟩
          case round =>
            obtain ⟨j, rfl, hj, hS⟩ := hrel
            clear HF HD SE
            by_cases hjn : j < lcp a.tests b.tests
            · obtain ⟨t, ht, hu⟩ := lcp_in _ _ _ hjn
              obtain ⟨b1, o1, rfl, hF1, hs1, cs1, ⟨rfl, ok1, ok2, ok3⟩, hc1⟩ := RSl.at HA.out.tests ht
              obtain ⟨b2, o2, rfl, hF2, hs2, cs2, ⟨rfl, ok1', ok2', ok3'⟩, hc2⟩ := RSl.at HB.out.tests hu
              obtain ⟨S, hSe⟩ : ∃ S, S = CmS W #[.int .i64 a.head.pred, .slice A0 a.head.args.length c0, .slice A1 a.pos.length c1, .slice (some ⟨b1, o1, none⟩) a.tests.length c2, .slice A3 a.neg.length c3, .slice A4 a.vars.length c4, .int .i64 a.clause] #[.int .i64 b.head.pred, .slice B0 b.head.args.length d0, .slice B1 b.pos.length d1, .slice (some ⟨b2, o2, none⟩) b.tests.length d2, .slice B3 b.neg.length d3, .slice B4 b.vars.length d4, .int .i64 b.clause] := ⟨_, rfl⟩
              have q0 := fun p : Pt S => ((congrFun hSe p.val).mp p.property).ca 3 rfl
              have q1 := fun p : Pt S => ((congrFun hSe p.val).mp p.property).cb 3 rfl
              have xx := fun (p : Pt S) (i : Nat) (u : Value) (hu : _) => (((congrFun hSe p.val).mp p.property).1.cell (p := ⟨b1, o1 + j * 5 + i, none⟩) hs1).trans (hc1 i u hu)
              have zz := fun (p : Pt S) (i : Nat) (u : Value) (hu : _) => (((congrFun hSe p.val).mp p.property).1.cell (p := ⟨b2, o2 + j * 5 + i, none⟩) hs2).trans (hc2 i u hu)
              have x0 := fun p : Pt S => xx p 0 _ rfl
              have x1 := fun p : Pt S => xx p 1 _ rfl
              have x2 := fun p : Pt S => xx p 2 _ rfl
              have x3 := fun p : Pt S => xx p 3 _ rfl
              have x4 := fun p : Pt S => xx p 4 _ rfl
              have z0 := fun p : Pt S => zz p 0 _ rfl
              have z1 := fun p : Pt S => zz p 1 _ rfl
              have z2 := fun p : Pt S => zz p 2 _ rfl
              have z3 := fun p : Pt S => zz p 3 _ rfl
              have z4 := fun p : Pt S => zz p 4 _ rfl
              simp only [Nat.add_zero] at x0 z0
              have hq := fun W => eql_tst t t W
              simp only [decide_true] at hq
              have e1 : (0 : Int) ≤ (j : Int) := by omega
              have e2 : (j : Int) < (a.tests.length : Int) := by omega
              have e3 : (j : Int) < (b.tests.length : Int) := by omega
              have NE : Nonempty (Pt S) := ⟨⟨wr, (congrFun hSe wr).mpr hS⟩⟩
              have HD := Lib.hid ((congrFun hSe wr.drew).mpr hS.drew)
              have HJ := Lib.hid hjn
              have SE := Lib.hid hSe
              clear hc1 hc2 ht hu hS hjn hSe hle2 xx zz
              go_wp2_with fail
              refine wp_region_class (S := S) HD.out (by kernel_rfl) (by kernel_rfl) ?_
              repeat (go_big_quiet_step (fail))
              refine wpQuiet_nil ?_
              rintro wq ⟨⟨_, hW⟩, rfl⟩
              have HF := Lib.hid ((congrFun SE.out wq).mp hW)
              clear q0 q1 x0 x1 x2 x3 x4 z0 z1 z2 z3 z4 NE hW
              go_wp2
              exact ⟨⟨j + 1, by go_num, HJ.out, HF.out⟩, by simp [intOf]; have := HJ.out; omega⟩
            · have hke : lcp a.tests b.tests = j := by omega
              rw [hke] at hle2
              obtain ⟨S, hSe⟩ : ∃ S, S = CmS W #[.int .i64 a.head.pred, .slice A0 a.head.args.length c0, .slice A1 a.pos.length c1, .slice A2 a.tests.length c2, .slice A3 a.neg.length c3, .slice A4 a.vars.length c4, .int .i64 a.clause] #[.int .i64 b.head.pred, .slice B0 b.head.args.length d0, .slice B1 b.pos.length d1, .slice B2 b.tests.length d2, .slice B3 b.neg.length d3, .slice B4 b.vars.length d4, .int .i64 b.clause] := ⟨_, rfl⟩
              have q0 := fun p : Pt S => ((congrFun hSe p.val).mp p.property).ca 3 rfl
              have q1 := fun p : Pt S => ((congrFun hSe p.val).mp p.property).cb 3 rfl
              have NE : Nonempty (Pt S) := ⟨⟨wr, (congrFun hSe wr).mpr hS⟩⟩
              have HD := Lib.hid ((congrFun hSe wr.drew).mpr hS.drew)
              have SE := Lib.hid hSe
              have e1 : (0 : Int) ≤ (j : Int) := by omega
              have HN0 := Lib.hid (show ¬ a.tests = b.tests → R = a.pos.length + j from fun hne => by have := HR.out; rw [if_pos HEQ.out, if_neg hne, hke, KE.out] at this; omega)
              rcases Nat.lt_or_ge j a.tests.length with h1 | h1
              · rcases Nat.lt_or_ge j b.tests.length with h2 | h2
                · obtain ⟨p, hp⟩ : ∃ p, a.tests[j]? = some p := ⟨_, List.getElem?_eq_getElem h1⟩
                  obtain ⟨q, hq⟩ : ∃ q, b.tests[j]? = some q := ⟨_, List.getElem?_eq_getElem h2⟩
                  have hpq : decide (p = q) = false := by simpa using lcp_ne a.tests b.tests p q (by rw [hke]; exact hp) (by rw [hke]; exact hq)
                  have hne : ¬ a.tests = b.tests := fun h => by rw [h, hq] at hp; simp at hp; simp [hp] at hpq
                  have HN := Lib.hid (HN0.out hne)
                  obtain ⟨b1, o1, rfl, hF1, hs1, cs1, ⟨rfl, ok1, ok2, ok3⟩, hc1⟩ := RSl.at HA.out.tests hp
                  obtain ⟨b2, o2, rfl, hF2, hs2, cs2, ⟨rfl, ok1', ok2', ok3'⟩, hc2⟩ := RSl.at HB.out.tests hq
                  have xx := fun (p : Pt S) (i : Nat) (u : Value) (hu : _) => (((congrFun hSe p.val).mp p.property).1.cell (p := ⟨b1, o1 + j * 5 + i, none⟩) hs1).trans (hc1 i u hu)
                  have zz := fun (p : Pt S) (i : Nat) (u : Value) (hu : _) => (((congrFun hSe p.val).mp p.property).1.cell (p := ⟨b2, o2 + j * 5 + i, none⟩) hs2).trans (hc2 i u hu)
                  have x0 := fun p : Pt S => xx p 0 _ rfl
                  have z0 := fun p : Pt S => zz p 0 _ rfl
                  have x1 := fun p : Pt S => xx p 1 _ rfl
                  have z1 := fun p : Pt S => zz p 1 _ rfl
                  have x2 := fun p : Pt S => xx p 2 _ rfl
                  have z2 := fun p : Pt S => zz p 2 _ rfl
                  have x3 := fun p : Pt S => xx p 3 _ rfl
                  have z3 := fun p : Pt S => zz p 3 _ rfl
                  have x4 := fun p : Pt S => xx p 4 _ rfl
                  have z4 := fun p : Pt S => zz p 4 _ rfl
                  simp only [Nat.add_zero] at x0 z0
                  have hqq := fun W => eql_tst p q W
                  rw [hpq] at hqq
                  have e2 : (j : Int) < (a.tests.length : Int) := by omega
                  have e3 : (j : Int) < (b.tests.length : Int) := by omega
                  clear hc1 hc2 hp hq hSe hke hjn hj hne hle2 hS xx zz hpq
                  go_wp2_with fail
                  refine wp_region_class (S := S) HD.out (by kernel_rfl) (by kernel_rfl) ?_
                  repeat (go_big_quiet_step (fail))
                  refine wpQuiet_nil ?_
                  rintro wq ⟨⟨_, hW⟩, rfl⟩
                  have hF := (congrFun SE.out wq).mp hW
                  have r0 := hF.ca 3 rfl
                  have r1 := hF.cb 3 rfl
                  have HF := Lib.hid hF
                  clear q0 q1 NE hW hF x0 x1 x2 x3 x4 z0 z1 z2 z3 z4
                  go_wp2
                  go_ret
                  exact ⟨by rw [HN.out]; rfl, HF.out.1⟩
                · obtain rfl : j = b.tests.length := by omega
                  have hne : ¬ a.tests = b.tests := fun h => by rw [h] at h1; omega
                  have HN := Lib.hid (HN0.out hne)
                  have e2 : (b.tests.length : Int) < (a.tests.length : Int) := by omega
                  clear hSe hke hjn hj hne hle2 hS
                  go_wp2_with fail
                  refine wp_region_class (S := S) HD.out (by kernel_rfl) (by kernel_rfl) ?_
                  repeat (go_big_quiet_step (fail))
                  refine wpQuiet_nil ?_
                  rintro wq ⟨⟨_, hW⟩, rfl⟩
                  have hF := (congrFun SE.out wq).mp hW
                  have r0 := hF.ca 3 rfl
                  have r1 := hF.cb 3 rfl
                  have HF := Lib.hid hF
                  clear q0 q1 NE hW hF
                  go_wp2
                  go_ret
                  exact ⟨by rw [HN.out]; rfl, HF.out.1⟩
              · obtain rfl : j = a.tests.length := by omega
                rcases Nat.lt_or_ge a.tests.length b.tests.length with h2 | h2
                · have hne : ¬ a.tests = b.tests := fun h => by rw [h] at h2; omega
                  have HN := Lib.hid (HN0.out hne)
                  have e2 : (a.tests.length : Int) < (b.tests.length : Int) := by omega
                  clear hSe hke hjn hj hne hle2 hS
                  go_wp2_with fail
                  refine wp_region_class (S := S) HD.out (by kernel_rfl) (by kernel_rfl) ?_
                  repeat (go_big_quiet_step (fail))
                  refine wpQuiet_nil ?_
                  rintro wq ⟨⟨_, hW⟩, rfl⟩
                  have hF := (congrFun SE.out wq).mp hW
                  have r0 := hF.ca 3 rfl
                  have r1 := hF.cb 3 rfl
                  have HF := Lib.hid hF
                  clear q0 q1 NE hW hF
                  go_wp2
                  go_ret
                  exact ⟨by rw [HN.out]; rfl, HF.out.1⟩
                · have hle3 : a.tests.length = b.tests.length := by omega
                  have HET := Lib.hid (lcp_full a.tests b.tests hke (hke.trans hle3))
                  have HRN := Lib.hid (show R = a.pos.length + a.tests.length + lcp a.neg b.neg by have := HR.out; rw [if_pos HEQ.out, if_pos HET.out, hke, KE.out] at this; omega)
                  have g1 : ¬ (a.tests.length : Int) < (b.tests.length : Int) := by omega
                  have g2 : ¬ a.tests.length < b.tests.length := by omega
                  clear hSe hke hjn hj hle2 hle3 hS h2
                  go_wp2_with fail
                  refine wp_region_class (S := S) HD.out (by kernel_rfl) (by kernel_rfl) ?_
                  repeat (go_big_quiet_step (fail))
                  refine wpQuiet_nil ?_
                  rintro wq ⟨⟨_, hW⟩, rfl⟩
                  have hF := (congrFun SE.out wq).mp hW
                  have r0 := hF.ca 3 rfl
                  have r1 := hF.cb 3 rfl
                  have HF := Lib.hid hF
                  clear q0 q1 NE hW hF
                  go_wp2
                  clear r0 r1 g1 g2 e1 h1
                  have hle3 := lcp_le a.neg b.neg
                  go_loopw [5, 6] (fun nv kv wr => ∃ j : Nat, nv = .int .i64 ((a.pos.length : Int) + (a.tests.length : Int) + (j : Int)) ∧ kv = .int .i64 j ∧ j ≤ lcp a.neg b.neg ∧ CmS W #[.int .i64 a.head.pred, .slice A0 a.head.args.length c0, .slice A1 a.pos.length c1, .slice A2 a.tests.length c2, .slice A3 a.neg.length c3, .slice A4 a.vars.length c4, .int .i64 a.clause] #[.int .i64 b.head.pred, .slice B0 b.head.args.length d0, .slice B1 b.pos.length d1, .slice B2 b.tests.length d2, .slice B3 b.neg.length d3, .slice B4 b.vars.length d4, .int .i64 b.clause] wr) (fun _ i _ => lcp a.neg b.neg - (intOf i).toNat)
                  case atStart => exact ⟨0, by go_num, rfl, Nat.zero_le _, HF.out⟩
                  case round =>
                    obtain ⟨j, rfl, rfl, hj, hS⟩ := hrel
                    clear HF HD SE
                    by_cases hjn : j < lcp a.neg b.neg
                    · obtain ⟨p, hp, hq⟩ := lcp_in _ _ _ hjn
                      obtain ⟨b1, o1, rfl, hF1, hs1, cs1, ⟨v1, rfl, ok1, ha1⟩, hc1⟩ := RSl.at HA.out.neg hp
                      obtain ⟨b2, o2, rfl, hF2, hs2, cs2, ⟨v2, rfl, ok2, ha2⟩, hc2⟩ := RSl.at HB.out.neg hq
                      have CY := Lib.hid (fun W' (hb : Below W.heap.size W W') => samePatternW p p v1 v2 W' (ha1.keep (Kp.of_below hb)) (ha2.keep (Kp.of_below hb)))
                      obtain ⟨X1, y1, rfl⟩ := ha1.form
                      obtain ⟨X2, y2, rfl⟩ := ha2.form
                      obtain ⟨S, hSe⟩ : ∃ S, S = CmS W #[.int .i64 a.head.pred, .slice A0 a.head.args.length c0, .slice A1 a.pos.length c1, .slice A2 a.tests.length c2, .slice (some ⟨b1, o1, none⟩) a.neg.length c3, .slice A4 a.vars.length c4, .int .i64 a.clause] #[.int .i64 b.head.pred, .slice B0 b.head.args.length d0, .slice B1 b.pos.length d1, .slice B2 b.tests.length d2, .slice (some ⟨b2, o2, none⟩) b.neg.length d3, .slice B4 b.vars.length d4, .int .i64 b.clause] := ⟨_, rfl⟩
                      have q0 := fun p : Pt S => ((congrFun hSe p.val).mp p.property).ca 4 rfl
                      have q1 := fun p : Pt S => ((congrFun hSe p.val).mp p.property).cb 4 rfl
                      have x0 := fun p : Pt S => (((congrFun hSe p.val).mp p.property).1.cell (p := ⟨b1, o1 + j * 2 + 0, none⟩) hs1).trans (hc1 0 _ rfl)
                      have x1 := fun p : Pt S => (((congrFun hSe p.val).mp p.property).1.cell (p := ⟨b1, o1 + j * 2 + 1, none⟩) hs1).trans (hc1 1 _ rfl)
                      have z0 := fun p : Pt S => (((congrFun hSe p.val).mp p.property).1.cell (p := ⟨b2, o2 + j * 2 + 0, none⟩) hs2).trans (hc2 0 _ rfl)
                      have z1 := fun p : Pt S => (((congrFun hSe p.val).mp p.property).1.cell (p := ⟨b2, o2 + j * 2 + 1, none⟩) hs2).trans (hc2 1 _ rfl)
                      simp only [Nat.add_zero] at x0 z0
                      have e1 : (0 : Int) ≤ (j : Int) := by omega
                      have e2 : (j : Int) < (a.neg.length : Int) := by omega
                      have e3 : (j : Int) < (b.neg.length : Int) := by omega
                      have NE : Nonempty (Pt S) := ⟨⟨wr, (congrFun hSe wr).mpr hS⟩⟩
                      have hd : decide (p = p) = true := by simp
                      have HD := Lib.hid ((congrFun hSe wr.drew).mpr hS.drew)
                      have HK := Lib.hid hjn
                      have SE := Lib.hid hSe
                      have KP := Lib.hid (fun (p : Pt S) => ((congrFun hSe p.val).mp p.property))
                      clear hc1 hc2 hp hq hS hjn hSe ha1 ha2 hle3
                      go_wp2_with fail
                      refine wp_region_class (S := S) HD.out (by kernel_rfl) (by kernel_rfl) ?_
                      repeat (go_big_quiet_step ((go_at_call 38; refine (CY.out _ (KP.out _).1).mono ?_; rintro e w' ⟨rfl, hbel⟩; exact ⟨rfl, ⟨w', (congrFun SE.out w').mpr ((KP.out _).step hbel)⟩, rfl⟩)))
                      refine wpQuiet_nil ?_
                      rintro wq ⟨⟨_, hW⟩, rfl⟩
                      have HF := Lib.hid ((congrFun SE.out wq).mp hW)
                      clear q0 q1 x0 x1 z0 z1 NE hW
                      go_wp2
                      exact ⟨⟨j + 1, by go_num, by go_num, HK.out, HF.out⟩, by simp [intOf]; have := HK.out; omega⟩
                    · have hke : lcp a.neg b.neg = j := by omega
                      rw [hke] at hle3
                      have HN := Lib.hid (show R = a.pos.length + a.tests.length + j by have := HRN.out; rw [hke] at this; exact this)
                      obtain ⟨S, hSe⟩ : ∃ S, S = CmS W #[.int .i64 a.head.pred, .slice A0 a.head.args.length c0, .slice A1 a.pos.length c1, .slice A2 a.tests.length c2, .slice A3 a.neg.length c3, .slice A4 a.vars.length c4, .int .i64 a.clause] #[.int .i64 b.head.pred, .slice B0 b.head.args.length d0, .slice B1 b.pos.length d1, .slice B2 b.tests.length d2, .slice B3 b.neg.length d3, .slice B4 b.vars.length d4, .int .i64 b.clause] := ⟨_, rfl⟩
                      have q0 := fun p : Pt S => ((congrFun hSe p.val).mp p.property).ca 4 rfl
                      have q1 := fun p : Pt S => ((congrFun hSe p.val).mp p.property).cb 4 rfl
                      have NE : Nonempty (Pt S) := ⟨⟨wr, (congrFun hSe wr).mpr hS⟩⟩
                      have HD := Lib.hid ((congrFun hSe wr.drew).mpr hS.drew)
                      have SE := Lib.hid hSe
                      have e1 : (0 : Int) ≤ (j : Int) := by omega
                      rcases Nat.lt_or_ge j a.neg.length with h1 | h1
                      · rcases Nat.lt_or_ge j b.neg.length with h2 | h2
                        · obtain ⟨p, hp⟩ : ∃ p, a.neg[j]? = some p := ⟨_, List.getElem?_eq_getElem h1⟩
                          obtain ⟨q, hq⟩ : ∃ q, b.neg[j]? = some q := ⟨_, List.getElem?_eq_getElem h2⟩
                          have hpq : decide (p = q) = false := by simpa using lcp_ne a.neg b.neg p q (by rw [hke]; exact hp) (by rw [hke]; exact hq)
                          obtain ⟨b1, o1, rfl, hF1, hs1, cs1, ⟨v1, rfl, ok1, ha1⟩, hc1⟩ := RSl.at HA.out.neg hp
                          obtain ⟨b2, o2, rfl, hF2, hs2, cs2, ⟨v2, rfl, ok2, ha2⟩, hc2⟩ := RSl.at HB.out.neg hq
                          have CY := Lib.hid (fun W' (hb : Below W.heap.size W W') => samePatternW p q v1 v2 W' (ha1.keep (Kp.of_below hb)) (ha2.keep (Kp.of_below hb)))
                          rw [hpq] at CY
                          obtain ⟨X1, y1, rfl⟩ := ha1.form
                          obtain ⟨X2, y2, rfl⟩ := ha2.form
                          have x0 := fun p : Pt S => (((congrFun hSe p.val).mp p.property).1.cell (p := ⟨b1, o1 + j * 2 + 0, none⟩) hs1).trans (hc1 0 _ rfl)
                          have x1 := fun p : Pt S => (((congrFun hSe p.val).mp p.property).1.cell (p := ⟨b1, o1 + j * 2 + 1, none⟩) hs1).trans (hc1 1 _ rfl)
                          have z0 := fun p : Pt S => (((congrFun hSe p.val).mp p.property).1.cell (p := ⟨b2, o2 + j * 2 + 0, none⟩) hs2).trans (hc2 0 _ rfl)
                          have z1 := fun p : Pt S => (((congrFun hSe p.val).mp p.property).1.cell (p := ⟨b2, o2 + j * 2 + 1, none⟩) hs2).trans (hc2 1 _ rfl)
                          simp only [Nat.add_zero] at x0 z0
                          have e2 : (j : Int) < (a.neg.length : Int) := by omega
                          have e3 : (j : Int) < (b.neg.length : Int) := by omega
                          have KP := Lib.hid (fun (p : Pt S) => ((congrFun hSe p.val).mp p.property))
                          clear hc1 hc2 hp hq hSe hke hjn hj hle3 hS ha1 ha2
                          go_wp2_with fail
                          refine wp_region_class (S := S) HD.out (by kernel_rfl) (by kernel_rfl) ?_
                          repeat (go_big_quiet_step ((go_at_call 38; refine (CY.out _ (KP.out _).1).mono ?_; rintro e w' ⟨rfl, hbel⟩; exact ⟨rfl, ⟨w', (congrFun SE.out w').mpr ((KP.out _).step hbel)⟩, rfl⟩)))
                          refine wpQuiet_nil ?_
                          rintro wq ⟨⟨_, hW⟩, rfl⟩
                          have HF := Lib.hid ((congrFun SE.out wq).mp hW)
                          clear q0 q1 NE hW x0 x1 z0 z1
                          go_wp2
                          go_ret
                          exact ⟨by rw [HN.out]; simp, HF.out.1⟩
                        · obtain rfl : j = b.neg.length := by omega
                          have e2 : (b.neg.length : Int) < (a.neg.length : Int) := by omega
                          clear hSe hke hjn hj hle3 hS
                          go_wp2_with fail
                          refine wp_region_class (S := S) HD.out (by kernel_rfl) (by kernel_rfl) ?_
                          repeat (go_big_quiet_step (fail))
                          refine wpQuiet_nil ?_
                          rintro wq ⟨⟨_, hW⟩, rfl⟩
                          have HF := Lib.hid ((congrFun SE.out wq).mp hW)
                          clear q0 q1 NE hW
                          go_wp2
                          go_ret
                          exact ⟨by rw [HN.out]; simp, HF.out.1⟩
                      · obtain rfl : j = a.neg.length := by omega
                        clear hSe hke hjn hj hle3 hS h1
                        go_wp2_with fail
                        refine wp_region_class (S := S) HD.out (by kernel_rfl) (by kernel_rfl) ?_
                        repeat (go_big_quiet_step (fail))
                        refine wpQuiet_nil ?_
                        rintro wq ⟨⟨_, hW⟩, rfl⟩
                        have HF := Lib.hid ((congrFun SE.out wq).mp hW)
                        clear q0 q1 NE hW
                        go_wp2
                        go_ret
                        exact ⟨by rw [HN.out]; simp, HF.out.1⟩
end Go.Proofs.Ytonkbjdeaneicaa
