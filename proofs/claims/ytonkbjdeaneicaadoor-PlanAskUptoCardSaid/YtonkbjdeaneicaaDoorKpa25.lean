/- The reference's equalNode. The reference's Way: the nodes from below the root to any number, if the Parents lead there. The reference's held: what a free place of a node holds. -/
import Derived.Test.YtonkbjdeaneicaaDoorKpa14
import Derived.Test.YtonkbjdeaneicaaDoorKpa24
namespace Go.Proofs.YtonkbjdeaneicaaDoor
open Go.RowKit Pln Classical Go.Maps

theorem neq_lnk (a b : Int × Int) (w : World) : (binOp .neq 56 (.agg #[.int .i64 a.1, .int .i64 a.2]) (.agg #[.int .i64 b.1, .int .i64 b.2])).run Tryd.prog w = .ok (.bool (!decide (a = b))) w := by
  obtain ⟨a1, a2⟩ := a
  obtain ⟨b1, b2⟩ := b
  rw [show decide ((a1, a2) = (b1, b2)) = decide (a1 = b1 ∧ a2 = b2) from by simp only [Prod.mk.injEq]]
  by_cases h1 : a1 = b1
  · by_cases h2 : a2 = b2
    · simp [go_sem, h1, h2]
    · simp [go_sem, h1, h2]
  · simp [go_sem, h1]

set_option maxRecDepth 200000 in
set_option maxHeartbeats 8000000 in
theorem requalNodeW {F G : Nat → Prop} (w : World) (a b : Nd) (acs bcs : List Value) (lv mv lv' mv' : Value) (ha : ENd F w acs a lv mv) (hb : ENd G w bcs b lv' mv') :
    Calls Tryd.prog 36 #[.agg #[.int .i64 a.kind, .int .i64 a.parent, .int .i64 a.alpha, lv, mv, .int .i64 a.test.op, .bool a.test.l.v, .int .i64 a.test.l.n, .bool a.test.r.v, .int .i64 a.test.r.n, .int .i64 a.width], .agg #[.int .i64 b.kind, .int .i64 b.parent, .int .i64 b.alpha, lv', mv', .int .i64 b.test.op, .bool b.test.l.v, .int .i64 b.test.l.n, .bool b.test.r.v, .int .i64 b.test.r.n, .int .i64 b.width]] w fun e w' => e = .returned (.bool (decide (a = b))) ∧ Below w.heap.size w w' := by
  have EQ := Lib.hid (fun (Wx : World) (hx : Below w.heap.size w Wx) => requalIntsW mv mv' a.new b.new Wx (ha.new.keep (Kp.of_below hx)) (hb.new.keep (Kp.of_below hx)))
  have HL := Lib.hid ha.links
  have HL' := Lib.hid hb.links
  obtain ⟨Al, cl, rfl⟩ := ha.links.form
  obtain ⟨Am, cm, rfl⟩ := ha.new.form
  obtain ⟨Bl, dl, rfl⟩ := hb.links.form
  obtain ⟨Bm, dm, rfl⟩ := hb.new.form
  have hll := ha.links.len
  have hll' := hb.links.len
  unfold maxLen at hll hll'
  clear ha hb
  obtain ⟨R, hR⟩ : ∃ R, decide (a = b) = R := ⟨_, rfl⟩
  rw [hR]
  have HR := Lib.hid hR
  have NO := Lib.hid (show ¬ a = b → R = false from fun h => by rw [← hR]; exact decide_eq_false h)
  clear hR
  have T := Lib.hid (two w #[.int .i64 a.kind, .int .i64 a.parent, .int .i64 a.alpha, .slice Al a.links.length cl, .slice Am a.new.length cm, .int .i64 a.test.op, .bool a.test.l.v, .int .i64 a.test.l.n, .bool a.test.r.v, .int .i64 a.test.r.n, .int .i64 a.width] #[.int .i64 b.kind, .int .i64 b.parent, .int .i64 b.alpha, .slice Bl b.links.length dl, .slice Bm b.new.length dm, .int .i64 b.test.op, .bool b.test.l.v, .int .i64 b.test.l.n, .bool b.test.r.v, .int .i64 b.test.r.n, .int .i64 b.width] 40 40)
  go_enter Tryd.func36, Tryd.ntmps36
  go_upto_region 1 with fail
  obtain ⟨W2, hW2⟩ : ∃ W2, W2 = ((w.alloc (.cells #[.int .i64 a.kind, .int .i64 a.parent, .int .i64 a.alpha, .slice Al a.links.length cl, .slice Am a.new.length cm, .int .i64 a.test.op, .bool a.test.l.v, .int .i64 a.test.l.n, .bool a.test.r.v, .int .i64 a.test.r.n, .int .i64 a.width] 40)).alloc (.cells #[.int .i64 b.kind, .int .i64 b.parent, .int .i64 b.alpha, .slice Bl b.links.length dl, .slice Bm b.new.length dm, .int .i64 b.test.op, .bool b.test.l.v, .int .i64 b.test.l.n, .bool b.test.r.v, .int .i64 b.test.r.n, .int .i64 b.width] 40)) := ⟨_, rfl⟩
  rw [← hW2] at T ⊢
  clear hW2
  have hD := Below.refl W2.heap.size W2
  have p0 := T.out.ca hD 0 rfl
  have p1 := T.out.ca hD 1 rfl
  have p2 := T.out.ca hD 2 rfl
  have p3 := T.out.ca hD 3 rfl
  have p4 := T.out.ca hD 4 rfl
  have p5 := T.out.ca hD 5 rfl
  have p6 := T.out.ca hD 6 rfl
  have p7 := T.out.ca hD 7 rfl
  have p8 := T.out.ca hD 8 rfl
  have p9 := T.out.ca hD 9 rfl
  have p10 := T.out.ca hD 10 rfl
  have q0 := T.out.cb hD 0 rfl
  have q1 := T.out.cb hD 1 rfl
  have q2 := T.out.cb hD 2 rfl
  have q3 := T.out.cb hD 3 rfl
  have q4 := T.out.cb hD 4 rfl
  have q5 := T.out.cb hD 5 rfl
  have q6 := T.out.cb hD 6 rfl
  have q7 := T.out.cb hD 7 rfl
  have q8 := T.out.cb hD 8 rfl
  have q9 := T.out.cb hD 9 rfl
  have q10 := T.out.cb hD 10 rfl
  have hne := fun W => neq_tst a.test b.test W
  clear hD
  by_cases c1 : a.parent = b.parent
  · have Hc1 := Lib.hid c1
    rw [← c1] at q1
    clear c1
    by_cases c2 : a.kind = b.kind
    · have Hc2 := Lib.hid c2
      rw [← c2] at q0
      clear c2
      by_cases c3 : a.alpha = b.alpha
      · have Hc3 := Lib.hid c3
        rw [← c3] at q2
        clear c3
        by_cases c4 : a.width = b.width
        · have Hc4 := Lib.hid c4
          rw [← c4] at q10
          clear c4
          by_cases c5 : a.test = b.test
          · have Hc5 := Lib.hid c5
            rw [decide_eq_true c5] at hne
            simp only [Bool.not_true] at hne
            clear c5
            by_cases c6 : a.links.length = b.links.length
            · have Hc6 := Lib.hid c6
              rw [← c6] at q3
              have E1 := Lib.hid (EQ.out W2 T.out.below)
              clear c6
              go_wp2_with fail
              refine E1.out.mono ?_
              rintro e w3 ⟨rfl, hb3⟩
              have HB3 := Lib.hid hb3
              have HBW := Lib.hid (T.out.all hb3)
              clear hb3 E1 p0 p1 p2 p3 p4 p5 p6 p7 p8 p9 p10 q0 q1 q2 q3 q4 q5 q6 q7 q8 q9 q10 hne
              by_cases c7 : a.new = b.new
              · rw [eqB_eq c7]
                have Hc7 := Lib.hid c7
                clear c7
                go_wp2
                go_loopw [5] (fun i wr => ∃ k : Nat, i = .int .i64 k ∧ k ≤ a.links.length ∧ (∀ i, i < k → a.links[i]? = b.links[i]?) ∧ Below w3.heap.size w3 wr) (fun i _ => a.links.length - (intOf i).toNat)
                case atStart => exact ⟨0, rfl, Nat.zero_le _, fun i h => by omega, Below.refl _ _⟩
                case round =>
                  obtain ⟨k, rfl, hk, hq, hb⟩ := hrel
                  have hB2 := HB3.out.trans (hb.mono HB3.out.size)
                  have p3 := T.out.ca hB2 3 rfl
                  have q3 := T.out.cb hB2 3 rfl
                  by_cases hkn : k < a.links.length
                  · obtain ⟨x, hx⟩ : ∃ x, a.links[k]? = some x := ⟨_, List.getElem?_eq_getElem hkn⟩
                    obtain ⟨y, hy⟩ : ∃ y, b.links[k]? = some y := ⟨_, List.getElem?_eq_getElem (by have := Hc6.out; omega)⟩
                    obtain ⟨b1, o1, cs1, rfl, ⟨rfl, _⟩, hc1⟩ := HL.out.rd hx
                    obtain ⟨b2, o2, cs2, rfl, ⟨rfl, _⟩, hc2⟩ := HL'.out.rd hy
                    have d0 := hc1 _ (T.out.all hB2) 0 _ rfl
                    have d1 := hc1 _ (T.out.all hB2) 1 _ rfl
                    have f0 := hc2 _ (T.out.all hB2) 0 _ rfl
                    have f1 := hc2 _ (T.out.all hB2) 1 _ rfl
                    simp only [Nat.add_zero] at d0 f0
                    have hne := fun W => neq_lnk x y W
                    have e1 : (0 : Int) ≤ (k : Int) := by omega
                    have e2 : (k : Int) < (a.links.length : Int) := by omega
                    have e3 : (k : Int) < (b.links.length : Int) := by have := Hc6.out; omega
                    have HX := Lib.hid hx
                    have HY := Lib.hid hy
                    have HQ := Lib.hid hq
                    have HK := Lib.hid hkn
                    have HB := Lib.hid hb
                    clear hc1 hc2 hx hy hq hkn hb hB2
                    by_cases hxy : x = y
                    · rw [decide_eq_true hxy] at hne
                      simp only [Bool.not_true] at hne
                      have HQ2 := Lib.hid (show ∀ i, i < k + 1 → a.links[i]? = b.links[i]? from fun i hi => by
                        rcases Nat.lt_or_ge i k with h1 | h1
                        · exact HQ.out i h1
                        · rw [show i = k by omega, HX.out, HY.out, hxy])
                      clear hxy
                      go_wp2
                      go_quiet (fail)
                      have HB2 := Lib.hid (below_drewN HB.out nq)
                      go_wp2
                      exact ⟨⟨k + 1, by go_num, HK.out, HQ2.out, HB2.out⟩, by simp [intOf]; have := HK.out; omega⟩
                    · rw [decide_eq_false hxy] at hne
                      simp only [Bool.not_false] at hne
                      have HF := Lib.hid (NO.out (fun h => hxy (by
                        have h1 := HX.out
                        rw [h, HY.out] at h1
                        exact (Option.some.inj h1).symm)))
                      clear hxy
                      go_wp2
                      go_quiet (fail)
                      have HB2 := Lib.hid (below_drewN HB.out nq)
                      go_wp2
                      go_ret
                      exact ⟨by rw [HF.out]; rfl, HBW.out.trans (HB2.out.mono HBW.out.size)⟩
                  · obtain rfl : k = a.links.length := by omega
                    have HF := Lib.hid (show R = true by
                      rw [← HR.out]
                      refine decide_eq_true ?_
                      have h1 := Hc1.out
                      have h2 := Hc2.out
                      have h3 := Hc3.out
                      have h4 := Hc4.out
                      have h5 := Hc5.out
                      have h7 := Hc7.out
                      have h6 : a.links = b.links := list_eq Hc6.out hq
                      obtain ⟨_, _, _, _, _, _, _⟩ := a
                      obtain ⟨_, _, _, _, _, _, _⟩ := b
                      simp only at h1 h2 h3 h4 h5 h6 h7
                      subst h1 h2 h3 h4 h5 h6 h7
                      rfl)
                    have HB := Lib.hid (T.out.all hB2)
                    clear hq hkn hb hB2
                    go_wp2
                    go_ret
                    exact ⟨by rw [HF.out]; rfl, HB.out⟩
              · rw [eqB_ne c7]
                have HF := Lib.hid (NO.out (fun h => c7 (by rw [h])))
                clear c7
                go_wp2
                go_ret
                exact ⟨by rw [HF.out]; rfl, HBW.out⟩
            · have HF := Lib.hid (NO.out (fun h => c6 (by rw [h])))
              have d1 : ((a.links.length : Int) != (b.links.length : Int)) = true := by simp; omega
              have d2 : ((a.links.length : Int) == (b.links.length : Int)) = false := by simp; omega
              clear c6
              go_wp2
              go_ret
              exact ⟨by rw [HF.out]; rfl, T.out.below⟩
          · rw [decide_eq_false c5] at hne
            simp only [Bool.not_false] at hne
            have HF := Lib.hid (NO.out (fun h => c5 (by rw [h])))
            clear c5
            go_wp2
            go_ret
            exact ⟨by rw [HF.out]; rfl, T.out.below⟩
        · have HF := Lib.hid (NO.out (fun h => c4 (by rw [h])))
          have d1 : (a.width != b.width) = true := by simpa using c4
          have d2 : (a.width == b.width) = false := by simpa using c4
          clear c4
          go_wp2
          go_ret
          exact ⟨by rw [HF.out]; rfl, T.out.below⟩
      · have HF := Lib.hid (NO.out (fun h => c3 (by rw [h])))
        have d1 : (a.alpha != b.alpha) = true := by simpa using c3
        have d2 : (a.alpha == b.alpha) = false := by simpa using c3
        clear c3
        go_wp2
        go_ret
        exact ⟨by rw [HF.out]; rfl, T.out.below⟩
    · have HF := Lib.hid (NO.out (fun h => c2 (by rw [h])))
      have d1 : (a.kind != b.kind) = true := by simpa using c2
      have d2 : (a.kind == b.kind) = false := by simpa using c2
      clear c2
      go_wp2
      go_ret
      exact ⟨by rw [HF.out]; rfl, T.out.below⟩
  · have HF := Lib.hid (NO.out (fun h => c1 (by rw [h])))
    have d1 : (a.parent != b.parent) = true := by simpa using c1
    have d2 : (a.parent == b.parent) = false := by simpa using c1
    clear c1
    go_wp2
    go_ret
    exact ⟨by rw [HF.out]; rfl, T.out.below⟩
end Go.Proofs.YtonkbjdeaneicaaDoor

namespace Go.Proofs.YtonkbjdeaneicaaDoor.Pln
open Classical
theorem wayO_fuel (ns : List Nd) : ∀ (f g : Nat) (e : Int), e.toNat ≤ f → e.toNat ≤ g → wayO ns f e = wayO ns g e
  | 0, 0, _, _, _ => rfl
  | 0, g + 1, e, h, _ => by
    unfold wayO
    by_cases h0 : e = 0
    · rw [if_pos h0, if_pos h0]
    · rw [if_neg h0, if_neg h0]
      simp only
      rw [if_pos (by omega)]
  | f + 1, 0, e, _, h => by
    unfold wayO
    by_cases h0 : e = 0
    · rw [if_pos h0, if_pos h0]
    · rw [if_neg h0, if_neg h0]
      simp only
      rw [if_pos (by omega)]
  | f + 1, g + 1, e, h1, h2 => by
    unfold wayO
    by_cases h0 : e = 0
    · rw [if_pos h0, if_pos h0]
    · rw [if_neg h0, if_neg h0]
      simp only
      by_cases h3 : e < 0
      · rw [if_pos h3, if_pos h3]
      · rw [if_neg h3, if_neg h3]
        cases ns[e.toNat]? with
        | none => rfl
        | some n =>
          simp only
          by_cases h4 : e ≤ n.parent
          · rw [if_pos h4, if_pos h4]
          · rw [if_neg h4, if_neg h4, wayO_fuel ns f g n.parent (by omega) (by omega)]
theorem wayR_zero (ns : List Nd) : wayR ns 0 = some [] := by simp [wayR, wayO]
theorem wayR_out {ns : List Nd} {e : Int} (h : e < 0 ∨ (ns.length : Int) ≤ e) (h0 : e ≠ 0) : wayR ns e = none := by
  unfold wayR
  cases hf : e.toNat with
  | zero => unfold wayO; rw [if_neg h0]
  | succ f =>
    unfold wayO
    rw [if_neg h0]
    simp only
    by_cases h1 : e < 0
    · rw [if_pos h1]
    · rw [if_neg h1, List.getElem?_eq_none (by omega)]
theorem wayR_bad {ns : List Nd} {e : Int} {n : Nd} (h0 : 0 < e) (hn : ns[e.toNat]? = some n) (hp : e ≤ n.parent) : wayR ns e = none := by
  unfold wayR
  cases hf : e.toNat with
  | zero => omega
  | succ f =>
    unfold wayO
    rw [if_neg (by omega)]
    simp only
    rw [if_neg (by omega), hn]
    simp only
    rw [if_pos hp]
theorem wayR_step {ns : List Nd} {e : Int} {n : Nd} (h0 : 0 < e) (hn : ns[e.toNat]? = some n) (hp : n.parent < e) : wayR ns e = (wayR ns n.parent).map (· ++ [e.toNat]) := by
  unfold wayR
  cases hf : e.toNat with
  | zero => omega
  | succ f =>
    conv => lhs; unfold wayO
    rw [if_neg (by omega)]
    simp only
    rw [if_neg (by omega), hn]
    simp only
    rw [if_neg (by omega), wayO_fuel ns f n.parent.toNat n.parent (by omega) (Nat.le_refl _), hf]
end Go.Proofs.YtonkbjdeaneicaaDoor.Pln
namespace Go.Proofs.YtonkbjdeaneicaaDoor
open Go.RowKit Pln Classical Go.Maps

theorem OwnI.shp {w : World} {base : Nat} {v : Value} {l : List Nat} (h : OwnI w base v l) : ∃ A c, v = .slice A l.length c ∧ l.length ≤ c := by
  rcases h.2 with ⟨rfl, h0⟩ | ⟨g, cap, cur, rfl, _, _, h1, h2, _⟩
  · exact ⟨none, 0, by rw [h0], by omega⟩
  · exact ⟨_, cap, rfl, h1⟩
theorem OwnI.elt {w : World} {base : Nat} {A : Option Addr} {n c : Nat} {l : List Nat} (h : OwnI w base (.slice A n c) l) {t u : Nat} (hu : l[t]? = some u) : ∃ g, A = some ⟨g, 0, none⟩ ∧ base ≤ g ∧ w.cell? ⟨g, t, none⟩ = some (.int .i64 (u : Int)) := by
  have hlt := (List.getElem?_eq_some_iff.1 hu).1
  rcases h.2 with ⟨_, h0⟩ | ⟨g, cap, cur, he, hg, hh, h1, h2, _⟩
  · omega
  · simp only [Value.slice.injEq] at he
    obtain ⟨rfl, rfl, rfl⟩ := he
    refine ⟨g, rfl, hg, ?_⟩
    have := World.ownsRow.cellAt (show w.ownsRow base 3 1 (.slice (some ⟨g, 0, none⟩) l.length c) l.length (natVs l) from h) t (by omega)
    rw [this]
    unfold natVs
    rw [List.getElem?_map, hu]
    rfl
theorem OwnI.base {w : World} {b b' : Nat} {v : Value} {l : List Nat} (h : OwnI w b v l) (hb : b' ≤ b) : OwnI w b' v l := by
  refine ⟨h.1, ?_⟩
  rcases h.2 with h1 | ⟨g, cap, cur, h1, h2, h3⟩
  · exact .inl h1
  · exact .inr ⟨g, cap, cur, h1, Nat.le_trans hb h2, h3⟩

def RWayRes (ns : List Nd) (e : Int) (W : World) (en : Ending) (W' : World) : Prop :=
  Below W.heap.size W W' ∧ ((∃ l v, wayR ns e = some l ∧ en = .returned (.tuple #[v, .bool true]) ∧ OwnI W' W.heap.size v l ∧ l.length ≤ ns.length) ∨ (wayR ns e = none ∧ en = .returned (.tuple #[.slice none 0 0, .bool false])))

set_option maxRecDepth 200000 in
set_option maxHeartbeats 8000000 in
theorem rwayW {F : Nat → Prop} (W : World) (av nv ev : Value) (ns : List Nd) (hN : RSl F W 11 (ENode F W) nv ns) (e : Int) (hn : ns.length ≤ 100000000) :
    Calls Tryd.prog 30 #[.agg #[av, nv, ev], .int .i64 e] W (RWayRes ns e W) := by
  obtain ⟨An, cn, rfl⟩ := hN.form
  have HN := Lib.hid hN
  clear hN
  go_enter Tryd.func30, Tryd.ntmps30
  go_wp2
  go_loopw [1, 6] (fun kv uv wr => ∃ (i : Int) (v : Value) (u : List Nat), kv = .int .i64 i ∧ uv = v ∧ wayR ns e = (wayR ns i).map (· ++ u.reverse) ∧ (u = [] ∨ i.toNat + u.length ≤ ns.length) ∧ OwnI wr (W.heap.size + 1) v u ∧
    Below (W.heap.size + 1) (W.alloc (.cells #[av, .slice An ns.length cn, ev] 26)) wr) (fun kv _ _ => (intOf kv).toNat)
  case atStart => exact ⟨e, _, [], rfl, rfl, by simp, .inl rfl, World.ownsRow_nil _ _ _ _, Below.refl _ _⟩
  case round =>
    obtain ⟨i, v, u, rfl, rfl, hw, hul, hO, hb⟩ := hrel
    have hu2 : u.length ≤ ns.length := by
      rcases hul with rfl | h
      · simp
      · omega
    have hsz : W.heap.size + 1 ≤ wr.heap.size := by have := hb.size; simp at this; omega
    by_cases h0 : i = 0
    · subst h0
      rw [wayR_zero] at hw
      simp only [Option.map_some, List.nil_append] at hw
      obtain ⟨ua, uc, huf, -⟩ := hO.shp
      subst huf
      have HF := Lib.hid hw
      have HB := Lib.hid hb
      have HO := Lib.hid hO
      clear hw hul hO hb
      go_wp2
      obtain ⟨wo, rfl⟩ : ∃ wo : World, wo = wr := ⟨_, rfl⟩
      go_loopw [7, 8] (fun dv iv wr => ∃ (q : Nat) (d : Value), iv = .int .i64 ((q : Int) - 1) ∧ dv = d ∧ q ≤ u.length ∧ OwnI wr wo.heap.size d (u.reverse.take (u.length - q)) ∧ Below wo.heap.size wo wr) (fun _ iv _ => (intOf iv + 1).toNat)
      case atStart => exact ⟨u.length, _, by go_num, rfl, Nat.le_refl _, by rw [Nat.sub_self, List.take_zero]; exact World.ownsRow_nil _ _ _ _, Below.refl _ _⟩
      case round =>
        obtain ⟨q, d, rfl, rfl, hq, hO2, hb2⟩ := hrel
        match q, hq with
        | 0, _ =>
          rw [Nat.sub_zero, ← List.length_reverse, List.take_length] at hO2
          have HO2 := Lib.hid hO2
          have HB2 := Lib.hid hb2
          clear hO2 hb2
          go_wp2
          go_ret2
          refine ⟨(box_below HB.out).trans (HB2.out.mono (box_below HB.out).size), .inl ⟨_, _, HF.out, rfl, ?_, by simp; omega⟩⟩
          exact OwnI.base HO2.out (by omega)
        | q + 1, hq =>
          obtain ⟨x, hx⟩ : ∃ x, u[q]? = some x := ⟨_, List.getElem?_eq_getElem (by omega)⟩
          have hx2 : u.reverse[u.length - (q + 1)]? = some x := by
            rw [List.getElem?_reverse (by omega), show u.length - 1 - (u.length - (q + 1)) = q by omega]
            exact hx
          have HR := Lib.hid (show u.reverse.take (u.length - (q + 1)) ++ [x] = u.reverse.take (u.length - q) by
            rw [show u.length - q = (u.length - (q + 1)) + 1 by omega, List.take_add_one, hx2]
            rfl)
          have hU := HO.out.below hb2
          obtain ⟨g, rfl, hg, hcell⟩ := hU.elt hx
          have hsz3 := hb2.size
          have O1 := Lib.hid (ownI_one (w := wr) (base := wo.heap.size) (k := x) hsz3)
          have O2 := Lib.hid (hO2.below ((Below.refl _ _).alloc (Nat.le_refl _) (.cells #[.int .i64 x] 3)))
          have hgl : g < wr.heap.size := World.block_lt_of_cell? wr _ hcell
          have STEP := Lib.hid (show ∀ w', (wr.alloc (.cells #[.int .i64 (x : Int)] 3)).grownBy w' u7.ownBlock → Below wo.heap.size wo w' from fun w' hgr =>
            hb2.trans (((Turns.alloc (Turns.refl _ wr) (.cells #[.int .i64 (x : Int)] 3)).trans (Turns.of_grown hgr) (fun y hy => .inl hy)).below (by omega) (fun y hy => by
              simp only [Option.mem_toList] at hy
              exact (ownBlock_cells hO2 hy).1)))
          have hsz2 : wo.heap.size ≤ (wr.alloc (.cells #[.int .i64 (x : Int)] 3)).heap.size := by simp; omega
          have e4 : (0 : Int) ≤ (q : Int) := by omega
          have e5 : (q : Int) < (u.length : Int) := by omega
          have HQ := Lib.hid hq
          rw [show (((q + 1 : Nat) : Int) - 1) = (q : Int) by omega]
          clear hx hx2 hO2 hb2 hU hq
          go_wp2_with (at_builtin; refine wpList_append_I rfl (.tmp 47) (.tmp 52) rfl wo.heap.size wo.heap.size _ _ (u.reverse.take (u.length - (q + 1))) [x] rfl O2.out rfl O1.out (by simp; omega) hsz2 ?_; intro v' w' hw1 hw2; have HB2 := Lib.hid (STEP.out w' hw2); have HO3 := Lib.hid hw1; clear hw1 hw2)
          rw [HR.out] at HO3
          exact ⟨⟨q, v', by go_num, rfl, by have := HQ.out; omega, HO3.out, HB2.out⟩, by simp [intOf]⟩
    have y1 := box_cellL hb 1 rfl
    by_cases hlo : i < 0
    · have HF := Lib.hid (show wayR ns e = none by rw [hw, wayR_out (.inl hlo) h0]; rfl)
      have HB := Lib.hid hb
      have hne : (i != 0) = true := by simpa using h0
      clear hw hul hO hb h0
      go_wp2
      go_ret2
      exact ⟨box_below HB.out, .inr ⟨HF.out, rfl⟩⟩
    by_cases hhi : (ns.length : Int) ≤ i
    · have HF := Lib.hid (show wayR ns e = none by rw [hw, wayR_out (.inr hhi) h0]; rfl)
      have HB := Lib.hid hb
      have hne : (i != 0) = true := by simpa using h0
      clear hw hul hO hb h0
      go_wp2
      go_ret2
      exact ⟨box_below HB.out, .inr ⟨HF.out, rfl⟩⟩
    obtain ⟨q, rfl⟩ := Int.eq_ofNat_of_zero_le (show 0 ≤ i by omega)
    obtain ⟨n, hne⟩ : ∃ n, ns[q]? = some n := ⟨_, List.getElem?_eq_getElem (by omega)⟩
    obtain ⟨b, off, rfl, -, hbl, cs, ⟨lv, mv, hE⟩, hc⟩ := HN.out.at hne
    have hcs := hE.cells
    subst hcs
    have d1 := ((box_below hb).cell (p := ⟨b, off + q * 11 + 1, none⟩) hbl).trans (hc 1 _ rfl)
    have e0 : ((q : Int) != 0) = true := by simpa using h0
    have e2 : (0 : Int) ≤ (q : Int) := by omega
    have e3 : (q : Int) < (ns.length : Int) := by omega
    have hq0 : 0 < q := by omega
    by_cases hp : (q : Int) ≤ n.parent
    · have HF := Lib.hid (show wayR ns e = none by rw [hw, wayR_bad (by omega) (by rw [Int.toNat_natCast]; exact hne) hp]; rfl)
      have HB := Lib.hid hb
      clear hw hul hO hb h0 hc hE hne
      go_wp2
      go_ret2
      exact ⟨box_below HB.out, .inr ⟨HF.out, rfl⟩⟩
    · have hp2 : n.parent < (q : Int) := by omega
      have HWY := Lib.hid (show wayR ns e = (wayR ns n.parent).map (· ++ (u ++ [q]).reverse) by
        rw [hw, wayR_step (by omega) (by rw [Int.toNat_natCast]; exact hne) hp2, Int.toNat_natCast]
        cases wayR ns n.parent with
        | none => rfl
        | some l => simp)
      have HLN := Lib.hid (show u ++ [q] = [] ∨ n.parent.toNat + (u ++ [q]).length ≤ ns.length from .inr (by
        rw [List.length_append]
        simp only [List.length_singleton]
        rcases hul with rfl | h
        · simp; omega
        · simp at h; omega))
      have O1 := Lib.hid (ownI_one (w := wr) (base := W.heap.size + 1) (k := q) hsz)
      have O2 := Lib.hid (hO.below ((Below.refl _ _).alloc (Nat.le_refl _) (.cells #[.int .i64 q] 3)))
      have HB := Lib.hid hb
      have HC := Lib.hid (fun w' (hw' : Below W.heap.size W w') => (hw'.cell (p := ⟨b, off + q * 11 + 1, none⟩) hbl).trans (hc 1 _ rfl))
      have STEP := Lib.hid (show ∀ w', (wr.alloc (.cells #[.int .i64 (q : Int)] 3)).grownBy w' u6.ownBlock → Below (W.heap.size + 1) (W.alloc (.cells #[av, .slice (some ⟨b, off, none⟩) ns.length cn, ev] 26)) w' from fun w' hgr =>
        HB.out.trans (((Turns.alloc (Turns.refl _ wr) (.cells #[.int .i64 (q : Int)] 3)).trans (Turns.of_grown hgr) (fun x hx => .inl hx)).below (by omega) (fun x hx => by
          simp only [Option.mem_toList] at hx
          exact (ownBlock_cells hO hx).1)))
      have hsz2 : W.heap.size + 1 ≤ (wr.alloc (.cells #[.int .i64 (q : Int)] 3)).heap.size := by simp; omega
      have hp3 : ¬ (q : Int) ≤ n.parent := hp
      clear hw hul hO hb h0 hc hE hne hp
      go_wp2_with (at_builtin; refine wpList_append_I rfl (.tmp 30) (.tmp 32) rfl (W.heap.size + 1) (W.heap.size + 1) _ _ u [q] rfl O2.out rfl O1.out (by simp; omega) hsz2 ?_; intro v' w' hw1 hw2; have HB2 := Lib.hid (STEP.out w' hw2); have HO2 := Lib.hid hw1; have d3 := box_cellL HB2.out 1 rfl; have d4 := HC.out w' (box_below HB2.out); clear hw1 hw2)
      exact ⟨⟨n.parent, v', u ++ [q], rfl, rfl, HWY.out, HLN.out, HO2.out, HB2.out⟩, by simp [intOf]; omega⟩
end Go.Proofs.YtonkbjdeaneicaaDoor

namespace Go.Proofs.YtonkbjdeaneicaaDoor.Pln
open Classical
theorem linkOf_at {i : Int} : ∀ {ls : List (Int × Int)} {k : Nat} {x : Int × Int}, ls[k]? = some x → (∀ j, j < k → ∀ y, ls[j]? = some y → y.1 ≠ i) → x.1 = i → linkOf ls i = some x.2
  | [], k, x, h, _, _ => by simp at h
  | a :: r, 0, x, h, _, hx => by
    simp only [List.getElem?_cons_zero, Option.some.injEq] at h
    subst h
    unfold linkOf
    rw [if_pos hx]
  | a :: r, k + 1, x, h, hf, hx => by
    unfold linkOf
    rw [if_neg (hf 0 (by omega) a rfl)]
    exact linkOf_at (by simpa using h) (fun j hj y hy => hf (j + 1) (by omega) y (by simpa using hy)) hx
theorem linkOf_no {i : Int} : ∀ {ls : List (Int × Int)}, (∀ j, j < ls.length → ∀ y, ls[j]? = some y → y.1 ≠ i) → linkOf ls i = none
  | [], _ => rfl
  | a :: r, hf => by
    unfold linkOf
    rw [if_neg (hf 0 (by simp) a rfl)]
    exact linkOf_no (fun j hj y hy => hf (j + 1) (by simp only [List.length_cons]; omega) y (by simpa using hy))
end Go.Proofs.YtonkbjdeaneicaaDoor.Pln
namespace Go.Proofs.YtonkbjdeaneicaaDoor
open Go.RowKit Pln Classical Go.Maps

set_option maxRecDepth 100000 in
set_option maxHeartbeats 4000000 in
theorem rheldW {F G : Nat → Prop} (n : Nd) (lv mv : Value) (W : World) (hl : RSl F W 2 ELnk lv n.links) (hm : RSl G W 1 EInt mv n.new) (i w : Int) (hw : 0 ≤ w ∧ w ≤ 2305843009213693952) (hn : n.new.length ≤ 1048576) :
    Calls Tryd.prog 87 #[.agg #[.int .i64 n.kind, .int .i64 n.parent, .int .i64 n.alpha, lv, mv, .int .i64 n.test.op, .bool n.test.l.v, .int .i64 n.test.l.n, .bool n.test.r.v, .int .i64 n.test.r.n, .int .i64 n.width], .int .i64 i, .int .i64 w] W
      fun e W' => e = .returned (.int .i64 (heldF n.links n.new w i)) ∧ Below W.heap.size W W' := by
  obtain ⟨A, ca, rfl⟩ := hl.form
  obtain ⟨B, cb, rfl⟩ := hm.form
  have l1 := hl.len
  have l2 := hm.len
  unfold maxLen at l1 l2
  have HL := Lib.hid hl
  have HM := Lib.hid hm
  clear hl hm
  obtain ⟨R, hR⟩ : ∃ R, heldF n.links n.new w i = R := ⟨_, rfl⟩
  rw [hR]
  have HR := Lib.hid hR
  clear hR
  go_enter Tryd.func87, Tryd.ntmps87
  go_wp2
  go_loopw [7] (fun iv wr => ∃ k : Nat, iv = .int .i64 k ∧ k ≤ n.links.length ∧ (∀ j, j < k → ∀ y, n.links[j]? = some y → y.1 ≠ i) ∧ Below (W.heap.size + 1) (W.alloc (.cells #[.int .i64 n.kind, .int .i64 n.parent, .int .i64 n.alpha, .slice A n.links.length ca, .slice B n.new.length cb, .int .i64 n.test.op, .bool n.test.l.v, .int .i64 n.test.l.n, .bool n.test.r.v, .int .i64 n.test.r.n, .int .i64 n.width] 40)) wr) (fun iv _ => n.links.length - (intOf iv).toNat)
  case atStart => exact ⟨0, rfl, Nat.zero_le _, fun j h => by omega, Below.refl _ _⟩
  case round =>
    obtain ⟨k, rfl, hk, hq, hb⟩ := hrel
    have y3 := box_cellL hb 3 rfl
    have y4 := box_cellL hb 4 rfl
    by_cases hkn : k < n.links.length
    · obtain ⟨x, hx⟩ : ∃ x, n.links[k]? = some x := ⟨_, List.getElem?_eq_getElem hkn⟩
      obtain ⟨b, o, rfl, -, hbl, cs, ⟨rfl, -⟩, hc⟩ := RSl.at HL.out hx
      have d0 := ((box_below hb).cell (p := ⟨b, o + k * 2 + 0, none⟩) hbl).trans (hc 0 _ rfl)
      have d1 := ((box_below hb).cell (p := ⟨b, o + k * 2 + 1, none⟩) hbl).trans (hc 1 _ rfl)
      simp only [Nat.add_zero] at d0
      have e1 : (0 : Int) ≤ (k : Int) := by omega
      have e2 : (k : Int) < (n.links.length : Int) := by omega
      have HB := Lib.hid hb
      have HK := Lib.hid hkn
      by_cases hxi : x.1 = i
      · have HF := Lib.hid (show R = x.2 by rw [← HR.out]; unfold heldF; rw [linkOf_at hx hq hxi])
        have hxb : (x.1 == i) = true := by simpa using hxi
        clear hc hx hb hq hkn hxi
        go_wp2
        go_ret
        exact ⟨by rw [HF.out]; rfl, box_below HB.out⟩
      · have HQ2 := Lib.hid (show ∀ j, j < k + 1 → ∀ y, n.links[j]? = some y → y.1 ≠ i from fun j hj y hy => by
          rcases Nat.lt_or_ge j k with h1 | h1
          · exact hq j h1 y hy
          · rw [show j = k by omega, hx] at hy
            rw [← Option.some.inj hy]
            exact hxi)
        have hxb : (x.1 == i) = false := by simpa using hxi
        clear hc hx hb hq hkn hxi
        go_wp2
        exact ⟨⟨k + 1, by go_num, HK.out, HQ2.out, HB.out⟩, by simp [intOf]; have := HK.out; omega⟩
    · obtain rfl : k = n.links.length := by omega
      have HN := Lib.hid (linkOf_no hq)
      have HB := Lib.hid hb
      clear hq hb hkn
      go_wp2
      clear y3 y4
      go_loopw [8] (fun iv wr => ∃ k : Nat, iv = .int .i64 k ∧ k ≤ n.new.length ∧ (∀ j, j < k → n.new[j]? ≠ some i) ∧ Below (W.heap.size + 1) (W.alloc (.cells #[.int .i64 n.kind, .int .i64 n.parent, .int .i64 n.alpha, .slice A n.links.length ca, .slice B n.new.length cb, .int .i64 n.test.op, .bool n.test.l.v, .int .i64 n.test.l.n, .bool n.test.r.v, .int .i64 n.test.r.n, .int .i64 n.width] 40)) wr) (fun iv _ => n.new.length - (intOf iv).toNat)
      case atStart => exact ⟨0, rfl, Nat.zero_le _, fun j h => by omega, HB.out⟩
      case round =>
        clear HB
        obtain ⟨k, rfl, hk, hq, hb⟩ := hrel
        have y4 := box_cellL hb 4 rfl
        by_cases hkn : k < n.new.length
        · obtain ⟨x, hx⟩ : ∃ x, n.new[k]? = some x := ⟨_, List.getElem?_eq_getElem hkn⟩
          obtain ⟨b, o, rfl, -, hbl, cs, ⟨rfl, -⟩, hc⟩ := RSl.at HM.out hx
          have d0 := ((box_below hb).cell (p := ⟨b, o + k * 1 + 0, none⟩) hbl).trans (hc 0 _ rfl)
          simp only [Nat.add_zero, Nat.mul_one] at d0
          have e1 : (0 : Int) ≤ (k : Int) := by omega
          have e2 : (k : Int) < (n.new.length : Int) := by omega
          have e4 : -9223372036854775808 ≤ w + (k : Int) ∧ w + (k : Int) ≤ 9223372036854775807 := by omega
          have HB := Lib.hid hb
          have HK := Lib.hid hkn
          by_cases hxi : x = i
          · subst hxi
            have HF := Lib.hid (show R = w + (k : Int) by
              rw [← HR.out]
              unfold heldF
              rw [HN.out]
              simp only
              rw [if_pos (List.mem_of_getElem? hx), placeF_at hx hq])
            have hxb : (x == x) = true := by simp
            clear hc hx hb hq hkn
            go_wp2
            go_ret
            exact ⟨ret_i64 (by rw [HF.out]), box_below HB.out⟩
          · have HQ2 := Lib.hid (show ∀ j, j < k + 1 → n.new[j]? ≠ some i from fun j hj => by
              rcases Nat.lt_or_ge j k with h1 | h1
              · exact hq j h1
              · rw [show j = k by omega, hx]
                exact fun e => hxi (Option.some.inj e))
            have hxb : (x == i) = false := by simpa using hxi
            clear hc hx hb hq hkn hxi
            go_wp2
            exact ⟨⟨k + 1, by go_num, HK.out, HQ2.out, HB.out⟩, by simp [intOf]; have := HK.out; omega⟩
        · obtain rfl : k = n.new.length := by omega
          have HF := Lib.hid (show R = -1 by
            rw [← HR.out]
            unfold heldF
            rw [HN.out]
            simp only
            rw [if_neg (fun hm => by
              obtain ⟨j, hj⟩ := List.getElem?_of_mem hm
              exact hq j (List.getElem?_eq_some_iff.1 hj).1 hj)])
          have HB := Lib.hid hb
          clear hq hb hkn
          go_wp2
          go_ret
          exact ⟨by rw [HF.out]; rfl, box_below HB.out⟩
end Go.Proofs.YtonkbjdeaneicaaDoor
