/- `down`: the way to a node. `samePattern`; ways as the plain law has them, read off by `down`. `==` at two tests. -/
import Derived.Test.YtonkbjdeaneicaaKpo09
import Derived.Test.YtonkbjdeaneicaaKpo14
import Derived.Test.YtonkbjdeaneicaaKpo24
import Derived.Laws.AppendOwnNone
namespace Go.Proofs.Ytonkbjdeaneicaa
open Go.RowKit Pln Classical Go.Maps


theorem down_step {W wr w' : World} {A1 A3 : Option Addr} {nb no al c1 c2 c3 : Nat} {st : St} {es : List Nat} {u q : Nat} {ys : List Nat} {v' : Value} {n : Nd}
    (hb : Below (W.heap.size + 1) (W.alloc (.cells #[.slice A3 al c3, .slice (some ⟨nb, no, none⟩) st.ns.length c2, .slice A1 es.length c1] 27)) wr) (ho : OwnI w' W.heap.size v' ys)
    (hg : (wr.alloc (.cells #[.int .i64 u] 3)).grownBy w' (some wr.heap.size)) (hP : RPlan (fun b => b < W.heap.size) W (.slice A3 al c3) (.slice (some ⟨nb, no, none⟩) st.ns.length c2) (.slice A1 es.length c1) st es)
    (hn : st.ns[u]? = some n) (hpar : n.parent = (q : Int)) :
    Hid (Below (W.heap.size + 1) (W.alloc (.cells #[.slice A3 al c3, .slice (some ⟨nb, no, none⟩) st.ns.length c2, .slice A1 es.length c1] 27)) w') ∧ Hid (OwnI w' W.heap.size v' ys) ∧
    w'.cell? ⟨W.heap.size, 1, none⟩ = some (.slice (some ⟨nb, no, none⟩) st.ns.length c2) ∧ w'.cell? ⟨nb, no + u * 11 + 1, none⟩ = some (.int .i64 q) := by
  have h1 := box_step hb (((Below.refl wr.heap.size wr).alloc (Nat.le_refl _) (.cells #[.int .i64 u] 3)).trans ((Turns.of_grown hg).below (by simp) (fun x hx => by simp at hx; omega)))
  have hp := (hP.kp (F' := fun b => b < W.heap.size) (Kp.of_below (box_below h1)) (fun _ _ h => h)).ns
  obtain ⟨b, off, hA, _, _, cs, ⟨lv, nv, hE⟩, hc⟩ := RSl.at hp hn
  simp only [Option.some.injEq, Addr.mk.injEq, and_true] at hA
  obtain ⟨rfl, rfl⟩ := hA
  have hcs := hE.cells
  subst hcs
  have c1 := hc 1 _ rfl
  rw [hpar] at c1
  exact ⟨Lib.hid h1, Lib.hid ho, box_cell h1 1 _ rfl, c1⟩

set_option maxRecDepth 200000 in
set_option maxHeartbeats 4000000 in
theorem downW {F : Nat → Prop} (W : World) (av nv ev : Value) (st : St) (es : List Nat) (h : RPlan F W av nv ev st es) (hnl : 0 < st.ns.length) (l : List Nat) (k : Nat) (hk : (0 :: l).getD l.length 0 = k) (hl : Up st l) (hn : l.length ≤ 1000000) :
    Calls Try.prog 16 #[.agg #[av, nv, ev], .int .i64 (k : Int)] W fun e W' => ∃ v, e = .returned v ∧ OwnI W' W.heap.size v l ∧ Below W.heap.size W W' := by
  have hP := Lib.hid (h.kp (F' := fun b => b < W.heap.size) (Kp.refl _ _) (fun b hb _ => hb))
  obtain ⟨A3, C3, rfl⟩ := h.al.form
  obtain ⟨nb, no, C2, rfl, _, _, _⟩ := RSl.base h.ns hnl
  obtain ⟨A1, C1, rfl⟩ := h.en.form
  have HK := Lib.hid hk
  clear hk hnl
  have hel : (es.map fun (e : Nat) => (e : Int)).length = es.length := by simp
  rw [hel] at hP ⊢
  clear hel
  have HL := Lib.hid hl
  clear h hl
  go_enter Try.func16, Try.ntmps16
  go_wp2
  go_loopw [5, 6] (fun lv kv wr => ∃ (i : Nat) (v : Value), kv = .int .i64 (((0 :: l).getD i 0 : Nat) : Int) ∧ lv = v ∧ i ≤ l.length ∧ OwnI wr W.heap.size v (l.drop i) ∧
    Below (W.heap.size + 1) (W.alloc (.cells #[.slice A3 st.al.length C3, .slice (some ⟨nb, no, none⟩) st.ns.length C2, .slice A1 es.length C1] 27)) wr) (fun _ kv _ => (intOf kv).toNat)
  case atStart => exact ⟨l.length, _, by rw [HK.out], rfl, Nat.le_refl _, by rw [List.drop_length]; exact World.ownsRow_nil _ _ _ _, Below.refl _ _⟩
  case round =>
    obtain ⟨i, v, rfl, rfl, hi, hO, hb⟩ := hrel
    have bw := box_below hb
    match i, hi with
    | 0, _ =>
      have HO := Lib.hid hO
      have HB := Lib.hid hb
      clear hO hb
      simp only [List.getD_cons_zero]
      go_wp2
      go_ret
      exact ⟨_, rfl, HO.out, box_below HB.out⟩
    | j + 1, hi =>
      obtain ⟨u, hu⟩ : ∃ u, l[j]? = some u := ⟨_, List.getElem?_eq_getElem hi⟩
      obtain ⟨hu0, hlt, n, hn, hpar⟩ := HL.out j u hu
      have hg : (0 :: l).getD (j + 1) 0 = u := by simp [List.getD, hu]
      obtain ⟨q, hq⟩ : ∃ q, (0 :: l).getD j 0 = q := ⟨_, rfl⟩
      rw [hq] at hpar hlt
      have hdrop : [u] ++ l.drop (j + 1) = l.drop j := by
        rw [List.drop_eq_getElem_cons hi]
        rw [List.getElem?_eq_getElem hi] at hu
        injection hu with hu
        rw [hu]
        rfl
      rw [hg]
      have hsz : W.heap.size ≤ wr.heap.size := bw.size
      have O1 := Lib.hid (ownI_one (w := wr) (base := W.heap.size) (k := u) hsz)
      have O2 := Lib.hid (hO.below ((Below.refl _ _).alloc (Nat.le_refl _) (.cells #[.int .i64 u] 3)))
      have HR := Lib.hid (And.intro hdrop (And.intro hq (And.intro hi hlt)))
      have hul : u < st.ns.length := (List.getElem?_eq_some_iff.1 hn).1
      have HB := Lib.hid hb
      have HN := Lib.hid (And.intro hn hpar)
      have e1 : (0 : Int) < (u : Int) := by omega
      have e2 : (0 : Int) ≤ (u : Int) := by omega
      have e3 : (u : Int) < (st.ns.length : Int) := by omega
      have hsz2 : W.heap.size ≤ (wr.alloc (.cells #[.int .i64 (u : Int)] 3)).heap.size := by simp; omega
      clear hO hb bw hu hlt hn hpar hg hq hdrop
      go_wp2_with (at_builtin; refine wpList_append_I rfl (.tmp 17) (.tmp 18) rfl W.heap.size W.heap.size _ _ [u] (l.drop (j + 1)) rfl O1.out rfl O2.out (by simp; omega) hsz2 ?_; intro v' w' hw1 hw2; obtain ⟨HB2, HO2, d3, d4⟩ := down_step HB.out hw1 hw2 hP.out HN.out.1 HN.out.2; clear hw1 hw2)
      rw [HR.out.1] at HO2
      refine ⟨⟨j, v', by rw [HR.out.2.1], rfl, by have := HR.out.2.2.1; omega, HO2.out, HB2.out⟩, by have := HR.out.2.2.2; simp [intOf]; omega⟩
end Go.Proofs.Ytonkbjdeaneicaa

namespace Go.Proofs.Ytonkbjdeaneicaa
open Go.RowKit Pln Classical Go.Maps

theorem pat_eq (a b : Pat) (h : a.pred = b.pred) : decide (a = b) = eqB a.args b.args := by
  cases a; cases b
  simp only at h
  subst h
  simp [eqB]
set_option maxRecDepth 100000 in
theorem samePatternW {F G : Nat → Prop} (a b : Pat) (va vb : Value) (w : World) (ha : RSl F w 2 ESlt va a.args) (hb : RSl G w 2 ESlt vb b.args) :
    Calls Try.prog 38 #[.agg #[.int .i64 a.pred, va], .agg #[.int .i64 b.pred, vb]] w fun e w' => e = .returned (.bool (decide (a = b))) ∧ Below w.heap.size w w' := by
  have C := Lib.hid (fun w' (h : Below w.heap.size w w') => equalSlotsW va vb a.args b.args w' (ha.kp (F' := F) (Kp.of_below h) (fun _ _ h => h) (fun _ _ h => h)) (hb.kp (F' := G) (Kp.of_below h) (fun _ _ h => h) (fun _ _ h => h)))
  obtain ⟨A, ca, rfl⟩ := ha.form
  obtain ⟨B, cb, rfl⟩ := hb.form
  clear ha hb
  go_enter Try.func38, Try.ntmps38
  by_cases hp : a.pred = b.pred
  · have hd := Lib.hid (pat_eq a b hp)
    rw [hd.out]
    rw [hp]
    go_wp2_with fail
    refine (C.out _ (((Below.refl _ _).alloc (Nat.le_refl _) _).alloc (by simp) _)).mono ?_
    rintro e w2 ⟨rfl, hb2⟩
    have HB2 := Lib.hid hb2
    clear hb2
    go_wp2
    go_ret
    exact ⟨rfl, (((Below.refl _ _).alloc (Nat.le_refl _) _).alloc (by simp) _).trans (HB2.out.mono (by simp; omega))⟩
  · have hd : decide (a = b) = false := by
      simp only [decide_eq_false_iff_not]
      intro h
      exact hp (by rw [h])
    rw [hd]
    have hq : (a.pred == b.pred) = false := by simpa using hp
    have hq2 : decide (a.pred = b.pred) = false := by simpa using hp
    clear hd
    go_wp2
    go_ret
    exact ⟨rfl, ((Below.refl _ _).alloc (Nat.le_refl _) _).alloc (by simp) _⟩

theorem nodeC_parent (st : St) (u : Nat) (c : Cnd) : (nodeC st u c).parent = (u : Int) := by
  unfold nodeC
  split <;> rfl
theorem up_way {st : St} (hwf : Wf st) {cs : List Cnd} (h : Stands st 0 cs) (hc : ∀ c ∈ cs, ok3 c) : Up st (wayF st 0 cs) := by
  intro i u hu
  obtain ⟨c, h1, h2, h3, h4⟩ := way_at hwf cs 0 h hc i u hu
  exact ⟨by omega, h4, _, h3, nodeC_parent _ _ _⟩
theorem way_last {st : St} {cs : List Cnd} : (0 :: wayF st 0 cs).getD (wayF st 0 cs).length 0 = (wayF st 0 cs).getLast?.getD 0 := by
  generalize wayF st 0 cs = l
  rcases List.eq_nil_or_concat l with rfl | ⟨m, x, rfl⟩
  · rfl
  · simp [List.getD]

/-- The first places at which two rules' conditions part, told list by list. -/
theorem lcp_same {α : Type} : ∀ (x : List α), lcp x x = x.length
  | [] => rfl
  | a :: l => by simp [lcp, lcp_same l]
theorem lcp_full {α : Type} : ∀ (x y : List α), lcp x y = x.length → lcp x y = y.length → x = y
  | [], [], _, _ => rfl
  | [], _ :: _, _, h => by simp [lcp] at h
  | _ :: _, [], h, _ => by simp [lcp] at h
  | a :: l, b :: r, h1, h2 => by
    unfold lcp at h1 h2
    split at h1
    · rename_i hab
      rw [if_pos hab] at h2
      simp at h1 h2
      rw [hab, lcp_full l r h1 h2]
    · simp at h1
theorem lcp_map {α β : Type} (f : α → β) (hf : ∀ a b, f a = f b → a = b) : ∀ (x y : List α), lcp (x.map f) (y.map f) = lcp x y
  | [], _ => by simp [lcp]
  | _ :: _, [] => by simp [lcp]
  | a :: l, b :: r => by
    simp only [List.map_cons, lcp]
    by_cases h : a = b
    · rw [if_pos h, if_pos (by rw [h]), lcp_map f hf l r]
    · rw [if_neg h, if_neg (fun e => h (hf _ _ e))]
theorem lcp_nil {α : Type} (y : List α) : lcp [] y = 0 := by simp [lcp]
theorem lcp_nil' {α : Type} (y : List α) : lcp y [] = 0 := by cases y <;> simp [lcp]
theorem lcp_app {α : Type} : ∀ (x x' y y' : List α), (∀ u ∈ y, ∀ v ∈ x', u ≠ v) → (∀ u ∈ y', ∀ v ∈ x, u ≠ v) → lcp (x ++ y) (x' ++ y') = lcp x x' + if x = x' then lcp y y' else 0
  | [], [], y, y', _, _ => by simp [lcp_nil]
  | [], b :: r, y, y', h1, _ => by
    rw [if_neg (by simp), lcp_nil]
    cases y with
    | nil => simp [lcp_nil]
    | cons c m => simp [lcp, h1 c (by simp) b (by simp)]
  | a :: l, [], y, y', _, h2 => by
    rw [if_neg (by simp), lcp_nil']
    cases y' with
    | nil => simp [lcp_nil']
    | cons c m => simp [lcp, Ne.symm (h2 c (by simp) a (by simp))]
  | a :: l, b :: r, y, y', h1, h2 => by
    simp only [List.cons_append, lcp]
    by_cases h : a = b
    · rw [if_pos h, if_pos h, lcp_app l r y y' (fun u hu v hv => h1 u hu v (by simp [hv])) (fun u hu v hv => h2 u hu v (by simp [hv]))]
      by_cases hl : l = r
      · rw [if_pos hl, if_pos (by rw [h, hl])]; omega
      · rw [if_neg hl, if_neg (by simp [hl])]
    · rw [if_neg h, if_neg h, if_neg (by simp [h])]
/-- How many conditions two rules have in common from the top. -/
theorem lcp_conds (a b : Rl) : lcp (conds a) (conds b) = lcp a.pos b.pos + if a.pos = b.pos then (lcp a.tests b.tests + if a.tests = b.tests then lcp a.neg b.neg else 0) else 0 := by
  unfold conds
  rw [List.append_assoc, List.append_assoc, lcp_app, lcp_app, lcp_map _ (by simp), lcp_map _ (by simp), lcp_map _ (by simp)]
  · congr 1
    have e1 : (a.pos.map (fun p => (⟨1, p, noTst⟩ : Cnd)) = b.pos.map (fun p => (⟨1, p, noTst⟩ : Cnd))) = (a.pos = b.pos) := by
      apply propext
      exact ⟨fun h => (List.map_inj_right (fun x y h => by simpa using h)).1 h, fun h => by rw [h]⟩
    have e2 : (a.tests.map (fun p => (⟨2, noPat, p⟩ : Cnd)) = b.tests.map (fun p => (⟨2, noPat, p⟩ : Cnd))) = (a.tests = b.tests) := by
      apply propext
      exact ⟨fun h => (List.map_inj_right (fun x y h => by simpa using h)).1 h, fun h => by rw [h]⟩
    simp only [e1, e2]
  all_goals
    intro u hu v hv h
    simp at hu hv
    grind
end Go.Proofs.Ytonkbjdeaneicaa

namespace Go.Proofs.Ytonkbjdeaneicaa
open Go.RowKit Pln Classical Go.Maps

set_option maxRecDepth 100000 in
set_option maxHeartbeats 4000000 in
theorem eql_tst (a b : Tst) (w : World) : (binOp .eql 52 (.agg #[.int .i64 a.op, .bool a.l.v, .int .i64 a.l.n, .bool a.r.v, .int .i64 a.r.n]) (.agg #[.int .i64 b.op, .bool b.l.v, .int .i64 b.l.n, .bool b.r.v, .int .i64 b.r.n])).run Try.prog w = .ok (.bool (decide (a = b))) w := by
  obtain ⟨ao, ⟨alv, aln⟩, ⟨arv, arn⟩⟩ := a
  obtain ⟨bo, ⟨blv, bln⟩, ⟨brv, brn⟩⟩ := b
  rw [show decide ((⟨ao, ⟨alv, aln⟩, ⟨arv, arn⟩⟩ : Tst) = ⟨bo, ⟨blv, bln⟩, ⟨brv, brn⟩⟩) = decide (ao = bo ∧ (alv = blv ∧ aln = bln) ∧ (arv = brv ∧ arn = brn)) from by simp only [Tst.mk.injEq, Slt.mk.injEq]]
  by_cases h1 : ao = bo
  · by_cases h0 : alv = blv
    · by_cases h2 : aln = bln
      · by_cases h4 : arv = brv
        · by_cases h3 : arn = brn
          · simp [go_sem, h0, h1, h2, h3, h4]
          · simp [go_sem, h0, h1, h2, h3, h4]
        · simp [go_sem, h0, h1, h2, h4]
      · simp [go_sem, h0, h1, h2]
    · simp [go_sem, h0, h1]
  · simp [go_sem, h1]
end Go.Proofs.Ytonkbjdeaneicaa
