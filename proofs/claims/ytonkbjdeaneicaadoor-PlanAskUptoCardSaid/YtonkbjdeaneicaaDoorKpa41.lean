/- PlanAsk: Chain, Kids and Text of any plan. Printed by wip/bin/askp.py. -/
import Derived.Test.YtonkbjdeaneicaaDoorKpa30
import Derived.Test.YtonkbjdeaneicaaDoorKpa31
import Derived.Test.YtonkbjdeaneicaaDoorKpa36
import Derived.Test.YtonkbjdeaneicaaDoorKpa37
import Derived.Test.YtonkbjdeaneicaaDoorKpa38
import Derived.Test.YtonkbjdeaneicaaDoorKpa40
namespace Go.Proofs.YtonkbjdeaneicaaDoor
open Go.RowKit Pln Classical Go.Maps

def chOK (al : List Shp) (ns : List Nd) (es : List Int) (k : Int) : Prop := checkP al ns es ∧ 0 ≤ k ∧ k < (es.length : Int)
def kdOK (al : List Shp) (ns : List Nd) (es : List Int) (k : Int) : Prop := checkP al ns es ∧ 0 ≤ k ∧ k < (ns.length : Int)
/-- What Chain and Kids answer. -/
noncomputable def chL (al : List Shp) (ns : List Nd) (es : List Int) (k : Int) : List Nat := if chOK al ns es k then wayN ns (es.getD k.toNat 0).toNat else []
noncomputable def chE (al : List Shp) (ns : List Nd) (es : List Int) (k : Int) : Int := if chOK al ns es k then 0 else 2
noncomputable def kdL (al : List Shp) (ns : List Nd) (es : List Int) (k : Int) : List Nat := if kdOK al ns es k then kidsK ns k ns.length else []
noncomputable def kdE (al : List Shp) (ns : List Nd) (es : List Int) (k : Int) : Int := if kdOK al ns es k then 0 else 2
/-- A list of the call's own, its block from lo on and below hi. -/
structure Hld (lo hi : Nat) (w : World) (v : Value) (l : List Nat) : Prop where
  own : OwnI w lo v l
  hi : ∀ b, v.ownBlock = some b → b < hi
theorem Hld.step {lo hi : Nat} {w w' : World} {v : Value} {l : List Nat} (h : Hld lo hi w v l) (hb : Below w.heap.size w w') : Hld lo hi w' v l := ⟨h.own.below hb, h.hi⟩
theorem Hld.lo {lo hi : Nat} {w : World} {v : Value} {l : List Nat} (h : Hld lo hi w v l) {b : Nat} (hb : v.ownBlock = some b) : lo ≤ b := (ownBlock_cells h.own hb).1
theorem hld_of {lo : Nat} {w : World} {v : Value} {l : List Nat} (h : OwnI w lo v l) : Hld lo w.heap.size w v l := ⟨h, fun _ hb => (ownBlock_cells h hb).2.1⟩
theorem ownI_nil (w : World) (base : Nat) : OwnI w base (.slice none 0 0) [] := World.ownsRow_nil _ _ _ _
theorem chain_u {W W' : World} {al : List Shp} {ns : List Nd} {es : List Int} {k : Int} {e : Ending} (h : ChainRes W al ns es k e W') : ∃ v, e = .returned (.tuple #[v, .int .i64 (chE al ns es k)]) ∧ Hld W.heap.size W'.heap.size W' v (chL al ns es k) ∧ Below W.heap.size W W' := by
  obtain ⟨hb, ⟨hno, rfl⟩ | ⟨hc, q, x, v, rfl, hx, rfl, hO⟩⟩ := h
  · unfold chE chL
    rw [if_neg (show ¬ chOK al ns es k from hno), if_neg (show ¬ chOK al ns es k from hno)]
    exact ⟨_, rfl, hld_of (ownI_nil _ _), hb⟩
  · have hk : chOK al ns es (q : Int) := ⟨hc, by omega, by have := (List.getElem?_eq_some_iff.1 hx).1; omega⟩
    unfold chE chL
    rw [if_pos hk, if_pos hk, Int.toNat_natCast, List.getD_eq_getElem?_getD, hx]
    exact ⟨v, rfl, hld_of hO, hb⟩
theorem kids_u {W W' : World} {al : List Shp} {ns : List Nd} {es : List Int} {k : Int} {e : Ending} (h : KidsRes W al ns es k e W') : ∃ v, e = .returned (.tuple #[v, .int .i64 (kdE al ns es k)]) ∧ Hld W.heap.size W'.heap.size W' v (kdL al ns es k) ∧ Below W.heap.size W W' := by
  obtain ⟨hb, ⟨hno, rfl⟩ | ⟨hc, h0, h1, v, rfl, hO⟩⟩ := h
  · unfold kdE kdL
    rw [if_neg (show ¬ kdOK al ns es k from hno), if_neg (show ¬ kdOK al ns es k from hno)]
    exact ⟨_, rfl, hld_of (ownI_nil _ _), hb⟩
  · have hk : kdOK al ns es k := ⟨hc, h0, h1⟩
    unfold kdE kdL
    rw [if_pos hk, if_pos hk]
    exact ⟨v, rfl, hld_of hO, hb⟩
theorem chL_lt {al : List Shp} {ns : List Nd} {es : List Int} {k : Int} : (∀ u ∈ chL al ns es k, u < ns.length) ∧ (chL al ns es k).length ≤ 16 := by
  unfold chL
  split
  · rename_i h
    have hx : es.getD k.toNat 0 ∈ es := by
      have hlt : k.toNat < es.length := by have := h.2.1; have := h.2.2; omega
      rw [List.getD_eq_getElem?_getD, List.getElem?_eq_getElem hlt]
      exact List.getElem_mem hlt
    obtain ⟨x1, x2⟩ := ends_range h.1.2.2 _ hx
    obtain ⟨h1, _, _⟩ := wayN_up (nodesP_par h.1.2.1) al (e := (es.getD k.toNat 0).toNat) (by omega)
    refine ⟨fun u hu => ?_, way_short h.1.2.1 (by omega)⟩
    obtain ⟨i, hi⟩ := List.getElem?_of_mem hu
    obtain ⟨_, _, n, hn, _⟩ := h1 i u hi
    exact (List.getElem?_eq_some_iff.1 hn).1
  · exact ⟨by simp, by simp⟩
theorem kdL_lt {al : List Shp} {ns : List Nd} {es : List Int} {k : Int} : (∀ u ∈ kdL al ns es k, u < ns.length) ∧ (kdL al ns es k).length ≤ ns.length := by
  unfold kdL
  split
  · refine ⟨fun u hu => ?_, kidsK_le _ _ _⟩
    obtain ⟨i, hi⟩ := List.getElem?_of_mem hu
    exact (kids_at hi).1
  · exact ⟨by simp, by simp⟩
/-- equalInts at two lists of the call's own. -/
theorem eqOwn {w : World} {a b : Nat} {v v' : Value} {l : List Nat} (h : OwnI w a v l) (h' : OwnI w b v' l) (hl : ∀ u ∈ l, u < 1000000000) : Calls Tryd.prog 12 #[v, v'] w fun e w' => e = .returned (.bool true) ∧ Below w.heap.size w w' := by
  have := equalIntsW v v' _ _ w (h.rsl hl) (h'.rsl hl)
  rw [eqB_eq rfl] at this
  exact this

/-- The blocks that `full` turns. -/
def askS (N : Nat) (v1 v2 v3 v4 : Value) : List Nat := N :: (v1.ownBlock.toList ++ (v2.ownBlock.toList ++ (v3.ownBlock.toList ++ v4.ownBlock.toList)))
def askL (v1 v2 v3 v4 : Value) (l1 l2 l3 l4 : List Nat) : List Slo :=
  [⟨.slice none 0 0, true, 0, []⟩, ⟨v1, false, l1.length, natVs l1⟩, ⟨.slice none 0 0, true, 0, []⟩, ⟨v2, false, l2.length, natVs l2⟩, ⟨.slice none 0 0, true, 0, []⟩, ⟨v3, false, l3.length, natVs l3⟩, ⟨.slice none 0 0, true, 0, []⟩, ⟨v4, false, l4.length, natVs l4⟩]
theorem ask_cases {v1 v2 v3 v4 : Value} {l1 l2 l3 l4 : List Nat} {k : Nat} {s : Slo} (h : (askL v1 v2 v3 v4 l1 l2 l3 l4)[k]? = some s) :
    (k % 2 = 0 ∧ k < 8 ∧ s = ⟨.slice none 0 0, true, 0, []⟩) ∨ (k = 1 ∧ s = ⟨v1, false, l1.length, natVs l1⟩) ∨ (k = 3 ∧ s = ⟨v2, false, l2.length, natVs l2⟩) ∨ (k = 5 ∧ s = ⟨v3, false, l3.length, natVs l3⟩) ∨ (k = 7 ∧ s = ⟨v4, false, l4.length, natVs l4⟩) := by
  unfold askL at h
  match k, h with
  | 0, h => simp at h; exact .inl ⟨rfl, by omega, h.symm⟩
  | 1, h => simp at h; exact .inr (.inl ⟨rfl, h.symm⟩)
  | 2, h => simp at h; exact .inl ⟨rfl, by omega, h.symm⟩
  | 3, h => simp at h; exact .inr (.inr (.inl ⟨rfl, h.symm⟩))
  | 4, h => simp at h; exact .inl ⟨rfl, by omega, h.symm⟩
  | 5, h => simp at h; exact .inr (.inr (.inr (.inl ⟨rfl, h.symm⟩)))
  | 6, h => simp at h; exact .inl ⟨rfl, by omega, h.symm⟩
  | 7, h => simp at h; exact .inr (.inr (.inr (.inr ⟨rfl, h.symm⟩)))
  | k + 8, h => simp at h
theorem ask_fs0 {w : World} {N a1 b1 a2 b2 a3 b3 a4 b4 : Nat} {v1 v2 v3 v4 : Value} {l1 l2 l3 l4 : List Nat} (h1 : Hld a1 b1 w v1 l1) (h2 : Hld a2 b2 w v2 l2) (h3 : Hld a3 b3 w v3 l3) (h4 : Hld a4 b4 w v4 l4) (o1 : b1 ≤ a2) (o2 : b2 ≤ a3) (o3 : b3 ≤ a4) (p2 : a2 ≤ b2) (p3 : a3 ≤ b3)
    (hN : w.heap[N]? = some (.cells #[.int .i64 0, .int .i64 0, .int .i64 0, .slice none 0 0, v1, .int .i64 0, .bool false, .int .i64 0, .bool false, .int .i64 0, .int .i64 0, .int .i64 0, .int .i64 0, .int .i64 0, .slice none 0 0, v2, .int .i64 0, .bool false, .int .i64 0, .bool false, .int .i64 0, .int .i64 0, .int .i64 0, .int .i64 0, .int .i64 0, .slice none 0 0, v3, .int .i64 0, .bool false, .int .i64 0, .bool false, .int .i64 0, .int .i64 0, .int .i64 0, .int .i64 0, .int .i64 0, .slice none 0 0, v4, .int .i64 0, .bool false, .int .i64 0, .bool false, .int .i64 0, .int .i64 0] 40 (0, 0))) : FS0 w (askS N v1 v2 v3 v4) 0 N 0 (askL v1 v2 v3 v4 l1 l2 l3 l4) := by
  have cell : ∀ j u, (#[.int .i64 0, .int .i64 0, .int .i64 0, .slice none 0 0, v1, .int .i64 0, .bool false, .int .i64 0, .bool false, .int .i64 0, .int .i64 0, .int .i64 0, .int .i64 0, .int .i64 0, .slice none 0 0, v2, .int .i64 0, .bool false, .int .i64 0, .bool false, .int .i64 0, .int .i64 0, .int .i64 0, .int .i64 0, .int .i64 0, .slice none 0 0, v3, .int .i64 0, .bool false, .int .i64 0, .bool false, .int .i64 0, .int .i64 0, .int .i64 0, .int .i64 0, .int .i64 0, .slice none 0 0, v4, .int .i64 0, .bool false, .int .i64 0, .bool false, .int .i64 0, .int .i64 0] : Array Value).toList[j]? = some u → w.cell? ⟨N, j, none⟩ = some u := fun j u hu => rboxL hN j hu
  refine ⟨?_, ?_, ?_, fun h => by omega, ⟨_, hN⟩, ?_, fun h => by omega, by simp [askS]⟩
  · intro k s hs
    rcases ask_cases hs with ⟨-, -, rfl⟩ | ⟨-, rfl⟩ | ⟨-, rfl⟩ | ⟨-, rfl⟩ | ⟨-, rfl⟩
    · exact World.ownsRow_nil _ _ _ _
    · exact ⟨h1.own.1, h1.own.2.imp id (fun ⟨g, cap, cur, q1, q2, r⟩ => ⟨g, cap, cur, q1, Nat.zero_le _, r⟩)⟩
    · exact ⟨h2.own.1, h2.own.2.imp id (fun ⟨g, cap, cur, q1, q2, r⟩ => ⟨g, cap, cur, q1, Nat.zero_le _, r⟩)⟩
    · exact ⟨h3.own.1, h3.own.2.imp id (fun ⟨g, cap, cur, q1, q2, r⟩ => ⟨g, cap, cur, q1, Nat.zero_le _, r⟩)⟩
    · exact ⟨h4.own.1, h4.own.2.imp id (fun ⟨g, cap, cur, q1, q2, r⟩ => ⟨g, cap, cur, q1, Nat.zero_le _, r⟩)⟩
  · intro k k' s s' b hs hs' hb hb'
    rcases ask_cases hs with ⟨-, -, rfl⟩ | ⟨rfl, rfl⟩ | ⟨rfl, rfl⟩ | ⟨rfl, rfl⟩ | ⟨rfl, rfl⟩ <;> rcases ask_cases hs' with ⟨-, -, rfl⟩ | ⟨rfl, rfl⟩ | ⟨rfl, rfl⟩ | ⟨rfl, rfl⟩ | ⟨rfl, rfl⟩ <;> simp only [Value.ownBlock] at hb hb' <;> first | rfl | (cases hb; done) | (cases hb'; done) | skip
    · have := h1.lo hb; have := h1.hi _ hb; have := h2.lo hb'; have := h2.hi _ hb'; omega
    · have := h1.lo hb; have := h1.hi _ hb; have := h3.lo hb'; have := h3.hi _ hb'; omega
    · have := h1.lo hb; have := h1.hi _ hb; have := h4.lo hb'; have := h4.hi _ hb'; omega
    · have := h2.lo hb; have := h2.hi _ hb; have := h1.lo hb'; have := h1.hi _ hb'; omega
    · have := h2.lo hb; have := h2.hi _ hb; have := h3.lo hb'; have := h3.hi _ hb'; omega
    · have := h2.lo hb; have := h2.hi _ hb; have := h4.lo hb'; have := h4.hi _ hb'; omega
    · have := h3.lo hb; have := h3.hi _ hb; have := h1.lo hb'; have := h1.hi _ hb'; omega
    · have := h3.lo hb; have := h3.hi _ hb; have := h2.lo hb'; have := h2.hi _ hb'; omega
    · have := h3.lo hb; have := h3.hi _ hb; have := h4.lo hb'; have := h4.hi _ hb'; omega
    · have := h4.lo hb; have := h4.hi _ hb; have := h1.lo hb'; have := h1.hi _ hb'; omega
    · have := h4.lo hb; have := h4.hi _ hb; have := h2.lo hb'; have := h2.hi _ hb'; omega
    · have := h4.lo hb; have := h4.hi _ hb; have := h3.lo hb'; have := h3.hi _ hb'; omega
  · intro k s hs
    rcases ask_cases hs with ⟨h0, h8, rfl⟩ | ⟨rfl, rfl⟩ | ⟨rfl, rfl⟩ | ⟨rfl, rfl⟩ | ⟨rfl, rfl⟩
    · have : k = 0 ∨ k = 2 ∨ k = 4 ∨ k = 6 := by omega
      rcases this with rfl | rfl | rfl | rfl
      · exact cell 3 _ rfl
      · exact cell 14 _ rfl
      · exact cell 25 _ rfl
      · exact cell 36 _ rfl
    · exact cell 4 _ rfl
    · exact cell 15 _ rfl
    · exact cell 26 _ rfl
    · exact cell 37 _ rfl
  · intro k s b hs hb
    rcases ask_cases hs with ⟨-, -, rfl⟩ | ⟨rfl, rfl⟩ | ⟨rfl, rfl⟩ | ⟨rfl, rfl⟩ | ⟨rfl, rfl⟩
    · simp [Value.ownBlock] at hb
    · simp only at hb; simp [askS, hb]
    · simp only at hb; simp [askS, hb]
    · simp only at hb; simp [askS, hb]
    · simp only at hb; simp [askS, hb]

set_option maxRecDepth 200000 in
set_option maxHeartbeats 32000000 in
theorem askPW {F : Nat → Prop} (W : World) (av nv ev : Value) (al : List Shp) (ns : List Nd) (es : List Int) (h : RPl F W av nv ev al ns es) (hS : plSm 1048576 al ns es) (k q : Int) (ht : Tab W) (ho : Ops W) :
    Calls Tryd.prog 3 #[.agg #[av, nv, ev], .int .i64 k, .int .i64 q] W fun e W' => e = .returned (.bool true) ∧ Below W.heap.size W W' := by
  obtain ⟨Aa, ca, rfl⟩ := h.al.form
  obtain ⟨An, cn, rfl⟩ := h.ns.form
  obtain ⟨Ae, ce, rfl⟩ := h.en.form
  have hn1 := hS.ns.1
  have ha1 := hS.al.1
  have he1 := hS.en
  have hml : ∀ n ∈ ns, n.new.length ≤ 1000000000 := fun n hn => by have := (hS.ns.2 n hn).2; omega
  have HML := Lib.hid hml
  have HP := Lib.hid h
  have SM := Lib.hid hS
  have TB := Lib.hid (fun (Wx : World) (hx : Below W.heap.size W Wx) => ht.below hx)
  have OB := Lib.hid (fun (Wx : World) (hx : Below W.heap.size W Wx) => ho.below hx)
  have hb0 : Below (W.heap.size + 1) (W.alloc (.cells #[.slice Aa al.length ca, .slice An ns.length cn, .slice Ae es.length ce] 26)) (W.alloc (.cells #[.slice Aa al.length ca, .slice An ns.length cn, .slice Ae es.length ce] 26)) := Below.refl _ _
  have C1 := Lib.hid (copiedW _ _ _ _ al ns es (h.below (box_below hb0)) hS)
  have HB0 := Lib.hid hb0
  clear h hS hb0 ht ho hml
  go_enter Tryd.func3, Tryd.ntmps3
  go_wp2_with fail
  refine C1.out.mono ?_
  rintro e w1 ⟨qa, qn, qe, rfl, hq, hb1⟩
  obtain ⟨Ba, da, rfl⟩ := hq.al.form
  obtain ⟨Bn, dn, rfl⟩ := hq.ns.form
  obtain ⟨Be, de, rfl⟩ := hq.en.form
  obtain ⟨w2, hw2⟩ : ∃ w2, w2 = w1.alloc (.cells #[.slice Ba al.length da, .slice Bn ns.length dn, .slice Be es.length de] 26) := ⟨_, rfl⟩
  have hb2 : Below (w1.heap.size + 1) (w1.alloc (.cells #[.slice Ba al.length da, .slice Bn ns.length dn, .slice Be es.length de] 26)) w2 := by rw [hw2]; exact Below.refl _ _
  have hsz2 : w1.heap.size < w2.heap.size := by have := hb2.size; simp at this; omega
  have HB1 := Lib.hid (box_step (box_step HB0.out hb1) (box_below hb2))
  have HB2 := Lib.hid hb2
  -- what stays in every world that keeps w2's blocks
  have KQ := Lib.hid (fun (Wx : World) (hx : Below w2.heap.size w2 Wx) => (hq.kp (F' := fun b => b < w2.heap.size) (Kp.of_below ((box_below hb2).trans (hx.mono (box_below hb2).size))) (fun b hb _ => by omega)))
  have KP := Lib.hid (fun (Wx : World) (hx : Below w2.heap.size w2 Wx) => HP.out.below (box_below (box_step HB1.out hx)))
  have KW := Lib.hid (fun (Wx : World) (hx : Below w2.heap.size w2 Wx) => box_below (box_step HB1.out hx))
  have PC := Lib.hid (fun (Wx : World) (hx : Below w2.heap.size w2 Wx) => (show Wx.cell? ⟨W.heap.size, 0, none⟩ = some (.slice Aa al.length ca) ∧ Wx.cell? ⟨W.heap.size, 1, none⟩ = some (.slice An ns.length cn) ∧ Wx.cell? ⟨W.heap.size, 2, none⟩ = some (.slice Ae es.length ce) from
    ⟨box_cellL (box_step HB1.out hx) 0 rfl, box_cellL (box_step HB1.out hx) 1 rfl, box_cellL (box_step HB1.out hx) 2 rfl⟩))
  have QC := Lib.hid (fun (Wx : World) (hx : Below w2.heap.size w2 Wx) => (show Wx.cell? ⟨w1.heap.size, 0, none⟩ = some (.slice Ba al.length da) ∧ Wx.cell? ⟨w1.heap.size, 1, none⟩ = some (.slice Bn ns.length dn) ∧ Wx.cell? ⟨w1.heap.size, 2, none⟩ = some (.slice Be es.length de) from
    ⟨box_cellL (box_step HB2.out hx) 0 rfl, box_cellL (box_step HB2.out hx) 1 rfl, box_cellL (box_step HB2.out hx) 2 rfl⟩))
  have CH := Lib.hid (fun (Wx : World) (hx : Below w2.heap.size w2 Wx) => (chainW Wx _ _ _ al ns es (KQ.out Wx hx).al (KQ.out Wx hx).ns (KQ.out Wx hx).en (by omega) HML.out k).mono (fun e w' hr => chain_u hr))
  have KD := Lib.hid (fun (Wx : World) (hx : Below w2.heap.size w2 Wx) => (kidsW Wx _ _ _ al ns es (KQ.out Wx hx).al (KQ.out Wx hx).ns (KQ.out Wx hx).en (by omega) HML.out q).mono (fun e w' hr => kids_u hr))
  have RC := Lib.hid (fun (Wx : World) (hx : Below w2.heap.size w2 Wx) => (rchainW Wx _ _ _ al ns es (KP.out Wx hx) SM.out k).mono (fun e w' hr => chain_u hr))
  have RK := Lib.hid (fun (Wx : World) (hx : Below w2.heap.size w2 Wx) => (rkidsW Wx _ _ _ al ns es (KP.out Wx hx) SM.out q).mono (fun e w' hr => kids_u hr))
  have TX := Lib.hid (fun (Wx : World) (hx : Below w2.heap.size w2 Wx) => textW Wx _ _ _ al ns es (KQ.out Wx hx) ⟨by omega, by omega, by omega⟩ HML.out (TB.out Wx (KW.out Wx hx)) (OB.out Wx (KW.out Wx hx)))
  have RT := Lib.hid (fun (Wx : World) (hx : Below w2.heap.size w2 Wx) => rtextW Wx _ _ _ al ns es (KP.out Wx hx) SM.out (TB.out Wx (KW.out Wx hx)))
  have EQ := Lib.hid (fun (Wx : World) (hx : Below w2.heap.size w2 Wx) => requalW Wx _ _ _ _ _ _ al al ns ns es es (KQ.out Wx hx) (KP.out Wx hx) (by omega) (by omega) (by omega) (by omega))
  rw [decide_eq_true (show al = al ∧ ns = ns ∧ es = es from ⟨rfl, rfl, rfl⟩)] at EQ
  obtain ⟨cL, hcL⟩ : ∃ l, chL al ns es k = l := ⟨_, rfl⟩
  obtain ⟨kL, hkL⟩ : ∃ l, kdL al ns es q = l := ⟨_, rfl⟩
  obtain ⟨cE, hcE⟩ : ∃ l, chE al ns es k = l := ⟨_, rfl⟩
  obtain ⟨kE, hkE⟩ : ∃ l, kdE al ns es q = l := ⟨_, rfl⟩
  have BC := Lib.hid (show (∀ u ∈ cL, u < 1000000000) ∧ cL.length ≤ 30000000 from by rw [← hcL]; exact ⟨fun u hu => by have := (chL_lt (al := al) (ns := ns) (es := es) (k := k)).1 u hu; omega, by have := (chL_lt (al := al) (ns := ns) (es := es) (k := k)).2; omega⟩)
  have BK := Lib.hid (show (∀ u ∈ kL, u < 1000000000) ∧ kL.length ≤ 30000000 from by rw [← hkL]; exact ⟨fun u hu => by have := (kdL_lt (al := al) (ns := ns) (es := es) (k := q)).1 u hu; omega, by have := (kdL_lt (al := al) (ns := ns) (es := es) (k := q)).2; omega⟩)
  rw [hcL, hcE] at CH RC
  rw [hkL, hkE] at KD RK
  obtain ⟨T, hT⟩ : ∃ T, textF al ns es = T := ⟨_, rfl⟩
  rw [hT] at TX RT
  clear hq hb1 hb2 C1 hcL hkL hcE hkE hT HB0 HB2
  go_upto_region 2 with fail
  rw [← hw2]
  clear hw2
  have B2 := Lib.hid (Below.refl w2.heap.size w2)
  obtain ⟨y0, y1, y2⟩ := QC.out _ B2.out
  have CC := Lib.hid (CH.out _ B2.out)
  go_wp2_with fail
  refine CC.out.mono ?_
  rintro e w3 ⟨v3, rfl, hl, hb⟩
  obtain ⟨A3, d3, rfl, -⟩ := hl.own.form
  have B3 := Lib.hid (B2.out.trans (hb.mono B2.out.size))
  have H3 := Lib.hid hl
  have O3 := Lib.hid hb.size
  clear hb hl CC y0 y1 y2
  obtain ⟨y0, y1, y2⟩ := QC.out _ B3.out
  have CC := Lib.hid (KD.out _ B3.out)
  go_wp2_with fail
  refine CC.out.mono ?_
  rintro e w4 ⟨v4, rfl, hl, hb⟩
  obtain ⟨A4, d4, rfl, -⟩ := hl.own.form
  have B4 := Lib.hid (B3.out.trans (hb.mono B3.out.size))
  have H3 := Lib.hid (H3.out.step hb)
  have H4 := Lib.hid hl
  have O4 := Lib.hid hb.size
  clear hb hl CC y0 y1 y2
  obtain ⟨y0, y1, y2⟩ := QC.out _ B4.out
  have CC := Lib.hid (CH.out _ B4.out)
  go_wp2_with fail
  refine CC.out.mono ?_
  rintro e w5 ⟨v5, rfl, hl, hb⟩
  obtain ⟨A5, d5, rfl, -⟩ := hl.own.form
  have B5 := Lib.hid (B4.out.trans (hb.mono B4.out.size))
  have H3 := Lib.hid (H3.out.step hb)
  have H4 := Lib.hid (H4.out.step hb)
  have H5 := Lib.hid hl
  have O5 := Lib.hid hb.size
  clear hb hl CC y0 y1 y2
  obtain ⟨y0, y1, y2⟩ := QC.out _ B5.out
  have CC := Lib.hid (KD.out _ B5.out)
  go_wp2_with fail
  refine CC.out.mono ?_
  rintro e w6 ⟨v6, rfl, hl, hb⟩
  obtain ⟨A6, d6, rfl, -⟩ := hl.own.form
  have B6 := Lib.hid (B5.out.trans (hb.mono B5.out.size))
  have H3 := Lib.hid (H3.out.step hb)
  have H4 := Lib.hid (H4.out.step hb)
  have H5 := Lib.hid (H5.out.step hb)
  have H6 := Lib.hid hl
  have O6 := Lib.hid hb.size
  clear hb hl CC y0 y1 y2
  obtain ⟨y0, y1, y2⟩ := QC.out _ B6.out
  have CC := Lib.hid (TX.out _ B6.out)
  go_wp2_with fail
  refine CC.out.mono ?_
  rintro e w7 ⟨rfl, hb⟩
  have B7 := Lib.hid (B6.out.trans (hb.mono B6.out.size))
  have H3 := Lib.hid (H3.out.step hb)
  have H4 := Lib.hid (H4.out.step hb)
  have H5 := Lib.hid (H5.out.step hb)
  have H6 := Lib.hid (H6.out.step hb)
  have O7 := Lib.hid hb.size
  clear hb CC y0 y1 y2
  obtain ⟨y0, y1, y2⟩ := PC.out _ B7.out
  have CC := Lib.hid (RC.out _ B7.out)
  go_wp2_with fail
  refine CC.out.mono ?_
  rintro e w8 ⟨v8, rfl, hl, hb⟩
  obtain ⟨A8, d8, rfl, -⟩ := hl.own.form
  have B8 := Lib.hid (B7.out.trans (hb.mono B7.out.size))
  have H3 := Lib.hid (H3.out.step hb)
  have H4 := Lib.hid (H4.out.step hb)
  have H5 := Lib.hid (H5.out.step hb)
  have H6 := Lib.hid (H6.out.step hb)
  have H8 := Lib.hid hl
  have O8 := Lib.hid hb.size
  clear hb hl CC y0 y1 y2
  obtain ⟨y0, y1, y2⟩ := PC.out _ B8.out
  have CC := Lib.hid (RK.out _ B8.out)
  go_wp2_with fail
  refine CC.out.mono ?_
  rintro e w9 ⟨v9, rfl, hl, hb⟩
  obtain ⟨A9, d9, rfl, -⟩ := hl.own.form
  have B9 := Lib.hid (B8.out.trans (hb.mono B8.out.size))
  have H3 := Lib.hid (H3.out.step hb)
  have H4 := Lib.hid (H4.out.step hb)
  have H5 := Lib.hid (H5.out.step hb)
  have H6 := Lib.hid (H6.out.step hb)
  have H8 := Lib.hid (H8.out.step hb)
  have H9 := Lib.hid hl
  have O9 := Lib.hid hb.size
  clear hb hl CC y0 y1 y2
  have h1 : (cE != cE) = false := by simp
  have h2 : (kE != kE) = false := by simp
  have CC := Lib.hid (eqOwn H3.out.own H8.out.own BC.out.1)
  go_wp2_with fail
  refine CC.out.mono ?_
  rintro e w10 ⟨rfl, hb⟩
  have B10 := Lib.hid (B9.out.trans (hb.mono B9.out.size))
  have H3 := Lib.hid (H3.out.step hb)
  have H4 := Lib.hid (H4.out.step hb)
  have H5 := Lib.hid (H5.out.step hb)
  have H6 := Lib.hid (H6.out.step hb)
  have H8 := Lib.hid (H8.out.step hb)
  have H9 := Lib.hid (H9.out.step hb)
  have O10 := Lib.hid hb.size
  clear hb CC
  have CC := Lib.hid (eqOwn H4.out.own H9.out.own BK.out.1)
  go_wp2_with fail
  refine CC.out.mono ?_
  rintro e w11 ⟨rfl, hb⟩
  have B11 := Lib.hid (B10.out.trans (hb.mono B10.out.size))
  have H3 := Lib.hid (H3.out.step hb)
  have H4 := Lib.hid (H4.out.step hb)
  have H5 := Lib.hid (H5.out.step hb)
  have H6 := Lib.hid (H6.out.step hb)
  have H8 := Lib.hid (H8.out.step hb)
  have H9 := Lib.hid (H9.out.step hb)
  have O11 := Lib.hid hb.size
  clear hb CC
  have CC := Lib.hid (eqOwn H5.out.own H8.out.own BC.out.1)
  go_wp2_with fail
  refine CC.out.mono ?_
  rintro e w12 ⟨rfl, hb⟩
  have B12 := Lib.hid (B11.out.trans (hb.mono B11.out.size))
  have H3 := Lib.hid (H3.out.step hb)
  have H4 := Lib.hid (H4.out.step hb)
  have H5 := Lib.hid (H5.out.step hb)
  have H6 := Lib.hid (H6.out.step hb)
  have H8 := Lib.hid (H8.out.step hb)
  have H9 := Lib.hid (H9.out.step hb)
  have O12 := Lib.hid hb.size
  clear hb CC
  have CC := Lib.hid (eqOwn H6.out.own H9.out.own BK.out.1)
  go_wp2_with fail
  refine CC.out.mono ?_
  rintro e w13 ⟨rfl, hb⟩
  have B13 := Lib.hid (B12.out.trans (hb.mono B12.out.size))
  have H3 := Lib.hid (H3.out.step hb)
  have H4 := Lib.hid (H4.out.step hb)
  have H5 := Lib.hid (H5.out.step hb)
  have H6 := Lib.hid (H6.out.step hb)
  have H8 := Lib.hid (H8.out.step hb)
  have H9 := Lib.hid (H9.out.step hb)
  have O13 := Lib.hid hb.size
  clear hb CC
  obtain ⟨y0, y1, y2⟩ := PC.out _ B13.out
  have CC := Lib.hid (RT.out _ B13.out)
  go_wp2_with fail
  refine CC.out.mono ?_
  rintro e w14 ⟨rfl, hb⟩
  have B14 := Lib.hid (B13.out.trans (hb.mono B13.out.size))
  have H3 := Lib.hid (H3.out.step hb)
  have H4 := Lib.hid (H4.out.step hb)
  have H5 := Lib.hid (H5.out.step hb)
  have H6 := Lib.hid (H6.out.step hb)
  have H8 := Lib.hid (H8.out.step hb)
  have H9 := Lib.hid (H9.out.step hb)
  have O14 := Lib.hid hb.size
  clear hb CC y0 y1 y2
  have h3 : ((bs T).toList == (bs T).toList) = true := by simp
  obtain ⟨w15, hw15⟩ : ∃ w15, w15 = w14.alloc (.cells #[.int .i64 0, .int .i64 0, .int .i64 0, .slice none 0 0, .slice A3 cL.length d3, .int .i64 0, .bool false, .int .i64 0, .bool false, .int .i64 0, .int .i64 0, .int .i64 0, .int .i64 0, .int .i64 0, .slice none 0 0, .slice A4 kL.length d4, .int .i64 0, .bool false, .int .i64 0, .bool false, .int .i64 0, .int .i64 0, .int .i64 0, .int .i64 0, .int .i64 0, .slice none 0 0, .slice A5 cL.length d5, .int .i64 0, .bool false, .int .i64 0, .bool false, .int .i64 0, .int .i64 0, .int .i64 0, .int .i64 0, .int .i64 0, .slice none 0 0, .slice A6 kL.length d6, .int .i64 0, .bool false, .int .i64 0, .bool false, .int .i64 0, .int .i64 0] 40) := ⟨_, rfl⟩
  have hb15 : Below w14.heap.size w14 w15 := by rw [hw15]; exact (Below.refl _ _).alloc (Nat.le_refl _) _
  have hN15 : w15.heap[w14.heap.size]? = some (.cells #[.int .i64 0, .int .i64 0, .int .i64 0, .slice none 0 0, .slice A3 cL.length d3, .int .i64 0, .bool false, .int .i64 0, .bool false, .int .i64 0, .int .i64 0, .int .i64 0, .int .i64 0, .int .i64 0, .slice none 0 0, .slice A4 kL.length d4, .int .i64 0, .bool false, .int .i64 0, .bool false, .int .i64 0, .int .i64 0, .int .i64 0, .int .i64 0, .int .i64 0, .slice none 0 0, .slice A5 cL.length d5, .int .i64 0, .bool false, .int .i64 0, .bool false, .int .i64 0, .int .i64 0, .int .i64 0, .int .i64 0, .int .i64 0, .slice none 0 0, .slice A6 kL.length d6, .int .i64 0, .bool false, .int .i64 0, .bool false, .int .i64 0, .int .i64 0] 40 (0, 0)) := by rw [hw15]; exact heap_alloc_new w14 _
  have hO := And.intro O3.out (And.intro O4.out (And.intro O5.out (And.intro O6.out (And.intro O7.out (And.intro O8.out (And.intro O9.out (And.intro O10.out (And.intro O11.out (And.intro O12.out (And.intro O13.out O14.out))))))))))
  have hfs := ask_fs0 (H3.out.step hb15) (H4.out.step hb15) (H5.out.step hb15) (H6.out.step hb15) (by omega) (by omega) (by omega) (by omega) (by omega) hN15
  have FU := Lib.hid (fullW w15 (askS w14.heap.size (.slice A3 cL.length d3) (.slice A4 kL.length d4) (.slice A5 cL.length d5) (.slice A6 kL.length d6)) 0 w14.heap.size 0 4 0 4 none (askL (.slice A3 cL.length d3) (.slice A4 kL.length d4) (.slice A5 cL.length d5) (.slice A6 kL.length d6) cL kL cL kL) (fun h => by omega) hfs rfl (fun k s hs => by
      rcases ask_cases hs with ⟨h0, -, rfl⟩ | ⟨rfl, rfl⟩ | ⟨rfl, rfl⟩ | ⟨rfl, rfl⟩ | ⟨rfl, rfl⟩
      · exact (decide_eq_true ⟨Nat.zero_le _, by omega⟩).symm
      · rfl
      · rfl
      · rfl
      · rfl) (fun k s hs => by
      rcases ask_cases hs with ⟨h0, -, rfl⟩ | ⟨rfl, rfl⟩ | ⟨rfl, rfl⟩ | ⟨rfl, rfl⟩ | ⟨rfl, rfl⟩
      · exact Nat.zero_le _
      · exact BC.out.2
      · exact BK.out.2
      · exact BC.out.2
      · exact BK.out.2) (by omega) (by omega))
  have H8 := Lib.hid (H8.out.step hb15)
  have H9 := Lib.hid (H9.out.step hb15)
  have B15 := Lib.hid (B14.out.trans (hb15.mono B14.out.size))
  -- the blocks that full turns lie above w2's, apart from the wanted lists'
  have SB := Lib.hid (show ∀ x ∈ askS w14.heap.size (.slice A3 cL.length d3) (.slice A4 kL.length d4) (.slice A5 cL.length d5) (.slice A6 kL.length d6), w2.heap.size ≤ x ∧ (x < w6.heap.size ∨ x = w14.heap.size) from by
    intro x hx
    simp only [askS, List.mem_cons, List.mem_append, Option.mem_toList] at hx
    have b3 := B3.out.size
    rcases hx with rfl | hx | hx | hx | hx
    · have := B14.out.size; exact ⟨by omega, .inr rfl⟩
    · have := H3.out.lo hx; have := H3.out.hi _ hx; exact ⟨by omega, .inl (by omega)⟩
    · have := H4.out.lo hx; have := H4.out.hi _ hx; exact ⟨by omega, .inl (by omega)⟩
    · have := H5.out.lo hx; have := H5.out.hi _ hx; exact ⟨by omega, .inl (by omega)⟩
    · have := H6.out.lo hx; have := H6.out.hi _ hx; exact ⟨by omega, .inl (by omega)⟩)
  have HH8 := Lib.hid (show ∀ b, (Value.slice A8 cL.length d8).ownBlock = some b → b ∉ askS w14.heap.size (.slice A3 cL.length d3) (.slice A4 kL.length d4) (.slice A5 cL.length d5) (.slice A6 kL.length d6) from fun b hb hm => by
    have := H8.out.lo hb; have := H8.out.hi _ hb; have := (SB.out b hm).2; omega)
  have HH9 := Lib.hid (show ∀ b, (Value.slice A9 kL.length d9).ownBlock = some b → b ∉ askS w14.heap.size (.slice A3 cL.length d3) (.slice A4 kL.length d4) (.slice A5 cL.length d5) (.slice A6 kL.length d6) from fun b hb hm => by
    have := H9.out.lo hb; have := H9.out.hi _ hb; have := (SB.out b hm).2; omega)
  clear hb15 hN15 hO hfs
  go_upto_region 11 with fail
  clear h1 h2 h3
  go_wp2_with fail
  rw [← hw15]
  clear hw15
  refine FU.out.mono ?_
  rintro e w16 ⟨rfl, ht⟩
  have B16 := Lib.hid (B15.out.trans (ht.below B15.out.size (fun x hx => (SB.out x hx).1)))
  have H8 := Lib.hid (show Hld w7.heap.size w8.heap.size w16 (.slice A8 cL.length d8) cL from ⟨ownsRow_turns H8.out.own ht HH8.out, H8.out.hi⟩)
  have H9 := Lib.hid (show Hld w8.heap.size w9.heap.size w16 (.slice A9 kL.length d9) kL from ⟨ownsRow_turns H9.out.own ht HH9.out, H9.out.hi⟩)
  clear ht FU HH8 HH9 SB H3 H4 H5 H6
  obtain ⟨y0, y1, y2⟩ := QC.out _ B16.out
  have CC := Lib.hid (CH.out _ B16.out)
  go_wp2_with fail
  refine CC.out.mono ?_
  rintro e w17 ⟨v17, rfl, hl, hb⟩
  obtain ⟨A17, d17, rfl, -⟩ := hl.own.form
  have B17 := Lib.hid (B16.out.trans (hb.mono B16.out.size))
  have H8 := Lib.hid (H8.out.step hb)
  have H9 := Lib.hid (H9.out.step hb)
  have H17 := Lib.hid hl
  clear hb hl CC y0 y1 y2
  obtain ⟨y0, y1, y2⟩ := QC.out _ B17.out
  have CC := Lib.hid (KD.out _ B17.out)
  go_wp2_with fail
  refine CC.out.mono ?_
  rintro e w18 ⟨v18, rfl, hl, hb⟩
  obtain ⟨A18, d18, rfl, -⟩ := hl.own.form
  have B18 := Lib.hid (B17.out.trans (hb.mono B17.out.size))
  have H8 := Lib.hid (H8.out.step hb)
  have H9 := Lib.hid (H9.out.step hb)
  have H17 := Lib.hid (H17.out.step hb)
  have H18 := Lib.hid hl
  clear hb hl CC y0 y1 y2
  have CC := Lib.hid (eqOwn H17.out.own H8.out.own BC.out.1)
  go_wp2_with fail
  refine CC.out.mono ?_
  rintro e w19 ⟨rfl, hb⟩
  have B19 := Lib.hid (B18.out.trans (hb.mono B18.out.size))
  have H8 := Lib.hid (H8.out.step hb)
  have H9 := Lib.hid (H9.out.step hb)
  have H17 := Lib.hid (H17.out.step hb)
  have H18 := Lib.hid (H18.out.step hb)
  have O19 := Lib.hid hb.size
  clear hb CC
  have CC := Lib.hid (eqOwn H18.out.own H9.out.own BK.out.1)
  go_wp2_with fail
  refine CC.out.mono ?_
  rintro e w20 ⟨rfl, hb⟩
  have B20 := Lib.hid (B19.out.trans (hb.mono B19.out.size))
  have H8 := Lib.hid (H8.out.step hb)
  have H9 := Lib.hid (H9.out.step hb)
  have H17 := Lib.hid (H17.out.step hb)
  have H18 := Lib.hid (H18.out.step hb)
  have O20 := Lib.hid hb.size
  clear hb CC
  obtain ⟨y0, y1, y2⟩ := PC.out _ B20.out
  obtain ⟨z0, z1, z2⟩ := QC.out _ B20.out
  have CC := Lib.hid (EQ.out _ B20.out)
  go_wp2_with fail
  refine CC.out.mono ?_
  rintro e w21 ⟨rfl, hb⟩
  have HF := Lib.hid (KW.out _ (B20.out.trans (hb.mono B20.out.size)))
  clear hb CC y0 y1 y2 z0 z1 z2
  go_wp2
  go_ret
  exact ⟨rfl, HF.out⟩
end Go.Proofs.YtonkbjdeaneicaaDoor
