/- (*Table).Sorted: the ids in the order of their constants. -/
import Derived.Test.YtblonickpmogiaaIdsAllX
import Derived.Test.YtblonickpmogiaaSortIds
import Derived.Sort.CutIn
namespace Go.Proofs.Ytblonickpmogiaa
open Go.RowKit Go.Maps Go.Shelf
attribute [local go_sem] Oper.semAt_some

theorem infoInt : (Try.prog.info? 3).map (fun i => (i.zero, i.size, i.bytes)) = some (some (.int .i64 0), 1, 8) := by kernel_rfl
/-- What the loop has gathered. -/
def idsOf (pre : List (Nat × Cst)) : List Value := pre.map fun x => .int .i64 (x.1 : Int)
theorem idsOf_snoc (pre : List (Nat × Cst)) (x : Nat × Cst) : idsOf (pre ++ [x]) = idsOf pre ++ [.int .i64 (x.1 : Int)] := by simp [idsOf]
theorem idsOf_pairs (ks : List Cst) (n : Nat) : idsOf (pairsT ks n) = (List.range n).map fun (i : Nat) => Value.int .i64 (i : Int) := by
  unfold idsOf pairsT
  rw [List.map_map]
  rfl
theorem ownFrom_turnsT {β : Type} {S : List Nat} {B : Nat} {w0 : World} (hB : w0.heap.size ≤ B) : OwnFrom B (fun (_ : β) W => Turns S w0 W) :=
  fun _ _ _ row hs hg hr => by
    have T := Turns.of_grown hg
    exact hs.trans T (fun x hx => .inr (Nat.le_trans hB (hr x (by simpa using hx)).1))
theorem ownsRow_weakT {w : World} {base base' : Nat} {e : TypeId} {size n : Nat} {v : Value} {xs : List Value} (ho : w.ownsRow base e size v n xs) (hb : base' ≤ base) : w.ownsRow base' e size v n xs :=
  ⟨ho.1, ho.2.imp id (fun ⟨g, c, cur, h1, h2, h3⟩ => ⟨g, c, cur, h1, Nat.le_trans hb h2, h3⟩)⟩

/-- The loop's list, in the box B1: one element comes. -/
theorem pushN {W0 W w1 : World} {B1 : Nat} {v v' : Value} {k m : Nat} {xs ys : List Value} {tmp : Obj} (_ : B1 < W0.heap.size)
    (hv : Boxed W B1 66 v) (hrow : W.ownsRow W0.heap.size 3 1 v k xs) (hT : Turns [B1] W0 W) (hown' : w1.ownsRow W0.heap.size 3 1 v' m ys) (hgrow : (W.alloc tmp).grownBy w1 v.ownBlock) :
    Boxed w1 B1 66 v ∧ Boxed (w1.setCell ⟨B1, 0, none⟩ v') B1 66 v' ∧ (w1.setCell ⟨B1, 0, none⟩ v').ownsRow W0.heap.size 3 1 v' m ys ∧ KeepsOthers W (w1.setCell ⟨B1, 0, none⟩ v') ∧ Kx W0.heap.size B1 W (w1.setCell ⟨B1, 0, none⟩ v') ∧
      Turns [B1] W0 (w1.setCell ⟨B1, 0, none⟩ v') := by
  have h0 : (0 : Nat) ≤ W0.heap.size := Nat.zero_le _
  obtain ⟨hv1, hv2, _, hk2, _⟩ := hv.appended (n₀ := 0) (by decide) (ownsRow_weakT hrow h0) (Nat.zero_le _) (Nat.zero_le _) (ownsRow_weakT hown' h0) hgrow
  have T1 : Turns (B1 :: v.ownBlock.toList) W (w1.setCell ⟨B1, 0, none⟩ v') := (((Turns.refl (B1 :: v.ownBlock.toList) W).alloc tmp).trans (Turns.of_grown hgrow) (fun x hx => .inl (List.mem_cons_of_mem _ hx))).setCell (.inl (by simp)) _
  refine ⟨hv1, hv2, hown'.kept (grownBy_setCell' w1 B1 v') (.inr (hv1.not_row (by decide) hown').symm), hk2, T1.kx hT.size (fun x hx => ?_), ?_⟩
  · rcases List.mem_cons.1 hx with e | e
    · exact .inl e
    · exact .inr (ownBlock_cells hrow (by simpa using e)).1
  · exact hT.trans T1 (fun x hx => by
      rcases List.mem_cons.1 hx with e | e
      · exact .inl (by rw [e]; simp)
      · exact .inr (ownBlock_cells hrow (by simpa using e)).1)

/-- The sort's call, at none too. -/
theorem sortIds_any {w : World} {B base Bt g m : Nat} {v sv : Value} {ks : List Cst} (hx : IdsAt Try.prog kindT base w g m sv ks) (hO : OwnN w B v (List.range ks.length)) (cB : w.cell? ⟨Bt, 0, none⟩ = some (.pointer (some ⟨g, 0, none⟩)))
    (hB : B ≤ w.heap.size) (hBt : Bt < B) (hf : ∀ x ∈ foot g m sv, x < B) (hlen : ks.length ≤ 70000) :
    Calls Try.prog 83 #[v, .func (.func 84) #[] #[.pointer (some ⟨Bt, 0, none⟩)]] w fun e w' => e = .returned (.tuple #[]) ∧ ∃ l : List Nat, l.Perm (List.range ks.length) ∧ SdIds ks l ∧ OwnN w' B v l ∧ Turns v.ownBlock.toList w w' := by
  have hO' := hO
  unfold OwnN at hO'
  rw [List.length_range] at hO'
  by_cases hn : 0 < ks.length
  · obtain ⟨b, c, rfl, _, _⟩ := own_formC hO' hn
    obtain ⟨kb, kc, rfl, _, _⟩ := own_formC hx.own hn
    obtain ⟨_, _, hbB, _⟩ := ownN_block hO
    have f1 := hf g (by simp [foot])
    have f2 := hf kb (by simp [foot, Value.ownBlock])
    have c0 := hx.c0
    refine (sortIds_call rfl hn hO cB c0 (fun i c hk => hx.keyCellsT hk) (by omega) (by omega) (by omega) (by omega) (by omega) (by omega) (by omega)).mono ?_
    rintro e w' ⟨rfl, l, h1, h2, h3, h4⟩
    exact ⟨rfl, l, h1, h2, h3, by simpa [Value.ownBlock] using h4⟩
  · obtain rfl : ks = [] := List.eq_nil_of_length_eq_zero (by omega)
    obtain ⟨va, vc, rfl, _, _⟩ := own_lenC hO'
    have SN := AnyF.slices_SortFunc_none (P := Try.prog) (ρ := Ytblonickpmogiaa.sortI_ren) { Ytblonickpmogiaa.sortI with } va vc (.func (.func 84) #[] #[.pointer (some ⟨Bt, 0, none⟩)]) w
    change Calls Try.prog 83 _ _ _ at SN
    refine SN.mono ?_
    rintro e w' ⟨rfl, rfl⟩
    exact ⟨rfl, [], List.Perm.refl _, List.Pairwise.nil, hO, Turns.refl _ _⟩

theorem ownN_putObj {w : World} {base D : Nat} {v : Value} {l : List Nat} (h : OwnN w base v l) (o' : Obj) {o : Obj} (hD : w.heap[D]? = some o) (hc : o.isCells = false) : OwnN (w.putObj D o') base v l := ownsRow_putObj h o' hD hc
theorem sortedEnd {n D k : Nat} {w W0 W' w4 : World} {v : Value} {l : List Nat} {xs : List Value} (hB' : Below n w W') (hK : W'.heap[D]? = some (.deferred (some []))) (hD : W0.heap.size ≤ D) (hsz : W0.heap.size = n + 3) (hrow : W'.ownsRow W0.heap.size 3 1 v k xs)
    (c0 : W'.cell? ⟨n + 1, 0, none⟩ = some v) (q3 : OwnN w4 W0.heap.size v l) (q4 : Turns v.ownBlock.toList W' w4) :
    w4.cell? ⟨n + 1, 0, none⟩ = some v ∧ w4.heap[D]? = some (.deferred (some [])) ∧ Below n w (w4.putObj D (.deferred none)) ∧ OwnN (w4.putObj D (.deferred none)) n v l := by
  have hDl := lt_of_heap hK
  have hS : ∀ x ∈ v.ownBlock.toList, W0.heap.size ≤ x ∧ x ≠ D := fun x hx => by
    have hb : v.ownBlock = some x := by simpa using hx
    refine ⟨(ownBlock_cells hrow hb).1, fun e => ?_⟩
    obtain ⟨_, _, cur, hh⟩ := ownBlock_cells hrow hb
    subst e
    rw [hK] at hh
    simp at hh
  have hcl : n + 1 < W'.heap.size := by have := hB'.size; omega
  have hK4 : w4.heap[D]? = some (.deferred (some [])) := (q4.block D hDl (fun hm => (hS D hm).2 rfl)).trans hK
  refine ⟨(q4.cell hcl (fun hm => by have := (hS _ hm).1; omega)).trans c0, hK4, ?_, ?_⟩
  · have hb4 : Below n w w4 := hB'.trans (q4.below (by omega) (fun x hx => by have := (hS x hx).1; omega))
    exact hb4.trans (belowK_b (w := W0) (n₀ := n) (by omega) _ D _ _ hD hK4 rfl rfl)
  · exact ownsRow_weakT (ownN_putObj q3 _ hK4 rfl) (by omega)

set_option maxRecDepth 100000 in
set_option maxHeartbeats 4000000 in
theorem sortedW {base : Nat} {w : World} {g m : Nat} {sv : Value} {ks : List Cst} (h : IdsAt Try.prog kindT base w g m sv ks) (hlen : ks.length ≤ 70000) :
    Calls Try.prog 38 #[.pointer (some ⟨g, 0, none⟩)] w fun e w' => ∃ u l, e = .returned u ∧ OwnN w' w.heap.size u l ∧ l.Perm (List.range ks.length) ∧ SdIds ks l ∧ Below w.heap.size w w' := by
  obtain ⟨i0, hi, hz0, hz1, hz2⟩ := info_parts infoInt
  refine (callsIn_wide (n := 6)).1 ?_
  refine callsIn_of_wp_marks Try.func38 rfl trivial ?_ rfl
  simp only [Try.ntmps38, List.size_toArray, List.length_cons, List.length_nil, Nat.reduceAdd, Nat.reduceSub, Array.replicate_succ, Array.replicate_zero, List.push_toArray, List.append_toArray, List.nil_append, List.cons_append]
  gi_wp2_with (first
    | (refine ⟨trivial, ?_⟩; gi_at_call 82; refine (callsIn_wide.2 (allT _ _)).mono ?_; rintro e w' ⟨rfl, rfl⟩))
  obtain ⟨W0, hW0⟩ : ∃ W0, W0 = ((w.alloc (.cells #[.pointer (some ⟨g, 0, none⟩)] 58)).alloc (.cells #[.slice none 0 0] 66)).alloc (.cells #[.pointer (some ⟨g, 0, none⟩)] 33) := ⟨_, rfl⟩
  have hB0 : Below w.heap.size w W0 := by rw [hW0]; exact (((Below.refl _ w).alloc (Nat.le_refl _) _).alloc (by simp) _).alloc (by simp; omega) _
  have hsz : W0.heap.size = w.heap.size + 3 := by rw [hW0]; simp
  have bT : W0.heap[w.heap.size]? = some (.cells #[.pointer (some ⟨g, 0, none⟩)] 58 (0, 0)) := by
    rw [hW0]
    exact ((Boxed.new w 58 (.pointer (some ⟨g, 0, none⟩))).alloc _).alloc _
  have bB : Boxed W0 (w.heap.size + 1) 66 (.slice none 0 0) := by
    rw [hW0]
    have := (Boxed.new (w.alloc (.cells #[.pointer (some ⟨g, 0, none⟩)] 58)) 66 (.slice none 0 0)).alloc (.cells #[.pointer (some ⟨g, 0, none⟩)] 33)
    simpa using this
  have bA : W0.cell? ⟨w.heap.size + 1 + 1, 0, none⟩ = some (.pointer (some ⟨g, 0, none⟩)) := by
    rw [hW0]
    have := (Boxed.new ((w.alloc (.cells #[.pointer (some ⟨g, 0, none⟩)] 58)).alloc (.cells #[.slice none 0 0] 66)) 33 (.pointer (some ⟨g, 0, none⟩))).cell
    simpa using this
  rw [← hW0]
  have hx0 := h.below hB0
  have hfoot : ∀ x ∈ foot g m sv, x ∉ [w.heap.size + 1] := fun x hx hm => by have := (h.foot_lt x hx).2; have := List.mem_singleton.1 hm; omega
  clear hW0
  refine wpIn_rangeFunc_ownG (n := 6) rfl (by omega) (gf := 102) (lb := #[.pointer (some ⟨w.heap.size + 1 + 1, 0, none⟩)]) rfl trivial (enters_of Try.func102 (by kernel_rfl) rfl)
    (allX_stops 5 (by omega) (w.heap.size + 1 + 1) (w.heap.size + 1) hx0 (by omega) (by omega) (by omega) hfoot bA) Kx.trans (fun W l o o' h1 h2 h3 h4 => Kx.of_below (belowK_b (Nat.le_refl _) W l o o' h1 h2 h3 h4)) (Below.refl _ W0) (fun _ => rfl)
    (fun pre W' => (∃ v, Boxed W' (w.heap.size + 1) 66 v ∧ W'.ownsRow W0.heap.size 3 1 v pre.length (idsOf pre) ∧ True) ∧ Turns [w.heap.size + 1] W0 W')
    (fun _ _ _ => False)
    (OwnFrom.and (Own.from (holdsRow_own _ _ _ _ _ (fun pre => pre.length) idsOf (fun _ _ => True)) _) (ownFrom_turnsT (Nat.le_refl _)))
    (fun _ _ _ _ _ hs _ _ => hs)
    ⟨⟨_, bB, World.ownsRow_nil _ _ _ _, trivial⟩, Turns.refl _ _⟩
    (fun x => { tmps := #[.pointer (some ⟨g, 0, none⟩), .pointer (some ⟨w.heap.size, 0, none⟩), .slice none 0 0, .pointer (some ⟨w.heap.size + 1, 0, none⟩), .int .i64 (x.1 : Int), .pointer (some ⟨g, 0, none⟩), .bool false, .pointer (some ⟨g, 0, none⟩), .pointer (some ⟨g, 0, none⟩), .pointer (some ⟨g, 0, none⟩), .func (.func 102) #[] #[.pointer (some ⟨w.heap.size + 1 + 1, 0, none⟩)], .int .i64 (x.1 : Int), .agg #[.int .i64 x.2.k, .int .i64 x.2.n, .string x.2.s], undef, undef, undef, undef, undef, undef, undef, undef], defers := [] }) ?assign ?body ?done ?stop
  case assign =>
    intro l x W K hK
    gi_wp2
    exact hK
  case body =>
    rintro l pre x W' ⟨⟨v, hv, hrow, -⟩, hT⟩ hlt
    have hs := hT.size
    have hpl : pre.length < ks.length := hlt
    obtain ⟨va, vc, rfl, _, _⟩ := own_lenC hrow
    have c0 := hv.cell
    have SS := Lib.hid (idsOf_snoc pre x)
    gi_wp2_with (gi_at_builtin; refine wpListIn_append_own _ rfl _ _ 66 rfl W0.heap.size 3 i0 (.int .i64 0) 1 8 Try.underlying66 hi hz0 hz1 hz2 rfl (by decide) _ _ _ rfl (hrow.alloc _) ⟨W'.heap.size, 0, none⟩ 1 1 [.int .i64 (x.1 : Int)] rfl rfl (cell_one_new _ _ _) (by simp [Value.oneCell']) (by unfold maxLen; omega) (by omega) (by simp; omega) ?_; intro v' w1 hown' hgrow _; obtain ⟨g', cap', rfl⟩ := ownsRow_succ hown'; obtain ⟨hv1, hv2, hr2, hk2, hb2, hT2⟩ := pushN (by omega) hv hrow hT hown' hgrow; have hc1 := hv1.cell; have hf1 := hv1.frozen)
    exact ⟨hk2.from _, hb2, ⟨_, hv2, by rw [SS.out, List.length_append]; exact hr2, trivial⟩, hT2⟩
  case done =>
    rintro D ys W' hD rfl ⟨⟨v, hv, hrow, -⟩, hT⟩ hK
    rw [pairsT_length, idsOf_pairs] at hrow
    have hO : OwnN W' W0.heap.size v (List.range ks.length) := by unfold OwnN; rw [List.length_range]; exact hrow
    have hs := hT.size
    have hB' : Below w.heap.size w W' := hB0.trans (hT.below (by omega) (fun x hx => by simp only [List.mem_cons, List.not_mem_nil, or_false] at hx; omega))
    have hx' : IdsAt Try.prog kindT base W' g m sv ks := hx0.turns hT hfoot
    have c0 := hv.cell
    have cT : W'.cell? ⟨w.heap.size, 0, none⟩ = some (.pointer (some ⟨g, 0, none⟩)) := (hT.cell (by omega) (by simp)).trans (cell_of_row W0 _ 0 _ _ _ bT)
    have SC := Lib.hid (sortIds_any hx' hO cT hs (by omega) (fun x hx => by have := (h.foot_lt x hx).2; omega) hlen)
    have hnB : ∀ b, v.ownBlock = some b → b ≠ w.heap.size + 1 := fun b hb => by have := (ownBlock_cells hrow hb).1; omega
    have HF := Lib.hid (And.intro hB' (And.intro hK (And.intro hD (And.intro hrow hv))))
    clear hx' hO cT hrow hT hK hv hB'
    gi_wp2_with (refine ⟨trivial, ?_⟩; gi_at_call 83; refine (callsIn_wide.2 SC.out).mono ?_; rintro e w4 ⟨rfl, l, q1, q2, q3, q4⟩; obtain ⟨c4, hK4, HB4, hO4⟩ := sortedEnd HF.out.1 HF.out.2.1 HF.out.2.2.1 hsz HF.out.2.2.2.1 c0 q3 q4; have HE := Lib.hid (show _ ∧ OwnN _ _ _ _ ∧ l.Perm _ ∧ SdIds ks l ∧ _ from ⟨hK4, hO4, q1, q2, HB4⟩); clear hK4 hO4 q1 q2 HB4 q3 q4)
    refine ⟨by simp, .inl ⟨_, _, rfl, run_takeDeferred HE.out.1, ?_⟩⟩
    refine ⟨_, results_tmp (t := 2) rfl _ _ _, ?_⟩
    exact ⟨_, _, rfl, HE.out.2⟩
  case stop =>
    rintro D c pre W' _ _ h _
    exact h.elim
end Go.Proofs.Ytblonickpmogiaa
