/- The walk of `every`. -/
import Derived.Test.YtblonickpmogiaaIdsEvery
import Derived.Test.YtblonickpmogiaaIdsStep
import Derived.Sort.QuietIn
namespace Go.Proofs.Ytblonickpmogiaa
open Go.RowKit Go.Maps Go.Shelf
attribute [local go_sem] Oper.semAt_some

set_option maxRecDepth 100000 in
set_option maxHeartbeats 4000000 in
theorem everyS {base : Nat} {w : World} {g m : Nat} {s : Value} {ks : List ByteArray} (h : IdsAt Try.prog kindS base w g m s ks) (hb : base ≤ w.heap.size) (K : ByteArray) (hK : K.size ≤ maxLen) (N : Int) (hlen : ks.length ≤ 1000000000000) :
    Calls Try.prog 68 #[.pointer (some ⟨g, 0, none⟩), .string K, .int .i64 N] w fun e w' => ∃ u v, e = .returned (.tuple #[u, v, .bool true]) ∧
      w'.ownsRow w.heap.size 9 1 u ((addK ks K).take N.toNat).length (((addK ks K).take N.toNat).map Value.string) ∧ w'.ownsRow w.heap.size 9 1 v (addK ks K).length ((addK ks K).map Value.string) ∧
      Left Try.prog kindS base w g m s (addK ks K) w' := by
  have hq : ∀ (w : World) (f : Fn) (a b : Array Value), (binOp .eql 124 (.func f a b) .nilFunc).run Try.prog w = .ok (.bool false) w := fun w f a b => run_eql_func_nil w _ f a b Try.underlying124
  obtain ⟨i0, hi, hz0, hz1, hz2⟩ := info_parts infoS
  refine (callsIn_wide (n := 6)).1 ?_
  refine callsIn_of_wp_marks Try.func68 rfl trivial ?_ rfl
  simp only [Try.ntmps68, List.size_toArray, List.length_cons, List.length_nil, Nat.reduceAdd, Nat.reduceSub, Array.replicate_succ, Array.replicate_zero, List.push_toArray, List.append_toArray, List.nil_append, List.cons_append]
  obtain ⟨r, hx, -⟩ := intern_two (ks := ks) K hK (by omega)
  have b0 : Below w.heap.size w ((w.alloc (.cells #[.int .i64 N] 3)).alloc (.cells #[.pointer (some ⟨g, 0, none⟩)] 47)) := ((Below.refl _ w).alloc (Nat.le_refl _) _).alloc (by simp) _
  have HC := Lib.hid (hx base _ g m s (Nat.le_trans hb b0.size) (h.below b0))
  have hb5 : ((w.alloc (.cells #[.int .i64 N] 3)).alloc (.cells #[.pointer (some ⟨g, 0, none⟩)] 47)).heap[w.heap.size]? = some (.cells #[.int .i64 N] 3 (0, 0)) := (Boxed.new w 3 (.int .i64 N)).alloc _
  have hbx : ((w.alloc (.cells #[.int .i64 N] 3)).alloc (.cells #[.pointer (some ⟨g, 0, none⟩)] 47)).heap[w.heap.size + 1]? = some (.cells #[.pointer (some ⟨g, 0, none⟩)] 47 (0, 0)) := by
    have := Boxed.new (w.alloc (.cells #[.int .i64 N] 3)) 47 (.pointer (some ⟨g, 0, none⟩))
    rw [World.size_alloc] at this
    exact this
  clear hx
  gi_upto_if 25 with (first
    | (refine ⟨trivial, ?_⟩; gi_at_call 85; refine (callsIn_wide.2 (allS _ _)).mono ?_; rintro e w' ⟨rfl, rfl⟩)
    | (refine ⟨trivial, ?_⟩; gi_at_call 64; refine (callsIn_wide.2 HC.out).mono ?_; rintro e w3 ⟨rfl, HL⟩; have bN : Boxed w3 w.heap.size 3 (.int .i64 N) := left_box HL h (Nat.le_refl _) hb5; have cN3 := (((bN.alloc (.cells #[.slice none 0 0] 43)).alloc (.cells #[.slice none 0 0] 43)).alloc (.cells #[.bool true] 4)).cell; have bX := left_box HL h (Nat.le_succ _) hbx; have HH := Lib.hid HL; clear HL))
  rename_i Kc hKc
  obtain ⟨s', hx', ht', hfr'⟩ := HH.out
  have hal := addK_len ks K
  obtain ⟨aks, haks⟩ : ∃ aks, aks = addK ks K := ⟨_, rfl⟩
  rw [← haks] at hx' hal
  have bB0 := ((Boxed.new w3 43 (.slice none 0 0)).alloc (.cells #[.slice none 0 0] 43)).alloc (.cells #[.bool true] 4)
  have bB1 := (Boxed.new (w3.alloc (.cells #[.slice none 0 0] 43)) 43 (.slice none 0 0)).alloc (.cells #[.bool true] 4)
  have bB2 := Boxed.new ((w3.alloc (.cells #[.slice none 0 0] 43)).alloc (.cells #[.slice none 0 0] 43)) 4 (.bool true)
  rw [World.size_alloc] at bB1
  rw [World.size_alloc, World.size_alloc] at bB2
  have hbl : Below w3.heap.size w3 (((w3.alloc (.cells #[.slice none 0 0] 43)).alloc (.cells #[.slice none 0 0] 43)).alloc (.cells #[.bool true] 4)) := (((Below.refl _ w3).alloc (Nat.le_refl _) _).alloc (by simp) _).alloc (by simp; omega) _
  have hw3 : w.heap.size + 2 ≤ w3.heap.size := by have := ht'.size; simpa using this
  have hxlen : aks.length ≤ 6000000000000 := by omega
  have bXc : w3.cell? ⟨w.heap.size + 1, 0, none⟩ = some (.pointer (some ⟨g, 0, none⟩)) := cell_of_row w3 _ 0 _ _ _ bX
  clear bX
  have key : ∀ (ds : List Deferred) (c25 c26 v1 : Value) (W : World), Below w3.heap.size w3 W → Boxed W w3.heap.size 43 v1 → Boxed W (w3.heap.size + 1) 43 (.slice none 0 0) → Boxed W (w3.heap.size + 1 + 1) 4 (.bool true) →
      W.ownsRow w3.heap.size 9 1 v1 (aks.take N.toNat).length ((aks.take N.toNat).map Value.string) → Marked w3.heap.size ds W → Kc { tmps := #[.pointer (some ⟨g, 0, none⟩), .string K, .int .i64 N, undef, undef, .pointer (some ⟨w.heap.size, 0, none⟩), .slice none 0 0, .slice none 0 0, .bool false, .func (.func 104) #[] #[.pointer (some ⟨w.heap.size + 1, 0, none⟩)], .pointer (some ⟨w3.heap.size, 0, none⟩), .pointer (some ⟨w3.heap.size + 1, 0, none⟩), .pointer (some ⟨w3.heap.size + 1 + 1, 0, none⟩), undef, undef, undef, undef, .pointer (some ⟨g, 0, none⟩), .func (.func 104) #[] #[.pointer (some ⟨w.heap.size + 1, 0, none⟩)], .func (.func 104) #[] #[.pointer (some ⟨w.heap.size + 1, 0, none⟩)], .bool false, .pointer (some ⟨g, 0, none⟩), .string K, .int .i64 r, .int .i64 N, c25, c26, undef, undef, undef, undef, undef, undef, undef, undef, undef, undef, undef, undef, undef, undef, undef, undef, undef, undef, undef, undef, undef, undef, undef, undef, undef, undef, undef, undef, undef, undef, undef, undef, undef, undef], defers := ds } W := by
    intro ds c25 c26 v1 W hB h0 h1 h2 hr1 hM
    refine hKc _ _ ?_
    gi_wp2
    refine wpIn_rangeFunc_ownG (n := 6) rfl (by omega) (gf := 104) (lb := #[.pointer (some ⟨w.heap.size + 1, 0, none⟩)]) rfl trivial (enters_of Try.func104 (by kernel_rfl) rfl)
      (allS_stops 5 (by omega) (w.heap.size + 1) hx' hxlen (by omega) bXc) belowK_t (belowK_b hB.size) hB (fun _ => rfl)
      (fun pre W' => (∃ v, Boxed W' (w3.heap.size + 1) 43 v ∧ W'.ownsRow W.heap.size 9 1 v pre.length (strs pre) ∧ True) ∧ Boxed W' (w3.heap.size + 1 + 1) 4 (.bool (idsOk pre)) ∧ Turns [w3.heap.size + 1, w3.heap.size + 1 + 1] W W')
      (fun _ _ _ => False)
      (OwnFrom.and (Own.from (holdsRow_own _ _ _ _ _ (fun pre => pre.length) strs (fun _ _ => True)) _) (OwnFrom.and (Own.from (boxed_own _ _ (fun pre => .bool (idsOk pre))) _) (ownFrom_turns (Nat.le_refl _))))
      (fun _ _ _ _ _ hs _ _ => hs)
      ⟨⟨_, h1, World.ownsRow_nil _ _ _ _, trivial⟩, h2, Turns.refl _ _⟩
      (fun x => { tmps := #[.pointer (some ⟨g, 0, none⟩), .string K, .int .i64 N, undef, undef, .pointer (some ⟨w.heap.size, 0, none⟩), .slice none 0 0, .slice none 0 0, .bool false, .func (.func 104) #[] #[.pointer (some ⟨w.heap.size + 1, 0, none⟩)], .pointer (some ⟨w3.heap.size, 0, none⟩), .pointer (some ⟨w3.heap.size + 1, 0, none⟩), .pointer (some ⟨w3.heap.size + 1 + 1, 0, none⟩), undef, undef, .int .i64 (x.1 : Int), .string x.2, .pointer (some ⟨g, 0, none⟩), .func (.func 104) #[] #[.pointer (some ⟨w.heap.size + 1, 0, none⟩)], .func (.func 104) #[] #[.pointer (some ⟨w.heap.size + 1, 0, none⟩)], .bool false, .pointer (some ⟨g, 0, none⟩), .string K, .int .i64 r, .int .i64 N, c25, c26, undef, undef, undef, undef, undef, undef, undef, undef, undef, undef, undef, undef, undef, undef, undef, undef, undef, .func (.func 104) #[] #[.pointer (some ⟨w.heap.size + 1, 0, none⟩)], .int .i64 (x.1 : Int), .string x.2, undef, undef, undef, undef, undef, undef, undef, undef, undef, undef, undef, undef, undef, undef], defers := [] }) ?assign ?body ?done ?stop
    case assign =>
      intro l x W K hK
      gi_wp2
      exact hK
    case body =>
      rintro l pre x W' ⟨⟨v, hv, hrow, -⟩, hf, hT⟩ hlt
      have hsz := hB.size
      have hs := hT.size
      have hpl : pre.length < aks.length := hlt
      obtain ⟨va, vc, rfl, _, _⟩ := own_len hrow
      have c0 := hv.cell
      have cf := hf.cell
      have ff := hf.frozen
      have SN := Lib.hid (idsOk_snoc pre x)
      have SS := Lib.hid (strs_snoc pre x)
      rcases hok : idsOk pre with _ | _
      all_goals rw [hok] at cf hf SN
      · obtain ⟨hv', hrow', hf', hT', hk', hb'⟩ := flagged (b' := .bool false) (S := [w3.heap.size + 1, w3.heap.size + 1 + 1]) (B2 := w3.heap.size + 1 + 1) (n₀ := w3.heap.size) (by simp) (by omega) (by omega) hv hrow hf hT
        have c1 := hv'.cell
        gi_wp2_with (gi_at_builtin; refine wpListIn_append_own _ rfl _ _ 43 rfl W.heap.size 9 i0 (.string ⟨#[]⟩) 1 16 Try.underlying43 hi hz0 hz1 hz2 rfl (by decide) _ _ _ rfl (hrow'.alloc _) ⟨W'.heap.size, 0, none⟩ 1 1 [.string x.2] rfl rfl (cell_one_set _ _ _ _ _) (by simp [Value.oneCell']) (by unfold maxLen; omega) (by omega) (by simp; omega) ?_; intro v' w1 hown' hgrow _; obtain ⟨g', cap', rfl⟩ := ownsRow_succ hown'; obtain ⟨hv1, hv2, hr2, hk2, hb2, hT2⟩ := push1 (S := [w3.heap.size + 1, w3.heap.size + 1 + 1]) (n₀ := w3.heap.size) (by simp) hsz (by omega) hv' hrow' hT' hown' hgrow; have hf2 := push1_box (v' := .slice (some ⟨g', 0, none⟩) (pre.length + 1) cap') (B1 := w3.heap.size + 1) (by decide) (by omega) hrow' hf' hgrow; have hc1 := hv1.cell; have hf1 := hv1.frozen)
        exact ⟨(hk'.trans hk2).from _, hb'.trans hb2, ⟨_, hv2, by rw [SS.out, List.length_append]; exact hr2, trivial⟩, by rw [SN.out]; exact hf2, hT2⟩
      · obtain ⟨hv', hrow', hf', hT', hk', hb'⟩ := flagged (b' := .bool ((x.1 : Int) == (pre.length : Int))) (S := [w3.heap.size + 1, w3.heap.size + 1 + 1]) (B2 := w3.heap.size + 1 + 1) (n₀ := w3.heap.size) (by simp) (by omega) (by omega) hv hrow hf hT
        have c1 := hv'.cell
        gi_wp2_with (gi_at_builtin; refine wpListIn_append_own _ rfl _ _ 43 rfl W.heap.size 9 i0 (.string ⟨#[]⟩) 1 16 Try.underlying43 hi hz0 hz1 hz2 rfl (by decide) _ _ _ rfl (hrow'.alloc _) ⟨W'.heap.size, 0, none⟩ 1 1 [.string x.2] rfl rfl (cell_one_set _ _ _ _ _) (by simp [Value.oneCell']) (by unfold maxLen; omega) (by omega) (by simp; omega) ?_; intro v' w1 hown' hgrow _; obtain ⟨g', cap', rfl⟩ := ownsRow_succ hown'; obtain ⟨hv1, hv2, hr2, hk2, hb2, hT2⟩ := push1 (S := [w3.heap.size + 1, w3.heap.size + 1 + 1]) (n₀ := w3.heap.size) (by simp) hsz (by omega) hv' hrow' hT' hown' hgrow; have hf2 := push1_box (v' := .slice (some ⟨g', 0, none⟩) (pre.length + 1) cap') (B1 := w3.heap.size + 1) (by decide) (by omega) hrow' hf' hgrow; have hc1 := hv1.cell; have hf1 := hv1.frozen)
        exact ⟨(hk'.trans hk2).from _, hb'.trans hb2, ⟨_, hv2, by rw [SS.out, List.length_append]; exact hr2, trivial⟩, by rw [SN.out]; exact hf2, hT2⟩
    case done =>
      rintro D ys W' hD rfl ⟨⟨v, hv, hrow, -⟩, hf, hT⟩ hK
      have hsz := hB.size
      have hs := hT.size
      have h0' : Boxed W' w3.heap.size 43 v1 := (hT.block _ h0.lt (by simp; omega)).trans h0
      have c0 := h0'.cell
      have c1 := hv.cell
      have c2 := hf.cell
      rw [idsOk_pairs] at c2
      have r1' : W'.ownsRow w3.heap.size 9 1 v1 (aks.take N.toNat).length ((aks.take N.toNat).map Value.string) := ownsRow_turns hr1 hT (fun b hb => by
        have q1 := h1.not_row (by decide) hr1
        have q2 := h2.not_row (by decide) hr1
        rw [hb] at q1 q2
        simp only [List.mem_cons, List.not_mem_nil, or_false]
        rintro (rfl | rfl)
        · exact q1 rfl
        · exact q2 rfl)
      have hB' : Below w3.heap.size w3 W' := hB.trans (hT.below hsz (fun x hx => by simp only [List.mem_cons, List.not_mem_nil, or_false] at hx; rcases hx with rfl | rfl <;> omega))
      have fin : ∀ X : World, Below w3.heap.size w3 X → X.ownsRow w3.heap.size 9 1 v1 (aks.take N.toNat).length ((aks.take N.toNat).map Value.string) → X.ownsRow W.heap.size 9 1 v (pairs aks aks.length).length (strs (pairs aks aks.length)) →
          ∃ u v', Ending.returned (.tuple #[v1, v, .bool true]) = .returned (.tuple #[u, v', .bool true]) ∧
            X.ownsRow w.heap.size 9 1 u ((addK ks K).take N.toNat).length (((addK ks K).take N.toNat).map Value.string) ∧ X.ownsRow w.heap.size 9 1 v' (addK ks K).length ((addK ks K).map Value.string) ∧
            Left Try.prog kindS base w g m s (addK ks K) X := by
        intro X hX q1 q2
        rw [pairs_length, strs_pairs aks (Nat.le_refl _), List.take_length] at q2
        rw [← haks]
        refine ⟨v1, v, rfl, ownsRow_weak q1 (by omega), ownsRow_weak q2 (by omega), s', hx'.below hX, ?_, ?_⟩
        · exact ((Turns.of_below (S := foot g m s) b0).trans ht' (fun x hx => .inl hx)).trans (Turns.of_below (S := []) hX) (fun x hx => by simp at hx)
        · intro b hbb
          rcases hfr' b hbb with q | q
          · exact .inl q
          · exact .inr (Nat.le_trans b0.size q)
      have FIN := Lib.hid fin
      have HD := Lib.hid hD
      clear fin
      gi_wp2
      gi_quiet (fail)
      gi_wp2
      have hKn : (W'.drewN nq).heap[D]? = some (.deferred (some [])) := hK
      refine ⟨by simp, .inl ⟨_, _, rfl, run_takeDeferred hKn, ?_⟩⟩
      have hBn : Below w3.heap.size w3 ((W'.drewN nq).putObj D (.deferred none)) := (hB'.trans (drewN_below (Below.refl _ _) nq)).trans (belowK_b (w := w3) (Nat.le_refl _) _ D _ _ (by have := HD.out; omega) hKn rfl rfl)
      have e1 : ((W'.drewN nq).putObj D (.deferred none)).ownsRow w3.heap.size 9 1 v1 (aks.take N.toNat).length ((aks.take N.toNat).map Value.string) := ownsRow_putObj (W := W'.drewN nq) r1' _ hKn rfl
      have e2 : ((W'.drewN nq).putObj D (.deferred none)).ownsRow W.heap.size 9 1 v (pairs aks aks.length).length (strs (pairs aks aks.length)) := ownsRow_putObj (W := W'.drewN nq) hrow _ hKn rfl
      rcases hM with rfl | ⟨D1, rfl, hD1, hK1⟩
      · exact ⟨_, results_tmp3 (t := 6) (u := 7) (v := 8) rfl _ _ _, FIN.out _ hBn e1 e2⟩
      · have hlt1 : D1 < W.heap.size := (Array.getElem?_eq_some_iff.1 hK1).1
        have hm1 : D1 ∉ [w3.heap.size + 1, w3.heap.size + 1 + 1] := by
          simp only [List.mem_cons, List.not_mem_nil, or_false]
          rintro (rfl | rfl)
          · rw [show W.heap[w3.heap.size + 1]? = _ from h1] at hK1; cases hK1
          · rw [show W.heap[w3.heap.size + 1 + 1]? = _ from h2] at hK1; cases hK1
        have hK1n : ((W'.drewN nq).putObj D (.deferred none)).heap[D1]? = some (.deferred (some [])) := (World.putObj_heap_other (by have := HD.out; omega)).trans ((hT.block D1 hlt1 hm1).trans hK1)
        refine ⟨by simp, .inl ⟨_, _, rfl, run_takeDeferred hK1n, ?_⟩⟩
        exact ⟨_, results_tmp3 (t := 6) (u := 7) (v := 8) rfl _ _ _, FIN.out _ (hBn.trans (belowK_b (w := w3) (Nat.le_refl _) _ D1 _ _ hD1 hK1n rfl rfl)) (ownsRow_putObj e1 _ hK1n rfl) (ownsRow_putObj e2 _ hK1n rfl)⟩
    case stop =>
      rintro D c pre W' _ _ h _
      exact h.elim
  have hq0 := bB0.lt
  obtain ⟨W0, hW0⟩ : ∃ W0, W0 = ((w3.alloc (.cells #[.slice none 0 0] 43)).alloc (.cells #[.slice none 0 0] 43)).alloc (.cells #[.bool true] 4) := ⟨_, rfl⟩
  rw [← hW0] at bB0 bB1 bB2 hbl cN3 hq0 ⊢
  have hs3 := hbl.size
  have hlt2 := bB2.lt
  clear hW0
  by_cases hN : 0 < N
  · have hN' : ¬ N ≤ 0 := by omega
    gi_wp2
    refine wpIn_rangeFunc_ownG (n := 6) rfl (by omega) (gf := 104) (lb := #[.pointer (some ⟨w.heap.size + 1, 0, none⟩)]) rfl trivial (enters_of Try.func104 (by kernel_rfl) rfl)
      (allS_stops 5 (by omega) (w.heap.size + 1) hx' hxlen (by omega) bXc) belowK_t (belowK_b hbl.size) hbl (fun _ => rfl)
      (fun pre W' => (∃ v, Boxed W' w3.heap.size 43 v ∧ W'.ownsRow W0.heap.size 9 1 v pre.length (strs pre) ∧ True) ∧ Boxed W' (w3.heap.size + 1 + 1) 4 (.bool (idsOk pre)) ∧ Turns [w3.heap.size, w3.heap.size + 1 + 1] W0 W' ∧ (pre.length : Int) < N)
      (fun c pre W' => c = .exit 0 ∧ (∃ v, Boxed W' w3.heap.size 43 v ∧ W'.ownsRow W0.heap.size 9 1 v pre.length (strs pre) ∧ True) ∧ Boxed W' (w3.heap.size + 1 + 1) 4 (.bool (idsOk pre)) ∧ Turns [w3.heap.size, w3.heap.size + 1 + 1] W0 W' ∧ (pre.length : Int) = N)
      (OwnFrom.and (Own.from (holdsRow_own _ _ _ _ _ (fun pre => pre.length) strs (fun _ _ => True)) _) (OwnFrom.and (Own.from (boxed_own _ _ (fun pre => .bool (idsOk pre))) _) (OwnFrom.and (ownFrom_turns (Nat.le_refl _)) (ownFrom_pure _ (fun (pre : List (Nat × ByteArray)) => (pre.length : Int) < N)))))
      (fun c => OwnFrom.and (ownFrom_pure _ (fun (_ : List (Nat × ByteArray)) => c = .exit 0)) (OwnFrom.and (Own.from (holdsRow_own _ _ _ _ _ (fun pre => pre.length) strs (fun _ _ => True)) _) (OwnFrom.and (Own.from (boxed_own _ _ (fun pre => .bool (idsOk pre))) _) (OwnFrom.and (ownFrom_turns (Nat.le_refl _)) (ownFrom_pure _ (fun (pre : List (Nat × ByteArray)) => (pre.length : Int) = N))))))
      ⟨⟨_, bB0, World.ownsRow_nil _ _ _ _, trivial⟩, bB2, Turns.refl _ _, hN⟩
      (fun x => { tmps := #[.pointer (some ⟨g, 0, none⟩), .string K, .int .i64 N, undef, undef, .pointer (some ⟨w.heap.size, 0, none⟩), .slice none 0 0, .slice none 0 0, .bool false, .func (.func 104) #[] #[.pointer (some ⟨w.heap.size + 1, 0, none⟩)], .pointer (some ⟨w3.heap.size, 0, none⟩), .pointer (some ⟨w3.heap.size + 1, 0, none⟩), .pointer (some ⟨w3.heap.size + 1 + 1, 0, none⟩), .int .i64 (x.1 : Int), .string x.2, undef, undef, .pointer (some ⟨g, 0, none⟩), .func (.func 104) #[] #[.pointer (some ⟨w.heap.size + 1, 0, none⟩)], .func (.func 104) #[] #[.pointer (some ⟨w.heap.size + 1, 0, none⟩)], .bool false, .pointer (some ⟨g, 0, none⟩), .string K, .int .i64 r, .int .i64 N, .bool true, .func (.func 104) #[] #[.pointer (some ⟨w.heap.size + 1, 0, none⟩)], .int .i64 (x.1 : Int), .string x.2, undef, undef, undef, undef, undef, undef, undef, undef, undef, undef, undef, undef, undef, undef, undef, undef, undef, undef, undef, undef, undef, undef, undef, undef, undef, undef, undef, undef, undef, undef, undef, undef], defers := [] }) ?assign ?body ?done ?stop
    case assign =>
      intro l x W K hK
      gi_wp2
      exact hK
    case body =>
      rintro l pre x W' ⟨⟨v, hv, hrow, -⟩, hf, hT, hpN⟩ hlt
      have hsz := hbl.size
      have hs := hT.size
      have hpl : pre.length < aks.length := hlt
      obtain ⟨va, vc, rfl, _, _⟩ := own_len hrow
      have c0 := hv.cell
      have cf := hf.cell
      have ff := hf.frozen
      have SN := Lib.hid (idsOk_snoc pre x)
      have SS := Lib.hid (strs_snoc pre x)
      rcases hok : idsOk pre with _ | _
      all_goals rw [hok] at cf hf SN
      · obtain ⟨hv', hrow', hf', hT', hk', hb'⟩ := flagged (b' := .bool false) (S := [w3.heap.size, w3.heap.size + 1 + 1]) (B2 := w3.heap.size + 1 + 1) (n₀ := w3.heap.size) (by simp) (by omega) (by omega) hv hrow hf hT
        have c1 := hv'.cell
        gi_wp2_with (gi_at_builtin; refine wpListIn_append_own _ rfl _ _ 43 rfl W0.heap.size 9 i0 (.string ⟨#[]⟩) 1 16 Try.underlying43 hi hz0 hz1 hz2 rfl (by decide) _ _ _ rfl (hrow'.alloc _) ⟨W'.heap.size, 0, none⟩ 1 1 [.string x.2] rfl rfl (cell_one_set _ _ _ _ _) (by simp [Value.oneCell']) (by unfold maxLen; omega) (by omega) (by simp; omega) ?_; intro v' w1 hown' hgrow _; obtain ⟨g', cap', rfl⟩ := ownsRow_succ hown'; obtain ⟨hv1, hv2, hr2, hk2, hb2, hT2⟩ := push1 (S := [w3.heap.size, w3.heap.size + 1 + 1]) (n₀ := w3.heap.size) (by simp) hsz (Nat.le_refl _) hv' hrow' hT' hown' hgrow; have hf2 := push1_box (v' := .slice (some ⟨g', 0, none⟩) (pre.length + 1) cap') (B1 := w3.heap.size) (by decide) (by omega) hrow' hf' hgrow; have hc1 := hv1.cell; have hf1 := hv1.frozen; have hc5 : (w1.setCell ⟨w3.heap.size, 0, none⟩ (.slice (some ⟨g', 0, none⟩) (pre.length + 1) cap')).cell? ⟨w.heap.size, 0, none⟩ = some (.int .i64 N) := ((hT2.cell (by omega) (by simp; omega)).trans cN3); have hc6 := hv2.cell)
        · exact ⟨(hk'.trans hk2).from _, rfl, ⟨_, hv2, by rw [SS.out, List.length_append]; exact hr2, trivial⟩, by rw [SN.out]; exact hf2, hT2, by rw [List.length_append]; simp; omega⟩
        · exact ⟨(hk'.trans hk2).from _, hb'.trans hb2, ⟨_, hv2, by rw [SS.out, List.length_append]; exact hr2, trivial⟩, by rw [SN.out]; exact hf2, hT2, by rw [List.length_append]; simp; omega⟩
      · obtain ⟨hv', hrow', hf', hT', hk', hb'⟩ := flagged (b' := .bool ((x.1 : Int) == (pre.length : Int))) (S := [w3.heap.size, w3.heap.size + 1 + 1]) (B2 := w3.heap.size + 1 + 1) (n₀ := w3.heap.size) (by simp) (by omega) (by omega) hv hrow hf hT
        have c1 := hv'.cell
        gi_wp2_with (gi_at_builtin; refine wpListIn_append_own _ rfl _ _ 43 rfl W0.heap.size 9 i0 (.string ⟨#[]⟩) 1 16 Try.underlying43 hi hz0 hz1 hz2 rfl (by decide) _ _ _ rfl (hrow'.alloc _) ⟨W'.heap.size, 0, none⟩ 1 1 [.string x.2] rfl rfl (cell_one_set _ _ _ _ _) (by simp [Value.oneCell']) (by unfold maxLen; omega) (by omega) (by simp; omega) ?_; intro v' w1 hown' hgrow _; obtain ⟨g', cap', rfl⟩ := ownsRow_succ hown'; obtain ⟨hv1, hv2, hr2, hk2, hb2, hT2⟩ := push1 (S := [w3.heap.size, w3.heap.size + 1 + 1]) (n₀ := w3.heap.size) (by simp) hsz (Nat.le_refl _) hv' hrow' hT' hown' hgrow; have hf2 := push1_box (v' := .slice (some ⟨g', 0, none⟩) (pre.length + 1) cap') (B1 := w3.heap.size) (by decide) (by omega) hrow' hf' hgrow; have hc1 := hv1.cell; have hf1 := hv1.frozen; have hc5 : (w1.setCell ⟨w3.heap.size, 0, none⟩ (.slice (some ⟨g', 0, none⟩) (pre.length + 1) cap')).cell? ⟨w.heap.size, 0, none⟩ = some (.int .i64 N) := ((hT2.cell (by omega) (by simp; omega)).trans cN3); have hc6 := hv2.cell)
        · exact ⟨(hk'.trans hk2).from _, rfl, ⟨_, hv2, by rw [SS.out, List.length_append]; exact hr2, trivial⟩, by rw [SN.out]; exact hf2, hT2, by rw [List.length_append]; simp; omega⟩
        · exact ⟨(hk'.trans hk2).from _, hb'.trans hb2, ⟨_, hv2, by rw [SS.out, List.length_append]; exact hr2, trivial⟩, by rw [SN.out]; exact hf2, hT2, by rw [List.length_append]; simp; omega⟩
    case done =>
      rintro D ys W' hD rfl ⟨⟨v, hv, hrow, -⟩, hf, hT, hpN⟩ hK
      rw [pairs_length] at hpN
      rw [pairs_length, strs_pairs aks (Nat.le_refl _), List.take_length] at hrow
      rw [idsOk_pairs] at hf
      have hb1' : Boxed W' (w3.heap.size + 1) 43 (.slice none 0 0) := (hT.block _ bB1.lt (by simp)).trans bB1
      have hB' : Below w3.heap.size w3 W' := hbl.trans (hT.below hs3 (fun x hx => by simp only [List.mem_cons, List.not_mem_nil, or_false] at hx; rcases hx with rfl | rfl <;> omega))
      have hz : aks.take N.toNat = aks := List.take_of_length_le (by omega)
      gi_wp2
      exact key _ _ _ _ _ hB' hv hb1' hf (by rw [hz]; exact ownsRow_weak hrow hs3) (.inr ⟨D, rfl, by omega, hK⟩)
    case stop =>
      rintro D c pre W' hD ⟨k, hk, rfl⟩ ⟨rfl, ⟨v, hv, hrow, -⟩, hf, hT, hpN⟩ hK
      rw [pairs_length] at hpN
      rw [pairs_length, strs_pairs aks hk] at hrow
      rw [idsOk_pairs] at hf
      have hb1' : Boxed W' (w3.heap.size + 1) 43 (.slice none 0 0) := (hT.block _ bB1.lt (by simp)).trans bB1
      have hB' : Below w3.heap.size w3 W' := hbl.trans (hT.below hs3 (fun x hx => by simp only [List.mem_cons, List.not_mem_nil, or_false] at hx; rcases hx with rfl | rfl <;> omega))
      have hz : N.toNat = k := by omega
      have hzl : (aks.take N.toNat).length = k := by rw [hz, List.length_take]; omega
      gi_wp2
      exact key _ _ _ _ _ hB' hv hb1' hf (by rw [hzl, hz]; exact ownsRow_weak hrow hs3) (.inr ⟨D, rfl, by omega, hK⟩)
  · have hN' : N ≤ 0 := by omega
    have hz : N.toNat = 0 := by omega
    gi_wp2
    exact key _ _ _ _ _ hbl bB0 bB1 bB2 (by rw [hz]; exact World.ownsRow_nil _ _ _ _) (.inl rfl)
end Go.Proofs.Ytblonickpmogiaa
