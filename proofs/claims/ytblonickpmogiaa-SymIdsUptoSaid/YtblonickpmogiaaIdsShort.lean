/- The walk of `cutShort`: All is asked, the Ids is cut, then it is ranged over. -/
import Derived.Test.YtblonickpmogiaaIdsEvery
import Derived.Test.YtblonickpmogiaaIdsStep
namespace Go.Proofs.Ytblonickpmogiaa
open Go.RowKit Go.Maps Go.Shelf
attribute [local go_sem] Oper.semAt_some

set_option maxRecDepth 100000 in
set_option maxHeartbeats 4000000 in
theorem shortS {base : Nat} {w : World} {g m : Nat} {s : Value} {ks : List ByteArray} (h : IdsAt Try.prog kindS base w g m s ks) (N : Int) (n1 : -9223372036854775808 ≤ N) (n2 : N ≤ 9223372036854775807) (hlen : ks.length ≤ 1000000000000) :
    Calls Try.prog 74 #[.pointer (some ⟨g, 0, none⟩), .int .i64 N] w fun e w' => ∃ u, e = .returned (.tuple #[u, .bool true]) ∧
      w'.ownsRow w.heap.size 9 1 u (ks.take N.toNat).length ((ks.take N.toNat).map Value.string) ∧ Left Try.prog kindS base w g m s (ks.take N.toNat) w' := by
  have hq : ∀ (w : World) (f : Fn) (a b : Array Value), (binOp .eql 124 (.func f a b) .nilFunc).run Try.prog w = .ok (.bool false) w := fun w f a b => run_eql_func_nil w _ f a b Try.underlying124
  obtain ⟨i0, hi, hz0, hz1, hz2⟩ := info_parts infoS
  refine (callsIn_wide (n := 6)).1 ?_
  refine callsIn_of_wp_marks Try.func74 rfl trivial ?_ rfl
  simp only [Try.ntmps74, List.size_toArray, List.length_cons, List.length_nil, Nat.reduceAdd, Nat.reduceSub, Array.replicate_succ, Array.replicate_zero, List.push_toArray, List.append_toArray, List.nil_append, List.cons_append]
  have b0 : Below w.heap.size w (w.alloc (.cells #[.pointer (some ⟨g, 0, none⟩)] 47)) := (Below.refl _ w).alloc (Nat.le_refl _) _
  have HC := Lib.hid (cutS (h.below b0) N n1 n2 (by omega))
  have hbx := Boxed.new w 47 (.pointer (some ⟨g, 0, none⟩))
  gi_wp2_with (first
    | (refine ⟨trivial, ?_⟩; gi_at_call 85; refine (callsIn_wide.2 (allS _ _)).mono ?_; rintro e w' ⟨rfl, rfl⟩)
    | (refine ⟨trivial, ?_⟩; gi_at_call 72; refine (callsIn_wide.2 HC.out).mono ?_; rintro e w3 ⟨rfl, HL⟩; have bX := left_box HL h (Nat.le_refl _) hbx; have HH := Lib.hid HL; clear HL))
  obtain ⟨s', hx', ht', hfr'⟩ := HH.out
  obtain ⟨aks, haks⟩ : ∃ aks, aks = ks.take N.toNat := ⟨_, rfl⟩
  have hxl : aks.length ≤ 1000000000000 := by rw [haks, List.length_take]; omega
  have hxlen : aks.length ≤ 6000000000000 := by omega
  rw [← haks] at hx'
  have hw3 : w.heap.size + 1 ≤ w3.heap.size := by have := ht'.size; simpa using this
  have bXc : w3.cell? ⟨w.heap.size, 0, none⟩ = some (.pointer (some ⟨g, 0, none⟩)) := cell_of_row w3 _ 0 _ _ _ bX
  have bB := Boxed.new w3 43 (.slice none 0 0)
  have hB : Below w3.heap.size w3 (w3.alloc (.cells #[.slice none 0 0] 43)) := (Below.refl _ w3).alloc (Nat.le_refl _) _
  obtain ⟨W0, hW0⟩ : ∃ W0, W0 = w3.alloc (.cells #[.slice none 0 0] 43) := ⟨_, rfl⟩
  rw [← hW0] at bB hB ⊢
  have hsz := hB.size
  have hbl := bB.lt
  clear hW0 bX
  refine wpIn_rangeFunc_ownG (n := 6) rfl (by omega) (gf := 104) (lb := #[.pointer (some ⟨w.heap.size, 0, none⟩)]) rfl trivial (enters_of Try.func104 (by kernel_rfl) rfl)
    (allS_stops 5 (by omega) w.heap.size hx' hxlen (by omega) bXc) belowK_t (belowK_b hB.size) hB (fun _ => rfl)
    (fun pre W' => (∃ v, Boxed W' w3.heap.size 43 v ∧ W'.ownsRow W0.heap.size 9 1 v pre.length (strs pre) ∧ True) ∧ Turns [w3.heap.size] W0 W')
    (fun _ _ _ => False)
    (OwnFrom.and (Own.from (holdsRow_own _ _ _ _ _ (fun pre => pre.length) strs (fun _ _ => True)) _) (ownFrom_turns (Nat.le_refl _)))
    (fun _ _ _ _ _ hs _ _ => hs)
    ⟨⟨_, bB, World.ownsRow_nil _ _ _ _, trivial⟩, Turns.refl _ _⟩
    (fun x => { tmps := #[.pointer (some ⟨g, 0, none⟩), .int .i64 N, undef, undef, .slice none 0 0, .bool false, .func (.func 104) #[] #[.pointer (some ⟨w.heap.size, 0, none⟩)], .pointer (some ⟨w3.heap.size, 0, none⟩), undef, .string x.2, .pointer (some ⟨g, 0, none⟩), .func (.func 104) #[] #[.pointer (some ⟨w.heap.size, 0, none⟩)], .func (.func 104) #[] #[.pointer (some ⟨w.heap.size, 0, none⟩)], .bool false, .pointer (some ⟨g, 0, none⟩), .int .i64 N, .tuple #[], .func (.func 104) #[] #[.pointer (some ⟨w.heap.size, 0, none⟩)], .int .i64 (x.1 : Int), .string x.2, undef, undef, undef, undef, undef], defers := [] }) ?assign ?body ?done ?stop
  case assign =>
    intro l x W K hK
    gi_wp2
    exact hK
  case body =>
    rintro l pre x W' ⟨⟨v, hv, hrow, -⟩, hT⟩ hlt
    have hs := hT.size
    have hpl : pre.length < aks.length := hlt
    obtain ⟨va, vc, rfl, _, _⟩ := own_len hrow
    have c0 := hv.cell
    have SS := Lib.hid (strs_snoc pre x)
    gi_wp2_with (gi_at_builtin; refine wpListIn_append_own _ rfl _ _ 43 rfl W0.heap.size 9 i0 (.string ⟨#[]⟩) 1 16 Try.underlying43 hi hz0 hz1 hz2 rfl (by decide) _ _ _ rfl (hrow.alloc _) ⟨W'.heap.size, 0, none⟩ 1 1 [.string x.2] rfl rfl (cell_one_new _ _ _) (by simp [Value.oneCell']) (by unfold maxLen; omega) (by omega) (by simp; omega) ?_; intro v' w1 hown' hgrow _; obtain ⟨g', cap', rfl⟩ := ownsRow_succ hown'; obtain ⟨hv1, hv2, hr2, hk2, hb2, hT2⟩ := push1 (S := [w3.heap.size]) (n₀ := w3.heap.size) (by simp) hsz (Nat.le_refl _) hv hrow hT hown' hgrow; have hc1 := hv1.cell; have hf1 := hv1.frozen)
    exact ⟨hk2.from _, hb2, ⟨_, hv2, by rw [SS.out, List.length_append]; exact hr2, trivial⟩, hT2⟩
  case done =>
    rintro D ys W' hD rfl ⟨⟨v, hv, hrow, -⟩, hT⟩ hK
    rw [pairs_length, strs_pairs aks (Nat.le_refl _), List.take_length] at hrow
    have c0 := hv.cell
    have hB' : Below w3.heap.size w3 W' := hB.trans (hT.below hsz (fun x hx => by simp only [List.mem_cons, List.not_mem_nil, or_false] at hx; omega))
    have hX : Below w3.heap.size w3 (W'.putObj D (.deferred none)) := hB'.trans (belowK_b (w := w3) (Nat.le_refl _) _ D _ _ (by omega) hK rfl rfl)
    have FIN : Hid (∃ u, Ending.returned (.tuple #[v, .bool true]) = .returned (.tuple #[u, .bool true]) ∧ (W'.putObj D (.deferred none)).ownsRow w.heap.size 9 1 u (ks.take N.toNat).length ((ks.take N.toNat).map Value.string) ∧
        Left Try.prog kindS base w g m s (ks.take N.toNat) (W'.putObj D (.deferred none))) := by
      refine ⟨v, rfl, ?_, s', ?_, ?_, ?_⟩
      · rw [← haks]; exact ownsRow_weak (ownsRow_putObj hrow _ hK rfl) (by omega)
      · rw [← haks]; exact hx'.below hX
      · exact ((Turns.of_below (S := foot g m s) b0).trans ht' (fun x hx => .inl hx)).trans (Turns.of_below (S := []) hX) (fun x hx => by simp at hx)
      · intro b hbb
        rcases hfr' b hbb with q | q
        · exact .inl q
        · exact .inr (Nat.le_trans b0.size q)
    have HK := Lib.hid hK
    clear hX hB' hrow hT hK hv
    gi_wp2
    refine ⟨by simp, .inl ⟨_, _, rfl, run_takeDeferred HK.out, ?_⟩⟩
    refine ⟨_, results_tmp2 (t := 4) (u := 5) rfl _ _ _, ?_⟩
    exact FIN.out
  case stop =>
    rintro D c pre W' _ _ h _
    exact h.elim
end Go.Proofs.Ytblonickpmogiaa
