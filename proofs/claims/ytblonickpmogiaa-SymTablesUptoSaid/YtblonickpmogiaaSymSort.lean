/- sym.Sort: a list of the call's own, in order. -/
import Derived.Test.YtblonickpmogiaaShelf
import Derived.Test.YtblonickpmogiaaRefSort
import Derived.Laws.AppendOwnNone
namespace Go.Proofs.Ytblonickpmogiaa
open Go.RowKit Go.Sort

/-- Blocks laid behind and draws, nothing else. -/
def GrowD (w w' : World) : Prop := ∃ q os, w' = grow (w.drewN q) os
theorem GrowD.refl (w : World) : GrowD w w := ⟨0, #[], by simp [World.drewN]⟩
theorem GrowD.alloc {w w' : World} (h : GrowD w w') (o : Obj) : GrowD w (w'.alloc o) := by
  obtain ⟨q, os, rfl⟩ := h
  exact ⟨q, os ++ #[o], by rw [alloc_eq_grow, grow_grow]⟩
theorem GrowD.drew {w w' : World} (h : GrowD w w') : GrowD w w'.drew := by
  obtain ⟨q, os, rfl⟩ := h
  exact ⟨q + 1, os, rfl⟩

set_option maxRecDepth 100000 in
/-- Compare, and what it leaves. -/
theorem cmp_g (a b : Cst) (w : World) :
    Calls Try.prog 17 #[.agg #[.int .i64 a.k, .int .i64 a.n, .string a.s], .agg #[.int .i64 b.k, .int .i64 b.n, .string b.s]] w fun e w' => e = .returned (.int .i64 (cmpC a b)) ∧ GrowD w w' := by
  obtain ⟨ak, an, ax⟩ := a
  obtain ⟨bk, bn, bx⟩ := b
  unfold cmpC
  obtain ⟨x1, h1⟩ : ∃ x1, x1 = cmpI ak bk := ⟨_, rfl⟩
  obtain ⟨x2, h2⟩ : ∃ x2, x2 = cmpI an bn := ⟨_, rfl⟩
  obtain ⟨x3, h3⟩ : ∃ x3, x3 = cmpL ax.toList bx.toList := ⟨_, rfl⟩
  have c1 := fun W => cmp_int ak bk W
  have c2 := fun W => cmp_int64 an bn W
  have c3 := fun W => cmp_str ax bx W
  show Calls _ _ _ _ fun e w' => e = .returned (.int .i64 (firstNz [cmpI ak bk, cmpI an bn, cmpL ax.toList bx.toList])) ∧ GrowD w w'
  rw [← h1, ← h2, ← h3]
  simp only [← h1, ← h2, ← h3] at c1 c2 c3
  have C1 := Lib.hid c1; have C2 := Lib.hid c2; have C3 := Lib.hid c3
  clear h1 h2 h3 c1 c2 c3
  go_enter Try.func17, Try.ntmps17
  go_wp2
  go_region_held3 (fun w' => w'.cell? ⟨w.heap.size, 0, none⟩ = some (.int .i64 ak) ∧ w'.cell? ⟨w.heap.size, 1, none⟩ = some (.int .i64 an) ∧ w'.cell? ⟨w.heap.size, 2, none⟩ = some (.string ax) ∧
      w'.cell? ⟨w.heap.size + 1, 0, none⟩ = some (.int .i64 bk) ∧ w'.cell? ⟨w.heap.size + 1, 1, none⟩ = some (.int .i64 bn) ∧ w'.cell? ⟨w.heap.size + 1, 2, none⟩ = some (.string bx)) (go_keep)
    (first | (go_at_call 57; refine (C1.out _).mono ?_; rintro e w' ⟨rfl, rfl⟩) | (go_at_call 58; refine (C2.out _).mono ?_; rintro e w' ⟨rfl, rfl⟩) | (go_at_call 59; refine (C3.out _).mono ?_; rintro e w' ⟨rfl, rfl⟩) | (go_at_call 56; refine (or_int _ 0 3 _ [x1, x2, x3] _ rfl (by decide) ?_).mono ?_; exact three_ints _ _ (by simp) x1 x2 x3 _; rintro e w' ⟨rfl, rfl⟩))
  go_wp2
  go_ret
  refine ⟨rfl, ?_⟩
  repeat (first | exact GrowD.refl _ | refine GrowD.drew ?_ | refine GrowD.alloc ?_ _)

instance instCst : Inhabited Cst := ⟨⟨0, 0, ⟨#[]⟩⟩⟩

theorem cmpLays (blk off size : Nat) (w : World) : CmpLays Try.prog 17 #[] Cst.cells 3 cmpC blk off size w :=
  fun _ _ _ _ x y => cmp_g x y _

theorem swoC : SWO (ltOf cmpC) where
  irrefl x := by simp [ltOf, cmpC_self]
  trans x y z h1 h2 := by
    simp only [ltOf, decide_eq_true_eq] at *
    exact cmpC_lt.2 (aheadC_trans (cmpC_lt.1 h1) (cmpC_lt.1 h2))
  ntrans x y z h1 h2 := by
    simp only [ltOf, decide_eq_false_iff_not] at *
    have e1 := cmpC_neg x y
    have e2 := cmpC_neg y z
    have e3 := cmpC_neg x z
    have := cmpC_le_trans (a := z) (b := y) (c := x) (by omega) (by omega)
    omega

theorem flat_len3 : ∀ xs : List Cst, (xs.flatMap Cst.cells).length = xs.length * 3
  | [] => by simp
  | a :: l => by rw [List.flatMap_cons, List.length_append, flat_len3 l, List.length_cons, Nat.add_mul]; show 3 + _ = _; omega
/-- The cells of a list of constants, one by one. -/
theorem flat_get (xs : List Cst) (t : Nat) (h : t < xs.length * 3) : (xs.flatMap Cst.cells)[t]? = some ((xs.toArray[t / 3]!).cells[t % 3]!) := by
  have h3 : t / 3 < xs.length := by omega
  have hm : t % 3 < 3 := by omega
  have e : t = t / 3 * 3 + t % 3 := by omega
  have e1 : xs.toArray[t / 3]! = xs[t / 3] := by simp [getElem!_pos, h3]
  rw [e1]
  have hl : t % 3 < (xs[t / 3]).cells.length := hm
  have := flat_at xs (t / 3) _ (List.getElem?_eq_getElem h3) (t % 3) _ (List.getElem?_eq_getElem hl)
  rw [← e] at this
  rw [this, getElem!_pos (xs[t / 3]).cells (t % 3) hl]

theorem own_block {w : World} {base g n cap : Nat} {xs : List Cst} (h : OwnC w base (.slice (some ⟨g, 0, none⟩) n cap) xs) : ∃ cur, w.heap[g]? = some (.cells cur 27 (0, 0)) ∧ base ≤ g ∧ n ≤ cap ∧ cap ≤ maxLen ∧ cur.size = cap * 3 ∧ n = xs.length ∧ cur.toList.take (xs.length * 3) = xs.flatMap Cst.cells := by
  rcases h.2 with ⟨e, _⟩ | ⟨g', c', cur, e, hb, hg, h1, h2, h3, h4⟩
  · cases e
  · simp only [Value.slice.injEq, Option.some.injEq, Addr.mk.injEq, and_true] at e
    obtain ⟨rfl, rfl, rfl⟩ := e
    exact ⟨cur, hg, hb, h1, h2, h3, rfl, h4⟩

theorem holdsK_own {w : World} {base g n cap : Nat} {xs : List Cst} (h : OwnC w base (.slice (some ⟨g, 0, none⟩) n cap) xs) : HoldsK Cst.cells 3 w g 0 xs.toArray := by
  obtain ⟨cur, hg, _⟩ := own_block h
  intro j hj
  rw [size_flatK, List.size_toArray] at hj
  refine ⟨?_, by simp [World.frozen?, hg]⟩
  rw [get_flatK _ _ _ _ (by simpa using hj)]
  have := own_cells h j _ (flat_get xs j hj)
  rw [add_none, Nat.zero_add] at this
  rw [Nat.zero_add]
  exact this

theorem own_sortedK {w : World} {base g n cap q : Nat} {xs ys : List Cst} {os : Array Obj} (h : OwnC w base (.slice (some ⟨g, 0, none⟩) n cap) xs) (hy : ys.length = xs.length) :
    OwnC (sortWorldK Cst.cells 3 w g 0 q ys.toArray os) base (.slice (some ⟨g, 0, none⟩) n cap) ys ∧ Turns [g] w (sortWorldK Cst.cells 3 w g 0 q ys.toArray os) := by
  obtain ⟨cur, hg, hb, h1, h2, h3, hn, h4⟩ := own_block h
  have hglt : g < w.heap.size := (Array.getElem?_eq_some_iff.1 hg).1
  constructor
  · refine ⟨by rw [flat_len3], .inr ⟨g, cap, putCells id 0 (flatK Cst.cells 3 ys.toArray) cur, by rw [hn, hy], hb, ?_, by omega, h2, by simp [putCells, h3], ?_⟩⟩
    · unfold sortWorldK putRowK
      rw [heap_grow_old _ _ (by simpa using hglt)]
      simp [putRow, mapBlock, Sort.ahead, Array.getElem?_modify, hg, onCells]
    · apply List.ext_getElem?
      intro j
      by_cases hj : j < ys.length * 3
      · rw [List.getElem?_take_of_lt hj, Array.getElem?_toList, flat_get ys j hj]
        have hjc : j < cur.size := by omega
        simp only [putCells, Array.getElem?_mapIdx, Array.getElem?_eq_getElem hjc, Option.map_some]
        rw [if_pos (by simp; omega), Nat.sub_zero, get_flatK _ _ _ _ (by simpa using hj)]
        rfl
      · rw [List.getElem?_take_eq_none (by omega), List.getElem?_eq_none (by rw [flat_len3]; omega)]
  · refine ⟨rfl, rfl, rfl, by simp [sortWorldK, putRowK], fun k hk hne => ?_⟩
    unfold sortWorldK putRowK
    rw [heap_grow_old _ _ (by simpa using hk)]
    have : g ≠ k := fun e => hne (by rw [e]; simp)
    simp [putRow, mapBlock, Sort.ahead, Array.getElem?_modify, this]

theorem sorted_list {d d' : Array Cst} (hp : PermIn 0 d.size d d') (hs : SortedIn (ltOf cmpC) 0 d.size d') : d'.toList.Perm d.toList ∧ Sd d'.toList ∧ d'.size = d.size := by
  obtain ⟨h1, _, h2⟩ := hp
  have e1 : d'.extract 0 d.size = d' := by rw [← h1]; simp
  have e2 : d.extract 0 d.size = d := by simp
  rw [e1, e2] at h2
  refine ⟨h2, ?_, h1⟩
  unfold Sd
  rw [List.pairwise_iff_getElem]
  intro i j hi hj hij
  have hi' : i < d'.size := by simpa using hi
  have hj' : j < d'.size := by simpa using hj
  have := hs i j (Nat.zero_le _) hij (by omega)
  rw [getElem!_pos d' i hi', getElem!_pos d' j hj'] at this
  simp only [ltOf, decide_eq_false_iff_not] at this
  have e := cmpC_neg d'[i] d'[j]
  simp only [leC, decide_eq_true_eq, Array.getElem_toList]
  omega

/-- The library's call. -/
theorem sort_call {w : World} {base g cap : Nat} {xs : List Cst} (h : OwnC w base (.slice (some ⟨g, 0, none⟩) xs.length cap) xs) (hlen : xs.length * 32 ≤ 140737488355328) :
    Calls Try.prog 76 #[.slice (some ⟨g, 0, none⟩) xs.length cap, .func (.func 17) #[] #[]] w fun e w' => e = .returned (.tuple #[]) ∧ ∃ ys, Sd ys ∧ ys.Perm xs ∧
      OwnC w' base (.slice (some ⟨g, 0, none⟩) xs.length cap) ys ∧ Turns [g] w w' := by
  have eg : ∀ args w, (callFunc 17 args).run Try.prog w = .ok (.enter 17 args) w := enters_of Try.func17 (by kernel_rfl) rfl
  obtain ⟨cur, hg, _⟩ := own_block h
  have hglt : g < w.heap.size := (Array.getElem?_eq_some_iff.1 hg).1
  have hcon := AnyQ.slices_SortFunc Ytblonickpmogiaa.sortC 3 Try.isAgg27 Try.sizeOf27 Cst.cells (fun _ => rfl) cst_one cmpC swoC 17 #[] g 0 cap xs.toArray w eg (cmpLays g 0 _ w) (holdsK_own h) hglt (by simp; omega)
  change Calls Try.prog 76 _ _ _ at hcon
  rw [List.size_toArray] at hcon
  refine hcon.mono ?_
  rintro e w' ⟨rfl, d', n, os, hp, hs, rfl⟩
  obtain ⟨q1, q2, q3⟩ := sorted_list (d := xs.toArray) hp hs
  have hl : d'.toList.length = xs.length := by simpa using q3
  obtain ⟨r1, r2⟩ := own_sortedK (q := n) (os := os) h hl
  rw [Array.toArray_toList] at r1 r2
  exact ⟨rfl, d'.toList, q2, by simpa using q1, r1, r2⟩

theorem sl_flat {w : World} {b off : Nat} {xs : List Cst} (hc : ∀ i x, xs[i]? = some x → CsAt w b (off + i * 3) x.cells) : ∀ t u, (xs.flatMap Cst.cells)[t]? = some u → w.cell? ((⟨b, off, none⟩ : Addr).add t) = some u := by
  intro t u hu
  have ht : t < xs.length * 3 := by rw [← flat_len3]; exact (List.getElem?_eq_some_iff.1 hu).1
  have h3 : t / 3 < xs.length := by omega
  have e : t = t / 3 * 3 + t % 3 := by omega
  have hm : t % 3 < (xs[t / 3]).cells.length := by show t % 3 < 3; omega
  have h1 := flat_at xs (t / 3) _ (List.getElem?_eq_getElem h3) (t % 3) _ (List.getElem?_eq_getElem hm)
  rw [← e, hu] at h1
  have h2 := hc (t / 3) _ (List.getElem?_eq_getElem h3) (t % 3) _ (List.getElem?_eq_getElem hm)
  rw [add_none, e, h1, ← Nat.add_assoc]
  exact h2

theorem own0 (w : World) : (w.alloc (.cells #[] 27)).ownsRow w.heap.size 27 3 (.slice (some ⟨w.heap.size, 0, none⟩) 0 0) 0 [] :=
  ⟨rfl, .inr ⟨w.heap.size, 0, #[], rfl, Nat.le_refl _, heap_alloc_new w _, Nat.le_refl _, Nat.zero_le _, rfl, rfl⟩⟩

set_option maxRecDepth 100000 in
set_option maxHeartbeats 1000000 in
theorem ssortW (A : Option Addr) (ca : Nat) (cs : List Cst) (w : World) (hn : A = none → ca = 0) (hA : SlAt w w.heap.size 3 Cst.cells A cs) (hlen : cs.length * 32 ≤ 140737488355328) :
    Calls Try.prog 32 #[.slice A cs.length ca] w fun e w' => ∃ v m, e = .returned v ∧ OwnC w' w.heap.size v m ∧ Sd m ∧ m.Perm cs ∧ RowKit.Below w.heap.size w w' := by
  obtain ⟨i0, hi0, hz0, hz1, hz2⟩ := info_parts infoK
  have o0 := own0 w
  have B0 : RowKit.Below w.heap.size w (w.alloc (.cells #[] 27)) := (RowKit.Below.refl _ w).alloc (Nat.le_refl _) _
  by_cases hne : 0 < cs.length
  · obtain ⟨b, off, rfl, hblt, hc⟩ := hA.form hne
    have N := Lib.hid (sl_flat (w := w.alloc (.cells #[] 27)) (fun i x hx => (hc i x hx).below B0 hblt))
    clear hc hn
    go_enter Try.func32, Try.ntmps32
    go_wp2_with (at_builtin; refine wpList_append_lies _ rfl (.tmp 4) (.tmp 5) 24 rfl w.heap.size 27 i0 (.agg #[.int .i64 0, .int .i64 0, .string ⟨#[]⟩]) 3 32 Try.underlying24 hi0 hz0 hz1 hz2 rfl (by decide) _ _ _ rfl o0 ⟨b, off, none⟩ cs.length ca (cs.flatMap Cst.cells) rfl (flat_len3 _) N.out (csts_one _) hne (by unfold maxLen; omega) (by omega) (by simp) (w.heap.size + 1) (by simp) ?_; intro g' cap w2 hown2 hgrow2 hat2 hlt2)
    have hO : OwnC w2 w.heap.size (.slice (some ⟨g', 0, none⟩) cs.length cap) cs := by simpa [OwnC] using hown2
    have hB2 : RowKit.Below w.heap.size w w2 := B0.trans ((Turns.of_grown (show (w.alloc (.cells #[] 27)).grownBy w2 (Value.ownBlock (.slice (some ⟨w.heap.size, 0, none⟩) 0 0)) from hgrow2)).below B0.size (fun x hx => (ownBlock_cells o0 (by simpa using hx)).1))
    refine (sort_call hO hlen).mono ?_
    rintro e w4 ⟨rfl, ys, s1, s2, s3, s4⟩
    have hg := (own_block hO).choose_spec.2.1
    have hB4 := hB2.trans (s4.below hB2.size (fun x hx => by rw [List.mem_singleton.1 hx]; exact hg))
    clear hown2 hgrow2 hat2 hlt2 hO hB2 s4 hg
    go_wp2
    go_ret
    exact ⟨_, ys, rfl, s3, s1, s2, hB4⟩
  · obtain rfl : cs = [] := List.eq_nil_of_length_eq_zero (by omega)
    have SN := fun (p : Option Addr) (cap : Nat) (fv : Value) (W : World) => AnyF.slices_SortFunc_none Ytblonickpmogiaa.sortC p cap fv W
    change ∀ p cap fv W, Calls Try.prog 76 _ _ _ at SN
    have S := Lib.hid SN
    have nd : Sd [] := List.Pairwise.nil
    clear SN hne hA
    cases A with
    | none =>
      obtain rfl := hn rfl
      have FIN := Lib.hid (show OwnC (w.alloc (.cells #[] 27)) w.heap.size (.slice (some ⟨w.heap.size, 0, none⟩) 0 0) [] from o0)
      go_enter Try.func32, Try.ntmps32
      go_wp2_with (at_builtin; refine wpList_append_own_none rfl (.tmp 4) (.tmp 5) 24 rfl w.heap.size 27 i0 3 Try.underlying24 hi0 _ _ _ rfl o0 rfl ?_)
      refine (S.out _ _ _ _).mono ?_
      rintro e w4 ⟨rfl, rfl⟩
      go_wp2
      go_ret
      exact ⟨_, [], rfl, FIN.out, nd, List.Perm.refl _, B0⟩
    | some ad =>
      clear hn
      go_enter Try.func32, Try.ntmps32
      go_wp2_with (at_builtin; refine wpList_append_own _ rfl (.tmp 4) (.tmp 5) 24 rfl w.heap.size 27 i0 (.agg #[.int .i64 0, .int .i64 0, .string ⟨#[]⟩]) 3 32 Try.underlying24 hi0 hz0 hz1 hz2 rfl (by decide) _ _ _ rfl o0 ad 0 ca [] rfl rfl (fun j u h => by simp at h) (fun u h => by simp at h) (by decide) (by decide) (by simp) ?_; intro v' w2 hown2 hgrow2 _; obtain ⟨va, vc, rfl⟩ := own_anyC (xs := []) (show OwnC w2 w.heap.size v' [] from hown2))
      have hO : OwnC w2 w.heap.size (.slice va 0 vc) [] := hown2
      have hB2 : RowKit.Below w.heap.size w w2 := B0.trans ((Turns.of_grown (show (w.alloc (.cells #[] 27)).grownBy w2 (Value.ownBlock (.slice (some ⟨w.heap.size, 0, none⟩) 0 0)) from hgrow2)).below B0.size (fun x hx => (ownBlock_cells o0 (by simpa using hx)).1))
      refine (S.out _ _ _ _).mono ?_
      rintro e w4 ⟨rfl, rfl⟩
      clear hown2 hgrow2
      go_wp2
      go_ret
      exact ⟨_, [], rfl, hO, nd, List.Perm.refl _, hB2⟩
end Go.Proofs.Ytblonickpmogiaa
