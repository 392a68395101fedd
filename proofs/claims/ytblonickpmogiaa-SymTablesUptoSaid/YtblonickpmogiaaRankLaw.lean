/- Ranks: the plain law; Const. -/
import Derived.Test.YtblonickpmogiaaRanks
import Derived.Test.YtblonickpmogiaaTimes
namespace Go.Proofs.Ytblonickpmogiaa
open Go.RowKit Go.Maps Go.Shelf

section
variable {ks : List Cst} {l m : List Nat}
theorem sdIds_unique (nd : ks.Nodup) (hl : l.Perm (List.range ks.length)) (hm : m.Perm (List.range ks.length)) (sl : SdIds ks l) (sm : SdIds ks m) : l = m := by
  refine (hl.trans hm.symm).eq_of_pairwise (le := fun i j => cmpC (ks.getD i cst0) (ks.getD j cst0) ≤ 0) ?_ sl sm
  intro i j hi hj h1 h2
  have hi' : i < ks.length := by simpa using hl.subset hi
  have hj' : j < ks.length := by simpa using hm.subset hj
  have h3 := cmpC_neg (ks.getD i cst0) (ks.getD j cst0)
  have h0 : cmpC (ks.getD i cst0) (ks.getD j cst0) = 0 := by omega
  obtain ⟨e1, e2, e3⟩ := cmpC_zero.1 h0
  have e : ks.getD i cst0 = ks.getD j cst0 := by
    have := toList_inj e3
    revert e1 e2 this
    generalize ks.getD i cst0 = x
    generalize ks.getD j cst0 = y
    intro e1 e2 e3
    cases x; cases y
    simp_all
  rw [List.getD_eq_getElem?_getD, List.getD_eq_getElem?_getD, List.getElem?_eq_getElem hi', List.getElem?_eq_getElem hj'] at e
  exact (List.getElem_inj nd).1 e
theorem ids_nodup (hl : l.Perm (List.range ks.length)) : l.Nodup := hl.nodup_iff.2 List.nodup_range
theorem ids_len (hl : l.Perm (List.range ks.length)) : l.length = ks.length := by rw [hl.length_eq, List.length_range]
theorem rank_at (hl : l.Perm (List.range ks.length)) {i : Nat} (hi : i < ks.length) : ∃ j, j < ks.length ∧ (rk l ks.length)[i]? = some j ∧ l[j]? = some i := by
  have hm : i ∈ l := hl.symm.subset (by simpa using hi)
  obtain ⟨j, hj, e⟩ := List.getElem_of_mem hm
  have hll := ids_len hl
  refine ⟨j, by omega, ?_, by rw [List.getElem?_eq_getElem hj, e]⟩
  have := rk_at (ids_nodup hl) (fun x hx => by rw [hll]; simpa using hl.subset hx) ks.length (by omega) j (by omega)
  rwa [List.getD_eq_getElem?_getD, List.getElem?_eq_getElem hj, Option.getD_some, e] at this
theorem rank_lt (nd : ks.Nodup) (hl : l.Perm (List.range ks.length)) (sl : SdIds ks l) {i j a b : Nat} {c d : Cst} (hi : ks[i]? = some c) (hj : ks[j]? = some d) (ha : l[a]? = some i) (hb : l[b]? = some j) :
    decide ((b : Int) < (a : Int)) = aheadB d c := by
  have gi : ks.getD i cst0 = c := by rw [List.getD_eq_getElem?_getD, hi]; rfl
  have gj : ks.getD j cst0 = d := by rw [List.getD_eq_getElem?_getD, hj]; rfl
  obtain ⟨ha1, ha2⟩ := List.getElem?_eq_some_iff.1 ha
  obtain ⟨hb1, hb2⟩ := List.getElem?_eq_some_iff.1 hb
  have P := List.pairwise_iff_getElem.1 sl
  rcases Nat.lt_trichotomy b a with h | h | h
  · have h1 := P b a hb1 ha1 h
    rw [hb2, ha2, gi, gj] at h1
    have h2 : cmpC d c ≠ 0 := by
      intro h0
      obtain ⟨e1, e2, e3⟩ := cmpC_zero.1 h0
      have e3 := toList_inj e3
      have e : d = c := by cases d; cases c; simp_all
      subst e
      obtain ⟨u1, u2⟩ := List.getElem?_eq_some_iff.1 hi
      obtain ⟨v1, v2⟩ := List.getElem?_eq_some_iff.1 hj
      have : i = j := (List.getElem_inj nd).1 (u2.trans v2.symm)
      subst this
      have : b = a := (List.getElem_inj (ids_nodup hl)).1 (hb2.trans ha2.symm)
      omega
    rw [aheadB_iff.2 (cmpC_lt.1 (by omega)), decide_eq_true (by omega)]
  · subst h
    have e : i = j := by rw [ha] at hb; exact Option.some.inj hb
    subst e
    rw [hi] at hj
    obtain rfl := Option.some.inj hj
    rw [decide_eq_false (by omega)]
    cases hq : aheadB c c with
    | false => rfl
    | true => have := cmpC_lt.2 (aheadB_iff.1 hq); rw [cmpC_self] at this; omega
  · have h1 := P a b ha1 hb1 h
    rw [hb2, ha2, gi, gj] at h1
    rw [decide_eq_false (by omega)]
    cases hq : aheadB d c with
    | false => rfl
    | true => have := cmpC_lt.2 (aheadB_iff.1 hq); have h3 := cmpC_neg d c; omega
end

set_option maxRecDepth 100000 in
theorem tConst_in {base g m : Nat} {sv : Value} {ks : List Cst} {w : World} (h : IdsAt Try.prog kindT base w g m sv ks) {i : Nat} {c : Cst} (hk : ks[i]? = some c) :
    Calls Try.prog 40 #[.pointer (some ⟨g, 0, none⟩), .int .i64 i] w fun e w' => e = .returned (.tuple #[.agg #[.int .i64 c.k, .int .i64 c.n, .string c.s], .int .i64 0]) ∧ Below w.heap.size w w' := by
  have AT := Lib.hid (fun (W : World) (hb : Below w.heap.size w W) => atT_in (h.below hb) hk)
  clear h hk
  go_enter Try.func40, Try.ntmps40
  go_wp2_with fail
  refine (AT.out _ ((Below.refl _ _).alloc (Nat.le_refl _) _)).mono ?_
  rintro e w2 ⟨rfl, hb⟩
  have hs := hb.size
  simp only [World.size_alloc] at hs
  have hB : Below w.heap.size w w2 := below_step ((Below.refl _ _).alloc (Nat.le_refl _) _) hb
  have hx : w2.heap[w.heap.size]? = some (.cells #[.int .i64 0, .int .i64 0, .string ⟨#[]⟩] 27 (0, 0)) := (hb.block _ (by simp)).trans (heap_alloc_new w _)
  have f0 : w2.frozen? ⟨w.heap.size, 0, none⟩ = false := frozen_of_row w2 _ 0 _ _ hx
  have f1 : w2.frozen? ⟨w.heap.size, 1, none⟩ = false := frozen_of_row w2 _ 1 _ _ hx
  have f2 : w2.frozen? ⟨w.heap.size, 2, none⟩ = false := frozen_of_row w2 _ 2 _ _ hx
  have d0 : w2.cell? ⟨w.heap.size, 0, none⟩ = some (.int .i64 0) := cell_of_row w2 _ 0 _ _ _ hx
  have d1 : w2.cell? ⟨w.heap.size, 1, none⟩ = some (.int .i64 0) := cell_of_row w2 _ 1 _ _ _ hx
  have d2 : w2.cell? ⟨w.heap.size, 2, none⟩ = some (.string ⟨#[]⟩) := cell_of_row w2 _ 2 _ _ _ hx
  have hlt : w.heap.size < w2.heap.size := by omega
  have hne : w2.heap.size ≠ w.heap.size := by omega
  clear hx hb
  go_wp2_with fail
  refine bodyPost_ret (v := .tuple #[.agg #[.int .i64 c.k, .int .i64 c.n, .string c.s], .int .i64 0]) (by simp [results, Try.results40, go_sem, d0, d1, d2, hlt]) rfl ⟨rfl, ?_⟩
  exact (((hB.setCell (p := ⟨w.heap.size, 0, none⟩) (Nat.le_refl _) _).setCell (p := ⟨w.heap.size, 1, none⟩) (Nat.le_refl _) _).setCell (p := ⟨w.heap.size, 2, none⟩) (Nat.le_refl _) _).alloc (by simp; omega) _
end Go.Proofs.Ytblonickpmogiaa
