/- The plain law of the document's Sorted and Ranks: they are ours. -/
import Derived.Test.YtblonickpmogiaaRankLaw
import Derived.Test.YtblonickpmogiaaApartL
namespace Go.Proofs.Ytblonickpmogiaa
open Go.RowKit

section
variable {ks m : List Cst} {l : List Nat}
theorem map_range (ks : List Cst) : (List.range ks.length).map (fun i => ks.getD i cst0) = ks := by
  apply List.ext_getElem
  · simp
  · intro i h1 h2
    rw [List.getElem_map, List.getElem_range, List.getD_eq_getElem?_getD, List.getElem?_eq_getElem h2]
    rfl
theorem sorted_keys (hl : l.Perm (List.range ks.length)) (sl : SdIds ks l) (hm : m.Perm ks) (sm : Sd m) : m = l.map (fun i => ks.getD i cst0) := by
  refine sd_eq sm ?_ (hm.trans ?_)
  · unfold Sd
    rw [List.pairwise_map]
    exact sl.imp (fun h => by simpa [leC] using h)
  · have := (hl.map (fun i => ks.getD i cst0)).symm
    rwa [map_range] at this
/-- Which id stands at a place of the sorted list. -/
theorem sorted_at (hl : l.Perm (List.range ks.length)) {i : Nat} (hi : i < l.length) : ∃ j c, l[i]? = some j ∧ ks[j]? = some c ∧ (l.map (fun i => ks.getD i cst0))[i]? = some c := by
  have hj : l[i] < ks.length := by simpa using hl.subset (List.getElem_mem hi)
  refine ⟨l[i], ks[l[i]], List.getElem?_eq_getElem hi, List.getElem?_eq_getElem hj, ?_⟩
  rw [List.getElem?_map, List.getElem?_eq_getElem hi, Option.map_some, List.getD_eq_getElem?_getD, List.getElem?_eq_getElem hj]
  rfl
theorem countP_front {α : Type} {p : α → Bool} {l : List α} {j : Nat} (hj : j ≤ l.length) (h : ∀ a x, l[a]? = some x → p x = decide (a < j)) : l.countP p = j := by
  rw [← List.take_append_drop j l, List.countP_append]
  have h1 : (l.take j).countP p = (l.take j).length := by
    refine List.countP_eq_length.2 (fun x hx => ?_)
    obtain ⟨a, ha, e⟩ := List.getElem_of_mem hx
    have ha' : a < j := by rw [List.length_take] at ha; omega
    have := h a x (by rw [← e, List.getElem_take, List.getElem?_eq_getElem])
    rw [this]
    simp [ha']
  have h2 : (l.drop j).countP p = 0 := by
    refine List.countP_eq_zero.2 (fun x hx => ?_)
    obtain ⟨a, ha, e⟩ := List.getElem_of_mem hx
    have := h (j + a) x (by rw [← e, List.getElem_drop, List.getElem?_eq_getElem])
    rw [this]
    simp
  rw [h1, h2, List.length_take]
  omega
/-- How many come ahead: the rank. -/
theorem rank_count (nd : ks.Nodup) (hl : l.Perm (List.range ks.length)) (sl : SdIds ks l) {i : Nat} {c : Cst} (hi : ks[i]? = some c) :
    (rk l ks.length)[i]? = some (ks.countP fun d => decide (cmpC d c < 0)) := by
  have hlt := (List.getElem?_eq_some_iff.1 hi).1
  obtain ⟨j, hj, hr, hlj⟩ := rank_at hl hlt
  have hll := ids_len hl
  have e : ks.countP (fun d => decide (cmpC d c < 0)) = j := by
    have h1 : ks.countP (fun d => decide (cmpC d c < 0)) = l.countP ((fun d => decide (cmpC d c < 0)) ∘ fun i => ks.getD i cst0) := by
      rw [← List.countP_map, (hl.map _).countP_eq, map_range]
    rw [h1]
    refine countP_front (by omega) (fun a x hx => ?_)
    have hxl : x < ks.length := by simpa using hl.subset (List.mem_of_getElem? hx)
    obtain ⟨d, hd⟩ : ∃ d, ks[x]? = some d := ⟨_, List.getElem?_eq_getElem hxl⟩
    have hg : ks.getD x cst0 = d := by rw [List.getD_eq_getElem?_getD, hd]; rfl
    have := rank_lt nd hl sl hi hd hlj hx
    simp only [Function.comp_apply, hg]
    have e2 : decide (cmpC d c < 0) = aheadB d c := by
      rcases hq : aheadB d c with _ | _
      · refine decide_eq_false (fun h => ?_)
        have := aheadB_iff.2 (cmpC_lt.1 h)
        rw [hq] at this
        cases this
      · exact decide_eq_true (cmpC_lt.2 (aheadB_iff.1 hq))
    rw [e2, ← this]
    simp
  rw [e, hr]
theorem rk_len (hl : l.Perm (List.range ks.length)) : (rk l ks.length).length = ks.length := by rw [rk_length, ids_len hl]
end
end Go.Proofs.Ytblonickpmogiaa
