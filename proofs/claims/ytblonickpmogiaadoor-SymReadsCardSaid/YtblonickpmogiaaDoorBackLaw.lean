/- What a canonical text looks like: its bytes, its first byte, its length. -/
import Derived.Test.YtblonickpmogiaaDoorRead
import Derived.Lib.ItoaLen
namespace Go.Proofs.YtblonickpmogiaaDoor
open Go.RowKit

def vis (b : UInt8) : Prop := 32 ≤ b.toNat ∧ b.toNat ≤ 126
theorem hexU_vis {k : Nat} (h : k < 16) : vis (hexU k) := by
  rcases bytes_cases h with rfl | rfl | rfl | rfl | rfl | rfl | rfl | rfl | rfl | rfl | rfl | rfl | rfl | rfl | rfl | rfl <;> exact ⟨by decide, by decide⟩
theorem esc_vis (b : UInt8) : ∀ x ∈ escS b, vis x := by
  unfold escS
  have hb := b.toNat_lt
  intro x hx
  split at hx
  · rcases List.mem_cons.1 hx with rfl | hx
    · exact ⟨by decide, by decide⟩
    · rw [List.mem_singleton.1 hx]; exact ⟨by decide, by decide⟩
  split at hx
  · rcases List.mem_cons.1 hx with rfl | hx
    · exact ⟨by decide, by decide⟩
    · rw [List.mem_singleton.1 hx]; exact ⟨by decide, by decide⟩
  split at hx
  · rcases List.mem_cons.1 hx with rfl | hx
    · exact ⟨by decide, by decide⟩
    · rw [List.mem_singleton.1 hx]; exact ⟨by decide, by decide⟩
  split at hx
  · rcases List.mem_cons.1 hx with rfl | hx
    · exact ⟨by decide, by decide⟩
    · rw [List.mem_singleton.1 hx]; exact ⟨by decide, by decide⟩
  split at hx
  · rcases List.mem_cons.1 hx with rfl | hx
    · exact ⟨by decide, by decide⟩
    · rw [List.mem_singleton.1 hx]; exact ⟨by decide, by decide⟩
  split at hx
  · rename_i h
    rw [List.mem_singleton.1 hx]
    exact h
  · simp only [List.mem_cons, List.not_mem_nil, or_false] at hx
    rcases hx with rfl | rfl | rfl | rfl
    · exact ⟨by decide, by decide⟩
    · exact ⟨by decide, by decide⟩
    · exact hexU_vis (by omega)
    · exact hexU_vis (by omega)
theorem tail_vis {b : UInt8} (h : tailI (b.toNat : Int) = true) : vis b := by
  unfold tailI lowI upI digI at h
  simp only [Bool.or_eq_true, Bool.and_eq_true, decide_eq_true_eq] at h
  unfold vis
  omega
theorem itoa_vis (n : Int) : ∀ x ∈ Lib.itoa n, vis x := by
  unfold Lib.itoa
  intro x hx
  split at hx
  · rcases List.mem_cons.1 hx with rfl | hx
    · exact ⟨by decide, by decide⟩
    · have := dec_digits _ x hx; unfold vis; omega
  · have := dec_digits _ x hx; unfold vis; omega
theorem name_vis {s : ByteArray} (h : nameB s = true) : ∀ x ∈ s.data.toList, vis x := by
  obtain ⟨c, r, hl, h1, h2, _⟩ := name_first h
  have ht : tailB s 1 = true := by
    unfold nameB wordB at h
    simp only [Bool.and_eq_true] at h
    obtain ⟨_, h⟩ := h
    split at h
    · simp only [Bool.and_eq_true] at h
      exact h.2.2
    · cases h
  unfold tailB at ht
  rw [hl, List.drop_succ_cons, List.drop_zero, List.all_eq_true] at ht
  intro x hx
  rw [hl] at hx
  rcases List.mem_cons.1 hx with rfl | hx
  · unfold vis; omega
  · exact tail_vis (ht x hx)

/-- The three kinds. -/
inductive Kinds (c : Cst) : Prop
  | int (hk : c.k = 1) (ht : (textB c).data.toList = Lib.itoa c.n)
  | name (hk : c.k = 2) (hn : nameB c.s = true) (ht : (textB c).data.toList = c.s.data.toList)
  | text (hk : c.k = 3) (hs : c.s.size ≤ 255) (ht : (textB c).data.toList = quoteL c.s.data.toList)
theorem kinds {c : Cst} (hv : validB c = true) : Kinds c := by
  have ht : (textB c) = (if c.k = 1 then ⟨(Lib.itoa c.n).toArray⟩ else if c.k = 2 then c.s else ⟨(quoteL c.s.data.toList).toArray⟩) := by unfold textB; rw [if_pos hv]
  unfold validB at hv
  by_cases h1 : c.k = 1
  · exact .int h1 (by rw [ht, if_pos h1])
  · rw [if_neg h1] at hv
    by_cases h2 : c.k = 2
    · rw [if_pos h2] at hv
      simp only [Bool.and_eq_true] at hv
      exact .name h2 hv.2 (by rw [ht, if_neg h1, if_pos h2])
    · rw [if_neg h2] at hv
      by_cases h3 : c.k = 3
      · rw [if_pos h3] at hv
        simp only [Bool.and_eq_true, decide_eq_true_eq] at hv
        exact .text h3 hv.2 (by rw [ht, if_neg h1, if_neg h2])
      · rw [if_neg h3] at hv
        cases hv
theorem text_vis {c : Cst} (hv : validB c = true) : ∀ x ∈ (textB c).data.toList, vis x := by
  intro x hx
  cases kinds hv with
  | int hk ht => rw [ht] at hx; exact itoa_vis _ x hx
  | name hk hn ht => rw [ht] at hx; exact name_vis hn x hx
  | text hk hs ht =>
    rw [ht] at hx
    unfold quoteL at hx
    simp only [List.mem_cons, List.mem_append, List.mem_flatMap, List.not_mem_nil, or_false] at hx
    rcases hx with rfl | ⟨b, _, hx⟩ | rfl
    · exact ⟨by decide, by decide⟩
    · exact esc_vis b x hx
    · exact ⟨by decide, by decide⟩
theorem text_byte {c : Cst} (hv : validB c = true) {k : Nat} (hk : k < (textB c).size) : vis (gB (textB c) k) := by
  refine text_vis hv _ ?_
  unfold gB
  rw [List.getD_eq_getElem?_getD, List.getElem?_eq_getElem (by rw [← size_list]; exact hk)]
  exact List.getElem_mem _
/-- The first byte tells the kind. -/
theorem text_first {c : Cst} (hv : validB c = true) : (c.k = 1 ∧ (gB (textB c) 0).toNat ≤ 57 ∧ 45 ≤ (gB (textB c) 0).toNat) ∨ (c.k = 2 ∧ 97 ≤ (gB (textB c) 0).toNat ∧ (gB (textB c) 0).toNat ≤ 122) ∨ (c.k = 3 ∧ gB (textB c) 0 = 34) := by
  unfold gB
  cases kinds hv with
  | int hk ht =>
    obtain ⟨d, r, hd, h1, h2⟩ := itoa_first c.n
    left
    rw [ht, hd]
    exact ⟨hk, h2, h1⟩
  | name hk hn ht =>
    obtain ⟨d, r, hd, h1, h2, _⟩ := name_first hn
    right; left
    rw [ht, hd]
    exact ⟨hk, h1, h2⟩
  | text hk hs ht =>
    right; right
    rw [ht]
    exact ⟨hk, rfl⟩
theorem text_len {c : Cst} (hv : validB c = true) (hn : (Lit.int .i64 c.n).wf = true) : (textB c).size ≤ 1022 := by
  rw [size_list]
  have hn' := i64_of_wf hn
  cases kinds hv with
  | int hk ht =>
    rw [ht]
    have := Lib.itoa_length_le c.n hn'.1 hn'.2
    omega
  | name hk hn ht =>
    rw [ht, ← size_list]
    obtain ⟨_, _, _, _, _, h⟩ := name_first hn
    omega
  | text hk hs ht =>
    rw [ht]
    unfold quoteL
    have := escs_len c.s.data.toList
    rw [← size_list] at this
    simp only [List.length_cons, List.length_append, List.length_nil]
    omega

/-- Two constants the same, as the model compares them. -/
def sameB (a b : Cst) : Bool := a.k == b.k && (a.n == b.n && a.s.toList == b.s.toList)
/-- '==' of two constants. -/
theorem eql_cst (a b : Cst) (w : World) : (binOp .eql 25 (.agg #[.int .i64 a.k, .int .i64 a.n, .string a.s]) (.agg #[.int .i64 b.k, .int .i64 b.n, .string b.s])).run Tryd.prog w = .ok (.bool (sameB a b)) w := by
  obtain ⟨ak, an, ax⟩ := a
  obtain ⟨bk, bn, bx⟩ := b
  unfold sameB
  by_cases h1 : ak = bk
  · by_cases h2 : an = bn
    · subst h1; subst h2
      rcases hx : (ax.toList == bx.toList) with _ | _
      · simp at hx
        simp [go_sem, hx]
      · simp at hx
        simp [go_sem, hx]
    · simp [go_sem, h1, h2]
  · simp [go_sem, h1]
theorem sameB_iff {a b : Cst} : sameB a b = true ↔ a = b := by
  obtain ⟨ak, an, ax⟩ := a
  obtain ⟨bk, bn, bx⟩ := b
  unfold sameB
  simp only [Bool.and_eq_true, beq_iff_eq, Cst.mk.injEq]
  constructor
  · rintro ⟨h1, h2, h3⟩; exact ⟨h1, h2, toList_inj h3⟩
  · rintro ⟨h1, h2, h3⟩; exact ⟨h1, h2, by rw [h3]⟩
/-- The box of a constant, behind what keeps it. -/
theorem box3 {w w' : World} {c : Cst} (hb : Below (w.alloc (.cells #[.int .i64 c.k, .int .i64 c.n, .string c.s] 25)).heap.size (w.alloc (.cells #[.int .i64 c.k, .int .i64 c.n, .string c.s] 25)) w') :
    w'.cell? ⟨w.heap.size, 0, none⟩ = some (.int .i64 c.k) ∧ w'.cell? ⟨w.heap.size, 1, none⟩ = some (.int .i64 c.n) ∧ w'.cell? ⟨w.heap.size, 2, none⟩ = some (.string c.s) := by
  have hx : w'.heap[w.heap.size]? = some (.cells #[.int .i64 c.k, .int .i64 c.n, .string c.s] 25 (0, 0)) := (hb.block _ (by simp)).trans (heap_alloc_new w _)
  exact ⟨cell_of_row w' _ 0 _ _ _ hx, cell_of_row w' _ 1 _ _ _ hx, cell_of_row w' _ 2 _ _ _ hx⟩
end Go.Proofs.YtblonickpmogiaaDoor
