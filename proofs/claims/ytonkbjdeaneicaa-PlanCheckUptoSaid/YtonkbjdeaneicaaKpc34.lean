/- The reference's rule that is being read back, in its block. The reference's Rule: the conditions of the rule that ends at a node, read back. -/
import Derived.Test.YtonkbjdeaneicaaKpc31
import Derived.Test.YtonkbjdeaneicaaKpc32
import Derived.Test.YtonkbjdeaneicaaKpc33
import Derived.Deep.RegionHeld3
namespace Go.Proofs.Ytonkbjdeaneicaa
open Go.RowKit Pln Classical Go.Maps

def ufoot (g : Nat) (pv tv nv : Value) : List Nat := g :: (pv.ownBlock.toList ++ (tv.ownBlock.toList ++ nv.ownBlock.toList))
structure RuAt (base g : Nat) (W : World) (pv tv nv : Value) (pos : List Pat) (tests : List Tst) (neg : List Pat) : Prop where
  blk : W.heap[g]? = some (.cells #[.int .i64 0, .slice none 0 0, pv, tv, nv, .slice none 0 0, .int .i64 0] 39 (0, 0))
  po : OwnF (Off base (ufoot g pv tv nv)) base W 34 cdPat pv pos
  te : OwnF (Off base (ufoot g pv tv nv)) base W 52 cdTst tv tests
  ne : OwnF (Off base (ufoot g pv tv nv)) base W 34 cdPat nv neg
  gb : base ≤ g
  ap : ∀ b, pv.ownBlock = some b → nv.ownBlock ≠ some b
section
variable {base g : Nat} {W W' : World} {pv tv nv : Value} {pos : List Pat} {tests : List Tst} {neg : List Pat}
theorem ufoot_g : g ∈ ufoot g pv tv nv := by simp [ufoot]
theorem RuAt.lt (h : RuAt base g W pv tv nv pos tests neg) : g < W.heap.size := lt_of_heap h.blk
theorem RuAt.step (h : RuAt base g W pv tv nv pos tests neg) (hb : Below W.heap.size W W') : RuAt base g W' pv tv nv pos tests neg :=
  ⟨(hb.block _ h.lt).trans h.blk, h.po.below hb, h.te.below hb, h.ne.below hb, h.gb, h.ap⟩
theorem RuAt.cell (h : RuAt base g W pv tv nv pos tests neg) (j : Nat) {u : Value} (hu : (#[.int .i64 0, .slice none 0 0, pv, tv, nv, .slice none 0 0, .int .i64 0] : Array Value).toList[j]? = some u) : W.cell? ⟨g, j, none⟩ = some u := rboxL h.blk j hu
theorem RuAt.fz (h : RuAt base g W pv tv nv pos tests neg) (o : Nat) : W.frozen? ⟨g, o, none⟩ = false := by
  have := h.blk
  simp [World.frozen?, this]
theorem RuAt.foot_lt (h : RuAt base g W pv tv nv pos tests neg) : ∀ x ∈ ufoot g pv tv nv, base ≤ x ∧ x < W.heap.size := by
  intro x hx
  simp only [ufoot, List.mem_cons, List.mem_append, Option.mem_toList] at hx
  rcases hx with rfl | hx | hx | hx
  · exact ⟨h.gb, h.lt⟩
  · exact ⟨(h.po.block hx).1, (h.po.block hx).2.1⟩
  · exact ⟨(h.te.block hx).1, (h.te.block hx).2.1⟩
  · exact ⟨(h.ne.block hx).1, (h.ne.block hx).2.1⟩
theorem UOff_new (h : RuAt base g W pv tv nv pos tests neg) {b : Nat} (hb : W.heap.size ≤ b) : Off base (ufoot g pv tv nv) b :=
  ⟨by have := (h.foot_lt g ufoot_g); omega, fun hm => by have := (h.foot_lt b hm).2; omega⟩
/-- The blocks differ, by what lies in them. -/
theorem RuAt.apart (h : RuAt base g W pv tv nv pos tests neg) : (∀ b, pv.ownBlock = some b → b ≠ g ∧ tv.ownBlock ≠ some b ∧ nv.ownBlock ≠ some b) ∧ (∀ b, tv.ownBlock = some b → b ≠ g ∧ nv.ownBlock ≠ some b) ∧ (∀ b, nv.ownBlock = some b → b ≠ g) := by
  have hg := h.blk
  refine ⟨?_, ?_, ?_⟩
  · intro b hb
    obtain ⟨_, _, c1, h1⟩ := h.po.block hb
    refine ⟨?_, ?_, h.ap b hb⟩
    · rintro rfl
      rw [hg] at h1
      simp at h1
    · intro h2
      obtain ⟨_, _, c2, h3⟩ := h.te.block h2
      rw [h1] at h3
      simp at h3
  · intro b hb
    obtain ⟨_, _, c1, h1⟩ := h.te.block hb
    refine ⟨?_, ?_⟩
    · rintro rfl
      rw [hg] at h1
      simp at h1
    · intro h2
      obtain ⟨_, _, c2, h3⟩ := h.ne.block h2
      rw [h1] at h3
      simp at h3
  · intro b hb
    obtain ⟨_, _, c1, h1⟩ := h.ne.block hb
    rintro rfl
    rw [hg] at h1
    simp at h1
end
theorem RuAt.grow_al {base g : Nat} {wd w3 : World} {pv tv nv : Value} {pos : List Pat} {tests : List Tst} {neg : List Pat} {x : Pat} (h : RuAt base g wd pv tv nv pos tests neg) {g' cap : Nat}
    (ho : ∀ F' : Nat → Prop, (∀ b, b < wd.heap.size → Off base (ufoot g pv tv nv) b → F' b) → OwnF F' base w3 34 cdPat (.slice (some ⟨g', 0, none⟩) (pos.length + 1) cap) (pos ++ [x]))
    (ht : Turns pv.ownBlock.toList wd w3) (hat : pv.ownBlock = some g' ∨ wd.heap.size ≤ g') :
    RuAt base g (w3.setCell ⟨g, 2, none⟩ (.slice (some ⟨g', 0, none⟩) (pos.length + 1) cap)) (.slice (some ⟨g', 0, none⟩) (pos.length + 1) cap) tv nv (pos ++ [x]) tests neg ∧ Turns (ufoot g pv tv nv) wd (w3.setCell ⟨g, 2, none⟩ (.slice (some ⟨g', 0, none⟩) (pos.length + 1) cap)) ∧ ∀ b ∈ ufoot g (.slice (some ⟨g', 0, none⟩) (pos.length + 1) cap) tv nv, b ∈ ufoot g pv tv nv ∨ wd.heap.size ≤ b := by
  obtain ⟨a1, a2, a3⟩ := h.apart
  have hg : g ∉ pv.ownBlock.toList := fun hm => (a1 g (by simpa using hm)).1 rfl
  have hgn : g' ≠ g := by
    rcases hat with h1 | h1
    · exact (a1 g' h1).1
    · have := h.lt; omega
  have T : Turns (g :: pv.ownBlock.toList) wd (w3.setCell ⟨g, 2, none⟩ (.slice (some ⟨g', 0, none⟩) (pos.length + 1) cap)) := (ht.mono (by simp +contextual)).setCell (.inl (by simp)) _
  have hoff : ∀ b ∈ g :: pv.ownBlock.toList, ¬ Off base (ufoot g pv tv nv) b := by
    intro b hb hf
    refine hf.2 ?_
    simp only [ufoot, List.mem_cons, List.mem_append] at hb ⊢
    rcases hb with hb | hb
    · exact .inl hb
    · exact .inr (.inl hb)
  have hmem : ∀ b, b ∈ ufoot g (.slice (some ⟨g', 0, none⟩) (pos.length + 1) cap) tv nv → b ∈ ufoot g pv tv nv ∨ wd.heap.size ≤ b := by
    intro b hm
    simp only [ufoot, List.mem_cons, List.mem_append, Option.mem_toList] at hm ⊢
    rcases hm with hm | hm | hm | hm
    · exact .inl (.inl hm)
    · have e : g' = b := by simpa [Value.ownBlock] using hm
      rcases hat with h3 | h3
      · exact .inl (.inr (.inl (by rw [← e]; exact h3)))
      · exact .inr (by omega)
    · exact .inl (.inr (.inr (.inl hm)))
    · exact .inl (.inr (.inr (.inr hm)))
  have hFF : ∀ b, b < wd.heap.size → Off base (ufoot g pv tv nv) b → Off base (ufoot g (.slice (some ⟨g', 0, none⟩) (pos.length + 1) cap) tv nv) b := by
    rintro b hlt ⟨h1, h2⟩
    refine ⟨h1, fun hm => ?_⟩
    rcases hmem b hm with h3 | h3
    · exact h2 h3
    · omega
  refine ⟨⟨?_, ?_, ?_, ?_, h.gb, fun b hb hn => (by
    have e : g' = b := by simpa [Value.ownBlock] using hb
    rcases hat with h3 | h3
    · exact h.ap g' h3 (by rw [e]; exact hn)
    · have := (h.ne.block hn).2.1; omega)⟩, T.mono (fun b hb => ?_), hmem⟩
  · exact heap_setCell_same _ _ 2 _ _ _ ((ht.block g h.lt hg).trans h.blk)
  · exact (ho _ hFF).keep (S := [g]) ((Turns.refl _ _).setCell (.inl (by simp)) _) (fun b hb hm => by
      have e : g' = b := by simpa [Value.ownBlock] using hb
      simp only [List.mem_singleton] at hm
      omega) (fun b hb hf => hf.2 (by simp only [List.mem_singleton] at hb; simp [ufoot, hb])) (fun _ _ h => h)
  · exact h.te.keep T (fun b hb hm => by
      simp only [List.mem_cons, Option.mem_toList] at hm
      rcases hm with hm | hm
      · exact (a2 b hb).1 hm
      · exact (a1 b hm).2.1 hb) hoff hFF
  · exact h.ne.keep T (fun b hb hm => by
      simp only [List.mem_cons, Option.mem_toList] at hm
      rcases hm with hm | hm
      · exact a3 b hb hm
      · exact (a1 b hm).2.2 hb) hoff hFF
  · simp only [ufoot, List.mem_cons, List.mem_append] at hb ⊢
    rcases hb with hb | hb
    · exact .inl hb
    · exact .inr (.inl hb)
theorem RuAt.grow_ns {base g : Nat} {wd w3 : World} {pv tv nv : Value} {pos : List Pat} {tests : List Tst} {neg : List Pat} {x : Tst} (h : RuAt base g wd pv tv nv pos tests neg) {g' cap : Nat}
    (ho : ∀ F' : Nat → Prop, (∀ b, b < wd.heap.size → Off base (ufoot g pv tv nv) b → F' b) → OwnF F' base w3 52 cdTst (.slice (some ⟨g', 0, none⟩) (tests.length + 1) cap) (tests ++ [x]))
    (ht : Turns tv.ownBlock.toList wd w3) (hat : tv.ownBlock = some g' ∨ wd.heap.size ≤ g') :
    RuAt base g (w3.setCell ⟨g, 3, none⟩ (.slice (some ⟨g', 0, none⟩) (tests.length + 1) cap)) pv (.slice (some ⟨g', 0, none⟩) (tests.length + 1) cap) nv pos (tests ++ [x]) neg ∧ Turns (ufoot g pv tv nv) wd (w3.setCell ⟨g, 3, none⟩ (.slice (some ⟨g', 0, none⟩) (tests.length + 1) cap)) ∧ ∀ b ∈ ufoot g pv (.slice (some ⟨g', 0, none⟩) (tests.length + 1) cap) nv, b ∈ ufoot g pv tv nv ∨ wd.heap.size ≤ b := by
  obtain ⟨a1, a2, a3⟩ := h.apart
  have hg : g ∉ tv.ownBlock.toList := fun hm => (a2 g (by simpa using hm)).1 rfl
  have hgn : g' ≠ g := by
    rcases hat with h1 | h1
    · exact (a2 g' h1).1
    · have := h.lt; omega
  have T : Turns (g :: tv.ownBlock.toList) wd (w3.setCell ⟨g, 3, none⟩ (.slice (some ⟨g', 0, none⟩) (tests.length + 1) cap)) := (ht.mono (by simp +contextual)).setCell (.inl (by simp)) _
  have hoff : ∀ b ∈ g :: tv.ownBlock.toList, ¬ Off base (ufoot g pv tv nv) b := by
    intro b hb hf
    refine hf.2 ?_
    simp only [ufoot, List.mem_cons, List.mem_append] at hb ⊢
    rcases hb with hb | hb
    · exact .inl hb
    · exact .inr (.inr (.inl hb))
  have hmem : ∀ b, b ∈ ufoot g pv (.slice (some ⟨g', 0, none⟩) (tests.length + 1) cap) nv → b ∈ ufoot g pv tv nv ∨ wd.heap.size ≤ b := by
    intro b hm
    simp only [ufoot, List.mem_cons, List.mem_append, Option.mem_toList] at hm ⊢
    rcases hm with hm | hm | hm | hm
    · exact .inl (.inl hm)
    · exact .inl (.inr (.inl hm))
    · have e : g' = b := by simpa [Value.ownBlock] using hm
      rcases hat with h3 | h3
      · exact .inl (.inr (.inr (.inl (by rw [← e]; exact h3))))
      · exact .inr (by omega)
    · exact .inl (.inr (.inr (.inr hm)))
  have hFF : ∀ b, b < wd.heap.size → Off base (ufoot g pv tv nv) b → Off base (ufoot g pv (.slice (some ⟨g', 0, none⟩) (tests.length + 1) cap) nv) b := by
    rintro b hlt ⟨h1, h2⟩
    refine ⟨h1, fun hm => ?_⟩
    rcases hmem b hm with h3 | h3
    · exact h2 h3
    · omega
  refine ⟨⟨?_, ?_, ?_, ?_, h.gb, h.ap⟩, T.mono (fun b hb => ?_), hmem⟩
  · exact heap_setCell_same _ _ 3 _ _ _ ((ht.block g h.lt hg).trans h.blk)
  · exact h.po.keep T (fun b hb hm => by
      simp only [List.mem_cons, Option.mem_toList] at hm
      rcases hm with hm | hm
      · exact (a1 b hb).1 hm
      · exact (a1 b hb).2.1 hm) hoff hFF
  · exact (ho _ hFF).keep (S := [g]) ((Turns.refl _ _).setCell (.inl (by simp)) _) (fun b hb hm => by
      have e : g' = b := by simpa [Value.ownBlock] using hb
      simp only [List.mem_singleton] at hm
      omega) (fun b hb hf => hf.2 (by simp only [List.mem_singleton] at hb; simp [ufoot, hb])) (fun _ _ h => h)
  · exact h.ne.keep T (fun b hb hm => by
      simp only [List.mem_cons, Option.mem_toList] at hm
      rcases hm with hm | hm
      · exact a3 b hb hm
      · exact (a2 b hm).2 hb) hoff hFF
  · simp only [ufoot, List.mem_cons, List.mem_append] at hb ⊢
    rcases hb with hb | hb
    · exact .inl hb
    · exact .inr (.inr (.inl hb))
theorem RuAt.grow_en {base g : Nat} {wd w3 : World} {pv tv nv : Value} {pos : List Pat} {tests : List Tst} {neg : List Pat} {x : Pat} (h : RuAt base g wd pv tv nv pos tests neg) {g' cap : Nat}
    (ho : ∀ F' : Nat → Prop, (∀ b, b < wd.heap.size → Off base (ufoot g pv tv nv) b → F' b) → OwnF F' base w3 34 cdPat (.slice (some ⟨g', 0, none⟩) (neg.length + 1) cap) (neg ++ [x]))
    (ht : Turns nv.ownBlock.toList wd w3) (hat : nv.ownBlock = some g' ∨ wd.heap.size ≤ g') :
    RuAt base g (w3.setCell ⟨g, 4, none⟩ (.slice (some ⟨g', 0, none⟩) (neg.length + 1) cap)) pv tv (.slice (some ⟨g', 0, none⟩) (neg.length + 1) cap) pos tests (neg ++ [x]) ∧ Turns (ufoot g pv tv nv) wd (w3.setCell ⟨g, 4, none⟩ (.slice (some ⟨g', 0, none⟩) (neg.length + 1) cap)) ∧ ∀ b ∈ ufoot g pv tv (.slice (some ⟨g', 0, none⟩) (neg.length + 1) cap), b ∈ ufoot g pv tv nv ∨ wd.heap.size ≤ b := by
  obtain ⟨a1, a2, a3⟩ := h.apart
  have hg : g ∉ nv.ownBlock.toList := fun hm => a3 g (by simpa using hm) rfl
  have hgn : g' ≠ g := by
    rcases hat with h1 | h1
    · exact a3 g' h1
    · have := h.lt; omega
  have T : Turns (g :: nv.ownBlock.toList) wd (w3.setCell ⟨g, 4, none⟩ (.slice (some ⟨g', 0, none⟩) (neg.length + 1) cap)) := (ht.mono (by simp +contextual)).setCell (.inl (by simp)) _
  have hoff : ∀ b ∈ g :: nv.ownBlock.toList, ¬ Off base (ufoot g pv tv nv) b := by
    intro b hb hf
    refine hf.2 ?_
    simp only [ufoot, List.mem_cons, List.mem_append] at hb ⊢
    rcases hb with hb | hb
    · exact .inl hb
    · exact .inr (.inr (.inr hb))
  have hmem : ∀ b, b ∈ ufoot g pv tv (.slice (some ⟨g', 0, none⟩) (neg.length + 1) cap) → b ∈ ufoot g pv tv nv ∨ wd.heap.size ≤ b := by
    intro b hm
    simp only [ufoot, List.mem_cons, List.mem_append, Option.mem_toList] at hm ⊢
    rcases hm with hm | hm | hm | hm
    · exact .inl (.inl hm)
    · exact .inl (.inr (.inl hm))
    · exact .inl (.inr (.inr (.inl hm)))
    · have e : g' = b := by simpa [Value.ownBlock] using hm
      rcases hat with h3 | h3
      · exact .inl (.inr (.inr (.inr (by rw [← e]; exact h3))))
      · exact .inr (by omega)
  have hFF : ∀ b, b < wd.heap.size → Off base (ufoot g pv tv nv) b → Off base (ufoot g pv tv (.slice (some ⟨g', 0, none⟩) (neg.length + 1) cap)) b := by
    rintro b hlt ⟨h1, h2⟩
    refine ⟨h1, fun hm => ?_⟩
    rcases hmem b hm with h3 | h3
    · exact h2 h3
    · omega
  refine ⟨⟨?_, ?_, ?_, ?_, h.gb, fun b hb hn => (by
    have e : g' = b := by simpa [Value.ownBlock] using hn
    rcases hat with h3 | h3
    · exact h.ap b hb (by rw [← e]; exact h3)
    · have := (h.po.block hb).2.1; omega)⟩, T.mono (fun b hb => ?_), hmem⟩
  · exact heap_setCell_same _ _ 4 _ _ _ ((ht.block g h.lt hg).trans h.blk)
  · exact h.po.keep T (fun b hb hm => by
      simp only [List.mem_cons, Option.mem_toList] at hm
      rcases hm with hm | hm
      · exact (a1 b hb).1 hm
      · exact (a1 b hb).2.2 hm) hoff hFF
  · exact h.te.keep T (fun b hb hm => by
      simp only [List.mem_cons, Option.mem_toList] at hm
      rcases hm with hm | hm
      · exact (a2 b hb).1 hm
      · exact (a2 b hb).2 hm) hoff hFF
  · exact (ho _ hFF).keep (S := [g]) ((Turns.refl _ _).setCell (.inl (by simp)) _) (fun b hb hm => by
      have e : g' = b := by simpa [Value.ownBlock] using hb
      simp only [List.mem_singleton] at hm
      omega) (fun b hb hf => hf.2 (by simp only [List.mem_singleton] at hb; simp [ufoot, hb])) (fun _ _ h => h)
  · simp only [ufoot, List.mem_cons, List.mem_append] at hb ⊢
    rcases hb with hb | hb
    · exact .inl hb
    · exact .inr (.inr (.inr hb))
end Go.Proofs.Ytonkbjdeaneicaa

namespace Go.Proofs.Ytonkbjdeaneicaa
open Go.RowKit Pln Classical Go.Maps

theorem sizeRlR : (Try.prog.info? 39).map (·.size) = some 7 := by kernel_rfl
/-- A rule's value. -/
def rlV (pv tv nv : Value) : Array Value := #[.int .i64 0, .slice none 0 0, pv, tv, nv, .slice none 0 0, .int .i64 0]
def RRuleRes (al : List Shp) (ns : List Nd) (e : Int) (W : World) (en : Ending) (W' : World) : Prop :=
  Below W.heap.size W W' ∧ ∃ a1 n1 c1 a2 n2 c2 a3 n3 c3, (en = .returned (.tuple #[.agg #[.int .i64 0, .slice none 0 0, .slice a1 n1 c1, .slice a2 n2 c2, .slice a3 n3 c3, .slice none 0 0, .int .i64 0], .bool true]) ∧
      ∃ r, ruleB al ns e = some r ∧ ERule (fun b => W.heap.size ≤ b) W' [.int .i64 0, .slice none 0 0, .slice a1 n1 c1, .slice a2 n2 c2, .slice a3 n3 c3, .slice none 0 0, .int .i64 0] r ∧ rlSm 1048576 r) ∨
    (en = .returned (.tuple #[.agg #[.int .i64 0, .slice none 0 0, .slice a1 n1 c1, .slice a2 n2 c2, .slice a3 n3 c3, .slice none 0 0, .int .i64 0], .bool false]) ∧ ruleB al ns e = none)

/-- The state of Rule. -/
structure RlSt (W : World) (pl : Array Value) (v : Value) (l : List Nat) (wr : World) (pv tv nv : Value) (b : RB) : Prop where
  ru : RuAt (W.heap.size + 1 + 1) (W.heap.size + 1 + 1) wr pv tv nv b.pos b.tests b.neg
  rb : wr.heap[W.heap.size + 1]? = some (.cells #[.int .i64 0, .slice none 0 0, .slice none 0 0, .slice none 0 0, .slice none 0 0, .slice none 0 0, .int .i64 0] 39 (0, 0))
  below : Below (W.heap.size + 1) (W.alloc (.cells pl 27)) wr
  way : OwnI wr (W.heap.size + 1 + 1) v l
  far : ∀ x, v.ownBlock = some x → x ∉ ufoot (W.heap.size + 1 + 1) pv tv nv
section
variable {W wr wr' w1 : World} {pl : Array Value} {v : Value} {l : List Nat} {pv tv nv pv' tv' nv' : Value} {b b' : RB}
theorem RlSt.step (h : RlSt W pl v l wr pv tv nv b) (hb : Below wr.heap.size wr wr') : RlSt W pl v l wr' pv tv nv b :=
  ⟨h.ru.step hb, (hb.block _ (lt_of_heap h.rb)).trans h.rb, box_step h.below hb, h.way.below hb, h.far⟩
/-- Behind an append and a store. -/
theorem RlSt.next (h : RlSt W pl v l wr pv tv nv b) (hr : RuAt (W.heap.size + 1 + 1) (W.heap.size + 1 + 1) wr' pv' tv' nv' b'.pos b'.tests b'.neg) (ht : Turns (ufoot (W.heap.size + 1 + 1) pv tv nv) wr wr')
    (hm : ∀ x ∈ ufoot (W.heap.size + 1 + 1) pv' tv' nv', x ∈ ufoot (W.heap.size + 1 + 1) pv tv nv ∨ wr.heap.size ≤ x) : RlSt W pl v l wr' pv' tv' nv' b' := by
  have fl := h.ru.foot_lt
  refine ⟨hr, (ht.block _ (lt_of_heap h.rb) (fun hx => by have := (fl _ hx).1; omega)).trans h.rb, h.below.trans (ht.below (by have := h.below.size; simp at this; omega) (fun x hx => by have := (fl x hx).1; omega)), ?_, ?_⟩
  · exact ownsRow_turns h.way ht (fun x hx hf => h.far x hx hf)
  · intro x hx hf
    rcases hm x hf with h1 | h1
    · exact h.far x hx h1
    · have := (ownBlock_cells h.way hx).2.1
      omega
end

theorem store7 {w : World} {g : Nat} {c0 c1 c2 c3 c4 c5 c6 : Value} {T : TypeId} (h : w.heap[g]? = some (.cells #[c0, c1, c2, c3, c4, c5, c6] T (0, 0))) (d0 d1 d2 d3 d4 d5 d6 : Value) :
    (((((((w.setCell ⟨g, 0, none⟩ d0).setCell ⟨g, 1, none⟩ d1).setCell ⟨g, 2, none⟩ d2).setCell ⟨g, 3, none⟩ d3).setCell ⟨g, 4, none⟩ d4).setCell ⟨g, 5, none⟩ d5).setCell ⟨g, 6, none⟩ d6).heap[g]? = some (.cells #[d0, d1, d2, d3, d4, d5, d6] T (0, 0)) := by
  have h0 := heap_setCell_same _ _ 0 _ _ d0 h
  have h1 := heap_setCell_same _ _ 1 _ _ d1 h0
  have h2 := heap_setCell_same _ _ 2 _ _ d2 h1
  have h3 := heap_setCell_same _ _ 3 _ _ d3 h2
  have h4 := heap_setCell_same _ _ 4 _ _ d4 h3
  have h5 := heap_setCell_same _ _ 5 _ _ d5 h4
  have h6 := heap_setCell_same _ _ 6 _ _ d6 h5
  rw [h6]
  simp
theorem turns7 (w : World) (g : Nat) (d0 d1 d2 d3 d4 d5 d6 : Value) :
    Turns [g] w (((((((w.setCell ⟨g, 0, none⟩ d0).setCell ⟨g, 1, none⟩ d1).setCell ⟨g, 2, none⟩ d2).setCell ⟨g, 3, none⟩ d3).setCell ⟨g, 4, none⟩ d4).setCell ⟨g, 5, none⟩ d5).setCell ⟨g, 6, none⟩ d6) :=
  (((((((Turns.refl _ _).setCell (.inl (by simp)) _).setCell (.inl (by simp)) _).setCell (.inl (by simp)) _).setCell (.inl (by simp)) _).setCell (.inl (by simp)) _).setCell (.inl (by simp)) _).setCell (.inl (by simp)) _
set_option maxRecDepth 200000 in
set_option maxHeartbeats 16000000 in
theorem rruleW {F : Nat → Prop} (W : World) (av nv ev : Value) (al : List Shp) (ns : List Nd) (es : List Int) (h : RPl F W av nv ev al ns es) (hS : plSm 1048576 al ns es) (e : Int) :
    Calls Try.prog 40 #[.agg #[av, nv, ev], .int .i64 e] W (RRuleRes al ns e W) := by
  obtain ⟨Aa, ca, rfl⟩ := h.al.form
  obtain ⟨An, cn, rfl⟩ := h.ns.form
  obtain ⟨Ae, ce, rfl⟩ := h.en.form
  have HP := Lib.hid h
  have SM := Lib.hid hS
  have WY := Lib.hid (fun (Wx : World) (hb : Below W.heap.size W Wx) => rwayW Wx (.slice Aa al.length ca) _ (.slice Ae es.length ce) ns (h.below hb).ns e (by have := hS.ns.1; omega))
  clear h hS
  have h0 : RlSt W #[.slice Aa al.length ca, .slice An ns.length cn, .slice Ae es.length ce] (.slice none 0 0) [] (((W.alloc (.cells #[.slice Aa al.length ca, .slice An ns.length cn, .slice Ae es.length ce] 27)).alloc (.cells #[.int .i64 0, .slice none 0 0, .slice none 0 0, .slice none 0 0, .slice none 0 0, .slice none 0 0, .int .i64 0] 39)).alloc (.cells #[.int .i64 0, .slice none 0 0, .slice none 0 0, .slice none 0 0, .slice none 0 0, .slice none 0 0, .int .i64 0] 39)) (.slice none 0 0) (.slice none 0 0) (.slice none 0 0) rb0 := by
    refine ⟨⟨?_, OwnF.nil, OwnF.nil, OwnF.nil, Nat.le_refl _, by simp [Value.ownBlock]⟩, ?_, ((Below.refl _ _).alloc (by simp) _).alloc (by simp) _, World.ownsRow_nil _ _ _ _, by simp [Value.ownBlock]⟩
    · have := heap_alloc_new ((W.alloc (.cells #[.slice Aa al.length ca, .slice An ns.length cn, .slice Ae es.length ce] 27)).alloc (.cells #[.int .i64 0, .slice none 0 0, .slice none 0 0, .slice none 0 0, .slice none 0 0, .slice none 0 0, .int .i64 0] 39)) (.cells #[.int .i64 0, .slice none 0 0, .slice none 0 0, .slice none 0 0, .slice none 0 0, .slice none 0 0, .int .i64 0] 39)
      simpa using this
    · rw [Below.heap_alloc _ _ _ (by simp)]
      have := heap_alloc_new (W.alloc (.cells #[.slice Aa al.length ca, .slice An ns.length cn, .slice Ae es.length ce] 27)) (.cells #[.int .i64 0, .slice none 0 0, .slice none 0 0, .slice none 0 0, .slice none 0 0, .slice none 0 0, .int .i64 0] 39)
      simpa using this
  have C1 := Lib.hid (WY.out _ (box_below h0.below))
  have H0 := Lib.hid h0
  clear h0 WY
  go_enter Try.func40, Try.ntmps40
  go_wp2_with fail
  refine C1.out.mono ?_
  rintro e1 w1 ⟨hb1, hres⟩
  have HX := H0.out.step hb1
  have r0 := rboxL HX.rb 0 rfl
  have r1 := rboxL HX.rb 1 rfl
  have r2 := rboxL HX.rb 2 rfl
  have r3 := rboxL HX.rb 3 rfl
  have r4 := rboxL HX.rb 4 rfl
  have r5 := rboxL HX.rb 5 rfl
  have r6 := rboxL HX.rb 6 rfl
  have u0 := HX.ru.cell 0 rfl
  have u1 := HX.ru.cell 1 rfl
  have u2 := HX.ru.cell 2 rfl
  have u3 := HX.ru.cell 3 rfl
  have u4 := HX.ru.cell 4 rfl
  have u5 := HX.ru.cell 5 rfl
  have u6 := HX.ru.cell 6 rfl
  have rf : ∀ o, w1.frozen? ⟨W.heap.size + 1, o, none⟩ = false := fun o => by have := HX.rb; simp [World.frozen?, this]
  have hg := HX.ru.lt
  have hg1 : W.heap.size + 1 < w1.heap.size := by omega
  have ef := Lib.hid (HX.rb)
  have HXX := Lib.hid HX
  have HB1 := Lib.hid hb1
  clear hb1 HX C1
  rcases hres with ⟨l, v, hw, rfl, hO, hll⟩ | ⟨hw, rfl⟩
  case inr =>
    have HF := Lib.hid (show ruleB al ns e = none by unfold ruleB; rw [hw])
    clear hw
    go_wp2
    refine bodyPost_ret (v := .tuple #[.agg #[.int .i64 0, .slice none 0 0, .slice none 0 0, .slice none 0 0, .slice none 0 0, .slice none 0 0, .int .i64 0], .bool false]) (results_row_slot rfl _ _ (W.heap.size + 1) 39 #[.int .i64 0, .slice none 0 0, .slice none 0 0, .slice none 0 0, .slice none 0 0, .slice none 0 0, .int .i64 0] (0, 0) _ _ rfl rfl (store7 ef.out _ _ _ _ _ _ _) Try.underlying39 rfl sizeRlR) rfl ?_
    exact ⟨(box_below HXX.out.below).trans ((turns7 w1 _ _ _ _ _ _ _ _).below (box_below HXX.out.below).size (fun x hx => by rw [List.mem_singleton.1 hx]; omega)), none, 0, 0, none, 0, 0, none, 0, 0, .inr ⟨rfl, HF.out⟩⟩
  have hst0 : RlSt W #[.slice Aa al.length ca, .slice An ns.length cn, .slice Ae es.length ce] v l w1 (.slice none 0 0) (.slice none 0 0) (.slice none 0 0) rb0 :=
    ⟨HXX.out.ru, HXX.out.rb, HXX.out.below, OwnI.base hO (by simp), fun x hx hm => by
      have h1 := (ownBlock_cells hO hx).1
      simp [ufoot, Value.ownBlock] at hm h1
      omega⟩
  have HST0 := Lib.hid hst0
  have HW := Lib.hid hw
  have HLL := Lib.hid hll
  obtain ⟨va, vc, rfl, -⟩ := hO.shp
  have hl20 : l.length ≤ 1048576 := by have := SM.out.ns.1; omega
  clear hst0 hw hll hO r0 r1 r2 r3 r4 r5 r6 u0 u1 u2 u3 u4 u5 u6 rf ef HXX HB1 hg hg1
  go_wp2
  go_loopw [9, 10] (fun wv iv wr => ∃ (k : Nat) (b : RB) (pv tv nv : Value), iv = .int .i64 k ∧ wv = .int .i64 b.w ∧ k ≤ l.length ∧ (l.take k).foldl (rbS al ns) (some rb0) = some b ∧ RBok b k ∧ RlSt W #[.slice Aa al.length ca, .slice An ns.length cn, .slice Ae es.length ce] (.slice va l.length vc) l wr pv tv nv b) (fun _ iv _ => l.length - (intOf iv).toNat)
  case atStart => exact ⟨0, rb0, _, _, _, rfl, rfl, Nat.zero_le _, rfl, rbok0, HST0.out⟩
  case round =>
    obtain ⟨k, b, pv, tv, nv, rfl, rfl, hk, hf, hok, hst⟩ := hrel
    clear HST0
    obtain ⟨pa, pc, rfl⟩ := hst.ru.po.form
    obtain ⟨ta, tc, rfl⟩ := hst.ru.te.form
    obtain ⟨na, nc, rfl⟩ := hst.ru.ne.form
    have hg := hst.ru.lt
    have hlen := hok.len
    by_cases hkn : k < l.length
    · obtain ⟨x, hx⟩ : ∃ x, l[k]? = some x := ⟨_, List.getElem?_eq_getElem hkn⟩
      have hxn := wayR_lt HW.out x (List.mem_of_getElem? hx)
      obtain ⟨n, hn⟩ : ∃ n, ns[x]? = some n := ⟨_, List.getElem?_eq_getElem hxn⟩
      obtain ⟨ga, rfl, hga, -⟩ := hst.way.elt hx
      obtain ⟨nb, no, rfl, -, hnb, ncs, ⟨lv, mv, hN⟩, hcs⟩ := HP.out.ns.at hn
      have hncs := hN.cells
      subst hncs
      obtain ⟨Al, cl, rfl⟩ := hN.links.form
      obtain ⟨Am, cm, rfl⟩ := hN.new.form
      have KP := Lib.hid (fun (w' : World) (hW : Below wr.heap.size wr w') => (show w'.cell? ⟨W.heap.size, 1, none⟩ = some (.slice (some ⟨nb, no, none⟩) ns.length cn) ∧ w'.cell? ⟨ga, k, none⟩ = some (.int .i64 (x : Int)) ∧ w'.cell? ⟨nb, no + x * 11, none⟩ = some (.int .i64 n.kind) ∧ w'.cell? ⟨nb, no + x * 11 + 1, none⟩ = some (.int .i64 n.parent) ∧ w'.cell? ⟨nb, no + x * 11 + 2, none⟩ = some (.int .i64 n.alpha) ∧ w'.cell? ⟨nb, no + x * 11 + 3, none⟩ = some (.slice Al n.links.length cl) ∧ w'.cell? ⟨nb, no + x * 11 + 4, none⟩ = some (.slice Am n.new.length cm) ∧ w'.cell? ⟨nb, no + x * 11 + 5, none⟩ = some (.int .i64 n.test.op) ∧ w'.cell? ⟨nb, no + x * 11 + 6, none⟩ = some (.bool n.test.l.v) ∧ w'.cell? ⟨nb, no + x * 11 + 7, none⟩ = some (.int .i64 n.test.l.n) ∧ w'.cell? ⟨nb, no + x * 11 + 8, none⟩ = some (.bool n.test.r.v) ∧ w'.cell? ⟨nb, no + x * 11 + 9, none⟩ = some (.int .i64 n.test.r.n) ∧ w'.cell? ⟨nb, no + x * 11 + 10, none⟩ = some (.int .i64 n.width) from by
        obtain ⟨g', hg', -, c0⟩ := (hst.way.below hW).elt hx
        simp only [Option.some.injEq, Addr.mk.injEq, and_true] at hg'
        subst hg'
        have dd := fun (k : Nat) (u : Value) hu => ((box_below (box_step hst.below hW)).cell (p := ⟨nb, no + x * 11 + k, none⟩) hnb).trans (hcs k u hu)
        exact ⟨box_cellL (box_step hst.below hW) 1 rfl, c0, dd 0 _ rfl, dd 1 _ rfl, dd 2 _ rfl, dd 3 _ rfl, dd 4 _ rfl, dd 5 _ rfl, dd 6 _ rfl, dd 7 _ rfl, dd 8 _ rfl, dd 9 _ rfl, dd 10 _ rfl⟩))
      have e4 : (0 : Int) ≤ (k : Int) := by omega
      have e5 : (k : Int) < (l.length : Int) := by omega
      have e6 : (0 : Int) ≤ (x : Int) := by omega
      have e7 : (x : Int) < (ns.length : Int) := by omega
      obtain ⟨wn, hwn⟩ : ∃ wn, wn = (wr.alloc (.cells #[.int .i64 n.kind, .int .i64 n.parent, .int .i64 n.alpha, .slice Al n.links.length cl, .slice Am n.new.length cm, .int .i64 n.test.op, .bool n.test.l.v, .int .i64 n.test.l.n, .bool n.test.r.v, .int .i64 n.test.r.n, .int .i64 n.width] 54)).drew := ⟨_, rfl⟩
      have hrow : wn.heap[wr.heap.size]? = some (.cells #[.int .i64 n.kind, .int .i64 n.parent, .int .i64 n.alpha, .slice Al n.links.length cl, .slice Am n.new.length cm, .int .i64 n.test.op, .bool n.test.l.v, .int .i64 n.test.l.n, .bool n.test.r.v, .int .i64 n.test.r.n, .int .i64 n.width] 54 (0, 0)) := by rw [hwn]; exact heap_alloc_new wr _
      have hqn : Below wr.heap.size wr wn := by rw [hwn]; exact ((Below.refl _ _).alloc (Nat.le_refl _) _).drew
      have hXn := hst.step hqn
      have hnl := SM.out.ns.2 n (List.mem_of_getElem? hn)
      have CB := Lib.hid (fun (Wx : World) (hb : Below W.heap.size W Wx) => rbackW Wx (.slice Aa al.length ca) (.slice (some ⟨nb, no, none⟩) ns.length cn) (.slice Ae es.length ce) al (HP.out.below hb).al SM.out.al.1 (fun s hs => SM.out.al.2 s hs) n _ _ _ (hN.kp (Kp.of_below hb) (fun _ _ h => h)) hnl.2 b.w (by have := hok.w; omega))
      have TOK := Lib.hid hN.ok
      have HXN := Lib.hid hXn
      have HROW := Lib.hid hrow
      have HQN := Lib.hid hqn
      have HF := Lib.hid (show (l.take (k + 1)).foldl (rbS al ns) (some rb0) = rbS al ns (some b) x by rw [fold_next (rbS al ns) (some rb0) hx, hf])
      have HNN := Lib.hid hn
      have HOK := Lib.hid hok
      have HK := Lib.hid hkn
      have HNL := Lib.hid hnl
      have HFL := Lib.hid (hst.ru.foot_lt)
      have S0 := KP.out _ (Below.refl _ _).drew
      clear hN hx hn hcs hkn hst hf hok hrow hqn hXn hnl hlen
      go_wp2_with fail
      go_region_held3 (fun w' : World => w'.cell? ⟨W.heap.size, 1, none⟩ = some (.slice (some ⟨nb, no, none⟩) ns.length cn) ∧ w'.cell? ⟨ga, k, none⟩ = some (.int .i64 (x : Int)) ∧ w'.cell? ⟨nb, no + x * 11, none⟩ = some (.int .i64 n.kind) ∧ w'.cell? ⟨nb, no + x * 11 + 1, none⟩ = some (.int .i64 n.parent) ∧ w'.cell? ⟨nb, no + x * 11 + 2, none⟩ = some (.int .i64 n.alpha) ∧ w'.cell? ⟨nb, no + x * 11 + 3, none⟩ = some (.slice Al n.links.length cl) ∧ w'.cell? ⟨nb, no + x * 11 + 4, none⟩ = some (.slice Am n.new.length cm) ∧ w'.cell? ⟨nb, no + x * 11 + 5, none⟩ = some (.int .i64 n.test.op) ∧ w'.cell? ⟨nb, no + x * 11 + 6, none⟩ = some (.bool n.test.l.v) ∧ w'.cell? ⟨nb, no + x * 11 + 7, none⟩ = some (.int .i64 n.test.l.n) ∧ w'.cell? ⟨nb, no + x * 11 + 8, none⟩ = some (.bool n.test.r.v) ∧ w'.cell? ⟨nb, no + x * 11 + 9, none⟩ = some (.int .i64 n.test.r.n) ∧ w'.cell? ⟨nb, no + x * 11 + 10, none⟩ = some (.int .i64 n.width)) (first | exact S0 | exact KP.out _ (Below.refl _ _).drew | exact KP.out _ ((Below.refl _ _).alloc (Nat.le_refl _) _).drew | exact KP.out _ ((Below.refl _ _).alloc (Nat.le_refl _) _) | go_keep) ((fail))
      go_upto_region 10 with fail
      rw [← hwn]
      clear hwn S0 KP
      have q0 := rboxL HROW.out 0 rfl
      have q1 := rboxL HROW.out 1 rfl
      have q2 := rboxL HROW.out 2 rfl
      have q3 := rboxL HROW.out 3 rfl
      have q4 := rboxL HROW.out 4 rfl
      have q5 := rboxL HROW.out 5 rfl
      have q6 := rboxL HROW.out 6 rfl
      have q7 := rboxL HROW.out 7 rfl
      have q8 := rboxL HROW.out 8 rfl
      have q9 := rboxL HROW.out 9 rfl
      have q10 := rboxL HROW.out 10 rfl
      have u2 := HXN.out.ru.cell 2 rfl
      have u3 := HXN.out.ru.cell 3 rfl
      have u4 := HXN.out.ru.cell 4 rfl
      have hgn := HXN.out.ru.lt
      have hrn := lt_of_heap HROW.out
      have hfl := HXN.out.ru.foot_lt
      by_cases hk2 : n.kind = 2
      · have hkb : (n.kind == 2) = true := by simp [hk2]
        have HR := Lib.hid (show (l.take (k + 1)).foldl (rbS al ns) (some rb0) = some ⟨b.w, b.pos, b.tests ++ [n.test], b.neg⟩ by rw [HF.out, rbS_test HNN.out hk2])
        have HOK2 := Lib.hid (HOK.out.test n.test)
        have hbl : b.tests.length ≤ 1048576 := by have := HOK.out.len; have := HK.out; omega
        have hbase : W.heap.size + 1 + 1 ≤ wn.heap.size := by omega
        clear hk2 hfl CB
        go_wp2_with (at_builtin; refine wpList_append_F HXN.out.ru.te (fun b hb hf => hf.2 (by simp [ufoot, hb])) rfl (.tmp 42) (.tmp 45) 36 rfl Try.underlying36 infoTst rfl (by decide) rfl #[.int .i64 n.test.op, .bool n.test.l.v, .int .i64 n.test.l.n, .bool n.test.r.v, .int .i64 n.test.r.n] _ rfl rfl (x := n.test) ⟨rfl, TOK.out.2.2.2.2.1, TOK.out.2.2.2.2.2.1, TOK.out.2.2.2.2.2.2⟩ (by omega) (by decide) hbase ?_; intro g' cap w5 ho ht hat hlt5; have hgg := (HXN.out.ru.apart).2.1; have e3 := (ht.block _ HXN.out.ru.lt (fun hm => (hgg _ (by simpa using hm)).1 rfl)).trans HXN.out.ru.blk; have z1 := rboxL e3 3 rfl; have z2 : ∀ o, w5.frozen? ⟨W.heap.size + 1 + 1, o, none⟩ = false := (fun o => by simp [World.frozen?, e3]); have z3 := lt_of_heap e3; have GR := Lib.hid (HXN.out.ru.grow_ns ho ht hat); clear ho ht hat hlt5 hgg e3)
        have N1 := HXN.out.next (b' := ⟨b.w, b.pos, b.tests ++ [n.test], b.neg⟩) GR.out.1 GR.out.2.1 GR.out.2.2
        exact ⟨⟨k + 1, ⟨b.w, b.pos, b.tests ++ [n.test], b.neg⟩, _, _, _, by go_num, rfl, HK.out, HR.out, HOK2.out, N1⟩, by simp [intOf]; have := HK.out; omega⟩
      · have y0 := box_cellL HXN.out.below 0 rfl
        have y1 := box_cellL HXN.out.below 1 rfl
        have y2 := box_cellL HXN.out.below 2 rfl
        have hkb : (n.kind == 2) = false := by simpa using hk2
        have CBW := Lib.hid (CB.out wn (box_below HXN.out.below))
        clear CB
        go_wp2_with fail
        refine CBW.out.mono ?_
        rintro e2 w2 ⟨hb2, hres⟩
        have HX2 := Lib.hid (HXN.out.step hb2)
        have HROW2 := Lib.hid ((hb2.block _ hrn).trans HROW.out)
        have hw2 := hb2.size
        clear CBW q0 q1 q2 q3 q4 q5 q6 q7 q8 q9 q10 y0 y1 y2 u2 u3 u4
        have u0 := HX2.out.ru.cell 0 rfl
        have u1 := HX2.out.ru.cell 1 rfl
        have u2 := HX2.out.ru.cell 2 rfl
        have u3 := HX2.out.ru.cell 3 rfl
        have u4 := HX2.out.ru.cell 4 rfl
        have u5 := HX2.out.ru.cell 5 rfl
        have u6 := HX2.out.ru.cell 6 rfl
        have q0 := rboxL HROW2.out 0 rfl
        have hg2 := HX2.out.ru.lt
        have hg3 : W.heap.size + 1 < w2.heap.size := by omega
        have hr2 := lt_of_heap HROW2.out
        rcases hres with ⟨p, v, hp, rfl, pok, hv⟩ | ⟨hp, rfl⟩
        · obtain ⟨va2, vc2, rfl⟩ := hv.form
          have hne1 : wr.heap.size ≠ W.heap.size + 1 + 1 := by omega
          have hbp : Below w2.heap.size w2 (w2.alloc (.cells #[.int .i64 p.pred, .slice va2 p.args.length vc2] 34)) := (Below.refl _ _).alloc (Nat.le_refl _) _
          have HX3 := Lib.hid (HX2.out.step hbp)
          have HROW3 := Lib.hid ((hbp.block _ hr2).trans HROW2.out)
          have HNF := Lib.hid (show ∀ x ∈ ufoot (W.heap.size + 1 + 1) (.slice pa b.pos.length pc) (.slice ta b.tests.length tc) (.slice na b.neg.length nc), x = wr.heap.size → False from fun x hx e => by have := (HFL.out x hx).2; omega)
          have HEL := Lib.hid (show EPat (Off (W.heap.size + 1 + 1) (ufoot (W.heap.size + 1 + 1) (.slice pa b.pos.length pc) (.slice ta b.tests.length tc) (.slice na b.neg.length nc))) (w2.alloc (.cells #[.int .i64 p.pred, .slice va2 p.args.length vc2] 34)) [.int .i64 p.pred, .slice va2 p.args.length vc2] p from
            ⟨_, rfl, pok, hv.kp (Kp.of_below hbp) (fun b _ hb => ⟨by omega, fun hm => by have := (HFL.out b hm).2; omega⟩) (fun _ _ h => h)⟩)
          obtain ⟨s, hs1, hs2⟩ := backP_len hp
          have hpl : p.args.length ≤ 1048576 := by rw [hs2]; exact SM.out.al.2 s hs1
          have hbase : W.heap.size + 1 + 1 ≤ (w2.alloc (.cells #[.int .i64 p.pred, .slice va2 p.args.length vc2] 34)).heap.size := by simp; omega
          have hb1 : b.pos.length ≤ 1048576 := by have := HOK.out.len; have := HK.out; omega
          have hb3 : b.neg.length ≤ 1048576 := by have := HOK.out.len; have := HK.out; omega
          by_cases hk1 : n.kind = 1
          · have hkb1 : (n.kind == 1) = true := by simp [hk1]
            have HR := Lib.hid (show (l.take (k + 1)).foldl (rbS al ns) (some rb0) = some ⟨b.w + (n.new.length : Int), b.pos ++ [p], b.tests, b.neg⟩ by rw [HF.out, rbS_join HNN.out hk1 hp])
            have HOK2 := Lib.hid (HOK.out.join hpl HNL.out.2)
            have e8 : -9223372036854775808 ≤ b.w + (n.new.length : Int) ∧ b.w + (n.new.length : Int) ≤ 9223372036854775807 := by have := HOK.out.w; have := HNL.out.2; omega
            have e9 : IntKind.i64.wrap (b.w + (n.new.length : Int)) = b.w + (n.new.length : Int) := IntWalk.i64_in _ e8
            have e10 : wrap64 (b.w + (n.new.length : Int)) = b.w + (n.new.length : Int) := IntWalk.wrap64_in _ e8
            clear hk1 hk2 hp hv hbp hs1 hs2 hb2 hfl pok
            go_wp2_with (at_builtin; refine wpList_append_F HX3.out.ru.po (fun b hb hf => hf.2 (by simp [ufoot, hb])) rfl (.tmp 62) (.tmp 64) 35 rfl Try.underlying35 infoPat rfl (by decide) rfl #[.int .i64 p.pred, .slice va2 p.args.length vc2] _ rfl (by simp) (x := p) HEL.out (by omega) (by decide) hbase ?_; intro g' cap w5 ho ht hat hlt5; have hgg := (HX3.out.ru.apart).1; have e3 := (ht.block _ HX3.out.ru.lt (fun hm => (hgg _ (by simpa using hm)).1 rfl)).trans HX3.out.ru.blk; have z1 := rboxL e3 2 rfl; have z2 : ∀ o, w5.frozen? ⟨W.heap.size + 1 + 1, o, none⟩ = false := (fun o => by simp [World.frozen?, e3]); have z3 := lt_of_heap e3; have z5 := (ht.block _ (lt_of_heap HROW3.out) (fun hm => HNF.out _ (by simp at hm; simp [ufoot, hm]) rfl)).trans HROW3.out; have z4 := rboxL z5 4 rfl; have GR := Lib.hid (HX3.out.ru.grow_al ho ht hat); have z6 := rboxL ((Below.heap_setCell _ ⟨W.heap.size + 1 + 1, 2, none⟩ (.slice (some ⟨g', 0, none⟩) (b.pos.length + 1) cap) _ hne1).trans z5) 4 rfl; clear ho ht hat hlt5 hgg e3 z5)
            have N1 := HX3.out.next (b' := ⟨b.w + (n.new.length : Int), b.pos ++ [p], b.tests, b.neg⟩) GR.out.1 GR.out.2.1 GR.out.2.2
            exact ⟨⟨k + 1, ⟨b.w + (n.new.length : Int), b.pos ++ [p], b.tests, b.neg⟩, _, _, _, by go_num, by go_num, HK.out, HR.out, HOK2.out, N1⟩, by simp [intOf]; have := HK.out; omega⟩
          · have hkb1 : (n.kind == 1) = false := by simpa using hk1
            have HR := Lib.hid (show (l.take (k + 1)).foldl (rbS al ns) (some rb0) = some ⟨b.w, b.pos, b.tests, b.neg ++ [p]⟩ by rw [HF.out, rbS_neg HNN.out hk2 hk1 hp])
            have HOK2 := Lib.hid (HOK.out.nega hpl)
            clear hk1 hk2 hp hv hbp hs1 hs2 hb2 hfl pok
            go_wp2_with (at_builtin; refine wpList_append_F HX3.out.ru.ne (fun b hb hf => hf.2 (by simp [ufoot, hb])) rfl (.tmp 73) (.tmp 75) 35 rfl Try.underlying35 infoPat rfl (by decide) rfl #[.int .i64 p.pred, .slice va2 p.args.length vc2] _ rfl (by simp) (x := p) HEL.out (by omega) (by decide) hbase ?_; intro g' cap w5 ho ht hat hlt5; have hgg := (HX3.out.ru.apart).2.2; have e3 := (ht.block _ HX3.out.ru.lt (fun hm => hgg _ (by simpa using hm) rfl)).trans HX3.out.ru.blk; have z1 := rboxL e3 4 rfl; have z2 : ∀ o, w5.frozen? ⟨W.heap.size + 1 + 1, o, none⟩ = false := (fun o => by simp [World.frozen?, e3]); have z3 := lt_of_heap e3; have z5 := (ht.block _ (lt_of_heap HROW3.out) (fun hm => HNF.out _ (by simp at hm; simp [ufoot, hm]) rfl)).trans HROW3.out; have z4 := rboxL z5 4 rfl; have GR := Lib.hid (HX3.out.ru.grow_en ho ht hat); have z6 := rboxL ((Below.heap_setCell _ ⟨W.heap.size + 1 + 1, 4, none⟩ (.slice (some ⟨g', 0, none⟩) (b.neg.length + 1) cap) _ hne1).trans z5) 4 rfl; clear ho ht hat hlt5 hgg e3 z5)
            have N1 := HX3.out.next (b' := ⟨b.w, b.pos, b.tests, b.neg ++ [p]⟩) GR.out.1 GR.out.2.1 GR.out.2.2
            exact ⟨⟨k + 1, ⟨b.w, b.pos, b.tests, b.neg ++ [p]⟩, _, _, _, by go_num, rfl, HK.out, HR.out, HOK2.out, N1⟩, by simp [intOf]; have := HK.out; omega⟩
        · have HFN := Lib.hid (rule_none (k := k + 1) HW.out (by rw [HF.out, rbS_bad HNN.out hk2 hp]))
          obtain ⟨w3, hw3⟩ : ∃ w3, w3 = w2.alloc (.cells #[.int .i64 0, .slice none 0 0] 34) := ⟨_, rfl⟩
          have HX3 := Lib.hid (show RlSt W #[.slice Aa al.length ca, .slice (some ⟨nb, no, none⟩) ns.length cn, .slice Ae es.length ce] (.slice (some ⟨ga, 0, none⟩) l.length vc) l w3 (.slice pa b.pos.length pc) (.slice ta b.tests.length tc) (.slice na b.neg.length nc) b by rw [hw3]; exact HX2.out.step ((Below.refl _ _).alloc (Nat.le_refl _) _))
          clear hp hk2 hb2 u0 u1 u2 u3 u4 u5 u6 hfl hg2 hg3 hr2
          have r0 := rboxL HX3.out.rb 0 rfl
          have v0 := HX3.out.ru.cell 0 rfl
          have r1 := rboxL HX3.out.rb 1 rfl
          have v1 := HX3.out.ru.cell 1 rfl
          have r2 := rboxL HX3.out.rb 2 rfl
          have v2 := HX3.out.ru.cell 2 rfl
          have r3 := rboxL HX3.out.rb 3 rfl
          have v3 := HX3.out.ru.cell 3 rfl
          have r4 := rboxL HX3.out.rb 4 rfl
          have v4 := HX3.out.ru.cell 4 rfl
          have r5 := rboxL HX3.out.rb 5 rfl
          have v5 := HX3.out.ru.cell 5 rfl
          have r6 := rboxL HX3.out.rb 6 rfl
          have v6 := HX3.out.ru.cell 6 rfl
          have rf : ∀ (o : Nat), w3.frozen? ⟨W.heap.size + 1, o, none⟩ = false := fun o => by have := HX3.out.rb; simp [World.frozen?, this]
          have hg2 := HX3.out.ru.lt
          have hg3 : W.heap.size + 1 < w3.heap.size := by omega
          go_upto_region 14 with fail
          rw [← hw3]
          clear hw3
          go_wp2
          refine bodyPost_ret (v := .tuple #[.agg #[.int .i64 0, .slice none 0 0, .slice pa b.pos.length pc, .slice ta b.tests.length tc, .slice na b.neg.length nc, .slice none 0 0, .int .i64 0], .bool false]) (results_row_slot rfl _ _ (W.heap.size + 1) 39 #[.int .i64 0, .slice none 0 0, .slice pa b.pos.length pc, .slice ta b.tests.length tc, .slice na b.neg.length nc, .slice none 0 0, .int .i64 0] (0, 0) _ _ rfl rfl (store7 HX3.out.rb _ _ _ _ _ _ _) Try.underlying39 rfl sizeRlR) rfl ?_
          have hbw := box_below HX3.out.below
          exact ⟨hbw.trans ((turns7 _ _ _ _ _ _ _ _ _).below hbw.size (fun x hx => by rw [List.mem_singleton.1 hx]; omega)), _, _, _, _, _, _, _, _, _, .inr ⟨rfl, HFN.out⟩⟩
    · obtain rfl : k = l.length := by omega
      rw [List.take_length] at hf
      have HF := Lib.hid (rule_some HW.out hf)
      have r0 := rboxL hst.rb 0 rfl
      have r1 := rboxL hst.rb 1 rfl
      have r2 := rboxL hst.rb 2 rfl
      have r3 := rboxL hst.rb 3 rfl
      have r4 := rboxL hst.rb 4 rfl
      have r5 := rboxL hst.rb 5 rfl
      have r6 := rboxL hst.rb 6 rfl
      have u0 := hst.ru.cell 0 rfl
      have u1 := hst.ru.cell 1 rfl
      have u2 := hst.ru.cell 2 rfl
      have u3 := hst.ru.cell 3 rfl
      have u4 := hst.ru.cell 4 rfl
      have u5 := hst.ru.cell 5 rfl
      have u6 := hst.ru.cell 6 rfl
      have rf : ∀ o, wr.frozen? ⟨W.heap.size + 1, o, none⟩ = false := fun o => by have := hst.rb; simp [World.frozen?, this]
      have hg1 : W.heap.size + 1 < wr.heap.size := by omega
      have HX := Lib.hid hst
      have HOK := Lib.hid hok
      clear hst hf hok hkn hlen
      go_wp2
      refine bodyPost_ret (v := .tuple #[.agg #[.int .i64 0, .slice none 0 0, .slice pa b.pos.length pc, .slice ta b.tests.length tc, .slice na b.neg.length nc, .slice none 0 0, .int .i64 0], .bool true]) (results_row_slot rfl _ _ (W.heap.size + 1) 39 #[.int .i64 0, .slice none 0 0, .slice pa b.pos.length pc, .slice ta b.tests.length tc, .slice na b.neg.length nc, .slice none 0 0, .int .i64 0] (0, 0) _ _ rfl rfl (store7 HX.out.rb _ _ _ _ _ _ _) Try.underlying39 rfl sizeRlR) rfl ?_
      have T := turns7 wr (W.heap.size + 1) (.int .i64 0) (.slice none 0 0) (.slice pa b.pos.length pc) (.slice ta b.tests.length tc) (.slice na b.neg.length nc) (.slice none 0 0) (.int .i64 0)
      have hbw := box_below HX.out.below
      refine ⟨hbw.trans (T.below hbw.size (fun x hx => by rw [List.mem_singleton.1 hx]; omega)), _, _, _, _, _, _, _, _, _, .inl ⟨rfl, _, HF.out, ⟨_, _, _, _, _, ⟨rfl, ok0, ok0, ?_, ?_, ?_, ?_, ?_⟩⟩, ?_⟩⟩
      · exact RSl.nil
      · exact (HX.out.ru.po.rsl (G := fun b => W.heap.size + 1 + 1 ≤ b) (fun b hb => (HX.out.ru.po.block hb).1)).kp (Kp.of_turns T (fun x hx hf => by rw [List.mem_singleton.1 hx] at hf; omega)) (fun b _ hb => by omega) (fun cs p hp => EPat.kp hp (Kp.of_turns T (fun x hx hf => by have := hf.1; rw [List.mem_singleton.1 hx] at this; omega)) (fun b _ hb => by have := hb.1; omega))
      · exact (HX.out.ru.te.rsl (G := fun b => W.heap.size + 1 + 1 ≤ b) (fun b hb => (HX.out.ru.te.block hb).1)).kp (Kp.of_turns T (fun x hx hf => by rw [List.mem_singleton.1 hx] at hf; omega)) (fun b _ hb => by omega) (fun _ _ h => h)
      · exact (HX.out.ru.ne.rsl (G := fun b => W.heap.size + 1 + 1 ≤ b) (fun b hb => (HX.out.ru.ne.block hb).1)).kp (Kp.of_turns T (fun x hx hf => by rw [List.mem_singleton.1 hx] at hf; omega)) (fun b _ hb => by omega) (fun cs p hp => EPat.kp hp (Kp.of_turns T (fun x hx hf => by have := hf.1; rw [List.mem_singleton.1 hx] at this; omega)) (fun b _ hb => by have := hb.1; omega))
      · exact RSl.nil
      · have := HOK.out.len
        exact ⟨by simp [rlOf, noPat, patSm], ⟨by simp only [rlOf]; omega, HOK.out.ps⟩, by simp only [rlOf]; omega, ⟨by simp only [rlOf]; omega, HOK.out.ng⟩, by simp [rlOf]⟩
end Go.Proofs.Ytonkbjdeaneicaa
