/- A plan that is being copied, in its block. -/
import Derived.Test.YtonkbjdeaneicaaDoorKpa11
import Derived.Test.YtonkbjdeaneicaaDoorKpa24
import Derived.Test.YtonkbjdeaneicaaDoorKpa27
namespace Go.Proofs.YtonkbjdeaneicaaDoor
open Go.RowKit Pln Classical Go.Maps

def cfoot (g : Nat) (av nv ev : Value) : List Nat := g :: (av.ownBlock.toList ++ (nv.ownBlock.toList ++ ev.ownBlock.toList))
structure CpAt (base g : Nat) (W : World) (av nv ev : Value) (st : St) (es : List Int) : Prop where
  blk : W.heap[g]? = some (.cells #[av, nv, ev] 26 (0, 0))
  al : OwnF (Off base (cfoot g av nv ev)) base W 54 cdShp av st.al
  ns : OwnF (Off base (cfoot g av nv ev)) base W 40 cdNd nv st.ns
  en : OwnF (Off base (cfoot g av nv ev)) base W 3 cdInt ev es
  gb : base ≤ g
section
variable {base g : Nat} {W W' : World} {av nv ev : Value} {st : St} {es : List Int}
theorem cfoot_g : g ∈ cfoot g av nv ev := by simp [cfoot]
theorem CpAt.lt (h : CpAt base g W av nv ev st es) : g < W.heap.size := lt_of_heap h.blk
theorem CpAt.step (h : CpAt base g W av nv ev st es) (hb : Below W.heap.size W W') : CpAt base g W' av nv ev st es :=
  ⟨(hb.block _ h.lt).trans h.blk, h.al.below hb, h.ns.below hb, h.en.below hb, h.gb⟩
theorem CpAt.cell (h : CpAt base g W av nv ev st es) (j : Nat) {u : Value} (hu : (#[av, nv, ev] : Array Value).toList[j]? = some u) : W.cell? ⟨g, j, none⟩ = some u := rboxL h.blk j hu
theorem CpAt.fz (h : CpAt base g W av nv ev st es) (o : Nat) : W.frozen? ⟨g, o, none⟩ = false := by
  have := h.blk
  simp [World.frozen?, this]
theorem CpAt.foot_lt (h : CpAt base g W av nv ev st es) : ∀ x ∈ cfoot g av nv ev, base ≤ x ∧ x < W.heap.size := by
  intro x hx
  simp only [cfoot, List.mem_cons, List.mem_append, Option.mem_toList] at hx
  rcases hx with rfl | hx | hx | hx
  · exact ⟨h.gb, h.lt⟩
  · exact ⟨(h.al.block hx).1, (h.al.block hx).2.1⟩
  · exact ⟨(h.ns.block hx).1, (h.ns.block hx).2.1⟩
  · exact ⟨(h.en.block hx).1, (h.en.block hx).2.1⟩
theorem COff_new (h : CpAt base g W av nv ev st es) {b : Nat} (hb : W.heap.size ≤ b) : Off base (cfoot g av nv ev) b :=
  ⟨by have := (h.foot_lt g cfoot_g); omega, fun hm => by have := (h.foot_lt b hm).2; omega⟩
/-- The blocks differ, by what lies in them. -/
theorem CpAt.apart (h : CpAt base g W av nv ev st es) : (∀ b, av.ownBlock = some b → b ≠ g ∧ nv.ownBlock ≠ some b ∧ ev.ownBlock ≠ some b) ∧ (∀ b, nv.ownBlock = some b → b ≠ g ∧ ev.ownBlock ≠ some b) ∧ (∀ b, ev.ownBlock = some b → b ≠ g) := by
  have hg := h.blk
  refine ⟨?_, ?_, ?_⟩
  · intro b hb
    obtain ⟨_, _, c1, h1⟩ := h.al.block hb
    refine ⟨?_, ?_, ?_⟩
    · rintro rfl
      rw [hg] at h1
      simp at h1
    · intro h2
      obtain ⟨_, _, c2, h3⟩ := h.ns.block h2
      rw [h1] at h3
      simp at h3
    · intro h2
      obtain ⟨_, _, c2, h3⟩ := h.en.block h2
      rw [h1] at h3
      simp at h3
  · intro b hb
    obtain ⟨_, _, c1, h1⟩ := h.ns.block hb
    refine ⟨?_, ?_⟩
    · rintro rfl
      rw [hg] at h1
      simp at h1
    · intro h2
      obtain ⟨_, _, c2, h3⟩ := h.en.block h2
      rw [h1] at h3
      simp at h3
  · intro b hb
    obtain ⟨_, _, c1, h1⟩ := h.en.block hb
    rintro rfl
    rw [hg] at h1
    simp at h1
end
theorem CpAt.grow_al {base g : Nat} {wd w3 : World} {av nv ev : Value} {st : St} {es : List Int} {x : Shp} (h : CpAt base g wd av nv ev st es) {g' cap : Nat}
    (ho : ∀ F' : Nat → Prop, (∀ b, b < wd.heap.size → Off base (cfoot g av nv ev) b → F' b) → OwnF F' base w3 54 cdShp (.slice (some ⟨g', 0, none⟩) (st.al.length + 1) cap) (st.al ++ [x]))
    (ht : Turns av.ownBlock.toList wd w3) (hat : av.ownBlock = some g' ∨ wd.heap.size ≤ g') :
    CpAt base g (w3.setCell ⟨g, 0, none⟩ (.slice (some ⟨g', 0, none⟩) (st.al.length + 1) cap)) (.slice (some ⟨g', 0, none⟩) (st.al.length + 1) cap) nv ev ⟨st.al ++ [x], st.ns⟩ es ∧ Turns (cfoot g av nv ev) wd (w3.setCell ⟨g, 0, none⟩ (.slice (some ⟨g', 0, none⟩) (st.al.length + 1) cap)) ∧ ∀ b ∈ cfoot g (.slice (some ⟨g', 0, none⟩) (st.al.length + 1) cap) nv ev, b ∈ cfoot g av nv ev ∨ wd.heap.size ≤ b := by
  obtain ⟨a1, a2, a3⟩ := h.apart
  have hg : g ∉ av.ownBlock.toList := fun hm => (a1 g (by simpa using hm)).1 rfl
  have hgn : g' ≠ g := by
    rcases hat with h1 | h1
    · exact (a1 g' h1).1
    · have := h.lt; omega
  have T : Turns (g :: av.ownBlock.toList) wd (w3.setCell ⟨g, 0, none⟩ (.slice (some ⟨g', 0, none⟩) (st.al.length + 1) cap)) := (ht.mono (by simp +contextual)).setCell (.inl (by simp)) _
  have hoff : ∀ b ∈ g :: av.ownBlock.toList, ¬ Off base (cfoot g av nv ev) b := by
    intro b hb hf
    refine hf.2 ?_
    simp only [cfoot, List.mem_cons, List.mem_append] at hb ⊢
    rcases hb with hb | hb
    · exact .inl hb
    · exact .inr (.inl hb)
  have hmem : ∀ b, b ∈ cfoot g (.slice (some ⟨g', 0, none⟩) (st.al.length + 1) cap) nv ev → b ∈ cfoot g av nv ev ∨ wd.heap.size ≤ b := by
    intro b hm
    simp only [cfoot, List.mem_cons, List.mem_append, Option.mem_toList] at hm ⊢
    rcases hm with hm | hm | hm | hm
    · exact .inl (.inl hm)
    · have e : g' = b := by simpa [Value.ownBlock] using hm
      rcases hat with h3 | h3
      · exact .inl (.inr (.inl (by rw [← e]; exact h3)))
      · exact .inr (by omega)
    · exact .inl (.inr (.inr (.inl hm)))
    · exact .inl (.inr (.inr (.inr hm)))
  have hFF : ∀ b, b < wd.heap.size → Off base (cfoot g av nv ev) b → Off base (cfoot g (.slice (some ⟨g', 0, none⟩) (st.al.length + 1) cap) nv ev) b := by
    rintro b hlt ⟨h1, h2⟩
    refine ⟨h1, fun hm => ?_⟩
    rcases hmem b hm with h3 | h3
    · exact h2 h3
    · omega
  refine ⟨⟨?_, ?_, ?_, ?_, h.gb⟩, T.mono (fun b hb => ?_), hmem⟩
  · exact heap_setCell_same _ _ 0 _ _ _ ((ht.block g h.lt hg).trans h.blk)
  · exact (ho _ hFF).keep (S := [g]) ((Turns.refl _ _).setCell (.inl (by simp)) _) (fun b hb hm => by
      have e : g' = b := by simpa [Value.ownBlock] using hb
      simp only [List.mem_singleton] at hm
      omega) (fun b hb hf => hf.2 (by simp only [List.mem_singleton] at hb; simp [cfoot, hb])) (fun _ _ h => h)
  · exact h.ns.keep T (fun b hb hm => by
      simp only [List.mem_cons, Option.mem_toList] at hm
      rcases hm with hm | hm
      · exact (a2 b hb).1 hm
      · exact (a1 b hm).2.1 hb) hoff hFF
  · exact h.en.keep T (fun b hb hm => by
      simp only [List.mem_cons, Option.mem_toList] at hm
      rcases hm with hm | hm
      · exact a3 b hb hm
      · exact (a1 b hm).2.2 hb) hoff hFF
  · simp only [cfoot, List.mem_cons, List.mem_append] at hb ⊢
    rcases hb with hb | hb
    · exact .inl hb
    · exact .inr (.inl hb)
theorem CpAt.grow_ns {base g : Nat} {wd w3 : World} {av nv ev : Value} {st : St} {es : List Int} {x : Nd} (h : CpAt base g wd av nv ev st es) {g' cap : Nat}
    (ho : ∀ F' : Nat → Prop, (∀ b, b < wd.heap.size → Off base (cfoot g av nv ev) b → F' b) → OwnF F' base w3 40 cdNd (.slice (some ⟨g', 0, none⟩) (st.ns.length + 1) cap) (st.ns ++ [x]))
    (ht : Turns nv.ownBlock.toList wd w3) (hat : nv.ownBlock = some g' ∨ wd.heap.size ≤ g') :
    CpAt base g (w3.setCell ⟨g, 1, none⟩ (.slice (some ⟨g', 0, none⟩) (st.ns.length + 1) cap)) av (.slice (some ⟨g', 0, none⟩) (st.ns.length + 1) cap) ev ⟨st.al, st.ns ++ [x]⟩ es ∧ Turns (cfoot g av nv ev) wd (w3.setCell ⟨g, 1, none⟩ (.slice (some ⟨g', 0, none⟩) (st.ns.length + 1) cap)) ∧ ∀ b ∈ cfoot g av (.slice (some ⟨g', 0, none⟩) (st.ns.length + 1) cap) ev, b ∈ cfoot g av nv ev ∨ wd.heap.size ≤ b := by
  obtain ⟨a1, a2, a3⟩ := h.apart
  have hg : g ∉ nv.ownBlock.toList := fun hm => (a2 g (by simpa using hm)).1 rfl
  have hgn : g' ≠ g := by
    rcases hat with h1 | h1
    · exact (a2 g' h1).1
    · have := h.lt; omega
  have T : Turns (g :: nv.ownBlock.toList) wd (w3.setCell ⟨g, 1, none⟩ (.slice (some ⟨g', 0, none⟩) (st.ns.length + 1) cap)) := (ht.mono (by simp +contextual)).setCell (.inl (by simp)) _
  have hoff : ∀ b ∈ g :: nv.ownBlock.toList, ¬ Off base (cfoot g av nv ev) b := by
    intro b hb hf
    refine hf.2 ?_
    simp only [cfoot, List.mem_cons, List.mem_append] at hb ⊢
    rcases hb with hb | hb
    · exact .inl hb
    · exact .inr (.inr (.inl hb))
  have hmem : ∀ b, b ∈ cfoot g av (.slice (some ⟨g', 0, none⟩) (st.ns.length + 1) cap) ev → b ∈ cfoot g av nv ev ∨ wd.heap.size ≤ b := by
    intro b hm
    simp only [cfoot, List.mem_cons, List.mem_append, Option.mem_toList] at hm ⊢
    rcases hm with hm | hm | hm | hm
    · exact .inl (.inl hm)
    · exact .inl (.inr (.inl hm))
    · have e : g' = b := by simpa [Value.ownBlock] using hm
      rcases hat with h3 | h3
      · exact .inl (.inr (.inr (.inl (by rw [← e]; exact h3))))
      · exact .inr (by omega)
    · exact .inl (.inr (.inr (.inr hm)))
  have hFF : ∀ b, b < wd.heap.size → Off base (cfoot g av nv ev) b → Off base (cfoot g av (.slice (some ⟨g', 0, none⟩) (st.ns.length + 1) cap) ev) b := by
    rintro b hlt ⟨h1, h2⟩
    refine ⟨h1, fun hm => ?_⟩
    rcases hmem b hm with h3 | h3
    · exact h2 h3
    · omega
  refine ⟨⟨?_, ?_, ?_, ?_, h.gb⟩, T.mono (fun b hb => ?_), hmem⟩
  · exact heap_setCell_same _ _ 1 _ _ _ ((ht.block g h.lt hg).trans h.blk)
  · exact h.al.keep T (fun b hb hm => by
      simp only [List.mem_cons, Option.mem_toList] at hm
      rcases hm with hm | hm
      · exact (a1 b hb).1 hm
      · exact (a1 b hb).2.1 hm) hoff hFF
  · exact (ho _ hFF).keep (S := [g]) ((Turns.refl _ _).setCell (.inl (by simp)) _) (fun b hb hm => by
      have e : g' = b := by simpa [Value.ownBlock] using hb
      simp only [List.mem_singleton] at hm
      omega) (fun b hb hf => hf.2 (by simp only [List.mem_singleton] at hb; simp [cfoot, hb])) (fun _ _ h => h)
  · exact h.en.keep T (fun b hb hm => by
      simp only [List.mem_cons, Option.mem_toList] at hm
      rcases hm with hm | hm
      · exact a3 b hb hm
      · exact (a2 b hm).2 hb) hoff hFF
  · simp only [cfoot, List.mem_cons, List.mem_append] at hb ⊢
    rcases hb with hb | hb
    · exact .inl hb
    · exact .inr (.inr (.inl hb))
end Go.Proofs.YtonkbjdeaneicaaDoor
