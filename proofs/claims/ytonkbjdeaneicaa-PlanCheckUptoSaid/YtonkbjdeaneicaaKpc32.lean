/- The reference's Maker: a plan on its way, behind a pointer. The reference's Maker: alpha. -/
import Derived.Test.YtonkbjdeaneicaaKpc16
import Derived.Test.YtonkbjdeaneicaaKpc24
import Derived.Test.YtonkbjdeaneicaaKpc29
import Derived.Test.YtonkbjdeaneicaaKpc30
namespace Go.Proofs.Ytonkbjdeaneicaa
open Go.RowKit Pln Classical Go.Maps

theorem infoShpR : (Try.prog.info? 79).map (fun i => (i.zero, i.size, i.bytes)) = some (some (.agg #[.int .i64 0, .slice none 0 0]), 2, 32) := by kernel_rfl
theorem infoNdR : (Try.prog.info? 54).map (fun i => (i.zero, i.size, i.bytes)) = some (some (.agg #[.int .i64 0, .int .i64 0, .int .i64 0, .slice none 0 0, .slice none 0 0, .int .i64 0, .bool false, .int .i64 0, .bool false, .int .i64 0, .int .i64 0]), 11, 120) := by kernel_rfl
def rfoot (g : Nat) (av nv ev : Value) : List Nat := g :: (av.ownBlock.toList ++ (nv.ownBlock.toList ++ ev.ownBlock.toList))
structure RMkAt (base g : Nat) (W : World) (av nv ev : Value) (st : St) (es : List Nat) : Prop where
  blk : W.heap[g]? = some (.cells #[av, nv, ev] 65 (0, 0))
  al : OwnF (Off base (rfoot g av nv ev)) base W 79 cdShp av st.al
  ns : OwnF (Off base (rfoot g av nv ev)) base W 54 cdNd nv st.ns
  en : OwnF (Off base (rfoot g av nv ev)) base W 3 cdInt ev (es.map fun (e : Nat) => (e : Int))
  gb : base ≤ g
section
variable {base g : Nat} {W W' : World} {av nv ev : Value} {st : St} {es : List Nat}
theorem rfoot_g : g ∈ rfoot g av nv ev := by simp [rfoot]
theorem RMkAt.lt (h : RMkAt base g W av nv ev st es) : g < W.heap.size := lt_of_heap h.blk
theorem RMkAt.step (h : RMkAt base g W av nv ev st es) (hb : Below W.heap.size W W') : RMkAt base g W' av nv ev st es :=
  ⟨(hb.block _ h.lt).trans h.blk, h.al.below hb, h.ns.below hb, h.en.below hb, h.gb⟩
theorem RMkAt.cell (h : RMkAt base g W av nv ev st es) (j : Nat) {u : Value} (hu : (#[av, nv, ev] : Array Value).toList[j]? = some u) : W.cell? ⟨g, j, none⟩ = some u := rboxL h.blk j hu
theorem RMkAt.fz (h : RMkAt base g W av nv ev st es) (o : Nat) : W.frozen? ⟨g, o, none⟩ = false := by
  have := h.blk
  simp [World.frozen?, this]
theorem RMkAt.foot_lt (h : RMkAt base g W av nv ev st es) : ∀ x ∈ rfoot g av nv ev, base ≤ x ∧ x < W.heap.size := by
  intro x hx
  simp only [rfoot, List.mem_cons, List.mem_append, Option.mem_toList] at hx
  rcases hx with rfl | hx | hx | hx
  · exact ⟨h.gb, h.lt⟩
  · exact ⟨(h.al.block hx).1, (h.al.block hx).2.1⟩
  · exact ⟨(h.ns.block hx).1, (h.ns.block hx).2.1⟩
  · exact ⟨(h.en.block hx).1, (h.en.block hx).2.1⟩
theorem ROff_new (h : RMkAt base g W av nv ev st es) {b : Nat} (hb : W.heap.size ≤ b) : Off base (rfoot g av nv ev) b :=
  ⟨by have := (h.foot_lt g rfoot_g); omega, fun hm => by have := (h.foot_lt b hm).2; omega⟩
/-- The blocks differ, by what lies in them. -/
theorem RMkAt.apart (h : RMkAt base g W av nv ev st es) : (∀ b, av.ownBlock = some b → b ≠ g ∧ nv.ownBlock ≠ some b ∧ ev.ownBlock ≠ some b) ∧ (∀ b, nv.ownBlock = some b → b ≠ g ∧ ev.ownBlock ≠ some b) ∧ (∀ b, ev.ownBlock = some b → b ≠ g) := by
  have hg := h.blk
  refine ⟨?_, ?_, ?_⟩
  · intro b hb
    obtain ⟨_, _, c1, h1⟩ := h.al.block hb
    refine ⟨?_, ?_, ?_⟩
    · rintro rfl
      rw [hg] at h1
      simp at h1
    · intro h2
      obtain ⟨_, _, c2, h3⟩ := h.ns.block h2
      rw [h1] at h3
      simp at h3
    · intro h2
      obtain ⟨_, _, c2, h3⟩ := h.en.block h2
      rw [h1] at h3
      simp at h3
  · intro b hb
    obtain ⟨_, _, c1, h1⟩ := h.ns.block hb
    refine ⟨?_, ?_⟩
    · rintro rfl
      rw [hg] at h1
      simp at h1
    · intro h2
      obtain ⟨_, _, c2, h3⟩ := h.en.block h2
      rw [h1] at h3
      simp at h3
  · intro b hb
    obtain ⟨_, _, c1, h1⟩ := h.en.block hb
    rintro rfl
    rw [hg] at h1
    simp at h1
end
theorem RMkAt.grow_al {base g : Nat} {wd w3 : World} {av nv ev : Value} {st : St} {es : List Nat} {x : Shp} (h : RMkAt base g wd av nv ev st es) {g' cap : Nat}
    (ho : ∀ F' : Nat → Prop, (∀ b, b < wd.heap.size → Off base (rfoot g av nv ev) b → F' b) → OwnF F' base w3 79 cdShp (.slice (some ⟨g', 0, none⟩) (st.al.length + 1) cap) (st.al ++ [x]))
    (ht : Turns av.ownBlock.toList wd w3) (hat : av.ownBlock = some g' ∨ wd.heap.size ≤ g') :
    RMkAt base g (w3.setCell ⟨g, 0, none⟩ (.slice (some ⟨g', 0, none⟩) (st.al.length + 1) cap)) (.slice (some ⟨g', 0, none⟩) (st.al.length + 1) cap) nv ev ⟨st.al ++ [x], st.ns⟩ es ∧ Turns (rfoot g av nv ev) wd (w3.setCell ⟨g, 0, none⟩ (.slice (some ⟨g', 0, none⟩) (st.al.length + 1) cap)) ∧ ∀ b ∈ rfoot g (.slice (some ⟨g', 0, none⟩) (st.al.length + 1) cap) nv ev, b ∈ rfoot g av nv ev ∨ wd.heap.size ≤ b := by
  obtain ⟨a1, a2, a3⟩ := h.apart
  have hg : g ∉ av.ownBlock.toList := fun hm => (a1 g (by simpa using hm)).1 rfl
  have hgn : g' ≠ g := by
    rcases hat with h1 | h1
    · exact (a1 g' h1).1
    · have := h.lt; omega
  have T : Turns (g :: av.ownBlock.toList) wd (w3.setCell ⟨g, 0, none⟩ (.slice (some ⟨g', 0, none⟩) (st.al.length + 1) cap)) := (ht.mono (by simp +contextual)).setCell (.inl (by simp)) _
  have hoff : ∀ b ∈ g :: av.ownBlock.toList, ¬ Off base (rfoot g av nv ev) b := by
    intro b hb hf
    refine hf.2 ?_
    simp only [rfoot, List.mem_cons, List.mem_append] at hb ⊢
    rcases hb with hb | hb
    · exact .inl hb
    · exact .inr (.inl hb)
  have hmem : ∀ b, b ∈ rfoot g (.slice (some ⟨g', 0, none⟩) (st.al.length + 1) cap) nv ev → b ∈ rfoot g av nv ev ∨ wd.heap.size ≤ b := by
    intro b hm
    simp only [rfoot, List.mem_cons, List.mem_append, Option.mem_toList] at hm ⊢
    rcases hm with hm | hm | hm | hm
    · exact .inl (.inl hm)
    · have e : g' = b := by simpa [Value.ownBlock] using hm
      rcases hat with h3 | h3
      · exact .inl (.inr (.inl (by rw [← e]; exact h3)))
      · exact .inr (by omega)
    · exact .inl (.inr (.inr (.inl hm)))
    · exact .inl (.inr (.inr (.inr hm)))
  have hFF : ∀ b, b < wd.heap.size → Off base (rfoot g av nv ev) b → Off base (rfoot g (.slice (some ⟨g', 0, none⟩) (st.al.length + 1) cap) nv ev) b := by
    rintro b hlt ⟨h1, h2⟩
    refine ⟨h1, fun hm => ?_⟩
    rcases hmem b hm with h3 | h3
    · exact h2 h3
    · omega
  refine ⟨⟨?_, ?_, ?_, ?_, h.gb⟩, T.mono (fun b hb => ?_), hmem⟩
  · exact heap_setCell_same _ _ 0 _ _ _ ((ht.block g h.lt hg).trans h.blk)
  · exact (ho _ hFF).keep (S := [g]) ((Turns.refl _ _).setCell (.inl (by simp)) _) (fun b hb hm => by
      have e : g' = b := by simpa [Value.ownBlock] using hb
      simp only [List.mem_singleton] at hm
      omega) (fun b hb hf => hf.2 (by simp only [List.mem_singleton] at hb; simp [rfoot, hb])) (fun _ _ h => h)
  · exact h.ns.keep T (fun b hb hm => by
      simp only [List.mem_cons, Option.mem_toList] at hm
      rcases hm with hm | hm
      · exact (a2 b hb).1 hm
      · exact (a1 b hm).2.1 hb) hoff hFF
  · exact h.en.keep T (fun b hb hm => by
      simp only [List.mem_cons, Option.mem_toList] at hm
      rcases hm with hm | hm
      · exact a3 b hb hm
      · exact (a1 b hm).2.2 hb) hoff hFF
  · simp only [rfoot, List.mem_cons, List.mem_append] at hb ⊢
    rcases hb with hb | hb
    · exact .inl hb
    · exact .inr (.inl hb)
theorem RMkAt.grow_ns {base g : Nat} {wd w3 : World} {av nv ev : Value} {st : St} {es : List Nat} {x : Nd} (h : RMkAt base g wd av nv ev st es) {g' cap : Nat}
    (ho : ∀ F' : Nat → Prop, (∀ b, b < wd.heap.size → Off base (rfoot g av nv ev) b → F' b) → OwnF F' base w3 54 cdNd (.slice (some ⟨g', 0, none⟩) (st.ns.length + 1) cap) (st.ns ++ [x]))
    (ht : Turns nv.ownBlock.toList wd w3) (hat : nv.ownBlock = some g' ∨ wd.heap.size ≤ g') :
    RMkAt base g (w3.setCell ⟨g, 1, none⟩ (.slice (some ⟨g', 0, none⟩) (st.ns.length + 1) cap)) av (.slice (some ⟨g', 0, none⟩) (st.ns.length + 1) cap) ev ⟨st.al, st.ns ++ [x]⟩ es ∧ Turns (rfoot g av nv ev) wd (w3.setCell ⟨g, 1, none⟩ (.slice (some ⟨g', 0, none⟩) (st.ns.length + 1) cap)) ∧ ∀ b ∈ rfoot g av (.slice (some ⟨g', 0, none⟩) (st.ns.length + 1) cap) ev, b ∈ rfoot g av nv ev ∨ wd.heap.size ≤ b := by
  obtain ⟨a1, a2, a3⟩ := h.apart
  have hg : g ∉ nv.ownBlock.toList := fun hm => (a2 g (by simpa using hm)).1 rfl
  have hgn : g' ≠ g := by
    rcases hat with h1 | h1
    · exact (a2 g' h1).1
    · have := h.lt; omega
  have T : Turns (g :: nv.ownBlock.toList) wd (w3.setCell ⟨g, 1, none⟩ (.slice (some ⟨g', 0, none⟩) (st.ns.length + 1) cap)) := (ht.mono (by simp +contextual)).setCell (.inl (by simp)) _
  have hoff : ∀ b ∈ g :: nv.ownBlock.toList, ¬ Off base (rfoot g av nv ev) b := by
    intro b hb hf
    refine hf.2 ?_
    simp only [rfoot, List.mem_cons, List.mem_append] at hb ⊢
    rcases hb with hb | hb
    · exact .inl hb
    · exact .inr (.inr (.inl hb))
  have hmem : ∀ b, b ∈ rfoot g av (.slice (some ⟨g', 0, none⟩) (st.ns.length + 1) cap) ev → b ∈ rfoot g av nv ev ∨ wd.heap.size ≤ b := by
    intro b hm
    simp only [rfoot, List.mem_cons, List.mem_append, Option.mem_toList] at hm ⊢
    rcases hm with hm | hm | hm | hm
    · exact .inl (.inl hm)
    · exact .inl (.inr (.inl hm))
    · have e : g' = b := by simpa [Value.ownBlock] using hm
      rcases hat with h3 | h3
      · exact .inl (.inr (.inr (.inl (by rw [← e]; exact h3))))
      · exact .inr (by omega)
    · exact .inl (.inr (.inr (.inr hm)))
  have hFF : ∀ b, b < wd.heap.size → Off base (rfoot g av nv ev) b → Off base (rfoot g av (.slice (some ⟨g', 0, none⟩) (st.ns.length + 1) cap) ev) b := by
    rintro b hlt ⟨h1, h2⟩
    refine ⟨h1, fun hm => ?_⟩
    rcases hmem b hm with h3 | h3
    · exact h2 h3
    · omega
  refine ⟨⟨?_, ?_, ?_, ?_, h.gb⟩, T.mono (fun b hb => ?_), hmem⟩
  · exact heap_setCell_same _ _ 1 _ _ _ ((ht.block g h.lt hg).trans h.blk)
  · exact h.al.keep T (fun b hb hm => by
      simp only [List.mem_cons, Option.mem_toList] at hm
      rcases hm with hm | hm
      · exact (a1 b hb).1 hm
      · exact (a1 b hb).2.1 hm) hoff hFF
  · exact (ho _ hFF).keep (S := [g]) ((Turns.refl _ _).setCell (.inl (by simp)) _) (fun b hb hm => by
      have e : g' = b := by simpa [Value.ownBlock] using hb
      simp only [List.mem_singleton] at hm
      omega) (fun b hb hf => hf.2 (by simp only [List.mem_singleton] at hb; simp [rfoot, hb])) (fun _ _ h => h)
  · exact h.en.keep T (fun b hb hm => by
      simp only [List.mem_cons, Option.mem_toList] at hm
      rcases hm with hm | hm
      · exact a3 b hb hm
      · exact (a2 b hm).2 hb) hoff hFF
  · simp only [rfoot, List.mem_cons, List.mem_append] at hb ⊢
    rcases hb with hb | hb
    · exact .inl hb
    · exact .inr (.inr (.inl hb))
theorem RMkAt.grow_en {base g : Nat} {wd w3 : World} {av nv ev : Value} {st : St} {es : List Nat} {x : Nat} (h : RMkAt base g wd av nv ev st es) {g' cap : Nat}
    (ho : ∀ F' : Nat → Prop, (∀ b, b < wd.heap.size → Off base (rfoot g av nv ev) b → F' b) → OwnF F' base w3 3 cdInt (.slice (some ⟨g', 0, none⟩) ((es.map fun (e : Nat) => (e : Int)).length + 1) cap) ((es.map fun (e : Nat) => (e : Int)) ++ [(x : Int)]))
    (ht : Turns ev.ownBlock.toList wd w3) (hat : ev.ownBlock = some g' ∨ wd.heap.size ≤ g') :
    RMkAt base g (w3.setCell ⟨g, 2, none⟩ (.slice (some ⟨g', 0, none⟩) ((es.map fun (e : Nat) => (e : Int)).length + 1) cap)) av nv (.slice (some ⟨g', 0, none⟩) ((es.map fun (e : Nat) => (e : Int)).length + 1) cap) st (es ++ [x]) ∧ Turns (rfoot g av nv ev) wd (w3.setCell ⟨g, 2, none⟩ (.slice (some ⟨g', 0, none⟩) ((es.map fun (e : Nat) => (e : Int)).length + 1) cap)) ∧ ∀ b ∈ rfoot g av nv (.slice (some ⟨g', 0, none⟩) ((es.map fun (e : Nat) => (e : Int)).length + 1) cap), b ∈ rfoot g av nv ev ∨ wd.heap.size ≤ b := by
  obtain ⟨a1, a2, a3⟩ := h.apart
  have hg : g ∉ ev.ownBlock.toList := fun hm => a3 g (by simpa using hm) rfl
  have hgn : g' ≠ g := by
    rcases hat with h1 | h1
    · exact a3 g' h1
    · have := h.lt; omega
  have T : Turns (g :: ev.ownBlock.toList) wd (w3.setCell ⟨g, 2, none⟩ (.slice (some ⟨g', 0, none⟩) ((es.map fun (e : Nat) => (e : Int)).length + 1) cap)) := (ht.mono (by simp +contextual)).setCell (.inl (by simp)) _
  have hoff : ∀ b ∈ g :: ev.ownBlock.toList, ¬ Off base (rfoot g av nv ev) b := by
    intro b hb hf
    refine hf.2 ?_
    simp only [rfoot, List.mem_cons, List.mem_append] at hb ⊢
    rcases hb with hb | hb
    · exact .inl hb
    · exact .inr (.inr (.inr hb))
  have hmem : ∀ b, b ∈ rfoot g av nv (.slice (some ⟨g', 0, none⟩) ((es.map fun (e : Nat) => (e : Int)).length + 1) cap) → b ∈ rfoot g av nv ev ∨ wd.heap.size ≤ b := by
    intro b hm
    simp only [rfoot, List.mem_cons, List.mem_append, Option.mem_toList] at hm ⊢
    rcases hm with hm | hm | hm | hm
    · exact .inl (.inl hm)
    · exact .inl (.inr (.inl hm))
    · exact .inl (.inr (.inr (.inl hm)))
    · have e : g' = b := by simpa [Value.ownBlock] using hm
      rcases hat with h3 | h3
      · exact .inl (.inr (.inr (.inr (by rw [← e]; exact h3))))
      · exact .inr (by omega)
  have hFF : ∀ b, b < wd.heap.size → Off base (rfoot g av nv ev) b → Off base (rfoot g av nv (.slice (some ⟨g', 0, none⟩) ((es.map fun (e : Nat) => (e : Int)).length + 1) cap)) b := by
    rintro b hlt ⟨h1, h2⟩
    refine ⟨h1, fun hm => ?_⟩
    rcases hmem b hm with h3 | h3
    · exact h2 h3
    · omega
  refine ⟨⟨?_, ?_, ?_, ?_, h.gb⟩, T.mono (fun b hb => ?_), hmem⟩
  · exact heap_setCell_same _ _ 2 _ _ _ ((ht.block g h.lt hg).trans h.blk)
  · exact h.al.keep T (fun b hb hm => by
      simp only [List.mem_cons, Option.mem_toList] at hm
      rcases hm with hm | hm
      · exact (a1 b hb).1 hm
      · exact (a1 b hb).2.2 hm) hoff hFF
  · exact h.ns.keep T (fun b hb hm => by
      simp only [List.mem_cons, Option.mem_toList] at hm
      rcases hm with hm | hm
      · exact (a2 b hb).1 hm
      · exact (a2 b hb).2 hm) hoff hFF
  · rw [List.map_append]
    exact (ho _ hFF).keep (S := [g]) ((Turns.refl _ _).setCell (.inl (by simp)) _) (fun b hb hm => by
      have e : g' = b := by simpa [Value.ownBlock] using hb
      simp only [List.mem_singleton] at hm
      omega) (fun b hb hf => hf.2 (by simp only [List.mem_singleton] at hb; simp [rfoot, hb])) (fun _ _ h => h)
  · simp only [rfoot, List.mem_cons, List.mem_append] at hb ⊢
    rcases hb with hb | hb
    · exact .inl hb
    · exact .inr (.inr (.inr hb))
/-- A maker of the reference's, its blocks S; what a call on it leaves. -/
def RMkr (base g : Nat) (W : World) (S : List Nat) (st : St) (es : List Nat) : Prop := ∃ av nv ev, S = rfoot g av nv ev ∧ RMkAt base g W av nv ev st es
def RMkrTo (base g : Nat) (W : World) (S : List Nat) (st : St) (es : List Nat) (W' : World) : Prop := ∃ S', RMkr base g W' S' st es ∧ Turns S W W' ∧ ∀ b ∈ S', b ∈ S ∨ W.heap.size ≤ b
end Go.Proofs.Ytonkbjdeaneicaa

namespace Go.Proofs.Ytonkbjdeaneicaa
open Go.RowKit Pln Classical Go.Maps

set_option maxRecDepth 200000 in
set_option maxHeartbeats 4000000 in
theorem ralphaW {base g : Nat} {W : World} {S : List Nat} {st : St} {es : List Nat} (h : RMkr base g W S st es) {F : Nat → Prop} (p : Pat) (v : Value) (hp : RSl F W 2 ESlt v p.args) (pok : i64ok p.pred) (hS : p.args.length ≤ 1048576) (hlen : st.al.length ≤ 30000000) :
    Calls Try.prog 47 #[.pointer (some ⟨g, 0, none⟩), .agg #[.int .i64 p.pred, v]] W fun e W' => e = .returned (.int .i64 (placeF st.al (shapeF p) : Nat)) ∧ RMkrTo base g W S ⟨addF st.al (shapeF p), st.ns⟩ es W' := by
  obtain ⟨av, nv, ev, rfl, hM⟩ := h
  have CS := Lib.hid (fun W' (hb : Below W.heap.size W W') => rshapeW p v W' (hp.keep (Kp.of_below hb)) hS)
  obtain ⟨A, c, rfl⟩ := hp.form
  obtain ⟨A0, C0, rfl⟩ := hM.al.form
  obtain ⟨sh, hsh⟩ : ∃ sh, shapeF p = sh := ⟨_, rfl⟩
  have HSC := Lib.hid (show p.args.map (cellF p.args) = sh.cells by rw [← hsh]; rfl)
  have HSP := Lib.hid (show sh.pred = p.pred by rw [← hsh]; rfl)
  rw [hsh]
  have HM := Lib.hid hM
  have POK := Lib.hid pok
  clear hM hp hsh pok
  have h1 : Below W.heap.size W (W.alloc (.cells #[.int .i64 p.pred, .slice A p.args.length c] 34)) := (Below.refl _ _).alloc (Nat.le_refl _) _
  have H1 := Lib.hid h1
  clear h1
  go_enter Try.func47, Try.ntmps47
  go_wp2_with fail
  refine (CS.out _ H1.out).mono ?_
  rintro e w2 ⟨cv, rfl, hcv, hb2⟩
  rw [HSC.out] at hcv
  obtain ⟨ca, cc, rfl⟩ := hcv.form
  have HB2 := Lib.hid (H1.out.trans (hb2.mono (by simp)))
  have HCV := Lib.hid (hcv.kp (F' := fun b => W.heap.size ≤ b) (Kp.refl _ _) (fun b _ hb => by simp at hb; omega) (fun _ _ h => h))
  clear hcv hb2 CS H1
  have hWw := HB2.out.size
  have y0' := (HM.out.step (HB2.out.trans (((Below.refl _ _).alloc (Nat.le_refl _) (.cells #[.int .i64 p.pred, .slice ca sh.cells.length cc] 79)).mono hWw))).cell 0 rfl
  go_wp2_with fail
  go_loopw [6] (fun i wr => ∃ k : Nat, i = .int .i64 k ∧ k ≤ st.al.length ∧ (∀ j, j < k → st.al[j]? ≠ some sh) ∧ Below (w2.heap.size + 1) (w2.alloc (.cells #[.int .i64 p.pred, .slice ca sh.cells.length cc] 79)) wr) (fun i _ => st.al.length - (intOf i).toNat)
  case atStart => exact ⟨0, rfl, Nat.zero_le _, fun j h => by omega, Below.refl _ _⟩
  case round =>
    obtain ⟨k, rfl, hk, hq, hb⟩ := hrel
    clear y0'
    have hBW := HB2.out.trans ((box_below hb).mono hWw)
    have hMr := HM.out.step hBW
    have y0 := hMr.cell 0 rfl
    by_cases hkn : k < st.al.length
    · obtain ⟨a, ha⟩ : ∃ a, st.al[k]? = some a := ⟨_, List.getElem?_eq_getElem hkn⟩
      obtain ⟨b, off, hAA, -, hbl, cs, ⟨av, rfl, -, hac⟩, hc⟩ := RSl.at (hMr.al.rsl (G := fun b => b < wr.heap.size) (fun b hb => (hMr.al.block hb).2.1)) ha
      subst hAA
      obtain ⟨A1, C1, rfl⟩ := hac.form
      have CE := Lib.hid (fun W' (hx : Below wr.heap.size wr W') => requalShapeW a sh _ _ W' (hac.keep (Kp.of_below hx)) ((HCV.out.keep (Kp.of_below (box_below hb))).keep (Kp.of_below hx)))
      rw [HSP.out] at CE
      obtain ⟨S, hSe⟩ : ∃ S, S = fun Wx => Below wr.heap.size wr Wx := ⟨_, rfl⟩
      have bn := fun (p : Pt S) => (congrFun hSe p.val).mp p.property
      have q0 := fun (p : Pt S) => (hMr.step (bn p)).cell 0 rfl
      have x0 := fun (p : Pt S) => ((bn p).cell (p := ⟨b, off + k * 2 + 0, none⟩) hbl).trans (hc 0 _ rfl)
      have x1 := fun (p : Pt S) => ((bn p).cell (p := ⟨b, off + k * 2 + 1, none⟩) hbl).trans (hc 1 _ rfl)
      have z0 := fun (p : Pt S) => box_cellL (box_step hb (bn p)) 0 rfl
      have z1 := fun (p : Pt S) => box_cellL (box_step hb (bn p)) 1 rfl
      simp only [Nat.add_zero] at x0
      have NE : Nonempty (Pt S) := ⟨⟨wr, (congrFun hSe wr).mpr (Below.refl _ _)⟩⟩
      have HDD := Lib.hid ((congrFun hSe wr.drew).mpr (Below.refl _ _).drew)
      have SE := Lib.hid hSe
      have KPP := Lib.hid bn
      have e1 : (0 : Int) ≤ (k : Int) := by omega
      have e2 : (k : Int) < (st.al.length : Int) := by omega
      have HA := Lib.hid ha
      have HQ := Lib.hid hq
      have HK := Lib.hid hkn
      have HB := Lib.hid hb
      have HBW := Lib.hid hBW
      clear hc ha hq hkn hb hac hMr bn hSe hBW
      by_cases has : a = sh
      · rw [decide_eq_true has] at CE
        have hpl := Lib.hid (placeF_at (has ▸ HA.out) HQ.out)
        have hadd := Lib.hid (show addF st.al sh = st.al by unfold addF; rw [if_pos (List.mem_of_getElem? (has ▸ HA.out))])
        clear has
        go_wp2_with fail
        refine wp_region_class (S := S) HDD.out (by kernel_rfl) (by kernel_rfl) ?_
        repeat (go_big_quiet_step ((go_at_call 34; refine (CE.out _ (KPP.out _)).mono ?_; rintro e w' ⟨rfl, hbel⟩; exact ⟨rfl, ⟨w', (congrFun SE.out w').mpr ((KPP.out _).trans (hbel.mono (KPP.out _).size))⟩, rfl⟩)))
        refine wpQuiet_nil ?_
        rintro wq ⟨⟨_, hW⟩, rfl⟩
        have HF := Lib.hid ((congrFun SE.out wq).mp hW)
        clear q0 x0 x1 z0 z1 NE hW
        go_wp2
        go_ret
        have BF := HBW.out.trans (HF.out.mono HBW.out.size)
        refine ⟨by rw [hpl.out]; rfl, _, ⟨_, _, _, rfl, ?_⟩, Turns.of_below BF, fun b hb => .inl hb⟩
        rw [hadd.out]
        exact HM.out.step BF
      · rw [decide_eq_false has] at CE
        have HQ2 := Lib.hid (show ∀ j, j < k + 1 → st.al[j]? ≠ some sh from fun j hj => by
          rcases Nat.lt_or_ge j k with h1 | h1
          · exact HQ.out j h1
          · rw [show j = k by omega, HA.out]
            exact fun e => has (Option.some.inj e))
        clear has
        go_wp2_with fail
        refine wp_region_class (S := S) HDD.out (by kernel_rfl) (by kernel_rfl) ?_
        repeat (go_big_quiet_step ((go_at_call 34; refine (CE.out _ (KPP.out _)).mono ?_; rintro e w' ⟨rfl, hbel⟩; exact ⟨rfl, ⟨w', (congrFun SE.out w').mpr ((KPP.out _).trans (hbel.mono (KPP.out _).size))⟩, rfl⟩)))
        refine wpQuiet_nil ?_
        rintro wq ⟨⟨_, hW⟩, rfl⟩
        have HF := Lib.hid (box_step HB.out ((congrFun SE.out wq).mp hW))
        clear q0 x0 x1 z0 z1 NE hW
        go_wp2
        exact ⟨⟨k + 1, by go_num, HK.out, HQ2.out, HF.out⟩, by simp [intOf]; have := HK.out; omega⟩
    · obtain rfl : k = st.al.length := by omega
      have hno : sh ∉ st.al := fun hm => by
        obtain ⟨h1, h2⟩ := placeF_lt hm
        exact hq _ h1 h2
      have hadd := Lib.hid (show addF st.al sh = st.al ++ [sh] by unfold addF; rw [if_neg hno])
      have hpl := Lib.hid (placeF_none hno)
      have BW := Lib.hid hBW
      have HMR := Lib.hid hMr
      have hgr := hMr.lt
      have z0 := box_cellL hb 0 rfl
      have z1 := box_cellL hb 1 rfl
      have HCVr := Lib.hid (HCV.out.kp (F' := Off base (rfoot g (.slice A0 st.al.length C0) nv ev)) (Kp.of_below (box_below hb)) (fun b _ hb => ROff_new HM.out hb) (fun _ _ h => h))
      have PK := Lib.hid (show i64ok sh.pred by rw [HSP.out]; exact POK.out)
      have hbase : base ≤ wr.heap.size := by have := (HM.out.foot_lt g rfoot_g).1; omega
      clear hMr hq hno hkn hb hBW
      go_wp2
      go_region_law (refine step_append_F HMR.out.al (fun b hb hf => hf.2 (by simp [rfoot, hb])) (by rfl) (.tmp 35) (.tmp 37) 23 (by rfl) Try.underlying23 infoShpR rfl (by decide) (by rfl) #[.int .i64 p.pred, .slice ca sh.cells.length cc] _ (by rfl) rfl (x := sh) ⟨_, by rw [HSP.out], PK.out, HCVr.out⟩ (by omega) (by decide) hbase ?_; intro g' cap w3 ho ht hat hlt3; have hgn := (HMR.out.apart).1; have e3 := (ht.block g HMR.out.lt (fun hm => (hgn g (by simpa using hm)).1 rfl)).trans HMR.out.blk; have q1 := rboxL e3 0 rfl; have q2 : ∀ o, w3.frozen? ⟨g, o, none⟩ = false := (fun o => by simp [World.frozen?, e3]); have q3 := lt_of_heap e3; have GR := Lib.hid (HMR.out.grow_al ho ht hat); clear ho ht hat hlt3 hgn e3)
      all_goals
        have q0 : (w3.setCell ⟨g, 0, none⟩ (.slice (some ⟨g', 0, none⟩) (st.al.length + 1) cap)).cell? ⟨g, 0, none⟩ = some (.slice (some ⟨g', 0, none⟩) (st.al.length + 1) cap) := GR.out.1.cell 0 rfl
        clear q1 q2 y0 z0 z1
        go_wp2
        go_ret
        refine ⟨ret_i64 (by rw [hpl.out]), rfoot g (.slice (some ⟨g', 0, none⟩) (st.al.length + 1) cap) nv ev, ⟨.slice (some ⟨g', 0, none⟩) (st.al.length + 1) cap, nv, ev, rfl, ?_⟩, ?_, ?_⟩
        · rw [hadd.out]
          exact GR.out.1
        · exact (Turns.of_below (S := rfoot g (.slice A0 st.al.length C0) nv ev) BW.out).trans GR.out.2.1 (fun x hx => .inl hx)
        · intro b hb
          rcases GR.out.2.2 b hb with h1 | h1
          · exact .inl h1
          · exact .inr (Nat.le_trans BW.out.size h1)
end Go.Proofs.Ytonkbjdeaneicaa
