/- The maker: a plan on its way in memory. -/
import Derived.Test.YtonkbjdeaneicaaAsks
import Derived.Test.YtonkbjdeaneicaaPlanT
namespace Go.Proofs.Ytonkbjdeaneicaa
open Go.RowKit Pln Classical Go.Maps

/-- What the map of nodes answers. -/
noncomputable def atF (ns : List Nd) : Value → Option Int := fun v => if h : ∃ n, n ∈ ns ∧ n.kind ≠ 0 ∧ v = .agg (askA n) then some (placeF ns h.choose : Int) else none
theorem agg_inj {n m : Nd} (h : Value.agg (askA n) = .agg (askA m)) (hl : n.links.length ≤ 8) (hn : n.new.length ≤ 8) : n = m := by
  injection h with h
  exact askA_inj h hl hn
theorem atF_hit {ns : List Nd} {n : Nd} (h : n ∈ ns) (hk : n.kind ≠ 0) (hl : n.links.length ≤ 8) (hn : n.new.length ≤ 8) : atF ns (.agg (askA n)) = some (placeF ns n : Int) := by
  have hex : ∃ m, m ∈ ns ∧ m.kind ≠ 0 ∧ Value.agg (askA n) = .agg (askA m) := ⟨n, h, hk, rfl⟩
  unfold atF
  rw [dif_pos hex]
  have := agg_inj hex.choose_spec.2.2 hl hn
  rw [← this]
theorem atF_miss {ns : List Nd} {n : Nd} (h : n ∉ ns) (hl : n.links.length ≤ 8) (hn : n.new.length ≤ 8) : atF ns (.agg (askA n)) = none := by
  unfold atF
  rw [dif_neg]
  rintro ⟨m, hm, _, he⟩
  exact h (agg_inj he hl hn ▸ hm)
theorem atF_put {ns : List Nd} {n : Nd} (h : n ∉ ns) (hk : n.kind ≠ 0) (hl : n.links.length ≤ 8) (hn : n.new.length ≤ 8) (hls : ∀ m ∈ ns, m.links.length ≤ 8 ∧ m.new.length ≤ 8) : atF (ns ++ [n]) = putG (atF ns) (.agg (askA n)) ns.length := by
  funext v
  unfold putG
  by_cases hv : v = .agg (askA n)
  · rw [if_pos hv, hv, atF_hit (by simp) hk hl hn]
    have : placeF (ns ++ [n]) n = ns.length := by
      have := addF_place ns n
      unfold addF at this
      rw [if_neg h, placeF_none h] at this
      exact this
    rw [this]
  · rw [if_neg hv]
    by_cases hex : ∃ m, m ∈ ns ∧ m.kind ≠ 0 ∧ v = .agg (askA m)
    · obtain ⟨m, h1, h2, h3⟩ := hex
      obtain ⟨l1, l2⟩ := hls m h1
      rw [h3, atF_hit h1 h2 l1 l2, atF_hit (List.mem_append_left _ h1) h2 l1 l2, placeF_app h1]
    · have hex2 : ¬ ∃ m, m ∈ ns ++ [n] ∧ m.kind ≠ 0 ∧ v = .agg (askA m) := by
        rintro ⟨m, h1, h2, h3⟩
        rcases List.mem_append.1 h1 with h1 | h1
        · exact hex ⟨m, h1, h2, h3⟩
        · rw [List.mem_singleton.1 h1] at h3
          exact hv h3
      unfold atF
      rw [dif_neg hex, dif_neg hex2]

/-- The blocks of the maker itself. -/
def mfoot (g mb : Nat) (av nv ev : Value) : List Nat := g :: mb :: (av.ownBlock.toList ++ (nv.ownBlock.toList ++ ev.ownBlock.toList))
def Off (base : Nat) (S : List Nat) : Nat → Prop := fun b => base ≤ b ∧ b ∉ S
structure MkAt (base g mb : Nat) (W : World) (av nv ev : Value) (st : St) (es : List Nat) : Prop where
  blk : W.heap[g]? = some (.cells #[av, nv, ev, .map (some mb)] 76 (0, 0))
  al : OwnF (Off base (mfoot g mb av nv ev)) base W 79 cdShp av st.al
  ns : OwnF (Off base (mfoot g mb av nv ev)) base W 54 cdNd nv st.ns
  en : OwnF (Off base (mfoot g mb av nv ev)) base W 3 cdInt ev (es.map fun (e : Nat) => (e : Int))
  map : MapG Try.prog 101 3 W mb st.ns.length (atF st.ns)
  gb : base ≤ g
  mbb : base ≤ mb
  lens : ∀ n ∈ st.ns, n.links.length ≤ 8 ∧ n.new.length ≤ 8
section
variable {base g mb : Nat} {W W' : World} {av nv ev : Value} {st : St} {es : List Nat}
theorem MkAt.lt (h : MkAt base g mb W av nv ev st es) : g < W.heap.size := lt_of_heap h.blk
theorem MkAt.step (h : MkAt base g mb W av nv ev st es) (hb : Below W.heap.size W W') : MkAt base g mb W' av nv ev st es :=
  ⟨(hb.block _ h.lt).trans h.blk, h.al.below hb, h.ns.below hb, h.en.below hb, h.map.of_block (hb.block _ h.map.lt), h.gb, h.mbb, h.lens⟩
theorem MkAt.cell (h : MkAt base g mb W av nv ev st es) (j : Nat) {u : Value} (hu : (#[av, nv, ev, .map (some mb)] : Array Value)[j]? = some u) : W.cell? ⟨g, j, none⟩ = some u := (cell_of_row _ _ j _ _ _ h.blk).trans hu
theorem MkAt.fz (h : MkAt base g mb W av nv ev st es) (o : Nat) : W.frozen? ⟨g, o, none⟩ = false := by
  have := h.blk
  simp [World.frozen?, this]
/-- The blocks differ, by what lies in them. -/
theorem MkAt.apart (h : MkAt base g mb W av nv ev st es) : g ≠ mb ∧ (∀ b, av.ownBlock = some b → b ≠ g ∧ b ≠ mb ∧ nv.ownBlock ≠ some b ∧ ev.ownBlock ≠ some b) ∧ (∀ b, nv.ownBlock = some b → b ≠ g ∧ b ≠ mb ∧ ev.ownBlock ≠ some b) ∧ (∀ b, ev.ownBlock = some b → b ≠ g ∧ b ≠ mb) := by
  obtain ⟨me, mc, hm⟩ := h.map.obj
  have hg := h.blk
  refine ⟨?_, ?_, ?_, ?_⟩
  · rintro rfl
    rw [hg] at hm
    cases hm
  · intro b hb
    obtain ⟨_, _, c1, h1⟩ := h.al.block hb
    refine ⟨?_, ?_, ?_, ?_⟩
    · rintro rfl
      rw [hg] at h1
      simp at h1
    · rintro rfl
      rw [hm] at h1
      cases h1
    · intro h2
      obtain ⟨_, _, c2, h3⟩ := h.ns.block h2
      rw [h1] at h3
      simp at h3
    · intro h2
      obtain ⟨_, _, c2, h3⟩ := h.en.block h2
      rw [h1] at h3
      simp at h3
  · intro b hb
    obtain ⟨_, _, c1, h1⟩ := h.ns.block hb
    refine ⟨?_, ?_, ?_⟩
    · rintro rfl
      rw [hg] at h1
      simp at h1
    · rintro rfl
      rw [hm] at h1
      cases h1
    · intro h2
      obtain ⟨_, _, c2, h3⟩ := h.en.block h2
      rw [h1] at h3
      simp at h3
  · intro b hb
    obtain ⟨_, _, c1, h1⟩ := h.en.block hb
    refine ⟨?_, ?_⟩
    · rintro rfl
      rw [hg] at h1
      simp at h1
    · rintro rfl
      rw [hm] at h1
      cases h1
end

/-- A maker, its blocks S; what a call on it leaves. -/
def Mkr (base g mb : Nat) (W : World) (S : List Nat) (st : St) (es : List Nat) : Prop := ∃ av nv ev, S = mfoot g mb av nv ev ∧ MkAt base g mb W av nv ev st es
def MkrTo (base g mb : Nat) (W : World) (S : List Nat) (st : St) (es : List Nat) (W' : World) : Prop := ∃ S', Mkr base g mb W' S' st es ∧ Turns S W W' ∧ ∀ b ∈ S', b ∈ S ∨ W.heap.size ≤ b
end Go.Proofs.Ytonkbjdeaneicaa
