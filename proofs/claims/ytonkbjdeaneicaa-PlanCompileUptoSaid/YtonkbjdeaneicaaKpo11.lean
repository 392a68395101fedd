/- The lists inside a plan on its way: each in a block of its own. The maker: a plan on its way in memory. node: the number of a node, a new one where there is none such. -/
import Derived.Test.YtonkbjdeaneicaaKpo03
import Derived.Test.YtonkbjdeaneicaaKpo10
namespace Go.Proofs.Ytonkbjdeaneicaa
open Go Go.RowKit

/-- Where a list's header stands in its row: shapes' cells (0), links (1), new ones (2). -/
def inO (t i : Nat) : Nat := if t = 0 then i * 2 + 1 else if t = 1 then i * 11 + 3 else i * 11 + 4
def inV (av nv : Value) (t : Nat) : Value := if t = 0 then av else nv
structure Inn (F : Nat → Prop) (base : Nat) (W : World) (av nv : Value) (al m : Nat) (G : Nat → Nat → Option Slo) : Prop where
  all0 : ∀ i, i < al → ∃ s, G 0 i = some s
  all1 : ∀ i, i < m → ∃ s, G 1 i = some s
  all2 : ∀ i, i < m → ∃ s, G 2 i = some s
  dom : ∀ (t i : Nat) (s : Slo), G t i = some s → (t = 0 ∧ i < al ∧ s.l = false) ∨ (t = 1 ∧ i < m ∧ s.l = true) ∨ (t = 2 ∧ i < m ∧ s.l = false)
  own : ∀ (t i : Nat) (s : Slo), G t i = some s → W.ownsRow base s.e s.sz s.v s.n s.x ∧ s.n ≤ 30000000
  apart : ∀ (t i t' i' : Nat) (s s' : Slo) (b : Nat), G t i = some s → G t' i' = some s' → s.v.ownBlock = some b → s'.v.ownBlock = some b → t = t' ∧ i = i'
  out : ∀ (t i : Nat) (s : Slo), G t i = some s → ∃ b, (inV av nv t).ownBlock = some b ∧ W.cell? ⟨b, inO t i, none⟩ = some s.v
  foot : ∀ (t i : Nat) (s : Slo) (b : Nat), G t i = some s → s.v.ownBlock = some b → F b
theorem cell_lt {w : World} {b o : Nat} {u : Value} (h : w.cell? ⟨b, o, none⟩ = some u) : b < w.heap.size := by
  unfold World.cell? at h
  split at h
  · rename_i hb
    exact (Array.getElem?_eq_some_iff.1 hb).1
  · cases h
def upd (G : Nat → Nat → Option Slo) (t0 i0 : Nat) (s : Slo) : Nat → Nat → Option Slo := fun t i => if t = t0 ∧ i = i0 then some s else G t i
theorem upd_cases {G : Nat → Nat → Option Slo} {t0 i0 : Nat} {s s' : Slo} {t i : Nat} (h : upd G t0 i0 s t i = some s') : (t = t0 ∧ i = i0 ∧ s' = s) ∨ G t i = some s' := by
  unfold upd at h
  split at h
  · rename_i hc
    exact .inl ⟨hc.1, hc.2, (Option.some.inj h).symm⟩
  · exact .inr h
theorem upd_self (G : Nat → Nat → Option Slo) (t0 i0 : Nat) (s : Slo) : upd G t0 i0 s t0 i0 = some s := by unfold upd; rw [if_pos ⟨rfl, rfl⟩]
theorem upd_other {G : Nat → Nat → Option Slo} {t0 i0 : Nat} {s : Slo} {t i : Nat} (h : ¬ (t = t0 ∧ i = i0)) : upd G t0 i0 s t i = G t i := by unfold upd; rw [if_neg h]
section
variable {F F' : Nat → Prop} {base : Nat} {W W' : World} {av nv : Value} {al m : Nat} {G : Nat → Nat → Option Slo}
theorem Inn.lt (h : Inn F base W av nv al m G) {t i : Nat} {s : Slo} {b : Nat} (hs : G t i = some s) (hb : s.v.ownBlock = some b) : base ≤ b ∧ b < W.heap.size := by
  obtain ⟨h1, h2, _⟩ := ownBlock_cells (h.own t i s hs).1 hb
  exact ⟨h1, h2⟩
theorem Inn.turns (h : Inn F base W av nv al m G) {S : List Nat} (ht : Turns S W W') (hO : ∀ t b, (inV av nv t).ownBlock = some b → b ∉ S) (hS : ∀ b ∈ S, ¬ F b) (hF : ∀ b, b < W.heap.size → F b → F' b) : Inn F' base W' av nv al m G := by
  refine ⟨h.all0, h.all1, h.all2, h.dom, ?_, h.apart, ?_, ?_⟩
  · intro t i s hs
    exact ⟨ownsRow_turns (h.own t i s hs).1 ht (fun b hb hm => hS b hm (h.foot t i s b hs hb)), (h.own t i s hs).2⟩
  · intro t i s hs
    obtain ⟨b, h1, h2⟩ := h.out t i s hs
    exact ⟨b, h1, (ht.cell (cell_lt h2) (hO t b h1)).trans h2⟩
  · intro t i s b hs hb
    exact hF b (h.lt hs hb).2 (h.foot t i s b hs hb)
theorem Inn.below (h : Inn F base W av nv al m G) (hb : Below W.heap.size W W') : Inn F base W' av nv al m G :=
  h.turns (S := []) (Turns.of_below hb) (fun _ _ _ => by simp) (by simp) (fun _ _ h => h)
/-- One shape more. -/
theorem Inn.growA (h : Inn F base W av nv al m G) {g' cap : Nat} {s : Slo} (hl : s.l = false) (ht : Turns av.ownBlock.toList W W')
    (hraw : ∀ o j, av.ownBlock = some o → j < al * 2 → W'.cell? ⟨g', j, none⟩ = W.cell? ⟨o, j, none⟩) (hnew : W'.cell? ⟨g', al * 2 + 1, none⟩ = some s.v)
    (hown : W.ownsRow base s.e s.sz s.v s.n s.x) (hn : s.n ≤ 30000000) (hfr : ∀ t i s' b, G t i = some s' → s'.v.ownBlock = some b → s.v.ownBlock ≠ some b) (hsF : ∀ b, s.v.ownBlock = some b → F b)
    (hF : ∀ b, b < W.heap.size → F b → F' b) (hav : ∀ b, av.ownBlock = some b → ¬ F b) (hnv : ∀ b, nv.ownBlock = some b → av.ownBlock ≠ some b) :
    Inn F' base W' (.slice (some ⟨g', 0, none⟩) (al + 1) cap) nv (al + 1) m (upd G 0 al s) := by
  have mem : ∀ {b : Nat}, b ∈ av.ownBlock.toList → av.ownBlock = some b := fun hb => by simpa using hb
  refine ⟨?_, ?_, ?_, ?_, ?_, ?_, ?_, ?_⟩
  · intro i hi
    by_cases e : i = al
    · rw [e]; exact ⟨s, upd_self _ _ _ _⟩
    · rw [upd_other (by omega)]; exact h.all0 i (by omega)
  · intro i hi
    rw [upd_other (by omega)]; exact h.all1 i hi
  · intro i hi
    rw [upd_other (by omega)]; exact h.all2 i hi
  · intro t i s' hs
    rcases upd_cases hs with ⟨rfl, rfl, rfl⟩ | hs
    · exact .inl ⟨rfl, by omega, hl⟩
    · rcases h.dom t i s' hs with ⟨h1, h2, h3⟩ | h4 | h4
      · exact .inl ⟨h1, by omega, h3⟩
      · exact .inr (.inl h4)
      · exact .inr (.inr h4)
  · intro t i s' hs
    rcases upd_cases hs with ⟨rfl, rfl, rfl⟩ | hs
    · exact ⟨ownsRow_turns hown ht (fun b hb hm => hav b (mem hm) (hsF b hb)), hn⟩
    · exact ⟨ownsRow_turns (h.own t i s' hs).1 ht (fun b hb hm => hav b (mem hm) (h.foot t i s' b hs hb)), (h.own t i s' hs).2⟩
  · intro t i t' i' s1 s2 b h1 h2 hb1 hb2
    rcases upd_cases h1 with ⟨e1, e2, e3⟩ | k1 <;> rcases upd_cases h2 with ⟨f1, f2, f3⟩ | k2
    · exact ⟨e1.trans f1.symm, e2.trans f2.symm⟩
    · rw [e3] at hb1; exact absurd hb1 (hfr t' i' s2 b k2 hb2)
    · rw [f3] at hb2; exact absurd hb2 (hfr t i s1 b k1 hb1)
    · exact h.apart t i t' i' s1 s2 b k1 k2 hb1 hb2
  · intro t i s' hs
    rcases upd_cases hs with ⟨rfl, rfl, rfl⟩ | hs
    · exact ⟨g', rfl, hnew⟩
    · obtain ⟨b, h1, h2⟩ := h.out t i s' hs
      by_cases e : t = 0
      · subst e
        refine ⟨g', rfl, ?_⟩
        have hi : i < al := by rcases h.dom 0 i s' hs with ⟨_, h3, _⟩ | ⟨h3, _⟩ | ⟨h3, _⟩ <;> omega
        rw [hraw b (inO 0 i) h1 (by unfold inO; rw [if_pos rfl]; omega)]
        exact h2
      · have e2 : ∀ v, inV v nv t = nv := fun v => by unfold inV; rw [if_neg e]
        rw [e2] at h1
        refine ⟨b, by rw [e2]; exact h1, (ht.cell (cell_lt h2) (fun hm => hnv b h1 (mem hm))).trans h2⟩
  · intro t i s' b hs hb
    rcases upd_cases hs with ⟨rfl, rfl, rfl⟩ | hs
    · exact hF b (ownBlock_cells hown hb).2.1 (hsF b hb)
    · exact hF b (h.lt hs hb).2 (h.foot t i s' b hs hb)
/-- One node more. -/
theorem Inn.growN (h : Inn F base W av nv al m G) {g' cap : Nat} {s1 s2 : Slo} (hl1 : s1.l = true) (hl2 : s2.l = false) (ht : Turns nv.ownBlock.toList W W')
    (hraw : ∀ o j, nv.ownBlock = some o → j < m * 11 → W'.cell? ⟨g', j, none⟩ = W.cell? ⟨o, j, none⟩) (hnew1 : W'.cell? ⟨g', m * 11 + 3, none⟩ = some s1.v) (hnew2 : W'.cell? ⟨g', m * 11 + 4, none⟩ = some s2.v)
    (hown1 : W.ownsRow base s1.e s1.sz s1.v s1.n s1.x) (hn1 : s1.n ≤ 30000000) (hown2 : W.ownsRow base s2.e s2.sz s2.v s2.n s2.x) (hn2 : s2.n ≤ 30000000)
    (hfr : ∀ t i s' b, G t i = some s' → s'.v.ownBlock = some b → s1.v.ownBlock ≠ some b ∧ s2.v.ownBlock ≠ some b) (h12 : ∀ b, s1.v.ownBlock = some b → s2.v.ownBlock ≠ some b) (hsF : ∀ b, s1.v.ownBlock = some b ∨ s2.v.ownBlock = some b → F b)
    (hF : ∀ b, b < W.heap.size → F b → F' b) (hnv : ∀ b, nv.ownBlock = some b → ¬ F b) (hav : ∀ b, av.ownBlock = some b → nv.ownBlock ≠ some b) :
    Inn F' base W' av (.slice (some ⟨g', 0, none⟩) (m + 1) cap) al (m + 1) (upd (upd G 1 m s1) 2 m s2) := by
  have mem : ∀ {b : Nat}, b ∈ nv.ownBlock.toList → nv.ownBlock = some b := fun hb => by simpa using hb
  have get : ∀ {t i : Nat} {s' : Slo}, upd (upd G 1 m s1) 2 m s2 t i = some s' → (t = 2 ∧ i = m ∧ s' = s2) ∨ (t = 1 ∧ i = m ∧ s' = s1) ∨ G t i = some s' := by
    intro t i s' hs
    rcases upd_cases hs with h1 | hs
    · exact .inl h1
    · rcases upd_cases hs with h1 | hs
      · exact .inr (.inl h1)
      · exact .inr (.inr hs)
  have new1 : upd (upd G 1 m s1) 2 m s2 1 m = some s1 := by rw [upd_other (by omega)]; exact upd_self _ _ _ _
  have old : ∀ {t i : Nat}, ¬ (t = 1 ∧ i = m) → ¬ (t = 2 ∧ i = m) → upd (upd G 1 m s1) 2 m s2 t i = G t i := fun h1 h2 => by rw [upd_other h2, upd_other h1]
  refine ⟨?_, ?_, ?_, ?_, ?_, ?_, ?_, ?_⟩
  · intro i hi
    rw [old (by omega) (by omega)]; exact h.all0 i hi
  · intro i hi
    by_cases e : i = m
    · rw [e]; exact ⟨s1, new1⟩
    · rw [old (by omega) (by omega)]; exact h.all1 i (by omega)
  · intro i hi
    by_cases e : i = m
    · rw [e]; exact ⟨s2, upd_self _ _ _ _⟩
    · rw [old (by omega) (by omega)]; exact h.all2 i (by omega)
  · intro t i s' hs
    rcases get hs with ⟨rfl, rfl, rfl⟩ | ⟨rfl, rfl, rfl⟩ | hs
    · exact .inr (.inr ⟨rfl, by omega, hl2⟩)
    · exact .inr (.inl ⟨rfl, by omega, hl1⟩)
    · rcases h.dom t i s' hs with h4 | ⟨h1, h2, h3⟩ | ⟨h1, h2, h3⟩
      · exact .inl h4
      · exact .inr (.inl ⟨h1, by omega, h3⟩)
      · exact .inr (.inr ⟨h1, by omega, h3⟩)
  · intro t i s' hs
    rcases get hs with ⟨rfl, rfl, rfl⟩ | ⟨rfl, rfl, rfl⟩ | hs
    · exact ⟨ownsRow_turns hown2 ht (fun b hb hm => hnv b (mem hm) (hsF b (.inr hb))), hn2⟩
    · exact ⟨ownsRow_turns hown1 ht (fun b hb hm => hnv b (mem hm) (hsF b (.inl hb))), hn1⟩
    · exact ⟨ownsRow_turns (h.own t i s' hs).1 ht (fun b hb hm => hnv b (mem hm) (h.foot t i s' b hs hb)), (h.own t i s' hs).2⟩
  · intro t i t' i' x1 x2 b h1 h2 hb1 hb2
    rcases get h1 with ⟨e1, e2, e3⟩ | ⟨e1, e2, e3⟩ | k1 <;> rcases get h2 with ⟨f1, f2, f3⟩ | ⟨f1, f2, f3⟩ | k2
    · exact ⟨e1.trans f1.symm, e2.trans f2.symm⟩
    · rw [e3] at hb1; rw [f3] at hb2; exact absurd hb1 (h12 b hb2)
    · rw [e3] at hb1; exact absurd hb1 (hfr t' i' x2 b k2 hb2).2
    · rw [e3] at hb1; rw [f3] at hb2; exact absurd hb2 (h12 b hb1)
    · exact ⟨e1.trans f1.symm, e2.trans f2.symm⟩
    · rw [e3] at hb1; exact absurd hb1 (hfr t' i' x2 b k2 hb2).1
    · rw [f3] at hb2; exact absurd hb2 (hfr t i x1 b k1 hb1).2
    · rw [f3] at hb2; exact absurd hb2 (hfr t i x1 b k1 hb1).1
    · exact h.apart t i t' i' x1 x2 b k1 k2 hb1 hb2
  · intro t i s' hs
    rcases get hs with ⟨rfl, rfl, rfl⟩ | ⟨rfl, rfl, rfl⟩ | hs
    · exact ⟨g', rfl, hnew2⟩
    · exact ⟨g', rfl, hnew1⟩
    · obtain ⟨b, h1, h2⟩ := h.out t i s' hs
      by_cases e : t = 0
      · have e2 : ∀ v, inV av v t = av := fun v => by unfold inV; rw [if_pos e]
        rw [e2] at h1
        exact ⟨b, by rw [e2]; exact h1, (ht.cell (cell_lt h2) (fun hm => hav b h1 (mem hm))).trans h2⟩
      · have e2 : ∀ v, inV av v t = v := fun v => by unfold inV; rw [if_neg e]
        rw [e2] at h1
        refine ⟨g', by rw [e2]; rfl, ?_⟩
        have hi : inO t i < m * 11 := by
          unfold inO
          rw [if_neg e]
          rcases h.dom t i s' hs with ⟨h3, _⟩ | ⟨h3, h4, _⟩ | ⟨h3, h4, _⟩
          · exact absurd h3 e
          · rw [if_pos h3]; omega
          · rw [if_neg (by omega)]; omega
        rw [hraw b (inO t i) h1 hi]
        exact h2
  · intro t i s' b hs hb
    rcases get hs with ⟨rfl, rfl, rfl⟩ | ⟨rfl, rfl, rfl⟩ | hs
    · exact hF b (ownBlock_cells hown2 hb).2.1 (hsF b (.inr hb))
    · exact hF b (ownBlock_cells hown1 hb).2.1 (hsF b (.inl hb))
    · exact hF b (h.lt hs hb).2 (h.foot t i s' b hs hb)
end
end Go.Proofs.Ytonkbjdeaneicaa

namespace Go.Proofs.Ytonkbjdeaneicaa
open Go.RowKit Pln Classical Go.Maps

/-- What the map of nodes answers. -/
noncomputable def atF (ns : List Nd) : Value → Option Int := fun v => if h : ∃ n, n ∈ ns ∧ n.kind ≠ 0 ∧ v = .agg (askA n) then some (placeF ns h.choose : Int) else none
theorem agg_inj {n m : Nd} (h : Value.agg (askA n) = .agg (askA m)) (hl : n.links.length ≤ 8) (hn : n.new.length ≤ 8) : n = m := by
  injection h with h
  exact askA_inj h hl hn
theorem atF_hit {ns : List Nd} {n : Nd} (h : n ∈ ns) (hk : n.kind ≠ 0) (hl : n.links.length ≤ 8) (hn : n.new.length ≤ 8) : atF ns (.agg (askA n)) = some (placeF ns n : Int) := by
  have hex : ∃ m, m ∈ ns ∧ m.kind ≠ 0 ∧ Value.agg (askA n) = .agg (askA m) := ⟨n, h, hk, rfl⟩
  unfold atF
  rw [dif_pos hex]
  have := agg_inj hex.choose_spec.2.2 hl hn
  rw [← this]
theorem atF_miss {ns : List Nd} {n : Nd} (h : n ∉ ns) (hl : n.links.length ≤ 8) (hn : n.new.length ≤ 8) : atF ns (.agg (askA n)) = none := by
  unfold atF
  rw [dif_neg]
  rintro ⟨m, hm, _, he⟩
  exact h (agg_inj he hl hn ▸ hm)
theorem atF_put {ns : List Nd} {n : Nd} (h : n ∉ ns) (hk : n.kind ≠ 0) (hl : n.links.length ≤ 8) (hn : n.new.length ≤ 8) (hls : ∀ m ∈ ns, m.links.length ≤ 8 ∧ m.new.length ≤ 8) : atF (ns ++ [n]) = putG (atF ns) (.agg (askA n)) ns.length := by
  funext v
  unfold putG
  by_cases hv : v = .agg (askA n)
  · rw [if_pos hv, hv, atF_hit (by simp) hk hl hn]
    have : placeF (ns ++ [n]) n = ns.length := by
      have := addF_place ns n
      unfold addF at this
      rw [if_neg h, placeF_none h] at this
      exact this
    rw [this]
  · rw [if_neg hv]
    by_cases hex : ∃ m, m ∈ ns ∧ m.kind ≠ 0 ∧ v = .agg (askA m)
    · obtain ⟨m, h1, h2, h3⟩ := hex
      obtain ⟨l1, l2⟩ := hls m h1
      rw [h3, atF_hit h1 h2 l1 l2, atF_hit (List.mem_append_left _ h1) h2 l1 l2, placeF_app h1]
    · have hex2 : ¬ ∃ m, m ∈ ns ++ [n] ∧ m.kind ≠ 0 ∧ v = .agg (askA m) := by
        rintro ⟨m, h1, h2, h3⟩
        rcases List.mem_append.1 h1 with h1 | h1
        · exact hex ⟨m, h1, h2, h3⟩
        · rw [List.mem_singleton.1 h1] at h3
          exact hv h3
      unfold atF
      rw [dif_neg hex, dif_neg hex2]

/-- The blocks of the maker itself. -/
def mfoot (g mb : Nat) (av nv ev : Value) : List Nat := g :: mb :: (av.ownBlock.toList ++ (nv.ownBlock.toList ++ ev.ownBlock.toList))
def Off (base : Nat) (S : List Nat) : Nat → Prop := fun b => base ≤ b ∧ b ∉ S
structure MkAt (base g mb : Nat) (W : World) (av nv ev : Value) (st : St) (es : List Nat) : Prop where
  blk : W.heap[g]? = some (.cells #[av, nv, ev, .map (some mb)] 76 (0, 0))
  al : OwnF (Off base (mfoot g mb av nv ev)) base W 79 cdShp av st.al
  ns : OwnF (Off base (mfoot g mb av nv ev)) base W 54 cdNd nv st.ns
  en : OwnF (Off base (mfoot g mb av nv ev)) base W 3 cdInt ev (es.map fun (e : Nat) => (e : Int))
  map : MapG Try.prog 101 3 W mb st.ns.length (atF st.ns)
  gb : base ≤ g
  mbb : base ≤ mb
  lens : ∀ n ∈ st.ns, n.links.length ≤ 8 ∧ n.new.length ≤ 8
  inn : ∃ G, Inn (Off base (mfoot g mb av nv ev)) base W av nv st.al.length st.ns.length G
section
variable {base g mb : Nat} {W W' : World} {av nv ev : Value} {st : St} {es : List Nat}
theorem MkAt.lt (h : MkAt base g mb W av nv ev st es) : g < W.heap.size := lt_of_heap h.blk
theorem MkAt.step (h : MkAt base g mb W av nv ev st es) (hb : Below W.heap.size W W') : MkAt base g mb W' av nv ev st es :=
  ⟨(hb.block _ h.lt).trans h.blk, h.al.below hb, h.ns.below hb, h.en.below hb, h.map.of_block (hb.block _ h.map.lt), h.gb, h.mbb, h.lens, by obtain ⟨G, hG⟩ := h.inn; exact ⟨G, hG.below hb⟩⟩
theorem MkAt.cell (h : MkAt base g mb W av nv ev st es) (j : Nat) {u : Value} (hu : (#[av, nv, ev, .map (some mb)] : Array Value)[j]? = some u) : W.cell? ⟨g, j, none⟩ = some u := (cell_of_row _ _ j _ _ _ h.blk).trans hu
theorem MkAt.fz (h : MkAt base g mb W av nv ev st es) (o : Nat) : W.frozen? ⟨g, o, none⟩ = false := by
  have := h.blk
  simp [World.frozen?, this]
/-- The blocks differ, by what lies in them. -/
theorem MkAt.apart (h : MkAt base g mb W av nv ev st es) : g ≠ mb ∧ (∀ b, av.ownBlock = some b → b ≠ g ∧ b ≠ mb ∧ nv.ownBlock ≠ some b ∧ ev.ownBlock ≠ some b) ∧ (∀ b, nv.ownBlock = some b → b ≠ g ∧ b ≠ mb ∧ ev.ownBlock ≠ some b) ∧ (∀ b, ev.ownBlock = some b → b ≠ g ∧ b ≠ mb) := by
  obtain ⟨me, mc, hm⟩ := h.map.obj
  have hg := h.blk
  refine ⟨?_, ?_, ?_, ?_⟩
  · rintro rfl
    rw [hg] at hm
    cases hm
  · intro b hb
    obtain ⟨_, _, c1, h1⟩ := h.al.block hb
    refine ⟨?_, ?_, ?_, ?_⟩
    · rintro rfl
      rw [hg] at h1
      simp at h1
    · rintro rfl
      rw [hm] at h1
      cases h1
    · intro h2
      obtain ⟨_, _, c2, h3⟩ := h.ns.block h2
      rw [h1] at h3
      simp at h3
    · intro h2
      obtain ⟨_, _, c2, h3⟩ := h.en.block h2
      rw [h1] at h3
      simp at h3
  · intro b hb
    obtain ⟨_, _, c1, h1⟩ := h.ns.block hb
    refine ⟨?_, ?_, ?_⟩
    · rintro rfl
      rw [hg] at h1
      simp at h1
    · rintro rfl
      rw [hm] at h1
      cases h1
    · intro h2
      obtain ⟨_, _, c2, h3⟩ := h.en.block h2
      rw [h1] at h3
      simp at h3
  · intro b hb
    obtain ⟨_, _, c1, h1⟩ := h.en.block hb
    refine ⟨?_, ?_⟩
    · rintro rfl
      rw [hg] at h1
      simp at h1
    · rintro rfl
      rw [hm] at h1
      cases h1
end

/-- A maker, its blocks S; what a call on it leaves. -/
def Mkr (base g mb : Nat) (W : World) (S : List Nat) (st : St) (es : List Nat) : Prop := ∃ av nv ev, S = mfoot g mb av nv ev ∧ MkAt base g mb W av nv ev st es
def MkrTo (base g mb : Nat) (W : World) (S : List Nat) (st : St) (es : List Nat) (W' : World) : Prop := ∃ S', Mkr base g mb W' S' st es ∧ Turns S W W' ∧ ∀ b ∈ S', b ∈ S ∨ W.heap.size ≤ b
end Go.Proofs.Ytonkbjdeaneicaa

namespace Go.Proofs.Ytonkbjdeaneicaa
open Go.RowKit Pln Classical Go.Maps

theorem rowA : 101 < Try.prog.types.size := of_decide_eq_true (by kernel_rfl)
theorem keyedA : Keyed Try.prog 101 := Keyed.of_law (deep_law_laid laidR (m := 4) (by omega) rowA (by kernel_rfl) (by rw [Try.underlying101]))
theorem ktA : Try.prog.keyType 101 = true := by kernel_rfl
theorem kszR : ∃ d, Try.prog.types.size = d + 4 := ⟨Try.prog.types.size - 4, by have : 3 < Try.prog.types.size := of_decide_eq_true (by kernel_rfl); omega⟩
theorem cAsk : Try.prog.cellsOf 101 = 35 := by kernel_rfl
theorem cLnk : Try.prog.cellsOf 83 = 2 := by kernel_rfl
theorem cL8 : Try.prog.cellsOf 98 = 16 := by kernel_rfl
theorem cI8 : Try.prog.cellsOf 99 = 8 := by kernel_rfl
structure NdOk (n : Nd) : Prop where
  ints : i64ok n.kind ∧ i64ok n.parent ∧ i64ok n.alpha ∧ i64ok n.width ∧ i64ok n.test.op ∧ i64ok n.test.l.n ∧ i64ok n.test.r.n
  links : ∀ l ∈ n.links, i64ok l.1 ∧ i64ok l.2
  new : ∀ x ∈ n.new, i64ok x
  l8 : n.links.length ≤ 8
  n8 : n.new.length ≤ 8
theorem ok0 : i64ok 0 := by unfold i64ok; decide
theorem NdOk.li {n : Nd} (h : NdOk n) (j : Nat) : i64ok (li n.links j) := by
  unfold Go.Proofs.Ytonkbjdeaneicaa.li
  cases hx : n.links[j / 2]? with
  | none => split <;> exact ok0
  | some x =>
    obtain ⟨h1, h2⟩ := h.links x (List.mem_of_getElem? hx)
    split
    · exact h1
    · exact h2
theorem NdOk.mi {n : Nd} (h : NdOk n) (j : Nat) : i64ok (mi n.new j) := by
  unfold Go.Proofs.Ytonkbjdeaneicaa.mi
  cases hx : n.new[j]? with
  | none => exact ok0
  | some x => exact h.new x (List.mem_of_getElem? hx)
theorem okNat {k : Nat} (h : k ≤ 1000000000) : i64ok (k : Int) := WalkArith.wf_i64 (by omega)
set_option maxRecDepth 100000 in
set_option maxHeartbeats 4000000 in
theorem keyA {n : Nd} (h : NdOk n) : ∃ l, keyOf Try.prog 101 (.agg (askA n)) = some l := by
  obtain ⟨d, hd⟩ := kszR
  obtain ⟨a1, a2, a3, a4, a5, a6, a7⟩ := h.ints
  have a8 := okNat (k := n.links.length) (by have := h.l8; omega)
  have a9 := okNat (k := n.new.length) (by have := h.n8; omega)
  have L := h.li
  have M := h.mi
  unfold i64ok at a1 a2 a3 a4 a5 a6 a7 a8 a9 L M
  unfold keyOf
  rw [Try.underlying101, ktA, hd]
  simp +decide [Value.formed, Try.underlying101, askA, cAsk, Value.cells, Program.keyLits, cIntR, cBoolR, cSltR, cTstR, cLnk, cL8, cI8, Try.underlying3, Try.underlying4, Try.underlying50, Try.underlying52, Try.underlying83, Try.underlying98, Try.underlying99, List.range_succ, a1, a2, a3, a4, a5, a6, a7, a8, a9, L, M]

/-- A node's lists, new. -/
structure NewN (F : Nat → Prop) (base : Nat) (W : World) (G : Nat → Nat → Option Slo) (s1 s2 : Slo) : Prop where
  l1 : s1.l = true
  l2 : s2.l = false
  o1 : W.ownsRow base s1.e s1.sz s1.v s1.n s1.x
  n1 : s1.n ≤ 30000000
  o2 : W.ownsRow base s2.e s2.sz s2.v s2.n s2.x
  n2 : s2.n ≤ 30000000
  fresh : ∀ (t i : Nat) (s' : Slo) (b : Nat), G t i = some s' → s'.v.ownBlock = some b → s1.v.ownBlock ≠ some b ∧ s2.v.ownBlock ≠ some b
  d12 : ∀ b, s1.v.ownBlock = some b → s2.v.ownBlock ≠ some b
  foot : ∀ b, s1.v.ownBlock = some b ∨ s2.v.ownBlock = some b → F b
/-- Where the nodes' row has grown and its new value is stored. -/
structure Grown (base g mb : Nat) (wd w4 : World) (av nv nv' ev : Value) (st : St) (es : List Nat) (n : Nd) : Prop where
  blk : w4.heap[g]? = some (.cells #[av, nv', ev, .map (some mb)] 76 (0, 0))
  al : OwnF (Off base (mfoot g mb av nv' ev)) base w4 79 cdShp av st.al
  ns : OwnF (Off base (mfoot g mb av nv' ev)) base w4 54 cdNd nv' (st.ns ++ [n])
  en : OwnF (Off base (mfoot g mb av nv' ev)) base w4 3 cdInt ev (es.map fun (e : Nat) => (e : Int))
  map : MapG Try.prog 101 3 w4 mb st.ns.length (atF st.ns)
  tn : Turns (mfoot g mb av nv ev) wd w4
  inn : ∃ G, Inn (Off base (mfoot g mb av nv' ev)) base w4 av nv' st.al.length (st.ns.length + 1) G
theorem MkAt.grown {base g mb : Nat} {wd w3 : World} {av nv ev : Value} {st : St} {es : List Nat} {n : Nd} (h : MkAt base g mb wd av nv ev st es) {g' cap : Nat}
    (ho : ∀ F' : Nat → Prop, (∀ b, b < wd.heap.size → Off base (mfoot g mb av nv ev) b → F' b) → OwnF F' base w3 54 cdNd (.slice (some ⟨g', 0, none⟩) (st.ns.length + 1) cap) (st.ns ++ [n]))
    (ht : Turns nv.ownBlock.toList wd w3) (hat : nv.ownBlock = some g' ∨ wd.heap.size ≤ g')
    {G : Nat → Nat → Option Slo} (hG : Inn (Off base (mfoot g mb av nv ev)) base wd av nv st.al.length st.ns.length G) {s1 s2 : Slo} (nw : NewN (Off base (mfoot g mb av nv ev)) base wd G s1 s2)
    (hraw : ∀ o j, nv.ownBlock = some o → j < st.ns.length * 11 → w3.cell? ⟨g', j, none⟩ = wd.cell? ⟨o, j, none⟩) (hnew1 : w3.cell? ⟨g', st.ns.length * 11 + 3, none⟩ = some s1.v) (hnew2 : w3.cell? ⟨g', st.ns.length * 11 + 4, none⟩ = some s2.v) :
    Grown base g mb wd (w3.setCell ⟨g, 1, none⟩ (.slice (some ⟨g', 0, none⟩) (st.ns.length + 1) cap)) av nv (.slice (some ⟨g', 0, none⟩) (st.ns.length + 1) cap) ev st es n := by
  obtain ⟨a1, a2, a3, a4⟩ := h.apart
  have hg : g ∉ nv.ownBlock.toList := fun hm => (a3 g (by simpa using hm)).1 rfl
  have hmb : mb ∉ nv.ownBlock.toList := fun hm => (a3 mb (by simpa using hm)).2.1 rfl
  have hgn : g' ≠ g := by
    rcases hat with h1 | h1
    · exact (a3 g' h1).1
    · have := h.lt; omega
  have T : Turns (g :: nv.ownBlock.toList) wd (w3.setCell ⟨g, 1, none⟩ (.slice (some ⟨g', 0, none⟩) (st.ns.length + 1) cap)) := (ht.mono (by simp +contextual)).setCell (.inl (by simp)) _
  have hoff : ∀ b ∈ g :: nv.ownBlock.toList, ¬ Off base (mfoot g mb av nv ev) b := by
    intro b hb hf
    refine hf.2 ?_
    simp only [mfoot, List.mem_cons, List.mem_append] at hb ⊢
    rcases hb with hb | hb
    · exact .inl hb
    · exact .inr (.inr (.inr (.inl hb)))
  have hFF : ∀ b, b < wd.heap.size → Off base (mfoot g mb av nv ev) b → Off base (mfoot g mb av (.slice (some ⟨g', 0, none⟩) (st.ns.length + 1) cap) ev) b := by
    rintro b hlt ⟨h1, h2⟩
    refine ⟨h1, fun hm => h2 ?_⟩
    simp only [mfoot, List.mem_cons, List.mem_append, Option.mem_toList] at hm ⊢
    rcases hm with hm | hm | hm | hm | hm
    · exact .inl hm
    · exact .inr (.inl hm)
    · exact .inr (.inr (.inl hm))
    · have e : g' = b := by simpa [Value.ownBlock] using hm
      rcases hat with h3 | h3
      · exact .inr (.inr (.inr (.inl (by rw [← e]; exact h3))))
      · omega
    · exact .inr (.inr (.inr (.inr hm)))
  have hI := hG.growN (cap := cap) nw.l1 nw.l2 ht hraw hnew1 hnew2 nw.o1 nw.n1 nw.o2 nw.n2 nw.fresh nw.d12 nw.foot hFF (fun b hb hf => hf.2 (by simp [mfoot, hb])) (fun b hb => (a2 b hb).2.2.1)
  have hI2 := hI.turns (S := [g]) (F' := Off base (mfoot g mb av (.slice (some ⟨g', 0, none⟩) (st.ns.length + 1) cap) ev)) (W' := w3.setCell ⟨g, 1, none⟩ (.slice (some ⟨g', 0, none⟩) (st.ns.length + 1) cap)) ((Turns.refl _ _).setCell (.inl (by simp)) _) (fun t b hb hm => by
      rw [List.mem_singleton.1 hm] at hb
      unfold inV at hb
      split at hb
      · exact (a2 g hb).1 rfl
      · exact hgn (by simpa [Value.ownBlock] using hb)) (fun b hb hf => hf.2 (by simp only [List.mem_singleton] at hb; simp [mfoot, hb])) (fun _ _ h => h)
  refine ⟨?_, ?_, ?_, ?_, ?_, T.mono (fun b hb => ?_), ⟨_, hI2⟩⟩
  · exact heap_setCell_same _ _ 1 _ _ _ ((ht.block g h.lt hg).trans h.blk)
  · exact h.al.keep T (fun b hb hm => by
      obtain ⟨b1, b2, b3, b4⟩ := a2 b hb
      simp only [List.mem_cons, Option.mem_toList] at hm
      rcases hm with hm | hm
      · exact b1 hm
      · exact b3 hm) hoff hFF
  · exact (ho _ hFF).keep (S := [g]) ((Turns.refl _ _).setCell (.inl (by simp)) _) (fun b hb hm => by
      have e : g' = b := by simpa [Value.ownBlock] using hb
      simp only [List.mem_singleton] at hm
      omega) (fun b hb hf => hf.2 (by simp only [List.mem_singleton] at hb; simp [mfoot, hb])) (fun _ _ h => h)
  · exact h.en.keep T (fun b hb hm => by
      obtain ⟨b1, b2⟩ := a4 b hb
      simp only [List.mem_cons, Option.mem_toList] at hm
      rcases hm with hm | hm
      · exact b1 hm
      · exact (a3 b hm).2.2 hb) hoff hFF
  · refine h.map.of_block ?_
    rw [Below.heap_setCell _ _ _ _ (fun e => a1 e.symm)]
    exact ht.block mb h.map.lt hmb
  · simp only [mfoot, List.mem_cons, List.mem_append] at hb ⊢
    rcases hb with hb | hb
    · exact .inl hb
    · exact .inr (.inr (.inr (.inl hb)))
/-- Behind the store into the map. -/
theorem Grown.done {base g mb : Nat} {wd w4 w4' w5 : World} {av nv nv' ev : Value} {st : St} {es : List Nat} {n : Nd} (h : Grown base g mb wd w4 av nv nv' ev st es n) (hno : n ∉ st.ns) (hk : n.kind ≠ 0) (hok : NdOk n) (gb : base ≤ g) (mbb : base ≤ mb)
    (lens : ∀ m ∈ st.ns, m.links.length ≤ 8 ∧ m.new.length ≤ 8) (hw : Below w4.heap.size w4 w4') (hm : MapG Try.prog 101 3 w5 mb (st.ns.length + 1) (putG (atF st.ns) (.agg (askA n)) st.ns.length)) (hg : w4'.grownBy w5 (some mb)) :
    MkAt base g mb w5 av nv' ev ⟨st.al, st.ns ++ [n]⟩ es ∧ Turns (mfoot g mb av nv ev) wd w5 := by
  have T : Turns [mb] w4 w5 := ((Turns.of_below (S := []) hw).mono (by simp)).trans (Turns.of_grown hg) (by simp)
  have mo : ∃ es c, w4.heap[mb]? = some (.map es c) := h.map.obj
  obtain ⟨me, mc, mo⟩ := mo
  have far : ∀ {e : TypeId} {cur : Array Value} {b : Nat}, w4.heap[b]? = some (.cells cur e (0, 0)) → b ≠ mb := by
    rintro e cur b hb rfl
    rw [mo] at hb
    cases hb
  have hoff : ∀ b ∈ [mb], ¬ Off base (mfoot g mb av nv' ev) b := fun b hb hf => hf.2 (by simp only [List.mem_singleton] at hb; simp [mfoot, hb])
  have hinn : ∃ G, Inn (Off base (mfoot g mb av nv' ev)) base w5 av nv' st.al.length (st.ns ++ [n]).length G := by
    obtain ⟨G, hG⟩ := h.inn
    rw [List.length_append]
    exact ⟨G, hG.turns T (fun t b hb hm => by
      rw [List.mem_singleton.1 hm] at hb
      unfold inV at hb
      split at hb
      · obtain ⟨_, _, c, hc⟩ := h.al.block hb; exact far hc rfl
      · obtain ⟨_, _, c, hc⟩ := h.ns.block hb; exact far hc rfl) hoff (fun _ _ h => h)⟩
  refine ⟨⟨(T.block g (lt_of_heap h.blk) (by simpa using far h.blk)).trans h.blk, ?_, ?_, ?_, ?_, gb, mbb, ?_, hinn⟩, h.tn.trans T (fun x hx => .inl (by simp only [List.mem_singleton] at hx; simp [mfoot, hx]))⟩
  · exact h.al.keep T (fun b hb => by obtain ⟨_, _, c, hc⟩ := h.al.block hb; simpa using far hc) hoff (fun _ _ h => h)
  · exact h.ns.keep T (fun b hb => by obtain ⟨_, _, c, hc⟩ := h.ns.block hb; simpa using far hc) hoff (fun _ _ h => h)
  · exact h.en.keep T (fun b hb => by obtain ⟨_, _, c, hc⟩ := h.en.block hb; simpa using far hc) hoff (fun _ _ h => h)
  · show MapG _ _ _ _ _ (st.ns ++ [n]).length (atF (st.ns ++ [n]))
    rw [atF_put hno hk hok.l8 hok.n8 lens, List.length_append]
    exact hm
  · intro m hm
    rcases List.mem_append.1 hm with hm | hm
    · exact lens m hm
    · rw [List.mem_singleton.1 hm]; exact ⟨hok.l8, hok.n8⟩
end Go.Proofs.Ytonkbjdeaneicaa
