/- A map that numbers keys: 'MapIs': block b is a map in which the keys ks stand with their places; what a lookup, a store, a delete do to it. Over any program. -/
import Derived.WalkKit
import Derived.Maps.OwnSet
import Derived.Maps.Views
import Derived.Maps.OwnOps
import Derived.Below
namespace Go.Proofs.Ytblonickpmogiaa
open Go.RowKit Go.Maps

section
variable {P : Program} {k e : TypeId}

/-- A datum that numbers the keys ks by their places. -/
def Numbers (P : Program) (k : TypeId) (D : DataW Unit) (ks : List Value) : Prop :=
  Tidy D ∧ ks.Nodup ∧ (∀ v ∈ ks, ∃ l, keyOf P k v = some l) ∧
    (∀ (i : Nat) v l, ks[i]? = some v → keyOf P k v = some l → has D l = true ∧ ∀ z, D.atKey l z = .lit (.int .i64 (i : Int))) ∧
    (∀ v l, v ∉ ks → keyOf P k v = some l → has D l = false)

def MapIs (P : Program) (k e : TypeId) (w : World) (b : Nat) (ks : List Value) : Prop :=
  ∃ (n : Nat) (D : DataW Unit), w.ownsMap P k (plainElem P e) b n D ∧ n ≤ ks.length ∧ Numbers P k D ks

theorem MapIs.lt {w : World} {b : Nat} {ks : List Value} (h : MapIs P k e w b ks) : b < w.heap.size := by
  obtain ⟨n, D, h, _⟩ := h; exact h.lt
theorem MapIs.of_block {w w' : World} {b : Nat} {ks : List Value} (h : MapIs P k e w b ks) (hb : w'.heap[b]? = w.heap[b]?) : MapIs P k e w' b ks := by
  obtain ⟨n, D, ⟨es, c, h1, h2, h3, h4⟩, hn, hN⟩ := h
  exact ⟨n, D, ⟨es, c, hb.trans h1, h2, h3, h4⟩, hn, hN⟩
theorem MapIs.nodup {w : World} {b : Nat} {ks : List Value} (h : MapIs P k e w b ks) : ks.Nodup := by
  obtain ⟨_, _, _, _, hN⟩ := h; exact hN.2.1
theorem MapIs.keys {w : World} {b : Nat} {ks : List Value} (h : MapIs P k e w b ks) : ∀ v ∈ ks, ∃ l, keyOf P k v = some l := by
  obtain ⟨_, _, _, _, hN⟩ := h; exact hN.2.2.1
theorem MapIs.made (w : World) : MapIs P k e (w.alloc (.map #[] 0)) w.heap.size [] :=
  ⟨0, .map [], World.ownsMap_made w P k _, Nat.le_refl _, tidy_empty, List.nodup_nil, fun v h => by simp at h, fun i v l h => by simp at h, fun v l _ _ => rfl⟩

/-- Its entries are as many as its keys. -/
theorem ownsMap_tight {w : World} {b n : Nat} {D : DataW Unit} (h : w.ownsMap P k (plainElem P e) b n D) : w.ownsMap P k (plainElem P e) b (size D) D := by
  obtain ⟨es, c, h1, h2, h3, h4⟩ := h
  refine ⟨es, c, h1, h2, ?_, h4⟩
  rw [h4, size_eq, length_sorted]
  simp

theorem MapIs.hit {w : World} {b : Nat} {ks : List Value} {t : TypeId} (h : MapIs P k e w b ks) (K : Keyed P k) (ht : P.underlying t = some (.map k e)) (he : P.underlying e = some (.int .i64)) (hz : (zeroValue e).run P w = .ok (.int .i64 0) w)
    {i : Nat} {v : Value} (hv : ks[i]? = some v) : (Instr.lookup t (.map (some b)) v true).run P w = .ok (.tuple #[.int .i64 (i : Int), .bool true]) w := by
  obtain ⟨n, D, hown, _, _, _, hkey, hat, _⟩ := h
  obtain ⟨l, hl⟩ := hkey v (List.mem_of_getElem? hv)
  obtain ⟨h1, h2⟩ := hat i v l hv hl
  obtain ⟨v', ps, hrun, hv'⟩ := hown.look_ok K ht hz (plainElem_int he (by decide)) hl
  rw [h2] at hv'
  obtain ⟨a, rfl, ha, _⟩ := plainElem_int_inv he hv'
  simp only [Prod.mk.injEq, DataW.lit.injEq, Lit.int.injEq, true_and] at ha
  rw [hrun, h1, ← ha.1]
theorem MapIs.miss {w : World} {b : Nat} {ks : List Value} {t : TypeId} (h : MapIs P k e w b ks) (K : Keyed P k) (ht : P.underlying t = some (.map k e)) (he : P.underlying e = some (.int .i64)) (hz : (zeroValue e).run P w = .ok (.int .i64 0) w)
    {v : Value} {l : Lit} (hl : keyOf P k v = some l) (hv : v ∉ ks) : (Instr.lookup t (.map (some b)) v true).run P w = .ok (.tuple #[.int .i64 0, .bool false]) w := by
  obtain ⟨n, D, hown, _, _, _, _, _, hno⟩ := h
  have h1 := hno v l hv hl
  obtain ⟨v', ps, hrun, hv'⟩ := hown.look_ok K ht hz (plainElem_int he (by decide)) hl
  rw [atKey_of_not_has h1] at hv'
  obtain ⟨a, rfl, ha, _⟩ := plainElem_int_inv he hv'
  simp only [Prod.mk.injEq, DataW.lit.injEq, Lit.int.injEq, true_and] at ha
  rw [hrun, h1, ← ha.1]

theorem Numbers.put (K : Keyed P k) {D : DataW Unit} {ks : List Value} (h : Numbers P k D ks) {v : Value} {l : Lit} (hl : keyOf P k v = some l) (hv : v ∉ ks) :
    Numbers P k (D.put l (.lit (.int .i64 (ks.length : Int)))) (ks ++ [v]) := by
  obtain ⟨hT, hN, hk, hat, hno⟩ := h
  refine ⟨hT.put (K.key hl) _, List.nodup_append.2 ⟨hN, by simp, by intro a ha b hb; rw [List.mem_singleton.1 hb]; rintro rfl; exact hv ha⟩, ?_, ?_, ?_⟩
  · intro a ha
    rcases List.mem_append.1 ha with ha | ha
    · exact hk a ha
    · rw [List.mem_singleton.1 ha]; exact ⟨l, hl⟩
  · intro i a la hi hla
    rcases Nat.lt_or_ge i ks.length with hlt | hge
    · rw [List.getElem?_append_left hlt] at hi
      have hne : la ≠ l := by
        rintro rfl
        have := K.inj hla hl
        subst this
        exact hv (List.mem_of_getElem? hi)
      obtain ⟨h1, h2⟩ := hat i a la hi hla
      exact ⟨by rw [has_put_other hne]; exact h1, fun z => by rw [atKey_put_other hne]; exact h2 z⟩
    · rw [List.getElem?_append_right hge] at hi
      have h0 : i - ks.length = 0 := by
        have := (List.getElem?_eq_some_iff.1 hi).1
        simp at this; omega
      rw [h0] at hi
      simp at hi
      subst hi
      have : la = l := by rw [hl] at hla; exact (Option.some.inj hla).symm
      subst this
      have e1 : (i : Int) = ks.length := by omega
      exact ⟨has_put_same hT.isMap (K.key hl) _, fun z => by rw [atKey_put_same hT.isMap (K.key hl), e1]⟩
  · intro a la ha hla
    have hna : a ∉ ks := fun h => ha (List.mem_append_left _ h)
    have hne : la ≠ l := by
      rintro rfl
      have := K.inj hla hl
      subst this
      exact ha (by simp)
    rw [has_put_other hne]
    exact hno a la hna hla

/-- A new key comes behind the others. -/
theorem MapIs.store {w : World} {b : Nat} {ks : List Value} {t : TypeId} (h : MapIs P k e w b ks) (K : Keyed P k) (ht : P.underlying t = some (.map k e)) (he : P.underlying e = some (.int .i64)) (hn : ks.length < maxLen)
    {v : Value} {l : Lit} (hl : keyOf P k v = some l) (hv : v ∉ ks) :
    ∃ w', (Instr.mapUpdate t (.map (some b)) v (.int .i64 (ks.length : Int))).run P w = .ok () w' ∧ MapIs P k e w' b (ks ++ [v]) ∧ w.grownBy w' (some b) := by
  obtain ⟨n, D, hown, hle, hN⟩ := h
  obtain ⟨w', hrun, hown', hg⟩ := hown.update (t := t) K ht (Nat.lt_of_le_of_lt hle hn) (val := .int .i64 (ks.length : Int)) hl (plainElem_int he (WalkArith.wf_i64 (by unfold maxLen at hn; omega)))
  exact ⟨w', hrun, ⟨n + 1, _, hown', by simp; omega, hN.put K hl hv⟩, hg⟩

theorem Numbers.drop (K : Keyed P k) {D : DataW Unit} {ks : List Value} {v : Value} {l : Lit} (h : Numbers P k D (ks ++ [v])) (hl : keyOf P k v = some l) :
    Numbers P k (D.del l) ks := by
  obtain ⟨hT, hN, hk, hat, hno⟩ := h
  have hN' := List.nodup_append.1 hN
  have hv : v ∉ ks := fun h => hN'.2.2 v h v (by simp) rfl
  refine ⟨hT.del l, hN'.1, fun a ha => hk a (List.mem_append_left _ ha), ?_, ?_⟩
  · intro i a la hi hla
    have hlt := (List.getElem?_eq_some_iff.1 hi).1
    have hne : la ≠ l := by
      rintro rfl
      have := K.inj hla hl
      subst this
      exact hv (List.mem_of_getElem? hi)
    obtain ⟨h1, h2⟩ := hat i a la (by rw [List.getElem?_append_left hlt]; exact hi) hla
    exact ⟨by rw [has_del_other hne]; exact h1, fun z => by rw [atKey_del_other hne]; exact h2 z⟩
  · intro a la ha hla
    by_cases hav : a = v
    · subst hav
      have : la = l := by rw [hl] at hla; exact (Option.some.inj hla).symm
      subst this
      exact has_del_same
    · have hne : la ≠ l := by
        rintro rfl
        exact hav (K.inj hla hl)
      rw [has_del_other hne]
      exact hno a la (fun h => by rcases List.mem_append.1 h with h | h; exact ha h; exact hav (List.mem_singleton.1 h)) hla


/-- The last key goes. -/
theorem MapIs.drop {w : World} {b : Nat} {ks : List Value} {t : TypeId} {v : Value} (h : MapIs P k e w b (ks ++ [v])) (K : Keyed P k) (ht : P.underlying t = some (.map k e)) (ty : TypeId) :
    ∃ w', (Builtin.delete_ #[t, k] ty #[.map (some b), v]).run P w = .ok (.tuple #[]) w' ∧ MapIs P k e w' b ks ∧ w.grownBy w' (some b) := by
  obtain ⟨n, D, hown, hle, hN⟩ := h
  obtain ⟨l, hl⟩ := hN.2.2.1 v (by simp)
  have hh := (hN.2.2.2.1 ks.length v l (by simp) hl).1
  obtain ⟨w', hrun, hown', hg⟩ := hown.drop K ht hl ty
  have h1 := hown.size_le
  have h2 := size_del (k := l) hN.1
  rw [hh] at h2
  simp at h2 hle
  exact ⟨w', hrun, ⟨size (D.del l), _, ownsMap_tight hown', by omega, hN.drop K hl⟩, hg.grown⟩
end
end Go.Proofs.Ytblonickpmogiaa
