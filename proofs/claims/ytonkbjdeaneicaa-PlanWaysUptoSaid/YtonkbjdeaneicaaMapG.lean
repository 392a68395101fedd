/- A map to ints: 'MapG': block b is a map that answers as f; what a lookup and a store do to it. Over any program. -/
import Derived.WalkKit
import Derived.Maps.OwnSet
import Derived.Maps.Views
import Derived.Maps.OwnOps
import Derived.Below
namespace Go.Proofs.Ytonkbjdeaneicaa
open Go.RowKit Go.Maps Classical

section
variable {P : Program} {k e : TypeId}

/-- A datum that answers as f. -/
def Answers (P : Program) (k : TypeId) (D : DataW Unit) (f : Value → Option Int) : Prop :=
  Tidy D ∧ ∀ v l, keyOf P k v = some l → (∀ z, f v = some z → has D l = true ∧ ∀ y, D.atKey l y = .lit (.int .i64 z)) ∧ (f v = none → has D l = false)

def MapG (P : Program) (k e : TypeId) (w : World) (b : Nat) (N : Nat) (f : Value → Option Int) : Prop :=
  ∃ (n : Nat) (D : DataW Unit), w.ownsMap P k (plainElem P e) b n D ∧ n ≤ N ∧ Answers P k D f

theorem MapG.lt {w : World} {b N : Nat} {f : Value → Option Int} (h : MapG P k e w b N f) : b < w.heap.size := by
  obtain ⟨n, D, h, _⟩ := h; exact h.lt
theorem MapG.of_block {w w' : World} {b N : Nat} {f : Value → Option Int} (h : MapG P k e w b N f) (hb : w'.heap[b]? = w.heap[b]?) : MapG P k e w' b N f := by
  obtain ⟨n, D, ⟨es, c, h1, h2, h3, h4⟩, hn, hN⟩ := h
  exact ⟨n, D, ⟨es, c, hb.trans h1, h2, h3, h4⟩, hn, hN⟩
theorem MapG.obj {w : World} {b N : Nat} {f : Value → Option Int} (h : MapG P k e w b N f) : ∃ es c, w.heap[b]? = some (.map es c) := by
  obtain ⟨n, D, ⟨es, c, h1, _⟩, _⟩ := h
  exact ⟨es, c, h1⟩
theorem MapG.made (w : World) : MapG P k e (w.alloc (.map #[] 0)) w.heap.size 0 (fun _ => none) :=
  ⟨0, .map [], World.ownsMap_made w P k _, Nat.le_refl _, tidy_empty, fun v l _ => ⟨fun z h => (by cases h), fun _ => rfl⟩⟩
theorem MapG.congr {w : World} {b N : Nat} {f g : Value → Option Int} (h : MapG P k e w b N f) (hg : ∀ v l, keyOf P k v = some l → g v = f v) : MapG P k e w b N g := by
  obtain ⟨n, D, h1, h2, h3, h4⟩ := h
  refine ⟨n, D, h1, h2, h3, fun v l hl => ?_⟩
  rw [hg v l hl]
  exact h4 v l hl

theorem MapG.hit {w : World} {b N : Nat} {f : Value → Option Int} {t : TypeId} (h : MapG P k e w b N f) (K : Keyed P k) (ht : P.underlying t = some (.map k e)) (he : P.underlying e = some (.int .i64)) (hz : (zeroValue e).run P w = .ok (.int .i64 0) w)
    {v : Value} {l : Lit} (hl : keyOf P k v = some l) {z : Int} (hv : f v = some z) : (Instr.lookup t (.map (some b)) v true).run P w = .ok (.tuple #[.int .i64 z, .bool true]) w := by
  obtain ⟨n, D, hown, _, _, hat⟩ := h
  obtain ⟨h1, h2⟩ := (hat v l hl).1 z hv
  obtain ⟨v', ps, hrun, hv'⟩ := hown.look_ok K ht hz (plainElem_int he (by decide)) hl
  rw [h2] at hv'
  obtain ⟨a, rfl, ha, _⟩ := plainElem_int_inv he hv'
  simp only [Prod.mk.injEq, DataW.lit.injEq, Lit.int.injEq, true_and] at ha
  rw [hrun, h1, ← ha.1]
theorem MapG.miss {w : World} {b N : Nat} {f : Value → Option Int} {t : TypeId} (h : MapG P k e w b N f) (K : Keyed P k) (ht : P.underlying t = some (.map k e)) (he : P.underlying e = some (.int .i64)) (hz : (zeroValue e).run P w = .ok (.int .i64 0) w)
    {v : Value} {l : Lit} (hl : keyOf P k v = some l) (hv : f v = none) : (Instr.lookup t (.map (some b)) v true).run P w = .ok (.tuple #[.int .i64 0, .bool false]) w := by
  obtain ⟨n, D, hown, _, _, hat⟩ := h
  have h1 := (hat v l hl).2 hv
  obtain ⟨v', ps, hrun, hv'⟩ := hown.look_ok K ht hz (plainElem_int he (by decide)) hl
  rw [atKey_of_not_has h1] at hv'
  obtain ⟨a, rfl, ha, _⟩ := plainElem_int_inv he hv'
  simp only [Prod.mk.injEq, DataW.lit.injEq, Lit.int.injEq, true_and] at ha
  rw [hrun, h1, ← ha.1]
noncomputable def putG (f : Value → Option Int) (v : Value) (z : Int) : Value → Option Int := fun u => if u = v then some z else f u
theorem MapG.store {w : World} {b N : Nat} {f : Value → Option Int} {t : TypeId} (h : MapG P k e w b N f) (K : Keyed P k) (ht : P.underlying t = some (.map k e)) (he : P.underlying e = some (.int .i64)) (hn : N < maxLen)
    {v : Value} {l : Lit} (hl : keyOf P k v = some l) {z : Int} (hz : (Lit.int .i64 z).wf = true) :
    ∃ w', (Instr.mapUpdate t (.map (some b)) v (.int .i64 z)).run P w = .ok () w' ∧ MapG P k e w' b (N + 1) (putG f v z) ∧ w.grownBy w' (some b) := by
  obtain ⟨n, D, hown, hle, hT, hat⟩ := h
  obtain ⟨w', hrun, hown', hg⟩ := hown.update (t := t) K ht (Nat.lt_of_le_of_lt hle hn) (val := .int .i64 z) hl (plainElem_int he hz)
  refine ⟨w', hrun, ⟨n + 1, _, hown', by omega, hT.put (K.key hl) _, fun u lu hlu => ?_⟩, hg⟩
  by_cases huv : u = v
  · subst huv
    have : lu = l := by rw [hl] at hlu; exact (Option.some.inj hlu).symm
    subst this
    refine ⟨fun y hy => ?_, fun hy => ?_⟩
    · simp only [putG, if_pos, Option.some.injEq] at hy
      subst hy
      exact ⟨has_put_same hT.isMap (K.key hl) _, fun y => by rw [atKey_put_same hT.isMap (K.key hl)]⟩
    · simp [putG] at hy
  · have hne : lu ≠ l := by
      rintro rfl
      exact huv (K.inj hlu hl)
    obtain ⟨h1, h2⟩ := hat u lu hlu
    refine ⟨fun y hy => ?_, fun hy => ?_⟩
    · simp only [putG, if_neg huv] at hy
      obtain ⟨h3, h4⟩ := h1 y hy
      exact ⟨by rw [has_put_other hne]; exact h3, fun y => by rw [atKey_put_other hne]; exact h4 y⟩
    · simp only [putG, if_neg huv] at hy
      rw [has_put_other hne]
      exact h2 hy
end
end Go.Proofs.Ytonkbjdeaneicaa
