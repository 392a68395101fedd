/- A map to whatever values: 'MapV': block b is a map that answers as f; a lookup, a store, a delete, a range over it. Over any program. Numbers in plain words: what is told can be read back. Over any program. The agenda's acts in plain words: their keys, their order. Over any program. -/
import Derived.Below
import Derived.Lib.AppendIntMem
import Derived.Maps.OwnOps
import Derived.Maps.OwnSet
import Derived.Maps.RangeWalk
import Derived.Maps.Views
import Derived.WalkKit
namespace Go.Proofs.YtjgigcnjgblekaaDoor
open Go.RowKit Go.Maps Classical

section
variable {P : Program} {k e : TypeId}

/-- An element reads as itself. -/
def RH (v : Value) : Option (DataW Value × List MemPlace) := some (.held v, [])
/-- A datum that answers as f. -/
def AnsV (P : Program) (k : TypeId) (D : DataW Value) (f : Value → Option Value) : Prop :=
  Tidy D ∧ ∀ v l, keyOf P k v = some l → (∀ z, f v = some z → has D l = true ∧ ∀ y, D.atKey l y = .held z) ∧ (f v = none → has D l = false)
def MapV (P : Program) (k : TypeId) (w : World) (b : Nat) (N : Nat) (f : Value → Option Value) : Prop :=
  ∃ (n : Nat) (D : DataW Value), w.ownsMap P k RH b n D ∧ n ≤ N ∧ AnsV P k D f
theorem MapV.lt {w : World} {b N : Nat} {f : Value → Option Value} (h : MapV P k w b N f) : b < w.heap.size := by
  obtain ⟨n, D, h, _⟩ := h; exact h.lt
theorem MapV.mono {w : World} {b N M : Nat} {f : Value → Option Value} (h : MapV P k w b N f) (hm : N ≤ M) : MapV P k w b M f := by
  obtain ⟨n, D, h, hn, hN⟩ := h
  exact ⟨n, D, h, Nat.le_trans hn hm, hN⟩
theorem MapV.of_block {w w' : World} {b N : Nat} {f : Value → Option Value} (h : MapV P k w b N f) (hb : w'.heap[b]? = w.heap[b]?) : MapV P k w' b N f := by
  obtain ⟨n, D, ⟨es, c, h1, h2, h3, h4⟩, hn, hN⟩ := h
  exact ⟨n, D, ⟨es, c, hb.trans h1, h2, h3, h4⟩, hn, hN⟩
theorem MapV.made (w : World) : MapV P k (w.alloc (.map #[] 0)) w.heap.size 0 (fun _ => none) :=
  ⟨0, .map [], World.ownsMap_made w P k _, Nat.le_refl _, tidy_empty, fun v l _ => ⟨fun z h => (by cases h), fun _ => rfl⟩⟩
theorem MapV.congr {w : World} {b N : Nat} {f g : Value → Option Value} (h : MapV P k w b N f) (hg : ∀ v l, keyOf P k v = some l → g v = f v) : MapV P k w b N g := by
  obtain ⟨n, D, h1, h2, h3, h4⟩ := h
  refine ⟨n, D, h1, h2, h3, fun v l hl => ?_⟩
  rw [hg v l hl]
  exact h4 v l hl
theorem MapV.hit {w : World} {b N : Nat} {f : Value → Option Value} {t : TypeId} (h : MapV P k w b N f) (K : Keyed P k) (ht : P.underlying t = some (.map k e)) {z0 : Value} (hz : (zeroValue e).run P w = .ok z0 w)
    {v : Value} {l : Lit} (hl : keyOf P k v = some l) {z : Value} (hv : f v = some z) : (Instr.lookup t (.map (some b)) v true).run P w = .ok (.tuple #[z, .bool true]) w := by
  obtain ⟨n, D, hown, _, _, hat⟩ := h
  obtain ⟨h1, h2⟩ := (hat v l hl).1 z hv
  obtain ⟨v', ps, hrun, hv'⟩ := hown.look_ok K ht hz (zd := .held z0) (zp := []) rfl hl
  rw [h2] at hv'
  simp only [RH, Option.some.injEq, Prod.mk.injEq, DataW.held.injEq] at hv'
  rw [hrun, h1, hv'.1]
theorem MapV.miss {w : World} {b N : Nat} {f : Value → Option Value} {t : TypeId} (h : MapV P k w b N f) (K : Keyed P k) (ht : P.underlying t = some (.map k e)) {z0 : Value} (hz : (zeroValue e).run P w = .ok z0 w)
    {v : Value} {l : Lit} (hl : keyOf P k v = some l) (hv : f v = none) : (Instr.lookup t (.map (some b)) v true).run P w = .ok (.tuple #[z0, .bool false]) w := by
  obtain ⟨n, D, hown, _, _, hat⟩ := h
  have h1 := (hat v l hl).2 hv
  obtain ⟨v', ps, hrun, hv'⟩ := hown.look_ok K ht hz (zd := .held z0) (zp := []) rfl hl
  rw [atKey_of_not_has h1] at hv'
  simp only [RH, Option.some.injEq, Prod.mk.injEq, DataW.held.injEq] at hv'
  rw [hrun, h1, hv'.1]
noncomputable def putV (f : Value → Option Value) (v : Value) (z : Value) : Value → Option Value := fun u => if u = v then some z else f u
noncomputable def delV (f : Value → Option Value) (v : Value) : Value → Option Value := fun u => if u = v then none else f u
theorem MapV.store {w : World} {b N : Nat} {f : Value → Option Value} {t : TypeId} (h : MapV P k w b N f) (K : Keyed P k) (ht : P.underlying t = some (.map k e)) (hn : N < maxLen)
    {v : Value} {l : Lit} (hl : keyOf P k v = some l) (z : Value) :
    ∃ w', (Instr.mapUpdate t (.map (some b)) v z).run P w = .ok () w' ∧ MapV P k w' b (N + 1) (putV f v z) ∧ w.grownBy w' (some b) := by
  obtain ⟨n, D, hown, hle, hT, hat⟩ := h
  obtain ⟨w', hrun, hown', hg⟩ := hown.update (t := t) K ht (Nat.lt_of_le_of_lt hle hn) (val := z) (d := .held z) (ps := []) hl rfl
  refine ⟨w', hrun, ⟨n + 1, _, hown', by omega, hT.put (K.key hl) _, fun u lu hlu => ?_⟩, hg⟩
  by_cases huv : u = v
  · subst huv
    have : lu = l := by rw [hl] at hlu; exact (Option.some.inj hlu).symm
    subst this
    refine ⟨fun y hy => ?_, fun hy => ?_⟩
    · simp only [putV, if_pos, Option.some.injEq] at hy
      subst hy
      exact ⟨has_put_same hT.isMap (K.key hl) _, fun y => by rw [atKey_put_same hT.isMap (K.key hl)]⟩
    · simp [putV] at hy
  · have hne : lu ≠ l := by
      rintro rfl
      exact huv (K.inj hlu hl)
    obtain ⟨h1, h2⟩ := hat u lu hlu
    refine ⟨fun y hy => ?_, fun hy => ?_⟩
    · simp only [putV, if_neg huv] at hy
      obtain ⟨h3, h4⟩ := h1 y hy
      exact ⟨by rw [has_put_other hne]; exact h3, fun y => by rw [atKey_put_other hne]; exact h4 y⟩
    · simp only [putV, if_neg huv] at hy
      rw [has_put_other hne]
      exact h2 hy
theorem MapV.drop {w : World} {b N : Nat} {f : Value → Option Value} {t : TypeId} (h : MapV P k w b N f) (K : Keyed P k) (ht : P.underlying t = some (.map k e)) {v : Value} {l : Lit} (hl : keyOf P k v = some l) (ty : TypeId) :
    ∃ w', (Builtin.delete_ #[t, k] ty #[.map (some b), v]).run P w = .ok (.tuple #[]) w' ∧ MapV P k w' b N (delV f v) ∧ w.mapTurned w' b := by
  obtain ⟨n, D, hown, hle, hT, hat⟩ := h
  obtain ⟨w', hrun, hown', hg⟩ := hown.drop (t := t) K ht hl ty
  refine ⟨w', hrun, ⟨n, _, hown', hle, hT.del l, fun u lu hlu => ?_⟩, hg⟩
  by_cases huv : u = v
  · subst huv
    have : lu = l := by rw [hl] at hlu; exact (Option.some.inj hlu).symm
    subst this
    refine ⟨fun y hy => ?_, fun hy => has_del_same⟩
    simp [delV] at hy
  · have hne : lu ≠ l := by
      rintro rfl
      exact huv (K.inj hlu hl)
    obtain ⟨h1, h2⟩ := hat u lu hlu
    refine ⟨fun y hy => ?_, fun hy => ?_⟩
    · simp only [delV, if_neg huv] at hy
      obtain ⟨h3, h4⟩ := h1 y hy
      exact ⟨by rw [has_del_other hne]; exact h3, fun y => by rw [atKey_del_other hne]; exact h4 y⟩
    · simp only [delV, if_neg huv] at hy
      rw [has_del_other hne]
      exact h2 hy

/-- A range under way: the keys that are still to come. -/
def RgV (P : Program) (k : TypeId) (w : World) (b r N : Nat) (f : Value → Option Value) (left : Value → Prop) (cnt : Nat) : Prop :=
  ∃ (n : Nat) (D : DataW Value) (lf : Lit → Bool), w.ranges P k RH b r n D lf cnt ∧ n ≤ N ∧ AnsV P k D f ∧ ∀ v l, keyOf P k v = some l → (lf l = true ↔ left v)
theorem RgV.map {w : World} {b r N cnt : Nat} {f : Value → Option Value} {left : Value → Prop} (h : RgV P k w b r N f left cnt) : MapV P k w b N f := by
  obtain ⟨n, D, lf, h1, h2, h3, _⟩ := h
  exact ⟨n, D, h1.owns, h2, h3⟩
theorem RgV.kept {w w' : World} {b r N cnt : Nat} {f : Value → Option Value} {left : Value → Prop} {row : Option Nat} (h : RgV P k w b r N f left cnt) (hg : w.grownBy w' row) (hb : some b ≠ row) (hr : some r ≠ row) : RgV P k w' b r N f left cnt := by
  obtain ⟨n, D, lf, h1, h2⟩ := h
  exact ⟨n, D, lf, h1.kept hg hb hr, h2⟩
theorem MapV.range {w : World} {b N : Nat} {f : Value → Option Value} {t : TypeId} (h : MapV P k w b N f) (K : Keyed P k) (ht : P.underlying t = some (.map k e)) :
    ∃ w' cnt, (Instr.range t (.map (some b))).run P w = .ok (.pointer (some ⟨w.heap.size, 0, none⟩)) w' ∧ RgV P k w' b w.heap.size N f (fun v => f v ≠ none) cnt ∧ cnt ≤ N ∧ w.grownBy w' none ∧ w'.heap.size = w.heap.size + 1 := by
  obtain ⟨n, D, hown, hle, hA⟩ := h
  obtain ⟨w', hrun, h1, h2, h3⟩ := hown.range K ht
  refine ⟨w', _, hrun, ⟨n, D, _, h1, hle, hA, fun v l hl => ?_⟩, ?_, h2, h3⟩
  · obtain ⟨g1, g2⟩ := hA.2 v l hl
    cases hf : f v with
    | none => rw [g2 hf]; simp [hf]
    | some z => rw [(g1 z hf).1]; simp [hf]
  · obtain ⟨es, c, _, _, hes, rfl⟩ := hown
    simp only [Maps.size, length_sorted, List.length_map, Array.length_toList]
    omega
theorem RgV.next {w : World} {b r N cnt : Nat} {f : Value → Option Value} {left : Value → Prop} (h : RgV P k w b r N f left cnt) (K : Keyed P k) (ty : TypeId) :
    (cnt = 0 ∧ (∀ v l, keyOf P k v = some l → ¬ left v) ∧ (Instr.next (.pointer (some ⟨r, 0, none⟩)) false ty).run P w = .ok (.tuple #[.bool false]) w) ∨
    ∃ key v l w' cnt', keyOf P k key = some l ∧ left key ∧ f key = some v ∧ (Instr.next (.pointer (some ⟨r, 0, none⟩)) false ty).run P w = .ok (.tuple #[.bool true, key, v]) w' ∧
      RgV P k w' b r N f (fun u => left u ∧ u ≠ key) cnt' ∧ cnt' < cnt ∧ w.grownBy w' (some r) ∧ w'.heap.size = w.heap.size ∧ (Instr.entry (.pointer (some ⟨r, 0, none⟩))).run P w' = .ok (.tuple #[key, v]) w' := by
  obtain ⟨n, D, lf, h1, hle, hA, hl⟩ := h
  rcases h1.next K ty with ⟨h0, hno, hrun⟩ | ⟨key, v, kl, y, w', cnt', hkey, hlk, hv, hat, hrun, hrg, hlt, hgr, hsz, hen⟩
  · refine .inl ⟨h0, fun v l hv hlv => ?_, hrun⟩
    have := (hl v l hv).2 hlv
    rw [hno l] at this
    cases this
  · refine .inr ⟨key, v, kl, w', cnt', hkey, (hl key kl hkey).1 hlk, ?_, hrun, ⟨n, D, _, hrg, hle, hA, fun u l hu => ?_⟩, hlt, hgr, hsz, hen⟩
    · simp only [RH, Option.some.injEq] at hv
      subst hv
      obtain ⟨g1, g2⟩ := hA.2 key kl hkey
      cases hf : f key with
      | none =>
        have h3 := hat (.held v)
        have h4 := hat .nil
        rw [atKey_of_not_has (g2 hf)] at h4
        cases h4
      | some z =>
        have h3 := hat .nil
        rw [(g1 z hf).2] at h3
        simp only [DataW.held.injEq] at h3
        rw [h3]
    · have h5 : l.sameKey kl = true ↔ u = key := by
        constructor
        · intro hs
          have := WideAt.sameKey_eq hs
          subst this
          exact K.inj hu hkey
        · rintro rfl
          rw [hu] at hkey
          obtain rfl := Option.some.inj hkey
          exact WideAt.sameKey_self (K.key hu)
      simp only [Bool.and_eq_true, Bool.not_eq_true', (hl u l hu)]
      constructor
      · rintro ⟨h6, h7⟩
        exact ⟨h6, fun e => by rw [h5.2 e] at h7; cases h7⟩
      · rintro ⟨h6, h7⟩
        refine ⟨h6, ?_⟩
        cases hs : l.sameKey kl with
        | false => rfl
        | true => exact absurd (h5.1 hs) h7
end
end Go.Proofs.YtjgigcnjgblekaaDoor

namespace Go.Proofs.YtjgigcnjgblekaaDoor
open Go Go.RowKit

theorem dec_big {M : Nat} (h : M / 10 ≠ 0) : Lib.decDigits M = Lib.decDigits (M / 10) ++ [UInt8.ofNat (48 + M % 10)] := by
  rw [Lib.decDigits, dif_neg (by omega)]
theorem dec_small {M : Nat} (h : M / 10 = 0) : Lib.decDigits M = [UInt8.ofNat (48 + M % 10)] := by
  rw [Lib.decDigits, dif_pos (by omega), Nat.mod_eq_of_lt (by omega)]
theorem dec_ne (u : Nat) : 1 ≤ (Lib.decDigits u).length := by
  rw [Lib.decDigits]
  split
  · simp
  · simp
/-- Never more than twenty digits. -/
def num (n : Int) : List UInt8 := Lib.itoa n
def isDig (c : UInt8) : Prop := 48 ≤ c.toNat ∧ c.toNat ≤ 57
def Stop (r : List UInt8) : Prop := ∀ c q, r = c :: q → ¬ isDig c
theorem dig_of (k : Nat) (h : k < 10) : (UInt8.ofNat (48 + k)).toNat = 48 + k := by
  rw [UInt8.toNat_ofNat']
  omega
theorem dec_digs : ∀ (f u : Nat), u ≤ f → ∀ c ∈ Lib.decDigits u, isDig c
  | 0, u, h => by
    obtain rfl : u = 0 := by omega
    rw [dec_small (by omega)]
    intro c hc
    rw [List.mem_singleton.1 hc]
    unfold isDig
    rw [dig_of _ (by omega)]
    omega
  | f + 1, u, h => by
    have key : isDig (UInt8.ofNat (48 + u % 10)) := by
      unfold isDig
      rw [dig_of _ (by omega)]
      omega
    by_cases h0 : u / 10 = 0
    · rw [dec_small h0]
      intro c hc
      rw [List.mem_singleton.1 hc]
      exact key
    · rw [dec_big h0]
      intro c hc
      rcases List.mem_append.1 hc with hc | hc
      · exact dec_digs f (u / 10) (by omega) c hc
      · rw [List.mem_singleton.1 hc]
        exact key
theorem dec_inj : ∀ (f a b : Nat), a ≤ f → Lib.decDigits a = Lib.decDigits b → a = b
  | 0, a, b, h, e => by
    obtain rfl : a = 0 := by omega
    rw [dec_small (by omega)] at e
    by_cases h0 : b / 10 = 0
    · rw [dec_small h0] at e
      have := congrArg (fun l => l.map UInt8.toNat) e
      simp only [List.map_cons, List.map_nil, List.cons.injEq, and_true] at this
      rw [dig_of _ (by omega), dig_of _ (by omega)] at this
      omega
    · rw [dec_big h0] at e
      have h2 := dec_ne (b / 10)
      have := congrArg List.length e
      simp only [List.length_append, List.length_cons, List.length_nil] at this
      omega
  | f + 1, a, b, h, e => by
    by_cases ha : a / 10 = 0
    · rw [dec_small ha] at e
      by_cases h0 : b / 10 = 0
      · rw [dec_small h0] at e
        have := congrArg (fun l => l.map UInt8.toNat) e
        simp only [List.map_cons, List.map_nil, List.cons.injEq, and_true] at this
        rw [dig_of _ (by omega), dig_of _ (by omega)] at this
        omega
      · rw [dec_big h0] at e
        have h2 := dec_ne (b / 10)
        have := congrArg List.length e
        simp only [List.length_append, List.length_cons, List.length_nil] at this
        omega
    · rw [dec_big ha] at e
      by_cases h0 : b / 10 = 0
      · rw [dec_small h0] at e
        have h2 := dec_ne (a / 10)
        have := congrArg List.length e
        simp only [List.length_append, List.length_cons, List.length_nil] at this
        omega
      · rw [dec_big h0] at e
        obtain ⟨e1, e2⟩ := List.append_inj' e rfl
        have := dec_inj f (a / 10) (b / 10) (by omega) e1
        have h3 := congrArg (fun l => l.map UInt8.toNat) e2
        simp only [List.map_cons, List.map_nil, List.cons.injEq, and_true] at h3
        rw [dig_of _ (by omega), dig_of _ (by omega)] at h3
        omega
theorem digs_app : ∀ {d d' r r' : List UInt8}, (∀ c ∈ d, isDig c) → (∀ c ∈ d', isDig c) → Stop r → Stop r' → d ++ r = d' ++ r' → d = d' ∧ r = r'
  | [], [], _, _, _, _, _, _, e => ⟨rfl, e⟩
  | [], c :: d', r, r', _, h', hr, _, e => absurd (h' c (List.mem_cons_self ..)) (hr c (d' ++ r') e)
  | c :: d, [], r, r', h, _, _, hr, e => absurd (h c (List.mem_cons_self ..)) (hr c (d ++ r) e.symm)
  | c :: d, c' :: d', r, r', h, h', hr, hr', e => by
    simp only [List.cons_append, List.cons.injEq] at e
    obtain ⟨e1, e2⟩ := digs_app (fun x hx => h x (List.mem_cons_of_mem _ hx)) (fun x hx => h' x (List.mem_cons_of_mem _ hx)) hr hr' e.2
    exact ⟨by rw [e.1, e1], e2⟩
theorem dec_ne_nil (u : Nat) : Lib.decDigits u ≠ [] := fun h => by have := dec_ne u; rw [h] at this; simp at this
theorem num_neg {n : Int} (h : n < 0) : num n = 45 :: Lib.decDigits n.natAbs := by unfold num Lib.itoa; rw [if_pos h]
theorem num_pos {n : Int} (h : ¬ n < 0) : num n = Lib.decDigits n.toNat := by unfold num Lib.itoa; rw [if_neg h]
theorem dec_head (u : Nat) : ∃ c q, Lib.decDigits u = c :: q ∧ isDig c := by
  cases hd : Lib.decDigits u with
  | nil => exact absurd hd (dec_ne_nil u)
  | cons c q => exact ⟨c, q, rfl, dec_digs u u (Nat.le_refl _) c (by rw [hd]; exact List.mem_cons_self ..)⟩
/-- A number is read back, where no digit stands behind it. -/
theorem num_app {a b : Int} {r r' : List UInt8} (hr : Stop r) (hr' : Stop r') (e : num a ++ r = num b ++ r') : a = b ∧ r = r' := by
  by_cases ha : a < 0
  · rw [num_neg ha] at e
    by_cases hb : b < 0
    · rw [num_neg hb] at e
      simp only [List.cons_append, List.cons.injEq, true_and] at e
      obtain ⟨e1, e2⟩ := digs_app (dec_digs _ _ (Nat.le_refl _)) (dec_digs _ _ (Nat.le_refl _)) hr hr' e
      have := dec_inj _ _ _ (Nat.le_refl _) e1
      exact ⟨by omega, e2⟩
    · rw [num_pos hb] at e
      obtain ⟨c, q, hc, hd⟩ := dec_head b.toNat
      rw [hc] at e
      simp only [List.cons_append, List.cons.injEq] at e
      rw [← e.1] at hd
      exact absurd hd (by unfold isDig; decide)
  · rw [num_pos ha] at e
    by_cases hb : b < 0
    · rw [num_neg hb] at e
      obtain ⟨c, q, hc, hd⟩ := dec_head a.toNat
      rw [hc] at e
      simp only [List.cons_append, List.cons.injEq] at e
      rw [e.1] at hd
      exact absurd hd (by unfold isDig; decide)
    · rw [num_pos hb] at e
      obtain ⟨e1, e2⟩ := digs_app (dec_digs _ _ (Nat.le_refl _)) (dec_digs _ _ (Nat.le_refl _)) hr hr' e
      have := dec_inj _ _ _ (Nat.le_refl _) e1
      exact ⟨by omega, e2⟩
theorem stop_cons {c : UInt8} {q : List UInt8} (h : ¬ isDig c) : Stop (c :: q) := by
  intro c' q' e
  simp only [List.cons.injEq] at e
  rw [← e.1]; exact h
theorem stop_nil : Stop [] := by intro c q e; cases e
/-- A number's first byte. -/
theorem num_head (n : Int) : ∃ c q, num n = c :: q ∧ (c = 45 ∨ isDig c) := by
  by_cases h : n < 0
  · exact ⟨45, _, num_neg h, .inl rfl⟩
  · obtain ⟨c, q, e, hd⟩ := dec_head n.toNat
    exact ⟨c, q, by rw [num_pos h, e], .inr hd⟩

end Go.Proofs.YtjgigcnjgblekaaDoor

namespace Go.Proofs.YtjgigcnjgblekaaDoor
open Go Go.RowKit

/-- An act: a rule, its constants' ids. -/
structure Ac where
  rule : Int
  sub : List Int
/-- An act's key. -/
def subT : List Int → List UInt8
  | [] => []
  | i :: r => 32 :: (num i ++ subT r)
def keyT (a : Ac) : List UInt8 := num a.rule ++ subT a.sub
theorem subT_stop (l : List Int) : Stop (subT l) := by
  cases l with
  | nil => exact stop_nil
  | cons i r => exact stop_cons (by unfold isDig; decide)
theorem subT_inj : ∀ {l l' : List Int}, subT l = subT l' → l = l'
  | [], [], _ => rfl
  | [], i :: r, e => by simp [subT] at e
  | i :: r, [], e => by simp [subT] at e
  | i :: r, i' :: r', e => by
    simp only [subT, List.cons.injEq, true_and] at e
    obtain ⟨e1, e2⟩ := num_app (subT_stop r) (subT_stop r') e
    rw [e1, subT_inj e2]
theorem keyT_inj {a b : Ac} (h : keyT a = keyT b) : a = b := by
  obtain ⟨ar, as⟩ := a
  obtain ⟨br, bs⟩ := b
  obtain ⟨e1, e2⟩ := num_app (subT_stop as) (subT_stop bs) (show num ar ++ subT as = num br ++ subT bs from h)
  have e3 := subT_inj e2
  subst e1 e3
  rfl
theorem subT_app (l : List Int) (i : Int) : subT (l ++ [i]) = subT l ++ (32 :: num i) := by
  induction l with
  | nil => simp [subT]
  | cons j r ih => simp only [List.cons_append, subT, ih, List.append_assoc]
theorem subT_take {l : List Int} {k : Nat} {i : Int} (h : l[k]? = some i) : subT (l.take (k + 1)) = subT (l.take k) ++ (32 :: num i) := by
  rw [List.take_add_one, h]
  exact subT_app _ _
end Go.Proofs.YtjgigcnjgblekaaDoor
