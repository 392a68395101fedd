/- Owned rows, each written over by a mark of its own, and then grown by one more. Over any program. -/
import Derived.Test.YtblonickpmogiaaTurns
import Derived.Test.YtblonickpmogiaaKeep
import Derived.Deep.MidRow
import Derived.Laws.OwnMore
namespace Go.Proofs.Ytblonickpmogiaa
open Go.RowKit

/-- v owns n elements, of which the first i are M. -/
def Mk (w : World) (base : Nat) (e : TypeId) (sz : Nat) (v : Value) (n : Nat) (M : List Value) (i : Nat) : Prop :=
  ∃ xs, w.ownsRow base e sz v n xs ∧ ∀ t q, t < i → q < sz → xs[t * sz + q]? = M[q]?
/-- v's first n elements are M, to be read. -/
def Rd (w : World) (v : Value) (n sz : Nat) (M : List Value) : Prop :=
  ∀ g a c, v = .slice (some ⟨g, 0, none⟩) a c → g < w.heap.size ∧ ∀ t q u, t < n → M[q]? = some u → w.cell? ⟨g, t * sz + q, none⟩ = some u

section
variable {w w' : World} {base : Nat} {e : TypeId} {sz : Nat} {v : Value} {n : Nat} {M : List Value} {i : Nat}

theorem Mk.turns (h : Mk w base e sz v n M i) {S : List Nat} (ht : Turns S w w') (hs : ∀ b, v.ownBlock = some b → b ∉ S) : Mk w' base e sz v n M i := by
  obtain ⟨xs, h1, h2⟩ := h
  exact ⟨xs, ownsRow_turns h1 ht hs, h2⟩
theorem Rd.turns (h : Rd w v n sz M) {S : List Nat} (ht : Turns S w w') (hs : ∀ b, v.ownBlock = some b → b ∉ S) : Rd w' v n sz M := by
  rintro g a c rfl
  obtain ⟨h1, h2⟩ := h g a c rfl
  refine ⟨Nat.lt_of_lt_of_le h1 ht.size, fun t q u hq hu => ?_⟩
  rw [ht.cell h1 (hs g rfl)]
  exact h2 t q u hq hu
theorem place_lt {t q n sz : Nat} (ht : t < n) (hq : q < sz) : t * sz + q < n * sz := by
  have := Nat.mul_le_mul_right sz (show t + 1 ≤ n from ht)
  rw [Nat.add_mul, Nat.one_mul] at this
  omega
theorem own_rd {g a c : Nat} {xs : List Value} (h : w.ownsRow base e sz (.slice (some ⟨g, 0, none⟩) a c) n xs) (hn : a = n) (hx : ∀ t q, t < i → q < sz → xs[t * sz + q]? = M[q]?) (hi : i ≤ n) (hM : M.length = sz) :
    g < w.heap.size ∧ ∀ t q u, t < i → M[q]? = some u → w.cell? ⟨g, t * sz + q, none⟩ = some u := by
  subst hn
  refine ⟨(ownBlock_cells h rfl).2.1, fun t q u ht hu => ?_⟩
  have hq : q < sz := by rw [← hM]; exact (List.getElem?_eq_some_iff.1 hu).1
  rw [h.cellAt _ (place_lt (by omega) hq), hx t q ht hq, hu]
theorem own_lenM {g a c : Nat} {xs : List Value} (h : w.ownsRow base e sz (.slice (some ⟨g, 0, none⟩) a c) n xs) : a = n := by
  rcases h.2 with ⟨h', _⟩ | ⟨g', cap', cur, h', _⟩
  · simp at h'
  · simp only [Value.slice.injEq] at h'
    exact h'.2.1
theorem Mk.rd (h : Mk w base e sz v n M n) (hM : M.length = sz) : Rd w v n sz M := by
  rintro g a c rfl
  obtain ⟨xs, h1, h2⟩ := h
  exact own_rd h1 (own_lenM h1) h2 (Nat.le_refl _) hM

theorem own_setCells {g cap : Nat} : ∀ (vs : List Value) (o : Nat) (w : World) (xs : List Value), w.ownsRow base e sz (.slice (some ⟨g, 0, none⟩) n cap) n xs →
    ∃ ys, (w.setCells g o vs).ownsRow base e sz (.slice (some ⟨g, 0, none⟩) n cap) n ys ∧ (∀ j, (j < o ∨ o + vs.length ≤ j) → ys[j]? = xs[j]?) ∧ (∀ j, j < vs.length → o + j < xs.length → ys[o + j]? = vs[j]?) ∧ Turns [g] w (w.setCells g o vs)
  | [], _, w, xs, h => ⟨xs, h, fun _ _ => rfl, fun j hj => by simp at hj, Turns.refl _ _⟩
  | v :: r, o, w, xs, h => by
    obtain ⟨h1, h2⟩ := h.stored o v
    obtain ⟨ys, y1, y2, y3, y4⟩ := own_setCells r (o + 1) (w.setCell ⟨g, o, none⟩ v) _ h1
    refine ⟨ys, y1, fun j hj => ?_, fun j hj hl => ?_, (Turns.of_grown h2).trans y4 (fun x hx => .inl (by simpa using hx))⟩
    · rw [y2 j (by simp only [List.length_cons] at hj; omega), List.getElem?_set_ne (by simp only [List.length_cons] at hj; omega)]
    · match j with
      | 0 =>
        rw [Nat.add_zero] at hl ⊢
        rw [y2 o (by omega), List.getElem?_set_self hl]
        rfl
      | j + 1 =>
        have := y3 j (by simpa using hj) (by rw [List.length_set]; omega)
        rw [show o + (j + 1) = o + 1 + j by omega, this]
        rfl

theorem Mk.there {g a cap : Nat} (h : Mk w base e sz (.slice (some ⟨g, 0, none⟩) a cap) n M i) (hi : i < n) : w.there g (i * sz) sz := by
  obtain ⟨xs, h1, _⟩ := h
  obtain rfl := own_lenM h1
  intro j hj
  refine ⟨?_, h1.frozenAt _⟩
  rw [h1.cellAt _ (place_lt hi hj), List.getElem?_eq_getElem (by rw [h1.1]; exact place_lt hi hj)]
  rfl
theorem Mk.store {g a cap : Nat} (h : Mk w base e sz (.slice (some ⟨g, 0, none⟩) a cap) n M i) (hi : i < n) (hM : M.length = sz) :
    Mk (w.setCells g (i * sz) M) base e sz (.slice (some ⟨g, 0, none⟩) a cap) n M (i + 1) ∧ Turns [g] w (w.setCells g (i * sz) M) := by
  obtain ⟨xs, h1, h2⟩ := h
  obtain rfl := own_lenM h1
  obtain ⟨ys, y1, y2, y3, y4⟩ := own_setCells M (i * sz) w xs h1
  refine ⟨⟨ys, y1, fun t q ht hq => ?_⟩, y4⟩
  by_cases hti : t < i
  · rw [y2 _ (.inl (place_lt hti hq)), h2 t q hti hq]
  · obtain rfl : t = i := by omega
    exact y3 q (by omega) (by rw [h1.1]; exact place_lt hi hq)
end

/-- The rows: at different blocks, all old, all in S. -/
structure RowSet (S : List Nat) (H : Nat) (vs : List Value) : Prop where
  apart : ∀ (i j : Nat) (vi vj : Value) (b : Nat), vs[i]? = some vi → vs[j]? = some vj → vi.ownBlock = some b → vj.ownBlock = some b → i = j
  old : ∀ (j : Nat) (v : Value) (b : Nat), vs[j]? = some v → v.ownBlock = some b → b < H
  ins : ∀ (j : Nat) (v : Value) (b : Nat), vs[j]? = some v → v.ownBlock = some b → b ∈ S

/-- Rows ahead of k are written over, of row k the first i. -/
def St1 (w : World) (base : Nat) (e : TypeId) (sz : Nat) (vs : List Value) (n : Nat → Nat) (M : Nat → List Value) (k i : Nat) : Prop :=
  ∀ j v, vs[j]? = some v → Mk w base e sz v (n j) (M j) (if j < k then n j else if j = k then i else 0)

section
variable {w w' : World} {base : Nat} {e : TypeId} {sz : Nat} {vs : List Value} {n : Nat → Nat} {M : Nat → List Value} {k i : Nat} {S : List Nat} {H : Nat}

theorem St1.start (h : ∀ j v, vs[j]? = some v → ∃ xs, w.ownsRow base e sz v (n j) xs) : St1 w base e sz vs n M 0 0 := by
  intro j v hv
  obtain ⟨xs, hx⟩ := h j v hv
  refine ⟨xs, hx, fun t q ht => ?_⟩
  split at ht
  · omega
  · split at ht <;> omega
theorem St1.next (h : St1 w base e sz vs n M k (n k)) : St1 w base e sz vs n M (k + 1) 0 := by
  intro j v hv
  have := h j v hv
  by_cases h1 : j < k
  · rw [if_pos h1] at this; rw [if_pos (by omega)]; exact this
  · by_cases h2 : j = k
    · subst h2; rw [if_neg h1, if_pos rfl] at this; rw [if_pos (by omega)]; exact this
    · rw [if_neg h1, if_neg h2] at this
      rw [if_neg (by omega)]
      split <;> exact this
theorem St1.below (h : St1 w base e sz vs n M k i) (hb : Below w.heap.size w w') : St1 w' base e sz vs n M k i :=
  fun j v hv => (h j v hv).turns (Turns.of_below (S := []) hb) (fun _ _ => by simp)
theorem St1.store {g cap : Nat} (h : St1 w base e sz vs n M k i) (hr : RowSet S H vs) (hk : vs[k]? = some (.slice (some ⟨g, 0, none⟩) (n k) cap)) (hi : i < n k) (hM : (M k).length = sz) :
    St1 (w.setCells g (i * sz) (M k)) base e sz vs n M k (i + 1) ∧ Turns [g] w (w.setCells g (i * sz) (M k)) := by
  have h0 := h k _ hk
  rw [if_neg (by omega), if_pos rfl] at h0
  obtain ⟨h1, h2⟩ := h0.store hi hM
  refine ⟨fun j v hv => ?_, h2⟩
  by_cases hj : j = k
  · subst hj
    rw [hk] at hv
    obtain rfl := Option.some.inj hv
    rw [if_neg (by omega), if_pos rfl]
    exact h1
  · have := (h j v hv).turns h2 (fun b hb hm => by
      have e1 : b = g := by simpa using hm
      exact hj (hr.apart j k v _ b hv hk hb (by rw [e1]; rfl)))
    rw [if_neg hj] at this
    rw [if_neg hj]
    exact this
theorem St1.full (h : St1 w base e sz vs n M vs.length 0) : ∀ j v, vs[j]? = some v → Mk w base e sz v (n j) (M j) (n j) := by
  intro j v hv
  have := h j v hv
  rwa [if_pos (List.getElem?_eq_some_iff.1 hv).1] at this

/-- Behind: rows from K on are owned; the grown rows ms; the list of the grown ones: m elements, l. -/
structure St2 (w : World) (base : Nat) (e eS : TypeId) (sz : Nat) (H : Nat) (vs : List Value) (n : Nat → Nat) (M : Nat → List Value) (mv : Value) (m : Nat) (l : List Value) (K : Nat) (ms : List Value) : Prop where
  more : w.ownsRow H eS 1 mv m l
  own : ∀ j v, K ≤ j → vs[j]? = some v → Mk w base e sz v (n j) (M j) (n j)
  rd : ∀ j v, vs[j]? = some v → Rd w v (n j) sz (M j)
  mrd : ∀ j v, ms[j]? = some v → ∃ g cap, v = .slice (some ⟨g, 0, none⟩) (n j + 1) cap ∧ Rd w v (n j + 1) sz (M j) ∧ mv.ownBlock ≠ some g ∧ ∀ j' v', K ≤ j' → vs[j']? = some v' → v'.ownBlock ≠ some g

variable {eS : TypeId} {mv : Value} {m : Nat} {l ms : List Value} {K : Nat}

theorem St2.start (h : St1 w base e sz vs n M vs.length 0) (hM : ∀ j, (M j).length = sz) : St2 w base e eS sz H vs n M (.slice none 0 0) 0 [] 0 [] where
  more := ⟨rfl, .inl ⟨rfl, rfl⟩⟩
  own j v _ hv := h.full j v hv
  rd j v hv := (h.full j v hv).rd (hM j)
  mrd j v hv := by simp at hv
theorem St2.below (h : St2 w base e eS sz H vs n M mv m l K ms) (hb : Below w.heap.size w w') : St2 w' base e eS sz H vs n M mv m l K ms where
  more := ownsRow_turns h.more (Turns.of_below (S := []) hb) (fun _ _ => by simp)
  own j v hj hv := (h.own j v hj hv).turns (Turns.of_below (S := []) hb) (fun _ _ => by simp)
  rd j v hv := (h.rd j v hv).turns (Turns.of_below (S := []) hb) (fun _ _ => by simp)
  mrd j v hv := by
    obtain ⟨g, cap, h1, h2, h3, h4⟩ := h.mrd j v hv
    exact ⟨g, cap, h1, h2.turns (Turns.of_below (S := []) hb) (fun _ _ => by simp), h3, h4⟩

/-- Row K is grown. -/
theorem St2.grow1 (h : St2 w base e eS sz H vs n M mv m l K ms) (hr : RowSet S H vs) (hl : ms.length = K) (hM : ∀ j, (M j).length = sz) (hH : H ≤ w.heap.size) {v : Value} (hv : vs[K]? = some v) {xs : List Value}
    (hx : ∀ t q, t < n K → q < sz → xs[t * sz + q]? = (M K)[q]?) (hxl : xs.length = n K * sz) {g cap : Nat}
    (hown : w'.ownsRow base e sz (.slice (some ⟨g, 0, none⟩) (n K + 1) cap) (n K + 1) (xs ++ M K)) (hg : w.grownBy w' v.ownBlock) (hat : v.ownBlock = some g ∨ g = w.heap.size ∧ w.grownBy w' none) :
    St2 w' base e eS sz H vs n M mv m l (K + 1) (ms ++ [.slice (some ⟨g, 0, none⟩) (n K + 1) cap]) := by
  have T := Turns.of_grown hg
  have hmv : ∀ b, mv.ownBlock = some b → H ≤ b := fun b hb => (ownBlock_cells h.more hb).1
  have hall : ∀ t q, t < n K + 1 → q < sz → (xs ++ M K)[t * sz + q]? = (M K)[q]? := by
    intro t q ht hq
    by_cases htn : t < n K
    · rw [List.getElem?_append_left (by rw [hxl]; exact place_lt htn hq), hx t q htn hq]
    · obtain rfl : t = n K := by omega
      rw [List.getElem?_append_right (by omega), hxl, Nat.add_sub_cancel_left]
  constructor
  · refine ownsRow_turns h.more T (fun b hb hm => ?_)
    have h1 := hmv b hb
    have h2 := hr.old K v b hv (by simpa using hm)
    omega
  · intro j v' hj hv'
    refine (h.own j v' (by omega) hv').turns T (fun b hb hm => ?_)
    have := hr.apart j K v' v b hv' hv hb (by simpa using hm)
    omega
  · intro j v' hv'
    by_cases hj : j = K
    · subst hj
      rw [hv] at hv'
      obtain rfl := Option.some.inj hv'
      rcases hat with hat | ⟨hat, hg0⟩
      · rintro g' a c rfl
        obtain rfl : g' = g := by simpa [Value.ownBlock] using hat
        exact ⟨(ownBlock_cells hown rfl).2.1, fun t q u ht hu => (own_rd hown rfl hall (Nat.le_refl _) (hM j)).2 t q u (by omega) hu⟩
      · exact (h.rd j v hv).turns (Turns.of_grown hg0) (fun _ _ => by simp)
    · exact (h.rd j v' hv').turns T (fun b hb hm => hj (hr.apart j K v' v b hv' hv hb (by simpa using hm)))
  · intro j v' hv'
    by_cases hj : j < ms.length
    · rw [List.getElem?_append_left hj] at hv'
      obtain ⟨g', cap', rfl, h2, h3, h4⟩ := h.mrd j v' hv'
      refine ⟨g', cap', rfl, h2.turns T (fun b hb hm => ?_), h3, fun j' u hj' hu => h4 j' u (by omega) hu⟩
      have e1 : g' = b := by simpa [Value.ownBlock] using hb
      exact h4 K v (Nat.le_refl _) hv (by rw [e1]; simpa using hm)
    · have hj2 : j < (ms ++ [Value.slice (some ⟨g, 0, none⟩) (n K + 1) cap]).length := (List.getElem?_eq_some_iff.1 hv').1
      obtain rfl : j = K := by simp at hj2; omega
      rw [List.getElem?_append_right (by omega), hl, Nat.sub_self] at hv'
      obtain rfl : _ = v' := by simpa using hv'
      refine ⟨g, cap, rfl, ?_, fun hb => ?_, fun j' u hj' hu hb => ?_⟩
      · rintro g' a c hgg
        simp only [Value.slice.injEq, Option.some.injEq, Addr.mk.injEq, and_true] at hgg
        obtain ⟨rfl, rfl, rfl⟩ := hgg
        exact own_rd hown rfl hall (Nat.le_refl _) (hM j)
      · have h1 := hmv g hb
        rcases hat with hat | ⟨hat, _⟩
        · have := hr.old j v g hv hat; omega
        · have := (ownBlock_cells h.more hb).2.1; omega
      · rcases hat with hat | ⟨hat, _⟩
        · have := hr.apart j' j u v g hu hv hb hat; omega
        · have := hr.old j' u g hu hb; omega

/-- The list of the grown ones takes one more. -/
theorem St2.grow2 (h : St2 w base e eS sz H vs n M mv m l K ms) (hr : RowSet S H vs) {g cap m' : Nat} {l' : List Value}
    (hown : w'.ownsRow H eS 1 (.slice (some ⟨g, 0, none⟩) m' cap) m' l') (hg : w.grownBy w' mv.ownBlock) (hat : mv.ownBlock = some g ∨ g = w.heap.size ∧ w.grownBy w' none) :
    St2 w' base e eS sz H vs n M (.slice (some ⟨g, 0, none⟩) m' cap) m' l' K ms := by
  have T := Turns.of_grown hg
  have hfar : ∀ (j : Nat) (v : Value) (b : Nat), vs[j]? = some v → v.ownBlock = some b → b ∉ mv.ownBlock.toList := by
    intro j v b hv hb hm
    have h1 := (ownBlock_cells h.more (by simpa using hm)).1
    have h2 := hr.old j v b hv hb
    omega
  refine ⟨hown, fun j v hj hv => (h.own j v hj hv).turns T (fun b hb => hfar j v b hv hb), fun j v hv => (h.rd j v hv).turns T (fun b hb => hfar j v b hv hb), fun j v hv => ?_⟩
  obtain ⟨g', cap', rfl, h2, h3, h4⟩ := h.mrd j v hv
  refine ⟨g', cap', rfl, h2.turns T (fun b hb hm => ?_), fun hb => ?_, h4⟩
  · have e1 : g' = b := by simpa [Value.ownBlock] using hb
    exact h3 (by rw [e1]; simpa using hm)
  · have e1 : g = g' := by simpa [Value.ownBlock] using hb
    subst e1
    rcases hat with hat | ⟨hat, _⟩
    · exact h3 hat
    · have := (h2 g _ _ rfl).1; omega
end
end Go.Proofs.Ytblonickpmogiaa
