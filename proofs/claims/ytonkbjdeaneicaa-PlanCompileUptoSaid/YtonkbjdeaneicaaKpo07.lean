/- Lists of the call's own that grow by one element at a time, the elements with lists in them. Over any program. slices.IndexFunc, slices.ContainsFunc at slots, for each of the program's three closures; below. -/
import Derived.Test.YtonkbjdeaneicaaKpo01
import Derived.Test.YtonkbjdeaneicaaKpo02
import Derived.Test.YtonkbjdeaneicaaKpo04
import Derived.Test.YtonkbjdeaneicaaKpo06
namespace Go.Proofs.Ytonkbjdeaneicaa
open Go Go.RowKit

/-- The new blocks but for the row's own. -/
def New (B : Nat) (v : Value) : Nat → Prop := fun b => B ≤ b ∧ v.ownBlock ≠ some b

/-- How an element is told: by its cells, in a world, its lists in blocks of F. -/
structure Cdc (α : Type) where
  E : (Nat → Prop) → World → List Value → α → Prop
  sz : Nat
  len : ∀ F w cs x, E F w cs x → cs.length = sz
  kp : ∀ F F' w w' cs x, E F w cs x → Kp F w w' → (∀ b, b < w.heap.size → F b → F' b) → E F' w' cs x
  one : ∀ F w cs x, E F w cs x → ∀ u ∈ cs, u.oneCell' = true

/-- v is a row of the call's own with the elements xs. -/
def OwnL {α : Type} (B : Nat) (w : World) (e : TypeId) (C : Cdc α) (v : Value) (xs : List α) : Prop :=
  ∃ cells, w.ownsRow B e C.sz v xs.length cells ∧ ∀ i x, xs[i]? = some x → ∃ cs, C.E (New B v) w cs x ∧ ∀ j u, cs[j]? = some u → cells[i * C.sz + j]? = some u

section
variable {α : Type} {B : Nat} {w w' : World} {e : TypeId} {C : Cdc α} {v : Value} {xs : List α}
theorem OwnL.nil : OwnL B w e C (.slice none 0 0) [] := ⟨[], World.ownsRow_nil _ _ _ _, fun i x h => by simp at h⟩
theorem OwnL.form (h : OwnL B w e C v xs) : ∃ A c, v = .slice A xs.length c := by
  obtain ⟨cells, h1, _⟩ := h
  rcases h1.2 with ⟨rfl, h0⟩ | ⟨g, cap, cur, rfl, _⟩
  · exact ⟨none, 0, by rw [h0]⟩
  · exact ⟨_, cap, rfl⟩
theorem OwnL.block (h : OwnL B w e C v xs) {b : Nat} (hb : v.ownBlock = some b) : B ≤ b ∧ b < w.heap.size := by
  obtain ⟨cells, h1, _⟩ := h
  obtain ⟨h2, h3, _⟩ := ownBlock_cells h1 hb
  exact ⟨h2, h3⟩
theorem OwnL.turns (h : OwnL B w e C v xs) {S : List Nat} (ht : Turns S w w') (hs : ∀ b, v.ownBlock = some b → b ∉ S) (hS : ∀ b ∈ S, ¬ New B v b) : OwnL B w' e C v xs := by
  obtain ⟨cells, h1, h2⟩ := h
  refine ⟨cells, ownsRow_turns h1 ht hs, fun i x hx => ?_⟩
  obtain ⟨cs, c1, c2⟩ := h2 i x hx
  exact ⟨cs, C.kp _ _ _ _ _ _ c1 (Kp.of_turns ht hS) (fun _ _ h => h), c2⟩
theorem OwnL.below (h : OwnL B w e C v xs) (hb : Below w.heap.size w w') : OwnL B w' e C v xs :=
  h.turns (S := []) (Turns.of_below hb) (fun _ _ => by simp) (by simp)
/-- To be read. -/
theorem OwnL.rsl (h : OwnL B w e C v xs) {F : Nat → Prop} (hF : ∀ b, v.ownBlock = some b → F b) : RSl F w C.sz (C.E (New B v) w) v xs := by
  obtain ⟨cells, h1, h2⟩ := h
  exact RSl.of_own h1 rfl hF h2
theorem OwnL.rsl' (h : OwnL B w e C v xs) {F : Nat → Prop} (hF : ∀ b, B ≤ b → b < w.heap.size → F b) : RSl F w C.sz (C.E F w) v xs :=
  (h.rsl (fun b hb => hF b (h.block hb).1 (h.block hb).2)).kp (Kp.refl _ _) (fun _ _ h => h) (fun _cs _x hc => C.kp _ _ _ _ _ _ hc (Kp.refl _ _) (fun b hb hn => hF b hn.1 hb))
theorem OwnL.grow (_h : OwnL B w e C v xs) {x : α} {cs : List Value} (hel : C.E (New B v) w cs x) {g cap : Nat} {cells : List Value} (hg : w.grownBy w' v.ownBlock) (hat : v.ownBlock = some g ∨ w.heap.size ≤ g)
    (h2 : ∀ i x, xs[i]? = some x → ∃ cs, C.E (New B v) w cs x ∧ ∀ j u, cs[j]? = some u → cells[i * C.sz + j]? = some u) (hcl : cells.length = xs.length * C.sz)
    (hown : w'.ownsRow B e C.sz (.slice (some ⟨g, 0, none⟩) (xs.length + 1) cap) (xs.length + 1) (cells ++ cs)) : OwnL B w' e C (.slice (some ⟨g, 0, none⟩) (xs.length + 1) cap) (xs ++ [x]) := by
  have K : Kp (New B v) w w' := Kp.of_turns (Turns.of_grown hg) (fun b hb hn => hn.2 (by simpa using hb))
  have hF : ∀ b, b < w.heap.size → New B v b → New B (.slice (some ⟨g, 0, none⟩) (xs.length + 1) cap) b := by
    intro b hb hn
    refine ⟨hn.1, fun e => ?_⟩
    obtain rfl : g = b := by simpa [Value.ownBlock] using e
    rcases hat with hat | hat
    · exact hn.2 hat
    · omega
  refine ⟨cells ++ cs, by simpa using hown, fun i y hy => ?_⟩
  rcases Nat.lt_or_ge i xs.length with hlt | hge
  · rw [List.getElem?_append_left hlt] at hy
    obtain ⟨ds, d1, d2⟩ := h2 i y hy
    refine ⟨ds, C.kp _ _ _ _ _ _ d1 K hF, fun j u hu => ?_⟩
    have hj : j < C.sz := by rw [← C.len _ _ _ _ d1]; exact (List.getElem?_eq_some_iff.1 hu).1
    have hlt2 : i * C.sz + j < cells.length := by
      rw [hcl]
      have := Nat.mul_le_mul_right C.sz (show i + 1 ≤ xs.length from hlt)
      rw [Nat.add_mul, Nat.one_mul] at this
      omega
    rw [List.getElem?_append_left hlt2]
    exact d2 j u hu
  · have hl := (List.getElem?_eq_some_iff.1 hy).1
    simp at hl
    obtain rfl : i = xs.length := by omega
    rw [List.getElem?_append_right (Nat.le_refl _), Nat.sub_self] at hy
    simp at hy
    subst hy
    refine ⟨cs, C.kp _ _ _ _ _ _ hel K hF, fun j u hu => ?_⟩
    rw [List.getElem?_append_right (by omega), hcl, Nat.add_sub_cancel_left]
    exact hu

/-- One more, out of a new block of one element. -/
theorem wpList_append_L {P : Program} {ops : Array Oper} {rest : List Oper} {o : Oper} {a : Act} {Q : Exit → Act → World → Prop} (h : OwnL B w e C v xs) (hgd : o.guard = none) (s q : Operand) (t : TypeId)
    (ho : o.op = .call { callee := .builtin .append, args := #[s, q], argTypes := #[t, t] }) {z : Value} {bytes c H : Nat} (ht : P.underlying t = some (.slice e)) (hi : (P.info? e).map (fun i => (i.zero, i.size, i.bytes)) = some (some z, C.sz, bytes))
    (hzs : z.cells.size = C.sz) (hsz : 0 < C.sz) (hs : a.eval s = v) (ncs : Array Value) (T : TypeId) (hq : a.eval q = .slice (some ⟨H, 0, none⟩) 1 c) (hH : w.heap.size = H)
    {x : α} (hel : C.E (New B v) w ncs.toList x) (hn : xs.length ≤ 40000000) (hb : bytes ≤ 1000) (hB : B ≤ w.heap.size)
    (k : ∀ g cap w', OwnL B w' e C (.slice (some ⟨g, 0, none⟩) (xs.length + 1) cap) (xs ++ [x]) → Turns v.ownBlock.toList w w' → (v.ownBlock = some g ∨ w.heap.size ≤ g) → g < w'.heap.size →
      wpList P ops Q rest (a.put o.dst (.slice (some ⟨g, 0, none⟩) (xs.length + 1) cap)) w') : wpList P ops Q (o :: rest) a (w.alloc (.cells ncs T)) := by
  subst hH
  obtain ⟨i0, hi0, hz0, hz1, hz2⟩ := info_parts hi
  have hA := h.below ((Below.refl w.heap.size w).alloc (Nat.le_refl _) (.cells ncs T))
  obtain ⟨cells, h1, h2⟩ := hA
  have helA := C.kp _ _ _ _ _ _ hel (Kp.of_below ((Below.refl w.heap.size w).alloc (Nat.le_refl _) (.cells ncs T))) (fun _ _ h => h)
  have hln := C.len _ _ _ _ hel
  have hone := C.one _ _ _ _ hel
  refine wpList_append1s (w.alloc (.cells ncs T)) hgd s q t ho B e i0 z C.sz bytes ht hi0 hz0 hz1 hz2 hzs hsz v xs.length cells hs h1 ⟨w.heap.size, 0, none⟩ c ncs.toList hq (by rw [hln, Nat.one_mul]) ?_ hone hn hb (by simp; omega) _ rfl ?_
  · exact World.news_of_block (heap_alloc_new w (.cells ncs T))
  · intro g cap w' hown hgrow hat hlt
    have T1 : Turns v.ownBlock.toList w w' := (((Turns.refl [] w).alloc (.cells ncs T)).mono (by simp)).trans (Turns.of_grown hgrow) (fun x hx => .inl hx)
    have hat2 : v.ownBlock = some g ∨ (w.alloc (.cells ncs T)).heap.size ≤ g := by
      rcases hat with h | h
      · exact .inl h
      · exact .inr (by omega)
    exact k g cap w' (OwnL.grow ⟨cells, h1, h2⟩ helA hgrow hat2 h2 h1.1 hown) T1 (by rcases hat2 with h | h; exact .inl h; exact .inr (by simp at h; omega)) hlt
end

/-- v is a row of the call's own with the elements xs, whose lists lie in blocks of F. -/
def OwnF {α : Type} (F : Nat → Prop) (B : Nat) (w : World) (e : TypeId) (C : Cdc α) (v : Value) (xs : List α) : Prop :=
  ∃ cells, w.ownsRow B e C.sz v xs.length cells ∧ ∀ i x, xs[i]? = some x → ∃ cs, C.E F w cs x ∧ ∀ j u, cs[j]? = some u → cells[i * C.sz + j]? = some u
section
variable {α : Type} {F F' : Nat → Prop} {B : Nat} {w w' : World} {e : TypeId} {C : Cdc α} {v : Value} {xs : List α}
theorem OwnF.nil : OwnF F B w e C (.slice none 0 0) [] := ⟨[], World.ownsRow_nil _ _ _ _, fun i x h => by simp at h⟩
theorem OwnF.form (h : OwnF F B w e C v xs) : ∃ A c, v = .slice A xs.length c := by
  obtain ⟨cells, h1, _⟩ := h
  rcases h1.2 with ⟨rfl, h0⟩ | ⟨g, cap, cur, rfl, _⟩
  · exact ⟨none, 0, by rw [h0]⟩
  · exact ⟨_, cap, rfl⟩
theorem OwnF.block (h : OwnF F B w e C v xs) {b : Nat} (hb : v.ownBlock = some b) : B ≤ b ∧ b < w.heap.size ∧ ∃ cur, w.heap[b]? = some (.cells cur e (0, 0)) := by
  obtain ⟨cells, h1, _⟩ := h
  exact ownBlock_cells h1 hb
theorem OwnF.keep (h : OwnF F B w e C v xs) {S : List Nat} (ht : Turns S w w') (hs : ∀ b, v.ownBlock = some b → b ∉ S) (hS : ∀ b ∈ S, ¬ F b) (hF : ∀ b, b < w.heap.size → F b → F' b) : OwnF F' B w' e C v xs := by
  obtain ⟨cells, h1, h2⟩ := h
  refine ⟨cells, ownsRow_turns h1 ht hs, fun i x hx => ?_⟩
  obtain ⟨cs, c1, c2⟩ := h2 i x hx
  exact ⟨cs, C.kp _ _ _ _ _ _ c1 (Kp.of_turns ht hS) hF, c2⟩
theorem OwnF.below (h : OwnF F B w e C v xs) (hb : Below w.heap.size w w') : OwnF F B w' e C v xs :=
  h.keep (S := []) (Turns.of_below hb) (fun _ _ => by simp) (by simp) (fun _ _ h => h)
theorem OwnF.rsl (h : OwnF F B w e C v xs) {G : Nat → Prop} (hG : ∀ b, v.ownBlock = some b → G b) : RSl G w C.sz (C.E F w) v xs := by
  obtain ⟨cells, h1, h2⟩ := h
  exact RSl.of_own h1 rfl hG h2
theorem OwnF.grow {cells : List Value} (h2 : ∀ i x, xs[i]? = some x → ∃ cs, C.E F w cs x ∧ ∀ j u, cs[j]? = some u → cells[i * C.sz + j]? = some u) {x : α} {cs : List Value} (hel : C.E F w cs x) {g cap : Nat} (K : Kp F w w')
    (hFF : ∀ b, b < w.heap.size → F b → F' b) (hcl : cells.length = xs.length * C.sz)
    (hown : w'.ownsRow B e C.sz (.slice (some ⟨g, 0, none⟩) (xs.length + 1) cap) (xs.length + 1) (cells ++ cs)) : OwnF F' B w' e C (.slice (some ⟨g, 0, none⟩) (xs.length + 1) cap) (xs ++ [x]) := by
  refine ⟨cells ++ cs, by simpa using hown, fun i y hy => ?_⟩
  rcases Nat.lt_or_ge i xs.length with hlt | hge
  · rw [List.getElem?_append_left hlt] at hy
    obtain ⟨ds, d1, d2⟩ := h2 i y hy
    refine ⟨ds, C.kp _ _ _ _ _ _ d1 K hFF, fun j u hu => ?_⟩
    have hj : j < C.sz := by rw [← C.len _ _ _ _ d1]; exact (List.getElem?_eq_some_iff.1 hu).1
    have hlt2 : i * C.sz + j < cells.length := by
      rw [hcl]
      have := Nat.mul_le_mul_right C.sz (show i + 1 ≤ xs.length from hlt)
      rw [Nat.add_mul, Nat.one_mul] at this
      omega
    rw [List.getElem?_append_left hlt2]
    exact d2 j u hu
  · have hl := (List.getElem?_eq_some_iff.1 hy).1
    simp at hl
    obtain rfl : i = xs.length := by omega
    rw [List.getElem?_append_right (Nat.le_refl _), Nat.sub_self] at hy
    simp at hy
    subst hy
    refine ⟨cs, C.kp _ _ _ _ _ _ hel K hFF, fun j u hu => ?_⟩
    rw [List.getElem?_append_right (by omega), hcl, Nat.add_sub_cancel_left]
    exact hu
/-- One more, out of a new block of one element. -/
theorem wpList_append_F {P : Program} {ops : Array Oper} {rest : List Oper} {o : Oper} {a : Act} {Q : Exit → Act → World → Prop} (h : OwnF F B w e C v xs) (hF : ∀ b, v.ownBlock = some b → ¬ F b) (hgd : o.guard = none) (s q : Operand) (t : TypeId)
    (ho : o.op = .call { callee := .builtin .append, args := #[s, q], argTypes := #[t, t] }) {z : Value} {bytes c H : Nat} (ht : P.underlying t = some (.slice e)) (hi : (P.info? e).map (fun i => (i.zero, i.size, i.bytes)) = some (some z, C.sz, bytes))
    (hzs : z.cells.size = C.sz) (hsz : 0 < C.sz) (hs : a.eval s = v) (ncs : Array Value) (T : TypeId) (hq : a.eval q = .slice (some ⟨H, 0, none⟩) 1 c) (hH : w.heap.size = H)
    {x : α} (hel : C.E F w ncs.toList x) (hn : xs.length ≤ 40000000) (hb : bytes ≤ 1000) (hB : B ≤ w.heap.size)
    (k : ∀ g cap w', (∀ F' : Nat → Prop, (∀ b, b < w.heap.size → F b → F' b) → OwnF F' B w' e C (.slice (some ⟨g, 0, none⟩) (xs.length + 1) cap) (xs ++ [x])) → Turns v.ownBlock.toList w w' → (v.ownBlock = some g ∨ w.heap.size ≤ g) → g < w'.heap.size →
      wpList P ops Q rest (a.put o.dst (.slice (some ⟨g, 0, none⟩) (xs.length + 1) cap)) w') : wpList P ops Q (o :: rest) a (w.alloc (.cells ncs T)) := by
  subst hH
  obtain ⟨i0, hi0, hz0, hz1, hz2⟩ := info_parts hi
  have hbl : Below w.heap.size w (w.alloc (.cells ncs T)) := (Below.refl w.heap.size w).alloc (Nat.le_refl _) (.cells ncs T)
  obtain ⟨cells, h0, h2⟩ := h
  have h1 := ownsRow_turns h0 (Turns.of_below (S := []) hbl) (fun _ _ => by simp)
  have hln := C.len _ _ _ _ hel
  have hone := C.one _ _ _ _ hel
  refine wpList_append1s (w.alloc (.cells ncs T)) hgd s q t ho B e i0 z C.sz bytes ht hi0 hz0 hz1 hz2 hzs hsz v xs.length cells hs h1 ⟨w.heap.size, 0, none⟩ c ncs.toList hq (by rw [hln, Nat.one_mul]) ?_ hone hn hb (by simp; omega) _ rfl ?_
  · exact World.news_of_block (heap_alloc_new w (.cells ncs T))
  · intro g cap w' hown hgrow hat hlt
    have T1 : Turns v.ownBlock.toList w w' := (((Turns.refl [] w).alloc (.cells ncs T)).mono (by simp)).trans (Turns.of_grown hgrow) (fun x hx => .inl hx)
    have hat2 : v.ownBlock = some g ∨ w.heap.size ≤ g := by
      rcases hat with h | h
      · exact .inl h
      · exact .inr (by have := h.1; simp at this; omega)
    exact k g cap w' (fun F' hFF => OwnF.grow h2 hel (Kp.of_turns T1 (fun b hb => hF b (by simpa using hb))) hFF h0.1 hown) T1 hat2 hlt
/-- As one step of a region that draws its order. -/
theorem step_append_F {P : Program} {ops : Array Oper} {o : Oper} {a : Act} {K : Act → World → Prop} {Q : Exit → Act → World → Prop} {E : Prop} (h : OwnF F B w e C v xs) (hF : ∀ b, v.ownBlock = some b → ¬ F b) (hgd : o.guard = none) (s q : Operand) (t : TypeId)
    (ho : o.op = .call { callee := .builtin .append, args := #[s, q], argTypes := #[t, t] }) {z : Value} {bytes c H : Nat} (ht : P.underlying t = some (.slice e)) (hi : (P.info? e).map (fun i => (i.zero, i.size, i.bytes)) = some (some z, C.sz, bytes))
    (hzs : z.cells.size = C.sz) (hsz : 0 < C.sz) (hs : a.eval s = v) (ncs : Array Value) (T : TypeId) (hq : a.eval q = .slice (some ⟨H, 0, none⟩) 1 c) (hH : w.heap.size = H)
    {x : α} (hel : C.E F w ncs.toList x) (hn : xs.length ≤ 40000000) (hb : bytes ≤ 1000) (hB : B ≤ w.heap.size)
    (k : ∀ g cap w', (∀ F' : Nat → Prop, (∀ b, b < w.heap.size → F b → F' b) → OwnF F' B w' e C (.slice (some ⟨g, 0, none⟩) (xs.length + 1) cap) (xs ++ [x])) → Turns v.ownBlock.toList w w' → (v.ownBlock = some g ∨ w.heap.size ≤ g) → g < w'.heap.size →
      K (a.put o.dst (.slice (some ⟨g, 0, none⟩) (xs.length + 1) cap)) w') : if Region.wanted o (yielded ops a.tmps) = true then Oper.wp P o a (w.alloc (.cells ncs T)).drew K Q else E := by
  subst hH
  obtain ⟨i0, hi0, hz0, hz1, hz2⟩ := info_parts hi
  have hbl : Below w.heap.size w (w.alloc (.cells ncs T)).drew := ((Below.refl w.heap.size w).alloc (Nat.le_refl _) (.cells ncs T)).drew
  obtain ⟨cells, h0, h2⟩ := h
  have h1 := ownsRow_turns h0 (Turns.of_below (S := []) hbl) (fun _ _ => by simp)
  have hln := C.len _ _ _ _ hel
  have hone := C.one _ _ _ _ hel
  refine step_append1s (w.alloc (.cells ncs T)).drew hgd s q t ho B e i0 z C.sz bytes ht hi0 hz0 hz1 hz2 hzs hsz v xs.length cells hs h1 ⟨w.heap.size, 0, none⟩ c ncs.toList hq (by rw [hln, Nat.one_mul]) ?_ hone hn hb (by simp; omega) _ rfl ?_
  · exact World.news_of_block (heap_alloc_new w (.cells ncs T))
  · intro g cap w' hown hgrow hat hlt
    have T1 : Turns v.ownBlock.toList w w' := ((((Turns.refl [] w).alloc (.cells ncs T)).drew).mono (by simp)).trans (Turns.of_grown hgrow) (fun x hx => .inl hx)
    have hat2 : v.ownBlock = some g ∨ w.heap.size ≤ g := by
      rcases hat with h | h
      · exact .inl h
      · exact .inr (by have := h.1; simp at this; omega)
    exact k g cap w' (fun F' hFF => OwnF.grow h2 hel (Kp.of_turns T1 (fun b hb => hF b (by simpa using hb))) hFF h0.1 hown) T1 hat2 hlt
/-- The same, with the cells told one by one. -/
theorem step_append_FX {P : Program} {ops : Array Oper} {o : Oper} {a : Act} {K : Act → World → Prop} {Q : Exit → Act → World → Prop} {E : Prop} (h : OwnF F B w e C v xs) (hF : ∀ b, v.ownBlock = some b → ¬ F b) (hgd : o.guard = none) (s q : Operand) (t : TypeId)
    (ho : o.op = .call { callee := .builtin .append, args := #[s, q], argTypes := #[t, t] }) {z : Value} {bytes c H : Nat} (ht : P.underlying t = some (.slice e)) (hi : (P.info? e).map (fun i => (i.zero, i.size, i.bytes)) = some (some z, C.sz, bytes))
    (hzs : z.cells.size = C.sz) (hsz : 0 < C.sz) (hs : a.eval s = v) (ncs : Array Value) (T : TypeId) (hq : a.eval q = .slice (some ⟨H, 0, none⟩) 1 c) (hH : w.heap.size = H)
    {x : α} (hel : C.E F w ncs.toList x) (hn : xs.length ≤ 40000000) (hb : bytes ≤ 1000) (hB : B ≤ w.heap.size)
    (k : ∀ g cap w', (∀ F' : Nat → Prop, (∀ b, b < w.heap.size → F b → F' b) → OwnF F' B w' e C (.slice (some ⟨g, 0, none⟩) (xs.length + 1) cap) (xs ++ [x])) → Turns v.ownBlock.toList w w' → (v.ownBlock = some g ∨ w.heap.size ≤ g) → g < w'.heap.size →
      (∀ o j, v.ownBlock = some o → j < xs.length * C.sz → w'.cell? ⟨g, j, none⟩ = w.cell? ⟨o, j, none⟩) → (∀ j u, ncs.toList[j]? = some u → w'.cell? ⟨g, xs.length * C.sz + j, none⟩ = some u) →
      K (a.put o.dst (.slice (some ⟨g, 0, none⟩) (xs.length + 1) cap)) w') : if Region.wanted o (yielded ops a.tmps) = true then Oper.wp P o a (w.alloc (.cells ncs T)).drew K Q else E := by
  subst hH
  obtain ⟨i0, hi0, hz0, hz1, hz2⟩ := info_parts hi
  have hbl : Below w.heap.size w (w.alloc (.cells ncs T)).drew := ((Below.refl w.heap.size w).alloc (Nat.le_refl _) (.cells ncs T)).drew
  obtain ⟨cells, h0, h2⟩ := h
  have h1 := ownsRow_turns h0 (Turns.of_below (S := []) hbl) (fun _ _ => by simp)
  have hln := C.len _ _ _ _ hel
  have hone := C.one _ _ _ _ hel
  refine step_append1s (w.alloc (.cells ncs T)).drew hgd s q t ho B e i0 z C.sz bytes ht hi0 hz0 hz1 hz2 hzs hsz v xs.length cells hs h1 ⟨w.heap.size, 0, none⟩ c ncs.toList hq (by rw [hln, Nat.one_mul]) ?_ hone hn hb (by simp; omega) _ rfl ?_
  · exact World.news_of_block (heap_alloc_new w (.cells ncs T))
  · intro g cap w' hown hgrow hat hlt
    have T1 : Turns v.ownBlock.toList w w' := ((((Turns.refl [] w).alloc (.cells ncs T)).drew).mono (by simp)).trans (Turns.of_grown hgrow) (fun x hx => .inl hx)
    have hat2 : v.ownBlock = some g ∨ w.heap.size ≤ g := by
      rcases hat with h | h
      · exact .inl h
      · exact .inr (by have := h.1; simp at this; omega)
    refine k g cap w' (fun F' hFF => OwnF.grow h2 hel (Kp.of_turns T1 (fun b hb => hF b (by simpa using hb))) hFF h0.1 hown) T1 hat2 hlt ?_ ?_
    · intro o j ho hj
      have hlt2 : j < (xs.length + 1) * C.sz := by rw [Nat.add_mul, Nat.one_mul]; omega
      rw [hown.cellAt j hlt2, List.getElem?_append_left (by rw [h0.1]; exact hj)]
      rcases h0.2 with ⟨rfl, _⟩ | ⟨o', cap', cur, rfl, r⟩
      · simp [Value.ownBlock] at ho
      · obtain rfl : o' = o := by simpa [Value.ownBlock] using ho
        exact (World.ownsRow.cellAt (show w.ownsRow B e C.sz (.slice (some ⟨o', 0, none⟩) xs.length cap') xs.length cells from ⟨h0.1, .inr ⟨o', cap', cur, rfl, r⟩⟩) j hj).symm
    · intro j u hu
      have hjl := (List.getElem?_eq_some_iff.1 hu).1
      have hlt2 : xs.length * C.sz + j < (xs.length + 1) * C.sz := by rw [Nat.add_mul, Nat.one_mul]; omega
      rw [hown.cellAt _ hlt2, List.getElem?_append_right (by rw [h0.1]; omega), h0.1, Nat.add_sub_cancel_left]
      exact hu
end

open Pln
def cdSlt : Cdc Slt where
  E := fun _ _ => ESlt
  sz := 2
  len := fun _ _ cs x h => by rw [h.1]; rfl
  kp := fun _ _ _ _ _ _ h _ _ => h
  one := fun _ _ cs x h u hu => by
    rw [h.1] at hu
    simp only [List.mem_cons, List.not_mem_nil, or_false] at hu
    rcases hu with rfl | rfl <;> rfl
def cdInt : Cdc Int where
  E := fun _ _ => EInt
  sz := 1
  len := fun _ _ cs x h => by rw [h.1]; rfl
  kp := fun _ _ _ _ _ _ h _ _ => h
  one := fun _ _ cs x h u hu => by
    rw [h.1] at hu
    simp only [List.mem_cons, List.not_mem_nil, or_false] at hu
    rcases hu with rfl; rfl
def cdStr : Cdc ByteArray where
  E := fun _ _ => EStr
  sz := 1
  len := fun _ _ cs x h => by rw [h.1]; rfl
  kp := fun _ _ _ _ _ _ h _ _ => h
  one := fun _ _ cs x h u hu => by
    rw [h.1] at hu
    simp only [List.mem_cons, List.not_mem_nil, or_false] at hu
    rcases hu with rfl; rfl
def cdLnk : Cdc (Int × Int) where
  E := fun _ _ => ELnk
  sz := 2
  len := fun _ _ cs x h => by rw [h.1]; rfl
  kp := fun _ _ _ _ _ _ h _ _ => h
  one := fun _ _ cs x h u hu => by
    rw [h.1] at hu
    simp only [List.mem_cons, List.not_mem_nil, or_false] at hu
    rcases hu with rfl | rfl <;> rfl
def cdTst : Cdc Tst where
  E := fun _ _ => ETst
  sz := 5
  len := fun _ _ cs x h => by rw [h.1]; rfl
  kp := fun _ _ _ _ _ _ h _ _ => h
  one := fun _ _ cs x h u hu => by
    rw [h.1] at hu
    simp only [List.mem_cons, List.not_mem_nil, or_false] at hu
    rcases hu with rfl | rfl | rfl | rfl | rfl <;> rfl
theorem RSl.one {α : Type} {F : Nat → Prop} {w : World} {sz : Nat} {E : List Value → α → Prop} {v : Value} {xs : List α} (h : RSl F w sz E v xs) : v.oneCell' = true := by
  obtain ⟨A, c, rfl, _⟩ := h
  rfl
def cdPat : Cdc Pat where
  E := EPat
  sz := 2
  len := fun _ _ cs x ⟨v, h, _⟩ => by rw [h]; rfl
  kp := fun _ _ _ _ _ _ h hk hF => h.kp hk hF
  one := fun _ _ cs x ⟨v, h, _, h2⟩ u hu => by
    rw [h] at hu
    simp only [List.mem_cons, List.not_mem_nil, or_false] at hu
    rcases hu with rfl | rfl
    · rfl
    · exact h2.one
def cdShp : Cdc Shp where
  E := EShp
  sz := 2
  len := fun _ _ cs x ⟨v, h, _⟩ => by rw [h]; rfl
  kp := fun _ _ _ _ _ _ h hk hF => h.kp hk hF
  one := fun _ _ cs x ⟨v, h, _, h2⟩ u hu => by
    rw [h] at hu
    simp only [List.mem_cons, List.not_mem_nil, or_false] at hu
    rcases hu with rfl | rfl
    · rfl
    · exact h2.one
def cdRl : Cdc Rl where
  E := ERule
  sz := 7
  len := fun _ _ cs x ⟨_, _, _, _, _, h⟩ => by rw [h.cells]; rfl
  kp := fun _ _ _ _ _ _ h hk hF => h.kp hk hF
  one := fun _ _ cs x ⟨_, _, _, _, _, h⟩ u hu => by
    rw [h.cells] at hu
    simp only [List.mem_cons, List.not_mem_nil, or_false] at hu
    rcases hu with rfl | rfl | rfl | rfl | rfl | rfl | rfl
    · rfl
    · exact h.head.one
    · exact h.pos.one
    · exact h.tests.one
    · exact h.neg.one
    · exact h.vars.one
    · rfl
def cdNd : Cdc Nd where
  E := ENode
  sz := 11
  len := fun _ _ cs x ⟨_, _, h⟩ => by rw [h.cells]; rfl
  kp := fun _ _ _ _ _ _ h hk hF => h.kp hk hF
  one := fun _ _ cs x ⟨_, _, h⟩ u hu => by
    rw [h.cells] at hu
    simp only [List.mem_cons, List.not_mem_nil, or_false] at hu
    rcases hu with rfl | rfl | rfl | rfl | rfl | rfl | rfl | rfl | rfl | rfl | rfl
    · rfl
    · rfl
    · rfl
    · exact h.links.one
    · exact h.new.one
    · rfl
    · rfl
    · rfl
    · rfl
    · rfl
    · rfl
end Go.Proofs.Ytonkbjdeaneicaa

namespace Go.Proofs.Ytonkbjdeaneicaa
open Go.RowKit Pln Classical

/-- The first place of which p holds, or -1. -/
def idxP (p : Slt → Bool) : List Slt → Nat
  | [] => 0
  | s :: r => if p s = true then 0 else idxP p r + 1
def idxI (p : Slt → Bool) (xs : List Slt) : Int := if idxP p xs < xs.length then (idxP p xs : Int) else -1
theorem idxP_none {p : Slt → Bool} : ∀ {xs : List Slt}, (∀ s ∈ xs, p s = false) → idxP p xs = xs.length
  | [], _ => rfl
  | s :: r, h => by
    unfold idxP
    rw [if_neg (by rw [h s (List.mem_cons_self ..)]; decide), idxP_none (fun t ht => h t (List.mem_cons_of_mem _ ht))]
    rfl
theorem idxP_at {p : Slt → Bool} : ∀ {xs : List Slt} {k : Nat} {s : Slt}, xs[k]? = some s → p s = true → (∀ s ∈ xs.take k, p s = false) → idxP p xs = k
  | [], k, s, h, _, _ => by simp at h
  | a :: r, 0, s, h, hp, _ => by
    simp at h
    subst h
    unfold idxP
    rw [if_pos hp]
  | a :: r, k + 1, s, h, hp, hq => by
    unfold idxP
    rw [if_neg (by rw [hq a (by simp)]; decide), idxP_at (k := k) (s := s) (by simpa using h) hp (fun t ht => hq t (by rw [List.take_succ_cons]; exact List.mem_cons_of_mem _ ht))]
theorem idxI_none {p : Slt → Bool} {xs : List Slt} (h : ∀ s ∈ xs, p s = false) : idxI p xs = -1 := by
  unfold idxI
  rw [idxP_none h, if_neg (Nat.lt_irrefl _)]
theorem idxI_at {p : Slt → Bool} {xs : List Slt} {k : Nat} {s : Slt} (h : xs[k]? = some s) (hp : p s = true) (hq : ∀ s ∈ xs.take k, p s = false) : idxI p xs = k := by
  unfold idxI
  rw [idxP_at h hp hq, if_pos (List.getElem?_eq_some_iff.1 h).1]
theorem idxI_ge {p : Slt → Bool} {xs : List Slt} : (0 ≤ idxI p xs) ↔ ∃ s ∈ xs, p s = true := by
  constructor
  · intro h
    by_cases hn : ∀ s ∈ xs, p s = false
    · rw [idxI_none hn] at h; omega
    · have : ∃ s, ¬ (s ∈ xs → p s = false) := Classical.not_forall.1 hn
      obtain ⟨s, hs⟩ := this
      have := Classical.not_imp.1 hs
      exact ⟨s, this.1, by simpa using this.2⟩
  · rintro ⟨s, hs, hp⟩
    unfold idxI
    have : idxP p xs < xs.length := by
      induction xs with
      | nil => cases hs
      | cons a r ih =>
        unfold idxP
        split
        · simp
        · rename_i hna
          rcases List.mem_cons.1 hs with rfl | hs
          · exact absurd hp hna
          · have := ih hs
            simp only [List.length_cons]
            omega
    rw [if_pos this]
    omega
theorem ret_i64 {a b : Int} (h : a = b) : Ending.returned (.int .i64 a) = .returned (.int .i64 b) := by rw [h]

noncomputable def bel (wd : Nat) (s : Slt) : Bool := decide (belowP wd s)
set_option maxRecDepth 100000 in
theorem belowW (s : Slt) (wd : Nat) (w : World) : Calls Try.prog 53 #[.agg #[.bool s.v, .int .i64 s.n], .int .i64 wd] w fun e w' => e = .returned (.bool (bel wd s)) ∧ Below w.heap.size w w' := by
  obtain ⟨v, n⟩ := s
  by_cases h0 : 0 ≤ n
  · cases v with
    | false =>
      have hb : bel wd ⟨false, n⟩ = true := by simp [bel, belowP, h0]
      have HB := Lib.hid hb
      clear hb
      go_enter Try.func53, Try.ntmps53
      go_wp2
      go_ret
      exact ⟨ret_bool HB.out.symm, (Below.refl _ _).alloc (Nat.le_refl _) _⟩
    | true =>
      by_cases h1 : n < (wd : Int)
      · have hb : bel wd ⟨true, n⟩ = true := by simp [bel, belowP, h0, h1]
        have HB := Lib.hid hb
        clear hb
        go_enter Try.func53, Try.ntmps53
        go_wp2
        go_ret
        exact ⟨ret_bool HB.out.symm, (Below.refl _ _).alloc (Nat.le_refl _) _⟩
      · have hb : bel wd ⟨true, n⟩ = false := by simp [bel, belowP, h0, h1]
        have HB := Lib.hid hb
        clear hb
        go_enter Try.func53, Try.ntmps53
        go_wp2
        go_ret
        exact ⟨ret_bool HB.out.symm, (Below.refl _ _).alloc (Nat.le_refl _) _⟩
  · have hb : bel wd ⟨v, n⟩ = false := by simp only [bel, decide_eq_false_iff_not]; exact fun h => h0 h.1
    have HB := Lib.hid hb
    clear hb
    go_enter Try.func53, Try.ntmps53
    go_wp2
    go_ret
    exact ⟨ret_bool HB.out.symm, (Below.refl _ _).alloc (Nat.le_refl _) _⟩

/-- may's closure. -/
theorem may1W (s : Slt) (wd B : Nat) (w : World) (hc : w.cell? ⟨B, 0, none⟩ = some (.int .i64 wd)) (hB : B < w.heap.size) : Calls Try.prog 52 #[.agg #[.bool s.v, .int .i64 s.n], .pointer (some ⟨B, 0, none⟩)] w fun e w' => e = .returned (.bool (!bel wd s)) ∧ Below w.heap.size w w' := by
  have C := Lib.hid (fun W => belowW s wd W)
  go_enter Try.func52, Try.ntmps52
  go_wp2_with (go_at_call 53; refine (C.out _).mono ?_; rintro e w' ⟨rfl, hb⟩; have HB := Lib.hid hb; clear hb)
  go_ret
  exact ⟨rfl, ((Below.refl _ _).alloc (Nat.le_refl _) _).trans (HB.out.mono (by simp))⟩
theorem mayPattern1W (s : Slt) (w : World) : Calls Try.prog 67 #[.agg #[.bool s.v, .int .i64 s.n]] w fun e w' => e = .returned (.bool (decide (s.n < 0))) ∧ Below w.heap.size w w' := by
  go_enter Try.func67, Try.ntmps67
  go_wp2
  go_ret
  exact ⟨rfl, (Below.refl _ _).alloc (Nat.le_refl _) _⟩
/-- pattern's closure: the same variable. -/
def sameV (n : Int) (s : Slt) : Bool := s.v && (s.n == n)
theorem pattern1W (s : Slt) (n : Int) (B : Nat) (w : World) (hc : w.cell? ⟨B, 1, none⟩ = some (.int .i64 n)) (hB : B < w.heap.size) : Calls Try.prog 56 #[.agg #[.bool s.v, .int .i64 s.n], .pointer (some ⟨B, 0, none⟩)] w fun e w' => e = .returned (.bool (sameV n s)) ∧ Below w.heap.size w w' := by
  obtain ⟨v, m⟩ := s
  cases v with
  | false =>
    go_enter Try.func56, Try.ntmps56
    go_wp2
    go_ret
    exact ⟨rfl, (Below.refl _ _).alloc (Nat.le_refl _) _⟩
  | true =>
    have hs : sameV n ⟨true, m⟩ = (m == n) := by simp [sameV]
    have HS := Lib.hid hs
    clear hs
    go_enter Try.func56, Try.ntmps56
    go_wp2
    go_ret
    exact ⟨ret_bool HS.out.symm, (Below.refl _ _).alloc (Nat.le_refl _) _⟩

set_option maxRecDepth 100000 in
theorem indexFunc_may {F : Nat → Prop} (v : Value) (xs : List Slt) (B : Nat) (p : Slt → Bool) (w : World) (h : RSl F w 2 ESlt v xs)
    (hp : ∀ s ∈ xs, ∀ W, Below w.heap.size w W → Calls Try.prog 52 #[.agg #[.bool s.v, .int .i64 s.n], .pointer (some ⟨B, 0, none⟩)] W fun e w' => e = .returned (.bool (p s)) ∧ Below W.heap.size W w') :
    Calls Try.prog 55 #[v, .func (.func 52) #[] #[.pointer (some ⟨B, 0, none⟩)]] w fun e w' => e = .returned (.int .i64 (idxI p xs)) ∧ Below w.heap.size w w' := by
  obtain ⟨A, c, rfl⟩ := h.form
  have hm := h.len
  unfold maxLen at hm
  have HP := Lib.hid hp
  have HH := Lib.hid h
  clear hp h
  go_enter Try.func55, Try.ntmps55
  go_wp2
  go_loopw [8] (fun i wr => ∃ k : Nat, i = .int .i64 k ∧ k ≤ xs.length ∧ (∀ s ∈ xs.take k, p s = false) ∧ Below w.heap.size w wr) (fun i _ => xs.length - (intOf i).toNat)
  case atStart => exact ⟨0, rfl, Nat.zero_le _, by simp, Below.refl _ _⟩
  case round =>
    obtain ⟨k, rfl, hk, hq, hb⟩ := hrel
    by_cases hkn : k < xs.length
    · obtain ⟨s, hs⟩ : ∃ s, xs[k]? = some s := ⟨_, List.getElem?_eq_getElem hkn⟩
      obtain ⟨b, off, rfl, _, _, cs, ⟨rfl, hok⟩, hc⟩ := (HH.out.keep (Kp.of_below hb)).at hs
      have c0 := hc 0 _ rfl
      have c1 := hc 1 _ rfl
      simp only [Nat.add_zero] at c0
      have e1 : (0 : Int) ≤ (k : Int) := by omega
      have e2 : (k : Int) < (xs.length : Int) := by omega
      have hsz := hb.size
      have C := Lib.hid (HP.out s (List.mem_of_getElem? hs) wr hb)
      have HS := Lib.hid hs
      have HQ := Lib.hid hq
      have HB := Lib.hid hb
      have HK := Lib.hid hkn
      clear hc hs hkn hb hq
      by_cases hps : p s = true
      · have HI := Lib.hid (idxI_at HS.out hps HQ.out)
        have HPS := Lib.hid hps
        clear hps
        go_wp2_with (go_at_call 52; refine C.out.mono ?_; rintro e w' ⟨he, hb2⟩; rw [HPS.out] at he; subst he; have HB2 := Lib.hid hb2; clear hb2)
        go_ret
        exact ⟨ret_i64 HI.out.symm, HB.out.trans (HB2.out.mono hsz)⟩
      · have hps' : p s = false := by simpa using hps
        have HQ2 := Lib.hid (take_all HQ.out HS.out hps')
        have HPS := Lib.hid hps'
        clear hps hps'
        go_wp2_with (go_at_call 52; refine C.out.mono ?_; rintro e w' ⟨he, hb2⟩; rw [HPS.out] at he; subst he; have HB2 := Lib.hid hb2; clear hb2)
        exact ⟨⟨k + 1, by go_num, HK.out, HQ2.out, HB.out.trans (HB2.out.mono hsz)⟩, by simp [intOf]; have := HK.out; omega⟩
    · obtain rfl : k = xs.length := by omega
      rw [List.take_length] at hq
      have HI := Lib.hid (idxI_none hq)
      clear hq
      go_wp2
      go_ret
      exact ⟨ret_i64 HI.out.symm, hb⟩

theorem containsFunc_may {F : Nat → Prop} (v : Value) (xs : List Slt) (B : Nat) (p : Slt → Bool) (w : World) (h : RSl F w 2 ESlt v xs)
    (hp : ∀ s ∈ xs, ∀ W, Below w.heap.size w W → Calls Try.prog 52 #[.agg #[.bool s.v, .int .i64 s.n], .pointer (some ⟨B, 0, none⟩)] W fun e w' => e = .returned (.bool (p s)) ∧ Below W.heap.size W w') :
    Calls Try.prog 51 #[v, .func (.func 52) #[] #[.pointer (some ⟨B, 0, none⟩)]] w fun e w' => e = .returned (.bool (decide (0 ≤ idxI p xs))) ∧ Below w.heap.size w w' := by
  have C := Lib.hid (indexFunc_may v xs B p w h hp)
  clear h hp
  go_enter Try.func51, Try.ntmps51
  go_wp2_with (go_at_call 55; refine C.out.mono ?_; rintro e w' ⟨rfl, hb2⟩; have HB2 := Lib.hid hb2; clear hb2)
  go_ret
  exact ⟨rfl, HB2.out⟩

set_option maxRecDepth 100000 in
theorem indexFunc_mayPattern {F : Nat → Prop} (v : Value) (xs : List Slt) (p : Slt → Bool) (w : World) (h : RSl F w 2 ESlt v xs)
    (hp : ∀ s ∈ xs, ∀ W, Below w.heap.size w W → Calls Try.prog 67 #[.agg #[.bool s.v, .int .i64 s.n]] W fun e w' => e = .returned (.bool (p s)) ∧ Below W.heap.size W w') :
    Calls Try.prog 55 #[v, .func (.func 67) #[] #[]] w fun e w' => e = .returned (.int .i64 (idxI p xs)) ∧ Below w.heap.size w w' := by
  obtain ⟨A, c, rfl⟩ := h.form
  have hm := h.len
  unfold maxLen at hm
  have HP := Lib.hid hp
  have HH := Lib.hid h
  clear hp h
  go_enter Try.func55, Try.ntmps55
  go_wp2
  go_loopw [8] (fun i wr => ∃ k : Nat, i = .int .i64 k ∧ k ≤ xs.length ∧ (∀ s ∈ xs.take k, p s = false) ∧ Below w.heap.size w wr) (fun i _ => xs.length - (intOf i).toNat)
  case atStart => exact ⟨0, rfl, Nat.zero_le _, by simp, Below.refl _ _⟩
  case round =>
    obtain ⟨k, rfl, hk, hq, hb⟩ := hrel
    by_cases hkn : k < xs.length
    · obtain ⟨s, hs⟩ : ∃ s, xs[k]? = some s := ⟨_, List.getElem?_eq_getElem hkn⟩
      obtain ⟨b, off, rfl, _, _, cs, ⟨rfl, hok⟩, hc⟩ := (HH.out.keep (Kp.of_below hb)).at hs
      have c0 := hc 0 _ rfl
      have c1 := hc 1 _ rfl
      simp only [Nat.add_zero] at c0
      have e1 : (0 : Int) ≤ (k : Int) := by omega
      have e2 : (k : Int) < (xs.length : Int) := by omega
      have hsz := hb.size
      have C := Lib.hid (HP.out s (List.mem_of_getElem? hs) wr hb)
      have HS := Lib.hid hs
      have HQ := Lib.hid hq
      have HB := Lib.hid hb
      have HK := Lib.hid hkn
      clear hc hs hkn hb hq
      by_cases hps : p s = true
      · have HI := Lib.hid (idxI_at HS.out hps HQ.out)
        have HPS := Lib.hid hps
        clear hps
        go_wp2_with (go_at_call 67; refine C.out.mono ?_; rintro e w' ⟨he, hb2⟩; rw [HPS.out] at he; subst he; have HB2 := Lib.hid hb2; clear hb2)
        go_ret
        exact ⟨ret_i64 HI.out.symm, HB.out.trans (HB2.out.mono hsz)⟩
      · have hps' : p s = false := by simpa using hps
        have HQ2 := Lib.hid (take_all HQ.out HS.out hps')
        have HPS := Lib.hid hps'
        clear hps hps'
        go_wp2_with (go_at_call 67; refine C.out.mono ?_; rintro e w' ⟨he, hb2⟩; rw [HPS.out] at he; subst he; have HB2 := Lib.hid hb2; clear hb2)
        exact ⟨⟨k + 1, by go_num, HK.out, HQ2.out, HB.out.trans (HB2.out.mono hsz)⟩, by simp [intOf]; have := HK.out; omega⟩
    · obtain rfl : k = xs.length := by omega
      rw [List.take_length] at hq
      have HI := Lib.hid (idxI_none hq)
      clear hq
      go_wp2
      go_ret
      exact ⟨ret_i64 HI.out.symm, hb⟩

theorem containsFunc_mayPattern {F : Nat → Prop} (v : Value) (xs : List Slt) (p : Slt → Bool) (w : World) (h : RSl F w 2 ESlt v xs)
    (hp : ∀ s ∈ xs, ∀ W, Below w.heap.size w W → Calls Try.prog 67 #[.agg #[.bool s.v, .int .i64 s.n]] W fun e w' => e = .returned (.bool (p s)) ∧ Below W.heap.size W w') :
    Calls Try.prog 51 #[v, .func (.func 67) #[] #[]] w fun e w' => e = .returned (.bool (decide (0 ≤ idxI p xs))) ∧ Below w.heap.size w w' := by
  have C := Lib.hid (indexFunc_mayPattern v xs p w h hp)
  clear h hp
  go_enter Try.func51, Try.ntmps51
  go_wp2_with (go_at_call 55; refine C.out.mono ?_; rintro e w' ⟨rfl, hb2⟩; have HB2 := Lib.hid hb2; clear hb2)
  go_ret
  exact ⟨rfl, HB2.out⟩

set_option maxRecDepth 100000 in
theorem indexFunc_pattern {F : Nat → Prop} (v : Value) (xs : List Slt) (B : Nat) (p : Slt → Bool) (w : World) (h : RSl F w 2 ESlt v xs)
    (hp : ∀ s ∈ xs, ∀ W, Below w.heap.size w W → Calls Try.prog 56 #[.agg #[.bool s.v, .int .i64 s.n], .pointer (some ⟨B, 0, none⟩)] W fun e w' => e = .returned (.bool (p s)) ∧ Below W.heap.size W w') :
    Calls Try.prog 55 #[v, .func (.func 56) #[] #[.pointer (some ⟨B, 0, none⟩)]] w fun e w' => e = .returned (.int .i64 (idxI p xs)) ∧ Below w.heap.size w w' := by
  obtain ⟨A, c, rfl⟩ := h.form
  have hm := h.len
  unfold maxLen at hm
  have HP := Lib.hid hp
  have HH := Lib.hid h
  clear hp h
  go_enter Try.func55, Try.ntmps55
  go_wp2
  go_loopw [8] (fun i wr => ∃ k : Nat, i = .int .i64 k ∧ k ≤ xs.length ∧ (∀ s ∈ xs.take k, p s = false) ∧ Below w.heap.size w wr) (fun i _ => xs.length - (intOf i).toNat)
  case atStart => exact ⟨0, rfl, Nat.zero_le _, by simp, Below.refl _ _⟩
  case round =>
    obtain ⟨k, rfl, hk, hq, hb⟩ := hrel
    by_cases hkn : k < xs.length
    · obtain ⟨s, hs⟩ : ∃ s, xs[k]? = some s := ⟨_, List.getElem?_eq_getElem hkn⟩
      obtain ⟨b, off, rfl, _, _, cs, ⟨rfl, hok⟩, hc⟩ := (HH.out.keep (Kp.of_below hb)).at hs
      have c0 := hc 0 _ rfl
      have c1 := hc 1 _ rfl
      simp only [Nat.add_zero] at c0
      have e1 : (0 : Int) ≤ (k : Int) := by omega
      have e2 : (k : Int) < (xs.length : Int) := by omega
      have hsz := hb.size
      have C := Lib.hid (HP.out s (List.mem_of_getElem? hs) wr hb)
      have HS := Lib.hid hs
      have HQ := Lib.hid hq
      have HB := Lib.hid hb
      have HK := Lib.hid hkn
      clear hc hs hkn hb hq
      by_cases hps : p s = true
      · have HI := Lib.hid (idxI_at HS.out hps HQ.out)
        have HPS := Lib.hid hps
        clear hps
        go_wp2_with (go_at_call 56; refine C.out.mono ?_; rintro e w' ⟨he, hb2⟩; rw [HPS.out] at he; subst he; have HB2 := Lib.hid hb2; clear hb2)
        go_ret
        exact ⟨ret_i64 HI.out.symm, HB.out.trans (HB2.out.mono hsz)⟩
      · have hps' : p s = false := by simpa using hps
        have HQ2 := Lib.hid (take_all HQ.out HS.out hps')
        have HPS := Lib.hid hps'
        clear hps hps'
        go_wp2_with (go_at_call 56; refine C.out.mono ?_; rintro e w' ⟨he, hb2⟩; rw [HPS.out] at he; subst he; have HB2 := Lib.hid hb2; clear hb2)
        exact ⟨⟨k + 1, by go_num, HK.out, HQ2.out, HB.out.trans (HB2.out.mono hsz)⟩, by simp [intOf]; have := HK.out; omega⟩
    · obtain rfl : k = xs.length := by omega
      rw [List.take_length] at hq
      have HI := Lib.hid (idxI_none hq)
      clear hq
      go_wp2
      go_ret
      exact ⟨ret_i64 HI.out.symm, hb⟩
end Go.Proofs.Ytonkbjdeaneicaa
