/- SymApart: lists of strings; the keys of a new Ids. -/
import Derived.Test.YtblonickpmogiaaNewIds
import Derived.Test.YtblonickpmogiaaStrings
import Derived.Test.YtblonickpmogiaaKeep
import Derived.Maps.AppendAt
import Derived.Test.YtblonickpmogiaaTally
namespace Go.Proofs.Ytblonickpmogiaa
open Go.RowKit Go.Maps

def OwnS (w : World) (base : Nat) (v : Value) (xs : List ByteArray) : Prop := w.ownsRow base 9 1 v xs.length (xs.map Value.string)

theorem wpList_append_slS {w : World} {ops : Array Oper} {rest : List Oper} {o : Oper} {a : Act} {Q : Exit → Act → World → Prop} (hgd : o.guard = none) (s x : Operand)
    (ho : o.op = .call { callee := .builtin .append, args := #[s, x], argTypes := #[43, 43] })
    (base : Nat) (v : Value) (xs ys : List ByteArray) (hs : a.eval s = v) (hown : OwnS w base v xs) (A : Option Addr) (n c : Nat) (hx : a.eval x = .slice A n c) (hn : n = ys.length) (hA : SlAt w w.heap.size 1 strCells A ys) (hnil : A = none → c = 0)
    (hlen : (xs.length + ys.length) * 16 ≤ 140737488355328) (hbase : base ≤ w.heap.size)
    (h : ∀ v' w', OwnS w' base v' (xs ++ ys) → w.grownBy w' v.ownBlock → (v'.ownBlock = v.ownBlock ∨ v'.ownBlock = some w.heap.size) → wpList Try.prog ops Q rest (a.put o.dst v') w') : wpList Try.prog ops Q (o :: rest) a w := by
  subst hn
  obtain ⟨i0, hi0, hz0, hz1, hz2⟩ := info_parts infoR
  cases A with
  | none =>
    obtain rfl := hnil rfl
    obtain rfl : ys = [] := by
      rcases Nat.eq_zero_or_pos ys.length with h0 | hp
      · exact List.eq_nil_of_length_eq_zero h0
      · obtain ⟨b, off, e, _⟩ := hA.form hp
        cases e
    refine wpList_append_own_none hgd s x 43 ho base 9 i0 1 Try.underlying43 hi0 v _ _ hs hown hx ?_
    refine h v w (by simpa using hown) ⟨rfl, rfl, rfl, Nat.le_refl _, fun _ _ _ => rfl⟩ (.inl rfl)
  | some ad =>
    have hnews : ∀ j u, (ys.map Value.string)[j]? = some u → w.cell? (ad.add j) = some u := by
      rcases Nat.eq_zero_or_pos ys.length with h0 | hp
      · obtain rfl := List.eq_nil_of_length_eq_zero h0
        intro j u hu
        simp at hu
      · obtain ⟨b, off, e, _, hc⟩ := hA.form hp
        obtain rfl := Option.some.inj e
        intro j u hu
        rw [List.getElem?_map, Option.map_eq_some_iff] at hu
        obtain ⟨k, hk, rfl⟩ := hu
        have := hc j k hk 0 (.string k) rfl
        rw [add_none]
        simpa using this
    refine wpList_append_own_at (w := w) hgd s x 43 ho base 9 i0 (.string ⟨#[]⟩) 1 16 Try.underlying43 hi0 hz0 hz1 hz2 rfl (by decide) v _ _ hs hown ad ys.length c (ys.map Value.string) hx (by simp) hnews (by simp [Value.oneCell']) (by unfold maxLen; omega) hlen hbase ?_
    intro v' w' h1 h2 _ h4
    refine h v' w' ?_ h2 h4
    unfold OwnS
    rw [List.length_append, List.map_append]
    exact h1
theorem ownS_lit (w : World) (xs : List ByteArray) (cs : Array Value) (h : cs.toList = xs.map Value.string) (hm : xs.length ≤ maxLen) : OwnS (w.alloc (.cells cs 9)) w.heap.size (.slice (some ⟨w.heap.size, 0, none⟩) xs.length xs.length) xs := by
  have hl : cs.size = xs.length * 1 := by rw [← Array.length_toList, h]; simp
  have := World.ownsRow_lit (base := w.heap.size) (e := 9) (size := 1) w cs xs.length (Nat.le_refl _) hm hl
  rw [h] at this
  exact this
theorem OwnS.all {w : World} {base : Nat} {v : Value} {xs : List ByteArray} (h : OwnS w base v xs) : ∃ (A : Option Addr) (c : Nat), v = .slice A xs.length c ∧ xs.length ≤ c ∧ c ≤ maxLen ∧ (A = none → c = 0) ∧ SlAt w w.heap.size 1 strCells A xs := by
  obtain ⟨A, c, rfl, h1, h2, h3, _⟩ := own_sl h
  refine ⟨A, c, rfl, h1, h2, fun e => ?_, h3⟩
  subst e
  rcases h.2 with ⟨e, _⟩ | ⟨_, _, _, e, _⟩
  · injection e with _ _ e
  · cases e
theorem OwnS.form {w : World} {base : Nat} {v : Value} {xs : List ByteArray} (h : OwnS w base v xs) (hn : 0 < xs.length) : ∃ g c, v = .slice (some ⟨g, 0, none⟩) xs.length c ∧ base ≤ g ∧ g < w.heap.size ∧ xs.length ≤ c ∧ c ≤ maxLen := by
  rcases h.2 with ⟨_, h0⟩ | ⟨g, c, cur, rfl, h1, h2, h3, h4, _⟩
  · omega
  · exact ⟨g, c, rfl, h1, lt_of_heap h2, h3, h4⟩
theorem OwnS.cell {w : World} {base g n c : Nat} {xs : List ByteArray} (h : OwnS w base (.slice (some ⟨g, 0, none⟩) n c) xs) {i : Nat} {x : ByteArray} (hx : xs[i]? = some x) : w.cell? ⟨g, i, none⟩ = some (.string x) := by
  have := h.cells (g := g) rfl i (.string x) (by rw [List.getElem?_map, hx]; rfl)
  rw [add_none] at this
  simpa using this
theorem OwnS.turns {w w' : World} {base : Nat} {v : Value} {l : List ByteArray} (h : OwnS w base v l) {S : List Nat} (ht : Turns S w w') (hs : ∀ b, v.ownBlock = some b → b ∉ S) : OwnS w' base v l := ownsRow_turns h ht hs
theorem OwnS.below {w w' : World} {base : Nat} {v : Value} {l : List ByteArray} (h : OwnS w base v l) (hb : Below w.heap.size w w') : OwnS w' base v l := ownsRow_turns h (Turns.of_below (S := []) hb) (fun _ _ => by simp)
/-- A list's front, read. -/
theorem OwnS.front {w : World} {base g n c : Nat} {xs ys : List ByteArray} (h : OwnS w base (.slice (some ⟨g, 0, none⟩) n c) (xs ++ ys)) : SlAt w w.heap.size 1 strCells (some ⟨g, 0, none⟩) xs := by
  rcases Nat.eq_zero_or_pos xs.length with h0 | hp
  · exact .inl (List.eq_nil_of_length_eq_zero h0)
  · obtain ⟨g', c', e, _, hlt, _⟩ := h.form (by rw [List.length_append]; omega)
    simp only [Value.slice.injEq, Option.some.injEq, Addr.mk.injEq, and_true] at e
    obtain ⟨rfl, _, _⟩ := e
    refine .inr ⟨g, 0, rfl, hlt, fun i x hx => ?_⟩
    intro j u hu
    match j, hu with
    | 0, hu =>
      simp only [strCells, List.getElem?_cons_zero, Option.some.injEq] at hu
      subst hu
      have := h.cell (i := i) (x := x) (by rw [List.getElem?_append_left (List.getElem?_eq_some_iff.1 hx).1]; exact hx)
      simpa using this
    | j + 1, hu => simp [strCells] at hu

theorem sl_oneS (w : World) (k : ByteArray) : SlAt (w.alloc (.cells #[.string k] 9)) (w.alloc (.cells #[.string k] 9)).heap.size 1 strCells (some ⟨w.heap.size, 0, none⟩) [k] := by
  refine .inr ⟨w.heap.size, 0, rfl, by simp, fun i x hx => ?_⟩
  obtain rfl : i = 0 := by have := (List.getElem?_eq_some_iff.1 hx).1; simpa using this
  simp only [List.getElem?_cons_zero, Option.some.injEq] at hx
  subst hx
  intro j u hu
  match j, hu with
  | 0, hu =>
    simp only [strCells, List.getElem?_cons_zero, Option.some.injEq] at hu
    subst hu
    exact cell_of_row _ _ 0 _ _ _ (heap_alloc_new w _)
  | j + 1, hu => simp [strCells] at hu
/-- One element written over. -/
theorem OwnS.put {w : World} {base g n cap : Nat} {l : List ByteArray} (h : OwnS w base (.slice (some ⟨g, 0, none⟩) n cap) l) (j : Nat) (x : ByteArray) :
    (∃ l', l'.length = l.length ∧ OwnS (w.setCell ⟨g, j, none⟩ (.string x)) base (.slice (some ⟨g, 0, none⟩) n cap) l') ∧ Turns [g] w (w.setCell ⟨g, j, none⟩ (.string x)) := by
  have hn : n = l.length := own_lenM h
  subst hn
  obtain ⟨h1, h2⟩ := World.ownsRow.stored (show w.ownsRow base 9 1 (.slice (some ⟨g, 0, none⟩) l.length cap) l.length (l.map Value.string) from h) j (.string x)
  refine ⟨⟨l.set j x, by simp, ?_⟩, by simpa using Turns.of_grown h2⟩
  unfold OwnS
  rw [List.length_set, List.map_set]
  exact h1
theorem OwnS.spot {w : World} {base g n cap : Nat} {l : List ByteArray} (h : OwnS w base (.slice (some ⟨g, 0, none⟩) n cap) l) {j : Nat} (hj : j < l.length) : (∃ u, w.cell? ⟨g, j, none⟩ = some u) ∧ w.frozen? ⟨g, j, none⟩ = false := by
  have hn : n = l.length := own_lenM h
  subst hn
  exact ⟨⟨_, h.cell (List.getElem?_eq_getElem hj)⟩, World.ownsRow.frozenAt (show w.ownsRow base 9 1 (.slice (some ⟨g, 0, none⟩) l.length cap) l.length (l.map Value.string) from h) _⟩

theorem foldK_pre (xs : List ByteArray) : ∀ ks : List ByteArray, ∃ t, xs.foldl addK ks = ks ++ t := by
  induction xs with
  | nil => intro ks; exact ⟨[], by simp⟩
  | cons a l ih =>
    intro ks
    obtain ⟨t, ht⟩ := ih (addK ks a)
    rw [List.foldl_cons, ht]
    unfold addK
    split
    · exact ⟨t, rfl⟩
    · exact ⟨a :: t, by simp⟩
theorem mem_foldK {x : ByteArray} (xs : List ByteArray) : ∀ ks : List ByteArray, (x ∈ ks ∨ x ∈ xs) → x ∈ xs.foldl addK ks := by
  induction xs with
  | nil => intro ks h; simpa using h
  | cons a l ih =>
    intro ks h
    rw [List.foldl_cons]
    refine ih _ ?_
    rcases h with h | h
    · left; unfold addK; split
      · exact h
      · exact List.mem_append_left _ h
    · rcases List.mem_cons.1 h with rfl | h
      · left; unfold addK; split
        · assumption
        · simp
      · exact .inr h
theorem mem_allK {x : ByteArray} {xs : List ByteArray} (h : x ∈ xs) : x ∈ allK xs := mem_foldK xs [] (.inr h)
def sOne : ByteArray := ⟨#[111, 110, 101]⟩
def sTwo : ByteArray := ⟨#[116, 119, 111]⟩
def sBehind : ByteArray := ⟨#[98, 101, 104, 105, 110, 100]⟩
def sSmudged : ByteArray := ⟨#[115, 109, 117, 100, 103, 101, 100]⟩
theorem allK_two (keys : List ByteArray) : (allK ([sOne, sTwo] ++ keys))[0]? = some sOne ∧ (allK ([sOne, sTwo] ++ keys))[1]? = some sTwo := by
  have e : allK ([sOne, sTwo] ++ keys) = keys.foldl addK [sOne, sTwo] := by
    unfold allK
    rw [List.foldl_append]
    congr 1
    show addK (addK [] sOne) sTwo = _
    have h1 : addK [] sOne = [sOne] := by unfold addK; rw [if_neg (by simp)]; rfl
    rw [h1]
    unfold addK
    rw [if_neg (by
      simp only [List.mem_singleton]
      intro h
      have := congrArg ByteArray.size h
      have h2 : sTwo.data = sOne.data := congrArg ByteArray.data h
      revert h2
      decide)]
    rfl
  obtain ⟨t, ht⟩ := foldK_pre keys [sOne, sTwo]
  rw [e, ht]
  exact ⟨rfl, rfl⟩
end Go.Proofs.Ytblonickpmogiaa
