/- `every`: All is asked, then a key comes, then it is ranged over twice, the first time left early. -/
import Derived.Test.YtblonickpmogiaaIdsAll
import Derived.Sort.CutIn
import Derived.Test.YtblonickpmogiaaBoth
namespace Go.Proofs.Ytblonickpmogiaa
open Go.RowKit Go.Maps Go.Shelf
attribute [local go_sem] Oper.semAt_some

/-- The ids have come in order. -/
def idsOk (pre : List (Nat × ByteArray)) : Bool := decide (pre.map (·.1) = List.range pre.length)
theorem idsOk_nil : idsOk [] = true := by decide
theorem idsOk_snoc (pre : List (Nat × ByteArray)) (x : Nat × ByteArray) : idsOk (pre ++ [x]) = (idsOk pre && ((x.1 : Int) == (pre.length : Int))) := by
  have e : (((x.1 : Int) == (pre.length : Int)) = decide (x.1 = pre.length)) := by
    by_cases h : x.1 = pre.length
    · simp [h]
    · simp [h]; omega
  rw [e]
  unfold idsOk
  rw [List.map_append, List.length_append, List.map_singleton, List.length_singleton, List.range_succ, ← Bool.decide_and]
  apply decide_eq_decide.2
  constructor
  · intro h
    have := List.append_inj' h rfl
    simpa using this
  · rintro ⟨h1, h2⟩
    rw [h1, h2]
theorem idsOk_pairs (ks : List ByteArray) (n : Nat) : idsOk (pairs ks n) = true := by
  unfold idsOk
  rw [pairs_fst, pairs_length]
  simp

/-- What a loop has gathered. -/
def strs (pre : List (Nat × ByteArray)) : List Value := pre.map fun x => .string x.2
theorem strs_snoc (pre : List (Nat × ByteArray)) (x : Nat × ByteArray) : strs (pre ++ [x]) = strs pre ++ [.string x.2] := by simp [strs]
theorem strs_pairs (ks : List ByteArray) {n : Nat} (h : n ≤ ks.length) : strs (pairs ks n) = (ks.take n).map Value.string := by
  rw [← pairs_snd ks h, List.map_map]; rfl

theorem ownFrom_turns {β : Type} {S : List Nat} {B : Nat} {w0 : World} (hB : w0.heap.size ≤ B) : OwnFrom B (fun (_ : β) W => Turns S w0 W) :=
  fun _ _ _ row hs hg hr => by
    have T := Turns.of_grown hg
    exact hs.trans T (fun x hx => .inr (Nat.le_trans hB (hr x (by simpa using hx)).1))

theorem run_equalIn_func_nil {P : Program} (w : World) (d : Nat) (t : TypeId) {ps rs : Array TypeId} {v : Bool} (f : Fn) (a b : Array Value) (h : P.underlying t = some (.func ps rs v)) :
    (Op.equalIn (d + 1) t (.func f a b) .nilFunc).run P w = .ok false w := by
  simp [Op.equalIn, run_underlying h]
theorem run_eql_func_nil {P : Program} (w : World) (t : TypeId) {ps rs : Array TypeId} {v : Bool} (f : Fn) (a b : Array Value) (h : P.underlying t = some (.func ps rs v)) :
    (binOp .eql t (.func f a b) .nilFunc).run P w = .ok (.bool false) w := by
  simp only [binOp]
  simp [Op.equal, Op.maxDepth, run_equalIn_func_nil w 9999 t f a b h]


/-- What is no block of the Ids lies as it lay. -/
theorem left_box {base : Nat} {w w0 w3 : World} {g m : Nat} {s : Value} {ks ks' : List ByteArray} (hl : Left Try.prog kindS base w0 g m s ks' w3) (h : IdsAt Try.prog kindS base w g m s ks) {b : Nat} {o : Obj} (hb : w.heap.size ≤ b) (ho : w0.heap[b]? = some o) : w3.heap[b]? = some o := by
  obtain ⟨_, _, ht, _⟩ := hl
  exact (ht.block b (lt_of_heap ho) (fun hm => by have := (h.foot_lt b hm).2; omega)).trans ho

theorem ownsRow_weak {w : World} {base base' : Nat} {e : TypeId} {size n : Nat} {v : Value} {xs : List Value} (ho : w.ownsRow base e size v n xs) (hb : base' ≤ base) : w.ownsRow base' e size v n xs :=
  ⟨ho.1, ho.2.imp id (fun ⟨g, c, cur, h1, h2, h3⟩ => ⟨g, c, cur, h1, Nat.le_trans hb h2, h3⟩)⟩

/-- A loop's list, in the box B1: one element comes. -/
theorem push1 {S : List Nat} {W0 W w1 : World} {n₀ B1 : Nat} {v v' : Value} {k m : Nat} {xs ys : List Value} {tmp : Obj} (hS : B1 ∈ S) (hle : n₀ ≤ W0.heap.size) (hB1 : n₀ ≤ B1)
    (hv : Boxed W B1 43 v) (hrow : W.ownsRow W0.heap.size 9 1 v k xs) (hT : Turns S W0 W) (hown' : w1.ownsRow W0.heap.size 9 1 v' m ys) (hgrow : (W.alloc tmp).grownBy w1 v.ownBlock) :
    Boxed w1 B1 43 v ∧ Boxed (w1.setCell ⟨B1, 0, none⟩ v') B1 43 v' ∧ (w1.setCell ⟨B1, 0, none⟩ v').ownsRow W0.heap.size 9 1 v' m ys ∧ KeepsOthers W (w1.setCell ⟨B1, 0, none⟩ v') ∧ Below n₀ W (w1.setCell ⟨B1, 0, none⟩ v') ∧
      Turns S W0 (w1.setCell ⟨B1, 0, none⟩ v') := by
  obtain ⟨hv1, hv2, _, hk2, hb2⟩ := hv.appended (by decide) (ownsRow_weak hrow hle) (Nat.le_trans hle hT.size) hB1 (ownsRow_weak hown' hle) hgrow
  refine ⟨hv1, hv2, hown'.kept (grownBy_setCell' w1 B1 v') (.inr (hv1.not_row (by decide) hown').symm), hk2, hb2, ?_⟩
  refine ((hT.alloc tmp).trans (Turns.of_grown hgrow) (fun x hx => .inr (ownBlock_cells hrow (by simpa using hx)).1)).setCell (.inl hS) _

/-- Another box stays. -/
theorem push1_box {W0 W w1 : World} {B1 B2 : Nat} {t : TypeId} {v v' b : Value} {k : Nat} {xs : List Value} {tmp : Obj} (ht : t ≠ 9) (hne : B2 ≠ B1) (hrow : W.ownsRow W0.heap.size 9 1 v k xs) (hf : Boxed W B2 t b) (hgrow : (W.alloc tmp).grownBy w1 v.ownBlock) :
    Boxed (w1.setCell ⟨B1, 0, none⟩ v') B2 t b := ((hf.alloc tmp).kept hgrow (hf.not_row ht hrow)).other hne v'

/-- The flag is stored. -/
theorem flagged {S : List Nat} {W0 W : World} {n₀ B1 B2 : Nat} {v b b' : Value} {k : Nat} {xs : List Value} (hS : B2 ∈ S) (hB2 : n₀ ≤ B2) (hne : B1 ≠ B2)
    (hv : Boxed W B1 43 v) (hrow : W.ownsRow W0.heap.size 9 1 v k xs) (hf : Boxed W B2 4 b) (hT : Turns S W0 W) :
    Boxed (W.setCell ⟨B2, 0, none⟩ b') B1 43 v ∧ (W.setCell ⟨B2, 0, none⟩ b').ownsRow W0.heap.size 9 1 v k xs ∧ Boxed (W.setCell ⟨B2, 0, none⟩ b') B2 4 b' ∧ Turns S W0 (W.setCell ⟨B2, 0, none⟩ b') ∧ KeepsOthers W (W.setCell ⟨B2, 0, none⟩ b') ∧ Below n₀ W (W.setCell ⟨B2, 0, none⟩ b') :=
  ⟨hv.other hne _, hrow.kept (grownBy_setCell' W B2 b') (.inr (hf.not_row (by decide) hrow).symm), hf.set _, hT.setCell (.inl hS) _, KeepsOthers.setCell _ _ _, (Below.refl _ W).setCell (p := ⟨B2, 0, none⟩) hB2 _⟩

theorem cell_one_set (w : World) (p : Addr) (v x : Value) (t : TypeId) : ∀ j u, [x][j]? = some u → ((w.setCell p v).alloc (.cells #[x] t)).cell? ((⟨w.heap.size, 0, none⟩ : Addr).add j) = some u := by
  have h := cell_one_new (w.setCell p v) x t
  have e : (w.setCell p v).heap.size = w.heap.size := by simp [World.setCell]
  rw [e] at h
  exact h

/-- The marks that a loop left. -/
def Marked (n₀ : Nat) (ds : List Deferred) (W : World) : Prop := ds = [] ∨ ∃ D, ds = [{ target := .collected D, args := #[] }] ∧ n₀ ≤ D ∧ W.heap[D]? = some (.deferred (some []))
end Go.Proofs.Ytblonickpmogiaa
