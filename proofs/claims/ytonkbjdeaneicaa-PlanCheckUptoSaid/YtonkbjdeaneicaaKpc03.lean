/- 'Turns S w w'': of what was there only the blocks of S may have turned. Over any program. Words for data with depth that are read: slices of structs with slices in them; their blocks stay. Over any program. -/
import Derived.Test.YtonkbjdeaneicaaKpc01
import Derived.Below
import Derived.Deep.AppendLies
import Derived.Deep.Draws
import Derived.WalkKit
namespace Go.Proofs.Ytonkbjdeaneicaa
open Go.RowKit

structure Turns (S : List Nat) (w w' : World) : Prop where
  os : w'.os = w.os
  tape : w'.tape = w.tape
  output : w'.output = w.output
  size : w.heap.size ≤ w'.heap.size
  block : ∀ k, k < w.heap.size → k ∉ S → w'.heap[k]? = w.heap[k]?

theorem Turns.refl (S : List Nat) (w : World) : Turns S w w := ⟨rfl, rfl, rfl, Nat.le_refl _, fun _ _ _ => rfl⟩
theorem Turns.mono {S S' : List Nat} {w w' : World} (h : Turns S w w') (hs : ∀ k ∈ S, k ∈ S') : Turns S' w w' :=
  ⟨h.os, h.tape, h.output, h.size, fun k hk hn => h.block k hk (fun hi => hn (hs k hi))⟩
/-- Two steps; the second's blocks are the first's, or are new. -/
theorem Turns.trans {S S' : List Nat} {a b c : World} (h : Turns S a b) (k : Turns S' b c) (hs : ∀ x ∈ S', x ∈ S ∨ a.heap.size ≤ x) : Turns S a c :=
  ⟨k.os.trans h.os, k.tape.trans h.tape, k.output.trans h.output, Nat.le_trans h.size k.size, fun i hi hn =>
    (k.block i (Nat.lt_of_lt_of_le hi h.size) (fun hm => by rcases hs i hm with h1 | h1; exact hn h1; omega)).trans (h.block i hi hn)⟩
theorem Turns.of_below {S : List Nat} {w w' : World} (h : Below w.heap.size w w') : Turns S w w' := ⟨h.os, h.tape, h.output, h.size, fun k hk _ => h.block k hk⟩
theorem Turns.below {S : List Nat} {B : Nat} {w w' : World} (h : Turns S w w') (hB : B ≤ w.heap.size) (hs : ∀ x ∈ S, B ≤ x) : Below B w w' :=
  ⟨h.os, h.tape, h.output, h.size, fun k hk => h.block k (by omega) (fun hm => by have := hs k hm; omega)⟩
theorem Turns.of_grown {w w' : World} {row : Option Nat} (h : w.grownBy w' row) : Turns row.toList w w' :=
  ⟨h.os, h.tape, h.output, h.size, fun k hk hn => h.block k hk (fun e => hn (by rw [← e]; simp))⟩
theorem Turns.drewN {S : List Nat} {a w : World} (h : Turns S a w) (n : Nat) : Turns S a (w.drewN n) := ⟨h.os, h.tape, h.output, h.size, h.block⟩
theorem Turns.drew {S : List Nat} {a w : World} (h : Turns S a w) : Turns S a w.drew := ⟨h.os, h.tape, h.output, h.size, h.block⟩
theorem Turns.alloc {S : List Nat} {a w : World} (h : Turns S a w) (o : Obj) : Turns S a (w.alloc o) :=
  h.trans (S' := []) (.of_below ((Below.refl _ _).alloc (Nat.le_refl _) o)) (fun x hx => by simp at hx)
theorem Turns.setCell {S : List Nat} {a w : World} (h : Turns S a w) {p : Addr} (hp : p.block ∈ S ∨ a.heap.size ≤ p.block) (u : Value) : Turns S a (w.setCell p u) :=
  h.trans (S' := [p.block]) ⟨rfl, rfl, rfl, by simp [World.setCell], fun k _ hn => Below.heap_setCell _ _ _ _ (by simpa using hn)⟩ (fun x hx => by rw [List.mem_singleton.1 hx]; exact hp)
theorem Turns.cell {S : List Nat} {w w' : World} (h : Turns S w w') {b o : Nat} (hb : b < w.heap.size) (hs : b ∉ S) : w'.cell? ⟨b, o, none⟩ = w.cell? ⟨b, o, none⟩ :=
  World.cell?_of_block (a := ⟨b, o, none⟩) (h.block b hb hs)

/-- A row of the call's own stays, where its block does not turn. -/
theorem ownsRow_turns {S : List Nat} {w w' : World} {base : Nat} {e : TypeId} {size : Nat} {v : Value} {n : Nat} {xs : List Value} (h : w.ownsRow base e size v n xs) (ht : Turns S w w') (hs : ∀ b, v.ownBlock = some b → b ∉ S) : w'.ownsRow base e size v n xs := by
  obtain ⟨h1, h2⟩ := h
  refine ⟨h1, ?_⟩
  rcases h2 with h2 | ⟨g, cap, cur, hv, hg, hh, r⟩
  · exact Or.inl h2
  · have hlt : g < w.heap.size := by
      rcases Nat.lt_or_ge g w.heap.size with h | h
      · exact h
      · rw [Array.getElem?_eq_none h] at hh; cases hh
    exact Or.inr ⟨g, cap, cur, hv, hg, by rw [ht.block g hlt (hs g (by rw [hv]; rfl))]; exact hh, r⟩
/-- The block of an owned row is there, and is of its element's type. -/
theorem ownBlock_cells {w : World} {base : Nat} {e : TypeId} {size : Nat} {v : Value} {n : Nat} {xs : List Value} (h : w.ownsRow base e size v n xs) {b : Nat} (hb : v.ownBlock = some b) :
    base ≤ b ∧ b < w.heap.size ∧ ∃ cur, w.heap[b]? = some (.cells cur e (0, 0)) := by
  rcases h.2 with ⟨rfl, _⟩ | ⟨g, cap, cur, rfl, hg, hh, _⟩
  · simp [Value.ownBlock] at hb
  · have : g = b := by simpa [Value.ownBlock] using hb
    subst this
    refine ⟨hg, ?_, cur, hh⟩
    rcases Nat.lt_or_ge g w.heap.size with h | h
    · exact h
    · rw [Array.getElem?_eq_none h] at hh; cases hh
theorem lt_of_heap {w : World} {b : Nat} {o : Obj} (h : w.heap[b]? = some o) : b < w.heap.size := by
  rcases Nat.lt_or_ge b w.heap.size with h1 | h1
  · exact h1
  · rw [Array.getElem?_eq_none h1] at h; cases h
end Go.Proofs.Ytonkbjdeaneicaa

namespace Go.Proofs.Ytonkbjdeaneicaa
open Go.RowKit

theorem rd_add (b off n : Nat) : (Addr.add ⟨b, off, none⟩ n) = ⟨b, off + n, none⟩ := by
  unfold Addr.add
  by_cases h : n = 0 <;> simp [h]

/-- The cells cs lie in block b from place o on. -/
def CsIn (w : World) (b o : Nat) (cs : List Value) : Prop := ∀ j u, cs[j]? = some u → w.cell? ⟨b, o + j, none⟩ = some u

/-- The blocks of F stay. -/
structure Kp (F : Nat → Prop) (w w' : World) : Prop where
  size : w.heap.size ≤ w'.heap.size
  block : ∀ b, b < w.heap.size → F b → w'.heap[b]? = w.heap[b]?
theorem Kp.refl (F : Nat → Prop) (w : World) : Kp F w w := ⟨Nat.le_refl _, fun _ _ _ => rfl⟩
theorem Kp.trans {F : Nat → Prop} {a b c : World} (h : Kp F a b) (k : Kp F b c) : Kp F a c :=
  ⟨Nat.le_trans h.size k.size, fun i hi hf => (k.block i (Nat.lt_of_lt_of_le hi h.size) hf).trans (h.block i hi hf)⟩
theorem Kp.of_below {F : Nat → Prop} {w w' : World} (h : Below w.heap.size w w') : Kp F w w' := ⟨h.size, fun b hb _ => h.block b hb⟩
theorem Kp.of_turns {F : Nat → Prop} {S : List Nat} {w w' : World} (h : Turns S w w') (hs : ∀ x ∈ S, ¬ F x) : Kp F w w' := ⟨h.size, fun b hb hf => h.block b hb (fun hm => hs b hm hf)⟩
theorem Kp.cell {F : Nat → Prop} {w w' : World} (h : Kp F w w') {b o : Nat} (hb : b < w.heap.size) (hf : F b) : w'.cell? ⟨b, o, none⟩ = w.cell? ⟨b, o, none⟩ :=
  World.cell?_of_block (a := ⟨b, o, none⟩) (h.block b hb hf)
theorem CsIn.kp {F : Nat → Prop} {w w' : World} {b o : Nat} {cs : List Value} (h : CsIn w b o cs) (hk : Kp F w w') (hb : b < w.heap.size) (hf : F b) : CsIn w' b o cs :=
  fun j u hu => (hk.cell hb hf).trans (h j u hu)

section
variable {α : Type}
/-- v is a slice with the elements xs, each of sz cells that say it as E says, in a block of F. -/
def RSl (F : Nat → Prop) (w : World) (sz : Nat) (E : List Value → α → Prop) (v : Value) (xs : List α) : Prop :=
  ∃ A c, v = .slice A xs.length c ∧ xs.length ≤ c ∧ c ≤ maxLen ∧ (A = none → c = 0) ∧ (xs = [] ∨ ∃ b off, A = some ⟨b, off, none⟩ ∧ F b ∧ b < w.heap.size ∧ ∀ i x, xs[i]? = some x → ∃ cs, E cs x ∧ CsIn w b (off + i * sz) cs)

variable {F F' : Nat → Prop} {w w' : World} {sz : Nat} {E E' : List Value → α → Prop} {v : Value} {xs : List α}
theorem RSl.kp (h : RSl F w sz E v xs) (hk : Kp F w w') (hF : ∀ b, b < w.heap.size → F b → F' b) (hE : ∀ cs x, E cs x → E' cs x) : RSl F' w' sz E' v xs := by
  obtain ⟨A, c, h1, h2, h3, h5, h4⟩ := h
  refine ⟨A, c, h1, h2, h3, h5, ?_⟩
  rcases h4 with h4 | ⟨b, off, hA, hf, hb, hc⟩
  · exact .inl h4
  · refine .inr ⟨b, off, hA, hF b hb hf, Nat.lt_of_lt_of_le hb hk.size, fun i x hx => ?_⟩
    obtain ⟨cs, e1, e2⟩ := hc i x hx
    exact ⟨cs, hE cs x e1, e2.kp hk hb hf⟩
theorem RSl.keep (h : RSl F w sz E v xs) (hk : Kp F w w') : RSl F w' sz E v xs := h.kp hk (fun _ _ h => h) (fun _ _ h => h)
theorem RSl.len (h : RSl F w sz E v xs) : xs.length ≤ maxLen := by
  obtain ⟨A, c, h1, h2, h3, _⟩ := h; omega
theorem RSl.form (h : RSl F w sz E v xs) : ∃ A c, v = .slice A xs.length c := by
  obtain ⟨A, c, h1, _⟩ := h; exact ⟨A, c, h1⟩
/-- Element i. -/
theorem RSl.at {A : Option Addr} {n c : Nat} (h : RSl F w sz E (.slice A n c) xs) {i : Nat} {x : α} (hx : xs[i]? = some x) :
    ∃ b off, A = some ⟨b, off, none⟩ ∧ F b ∧ b < w.heap.size ∧ ∃ cs, E cs x ∧ CsIn w b (off + i * sz) cs := by
  obtain ⟨A', c', h1, h2, h3, _, h4⟩ := h
  simp only [Value.slice.injEq] at h1
  obtain ⟨rfl, rfl, rfl⟩ := h1
  rcases h4 with rfl | ⟨b, off, hA, hf, hb, hc⟩
  · simp at hx
  · exact ⟨b, off, hA, hf, hb, hc i x hx⟩
theorem RSl.nil : RSl F w sz E (.slice none 0 0) ([] : List α) := ⟨none, 0, rfl, Nat.le_refl _, Nat.zero_le _, fun _ => rfl, .inl rfl⟩
/-- Out of a row of the call's own. -/
theorem RSl.of_own {base : Nat} {e : TypeId} {cells : List Value} {n : Nat} (h : w.ownsRow base e sz v n cells) (hn : n = xs.length) (hF : ∀ b, v.ownBlock = some b → F b)
    (hE : ∀ i x, xs[i]? = some x → ∃ cs, E cs x ∧ ∀ j u, cs[j]? = some u → cells[i * sz + j]? = some u) : RSl F w sz E v xs := by
  subst hn
  rcases h.2 with ⟨rfl, h0⟩ | ⟨g, cap, cur, rfl, hg, hh, h1, h2, h3, h4⟩
  · rw [List.eq_nil_of_length_eq_zero h0]; exact RSl.nil
  · refine ⟨_, cap, rfl, h1, h2, (fun h => by cases h), .inr ⟨g, 0, rfl, hF g rfl, lt_of_heap hh, fun i x hx => ?_⟩⟩
    obtain ⟨cs, e1, e2⟩ := hE i x hx
    refine ⟨cs, e1, fun j u hu => ?_⟩
    have := h.cells (g := g) rfl (i * sz + j) u (e2 j u hu)
    rw [rd_add] at this
    rw [Nat.zero_add]
    simpa using this
end

open Pln
def i64ok (n : Int) : Prop := (Lit.int .i64 n).wf = true
theorem i64ok.lo {n : Int} (h : i64ok n) : -9223372036854775808 ≤ n ∧ n ≤ 9223372036854775807 := by
  unfold i64ok at h
  simp [Lit.wf, IntKind.min, IntKind.max, IntKind.signed, IntKind.bits] at h
  exact h
def EInt (cs : List Value) (n : Int) : Prop := cs = [.int .i64 n] ∧ i64ok n
def EStr (cs : List Value) (s : ByteArray) : Prop := cs = [.string s] ∧ s.size ≤ maxLen
def ESlt (cs : List Value) (s : Slt) : Prop := cs = [.bool s.v, .int .i64 s.n] ∧ i64ok s.n
def ELnk (cs : List Value) (l : Int × Int) : Prop := cs = [.int .i64 l.1, .int .i64 l.2] ∧ i64ok l.1 ∧ i64ok l.2
def ETst (cs : List Value) (t : Tst) : Prop := cs = [.int .i64 t.op, .bool t.l.v, .int .i64 t.l.n, .bool t.r.v, .int .i64 t.r.n] ∧ i64ok t.op ∧ i64ok t.l.n ∧ i64ok t.r.n
def EPat (F : Nat → Prop) (w : World) (cs : List Value) (p : Pat) : Prop := ∃ v, cs = [.int .i64 p.pred, v] ∧ i64ok p.pred ∧ RSl F w 2 ESlt v p.args
def EShp (F : Nat → Prop) (w : World) (cs : List Value) (s : Shp) : Prop := ∃ v, cs = [.int .i64 s.pred, v] ∧ i64ok s.pred ∧ RSl F w 1 EInt v s.cells
structure ERl (F : Nat → Prop) (w : World) (cs : List Value) (r : Rl) (hv pv tv nv vv : Value) : Prop where
  cells : cs = [.int .i64 r.head.pred, hv, pv, tv, nv, vv, .int .i64 r.clause]
  hok : i64ok r.head.pred
  cok : i64ok r.clause
  head : RSl F w 2 ESlt hv r.head.args
  pos : RSl F w 2 (EPat F w) pv r.pos
  tests : RSl F w 5 ETst tv r.tests
  neg : RSl F w 2 (EPat F w) nv r.neg
  vars : RSl F w 1 EStr vv r.vars
def ERule (F : Nat → Prop) (w : World) (cs : List Value) (r : Rl) : Prop := ∃ hv pv tv nv vv, ERl F w cs r hv pv tv nv vv
structure ENd (F : Nat → Prop) (w : World) (cs : List Value) (n : Nd) (lv nv : Value) : Prop where
  cells : cs = [.int .i64 n.kind, .int .i64 n.parent, .int .i64 n.alpha, lv, nv, .int .i64 n.test.op, .bool n.test.l.v, .int .i64 n.test.l.n, .bool n.test.r.v, .int .i64 n.test.r.n, .int .i64 n.width]
  ok : i64ok n.kind ∧ i64ok n.parent ∧ i64ok n.alpha ∧ i64ok n.width ∧ i64ok n.test.op ∧ i64ok n.test.l.n ∧ i64ok n.test.r.n
  links : RSl F w 2 ELnk lv n.links
  new : RSl F w 1 EInt nv n.new
def ENode (F : Nat → Prop) (w : World) (cs : List Value) (n : Nd) : Prop := ∃ lv nv, ENd F w cs n lv nv

section
variable {F F' : Nat → Prop} {w w' : World} {cs : List Value}
theorem EPat.kp {p : Pat} (h : EPat F w cs p) (hk : Kp F w w') (hF : ∀ b, b < w.heap.size → F b → F' b) : EPat F' w' cs p := by
  obtain ⟨v, h1, h2, h3⟩ := h
  exact ⟨v, h1, h2, h3.kp hk hF (fun _ _ h => h)⟩
theorem EShp.kp {p : Shp} (h : EShp F w cs p) (hk : Kp F w w') (hF : ∀ b, b < w.heap.size → F b → F' b) : EShp F' w' cs p := by
  obtain ⟨v, h1, h2, h3⟩ := h
  exact ⟨v, h1, h2, h3.kp hk hF (fun _ _ h => h)⟩
theorem ERl.kp {r : Rl} {hv pv tv nv vv : Value} (h : ERl F w cs r hv pv tv nv vv) (hk : Kp F w w') (hF : ∀ b, b < w.heap.size → F b → F' b) : ERl F' w' cs r hv pv tv nv vv :=
  ⟨h.cells, h.hok, h.cok, h.head.kp hk hF (fun _ _ h => h), h.pos.kp hk hF (fun _ _ h => h.kp hk hF), h.tests.kp hk hF (fun _ _ h => h), h.neg.kp hk hF (fun _ _ h => h.kp hk hF), h.vars.kp hk hF (fun _ _ h => h)⟩
theorem ERule.kp {r : Rl} (h : ERule F w cs r) (hk : Kp F w w') (hF : ∀ b, b < w.heap.size → F b → F' b) : ERule F' w' cs r := by
  obtain ⟨hv, pv, tv, nv, vv, h⟩ := h
  exact ⟨hv, pv, tv, nv, vv, h.kp hk hF⟩
theorem ENd.kp {n : Nd} {lv nv : Value} (h : ENd F w cs n lv nv) (hk : Kp F w w') (hF : ∀ b, b < w.heap.size → F b → F' b) : ENd F' w' cs n lv nv :=
  ⟨h.cells, h.ok, h.links.kp hk hF (fun _ _ h => h), h.new.kp hk hF (fun _ _ h => h)⟩
theorem ENode.kp {n : Nd} (h : ENode F w cs n) (hk : Kp F w w') (hF : ∀ b, b < w.heap.size → F b → F' b) : ENode F' w' cs n := by
  obtain ⟨lv, nv, h⟩ := h
  exact ⟨lv, nv, h.kp hk hF⟩
/-- The rules' list. -/
abbrev RRules (F : Nat → Prop) (w : World) (v : Value) (rs : List Rl) : Prop := RSl F w 7 (ERule F w) v rs
theorem RRules.kp {v : Value} {rs : List Rl} (h : RRules F w v rs) (hk : Kp F w w') (hF : ∀ b, b < w.heap.size → F b → F' b) : RRules F' w' v rs := RSl.kp h hk hF (fun _ _ h => h.kp hk hF)
abbrev RPats (F : Nat → Prop) (w : World) (v : Value) (ps : List Pat) : Prop := RSl F w 2 (EPat F w) v ps
theorem RPats.kp {v : Value} {rs : List Pat} (h : RPats F w v rs) (hk : Kp F w w') (hF : ∀ b, b < w.heap.size → F b → F' b) : RPats F' w' v rs := RSl.kp h hk hF (fun _ _ h => h.kp hk hF)
end
end Go.Proofs.Ytonkbjdeaneicaa
