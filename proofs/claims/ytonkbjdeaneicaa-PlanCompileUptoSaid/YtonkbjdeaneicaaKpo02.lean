/- Words for data with depth that are read: slices of structs with slices in them; their blocks stay. Over any program. What a node asks, as 35 cells. Printed by wip/bin/asks.py. Plans, in plain Lean: rules that may be compiled; what a node says of its condition; ways that are one as far as the chains agree. -/
import Derived.Test.YtonkbjdeaneicaaKpo01
namespace Go.Proofs.Ytonkbjdeaneicaa
open Go.RowKit

theorem rd_add (b off n : Nat) : (Addr.add ⟨b, off, none⟩ n) = ⟨b, off + n, none⟩ := by
  unfold Addr.add
  by_cases h : n = 0 <;> simp [h]

/-- The cells cs lie in block b from place o on. -/
def CsIn (w : World) (b o : Nat) (cs : List Value) : Prop := ∀ j u, cs[j]? = some u → w.cell? ⟨b, o + j, none⟩ = some u

/-- The blocks of F stay. -/
structure Kp (F : Nat → Prop) (w w' : World) : Prop where
  size : w.heap.size ≤ w'.heap.size
  block : ∀ b, b < w.heap.size → F b → w'.heap[b]? = w.heap[b]?
theorem Kp.refl (F : Nat → Prop) (w : World) : Kp F w w := ⟨Nat.le_refl _, fun _ _ _ => rfl⟩
theorem Kp.trans {F : Nat → Prop} {a b c : World} (h : Kp F a b) (k : Kp F b c) : Kp F a c :=
  ⟨Nat.le_trans h.size k.size, fun i hi hf => (k.block i (Nat.lt_of_lt_of_le hi h.size) hf).trans (h.block i hi hf)⟩
theorem Kp.of_below {F : Nat → Prop} {w w' : World} (h : Below w.heap.size w w') : Kp F w w' := ⟨h.size, fun b hb _ => h.block b hb⟩
theorem Kp.of_turns {F : Nat → Prop} {S : List Nat} {w w' : World} (h : Turns S w w') (hs : ∀ x ∈ S, ¬ F x) : Kp F w w' := ⟨h.size, fun b hb hf => h.block b hb (fun hm => hs b hm hf)⟩
theorem Kp.cell {F : Nat → Prop} {w w' : World} (h : Kp F w w') {b o : Nat} (hb : b < w.heap.size) (hf : F b) : w'.cell? ⟨b, o, none⟩ = w.cell? ⟨b, o, none⟩ :=
  World.cell?_of_block (a := ⟨b, o, none⟩) (h.block b hb hf)
theorem CsIn.kp {F : Nat → Prop} {w w' : World} {b o : Nat} {cs : List Value} (h : CsIn w b o cs) (hk : Kp F w w') (hb : b < w.heap.size) (hf : F b) : CsIn w' b o cs :=
  fun j u hu => (hk.cell hb hf).trans (h j u hu)

section
variable {α : Type}
/-- v is a slice with the elements xs, each of sz cells that say it as E says, in a block of F. -/
def RSl (F : Nat → Prop) (w : World) (sz : Nat) (E : List Value → α → Prop) (v : Value) (xs : List α) : Prop :=
  ∃ A c, v = .slice A xs.length c ∧ xs.length ≤ c ∧ c ≤ maxLen ∧ (A = none → c = 0) ∧ (xs = [] ∨ ∃ b off, A = some ⟨b, off, none⟩ ∧ F b ∧ b < w.heap.size ∧ ∀ i x, xs[i]? = some x → ∃ cs, E cs x ∧ CsIn w b (off + i * sz) cs)

variable {F F' : Nat → Prop} {w w' : World} {sz : Nat} {E E' : List Value → α → Prop} {v : Value} {xs : List α}
theorem RSl.kp (h : RSl F w sz E v xs) (hk : Kp F w w') (hF : ∀ b, b < w.heap.size → F b → F' b) (hE : ∀ cs x, E cs x → E' cs x) : RSl F' w' sz E' v xs := by
  obtain ⟨A, c, h1, h2, h3, h5, h4⟩ := h
  refine ⟨A, c, h1, h2, h3, h5, ?_⟩
  rcases h4 with h4 | ⟨b, off, hA, hf, hb, hc⟩
  · exact .inl h4
  · refine .inr ⟨b, off, hA, hF b hb hf, Nat.lt_of_lt_of_le hb hk.size, fun i x hx => ?_⟩
    obtain ⟨cs, e1, e2⟩ := hc i x hx
    exact ⟨cs, hE cs x e1, e2.kp hk hb hf⟩
theorem RSl.keep (h : RSl F w sz E v xs) (hk : Kp F w w') : RSl F w' sz E v xs := h.kp hk (fun _ _ h => h) (fun _ _ h => h)
theorem RSl.len (h : RSl F w sz E v xs) : xs.length ≤ maxLen := by
  obtain ⟨A, c, h1, h2, h3, _⟩ := h; omega
theorem RSl.form (h : RSl F w sz E v xs) : ∃ A c, v = .slice A xs.length c := by
  obtain ⟨A, c, h1, _⟩ := h; exact ⟨A, c, h1⟩
/-- Element i. -/
theorem RSl.at {A : Option Addr} {n c : Nat} (h : RSl F w sz E (.slice A n c) xs) {i : Nat} {x : α} (hx : xs[i]? = some x) :
    ∃ b off, A = some ⟨b, off, none⟩ ∧ F b ∧ b < w.heap.size ∧ ∃ cs, E cs x ∧ CsIn w b (off + i * sz) cs := by
  obtain ⟨A', c', h1, h2, h3, _, h4⟩ := h
  simp only [Value.slice.injEq] at h1
  obtain ⟨rfl, rfl, rfl⟩ := h1
  rcases h4 with rfl | ⟨b, off, hA, hf, hb, hc⟩
  · simp at hx
  · exact ⟨b, off, hA, hf, hb, hc i x hx⟩
theorem RSl.nil : RSl F w sz E (.slice none 0 0) ([] : List α) := ⟨none, 0, rfl, Nat.le_refl _, Nat.zero_le _, fun _ => rfl, .inl rfl⟩
/-- Out of a row of the call's own. -/
theorem RSl.of_own {base : Nat} {e : TypeId} {cells : List Value} {n : Nat} (h : w.ownsRow base e sz v n cells) (hn : n = xs.length) (hF : ∀ b, v.ownBlock = some b → F b)
    (hE : ∀ i x, xs[i]? = some x → ∃ cs, E cs x ∧ ∀ j u, cs[j]? = some u → cells[i * sz + j]? = some u) : RSl F w sz E v xs := by
  subst hn
  rcases h.2 with ⟨rfl, h0⟩ | ⟨g, cap, cur, rfl, hg, hh, h1, h2, h3, h4⟩
  · rw [List.eq_nil_of_length_eq_zero h0]; exact RSl.nil
  · refine ⟨_, cap, rfl, h1, h2, (fun h => by cases h), .inr ⟨g, 0, rfl, hF g rfl, lt_of_heap hh, fun i x hx => ?_⟩⟩
    obtain ⟨cs, e1, e2⟩ := hE i x hx
    refine ⟨cs, e1, fun j u hu => ?_⟩
    have := h.cells (g := g) rfl (i * sz + j) u (e2 j u hu)
    rw [rd_add] at this
    rw [Nat.zero_add]
    simpa using this
end

open Pln
def i64ok (n : Int) : Prop := (Lit.int .i64 n).wf = true
theorem i64ok.lo {n : Int} (h : i64ok n) : -9223372036854775808 ≤ n ∧ n ≤ 9223372036854775807 := by
  unfold i64ok at h
  simp [Lit.wf, IntKind.min, IntKind.max, IntKind.signed, IntKind.bits] at h
  exact h
def EInt (cs : List Value) (n : Int) : Prop := cs = [.int .i64 n] ∧ i64ok n
def EStr (cs : List Value) (s : ByteArray) : Prop := cs = [.string s] ∧ s.size ≤ maxLen
def ESlt (cs : List Value) (s : Slt) : Prop := cs = [.bool s.v, .int .i64 s.n] ∧ i64ok s.n
def ELnk (cs : List Value) (l : Int × Int) : Prop := cs = [.int .i64 l.1, .int .i64 l.2] ∧ i64ok l.1 ∧ i64ok l.2
def ETst (cs : List Value) (t : Tst) : Prop := cs = [.int .i64 t.op, .bool t.l.v, .int .i64 t.l.n, .bool t.r.v, .int .i64 t.r.n] ∧ i64ok t.op ∧ i64ok t.l.n ∧ i64ok t.r.n
def EPat (F : Nat → Prop) (w : World) (cs : List Value) (p : Pat) : Prop := ∃ v, cs = [.int .i64 p.pred, v] ∧ i64ok p.pred ∧ RSl F w 2 ESlt v p.args
def EShp (F : Nat → Prop) (w : World) (cs : List Value) (s : Shp) : Prop := ∃ v, cs = [.int .i64 s.pred, v] ∧ i64ok s.pred ∧ RSl F w 1 EInt v s.cells
structure ERl (F : Nat → Prop) (w : World) (cs : List Value) (r : Rl) (hv pv tv nv vv : Value) : Prop where
  cells : cs = [.int .i64 r.head.pred, hv, pv, tv, nv, vv, .int .i64 r.clause]
  hok : i64ok r.head.pred
  cok : i64ok r.clause
  head : RSl F w 2 ESlt hv r.head.args
  pos : RSl F w 2 (EPat F w) pv r.pos
  tests : RSl F w 5 ETst tv r.tests
  neg : RSl F w 2 (EPat F w) nv r.neg
  vars : RSl F w 1 EStr vv r.vars
def ERule (F : Nat → Prop) (w : World) (cs : List Value) (r : Rl) : Prop := ∃ hv pv tv nv vv, ERl F w cs r hv pv tv nv vv
structure ENd (F : Nat → Prop) (w : World) (cs : List Value) (n : Nd) (lv nv : Value) : Prop where
  cells : cs = [.int .i64 n.kind, .int .i64 n.parent, .int .i64 n.alpha, lv, nv, .int .i64 n.test.op, .bool n.test.l.v, .int .i64 n.test.l.n, .bool n.test.r.v, .int .i64 n.test.r.n, .int .i64 n.width]
  ok : i64ok n.kind ∧ i64ok n.parent ∧ i64ok n.alpha ∧ i64ok n.width ∧ i64ok n.test.op ∧ i64ok n.test.l.n ∧ i64ok n.test.r.n
  links : RSl F w 2 ELnk lv n.links
  new : RSl F w 1 EInt nv n.new
def ENode (F : Nat → Prop) (w : World) (cs : List Value) (n : Nd) : Prop := ∃ lv nv, ENd F w cs n lv nv

section
variable {F F' : Nat → Prop} {w w' : World} {cs : List Value}
theorem EPat.kp {p : Pat} (h : EPat F w cs p) (hk : Kp F w w') (hF : ∀ b, b < w.heap.size → F b → F' b) : EPat F' w' cs p := by
  obtain ⟨v, h1, h2, h3⟩ := h
  exact ⟨v, h1, h2, h3.kp hk hF (fun _ _ h => h)⟩
theorem EShp.kp {p : Shp} (h : EShp F w cs p) (hk : Kp F w w') (hF : ∀ b, b < w.heap.size → F b → F' b) : EShp F' w' cs p := by
  obtain ⟨v, h1, h2, h3⟩ := h
  exact ⟨v, h1, h2, h3.kp hk hF (fun _ _ h => h)⟩
theorem ERl.kp {r : Rl} {hv pv tv nv vv : Value} (h : ERl F w cs r hv pv tv nv vv) (hk : Kp F w w') (hF : ∀ b, b < w.heap.size → F b → F' b) : ERl F' w' cs r hv pv tv nv vv :=
  ⟨h.cells, h.hok, h.cok, h.head.kp hk hF (fun _ _ h => h), h.pos.kp hk hF (fun _ _ h => h.kp hk hF), h.tests.kp hk hF (fun _ _ h => h), h.neg.kp hk hF (fun _ _ h => h.kp hk hF), h.vars.kp hk hF (fun _ _ h => h)⟩
theorem ERule.kp {r : Rl} (h : ERule F w cs r) (hk : Kp F w w') (hF : ∀ b, b < w.heap.size → F b → F' b) : ERule F' w' cs r := by
  obtain ⟨hv, pv, tv, nv, vv, h⟩ := h
  exact ⟨hv, pv, tv, nv, vv, h.kp hk hF⟩
theorem ENd.kp {n : Nd} {lv nv : Value} (h : ENd F w cs n lv nv) (hk : Kp F w w') (hF : ∀ b, b < w.heap.size → F b → F' b) : ENd F' w' cs n lv nv :=
  ⟨h.cells, h.ok, h.links.kp hk hF (fun _ _ h => h), h.new.kp hk hF (fun _ _ h => h)⟩
theorem ENode.kp {n : Nd} (h : ENode F w cs n) (hk : Kp F w w') (hF : ∀ b, b < w.heap.size → F b → F' b) : ENode F' w' cs n := by
  obtain ⟨lv, nv, h⟩ := h
  exact ⟨lv, nv, h.kp hk hF⟩
/-- The rules' list. -/
abbrev RRules (F : Nat → Prop) (w : World) (v : Value) (rs : List Rl) : Prop := RSl F w 7 (ERule F w) v rs
theorem RRules.kp {v : Value} {rs : List Rl} (h : RRules F w v rs) (hk : Kp F w w') (hF : ∀ b, b < w.heap.size → F b → F' b) : RRules F' w' v rs := RSl.kp h hk hF (fun _ _ h => h.kp hk hF)
abbrev RPats (F : Nat → Prop) (w : World) (v : Value) (ps : List Pat) : Prop := RSl F w 2 (EPat F w) v ps
theorem RPats.kp {v : Value} {rs : List Pat} (h : RPats F w v rs) (hk : Kp F w w') (hF : ∀ b, b < w.heap.size → F b → F' b) : RPats F' w' v rs := RSl.kp h hk hF (fun _ _ h => h.kp hk hF)
end
end Go.Proofs.Ytonkbjdeaneicaa

namespace Go.Proofs.Ytonkbjdeaneicaa
open Go Go.RowKit Pln

def li (l : List (Int × Int)) (j : Nat) : Int := if j % 2 = 0 then ((l[j / 2]?).map (·.1)).getD 0 else ((l[j / 2]?).map (·.2)).getD 0
def mi (m : List Int) (j : Nat) : Int := (m[j]?).getD 0
def lcells (l : List (Int × Int)) : List Value := l.flatMap fun x => [.int .i64 x.1, .int .i64 x.2]
def ncells (m : List Int) : List Value := m.map (Value.int .i64)
theorem lcells_len (l : List (Int × Int)) : (lcells l).length = l.length * 2 := by
  induction l with
  | nil => rfl
  | cons a r ih => simp only [lcells, List.flatMap_cons, List.length_append, List.length_cons, List.length_nil] at ih ⊢; omega
theorem lcells_at {l : List (Int × Int)} {k : Nat} {x : Int × Int} (h : l[k]? = some x) : (lcells l)[k * 2]? = some (.int .i64 x.1) ∧ (lcells l)[k * 2 + 1]? = some (.int .i64 x.2) := by
  induction l generalizing k with
  | nil => simp at h
  | cons a r ih =>
    match k with
    | 0 =>
      simp at h
      subst h
      exact ⟨rfl, rfl⟩
    | k + 1 =>
      have e : lcells (a :: r) = .int .i64 a.1 :: .int .i64 a.2 :: lcells r := rfl
      rw [e, show (k + 1) * 2 = k * 2 + 1 + 1 by omega]
      simp only [List.getElem?_cons_succ]
      exact ih (by simpa using h)
theorem splice_l (h0 h1 h2 h3 h4 h5 h6 h7 h8 q wd : Value) (l : List (Int × Int)) (hl : l.length ≤ 8) : splice [h0, h1, h2, h3, h4, h5, h6, h7, h8, .int .i64 0, .int .i64 0, .int .i64 0, .int .i64 0, .int .i64 0, .int .i64 0, .int .i64 0, .int .i64 0, .int .i64 0, .int .i64 0, .int .i64 0, .int .i64 0, .int .i64 0, .int .i64 0, .int .i64 0, .int .i64 0, q, .int .i64 0, .int .i64 0, .int .i64 0, .int .i64 0, .int .i64 0, .int .i64 0, .int .i64 0, .int .i64 0, wd] 9 (lcells l) = [h0, h1, h2, h3, h4, h5, h6, h7, h8, .int .i64 (li l 0), .int .i64 (li l 1), .int .i64 (li l 2), .int .i64 (li l 3), .int .i64 (li l 4), .int .i64 (li l 5), .int .i64 (li l 6), .int .i64 (li l 7), .int .i64 (li l 8), .int .i64 (li l 9), .int .i64 (li l 10), .int .i64 (li l 11), .int .i64 (li l 12), .int .i64 (li l 13), .int .i64 (li l 14), .int .i64 (li l 15), q, .int .i64 0, .int .i64 0, .int .i64 0, .int .i64 0, .int .i64 0, .int .i64 0, .int .i64 0, .int .i64 0, wd] := by
  match l, hl with
  | [], _ => rfl
  | [a0], _ => rfl
  | [a0, a1], _ => rfl
  | [a0, a1, a2], _ => rfl
  | [a0, a1, a2, a3], _ => rfl
  | [a0, a1, a2, a3, a4], _ => rfl
  | [a0, a1, a2, a3, a4, a5], _ => rfl
  | [a0, a1, a2, a3, a4, a5, a6], _ => rfl
  | [a0, a1, a2, a3, a4, a5, a6, a7], _ => rfl
theorem splice_m (h0 h1 h2 h3 h4 h5 h6 h7 h8 x0 x1 x2 x3 x4 x5 x6 x7 x8 x9 x10 x11 x12 x13 x14 x15 q wd : Value) (m : List Int) (hl : m.length ≤ 8) : splice [h0, h1, h2, h3, h4, h5, h6, h7, h8, x0, x1, x2, x3, x4, x5, x6, x7, x8, x9, x10, x11, x12, x13, x14, x15, q, .int .i64 0, .int .i64 0, .int .i64 0, .int .i64 0, .int .i64 0, .int .i64 0, .int .i64 0, .int .i64 0, wd] 26 (ncells m) = [h0, h1, h2, h3, h4, h5, h6, h7, h8, x0, x1, x2, x3, x4, x5, x6, x7, x8, x9, x10, x11, x12, x13, x14, x15, q, .int .i64 (mi m 0), .int .i64 (mi m 1), .int .i64 (mi m 2), .int .i64 (mi m 3), .int .i64 (mi m 4), .int .i64 (mi m 5), .int .i64 (mi m 6), .int .i64 (mi m 7), wd] := by
  match m, hl with
  | [], _ => rfl
  | [a0], _ => rfl
  | [a0, a1], _ => rfl
  | [a0, a1, a2], _ => rfl
  | [a0, a1, a2, a3], _ => rfl
  | [a0, a1, a2, a3, a4], _ => rfl
  | [a0, a1, a2, a3, a4, a5], _ => rfl
  | [a0, a1, a2, a3, a4, a5, a6], _ => rfl
  | [a0, a1, a2, a3, a4, a5, a6, a7], _ => rfl
/-- What a node asks. -/
def askA (n : Nd) : Array Value := #[.int .i64 n.kind, .int .i64 n.parent, .int .i64 n.alpha, .int .i64 n.test.op, .bool n.test.l.v, .int .i64 n.test.l.n, .bool n.test.r.v, .int .i64 n.test.r.n, .int .i64 n.links.length, .int .i64 (li n.links 0), .int .i64 (li n.links 1), .int .i64 (li n.links 2), .int .i64 (li n.links 3), .int .i64 (li n.links 4), .int .i64 (li n.links 5), .int .i64 (li n.links 6), .int .i64 (li n.links 7), .int .i64 (li n.links 8), .int .i64 (li n.links 9), .int .i64 (li n.links 10), .int .i64 (li n.links 11), .int .i64 (li n.links 12), .int .i64 (li n.links 13), .int .i64 (li n.links 14), .int .i64 (li n.links 15), .int .i64 n.new.length, .int .i64 (mi n.new 0), .int .i64 (mi n.new 1), .int .i64 (mi n.new 2), .int .i64 (mi n.new 3), .int .i64 (mi n.new 4), .int .i64 (mi n.new 5), .int .i64 (mi n.new 6), .int .i64 (mi n.new 7), .int .i64 n.width]
theorem li_inj {a b : List (Int × Int)} (ha : a.length ≤ 8) (hl : a.length = b.length) (h : ∀ j, j < 16 → li a j = li b j) : a = b := by
  apply List.ext_getElem?
  intro i
  rcases Nat.lt_or_ge i a.length with h1 | h1
  · have e1 := h (2 * i) (by omega)
    have e2 := h (2 * i + 1) (by omega)
    unfold li at e1 e2
    rw [if_pos (by omega), if_pos (by omega), show 2 * i / 2 = i by omega] at e1
    rw [if_neg (by omega), if_neg (by omega), show (2 * i + 1) / 2 = i by omega] at e2
    rw [List.getElem?_eq_getElem h1, List.getElem?_eq_getElem (show i < b.length by omega)] at e1 e2 ⊢
    simp only [Option.map_some, Option.getD_some] at e1 e2
    exact congrArg some (Prod.ext e1 e2)
  · rw [List.getElem?_eq_none h1, List.getElem?_eq_none (by omega)]
theorem mi_inj {a b : List Int} (ha : a.length ≤ 8) (hl : a.length = b.length) (h : ∀ j, j < 8 → mi a j = mi b j) : a = b := by
  apply List.ext_getElem?
  intro i
  rcases Nat.lt_or_ge i a.length with h1 | h1
  · have e1 := h i (by omega)
    unfold mi at e1
    rw [List.getElem?_eq_getElem h1, List.getElem?_eq_getElem (show i < b.length by omega)] at e1 ⊢
    simp only [Option.getD_some] at e1
    rw [e1]
  · rw [List.getElem?_eq_none h1, List.getElem?_eq_none (by omega)]
theorem askA_size (n : Nd) : (askA n).size = 35 := rfl
theorem askA_one (n : Nd) : (askA n).all (·.oneCell') = true := by simp [askA, Value.oneCell']
theorem askA_at {n m : Nd} (h : askA n = askA m) (j : Nat) : (askA n)[j]? = (askA m)[j]? := by rw [h]
theorem askA_inj {n m : Nd} (h : askA n = askA m) (hl : n.links.length ≤ 8) (hn : n.new.length ≤ 8) : n = m := by
  have J := fun j => askA_at h j
  have e0 := J 0
  have e1 := J 1
  have e2 := J 2
  have e3 := J 3
  have e4 := J 4
  have e5 := J 5
  have e6 := J 6
  have e7 := J 7
  have e8 := J 8
  have e9 := J 9
  have e10 := J 10
  have e11 := J 11
  have e12 := J 12
  have e13 := J 13
  have e14 := J 14
  have e15 := J 15
  have e16 := J 16
  have e17 := J 17
  have e18 := J 18
  have e19 := J 19
  have e20 := J 20
  have e21 := J 21
  have e22 := J 22
  have e23 := J 23
  have e24 := J 24
  have e25 := J 25
  have e26 := J 26
  have e27 := J 27
  have e28 := J 28
  have e29 := J 29
  have e30 := J 30
  have e31 := J 31
  have e32 := J 32
  have e33 := J 33
  have e34 := J 34
  simp only [askA, List.getElem?_toArray, List.getElem?_cons_succ, List.getElem?_cons_zero, Option.some.injEq, Value.int.injEq, Value.bool.injEq, true_and] at e0 e1 e2 e3 e4 e5 e6 e7 e8 e9 e10 e11 e12 e13 e14 e15 e16 e17 e18 e19 e20 e21 e22 e23 e24 e25 e26 e27 e28 e29 e30 e31 e32 e33 e34
  have hL : n.links = m.links := li_inj hl (by omega) (fun j hj => by
    match j, hj with
    | 0, _ => exact e9
    | 1, _ => exact e10
    | 2, _ => exact e11
    | 3, _ => exact e12
    | 4, _ => exact e13
    | 5, _ => exact e14
    | 6, _ => exact e15
    | 7, _ => exact e16
    | 8, _ => exact e17
    | 9, _ => exact e18
    | 10, _ => exact e19
    | 11, _ => exact e20
    | 12, _ => exact e21
    | 13, _ => exact e22
    | 14, _ => exact e23
    | 15, _ => exact e24
    | j + 16, h => omega)
  have hM : n.new = m.new := mi_inj hn (by omega) (fun j hj => by
    match j, hj with
    | 0, _ => exact e26
    | 1, _ => exact e27
    | 2, _ => exact e28
    | 3, _ => exact e29
    | 4, _ => exact e30
    | 5, _ => exact e31
    | 6, _ => exact e32
    | 7, _ => exact e33
    | j + 8, h => omega)
  obtain ⟨a1, a2, a3, a4, a5, ⟨b1, ⟨c1, c2⟩, ⟨d1, d2⟩⟩, a7⟩ := n
  obtain ⟨a1', a2', a3', a4', a5', ⟨b1', ⟨c1', c2'⟩, ⟨d1', d2'⟩⟩, a7'⟩ := m
  simp only at e0 e1 e2 e3 e4 e5 e6 e7 e34 hL hM
  rw [e0, e1, e2, e3, e4, e5, e6, e7, e34, hL, hM]
end Go.Proofs.Ytonkbjdeaneicaa

namespace Go.Proofs.Ytonkbjdeaneicaa.Pln
open Classical

/-- How many variables are bound behind the slots. -/
noncomputable def scanD : List Slt → Nat → Nat
  | [], w => w
  | s :: r, w => scanD r (if s.v = true ∧ s.n = (w : Int) then w + 1 else w)
/-- Numbers 0 and above; new variables come in order. -/
def okA : List Slt → Nat → Prop
  | [], _ => True
  | s :: r, w => 0 ≤ s.n ∧ (s.v = true → s.n ≤ (w : Int)) ∧ okA r (if s.v = true ∧ s.n = (w : Int) then w + 1 else w)
def belowP (w : Nat) (s : Slt) : Prop := 0 ≤ s.n ∧ (s.v = true → s.n < (w : Int))

theorem scanD_app (a b : List Slt) : ∀ w, scanD (a ++ b) w = scanD b (scanD a w) := by
  induction a with
  | nil => intro w; rfl
  | cons s r ih => intro w; exact ih _
theorem okA_app (a b : List Slt) : ∀ w, okA (a ++ b) w ↔ okA a w ∧ okA b (scanD a w) := by
  induction a with
  | nil => intro w; simp [okA, scanD]
  | cons s r ih =>
    intro w
    simp only [List.cons_append, okA, scanD]
    rw [ih]
    constructor
    · rintro ⟨h1, h2, h3, h4⟩; exact ⟨⟨h1, h2, h3⟩, h4⟩
    · rintro ⟨⟨h1, h2, h3⟩, h4⟩; exact ⟨h1, h2, h3, h4⟩
theorem scanD_succ {args : List Slt} {k : Nat} {s : Slt} (h : args[k]? = some s) (w : Nat) : scanD (args.take (k + 1)) w = if s.v = true ∧ s.n = (scanD (args.take k) w : Int) then scanD (args.take k) w + 1 else scanD (args.take k) w := by
  rw [List.take_add_one, h, scanD_app]
  simp only [Option.toList_some, scanD]
theorem okA_take {args : List Slt} {w : Nat} (h : okA args w) (k : Nat) : okA (args.take k) w := by
  rw [← List.take_append_drop k args, okA_app] at h
  exact h.1
theorem okA_at {args : List Slt} {w : Nat} (h : okA args w) {k : Nat} {s : Slt} (hs : args[k]? = some s) : 0 ≤ s.n ∧ (s.v = true → s.n ≤ (scanD (args.take k) w : Int)) := by
  have h1 := okA_take h (k + 1)
  rw [List.take_add_one, hs, okA_app] at h1
  simp only [Option.toList_some, okA] at h1
  exact ⟨h1.2.1, h1.2.2.1⟩
theorem okA_snoc {args : List Slt} {w k : Nat} {s : Slt} (hs : args[k]? = some s) (h : okA (args.take k) w) (h0 : 0 ≤ s.n) (h1 : s.v = true → s.n ≤ (scanD (args.take k) w : Int)) : okA (args.take (k + 1)) w := by
  rw [List.take_add_one, hs, okA_app]
  exact ⟨h, by simp only [Option.toList_some, okA]; exact ⟨h0, h1, trivial⟩⟩
theorem scanD_le (a : List Slt) : ∀ w, w ≤ scanD a w := by
  induction a with
  | nil => intro w; exact Nat.le_refl _
  | cons s r ih =>
    intro w
    refine Nat.le_trans ?_ (ih _)
    split <;> omega
theorem scanD_len (a : List Slt) : ∀ w, scanD a w ≤ w + a.length := by
  induction a with
  | nil => intro w; exact Nat.le_refl _
  | cons s r ih =>
    intro w
    refine Nat.le_trans (ih _) ?_
    simp only [List.length_cons]
    split <;> omega
theorem scanD_mono {args : List Slt} {w j k : Nat} (h : j ≤ k) : scanD (args.take j) w ≤ scanD (args.take k) w := by
  have e : args.take k = args.take j ++ (args.drop j).take (k - j) := by
    obtain ⟨d, rfl⟩ : ∃ d, k = j + d := ⟨k - j, by omega⟩
    rw [Nat.add_sub_cancel_left, List.take_add]
  rw [e, scanD_app]
  exact scanD_le _ _
theorem below_okA {args : List Slt} {w : Nat} (h : ∀ s ∈ args, belowP w s) : okA args w ∧ scanD args w = w := by
  induction args with
  | nil => exact ⟨trivial, rfl⟩
  | cons s r ih =>
    obtain ⟨h0, h1⟩ := h s (List.mem_cons_self ..)
    obtain ⟨i1, i2⟩ := ih (fun t ht => h t (List.mem_cons_of_mem _ ht))
    have e : ¬ (s.v = true ∧ s.n = (w : Int)) := fun hh => by have := h1 hh.1; omega
    simp only [okA, scanD]
    rw [if_neg e]
    exact ⟨⟨h0, fun hv => by have := h1 hv; omega, i1⟩, i2⟩
/-- A variable that is bound behind k places and not ahead stands among them. -/
theorem seen {args : List Slt} {w : Nat} : ∀ (k : Nat), k ≤ args.length → ∀ n : Nat, w ≤ n → n < scanD (args.take k) w → ∃ j, j < k ∧ args[j]? = some ⟨true, n⟩
  | 0, _, n, h1, h2 => by simp [scanD] at h2; omega
  | k + 1, hk, n, h1, h2 => by
    obtain ⟨s, hs⟩ : ∃ s, args[k]? = some s := ⟨_, List.getElem?_eq_getElem (by omega)⟩
    rw [scanD_succ hs] at h2
    by_cases hlt : n < scanD (args.take k) w
    · obtain ⟨j, hj, h⟩ := seen k (by omega) n h1 hlt
      exact ⟨j, by omega, h⟩
    · by_cases hc : s.v = true ∧ s.n = (scanD (args.take k) w : Int)
      · rw [if_pos hc] at h2
        obtain rfl : n = scanD (args.take k) w := by omega
        refine ⟨k, by omega, ?_⟩
        rw [hs]
        obtain ⟨v, m⟩ := s
        obtain ⟨h3, h4⟩ := hc
        simp only at h3 h4
        rw [h3, h4]
      · rw [if_neg hc] at h2; omega

theorem firstV_le {args : List Slt} {k : Nat} {s : Slt} (h : args[k]? = some s) (hv : s.v = true) : firstV args s.n ≤ k := by
  induction args generalizing k with
  | nil => simp at h
  | cons a r ih =>
    unfold firstV
    split
    · omega
    · rename_i hn
      match k with
      | 0 =>
        simp at h
        subst h
        exact absurd ⟨hv, rfl⟩ hn
      | k + 1 =>
        have := ih (k := k) (by simpa using h)
        omega
theorem firstV_at {args : List Slt} {n : Int} (h : firstV args n < args.length) : args[firstV args n]? = some ⟨true, n⟩ := by
  induction args with
  | nil => simp at h
  | cons a r ih =>
    unfold firstV at h ⊢
    split
    · rename_i hn
      obtain ⟨v, m⟩ := a
      obtain ⟨h3, h4⟩ := hn
      simp only at h3 h4
      simp [h3, h4]
    · rename_i hn
      rw [if_neg hn] at h
      simp only [List.getElem?_cons_succ]
      exact ih (by simpa using h)
theorem firstV_first {args : List Slt} {n : Int} : ∀ j, j < firstV args n → args[j]? ≠ some ⟨true, n⟩ := by
  induction args with
  | nil => intro j h; simp
  | cons a r ih =>
    intro j h
    unfold firstV at h
    split at h
    · omega
    · rename_i hn
      match j with
      | 0 =>
        intro he
        simp at he
        subst he
        exact hn ⟨rfl, rfl⟩
      | j + 1 => simpa using ih j (by omega)
theorem slt_var {s : Slt} (h : s.v = true) : s = ⟨true, s.n⟩ := by
  obtain ⟨v, n⟩ := s
  simp only at h
  rw [h]

/-- A variable that comes for the first time and is not bound ahead is the next one. -/
theorem fresh_at {args : List Slt} {w k : Nat} {s : Slt} (h : okA args w) (hs : args[k]? = some s) (hv : s.v = true) (hf : firstV args s.n = k) (hw : ¬ s.n < (w : Int)) : s.n = (scanD (args.take k) w : Int) := by
  obtain ⟨h0, h1⟩ := okA_at h hs
  have h1 := h1 hv
  obtain ⟨n, hn⟩ := Int.eq_ofNat_of_zero_le h0
  rcases Int.lt_or_eq_of_le h1 with hlt | heq
  · obtain ⟨j, hj, he⟩ := seen (args := args) (w := w) k (Nat.le_of_lt (List.getElem?_eq_some_iff.1 hs).1) n (by omega) (by omega)
    exact absurd he (by have := firstV_first (args := args) (n := s.n) j (by omega); rw [hn] at this; exact this)
  · exact heq
/-- The next variable comes for the first time. -/
theorem next_first {args : List Slt} {w k : Nat} {s : Slt} (h : okA args w) (hs : args[k]? = some s) (hv : s.v = true) (hn : s.n = (scanD (args.take k) w : Int)) : firstV args s.n = k ∧ ¬ s.n < (w : Int) := by
  have hle := firstV_le hs hv
  have hl := (List.getElem?_eq_some_iff.1 hs).1
  refine ⟨?_, by have := scanD_le (args.take k) w; omega⟩
  rcases Nat.lt_or_ge (firstV args s.n) k with hlt | hge
  · exfalso
    have ha := firstV_at (args := args) (n := s.n) (by omega)
    obtain ⟨-, h1⟩ := okA_at h ha
    have h1 := h1 rfl
    have hm := scanD_mono (args := args) (w := w) (j := firstV args s.n + 1) (k := k) (by omega)
    have hm0 := scanD_mono (args := args) (w := w) (j := firstV args s.n) (k := k) (by omega)
    rw [scanD_succ ha] at hm
    simp only [true_and] at h1 hm
    rw [if_pos (by omega)] at hm
    omega
  · omega
theorem new_count {args : List Slt} {w : Nat} (h : okA args w) : ∀ k, k ≤ args.length → w + (newK args w k).length = scanD (args.take k) w
  | 0, _ => by simp [newK_zero, scanD]
  | k + 1, hk => by
    obtain ⟨s, hs⟩ : ∃ s, args[k]? = some s := ⟨_, List.getElem?_eq_getElem (by omega)⟩
    have ih := new_count h k (by omega)
    rw [scanD_succ hs, newK_succ, List.length_append]
    unfold newAt
    rw [hs]
    by_cases hc : s.v = true ∧ s.n = (scanD (args.take k) w : Int)
    · obtain ⟨h1, h2⟩ := next_first h hs hc.1 hc.2
      rw [if_pos hc]
      simp only
      rw [if_pos ⟨hc.1, h1, h2⟩]
      simp only [List.length_singleton]
      omega
    · rw [if_neg hc]
      simp only
      rw [if_neg (fun hh => hc ⟨hh.1, fresh_at h hs hh.1 hh.2.1 hh.2.2⟩)]
      simp only [List.length_nil]
      omega
theorem new_below {args : List Slt} {w : Nat} (h : ∀ s ∈ args, belowP w s) (k : Nat) (hk : k ≤ args.length) : newK args w k = [] := by
  obtain ⟨h1, h2⟩ := below_okA h
  have := new_count h1 k hk
  have hm := scanD_mono (args := args) (w := w) hk
  rw [List.take_length, h2] at hm
  exact List.eq_nil_of_length_eq_zero (by omega)

/-- May a rule be compiled? w variables. -/
structure Fit (r : Rl) (w : Nat) : Prop where
  many : r.pos.length + r.tests.length + r.neg.length ≤ 16
  pats : ∀ p ∈ r.pos, 0 ≤ p.pred ∧ p.args.length ≤ 8
  ok : okA (r.pos.flatMap Pat.args) 0
  wid : scanD (r.pos.flatMap Pat.args) 0 = w
  w16 : w ≤ 16
  tst : ∀ t ∈ r.tests, 1 ≤ t.op ∧ t.op ≤ 6 ∧ belowP w t.l ∧ belowP w t.r
  ngs : ∀ p ∈ r.neg, 0 ≤ p.pred ∧ p.args.length ≤ 8 ∧ ∀ s ∈ p.args, belowP w s
def mayP (r : Rl) : Prop := ∃ w, Fit r w

/-- The conditions fit, under which w variables are bound: how many are bound behind them. -/
def okC (w : Nat) (c : Cnd) : Prop :=
  (c.kind = 1 ∧ c.t = noTst ∧ okA c.p.args w) ∨ (c.kind = 2 ∧ c.p = noPat ∧ belowP w c.t.l ∧ belowP w c.t.r) ∨ (c.kind = 3 ∧ c.t = noTst ∧ ∀ s ∈ c.p.args, belowP w s)
noncomputable def nextW (w : Nat) (c : Cnd) : Nat := if c.kind = 1 then scanD c.p.args w else w
def okCs : Nat → List Cnd → Prop
  | _, [] => True
  | w, c :: r => okC w c ∧ okCs (nextW w c) r
theorem okCs_pos (w' : Nat) (cs : List Cnd) : ∀ (pos : List Pat) (w : Nat), okA (pos.flatMap Pat.args) w → scanD (pos.flatMap Pat.args) w = w' → okCs w' cs → okCs w (pos.map (fun p => (⟨1, p, noTst⟩ : Cnd)) ++ cs)
  | [], w, _, h2, h3 => by
    have e : w = w' := h2
    rw [e]; exact h3
  | p :: l, w, h1, h2, h3 => by
    rw [List.flatMap_cons, okA_app] at h1
    rw [List.flatMap_cons, scanD_app] at h2
    refine ⟨.inl ⟨rfl, rfl, h1.1⟩, ?_⟩
    simp only [nextW, if_true]
    exact okCs_pos w' cs l _ h1.2 h2 h3
theorem okCs_const (w : Nat) : ∀ (cs : List Cnd), (∀ c ∈ cs, okC w c ∧ c.kind ≠ 1) → okCs w cs
  | [], _ => trivial
  | c :: l, h => by
    obtain ⟨h1, h2⟩ := h c (List.mem_cons_self ..)
    refine ⟨h1, ?_⟩
    unfold nextW
    rw [if_neg h2]
    exact okCs_const w l (fun d hd => h d (List.mem_cons_of_mem _ hd))
theorem Fit.okCs {r : Rl} {w : Nat} (h : Fit r w) : okCs 0 (conds r) := by
  unfold conds
  rw [List.append_assoc]
  refine okCs_pos w _ r.pos 0 h.ok h.wid (okCs_const w _ (fun c hc => ?_))
  rcases List.mem_append.1 hc with hc | hc
  · obtain ⟨t, ht, rfl⟩ := List.mem_map.1 hc
    obtain ⟨_, _, h1, h2⟩ := h.tst t ht
    exact ⟨.inr (.inl ⟨rfl, rfl, h1, h2⟩), by show (2 : Int) ≠ 1; decide⟩
  · obtain ⟨p, hp, rfl⟩ := List.mem_map.1 hc
    obtain ⟨_, _, h1⟩ := h.ngs p hp
    exact ⟨.inr (.inr ⟨rfl, rfl, h1⟩), by show (3 : Int) ≠ 1; decide⟩
theorem conds_len (r : Rl) : (conds r).length = r.pos.length + r.tests.length + r.neg.length := by
  unfold conds; simp; omega
theorem okC.okA {w : Nat} {c : Cnd} (h : okC w c) (hk : c.kind ≠ 2) : okA c.p.args w := by
  rcases h with ⟨_, _, h⟩ | ⟨h, _⟩ | ⟨_, _, h⟩
  · exact h
  · exact absurd h hk
  · exact (below_okA h).1
theorem okC.next {w : Nat} {c : Cnd} (h : okC w c) (hk : c.kind ≠ 2) : nextW w c = w + (newK c.p.args w c.p.args.length).length := by
  rcases h with ⟨h1, _, h⟩ | ⟨h, _⟩ | ⟨h1, _, h⟩
  · unfold nextW
    rw [if_pos h1, new_count h _ (Nat.le_refl _), List.take_length]
  · exact absurd h hk
  · unfold nextW
    rw [if_neg (by rw [h1]; decide), new_below h _ (Nat.le_refl _)]
    rfl
theorem nodeC_width {st : St} {u w : Nat} {c : Cnd} (h : okC w c) (hw : widthAt st u = w) : (nodeC st u c).width = nextW w c := by
  unfold nodeC
  by_cases hk : c.kind = 2
  · rw [if_pos hk]
    unfold nextW
    rw [if_neg (by rw [hk]; decide)]
    exact hw
  · rw [if_neg hk, h.next hk]
    unfold nodeOf
    rw [hw]
    simp

/-- Two patterns of one shape, with the same links and new places. -/
theorem pat_inj {p q : Pat} {w : Nat} (hp : okA p.args w) (hq : okA q.args w) (hs : shapeF p = shapeF q) (hl : linksK p.args w p.args.length = linksK q.args w q.args.length) (hn : newK p.args w p.args.length = newK q.args w q.args.length) : p = q := by
  obtain ⟨pp, pa⟩ := p
  obtain ⟨qp, qa⟩ := q
  simp only [shapeF, Shp.mk.injEq] at hs hl hn hp hq
  obtain ⟨rfl, hc⟩ := hs
  have hlen : pa.length = qa.length := by have := congrArg List.length hc; simpa using this
  suffices h : ∀ k, k ≤ pa.length → pa.take k = qa.take k ∧ linksK pa w k = linksK qa w k ∧ newK pa w k = newK qa w k by
    have := (h pa.length (Nat.le_refl _)).1
    rw [List.take_length, hlen, List.take_length] at this
    rw [this]
  have pre : ∀ (a : List Slt) (k : Nat), k ≤ a.length → ∃ r, linksK a w a.length = linksK a w k ++ r ∧ ∀ x ∈ r, (k : Int) ≤ x.1 := by
    intro a k hk
    obtain ⟨d, hd⟩ : ∃ d, a.length = k + d := ⟨a.length - k, by omega⟩
    rw [hd]
    clear hd hk
    induction d with
    | zero => exact ⟨[], by simp, by simp⟩
    | succ d ih =>
      obtain ⟨r, h1, h2⟩ := ih
      refine ⟨r ++ linkAt a w (k + d), by rw [← Nat.add_assoc, linksK_succ, h1, List.append_assoc], fun x hx => ?_⟩
      rcases List.mem_append.1 hx with hx | hx
      · exact h2 x hx
      · unfold linkAt at hx
        split at hx
        · split at hx
          · rw [List.mem_singleton.1 hx]; simp; omega
          · simp at hx
        · simp at hx
  have pren : ∀ (a : List Slt) (k : Nat), k ≤ a.length → ∃ r, newK a w a.length = newK a w k ++ r ∧ ∀ x ∈ r, (k : Int) ≤ x := by
    intro a k hk
    obtain ⟨d, hd⟩ : ∃ d, a.length = k + d := ⟨a.length - k, by omega⟩
    rw [hd]
    clear hd hk
    induction d with
    | zero => exact ⟨[], by simp, by simp⟩
    | succ d ih =>
      obtain ⟨r, h1, h2⟩ := ih
      refine ⟨r ++ newAt a w (k + d), by rw [← Nat.add_assoc, newK_succ, h1, List.append_assoc], fun x hx => ?_⟩
      rcases List.mem_append.1 hx with hx | hx
      · exact h2 x hx
      · unfold newAt at hx
        split at hx
        · split at hx
          · rw [List.mem_singleton.1 hx]; omega
          · simp at hx
        · simp at hx
  intro k
  induction k with
  | zero => intro _; exact ⟨by simp, rfl, rfl⟩
  | succ k ih =>
    intro hk
    obtain ⟨i1, i2, i3⟩ := ih (by omega)
    obtain ⟨s, hs⟩ : ∃ s, pa[k]? = some s := ⟨_, List.getElem?_eq_getElem (by omega)⟩
    obtain ⟨t, ht⟩ : ∃ t, qa[k]? = some t := ⟨_, List.getElem?_eq_getElem (by omega)⟩
    have hcell : cellF pa s = cellF qa t := by
      have h1 : (pa.map (cellF pa))[k]? = some (cellF pa s) := by rw [List.getElem?_map, hs]; rfl
      have h2 : (qa.map (cellF qa))[k]? = some (cellF qa t) := by rw [List.getElem?_map, ht]; rfl
      rw [hc, h2] at h1
      exact (Option.some.inj h1).symm
    have s0 := (okA_at hp hs).1
    have t0 := (okA_at hq ht).1
    have hv : s.v = t.v ∧ (s.v = false → s.n = t.n) ∧ (s.v = true → firstV pa s.n = firstV qa t.n) := by
      unfold cellF at hcell
      by_cases h1 : s.v = true <;> by_cases h2 : t.v = true
      · rw [if_pos h1, if_pos h2] at hcell
        exact ⟨by rw [h1, h2], fun h => absurd (h1.symm.trans h) (by decide), fun _ => by omega⟩
      · rw [if_pos h1, if_neg h2] at hcell; omega
      · rw [if_neg h1, if_pos h2] at hcell; omega
      · rw [if_neg h1, if_neg h2] at hcell
        exact ⟨by simp only [Bool.not_eq_true] at h1 h2; rw [h1, h2], fun _ => hcell, fun h => absurd h h1⟩
    obtain ⟨hv1, hv2, hv3⟩ := hv
    have hst : s = t := by
      obtain ⟨sv, sn⟩ := s
      obtain ⟨tv, tn⟩ := t
      simp only at hv1 hv2 hv3 hs ht s0 t0
      subst hv1
      cases sv with
      | false => rw [hv2 rfl]
      | true =>
        have hf := hv3 rfl
        have hle := firstV_le hs rfl
        simp only at hle
        rcases Nat.lt_or_ge (firstV pa sn) k with hlt | hge
        · have h1 := firstV_at (args := pa) (n := sn) (by omega)
          have h2 := firstV_at (args := qa) (n := tn) (by omega)
          have h3 : (pa.take k)[firstV pa sn]? = (qa.take k)[firstV qa tn]? := by rw [i1, hf]
          rw [List.getElem?_take_of_lt hlt, List.getElem?_take_of_lt (by omega), h1, h2] at h3
          exact Option.some.inj h3
        · have e1 : firstV pa sn = k := by omega
          have e2 : firstV qa tn = k := by omega
          obtain ⟨rp, l1, l2⟩ := pre pa (k + 1) hk
          obtain ⟨rq, l3, l4⟩ := pre qa (k + 1) (by omega)
          rw [linksK_succ] at l1 l3
          rw [l1, l3, i2, List.append_assoc, List.append_assoc] at hl
          have hl := List.append_cancel_left hl
          unfold linkAt at hl
          rw [hs, ht] at hl
          simp only [e1, e2, true_and] at hl
          by_cases c1 : sn < (w : Int) <;> by_cases c2 : tn < (w : Int)
          · rw [if_pos c1, if_pos c2] at hl
            simp only [List.singleton_append, List.cons.injEq, Prod.mk.injEq, true_and] at hl
            rw [hl.1]
          · rw [if_pos c1, if_neg c2] at hl
            have := l4 ((k : Int), sn) (by rw [← show [((k : Int), sn)] ++ rp = rq by simpa using hl]; simp)
            simp at this
            omega
          · rw [if_neg c1, if_pos c2] at hl
            have := l2 ((k : Int), tn) (by rw [show rp = [((k : Int), tn)] ++ rq by simpa using hl]; simp)
            simp at this
            omega
          · have f1 := fresh_at hp hs rfl e1 c1
            have f2 := fresh_at hq ht rfl e2 c2
            rw [i1] at f1
            simp only at f1 f2
            rw [f1, f2]
    subst hst
    have i1' : pa.take (k + 1) = qa.take (k + 1) := by rw [List.take_add_one, List.take_add_one, hs, ht, i1]
    have hff : s.v = true → firstV pa s.n = firstV qa s.n := hv3
    refine ⟨i1', ?_, ?_⟩
    · rw [linksK_succ, linksK_succ, i2]
      unfold linkAt
      rw [hs, ht]
      by_cases h1 : s.v = true
      · simp only [hff h1]
      · simp only
        rw [if_neg (fun h : s.v = true ∧ _ => h1 h.1), if_neg (fun h : s.v = true ∧ _ => h1 h.1)]
    · rw [newK_succ, newK_succ, i3]
      unfold newAt
      rw [hs, ht]
      by_cases h1 : s.v = true
      · simp only [hff h1]
      · simp only
        rw [if_neg (fun h : s.v = true ∧ _ => h1 h.1), if_neg (fun h : s.v = true ∧ _ => h1 h.1)]

theorem nodeC_inj {st : St} {u w : Nat} {c d : Cnd} (hc : okC w c) (hd : okC w d) (hw : widthAt st u = w) (sc : Shaped st c) (sd : Shaped st d) (h : nodeC st u c = nodeC st u d) : c = d := by
  obtain ⟨ck, cp, ct⟩ := c
  obtain ⟨dk, dp, dt⟩ := d
  have hk : ck = dk := by
    have := congrArg Nd.kind h
    unfold nodeC at this
    by_cases h1 : ck = 2 <;> by_cases h2 : dk = 2
    · rw [h1, h2]
    · simp only [h1, h2, if_true, if_false, testOf, nodeOf] at this; exact absurd this.symm h2
    · simp only [h1, h2, if_true, if_false, testOf, nodeOf] at this
    · simp only [h1, h2, if_false, nodeOf] at this; exact this
  subst hk
  by_cases h1 : ck = 2
  · subst h1
    unfold nodeC at h
    simp only [if_true, testOf, Nd.mk.injEq, true_and, and_true] at h
    rcases hc with ⟨hh, _⟩ | ⟨_, e1, _⟩ | ⟨hh, _⟩
    · exact absurd hh (by intro h; cases h)
    · rcases hd with ⟨hh, _⟩ | ⟨_, e2, _⟩ | ⟨hh, _⟩
      · exact absurd hh (by intro h; cases h)
      · simp only at e1 e2
        rw [e1, e2, h]
      · exact absurd hh (by intro h; cases h)
    · exact absurd hh (by intro h; cases h)
  · have o1 := hc.okA h1
    have o2 := hd.okA h1
    unfold nodeC at h
    simp only [h1, if_false, nodeOf, Nd.mk.injEq, true_and] at h
    obtain ⟨ha, hl, hn, _⟩ := h
    rw [hw] at hl hn
    have hs := placeF_inj (sc h1) (sd h1) (Int.ofNat.inj ha)
    have e := pat_inj o1 o2 hs hl hn
    simp only at e
    have t1 : ct = noTst := by
      rcases hc with ⟨_, e1, _⟩ | ⟨hh, _⟩ | ⟨_, e1, _⟩
      · exact e1
      · exact absurd hh h1
      · exact e1
    have t2 : dt = noTst := by
      rcases hd with ⟨_, e1, _⟩ | ⟨hh, _⟩ | ⟨_, e1, _⟩
      · exact e1
      · exact absurd hh h1
      · exact e1
    rw [e, t1, t2]
end Go.Proofs.Ytonkbjdeaneicaa.Pln
