/- The builtin copy at elements of several cells, as one step of a region that draws its order. Over any program. What a node asks, as 35 cells. Printed by wip/bin/asks.py. -/
import Derived.Test.YtonkbjdeaneicaaKpc03
import Derived.Laws.CopyOwn
import Derived.Laws.CopyRow
namespace Go.Proofs.Ytonkbjdeaneicaa
open Go Go.RowKit

section
variable {P : Program}
theorem run_copy_rowN (w : World) (dT sT ty elem : TypeId) (g o dLen dCap : Nat) (a : Addr) (sLen sCap sz : Nat) (cur : Array Value) (t : TypeId) (cs : List Value)
    (hu : P.underlying dT = some (.slice elem)) (hs : (P.info? elem).map (·.size) = some sz)
    (hg : w.heap[g]? = some (.cells cur t (0, 0))) (hn : cs.length = Nat.min sLen dLen * sz)
    (hsrc : ∀ j v, cs[j]? = some v → w.cell? (a.add j) = some v) (hfit : o + cs.length ≤ cur.size) (h1 : ∀ v ∈ cs, v.oneCell' = true) :
    (Builtin.copy_ #[dT, sT] ty #[.slice (some ⟨g, o, none⟩) dLen dCap, .slice (some a) sLen sCap]).run P w =
      .ok (goInt (Nat.min sLen dLen)) (w.setRow g (cur.toList.take o ++ cs ++ cur.toList.drop (o + cs.length)).toArray) := by
  have hl := run_loadCells_list (P := P) w a cs hsrc
  have hst := run_storeCells_at P g o t cs 0 cur w hg (by simpa using hfit) h1
  cases hq : P.info? elem with
  | none => simp [hq] at hs
  | some i =>
    have hi : i.size = sz := by simpa [hq] using hs
    simp [Builtin.copy_, run_underlying hu, Builtin.lenOf, Builtin.firstCells, sizeOf, typeInfo, hq, hi, ← hn, hl, hst]
theorem run_copy_noneN (w : World) (dT sT ty elem : TypeId) (d a : Option Addr) (dLen dCap sLen sCap sz : Nat) (hu : P.underlying dT = some (.slice elem)) (hs : (P.info? elem).map (·.size) = some sz) (hn : Nat.min sLen dLen = 0) :
    (Builtin.copy_ #[dT, sT] ty #[.slice d dLen dCap, .slice a sLen sCap]).run P w = .ok (goInt 0) w := by
  cases hq : P.info? elem with
  | none => simp [hq] at hs
  | some i =>
    have hl : ∀ (x : Addr), (loadCells x 0).run P w = .ok #[] w := fun x => by simpa using run_loadCells_list (P := P) w x [] (by simp)
    cases d <;> cases a <;> simp [Builtin.copy_, run_underlying hu, Builtin.lenOf, Builtin.firstCells, sizeOf, typeInfo, hq, hn, storeCells, hl]

theorem step_copyN {ops : Array Oper} {o : Oper} {a : Act} {w : World} {K : Act → World → Prop} {Q : Exit → Act → World → Prop} {E : Prop} (hgd : o.guard = none) (d s : Operand) (dT sT : TypeId)
    (ho : o.op = .call { callee := .builtin .copy, args := #[d, s], argTypes := #[dT, sT] }) (elem : TypeId) (hu : P.underlying dT = some (.slice elem)) {sz : Nat} (hsz : (P.info? elem).map (·.size) = some sz)
    (dp sp : Option Addr) (dLen dCap sLen sCap : Nat) (hd : a.eval d = .slice dp dLen dCap) (hs : a.eval s = .slice sp sLen sCap)
    (g off : Nat) (cur : List Value) (t : TypeId) (hg : w.heap[g]? = some (.cells cur.toArray t (0, 0))) (cs : List Value) (hn : cs.length = Nat.min sLen dLen * sz)
    (hpos : 0 < Nat.min sLen dLen → dp = some ⟨g, off, none⟩ ∧ ∃ ad, sp = some ad ∧ ∀ j v, cs[j]? = some v → w.cell? (ad.add j) = some v)
    (hfit : off + cs.length ≤ cur.length) (h1 : ∀ v ∈ cs, v.oneCell' = true) (B : Nat) (w0 : World) (hb : Below B w0 w) (hBg : B ≤ g)
    (h : ∀ w', Hid (w'.heap[g]? = some (.cells (splice cur off cs).toArray t (0, 0))) → Below B w0 w' → K (a.put o.dst (goInt (Nat.min sLen dLen))) w') :
    if Region.wanted o (yielded ops a.tmps) = true then Oper.wp P o a w K Q else E := by
  have hw : Region.wanted o (yielded ops a.tmps) = true := by simp [Region.wanted, hgd]
  rw [if_pos hw]
  by_cases h0 : Nat.min sLen dLen = 0
  · obtain rfl : cs = [] := List.eq_nil_of_length_eq_zero (by rw [hn, h0, Nat.zero_mul])
    have hrun := run_copy_noneN (P := P) w dT sT o.type elem dp sp dLen dCap sLen sCap sz hu hsz h0
    have hh := h w (show _ = _ by simpa [splice] using hg) hb
    rw [h0] at hh
    unfold Oper.wp
    simp [execOp, ho, resolve, invoke, builtin, hd, hs, hrun, Result.andThen]
    exact hh
  · obtain ⟨rfl, ad, rfl, hsrc⟩ := hpos (by omega)
    have hrun := run_copy_rowN (P := P) w dT sT o.type elem g off dLen dCap ad sLen sCap sz cur.toArray t cs hu hsz hg hn hsrc (by simpa using hfit) h1
    unfold Oper.wp
    simp [execOp, ho, resolve, invoke, builtin, hd, hs, hrun, Result.andThen]
    exact h _ (show _ = _ by simpa [splice] using setRow_heap w g _ _ t _ hg) (below_setRow hb hBg _)
end
end Go.Proofs.Ytonkbjdeaneicaa

namespace Go.Proofs.Ytonkbjdeaneicaa
open Go Go.RowKit Pln

def li (l : List (Int × Int)) (j : Nat) : Int := if j % 2 = 0 then ((l[j / 2]?).map (·.1)).getD 0 else ((l[j / 2]?).map (·.2)).getD 0
def mi (m : List Int) (j : Nat) : Int := (m[j]?).getD 0
def lcells (l : List (Int × Int)) : List Value := l.flatMap fun x => [.int .i64 x.1, .int .i64 x.2]
def ncells (m : List Int) : List Value := m.map (Value.int .i64)
theorem lcells_len (l : List (Int × Int)) : (lcells l).length = l.length * 2 := by
  induction l with
  | nil => rfl
  | cons a r ih => simp only [lcells, List.flatMap_cons, List.length_append, List.length_cons, List.length_nil] at ih ⊢; omega
theorem lcells_at {l : List (Int × Int)} {k : Nat} {x : Int × Int} (h : l[k]? = some x) : (lcells l)[k * 2]? = some (.int .i64 x.1) ∧ (lcells l)[k * 2 + 1]? = some (.int .i64 x.2) := by
  induction l generalizing k with
  | nil => simp at h
  | cons a r ih =>
    match k with
    | 0 =>
      simp at h
      subst h
      exact ⟨rfl, rfl⟩
    | k + 1 =>
      have e : lcells (a :: r) = .int .i64 a.1 :: .int .i64 a.2 :: lcells r := rfl
      rw [e, show (k + 1) * 2 = k * 2 + 1 + 1 by omega]
      simp only [List.getElem?_cons_succ]
      exact ih (by simpa using h)
theorem splice_l (h0 h1 h2 h3 h4 h5 h6 h7 h8 q wd : Value) (l : List (Int × Int)) (hl : l.length ≤ 8) : splice [h0, h1, h2, h3, h4, h5, h6, h7, h8, .int .i64 0, .int .i64 0, .int .i64 0, .int .i64 0, .int .i64 0, .int .i64 0, .int .i64 0, .int .i64 0, .int .i64 0, .int .i64 0, .int .i64 0, .int .i64 0, .int .i64 0, .int .i64 0, .int .i64 0, .int .i64 0, q, .int .i64 0, .int .i64 0, .int .i64 0, .int .i64 0, .int .i64 0, .int .i64 0, .int .i64 0, .int .i64 0, wd] 9 (lcells l) = [h0, h1, h2, h3, h4, h5, h6, h7, h8, .int .i64 (li l 0), .int .i64 (li l 1), .int .i64 (li l 2), .int .i64 (li l 3), .int .i64 (li l 4), .int .i64 (li l 5), .int .i64 (li l 6), .int .i64 (li l 7), .int .i64 (li l 8), .int .i64 (li l 9), .int .i64 (li l 10), .int .i64 (li l 11), .int .i64 (li l 12), .int .i64 (li l 13), .int .i64 (li l 14), .int .i64 (li l 15), q, .int .i64 0, .int .i64 0, .int .i64 0, .int .i64 0, .int .i64 0, .int .i64 0, .int .i64 0, .int .i64 0, wd] := by
  match l, hl with
  | [], _ => rfl
  | [a0], _ => rfl
  | [a0, a1], _ => rfl
  | [a0, a1, a2], _ => rfl
  | [a0, a1, a2, a3], _ => rfl
  | [a0, a1, a2, a3, a4], _ => rfl
  | [a0, a1, a2, a3, a4, a5], _ => rfl
  | [a0, a1, a2, a3, a4, a5, a6], _ => rfl
  | [a0, a1, a2, a3, a4, a5, a6, a7], _ => rfl
theorem splice_m (h0 h1 h2 h3 h4 h5 h6 h7 h8 x0 x1 x2 x3 x4 x5 x6 x7 x8 x9 x10 x11 x12 x13 x14 x15 q wd : Value) (m : List Int) (hl : m.length ≤ 8) : splice [h0, h1, h2, h3, h4, h5, h6, h7, h8, x0, x1, x2, x3, x4, x5, x6, x7, x8, x9, x10, x11, x12, x13, x14, x15, q, .int .i64 0, .int .i64 0, .int .i64 0, .int .i64 0, .int .i64 0, .int .i64 0, .int .i64 0, .int .i64 0, wd] 26 (ncells m) = [h0, h1, h2, h3, h4, h5, h6, h7, h8, x0, x1, x2, x3, x4, x5, x6, x7, x8, x9, x10, x11, x12, x13, x14, x15, q, .int .i64 (mi m 0), .int .i64 (mi m 1), .int .i64 (mi m 2), .int .i64 (mi m 3), .int .i64 (mi m 4), .int .i64 (mi m 5), .int .i64 (mi m 6), .int .i64 (mi m 7), wd] := by
  match m, hl with
  | [], _ => rfl
  | [a0], _ => rfl
  | [a0, a1], _ => rfl
  | [a0, a1, a2], _ => rfl
  | [a0, a1, a2, a3], _ => rfl
  | [a0, a1, a2, a3, a4], _ => rfl
  | [a0, a1, a2, a3, a4, a5], _ => rfl
  | [a0, a1, a2, a3, a4, a5, a6], _ => rfl
  | [a0, a1, a2, a3, a4, a5, a6, a7], _ => rfl
/-- What a node asks. -/
def askA (n : Nd) : Array Value := #[.int .i64 n.kind, .int .i64 n.parent, .int .i64 n.alpha, .int .i64 n.test.op, .bool n.test.l.v, .int .i64 n.test.l.n, .bool n.test.r.v, .int .i64 n.test.r.n, .int .i64 n.links.length, .int .i64 (li n.links 0), .int .i64 (li n.links 1), .int .i64 (li n.links 2), .int .i64 (li n.links 3), .int .i64 (li n.links 4), .int .i64 (li n.links 5), .int .i64 (li n.links 6), .int .i64 (li n.links 7), .int .i64 (li n.links 8), .int .i64 (li n.links 9), .int .i64 (li n.links 10), .int .i64 (li n.links 11), .int .i64 (li n.links 12), .int .i64 (li n.links 13), .int .i64 (li n.links 14), .int .i64 (li n.links 15), .int .i64 n.new.length, .int .i64 (mi n.new 0), .int .i64 (mi n.new 1), .int .i64 (mi n.new 2), .int .i64 (mi n.new 3), .int .i64 (mi n.new 4), .int .i64 (mi n.new 5), .int .i64 (mi n.new 6), .int .i64 (mi n.new 7), .int .i64 n.width]
theorem li_inj {a b : List (Int × Int)} (ha : a.length ≤ 8) (hl : a.length = b.length) (h : ∀ j, j < 16 → li a j = li b j) : a = b := by
  apply List.ext_getElem?
  intro i
  rcases Nat.lt_or_ge i a.length with h1 | h1
  · have e1 := h (2 * i) (by omega)
    have e2 := h (2 * i + 1) (by omega)
    unfold li at e1 e2
    rw [if_pos (by omega), if_pos (by omega), show 2 * i / 2 = i by omega] at e1
    rw [if_neg (by omega), if_neg (by omega), show (2 * i + 1) / 2 = i by omega] at e2
    rw [List.getElem?_eq_getElem h1, List.getElem?_eq_getElem (show i < b.length by omega)] at e1 e2 ⊢
    simp only [Option.map_some, Option.getD_some] at e1 e2
    exact congrArg some (Prod.ext e1 e2)
  · rw [List.getElem?_eq_none h1, List.getElem?_eq_none (by omega)]
theorem mi_inj {a b : List Int} (ha : a.length ≤ 8) (hl : a.length = b.length) (h : ∀ j, j < 8 → mi a j = mi b j) : a = b := by
  apply List.ext_getElem?
  intro i
  rcases Nat.lt_or_ge i a.length with h1 | h1
  · have e1 := h i (by omega)
    unfold mi at e1
    rw [List.getElem?_eq_getElem h1, List.getElem?_eq_getElem (show i < b.length by omega)] at e1 ⊢
    simp only [Option.getD_some] at e1
    rw [e1]
  · rw [List.getElem?_eq_none h1, List.getElem?_eq_none (by omega)]
theorem askA_size (n : Nd) : (askA n).size = 35 := rfl
theorem askA_one (n : Nd) : (askA n).all (·.oneCell') = true := by simp [askA, Value.oneCell']
theorem askA_at {n m : Nd} (h : askA n = askA m) (j : Nat) : (askA n)[j]? = (askA m)[j]? := by rw [h]
theorem askA_inj {n m : Nd} (h : askA n = askA m) (hl : n.links.length ≤ 8) (hn : n.new.length ≤ 8) : n = m := by
  have J := fun j => askA_at h j
  have e0 := J 0
  have e1 := J 1
  have e2 := J 2
  have e3 := J 3
  have e4 := J 4
  have e5 := J 5
  have e6 := J 6
  have e7 := J 7
  have e8 := J 8
  have e9 := J 9
  have e10 := J 10
  have e11 := J 11
  have e12 := J 12
  have e13 := J 13
  have e14 := J 14
  have e15 := J 15
  have e16 := J 16
  have e17 := J 17
  have e18 := J 18
  have e19 := J 19
  have e20 := J 20
  have e21 := J 21
  have e22 := J 22
  have e23 := J 23
  have e24 := J 24
  have e25 := J 25
  have e26 := J 26
  have e27 := J 27
  have e28 := J 28
  have e29 := J 29
  have e30 := J 30
  have e31 := J 31
  have e32 := J 32
  have e33 := J 33
  have e34 := J 34
  simp only [askA, List.getElem?_toArray, List.getElem?_cons_succ, List.getElem?_cons_zero, Option.some.injEq, Value.int.injEq, Value.bool.injEq, true_and] at e0 e1 e2 e3 e4 e5 e6 e7 e8 e9 e10 e11 e12 e13 e14 e15 e16 e17 e18 e19 e20 e21 e22 e23 e24 e25 e26 e27 e28 e29 e30 e31 e32 e33 e34
  have hL : n.links = m.links := li_inj hl (by omega) (fun j hj => by
    match j, hj with
    | 0, _ => exact e9
    | 1, _ => exact e10
    | 2, _ => exact e11
    | 3, _ => exact e12
    | 4, _ => exact e13
    | 5, _ => exact e14
    | 6, _ => exact e15
    | 7, _ => exact e16
    | 8, _ => exact e17
    | 9, _ => exact e18
    | 10, _ => exact e19
    | 11, _ => exact e20
    | 12, _ => exact e21
    | 13, _ => exact e22
    | 14, _ => exact e23
    | 15, _ => exact e24
    | j + 16, h => omega)
  have hM : n.new = m.new := mi_inj hn (by omega) (fun j hj => by
    match j, hj with
    | 0, _ => exact e26
    | 1, _ => exact e27
    | 2, _ => exact e28
    | 3, _ => exact e29
    | 4, _ => exact e30
    | 5, _ => exact e31
    | 6, _ => exact e32
    | 7, _ => exact e33
    | j + 8, h => omega)
  obtain ⟨a1, a2, a3, a4, a5, ⟨b1, ⟨c1, c2⟩, ⟨d1, d2⟩⟩, a7⟩ := n
  obtain ⟨a1', a2', a3', a4', a5', ⟨b1', ⟨c1', c2'⟩, ⟨d1', d2'⟩⟩, a7'⟩ := m
  simp only at e0 e1 e2 e3 e4 e5 e6 e7 e34 hL hM
  rw [e0, e1, e2, e3, e4, e5, e6, e7, e34, hL, hM]
end Go.Proofs.Ytonkbjdeaneicaa
