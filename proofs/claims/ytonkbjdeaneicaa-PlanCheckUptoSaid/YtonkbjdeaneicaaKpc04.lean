/- The opening of arguments: lists of rules; how long the lists are. width and fitSlots: may a rule be compiled? -/
import Derived.Test.YtonkbjdeaneicaaKpc02
import Derived.Test.YtonkbjdeaneicaaKpc03
import Derived.BigQuiet
import Derived.Deep.QuietTactic
import Derived.IntWalk
import Derived.KernelRfl
import Derived.Lib.Hide
import Derived.Test.YtonkbjdeaneicaaChecked
import Derived.Test.YtonkbjdeaneicaaRows
import Derived.WalkLawsBesides
import Derived.WalkSpells
namespace Go.Proofs.Ytonkbjdeaneicaa
open Go.ChangeShapes Go.WideShapes Go.ChangeAt Go.RowKit Go.Deep
open Pln

/-- What the bound gives: how long the lists are. -/
theorem bulk_ge {H : Type} (l : List (DataW H)) : l.length ≤ Rows.uptoBulkAll l := by
  induction l with
  | nil => simp [Rows.uptoBulkAll]
  | cons d l ih =>
    have : 1 ≤ Rows.uptoBulk d := by
      cases d with
      | lit l => cases l <;> simp [Rows.uptoBulk]
      | nil => simp [Rows.uptoBulk]
      | ptr d => simp [Rows.uptoBulk]
      | slice e s => simp [Rows.uptoBulk]
      | agg p => simp [Rows.uptoBulk]
      | iface t d => simp [Rows.uptoBulk]
      | map e => simp [Rows.uptoBulk]
      | held h => simp [Rows.uptoBulk]
    simp only [Rows.uptoBulkAll, List.length_cons]
    omega
theorem bulk_mem {H : Type} {l : List (DataW H)} {d : DataW H} (h : d ∈ l) : Rows.uptoBulk d ≤ Rows.uptoBulkAll l := by
  induction l with
  | nil => cases h
  | cons a l ih =>
    simp only [Rows.uptoBulkAll]
    rcases List.mem_cons.1 h with rfl | h
    · omega
    · have := ih h; omega
theorem bulk_arg {H : Type} {ds : List (DataW H)} (h : Rows.uptoSmall H ds = true) {j : Nat} {d : DataW H} (hd : ds[j]? = some d) : Rows.uptoBulk d ≤ 1048576 := by
  have h : Rows.uptoBulkAll ds ≤ 1048576 := of_decide_eq_true h
  have := bulk_mem (List.mem_of_getElem? hd)
  omega

section
variable {H : Type} {enc : TypeId × Value → H} {P : Program} {w : World} {base : Nat} {spare : Nat → Bool} {held : Bool}
theorem open_rsl {α : Type} {t e : TypeId} {fuel : Nat} {v : Value} {x : DataW H × List MemPlace} {sz : Nat} {E : List Value → α → Prop} {Sm : Nat → α → Prop} (mono : ∀ m n a, m ≤ n → Sm m a → Sm n a)
    (ht : P.underlying t = some (.slice e)) (hC : P.cellsOf e = sz) (hsz : 0 < sz)
    (hel : ∀ (fuel : Nat) (cs : List Value) (x : DataW H × List MemPlace), DataW.trod enc P w base spare held fuel e cs = some x → ∃ a, E cs a ∧ Sm (Rows.uptoBulk x.1) a)
    (h : DataW.trod enc P w base spare held fuel t [v] = some x) :
    ∃ xs : List α, RSl (fun b => b < w.heap.size) w sz E v xs ∧ xs.length ≤ Rows.uptoBulk x.1 ∧ ∀ a ∈ xs, Sm (Rows.uptoBulk x.1) a := by
  rcases open_slice ht h with ⟨hv, _⟩ | ⟨a, len, cap, m, n, D, Pl, hv, hb, hl, hm, hmm, hx, hi⟩
  · simp only [List.cons.injEq, and_true] at hv
    subst hv
    exact ⟨[], RSl.nil, by simp, by simp⟩
  · simp only [List.cons.injEq, and_true] at hv
    subst hv
    have hml : len ≤ m := by rw [hmm]; split <;> omega
    have hbk : Rows.uptoBulkAll ((List.range len).map D) + 1 ≤ Rows.uptoBulk x.1 := by rw [hx]; simp only [Rows.uptoBulk]; omega
    have hbl := bulk_ge ((List.range len).map D)
    simp only [List.length_map, List.length_range] at hbl
    have hq : ∀ i, i < len → ∃ a' : α, Sm (Rows.uptoBulk x.1) a' ∧ ∃ cs, E cs a' ∧ cs.length = sz ∧ ∀ j u, cs[j]? = some u → w.cell? ((a.add (i * sz)).add j) = some u := by
      intro i hil
      obtain ⟨cs', hc, ht'⟩ := hi i (by omega)
      rw [hC] at hc
      obtain ⟨a', hE, hS⟩ := hel _ _ _ ht'
      obtain ⟨_, hcl, hat⟩ := World.cells?_some hc
      have hD : Rows.uptoBulk (D i) ≤ Rows.uptoBulkAll ((List.range len).map D) := bulk_mem (List.mem_map.2 ⟨i, List.mem_range.2 hil, rfl⟩)
      refine ⟨a', mono _ _ _ (show Rows.uptoBulk (D i) ≤ _ by omega) hS, cs', hE, hcl, fun j u hu => ?_⟩
      have hj : j < sz := by
        have := (List.getElem?_eq_some_iff.1 hu).1
        omega
      rw [hat j hj, hu]
    rcases Nat.eq_zero_or_pos len with h0 | hpos
    · subst h0
      exact ⟨[], ⟨some a, cap, rfl, Nat.zero_le _, hm, fun h => (by cases h), .inl rfl⟩, by simp, by simp⟩
    · have hne : ∃ _ : α, True := by obtain ⟨a', _, _⟩ := hq 0 hpos; exact ⟨a', trivial⟩
      obtain ⟨dflt, _⟩ := hne
      have hch : ∃ f : Nat → α, ∀ i, i < len → Sm (Rows.uptoBulk x.1) (f i) ∧ ∃ cs, E cs (f i) ∧ cs.length = sz ∧ ∀ j u, cs[j]? = some u → w.cell? ((a.add (i * sz)).add j) = some u := by
        refine ⟨fun i => if hil : i < len then (hq i hil).choose else dflt, fun i hil => ?_⟩
        simp only [dif_pos hil]
        exact (hq i hil).choose_spec
      obtain ⟨f, hf⟩ := hch
      obtain ⟨b, off, spot⟩ := a
      obtain ⟨_, cs0, _, hl0, hc0⟩ := hf 0 hpos
      have h00 := hc0 0 (cs0[0]'(by omega)) (List.getElem?_eq_getElem _)
      have hspot : spot = none := by
        have := World.cell?_spot h00
        simpa [Addr.add] using this
      subst hspot
      have hblt : b < w.heap.size := by
        have := World.block_lt_of_cell? w _ h00
        rwa [rd_add, rd_add] at this
      refine ⟨(List.range len).map f, ⟨some ⟨b, off, none⟩, cap, by simp, by simpa using hl, hm, (fun h => by cases h), .inr ⟨b, off, rfl, hblt, hblt, ?_⟩⟩, by simp; omega, ?_⟩
      · intro i y hy
        have hil : i < len := by
          have := (List.getElem?_eq_some_iff.1 hy).1
          simpa using this
        have hx' : f i = y := by simpa [List.getElem?_map, List.getElem?_range hil] using hy
        subst hx'
        obtain ⟨_, cs, h1, h2, h3⟩ := hf i hil
        refine ⟨cs, h1, fun j u hu => ?_⟩
        have := h3 j u hu
        rw [rd_add, rd_add] at this
        exact this
      · intro a' ha'
        obtain ⟨i, hi', rfl⟩ := List.mem_map.1 ha'
        exact (hf i (List.mem_range.1 hi')).1
end

/-- All lists of a pattern, a rule are at most n long. -/
def patSm (n : Nat) (p : Pat) : Prop := p.args.length ≤ n
structure rlSm (n : Nat) (r : Rl) : Prop where
  head : patSm n r.head
  pos : r.pos.length ≤ n ∧ ∀ p ∈ r.pos, patSm n p
  tests : r.tests.length ≤ n
  neg : r.neg.length ≤ n ∧ ∀ p ∈ r.neg, patSm n p
  vars : r.vars.length ≤ n
theorem patSm.mono {m n : Nat} {p : Pat} (h : m ≤ n) (hp : patSm m p) : patSm n p := Nat.le_trans hp h
theorem rlSm.mono {m n : Nat} {r : Rl} (h : m ≤ n) (hp : rlSm m r) : rlSm n r :=
  ⟨hp.head.mono h, ⟨Nat.le_trans hp.pos.1 h, fun p hh => (hp.pos.2 p hh).mono h⟩, Nat.le_trans hp.tests h, ⟨Nat.le_trans hp.neg.1 h, fun p hh => (hp.neg.2 p hh).mono h⟩, Nat.le_trans hp.vars h⟩

section
variable {H : Type} {enc : TypeId × Value → H} {w : World} {base : Nat} {spare : Nat → Bool} {held : Bool} {fuel : Nat} {cs : List Value} {x : DataW H × List MemPlace}
theorem cIntR : Try.prog.cellsOf 3 = 1 := by kernel_rfl
theorem cBoolR : Try.prog.cellsOf 4 = 1 := by kernel_rfl
theorem cStrR : Try.prog.cellsOf 9 = 1 := by kernel_rfl
theorem cSltR : Try.prog.cellsOf 50 = 2 := by kernel_rfl
theorem cPatR : Try.prog.cellsOf 34 = 2 := by kernel_rfl
theorem cTstR : Try.prog.cellsOf 52 = 5 := by kernel_rfl
theorem cRlR : Try.prog.cellsOf 39 = 7 := by kernel_rfl
theorem cSPat : Try.prog.cellsOf 35 = 1 := by kernel_rfl
theorem cSSlt : Try.prog.cellsOf 32 = 1 := by kernel_rfl
theorem cSTst : Try.prog.cellsOf 36 = 1 := by kernel_rfl
theorem cSStr : Try.prog.cellsOf 37 = 1 := by kernel_rfl

theorem list_one {α : Type} {l : List α} (h : l.length = 1) : ∃ a, l = [a] := by
  match l, h with
  | [a], _ => exact ⟨a, rfl⟩
theorem list_two {α : Type} {l : List α} (h : l.length = 2) : ∃ a b, l = [a, b] := by
  match l, h with
  | [a, b], _ => exact ⟨a, b, rfl⟩
theorem list_five {α : Type} {l : List α} (h : l.length = 5) : ∃ a b c d e, l = [a, b, c, d, e] := by
  match l, h with
  | [a, b, c, d, e], _ => exact ⟨a, b, c, d, e, rfl⟩
theorem list_seven {α : Type} {l : List α} (h : l.length = 7) : ∃ a b c d e f g, l = [a, b, c, d, e, f, g] := by
  match l, h with
  | [a, b, c, d, e, f, g], _ => exact ⟨a, b, c, d, e, f, g, rfl⟩
theorem list_six {α : Type} {l : List α} (h : l.length = 6) : ∃ a b c d e f, l = [a, b, c, d, e, f] := by
  match l, h with
  | [a, b, c, d, e, f], _ => exact ⟨a, b, c, d, e, f, rfl⟩
theorem list_three {α : Type} {l : List α} (h : l.length = 3) : ∃ a b c, l = [a, b, c] := by
  match l, h with
  | [a, b, c], _ => exact ⟨a, b, c, rfl⟩
theorem bulk_part {d : DataW H} {ys : List (DataW H × List MemPlace)} (hx : d = .agg (ys.map (·.1))) {y : DataW H × List MemPlace} (hy : y ∈ ys) : Rows.uptoBulk y.1 ≤ Rows.uptoBulk d := by
  have := bulk_mem (List.mem_map.2 ⟨y, hy, rfl⟩ : y.1 ∈ ys.map (·.1))
  rw [hx]
  simp only [Rows.uptoBulk]
  omega

theorem open_slt (h : DataW.trod enc Try.prog w base spare held fuel 50 cs = some x) : ∃ s : Slt, ESlt cs s ∧ True := by
  obtain ⟨ys, n, _, _, hlen, hyl, hf⟩ := DataW.trod_struct Try.underlying50 h
  rw [cSltR] at hlen
  obtain ⟨a, b, rfl⟩ := list_two hlen
  obtain ⟨y0, y1, rfl⟩ := list_two (show ys.length = 2 from hyl)
  have g0 := hf 0 _ rfl
  change DataW.trod enc Try.prog w base spare held n 4 (List.take (Try.prog.cellsOf 4) (List.drop 0 [a, b])) = some y0 at g0
  rw [cBoolR] at g0
  have g1 := hf 1 _ rfl
  change DataW.trod enc Try.prog w base spare held n 3 (List.take (Try.prog.cellsOf 3) (List.drop 1 [a, b])) = some y1 at g1
  rw [cIntR] at g1
  simp only [List.drop_zero, List.take_succ_cons, List.take_zero, List.drop_succ_cons] at g0 g1
  obtain ⟨v, hv, _⟩ := DataW.trod_bool Try.underlying4 g0
  obtain ⟨k, hk, _, wk⟩ := DataW.trod_int Try.underlying3 g1
  simp only [List.cons.injEq, and_true] at hv hk
  subst hv; subst hk
  exact ⟨⟨v, k⟩, ⟨rfl, wk⟩, trivial⟩
theorem open_str (h : DataW.trod enc Try.prog w base spare held fuel 9 cs = some x) : ∃ s : ByteArray, EStr cs s ∧ s.size ≤ Rows.uptoBulk x.1 := by
  obtain ⟨s, hs, hx, ws⟩ := DataW.trod_string Try.underlying9 h
  refine ⟨s, ⟨hs, ws⟩, ?_⟩
  have e3 : s.data.toList.length = s.size := by rw [Array.length_toList]; rfl
  rw [hx]
  simp only [Rows.uptoBulk]
  omega
theorem open_pat (h : DataW.trod enc Try.prog w base spare held fuel 34 cs = some x) : ∃ p : Pat, EPat (fun b => b < w.heap.size) w cs p ∧ patSm (Rows.uptoBulk x.1) p := by
  obtain ⟨ys, n, _, hx, hlen, hyl, hf⟩ := DataW.trod_struct Try.underlying34 h
  rw [cPatR] at hlen
  obtain ⟨a, b, rfl⟩ := list_two hlen
  obtain ⟨y0, y1, rfl⟩ := list_two (show ys.length = 2 from hyl)
  have g0 := hf 0 _ rfl
  change DataW.trod enc Try.prog w base spare held n 3 (List.take (Try.prog.cellsOf 3) (List.drop 0 [a, b])) = some y0 at g0
  rw [cIntR] at g0
  have g1 := hf 1 _ rfl
  change DataW.trod enc Try.prog w base spare held n 32 (List.take (Try.prog.cellsOf 32) (List.drop 1 [a, b])) = some y1 at g1
  rw [cSSlt] at g1
  simp only [List.drop_zero, List.take_succ_cons, List.take_zero, List.drop_succ_cons] at g0 g1
  obtain ⟨k, hk, _, wk⟩ := DataW.trod_int Try.underlying3 g0
  simp only [List.cons.injEq, and_true] at hk
  subst hk
  obtain ⟨xs, r1, r2, _⟩ := open_rsl (E := ESlt) (Sm := fun _ _ => True) (fun _ _ _ _ _ => trivial) Try.underlying32 cSltR (by decide) (fun _ _ _ h => open_slt h) g1
  refine ⟨⟨k, xs⟩, ⟨b, rfl, wk, r1⟩, ?_⟩
  have := bulk_part (d := x.1) (by rw [hx]) (show y1 ∈ [y0, y1] by simp)
  exact Nat.le_trans r2 this
theorem open_tst (h : DataW.trod enc Try.prog w base spare held fuel 52 cs = some x) : ∃ t : Tst, ETst cs t ∧ True := by
  obtain ⟨ys, n, _, hx, hlen, hyl, hf⟩ := DataW.trod_struct Try.underlying52 h
  rw [cTstR] at hlen
  obtain ⟨a, b, c, d, e, rfl⟩ := list_five hlen
  obtain ⟨y0, y1, y2, rfl⟩ := list_three (show ys.length = 3 from hyl)
  have g0 := hf 0 _ rfl
  change DataW.trod enc Try.prog w base spare held n 3 (List.take (Try.prog.cellsOf 3) (List.drop 0 [a, b, c, d, e])) = some y0 at g0
  rw [cIntR] at g0
  have g1 := hf 1 _ rfl
  change DataW.trod enc Try.prog w base spare held n 50 (List.take (Try.prog.cellsOf 50) (List.drop 1 [a, b, c, d, e])) = some y1 at g1
  rw [cSltR] at g1
  have g2 := hf 2 _ rfl
  change DataW.trod enc Try.prog w base spare held n 50 (List.take (Try.prog.cellsOf 50) (List.drop 3 [a, b, c, d, e])) = some y2 at g2
  rw [cSltR] at g2
  simp only [List.drop_zero, List.take_succ_cons, List.take_zero, List.drop_succ_cons] at g0 g1 g2
  obtain ⟨k, hk, _, wk⟩ := DataW.trod_int Try.underlying3 g0
  obtain ⟨s1, ⟨e1, k1⟩, _⟩ := open_slt g1
  obtain ⟨s2, ⟨e2, k2⟩, _⟩ := open_slt g2
  simp only [List.cons.injEq, and_true] at hk e1 e2
  obtain ⟨rfl, rfl⟩ := e1
  obtain ⟨rfl, rfl⟩ := e2
  subst hk
  exact ⟨⟨k, s1, s2⟩, ⟨rfl, wk, k1, k2⟩, trivial⟩
theorem open_rl (h : DataW.trod enc Try.prog w base spare held fuel 39 cs = some x) : ∃ r : Rl, ERule (fun b => b < w.heap.size) w cs r ∧ rlSm (Rows.uptoBulk x.1) r := by
  obtain ⟨ys, n, _, hx, hlen, hyl, hf⟩ := DataW.trod_struct Try.underlying39 h
  rw [cRlR] at hlen
  obtain ⟨a, b, c, d, e, f, g, rfl⟩ := list_seven hlen
  obtain ⟨y0, y1, y2, y3, y4, y5, rfl⟩ := list_six (show ys.length = 6 from hyl)
  have g0 := hf 0 _ rfl
  change DataW.trod enc Try.prog w base spare held n 34 (List.take (Try.prog.cellsOf 34) (List.drop 0 [a, b, c, d, e, f, g])) = some y0 at g0
  rw [cPatR] at g0
  have g1 := hf 1 _ rfl
  change DataW.trod enc Try.prog w base spare held n 35 (List.take (Try.prog.cellsOf 35) (List.drop 2 [a, b, c, d, e, f, g])) = some y1 at g1
  rw [cSPat] at g1
  have g2 := hf 2 _ rfl
  change DataW.trod enc Try.prog w base spare held n 36 (List.take (Try.prog.cellsOf 36) (List.drop 3 [a, b, c, d, e, f, g])) = some y2 at g2
  rw [cSTst] at g2
  have g3 := hf 3 _ rfl
  change DataW.trod enc Try.prog w base spare held n 35 (List.take (Try.prog.cellsOf 35) (List.drop 4 [a, b, c, d, e, f, g])) = some y3 at g3
  rw [cSPat] at g3
  have g4 := hf 4 _ rfl
  change DataW.trod enc Try.prog w base spare held n 37 (List.take (Try.prog.cellsOf 37) (List.drop 5 [a, b, c, d, e, f, g])) = some y4 at g4
  rw [cSStr] at g4
  have g5 := hf 5 _ rfl
  change DataW.trod enc Try.prog w base spare held n 3 (List.take (Try.prog.cellsOf 3) (List.drop 6 [a, b, c, d, e, f, g])) = some y5 at g5
  rw [cIntR] at g5
  simp only [List.drop_zero, List.take_succ_cons, List.take_zero, List.drop_succ_cons] at g0 g1 g2 g3 g4 g5
  obtain ⟨hd, ⟨hv, h1, h2, h3⟩, h4⟩ := open_pat g0
  simp only [List.cons.injEq, and_true] at h1
  obtain ⟨rfl, rfl⟩ := h1
  obtain ⟨ps, p1, p2, p3⟩ := open_rsl (E := EPat (fun b => b < w.heap.size) w) (Sm := patSm) (fun _ _ _ h h' => h'.mono h) Try.underlying35 cPatR (by decide) (fun _ _ _ h => open_pat h) g1
  obtain ⟨ts, t1, t2, _⟩ := open_rsl (E := ETst) (Sm := fun _ _ => True) (fun _ _ _ _ _ => trivial) Try.underlying36 cTstR (by decide) (fun _ _ _ h => open_tst h) g2
  obtain ⟨ns, n1, n2, n3⟩ := open_rsl (E := EPat (fun b => b < w.heap.size) w) (Sm := patSm) (fun _ _ _ h h' => h'.mono h) Try.underlying35 cPatR (by decide) (fun _ _ _ h => open_pat h) g3
  obtain ⟨vs, v1, v2, _⟩ := open_rsl (E := EStr) (Sm := fun _ _ => True) (fun _ _ _ _ _ => trivial) Try.underlying37 cStrR (by decide) (fun _ _ _ h => by obtain ⟨s, h1, _⟩ := open_str h; exact ⟨s, h1, trivial⟩) g4
  obtain ⟨k, hk, _, wk⟩ := DataW.trod_int Try.underlying3 g5
  simp only [List.cons.injEq, and_true] at hk
  subst hk
  have B : ∀ y ∈ [y0, y1, y2, y3, y4, y5], Rows.uptoBulk y.1 ≤ Rows.uptoBulk x.1 := fun y hy => bulk_part (d := x.1) (by rw [hx]) hy
  have b0 := B y0 (by simp); have b1 := B y1 (by simp); have b2 := B y2 (by simp); have b3 := B y3 (by simp); have b4 := B y4 (by simp)
  exact ⟨⟨hd, ps, ts, ns, vs, k⟩, ⟨_, c, d, e, f, ⟨rfl, h2, wk, h3, p1, t1, n1, v1⟩⟩,
    ⟨h4.mono b0, ⟨Nat.le_trans p2 b1, fun p hp => (p3 p hp).mono b1⟩, Nat.le_trans t2 b2, ⟨Nat.le_trans n2 b3, fun p hp => (n3 p hp).mono b3⟩, Nat.le_trans v2 b4⟩⟩
theorem open_rules {v : Value} (h : DataW.trod enc Try.prog w base spare held fuel 22 [v] = some x) : ∃ rs : List Rl, RRules (fun b => b < w.heap.size) w v rs ∧ rs.length ≤ Rows.uptoBulk x.1 ∧ ∀ r ∈ rs, rlSm (Rows.uptoBulk x.1) r :=
  open_rsl (Sm := rlSm) (fun _ _ _ h h' => h'.mono h) Try.underlying22 cRlR (by decide) (fun _ _ _ h => open_rl h) h
end
end Go.Proofs.Ytonkbjdeaneicaa

namespace Go.Proofs.Ytonkbjdeaneicaa
open Go.RowKit Pln Classical

/-- All slots are fit, with variables below w. -/
noncomputable def fitB (xs : List Slt) (w : Nat) : Bool := decide (∀ s ∈ xs, belowP w s)
theorem fitB_true {xs : List Slt} {w : Nat} (h : ∀ s ∈ xs, belowP w s) : fitB xs w = true := by simp only [fitB, decide_eq_true_eq]; exact h
theorem fitB_false {xs : List Slt} {w : Nat} {s : Slt} {k : Nat} (hs : xs[k]? = some s) (h : ¬ belowP w s) : fitB xs w = false := by
  simp only [fitB, decide_eq_false_iff_not]
  exact fun hh => h (hh s (List.mem_of_getElem? hs))
theorem take_all {α : Type} {p : α → Prop} {xs : List α} {k : Nat} {s : α} (h : ∀ x ∈ xs.take k, p x) (hs : xs[k]? = some s) (h2 : p s) : ∀ x ∈ xs.take (k + 1), p x := by
  intro x hx
  rw [List.take_add_one, hs] at hx
  rcases List.mem_append.1 hx with hx | hx
  · exact h x hx
  · rw [List.mem_singleton.1 hx]; exact h2

theorem ret_bool {a b : Bool} (h : a = b) : Ending.returned (.bool a) = .returned (.bool b) := by rw [h]
set_option maxRecDepth 100000 in
theorem fitSlotsW {F : Nat → Prop} (v : Value) (xs : List Slt) (wd : Nat) (w : World) (h : RSl F w 2 ESlt v xs) :
    Calls Try.prog 59 #[v, .int .i64 wd] w fun e w' => e = .returned (.bool (fitB xs wd)) ∧ w = w' := by
  obtain ⟨A, c, rfl⟩ := h.form
  have hm := h.len
  unfold maxLen at hm
  go_enter Try.func59, Try.ntmps59
  go_wp2
  go_loop [5] (fun i => ∃ k : Nat, i = .int .i64 k ∧ k ≤ xs.length ∧ ∀ s ∈ xs.take k, belowP wd s) (fun i => xs.length - (intOf i).toNat)
  case atStart => exact ⟨0, rfl, Nat.zero_le _, by simp⟩
  case round =>
    obtain ⟨k, rfl, hk, hq⟩ := hrel
    by_cases hkn : k < xs.length
    · obtain ⟨s, hs⟩ : ∃ s, xs[k]? = some s := ⟨_, List.getElem?_eq_getElem hkn⟩
      obtain ⟨b, off, rfl, _, _, cs, ⟨rfl, hok⟩, hc⟩ := h.at hs
      have c0 := hc 0 _ rfl
      have c1 := hc 1 _ rfl
      simp only [Nat.add_zero] at c0
      obtain ⟨sv, sn⟩ := s
      have e1 : (0 : Int) ≤ (k : Int) := by omega
      have e2 : (k : Int) < (xs.length : Int) := by omega
      have HS := Lib.hid hs
      have HQ := Lib.hid hq
      have HK := Lib.hid hkn
      clear hc h hs hq hkn
      simp only at c0 c1
      by_cases h0 : sn < 0
      · have HF := Lib.hid (fitB_false (w := wd) HS.out (fun h => by have := h.1; simp only at this; omega))
        go_wp2
        go_ret
        exact ⟨ret_bool HF.out.symm, rfl⟩
      · cases sv with
        | false =>
          go_wp2
          go_round
          case rel => exact ⟨k + 1, by go_num, HK.out, take_all HQ.out HS.out ⟨by simp only; omega, fun h => by cases h⟩⟩
          case measure => simp [intOf]; have := HK.out; omega
        | true =>
          by_cases h1 : sn < (wd : Int)
          · go_wp2
            go_round
            case rel => exact ⟨k + 1, by go_num, HK.out, take_all HQ.out HS.out ⟨by simp only; omega, fun _ => h1⟩⟩
            case measure => simp [intOf]; have := HK.out; omega
          · have HF := Lib.hid (fitB_false (w := wd) HS.out (fun h => by have := h.2 rfl; simp only at this; omega))
            go_wp2
            go_ret
            exact ⟨ret_bool HF.out.symm, rfl⟩
    · obtain rfl : k = xs.length := by omega
      rw [List.take_length] at hq
      have HF := Lib.hid (fitB_true hq)
      clear hq
      go_wp2
      go_ret
      exact ⟨ret_bool HF.out.symm, rfl⟩

noncomputable def mayB (r : Rl) : Bool := decide (mayP r)
theorem mayB_false {r : Rl} (h : ¬ mayP r) : mayB r = false := by simp only [mayB, decide_eq_false_iff_not]; exact h
theorem mayB_true {r : Rl} (h : mayP r) : mayB r = true := by simp only [mayB, decide_eq_true_eq]; exact h
theorem flat_len : ∀ (l : List Pat), (∀ p ∈ l, p.args.length ≤ 8) → (l.flatMap Pat.args).length ≤ 8 * l.length
  | [], _ => by simp
  | p :: l, h => by
    have h1 := h p (List.mem_cons_self ..)
    have h2 := flat_len l (fun q hq => h q (List.mem_cons_of_mem _ hq))
    rw [List.flatMap_cons, List.length_append, List.length_cons]
    omega
theorem flat_take {l : List Pat} {k : Nat} {p : Pat} (h : l[k]? = some p) : (l.take (k + 1)).flatMap Pat.args = (l.take k).flatMap Pat.args ++ p.args := by
  rw [List.take_add_one, h, List.flatMap_append]
  simp
theorem flat_split {l : List Pat} {k : Nat} {p : Pat} (h : l[k]? = some p) : l.flatMap Pat.args = (l.take k).flatMap Pat.args ++ (p.args ++ (l.drop (k + 1)).flatMap Pat.args) := by
  have e : l = l.take (k + 1) ++ l.drop (k + 1) := (List.take_append_drop _ _).symm
  conv => lhs; rw [e]
  rw [List.flatMap_append, flat_take h, List.append_assoc]
/-- Two slots in a new block. -/
theorem lit2 (W : World) (B : Nat) (hB : W.heap.size = B) (a c : Bool) (b d : Int) (t : TypeId) (hb : i64ok b) (hd : i64ok d) : RSl (fun _ => True) (W.alloc (.cells #[.bool a, .int .i64 b, .bool c, .int .i64 d] t)) 2 ESlt (.slice (some ⟨B, 0, none⟩) 2 2) [⟨a, b⟩, ⟨c, d⟩] := by
  subst hB
  have hh := heap_alloc_new W (.cells #[.bool a, .int .i64 b, .bool c, .int .i64 d] t)
  refine ⟨_, 2, rfl, Nat.le_refl _, by unfold maxLen; decide, (fun h => by cases h), .inr ⟨W.heap.size, 0, rfl, trivial, by simp, fun i x hx => ?_⟩⟩
  match i with
  | 0 =>
    simp only [List.getElem?_cons_zero, Option.some.injEq] at hx
    subst hx
    refine ⟨_, ⟨rfl, hb⟩, fun j u hu => ?_⟩
    have := cell_of_row _ W.heap.size j _ _ _ hh
    match j with
    | 0 => simp at hu; subst hu; exact this
    | 1 => simp at hu; subst hu; exact this
    | j + 2 => simp at hu
  | 1 =>
    simp only [List.getElem?_cons_succ, List.getElem?_cons_zero, Option.some.injEq] at hx
    subst hx
    refine ⟨_, ⟨rfl, hd⟩, fun j u hu => ?_⟩
    have := cell_of_row _ W.heap.size (2 + j) _ _ _ hh
    match j with
    | 0 => simp at hu; subst hu; exact this
    | 1 => simp at hu; subst hu; exact this
    | j + 2 => simp at hu
  | i + 2 => simp at hx

def SomeMay (r : Rl) (w : World) (e : Ending) (w' : World) : Prop := ∃ n : Int, e = .returned (.tuple #[.int .i64 n, .bool (mayB r)]) ∧ Below w.heap.size w w'
theorem someMay {r : Rl} {w w' : World} {n : Int} {b : Bool} (hb : mayB r = b) (h : Below w.heap.size w w') : SomeMay r w (.returned (.tuple #[.int .i64 n, .bool b])) w' := ⟨n, by rw [hb], h⟩

/-- How far the positive atoms have been looked at. -/
structure PosTo (r : Rl) (k : Nat) : Prop where
  le : k ≤ r.pos.length
  pats : ∀ p ∈ r.pos.take k, 0 ≤ p.pred ∧ p.args.length ≤ 8
  ok : okA ((r.pos.take k).flatMap Pat.args) 0
noncomputable def wAt (r : Rl) (k : Nat) : Nat := scanD ((r.pos.take k).flatMap Pat.args) 0
theorem PosTo.wle {r : Rl} {k : Nat} (h : PosTo r k) (hr : r.pos.length ≤ 16) : wAt r k ≤ 128 := by
  have h1 := scanD_len ((r.pos.take k).flatMap Pat.args) 0
  have h2 := flat_len (r.pos.take k) (fun p hp => (h.pats p hp).2)
  have h3 : (r.pos.take k).length ≤ 16 := by rw [List.length_take]; omega
  unfold wAt
  omega
theorem PosTo.next {r : Rl} {k : Nat} (h : PosTo r k) {p : Pat} (hp : r.pos[k]? = some p) (h1 : 0 ≤ p.pred) (h2 : p.args.length ≤ 8) (h3 : okA p.args (wAt r k)) : PosTo r (k + 1) ∧ wAt r (k + 1) = scanD p.args (wAt r k) := by
  refine ⟨⟨(List.getElem?_eq_some_iff.1 hp).1, take_all h.pats hp ⟨h1, h2⟩, ?_⟩, ?_⟩
  · rw [flat_take hp, okA_app]; exact ⟨h.ok, h3⟩
  · unfold wAt; rw [flat_take hp, scanD_app]
theorem fit_at {r : Rl} (h : mayP r) {k : Nat} {p : Pat} (hp : r.pos[k]? = some p) : okA p.args (wAt r k) ∧ 0 ≤ p.pred ∧ p.args.length ≤ 8 := by
  obtain ⟨w, h⟩ := h
  have h1 := h.ok
  rw [flat_split hp, okA_app, okA_app] at h1
  exact ⟨h1.2.1, h.pats p (List.mem_of_getElem? hp)⟩

theorem box_cell {w wr : World} {cs : Array Value} {T : TypeId} (hb : Below (w.heap.size + 1) (w.alloc (.cells cs T)) wr) (j : Nat) (u : Value) (hu : cs[j]? = some u) : wr.cell? ⟨w.heap.size, j, none⟩ = some u :=
  (hb.cell (p := ⟨w.heap.size, j, none⟩) (by simp)).trans (cell_of_row _ _ j _ _ _ (heap_alloc_new w _) |>.trans hu)
theorem box_below {w wr : World} {o : Obj} (hb : Below (w.heap.size + 1) (w.alloc o) wr) : Below w.heap.size w wr :=
  ((Below.refl _ _).alloc (Nat.le_refl _) o).trans (hb.mono (by omega))
theorem box_step {w wr wr' : World} {o : Obj} (hb : Below (w.heap.size + 1) (w.alloc o) wr) (h : Below wr.heap.size wr wr') : Below (w.heap.size + 1) (w.alloc o) wr' :=
  hb.trans (h.mono (by have := hb.size; simpa using this))

set_option maxRecDepth 100000 in
set_option maxHeartbeats 4000000 in
theorem widthW {F : Nat → Prop} {cs : List Value} {hv pv tv nv vv : Value} (r : Rl) (w : World) (h : ERl F w cs r hv pv tv nv vv) (hS : rlSm 1048576 r) :
    Calls Try.prog 37 #[.agg #[.int .i64 r.head.pred, hv, pv, tv, nv, vv, .int .i64 r.clause]] w (SomeMay r w) := by
  obtain ⟨Ap, cp, hpv⟩ := h.pos.form
  obtain ⟨At, ct, htv⟩ := h.tests.form
  obtain ⟨An, cn, hnv⟩ := h.neg.form
  subst hpv; subst htv; subst hnv
  have l1 := hS.pos.1
  have l2 := hS.tests
  have l3 := hS.neg.1
  have H := Lib.hid h
  have SM := Lib.hid hS
  clear h hS
  by_cases hmany : 16 < r.pos.length + r.tests.length + r.neg.length
  · have hb := Lib.hid (mayB_false (r := r) (fun ⟨w, hh⟩ => by have := hh.many; omega))
    go_enter Try.func37, Try.ntmps37
    go_wp2
    go_ret2
    exact someMay hb.out ((Below.refl _ _).alloc (Nat.le_refl _) _)
  · go_enter Try.func37, Try.ntmps37
    go_wp2
    go_loopw [4, 5] (fun wd i wr => ∃ k : Nat, i = .int .i64 k ∧ wd = .int .i64 (wAt r k) ∧ PosTo r k ∧ Below (w.heap.size + 1) (w.alloc (.cells #[.int .i64 r.head.pred, hv, .slice Ap r.pos.length cp, .slice At r.tests.length ct, .slice An r.neg.length cn, vv, .int .i64 r.clause] 39)) wr) (fun _ i _ => r.pos.length - (intOf i).toNat)
    case atStart => exact ⟨0, rfl, rfl, ⟨Nat.zero_le _, by simp, trivial⟩, Below.refl _ _⟩
    case round =>
      obtain ⟨k, rfl, rfl, hP, hb⟩ := hrel
      have x1 := box_cell hb 2 _ rfl
      have hw128 := hP.wle (by omega)
      have hwz : w.heap.size < wr.heap.size := by have := hb.size; simp at this; omega
      by_cases hkn : k < r.pos.length
      · obtain ⟨p, hp⟩ : ∃ p, r.pos[k]? = some p := ⟨_, List.getElem?_eq_getElem hkn⟩
        obtain ⟨b, off, rfl, hFb, hbs, cs, ⟨av, rfl, pok, ha⟩, hc⟩ := (H.out.pos.kp (Kp.of_below (box_below hb)) (fun _ _ h => h) (fun _ _ h => h.kp (Kp.of_below (box_below hb)) (fun _ _ h => h))).at hp
        have c0 := hc 0 _ rfl
        have c1 := hc 1 _ rfl
        simp only [Nat.add_zero] at c0
        obtain ⟨Aa, ca, rfl⟩ := ha.form
        have hpl := SM.out.pos.2 p (List.mem_of_getElem? hp)
        unfold patSm at hpl
        obtain ⟨w0, hw0⟩ : ∃ w0, wAt r k = w0 := ⟨_, rfl⟩
        have HW0 := Lib.hid hw0
        rw [hw0] at hw128 ⊢
        have e1 : (0 : Int) ≤ (k : Int) := by omega
        have e2 : (k : Int) < (r.pos.length : Int) := by omega
        have HP := Lib.hid hp
        have HH := Lib.hid hP
        have HK := Lib.hid hkn
        have HB := Lib.hid hb
        have HA := Lib.hid ha
        have hc' := Lib.hid hc
        clear hc hw0 hp hP hkn hb ha
        go_wp2
        obtain ⟨wo, rfl⟩ : ∃ wo : World, wo = wr := ⟨_, rfl⟩
        go_loopw [4, 6] (fun wd i wr => ∃ j : Nat, i = .int .i64 j ∧ wd = .int .i64 (scanD (p.args.take j) w0) ∧ j ≤ p.args.length ∧ okA (p.args.take j) w0 ∧ Below wo.heap.size wo wr) (fun _ i _ => p.args.length - (intOf i).toNat)
        case atStart => exact ⟨0, rfl, rfl, Nat.zero_le _, trivial, Below.refl _ _⟩
        case round =>
          obtain ⟨j, rfl, rfl, hj, hok, hb2⟩ := hrel
          have x1' := (hb2.cell (p := ⟨w.heap.size, 2, none⟩) hwz).trans x1
          have hwz' : w.heap.size < wr.heap.size := Nat.lt_of_lt_of_le hwz hb2.size
          have hC2 := hc'.out.kp (F := fun _ => True) (Kp.of_below hb2) hbs trivial
          have c1' := hC2 1 _ rfl
          have hlen := scanD_len (p.args.take j) w0
          have hlj : (p.args.take j).length ≤ j := List.length_take_le _ _
          have HB2 := Lib.hid hb2
          clear x1 c0 c1 hC2
          by_cases hjn : j < p.args.length
          · obtain ⟨s, hs⟩ : ∃ s, p.args[j]? = some s := ⟨_, List.getElem?_eq_getElem hjn⟩
            obtain ⟨b', off', hAe, hF', hbs', cs', ⟨rfl, sok⟩, hc2⟩ := (HA.out.keep (Kp.of_below hb2)).at hs
            subst hAe
            have d0 := hc2 0 _ rfl
            have d1 := hc2 1 _ rfl
            simp only [Nat.add_zero] at d0
            obtain ⟨sv, sn⟩ := s
            simp only at d0 d1
            have f1 : (0 : Int) ≤ (j : Int) := by omega
            have f2 : (j : Int) < (p.args.length : Int) := by omega
            have hbb : b' < wr.heap.size := hbs'
            have hbb2 : b < wr.heap.size := Nat.lt_of_lt_of_le hbs hb2.size
            obtain ⟨wc, hwc⟩ : ∃ wc, scanD (p.args.take j) w0 = wc := ⟨_, rfl⟩
            have HWC := Lib.hid hwc
            have HOK := Lib.hid hok
            have HJ := Lib.hid hjn
            have HS := Lib.hid hs
            rw [hwc] at hlen ⊢
            have hwc2 : wc ≤ 1048704 := by omega
            clear hwc hlen hok hc2 hs hjn hlj hb2
            by_cases h0 : sn < 0
            · have HF := Lib.hid (mayB_false (r := r) (fun hh => by have := (okA_at (fit_at hh HP.out).1 HS.out).1; simp only at this; omega))
              go_wp2
              go_ret2
              exact someMay HF.out (((box_below HB.out).trans (HB2.out.mono (by omega))).trans (((Below.refl _ _).alloc (Nat.le_refl _) _).mono (by omega)))
            · have HW2 := Lib.hid (HB2.out.trans (((Below.refl wr.heap.size wr).alloc (Nat.le_refl _) (.cells #[.bool sv, .int .i64 sn] 50)).mono HB2.out.size))
              cases sv with
              | false =>
                have HX := Lib.hid (show scanD (p.args.take (j + 1)) w0 = wc by rw [scanD_succ HS.out, if_neg (by simp)]; exact HWC.out)
                have HO := Lib.hid (okA_snoc HS.out HOK.out (by simp only; omega) (by simp))
                go_wp2
                exact ⟨⟨j + 1, by go_num, by rw [HX.out], HJ.out, HO.out, HW2.out⟩, by simp [intOf]; have := HJ.out; omega⟩
              | true =>
                by_cases h1 : (wc : Int) < sn
                · have HF := Lib.hid (mayB_false (r := r) (fun hh => by
                    have h2 := (okA_at (fit_at hh HP.out).1 HS.out).2 rfl
                    rw [HW0.out, HWC.out] at h2
                    simp only at h2
                    omega))
                  go_wp2
                  go_ret2
                  exact someMay HF.out (((box_below HB.out).trans (HB2.out.mono (by omega))).trans (((Below.refl _ _).alloc (Nat.le_refl _) _).mono (by omega)))
                · have HO := Lib.hid (okA_snoc HS.out HOK.out (by simp only; omega) (fun _ => by rw [HWC.out]; simp only; omega))
                  by_cases h2 : sn = (wc : Int)
                  · have HX := Lib.hid (show scanD (p.args.take (j + 1)) w0 = wc + 1 by rw [scanD_succ HS.out, HWC.out, if_pos ⟨rfl, h2⟩])
                    have h2b : (sn == (wc : Int)) = true := by simpa using h2
                    clear h2
                    go_wp2
                    exact ⟨⟨j + 1, by go_num, by rw [HX.out]; go_num, HJ.out, HO.out, HW2.out⟩, by simp [intOf]; have := HJ.out; omega⟩
                  · have HX := Lib.hid (show scanD (p.args.take (j + 1)) w0 = wc by rw [scanD_succ HS.out, HWC.out, if_neg (fun h => h2 h.2)])
                    have h2b : (sn == (wc : Int)) = false := by simpa using h2
                    clear h2
                    go_wp2
                    exact ⟨⟨j + 1, by go_num, by rw [HX.out], HJ.out, HO.out, HW2.out⟩, by simp [intOf]; have := HJ.out; omega⟩
          · obtain rfl : j = p.args.length := by omega
            rw [List.take_length] at hok ⊢
            have hbb2 : b < wr.heap.size := Nat.lt_of_lt_of_le hbs hb2.size
            have c0' := hc'.out.kp (F := fun _ => True) (Kp.of_below hb2) hbs trivial 0 _ rfl
            simp only [Nat.add_zero] at c0'
            have HOK := Lib.hid hok
            have HBB := Lib.hid (box_step HB.out hb2)
            clear hok hb2 hjn hlj
            by_cases h0 : p.pred < 0
            · have HF := Lib.hid (mayB_false (r := r) (fun hh => by have := (fit_at hh HP.out).2.1; omega))
              go_wp2
              go_ret2
              exact someMay HF.out (box_below HBB.out)
            · by_cases h8 : 8 < p.args.length
              · have HF := Lib.hid (mayB_false (r := r) (fun hh => by have := (fit_at hh HP.out).2.2; omega))
                go_wp2
                go_ret2
                exact someMay HF.out (box_below HBB.out)
              · have N := HH.out.next HP.out (by omega) (by omega) (by rw [HW0.out]; exact HOK.out)
                rw [HW0.out] at N
                have N1 := Lib.hid N.1
                have N2 := Lib.hid N.2
                clear N
                go_wp2
                exact ⟨⟨k + 1, by go_num, by rw [N2.out], N1.out, HBB.out⟩, by simp [intOf]; have := HK.out; omega⟩
      · obtain rfl : k = r.pos.length := by have := hP.le; omega
        have hP' : okA (r.pos.flatMap Pat.args) 0 ∧ ∀ p ∈ r.pos, 0 ≤ p.pred ∧ p.args.length ≤ 8 := by
          have h1 := hP.ok
          have h2 := hP.pats
          rw [List.take_length] at h1 h2
          exact ⟨h1, h2⟩
        obtain ⟨wn, hwn⟩ : ∃ wn, wAt r r.pos.length = wn := ⟨_, rfl⟩
        have HW := Lib.hid (show scanD (r.pos.flatMap Pat.args) 0 = wn by unfold wAt at hwn; rw [List.take_length] at hwn; exact hwn)
        rw [hwn] at hw128 ⊢
        have HP := Lib.hid hP'
        have HB := Lib.hid hb
        clear hwn hP' hP hb hkn
        go_wp2
        clear x1 hwz
        obtain ⟨wo, rfl⟩ : ∃ wo : World, wo = wr := ⟨_, rfl⟩
        go_loopw [8] (fun i wr => ∃ k : Nat, i = .int .i64 k ∧ k ≤ r.tests.length ∧ (∀ t ∈ r.tests.take k, 1 ≤ t.op ∧ t.op ≤ 6 ∧ belowP wn t.l ∧ belowP wn t.r) ∧ Below (w.heap.size + 1) (w.alloc (.cells #[.int .i64 r.head.pred, hv, .slice Ap r.pos.length cp, .slice At r.tests.length ct, .slice An r.neg.length cn, vv, .int .i64 r.clause] 39)) wr) (fun i _ => r.tests.length - (intOf i).toNat)
        case atStart => exact ⟨0, rfl, Nat.zero_le _, by simp, HB.out⟩
        case round =>
          obtain ⟨k, rfl, hk, hq, hb⟩ := hrel
          have x1 := box_cell hb 3 _ rfl
          have hwz : w.heap.size < wr.heap.size := by have := hb.size; simp at this; omega
          by_cases hkn : k < r.tests.length
          · obtain ⟨t, ht⟩ : ∃ t, r.tests[k]? = some t := ⟨_, List.getElem?_eq_getElem hkn⟩
            obtain ⟨b, off, rfl, hFb, hbs, cs, ⟨rfl, ok1, ok2, ok3⟩, hc⟩ := (H.out.tests.keep (Kp.of_below (box_below hb))).at ht
            have c0 := hc 0 _ rfl
            have c1 := hc 1 _ rfl
            have c2 := hc 2 _ rfl
            have c3 := hc 3 _ rfl
            have c4 := hc 4 _ rfl
            simp only [Nat.add_zero] at c0
            have e1 : (0 : Int) ≤ (k : Int) := by omega
            have e2 : (k : Int) < (r.tests.length : Int) := by omega
            have HT := Lib.hid ht
            have HQ := Lib.hid hq
            have HK := Lib.hid hkn
            have HBB := Lib.hid hb
            have HM : ∀ h : mayP r, 1 ≤ t.op ∧ t.op ≤ 6 ∧ belowP wn t.l ∧ belowP wn t.r := fun ⟨w', hh⟩ => by
              have := hh.tst t (List.mem_of_getElem? ht)
              rw [← hh.wid, HW.out] at this
              exact this
            have HM' := Lib.hid HM
            clear hc ht hq hkn hb HM
            by_cases h1 : t.op < 1
            · have HF := Lib.hid (mayB_false (r := r) (fun hh => by have := (HM'.out hh).1; omega))
              go_wp2
              go_ret2
              exact someMay HF.out ((box_below HBB.out).trans (((Below.refl _ _).alloc (Nat.le_refl _) _).mono (by omega)))
            · by_cases h2 : 6 < t.op
              · have HF := Lib.hid (mayB_false (r := r) (fun hh => by have := (HM'.out hh).2.1; omega))
                go_wp2
                go_ret2
                exact someMay HF.out ((box_below HBB.out).trans (((Below.refl _ _).alloc (Nat.le_refl _) _).mono (by omega)))
              · by_cases h3 : fitB [⟨t.l.v, t.l.n⟩, ⟨t.r.v, t.r.n⟩] wn = true
                · have HQ2 := Lib.hid (take_all HQ.out HT.out (by
                    simp only [fitB, decide_eq_true_eq] at h3
                    exact ⟨by omega, by omega, h3 _ (by simp), h3 _ (by simp)⟩))
                  have H3 := Lib.hid h3
                  clear h3
                  go_wp2_with (go_at_call 59; refine (fitSlotsW (F := fun _ => True) _ [⟨t.l.v, t.l.n⟩, ⟨t.r.v, t.r.n⟩] wn _ (lit2 _ _ (by simp) _ _ _ _ _ ok2 ok3)).mono ?_; rintro e w' ⟨he, rfl⟩; rw [H3.out] at he; subst he)
                  exact ⟨⟨k + 1, by go_num, HK.out, HQ2.out, box_step HBB.out (((Below.refl _ _).alloc (Nat.le_refl _) _).alloc (by simp) _)⟩, by simp [intOf]; have := HK.out; omega⟩
                · have HF := Lib.hid (mayB_false (r := r) (fun hh => h3 (by
                    obtain ⟨_, _, a1, a2⟩ := HM'.out hh
                    exact fitB_true (fun s hs => by
                      simp only [List.mem_cons, List.not_mem_nil, or_false] at hs
                      rcases hs with rfl | rfl
                      · exact a1
                      · exact a2))))
                  have H3 := Lib.hid (Bool.eq_false_iff.2 h3)
                  clear h3
                  go_wp2_with (go_at_call 59; refine (fitSlotsW (F := fun _ => True) _ [⟨t.l.v, t.l.n⟩, ⟨t.r.v, t.r.n⟩] wn _ (lit2 _ _ (by simp) _ _ _ _ _ ok2 ok3)).mono ?_; rintro e w' ⟨he, rfl⟩; rw [H3.out] at he; subst he)
                  go_ret2
                  exact someMay HF.out ((box_below HBB.out).trans ((((Below.refl _ _).alloc (Nat.le_refl _) _).alloc (by simp) _).mono (by omega)))
          · obtain rfl : k = r.tests.length := by omega
            rw [List.take_length] at hq
            have HQ := Lib.hid hq
            have HBB := Lib.hid hb
            clear hq hb HB
            go_wp2
            clear x1 hwz
            obtain ⟨wo2, rfl⟩ : ∃ wo : World, wo = wr := ⟨_, rfl⟩
            go_loopw [10] (fun i wr => ∃ k : Nat, i = .int .i64 k ∧ k ≤ r.neg.length ∧ (∀ p ∈ r.neg.take k, 0 ≤ p.pred ∧ p.args.length ≤ 8 ∧ ∀ s ∈ p.args, belowP wn s) ∧ Below (w.heap.size + 1) (w.alloc (.cells #[.int .i64 r.head.pred, hv, .slice Ap r.pos.length cp, .slice At r.tests.length ct, .slice An r.neg.length cn, vv, .int .i64 r.clause] 39)) wr) (fun i _ => r.neg.length - (intOf i).toNat)
            case atStart => exact ⟨0, rfl, Nat.zero_le _, by simp, HBB.out⟩
            case round =>
              obtain ⟨k, rfl, hk, hq, hb⟩ := hrel
              have x1 := box_cell hb 4 _ rfl
              have hwz : w.heap.size < wr.heap.size := by have := hb.size; simp at this; omega
              clear HBB
              by_cases hkn : k < r.neg.length
              · obtain ⟨p, hp⟩ : ∃ p, r.neg[k]? = some p := ⟨_, List.getElem?_eq_getElem hkn⟩
                obtain ⟨b, off, rfl, hFb, hbs, cs, ⟨av, rfl, pok, ha⟩, hc⟩ := (H.out.neg.kp (Kp.of_below (box_below hb)) (fun _ _ h => h) (fun _ _ h => h.kp (Kp.of_below (box_below hb)) (fun _ _ h => h))).at hp
                have c0 := hc 0 _ rfl
                have c1 := hc 1 _ rfl
                simp only [Nat.add_zero] at c0
                obtain ⟨Aa, ca, rfl⟩ := ha.form
                have e1 : (0 : Int) ≤ (k : Int) := by omega
                have e2 : (k : Int) < (r.neg.length : Int) := by omega
                have HT := Lib.hid hp
                have HQ' := Lib.hid hq
                have HK := Lib.hid hkn
                have HBB := Lib.hid hb
                have HA := Lib.hid ha
                have HM : ∀ h : mayP r, 0 ≤ p.pred ∧ p.args.length ≤ 8 ∧ ∀ s ∈ p.args, belowP wn s := fun ⟨w', hh⟩ => by
                  have := hh.ngs p (List.mem_of_getElem? hp)
                  rw [← hh.wid, HW.out] at this
                  exact this
                have HM' := Lib.hid HM
                clear hc hp hq hkn hb ha HM
                by_cases h1 : p.pred < 0
                · have HF := Lib.hid (mayB_false (r := r) (fun hh => by have := (HM'.out hh).1; omega))
                  go_wp2
                  go_ret2
                  exact someMay HF.out (box_below HBB.out)
                · by_cases h2 : 8 < p.args.length
                  · have HF := Lib.hid (mayB_false (r := r) (fun hh => by have := (HM'.out hh).2.1; omega))
                    go_wp2
                    go_ret2
                    exact someMay HF.out (box_below HBB.out)
                  · by_cases h3 : fitB p.args wn = true
                    · have HQ2 := Lib.hid (take_all HQ'.out HT.out (by
                        simp only [fitB, decide_eq_true_eq] at h3
                        exact ⟨by omega, by omega, h3⟩))
                      have H3 := Lib.hid h3
                      clear h3
                      go_wp2_with (go_at_call 59; refine (fitSlotsW _ p.args wn _ HA.out).mono ?_; rintro e w' ⟨he, rfl⟩; rw [H3.out] at he; subst he)
                      exact ⟨⟨k + 1, by go_num, HK.out, HQ2.out, HBB.out⟩, by simp [intOf]; have := HK.out; omega⟩
                    · have HF := Lib.hid (mayB_false (r := r) (fun hh => h3 (fitB_true (HM'.out hh).2.2)))
                      have H3 := Lib.hid (Bool.eq_false_iff.2 h3)
                      clear h3
                      go_wp2_with (go_at_call 59; refine (fitSlotsW _ p.args wn _ HA.out).mono ?_; rintro e w' ⟨he, rfl⟩; rw [H3.out] at he; subst he)
                      go_ret2
                      exact someMay HF.out (box_below HBB.out)
              · obtain rfl : k = r.neg.length := by omega
                rw [List.take_length] at hq
                have HBB := Lib.hid hb
                by_cases h16 : wn ≤ 16
                · have HF := Lib.hid (mayB_true (r := r) ⟨wn, ⟨by omega, HP.out.2, HP.out.1, HW.out, h16, HQ.out, hq⟩⟩)
                  clear hq hb
                  go_wp2
                  go_ret2
                  exact someMay (by rw [HF.out]; simp; omega) (box_below HBB.out)
                · have HF := Lib.hid (mayB_false (r := r) (fun ⟨w', hh⟩ => by have h1 := hh.wid; have h2 := hh.w16; rw [HW.out] at h1; omega))
                  clear hq hb
                  go_wp2
                  go_ret2
                  exact someMay (by rw [HF.out]; simp; omega) (box_below HBB.out)
end Go.Proofs.Ytonkbjdeaneicaa
