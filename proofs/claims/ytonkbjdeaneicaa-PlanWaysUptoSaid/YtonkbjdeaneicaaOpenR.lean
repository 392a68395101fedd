/- The opening of arguments: lists of rules; how long the lists are. -/
import Derived.Test.YtonkbjdeaneicaaRows
import Derived.Test.YtonkbjdeaneicaaFrame
import Derived.Test.YtonkbjdeaneicaaRd
namespace Go.Proofs.Ytonkbjdeaneicaa
open Go.ChangeShapes Go.WideShapes Go.ChangeAt Go.RowKit Go.Deep
open Pln

/-- What the bound gives: how long the lists are. -/
theorem bulk_ge {H : Type} (l : List (DataW H)) : l.length ≤ Rows.uptoBulkAll l := by
  induction l with
  | nil => simp [Rows.uptoBulkAll]
  | cons d l ih =>
    have : 1 ≤ Rows.uptoBulk d := by
      cases d with
      | lit l => cases l <;> simp [Rows.uptoBulk]
      | nil => simp [Rows.uptoBulk]
      | ptr d => simp [Rows.uptoBulk]
      | slice e s => simp [Rows.uptoBulk]
      | agg p => simp [Rows.uptoBulk]
      | iface t d => simp [Rows.uptoBulk]
      | map e => simp [Rows.uptoBulk]
      | held h => simp [Rows.uptoBulk]
    simp only [Rows.uptoBulkAll, List.length_cons]
    omega
theorem bulk_mem {H : Type} {l : List (DataW H)} {d : DataW H} (h : d ∈ l) : Rows.uptoBulk d ≤ Rows.uptoBulkAll l := by
  induction l with
  | nil => cases h
  | cons a l ih =>
    simp only [Rows.uptoBulkAll]
    rcases List.mem_cons.1 h with rfl | h
    · omega
    · have := ih h; omega
theorem bulk_arg {H : Type} {ds : List (DataW H)} (h : Rows.uptoSmall H ds = true) {j : Nat} {d : DataW H} (hd : ds[j]? = some d) : Rows.uptoBulk d ≤ 1048576 := by
  have h : Rows.uptoBulkAll ds ≤ 1048576 := of_decide_eq_true h
  have := bulk_mem (List.mem_of_getElem? hd)
  omega

section
variable {H : Type} {enc : TypeId × Value → H} {P : Program} {w : World} {base : Nat} {spare : Nat → Bool} {held : Bool}
theorem open_rsl {α : Type} {t e : TypeId} {fuel : Nat} {v : Value} {x : DataW H × List MemPlace} {sz : Nat} {E : List Value → α → Prop} {Sm : Nat → α → Prop} (mono : ∀ m n a, m ≤ n → Sm m a → Sm n a)
    (ht : P.underlying t = some (.slice e)) (hC : P.cellsOf e = sz) (hsz : 0 < sz)
    (hel : ∀ (fuel : Nat) (cs : List Value) (x : DataW H × List MemPlace), DataW.trod enc P w base spare held fuel e cs = some x → ∃ a, E cs a ∧ Sm (Rows.uptoBulk x.1) a)
    (h : DataW.trod enc P w base spare held fuel t [v] = some x) :
    ∃ xs : List α, RSl (fun b => b < w.heap.size) w sz E v xs ∧ xs.length ≤ Rows.uptoBulk x.1 ∧ ∀ a ∈ xs, Sm (Rows.uptoBulk x.1) a := by
  rcases open_slice ht h with ⟨hv, _⟩ | ⟨a, len, cap, m, n, D, Pl, hv, hb, hl, hm, hmm, hx, hi⟩
  · simp only [List.cons.injEq, and_true] at hv
    subst hv
    exact ⟨[], RSl.nil, by simp, by simp⟩
  · simp only [List.cons.injEq, and_true] at hv
    subst hv
    have hml : len ≤ m := by rw [hmm]; split <;> omega
    have hbk : Rows.uptoBulkAll ((List.range len).map D) + 1 ≤ Rows.uptoBulk x.1 := by rw [hx]; simp only [Rows.uptoBulk]; omega
    have hbl := bulk_ge ((List.range len).map D)
    simp only [List.length_map, List.length_range] at hbl
    have hq : ∀ i, i < len → ∃ a' : α, Sm (Rows.uptoBulk x.1) a' ∧ ∃ cs, E cs a' ∧ cs.length = sz ∧ ∀ j u, cs[j]? = some u → w.cell? ((a.add (i * sz)).add j) = some u := by
      intro i hil
      obtain ⟨cs', hc, ht'⟩ := hi i (by omega)
      rw [hC] at hc
      obtain ⟨a', hE, hS⟩ := hel _ _ _ ht'
      obtain ⟨_, hcl, hat⟩ := World.cells?_some hc
      have hD : Rows.uptoBulk (D i) ≤ Rows.uptoBulkAll ((List.range len).map D) := bulk_mem (List.mem_map.2 ⟨i, List.mem_range.2 hil, rfl⟩)
      refine ⟨a', mono _ _ _ (show Rows.uptoBulk (D i) ≤ _ by omega) hS, cs', hE, hcl, fun j u hu => ?_⟩
      have hj : j < sz := by
        have := (List.getElem?_eq_some_iff.1 hu).1
        omega
      rw [hat j hj, hu]
    rcases Nat.eq_zero_or_pos len with h0 | hpos
    · subst h0
      exact ⟨[], ⟨some a, cap, rfl, Nat.zero_le _, hm, fun h => (by cases h), .inl rfl⟩, by simp, by simp⟩
    · have hne : ∃ _ : α, True := by obtain ⟨a', _, _⟩ := hq 0 hpos; exact ⟨a', trivial⟩
      obtain ⟨dflt, _⟩ := hne
      have hch : ∃ f : Nat → α, ∀ i, i < len → Sm (Rows.uptoBulk x.1) (f i) ∧ ∃ cs, E cs (f i) ∧ cs.length = sz ∧ ∀ j u, cs[j]? = some u → w.cell? ((a.add (i * sz)).add j) = some u := by
        refine ⟨fun i => if hil : i < len then (hq i hil).choose else dflt, fun i hil => ?_⟩
        simp only [dif_pos hil]
        exact (hq i hil).choose_spec
      obtain ⟨f, hf⟩ := hch
      obtain ⟨b, off, spot⟩ := a
      obtain ⟨_, cs0, _, hl0, hc0⟩ := hf 0 hpos
      have h00 := hc0 0 (cs0[0]'(by omega)) (List.getElem?_eq_getElem _)
      have hspot : spot = none := by
        have := World.cell?_spot h00
        simpa [Addr.add] using this
      subst hspot
      have hblt : b < w.heap.size := by
        have := World.block_lt_of_cell? w _ h00
        rwa [rd_add, rd_add] at this
      refine ⟨(List.range len).map f, ⟨some ⟨b, off, none⟩, cap, by simp, by simpa using hl, hm, (fun h => by cases h), .inr ⟨b, off, rfl, hblt, hblt, ?_⟩⟩, by simp; omega, ?_⟩
      · intro i y hy
        have hil : i < len := by
          have := (List.getElem?_eq_some_iff.1 hy).1
          simpa using this
        have hx' : f i = y := by simpa [List.getElem?_map, List.getElem?_range hil] using hy
        subst hx'
        obtain ⟨_, cs, h1, h2, h3⟩ := hf i hil
        refine ⟨cs, h1, fun j u hu => ?_⟩
        have := h3 j u hu
        rw [rd_add, rd_add] at this
        exact this
      · intro a' ha'
        obtain ⟨i, hi', rfl⟩ := List.mem_map.1 ha'
        exact (hf i (List.mem_range.1 hi')).1
end

/-- All lists of a pattern, a rule are at most n long. -/
def patSm (n : Nat) (p : Pat) : Prop := p.args.length ≤ n
structure rlSm (n : Nat) (r : Rl) : Prop where
  head : patSm n r.head
  pos : r.pos.length ≤ n ∧ ∀ p ∈ r.pos, patSm n p
  tests : r.tests.length ≤ n
  neg : r.neg.length ≤ n ∧ ∀ p ∈ r.neg, patSm n p
  vars : r.vars.length ≤ n
theorem patSm.mono {m n : Nat} {p : Pat} (h : m ≤ n) (hp : patSm m p) : patSm n p := Nat.le_trans hp h
theorem rlSm.mono {m n : Nat} {r : Rl} (h : m ≤ n) (hp : rlSm m r) : rlSm n r :=
  ⟨hp.head.mono h, ⟨Nat.le_trans hp.pos.1 h, fun p hh => (hp.pos.2 p hh).mono h⟩, Nat.le_trans hp.tests h, ⟨Nat.le_trans hp.neg.1 h, fun p hh => (hp.neg.2 p hh).mono h⟩, Nat.le_trans hp.vars h⟩

section
variable {H : Type} {enc : TypeId × Value → H} {w : World} {base : Nat} {spare : Nat → Bool} {held : Bool} {fuel : Nat} {cs : List Value} {x : DataW H × List MemPlace}
theorem cIntR : Try.prog.cellsOf 3 = 1 := by kernel_rfl
theorem cBoolR : Try.prog.cellsOf 4 = 1 := by kernel_rfl
theorem cStrR : Try.prog.cellsOf 9 = 1 := by kernel_rfl
theorem cSltR : Try.prog.cellsOf 50 = 2 := by kernel_rfl
theorem cPatR : Try.prog.cellsOf 34 = 2 := by kernel_rfl
theorem cTstR : Try.prog.cellsOf 52 = 5 := by kernel_rfl
theorem cRlR : Try.prog.cellsOf 39 = 7 := by kernel_rfl
theorem cSPat : Try.prog.cellsOf 35 = 1 := by kernel_rfl
theorem cSSlt : Try.prog.cellsOf 32 = 1 := by kernel_rfl
theorem cSTst : Try.prog.cellsOf 36 = 1 := by kernel_rfl
theorem cSStr : Try.prog.cellsOf 37 = 1 := by kernel_rfl

theorem list_one {α : Type} {l : List α} (h : l.length = 1) : ∃ a, l = [a] := by
  match l, h with
  | [a], _ => exact ⟨a, rfl⟩
theorem list_two {α : Type} {l : List α} (h : l.length = 2) : ∃ a b, l = [a, b] := by
  match l, h with
  | [a, b], _ => exact ⟨a, b, rfl⟩
theorem list_five {α : Type} {l : List α} (h : l.length = 5) : ∃ a b c d e, l = [a, b, c, d, e] := by
  match l, h with
  | [a, b, c, d, e], _ => exact ⟨a, b, c, d, e, rfl⟩
theorem list_seven {α : Type} {l : List α} (h : l.length = 7) : ∃ a b c d e f g, l = [a, b, c, d, e, f, g] := by
  match l, h with
  | [a, b, c, d, e, f, g], _ => exact ⟨a, b, c, d, e, f, g, rfl⟩
theorem list_six {α : Type} {l : List α} (h : l.length = 6) : ∃ a b c d e f, l = [a, b, c, d, e, f] := by
  match l, h with
  | [a, b, c, d, e, f], _ => exact ⟨a, b, c, d, e, f, rfl⟩
theorem list_three {α : Type} {l : List α} (h : l.length = 3) : ∃ a b c, l = [a, b, c] := by
  match l, h with
  | [a, b, c], _ => exact ⟨a, b, c, rfl⟩
theorem bulk_part {d : DataW H} {ys : List (DataW H × List MemPlace)} (hx : d = .agg (ys.map (·.1))) {y : DataW H × List MemPlace} (hy : y ∈ ys) : Rows.uptoBulk y.1 ≤ Rows.uptoBulk d := by
  have := bulk_mem (List.mem_map.2 ⟨y, hy, rfl⟩ : y.1 ∈ ys.map (·.1))
  rw [hx]
  simp only [Rows.uptoBulk]
  omega

theorem open_slt (h : DataW.trod enc Try.prog w base spare held fuel 50 cs = some x) : ∃ s : Slt, ESlt cs s ∧ True := by
  obtain ⟨ys, n, _, _, hlen, hyl, hf⟩ := DataW.trod_struct Try.underlying50 h
  rw [cSltR] at hlen
  obtain ⟨a, b, rfl⟩ := list_two hlen
  obtain ⟨y0, y1, rfl⟩ := list_two (show ys.length = 2 from hyl)
  have g0 := hf 0 _ rfl
  change DataW.trod enc Try.prog w base spare held n 4 (List.take (Try.prog.cellsOf 4) (List.drop 0 [a, b])) = some y0 at g0
  rw [cBoolR] at g0
  have g1 := hf 1 _ rfl
  change DataW.trod enc Try.prog w base spare held n 3 (List.take (Try.prog.cellsOf 3) (List.drop 1 [a, b])) = some y1 at g1
  rw [cIntR] at g1
  simp only [List.drop_zero, List.take_succ_cons, List.take_zero, List.drop_succ_cons] at g0 g1
  obtain ⟨v, hv, _⟩ := DataW.trod_bool Try.underlying4 g0
  obtain ⟨k, hk, _, wk⟩ := DataW.trod_int Try.underlying3 g1
  simp only [List.cons.injEq, and_true] at hv hk
  subst hv; subst hk
  exact ⟨⟨v, k⟩, ⟨rfl, wk⟩, trivial⟩
theorem open_str (h : DataW.trod enc Try.prog w base spare held fuel 9 cs = some x) : ∃ s : ByteArray, EStr cs s ∧ s.size ≤ Rows.uptoBulk x.1 := by
  obtain ⟨s, hs, hx, ws⟩ := DataW.trod_string Try.underlying9 h
  refine ⟨s, ⟨hs, ws⟩, ?_⟩
  have e3 : s.data.toList.length = s.size := by rw [Array.length_toList]; rfl
  rw [hx]
  simp only [Rows.uptoBulk]
  omega
theorem open_pat (h : DataW.trod enc Try.prog w base spare held fuel 34 cs = some x) : ∃ p : Pat, EPat (fun b => b < w.heap.size) w cs p ∧ patSm (Rows.uptoBulk x.1) p := by
  obtain ⟨ys, n, _, hx, hlen, hyl, hf⟩ := DataW.trod_struct Try.underlying34 h
  rw [cPatR] at hlen
  obtain ⟨a, b, rfl⟩ := list_two hlen
  obtain ⟨y0, y1, rfl⟩ := list_two (show ys.length = 2 from hyl)
  have g0 := hf 0 _ rfl
  change DataW.trod enc Try.prog w base spare held n 3 (List.take (Try.prog.cellsOf 3) (List.drop 0 [a, b])) = some y0 at g0
  rw [cIntR] at g0
  have g1 := hf 1 _ rfl
  change DataW.trod enc Try.prog w base spare held n 32 (List.take (Try.prog.cellsOf 32) (List.drop 1 [a, b])) = some y1 at g1
  rw [cSSlt] at g1
  simp only [List.drop_zero, List.take_succ_cons, List.take_zero, List.drop_succ_cons] at g0 g1
  obtain ⟨k, hk, _, wk⟩ := DataW.trod_int Try.underlying3 g0
  simp only [List.cons.injEq, and_true] at hk
  subst hk
  obtain ⟨xs, r1, r2, _⟩ := open_rsl (E := ESlt) (Sm := fun _ _ => True) (fun _ _ _ _ _ => trivial) Try.underlying32 cSltR (by decide) (fun _ _ _ h => open_slt h) g1
  refine ⟨⟨k, xs⟩, ⟨b, rfl, wk, r1⟩, ?_⟩
  have := bulk_part (d := x.1) (by rw [hx]) (show y1 ∈ [y0, y1] by simp)
  exact Nat.le_trans r2 this
theorem open_tst (h : DataW.trod enc Try.prog w base spare held fuel 52 cs = some x) : ∃ t : Tst, ETst cs t ∧ True := by
  obtain ⟨ys, n, _, hx, hlen, hyl, hf⟩ := DataW.trod_struct Try.underlying52 h
  rw [cTstR] at hlen
  obtain ⟨a, b, c, d, e, rfl⟩ := list_five hlen
  obtain ⟨y0, y1, y2, rfl⟩ := list_three (show ys.length = 3 from hyl)
  have g0 := hf 0 _ rfl
  change DataW.trod enc Try.prog w base spare held n 3 (List.take (Try.prog.cellsOf 3) (List.drop 0 [a, b, c, d, e])) = some y0 at g0
  rw [cIntR] at g0
  have g1 := hf 1 _ rfl
  change DataW.trod enc Try.prog w base spare held n 50 (List.take (Try.prog.cellsOf 50) (List.drop 1 [a, b, c, d, e])) = some y1 at g1
  rw [cSltR] at g1
  have g2 := hf 2 _ rfl
  change DataW.trod enc Try.prog w base spare held n 50 (List.take (Try.prog.cellsOf 50) (List.drop 3 [a, b, c, d, e])) = some y2 at g2
  rw [cSltR] at g2
  simp only [List.drop_zero, List.take_succ_cons, List.take_zero, List.drop_succ_cons] at g0 g1 g2
  obtain ⟨k, hk, _, wk⟩ := DataW.trod_int Try.underlying3 g0
  obtain ⟨s1, ⟨e1, k1⟩, _⟩ := open_slt g1
  obtain ⟨s2, ⟨e2, k2⟩, _⟩ := open_slt g2
  simp only [List.cons.injEq, and_true] at hk e1 e2
  obtain ⟨rfl, rfl⟩ := e1
  obtain ⟨rfl, rfl⟩ := e2
  subst hk
  exact ⟨⟨k, s1, s2⟩, ⟨rfl, wk, k1, k2⟩, trivial⟩
theorem open_rl (h : DataW.trod enc Try.prog w base spare held fuel 39 cs = some x) : ∃ r : Rl, ERule (fun b => b < w.heap.size) w cs r ∧ rlSm (Rows.uptoBulk x.1) r := by
  obtain ⟨ys, n, _, hx, hlen, hyl, hf⟩ := DataW.trod_struct Try.underlying39 h
  rw [cRlR] at hlen
  obtain ⟨a, b, c, d, e, f, g, rfl⟩ := list_seven hlen
  obtain ⟨y0, y1, y2, y3, y4, y5, rfl⟩ := list_six (show ys.length = 6 from hyl)
  have g0 := hf 0 _ rfl
  change DataW.trod enc Try.prog w base spare held n 34 (List.take (Try.prog.cellsOf 34) (List.drop 0 [a, b, c, d, e, f, g])) = some y0 at g0
  rw [cPatR] at g0
  have g1 := hf 1 _ rfl
  change DataW.trod enc Try.prog w base spare held n 35 (List.take (Try.prog.cellsOf 35) (List.drop 2 [a, b, c, d, e, f, g])) = some y1 at g1
  rw [cSPat] at g1
  have g2 := hf 2 _ rfl
  change DataW.trod enc Try.prog w base spare held n 36 (List.take (Try.prog.cellsOf 36) (List.drop 3 [a, b, c, d, e, f, g])) = some y2 at g2
  rw [cSTst] at g2
  have g3 := hf 3 _ rfl
  change DataW.trod enc Try.prog w base spare held n 35 (List.take (Try.prog.cellsOf 35) (List.drop 4 [a, b, c, d, e, f, g])) = some y3 at g3
  rw [cSPat] at g3
  have g4 := hf 4 _ rfl
  change DataW.trod enc Try.prog w base spare held n 37 (List.take (Try.prog.cellsOf 37) (List.drop 5 [a, b, c, d, e, f, g])) = some y4 at g4
  rw [cSStr] at g4
  have g5 := hf 5 _ rfl
  change DataW.trod enc Try.prog w base spare held n 3 (List.take (Try.prog.cellsOf 3) (List.drop 6 [a, b, c, d, e, f, g])) = some y5 at g5
  rw [cIntR] at g5
  simp only [List.drop_zero, List.take_succ_cons, List.take_zero, List.drop_succ_cons] at g0 g1 g2 g3 g4 g5
  obtain ⟨hd, ⟨hv, h1, h2, h3⟩, h4⟩ := open_pat g0
  simp only [List.cons.injEq, and_true] at h1
  obtain ⟨rfl, rfl⟩ := h1
  obtain ⟨ps, p1, p2, p3⟩ := open_rsl (E := EPat (fun b => b < w.heap.size) w) (Sm := patSm) (fun _ _ _ h h' => h'.mono h) Try.underlying35 cPatR (by decide) (fun _ _ _ h => open_pat h) g1
  obtain ⟨ts, t1, t2, _⟩ := open_rsl (E := ETst) (Sm := fun _ _ => True) (fun _ _ _ _ _ => trivial) Try.underlying36 cTstR (by decide) (fun _ _ _ h => open_tst h) g2
  obtain ⟨ns, n1, n2, n3⟩ := open_rsl (E := EPat (fun b => b < w.heap.size) w) (Sm := patSm) (fun _ _ _ h h' => h'.mono h) Try.underlying35 cPatR (by decide) (fun _ _ _ h => open_pat h) g3
  obtain ⟨vs, v1, v2, _⟩ := open_rsl (E := EStr) (Sm := fun _ _ => True) (fun _ _ _ _ _ => trivial) Try.underlying37 cStrR (by decide) (fun _ _ _ h => by obtain ⟨s, h1, _⟩ := open_str h; exact ⟨s, h1, trivial⟩) g4
  obtain ⟨k, hk, _, wk⟩ := DataW.trod_int Try.underlying3 g5
  simp only [List.cons.injEq, and_true] at hk
  subst hk
  have B : ∀ y ∈ [y0, y1, y2, y3, y4, y5], Rows.uptoBulk y.1 ≤ Rows.uptoBulk x.1 := fun y hy => bulk_part (d := x.1) (by rw [hx]) hy
  have b0 := B y0 (by simp); have b1 := B y1 (by simp); have b2 := B y2 (by simp); have b3 := B y3 (by simp); have b4 := B y4 (by simp)
  exact ⟨⟨hd, ps, ts, ns, vs, k⟩, ⟨_, c, d, e, f, ⟨rfl, h2, wk, h3, p1, t1, n1, v1⟩⟩,
    ⟨h4.mono b0, ⟨Nat.le_trans p2 b1, fun p hp => (p3 p hp).mono b1⟩, Nat.le_trans t2 b2, ⟨Nat.le_trans n2 b3, fun p hp => (n3 p hp).mono b3⟩, Nat.le_trans v2 b4⟩⟩
theorem open_rules {v : Value} (h : DataW.trod enc Try.prog w base spare held fuel 22 [v] = some x) : ∃ rs : List Rl, RRules (fun b => b < w.heap.size) w v rs ∧ rs.length ≤ Rows.uptoBulk x.1 ∧ ∀ r ∈ rs, rlSm (Rows.uptoBulk x.1) r :=
  open_rsl (Sm := rlSm) (fun _ _ _ h h' => h'.mono h) Try.underlying22 cRlR (by decide) (fun _ _ _ h => open_rl h) h
end
end Go.Proofs.Ytonkbjdeaneicaa
