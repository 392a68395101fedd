/- The law SymTables returns true for every script of calls, where the argument is of bulk at most 1048576. -/
import Derived.Test.YtblonickpmogiaaTabStep
import Derived.Test.YtblonickpmogiaaRows
import Derived.Test.YtblonickpmogiaaFrameU
import Derived.Test.YtblonickpmogiaaSlR
namespace Go.Proofs.Ytblonickpmogiaa.symTables
open Go.RowKit Go.Maps

/-- One call, as the argument holds it. -/
structure TOp where
  k : Int
  c : Cst
  n : Int
def TOp.cells (o : TOp) : List Value := [.int .i64 o.k, .int .i64 o.c.k, .int .i64 o.c.n, .string o.c.s, .int .i64 o.n]
def TOp.ok (o : TOp) : Prop := (Lit.int .i64 o.k).wf = true ∧ o.c.ok ∧ (Lit.int .i64 o.n).wf = true

theorem wf64 {k : Int} (h : (Lit.int .i64 k).wf = true) : -9223372036854775808 ≤ k ∧ k ≤ 9223372036854775807 := by
  simp [Lit.wf, IntKind.min, IntKind.max, IntKind.signed, IntKind.bits] at h
  exact h
theorem cst0_ok : cst0.ok := ⟨(show (Lit.int .i64 0).wf = true from by decide), (show (Lit.int .i64 0).wf = true from by decide), (show 0 ≤ maxLen from by decide)⟩

/-- What holds between two rounds. -/
inductive Rel (w : World) (g1 m1 g2 n : Nat) (i : Value) (wr : World) : Prop
  | mk (k : Nat) (s1 s2 : Value) (ks : List Cst) (hk : k ≤ n) (hi : i = .int .i64 k) (hp : BothT w.heap.size wr g1 m1 s1 g2 s2 ks) (hb : Below w.heap.size w wr)

/-- Two new ones. -/
theorem bothT_new {w w1 w2 : World} {g1 : Nat} (hx : IdsAt Try.prog kindT w.heap.size w1 g1 w.heap.size (.slice none 0 0) []) (b1 : Below w.heap.size w w1)
    (hy : RTab w1.heap.size w2 w1.heap.size (.slice none 0 0) []) (b2 : Below w1.heap.size w1 w2) : BothT w.heap.size w2 g1 w.heap.size (.slice none 0 0) w1.heap.size (.slice none 0 0) [] := by
  refine ⟨⟨hx.below b2, ⟨hy.blk, World.ownsRow_nil _ _ _ _, b1.size⟩, ?_, Nat.le_trans b1.size b2.size⟩, by simp, by simp, by simp⟩
  intro b hb hm
  have h1 := (hx.foot_lt b hb).2
  simp only [rfoot, Value.ownBlock, List.mem_cons] at hm
  rcases hm with rfl | hm
  · omega
  · simp at hm

set_option maxRecDepth 100000 in
set_option maxHeartbeats 2000000 in
theorem walk (A : Option Addr) (cap : Nat) (ys : List TOp) (w : World) (hok : ∀ a ∈ ys, a.ok) (hs : SlAt w w.heap.size 5 TOp.cells A ys) (hlen : ys.length ≤ 100000000000) :
    Calls Try.prog 13 #[.slice A ys.length cap] w fun e w' => e = .returned (.bool true) ∧ Below w.heap.size w w' := by
  go_enter Try.func13, Try.ntmps13
  go_wp2_with fail
  refine (newT w).mono ?_
  rintro e w1 ⟨g1, rfl, hx, b1⟩
  go_wp2_with fail
  refine (newRT w1).mono ?_
  rintro e w2 ⟨rfl, hy, b2⟩
  have T0 := bothT_new hx b1 hy b2
  have B0 : Below w.heap.size w w2 := below_step b1 b2
  clear hx b1 hy b2
  generalize w1.heap.size = g2 at T0 ⊢
  go_wp2_with fail
  go_loopw [5] (fun i wr => Rel w g1 w.heap.size g2 ys.length i wr) (fun i _ => ys.length - (intOf i).toNat)
  case atStart => exact .mk 0 _ _ _ (Nat.zero_le _) rfl T0 B0
  case round =>
    clear T0 B0
    obtain ⟨i, t1, t2, ks, hi, rfl, P1, hb⟩ := hrel
    by_cases hin : i < ys.length
    · obtain ⟨b, off, rfl, hblt, hc⟩ := hs.form (by omega)
      have hci := (hc i ys[i] (List.getElem?_eq_getElem hin)).below hb hblt
      have oki := hok _ (List.getElem_mem hin)
      obtain ⟨a, ha⟩ : ∃ a, a = ys[i] := ⟨_, rfl⟩
      rw [← ha] at hci oki
      clear ha hc
      have i0 := hci 0 _ rfl; have i1 := hci 1 _ rfl; have i2 := hci 2 _ rfl; have i3 := hci 3 _ rfl; have i4 := hci 4 _ rfl
      simp only [Nat.add_zero] at i0
      have hn := wf64 oki.2.2
      have C1 := Lib.hid (tstep_any P1 a.k a.c oki.2.1 a.n hn.1 hn.2)
      have HB := Lib.hid (And.intro hb P1.mid.hb)
      have hii : (0 : Int) ≤ (i : Int) := by omega
      have hin' : (i : Int) < (ys.length : Int) := by omega
      clear hci oki P1 hn hb hok
      go_wp2_with fail
      refine C1.out.mono ?_
      rintro e w' ⟨rfl, s1', s2', ks', P2, hb2⟩
      obtain ⟨hb, hb0⟩ := HB.out
      go_wp2_with fail
      exact ⟨Rel.mk (i + 1) s1' s2' ks' (by omega) (by go_num) P2 (hb.trans hb2), by simp [intOf]; omega⟩
    · have C1 := Lib.hid (tstep_any P1 6 cst0 cst0_ok 0 (by decide) (by decide))
      clear hok hs
      go_wp2_with fail
      refine C1.out.mono ?_
      rintro e w3 ⟨rfl, s1', s2', ks', P2, hb2⟩
      have C2 := Lib.hid (tstep_any P2 8 cst0 cst0_ok 0 (by decide) (by decide))
      go_wp2_with fail
      refine C2.out.mono ?_
      rintro e w4 ⟨rfl, s3', s4', ks2, P3, hb3⟩
      have C3 := Lib.hid (tstep_any P3 9 cst0 cst0_ok 0 (by decide) (by decide))
      go_wp2_with fail
      refine C3.out.mono ?_
      rintro e w5 ⟨rfl, _, _, _, _, hb4⟩
      go_wp2_with fail
      go_ret
      exact ⟨by first | rfl | simp, ((hb.trans hb2).trans hb3).trans hb4⟩
end Go.Proofs.Ytblonickpmogiaa.symTables
namespace Go.Proofs.Ytblonickpmogiaa.symTables
open Go.ChangeShapes Go.WideShapes Go.ChangeAt Go.RowKit Go.Deep

theorem own : ownKnob Try.prog.godebug = none := by kernel_rfl
theorem laidOut : laidOutB Try.prog = true := by kernel_rfl
theorem cells5 : Try.prog.cellsOf 86 = 5 := by kernel_rfl
theorem cells3 : Try.prog.cellsOf 27 = 3 := by kernel_rfl
theorem reads : Try.prog.readableRec 80 = true := by kernel_rfl
theorem inTypes : 80 < Try.prog.types.size := of_decide_eq_true (by kernel_rfl)

/-- What the bound gives: how long the lists are. -/
theorem bulk_ge {H : Type} (l : List (DataW H)) : l.length ≤ Rows.uptoBulkAll l := by
  induction l with
  | nil => simp [Rows.uptoBulkAll]
  | cons d l ih =>
    have : 1 ≤ Rows.uptoBulk d := by
      cases d with
      | lit l => cases l <;> simp [Rows.uptoBulk]
      | nil => simp [Rows.uptoBulk]
      | ptr d => simp [Rows.uptoBulk]
      | slice e s => simp [Rows.uptoBulk]
      | agg p => simp [Rows.uptoBulk]
      | iface t d => simp [Rows.uptoBulk]
      | map e => simp [Rows.uptoBulk]
      | held h => simp [Rows.uptoBulk]
    simp only [Rows.uptoBulkAll, List.length_cons]
    omega
theorem bulk_one {H : Type} {d : DataW H} (h : Rows.uptoSmall H [d] = true) : Rows.uptoBulk d ≤ 1048576 := by
  have h : Rows.uptoBulkAll [d] ≤ 1048576 := of_decide_eq_true h
  simp only [Rows.uptoBulkAll] at h
  omega

section
variable {H : Type} {enc : TypeId × Value → H} {P : Program} {w : World} {base : Nat} {spare : Nat → Bool} {held : Bool}
theorem slice_bulk {t e : TypeId} {fuel : Nat} {A : Option Addr} {n c : Nat} {x : DataW H × List MemPlace} (ht : P.underlying t = some (.slice e)) (h : DataW.trod enc P w base spare held fuel t [.slice A n c] = some x) : n ≤ Rows.uptoBulk x.1 := by
  rcases open_slice ht h with ⟨hv, _⟩ | ⟨a, len, cap, m, k, D, Pl, hv, _, _, _, _, hx, _⟩
  · simp only [List.cons.injEq, and_true, Value.slice.injEq] at hv
    omega
  · simp only [List.cons.injEq, and_true, Value.slice.injEq] at hv
    obtain ⟨_, rfl, _⟩ := hv
    subst hx
    have := bulk_ge ((List.range n).map D)
    simp only [List.length_map, List.length_range] at this
    simp only [Rows.uptoBulk]
    omega
/-- The five cells of a call. -/
theorem open_top {e : TypeId} {f0 f1 f2 p0 p1 p2 : Field} {fuel : Nat} {cs : List Value} {x : DataW H × List MemPlace} (he : P.underlying e = some (.struct #[f0, f1, f2])) (ho : f0.offset = 0 ∧ f1.offset = 1 ∧ f2.offset = 4)
    (hz : P.cellsOf f0.type = 1 ∧ P.cellsOf f1.type = 3 ∧ P.cellsOf f2.type = 1) (h0 : P.underlying f0.type = some (.int .i64)) (h2 : P.underlying f2.type = some (.int .i64)) (hC : P.cellsOf e = 5)
    (he1 : P.underlying f1.type = some (.struct #[p0, p1, p2])) (hone : oneCellFields P #[p0, p1, p2] = true) (q0 : P.underlying p0.type = some (.int .i64)) (q1 : P.underlying p1.type = some (.int .i64)) (q2 : P.underlying p2.type = some .string)
    (h : DataW.trod enc P w base spare held fuel e cs = some x) : ∃ c : TOp, c.ok ∧ cs = c.cells := by
  obtain ⟨ys, n, _, _, hlen, hyl, hf⟩ := DataW.trod_struct he h
  have g0 := hf 0 f0 rfl
  have g1 := hf 1 f1 rfl
  have g2 := hf 2 f2 rfl
  rw [ho.1, hz.1] at g0; rw [ho.2.1, hz.2.1] at g1; rw [ho.2.2, hz.2.2] at g2
  rw [hC] at hlen
  obtain ⟨a, b, c, d, f, rfl⟩ : ∃ a b c d f, cs = [a, b, c, d, f] := by
    match cs, hlen with
    | [a, b, c, d, f], _ => exact ⟨a, b, c, d, f, rfl⟩
  simp only [List.drop_zero, List.take_succ_cons, List.take_zero, List.drop_succ_cons] at g0 g1 g2
  have hyl : ys.length = 3 := hyl
  obtain ⟨y0, y1, y2, rfl⟩ : ∃ a b c, ys = [a, b, c] := by
    match ys, hyl with
    | [a, b, c], _ => exact ⟨a, b, c, rfl⟩
  obtain ⟨k, hk, _, wk⟩ := DataW.trod_int h0 g0
  obtain ⟨s, hs, _, ws⟩ := DataW.trod_int h2 g2
  obtain ⟨m, mok, hm⟩ := open_cst he1 hone q0 q1 q2 (hz.2.1) g1
  simp only [List.cons.injEq, and_true] at hk hs
  subst hk; subst hs
  simp only [Cst.cells, List.cons.injEq, and_true] at hm
  obtain ⟨rfl, rfl, rfl⟩ := hm
  exact ⟨⟨k, m, s⟩, ⟨wk, mok, ws⟩, rfl⟩
end

set_option maxRecDepth 100000 in
theorem lifted (os : Os) (started : os.Started) (H : Type) (enc : TypeId × Value → H) (F : Stop.Interp) :
    ReturnsInHanded {} Try.checked os 13 .any ((Rows.OpenSpec.upto Rows.symTablesSpec).pre6 enc Try.prog Try.f13 Rows.symTablesUptoRow.domain false) (((Rows.OpenSpec.upto Rows.symTablesSpec).at F).post enc Try.prog Try.f13 false true false false) := by
  refine Frm.law_lifted_upto (C := Try.checked) (s := Rows.OpenSpec.upto Rows.symTablesSpec) (k := Rows.uptoSmall) (c := Rows.symTablesSpec) rfl rfl own started (by kernel_rfl) Try.func13
    (OpenSpec.witness (enc := enc) (C := Try.checked) (s := Rows.OpenSpec.upto Rows.symTablesSpec) (k := Rows.uptoSmall) rfl false ⟨#[], #[.slice none 0 0], []⟩ 8 (by kernel_rfl) (by kernel_rfl) (by kernel_rfl)
      (x := ([.nil], [], [])) (by kernel_rfl) rfl (by kernel_rfl)) laidOut ?_ rfl rfl rfl rfl Try.underlying4 ?_ ?_
  · rw [Try.params13]
    intro t ht
    obtain rfl : t = 80 := by simpa using ht
    exact ⟨reads, inTypes⟩
  · intro ds hd
    rw [Try.params13] at hd
    match ds, hd with
    | [d], _ => rfl
  · intro W base args ds p hval hA hlt hz hk
    rw [Try.params13] at hA
    obtain ⟨v0, vs0, d0, ds0, p0, q0, hargs, rfl, rfl, h0, r0⟩ := trodAll_cons hA
    obtain ⟨rfl, rfl, rfl⟩ := trodAll_nil r0
    obtain rfl : args = #[v0] := by cases args; simp_all
    obtain ⟨a0, len0, cap0, rfl⟩ := okWide_slice Try.underlying80 (hval 0 80 v0 (by rw [Try.params13]; rfl) rfl)
    have k0 := bulk_one hk
    obtain ⟨fuel, hf⟩ := h0
    have hf2 : DataW.trod enc Try.prog W 0 (fun _ => true) true fuel 80 [.slice a0 len0 cap0] = some (d0, p0) := hf
    have l0 : len0 ≤ Rows.uptoBulk d0 := slice_bulk Try.underlying80 hf2
    obtain ⟨A, cap, xs, hv, hl, hm, hok, hs⟩ := open_sl (cells := TOp.cells) (ok := TOp.ok) (sz := 5) Try.underlying80 cells5 (by decide) (fun _ => rfl)
      (fun _ _ _ h => open_top Try.underlying86 ⟨rfl, rfl, rfl⟩ ⟨by kernel_rfl, by kernel_rfl, by kernel_rfl⟩ Try.underlying3 Try.underlying3 cells5 Try.underlying27 (by kernel_rfl) Try.underlying3 Try.underlying2 Try.underlying9 h) hf2
    rw [hv]
    simp only [Value.slice.injEq] at hv
    exact walk A cap xs W hok hs (by omega)

set_option maxRecDepth 100000 in
theorem proved : Rows.SymTablesUptoSaid :=
  OpenClaim.holds_of_cond 13 Try.f13 rfl rfl rfl rfl rfl rfl rfl ⟨rfl, rfl, rfl, rfl, rfl⟩ rfl rfl rfl rfl rfl (by kernel_rfl) Try.func13 (by kernel_rfl)
    (of_decide_eq_true (by kernel_rfl)) (by unfold Func.isWrapper; first | (rw [if_pos (by decide +kernel)]; kernel_rfl) | (rw [if_neg (by decide +kernel)]; exact ⟨rfl, rfl⟩))
    (fun os started H enc _ F => lifted os started H enc F)
#print axioms proved
end Go.Proofs.Ytblonickpmogiaa.symTables
