/- The law SymRenamed returns true for every script. No condition. -/
import Derived.Test.YtblonickpmogiaaRows
import Derived.Test.YtblonickpmogiaaFrame
import Derived.Test.YtblonickpmogiaaSlR
import Derived.Test.YtblonickpmogiaaSymRenamedW
namespace Go.Proofs.Ytblonickpmogiaa.symRenamed
open Go.ChangeShapes Go.WideShapes Go.ChangeAt Go.RowKit Go.Deep

theorem own : ownKnob Try.prog.godebug = none := by kernel_rfl
theorem laidOut : laidOutB Try.prog = true := by kernel_rfl
theorem cells3 : Try.prog.cellsOf 41 = 3 := by kernel_rfl
theorem bytes3 : Try.prog.bytesOf 41 = 24 := by kernel_rfl
theorem reads : Try.prog.readableRec 30 = true := by kernel_rfl
theorem inTypes : 30 < Try.prog.types.size := of_decide_eq_true (by kernel_rfl)

section
variable {H : Type} {enc : TypeId × Value → H} {P : Program} {w : World} {base : Nat} {spare : Nat → Bool} {held : Bool}
/-- The three cells of a call. -/
theorem open_op {e : TypeId} {f0 f1 f2 : Field} {fuel : Nat} {cs : List Value} {x : DataW H × List MemPlace} (he : P.underlying e = some (.struct #[f0, f1, f2])) (hone : oneCellFields P #[f0, f1, f2] = true)
    (h0 : P.underlying f0.type = some (.int .i64)) (h1 : P.underlying f1.type = some (.int .i64)) (h2 : P.underlying f2.type = some (.int .i64)) (hC : P.cellsOf e = 3)
    (h : DataW.trod enc P w base spare held fuel e cs = some x) : ∃ c : NOp, c.ok ∧ cs = c.cells := by
  obtain ⟨ys, n, _, _, hlen, _, hf⟩ := DataW.trod_struct he h
  obtain ⟨o0, k0⟩ := hone_of hone 0 f0 rfl
  obtain ⟨o1, k1⟩ := hone_of hone 1 f1 rfl
  obtain ⟨o2, k2⟩ := hone_of hone 2 f2 rfl
  have g0 := hf 0 f0 rfl
  have g1 := hf 1 f1 rfl
  have g2 := hf 2 f2 rfl
  rw [o0, k0] at g0; rw [o1, k1] at g1; rw [o2, k2] at g2
  rw [hC] at hlen
  obtain ⟨a, b, c, rfl⟩ : ∃ a b c, cs = [a, b, c] := by
    match cs, hlen with
    | [a, b, c], _ => exact ⟨a, b, c, rfl⟩
  simp only [List.drop_zero, List.take_succ_cons, List.take_zero, List.drop_succ_cons] at g0 g1 g2
  have y0 : ∃ y, ys[0]? = some y := by cases hy : ys[0]? with | none => (have := List.getElem?_eq_none_iff.1 hy; simp_all) | some y => exact ⟨y, rfl⟩
  have y1 : ∃ y, ys[1]? = some y := by cases hy : ys[1]? with | none => (have := List.getElem?_eq_none_iff.1 hy; simp_all) | some y => exact ⟨y, rfl⟩
  have y2 : ∃ y, ys[2]? = some y := by cases hy : ys[2]? with | none => (have := List.getElem?_eq_none_iff.1 hy; simp_all) | some y => exact ⟨y, rfl⟩
  obtain ⟨y0, e0⟩ := y0; obtain ⟨y1, e1⟩ := y1; obtain ⟨y2, e2⟩ := y2
  rw [e0] at g0; rw [e1] at g1; rw [e2] at g2
  obtain ⟨k, hk, _, wk⟩ := DataW.trod_int h0 g0
  obtain ⟨m, hm, _, wm⟩ := DataW.trod_int h1 g1
  obtain ⟨s, hs, _, ws⟩ := DataW.trod_int h2 g2
  simp only [List.cons.injEq, and_true] at hk hm hs
  subst hk; subst hm; subst hs
  exact ⟨⟨k, m, s⟩, ⟨wk, wm, ws⟩, rfl⟩
end

set_option maxRecDepth 100000 in
theorem lifted (os : Os) (started : os.Started) (H : Type) (enc : TypeId × Value → H) :
    ReturnsInHanded {} Try.checked os 7 .any (Rows.symRenamedSpec.pre6 enc Try.prog Try.f7 Rows.symRenamedRow.domain false) (Rows.symRenamedSpec.post enc Try.prog Try.f7 false true false false) := by
  refine Frm.law_lifted (C := Try.checked) own started (by kernel_rfl) Try.func7
    (ChangeSpec.witness6 (enc := enc) (C := Try.checked) false ⟨#[], #[.slice none 0 0], []⟩ 8 (by kernel_rfl) (by kernel_rfl) (by kernel_rfl) (by kernel_rfl)) laidOut ?_ rfl rfl Try.underlying4 ?_ ?_
  · rw [Try.params7]
    intro t ht
    obtain rfl : t = 30 := by simpa using ht
    exact ⟨reads, inTypes⟩
  · intro ds hd
    rw [Try.params7] at hd
    match ds, hd with
    | [d], _ => rfl
  · intro W base args ds p hval hA hlt hz
    rw [Try.params7] at hA hz
    obtain ⟨v0, vs0, d0, ds0, p0, q0, hargs, rfl, rfl, h0, r0⟩ := trodAll_cons hA
    obtain ⟨rfl, rfl, rfl⟩ := trodAll_nil r0
    obtain rfl : args = #[v0] := by cases args; simp_all
    obtain ⟨a0, len0, cap0, rfl⟩ := okWide_slice Try.underlying30 (hval 0 30 v0 (by rw [Try.params7]; rfl) rfl)
    obtain ⟨fuel, hf⟩ := h0
    have hf2 : DataW.trod enc Try.prog W 0 (fun _ => true) true fuel 30 [.slice a0 len0 cap0] = some (d0, p0) := hf
    obtain ⟨A, cap, xs, hv, hl, hm, hby, hok, hs⟩ := open_slR (cells := NOp.cells) (ok := NOp.ok) (sz := 3) Try.underlying30 cells3 bytes3 (by decide) (fun _ => rfl)
      (fun _ _ _ h _ => open_op Try.underlying41 (by kernel_rfl) Try.underlying3 Try.underlying3 Try.underlying3 cells3 h) hf2 (reach_each hz (j := 0) rfl rfl)
    rw [hv]
    exact walk A cap xs W hok hs (by omega)

theorem over : Rows.symRenamedRow.holds Try.pinned (OpenSpec.ofChange Rows.symRenamedSpec) :=
  OpenClaim.holds_of_wide 7 Try.f7 rfl rfl rfl rfl rfl rfl rfl ⟨rfl, rfl, rfl, rfl, rfl⟩ rfl rfl rfl rfl rfl (by kernel_rfl) Try.func7 (by kernel_rfl)
    (of_decide_eq_true (by kernel_rfl)) (by unfold Func.isWrapper; first | (rw [if_pos (by decide +kernel)]; kernel_rfl) | (rw [if_neg (by decide +kernel)]; exact ⟨rfl, rfl⟩))
    (fun os started H enc _ => lifted os started H enc)

theorem proved : Rows.SymRenamedSaid := over
#print axioms proved
end Go.Proofs.Ytblonickpmogiaa.symRenamed
