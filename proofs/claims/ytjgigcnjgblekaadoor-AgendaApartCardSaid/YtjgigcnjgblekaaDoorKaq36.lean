/- The law AgendaApart (a nil agenda answers zero values; the lists and acts that are told, picked or given are the caller's own, and changes that were brought in are neither changed nor kept, nor levels and constants: whatever is written into them, what is told is as it was) returns true for every input: the tied card. Condition: the three tables of Go's library that the row lists hold at the call's start what the program's text lays; the card ties that. -/
import Derived.Test.YtjgigcnjgblekaaDoorKaq02
import Derived.Test.YtjgigcnjgblekaaDoorKaq21
import Derived.Test.YtjgigcnjgblekaaDoorKaq22
import Derived.Test.YtjgigcnjgblekaaDoorKaq34
import Derived.Test.YtjgigcnjgblekaaDoorKaq35
import Derived.SevenTiedAt
import Derived.Test.YtjgigcnjgblekaaDoorCards
import Derived.Test.YtjgigcnjgblekaaDoorRows
import Derived.Test.YtjgigcnjgblekaaDoorTie
namespace Go.Proofs.YtjgigcnjgblekaaDoor.agendaApart
open Go.ChangeShapes Go.WideShapes Go.ChangeAt Go.RowKit Go.Deep

theorem own : ownKnob Tryd.prog.godebug = none := by kernel_rfl
theorem laidOut : laidOutB Tryd.prog = true := by kernel_rfl
theorem reads0 : Tryd.prog.readableRec 23 = true := by kernel_rfl
theorem reads1 : Tryd.prog.readableRec 3 = true := by kernel_rfl
theorem inTypes0 : 23 < Tryd.prog.types.size := of_decide_eq_true (by kernel_rfl)
theorem inTypes1 : 3 < Tryd.prog.types.size := of_decide_eq_true (by kernel_rfl)

set_option maxRecDepth 100000 in
theorem lifted (os : Os) (started : os.Started) (H : Type) (enc : TypeId × Value → H) :
    ReturnsInHanded {} Tryd.checked os 6 .any (fun w args => (Rows.agendaApartSpec.pre enc Tryd.prog Tryd.f6 [] false w args ∧ laidMetH Tryd.prog Rows.agendaApartRow.laid w) ∧ sizedMet enc Tryd.prog Tryd.f6 (OpenSpec.ofChange Rows.agendaApartSpec) false w args) (Rows.agendaApartSpec.post enc Tryd.prog Tryd.f6 false true false false) := by
  refine Frm.law_lifted_laid (C := Tryd.checked) own started (by kernel_rfl) Tryd.func6
    (ChangeSpec.witness_shaped (enc := enc) (C := Tryd.checked) (os := os) (X := fun w _ => laidMetH Tryd.prog Rows.agendaApartRow.laid w) false (World.doorLaid Tryd.prog 4000 os) #[.slice none 0 0, .int .i64 0] 8 rfl (World.shaped_of_RefB (by kernel_rfl) (by kernel_rfl)) (by kernel_rfl) (by kernel_rfl) (by kernel_rfl) (door_metA os _)) laidOut ?_ rfl rfl Tryd.underlying4 ?_ ?_
  · rw [Tryd.params6]
    intro t ht
    have h : t = 23 ∨ t = 3 := by
      simpa using ht
    rcases h with rfl | rfl
    · exact ⟨reads0, inTypes0⟩
    · exact ⟨reads1, inTypes1⟩
  · intro ds hd
    rw [Tryd.params6] at hd
    match ds, hd with
    | [d1, d2], _ => rfl
  · intro W base args ds p hval0 hA hlt hz hL
    have hval : ∀ (j : Nat) t v, Tryd.f6.params[j]? = some t → args[j]? = some v → Value.okWide Tryd.prog W .any base t v := hval0
    rw [Tryd.params6] at hA hz hval
    obtain ⟨v0, vs0, d0, ds0, p0, q0, hargs, rfl, rfl, h0, r0⟩ := trodAll_cons hA
    obtain ⟨v1, vs1, d1, ds1, p1, q1, rfl, rfl, rfl, h1, r1⟩ := trodAll_cons r0
    obtain ⟨rfl, rfl, rfl⟩ := trodAll_nil r1
    obtain rfl : args = #[v0, v1] := by cases args; simp_all
    obtain ⟨f0, hf0⟩ := h0
    obtain ⟨f1, hf1⟩ := h1
    obtain ⟨a0, n0, c0, rfl⟩ := okWide_slice Tryd.underlying23 (hval 0 23 v0 rfl rfl)
    have g0 : DataW.trod enc Tryd.prog W 0 (fun _ => true) true f0 23 [.slice a0 n0 c0] = some (d0, p0) := hf0
    obtain ⟨i0, rfl⟩ := okWide_int Tryd.underlying3 (hval 1 3 v1 rfl rfl)
    have g1 : DataW.trod enc Tryd.prog W 0 (fun _ => true) true f1 3 [.int .i64 i0] = some (d1, p1) := hf1
    have l0 := len_reach Tryd.underlying23 bActR g0 (reach_each hz (j := 0) rfl rfl)
    obtain ⟨i1, e1, ok1⟩ := open_intE g1
    simp only [List.cons.injEq, and_true] at e1
    obtain rfl : i0 = i1 := by simpa using e1
    obtain ⟨xs0, r0⟩ := open_actsE g0
    have e0 : n0 = xs0.length := by obtain ⟨A, c, e⟩ := r0.form; simp only [Value.slice.injEq] at e; exact e.2.1
    exact apartW _ xs0 i0 W r0 (by omega) ok1 (of_laidAH hL)

theorem over : Rows.agendaApartRow.holds Tryd.pinned (OpenSpec.ofChange Rows.agendaApartSpec) :=
  OpenClaim.holds_of_wide 6 Tryd.f6 rfl rfl rfl rfl rfl rfl rfl ⟨rfl, rfl, rfl, rfl, rfl⟩ rfl rfl rfl rfl rfl (by kernel_rfl) Tryd.func6 (by kernel_rfl)
    (of_decide_eq_true (by kernel_rfl)) (by unfold Func.isWrapper; first | (rw [if_pos (by decide +kernel)]; kernel_rfl) | (rw [if_neg (by decide +kernel)]; exact ⟨rfl, rfl⟩))
    (fun os started H enc _ => lifted os started H enc)

theorem plainArgs (f : FuncId) (fn : Func) (hf : Tryd.pinned.checked.prog.funcNamed "edict/edictlaw13.AgendaApart" = some f) (hfn : Tryd.pinned.checked.prog.funcs[f]? = some fn) :
    false = Tryd.pinned.checked.prog.looks [] ∧ ∀ (j : Nat) t, fn.params[j]? = some t → Tryd.pinned.checked.prog.wantsStandIn t = false := by
  obtain rfl : f = 6 := Option.some.inj ((show Tryd.prog.funcNamed "edict/edictlaw13.AgendaApart" = some 6 by kernel_rfl).symm.trans hf) |>.symm
  obtain rfl : fn = Tryd.f6 := (Option.some.inj (Tryd.func6.symm.trans hfn)).symm
  refine ⟨by kernel_rfl, fun j t ht => ?_⟩
  rw [Tryd.params6] at ht
  rcases j with _ | _ | j
  · obtain rfl : t = 23 := by simpa using ht.symm
    exact (show Tryd.prog.wantsStandIn 23 = false by kernel_rfl)
  · obtain rfl : t = 3 := by simpa using ht.symm
    exact (show Tryd.prog.wantsStandIn 3 = false by kernel_rfl)
  · simp at ht

/-- The tied card. -/
theorem proved : Rows.AgendaApartCardSaid :=
  Claim7.holds_tied_plain_at .later [] _ _ _ _ over (fun _ h => by cases h) (by kernel_rfl) (fun _ h => by cases h) agendaApart_row_tie rfl ⟨rfl, rfl⟩ (by kernel_rfl) rfl plainArgs (by kernel_rfl)
#print axioms proved
end Go.Proofs.YtjgigcnjgblekaaDoor.agendaApart
