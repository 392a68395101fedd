/- The law AgendaOrderless (two agendas that hold the same acts tell the same, whatever the order in which the acts came; all taken out again, nothing is left) returns true for every input: the tied card. Condition: the three tables of Go's library that the row lists hold at the call's start what the program's text lays; the card ties that. -/
import Derived.Test.YtjgigcnjgblekaaDoorKao02
import Derived.Test.YtjgigcnjgblekaaDoorKao21
import Derived.Test.YtjgigcnjgblekaaDoorKao22
import Derived.Test.YtjgigcnjgblekaaDoorKao24
import Derived.SevenTiedAt
import Derived.Test.YtjgigcnjgblekaaDoorCards
import Derived.Test.YtjgigcnjgblekaaDoorRows
import Derived.Test.YtjgigcnjgblekaaDoorTie
namespace Go.Proofs.YtjgigcnjgblekaaDoor.agendaOrderless
open Go.ChangeShapes Go.WideShapes Go.ChangeAt Go.RowKit Go.Deep

theorem own : ownKnob Tryd.prog.godebug = none := by kernel_rfl
theorem laidOut : laidOutB Tryd.prog = true := by kernel_rfl
theorem reads0 : Tryd.prog.readableRec 22 = true := by kernel_rfl
theorem reads1 : Tryd.prog.readableRec 23 = true := by kernel_rfl
theorem inTypes0 : 22 < Tryd.prog.types.size := of_decide_eq_true (by kernel_rfl)
theorem inTypes1 : 23 < Tryd.prog.types.size := of_decide_eq_true (by kernel_rfl)

set_option maxRecDepth 100000 in
theorem lifted (os : Os) (started : os.Started) (H : Type) (enc : TypeId × Value → H) :
    ReturnsInHanded {} Tryd.checked os 3 .any (fun w args => (Rows.agendaOrderlessSpec.pre enc Tryd.prog Tryd.f3 [] false w args ∧ laidMetH Tryd.prog Rows.agendaOrderlessRow.laid w) ∧ sizedMet enc Tryd.prog Tryd.f3 (OpenSpec.ofChange Rows.agendaOrderlessSpec) false w args) (Rows.agendaOrderlessSpec.post enc Tryd.prog Tryd.f3 false true false false) := by
  refine Frm.law_lifted_laid (C := Tryd.checked) own started (by kernel_rfl) Tryd.func3
    (ChangeSpec.witness_shaped (enc := enc) (C := Tryd.checked) (os := os) (X := fun w _ => laidMetH Tryd.prog Rows.agendaOrderlessRow.laid w) false (World.doorLaid Tryd.prog 4000 os) #[.slice none 0 0, .slice none 0 0, .slice none 0 0] 8 rfl (World.shaped_of_RefB (by kernel_rfl) (by kernel_rfl)) (by kernel_rfl) (by kernel_rfl) (by kernel_rfl) (door_metA os _)) laidOut ?_ rfl rfl Tryd.underlying4 ?_ ?_
  · rw [Tryd.params3]
    intro t ht
    have h : t = 22 ∨ t = 23 := by
      have h2 : t = 22 ∨ t = 23 ∨ t = 22 := by simpa using ht
      rcases h2 with h2 | h2 | h2
      · exact .inl h2
      · exact .inr h2
      · exact .inl h2
    rcases h with rfl | rfl
    · exact ⟨reads0, inTypes0⟩
    · exact ⟨reads1, inTypes1⟩
  · intro ds hd
    rw [Tryd.params3] at hd
    match ds, hd with
    | [d1, d2, d3], _ => rfl
  · intro W base args ds p hval0 hA hlt hz hL
    have hval : ∀ (j : Nat) t v, Tryd.f3.params[j]? = some t → args[j]? = some v → Value.okWide Tryd.prog W .any base t v := hval0
    rw [Tryd.params3] at hA hz hval
    obtain ⟨v0, vs0, d0, ds0, p0, q0, hargs, rfl, rfl, h0, r0⟩ := trodAll_cons hA
    obtain ⟨v1, vs1, d1, ds1, p1, q1, rfl, rfl, rfl, h1, r1⟩ := trodAll_cons r0
    obtain ⟨v2, vs2, d2, ds2, p2, q2, rfl, rfl, rfl, h2, r2⟩ := trodAll_cons r1
    obtain ⟨rfl, rfl, rfl⟩ := trodAll_nil r2
    obtain rfl : args = #[v0, v1, v2] := by cases args; simp_all
    obtain ⟨f0, hf0⟩ := h0
    obtain ⟨f1, hf1⟩ := h1
    obtain ⟨f2, hf2⟩ := h2
    obtain ⟨a0, n0, c0, rfl⟩ := okWide_slice Tryd.underlying22 (hval 0 22 v0 rfl rfl)
    obtain ⟨a1, n1, c1, rfl⟩ := okWide_slice Tryd.underlying23 (hval 1 23 v1 rfl rfl)
    obtain ⟨a2, n2, c2, rfl⟩ := okWide_slice Tryd.underlying22 (hval 2 22 v2 rfl rfl)
    have g0 : DataW.trod enc Tryd.prog W 0 (fun _ => true) true f0 22 [.slice a0 n0 c0] = some (d0, p0) := hf0
    have g1 : DataW.trod enc Tryd.prog W 0 (fun _ => true) true f1 23 [.slice a1 n1 c1] = some (d1, p1) := hf1
    have g2 : DataW.trod enc Tryd.prog W 0 (fun _ => true) true f2 22 [.slice a2 n2 c2] = some (d2, p2) := hf2
    have l0 := len_reach Tryd.underlying22 bIntR g0 (reach_each hz (j := 0) rfl rfl)
    have l1 := len_reach Tryd.underlying23 bActR g1 (reach_each hz (j := 1) rfl rfl)
    obtain ⟨xs0, r0⟩ := open_intsE g0
    obtain ⟨xs1, r1⟩ := open_actsE g1
    obtain ⟨xs2, r2⟩ := open_intsE g2
    have e0 : n0 = xs0.length := by obtain ⟨A, c, e⟩ := r0.form; simp only [Value.slice.injEq] at e; exact e.2.1
    have e1 : n1 = xs1.length := by obtain ⟨A, c, e⟩ := r1.form; simp only [Value.slice.injEq] at e; exact e.2.1
    exact orderW _ _ _ xs0 xs1 xs2 W r0 r1 r2 (by omega) (by omega) (of_laidAH hL)

theorem over : Rows.agendaOrderlessRow.holds Tryd.pinned (OpenSpec.ofChange Rows.agendaOrderlessSpec) :=
  OpenClaim.holds_of_wide 3 Tryd.f3 rfl rfl rfl rfl rfl rfl rfl ⟨rfl, rfl, rfl, rfl, rfl⟩ rfl rfl rfl rfl rfl (by kernel_rfl) Tryd.func3 (by kernel_rfl)
    (of_decide_eq_true (by kernel_rfl)) (by unfold Func.isWrapper; first | (rw [if_pos (by decide +kernel)]; kernel_rfl) | (rw [if_neg (by decide +kernel)]; exact ⟨rfl, rfl⟩))
    (fun os started H enc _ => lifted os started H enc)

theorem plainArgs (f : FuncId) (fn : Func) (hf : Tryd.pinned.checked.prog.funcNamed "edict/edictlaw13.AgendaOrderless" = some f) (hfn : Tryd.pinned.checked.prog.funcs[f]? = some fn) :
    false = Tryd.pinned.checked.prog.looks [] ∧ ∀ (j : Nat) t, fn.params[j]? = some t → Tryd.pinned.checked.prog.wantsStandIn t = false := by
  obtain rfl : f = 3 := Option.some.inj ((show Tryd.prog.funcNamed "edict/edictlaw13.AgendaOrderless" = some 3 by kernel_rfl).symm.trans hf) |>.symm
  obtain rfl : fn = Tryd.f3 := (Option.some.inj (Tryd.func3.symm.trans hfn)).symm
  refine ⟨by kernel_rfl, fun j t ht => ?_⟩
  rw [Tryd.params3] at ht
  rcases j with _ | _ | _ | j
  · obtain rfl : t = 22 := by simpa using ht.symm
    exact (show Tryd.prog.wantsStandIn 22 = false by kernel_rfl)
  · obtain rfl : t = 23 := by simpa using ht.symm
    exact (show Tryd.prog.wantsStandIn 23 = false by kernel_rfl)
  · obtain rfl : t = 22 := by simpa using ht.symm
    exact (show Tryd.prog.wantsStandIn 22 = false by kernel_rfl)
  · simp at ht

/-- The tied card. -/
theorem proved : Rows.AgendaOrderlessCardSaid :=
  Claim7.holds_tied_plain_at .later [] _ _ _ _ over (fun _ h => by cases h) (by kernel_rfl) (fun _ h => by cases h) agendaOrderless_row_tie rfl ⟨rfl, rfl⟩ (by kernel_rfl) rfl plainArgs (by kernel_rfl)
#print axioms proved
end Go.Proofs.YtjgigcnjgblekaaDoor.agendaOrderless
