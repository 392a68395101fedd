/- The law SymFull returns true: a closed sentence. -/
import Derived.Test.YtblonickpmogiaaRows
import Derived.Test.YtblonickpmogiaaFrame
import Derived.Test.YtblonickpmogiaaSymFullW
namespace Go.Proofs.Ytblonickpmogiaa.symFull
open Go.ChangeShapes Go.WideShapes Go.ChangeAt Go.RowKit Go.Deep

theorem own : ownKnob Try.prog.godebug = none := by kernel_rfl
theorem laidOut : laidOutB Try.prog = true := by kernel_rfl

set_option maxRecDepth 100000 in
theorem lifted (os : Os) (started : os.Started) (H : Type) (enc : TypeId × Value → H) :
    ReturnsInHanded {} Try.checked os 14 .any (Rows.symFullSpec.pre6 enc Try.prog Try.f14 Rows.symFullRow.domain false) (Rows.symFullSpec.post enc Try.prog Try.f14 false true false false) := by
  refine Frm.law_lifted (C := Try.checked) own started (by kernel_rfl) Try.func14
    (ChangeSpec.witness6 (enc := enc) (C := Try.checked) false ⟨#[], #[], []⟩ 8 (by kernel_rfl) (by kernel_rfl) (by kernel_rfl) (by kernel_rfl)) laidOut ?_ rfl rfl Try.underlying4 ?_ ?_
  · rw [Try.params14]
    intro t ht
    simp at ht
  · intro ds hd
    rw [Try.params14] at hd
    match ds, hd with
    | [], _ => rfl
  · intro W base args ds p hval hA hlt hz
    rw [Try.params14] at hA hz
    have hargs := hA
    obtain ⟨h1, h2, h3⟩ := trodAll_nil hA
    obtain rfl : args = #[] := by cases args; simp_all
    exact symFullW W

theorem over : Rows.symFullRow.holds Try.pinned (OpenSpec.ofChange Rows.symFullSpec) :=
  OpenClaim.holds_of_wide 14 Try.f14 rfl rfl rfl rfl rfl rfl rfl ⟨rfl, rfl, rfl, rfl, rfl⟩ rfl rfl rfl rfl rfl (by kernel_rfl) Try.func14 (by kernel_rfl)
    (of_decide_eq_true (by kernel_rfl)) (by unfold Func.isWrapper; first | (rw [if_pos (by decide +kernel)]; kernel_rfl) | (rw [if_neg (by decide +kernel)]; exact ⟨rfl, rfl⟩))
    (fun os started H enc _ => lifted os started H enc)

theorem proved : Rows.SymFullSaid := over
#print axioms proved
end Go.Proofs.Ytblonickpmogiaa.symFull
