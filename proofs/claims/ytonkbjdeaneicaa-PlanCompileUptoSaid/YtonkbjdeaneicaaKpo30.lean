/- The law PlanCompile (the compiled plan is the reference's; the caller's own) returns true for every list of rules, where the argument is of bulk at most 1048576. -/
import Derived.Test.YtonkbjdeaneicaaKpo03
import Derived.Test.YtonkbjdeaneicaaKpo28
import Derived.Test.YtonkbjdeaneicaaKpo29
import Derived.Test.YtonkbjdeaneicaaRows
namespace Go.Proofs.Ytonkbjdeaneicaa.planCompile
open Go.RowKit Go.Maps Pln

theorem own : ownKnob Try.prog.godebug = none := by kernel_rfl
theorem laidOut : laidOutB Try.prog = true := by kernel_rfl
theorem reads : Try.prog.readableRec 22 = true := by kernel_rfl
theorem inTypes : 22 < Try.prog.types.size := of_decide_eq_true (by kernel_rfl)

open Go.ChangeShapes Go.WideShapes Go.ChangeAt Go.Deep

set_option maxRecDepth 100000 in
theorem lifted (os : Os) (started : os.Started) (H : Type) (enc : TypeId × Value → H) (F : Stop.Interp) :
    ReturnsInHanded {} Try.checked os 3 .any ((Rows.OpenSpec.upto Rows.planCompileSpec).pre6 enc Try.prog Try.f3 Rows.planCompileUptoRow.domain false) (((Rows.OpenSpec.upto Rows.planCompileSpec).at F).post enc Try.prog Try.f3 false true false false) := by
  refine Frm.law_lifted_upto (C := Try.checked) (s := Rows.OpenSpec.upto Rows.planCompileSpec) (k := Rows.uptoSmall) (c := Rows.planCompileSpec) rfl rfl own started (by kernel_rfl) Try.func3
    (OpenSpec.witness (enc := enc) (C := Try.checked) (s := Rows.OpenSpec.upto Rows.planCompileSpec) (k := Rows.uptoSmall) rfl false ⟨#[], #[.slice none 0 0], []⟩ 8 (by kernel_rfl) (by kernel_rfl) (by kernel_rfl)
      (x := ([.nil], [], [])) (by kernel_rfl) rfl (by kernel_rfl)) laidOut ?_ rfl rfl rfl rfl Try.underlying4 ?_ ?_
  · rw [Try.params3]
    intro t ht
    obtain rfl : t = 22 := by simpa using ht
    exact ⟨reads, inTypes⟩
  · intro ds hd
    rw [Try.params3] at hd
    match ds, hd with
    | [d], _ => rfl
  · intro W base args ds p hval hA hlt hz hk
    rw [Try.params3] at hA
    obtain ⟨v0, vs0, d0, ds0, p0, q0, hargs, rfl, rfl, h0, r0⟩ := trodAll_cons hA
    obtain ⟨rfl, rfl, rfl⟩ := trodAll_nil r0
    obtain rfl : args = #[v0] := by cases args; simp_all
    have k0 := bulk_arg hk (j := 0) rfl
    obtain ⟨fuel, hf⟩ := h0
    obtain ⟨a0, len0, cap0, rfl⟩ := okWide_slice Try.underlying22 (hval 0 22 v0 (by rw [Try.params3]; rfl) rfl)
    have hf2 : DataW.trod enc Try.prog W 0 (fun _ => true) true fuel 22 [.slice a0 len0 cap0] = some (d0, p0) := hf
    obtain ⟨rs, h1, h2, h3⟩ := open_rules hf2
    exact compilePW _ rs W h1 ⟨Nat.le_trans h2 k0, fun r hr => (h3 r hr).mono k0⟩

set_option maxRecDepth 100000 in
theorem proved : Rows.PlanCompileUptoSaid :=
  OpenClaim.holds_of_cond 3 Try.f3 rfl rfl rfl rfl rfl rfl rfl ⟨rfl, rfl, rfl, rfl, rfl⟩ rfl rfl rfl rfl rfl (by kernel_rfl) Try.func3 (by kernel_rfl)
    (of_decide_eq_true (by kernel_rfl)) (by unfold Func.isWrapper; first | (rw [if_pos (by decide +kernel)]; kernel_rfl) | (rw [if_neg (by decide +kernel)]; exact ⟨rfl, rfl⟩))
    (fun os started H enc _ F => lifted os started H enc F)
#print axioms proved
end Go.Proofs.Ytonkbjdeaneicaa.planCompile
