/- The law PlanCheck (Check of any plan is the reference's: the rules read back compile to it; the plan that is handed in stays) returns true for every plan, where the argument is of bulk at most 1048576. -/
import Derived.Test.YtonkbjdeaneicaaKpc28
import Derived.Test.YtonkbjdeaneicaaKpc38
import Derived.Test.YtonkbjdeaneicaaKpc39
import Derived.Test.YtonkbjdeaneicaaRows
namespace Go.Proofs.Ytonkbjdeaneicaa.planCheck
open Go.RowKit Go.Maps Pln

theorem own : ownKnob Try.prog.godebug = none := by kernel_rfl
theorem laidOut : laidOutB Try.prog = true := by kernel_rfl
theorem reads : Try.prog.readableRec 27 = true := by kernel_rfl
theorem inTypes : 27 < Try.prog.types.size := of_decide_eq_true (by kernel_rfl)

open Go.ChangeShapes Go.WideShapes Go.ChangeAt Go.Deep

set_option maxRecDepth 100000 in
theorem lifted (os : Os) (started : os.Started) (H : Type) (enc : TypeId × Value → H) (F : Stop.Interp) :
    ReturnsInHanded {} Try.checked os 6 .any ((Rows.OpenSpec.upto Rows.planCheckSpec).pre6 enc Try.prog Try.f6 Rows.planCheckUptoRow.domain false) (((Rows.OpenSpec.upto Rows.planCheckSpec).at F).post enc Try.prog Try.f6 false true false false) := by
  refine Frm.law_lifted_upto (C := Try.checked) (s := Rows.OpenSpec.upto Rows.planCheckSpec) (k := Rows.uptoSmall) (c := Rows.planCheckSpec) rfl rfl own started (by kernel_rfl) Try.func6
    (OpenSpec.witness (enc := enc) (C := Try.checked) (s := Rows.OpenSpec.upto Rows.planCheckSpec) (k := Rows.uptoSmall) rfl false ⟨#[], #[.agg #[.slice none 0 0, .slice none 0 0, .slice none 0 0]], []⟩ 8 (by kernel_rfl) (by kernel_rfl) (by kernel_rfl)
      (x := ([.agg [.nil, .nil, .nil]], [], [])) (by kernel_rfl) rfl (by kernel_rfl)) laidOut ?_ rfl rfl rfl rfl Try.underlying4 ?_ ?_
  · rw [Try.params6]
    intro t ht
    obtain rfl : t = 27 := by simpa using ht
    exact ⟨reads, inTypes⟩
  · intro ds hd
    rw [Try.params6] at hd
    match ds, hd with
    | [d], _ => rfl
  · intro W base args ds p hval hA hlt hz hk
    rw [Try.params6] at hA
    obtain ⟨v0, vs0, d0, ds0, p0, q0, hargs, rfl, rfl, h0, r0⟩ := trodAll_cons hA
    obtain ⟨rfl, rfl, rfl⟩ := trodAll_nil r0
    obtain rfl : args = #[v0] := by cases args; simp_all
    have k0 := bulk_arg hk (j := 0) rfl
    obtain ⟨fuel, hf⟩ := h0
    obtain ⟨cs, rfl, -⟩ := okWide_struct Try.underlying27 (hval 0 27 v0 (by rw [Try.params6]; rfl) rfl)
    have hf2 : DataW.trod enc Try.prog W 0 (fun _ => true) true fuel 27 cs.toList = some (d0, p0) := hf
    obtain ⟨av, nv, ev, al, ns, es, hcs, h1, h2⟩ := open_plan hf2
    obtain rfl : cs = #[av, nv, ev] := by cases cs; simp_all
    exact checkPW W av nv ev al ns es h1 ⟨⟨Nat.le_trans h2.al.1 k0, fun s hs => (h2.al.2 s hs).mono k0⟩, ⟨Nat.le_trans h2.ns.1 k0, fun s hs => (h2.ns.2 s hs).mono k0⟩, Nat.le_trans h2.en k0⟩

set_option maxRecDepth 100000 in
theorem proved : Rows.PlanCheckUptoSaid :=
  OpenClaim.holds_of_cond 6 Try.f6 rfl rfl rfl rfl rfl rfl rfl ⟨rfl, rfl, rfl, rfl, rfl⟩ rfl rfl rfl rfl rfl (by kernel_rfl) Try.func6 (by kernel_rfl)
    (of_decide_eq_true (by kernel_rfl)) (by unfold Func.isWrapper; first | (rw [if_pos (by decide +kernel)]; kernel_rfl) | (rw [if_neg (by decide +kernel)]; exact ⟨rfl, rfl⟩))
    (fun os started H enc _ F => lifted os started H enc F)
#print axioms proved
end Go.Proofs.Ytonkbjdeaneicaa.planCheck
