/- The law SymRanks returns true for every list of constants, valid or not. No condition. -/
import Derived.Test.YtblonickpmogiaaRows
import Derived.Test.YtblonickpmogiaaFrame
import Derived.Test.YtblonickpmogiaaSlR
import Derived.Test.YtblonickpmogiaaRanksW
namespace Go.Proofs.Ytblonickpmogiaa.symRanks
open Go.ChangeShapes Go.WideShapes Go.ChangeAt Go.RowKit Go.Deep

theorem own : ownKnob Try.prog.godebug = none := by kernel_rfl
theorem laidOut : laidOutB Try.prog = true := by kernel_rfl
theorem cells3 : Try.prog.cellsOf 27 = 3 := by kernel_rfl
theorem bytes32 : Try.prog.bytesOf 27 = 32 := by kernel_rfl
theorem reads : Try.prog.readableRec 24 = true := by kernel_rfl
theorem inTypes : 24 < Try.prog.types.size := of_decide_eq_true (by kernel_rfl)

set_option maxRecDepth 100000 in
theorem lifted (os : Os) (started : os.Started) (H : Type) (enc : TypeId × Value → H) :
    ReturnsInHanded {} Try.checked os 11 .any (Rows.symRanksSpec.pre6 enc Try.prog Try.f11 Rows.symRanksRow.domain false) (Rows.symRanksSpec.post enc Try.prog Try.f11 false true false false) := by
  refine Frm.law_lifted (C := Try.checked) own started (by kernel_rfl) Try.func11
    (ChangeSpec.witness6 (enc := enc) (C := Try.checked) false ⟨#[], #[.slice none 0 0], []⟩ 8 (by kernel_rfl) (by kernel_rfl) (by kernel_rfl) (by kernel_rfl)) laidOut ?_ rfl rfl Try.underlying4 ?_ ?_
  · rw [Try.params11]
    intro t ht
    obtain rfl : t = 24 := by simpa using ht
    exact ⟨reads, inTypes⟩
  · intro ds hd
    rw [Try.params11] at hd
    match ds, hd with
    | [d], _ => rfl
  · intro W base args ds p hval hA hlt hz
    rw [Try.params11] at hA hz
    obtain ⟨v0, vs0, d0, ds0, p0, q0, hargs, rfl, rfl, h0, r0⟩ := trodAll_cons hA
    obtain ⟨rfl, rfl, rfl⟩ := trodAll_nil r0
    obtain rfl : args = #[v0] := by cases args; simp_all
    obtain ⟨a0, len0, cap0, rfl⟩ := okWide_slice Try.underlying24 (hval 0 24 v0 (by rw [Try.params11]; rfl) rfl)
    obtain ⟨fuel, hf⟩ := h0
    have hf2 : DataW.trod enc Try.prog W 0 (fun _ => true) true fuel 24 [.slice a0 len0 cap0] = some (d0, p0) := hf
    obtain ⟨A, cap, xs, hv, hl, hm, hby, hok, hs⟩ := open_slR (cells := Cst.cells) (ok := Cst.ok) (sz := 3) Try.underlying24 cells3 bytes32 (by decide) (fun _ => rfl)
      (fun _ _ _ h _ => open_cst Try.underlying27 (by kernel_rfl) Try.underlying3 Try.underlying2 Try.underlying9 cells3 h) hf2 (reach_each hz (j := 0) rfl rfl)
    rw [hv]
    exact ranksLawW A cap xs W hs hok (Nat.le_trans hl hm)

theorem over : Rows.symRanksRow.holds Try.pinned (OpenSpec.ofChange Rows.symRanksSpec) :=
  OpenClaim.holds_of_wide 11 Try.f11 rfl rfl rfl rfl rfl rfl rfl ⟨rfl, rfl, rfl, rfl, rfl⟩ rfl rfl rfl rfl rfl (by kernel_rfl) Try.func11 (by kernel_rfl)
    (of_decide_eq_true (by kernel_rfl)) (by unfold Func.isWrapper; first | (rw [if_pos (by decide +kernel)]; kernel_rfl) | (rw [if_neg (by decide +kernel)]; exact ⟨rfl, rfl⟩))
    (fun os started H enc _ => lifted os started H enc)

theorem proved : Rows.SymRanksSaid := over
#print axioms proved
end Go.Proofs.Ytblonickpmogiaa.symRanks
