/- The law SymStrict returns true for every string: the tied card. Condition: the three tables and the two errors of Go's library that the row lists hold at the call's start what the program's text lays; the card ties that. -/
import Derived.Test.YtblonickpmogiaaDoorRows
import Derived.Test.YtblonickpmogiaaDoorCards
import Derived.Test.YtblonickpmogiaaDoorTie
import Derived.Test.YtblonickpmogiaaDoorFrameL
import Derived.Test.YtblonickpmogiaaDoorOpenStr
import Derived.Test.YtblonickpmogiaaDoorStrictW
import Derived.Test.YtblonickpmogiaaDoorLaidE
import Derived.LaidMore
import Derived.MakeChecks
import Derived.Lib.LaidTab
import Derived.SevenTiedAt
namespace Go.Proofs.YtblonickpmogiaaDoor.symStrict
open Go.ChangeShapes Go.WideShapes Go.ChangeAt Go.RowKit Go.Deep

theorem own : ownKnob Tryd.prog.godebug = none := by kernel_rfl
theorem laidOut : laidOutB Tryd.prog = true := by kernel_rfl
theorem reads : Tryd.prog.readableRec 9 = true := by kernel_rfl
theorem inTypes : 9 < Tryd.prog.types.size := of_decide_eq_true (by kernel_rfl)

/-- What the condition gives the walk. -/
theorem of_laid {W : World} (h : laidMetH Tryd.prog Rows.symStrictRow.laid W) : Tab W ∧ Ev W := by
  rw [MakeChecks.laidMetH_plain _ _ _ (by kernel_rfl)] at h
  exact of_laid5 h

theorem door_met (os : Os) (args : Array Value) : laidMetH Tryd.prog Rows.symStrictRow.laid ((World.doorLaid Tryd.prog 4000 os).forCall (fun _ _ => 0) ⟨#[], args, []⟩).memory :=
  laidMetH_of_parts3 (fuel := 8) (laidMet_of_run' 8 (by kernel_rfl) (by kernel_rfl)) (by kernel_rfl) (by kernel_rfl)

set_option maxRecDepth 100000 in
theorem lifted (os : Os) (started : os.Started) (H : Type) (enc : TypeId × Value → H) :
    ReturnsInHanded {} Tryd.checked os 6 .any (fun w args => (Rows.symStrictSpec.pre enc Tryd.prog Tryd.f6 [] false w args ∧ laidMetH Tryd.prog Rows.symStrictRow.laid w) ∧ sizedMet enc Tryd.prog Tryd.f6 (OpenSpec.ofChange Rows.symStrictSpec) false w args) (Rows.symStrictSpec.post enc Tryd.prog Tryd.f6 false true false false) := by
  refine Frm.law_lifted_laid (C := Tryd.checked) own started (by kernel_rfl) Tryd.func6
    (ChangeSpec.witness_shaped (enc := enc) (C := Tryd.checked) (os := os) (X := fun w _ => laidMetH Tryd.prog Rows.symStrictRow.laid w) false (World.doorLaid Tryd.prog 4000 os) #[.string ⟨#[]⟩] 8 rfl (World.shaped_of_RefB (by kernel_rfl) (by kernel_rfl)) (by kernel_rfl) (by kernel_rfl) (by kernel_rfl) (door_met os _)) laidOut ?_ rfl rfl Tryd.underlying4 ?_ ?_
  · rw [Tryd.params6]
    intro t ht
    obtain rfl : t = 9 := by simpa using ht
    exact ⟨reads, inTypes⟩
  · intro ds hd
    rw [Tryd.params6] at hd
    match ds, hd with
    | [d], _ => rfl
  · intro W base args ds p hval0 hA hlt hz hL
    have hval : ∀ (j : Nat) t v, Tryd.f6.params[j]? = some t → args[j]? = some v → Value.okWide Tryd.prog W .any base t v := hval0
    rw [Tryd.params6] at hA hz hval
    obtain ⟨v0, vs0, d0, ds0, p0, q0, hargs, rfl, rfl, h0, r0⟩ := trodAll_cons hA
    obtain ⟨rfl, rfl, rfl⟩ := trodAll_nil r0
    obtain rfl : args = #[v0] := by cases args; simp_all
    obtain ⟨fuel, hf⟩ := h0
    obtain ⟨s, rfl⟩ := okWide_string Tryd.underlying9 (hval 0 9 v0 rfl rfl)
    obtain ⟨k, hk, hc⟩ := open_strR Tryd.underlying9 (show DataW.trod enc Tryd.prog W 0 (fun _ => true) true fuel 9 [.string s] = some (d0, p0) from hf) (reach_each hz (j := 0) rfl rfl)
    simp only [List.cons.injEq, and_true, Value.string.injEq] at hc
    subst hc
    exact strictW s hk W (of_laid hL).2 (of_laid hL).1

theorem over : Rows.symStrictRow.holds Tryd.pinned (OpenSpec.ofChange Rows.symStrictSpec) :=
  OpenClaim.holds_of_wide 6 Tryd.f6 rfl rfl rfl rfl rfl rfl rfl ⟨rfl, rfl, rfl, rfl, rfl⟩ rfl rfl rfl rfl rfl (by kernel_rfl) Tryd.func6 (by kernel_rfl)
    (of_decide_eq_true (by kernel_rfl)) (by unfold Func.isWrapper; first | (rw [if_pos (by decide +kernel)]; kernel_rfl) | (rw [if_neg (by decide +kernel)]; exact ⟨rfl, rfl⟩))
    (fun os started H enc _ => lifted os started H enc)

/-- The tied card. -/
theorem proved : Rows.SymStrictCardSaid :=
  Claim7.holds_tied_plain_at .later [] [.data, .data, .data, .sentinel, .sentinel] true (true, "b8dc7f1943aec7c85a84f0beb8e56b5d430e97799e53a569b6080e5cedf1e176") true
    over (fun _ h => by cases h) (by kernel_rfl) (fun _ h => by cases h) symStrict_row_tie rfl ⟨rfl, rfl⟩ (by kernel_rfl) rfl
    (fun f fn hf hfn => by
      obtain rfl : f = 6 := Option.some.inj ((show Tryd.prog.funcNamed "edict/edictlaw01.SymStrict" = some 6 by kernel_rfl).symm.trans hf) |>.symm
      obtain rfl : fn = Tryd.f6 := (Option.some.inj (Tryd.func6.symm.trans hfn)).symm
      exact ⟨by kernel_rfl, fun j t ht => by
        rw [Tryd.params6] at ht
        have h3 : t = 9 := by
          rcases j with _ | j
          · simpa using ht.symm
          · simp at ht
        subst h3
        exact (show Tryd.prog.wantsStandIn 9 = false by kernel_rfl)⟩)
    (by kernel_rfl)
#print axioms proved
end Go.Proofs.YtblonickpmogiaaDoor.symStrict
