/- The law SymBack returns true for every two constants, valid or not: the tied card. Condition: the three tables and the two errors of Go's library that the row lists hold at the call's start what the program's text lays; the card ties that. -/
import Derived.Test.YtblonickpmogiaaDoorRows
import Derived.Test.YtblonickpmogiaaDoorCards
import Derived.Test.YtblonickpmogiaaDoorTie
import Derived.Test.YtblonickpmogiaaDoorFrameL
import Derived.Test.YtblonickpmogiaaDoorSl
import Derived.Test.YtblonickpmogiaaDoorBackW
import Derived.Test.YtblonickpmogiaaDoorLaidE
import Derived.LaidMore
import Derived.MakeChecks
import Derived.Lib.LaidTab
import Derived.SevenTiedAt
namespace Go.Proofs.YtblonickpmogiaaDoor.symBack
open Go.ChangeShapes Go.WideShapes Go.ChangeAt Go.RowKit Go.Deep

theorem own : ownKnob Tryd.prog.godebug = none := by kernel_rfl
theorem laidOut : laidOutB Tryd.prog = true := by kernel_rfl
theorem cells3 : Tryd.prog.cellsOf 25 = 3 := by kernel_rfl
theorem bytes32 : Tryd.prog.bytesOf 25 = 32 := by kernel_rfl
theorem reads : Tryd.prog.readableRec 25 = true := by kernel_rfl
theorem inTypes : 25 < Tryd.prog.types.size := of_decide_eq_true (by kernel_rfl)

set_option maxRecDepth 100000 in
/-- A constant as an argument. -/
theorem open_arg {H : Type} {enc : TypeId × Value → H} {W : World} {r : Reach} {b0 : Nat} {v : Value} {d : DataW H} {p : List MemPlace} (hv : Value.okWide Tryd.prog W r b0 25 v) (h : DataW.Trod enc Tryd.prog W 0 (fun _ => true) true 25 v d p) :
    ∃ c : Cst, c.ok ∧ v = .agg #[.int .i64 c.k, .int .i64 c.n, .string c.s] := by
  obtain ⟨cs, rfl, _⟩ := okWide_struct Tryd.underlying25 hv
  obtain ⟨fuel, hf⟩ := h
  obtain ⟨c, hc, hcs⟩ := open_cst Tryd.underlying25 (by kernel_rfl) Tryd.underlying3 Tryd.underlying2 Tryd.underlying9 cells3 hf
  refine ⟨c, hc, ?_⟩
  have : cs.toList = c.cells := hcs
  rw [show cs = cs.toList.toArray by simp, this]
  rfl

/-- What the condition gives the walk. -/
theorem of_laid {W : World} (h : laidMetH Tryd.prog Rows.symBackRow.laid W) : Tab W ∧ Ev W := by
  rw [MakeChecks.laidMetH_plain _ _ _ (by kernel_rfl)] at h
  exact of_laid5 h

theorem door_met (os : Os) (args : Array Value) : laidMetH Tryd.prog Rows.symBackRow.laid ((World.doorLaid Tryd.prog 4000 os).forCall (fun _ _ => 0) ⟨#[], args, []⟩).memory :=
  laidMetH_of_parts3 (fuel := 8) (laidMet_of_run' 8 (by kernel_rfl) (by kernel_rfl)) (by kernel_rfl) (by kernel_rfl)

set_option maxRecDepth 100000 in
theorem lifted (os : Os) (started : os.Started) (H : Type) (enc : TypeId × Value → H) :
    ReturnsInHanded {} Tryd.checked os 5 .any (fun w args => (Rows.symBackSpec.pre enc Tryd.prog Tryd.f5 [] false w args ∧ laidMetH Tryd.prog Rows.symBackRow.laid w) ∧ sizedMet enc Tryd.prog Tryd.f5 (OpenSpec.ofChange Rows.symBackSpec) false w args) (Rows.symBackSpec.post enc Tryd.prog Tryd.f5 false true false false) := by
  refine Frm.law_lifted_laid (C := Tryd.checked) own started (by kernel_rfl) Tryd.func5
    (ChangeSpec.witness_shaped (enc := enc) (C := Tryd.checked) (os := os) (X := fun w _ => laidMetH Tryd.prog Rows.symBackRow.laid w) false (World.doorLaid Tryd.prog 4000 os) #[.agg #[.int .i64 0, .int .i64 0, .string ⟨#[]⟩], .agg #[.int .i64 0, .int .i64 0, .string ⟨#[]⟩]] 8 rfl (World.shaped_of_RefB (by kernel_rfl) (by kernel_rfl)) (by kernel_rfl) (by kernel_rfl) (by kernel_rfl) (door_met os _)) laidOut ?_ rfl rfl Tryd.underlying4 ?_ ?_
  · rw [Tryd.params5]
    intro t ht
    obtain rfl : t = 25 := by simpa using ht
    exact ⟨reads, inTypes⟩
  · intro ds hd
    rw [Tryd.params5] at hd
    match ds, hd with
    | [d1, d2], _ => rfl
  · intro W base args ds p hval0 hA hlt hz hL
    have hval : ∀ (j : Nat) t v, Tryd.f5.params[j]? = some t → args[j]? = some v → Value.okWide Tryd.prog W .any base t v := hval0
    rw [Tryd.params5] at hA hz hval
    obtain ⟨v0, vs0, d0, ds0, p0, q0, hargs, rfl, rfl, h0, r0⟩ := trodAll_cons hA
    obtain ⟨v1, vs1, d1, ds1, p1, q1, rfl, rfl, rfl, h1, r1⟩ := trodAll_cons r0
    obtain ⟨rfl, rfl, rfl⟩ := trodAll_nil r1
    obtain rfl : args = #[v0, v1] := by cases args; simp_all
    obtain ⟨a, ha, rfl⟩ := open_arg (hval 0 25 v0 rfl rfl) h0
    obtain ⟨b, hb, rfl⟩ := open_arg (hval 1 25 v1 rfl rfl) h1
    exact backW a b ha hb W (of_laid hL).2 (of_laid hL).1

theorem over : Rows.symBackRow.holds Tryd.pinned (OpenSpec.ofChange Rows.symBackSpec) :=
  OpenClaim.holds_of_wide 5 Tryd.f5 rfl rfl rfl rfl rfl rfl rfl ⟨rfl, rfl, rfl, rfl, rfl⟩ rfl rfl rfl rfl rfl (by kernel_rfl) Tryd.func5 (by kernel_rfl)
    (of_decide_eq_true (by kernel_rfl)) (by unfold Func.isWrapper; first | (rw [if_pos (by decide +kernel)]; kernel_rfl) | (rw [if_neg (by decide +kernel)]; exact ⟨rfl, rfl⟩))
    (fun os started H enc _ => lifted os started H enc)

/-- The tied card. -/
theorem proved : Rows.SymBackCardSaid :=
  Claim7.holds_tied_plain_at .later [] [.data, .data, .data, .sentinel, .sentinel] true (true, "b8dc7f1943aec7c85a84f0beb8e56b5d430e97799e53a569b6080e5cedf1e176") true
    over (fun _ h => by cases h) (by kernel_rfl) (fun _ h => by cases h) symBack_row_tie rfl ⟨rfl, rfl⟩ (by kernel_rfl) rfl
    (fun f fn hf hfn => by
      obtain rfl : f = 5 := Option.some.inj ((show Tryd.prog.funcNamed "edict/edictlaw01.SymBack" = some 5 by kernel_rfl).symm.trans hf) |>.symm
      obtain rfl : fn = Tryd.f5 := (Option.some.inj (Tryd.func5.symm.trans hfn)).symm
      exact ⟨by kernel_rfl, fun j t ht => by
        rw [Tryd.params5] at ht
        have h3 : t = 25 := by
          rcases j with _ | _ | j
          · simpa using ht.symm
          · simpa using ht.symm
          · simp at ht
        subst h3
        exact (show Tryd.prog.wantsStandIn 25 = false by kernel_rfl)⟩)
    (by kernel_rfl)
#print axioms proved
end Go.Proofs.YtblonickpmogiaaDoor.symBack
