/- The law SymReads returns true for every list of strings: the tied card. Condition: the three tables and the two errors of Go's library that the row lists hold at the call's start what the program's text lays; the card ties that. -/
import Derived.Test.YtblonickpmogiaaDoorRows
import Derived.Test.YtblonickpmogiaaDoorCards
import Derived.Test.YtblonickpmogiaaDoorTie
import Derived.Test.YtblonickpmogiaaDoorFrameL
import Derived.Test.YtblonickpmogiaaDoorOpenStr
import Derived.Test.YtblonickpmogiaaDoorReadsW
import Derived.Test.YtblonickpmogiaaDoorLaidE
import Derived.LaidMore
import Derived.MakeChecks
import Derived.Lib.LaidTab
import Derived.SevenTiedAt
namespace Go.Proofs.YtblonickpmogiaaDoor.symReads
open Go.ChangeShapes Go.WideShapes Go.ChangeAt Go.RowKit Go.Deep

theorem own : ownKnob Tryd.prog.godebug = none := by kernel_rfl
theorem laidOut : laidOutB Tryd.prog = true := by kernel_rfl
theorem cells1 : Tryd.prog.cellsOf 9 = 1 := by kernel_rfl
theorem bytes16 : Tryd.prog.bytesOf 9 = 16 := by kernel_rfl
theorem reads : Tryd.prog.readableRec 29 = true := by kernel_rfl
theorem inTypes : 29 < Tryd.prog.types.size := of_decide_eq_true (by kernel_rfl)

/-- What the condition gives the walk. -/
theorem of_laid {W : World} (h : laidMetH Tryd.prog Rows.symReadsRow.laid W) : Tab W ∧ Ev W := by
  rw [MakeChecks.laidMetH_plain _ _ _ (by kernel_rfl)] at h
  exact of_laid5 h

theorem door_met (os : Os) (args : Array Value) : laidMetH Tryd.prog Rows.symReadsRow.laid ((World.doorLaid Tryd.prog 4000 os).forCall (fun _ _ => 0) ⟨#[], args, []⟩).memory :=
  laidMetH_of_parts3 (fuel := 8) (laidMet_of_run' 8 (by kernel_rfl) (by kernel_rfl)) (by kernel_rfl) (by kernel_rfl)

set_option maxRecDepth 100000 in
theorem lifted (os : Os) (started : os.Started) (H : Type) (enc : TypeId × Value → H) :
    ReturnsInHanded {} Tryd.checked os 4 .any (fun w args => (Rows.symReadsSpec.pre enc Tryd.prog Tryd.f4 [] false w args ∧ laidMetH Tryd.prog Rows.symReadsRow.laid w) ∧ sizedMet enc Tryd.prog Tryd.f4 (OpenSpec.ofChange Rows.symReadsSpec) false w args) (Rows.symReadsSpec.post enc Tryd.prog Tryd.f4 false true false false) := by
  refine Frm.law_lifted_laid (C := Tryd.checked) own started (by kernel_rfl) Tryd.func4
    (ChangeSpec.witness_shaped (enc := enc) (C := Tryd.checked) (os := os) (X := fun w _ => laidMetH Tryd.prog Rows.symReadsRow.laid w) false (World.doorLaid Tryd.prog 4000 os) #[.slice none 0 0] 8 rfl (World.shaped_of_RefB (by kernel_rfl) (by kernel_rfl)) (by kernel_rfl) (by kernel_rfl) (by kernel_rfl) (door_met os _)) laidOut ?_ rfl rfl Tryd.underlying4 ?_ ?_
  · rw [Tryd.params4]
    intro t ht
    obtain rfl : t = 29 := by simpa using ht
    exact ⟨reads, inTypes⟩
  · intro ds hd
    rw [Tryd.params4] at hd
    match ds, hd with
    | [d], _ => rfl
  · intro W base args ds p hval hA hlt hz hL
    rw [Tryd.params4] at hA hz
    obtain ⟨v0, vs0, d0, ds0, p0, q0, hargs, rfl, rfl, h0, r0⟩ := trodAll_cons hA
    obtain ⟨rfl, rfl, rfl⟩ := trodAll_nil r0
    obtain rfl : args = #[v0] := by cases args; simp_all
    obtain ⟨a0, len0, cap0, rfl⟩ := okWide_slice Tryd.underlying29 (hval 0 29 v0 (by rw [Tryd.params4]; rfl) rfl)
    obtain ⟨fuel, hf⟩ := h0
    have hf2 : DataW.trod enc Tryd.prog W 0 (fun _ => true) true fuel 29 [.slice a0 len0 cap0] = some (d0, p0) := hf
    obtain ⟨A, cap, xs, hv, hl, hm, hby, hok, hs⟩ := open_slR (cells := strCells) (ok := fun k => k.size ≤ 140737488351232) (sz := 1) Tryd.underlying29 cells1 bytes16 (by decide) (fun _ => rfl)
      (fun _ _ _ h hR => open_strR Tryd.underlying9 h hR) hf2 (reach_each hz (j := 0) rfl rfl)
    rw [hv]
    exact readsW A cap xs W hs (fun s h => Nat.le_trans (hok s h) (by decide)) (of_laid hL).2 (of_laid hL).1 (by omega)

theorem over : Rows.symReadsRow.holds Tryd.pinned (OpenSpec.ofChange Rows.symReadsSpec) :=
  OpenClaim.holds_of_wide 4 Tryd.f4 rfl rfl rfl rfl rfl rfl rfl ⟨rfl, rfl, rfl, rfl, rfl⟩ rfl rfl rfl rfl rfl (by kernel_rfl) Tryd.func4 (by kernel_rfl)
    (of_decide_eq_true (by kernel_rfl)) (by unfold Func.isWrapper; first | (rw [if_pos (by decide +kernel)]; kernel_rfl) | (rw [if_neg (by decide +kernel)]; exact ⟨rfl, rfl⟩))
    (fun os started H enc _ => lifted os started H enc)

/-- The tied card. -/
theorem proved : Rows.SymReadsCardSaid :=
  Claim7.holds_tied_plain_at .later [] [.data, .data, .data, .sentinel, .sentinel] true (true, "b8dc7f1943aec7c85a84f0beb8e56b5d430e97799e53a569b6080e5cedf1e176") true
    over (fun _ h => by cases h) (by kernel_rfl) (fun _ h => by cases h) symReads_row_tie rfl ⟨rfl, rfl⟩ (by kernel_rfl) rfl
    (fun f fn hf hfn => by
      obtain rfl : f = 4 := Option.some.inj ((show Tryd.prog.funcNamed "edict/edictlaw01.SymReads" = some 4 by kernel_rfl).symm.trans hf) |>.symm
      obtain rfl : fn = Tryd.f4 := (Option.some.inj (Tryd.func4.symm.trans hfn)).symm
      exact ⟨by kernel_rfl, fun j t ht => by
        rw [Tryd.params4] at ht
        have h3 : t = 29 := by
          rcases j with _ | j
          · simpa using ht.symm
          · simp at ht
        subst h3
        exact (show Tryd.prog.wantsStandIn 29 = false by kernel_rfl)⟩)
    (by kernel_rfl)
#print axioms proved
end Go.Proofs.YtblonickpmogiaaDoor.symReads
