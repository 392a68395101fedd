/- The law SymValids returns true for every list of constants, valid or not: the tied card. Condition: the three tables of Go's library that the row lists hold at the call's start what the program's text lays; the card ties that. -/
import Derived.Test.YtblonickpmogiaaDoorRows
import Derived.Test.YtblonickpmogiaaDoorCards
import Derived.Test.YtblonickpmogiaaDoorTie
import Derived.Test.YtblonickpmogiaaDoorFrameL
import Derived.Test.YtblonickpmogiaaDoorSlR
import Derived.Test.YtblonickpmogiaaDoorValids
import Derived.LaidMore
import Derived.MakeChecks
import Derived.Lib.LaidTab
import Derived.SevenTiedAt
namespace Go.Proofs.YtblonickpmogiaaDoor.symValids
open Go.ChangeShapes Go.WideShapes Go.ChangeAt Go.RowKit Go.Deep

theorem own : ownKnob Tryd.prog.godebug = none := by kernel_rfl
theorem laidOut : laidOutB Tryd.prog = true := by kernel_rfl
theorem cells3 : Tryd.prog.cellsOf 25 = 3 := by kernel_rfl
theorem bytes32 : Tryd.prog.bytesOf 25 = 32 := by kernel_rfl
theorem reads : Tryd.prog.readableRec 22 = true := by kernel_rfl
theorem inTypes : 22 < Tryd.prog.types.size := of_decide_eq_true (by kernel_rfl)
theorem gTab : Tryd.prog.globalNamed "internal/strconv.uint64pow10" = some 0 := by kernel_rfl
theorem tTab : (Tryd.prog.globals[0]?).map (·.type) = some 75 := by kernel_rfl
theorem cellsU : Tryd.prog.cellsOf 64 = 1 := by kernel_rfl
theorem cellsT : Tryd.prog.cellsOf 75 = 20 := by kernel_rfl

/-- What the condition gives the walk. -/
theorem of_laid {W : World} (h : laidMetH Tryd.prog Rows.symValidsRow.laid W) : Tab W := by
  rw [MakeChecks.laidMetH_plain _ _ _ (by kernel_rfl)] at h
  obtain ⟨ps, ⟨g0, t0, cs0, f0, p0, q0, hg0, ht0, hv0, hd0, ⟨g1, t1, cs1, f1, p1, q1, hg1, ht1, hv1, hd1, ⟨g2, t2, cs2, f2, p2, q2, hg2, ht2, hv2, hd2, _, _⟩, _⟩, _⟩, _, _⟩ := h
  obtain rfl := Option.some.inj (gTab.symm.trans hg2)
  obtain rfl := Option.some.inj (tTab.symm.trans ht2)
  unfold Tab Lib.TabIs
  have hd : DataW.trod _ Tryd.prog W 0 _ false f2 75 cs2.toList = some (Lib.tabData .u64 Lib.pow10Tab, p2) := hd2
  rw [hv2, ← Lib.cells_of_tab Tryd.underlying75 Tryd.underlying64 cellsU cellsT hd]

theorem door_met (os : Os) (args : Array Value) : laidMetH Tryd.prog Rows.symValidsRow.laid ((World.doorLaid Tryd.prog 4000 os).forCall (fun _ _ => 0) ⟨#[], args, []⟩).memory :=
  laidMetH_of_parts3 (fuel := 8) (laidMet_of_run' 8 (by kernel_rfl) (by kernel_rfl)) (by kernel_rfl) (by kernel_rfl)

section
variable {H : Type} {enc : TypeId × Value → H} {P : Program} {w : World} {base : Nat} {spare : Nat → Bool} {held : Bool}
theorem slice_nil {t e : TypeId} {fuel : Nat} {A : Option Addr} {n c : Nat} {x : DataW H × List MemPlace} (ht : P.underlying t = some (.slice e)) (h : DataW.trod enc P w base spare held fuel t [.slice A n c] = some x) : A = none → c = 0 := by
  rintro rfl
  rcases open_slice ht h with ⟨hv, _⟩ | ⟨a, len, cap, m, k, D, Pl, hv, _⟩
  · simp only [List.cons.injEq, and_true, Value.slice.injEq] at hv
    exact hv.2.2
  · simp at hv
end

set_option maxRecDepth 100000 in
theorem lifted (os : Os) (started : os.Started) (H : Type) (enc : TypeId × Value → H) :
    ReturnsInHanded {} Tryd.checked os 3 .any (fun w args => (Rows.symValidsSpec.pre enc Tryd.prog Tryd.f3 [] false w args ∧ laidMetH Tryd.prog Rows.symValidsRow.laid w) ∧ sizedMet enc Tryd.prog Tryd.f3 (OpenSpec.ofChange Rows.symValidsSpec) false w args) (Rows.symValidsSpec.post enc Tryd.prog Tryd.f3 false true false false) := by
  refine Frm.law_lifted_laid (C := Tryd.checked) own started (by kernel_rfl) Tryd.func3
    (ChangeSpec.witness_shaped (enc := enc) (C := Tryd.checked) (os := os) (X := fun w _ => laidMetH Tryd.prog Rows.symValidsRow.laid w) false (World.doorLaid Tryd.prog 4000 os) #[.slice none 0 0] 8 rfl (World.shaped_of_RefB (by kernel_rfl) (by kernel_rfl)) (by kernel_rfl) (by kernel_rfl) (by kernel_rfl) (door_met os _)) laidOut ?_ rfl rfl Tryd.underlying4 ?_ ?_
  · rw [Tryd.params3]
    intro t ht
    obtain rfl : t = 22 := by simpa using ht
    exact ⟨reads, inTypes⟩
  · intro ds hd
    rw [Tryd.params3] at hd
    match ds, hd with
    | [d], _ => rfl
  · intro W base args ds p hval hA hlt hz hL
    rw [Tryd.params3] at hA hz
    obtain ⟨v0, vs0, d0, ds0, p0, q0, hargs, rfl, rfl, h0, r0⟩ := trodAll_cons hA
    obtain ⟨rfl, rfl, rfl⟩ := trodAll_nil r0
    obtain rfl : args = #[v0] := by cases args; simp_all
    obtain ⟨a0, len0, cap0, rfl⟩ := okWide_slice Tryd.underlying22 (hval 0 22 v0 (by rw [Tryd.params3]; rfl) rfl)
    obtain ⟨fuel, hf⟩ := h0
    have hf2 : DataW.trod enc Tryd.prog W 0 (fun _ => true) true fuel 22 [.slice a0 len0 cap0] = some (d0, p0) := hf
    obtain ⟨A, cap, xs, hv, hl, hm, hby, hok, hs⟩ := open_slR (cells := Cst.cells) (ok := Cst.ok) (sz := 3) Tryd.underlying22 cells3 bytes32 (by decide) (fun _ => rfl)
      (fun _ _ _ h _ => open_cst Tryd.underlying25 (by kernel_rfl) Tryd.underlying3 Tryd.underlying2 Tryd.underlying9 cells3 h) hf2 (reach_each hz (j := 0) rfl rfl)
    rw [hv]
    exact validsW A cap xs W hs hok (of_laid hL) (by omega)

theorem over : Rows.symValidsRow.holds Tryd.pinned (OpenSpec.ofChange Rows.symValidsSpec) :=
  OpenClaim.holds_of_wide 3 Tryd.f3 rfl rfl rfl rfl rfl rfl rfl ⟨rfl, rfl, rfl, rfl, rfl⟩ rfl rfl rfl rfl rfl (by kernel_rfl) Tryd.func3 (by kernel_rfl)
    (of_decide_eq_true (by kernel_rfl)) (by unfold Func.isWrapper; first | (rw [if_pos (by decide +kernel)]; kernel_rfl) | (rw [if_neg (by decide +kernel)]; exact ⟨rfl, rfl⟩))
    (fun os started H enc _ => lifted os started H enc)

/-- The tied card. -/
theorem proved : Rows.SymValidsCardSaid :=
  Claim7.holds_tied_plain_at .later [] [.data, .data, .data] true (true, "b8dc7f1943aec7c85a84f0beb8e56b5d430e97799e53a569b6080e5cedf1e176") true
    over (fun _ h => by cases h) (by kernel_rfl) (fun _ h => by cases h) symValids_row_tie rfl ⟨rfl, rfl⟩ (by kernel_rfl) rfl
    (fun f fn hf hfn => by
      obtain rfl : f = 3 := Option.some.inj ((show Tryd.prog.funcNamed "edict/edictlaw01.SymValids" = some 3 by kernel_rfl).symm.trans hf) |>.symm
      obtain rfl : fn = Tryd.f3 := (Option.some.inj (Tryd.func3.symm.trans hfn)).symm
      exact ⟨by kernel_rfl, fun j t ht => by
        rw [Tryd.params3] at ht
        have h3 : t = 22 := by
          rcases j with _ | j
          · simpa using ht.symm
          · simp at ht
        subst h3
        exact (show Tryd.prog.wantsStandIn 22 = false by kernel_rfl)⟩)
    (by kernel_rfl)
#print axioms proved
end Go.Proofs.YtblonickpmogiaaDoor.symValids
