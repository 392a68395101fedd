/- The law AgendaPlays (every answer of every call is the reference's, whatever the script, for any levels and constants; and at its end all that can be asked) returns true where the arguments are of bulk at most 1048576: the tied card. Conditions: that bound; the three tables of Go's library that the row lists hold at the call's start what the program's text lays; the card ties that. -/
import Derived.Test.YtjgigcnjgblekaaDoorKap03
import Derived.Test.YtjgigcnjgblekaaDoorKap08
import Derived.Test.YtjgigcnjgblekaaDoorKap31
import Derived.SevenTiedAt
import Derived.Test.YtjgigcnjgblekaaDoorCards
import Derived.Test.YtjgigcnjgblekaaDoorRows
import Derived.Test.YtjgigcnjgblekaaDoorTie
namespace Go.Proofs.YtjgigcnjgblekaaDoor.agendaPlays
open Go.RowKit Go.Maps
open Go.ChangeShapes Go.WideShapes Go.ChangeAt Go.Deep

theorem own : ownKnob Tryd.prog.godebug = none := by kernel_rfl
theorem laidOut : laidOutB Tryd.prog = true := by kernel_rfl
theorem reads0 : Tryd.prog.readableRec 22 = true := by kernel_rfl
theorem inTypes0 : 22 < Tryd.prog.types.size := of_decide_eq_true (by kernel_rfl)
theorem reads1 : Tryd.prog.readableRec 26 = true := by kernel_rfl
theorem inTypes1 : 26 < Tryd.prog.types.size := of_decide_eq_true (by kernel_rfl)
theorem reads2 : Tryd.prog.readableRec 43 = true := by kernel_rfl
theorem inTypes2 : 43 < Tryd.prog.types.size := of_decide_eq_true (by kernel_rfl)
theorem of_laid {W : World} (h : laidMetH Tryd.prog Rows.agendaPlaysUptoRow.laid W) : Tab W := of_laidAH (show laidMetH Tryd.prog Rows.agendaOrderlessRow.laid W from h)
theorem door_met (os : Os) (args : Array Value) : laidMetH Tryd.prog Rows.agendaPlaysUptoRow.laid ((World.doorLaid Tryd.prog 4000 os).forCall (fun _ _ => 0) ⟨#[], args, []⟩).memory :=
  laidMetH_of_parts3 (fuel := 8) (laidMet_of_run' 8 (by kernel_rfl) (by kernel_rfl)) (by kernel_rfl) (by kernel_rfl)
theorem reading (os : Os) {H : Type} (enc : TypeId × Value → H) : ∃ places, DataW.whole enc Tryd.prog ((World.doorLaid Tryd.prog 4000 os).forCall (fun _ _ => 0) ⟨#[], #[.slice none 0 0, .slice none 0 0, .slice none 0 0], []⟩).memory Tryd.f5.params.toList Rows.agendaPlaysSpec.vars false (#[.slice none 0 0, .slice none 0 0, .slice none 0 0] : Array Value).toList 8 = some ([.nil, .nil, .nil], [], places) :=
  ⟨[], by kernel_rfl⟩

set_option maxRecDepth 100000 in
theorem lifted (os : Os) (started : os.Started) (H : Type) (enc : TypeId × Value → H) (F : Stop.Interp) :
    ReturnsInHanded {} Tryd.checked os 5 .any ((Rows.OpenSpec.upto Rows.agendaPlaysSpec).preRow enc Tryd.prog Tryd.f5 Rows.agendaPlaysUptoRow.domain false Rows.agendaPlaysUptoRow.laid) (((Rows.OpenSpec.upto Rows.agendaPlaysSpec).at F).post enc Tryd.prog Tryd.f5 false true false false) := by
  obtain ⟨places, hx⟩ := reading os enc
  refine Frm.law_lifted_row (C := Tryd.checked) (s := Rows.OpenSpec.upto Rows.agendaPlaysSpec) (k := Rows.uptoSmall) (c := Rows.agendaPlaysSpec) rfl rfl own started (by kernel_rfl) Tryd.func5
    (witness_row_at (enc := enc) (C := Tryd.checked) false (World.doorLaid Tryd.prog 4000 os) #[.slice none 0 0, .slice none 0 0, .slice none 0 0] rfl (by kernel_rfl) (by kernel_rfl) (by kernel_rfl)
      (OpenSpec.preRow_of_cond 8 hx (by kernel_rfl) (fun k hk => by cases hk; kernel_rfl) (by kernel_rfl) (door_met os _))) laidOut ?_ rfl rfl rfl rfl Tryd.underlying4 ?_ ?_
  · rw [Tryd.params5]
    intro t ht
    have h2 : t = 22 ∨ t = 26 ∨ t = 43 := by simpa using ht
    rcases h2 with rfl | rfl | rfl
    · exact ⟨reads0, inTypes0⟩
    · exact ⟨reads1, inTypes1⟩
    · exact ⟨reads2, inTypes2⟩
  · intro ds hd
    rw [Tryd.params5] at hd
    match ds, hd with
    | [d1, d2, d3], _ => rfl
  · intro W base args ds p hval0 hA hlt hz hk hL
    have hval : ∀ (j : Nat) t v, Tryd.f5.params[j]? = some t → args[j]? = some v → Value.okWide Tryd.prog W .any base t v := hval0
    rw [Tryd.params5] at hA hval
    obtain ⟨v0, vs0, d0, ds0, p0, q0, hargs, rfl, rfl, h0, r0⟩ := trodAll_cons hA
    obtain ⟨v1, vs1, d1, ds1, p1, q1, rfl, rfl, rfl, h1, r1⟩ := trodAll_cons r0
    obtain ⟨v2, vs2, d2, ds2, p2, q2, rfl, rfl, rfl, h2, r2⟩ := trodAll_cons r1
    obtain ⟨rfl, rfl, rfl⟩ := trodAll_nil r2
    obtain rfl : args = #[v0, v1, v2] := by cases args; simp_all
    have k0 := bulk_arg hk (j := 0) rfl
    have k1 := bulk_arg hk (j := 1) rfl
    have k2 := bulk_arg hk (j := 2) rfl
    obtain ⟨f0, hf0⟩ := h0
    obtain ⟨f1, hf1⟩ := h1
    obtain ⟨f2, hf2⟩ := h2
    obtain ⟨a0, n0, c0, rfl⟩ := okWide_slice Tryd.underlying22 (hval 0 22 v0 rfl rfl)
    obtain ⟨a1, n1, c1, rfl⟩ := okWide_slice Tryd.underlying26 (hval 1 26 v1 rfl rfl)
    obtain ⟨a2, n2, c2, rfl⟩ := okWide_slice Tryd.underlying43 (hval 2 43 v2 rfl rfl)
    have g0 : DataW.trod enc Tryd.prog W 0 (fun _ => true) true f0 22 [.slice a0 n0 c0] = some (d0, p0) := hf0
    have g1 : DataW.trod enc Tryd.prog W 0 (fun _ => true) true f1 26 [.slice a1 n1 c1] = some (d1, p1) := hf1
    have g2 : DataW.trod enc Tryd.prog W 0 (fun _ => true) true f2 43 [.slice a2 n2 c2] = some (d2, p2) := hf2
    obtain ⟨xs0, r0, l0⟩ := open_intsP g0
    obtain ⟨xs1, r1, l1, z1⟩ := open_cstsP g1
    obtain ⟨xs2, r2, l2, s2⟩ := open_opsP g2 k2
    exact playsW _ _ _ xs0 xs1 xs2 W r0 r1 r2 (Nat.le_trans l0 k0) (Nat.le_trans l1 k1) (Nat.le_trans l2 k2) (Nat.le_trans s2 k2) z1 (of_laid hL)

set_option maxRecDepth 100000 in
theorem over : Rows.AgendaPlaysUptoSaid :=
  OpenClaim.holds_of_cond 5 Tryd.f5 rfl rfl rfl rfl rfl rfl rfl ⟨rfl, rfl, rfl, rfl, rfl⟩ rfl rfl rfl rfl rfl (by kernel_rfl) Tryd.func5 (by kernel_rfl)
    (of_decide_eq_true (by kernel_rfl)) (by unfold Func.isWrapper; first | (rw [if_pos (by decide +kernel)]; kernel_rfl) | (rw [if_neg (by decide +kernel)]; exact ⟨rfl, rfl⟩))
    (fun os started H enc _ F => by rw [OpenClaim.pre_eq_preRow]; exact lifted os started H enc F)

theorem plainArgs (f : FuncId) (fn : Func) (hf : Tryd.pinned.checked.prog.funcNamed "edict/edictlaw13.AgendaPlays" = some f) (hfn : Tryd.pinned.checked.prog.funcs[f]? = some fn) :
    false = Tryd.pinned.checked.prog.looks [] ∧ ∀ (j : Nat) t, fn.params[j]? = some t → Tryd.pinned.checked.prog.wantsStandIn t = false := by
  obtain rfl : f = 5 := Option.some.inj ((show Tryd.prog.funcNamed "edict/edictlaw13.AgendaPlays" = some 5 by kernel_rfl).symm.trans hf) |>.symm
  obtain rfl : fn = Tryd.f5 := (Option.some.inj (Tryd.func5.symm.trans hfn)).symm
  refine ⟨by kernel_rfl, fun j t ht => ?_⟩
  rw [Tryd.params5] at ht
  rcases j with _ | _ | _ | j
  · obtain rfl : t = 22 := by simpa using ht.symm
    exact (show Tryd.prog.wantsStandIn 22 = false by kernel_rfl)
  · obtain rfl : t = 26 := by simpa using ht.symm
    exact (show Tryd.prog.wantsStandIn 26 = false by kernel_rfl)
  · obtain rfl : t = 43 := by simpa using ht.symm
    exact (show Tryd.prog.wantsStandIn 43 = false by kernel_rfl)
  · simp at ht

/-- The tied card. -/
theorem proved : Rows.AgendaPlaysUptoCardSaid :=
  Claim7.holds_tied_plain_at .later [] _ _ _ _ over (fun _ h => by cases h) (by kernel_rfl) (fun _ h => by cases h) agendaPlaysUpto_row_tie rfl ⟨rfl, rfl⟩ (by kernel_rfl) rfl plainArgs (by kernel_rfl)
#print axioms proved
end Go.Proofs.YtjgigcnjgblekaaDoor.agendaPlays
