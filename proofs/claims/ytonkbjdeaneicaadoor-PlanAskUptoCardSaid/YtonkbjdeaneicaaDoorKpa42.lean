/- The law PlanAsk (Chain, Kids and Text of any plan are the reference's; lists handed out share nothing) returns true where the arguments are of bulk at most 1048576: the tied card. Conditions: that bound; the tables and the operators' names that the row lists hold at the call's start what the program's text lays; the card ties that. -/
import Derived.Test.YtonkbjdeaneicaaDoorKpa03
import Derived.Test.YtonkbjdeaneicaaDoorKpa05
import Derived.Test.YtonkbjdeaneicaaDoorKpa24
import Derived.Test.YtonkbjdeaneicaaDoorKpa41
import Derived.SevenTiedAt
import Derived.Test.YtonkbjdeaneicaaDoorCards
import Derived.Test.YtonkbjdeaneicaaDoorRows
import Derived.Test.YtonkbjdeaneicaaDoorTie
namespace Go.Proofs.YtonkbjdeaneicaaDoor.planAsk
open Go.RowKit Go.Maps Pln
open Go.ChangeShapes Go.WideShapes Go.ChangeAt Go.Deep

theorem own : ownKnob Tryd.prog.godebug = none := by kernel_rfl
theorem laidOut : laidOutB Tryd.prog = true := by kernel_rfl
theorem reads0 : Tryd.prog.readableRec 26 = true := by kernel_rfl
theorem inTypes0 : 26 < Tryd.prog.types.size := of_decide_eq_true (by kernel_rfl)
theorem reads1 : Tryd.prog.readableRec 3 = true := by kernel_rfl
theorem inTypes1 : 3 < Tryd.prog.types.size := of_decide_eq_true (by kernel_rfl)
theorem of_laid {W : World} (h : laidMetH Tryd.prog Rows.planAskUptoRow.laid W) : Tab W ∧ Ops W := by
  have h2 : laidMetH Tryd.prog Rows.planAskRow.laid W := h
  rw [MakeChecks.laidMetH_plain _ _ _ (by kernel_rfl)] at h2
  exact of_laid4 h2
theorem door_met (os : Os) (args : Array Value) : laidMetH Tryd.prog Rows.planAskUptoRow.laid ((World.doorLaid Tryd.prog 4000 os).forCall (fun _ _ => 0) ⟨#[], args, []⟩).memory :=
  laidMetH_of_parts3 (fuel := 8) (laidMet_of_run' 8 (by kernel_rfl) (by kernel_rfl)) (by kernel_rfl) (by kernel_rfl)
theorem reading (os : Os) {H : Type} (enc : TypeId × Value → H) : ∃ places, DataW.whole enc Tryd.prog ((World.doorLaid Tryd.prog 4000 os).forCall (fun _ _ => 0) ⟨#[], #[.agg #[.slice none 0 0, .slice none 0 0, .slice none 0 0], .int .i64 0, .int .i64 0], []⟩).memory Tryd.f3.params.toList Rows.planAskSpec.vars false (#[.agg #[.slice none 0 0, .slice none 0 0, .slice none 0 0], .int .i64 0, .int .i64 0] : Array Value).toList 8 = some ([.agg [.nil, .nil, .nil], .lit (.int .i64 0), .lit (.int .i64 0)], [], places) :=
  ⟨[], by kernel_rfl⟩

set_option maxRecDepth 100000 in
theorem lifted (os : Os) (started : os.Started) (H : Type) (enc : TypeId × Value → H) (F : Stop.Interp) :
    ReturnsInHanded {} Tryd.checked os 3 .any ((Rows.OpenSpec.upto Rows.planAskSpec).preRow enc Tryd.prog Tryd.f3 Rows.planAskUptoRow.domain false Rows.planAskUptoRow.laid) (((Rows.OpenSpec.upto Rows.planAskSpec).at F).post enc Tryd.prog Tryd.f3 false true false false) := by
  obtain ⟨places, hx⟩ := reading os enc
  refine Frm.law_lifted_row (C := Tryd.checked) (s := Rows.OpenSpec.upto Rows.planAskSpec) (k := Rows.uptoSmall) (c := Rows.planAskSpec) rfl rfl own started (by kernel_rfl) Tryd.func3
    (witness_row_at (enc := enc) (C := Tryd.checked) false (World.doorLaid Tryd.prog 4000 os) #[.agg #[.slice none 0 0, .slice none 0 0, .slice none 0 0], .int .i64 0, .int .i64 0] rfl (by kernel_rfl) (by kernel_rfl) (by kernel_rfl)
      (OpenSpec.preRow_of_cond 8 hx (by kernel_rfl) (fun k hk => by cases hk; kernel_rfl) (by kernel_rfl) (door_met os _))) laidOut ?_ rfl rfl rfl rfl Tryd.underlying4 ?_ ?_
  · rw [Tryd.params3]
    intro t ht
    have h : t = 26 ∨ t = 3 := by simpa using ht
    rcases h with rfl | rfl
    · exact ⟨reads0, inTypes0⟩
    · exact ⟨reads1, inTypes1⟩
  · intro ds hd
    rw [Tryd.params3] at hd
    match ds, hd with
    | [d1, d2, d3], _ => rfl
  · intro W base args ds p hval0 hA hlt hz hk hL
    have hval : ∀ (j : Nat) t v, Tryd.f3.params[j]? = some t → args[j]? = some v → Value.okWide Tryd.prog W .any base t v := hval0
    rw [Tryd.params3] at hA hval
    obtain ⟨v0, vs0, d0, ds0, p0, q0, hargs, rfl, rfl, h0, r0⟩ := trodAll_cons hA
    obtain ⟨v1, vs1, d1, ds1, p1, q1, rfl, rfl, rfl, h1, r1⟩ := trodAll_cons r0
    obtain ⟨v2, vs2, d2, ds2, p2, q2, rfl, rfl, rfl, h2, r2⟩ := trodAll_cons r1
    obtain ⟨rfl, rfl, rfl⟩ := trodAll_nil r2
    obtain rfl : args = #[v0, v1, v2] := by cases args; simp_all
    have k0 := bulk_arg hk (j := 0) rfl
    obtain ⟨n, rfl, _, _, _⟩ := Go.ChangeShapes.open_int Tryd.underlying3 (hval 1 3 v1 rfl rfl) h1
    obtain ⟨n2, rfl, _, _, _⟩ := Go.ChangeShapes.open_int Tryd.underlying3 (hval 2 3 v2 rfl rfl) h2
    obtain ⟨fuel, hf⟩ := h0
    obtain ⟨cs, rfl, -⟩ := okWide_struct Tryd.underlying26 (hval 0 26 v0 rfl rfl)
    have hf2 : DataW.trod enc Tryd.prog W 0 (fun _ => true) true fuel 26 cs.toList = some (d0, p0) := hf
    obtain ⟨av, nv, ev, al, ns, es, hcs, g1, g2⟩ := open_plan hf2
    obtain rfl : cs = #[av, nv, ev] := by cases cs; simp_all
    exact askPW W av nv ev al ns es g1 ⟨⟨Nat.le_trans g2.al.1 k0, fun s hs => (g2.al.2 s hs).mono k0⟩, ⟨Nat.le_trans g2.ns.1 k0, fun s hs => (g2.ns.2 s hs).mono k0⟩, Nat.le_trans g2.en k0⟩ n n2 (of_laid hL).1 (of_laid hL).2

set_option maxRecDepth 100000 in
theorem over : Rows.PlanAskUptoSaid :=
  OpenClaim.holds_of_cond 3 Tryd.f3 rfl rfl rfl rfl rfl rfl rfl ⟨rfl, rfl, rfl, rfl, rfl⟩ rfl rfl rfl rfl rfl (by kernel_rfl) Tryd.func3 (by kernel_rfl)
    (of_decide_eq_true (by kernel_rfl)) (by unfold Func.isWrapper; first | (rw [if_pos (by decide +kernel)]; kernel_rfl) | (rw [if_neg (by decide +kernel)]; exact ⟨rfl, rfl⟩))
    (fun os started H enc _ F => by rw [OpenClaim.pre_eq_preRow]; exact lifted os started H enc F)

theorem plainArgs (f : FuncId) (fn : Func) (hf : Tryd.pinned.checked.prog.funcNamed "edict/edictlaw11.PlanAsk" = some f) (hfn : Tryd.pinned.checked.prog.funcs[f]? = some fn) :
    false = Tryd.pinned.checked.prog.looks [] ∧ ∀ (j : Nat) t, fn.params[j]? = some t → Tryd.pinned.checked.prog.wantsStandIn t = false := by
  obtain rfl : f = 3 := Option.some.inj ((show Tryd.prog.funcNamed "edict/edictlaw11.PlanAsk" = some 3 by kernel_rfl).symm.trans hf) |>.symm
  obtain rfl : fn = Tryd.f3 := (Option.some.inj (Tryd.func3.symm.trans hfn)).symm
  refine ⟨by kernel_rfl, fun j t ht => ?_⟩
  rw [Tryd.params3] at ht
  rcases j with _ | _ | _ | j
  · obtain rfl : t = 26 := by simpa using ht.symm
    exact (show Tryd.prog.wantsStandIn 26 = false by kernel_rfl)
  · obtain rfl : t = 3 := by simpa using ht.symm
    exact (show Tryd.prog.wantsStandIn 3 = false by kernel_rfl)
  · obtain rfl : t = 3 := by simpa using ht.symm
    exact (show Tryd.prog.wantsStandIn 3 = false by kernel_rfl)
  · simp at ht

/-- The tied card. -/
theorem proved : Rows.PlanAskUptoCardSaid :=
  Claim7.holds_tied_plain_at .later [] _ _ _ _ over (fun _ h => by cases h) (by kernel_rfl) (fun _ h => by cases h) planAskUpto_row_tie rfl ⟨rfl, rfl⟩ (by kernel_rfl) rfl plainArgs (by kernel_rfl)
#print axioms proved
end Go.Proofs.YtonkbjdeaneicaaDoor.planAsk
