/- The law AgendaTurns (acts of three rules over four constants come, go and fire: behind every step what may fire, the conflict set and what has fired are those of a plain table of the 21 acts; nothing fires twice) returns true for every input: the tied card. Condition: the three tables of Go's library that the row lists hold at the call's start what the program's text lays; the card ties that. -/
import Derived.Test.YtjgigcnjgblekaaDoorKat02
import Derived.Test.YtjgigcnjgblekaaDoorKat22
import Derived.Test.YtjgigcnjgblekaaDoorKat28
import Derived.Laws.IdiomArrays
import Derived.SevenTiedAt
import Derived.Test.YtjgigcnjgblekaaDoorCards
import Derived.Test.YtjgigcnjgblekaaDoorRows
import Derived.Test.YtjgigcnjgblekaaDoorTie
namespace Go.Proofs.YtjgigcnjgblekaaDoor.agendaTurns
open Go.ChangeShapes Go.WideShapes Go.ChangeAt Go.RowKit Go.Deep

theorem own : ownKnob Tryd.prog.godebug = none := by kernel_rfl
theorem laidOut : laidOutB Tryd.prog = true := by kernel_rfl
theorem reads0 : Tryd.prog.readableRec 42 = true := by kernel_rfl
theorem reads1 : Tryd.prog.readableRec 43 = true := by kernel_rfl
theorem okWide_arrT {P : Program} {w : World} {r : Reach} {base : Nat} {t e : TypeId} {n : Nat} {v : Value} (ht : P.underlying t = some (.array n e)) (h : Value.okWide P w r base t v) : ∃ cs, v = .agg cs ∧ cs.size = P.cellsOf t := by
  simp only [Value.okWide, ht] at h
  obtain ⟨cs, h1, h2, _⟩ := h
  exact ⟨cs, h1, h2⟩
theorem inTypes0 : 42 < Tryd.prog.types.size := of_decide_eq_true (by kernel_rfl)
theorem inTypes1 : 43 < Tryd.prog.types.size := of_decide_eq_true (by kernel_rfl)

set_option maxRecDepth 100000 in
theorem lifted (os : Os) (started : os.Started) (H : Type) (enc : TypeId × Value → H) :
    ReturnsInHanded {} Tryd.checked os 4 .any (fun w args => (Rows.agendaTurnsSpec.pre enc Tryd.prog Tryd.f4 [] false w args ∧ laidMetH Tryd.prog Rows.agendaTurnsRow.laid w) ∧ sizedMet enc Tryd.prog Tryd.f4 (OpenSpec.ofChange Rows.agendaTurnsSpec) false w args) (Rows.agendaTurnsSpec.post enc Tryd.prog Tryd.f4 false true false false) := by
  refine Frm.law_lifted_laid (C := Tryd.checked) own started (by kernel_rfl) Tryd.func4
    (ChangeSpec.witness_shaped (enc := enc) (C := Tryd.checked) (os := os) (X := fun w _ => laidMetH Tryd.prog Rows.agendaTurnsRow.laid w) false (World.doorLaid Tryd.prog 4000 os) #[.agg #[.int .i64 0, .int .i64 0, .int .i64 0], .slice none 0 0] 8 rfl (World.shaped_of_RefB (by kernel_rfl) (by kernel_rfl)) (by kernel_rfl) (by kernel_rfl) (by kernel_rfl) (door_metA os _)) laidOut ?_ rfl rfl Tryd.underlying4 ?_ ?_
  · rw [Tryd.params4]
    intro t ht
    have h : t = 42 ∨ t = 43 := by
      simpa using ht
    rcases h with rfl | rfl
    · exact ⟨reads0, inTypes0⟩
    · exact ⟨reads1, inTypes1⟩
  · intro ds hd
    rw [Tryd.params4] at hd
    match ds, hd with
    | [d1, d2], _ => rfl
  · intro W base args ds p hval0 hA hlt hz hL
    have hval : ∀ (j : Nat) t v, Tryd.f4.params[j]? = some t → args[j]? = some v → Value.okWide Tryd.prog W .any base t v := hval0
    rw [Tryd.params4] at hA hz hval
    obtain ⟨v0, vs0, d0, ds0, p0, q0, hargs, rfl, rfl, h0, r0⟩ := trodAll_cons hA
    obtain ⟨v1, vs1, d1, ds1, p1, q1, rfl, rfl, rfl, h1, r1⟩ := trodAll_cons r0
    obtain ⟨rfl, rfl, rfl⟩ := trodAll_nil r1
    obtain rfl : args = #[v0, v1] := by cases args; simp_all
    obtain ⟨f0, hf0⟩ := h0
    obtain ⟨f1, hf1⟩ := h1
    obtain ⟨cs, rfl, hcs⟩ := okWide_arrT Tryd.underlying42 (hval 0 42 v0 rfl rfl)
    rw [c3R] at hcs
    obtain ⟨x0, x1, x2, hc3⟩ := list_threeA (show cs.toList.length = 3 by simpa using hcs)
    obtain rfl : cs = #[x0, x1, x2] := by rw [← Array.toList_inj, hc3]
    obtain ⟨a1, n1, c1, rfl⟩ := okWide_slice Tryd.underlying43 (hval 1 43 v1 rfl rfl)
    have g0 : DataW.trod enc Tryd.prog W 0 (fun _ => true) true f0 42 [x0, x1, x2] = some (d0, p0) := hf0
    have g1 : DataW.trod enc Tryd.prog W 0 (fun _ => true) true f1 43 [.slice a1 n1 c1] = some (d1, p1) := hf1
    have l1 := len_reach Tryd.underlying43 bOpR g1 (reach_each hz (j := 1) rfl rfl)
    obtain ⟨y0, y1, y2, n, -, k0, k1, k2⟩ := trod_array3 Tryd.underlying42 cIntR g0
    obtain ⟨i0, e0, ok0⟩ := open_intE k0
    obtain ⟨i1, e1, ok1⟩ := open_intE k1
    obtain ⟨i2, e2, ok2⟩ := open_intE k2
    simp only [List.cons.injEq, and_true] at e0 e1 e2
    subst e0 e1 e2
    obtain ⟨xs1, r1⟩ := open_opsE g1
    have e1 : n1 = xs1.length := by obtain ⟨A, c, e⟩ := r1.form; simp only [Value.slice.injEq] at e; exact e.2.1
    exact turnsW i0 i1 i2 _ xs1 W ok0 ok1 ok2 r1 (by omega) (of_laidAH hL)

theorem over : Rows.agendaTurnsRow.holds Tryd.pinned (OpenSpec.ofChange Rows.agendaTurnsSpec) :=
  OpenClaim.holds_of_wide 4 Tryd.f4 rfl rfl rfl rfl rfl rfl rfl ⟨rfl, rfl, rfl, rfl, rfl⟩ rfl rfl rfl rfl rfl (by kernel_rfl) Tryd.func4 (by kernel_rfl)
    (of_decide_eq_true (by kernel_rfl)) (by unfold Func.isWrapper; first | (rw [if_pos (by decide +kernel)]; kernel_rfl) | (rw [if_neg (by decide +kernel)]; exact ⟨rfl, rfl⟩))
    (fun os started H enc _ => lifted os started H enc)

theorem plainArgs (f : FuncId) (fn : Func) (hf : Tryd.pinned.checked.prog.funcNamed "edict/edictlaw13.AgendaTurns" = some f) (hfn : Tryd.pinned.checked.prog.funcs[f]? = some fn) :
    false = Tryd.pinned.checked.prog.looks [] ∧ ∀ (j : Nat) t, fn.params[j]? = some t → Tryd.pinned.checked.prog.wantsStandIn t = false := by
  obtain rfl : f = 4 := Option.some.inj ((show Tryd.prog.funcNamed "edict/edictlaw13.AgendaTurns" = some 4 by kernel_rfl).symm.trans hf) |>.symm
  obtain rfl : fn = Tryd.f4 := (Option.some.inj (Tryd.func4.symm.trans hfn)).symm
  refine ⟨by kernel_rfl, fun j t ht => ?_⟩
  rw [Tryd.params4] at ht
  rcases j with _ | _ | j
  · obtain rfl : t = 42 := by simpa using ht.symm
    exact (show Tryd.prog.wantsStandIn 42 = false by kernel_rfl)
  · obtain rfl : t = 43 := by simpa using ht.symm
    exact (show Tryd.prog.wantsStandIn 43 = false by kernel_rfl)
  · simp at ht

/-- The tied card. -/
theorem proved : Rows.AgendaTurnsCardSaid :=
  Claim7.holds_tied_plain_at .later [] _ _ _ _ over (fun _ h => by cases h) (by kernel_rfl) (fun _ h => by cases h) agendaTurns_row_tie rfl ⟨rfl, rfl⟩ (by kernel_rfl) rfl plainArgs (by kernel_rfl)
#print axioms proved
end Go.Proofs.YtjgigcnjgblekaaDoor.agendaTurns
