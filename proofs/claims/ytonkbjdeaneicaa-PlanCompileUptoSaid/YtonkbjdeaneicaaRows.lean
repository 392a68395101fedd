/-
  No cell of these rows narrows 'for every input' (looked for: loops, veiled, ifaces, maps, wideKeys, modest, calm, conditions, laid).
  DERIVED. THE GIVEN ROWS OF THIS SEAT. 5 by the template 'for every input the law returns true; each argument reads behind the call as it read before'; 0 by the template 'total and deterministic' (their statements: YtonkbjdeaneicaaTotals.lean).
  GIVEN WITH THE SEED: the statements are not yours to turn. If you find one false, say at which input.
  Laid BY PROGRAM, IN A SANDBOX (cutbox-rows.mjs): the forced cells as the released guide's own fill.sh prints them over the translation 162d842d404ccd31… (all of the seat's roots in one cut). By AI agents, Wed Nov 11 2026. No macro, syntax, notation, axiom, sorry.
-/
import Derived.Test.YtonkbjdeaneicaaChecked
import GoSem.Claim
import GoSem.ClaimJoined
import GoSem.ClaimMapViews
import Derived.JoinedTies
import Derived.KernelRfl
namespace Go.Proofs.Ytonkbjdeaneicaa
/- THE CELL 'sum', in the pinned program and in every row, IS THE sha256 OF THE DUMP (.gsa) THAT YtonkbjdeaneicaaProg.lean LOADS. Nothing in Lean hashes anything: it is a label: what it is worth is what the hold of that sum in a sandbox is worth. -/
noncomputable def Try.pinned : Pinned := { name := "ytonkbjdeaneicaa", sum := "162d842d404ccd31c550449fc722704b3afd7bef86fc0bf324b3e06670b09ffa", checked := Try.checked }
namespace Rows
def none {H : Type} : Left H := { results := [], args := [] }

/-- 'edictlaw11.PlanCompile': WHATEVER THE INPUT: true; the input reads as it did. -/
def planCompileSpec : ChangeSpec := { name := "planCompile", fn := fun _ => fun
  | [d] => { results := [.lit (.bool true)], args := [d] }
  | _ => none }
def planCompileRow : OpenClaim := { program := "ytonkbjdeaneicaa", sum := "162d842d404ccd31c550449fc722704b3afd7bef86fc0bf324b3e06670b09ffa", func := "edict/edictlaw11.PlanCompile", spec := "planCompile", unfollowed := true, recurses := true, plainKeys := false, apart := false }
def PlanCompileSaid : Prop := planCompileRow.holds Try.pinned (OpenSpec.ofChange planCompileSpec)

/-- ITS FALSE NEIGHBOUR: 'it returns false'. Refute it at one input. -/
def planCompileWrong : ChangeSpec := { name := "planCompile", fn := fun _ => fun
  | [d] => { results := [.lit (.bool false)], args := [d] }
  | _ => none }
def PlanCompileWrongFalsely : Prop := planCompileRow.holds Try.pinned (OpenSpec.ofChange planCompileWrong)

/-- 'edictlaw11.PlanSays': WHATEVER THE INPUT: true; the input reads as it did. -/
def planSaysSpec : ChangeSpec := { name := "planSays", fn := fun _ => fun
  | [d] => { results := [.lit (.bool true)], args := [d] }
  | _ => none }
def planSaysRow : OpenClaim := { program := "ytonkbjdeaneicaa", sum := "162d842d404ccd31c550449fc722704b3afd7bef86fc0bf324b3e06670b09ffa", func := "edict/edictlaw11.PlanSays", spec := "planSays", unfollowed := true, recurses := true, plainKeys := false, apart := false }
def PlanSaysSaid : Prop := planSaysRow.holds Try.pinned (OpenSpec.ofChange planSaysSpec)

/-- ITS FALSE NEIGHBOUR: 'it returns false'. Refute it at one input. -/
def planSaysWrong : ChangeSpec := { name := "planSays", fn := fun _ => fun
  | [d] => { results := [.lit (.bool false)], args := [d] }
  | _ => none }
def PlanSaysWrongFalsely : Prop := planSaysRow.holds Try.pinned (OpenSpec.ofChange planSaysWrong)

/-- 'edictlaw11.PlanShares': WHATEVER THE INPUT: true; the input reads as it did. -/
def planSharesSpec : ChangeSpec := { name := "planShares", fn := fun _ => fun
  | [d] => { results := [.lit (.bool true)], args := [d] }
  | _ => none }
def planSharesRow : OpenClaim := { program := "ytonkbjdeaneicaa", sum := "162d842d404ccd31c550449fc722704b3afd7bef86fc0bf324b3e06670b09ffa", func := "edict/edictlaw11.PlanShares", spec := "planShares", unfollowed := true, recurses := true, plainKeys := false, apart := false }
def PlanSharesSaid : Prop := planSharesRow.holds Try.pinned (OpenSpec.ofChange planSharesSpec)

/-- ITS FALSE NEIGHBOUR: 'it returns false'. Refute it at one input. -/
def planSharesWrong : ChangeSpec := { name := "planShares", fn := fun _ => fun
  | [d] => { results := [.lit (.bool false)], args := [d] }
  | _ => none }
def PlanSharesWrongFalsely : Prop := planSharesRow.holds Try.pinned (OpenSpec.ofChange planSharesWrong)

/-- 'edictlaw11.PlanCheck': WHATEVER THE INPUT: true; the input reads as it did. -/
def planCheckSpec : ChangeSpec := { name := "planCheck", fn := fun _ => fun
  | [d] => { results := [.lit (.bool true)], args := [d] }
  | _ => none }
def planCheckRow : OpenClaim := { program := "ytonkbjdeaneicaa", sum := "162d842d404ccd31c550449fc722704b3afd7bef86fc0bf324b3e06670b09ffa", func := "edict/edictlaw11.PlanCheck", spec := "planCheck", plainKeys := false, apart := false }
def PlanCheckSaid : Prop := planCheckRow.holds Try.pinned (OpenSpec.ofChange planCheckSpec)

/-- ITS FALSE NEIGHBOUR: 'it returns false'. Refute it at one input. -/
def planCheckWrong : ChangeSpec := { name := "planCheck", fn := fun _ => fun
  | [d] => { results := [.lit (.bool false)], args := [d] }
  | _ => none }
def PlanCheckWrongFalsely : Prop := planCheckRow.holds Try.pinned (OpenSpec.ofChange planCheckWrong)

/-- 'edictlaw11.PlanWays': WHATEVER THE INPUT: true; the input reads as it did. -/
def planWaysSpec : ChangeSpec := { name := "planWays", fn := fun _ => fun
  | [d] => { results := [.lit (.bool true)], args := [d] }
  | _ => none }
def planWaysRow : OpenClaim := { program := "ytonkbjdeaneicaa", sum := "162d842d404ccd31c550449fc722704b3afd7bef86fc0bf324b3e06670b09ffa", func := "edict/edictlaw11.PlanWays", spec := "planWays", unfollowed := true, recurses := true, plainKeys := false, apart := false }
def PlanWaysSaid : Prop := planWaysRow.holds Try.pinned (OpenSpec.ofChange planWaysSpec)

/-- ITS FALSE NEIGHBOUR: 'it returns false'. Refute it at one input. -/
def planWaysWrong : ChangeSpec := { name := "planWays", fn := fun _ => fun
  | [d] => { results := [.lit (.bool false)], args := [d] }
  | _ => none }
def PlanWaysWrongFalsely : Prop := planWaysRow.holds Try.pinned (OpenSpec.ofChange planWaysWrong)

/- THE SECOND FORM. 'bulk': how many values and letters a reading holds, each counted each time it is reached (what is shared counts as often as it is met; a slice's spare places count too). A statement '..UptoSaid' is the law's where the arguments, and the package variables that the reading takes, are together of bulk at most 1048576: NARROWER than '..Said'. Prove '..Said' where nothing that the law and all that it calls make is longer than what came in: it says more and counts as full. Else prove '..UptoSaid'. A law counts once. -/
mutual
def uptoBulk {H : Type} : DataW H → Nat
  | .lit (.string bytes) => bytes.length + 1
  | .lit _ => 1
  | .nil => 1
  | .ptr d => uptoBulk d + 1
  | .slice elems spare => uptoBulkAll elems + uptoBulkAll spare + 1
  | .agg parts => uptoBulkAll parts + 1
  | .iface _ d => uptoBulk d + 1
  | .map entries => uptoBulkEntries entries + 1
  | .held _ => 1
def uptoBulkAll {H : Type} : List (DataW H) → Nat
  | [] => 0
  | d :: r => uptoBulk d + uptoBulkAll r
def uptoBulkEntries {H : Type} : List (Lit × DataW H) → Nat
  | [] => 0
  | x :: r => uptoBulkEntry x + uptoBulkEntries r
def uptoBulkEntry {H : Type} : Lit × DataW H → Nat
  | (.string bytes, d) => bytes.length + uptoBulk d + 1
  | (_, d) => uptoBulk d + 1
 end
def uptoSmall : (H : Type) → List (DataW H) → Bool := fun _ ds => decide (uptoBulkAll ds ≤ 1048576)
def OpenSpec.upto (s : _root_.Go.ChangeSpec) : _root_.Go.OpenSpec := { _root_.Go.OpenSpec.ofChange s with cond := some uptoSmall }

/-- 'edictlaw11.PlanCompile', WHERE WHAT IT READS IS OF BULK AT MOST 1048576: true; the input reads as it did. -/
def planCompileUptoRow : OpenClaim := { program := "ytonkbjdeaneicaa", sum := "162d842d404ccd31c550449fc722704b3afd7bef86fc0bf324b3e06670b09ffa", func := "edict/edictlaw11.PlanCompile", spec := "planCompile", unfollowed := true, recurses := true, plainKeys := false, apart := false, narrowed := true }
def PlanCompileUptoSaid : Prop := planCompileUptoRow.holds Try.pinned (OpenSpec.upto planCompileSpec)

/-- 'edictlaw11.PlanSays', WHERE WHAT IT READS IS OF BULK AT MOST 1048576: true; the input reads as it did. -/
def planSaysUptoRow : OpenClaim := { program := "ytonkbjdeaneicaa", sum := "162d842d404ccd31c550449fc722704b3afd7bef86fc0bf324b3e06670b09ffa", func := "edict/edictlaw11.PlanSays", spec := "planSays", unfollowed := true, recurses := true, plainKeys := false, apart := false, narrowed := true }
def PlanSaysUptoSaid : Prop := planSaysUptoRow.holds Try.pinned (OpenSpec.upto planSaysSpec)

/-- 'edictlaw11.PlanShares', WHERE WHAT IT READS IS OF BULK AT MOST 1048576: true; the input reads as it did. -/
def planSharesUptoRow : OpenClaim := { program := "ytonkbjdeaneicaa", sum := "162d842d404ccd31c550449fc722704b3afd7bef86fc0bf324b3e06670b09ffa", func := "edict/edictlaw11.PlanShares", spec := "planShares", unfollowed := true, recurses := true, plainKeys := false, apart := false, narrowed := true }
def PlanSharesUptoSaid : Prop := planSharesUptoRow.holds Try.pinned (OpenSpec.upto planSharesSpec)

/-- 'edictlaw11.PlanCheck', WHERE WHAT IT READS IS OF BULK AT MOST 1048576: true; the input reads as it did. -/
def planCheckUptoRow : OpenClaim := { program := "ytonkbjdeaneicaa", sum := "162d842d404ccd31c550449fc722704b3afd7bef86fc0bf324b3e06670b09ffa", func := "edict/edictlaw11.PlanCheck", spec := "planCheck", plainKeys := false, apart := false, narrowed := true }
def PlanCheckUptoSaid : Prop := planCheckUptoRow.holds Try.pinned (OpenSpec.upto planCheckSpec)

/-- 'edictlaw11.PlanWays', WHERE WHAT IT READS IS OF BULK AT MOST 1048576: true; the input reads as it did. -/
def planWaysUptoRow : OpenClaim := { program := "ytonkbjdeaneicaa", sum := "162d842d404ccd31c550449fc722704b3afd7bef86fc0bf324b3e06670b09ffa", func := "edict/edictlaw11.PlanWays", spec := "planWays", unfollowed := true, recurses := true, plainKeys := false, apart := false, narrowed := true }
def PlanWaysUptoSaid : Prop := planWaysUptoRow.holds Try.pinned (OpenSpec.upto planWaysSpec)

end Rows
end Go.Proofs.Ytonkbjdeaneicaa
