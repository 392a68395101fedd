/-
  No cell of these rows narrows 'for every input' (looked for: loops, veiled, ifaces, maps, wideKeys, modest, calm, conditions, laid).
  DERIVED. THE GIVEN ROWS OF THIS SEAT. 12 by the template 'for every input the law returns true; each argument reads behind the call as it read before'; 0 by the template 'total and deterministic' (their statements: YtblonickpmogiaaTotals.lean).
  GIVEN WITH THE SEED: the statements are not yours to turn. If you find one false, say at which input.
  Laid BY PROGRAM, IN A SANDBOX (cutbox-rows.mjs): the forced cells as the released guide's own fill.sh prints them over the translation 3393228251453ae7… (all of the seat's roots in one cut). By AI agents, Wed Nov 11 2026. No macro, syntax, notation, axiom, sorry.
-/
import Derived.Test.YtblonickpmogiaaChecked
import GoSem.Claim
import GoSem.ClaimJoined
import GoSem.ClaimMapViews
import Derived.JoinedTies
import Derived.KernelRfl
namespace Go.Proofs.Ytblonickpmogiaa
/- THE CELL 'sum', in the pinned program and in every row, IS THE sha256 OF THE DUMP (.gsa) THAT YtblonickpmogiaaProg.lean LOADS. Nothing in Lean hashes anything: it is a label: what it is worth is what the hold of that sum in a sandbox is worth. -/
noncomputable def Try.pinned : Pinned := { name := "ytblonickpmogiaa", sum := "3393228251453ae7de2294d4b8a4b0751e29d99bca4e884aebcea19efc37881c", checked := Try.checked }
namespace Rows
def none {H : Type} : Left H := { results := [], args := [] }

/-- 'edictlaw13.AgendaIndexes': WHATEVER THE INPUT: true; the input reads as it did. -/
def agendaIndexesSpec : ChangeSpec := { name := "agendaIndexes", fn := fun _ => fun
  | [d1, d2] => { results := [.lit (.bool true)], args := [d1, d2] }
  | _ => none }
def agendaIndexesRow : OpenClaim := { program := "ytblonickpmogiaa", sum := "3393228251453ae7de2294d4b8a4b0751e29d99bca4e884aebcea19efc37881c", func := "edict/edictlaw13.AgendaIndexes", spec := "agendaIndexes", plainKeys := false, apart := false }
def AgendaIndexesSaid : Prop := agendaIndexesRow.holds Try.pinned (OpenSpec.ofChange agendaIndexesSpec)

/-- ITS FALSE NEIGHBOUR: 'it returns false'. Refute it at one input. -/
def agendaIndexesWrong : ChangeSpec := { name := "agendaIndexes", fn := fun _ => fun
  | [d1, d2] => { results := [.lit (.bool false)], args := [d1, d2] }
  | _ => none }
def AgendaIndexesWrongFalsely : Prop := agendaIndexesRow.holds Try.pinned (OpenSpec.ofChange agendaIndexesWrong)

/-- 'edictlaw13.AgendaModulo': WHATEVER THE INPUT: true; the input reads as it did. -/
def agendaModuloSpec : ChangeSpec := { name := "agendaModulo", fn := fun _ => fun
  | [d1, d2] => { results := [.lit (.bool true)], args := [d1, d2] }
  | _ => none }
def agendaModuloRow : OpenClaim := { program := "ytblonickpmogiaa", sum := "3393228251453ae7de2294d4b8a4b0751e29d99bca4e884aebcea19efc37881c", func := "edict/edictlaw13.AgendaModulo", spec := "agendaModulo", plainKeys := false, apart := false }
def AgendaModuloSaid : Prop := agendaModuloRow.holds Try.pinned (OpenSpec.ofChange agendaModuloSpec)

/-- ITS FALSE NEIGHBOUR: 'it returns false'. Refute it at one input. -/
def agendaModuloWrong : ChangeSpec := { name := "agendaModulo", fn := fun _ => fun
  | [d1, d2] => { results := [.lit (.bool false)], args := [d1, d2] }
  | _ => none }
def AgendaModuloWrongFalsely : Prop := agendaModuloRow.holds Try.pinned (OpenSpec.ofChange agendaModuloWrong)

/-- 'edictlaw01.SymCompares': WHATEVER THE INPUT: true; the input reads as it did. -/
def symComparesSpec : ChangeSpec := { name := "symCompares", fn := fun _ => fun
  | [d] => { results := [.lit (.bool true)], args := [d] }
  | _ => none }
def symComparesRow : OpenClaim := { program := "ytblonickpmogiaa", sum := "3393228251453ae7de2294d4b8a4b0751e29d99bca4e884aebcea19efc37881c", func := "edict/edictlaw01.SymCompares", spec := "symCompares", plainKeys := false, apart := false }
def SymComparesSaid : Prop := symComparesRow.holds Try.pinned (OpenSpec.ofChange symComparesSpec)

/-- ITS FALSE NEIGHBOUR: 'it returns false'. Refute it at one input. -/
def symComparesWrong : ChangeSpec := { name := "symCompares", fn := fun _ => fun
  | [d] => { results := [.lit (.bool false)], args := [d] }
  | _ => none }
def SymComparesWrongFalsely : Prop := symComparesRow.holds Try.pinned (OpenSpec.ofChange symComparesWrong)

/-- 'edictlaw01.SymOrder': WHATEVER THE INPUT: true; the input reads as it did. -/
def symOrderSpec : ChangeSpec := { name := "symOrder", fn := fun _ => fun
  | [d1, d2, d3] => { results := [.lit (.bool true)], args := [d1, d2, d3] }
  | _ => none }
def symOrderRow : OpenClaim := { program := "ytblonickpmogiaa", sum := "3393228251453ae7de2294d4b8a4b0751e29d99bca4e884aebcea19efc37881c", func := "edict/edictlaw01.SymOrder", spec := "symOrder", plainKeys := false, apart := false }
def SymOrderSaid : Prop := symOrderRow.holds Try.pinned (OpenSpec.ofChange symOrderSpec)

/-- ITS FALSE NEIGHBOUR: 'it returns false'. Refute it at one input. -/
def symOrderWrong : ChangeSpec := { name := "symOrder", fn := fun _ => fun
  | [d1, d2, d3] => { results := [.lit (.bool false)], args := [d1, d2, d3] }
  | _ => none }
def SymOrderWrongFalsely : Prop := symOrderRow.holds Try.pinned (OpenSpec.ofChange symOrderWrong)

/-- 'edictlaw01.SymRenamed': WHATEVER THE INPUT: true; the input reads as it did. -/
def symRenamedSpec : ChangeSpec := { name := "symRenamed", fn := fun _ => fun
  | [d] => { results := [.lit (.bool true)], args := [d] }
  | _ => none }
def symRenamedRow : OpenClaim := { program := "ytblonickpmogiaa", sum := "3393228251453ae7de2294d4b8a4b0751e29d99bca4e884aebcea19efc37881c", func := "edict/edictlaw01.SymRenamed", spec := "symRenamed", plainKeys := false, apart := false }
def SymRenamedSaid : Prop := symRenamedRow.holds Try.pinned (OpenSpec.ofChange symRenamedSpec)

/-- ITS FALSE NEIGHBOUR: 'it returns false'. Refute it at one input. -/
def symRenamedWrong : ChangeSpec := { name := "symRenamed", fn := fun _ => fun
  | [d] => { results := [.lit (.bool false)], args := [d] }
  | _ => none }
def SymRenamedWrongFalsely : Prop := symRenamedRow.holds Try.pinned (OpenSpec.ofChange symRenamedWrong)

/-- 'edictlaw01.SymIds': WHATEVER THE INPUT: true; the input reads as it did. -/
def symIdsSpec : ChangeSpec := { name := "symIds", fn := fun _ => fun
  | [d1, d2] => { results := [.lit (.bool true)], args := [d1, d2] }
  | _ => none }
def symIdsRow : OpenClaim := { program := "ytblonickpmogiaa", sum := "3393228251453ae7de2294d4b8a4b0751e29d99bca4e884aebcea19efc37881c", func := "edict/edictlaw01.SymIds", spec := "symIds", unfollowed := true, recurses := true, plainKeys := false, apart := false }
def SymIdsSaid : Prop := symIdsRow.holds Try.pinned (OpenSpec.ofChange symIdsSpec)

/-- ITS FALSE NEIGHBOUR: 'it returns false'. Refute it at one input. -/
def symIdsWrong : ChangeSpec := { name := "symIds", fn := fun _ => fun
  | [d1, d2] => { results := [.lit (.bool false)], args := [d1, d2] }
  | _ => none }
def SymIdsWrongFalsely : Prop := symIdsRow.holds Try.pinned (OpenSpec.ofChange symIdsWrong)

/-- 'edictlaw01.SymSorts': WHATEVER THE INPUT: true; the input reads as it did. -/
def symSortsSpec : ChangeSpec := { name := "symSorts", fn := fun _ => fun
  | [d] => { results := [.lit (.bool true)], args := [d] }
  | _ => none }
def symSortsRow : OpenClaim := { program := "ytblonickpmogiaa", sum := "3393228251453ae7de2294d4b8a4b0751e29d99bca4e884aebcea19efc37881c", func := "edict/edictlaw01.SymSorts", spec := "symSorts", unfollowed := true, recurses := true, plainKeys := false, apart := false }
def SymSortsSaid : Prop := symSortsRow.holds Try.pinned (OpenSpec.ofChange symSortsSpec)

/-- ITS FALSE NEIGHBOUR: 'it returns false'. Refute it at one input. -/
def symSortsWrong : ChangeSpec := { name := "symSorts", fn := fun _ => fun
  | [d] => { results := [.lit (.bool false)], args := [d] }
  | _ => none }
def SymSortsWrongFalsely : Prop := symSortsRow.holds Try.pinned (OpenSpec.ofChange symSortsWrong)

/-- 'edictlaw01.SymTally': WHATEVER THE INPUT: true; the input reads as it did. -/
def symTallySpec : ChangeSpec := { name := "symTally", fn := fun _ => fun
  | [d] => { results := [.lit (.bool true)], args := [d] }
  | _ => none }
def symTallyRow : OpenClaim := { program := "ytblonickpmogiaa", sum := "3393228251453ae7de2294d4b8a4b0751e29d99bca4e884aebcea19efc37881c", func := "edict/edictlaw01.SymTally", spec := "symTally", unfollowed := true, recurses := true, plainKeys := false, apart := false }
def SymTallySaid : Prop := symTallyRow.holds Try.pinned (OpenSpec.ofChange symTallySpec)

/-- ITS FALSE NEIGHBOUR: 'it returns false'. Refute it at one input. -/
def symTallyWrong : ChangeSpec := { name := "symTally", fn := fun _ => fun
  | [d] => { results := [.lit (.bool false)], args := [d] }
  | _ => none }
def SymTallyWrongFalsely : Prop := symTallyRow.holds Try.pinned (OpenSpec.ofChange symTallyWrong)

/-- 'edictlaw01.SymRanks': WHATEVER THE INPUT: true; the input reads as it did. -/
def symRanksSpec : ChangeSpec := { name := "symRanks", fn := fun _ => fun
  | [d] => { results := [.lit (.bool true)], args := [d] }
  | _ => none }
def symRanksRow : OpenClaim := { program := "ytblonickpmogiaa", sum := "3393228251453ae7de2294d4b8a4b0751e29d99bca4e884aebcea19efc37881c", func := "edict/edictlaw01.SymRanks", spec := "symRanks", unfollowed := true, recurses := true, plainKeys := false, apart := false }
def SymRanksSaid : Prop := symRanksRow.holds Try.pinned (OpenSpec.ofChange symRanksSpec)

/-- ITS FALSE NEIGHBOUR: 'it returns false'. Refute it at one input. -/
def symRanksWrong : ChangeSpec := { name := "symRanks", fn := fun _ => fun
  | [d] => { results := [.lit (.bool false)], args := [d] }
  | _ => none }
def SymRanksWrongFalsely : Prop := symRanksRow.holds Try.pinned (OpenSpec.ofChange symRanksWrong)

/-- 'edictlaw01.SymApart': WHATEVER THE INPUT: true; the input reads as it did. -/
def symApartSpec : ChangeSpec := { name := "symApart", fn := fun _ => fun
  | [d1, d2] => { results := [.lit (.bool true)], args := [d1, d2] }
  | _ => none }
def symApartRow : OpenClaim := { program := "ytblonickpmogiaa", sum := "3393228251453ae7de2294d4b8a4b0751e29d99bca4e884aebcea19efc37881c", func := "edict/edictlaw01.SymApart", spec := "symApart", unfollowed := true, recurses := true, plainKeys := false, apart := false }
def SymApartSaid : Prop := symApartRow.holds Try.pinned (OpenSpec.ofChange symApartSpec)

/-- ITS FALSE NEIGHBOUR: 'it returns false'. Refute it at one input. -/
def symApartWrong : ChangeSpec := { name := "symApart", fn := fun _ => fun
  | [d1, d2] => { results := [.lit (.bool false)], args := [d1, d2] }
  | _ => none }
def SymApartWrongFalsely : Prop := symApartRow.holds Try.pinned (OpenSpec.ofChange symApartWrong)

/-- 'edictlaw01.SymTables': WHATEVER THE INPUT: true; the input reads as it did. -/
def symTablesSpec : ChangeSpec := { name := "symTables", fn := fun _ => fun
  | [d] => { results := [.lit (.bool true)], args := [d] }
  | _ => none }
def symTablesRow : OpenClaim := { program := "ytblonickpmogiaa", sum := "3393228251453ae7de2294d4b8a4b0751e29d99bca4e884aebcea19efc37881c", func := "edict/edictlaw01.SymTables", spec := "symTables", unfollowed := true, recurses := true, plainKeys := false, apart := false }
def SymTablesSaid : Prop := symTablesRow.holds Try.pinned (OpenSpec.ofChange symTablesSpec)

/-- ITS FALSE NEIGHBOUR: 'it returns false'. Refute it at one input. -/
def symTablesWrong : ChangeSpec := { name := "symTables", fn := fun _ => fun
  | [d] => { results := [.lit (.bool false)], args := [d] }
  | _ => none }
def SymTablesWrongFalsely : Prop := symTablesRow.holds Try.pinned (OpenSpec.ofChange symTablesWrong)

/-- 'edictlaw01.SymFull': WHATEVER THE INPUT: true; the input reads as it did. -/
def symFullSpec : ChangeSpec := { name := "symFull", fn := fun _ => fun
  | [] => { results := [.lit (.bool true)], args := [] }
  | _ => none }
def symFullRow : OpenClaim := { program := "ytblonickpmogiaa", sum := "3393228251453ae7de2294d4b8a4b0751e29d99bca4e884aebcea19efc37881c", func := "edict/edictlaw01.SymFull", spec := "symFull", unfollowed := true, recurses := true, plainKeys := false, apart := false }
def SymFullSaid : Prop := symFullRow.holds Try.pinned (OpenSpec.ofChange symFullSpec)

/-- ITS FALSE NEIGHBOUR: 'it returns false'. Refute it at one input. -/
def symFullWrong : ChangeSpec := { name := "symFull", fn := fun _ => fun
  | [] => { results := [.lit (.bool false)], args := [] }
  | _ => none }
def SymFullWrongFalsely : Prop := symFullRow.holds Try.pinned (OpenSpec.ofChange symFullWrong)

/- THE SECOND FORM. 'bulk': how many values and letters a reading holds, each counted each time it is reached (what is shared counts as often as it is met; a slice's spare places count too). A statement '..UptoSaid' is the law's where the arguments, and the package variables that the reading takes, are together of bulk at most 1048576: NARROWER than '..Said'. Prove '..Said' where nothing that the law and all that it calls make is longer than what came in: it says more and counts as full. Else prove '..UptoSaid'. A law counts once. -/
mutual
def uptoBulk {H : Type} : DataW H → Nat
  | .lit (.string bytes) => bytes.length + 1
  | .lit _ => 1
  | .nil => 1
  | .ptr d => uptoBulk d + 1
  | .slice elems spare => uptoBulkAll elems + uptoBulkAll spare + 1
  | .agg parts => uptoBulkAll parts + 1
  | .iface _ d => uptoBulk d + 1
  | .map entries => uptoBulkEntries entries + 1
  | .held _ => 1
def uptoBulkAll {H : Type} : List (DataW H) → Nat
  | [] => 0
  | d :: r => uptoBulk d + uptoBulkAll r
def uptoBulkEntries {H : Type} : List (Lit × DataW H) → Nat
  | [] => 0
  | x :: r => uptoBulkEntry x + uptoBulkEntries r
def uptoBulkEntry {H : Type} : Lit × DataW H → Nat
  | (.string bytes, d) => bytes.length + uptoBulk d + 1
  | (_, d) => uptoBulk d + 1
 end
def uptoSmall : (H : Type) → List (DataW H) → Bool := fun _ ds => decide (uptoBulkAll ds ≤ 1048576)
def OpenSpec.upto (s : _root_.Go.ChangeSpec) : _root_.Go.OpenSpec := { _root_.Go.OpenSpec.ofChange s with cond := some uptoSmall }

/-- 'edictlaw13.AgendaIndexes', WHERE WHAT IT READS IS OF BULK AT MOST 1048576: true; the input reads as it did. -/
def agendaIndexesUptoRow : OpenClaim := { program := "ytblonickpmogiaa", sum := "3393228251453ae7de2294d4b8a4b0751e29d99bca4e884aebcea19efc37881c", func := "edict/edictlaw13.AgendaIndexes", spec := "agendaIndexes", plainKeys := false, apart := false, narrowed := true }
def AgendaIndexesUptoSaid : Prop := agendaIndexesUptoRow.holds Try.pinned (OpenSpec.upto agendaIndexesSpec)

/-- 'edictlaw13.AgendaModulo', WHERE WHAT IT READS IS OF BULK AT MOST 1048576: true; the input reads as it did. -/
def agendaModuloUptoRow : OpenClaim := { program := "ytblonickpmogiaa", sum := "3393228251453ae7de2294d4b8a4b0751e29d99bca4e884aebcea19efc37881c", func := "edict/edictlaw13.AgendaModulo", spec := "agendaModulo", plainKeys := false, apart := false, narrowed := true }
def AgendaModuloUptoSaid : Prop := agendaModuloUptoRow.holds Try.pinned (OpenSpec.upto agendaModuloSpec)

/-- 'edictlaw01.SymCompares', WHERE WHAT IT READS IS OF BULK AT MOST 1048576: true; the input reads as it did. -/
def symComparesUptoRow : OpenClaim := { program := "ytblonickpmogiaa", sum := "3393228251453ae7de2294d4b8a4b0751e29d99bca4e884aebcea19efc37881c", func := "edict/edictlaw01.SymCompares", spec := "symCompares", plainKeys := false, apart := false, narrowed := true }
def SymComparesUptoSaid : Prop := symComparesUptoRow.holds Try.pinned (OpenSpec.upto symComparesSpec)

/-- 'edictlaw01.SymOrder', WHERE WHAT IT READS IS OF BULK AT MOST 1048576: true; the input reads as it did. -/
def symOrderUptoRow : OpenClaim := { program := "ytblonickpmogiaa", sum := "3393228251453ae7de2294d4b8a4b0751e29d99bca4e884aebcea19efc37881c", func := "edict/edictlaw01.SymOrder", spec := "symOrder", plainKeys := false, apart := false, narrowed := true }
def SymOrderUptoSaid : Prop := symOrderUptoRow.holds Try.pinned (OpenSpec.upto symOrderSpec)

/-- 'edictlaw01.SymRenamed', WHERE WHAT IT READS IS OF BULK AT MOST 1048576: true; the input reads as it did. -/
def symRenamedUptoRow : OpenClaim := { program := "ytblonickpmogiaa", sum := "3393228251453ae7de2294d4b8a4b0751e29d99bca4e884aebcea19efc37881c", func := "edict/edictlaw01.SymRenamed", spec := "symRenamed", plainKeys := false, apart := false, narrowed := true }
def SymRenamedUptoSaid : Prop := symRenamedUptoRow.holds Try.pinned (OpenSpec.upto symRenamedSpec)

/-- 'edictlaw01.SymIds', WHERE WHAT IT READS IS OF BULK AT MOST 1048576: true; the input reads as it did. -/
def symIdsUptoRow : OpenClaim := { program := "ytblonickpmogiaa", sum := "3393228251453ae7de2294d4b8a4b0751e29d99bca4e884aebcea19efc37881c", func := "edict/edictlaw01.SymIds", spec := "symIds", unfollowed := true, recurses := true, plainKeys := false, apart := false, narrowed := true }
def SymIdsUptoSaid : Prop := symIdsUptoRow.holds Try.pinned (OpenSpec.upto symIdsSpec)

/-- 'edictlaw01.SymSorts', WHERE WHAT IT READS IS OF BULK AT MOST 1048576: true; the input reads as it did. -/
def symSortsUptoRow : OpenClaim := { program := "ytblonickpmogiaa", sum := "3393228251453ae7de2294d4b8a4b0751e29d99bca4e884aebcea19efc37881c", func := "edict/edictlaw01.SymSorts", spec := "symSorts", unfollowed := true, recurses := true, plainKeys := false, apart := false, narrowed := true }
def SymSortsUptoSaid : Prop := symSortsUptoRow.holds Try.pinned (OpenSpec.upto symSortsSpec)

/-- 'edictlaw01.SymTally', WHERE WHAT IT READS IS OF BULK AT MOST 1048576: true; the input reads as it did. -/
def symTallyUptoRow : OpenClaim := { program := "ytblonickpmogiaa", sum := "3393228251453ae7de2294d4b8a4b0751e29d99bca4e884aebcea19efc37881c", func := "edict/edictlaw01.SymTally", spec := "symTally", unfollowed := true, recurses := true, plainKeys := false, apart := false, narrowed := true }
def SymTallyUptoSaid : Prop := symTallyUptoRow.holds Try.pinned (OpenSpec.upto symTallySpec)

/-- 'edictlaw01.SymRanks', WHERE WHAT IT READS IS OF BULK AT MOST 1048576: true; the input reads as it did. -/
def symRanksUptoRow : OpenClaim := { program := "ytblonickpmogiaa", sum := "3393228251453ae7de2294d4b8a4b0751e29d99bca4e884aebcea19efc37881c", func := "edict/edictlaw01.SymRanks", spec := "symRanks", unfollowed := true, recurses := true, plainKeys := false, apart := false, narrowed := true }
def SymRanksUptoSaid : Prop := symRanksUptoRow.holds Try.pinned (OpenSpec.upto symRanksSpec)

/-- 'edictlaw01.SymApart', WHERE WHAT IT READS IS OF BULK AT MOST 1048576: true; the input reads as it did. -/
def symApartUptoRow : OpenClaim := { program := "ytblonickpmogiaa", sum := "3393228251453ae7de2294d4b8a4b0751e29d99bca4e884aebcea19efc37881c", func := "edict/edictlaw01.SymApart", spec := "symApart", unfollowed := true, recurses := true, plainKeys := false, apart := false, narrowed := true }
def SymApartUptoSaid : Prop := symApartUptoRow.holds Try.pinned (OpenSpec.upto symApartSpec)

/-- 'edictlaw01.SymTables', WHERE WHAT IT READS IS OF BULK AT MOST 1048576: true; the input reads as it did. -/
def symTablesUptoRow : OpenClaim := { program := "ytblonickpmogiaa", sum := "3393228251453ae7de2294d4b8a4b0751e29d99bca4e884aebcea19efc37881c", func := "edict/edictlaw01.SymTables", spec := "symTables", unfollowed := true, recurses := true, plainKeys := false, apart := false, narrowed := true }
def SymTablesUptoSaid : Prop := symTablesUptoRow.holds Try.pinned (OpenSpec.upto symTablesSpec)

/-- 'edictlaw01.SymFull', WHERE WHAT IT READS IS OF BULK AT MOST 1048576: true; the input reads as it did. -/
def symFullUptoRow : OpenClaim := { program := "ytblonickpmogiaa", sum := "3393228251453ae7de2294d4b8a4b0751e29d99bca4e884aebcea19efc37881c", func := "edict/edictlaw01.SymFull", spec := "symFull", unfollowed := true, recurses := true, plainKeys := false, apart := false, narrowed := true }
def SymFullUptoSaid : Prop := symFullUptoRow.holds Try.pinned (OpenSpec.upto symFullSpec)

end Rows
end Go.Proofs.Ytblonickpmogiaa
