/-
  DERIVED. GIVEN WITH THE SEED: THE CARDS: each row of YtonkbjdeaneicaaDoorRows.lean that lists a variable, with what it lists TIED to the program's text (the seventh form; the later family's looks); each row that meets fmt, with fmt's text TOLD by the authors' own Lean function (tested against real Go, not proved from fmt's source: count such statements apart). THE CARD IS WHAT COUNTS. Prove the row's statement (the work); the ties are given (YtonkbjdeaneicaaDoorTie.lean); close each card by the builder's one call (the guide's Derived/Test/ToyasCard.lean, 'card_holds'). Laid BY PROGRAM, IN A SANDBOX (cutbox-door.mjs). By AI agents, Wed Nov 11 2026. No macro, syntax, notation, axiom, sorry.
-/
import Derived.Test.YtonkbjdeaneicaaDoorRows
import GoSem.ClaimSeven
namespace Go.Proofs.YtonkbjdeaneicaaDoor
namespace Rows

/-- THE TIED CARD OF 'edictlaw11.PlanAsk'. -/
def planAskCard : Claim7 := { stood := { row := planAskRow, standIns := [], harness := (true, "0a7dcfc1ed091508deef35d74f5fdf5b7885d719b3e1ba0d28a91e059b5b0a34"), looks := false }, kinds := [], alts := [], laidByText := true, laidKinds := [.data, .data, .data, .data], laidTests := true, laidLooks := .later }
def PlanAskCardSaid : Prop := Claim7.holds Tryd.pinned (.plain (OpenSpec.ofChange planAskSpec)) planAskCard

/-- THE TIED CARD OF 'edictlaw11.PlanFits'. -/
def planFitsCard : Claim7 := { stood := { row := planFitsRow, standIns := [], harness := (true, "0a7dcfc1ed091508deef35d74f5fdf5b7885d719b3e1ba0d28a91e059b5b0a34"), looks := false }, kinds := [], alts := [], laidByText := true, laidKinds := [.data, .data, .data, .data], laidTests := true, laidLooks := .later }
def PlanFitsCardSaid : Prop := Claim7.holds Tryd.pinned (.plain (OpenSpec.ofChange planFitsSpec)) planFitsCard

/-- THE TIED CARD OF 'edictlaw11.PlanLines'. -/
def planLinesCard : Claim7 := { stood := { row := planLinesRow, standIns := [], harness := (true, "0a7dcfc1ed091508deef35d74f5fdf5b7885d719b3e1ba0d28a91e059b5b0a34"), looks := false }, kinds := [], alts := [], laidByText := true, laidKinds := [.data, .data, .data, .data], laidTests := true, laidLooks := .later }
def PlanLinesCardSaid : Prop := Claim7.holds Tryd.pinned (.plain (OpenSpec.ofChange planLinesSpec)) planLinesCard

/-- THE SECOND FORM's CARD OF 'edictlaw11.PlanAsk'. -/
def planAskUptoCard : Claim7 := { stood := { row := planAskUptoRow, standIns := [], harness := (true, "0a7dcfc1ed091508deef35d74f5fdf5b7885d719b3e1ba0d28a91e059b5b0a34"), looks := false }, kinds := [], alts := [], laidByText := true, laidKinds := [.data, .data, .data, .data], laidTests := true, laidLooks := .later }
def PlanAskUptoCardSaid : Prop := Claim7.holds Tryd.pinned (.plain (OpenSpec.upto planAskSpec)) planAskUptoCard

/-- THE SECOND FORM's CARD OF 'edictlaw11.PlanFits'. -/
def planFitsUptoCard : Claim7 := { stood := { row := planFitsUptoRow, standIns := [], harness := (true, "0a7dcfc1ed091508deef35d74f5fdf5b7885d719b3e1ba0d28a91e059b5b0a34"), looks := false }, kinds := [], alts := [], laidByText := true, laidKinds := [.data, .data, .data, .data], laidTests := true, laidLooks := .later }
def PlanFitsUptoCardSaid : Prop := Claim7.holds Tryd.pinned (.plain (OpenSpec.upto planFitsSpec)) planFitsUptoCard

/-- THE SECOND FORM's CARD OF 'edictlaw11.PlanLines'. -/
def planLinesUptoCard : Claim7 := { stood := { row := planLinesUptoRow, standIns := [], harness := (true, "0a7dcfc1ed091508deef35d74f5fdf5b7885d719b3e1ba0d28a91e059b5b0a34"), looks := false }, kinds := [], alts := [], laidByText := true, laidKinds := [.data, .data, .data, .data], laidTests := true, laidLooks := .later }
def PlanLinesUptoCardSaid : Prop := Claim7.holds Tryd.pinned (.plain (OpenSpec.upto planLinesSpec)) planLinesUptoCard
end Rows
end Go.Proofs.YtonkbjdeaneicaaDoor
