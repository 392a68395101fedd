/-
  DERIVED. GIVEN WITH THE SEED: THE CARDS: each row of YtjgigcnjgblekaaDoorRows.lean that lists a variable, with what it lists TIED to the program's text (the seventh form; the later family's looks); each row that meets fmt, with fmt's text TOLD by the authors' own Lean function (tested against real Go, not proved from fmt's source: count such statements apart). THE CARD IS WHAT COUNTS. Prove the row's statement (the work); the ties are given (YtjgigcnjgblekaaDoorTie.lean); close each card by the builder's one call (the guide's Derived/Test/ToyasCard.lean, 'card_holds'). Laid BY PROGRAM, IN A SANDBOX (cutbox-door.mjs). By AI agents, Wed Nov 11 2026. No macro, syntax, notation, axiom, sorry.
-/
import Derived.Test.YtjgigcnjgblekaaDoorRows
import GoSem.ClaimSeven
namespace Go.Proofs.YtjgigcnjgblekaaDoor
namespace Rows

/-- THE TIED CARD OF 'edictlaw13.AgendaOrderless'. -/
def agendaOrderlessCard : Claim7 := { stood := { row := agendaOrderlessRow, standIns := [], harness := (true, "ef81ea915260e3cc96a0ea8a395333eca79a04966510784164d61dd88867d308"), looks := false }, kinds := [], alts := [], laidByText := true, laidKinds := [.data, .data, .data], laidTests := true, laidLooks := .later }
def AgendaOrderlessCardSaid : Prop := Claim7.holds Tryd.pinned (.plain (OpenSpec.ofChange agendaOrderlessSpec)) agendaOrderlessCard

/-- THE TIED CARD OF 'edictlaw13.AgendaTurns'. -/
def agendaTurnsCard : Claim7 := { stood := { row := agendaTurnsRow, standIns := [], harness := (true, "ef81ea915260e3cc96a0ea8a395333eca79a04966510784164d61dd88867d308"), looks := false }, kinds := [], alts := [], laidByText := true, laidKinds := [.data, .data, .data], laidTests := true, laidLooks := .later }
def AgendaTurnsCardSaid : Prop := Claim7.holds Tryd.pinned (.plain (OpenSpec.ofChange agendaTurnsSpec)) agendaTurnsCard

/-- THE TIED CARD OF 'edictlaw13.AgendaPlays'. -/
def agendaPlaysCard : Claim7 := { stood := { row := agendaPlaysRow, standIns := [], harness := (true, "ef81ea915260e3cc96a0ea8a395333eca79a04966510784164d61dd88867d308"), looks := false }, kinds := [], alts := [], laidByText := true, laidKinds := [.data, .data, .data], laidTests := true, laidLooks := .later }
def AgendaPlaysCardSaid : Prop := Claim7.holds Tryd.pinned (.plain (OpenSpec.ofChange agendaPlaysSpec)) agendaPlaysCard

/-- THE TIED CARD OF 'edictlaw13.AgendaApart'. -/
def agendaApartCard : Claim7 := { stood := { row := agendaApartRow, standIns := [], harness := (true, "ef81ea915260e3cc96a0ea8a395333eca79a04966510784164d61dd88867d308"), looks := false }, kinds := [], alts := [], laidByText := true, laidKinds := [.data, .data, .data], laidTests := true, laidLooks := .later }
def AgendaApartCardSaid : Prop := Claim7.holds Tryd.pinned (.plain (OpenSpec.ofChange agendaApartSpec)) agendaApartCard

/-- THE SECOND FORM's CARD OF 'edictlaw13.AgendaOrderless'. -/
def agendaOrderlessUptoCard : Claim7 := { stood := { row := agendaOrderlessUptoRow, standIns := [], harness := (true, "ef81ea915260e3cc96a0ea8a395333eca79a04966510784164d61dd88867d308"), looks := false }, kinds := [], alts := [], laidByText := true, laidKinds := [.data, .data, .data], laidTests := true, laidLooks := .later }
def AgendaOrderlessUptoCardSaid : Prop := Claim7.holds Tryd.pinned (.plain (OpenSpec.upto agendaOrderlessSpec)) agendaOrderlessUptoCard

/-- THE SECOND FORM's CARD OF 'edictlaw13.AgendaTurns'. -/
def agendaTurnsUptoCard : Claim7 := { stood := { row := agendaTurnsUptoRow, standIns := [], harness := (true, "ef81ea915260e3cc96a0ea8a395333eca79a04966510784164d61dd88867d308"), looks := false }, kinds := [], alts := [], laidByText := true, laidKinds := [.data, .data, .data], laidTests := true, laidLooks := .later }
def AgendaTurnsUptoCardSaid : Prop := Claim7.holds Tryd.pinned (.plain (OpenSpec.upto agendaTurnsSpec)) agendaTurnsUptoCard

/-- THE SECOND FORM's CARD OF 'edictlaw13.AgendaPlays'. -/
def agendaPlaysUptoCard : Claim7 := { stood := { row := agendaPlaysUptoRow, standIns := [], harness := (true, "ef81ea915260e3cc96a0ea8a395333eca79a04966510784164d61dd88867d308"), looks := false }, kinds := [], alts := [], laidByText := true, laidKinds := [.data, .data, .data], laidTests := true, laidLooks := .later }
def AgendaPlaysUptoCardSaid : Prop := Claim7.holds Tryd.pinned (.plain (OpenSpec.upto agendaPlaysSpec)) agendaPlaysUptoCard

/-- THE SECOND FORM's CARD OF 'edictlaw13.AgendaApart'. -/
def agendaApartUptoCard : Claim7 := { stood := { row := agendaApartUptoRow, standIns := [], harness := (true, "ef81ea915260e3cc96a0ea8a395333eca79a04966510784164d61dd88867d308"), looks := false }, kinds := [], alts := [], laidByText := true, laidKinds := [.data, .data, .data], laidTests := true, laidLooks := .later }
def AgendaApartUptoCardSaid : Prop := Claim7.holds Tryd.pinned (.plain (OpenSpec.upto agendaApartSpec)) agendaApartUptoCard
end Rows
end Go.Proofs.YtjgigcnjgblekaaDoor
