/-
  DERIVED. GIVEN WITH THE SEED: THE CARDS: each row of YtblonickpmogiaaDoorRows.lean that lists a variable, with what it lists TIED to the program's text (the seventh form; the later family's looks); each row that meets fmt, with fmt's text TOLD by the authors' own Lean function (tested against real Go, not proved from fmt's source: count such statements apart). THE CARD IS WHAT COUNTS. Prove the row's statement (the work); the ties are given (YtblonickpmogiaaDoorTie.lean); close each card by the builder's one call (the guide's Derived/Test/ToyasCard.lean, 'card_holds'). Laid BY PROGRAM, IN A SANDBOX (cutbox-door.mjs). By AI agents, Wed Nov 11 2026. No macro, syntax, notation, axiom, sorry.
-/
import Derived.Test.YtblonickpmogiaaDoorRows
import GoSem.ClaimSeven
namespace Go.Proofs.YtblonickpmogiaaDoor
namespace Rows

/-- THE TIED CARD OF 'edictlaw01.SymValids'. -/
def symValidsCard : Claim7 := { stood := { row := symValidsRow, standIns := [], harness := (true, "b8dc7f1943aec7c85a84f0beb8e56b5d430e97799e53a569b6080e5cedf1e176"), looks := true }, kinds := [], alts := [], laidByText := true, laidKinds := [.data, .data, .data], laidTests := true, laidLooks := .later }
def SymValidsCardSaid : Prop := Claim7.holds Tryd.pinned (.plain (OpenSpec.ofChange symValidsSpec)) symValidsCard

/-- THE TIED CARD OF 'edictlaw01.SymReads'. -/
def symReadsCard : Claim7 := { stood := { row := symReadsRow, standIns := [], harness := (true, "b8dc7f1943aec7c85a84f0beb8e56b5d430e97799e53a569b6080e5cedf1e176"), looks := true }, kinds := [], alts := [], laidByText := true, laidKinds := [.data, .data, .data, .sentinel, .sentinel], laidTests := true, laidLooks := .later }
def SymReadsCardSaid : Prop := Claim7.holds Tryd.pinned (.plain (OpenSpec.ofChange symReadsSpec)) symReadsCard

/-- THE TIED CARD OF 'edictlaw01.SymBack'. -/
def symBackCard : Claim7 := { stood := { row := symBackRow, standIns := [], harness := (true, "b8dc7f1943aec7c85a84f0beb8e56b5d430e97799e53a569b6080e5cedf1e176"), looks := true }, kinds := [], alts := [], laidByText := true, laidKinds := [.data, .data, .data, .sentinel, .sentinel], laidTests := true, laidLooks := .later }
def SymBackCardSaid : Prop := Claim7.holds Tryd.pinned (.plain (OpenSpec.ofChange symBackSpec)) symBackCard

/-- THE TIED CARD OF 'edictlaw01.SymStrict'. -/
def symStrictCard : Claim7 := { stood := { row := symStrictRow, standIns := [], harness := (true, "b8dc7f1943aec7c85a84f0beb8e56b5d430e97799e53a569b6080e5cedf1e176"), looks := true }, kinds := [], alts := [], laidByText := true, laidKinds := [.data, .data, .data, .sentinel, .sentinel], laidTests := true, laidLooks := .later }
def SymStrictCardSaid : Prop := Claim7.holds Tryd.pinned (.plain (OpenSpec.ofChange symStrictSpec)) symStrictCard

/-- THE SECOND FORM's CARD OF 'edictlaw01.SymValids'. -/
def symValidsUptoCard : Claim7 := { stood := { row := symValidsUptoRow, standIns := [], harness := (true, "b8dc7f1943aec7c85a84f0beb8e56b5d430e97799e53a569b6080e5cedf1e176"), looks := true }, kinds := [], alts := [], laidByText := true, laidKinds := [.data, .data, .data], laidTests := true, laidLooks := .later }
def SymValidsUptoCardSaid : Prop := Claim7.holds Tryd.pinned (.plain (OpenSpec.upto symValidsSpec)) symValidsUptoCard

/-- THE SECOND FORM's CARD OF 'edictlaw01.SymReads'. -/
def symReadsUptoCard : Claim7 := { stood := { row := symReadsUptoRow, standIns := [], harness := (true, "b8dc7f1943aec7c85a84f0beb8e56b5d430e97799e53a569b6080e5cedf1e176"), looks := true }, kinds := [], alts := [], laidByText := true, laidKinds := [.data, .data, .data, .sentinel, .sentinel], laidTests := true, laidLooks := .later }
def SymReadsUptoCardSaid : Prop := Claim7.holds Tryd.pinned (.plain (OpenSpec.upto symReadsSpec)) symReadsUptoCard

/-- THE SECOND FORM's CARD OF 'edictlaw01.SymBack'. -/
def symBackUptoCard : Claim7 := { stood := { row := symBackUptoRow, standIns := [], harness := (true, "b8dc7f1943aec7c85a84f0beb8e56b5d430e97799e53a569b6080e5cedf1e176"), looks := true }, kinds := [], alts := [], laidByText := true, laidKinds := [.data, .data, .data, .sentinel, .sentinel], laidTests := true, laidLooks := .later }
def SymBackUptoCardSaid : Prop := Claim7.holds Tryd.pinned (.plain (OpenSpec.upto symBackSpec)) symBackUptoCard

/-- THE SECOND FORM's CARD OF 'edictlaw01.SymStrict'. -/
def symStrictUptoCard : Claim7 := { stood := { row := symStrictUptoRow, standIns := [], harness := (true, "b8dc7f1943aec7c85a84f0beb8e56b5d430e97799e53a569b6080e5cedf1e176"), looks := true }, kinds := [], alts := [], laidByText := true, laidKinds := [.data, .data, .data, .sentinel, .sentinel], laidTests := true, laidLooks := .later }
def SymStrictUptoCardSaid : Prop := Claim7.holds Tryd.pinned (.plain (OpenSpec.upto symStrictSpec)) symStrictUptoCard
end Rows
end Go.Proofs.YtblonickpmogiaaDoor
