/-
  DERIVED. GIVEN WITH THE SEED: THE CARDS: each row of YtkcjembmdiaclaaDoorRows.lean that lists a variable, with what it lists TIED to the program's text (the seventh form; the later family's looks); each row that meets fmt, with fmt's text TOLD by the authors' own Lean function (tested against real Go, not proved from fmt's source: count such statements apart). THE CARD IS WHAT COUNTS. Prove the row's statement (the work); the ties are given (YtkcjembmdiaclaaDoorTie.lean); close each card by the builder's one call (the guide's Derived/Test/ToyasCard.lean, 'card_holds'). Laid BY PROGRAM, IN A SANDBOX (cutbox-door.mjs). By AI agents, Wed Nov 11 2026. No macro, syntax, notation, axiom, sorry.
-/
import Derived.Test.YtkcjembmdiaclaaDoorRows
import GoSem.ClaimSeven
namespace Go.Proofs.YtkcjembmdiaclaaDoor
namespace Rows

/-- THE TIED CARD OF 'graftbedlaw10.ScanTokens'. -/
def scanTokensCard : Claim7 := { stood := { row := scanTokensRow, standIns := [], harness := (true, "597f4b9cea6c6050089ab9b00297f0d4b40880611f971e409392762a019e1c46"), looks := false }, kinds := [], alts := [], laidByText := true, laidKinds := [.data, .pinned], laidTests := true, laidLooks := .later }
def ScanTokensCardSaid : Prop := Claim7.holds Tryd.pinned (.plain (OpenSpec.ofChange scanTokensSpec)) scanTokensCard

/-- THE TIED CARD OF 'graftbedlaw10.ScanLines'. -/
def scanLinesCard : Claim7 := { stood := { row := scanLinesRow, standIns := [], harness := (true, "597f4b9cea6c6050089ab9b00297f0d4b40880611f971e409392762a019e1c46"), looks := false }, kinds := [], alts := [], laidByText := true, laidKinds := [.data, .pinned], laidTests := true, laidLooks := .later }
def ScanLinesCardSaid : Prop := Claim7.holds Tryd.pinned (.plain (OpenSpec.ofChange scanLinesSpec)) scanLinesCard

/-- THE TIED CARD OF 'graftbedlaw10.ScanQuoted'. -/
def scanQuotedCard : Claim7 := { stood := { row := scanQuotedRow, standIns := [], harness := (true, "597f4b9cea6c6050089ab9b00297f0d4b40880611f971e409392762a019e1c46"), looks := false }, kinds := [], alts := [], laidByText := true, laidKinds := [.data, .pinned], laidTests := true, laidLooks := .later }
def ScanQuotedCardSaid : Prop := Claim7.holds Tryd.pinned (.plain (OpenSpec.ofChange scanQuotedSpec)) scanQuotedCard

/-- THE TIED CARD OF 'graftbedlaw10.ScanRest'. -/
def scanRestCard : Claim7 := { stood := { row := scanRestRow, standIns := [], harness := (true, "597f4b9cea6c6050089ab9b00297f0d4b40880611f971e409392762a019e1c46"), looks := false }, kinds := [], alts := [], laidByText := true, laidKinds := [.data, .pinned], laidTests := true, laidLooks := .later }
def ScanRestCardSaid : Prop := Claim7.holds Tryd.pinned (.plain (OpenSpec.ofChange scanRestSpec)) scanRestCard

/-- THE TIED CARD OF 'graftbedlaw10.ScanNames'. -/
def scanNamesCard : Claim7 := { stood := { row := scanNamesRow, standIns := [], harness := (true, "597f4b9cea6c6050089ab9b00297f0d4b40880611f971e409392762a019e1c46"), looks := false }, kinds := [], alts := [], laidByText := true, laidKinds := [.data, .pinned], laidTests := true, laidLooks := .later }
def ScanNamesCardSaid : Prop := Claim7.holds Tryd.pinned (.plain (OpenSpec.ofChange scanNamesSpec)) scanNamesCard

/-- THE TIED CARD OF 'graftbedlaw10.ScanRemarks'. -/
def scanRemarksCard : Claim7 := { stood := { row := scanRemarksRow, standIns := [], harness := (true, "597f4b9cea6c6050089ab9b00297f0d4b40880611f971e409392762a019e1c46"), looks := false }, kinds := [], alts := [], laidByText := true, laidKinds := [.data, .pinned], laidTests := true, laidLooks := .later }
def ScanRemarksCardSaid : Prop := Claim7.holds Tryd.pinned (.plain (OpenSpec.ofChange scanRemarksSpec)) scanRemarksCard

/-- THE SECOND FORM's CARD OF 'graftbedlaw10.ScanTokens'. -/
def scanTokensUptoCard : Claim7 := { stood := { row := scanTokensUptoRow, standIns := [], harness := (true, "597f4b9cea6c6050089ab9b00297f0d4b40880611f971e409392762a019e1c46"), looks := false }, kinds := [], alts := [], laidByText := true, laidKinds := [.data, .pinned], laidTests := true, laidLooks := .later }
def ScanTokensUptoCardSaid : Prop := Claim7.holds Tryd.pinned (.plain (OpenSpec.upto scanTokensSpec)) scanTokensUptoCard

/-- THE SECOND FORM's CARD OF 'graftbedlaw10.ScanLines'. -/
def scanLinesUptoCard : Claim7 := { stood := { row := scanLinesUptoRow, standIns := [], harness := (true, "597f4b9cea6c6050089ab9b00297f0d4b40880611f971e409392762a019e1c46"), looks := false }, kinds := [], alts := [], laidByText := true, laidKinds := [.data, .pinned], laidTests := true, laidLooks := .later }
def ScanLinesUptoCardSaid : Prop := Claim7.holds Tryd.pinned (.plain (OpenSpec.upto scanLinesSpec)) scanLinesUptoCard

/-- THE SECOND FORM's CARD OF 'graftbedlaw10.ScanQuoted'. -/
def scanQuotedUptoCard : Claim7 := { stood := { row := scanQuotedUptoRow, standIns := [], harness := (true, "597f4b9cea6c6050089ab9b00297f0d4b40880611f971e409392762a019e1c46"), looks := false }, kinds := [], alts := [], laidByText := true, laidKinds := [.data, .pinned], laidTests := true, laidLooks := .later }
def ScanQuotedUptoCardSaid : Prop := Claim7.holds Tryd.pinned (.plain (OpenSpec.upto scanQuotedSpec)) scanQuotedUptoCard

/-- THE SECOND FORM's CARD OF 'graftbedlaw10.ScanRest'. -/
def scanRestUptoCard : Claim7 := { stood := { row := scanRestUptoRow, standIns := [], harness := (true, "597f4b9cea6c6050089ab9b00297f0d4b40880611f971e409392762a019e1c46"), looks := false }, kinds := [], alts := [], laidByText := true, laidKinds := [.data, .pinned], laidTests := true, laidLooks := .later }
def ScanRestUptoCardSaid : Prop := Claim7.holds Tryd.pinned (.plain (OpenSpec.upto scanRestSpec)) scanRestUptoCard

/-- THE SECOND FORM's CARD OF 'graftbedlaw10.ScanNames'. -/
def scanNamesUptoCard : Claim7 := { stood := { row := scanNamesUptoRow, standIns := [], harness := (true, "597f4b9cea6c6050089ab9b00297f0d4b40880611f971e409392762a019e1c46"), looks := false }, kinds := [], alts := [], laidByText := true, laidKinds := [.data, .pinned], laidTests := true, laidLooks := .later }
def ScanNamesUptoCardSaid : Prop := Claim7.holds Tryd.pinned (.plain (OpenSpec.upto scanNamesSpec)) scanNamesUptoCard

/-- THE SECOND FORM's CARD OF 'graftbedlaw10.ScanRemarks'. -/
def scanRemarksUptoCard : Claim7 := { stood := { row := scanRemarksUptoRow, standIns := [], harness := (true, "597f4b9cea6c6050089ab9b00297f0d4b40880611f971e409392762a019e1c46"), looks := false }, kinds := [], alts := [], laidByText := true, laidKinds := [.data, .pinned], laidTests := true, laidLooks := .later }
def ScanRemarksUptoCardSaid : Prop := Claim7.holds Tryd.pinned (.plain (OpenSpec.upto scanRemarksSpec)) scanRemarksUptoCard
end Rows
end Go.Proofs.YtkcjembmdiaclaaDoor
