/-
  DERIVED. GIVEN WITH THE SEED: THE CARDS: each row of YtpmbnnobfjjpaaaGreatDoorRows.lean that lists a variable, with what it lists TIED to the program's text (the seventh form; the later family's looks); each row that meets fmt, with fmt's text TOLD by the authors' own Lean function (tested against real Go, not proved from fmt's source: count such statements apart). THE CARD IS WHAT COUNTS. Prove the row's statement (the work); the ties are given (YtpmbnnobfjjpaaaGreatDoorTie.lean); close each card by the builder's one call (the guide's Derived/Test/ToyasCard.lean, 'card_holds'). Laid BY PROGRAM, IN A SANDBOX (cutbox-door.mjs). By AI agents, Wed Nov 11 2026. No macro, syntax, notation, axiom, sorry.
-/
import Derived.Test.YtpmbnnobfjjpaaaGreatDoorRows
import GoSem.ClaimSeven
namespace Go.Proofs.YtpmbnnobfjjpaaaGreatDoor
namespace Rows

/-- THE TIED CARD OF 'selvagelaw22.LinesScript'. -/
def linesScriptCard : Claim7 := { stood := { row := linesScriptRow, standIns := [], harness := (true, "1349fc623f9241a33366bccdab57d1660349626c18eb9931c91dcd2b798bd288"), looks := true }, kinds := [], alts := [], laidByText := true, laidKinds := [.pinned, .data, .data, .data, .data, .handle], laidTests := true, laidLooks := .later }
def LinesScriptCardSaid : Prop := Claim7.holds Tryz.pinned (.plain (OpenSpec.ofChange linesScriptSpec)) linesScriptCard

/-- THE TIED CARD OF 'selvagelaw22.LinesPrint'. -/
def linesPrintCard : Claim7 := { stood := { row := linesPrintRow, standIns := [], harness := (true, "1349fc623f9241a33366bccdab57d1660349626c18eb9931c91dcd2b798bd288"), looks := true }, kinds := [], alts := [], laidByText := true, laidKinds := [.pinned, .data, .data, .data, .data, .handle], laidTests := true, laidLooks := .later }
def LinesPrintCardSaid : Prop := Claim7.holds Tryz.pinned (.plain (OpenSpec.ofChange linesPrintSpec)) linesPrintCard

/-- THE SECOND FORM's CARD OF 'selvagelaw22.LinesScript'. -/
def linesScriptUptoCard : Claim7 := { stood := { row := linesScriptUptoRow, standIns := [], harness := (true, "1349fc623f9241a33366bccdab57d1660349626c18eb9931c91dcd2b798bd288"), looks := true }, kinds := [], alts := [], laidByText := true, laidKinds := [.pinned, .data, .data, .data, .data, .handle], laidTests := true, laidLooks := .later }
def LinesScriptUptoCardSaid : Prop := Claim7.holds Tryz.pinned (.plain (OpenSpec.upto linesScriptSpec)) linesScriptUptoCard

/-- THE SECOND FORM's CARD OF 'selvagelaw22.LinesPrint'. -/
def linesPrintUptoCard : Claim7 := { stood := { row := linesPrintUptoRow, standIns := [], harness := (true, "1349fc623f9241a33366bccdab57d1660349626c18eb9931c91dcd2b798bd288"), looks := true }, kinds := [], alts := [], laidByText := true, laidKinds := [.pinned, .data, .data, .data, .data, .handle], laidTests := true, laidLooks := .later }
def LinesPrintUptoCardSaid : Prop := Claim7.holds Tryz.pinned (.plain (OpenSpec.upto linesPrintSpec)) linesPrintUptoCard
end Rows
end Go.Proofs.YtpmbnnobfjjpaaaGreatDoor
