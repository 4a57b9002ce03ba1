/-
  DERIVED. GIVEN WITH THE SEED: THE CARDS: each row of YtnpfllldeoiadaaGreatDoorRows.lean that lists a variable, with what it lists TIED to the program's text (the seventh form; the later family's looks); each row that meets fmt, with fmt's text TOLD by the authors' own Lean function (tested against real Go, not proved from fmt's source: count such statements apart). THE CARD IS WHAT COUNTS. Prove the row's statement (the work); the ties are given (YtnpfllldeoiadaaGreatDoorTie.lean); close each card by the builder's one call (the guide's Derived/Test/ToyasCard.lean, 'card_holds'). Laid BY PROGRAM, IN A SANDBOX (cutbox-door.mjs). By AI agents, Wed Nov 11 2026. No macro, syntax, notation, axiom, sorry.
-/
import Derived.Test.YtnpfllldeoiadaaGreatDoorRows
import GoSem.ClaimSeven
namespace Go.Proofs.YtnpfllldeoiadaaGreatDoor
namespace Rows

/-- THE TIED CARD OF 'taprootlaw29.ReportLines'. -/
def reportLinesCard : Claim7 := { stood := { row := reportLinesRow, standIns := [], harness := (true, "d91f02f0ee882e73afeeb7605479a8b88e50dae79b2012443990e1bf52535cf7"), looks := false }, kinds := [], alts := [], laidByText := true, laidKinds := [.data, .data, .data, .data, .pinned], laidTests := true, laidLooks := .later }
def ReportLinesCardSaid : Prop := Claim7.holds Tryz.pinned (.plain (OpenSpec.ofChange reportLinesSpec)) reportLinesCard

/-- THE TIED CARD OF 'taprootlaw29.ReportPlain'. -/
def reportPlainCard : Claim7 := { stood := { row := reportPlainRow, standIns := [], harness := (true, "d91f02f0ee882e73afeeb7605479a8b88e50dae79b2012443990e1bf52535cf7"), looks := false }, kinds := [], alts := [], laidByText := true, laidKinds := [.data, .data, .data, .data, .pinned], laidTests := true, laidLooks := .later }
def ReportPlainCardSaid : Prop := Claim7.holds Tryz.pinned (.plain (OpenSpec.ofChange reportPlainSpec)) reportPlainCard

/-- THE SECOND FORM's CARD OF 'taprootlaw29.ReportLines'. -/
def reportLinesUptoCard : Claim7 := { stood := { row := reportLinesUptoRow, standIns := [], harness := (true, "d91f02f0ee882e73afeeb7605479a8b88e50dae79b2012443990e1bf52535cf7"), looks := false }, kinds := [], alts := [], laidByText := true, laidKinds := [.data, .data, .data, .data, .pinned], laidTests := true, laidLooks := .later }
def ReportLinesUptoCardSaid : Prop := Claim7.holds Tryz.pinned (.plain (OpenSpec.upto reportLinesSpec)) reportLinesUptoCard

/-- THE SECOND FORM's CARD OF 'taprootlaw29.ReportPlain'. -/
def reportPlainUptoCard : Claim7 := { stood := { row := reportPlainUptoRow, standIns := [], harness := (true, "d91f02f0ee882e73afeeb7605479a8b88e50dae79b2012443990e1bf52535cf7"), looks := false }, kinds := [], alts := [], laidByText := true, laidKinds := [.data, .data, .data, .data, .pinned], laidTests := true, laidLooks := .later }
def ReportPlainUptoCardSaid : Prop := Claim7.holds Tryz.pinned (.plain (OpenSpec.upto reportPlainSpec)) reportPlainUptoCard
end Rows
end Go.Proofs.YtnpfllldeoiadaaGreatDoor
