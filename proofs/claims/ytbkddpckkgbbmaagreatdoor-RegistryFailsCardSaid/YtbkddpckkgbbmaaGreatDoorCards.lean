/-
  DERIVED. GIVEN WITH THE SEED: THE CARDS: each row of YtbkddpckkgbbmaaGreatDoorRows.lean that lists a variable, with what it lists TIED to the program's text (the seventh form; the later family's looks); each row that meets fmt, with fmt's text TOLD by the authors' own Lean function (tested against real Go, not proved from fmt's source: count such statements apart). THE CARD IS WHAT COUNTS. Prove the row's statement (the work); the ties are given (YtbkddpckkgbbmaaGreatDoorTie.lean); close each card by the builder's one call (the guide's Derived/Test/ToyasCard.lean, 'card_holds'). Laid BY PROGRAM, IN A SANDBOX (cutbox-door.mjs). By AI agents, Wed Nov 11 2026. No macro, syntax, notation, axiom, sorry.
-/
import Derived.Test.YtbkddpckkgbbmaaGreatDoorRows
import GoSem.ClaimSeven
namespace Go.Proofs.YtbkddpckkgbbmaaGreatDoor
namespace Rows

/-- THE TIED CARD OF 'taprootlaw21.RegistryBroken'. -/
def registryBrokenCard : Claim7 := { stood := { row := registryBrokenRow, standIns := [], harness := (true, "246cd41ad2a9ceb12c06a4759cbd6c365e8c9c386bd35b4f665a6107fa427223"), looks := false }, kinds := [], alts := [], laidByText := true, laidKinds := [.data, .pinned], laidTests := true, laidLooks := .later }
def RegistryBrokenCardSaid : Prop := Claim7.holds Tryz.pinned (.plain (OpenSpec.ofChange registryBrokenSpec)) registryBrokenCard

/-- THE TIED CARD OF 'taprootlaw22.MessageRows'. -/
def messageRowsCard : Claim7 := { stood := { row := messageRowsRow, standIns := [], harness := (true, "246cd41ad2a9ceb12c06a4759cbd6c365e8c9c386bd35b4f665a6107fa427223"), looks := false }, kinds := [], alts := [], laidByText := true, laidKinds := [.data, .pinned], laidTests := true, laidLooks := .later }
def MessageRowsCardSaid : Prop := Claim7.holds Tryz.pinned (.plain (OpenSpec.ofChange messageRowsSpec)) messageRowsCard

/-- THE TIED CARD OF 'taprootlaw21.RegistryFails'. -/
def registryFailsCard : Claim7 := { stood := { row := registryFailsRow, standIns := [], harness := (true, "246cd41ad2a9ceb12c06a4759cbd6c365e8c9c386bd35b4f665a6107fa427223"), looks := false }, kinds := [], alts := [], laidByText := true, laidKinds := [.data, .pinned], laidTests := true, laidLooks := .later }
def RegistryFailsCardSaid : Prop := Claim7.holds Tryz.pinned (.plain (OpenSpec.ofChange registryFailsSpec)) registryFailsCard

/-- THE TIED CARD OF 'taprootlaw21.RegistryPlays'. -/
def registryPlaysCard : Claim7 := { stood := { row := registryPlaysRow, standIns := [], harness := (true, "246cd41ad2a9ceb12c06a4759cbd6c365e8c9c386bd35b4f665a6107fa427223"), looks := false }, kinds := [], alts := [], laidByText := true, laidKinds := [.data, .pinned], laidTests := true, laidLooks := .later }
def RegistryPlaysCardSaid : Prop := Claim7.holds Tryz.pinned (.plain (OpenSpec.ofChange registryPlaysSpec)) registryPlaysCard

/-- THE TIED CARD OF 'taprootlaw22.MessagePlays'. -/
def messagePlaysCard : Claim7 := { stood := { row := messagePlaysRow, standIns := [], harness := (true, "246cd41ad2a9ceb12c06a4759cbd6c365e8c9c386bd35b4f665a6107fa427223"), looks := false }, kinds := [], alts := [], laidByText := true, laidKinds := [.data, .pinned], laidTests := true, laidLooks := .later }
def MessagePlaysCardSaid : Prop := Claim7.holds Tryz.pinned (.plain (OpenSpec.ofChange messagePlaysSpec)) messagePlaysCard

/-- THE TIED CARD OF 'taprootlaw29.ReportRows'. -/
def reportRowsCard : Claim7 := { stood := { row := reportRowsRow, standIns := [], harness := (true, "246cd41ad2a9ceb12c06a4759cbd6c365e8c9c386bd35b4f665a6107fa427223"), looks := false }, kinds := [], alts := [], laidByText := true, laidKinds := [.data, .data, .data, .data, .pinned], laidTests := true, laidLooks := .later }
def ReportRowsCardSaid : Prop := Claim7.holds Tryz.pinned (.plain (OpenSpec.ofChange reportRowsSpec)) reportRowsCard

/-- THE SECOND FORM's CARD OF 'taprootlaw21.RegistryBroken'. -/
def registryBrokenUptoCard : Claim7 := { stood := { row := registryBrokenUptoRow, standIns := [], harness := (true, "246cd41ad2a9ceb12c06a4759cbd6c365e8c9c386bd35b4f665a6107fa427223"), looks := false }, kinds := [], alts := [], laidByText := true, laidKinds := [.data, .pinned], laidTests := true, laidLooks := .later }
def RegistryBrokenUptoCardSaid : Prop := Claim7.holds Tryz.pinned (.plain (OpenSpec.upto registryBrokenSpec)) registryBrokenUptoCard

/-- THE SECOND FORM's CARD OF 'taprootlaw22.MessageRows'. -/
def messageRowsUptoCard : Claim7 := { stood := { row := messageRowsUptoRow, standIns := [], harness := (true, "246cd41ad2a9ceb12c06a4759cbd6c365e8c9c386bd35b4f665a6107fa427223"), looks := false }, kinds := [], alts := [], laidByText := true, laidKinds := [.data, .pinned], laidTests := true, laidLooks := .later }
def MessageRowsUptoCardSaid : Prop := Claim7.holds Tryz.pinned (.plain (OpenSpec.upto messageRowsSpec)) messageRowsUptoCard

/-- THE SECOND FORM's CARD OF 'taprootlaw21.RegistryFails'. -/
def registryFailsUptoCard : Claim7 := { stood := { row := registryFailsUptoRow, standIns := [], harness := (true, "246cd41ad2a9ceb12c06a4759cbd6c365e8c9c386bd35b4f665a6107fa427223"), looks := false }, kinds := [], alts := [], laidByText := true, laidKinds := [.data, .pinned], laidTests := true, laidLooks := .later }
def RegistryFailsUptoCardSaid : Prop := Claim7.holds Tryz.pinned (.plain (OpenSpec.upto registryFailsSpec)) registryFailsUptoCard

/-- THE SECOND FORM's CARD OF 'taprootlaw21.RegistryPlays'. -/
def registryPlaysUptoCard : Claim7 := { stood := { row := registryPlaysUptoRow, standIns := [], harness := (true, "246cd41ad2a9ceb12c06a4759cbd6c365e8c9c386bd35b4f665a6107fa427223"), looks := false }, kinds := [], alts := [], laidByText := true, laidKinds := [.data, .pinned], laidTests := true, laidLooks := .later }
def RegistryPlaysUptoCardSaid : Prop := Claim7.holds Tryz.pinned (.plain (OpenSpec.upto registryPlaysSpec)) registryPlaysUptoCard

/-- THE SECOND FORM's CARD OF 'taprootlaw22.MessagePlays'. -/
def messagePlaysUptoCard : Claim7 := { stood := { row := messagePlaysUptoRow, standIns := [], harness := (true, "246cd41ad2a9ceb12c06a4759cbd6c365e8c9c386bd35b4f665a6107fa427223"), looks := false }, kinds := [], alts := [], laidByText := true, laidKinds := [.data, .pinned], laidTests := true, laidLooks := .later }
def MessagePlaysUptoCardSaid : Prop := Claim7.holds Tryz.pinned (.plain (OpenSpec.upto messagePlaysSpec)) messagePlaysUptoCard

/-- THE SECOND FORM's CARD OF 'taprootlaw29.ReportRows'. -/
def reportRowsUptoCard : Claim7 := { stood := { row := reportRowsUptoRow, standIns := [], harness := (true, "246cd41ad2a9ceb12c06a4759cbd6c365e8c9c386bd35b4f665a6107fa427223"), looks := false }, kinds := [], alts := [], laidByText := true, laidKinds := [.data, .data, .data, .data, .pinned], laidTests := true, laidLooks := .later }
def ReportRowsUptoCardSaid : Prop := Claim7.holds Tryz.pinned (.plain (OpenSpec.upto reportRowsSpec)) reportRowsUptoCard
end Rows
end Go.Proofs.YtbkddpckkgbbmaaGreatDoor
