/-
  DERIVED. GIVEN WITH THE SEED: THE CARDS: each row of YtpggpopbkmgodaaGreatDoorRows.lean that lists a variable, with what it lists TIED to the program's text (the seventh form; the later family's looks); each row that meets fmt, with fmt's text TOLD by the authors' own Lean function (tested against real Go, not proved from fmt's source: count such statements apart). THE CARD IS WHAT COUNTS. Prove the row's statement (the work); the ties are given (YtpggpopbkmgodaaGreatDoorTie.lean); close each card by the builder's one call (the guide's Derived/Test/ToyasCard.lean, 'card_holds'). Laid BY PROGRAM, IN A SANDBOX (cutbox-door.mjs). By AI agents, Wed Nov 11 2026. No macro, syntax, notation, axiom, sorry.
-/
import Derived.Test.YtpggpopbkmgodaaGreatDoorRows
import GoSem.ClaimSeven
namespace Go.Proofs.YtpggpopbkmgodaaGreatDoor
namespace Rows

/-- THE TIED CARD OF 'taprootlaw36.TallyMerges'. -/
def tallyMergesCard : Claim7 := { stood := { row := tallyMergesRow, standIns := [], harness := (true, "c8bf313fa9f288196b36eee2dd721b0fa52b64a9da87e2fff002dcd1b251894e"), looks := false }, kinds := [], alts := [], laidByText := true, laidKinds := [.data, .data, .pinned], laidTests := true, laidLooks := .later }
def TallyMergesCardSaid : Prop := Claim7.holds Tryz.pinned (.plain (OpenSpec.ofChange tallyMergesSpec)) tallyMergesCard

/-- THE TIED CARD OF 'taprootlaw36.TallyReplies'. -/
def tallyRepliesCard : Claim7 := { stood := { row := tallyRepliesRow, standIns := [], harness := (true, "c8bf313fa9f288196b36eee2dd721b0fa52b64a9da87e2fff002dcd1b251894e"), looks := false }, kinds := [], alts := [], laidByText := true, laidKinds := [.data, .data, .pinned], laidTests := true, laidLooks := .later }
def TallyRepliesCardSaid : Prop := Claim7.holds Tryz.pinned (.plain (OpenSpec.ofChange tallyRepliesSpec)) tallyRepliesCard

/-- THE TIED CARD OF 'taprootlaw36.TallyShares'. -/
def tallySharesCard : Claim7 := { stood := { row := tallySharesRow, standIns := [], harness := (true, "c8bf313fa9f288196b36eee2dd721b0fa52b64a9da87e2fff002dcd1b251894e"), looks := false }, kinds := [], alts := [], laidByText := true, laidKinds := [.data, .data, .pinned], laidTests := true, laidLooks := .later }
def TallySharesCardSaid : Prop := Claim7.holds Tryz.pinned (.plain (OpenSpec.ofChange tallySharesSpec)) tallySharesCard

/-- THE TIED CARD OF 'taprootlaw36.TallyCounts'. -/
def tallyCountsCard : Claim7 := { stood := { row := tallyCountsRow, standIns := [], harness := (true, "c8bf313fa9f288196b36eee2dd721b0fa52b64a9da87e2fff002dcd1b251894e"), looks := false }, kinds := [], alts := [], laidByText := true, laidKinds := [.data, .data, .pinned], laidTests := true, laidLooks := .later }
def TallyCountsCardSaid : Prop := Claim7.holds Tryz.pinned (.plain (OpenSpec.ofChange tallyCountsSpec)) tallyCountsCard

/-- THE SECOND FORM's CARD OF 'taprootlaw36.TallyMerges'. -/
def tallyMergesUptoCard : Claim7 := { stood := { row := tallyMergesUptoRow, standIns := [], harness := (true, "c8bf313fa9f288196b36eee2dd721b0fa52b64a9da87e2fff002dcd1b251894e"), looks := false }, kinds := [], alts := [], laidByText := true, laidKinds := [.data, .data, .pinned], laidTests := true, laidLooks := .later }
def TallyMergesUptoCardSaid : Prop := Claim7.holds Tryz.pinned (.plain (OpenSpec.upto tallyMergesSpec)) tallyMergesUptoCard

/-- THE SECOND FORM's CARD OF 'taprootlaw36.TallyReplies'. -/
def tallyRepliesUptoCard : Claim7 := { stood := { row := tallyRepliesUptoRow, standIns := [], harness := (true, "c8bf313fa9f288196b36eee2dd721b0fa52b64a9da87e2fff002dcd1b251894e"), looks := false }, kinds := [], alts := [], laidByText := true, laidKinds := [.data, .data, .pinned], laidTests := true, laidLooks := .later }
def TallyRepliesUptoCardSaid : Prop := Claim7.holds Tryz.pinned (.plain (OpenSpec.upto tallyRepliesSpec)) tallyRepliesUptoCard

/-- THE SECOND FORM's CARD OF 'taprootlaw36.TallyShares'. -/
def tallySharesUptoCard : Claim7 := { stood := { row := tallySharesUptoRow, standIns := [], harness := (true, "c8bf313fa9f288196b36eee2dd721b0fa52b64a9da87e2fff002dcd1b251894e"), looks := false }, kinds := [], alts := [], laidByText := true, laidKinds := [.data, .data, .pinned], laidTests := true, laidLooks := .later }
def TallySharesUptoCardSaid : Prop := Claim7.holds Tryz.pinned (.plain (OpenSpec.upto tallySharesSpec)) tallySharesUptoCard

/-- THE SECOND FORM's CARD OF 'taprootlaw36.TallyCounts'. -/
def tallyCountsUptoCard : Claim7 := { stood := { row := tallyCountsUptoRow, standIns := [], harness := (true, "c8bf313fa9f288196b36eee2dd721b0fa52b64a9da87e2fff002dcd1b251894e"), looks := false }, kinds := [], alts := [], laidByText := true, laidKinds := [.data, .data, .pinned], laidTests := true, laidLooks := .later }
def TallyCountsUptoCardSaid : Prop := Claim7.holds Tryz.pinned (.plain (OpenSpec.upto tallyCountsSpec)) tallyCountsUptoCard
end Rows
end Go.Proofs.YtpggpopbkmgodaaGreatDoor
