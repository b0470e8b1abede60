/-
  DERIVED. GIVEN WITH THE SEED: THE CARDS: each row of YtmfilaagpobmbaaGreatDoorRows.lean that lists a variable, with what it lists TIED to the program's text (the seventh form; the later family's looks); each row that meets fmt, with fmt's text TOLD by the authors' own Lean function (tested against real Go, not proved from fmt's source: count such statements apart). THE CARD IS WHAT COUNTS. Prove the row's statement (the work); the ties are given (YtmfilaagpobmbaaGreatDoorTie.lean); close each card by the builder's one call (the guide's Derived/Test/ToyasCard.lean, 'card_holds'). Laid BY PROGRAM, IN A SANDBOX (cutbox-door.mjs). By AI agents, Wed Nov 11 2026. No macro, syntax, notation, axiom, sorry.
-/
import Derived.Test.YtmfilaagpobmbaaGreatDoorRows
import GoSem.ClaimSeven
namespace Go.Proofs.YtmfilaagpobmbaaGreatDoor
namespace Rows

/-- THE TIED CARD OF 'vidimuslaw06.PartOpens'. -/
def partOpensCard : Claim7 := { stood := { row := partOpensRow, standIns := [], harness := (true, "4fbd506b90b5c45b37d70bdf18ed765bdf5d01a36712a9007f3b1655115920ef"), looks := false }, kinds := [], alts := [], laidByText := true, laidKinds := [.data, .data], laidTests := true, laidLooks := .later }
def PartOpensCardSaid : Prop := Claim7.holds Tryz.pinned (.plain (OpenSpec.ofChange partOpensSpec)) partOpensCard

/-- THE TIED CARD OF 'vidimuslaw06.PartOther'. -/
def partOtherCard : Claim7 := { stood := { row := partOtherRow, standIns := [], harness := (true, "4fbd506b90b5c45b37d70bdf18ed765bdf5d01a36712a9007f3b1655115920ef"), looks := false }, kinds := [], alts := [], laidByText := true, laidKinds := [.data, .data], laidTests := true, laidLooks := .later }
def PartOtherCardSaid : Prop := Claim7.holds Tryz.pinned (.plain (OpenSpec.ofChange partOtherSpec)) partOtherCard

/-- THE TIED CARD OF 'vidimuslaw06.PartShows'. -/
def partShowsCard : Claim7 := { stood := { row := partShowsRow, standIns := [], harness := (true, "4fbd506b90b5c45b37d70bdf18ed765bdf5d01a36712a9007f3b1655115920ef"), looks := false }, kinds := [], alts := [], laidByText := true, laidKinds := [.data, .data], laidTests := true, laidLooks := .later }
def PartShowsCardSaid : Prop := Claim7.holds Tryz.pinned (.plain (OpenSpec.ofChange partShowsSpec)) partShowsCard

/-- THE TIED CARD OF 'vidimuslaw06.PartSound'. -/
def partSoundCard : Claim7 := { stood := { row := partSoundRow, standIns := [], harness := (true, "4fbd506b90b5c45b37d70bdf18ed765bdf5d01a36712a9007f3b1655115920ef"), looks := false }, kinds := [], alts := [], laidByText := true, laidKinds := [.data, .data], laidTests := true, laidLooks := .later }
def PartSoundCardSaid : Prop := Claim7.holds Tryz.pinned (.plain (OpenSpec.ofChange partSoundSpec)) partSoundCard

/-- THE SECOND FORM's CARD OF 'vidimuslaw06.PartOpens'. -/
def partOpensUptoCard : Claim7 := { stood := { row := partOpensUptoRow, standIns := [], harness := (true, "4fbd506b90b5c45b37d70bdf18ed765bdf5d01a36712a9007f3b1655115920ef"), looks := false }, kinds := [], alts := [], laidByText := true, laidKinds := [.data, .data], laidTests := true, laidLooks := .later }
def PartOpensUptoCardSaid : Prop := Claim7.holds Tryz.pinned (.plain (OpenSpec.upto partOpensSpec)) partOpensUptoCard

/-- THE SECOND FORM's CARD OF 'vidimuslaw06.PartOther'. -/
def partOtherUptoCard : Claim7 := { stood := { row := partOtherUptoRow, standIns := [], harness := (true, "4fbd506b90b5c45b37d70bdf18ed765bdf5d01a36712a9007f3b1655115920ef"), looks := false }, kinds := [], alts := [], laidByText := true, laidKinds := [.data, .data], laidTests := true, laidLooks := .later }
def PartOtherUptoCardSaid : Prop := Claim7.holds Tryz.pinned (.plain (OpenSpec.upto partOtherSpec)) partOtherUptoCard

/-- THE SECOND FORM's CARD OF 'vidimuslaw06.PartShows'. -/
def partShowsUptoCard : Claim7 := { stood := { row := partShowsUptoRow, standIns := [], harness := (true, "4fbd506b90b5c45b37d70bdf18ed765bdf5d01a36712a9007f3b1655115920ef"), looks := false }, kinds := [], alts := [], laidByText := true, laidKinds := [.data, .data], laidTests := true, laidLooks := .later }
def PartShowsUptoCardSaid : Prop := Claim7.holds Tryz.pinned (.plain (OpenSpec.upto partShowsSpec)) partShowsUptoCard

/-- THE SECOND FORM's CARD OF 'vidimuslaw06.PartSound'. -/
def partSoundUptoCard : Claim7 := { stood := { row := partSoundUptoRow, standIns := [], harness := (true, "4fbd506b90b5c45b37d70bdf18ed765bdf5d01a36712a9007f3b1655115920ef"), looks := false }, kinds := [], alts := [], laidByText := true, laidKinds := [.data, .data], laidTests := true, laidLooks := .later }
def PartSoundUptoCardSaid : Prop := Claim7.holds Tryz.pinned (.plain (OpenSpec.upto partSoundSpec)) partSoundUptoCard
end Rows
end Go.Proofs.YtmfilaagpobmbaaGreatDoor
