/-
  DERIVED. GIVEN WITH THE SEED: THE CARDS: each row of YtkpmcdfmdfoheaaDoorRows.lean that lists a variable, with what it lists TIED to the program's text (the seventh form; the later family's looks); each row that meets fmt, with fmt's text TOLD by the authors' own Lean function (tested against real Go, not proved from fmt's source: count such statements apart). THE CARD IS WHAT COUNTS. Prove the row's statement (the work); the ties are given (YtkpmcdfmdfoheaaDoorTie.lean); close each card by the builder's one call (the guide's Derived/Test/ToyasCard.lean, 'card_holds'). Laid BY PROGRAM, IN A SANDBOX (cutbox-door.mjs). By AI agents, Wed Nov 11 2026. No macro, syntax, notation, axiom, sorry.
-/
import Derived.Test.YtkpmcdfmdfoheaaDoorRows
import GoSem.ClaimSeven
namespace Go.Proofs.YtkpmcdfmdfoheaaDoor
namespace Rows

/-- THE TIED CARD OF 'vidimuslaw05.TrieOne'. -/
def trieOneCard : Claim7 := { stood := { row := trieOneRow, standIns := [], harness := (true, "0d161cf7022e61fcb307b2552cf4301380dcec6221ddaf6e45b56a8e7091c598"), looks := false }, kinds := [], alts := [], laidByText := true, laidKinds := [.data, .data], laidTests := true, laidLooks := .later }
def TrieOneCardSaid : Prop := Claim7.holds Tryd.pinned (.plain (OpenSpec.ofChange trieOneSpec)) trieOneCard

/-- THE TIED CARD OF 'vidimuslaw05.TrieBack'. -/
def trieBackCard : Claim7 := { stood := { row := trieBackRow, standIns := [], harness := (true, "0d161cf7022e61fcb307b2552cf4301380dcec6221ddaf6e45b56a8e7091c598"), looks := false }, kinds := [], alts := [], laidByText := true, laidKinds := [.data, .data], laidTests := true, laidLooks := .later }
def TrieBackCardSaid : Prop := Claim7.holds Tryd.pinned (.plain (OpenSpec.ofChange trieBackSpec)) trieBackCard

/-- THE TIED CARD OF 'vidimuslaw05.TrieLeaf'. -/
def trieLeafCard : Claim7 := { stood := { row := trieLeafRow, standIns := [], harness := (true, "0d161cf7022e61fcb307b2552cf4301380dcec6221ddaf6e45b56a8e7091c598"), looks := false }, kinds := [], alts := [], laidByText := true, laidKinds := [.data, .data], laidTests := true, laidLooks := .later }
def TrieLeafCardSaid : Prop := Claim7.holds Tryd.pinned (.plain (OpenSpec.ofChange trieLeafSpec)) trieLeafCard

/-- THE TIED CARD OF 'vidimuslaw05.TrieRuns'. -/
def trieRunsCard : Claim7 := { stood := { row := trieRunsRow, standIns := [], harness := (true, "0d161cf7022e61fcb307b2552cf4301380dcec6221ddaf6e45b56a8e7091c598"), looks := false }, kinds := [], alts := [], laidByText := true, laidKinds := [.data, .data], laidTests := true, laidLooks := .later }
def TrieRunsCardSaid : Prop := Claim7.holds Tryd.pinned (.plain (OpenSpec.ofChange trieRunsSpec)) trieRunsCard

/-- THE TIED CARD OF 'vidimuslaw05.TrieKeeps'. -/
def trieKeepsCard : Claim7 := { stood := { row := trieKeepsRow, standIns := [], harness := (true, "0d161cf7022e61fcb307b2552cf4301380dcec6221ddaf6e45b56a8e7091c598"), looks := false }, kinds := [], alts := [], laidByText := true, laidKinds := [.data, .data], laidTests := true, laidLooks := .later }
def TrieKeepsCardSaid : Prop := Claim7.holds Tryd.pinned (.plain (OpenSpec.ofChange trieKeepsSpec)) trieKeepsCard

/-- THE TIED CARD OF 'vidimuslaw05.TrieAsks'. -/
def trieAsksCard : Claim7 := { stood := { row := trieAsksRow, standIns := [], harness := (true, "0d161cf7022e61fcb307b2552cf4301380dcec6221ddaf6e45b56a8e7091c598"), looks := false }, kinds := [], alts := [], laidByText := true, laidKinds := [.data, .data], laidTests := true, laidLooks := .later }
def TrieAsksCardSaid : Prop := Claim7.holds Tryd.pinned (.plain (OpenSpec.ofChange trieAsksSpec)) trieAsksCard

/-- THE TIED CARD OF 'vidimuslaw05.TrieParts'. -/
def triePartsCard : Claim7 := { stood := { row := triePartsRow, standIns := [], harness := (true, "0d161cf7022e61fcb307b2552cf4301380dcec6221ddaf6e45b56a8e7091c598"), looks := false }, kinds := [], alts := [], laidByText := true, laidKinds := [.data, .data], laidTests := true, laidLooks := .later }
def TriePartsCardSaid : Prop := Claim7.holds Tryd.pinned (.plain (OpenSpec.ofChange triePartsSpec)) triePartsCard

/-- THE SECOND FORM's CARD OF 'vidimuslaw05.TrieOne'. -/
def trieOneUptoCard : Claim7 := { stood := { row := trieOneUptoRow, standIns := [], harness := (true, "0d161cf7022e61fcb307b2552cf4301380dcec6221ddaf6e45b56a8e7091c598"), looks := false }, kinds := [], alts := [], laidByText := true, laidKinds := [.data, .data], laidTests := true, laidLooks := .later }
def TrieOneUptoCardSaid : Prop := Claim7.holds Tryd.pinned (.plain (OpenSpec.upto trieOneSpec)) trieOneUptoCard

/-- THE SECOND FORM's CARD OF 'vidimuslaw05.TrieBack'. -/
def trieBackUptoCard : Claim7 := { stood := { row := trieBackUptoRow, standIns := [], harness := (true, "0d161cf7022e61fcb307b2552cf4301380dcec6221ddaf6e45b56a8e7091c598"), looks := false }, kinds := [], alts := [], laidByText := true, laidKinds := [.data, .data], laidTests := true, laidLooks := .later }
def TrieBackUptoCardSaid : Prop := Claim7.holds Tryd.pinned (.plain (OpenSpec.upto trieBackSpec)) trieBackUptoCard

/-- THE SECOND FORM's CARD OF 'vidimuslaw05.TrieLeaf'. -/
def trieLeafUptoCard : Claim7 := { stood := { row := trieLeafUptoRow, standIns := [], harness := (true, "0d161cf7022e61fcb307b2552cf4301380dcec6221ddaf6e45b56a8e7091c598"), looks := false }, kinds := [], alts := [], laidByText := true, laidKinds := [.data, .data], laidTests := true, laidLooks := .later }
def TrieLeafUptoCardSaid : Prop := Claim7.holds Tryd.pinned (.plain (OpenSpec.upto trieLeafSpec)) trieLeafUptoCard

/-- THE SECOND FORM's CARD OF 'vidimuslaw05.TrieRuns'. -/
def trieRunsUptoCard : Claim7 := { stood := { row := trieRunsUptoRow, standIns := [], harness := (true, "0d161cf7022e61fcb307b2552cf4301380dcec6221ddaf6e45b56a8e7091c598"), looks := false }, kinds := [], alts := [], laidByText := true, laidKinds := [.data, .data], laidTests := true, laidLooks := .later }
def TrieRunsUptoCardSaid : Prop := Claim7.holds Tryd.pinned (.plain (OpenSpec.upto trieRunsSpec)) trieRunsUptoCard

/-- THE SECOND FORM's CARD OF 'vidimuslaw05.TrieKeeps'. -/
def trieKeepsUptoCard : Claim7 := { stood := { row := trieKeepsUptoRow, standIns := [], harness := (true, "0d161cf7022e61fcb307b2552cf4301380dcec6221ddaf6e45b56a8e7091c598"), looks := false }, kinds := [], alts := [], laidByText := true, laidKinds := [.data, .data], laidTests := true, laidLooks := .later }
def TrieKeepsUptoCardSaid : Prop := Claim7.holds Tryd.pinned (.plain (OpenSpec.upto trieKeepsSpec)) trieKeepsUptoCard

/-- THE SECOND FORM's CARD OF 'vidimuslaw05.TrieAsks'. -/
def trieAsksUptoCard : Claim7 := { stood := { row := trieAsksUptoRow, standIns := [], harness := (true, "0d161cf7022e61fcb307b2552cf4301380dcec6221ddaf6e45b56a8e7091c598"), looks := false }, kinds := [], alts := [], laidByText := true, laidKinds := [.data, .data], laidTests := true, laidLooks := .later }
def TrieAsksUptoCardSaid : Prop := Claim7.holds Tryd.pinned (.plain (OpenSpec.upto trieAsksSpec)) trieAsksUptoCard

/-- THE SECOND FORM's CARD OF 'vidimuslaw05.TrieParts'. -/
def triePartsUptoCard : Claim7 := { stood := { row := triePartsUptoRow, standIns := [], harness := (true, "0d161cf7022e61fcb307b2552cf4301380dcec6221ddaf6e45b56a8e7091c598"), looks := false }, kinds := [], alts := [], laidByText := true, laidKinds := [.data, .data], laidTests := true, laidLooks := .later }
def TriePartsUptoCardSaid : Prop := Claim7.holds Tryd.pinned (.plain (OpenSpec.upto triePartsSpec)) triePartsUptoCard
end Rows
end Go.Proofs.YtkpmcdfmdfoheaaDoor
