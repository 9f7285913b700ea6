/-
  DERIVED. GIVEN WITH THE SEED: THE CARDS: each row of YtflnccklneafnaaGreatDoorRows.lean that lists a variable, with what it lists TIED to the program's text (the seventh form; the later family's looks); each row that meets fmt, with fmt's text TOLD by the authors' own Lean function (tested against real Go, not proved from fmt's source: count such statements apart). THE CARD IS WHAT COUNTS. Prove the row's statement (the work); the ties are given (YtflnccklneafnaaGreatDoorTie.lean); close each card by the builder's one call (the guide's Derived/Test/ToyasCard.lean, 'card_holds'). Laid BY PROGRAM, IN A SANDBOX (cutbox-door.mjs). By AI agents, Wed Nov 11 2026. No macro, syntax, notation, axiom, sorry.
-/
import Derived.Test.YtflnccklneafnaaGreatDoorRows
import GoSem.ClaimSeven
namespace Go.Proofs.YtflnccklneafnaaGreatDoor
namespace Rows

/-- THE TIED CARD OF 'narratortop.TopChunks'. -/
def topChunksCard : Claim7 := { stood := { row := topChunksRow, standIns := [], harness := (true, "d4d06a73089537d8b07060eb11d38df6b55a37b336c7d87aafd612c5ce560fdd"), looks := false }, kinds := [], alts := [], laidByText := true, laidKinds := [.data, .data, .data, .data, .data, .pinned], laidTests := true, laidLooks := .later }
def TopChunksCardSaid : Prop := Claim7.holds Tryz.pinned (.plain (OpenSpec.ofChange topChunksSpec)) topChunksCard

/-- THE TIED CARD OF 'narratortop.TopProperTerminal'. -/
def topProperTerminalCard : Claim7 := { stood := { row := topProperTerminalRow, standIns := [], harness := (true, "d4d06a73089537d8b07060eb11d38df6b55a37b336c7d87aafd612c5ce560fdd"), looks := false }, kinds := [], alts := [], laidByText := true, laidKinds := [.data, .data, .data, .data, .data, .pinned], laidTests := true, laidLooks := .later }
def TopProperTerminalCardSaid : Prop := Claim7.holds Tryz.pinned (.plain (OpenSpec.ofChange topProperTerminalSpec)) topProperTerminalCard

/-- THE TIED CARD OF 'narratortop.TopNoninterference'. -/
def topNoninterferenceCard : Claim7 := { stood := { row := topNoninterferenceRow, standIns := [], harness := (true, "d4d06a73089537d8b07060eb11d38df6b55a37b336c7d87aafd612c5ce560fdd"), looks := false }, kinds := [], alts := [], laidByText := true, laidKinds := [.data, .data, .data, .data, .data, .pinned], laidTests := true, laidLooks := .later }
def TopNoninterferenceCardSaid : Prop := Claim7.holds Tryz.pinned (.plain (OpenSpec.ofChange topNoninterferenceSpec)) topNoninterferenceCard

/-- THE SECOND FORM's CARD OF 'narratortop.TopChunks'. -/
def topChunksUptoCard : Claim7 := { stood := { row := topChunksUptoRow, standIns := [], harness := (true, "d4d06a73089537d8b07060eb11d38df6b55a37b336c7d87aafd612c5ce560fdd"), looks := false }, kinds := [], alts := [], laidByText := true, laidKinds := [.data, .data, .data, .data, .data, .pinned], laidTests := true, laidLooks := .later }
def TopChunksUptoCardSaid : Prop := Claim7.holds Tryz.pinned (.plain (OpenSpec.upto topChunksSpec)) topChunksUptoCard

/-- THE SECOND FORM's CARD OF 'narratortop.TopProperTerminal'. -/
def topProperTerminalUptoCard : Claim7 := { stood := { row := topProperTerminalUptoRow, standIns := [], harness := (true, "d4d06a73089537d8b07060eb11d38df6b55a37b336c7d87aafd612c5ce560fdd"), looks := false }, kinds := [], alts := [], laidByText := true, laidKinds := [.data, .data, .data, .data, .data, .pinned], laidTests := true, laidLooks := .later }
def TopProperTerminalUptoCardSaid : Prop := Claim7.holds Tryz.pinned (.plain (OpenSpec.upto topProperTerminalSpec)) topProperTerminalUptoCard

/-- THE SECOND FORM's CARD OF 'narratortop.TopNoninterference'. -/
def topNoninterferenceUptoCard : Claim7 := { stood := { row := topNoninterferenceUptoRow, standIns := [], harness := (true, "d4d06a73089537d8b07060eb11d38df6b55a37b336c7d87aafd612c5ce560fdd"), looks := false }, kinds := [], alts := [], laidByText := true, laidKinds := [.data, .data, .data, .data, .data, .pinned], laidTests := true, laidLooks := .later }
def TopNoninterferenceUptoCardSaid : Prop := Claim7.holds Tryz.pinned (.plain (OpenSpec.upto topNoninterferenceSpec)) topNoninterferenceUptoCard
end Rows
end Go.Proofs.YtflnccklneafnaaGreatDoor
