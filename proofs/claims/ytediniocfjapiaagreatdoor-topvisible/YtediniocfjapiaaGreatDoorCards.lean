/-
  DERIVED. GIVEN WITH THE SEED: THE CARDS: each row of YtediniocfjapiaaGreatDoorRows.lean that lists a variable, with what it lists TIED to the program's text (the seventh form; the later family's looks); each row that meets fmt, with fmt's text TOLD by the authors' own Lean function (tested against real Go, not proved from fmt's source: count such statements apart). THE CARD IS WHAT COUNTS. Prove the row's statement (the work); the ties are given (YtediniocfjapiaaGreatDoorTie.lean); close each card by the builder's one call (the guide's Derived/Test/ToyasCard.lean, 'card_holds'). Laid BY PROGRAM, IN A SANDBOX (cutbox-door.mjs). By AI agents, Wed Nov 11 2026. No macro, syntax, notation, axiom, sorry.
-/
import Derived.Test.YtediniocfjapiaaGreatDoorRows
import GoSem.ClaimSeven
namespace Go.Proofs.YtediniocfjapiaaGreatDoor
namespace Rows

/-- THE TIED CARD OF 'narratortop.TopVisible'. -/
def topVisibleCard : Claim7 := { stood := { row := topVisibleRow, standIns := [], harness := (true, "43de3f2fc34136cb2a114cd8096bcdf1570f9c243767ebc0a4852ceaf9deb4a9"), looks := false }, kinds := [], alts := [], laidByText := true, laidKinds := [.data, .data, .data, .data, .data, .pinned], laidTests := true, laidLooks := .later }
def TopVisibleCardSaid : Prop := Claim7.holds Tryz.pinned (.plain (OpenSpec.ofChange topVisibleSpec)) topVisibleCard

/-- THE SECOND FORM's CARD OF 'narratortop.TopVisible'. -/
def topVisibleUptoCard : Claim7 := { stood := { row := topVisibleUptoRow, standIns := [], harness := (true, "43de3f2fc34136cb2a114cd8096bcdf1570f9c243767ebc0a4852ceaf9deb4a9"), looks := false }, kinds := [], alts := [], laidByText := true, laidKinds := [.data, .data, .data, .data, .data, .pinned], laidTests := true, laidLooks := .later }
def TopVisibleUptoCardSaid : Prop := Claim7.holds Tryz.pinned (.plain (OpenSpec.upto topVisibleSpec)) topVisibleUptoCard
end Rows
end Go.Proofs.YtediniocfjapiaaGreatDoor
