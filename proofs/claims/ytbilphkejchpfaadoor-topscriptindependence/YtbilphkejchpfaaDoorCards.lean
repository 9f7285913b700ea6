/-
  DERIVED. GIVEN WITH THE SEED: THE CARDS: each row of YtbilphkejchpfaaDoorRows.lean that lists a variable, with what it lists TIED to the program's text (the seventh form; the later family's looks); each row that meets fmt, with fmt's text TOLD by the authors' own Lean function (tested against real Go, not proved from fmt's source: count such statements apart). THE CARD IS WHAT COUNTS. Prove the row's statement (the work); the ties are given (YtbilphkejchpfaaDoorTie.lean); close each card by the builder's one call (the guide's Derived/Test/ToyasCard.lean, 'card_holds'). Laid BY PROGRAM, IN A SANDBOX (cutbox-door.mjs). By AI agents, Wed Nov 11 2026. No macro, syntax, notation, axiom, sorry.
-/
import Derived.Test.YtbilphkejchpfaaDoorRows
import GoSem.ClaimSeven
namespace Go.Proofs.YtbilphkejchpfaaDoor
namespace Rows

/-- THE TIED CARD OF 'narratortop.TopScriptIndependence'. -/
def topScriptIndependenceCard : Claim7 := { stood := { row := topScriptIndependenceRow, standIns := [], harness := (true, "9bee98e081bb31ff43df4771d55548558f323a84c6798de2f63255ceaa79daef"), looks := false }, kinds := [], alts := [], laidByText := true, laidKinds := [.data, .data, .data, .data, .data, .data, .pinned], laidTests := true, laidLooks := .later }
def TopScriptIndependenceCardSaid : Prop := Claim7.holds Tryd.pinned (.plain (OpenSpec.ofChange topScriptIndependenceSpec)) topScriptIndependenceCard

/-- THE SECOND FORM's CARD OF 'narratortop.TopScriptIndependence'. -/
def topScriptIndependenceUptoCard : Claim7 := { stood := { row := topScriptIndependenceUptoRow, standIns := [], harness := (true, "9bee98e081bb31ff43df4771d55548558f323a84c6798de2f63255ceaa79daef"), looks := false }, kinds := [], alts := [], laidByText := true, laidKinds := [.data, .data, .data, .data, .data, .data, .pinned], laidTests := true, laidLooks := .later }
def TopScriptIndependenceUptoCardSaid : Prop := Claim7.holds Tryd.pinned (.plain (OpenSpec.upto topScriptIndependenceSpec)) topScriptIndependenceUptoCard
end Rows
end Go.Proofs.YtbilphkejchpfaaDoor
