/-
  DERIVED. GIVEN WITH THE SEED: THE CARDS: each row of YtgaeknackpfdcaaDoorRows.lean that lists a variable, with what it lists TIED to the program's text (the seventh form; the later family's looks); each row that meets fmt, with fmt's text TOLD by the authors' own Lean function (tested against real Go, not proved from fmt's source: count such statements apart). THE CARD IS WHAT COUNTS. Prove the row's statement (the work); the ties are given (YtgaeknackpfdcaaDoorTie.lean); close each card by the builder's one call (the guide's Derived/Test/ToyasCard.lean, 'card_holds'). Laid BY PROGRAM, IN A SANDBOX (cutbox-door.mjs). By AI agents, Wed Nov 11 2026. No macro, syntax, notation, axiom, sorry.
-/
import Derived.Test.YtgaeknackpfdcaaDoorRows
import GoSem.ClaimSeven
namespace Go.Proofs.YtgaeknackpfdcaaDoor
namespace Rows

/-- THE TIED CARD OF 'narratorlaw48.ScriptvmRun'. -/
def scriptvmRunCard : Claim7 := { stood := { row := scriptvmRunRow, standIns := [], harness := (true, "9e6e89fa7a943d06e91756bc09fb3758c4f55f8eaf771093d3a66bebea25ce20"), looks := false }, kinds := [], alts := [], laidByText := true, laidKinds := [.data, .data], laidTests := true, laidLooks := .later }
def ScriptvmRunCardSaid : Prop := Claim7.holds Tryd.pinned (.plain (OpenSpec.ofChange scriptvmRunSpec)) scriptvmRunCard

/-- THE TIED CARD OF 'narratorlaw48.ScriptvmDecide'. -/
def scriptvmDecideCard : Claim7 := { stood := { row := scriptvmDecideRow, standIns := [], harness := (true, "9e6e89fa7a943d06e91756bc09fb3758c4f55f8eaf771093d3a66bebea25ce20"), looks := false }, kinds := [], alts := [], laidByText := true, laidKinds := [.data, .data], laidTests := true, laidLooks := .later }
def ScriptvmDecideCardSaid : Prop := Claim7.holds Tryd.pinned (.plain (OpenSpec.ofChange scriptvmDecideSpec)) scriptvmDecideCard

/-- THE TIED CARD OF 'narratorlaw48.ScriptvmFuel'. -/
def scriptvmFuelCard : Claim7 := { stood := { row := scriptvmFuelRow, standIns := [], harness := (true, "9e6e89fa7a943d06e91756bc09fb3758c4f55f8eaf771093d3a66bebea25ce20"), looks := false }, kinds := [], alts := [], laidByText := true, laidKinds := [.data, .data], laidTests := true, laidLooks := .later }
def ScriptvmFuelCardSaid : Prop := Claim7.holds Tryd.pinned (.plain (OpenSpec.ofChange scriptvmFuelSpec)) scriptvmFuelCard

/-- THE TIED CARD OF 'narratorlaw48.ScriptvmHidden'. -/
def scriptvmHiddenCard : Claim7 := { stood := { row := scriptvmHiddenRow, standIns := [], harness := (true, "9e6e89fa7a943d06e91756bc09fb3758c4f55f8eaf771093d3a66bebea25ce20"), looks := false }, kinds := [], alts := [], laidByText := true, laidKinds := [.data, .data], laidTests := true, laidLooks := .later }
def ScriptvmHiddenCardSaid : Prop := Claim7.holds Tryd.pinned (.plain (OpenSpec.ofChange scriptvmHiddenSpec)) scriptvmHiddenCard

/-- THE TIED CARD OF 'narratorlaw48.ScriptvmNumbers'. -/
def scriptvmNumbersCard : Claim7 := { stood := { row := scriptvmNumbersRow, standIns := [], harness := (true, "9e6e89fa7a943d06e91756bc09fb3758c4f55f8eaf771093d3a66bebea25ce20"), looks := false }, kinds := [], alts := [], laidByText := true, laidKinds := [.data, .data], laidTests := true, laidLooks := .later }
def ScriptvmNumbersCardSaid : Prop := Claim7.holds Tryd.pinned (.plain (OpenSpec.ofChange scriptvmNumbersSpec)) scriptvmNumbersCard

/-- THE TIED CARD OF 'narratorlaw48.ScriptvmJoins'. -/
def scriptvmJoinsCard : Claim7 := { stood := { row := scriptvmJoinsRow, standIns := [], harness := (true, "9e6e89fa7a943d06e91756bc09fb3758c4f55f8eaf771093d3a66bebea25ce20"), looks := false }, kinds := [], alts := [], laidByText := true, laidKinds := [.data, .data], laidTests := true, laidLooks := .later }
def ScriptvmJoinsCardSaid : Prop := Claim7.holds Tryd.pinned (.plain (OpenSpec.ofChange scriptvmJoinsSpec)) scriptvmJoinsCard

/-- THE TIED CARD OF 'narratorlaw48.ScriptvmVerified'. -/
def scriptvmVerifiedCard : Claim7 := { stood := { row := scriptvmVerifiedRow, standIns := [], harness := (true, "9e6e89fa7a943d06e91756bc09fb3758c4f55f8eaf771093d3a66bebea25ce20"), looks := false }, kinds := [], alts := [], laidByText := true, laidKinds := [.data, .data], laidTests := true, laidLooks := .later }
def ScriptvmVerifiedCardSaid : Prop := Claim7.holds Tryd.pinned (.plain (OpenSpec.ofChange scriptvmVerifiedSpec)) scriptvmVerifiedCard

/-- THE TIED CARD OF 'narratorlaw48.ScriptvmIndependent'. -/
def scriptvmIndependentCard : Claim7 := { stood := { row := scriptvmIndependentRow, standIns := [], harness := (true, "9e6e89fa7a943d06e91756bc09fb3758c4f55f8eaf771093d3a66bebea25ce20"), looks := false }, kinds := [], alts := [], laidByText := true, laidKinds := [.data, .data], laidTests := true, laidLooks := .later }
def ScriptvmIndependentCardSaid : Prop := Claim7.holds Tryd.pinned (.plain (OpenSpec.ofChange scriptvmIndependentSpec)) scriptvmIndependentCard

/-- THE SECOND FORM's CARD OF 'narratorlaw48.ScriptvmRun'. -/
def scriptvmRunUptoCard : Claim7 := { stood := { row := scriptvmRunUptoRow, standIns := [], harness := (true, "9e6e89fa7a943d06e91756bc09fb3758c4f55f8eaf771093d3a66bebea25ce20"), looks := false }, kinds := [], alts := [], laidByText := true, laidKinds := [.data, .data], laidTests := true, laidLooks := .later }
def ScriptvmRunUptoCardSaid : Prop := Claim7.holds Tryd.pinned (.plain (OpenSpec.upto scriptvmRunSpec)) scriptvmRunUptoCard

/-- THE SECOND FORM's CARD OF 'narratorlaw48.ScriptvmDecide'. -/
def scriptvmDecideUptoCard : Claim7 := { stood := { row := scriptvmDecideUptoRow, standIns := [], harness := (true, "9e6e89fa7a943d06e91756bc09fb3758c4f55f8eaf771093d3a66bebea25ce20"), looks := false }, kinds := [], alts := [], laidByText := true, laidKinds := [.data, .data], laidTests := true, laidLooks := .later }
def ScriptvmDecideUptoCardSaid : Prop := Claim7.holds Tryd.pinned (.plain (OpenSpec.upto scriptvmDecideSpec)) scriptvmDecideUptoCard

/-- THE SECOND FORM's CARD OF 'narratorlaw48.ScriptvmFuel'. -/
def scriptvmFuelUptoCard : Claim7 := { stood := { row := scriptvmFuelUptoRow, standIns := [], harness := (true, "9e6e89fa7a943d06e91756bc09fb3758c4f55f8eaf771093d3a66bebea25ce20"), looks := false }, kinds := [], alts := [], laidByText := true, laidKinds := [.data, .data], laidTests := true, laidLooks := .later }
def ScriptvmFuelUptoCardSaid : Prop := Claim7.holds Tryd.pinned (.plain (OpenSpec.upto scriptvmFuelSpec)) scriptvmFuelUptoCard

/-- THE SECOND FORM's CARD OF 'narratorlaw48.ScriptvmHidden'. -/
def scriptvmHiddenUptoCard : Claim7 := { stood := { row := scriptvmHiddenUptoRow, standIns := [], harness := (true, "9e6e89fa7a943d06e91756bc09fb3758c4f55f8eaf771093d3a66bebea25ce20"), looks := false }, kinds := [], alts := [], laidByText := true, laidKinds := [.data, .data], laidTests := true, laidLooks := .later }
def ScriptvmHiddenUptoCardSaid : Prop := Claim7.holds Tryd.pinned (.plain (OpenSpec.upto scriptvmHiddenSpec)) scriptvmHiddenUptoCard

/-- THE SECOND FORM's CARD OF 'narratorlaw48.ScriptvmNumbers'. -/
def scriptvmNumbersUptoCard : Claim7 := { stood := { row := scriptvmNumbersUptoRow, standIns := [], harness := (true, "9e6e89fa7a943d06e91756bc09fb3758c4f55f8eaf771093d3a66bebea25ce20"), looks := false }, kinds := [], alts := [], laidByText := true, laidKinds := [.data, .data], laidTests := true, laidLooks := .later }
def ScriptvmNumbersUptoCardSaid : Prop := Claim7.holds Tryd.pinned (.plain (OpenSpec.upto scriptvmNumbersSpec)) scriptvmNumbersUptoCard

/-- THE SECOND FORM's CARD OF 'narratorlaw48.ScriptvmJoins'. -/
def scriptvmJoinsUptoCard : Claim7 := { stood := { row := scriptvmJoinsUptoRow, standIns := [], harness := (true, "9e6e89fa7a943d06e91756bc09fb3758c4f55f8eaf771093d3a66bebea25ce20"), looks := false }, kinds := [], alts := [], laidByText := true, laidKinds := [.data, .data], laidTests := true, laidLooks := .later }
def ScriptvmJoinsUptoCardSaid : Prop := Claim7.holds Tryd.pinned (.plain (OpenSpec.upto scriptvmJoinsSpec)) scriptvmJoinsUptoCard

/-- THE SECOND FORM's CARD OF 'narratorlaw48.ScriptvmVerified'. -/
def scriptvmVerifiedUptoCard : Claim7 := { stood := { row := scriptvmVerifiedUptoRow, standIns := [], harness := (true, "9e6e89fa7a943d06e91756bc09fb3758c4f55f8eaf771093d3a66bebea25ce20"), looks := false }, kinds := [], alts := [], laidByText := true, laidKinds := [.data, .data], laidTests := true, laidLooks := .later }
def ScriptvmVerifiedUptoCardSaid : Prop := Claim7.holds Tryd.pinned (.plain (OpenSpec.upto scriptvmVerifiedSpec)) scriptvmVerifiedUptoCard

/-- THE SECOND FORM's CARD OF 'narratorlaw48.ScriptvmIndependent'. -/
def scriptvmIndependentUptoCard : Claim7 := { stood := { row := scriptvmIndependentUptoRow, standIns := [], harness := (true, "9e6e89fa7a943d06e91756bc09fb3758c4f55f8eaf771093d3a66bebea25ce20"), looks := false }, kinds := [], alts := [], laidByText := true, laidKinds := [.data, .data], laidTests := true, laidLooks := .later }
def ScriptvmIndependentUptoCardSaid : Prop := Claim7.holds Tryd.pinned (.plain (OpenSpec.upto scriptvmIndependentSpec)) scriptvmIndependentUptoCard
end Rows
end Go.Proofs.YtgaeknackpfdcaaDoor
