/-
  DERIVED. GIVEN WITH THE SEED: THE CARDS: each row of YtbacmnbjkhjopaaDoorRows.lean that lists a variable, with what it lists TIED to the program's text (the seventh form; the later family's looks); each row that meets fmt, with fmt's text TOLD by the authors' own Lean function (tested against real Go, not proved from fmt's source: count such statements apart). THE CARD IS WHAT COUNTS. Prove the row's statement (the work); the ties are given (YtbacmnbjkhjopaaDoorTie.lean); close each card by the builder's one call (the guide's Derived/Test/ToyasCard.lean, 'card_holds'). Laid BY PROGRAM, IN A SANDBOX (cutbox-door.mjs). By AI agents, Wed Nov 11 2026. No macro, syntax, notation, axiom, sorry.
-/
import Derived.Test.YtbacmnbjkhjopaaDoorRows
import GoSem.ClaimSeven
namespace Go.Proofs.YtbacmnbjkhjopaaDoor
namespace Rows

/-- THE TIED CARD OF 'narratorlaw47.ScriptverifyDepths'. -/
def scriptverifyDepthsCard : Claim7 := { stood := { row := scriptverifyDepthsRow, standIns := [], harness := (true, "981c6cb183bb81abbdac906878550a4280b26a48f34e0a9542754cb4f1d15ee1"), looks := false }, kinds := [], alts := [], laidByText := true, laidKinds := [.data, .data], laidTests := true, laidLooks := .later }
def ScriptverifyDepthsCardSaid : Prop := Claim7.holds Tryd.pinned (.plain (OpenSpec.ofChange scriptverifyDepthsSpec)) scriptverifyDepthsCard

/-- THE TIED CARD OF 'narratorlaw47.ScriptverifyFuel'. -/
def scriptverifyFuelCard : Claim7 := { stood := { row := scriptverifyFuelRow, standIns := [], harness := (true, "981c6cb183bb81abbdac906878550a4280b26a48f34e0a9542754cb4f1d15ee1"), looks := false }, kinds := [], alts := [], laidByText := true, laidKinds := [.data, .data], laidTests := true, laidLooks := .later }
def ScriptverifyFuelCardSaid : Prop := Claim7.holds Tryd.pinned (.plain (OpenSpec.ofChange scriptverifyFuelSpec)) scriptverifyFuelCard

/-- THE TIED CARD OF 'narratorlaw47.ScriptverifyHidden'. -/
def scriptverifyHiddenCard : Claim7 := { stood := { row := scriptverifyHiddenRow, standIns := [], harness := (true, "981c6cb183bb81abbdac906878550a4280b26a48f34e0a9542754cb4f1d15ee1"), looks := false }, kinds := [], alts := [], laidByText := true, laidKinds := [.data, .data], laidTests := true, laidLooks := .later }
def ScriptverifyHiddenCardSaid : Prop := Claim7.holds Tryd.pinned (.plain (OpenSpec.ofChange scriptverifyHiddenSpec)) scriptverifyHiddenCard

/-- THE TIED CARD OF 'narratorlaw47.ScriptverifyPaths'. -/
def scriptverifyPathsCard : Claim7 := { stood := { row := scriptverifyPathsRow, standIns := [], harness := (true, "981c6cb183bb81abbdac906878550a4280b26a48f34e0a9542754cb4f1d15ee1"), looks := false }, kinds := [], alts := [], laidByText := true, laidKinds := [.data, .data], laidTests := true, laidLooks := .later }
def ScriptverifyPathsCardSaid : Prop := Claim7.holds Tryd.pinned (.plain (OpenSpec.ofChange scriptverifyPathsSpec)) scriptverifyPathsCard

/-- THE TIED CARD OF 'narratorlaw47.ScriptverifyLongest'. -/
def scriptverifyLongestCard : Claim7 := { stood := { row := scriptverifyLongestRow, standIns := [], harness := (true, "981c6cb183bb81abbdac906878550a4280b26a48f34e0a9542754cb4f1d15ee1"), looks := false }, kinds := [], alts := [], laidByText := true, laidKinds := [.data, .data], laidTests := true, laidLooks := .later }
def ScriptverifyLongestCardSaid : Prop := Claim7.holds Tryd.pinned (.plain (OpenSpec.ofChange scriptverifyLongestSpec)) scriptverifyLongestCard

/-- THE TIED CARD OF 'narratorlaw47.ScriptverifyReachable'. -/
def scriptverifyReachableCard : Claim7 := { stood := { row := scriptverifyReachableRow, standIns := [], harness := (true, "981c6cb183bb81abbdac906878550a4280b26a48f34e0a9542754cb4f1d15ee1"), looks := false }, kinds := [], alts := [], laidByText := true, laidKinds := [.data, .data], laidTests := true, laidLooks := .later }
def ScriptverifyReachableCardSaid : Prop := Claim7.holds Tryd.pinned (.plain (OpenSpec.ofChange scriptverifyReachableSpec)) scriptverifyReachableCard

/-- THE TIED CARD OF 'narratorlaw47.ScriptverifyPlain'. -/
def scriptverifyPlainCard : Claim7 := { stood := { row := scriptverifyPlainRow, standIns := [], harness := (true, "981c6cb183bb81abbdac906878550a4280b26a48f34e0a9542754cb4f1d15ee1"), looks := false }, kinds := [], alts := [], laidByText := true, laidKinds := [.data, .data], laidTests := true, laidLooks := .later }
def ScriptverifyPlainCardSaid : Prop := Claim7.holds Tryd.pinned (.plain (OpenSpec.ofChange scriptverifyPlainSpec)) scriptverifyPlainCard

/-- THE TIED CARD OF 'narratorlaw47.ScriptverifyMore'. -/
def scriptverifyMoreCard : Claim7 := { stood := { row := scriptverifyMoreRow, standIns := [], harness := (true, "981c6cb183bb81abbdac906878550a4280b26a48f34e0a9542754cb4f1d15ee1"), looks := false }, kinds := [], alts := [], laidByText := true, laidKinds := [.data, .data], laidTests := true, laidLooks := .later }
def ScriptverifyMoreCardSaid : Prop := Claim7.holds Tryd.pinned (.plain (OpenSpec.ofChange scriptverifyMoreSpec)) scriptverifyMoreCard

/-- THE SECOND FORM's CARD OF 'narratorlaw47.ScriptverifyDepths'. -/
def scriptverifyDepthsUptoCard : Claim7 := { stood := { row := scriptverifyDepthsUptoRow, standIns := [], harness := (true, "981c6cb183bb81abbdac906878550a4280b26a48f34e0a9542754cb4f1d15ee1"), looks := false }, kinds := [], alts := [], laidByText := true, laidKinds := [.data, .data], laidTests := true, laidLooks := .later }
def ScriptverifyDepthsUptoCardSaid : Prop := Claim7.holds Tryd.pinned (.plain (OpenSpec.upto scriptverifyDepthsSpec)) scriptverifyDepthsUptoCard

/-- THE SECOND FORM's CARD OF 'narratorlaw47.ScriptverifyFuel'. -/
def scriptverifyFuelUptoCard : Claim7 := { stood := { row := scriptverifyFuelUptoRow, standIns := [], harness := (true, "981c6cb183bb81abbdac906878550a4280b26a48f34e0a9542754cb4f1d15ee1"), looks := false }, kinds := [], alts := [], laidByText := true, laidKinds := [.data, .data], laidTests := true, laidLooks := .later }
def ScriptverifyFuelUptoCardSaid : Prop := Claim7.holds Tryd.pinned (.plain (OpenSpec.upto scriptverifyFuelSpec)) scriptverifyFuelUptoCard

/-- THE SECOND FORM's CARD OF 'narratorlaw47.ScriptverifyHidden'. -/
def scriptverifyHiddenUptoCard : Claim7 := { stood := { row := scriptverifyHiddenUptoRow, standIns := [], harness := (true, "981c6cb183bb81abbdac906878550a4280b26a48f34e0a9542754cb4f1d15ee1"), looks := false }, kinds := [], alts := [], laidByText := true, laidKinds := [.data, .data], laidTests := true, laidLooks := .later }
def ScriptverifyHiddenUptoCardSaid : Prop := Claim7.holds Tryd.pinned (.plain (OpenSpec.upto scriptverifyHiddenSpec)) scriptverifyHiddenUptoCard

/-- THE SECOND FORM's CARD OF 'narratorlaw47.ScriptverifyPaths'. -/
def scriptverifyPathsUptoCard : Claim7 := { stood := { row := scriptverifyPathsUptoRow, standIns := [], harness := (true, "981c6cb183bb81abbdac906878550a4280b26a48f34e0a9542754cb4f1d15ee1"), looks := false }, kinds := [], alts := [], laidByText := true, laidKinds := [.data, .data], laidTests := true, laidLooks := .later }
def ScriptverifyPathsUptoCardSaid : Prop := Claim7.holds Tryd.pinned (.plain (OpenSpec.upto scriptverifyPathsSpec)) scriptverifyPathsUptoCard

/-- THE SECOND FORM's CARD OF 'narratorlaw47.ScriptverifyLongest'. -/
def scriptverifyLongestUptoCard : Claim7 := { stood := { row := scriptverifyLongestUptoRow, standIns := [], harness := (true, "981c6cb183bb81abbdac906878550a4280b26a48f34e0a9542754cb4f1d15ee1"), looks := false }, kinds := [], alts := [], laidByText := true, laidKinds := [.data, .data], laidTests := true, laidLooks := .later }
def ScriptverifyLongestUptoCardSaid : Prop := Claim7.holds Tryd.pinned (.plain (OpenSpec.upto scriptverifyLongestSpec)) scriptverifyLongestUptoCard

/-- THE SECOND FORM's CARD OF 'narratorlaw47.ScriptverifyReachable'. -/
def scriptverifyReachableUptoCard : Claim7 := { stood := { row := scriptverifyReachableUptoRow, standIns := [], harness := (true, "981c6cb183bb81abbdac906878550a4280b26a48f34e0a9542754cb4f1d15ee1"), looks := false }, kinds := [], alts := [], laidByText := true, laidKinds := [.data, .data], laidTests := true, laidLooks := .later }
def ScriptverifyReachableUptoCardSaid : Prop := Claim7.holds Tryd.pinned (.plain (OpenSpec.upto scriptverifyReachableSpec)) scriptverifyReachableUptoCard

/-- THE SECOND FORM's CARD OF 'narratorlaw47.ScriptverifyPlain'. -/
def scriptverifyPlainUptoCard : Claim7 := { stood := { row := scriptverifyPlainUptoRow, standIns := [], harness := (true, "981c6cb183bb81abbdac906878550a4280b26a48f34e0a9542754cb4f1d15ee1"), looks := false }, kinds := [], alts := [], laidByText := true, laidKinds := [.data, .data], laidTests := true, laidLooks := .later }
def ScriptverifyPlainUptoCardSaid : Prop := Claim7.holds Tryd.pinned (.plain (OpenSpec.upto scriptverifyPlainSpec)) scriptverifyPlainUptoCard

/-- THE SECOND FORM's CARD OF 'narratorlaw47.ScriptverifyMore'. -/
def scriptverifyMoreUptoCard : Claim7 := { stood := { row := scriptverifyMoreUptoRow, standIns := [], harness := (true, "981c6cb183bb81abbdac906878550a4280b26a48f34e0a9542754cb4f1d15ee1"), looks := false }, kinds := [], alts := [], laidByText := true, laidKinds := [.data, .data], laidTests := true, laidLooks := .later }
def ScriptverifyMoreUptoCardSaid : Prop := Claim7.holds Tryd.pinned (.plain (OpenSpec.upto scriptverifyMoreSpec)) scriptverifyMoreUptoCard
end Rows
end Go.Proofs.YtbacmnbjkhjopaaDoor
