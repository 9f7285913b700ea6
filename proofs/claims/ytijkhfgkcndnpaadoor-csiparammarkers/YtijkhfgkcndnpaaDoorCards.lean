/-
  DERIVED. GIVEN WITH THE SEED: THE CARDS: each row of YtijkhfgkcndnpaaDoorRows.lean that lists a variable, with what it lists TIED to the program's text (the seventh form; the later family's looks); each row that meets fmt, with fmt's text TOLD by the authors' own Lean function (tested against real Go, not proved from fmt's source: count such statements apart). THE CARD IS WHAT COUNTS. Prove the row's statement (the work); the ties are given (YtijkhfgkcndnpaaDoorTie.lean); close each card by the builder's one call (the guide's Derived/Test/ToyasCard.lean, 'card_holds'). Laid BY PROGRAM, IN A SANDBOX (cutbox-door.mjs). By AI agents, Wed Nov 11 2026. No macro, syntax, notation, axiom, sorry.
-/
import Derived.Test.YtijkhfgkcndnpaaDoorRows
import GoSem.ClaimSeven
namespace Go.Proofs.YtijkhfgkcndnpaaDoor
namespace Rows

/-- THE TIED CARD OF 'narratorlaw05.CsiparamParse'. -/
def csiparamParseCard : Claim7 := { stood := { row := csiparamParseRow, standIns := [], harness := (true, "5696138b0fc6908ef3a8331e72833a907de5093a78c00ad67fed80ddb4a9412a"), looks := false }, kinds := [], alts := [], laidByText := true, laidKinds := [.data, .data, .data], laidTests := true, laidLooks := .later }
def CsiparamParseCardSaid : Prop := Claim7.holds Tryd.pinned (.plain (OpenSpec.ofChange csiparamParseSpec)) csiparamParseCard

/-- THE TIED CARD OF 'narratorlaw05.CsiparamRoundTrip'. -/
def csiparamRoundTripCard : Claim7 := { stood := { row := csiparamRoundTripRow, standIns := [], harness := (true, "5696138b0fc6908ef3a8331e72833a907de5093a78c00ad67fed80ddb4a9412a"), looks := false }, kinds := [], alts := [], laidByText := true, laidKinds := [.data, .data, .data], laidTests := true, laidLooks := .later }
def CsiparamRoundTripCardSaid : Prop := Claim7.holds Tryd.pinned (.plain (OpenSpec.ofChange csiparamRoundTripSpec)) csiparamRoundTripCard

/-- THE TIED CARD OF 'narratorlaw05.CsiparamCanonical'. -/
def csiparamCanonicalCard : Claim7 := { stood := { row := csiparamCanonicalRow, standIns := [], harness := (true, "5696138b0fc6908ef3a8331e72833a907de5093a78c00ad67fed80ddb4a9412a"), looks := false }, kinds := [], alts := [], laidByText := true, laidKinds := [.data, .data, .data], laidTests := true, laidLooks := .later }
def CsiparamCanonicalCardSaid : Prop := Claim7.holds Tryd.pinned (.plain (OpenSpec.ofChange csiparamCanonicalSpec)) csiparamCanonicalCard

/-- THE TIED CARD OF 'narratorlaw05.CsiparamSyntax'. -/
def csiparamSyntaxCard : Claim7 := { stood := { row := csiparamSyntaxRow, standIns := [], harness := (true, "5696138b0fc6908ef3a8331e72833a907de5093a78c00ad67fed80ddb4a9412a"), looks := false }, kinds := [], alts := [], laidByText := true, laidKinds := [.data, .data, .data], laidTests := true, laidLooks := .later }
def CsiparamSyntaxCardSaid : Prop := Claim7.holds Tryd.pinned (.plain (OpenSpec.ofChange csiparamSyntaxSpec)) csiparamSyntaxCard

/-- THE TIED CARD OF 'narratorlaw05.CsiparamFormat'. -/
def csiparamFormatCard : Claim7 := { stood := { row := csiparamFormatRow, standIns := [], harness := (true, "5696138b0fc6908ef3a8331e72833a907de5093a78c00ad67fed80ddb4a9412a"), looks := false }, kinds := [], alts := [], laidByText := true, laidKinds := [.data, .data, .data], laidTests := true, laidLooks := .later }
def CsiparamFormatCardSaid : Prop := Claim7.holds Tryd.pinned (.plain (OpenSpec.ofChange csiparamFormatSpec)) csiparamFormatCard

/-- THE TIED CARD OF 'narratorlaw05.CsiparamDefaults'. -/
def csiparamDefaultsCard : Claim7 := { stood := { row := csiparamDefaultsRow, standIns := [], harness := (true, "5696138b0fc6908ef3a8331e72833a907de5093a78c00ad67fed80ddb4a9412a"), looks := false }, kinds := [], alts := [], laidByText := true, laidKinds := [.data, .data, .data], laidTests := true, laidLooks := .later }
def CsiparamDefaultsCardSaid : Prop := Claim7.holds Tryd.pinned (.plain (OpenSpec.ofChange csiparamDefaultsSpec)) csiparamDefaultsCard

/-- THE TIED CARD OF 'narratorlaw05.CsiparamJoin'. -/
def csiparamJoinCard : Claim7 := { stood := { row := csiparamJoinRow, standIns := [], harness := (true, "5696138b0fc6908ef3a8331e72833a907de5093a78c00ad67fed80ddb4a9412a"), looks := false }, kinds := [], alts := [], laidByText := true, laidKinds := [.data, .data, .data, .data, .pinned], laidTests := true, laidLooks := .later }
def CsiparamJoinCardSaid : Prop := Claim7.holds Tryd.pinned (.plain (OpenSpec.ofChange csiparamJoinSpec)) csiparamJoinCard

/-- THE TIED CARD OF 'narratorlaw05.CsiparamMarkers'. -/
def csiparamMarkersCard : Claim7 := { stood := { row := csiparamMarkersRow, standIns := [], harness := (true, "5696138b0fc6908ef3a8331e72833a907de5093a78c00ad67fed80ddb4a9412a"), looks := false }, kinds := [], alts := [], laidByText := true, laidKinds := [.data, .data, .data, .data, .pinned], laidTests := true, laidLooks := .later }
def CsiparamMarkersCardSaid : Prop := Claim7.holds Tryd.pinned (.plain (OpenSpec.ofChange csiparamMarkersSpec)) csiparamMarkersCard

/-- THE SECOND FORM's CARD OF 'narratorlaw05.CsiparamParse'. -/
def csiparamParseUptoCard : Claim7 := { stood := { row := csiparamParseUptoRow, standIns := [], harness := (true, "5696138b0fc6908ef3a8331e72833a907de5093a78c00ad67fed80ddb4a9412a"), looks := false }, kinds := [], alts := [], laidByText := true, laidKinds := [.data, .data, .data], laidTests := true, laidLooks := .later }
def CsiparamParseUptoCardSaid : Prop := Claim7.holds Tryd.pinned (.plain (OpenSpec.upto csiparamParseSpec)) csiparamParseUptoCard

/-- THE SECOND FORM's CARD OF 'narratorlaw05.CsiparamRoundTrip'. -/
def csiparamRoundTripUptoCard : Claim7 := { stood := { row := csiparamRoundTripUptoRow, standIns := [], harness := (true, "5696138b0fc6908ef3a8331e72833a907de5093a78c00ad67fed80ddb4a9412a"), looks := false }, kinds := [], alts := [], laidByText := true, laidKinds := [.data, .data, .data], laidTests := true, laidLooks := .later }
def CsiparamRoundTripUptoCardSaid : Prop := Claim7.holds Tryd.pinned (.plain (OpenSpec.upto csiparamRoundTripSpec)) csiparamRoundTripUptoCard

/-- THE SECOND FORM's CARD OF 'narratorlaw05.CsiparamCanonical'. -/
def csiparamCanonicalUptoCard : Claim7 := { stood := { row := csiparamCanonicalUptoRow, standIns := [], harness := (true, "5696138b0fc6908ef3a8331e72833a907de5093a78c00ad67fed80ddb4a9412a"), looks := false }, kinds := [], alts := [], laidByText := true, laidKinds := [.data, .data, .data], laidTests := true, laidLooks := .later }
def CsiparamCanonicalUptoCardSaid : Prop := Claim7.holds Tryd.pinned (.plain (OpenSpec.upto csiparamCanonicalSpec)) csiparamCanonicalUptoCard

/-- THE SECOND FORM's CARD OF 'narratorlaw05.CsiparamSyntax'. -/
def csiparamSyntaxUptoCard : Claim7 := { stood := { row := csiparamSyntaxUptoRow, standIns := [], harness := (true, "5696138b0fc6908ef3a8331e72833a907de5093a78c00ad67fed80ddb4a9412a"), looks := false }, kinds := [], alts := [], laidByText := true, laidKinds := [.data, .data, .data], laidTests := true, laidLooks := .later }
def CsiparamSyntaxUptoCardSaid : Prop := Claim7.holds Tryd.pinned (.plain (OpenSpec.upto csiparamSyntaxSpec)) csiparamSyntaxUptoCard

/-- THE SECOND FORM's CARD OF 'narratorlaw05.CsiparamFormat'. -/
def csiparamFormatUptoCard : Claim7 := { stood := { row := csiparamFormatUptoRow, standIns := [], harness := (true, "5696138b0fc6908ef3a8331e72833a907de5093a78c00ad67fed80ddb4a9412a"), looks := false }, kinds := [], alts := [], laidByText := true, laidKinds := [.data, .data, .data], laidTests := true, laidLooks := .later }
def CsiparamFormatUptoCardSaid : Prop := Claim7.holds Tryd.pinned (.plain (OpenSpec.upto csiparamFormatSpec)) csiparamFormatUptoCard

/-- THE SECOND FORM's CARD OF 'narratorlaw05.CsiparamDefaults'. -/
def csiparamDefaultsUptoCard : Claim7 := { stood := { row := csiparamDefaultsUptoRow, standIns := [], harness := (true, "5696138b0fc6908ef3a8331e72833a907de5093a78c00ad67fed80ddb4a9412a"), looks := false }, kinds := [], alts := [], laidByText := true, laidKinds := [.data, .data, .data], laidTests := true, laidLooks := .later }
def CsiparamDefaultsUptoCardSaid : Prop := Claim7.holds Tryd.pinned (.plain (OpenSpec.upto csiparamDefaultsSpec)) csiparamDefaultsUptoCard

/-- THE SECOND FORM's CARD OF 'narratorlaw05.CsiparamJoin'. -/
def csiparamJoinUptoCard : Claim7 := { stood := { row := csiparamJoinUptoRow, standIns := [], harness := (true, "5696138b0fc6908ef3a8331e72833a907de5093a78c00ad67fed80ddb4a9412a"), looks := false }, kinds := [], alts := [], laidByText := true, laidKinds := [.data, .data, .data, .data, .pinned], laidTests := true, laidLooks := .later }
def CsiparamJoinUptoCardSaid : Prop := Claim7.holds Tryd.pinned (.plain (OpenSpec.upto csiparamJoinSpec)) csiparamJoinUptoCard

/-- THE SECOND FORM's CARD OF 'narratorlaw05.CsiparamMarkers'. -/
def csiparamMarkersUptoCard : Claim7 := { stood := { row := csiparamMarkersUptoRow, standIns := [], harness := (true, "5696138b0fc6908ef3a8331e72833a907de5093a78c00ad67fed80ddb4a9412a"), looks := false }, kinds := [], alts := [], laidByText := true, laidKinds := [.data, .data, .data, .data, .pinned], laidTests := true, laidLooks := .later }
def CsiparamMarkersUptoCardSaid : Prop := Claim7.holds Tryd.pinned (.plain (OpenSpec.upto csiparamMarkersSpec)) csiparamMarkersUptoCard
end Rows
end Go.Proofs.YtijkhfgkcndnpaaDoor
