/-
  DERIVED. GIVEN WITH THE SEED: THE CARDS: each row of YtcifhkdbaienjaaDoorRows.lean that lists a variable, with what it lists TIED to the program's text (the seventh form; the later family's looks); each row that meets fmt, with fmt's text TOLD by the authors' own Lean function (tested against real Go, not proved from fmt's source: count such statements apart). THE CARD IS WHAT COUNTS. Prove the row's statement (the work); the ties are given (YtcifhkdbaienjaaDoorTie.lean); close each card by the builder's one call (the guide's Derived/Test/ToyasCard.lean, 'card_holds'). Laid BY PROGRAM, IN A SANDBOX (cutbox-door.mjs). By AI agents, Wed Nov 11 2026. No macro, syntax, notation, axiom, sorry.
-/
import Derived.Test.YtcifhkdbaienjaaDoorRows
import GoSem.ClaimSeven
namespace Go.Proofs.YtcifhkdbaienjaaDoor
namespace Rows

/-- THE TIED CARD OF 'narratorlaw06.VtparseValid'. -/
def vtparseValidCard : Claim7 := { stood := { row := vtparseValidRow, standIns := [], harness := (true, "00a9a6eb9d0df0f4aeeddcd98ce6f991dfaf49862bc29ab721b38c105abeccbf"), looks := false }, kinds := [], alts := [], laidByText := true, laidKinds := [.data, .data, .data], laidTests := true, laidLooks := .later }
def VtparseValidCardSaid : Prop := Claim7.holds Tryd.pinned (.plain (OpenSpec.ofChange vtparseValidSpec)) vtparseValidCard

/-- THE TIED CARD OF 'narratorlaw06.VtparseEncode'. -/
def vtparseEncodeCard : Claim7 := { stood := { row := vtparseEncodeRow, standIns := [], harness := (true, "00a9a6eb9d0df0f4aeeddcd98ce6f991dfaf49862bc29ab721b38c105abeccbf"), looks := false }, kinds := [], alts := [], laidByText := true, laidKinds := [.data, .data, .data], laidTests := true, laidLooks := .later }
def VtparseEncodeCardSaid : Prop := Claim7.holds Tryd.pinned (.plain (OpenSpec.ofChange vtparseEncodeSpec)) vtparseEncodeCard

/-- THE TIED CARD OF 'narratorlaw06.VtparseControls'. -/
def vtparseControlsCard : Claim7 := { stood := { row := vtparseControlsRow, standIns := [], harness := (true, "00a9a6eb9d0df0f4aeeddcd98ce6f991dfaf49862bc29ab721b38c105abeccbf"), looks := false }, kinds := [], alts := [], laidByText := true, laidKinds := [.data, .data, .data], laidTests := true, laidLooks := .later }
def VtparseControlsCardSaid : Prop := Claim7.holds Tryd.pinned (.plain (OpenSpec.ofChange vtparseControlsSpec)) vtparseControlsCard

/-- THE TIED CARD OF 'narratorlaw06.VtparseBroken'. -/
def vtparseBrokenCard : Claim7 := { stood := { row := vtparseBrokenRow, standIns := [], harness := (true, "00a9a6eb9d0df0f4aeeddcd98ce6f991dfaf49862bc29ab721b38c105abeccbf"), looks := false }, kinds := [], alts := [], laidByText := true, laidKinds := [.data, .data, .data], laidTests := true, laidLooks := .later }
def VtparseBrokenCardSaid : Prop := Claim7.holds Tryd.pinned (.plain (OpenSpec.ofChange vtparseBrokenSpec)) vtparseBrokenCard

/-- THE TIED CARD OF 'narratorlaw06.VtparseRoundTrip'. -/
def vtparseRoundTripCard : Claim7 := { stood := { row := vtparseRoundTripRow, standIns := [], harness := (true, "00a9a6eb9d0df0f4aeeddcd98ce6f991dfaf49862bc29ab721b38c105abeccbf"), looks := false }, kinds := [], alts := [], laidByText := true, laidKinds := [.data, .data, .data], laidTests := true, laidLooks := .later }
def VtparseRoundTripCardSaid : Prop := Claim7.holds Tryd.pinned (.plain (OpenSpec.ofChange vtparseRoundTripSpec)) vtparseRoundTripCard

/-- THE SECOND FORM's CARD OF 'narratorlaw06.VtparseValid'. -/
def vtparseValidUptoCard : Claim7 := { stood := { row := vtparseValidUptoRow, standIns := [], harness := (true, "00a9a6eb9d0df0f4aeeddcd98ce6f991dfaf49862bc29ab721b38c105abeccbf"), looks := false }, kinds := [], alts := [], laidByText := true, laidKinds := [.data, .data, .data], laidTests := true, laidLooks := .later }
def VtparseValidUptoCardSaid : Prop := Claim7.holds Tryd.pinned (.plain (OpenSpec.upto vtparseValidSpec)) vtparseValidUptoCard

/-- THE SECOND FORM's CARD OF 'narratorlaw06.VtparseEncode'. -/
def vtparseEncodeUptoCard : Claim7 := { stood := { row := vtparseEncodeUptoRow, standIns := [], harness := (true, "00a9a6eb9d0df0f4aeeddcd98ce6f991dfaf49862bc29ab721b38c105abeccbf"), looks := false }, kinds := [], alts := [], laidByText := true, laidKinds := [.data, .data, .data], laidTests := true, laidLooks := .later }
def VtparseEncodeUptoCardSaid : Prop := Claim7.holds Tryd.pinned (.plain (OpenSpec.upto vtparseEncodeSpec)) vtparseEncodeUptoCard

/-- THE SECOND FORM's CARD OF 'narratorlaw06.VtparseControls'. -/
def vtparseControlsUptoCard : Claim7 := { stood := { row := vtparseControlsUptoRow, standIns := [], harness := (true, "00a9a6eb9d0df0f4aeeddcd98ce6f991dfaf49862bc29ab721b38c105abeccbf"), looks := false }, kinds := [], alts := [], laidByText := true, laidKinds := [.data, .data, .data], laidTests := true, laidLooks := .later }
def VtparseControlsUptoCardSaid : Prop := Claim7.holds Tryd.pinned (.plain (OpenSpec.upto vtparseControlsSpec)) vtparseControlsUptoCard

/-- THE SECOND FORM's CARD OF 'narratorlaw06.VtparseBroken'. -/
def vtparseBrokenUptoCard : Claim7 := { stood := { row := vtparseBrokenUptoRow, standIns := [], harness := (true, "00a9a6eb9d0df0f4aeeddcd98ce6f991dfaf49862bc29ab721b38c105abeccbf"), looks := false }, kinds := [], alts := [], laidByText := true, laidKinds := [.data, .data, .data], laidTests := true, laidLooks := .later }
def VtparseBrokenUptoCardSaid : Prop := Claim7.holds Tryd.pinned (.plain (OpenSpec.upto vtparseBrokenSpec)) vtparseBrokenUptoCard

/-- THE SECOND FORM's CARD OF 'narratorlaw06.VtparseRoundTrip'. -/
def vtparseRoundTripUptoCard : Claim7 := { stood := { row := vtparseRoundTripUptoRow, standIns := [], harness := (true, "00a9a6eb9d0df0f4aeeddcd98ce6f991dfaf49862bc29ab721b38c105abeccbf"), looks := false }, kinds := [], alts := [], laidByText := true, laidKinds := [.data, .data, .data], laidTests := true, laidLooks := .later }
def VtparseRoundTripUptoCardSaid : Prop := Claim7.holds Tryd.pinned (.plain (OpenSpec.upto vtparseRoundTripSpec)) vtparseRoundTripUptoCard
end Rows
end Go.Proofs.YtcifhkdbaienjaaDoor
