/-
  DERIVED. GIVEN WITH THE SEED: THE CARDS: each row of YtdhcingoplkkgaaDoorRows.lean that lists a variable, with what it lists TIED to the program's text (the seventh form; the later family's looks); each row that meets fmt, with fmt's text TOLD by the authors' own Lean function (tested against real Go, not proved from fmt's source: count such statements apart). THE CARD IS WHAT COUNTS. Prove the row's statement (the work); the ties are given (YtdhcingoplkkgaaDoorTie.lean); close each card by the builder's one call (the guide's Derived/Test/ToyasCard.lean, 'card_holds'). Laid BY PROGRAM, IN A SANDBOX (cutbox-door.mjs). By AI agents, Wed Nov 11 2026. No macro, syntax, notation, axiom, sorry.
-/
import Derived.Test.YtdhcingoplkkgaaDoorRows
import GoSem.ClaimSeven
namespace Go.Proofs.YtdhcingoplkkgaaDoor
namespace Rows

/-- THE TIED CARD OF 'narratorlaw25.MenusSelected'. -/
def menusSelectedCard : Claim7 := { stood := { row := menusSelectedRow, standIns := [], harness := (true, "78f756686a46c1d90ab8fbf95253137b5110baff33a9438962c52d410cf0889f"), looks := false }, kinds := [], alts := [], laidByText := true, laidKinds := [.data, .pinned], laidTests := true, laidLooks := .later }
def MenusSelectedCardSaid : Prop := Claim7.holds Tryd.pinned (.plain (OpenSpec.ofChange menusSelectedSpec)) menusSelectedCard

/-- THE TIED CARD OF 'narratorlaw25.MenusShift'. -/
def menusShiftCard : Claim7 := { stood := { row := menusShiftRow, standIns := [], harness := (true, "78f756686a46c1d90ab8fbf95253137b5110baff33a9438962c52d410cf0889f"), looks := false }, kinds := [], alts := [], laidByText := true, laidKinds := [.data, .pinned], laidTests := true, laidLooks := .later }
def MenusShiftCardSaid : Prop := Claim7.holds Tryd.pinned (.plain (OpenSpec.ofChange menusShiftSpec)) menusShiftCard

/-- THE TIED CARD OF 'narratorlaw25.MenusHighlights'. -/
def menusHighlightsCard : Claim7 := { stood := { row := menusHighlightsRow, standIns := [], harness := (true, "78f756686a46c1d90ab8fbf95253137b5110baff33a9438962c52d410cf0889f"), looks := false }, kinds := [], alts := [], laidByText := true, laidKinds := [.data, .pinned], laidTests := true, laidLooks := .later }
def MenusHighlightsCardSaid : Prop := Claim7.holds Tryd.pinned (.plain (OpenSpec.ofChange menusHighlightsSpec)) menusHighlightsCard

/-- THE TIED CARD OF 'narratorlaw25.MenusSpans'. -/
def menusSpansCard : Claim7 := { stood := { row := menusSpansRow, standIns := [], harness := (true, "78f756686a46c1d90ab8fbf95253137b5110baff33a9438962c52d410cf0889f"), looks := false }, kinds := [], alts := [], laidByText := true, laidKinds := [.data, .pinned], laidTests := true, laidLooks := .later }
def MenusSpansCardSaid : Prop := Claim7.holds Tryd.pinned (.plain (OpenSpec.ofChange menusSpansSpec)) menusSpansCard

/-- THE TIED CARD OF 'narratorlaw25.MenusPlain'. -/
def menusPlainCard : Claim7 := { stood := { row := menusPlainRow, standIns := [], harness := (true, "78f756686a46c1d90ab8fbf95253137b5110baff33a9438962c52d410cf0889f"), looks := false }, kinds := [], alts := [], laidByText := true, laidKinds := [.data, .pinned], laidTests := true, laidLooks := .later }
def MenusPlainCardSaid : Prop := Claim7.holds Tryd.pinned (.plain (OpenSpec.ofChange menusPlainSpec)) menusPlainCard

/-- THE SECOND FORM's CARD OF 'narratorlaw25.MenusSelected'. -/
def menusSelectedUptoCard : Claim7 := { stood := { row := menusSelectedUptoRow, standIns := [], harness := (true, "78f756686a46c1d90ab8fbf95253137b5110baff33a9438962c52d410cf0889f"), looks := false }, kinds := [], alts := [], laidByText := true, laidKinds := [.data, .pinned], laidTests := true, laidLooks := .later }
def MenusSelectedUptoCardSaid : Prop := Claim7.holds Tryd.pinned (.plain (OpenSpec.upto menusSelectedSpec)) menusSelectedUptoCard

/-- THE SECOND FORM's CARD OF 'narratorlaw25.MenusShift'. -/
def menusShiftUptoCard : Claim7 := { stood := { row := menusShiftUptoRow, standIns := [], harness := (true, "78f756686a46c1d90ab8fbf95253137b5110baff33a9438962c52d410cf0889f"), looks := false }, kinds := [], alts := [], laidByText := true, laidKinds := [.data, .pinned], laidTests := true, laidLooks := .later }
def MenusShiftUptoCardSaid : Prop := Claim7.holds Tryd.pinned (.plain (OpenSpec.upto menusShiftSpec)) menusShiftUptoCard

/-- THE SECOND FORM's CARD OF 'narratorlaw25.MenusHighlights'. -/
def menusHighlightsUptoCard : Claim7 := { stood := { row := menusHighlightsUptoRow, standIns := [], harness := (true, "78f756686a46c1d90ab8fbf95253137b5110baff33a9438962c52d410cf0889f"), looks := false }, kinds := [], alts := [], laidByText := true, laidKinds := [.data, .pinned], laidTests := true, laidLooks := .later }
def MenusHighlightsUptoCardSaid : Prop := Claim7.holds Tryd.pinned (.plain (OpenSpec.upto menusHighlightsSpec)) menusHighlightsUptoCard

/-- THE SECOND FORM's CARD OF 'narratorlaw25.MenusSpans'. -/
def menusSpansUptoCard : Claim7 := { stood := { row := menusSpansUptoRow, standIns := [], harness := (true, "78f756686a46c1d90ab8fbf95253137b5110baff33a9438962c52d410cf0889f"), looks := false }, kinds := [], alts := [], laidByText := true, laidKinds := [.data, .pinned], laidTests := true, laidLooks := .later }
def MenusSpansUptoCardSaid : Prop := Claim7.holds Tryd.pinned (.plain (OpenSpec.upto menusSpansSpec)) menusSpansUptoCard

/-- THE SECOND FORM's CARD OF 'narratorlaw25.MenusPlain'. -/
def menusPlainUptoCard : Claim7 := { stood := { row := menusPlainUptoRow, standIns := [], harness := (true, "78f756686a46c1d90ab8fbf95253137b5110baff33a9438962c52d410cf0889f"), looks := false }, kinds := [], alts := [], laidByText := true, laidKinds := [.data, .pinned], laidTests := true, laidLooks := .later }
def MenusPlainUptoCardSaid : Prop := Claim7.holds Tryd.pinned (.plain (OpenSpec.upto menusPlainSpec)) menusPlainUptoCard
end Rows
end Go.Proofs.YtdhcingoplkkgaaDoor
