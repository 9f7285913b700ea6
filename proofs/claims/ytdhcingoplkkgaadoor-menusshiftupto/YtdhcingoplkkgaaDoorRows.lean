/-
  NARROWER THAN 'FOR EVERY INPUT', by the rows' own cells (each row's printed sentence says how): MenusSelected: laid · MenusShift: laid · MenusHighlights: laid · MenusSpans: laid · MenusPlain: laid.
  DERIVED. THE GIVEN ROWS OF THIS SEAT. 5 by the template 'for every input the law returns true; each argument reads behind the call as it read before'; 0 by the template 'total and deterministic' (their statements: YtdhcingoplkkgaaDoorTotals.lean).
  GIVEN WITH THE SEED: the statements are not yours to turn. If you find one false, say at which input.
  Laid BY PROGRAM, IN A SANDBOX (cutbox-rows.mjs): the forced cells as the released guide's own fill.sh prints them over the translation 9e5bb369cafd8bab… (all of the seat's roots in one cut). By AI agents, Wed Nov 11 2026. No macro, syntax, notation, axiom, sorry.
-/
import Derived.Test.YtdhcingoplkkgaaDoorChecked
import GoSem.PinnedTables
import GoSem.Claim
import GoSem.ClaimJoined
import GoSem.ClaimMapViews
import Derived.JoinedTies
import Derived.KernelRfl
namespace Go.Proofs.YtdhcingoplkkgaaDoor
/- THE CELL 'sum', in the pinned program and in every row, IS THE sha256 OF THE DUMP (.gsa) THAT YtdhcingoplkkgaaDoorProg.lean LOADS. Nothing in Lean hashes anything: it is a label: what it is worth is what the hold of that sum in a sandbox is worth. -/
noncomputable def Tryd.pinned : Pinned := { name := "ytdhcingoplkkgaadoor", sum := "9e5bb369cafd8babff60271f5f8763ce69a014f39d346c55773f3ea983c47a51", checked := Tryd.checked }
namespace Rows
def none {H : Type} : Left H := { results := [], args := [] }

/- WHAT THE LISTED PACKAGE-LEVEL VARIABLES READ AS WHEN THE CALL BEGINS. Each datum BY PROGRAM (the guide's laid-datum.mjs) off the statement by which the dump's own 'gosem.cut.vars' lays the variable. In a bare row this is a premise. The card (YtdhcingoplkkgaaDoorCards.lean) ties it to the program's text. -/
def laid_unicode_utf8_acceptRanges {H : Type} : DataW H := .agg [.agg [.lit (.int .u8 128), .lit (.int .u8 191)], .agg [.lit (.int .u8 160), .lit (.int .u8 191)], .agg [.lit (.int .u8 128), .lit (.int .u8 159)], .agg [.lit (.int .u8 144), .lit (.int .u8 191)], .agg [.lit (.int .u8 128), .lit (.int .u8 143)], .agg [.lit (.int .u8 0), .lit (.int .u8 0)], .agg [.lit (.int .u8 0), .lit (.int .u8 0)], .agg [.lit (.int .u8 0), .lit (.int .u8 0)], .agg [.lit (.int .u8 0), .lit (.int .u8 0)], .agg [.lit (.int .u8 0), .lit (.int .u8 0)], .agg [.lit (.int .u8 0), .lit (.int .u8 0)], .agg [.lit (.int .u8 0), .lit (.int .u8 0)], .agg [.lit (.int .u8 0), .lit (.int .u8 0)], .agg [.lit (.int .u8 0), .lit (.int .u8 0)], .agg [.lit (.int .u8 0), .lit (.int .u8 0)], .agg [.lit (.int .u8 0), .lit (.int .u8 0)]]
/-- One of Go's own tables, pinned by name: the form's constant. -/
def laid_unicode_utf8_first : DataW Unit := Go.Pinned.utf8First

/-- 'narratorlaw25.MenusSelected': WHATEVER THE INPUT: true; the input reads as it did. -/
def menusSelectedSpec : ChangeSpec := { name := "menusSelected", fn := fun _ => fun
  | [d] => { results := [.lit (.bool true)], args := [d] }
  | _ => none }
def menusSelectedRow : OpenClaim := { program := "ytdhcingoplkkgaadoor", sum := "9e5bb369cafd8babff60271f5f8763ce69a014f39d346c55773f3ea983c47a51", func := "narrator/narratorlaw25.MenusSelected", spec := "menusSelected", inPlace := ["internal/abi.NoEscape", "internal/bytealg.IndexByteString", "internal/bytealg.IndexString"], unfollowed := true, recurses := true, named := ["unicode/utf8.first", "unicode/utf8.acceptRanges", "internal/bytealg.MaxLen"], apart := false, laid := [("unicode/utf8.acceptRanges", laid_unicode_utf8_acceptRanges), ("unicode/utf8.first", laid_unicode_utf8_first)] }
def MenusSelectedSaid : Prop := menusSelectedRow.holds Tryd.pinned (OpenSpec.ofChange menusSelectedSpec)

/-- ITS FALSE NEIGHBOUR: 'it returns false'. Refute it at one input. -/
def menusSelectedWrong : ChangeSpec := { name := "menusSelected", fn := fun _ => fun
  | [d] => { results := [.lit (.bool false)], args := [d] }
  | _ => none }
def MenusSelectedWrongFalsely : Prop := menusSelectedRow.holds Tryd.pinned (OpenSpec.ofChange menusSelectedWrong)

/-- 'narratorlaw25.MenusShift': WHATEVER THE INPUT: true; the input reads as it did. -/
def menusShiftSpec : ChangeSpec := { name := "menusShift", fn := fun _ => fun
  | [d1, d2] => { results := [.lit (.bool true)], args := [d1, d2] }
  | _ => none }
def menusShiftRow : OpenClaim := { program := "ytdhcingoplkkgaadoor", sum := "9e5bb369cafd8babff60271f5f8763ce69a014f39d346c55773f3ea983c47a51", func := "narrator/narratorlaw25.MenusShift", spec := "menusShift", inPlace := ["internal/abi.NoEscape", "internal/bytealg.IndexByteString", "internal/bytealg.IndexString"], unfollowed := true, recurses := true, named := ["unicode/utf8.first", "unicode/utf8.acceptRanges", "internal/bytealg.MaxLen"], apart := false, laid := [("unicode/utf8.acceptRanges", laid_unicode_utf8_acceptRanges), ("unicode/utf8.first", laid_unicode_utf8_first)] }
def MenusShiftSaid : Prop := menusShiftRow.holds Tryd.pinned (OpenSpec.ofChange menusShiftSpec)

/-- ITS FALSE NEIGHBOUR: 'it returns false'. Refute it at one input. -/
def menusShiftWrong : ChangeSpec := { name := "menusShift", fn := fun _ => fun
  | [d1, d2] => { results := [.lit (.bool false)], args := [d1, d2] }
  | _ => none }
def MenusShiftWrongFalsely : Prop := menusShiftRow.holds Tryd.pinned (OpenSpec.ofChange menusShiftWrong)

/-- 'narratorlaw25.MenusHighlights': WHATEVER THE INPUT: true; the input reads as it did. -/
def menusHighlightsSpec : ChangeSpec := { name := "menusHighlights", fn := fun _ => fun
  | [d] => { results := [.lit (.bool true)], args := [d] }
  | _ => none }
def menusHighlightsRow : OpenClaim := { program := "ytdhcingoplkkgaadoor", sum := "9e5bb369cafd8babff60271f5f8763ce69a014f39d346c55773f3ea983c47a51", func := "narrator/narratorlaw25.MenusHighlights", spec := "menusHighlights", inPlace := ["internal/abi.NoEscape", "internal/bytealg.IndexByteString", "internal/bytealg.IndexString"], unfollowed := true, recurses := true, named := ["unicode/utf8.first", "unicode/utf8.acceptRanges", "internal/bytealg.MaxLen"], apart := false, laid := [("unicode/utf8.acceptRanges", laid_unicode_utf8_acceptRanges), ("unicode/utf8.first", laid_unicode_utf8_first)] }
def MenusHighlightsSaid : Prop := menusHighlightsRow.holds Tryd.pinned (OpenSpec.ofChange menusHighlightsSpec)

/-- ITS FALSE NEIGHBOUR: 'it returns false'. Refute it at one input. -/
def menusHighlightsWrong : ChangeSpec := { name := "menusHighlights", fn := fun _ => fun
  | [d] => { results := [.lit (.bool false)], args := [d] }
  | _ => none }
def MenusHighlightsWrongFalsely : Prop := menusHighlightsRow.holds Tryd.pinned (OpenSpec.ofChange menusHighlightsWrong)

/-- 'narratorlaw25.MenusSpans': WHATEVER THE INPUT: true; the input reads as it did. -/
def menusSpansSpec : ChangeSpec := { name := "menusSpans", fn := fun _ => fun
  | [d] => { results := [.lit (.bool true)], args := [d] }
  | _ => none }
def menusSpansRow : OpenClaim := { program := "ytdhcingoplkkgaadoor", sum := "9e5bb369cafd8babff60271f5f8763ce69a014f39d346c55773f3ea983c47a51", func := "narrator/narratorlaw25.MenusSpans", spec := "menusSpans", inPlace := ["internal/abi.NoEscape", "internal/bytealg.IndexByteString", "internal/bytealg.IndexString"], unfollowed := true, recurses := true, named := ["unicode/utf8.first", "unicode/utf8.acceptRanges", "internal/bytealg.MaxLen"], apart := false, laid := [("unicode/utf8.acceptRanges", laid_unicode_utf8_acceptRanges), ("unicode/utf8.first", laid_unicode_utf8_first)] }
def MenusSpansSaid : Prop := menusSpansRow.holds Tryd.pinned (OpenSpec.ofChange menusSpansSpec)

/-- ITS FALSE NEIGHBOUR: 'it returns false'. Refute it at one input. -/
def menusSpansWrong : ChangeSpec := { name := "menusSpans", fn := fun _ => fun
  | [d] => { results := [.lit (.bool false)], args := [d] }
  | _ => none }
def MenusSpansWrongFalsely : Prop := menusSpansRow.holds Tryd.pinned (OpenSpec.ofChange menusSpansWrong)

/-- 'narratorlaw25.MenusPlain': WHATEVER THE INPUT: true; the input reads as it did. -/
def menusPlainSpec : ChangeSpec := { name := "menusPlain", fn := fun _ => fun
  | [d] => { results := [.lit (.bool true)], args := [d] }
  | _ => none }
def menusPlainRow : OpenClaim := { program := "ytdhcingoplkkgaadoor", sum := "9e5bb369cafd8babff60271f5f8763ce69a014f39d346c55773f3ea983c47a51", func := "narrator/narratorlaw25.MenusPlain", spec := "menusPlain", inPlace := ["internal/abi.NoEscape", "internal/bytealg.IndexByteString", "internal/bytealg.IndexString"], unfollowed := true, recurses := true, named := ["unicode/utf8.first", "unicode/utf8.acceptRanges", "internal/bytealg.MaxLen"], apart := false, laid := [("unicode/utf8.acceptRanges", laid_unicode_utf8_acceptRanges), ("unicode/utf8.first", laid_unicode_utf8_first)] }
def MenusPlainSaid : Prop := menusPlainRow.holds Tryd.pinned (OpenSpec.ofChange menusPlainSpec)

/-- ITS FALSE NEIGHBOUR: 'it returns false'. Refute it at one input. -/
def menusPlainWrong : ChangeSpec := { name := "menusPlain", fn := fun _ => fun
  | [d] => { results := [.lit (.bool false)], args := [d] }
  | _ => none }
def MenusPlainWrongFalsely : Prop := menusPlainRow.holds Tryd.pinned (OpenSpec.ofChange menusPlainWrong)

/- THE SECOND FORM. 'bulk': how many values and letters a reading holds, each counted each time it is reached (what is shared counts as often as it is met; a slice's spare places count too). A statement '..UptoSaid' is the law's where the arguments, and the package variables that the reading takes, are together of bulk at most 1048576: NARROWER than '..Said'. Prove '..Said' where nothing that the law and all that it calls make is longer than what came in: it says more and counts as full. Else prove '..UptoSaid'. A law counts once. -/
mutual
def uptoBulk {H : Type} : DataW H → Nat
  | .lit (.string bytes) => bytes.length + 1
  | .lit _ => 1
  | .nil => 1
  | .ptr d => uptoBulk d + 1
  | .slice elems spare => uptoBulkAll elems + uptoBulkAll spare + 1
  | .agg parts => uptoBulkAll parts + 1
  | .iface _ d => uptoBulk d + 1
  | .map entries => uptoBulkEntries entries + 1
  | .held _ => 1
def uptoBulkAll {H : Type} : List (DataW H) → Nat
  | [] => 0
  | d :: r => uptoBulk d + uptoBulkAll r
def uptoBulkEntries {H : Type} : List (Lit × DataW H) → Nat
  | [] => 0
  | x :: r => uptoBulkEntry x + uptoBulkEntries r
def uptoBulkEntry {H : Type} : Lit × DataW H → Nat
  | (.string bytes, d) => bytes.length + uptoBulk d + 1
  | (_, d) => uptoBulk d + 1
 end
def uptoSmall : (H : Type) → List (DataW H) → Bool := fun _ ds => decide (uptoBulkAll ds ≤ 1048576)
def OpenSpec.upto (s : _root_.Go.ChangeSpec) : _root_.Go.OpenSpec := { _root_.Go.OpenSpec.ofChange s with cond := some uptoSmall }

/-- 'narratorlaw25.MenusSelected', WHERE WHAT IT READS IS OF BULK AT MOST 1048576: true; the input reads as it did. -/
def menusSelectedUptoRow : OpenClaim := { program := "ytdhcingoplkkgaadoor", sum := "9e5bb369cafd8babff60271f5f8763ce69a014f39d346c55773f3ea983c47a51", func := "narrator/narratorlaw25.MenusSelected", spec := "menusSelected", inPlace := ["internal/abi.NoEscape", "internal/bytealg.IndexByteString", "internal/bytealg.IndexString"], unfollowed := true, recurses := true, named := ["unicode/utf8.first", "unicode/utf8.acceptRanges", "internal/bytealg.MaxLen"], apart := false, laid := [("unicode/utf8.acceptRanges", laid_unicode_utf8_acceptRanges), ("unicode/utf8.first", laid_unicode_utf8_first)], narrowed := true }
def MenusSelectedUptoSaid : Prop := menusSelectedUptoRow.holds Tryd.pinned (OpenSpec.upto menusSelectedSpec)

/-- 'narratorlaw25.MenusShift', WHERE WHAT IT READS IS OF BULK AT MOST 1048576: true; the input reads as it did. -/
def menusShiftUptoRow : OpenClaim := { program := "ytdhcingoplkkgaadoor", sum := "9e5bb369cafd8babff60271f5f8763ce69a014f39d346c55773f3ea983c47a51", func := "narrator/narratorlaw25.MenusShift", spec := "menusShift", inPlace := ["internal/abi.NoEscape", "internal/bytealg.IndexByteString", "internal/bytealg.IndexString"], unfollowed := true, recurses := true, named := ["unicode/utf8.first", "unicode/utf8.acceptRanges", "internal/bytealg.MaxLen"], apart := false, laid := [("unicode/utf8.acceptRanges", laid_unicode_utf8_acceptRanges), ("unicode/utf8.first", laid_unicode_utf8_first)], narrowed := true }
def MenusShiftUptoSaid : Prop := menusShiftUptoRow.holds Tryd.pinned (OpenSpec.upto menusShiftSpec)

/-- 'narratorlaw25.MenusHighlights', WHERE WHAT IT READS IS OF BULK AT MOST 1048576: true; the input reads as it did. -/
def menusHighlightsUptoRow : OpenClaim := { program := "ytdhcingoplkkgaadoor", sum := "9e5bb369cafd8babff60271f5f8763ce69a014f39d346c55773f3ea983c47a51", func := "narrator/narratorlaw25.MenusHighlights", spec := "menusHighlights", inPlace := ["internal/abi.NoEscape", "internal/bytealg.IndexByteString", "internal/bytealg.IndexString"], unfollowed := true, recurses := true, named := ["unicode/utf8.first", "unicode/utf8.acceptRanges", "internal/bytealg.MaxLen"], apart := false, laid := [("unicode/utf8.acceptRanges", laid_unicode_utf8_acceptRanges), ("unicode/utf8.first", laid_unicode_utf8_first)], narrowed := true }
def MenusHighlightsUptoSaid : Prop := menusHighlightsUptoRow.holds Tryd.pinned (OpenSpec.upto menusHighlightsSpec)

/-- 'narratorlaw25.MenusSpans', WHERE WHAT IT READS IS OF BULK AT MOST 1048576: true; the input reads as it did. -/
def menusSpansUptoRow : OpenClaim := { program := "ytdhcingoplkkgaadoor", sum := "9e5bb369cafd8babff60271f5f8763ce69a014f39d346c55773f3ea983c47a51", func := "narrator/narratorlaw25.MenusSpans", spec := "menusSpans", inPlace := ["internal/abi.NoEscape", "internal/bytealg.IndexByteString", "internal/bytealg.IndexString"], unfollowed := true, recurses := true, named := ["unicode/utf8.first", "unicode/utf8.acceptRanges", "internal/bytealg.MaxLen"], apart := false, laid := [("unicode/utf8.acceptRanges", laid_unicode_utf8_acceptRanges), ("unicode/utf8.first", laid_unicode_utf8_first)], narrowed := true }
def MenusSpansUptoSaid : Prop := menusSpansUptoRow.holds Tryd.pinned (OpenSpec.upto menusSpansSpec)

/-- 'narratorlaw25.MenusPlain', WHERE WHAT IT READS IS OF BULK AT MOST 1048576: true; the input reads as it did. -/
def menusPlainUptoRow : OpenClaim := { program := "ytdhcingoplkkgaadoor", sum := "9e5bb369cafd8babff60271f5f8763ce69a014f39d346c55773f3ea983c47a51", func := "narrator/narratorlaw25.MenusPlain", spec := "menusPlain", inPlace := ["internal/abi.NoEscape", "internal/bytealg.IndexByteString", "internal/bytealg.IndexString"], unfollowed := true, recurses := true, named := ["unicode/utf8.first", "unicode/utf8.acceptRanges", "internal/bytealg.MaxLen"], apart := false, laid := [("unicode/utf8.acceptRanges", laid_unicode_utf8_acceptRanges), ("unicode/utf8.first", laid_unicode_utf8_first)], narrowed := true }
def MenusPlainUptoSaid : Prop := menusPlainUptoRow.holds Tryd.pinned (OpenSpec.upto menusPlainSpec)

end Rows
end Go.Proofs.YtdhcingoplkkgaaDoor
