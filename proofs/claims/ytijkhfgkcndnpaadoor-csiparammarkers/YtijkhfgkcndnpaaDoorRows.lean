/-
  NARROWER THAN 'FOR EVERY INPUT', by the rows' own cells (each row's printed sentence says how): CsiparamParse: laid · CsiparamRoundTrip: laid · CsiparamCanonical: laid · CsiparamSyntax: laid · CsiparamFormat: laid · CsiparamDefaults: laid · CsiparamJoin: laid · CsiparamMarkers: laid.
  DERIVED. THE GIVEN ROWS OF THIS SEAT. 8 by the template 'for every input the law returns true; each argument reads behind the call as it read before'; 0 by the template 'total and deterministic' (their statements: YtijkhfgkcndnpaaDoorTotals.lean).
  GIVEN WITH THE SEED: the statements are not yours to turn. If you find one false, say at which input.
  Laid BY PROGRAM, IN A SANDBOX (cutbox-rows.mjs): the forced cells as the released guide's own fill.sh prints them over the translation 546f36520cd0ef5b… (all of the seat's roots in one cut). By AI agents, Wed Nov 11 2026. No macro, syntax, notation, axiom, sorry.
-/
import Derived.Test.YtijkhfgkcndnpaaDoorChecked
import GoSem.PinnedTables
import GoSem.Claim
import GoSem.ClaimJoined
import GoSem.ClaimMapViews
import Derived.JoinedTies
import Derived.KernelRfl
namespace Go.Proofs.YtijkhfgkcndnpaaDoor
/- THE CELL 'sum', in the pinned program and in every row, IS THE sha256 OF THE DUMP (.gsa) THAT YtijkhfgkcndnpaaDoorProg.lean LOADS. Nothing in Lean hashes anything: it is a label: what it is worth is what the hold of that sum in a sandbox is worth. -/
noncomputable def Tryd.pinned : Pinned := { name := "ytijkhfgkcndnpaadoor", sum := "546f36520cd0ef5b22878dd26fd1d686f36bd43a979603696a911bbdf96fb6be", checked := Tryd.checked }
namespace Rows
def none {H : Type} : Left H := { results := [], args := [] }

/- WHAT THE LISTED PACKAGE-LEVEL VARIABLES READ AS WHEN THE CALL BEGINS. Each datum BY PROGRAM (the guide's laid-datum.mjs) off the statement by which the dump's own 'gosem.cut.vars' lays the variable. In a bare row this is a premise. The card (YtijkhfgkcndnpaaDoorCards.lean) ties it to the program's text. -/
def laid_math_bits_deBruijn32tab {H : Type} : DataW H := .agg [.lit (.int .u8 0), .lit (.int .u8 1), .lit (.int .u8 28), .lit (.int .u8 2), .lit (.int .u8 29), .lit (.int .u8 14), .lit (.int .u8 24), .lit (.int .u8 3), .lit (.int .u8 30), .lit (.int .u8 22), .lit (.int .u8 20), .lit (.int .u8 15), .lit (.int .u8 25), .lit (.int .u8 17), .lit (.int .u8 4), .lit (.int .u8 8), .lit (.int .u8 31), .lit (.int .u8 27), .lit (.int .u8 13), .lit (.int .u8 23), .lit (.int .u8 21), .lit (.int .u8 19), .lit (.int .u8 16), .lit (.int .u8 7), .lit (.int .u8 26), .lit (.int .u8 12), .lit (.int .u8 18), .lit (.int .u8 6), .lit (.int .u8 11), .lit (.int .u8 5), .lit (.int .u8 10), .lit (.int .u8 9)]
def laid_math_bits_deBruijn64tab {H : Type} : DataW H := .agg [.lit (.int .u8 0), .lit (.int .u8 1), .lit (.int .u8 56), .lit (.int .u8 2), .lit (.int .u8 57), .lit (.int .u8 49), .lit (.int .u8 28), .lit (.int .u8 3), .lit (.int .u8 61), .lit (.int .u8 58), .lit (.int .u8 42), .lit (.int .u8 50), .lit (.int .u8 38), .lit (.int .u8 29), .lit (.int .u8 17), .lit (.int .u8 4), .lit (.int .u8 62), .lit (.int .u8 47), .lit (.int .u8 59), .lit (.int .u8 36), .lit (.int .u8 45), .lit (.int .u8 43), .lit (.int .u8 51), .lit (.int .u8 22), .lit (.int .u8 53), .lit (.int .u8 39), .lit (.int .u8 33), .lit (.int .u8 30), .lit (.int .u8 24), .lit (.int .u8 18), .lit (.int .u8 12), .lit (.int .u8 5), .lit (.int .u8 63), .lit (.int .u8 55), .lit (.int .u8 48), .lit (.int .u8 27), .lit (.int .u8 60), .lit (.int .u8 41), .lit (.int .u8 37), .lit (.int .u8 16), .lit (.int .u8 46), .lit (.int .u8 35), .lit (.int .u8 44), .lit (.int .u8 21), .lit (.int .u8 52), .lit (.int .u8 32), .lit (.int .u8 23), .lit (.int .u8 11), .lit (.int .u8 54), .lit (.int .u8 26), .lit (.int .u8 40), .lit (.int .u8 15), .lit (.int .u8 34), .lit (.int .u8 20), .lit (.int .u8 31), .lit (.int .u8 10), .lit (.int .u8 25), .lit (.int .u8 14), .lit (.int .u8 19), .lit (.int .u8 9), .lit (.int .u8 13), .lit (.int .u8 8), .lit (.int .u8 7), .lit (.int .u8 6)]
def laid_internal_strconv_uint64pow10 {H : Type} : DataW H := .agg [.lit (.int .u64 1), .lit (.int .u64 10), .lit (.int .u64 100), .lit (.int .u64 1000), .lit (.int .u64 10000), .lit (.int .u64 100000), .lit (.int .u64 1000000), .lit (.int .u64 10000000), .lit (.int .u64 100000000), .lit (.int .u64 1000000000), .lit (.int .u64 10000000000), .lit (.int .u64 100000000000), .lit (.int .u64 1000000000000), .lit (.int .u64 10000000000000), .lit (.int .u64 100000000000000), .lit (.int .u64 1000000000000000), .lit (.int .u64 10000000000000000), .lit (.int .u64 100000000000000000), .lit (.int .u64 1000000000000000000), .lit (.int .u64 10000000000000000000)]
def laid_unicode_utf8_acceptRanges {H : Type} : DataW H := .agg [.agg [.lit (.int .u8 128), .lit (.int .u8 191)], .agg [.lit (.int .u8 160), .lit (.int .u8 191)], .agg [.lit (.int .u8 128), .lit (.int .u8 159)], .agg [.lit (.int .u8 144), .lit (.int .u8 191)], .agg [.lit (.int .u8 128), .lit (.int .u8 143)], .agg [.lit (.int .u8 0), .lit (.int .u8 0)], .agg [.lit (.int .u8 0), .lit (.int .u8 0)], .agg [.lit (.int .u8 0), .lit (.int .u8 0)], .agg [.lit (.int .u8 0), .lit (.int .u8 0)], .agg [.lit (.int .u8 0), .lit (.int .u8 0)], .agg [.lit (.int .u8 0), .lit (.int .u8 0)], .agg [.lit (.int .u8 0), .lit (.int .u8 0)], .agg [.lit (.int .u8 0), .lit (.int .u8 0)], .agg [.lit (.int .u8 0), .lit (.int .u8 0)], .agg [.lit (.int .u8 0), .lit (.int .u8 0)], .agg [.lit (.int .u8 0), .lit (.int .u8 0)]]
/-- One of Go's own tables, pinned by name: the form's constant. -/
def laid_unicode_utf8_first : DataW Unit := Go.Pinned.utf8First

/-- 'narratorlaw05.CsiparamParse': WHATEVER THE INPUT: true; the input reads as it did. -/
def csiparamParseSpec : ChangeSpec := { name := "csiparamParse", fn := fun _ => fun
  | [d] => { results := [.lit (.bool true)], args := [d] }
  | _ => none }
def csiparamParseRow : OpenClaim := { program := "ytijkhfgkcndnpaadoor", sum := "546f36520cd0ef5b22878dd26fd1d686f36bd43a979603696a911bbdf96fb6be", func := "narrator/narratorlaw05.CsiparamParse", spec := "csiparamParse", unfollowed := true, recurses := true, named := ["internal/strconv.uint64pow10", "math/bits.deBruijn32tab", "math/bits.deBruijn64tab"], apart := false, laid := [("math/bits.deBruijn32tab", laid_math_bits_deBruijn32tab), ("math/bits.deBruijn64tab", laid_math_bits_deBruijn64tab), ("internal/strconv.uint64pow10", laid_internal_strconv_uint64pow10)] }
def CsiparamParseSaid : Prop := csiparamParseRow.holds Tryd.pinned (OpenSpec.ofChange csiparamParseSpec)

/-- ITS FALSE NEIGHBOUR: 'it returns false'. Refute it at one input. -/
def csiparamParseWrong : ChangeSpec := { name := "csiparamParse", fn := fun _ => fun
  | [d] => { results := [.lit (.bool false)], args := [d] }
  | _ => none }
def CsiparamParseWrongFalsely : Prop := csiparamParseRow.holds Tryd.pinned (OpenSpec.ofChange csiparamParseWrong)

/-- 'narratorlaw05.CsiparamRoundTrip': WHATEVER THE INPUT: true; the input reads as it did. -/
def csiparamRoundTripSpec : ChangeSpec := { name := "csiparamRoundTrip", fn := fun _ => fun
  | [d1, d2, d3] => { results := [.lit (.bool true)], args := [d1, d2, d3] }
  | _ => none }
def csiparamRoundTripRow : OpenClaim := { program := "ytijkhfgkcndnpaadoor", sum := "546f36520cd0ef5b22878dd26fd1d686f36bd43a979603696a911bbdf96fb6be", func := "narrator/narratorlaw05.CsiparamRoundTrip", spec := "csiparamRoundTrip", unfollowed := true, recurses := true, named := ["internal/strconv.uint64pow10", "math/bits.deBruijn32tab", "math/bits.deBruijn64tab"], apart := false, laid := [("math/bits.deBruijn32tab", laid_math_bits_deBruijn32tab), ("math/bits.deBruijn64tab", laid_math_bits_deBruijn64tab), ("internal/strconv.uint64pow10", laid_internal_strconv_uint64pow10)] }
def CsiparamRoundTripSaid : Prop := csiparamRoundTripRow.holds Tryd.pinned (OpenSpec.ofChange csiparamRoundTripSpec)

/-- ITS FALSE NEIGHBOUR: 'it returns false'. Refute it at one input. -/
def csiparamRoundTripWrong : ChangeSpec := { name := "csiparamRoundTrip", fn := fun _ => fun
  | [d1, d2, d3] => { results := [.lit (.bool false)], args := [d1, d2, d3] }
  | _ => none }
def CsiparamRoundTripWrongFalsely : Prop := csiparamRoundTripRow.holds Tryd.pinned (OpenSpec.ofChange csiparamRoundTripWrong)

/-- 'narratorlaw05.CsiparamCanonical': WHATEVER THE INPUT: true; the input reads as it did. -/
def csiparamCanonicalSpec : ChangeSpec := { name := "csiparamCanonical", fn := fun _ => fun
  | [d] => { results := [.lit (.bool true)], args := [d] }
  | _ => none }
def csiparamCanonicalRow : OpenClaim := { program := "ytijkhfgkcndnpaadoor", sum := "546f36520cd0ef5b22878dd26fd1d686f36bd43a979603696a911bbdf96fb6be", func := "narrator/narratorlaw05.CsiparamCanonical", spec := "csiparamCanonical", unfollowed := true, recurses := true, named := ["internal/strconv.uint64pow10", "math/bits.deBruijn32tab", "math/bits.deBruijn64tab"], apart := false, laid := [("math/bits.deBruijn32tab", laid_math_bits_deBruijn32tab), ("math/bits.deBruijn64tab", laid_math_bits_deBruijn64tab), ("internal/strconv.uint64pow10", laid_internal_strconv_uint64pow10)] }
def CsiparamCanonicalSaid : Prop := csiparamCanonicalRow.holds Tryd.pinned (OpenSpec.ofChange csiparamCanonicalSpec)

/-- ITS FALSE NEIGHBOUR: 'it returns false'. Refute it at one input. -/
def csiparamCanonicalWrong : ChangeSpec := { name := "csiparamCanonical", fn := fun _ => fun
  | [d] => { results := [.lit (.bool false)], args := [d] }
  | _ => none }
def CsiparamCanonicalWrongFalsely : Prop := csiparamCanonicalRow.holds Tryd.pinned (OpenSpec.ofChange csiparamCanonicalWrong)

/-- 'narratorlaw05.CsiparamSyntax': WHATEVER THE INPUT: true; the input reads as it did. -/
def csiparamSyntaxSpec : ChangeSpec := { name := "csiparamSyntax", fn := fun _ => fun
  | [d1, d2, d3] => { results := [.lit (.bool true)], args := [d1, d2, d3] }
  | _ => none }
def csiparamSyntaxRow : OpenClaim := { program := "ytijkhfgkcndnpaadoor", sum := "546f36520cd0ef5b22878dd26fd1d686f36bd43a979603696a911bbdf96fb6be", func := "narrator/narratorlaw05.CsiparamSyntax", spec := "csiparamSyntax", unfollowed := true, recurses := true, named := ["internal/strconv.uint64pow10", "math/bits.deBruijn32tab", "math/bits.deBruijn64tab"], apart := false, laid := [("math/bits.deBruijn32tab", laid_math_bits_deBruijn32tab), ("math/bits.deBruijn64tab", laid_math_bits_deBruijn64tab), ("internal/strconv.uint64pow10", laid_internal_strconv_uint64pow10)] }
def CsiparamSyntaxSaid : Prop := csiparamSyntaxRow.holds Tryd.pinned (OpenSpec.ofChange csiparamSyntaxSpec)

/-- ITS FALSE NEIGHBOUR: 'it returns false'. Refute it at one input. -/
def csiparamSyntaxWrong : ChangeSpec := { name := "csiparamSyntax", fn := fun _ => fun
  | [d1, d2, d3] => { results := [.lit (.bool false)], args := [d1, d2, d3] }
  | _ => none }
def CsiparamSyntaxWrongFalsely : Prop := csiparamSyntaxRow.holds Tryd.pinned (OpenSpec.ofChange csiparamSyntaxWrong)

/-- 'narratorlaw05.CsiparamFormat': WHATEVER THE INPUT: true; the input reads as it did. -/
def csiparamFormatSpec : ChangeSpec := { name := "csiparamFormat", fn := fun _ => fun
  | [d1, d2, d3] => { results := [.lit (.bool true)], args := [d1, d2, d3] }
  | _ => none }
def csiparamFormatRow : OpenClaim := { program := "ytijkhfgkcndnpaadoor", sum := "546f36520cd0ef5b22878dd26fd1d686f36bd43a979603696a911bbdf96fb6be", func := "narrator/narratorlaw05.CsiparamFormat", spec := "csiparamFormat", unfollowed := true, recurses := true, named := ["internal/strconv.uint64pow10", "math/bits.deBruijn32tab", "math/bits.deBruijn64tab"], apart := false, laid := [("math/bits.deBruijn32tab", laid_math_bits_deBruijn32tab), ("math/bits.deBruijn64tab", laid_math_bits_deBruijn64tab), ("internal/strconv.uint64pow10", laid_internal_strconv_uint64pow10)] }
def CsiparamFormatSaid : Prop := csiparamFormatRow.holds Tryd.pinned (OpenSpec.ofChange csiparamFormatSpec)

/-- ITS FALSE NEIGHBOUR: 'it returns false'. Refute it at one input. -/
def csiparamFormatWrong : ChangeSpec := { name := "csiparamFormat", fn := fun _ => fun
  | [d1, d2, d3] => { results := [.lit (.bool false)], args := [d1, d2, d3] }
  | _ => none }
def CsiparamFormatWrongFalsely : Prop := csiparamFormatRow.holds Tryd.pinned (OpenSpec.ofChange csiparamFormatWrong)

/-- 'narratorlaw05.CsiparamDefaults': WHATEVER THE INPUT: true; the input reads as it did. -/
def csiparamDefaultsSpec : ChangeSpec := { name := "csiparamDefaults", fn := fun _ => fun
  | [d1, d2, d3] => { results := [.lit (.bool true)], args := [d1, d2, d3] }
  | _ => none }
def csiparamDefaultsRow : OpenClaim := { program := "ytijkhfgkcndnpaadoor", sum := "546f36520cd0ef5b22878dd26fd1d686f36bd43a979603696a911bbdf96fb6be", func := "narrator/narratorlaw05.CsiparamDefaults", spec := "csiparamDefaults", unfollowed := true, recurses := true, named := ["internal/strconv.uint64pow10", "math/bits.deBruijn32tab", "math/bits.deBruijn64tab"], apart := false, laid := [("math/bits.deBruijn32tab", laid_math_bits_deBruijn32tab), ("math/bits.deBruijn64tab", laid_math_bits_deBruijn64tab), ("internal/strconv.uint64pow10", laid_internal_strconv_uint64pow10)] }
def CsiparamDefaultsSaid : Prop := csiparamDefaultsRow.holds Tryd.pinned (OpenSpec.ofChange csiparamDefaultsSpec)

/-- ITS FALSE NEIGHBOUR: 'it returns false'. Refute it at one input. -/
def csiparamDefaultsWrong : ChangeSpec := { name := "csiparamDefaults", fn := fun _ => fun
  | [d1, d2, d3] => { results := [.lit (.bool false)], args := [d1, d2, d3] }
  | _ => none }
def CsiparamDefaultsWrongFalsely : Prop := csiparamDefaultsRow.holds Tryd.pinned (OpenSpec.ofChange csiparamDefaultsWrong)

/-- 'narratorlaw05.CsiparamJoin': WHATEVER THE INPUT: true; the input reads as it did. -/
def csiparamJoinSpec : ChangeSpec := { name := "csiparamJoin", fn := fun _ => fun
  | [d1, d2] => { results := [.lit (.bool true)], args := [d1, d2] }
  | _ => none }
def csiparamJoinRow : OpenClaim := { program := "ytijkhfgkcndnpaadoor", sum := "546f36520cd0ef5b22878dd26fd1d686f36bd43a979603696a911bbdf96fb6be", func := "narrator/narratorlaw05.CsiparamJoin", spec := "csiparamJoin", inPlace := ["internal/bytealg.IndexByteString", "internal/bytealg.IndexString"], unfollowed := true, recurses := true, named := ["unicode/utf8.first", "unicode/utf8.acceptRanges", "internal/strconv.uint64pow10", "math/bits.deBruijn32tab", "math/bits.deBruijn64tab", "internal/bytealg.MaxLen"], apart := false, laid := [("math/bits.deBruijn32tab", laid_math_bits_deBruijn32tab), ("math/bits.deBruijn64tab", laid_math_bits_deBruijn64tab), ("internal/strconv.uint64pow10", laid_internal_strconv_uint64pow10), ("unicode/utf8.acceptRanges", laid_unicode_utf8_acceptRanges), ("unicode/utf8.first", laid_unicode_utf8_first)] }
def CsiparamJoinSaid : Prop := csiparamJoinRow.holds Tryd.pinned (OpenSpec.ofChange csiparamJoinSpec)

/-- ITS FALSE NEIGHBOUR: 'it returns false'. Refute it at one input. -/
def csiparamJoinWrong : ChangeSpec := { name := "csiparamJoin", fn := fun _ => fun
  | [d1, d2] => { results := [.lit (.bool false)], args := [d1, d2] }
  | _ => none }
def CsiparamJoinWrongFalsely : Prop := csiparamJoinRow.holds Tryd.pinned (OpenSpec.ofChange csiparamJoinWrong)

/-- 'narratorlaw05.CsiparamMarkers': WHATEVER THE INPUT: true; the input reads as it did. -/
def csiparamMarkersSpec : ChangeSpec := { name := "csiparamMarkers", fn := fun _ => fun
  | [d1, d2, d3] => { results := [.lit (.bool true)], args := [d1, d2, d3] }
  | _ => none }
def csiparamMarkersRow : OpenClaim := { program := "ytijkhfgkcndnpaadoor", sum := "546f36520cd0ef5b22878dd26fd1d686f36bd43a979603696a911bbdf96fb6be", func := "narrator/narratorlaw05.CsiparamMarkers", spec := "csiparamMarkers", inPlace := ["internal/bytealg.IndexByteString", "internal/bytealg.IndexString"], unfollowed := true, recurses := true, named := ["unicode/utf8.first", "unicode/utf8.acceptRanges", "internal/strconv.uint64pow10", "math/bits.deBruijn32tab", "math/bits.deBruijn64tab", "internal/bytealg.MaxLen"], apart := false, laid := [("math/bits.deBruijn32tab", laid_math_bits_deBruijn32tab), ("math/bits.deBruijn64tab", laid_math_bits_deBruijn64tab), ("internal/strconv.uint64pow10", laid_internal_strconv_uint64pow10), ("unicode/utf8.acceptRanges", laid_unicode_utf8_acceptRanges), ("unicode/utf8.first", laid_unicode_utf8_first)] }
def CsiparamMarkersSaid : Prop := csiparamMarkersRow.holds Tryd.pinned (OpenSpec.ofChange csiparamMarkersSpec)

/-- ITS FALSE NEIGHBOUR: 'it returns false'. Refute it at one input. -/
def csiparamMarkersWrong : ChangeSpec := { name := "csiparamMarkers", fn := fun _ => fun
  | [d1, d2, d3] => { results := [.lit (.bool false)], args := [d1, d2, d3] }
  | _ => none }
def CsiparamMarkersWrongFalsely : Prop := csiparamMarkersRow.holds Tryd.pinned (OpenSpec.ofChange csiparamMarkersWrong)

/- THE SECOND FORM. 'bulk': how many values and letters a reading holds, each counted each time it is reached (what is shared counts as often as it is met; a slice's spare places count too). A statement '..UptoSaid' is the law's where the arguments, and the package variables that the reading takes, are together of bulk at most 1048576: NARROWER than '..Said'. Prove '..Said' where nothing that the law and all that it calls make is longer than what came in: it says more and counts as full. Else prove '..UptoSaid'. A law counts once. -/
mutual
def uptoBulk {H : Type} : DataW H → Nat
  | .lit (.string bytes) => bytes.length + 1
  | .lit _ => 1
  | .nil => 1
  | .ptr d => uptoBulk d + 1
  | .slice elems spare => uptoBulkAll elems + uptoBulkAll spare + 1
  | .agg parts => uptoBulkAll parts + 1
  | .iface _ d => uptoBulk d + 1
  | .map entries => uptoBulkEntries entries + 1
  | .held _ => 1
def uptoBulkAll {H : Type} : List (DataW H) → Nat
  | [] => 0
  | d :: r => uptoBulk d + uptoBulkAll r
def uptoBulkEntries {H : Type} : List (Lit × DataW H) → Nat
  | [] => 0
  | x :: r => uptoBulkEntry x + uptoBulkEntries r
def uptoBulkEntry {H : Type} : Lit × DataW H → Nat
  | (.string bytes, d) => bytes.length + uptoBulk d + 1
  | (_, d) => uptoBulk d + 1
 end
def uptoSmall : (H : Type) → List (DataW H) → Bool := fun _ ds => decide (uptoBulkAll ds ≤ 1048576)
def OpenSpec.upto (s : _root_.Go.ChangeSpec) : _root_.Go.OpenSpec := { _root_.Go.OpenSpec.ofChange s with cond := some uptoSmall }

/-- 'narratorlaw05.CsiparamParse', WHERE WHAT IT READS IS OF BULK AT MOST 1048576: true; the input reads as it did. -/
def csiparamParseUptoRow : OpenClaim := { program := "ytijkhfgkcndnpaadoor", sum := "546f36520cd0ef5b22878dd26fd1d686f36bd43a979603696a911bbdf96fb6be", func := "narrator/narratorlaw05.CsiparamParse", spec := "csiparamParse", unfollowed := true, recurses := true, named := ["internal/strconv.uint64pow10", "math/bits.deBruijn32tab", "math/bits.deBruijn64tab"], apart := false, laid := [("math/bits.deBruijn32tab", laid_math_bits_deBruijn32tab), ("math/bits.deBruijn64tab", laid_math_bits_deBruijn64tab), ("internal/strconv.uint64pow10", laid_internal_strconv_uint64pow10)], narrowed := true }
def CsiparamParseUptoSaid : Prop := csiparamParseUptoRow.holds Tryd.pinned (OpenSpec.upto csiparamParseSpec)

/-- 'narratorlaw05.CsiparamRoundTrip', WHERE WHAT IT READS IS OF BULK AT MOST 1048576: true; the input reads as it did. -/
def csiparamRoundTripUptoRow : OpenClaim := { program := "ytijkhfgkcndnpaadoor", sum := "546f36520cd0ef5b22878dd26fd1d686f36bd43a979603696a911bbdf96fb6be", func := "narrator/narratorlaw05.CsiparamRoundTrip", spec := "csiparamRoundTrip", unfollowed := true, recurses := true, named := ["internal/strconv.uint64pow10", "math/bits.deBruijn32tab", "math/bits.deBruijn64tab"], apart := false, laid := [("math/bits.deBruijn32tab", laid_math_bits_deBruijn32tab), ("math/bits.deBruijn64tab", laid_math_bits_deBruijn64tab), ("internal/strconv.uint64pow10", laid_internal_strconv_uint64pow10)], narrowed := true }
def CsiparamRoundTripUptoSaid : Prop := csiparamRoundTripUptoRow.holds Tryd.pinned (OpenSpec.upto csiparamRoundTripSpec)

/-- 'narratorlaw05.CsiparamCanonical', WHERE WHAT IT READS IS OF BULK AT MOST 1048576: true; the input reads as it did. -/
def csiparamCanonicalUptoRow : OpenClaim := { program := "ytijkhfgkcndnpaadoor", sum := "546f36520cd0ef5b22878dd26fd1d686f36bd43a979603696a911bbdf96fb6be", func := "narrator/narratorlaw05.CsiparamCanonical", spec := "csiparamCanonical", unfollowed := true, recurses := true, named := ["internal/strconv.uint64pow10", "math/bits.deBruijn32tab", "math/bits.deBruijn64tab"], apart := false, laid := [("math/bits.deBruijn32tab", laid_math_bits_deBruijn32tab), ("math/bits.deBruijn64tab", laid_math_bits_deBruijn64tab), ("internal/strconv.uint64pow10", laid_internal_strconv_uint64pow10)], narrowed := true }
def CsiparamCanonicalUptoSaid : Prop := csiparamCanonicalUptoRow.holds Tryd.pinned (OpenSpec.upto csiparamCanonicalSpec)

/-- 'narratorlaw05.CsiparamSyntax', WHERE WHAT IT READS IS OF BULK AT MOST 1048576: true; the input reads as it did. -/
def csiparamSyntaxUptoRow : OpenClaim := { program := "ytijkhfgkcndnpaadoor", sum := "546f36520cd0ef5b22878dd26fd1d686f36bd43a979603696a911bbdf96fb6be", func := "narrator/narratorlaw05.CsiparamSyntax", spec := "csiparamSyntax", unfollowed := true, recurses := true, named := ["internal/strconv.uint64pow10", "math/bits.deBruijn32tab", "math/bits.deBruijn64tab"], apart := false, laid := [("math/bits.deBruijn32tab", laid_math_bits_deBruijn32tab), ("math/bits.deBruijn64tab", laid_math_bits_deBruijn64tab), ("internal/strconv.uint64pow10", laid_internal_strconv_uint64pow10)], narrowed := true }
def CsiparamSyntaxUptoSaid : Prop := csiparamSyntaxUptoRow.holds Tryd.pinned (OpenSpec.upto csiparamSyntaxSpec)

/-- 'narratorlaw05.CsiparamFormat', WHERE WHAT IT READS IS OF BULK AT MOST 1048576: true; the input reads as it did. -/
def csiparamFormatUptoRow : OpenClaim := { program := "ytijkhfgkcndnpaadoor", sum := "546f36520cd0ef5b22878dd26fd1d686f36bd43a979603696a911bbdf96fb6be", func := "narrator/narratorlaw05.CsiparamFormat", spec := "csiparamFormat", unfollowed := true, recurses := true, named := ["internal/strconv.uint64pow10", "math/bits.deBruijn32tab", "math/bits.deBruijn64tab"], apart := false, laid := [("math/bits.deBruijn32tab", laid_math_bits_deBruijn32tab), ("math/bits.deBruijn64tab", laid_math_bits_deBruijn64tab), ("internal/strconv.uint64pow10", laid_internal_strconv_uint64pow10)], narrowed := true }
def CsiparamFormatUptoSaid : Prop := csiparamFormatUptoRow.holds Tryd.pinned (OpenSpec.upto csiparamFormatSpec)

/-- 'narratorlaw05.CsiparamDefaults', WHERE WHAT IT READS IS OF BULK AT MOST 1048576: true; the input reads as it did. -/
def csiparamDefaultsUptoRow : OpenClaim := { program := "ytijkhfgkcndnpaadoor", sum := "546f36520cd0ef5b22878dd26fd1d686f36bd43a979603696a911bbdf96fb6be", func := "narrator/narratorlaw05.CsiparamDefaults", spec := "csiparamDefaults", unfollowed := true, recurses := true, named := ["internal/strconv.uint64pow10", "math/bits.deBruijn32tab", "math/bits.deBruijn64tab"], apart := false, laid := [("math/bits.deBruijn32tab", laid_math_bits_deBruijn32tab), ("math/bits.deBruijn64tab", laid_math_bits_deBruijn64tab), ("internal/strconv.uint64pow10", laid_internal_strconv_uint64pow10)], narrowed := true }
def CsiparamDefaultsUptoSaid : Prop := csiparamDefaultsUptoRow.holds Tryd.pinned (OpenSpec.upto csiparamDefaultsSpec)

/-- 'narratorlaw05.CsiparamJoin', WHERE WHAT IT READS IS OF BULK AT MOST 1048576: true; the input reads as it did. -/
def csiparamJoinUptoRow : OpenClaim := { program := "ytijkhfgkcndnpaadoor", sum := "546f36520cd0ef5b22878dd26fd1d686f36bd43a979603696a911bbdf96fb6be", func := "narrator/narratorlaw05.CsiparamJoin", spec := "csiparamJoin", inPlace := ["internal/bytealg.IndexByteString", "internal/bytealg.IndexString"], unfollowed := true, recurses := true, named := ["unicode/utf8.first", "unicode/utf8.acceptRanges", "internal/strconv.uint64pow10", "math/bits.deBruijn32tab", "math/bits.deBruijn64tab", "internal/bytealg.MaxLen"], apart := false, laid := [("math/bits.deBruijn32tab", laid_math_bits_deBruijn32tab), ("math/bits.deBruijn64tab", laid_math_bits_deBruijn64tab), ("internal/strconv.uint64pow10", laid_internal_strconv_uint64pow10), ("unicode/utf8.acceptRanges", laid_unicode_utf8_acceptRanges), ("unicode/utf8.first", laid_unicode_utf8_first)], narrowed := true }
def CsiparamJoinUptoSaid : Prop := csiparamJoinUptoRow.holds Tryd.pinned (OpenSpec.upto csiparamJoinSpec)

/-- 'narratorlaw05.CsiparamMarkers', WHERE WHAT IT READS IS OF BULK AT MOST 1048576: true; the input reads as it did. -/
def csiparamMarkersUptoRow : OpenClaim := { program := "ytijkhfgkcndnpaadoor", sum := "546f36520cd0ef5b22878dd26fd1d686f36bd43a979603696a911bbdf96fb6be", func := "narrator/narratorlaw05.CsiparamMarkers", spec := "csiparamMarkers", inPlace := ["internal/bytealg.IndexByteString", "internal/bytealg.IndexString"], unfollowed := true, recurses := true, named := ["unicode/utf8.first", "unicode/utf8.acceptRanges", "internal/strconv.uint64pow10", "math/bits.deBruijn32tab", "math/bits.deBruijn64tab", "internal/bytealg.MaxLen"], apart := false, laid := [("math/bits.deBruijn32tab", laid_math_bits_deBruijn32tab), ("math/bits.deBruijn64tab", laid_math_bits_deBruijn64tab), ("internal/strconv.uint64pow10", laid_internal_strconv_uint64pow10), ("unicode/utf8.acceptRanges", laid_unicode_utf8_acceptRanges), ("unicode/utf8.first", laid_unicode_utf8_first)], narrowed := true }
def CsiparamMarkersUptoSaid : Prop := csiparamMarkersUptoRow.holds Tryd.pinned (OpenSpec.upto csiparamMarkersSpec)

end Rows
end Go.Proofs.YtijkhfgkcndnpaaDoor
