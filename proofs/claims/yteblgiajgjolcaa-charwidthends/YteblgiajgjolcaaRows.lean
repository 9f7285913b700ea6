/-
  No cell of these rows narrows 'for every input' (looked for: loops, veiled, ifaces, maps, wideKeys, modest, calm, conditions, laid).
  DERIVED. THE GIVEN ROWS OF THIS SEAT. 8 by the template 'for every input the law returns true; each argument reads behind the call as it read before'; 0 by the template 'total and deterministic' (their statements: YteblgiajgjolcaaTotals.lean).
  GIVEN WITH THE SEED: the statements are not yours to turn. If you find one false, say at which input.
  Laid BY PROGRAM, IN A SANDBOX (cutbox-rows.mjs): the forced cells as the released guide's own fill.sh prints them over the translation 8e405583d65fb4d8… (all of the seat's roots in one cut). By AI agents, Wed Nov 11 2026. No macro, syntax, notation, axiom, sorry.
-/
import Derived.Test.YteblgiajgjolcaaChecked
import GoSem.Claim
import GoSem.ClaimJoined
import GoSem.ClaimMapViews
import Derived.JoinedTies
import Derived.KernelRfl
namespace Go.Proofs.Yteblgiajgjolcaa
/- THE CELL 'sum', in the pinned program and in every row, IS THE sha256 OF THE DUMP (.gsa) THAT YteblgiajgjolcaaProg.lean LOADS. Nothing in Lean hashes anything: it is a label: what it is worth is what the hold of that sum in a sandbox is worth. -/
noncomputable def Try.pinned : Pinned := { name := "yteblgiajgjolcaa", sum := "8e405583d65fb4d8f4c7ba4f15577bb4653dbac1b84589066c3daea3b19ea4ae", checked := Try.checked }
namespace Rows
def none {H : Type} : Left H := { results := [], args := [] }

/-- 'narratorlaw02.CharwidthWidth': WHATEVER THE INPUT: true; the input reads as it did. -/
def charwidthWidthSpec : ChangeSpec := { name := "charwidthWidth", fn := fun _ => fun
  | [d] => { results := [.lit (.bool true)], args := [d] }
  | _ => none }
def charwidthWidthRow : OpenClaim := { program := "yteblgiajgjolcaa", sum := "8e405583d65fb4d8f4c7ba4f15577bb4653dbac1b84589066c3daea3b19ea4ae", func := "narrator/narratorlaw02.CharwidthWidth", spec := "charwidthWidth", unfollowed := true, recurses := true, apart := false }
def CharwidthWidthSaid : Prop := charwidthWidthRow.holds Try.pinned (OpenSpec.ofChange charwidthWidthSpec)

/-- ITS FALSE NEIGHBOUR: 'it returns false'. Refute it at one input. -/
def charwidthWidthWrong : ChangeSpec := { name := "charwidthWidth", fn := fun _ => fun
  | [d] => { results := [.lit (.bool false)], args := [d] }
  | _ => none }
def CharwidthWidthWrongFalsely : Prop := charwidthWidthRow.holds Try.pinned (OpenSpec.ofChange charwidthWidthWrong)

/-- 'narratorlaw02.CharwidthRanges': WHATEVER THE INPUT: true; the input reads as it did. -/
def charwidthRangesSpec : ChangeSpec := { name := "charwidthRanges", fn := fun _ => fun
  | [d] => { results := [.lit (.bool true)], args := [d] }
  | _ => none }
def charwidthRangesRow : OpenClaim := { program := "yteblgiajgjolcaa", sum := "8e405583d65fb4d8f4c7ba4f15577bb4653dbac1b84589066c3daea3b19ea4ae", func := "narrator/narratorlaw02.CharwidthRanges", spec := "charwidthRanges", unfollowed := true, recurses := true, apart := false }
def CharwidthRangesSaid : Prop := charwidthRangesRow.holds Try.pinned (OpenSpec.ofChange charwidthRangesSpec)

/-- ITS FALSE NEIGHBOUR: 'it returns false'. Refute it at one input. -/
def charwidthRangesWrong : ChangeSpec := { name := "charwidthRanges", fn := fun _ => fun
  | [d] => { results := [.lit (.bool false)], args := [d] }
  | _ => none }
def CharwidthRangesWrongFalsely : Prop := charwidthRangesRow.holds Try.pinned (OpenSpec.ofChange charwidthRangesWrong)

/-- 'narratorlaw02.CharwidthEnds': WHATEVER THE INPUT: true; the input reads as it did. -/
def charwidthEndsSpec : ChangeSpec := { name := "charwidthEnds", fn := fun _ => fun
  | [d] => { results := [.lit (.bool true)], args := [d] }
  | _ => none }
def charwidthEndsRow : OpenClaim := { program := "yteblgiajgjolcaa", sum := "8e405583d65fb4d8f4c7ba4f15577bb4653dbac1b84589066c3daea3b19ea4ae", func := "narrator/narratorlaw02.CharwidthEnds", spec := "charwidthEnds", unfollowed := true, recurses := true, apart := false }
def CharwidthEndsSaid : Prop := charwidthEndsRow.holds Try.pinned (OpenSpec.ofChange charwidthEndsSpec)

/-- ITS FALSE NEIGHBOUR: 'it returns false'. Refute it at one input. -/
def charwidthEndsWrong : ChangeSpec := { name := "charwidthEnds", fn := fun _ => fun
  | [d] => { results := [.lit (.bool false)], args := [d] }
  | _ => none }
def CharwidthEndsWrongFalsely : Prop := charwidthEndsRow.holds Try.pinned (OpenSpec.ofChange charwidthEndsWrong)

/-- 'narratorlaw02.CharwidthKinds': WHATEVER THE INPUT: true; the input reads as it did. -/
def charwidthKindsSpec : ChangeSpec := { name := "charwidthKinds", fn := fun _ => fun
  | [d] => { results := [.lit (.bool true)], args := [d] }
  | _ => none }
def charwidthKindsRow : OpenClaim := { program := "yteblgiajgjolcaa", sum := "8e405583d65fb4d8f4c7ba4f15577bb4653dbac1b84589066c3daea3b19ea4ae", func := "narrator/narratorlaw02.CharwidthKinds", spec := "charwidthKinds", unfollowed := true, recurses := true, apart := false }
def CharwidthKindsSaid : Prop := charwidthKindsRow.holds Try.pinned (OpenSpec.ofChange charwidthKindsSpec)

/-- ITS FALSE NEIGHBOUR: 'it returns false'. Refute it at one input. -/
def charwidthKindsWrong : ChangeSpec := { name := "charwidthKinds", fn := fun _ => fun
  | [d] => { results := [.lit (.bool false)], args := [d] }
  | _ => none }
def CharwidthKindsWrongFalsely : Prop := charwidthKindsRow.holds Try.pinned (OpenSpec.ofChange charwidthKindsWrong)

/-- 'narratorlaw02.CharwidthBlocks': WHATEVER THE INPUT: true; the input reads as it did. -/
def charwidthBlocksSpec : ChangeSpec := { name := "charwidthBlocks", fn := fun _ => fun
  | [d] => { results := [.lit (.bool true)], args := [d] }
  | _ => none }
def charwidthBlocksRow : OpenClaim := { program := "yteblgiajgjolcaa", sum := "8e405583d65fb4d8f4c7ba4f15577bb4653dbac1b84589066c3daea3b19ea4ae", func := "narrator/narratorlaw02.CharwidthBlocks", spec := "charwidthBlocks", unfollowed := true, recurses := true, apart := false }
def CharwidthBlocksSaid : Prop := charwidthBlocksRow.holds Try.pinned (OpenSpec.ofChange charwidthBlocksSpec)

/-- ITS FALSE NEIGHBOUR: 'it returns false'. Refute it at one input. -/
def charwidthBlocksWrong : ChangeSpec := { name := "charwidthBlocks", fn := fun _ => fun
  | [d] => { results := [.lit (.bool false)], args := [d] }
  | _ => none }
def CharwidthBlocksWrongFalsely : Prop := charwidthBlocksRow.holds Try.pinned (OpenSpec.ofChange charwidthBlocksWrong)

/-- 'narratorlaw02.CharwidthTotal': WHATEVER THE INPUT: true; the input reads as it did. -/
def charwidthTotalSpec : ChangeSpec := { name := "charwidthTotal", fn := fun _ => fun
  | [d] => { results := [.lit (.bool true)], args := [d] }
  | _ => none }
def charwidthTotalRow : OpenClaim := { program := "yteblgiajgjolcaa", sum := "8e405583d65fb4d8f4c7ba4f15577bb4653dbac1b84589066c3daea3b19ea4ae", func := "narrator/narratorlaw02.CharwidthTotal", spec := "charwidthTotal", unfollowed := true, recurses := true, apart := false }
def CharwidthTotalSaid : Prop := charwidthTotalRow.holds Try.pinned (OpenSpec.ofChange charwidthTotalSpec)

/-- ITS FALSE NEIGHBOUR: 'it returns false'. Refute it at one input. -/
def charwidthTotalWrong : ChangeSpec := { name := "charwidthTotal", fn := fun _ => fun
  | [d] => { results := [.lit (.bool false)], args := [d] }
  | _ => none }
def CharwidthTotalWrongFalsely : Prop := charwidthTotalRow.holds Try.pinned (OpenSpec.ofChange charwidthTotalWrong)

/-- 'narratorlaw02.CharwidthSums': WHATEVER THE INPUT: true; the input reads as it did. -/
def charwidthSumsSpec : ChangeSpec := { name := "charwidthSums", fn := fun _ => fun
  | [d1, d2] => { results := [.lit (.bool true)], args := [d1, d2] }
  | _ => none }
def charwidthSumsRow : OpenClaim := { program := "yteblgiajgjolcaa", sum := "8e405583d65fb4d8f4c7ba4f15577bb4653dbac1b84589066c3daea3b19ea4ae", func := "narrator/narratorlaw02.CharwidthSums", spec := "charwidthSums", unfollowed := true, recurses := true, apart := false }
def CharwidthSumsSaid : Prop := charwidthSumsRow.holds Try.pinned (OpenSpec.ofChange charwidthSumsSpec)

/-- ITS FALSE NEIGHBOUR: 'it returns false'. Refute it at one input. -/
def charwidthSumsWrong : ChangeSpec := { name := "charwidthSums", fn := fun _ => fun
  | [d1, d2] => { results := [.lit (.bool false)], args := [d1, d2] }
  | _ => none }
def CharwidthSumsWrongFalsely : Prop := charwidthSumsRow.holds Try.pinned (OpenSpec.ofChange charwidthSumsWrong)

/-- 'narratorlaw02.CharwidthCounts': WHATEVER THE INPUT: true; the input reads as it did. -/
def charwidthCountsSpec : ChangeSpec := { name := "charwidthCounts", fn := fun _ => fun
  | [d] => { results := [.lit (.bool true)], args := [d] }
  | _ => none }
def charwidthCountsRow : OpenClaim := { program := "yteblgiajgjolcaa", sum := "8e405583d65fb4d8f4c7ba4f15577bb4653dbac1b84589066c3daea3b19ea4ae", func := "narrator/narratorlaw02.CharwidthCounts", spec := "charwidthCounts", unfollowed := true, recurses := true, apart := false }
def CharwidthCountsSaid : Prop := charwidthCountsRow.holds Try.pinned (OpenSpec.ofChange charwidthCountsSpec)

/-- ITS FALSE NEIGHBOUR: 'it returns false'. Refute it at one input. -/
def charwidthCountsWrong : ChangeSpec := { name := "charwidthCounts", fn := fun _ => fun
  | [d] => { results := [.lit (.bool false)], args := [d] }
  | _ => none }
def CharwidthCountsWrongFalsely : Prop := charwidthCountsRow.holds Try.pinned (OpenSpec.ofChange charwidthCountsWrong)

/- THE SECOND FORM. 'bulk': how many values and letters a reading holds, each counted each time it is reached (what is shared counts as often as it is met; a slice's spare places count too). A statement '..UptoSaid' is the law's where the arguments, and the package variables that the reading takes, are together of bulk at most 1048576: NARROWER than '..Said'. Prove '..Said' where nothing that the law and all that it calls make is longer than what came in: it says more and counts as full. Else prove '..UptoSaid'. A law counts once. -/
mutual
def uptoBulk {H : Type} : DataW H → Nat
  | .lit (.string bytes) => bytes.length + 1
  | .lit _ => 1
  | .nil => 1
  | .ptr d => uptoBulk d + 1
  | .slice elems spare => uptoBulkAll elems + uptoBulkAll spare + 1
  | .agg parts => uptoBulkAll parts + 1
  | .iface _ d => uptoBulk d + 1
  | .map entries => uptoBulkEntries entries + 1
  | .held _ => 1
def uptoBulkAll {H : Type} : List (DataW H) → Nat
  | [] => 0
  | d :: r => uptoBulk d + uptoBulkAll r
def uptoBulkEntries {H : Type} : List (Lit × DataW H) → Nat
  | [] => 0
  | x :: r => uptoBulkEntry x + uptoBulkEntries r
def uptoBulkEntry {H : Type} : Lit × DataW H → Nat
  | (.string bytes, d) => bytes.length + uptoBulk d + 1
  | (_, d) => uptoBulk d + 1
 end
def uptoSmall : (H : Type) → List (DataW H) → Bool := fun _ ds => decide (uptoBulkAll ds ≤ 1048576)
def OpenSpec.upto (s : _root_.Go.ChangeSpec) : _root_.Go.OpenSpec := { _root_.Go.OpenSpec.ofChange s with cond := some uptoSmall }

/-- 'narratorlaw02.CharwidthWidth', WHERE WHAT IT READS IS OF BULK AT MOST 1048576: true; the input reads as it did. -/
def charwidthWidthUptoRow : OpenClaim := { program := "yteblgiajgjolcaa", sum := "8e405583d65fb4d8f4c7ba4f15577bb4653dbac1b84589066c3daea3b19ea4ae", func := "narrator/narratorlaw02.CharwidthWidth", spec := "charwidthWidth", unfollowed := true, recurses := true, apart := false, narrowed := true }
def CharwidthWidthUptoSaid : Prop := charwidthWidthUptoRow.holds Try.pinned (OpenSpec.upto charwidthWidthSpec)

/-- 'narratorlaw02.CharwidthRanges', WHERE WHAT IT READS IS OF BULK AT MOST 1048576: true; the input reads as it did. -/
def charwidthRangesUptoRow : OpenClaim := { program := "yteblgiajgjolcaa", sum := "8e405583d65fb4d8f4c7ba4f15577bb4653dbac1b84589066c3daea3b19ea4ae", func := "narrator/narratorlaw02.CharwidthRanges", spec := "charwidthRanges", unfollowed := true, recurses := true, apart := false, narrowed := true }
def CharwidthRangesUptoSaid : Prop := charwidthRangesUptoRow.holds Try.pinned (OpenSpec.upto charwidthRangesSpec)

/-- 'narratorlaw02.CharwidthEnds', WHERE WHAT IT READS IS OF BULK AT MOST 1048576: true; the input reads as it did. -/
def charwidthEndsUptoRow : OpenClaim := { program := "yteblgiajgjolcaa", sum := "8e405583d65fb4d8f4c7ba4f15577bb4653dbac1b84589066c3daea3b19ea4ae", func := "narrator/narratorlaw02.CharwidthEnds", spec := "charwidthEnds", unfollowed := true, recurses := true, apart := false, narrowed := true }
def CharwidthEndsUptoSaid : Prop := charwidthEndsUptoRow.holds Try.pinned (OpenSpec.upto charwidthEndsSpec)

/-- 'narratorlaw02.CharwidthKinds', WHERE WHAT IT READS IS OF BULK AT MOST 1048576: true; the input reads as it did. -/
def charwidthKindsUptoRow : OpenClaim := { program := "yteblgiajgjolcaa", sum := "8e405583d65fb4d8f4c7ba4f15577bb4653dbac1b84589066c3daea3b19ea4ae", func := "narrator/narratorlaw02.CharwidthKinds", spec := "charwidthKinds", unfollowed := true, recurses := true, apart := false, narrowed := true }
def CharwidthKindsUptoSaid : Prop := charwidthKindsUptoRow.holds Try.pinned (OpenSpec.upto charwidthKindsSpec)

/-- 'narratorlaw02.CharwidthBlocks', WHERE WHAT IT READS IS OF BULK AT MOST 1048576: true; the input reads as it did. -/
def charwidthBlocksUptoRow : OpenClaim := { program := "yteblgiajgjolcaa", sum := "8e405583d65fb4d8f4c7ba4f15577bb4653dbac1b84589066c3daea3b19ea4ae", func := "narrator/narratorlaw02.CharwidthBlocks", spec := "charwidthBlocks", unfollowed := true, recurses := true, apart := false, narrowed := true }
def CharwidthBlocksUptoSaid : Prop := charwidthBlocksUptoRow.holds Try.pinned (OpenSpec.upto charwidthBlocksSpec)

/-- 'narratorlaw02.CharwidthTotal', WHERE WHAT IT READS IS OF BULK AT MOST 1048576: true; the input reads as it did. -/
def charwidthTotalUptoRow : OpenClaim := { program := "yteblgiajgjolcaa", sum := "8e405583d65fb4d8f4c7ba4f15577bb4653dbac1b84589066c3daea3b19ea4ae", func := "narrator/narratorlaw02.CharwidthTotal", spec := "charwidthTotal", unfollowed := true, recurses := true, apart := false, narrowed := true }
def CharwidthTotalUptoSaid : Prop := charwidthTotalUptoRow.holds Try.pinned (OpenSpec.upto charwidthTotalSpec)

/-- 'narratorlaw02.CharwidthSums', WHERE WHAT IT READS IS OF BULK AT MOST 1048576: true; the input reads as it did. -/
def charwidthSumsUptoRow : OpenClaim := { program := "yteblgiajgjolcaa", sum := "8e405583d65fb4d8f4c7ba4f15577bb4653dbac1b84589066c3daea3b19ea4ae", func := "narrator/narratorlaw02.CharwidthSums", spec := "charwidthSums", unfollowed := true, recurses := true, apart := false, narrowed := true }
def CharwidthSumsUptoSaid : Prop := charwidthSumsUptoRow.holds Try.pinned (OpenSpec.upto charwidthSumsSpec)

/-- 'narratorlaw02.CharwidthCounts', WHERE WHAT IT READS IS OF BULK AT MOST 1048576: true; the input reads as it did. -/
def charwidthCountsUptoRow : OpenClaim := { program := "yteblgiajgjolcaa", sum := "8e405583d65fb4d8f4c7ba4f15577bb4653dbac1b84589066c3daea3b19ea4ae", func := "narrator/narratorlaw02.CharwidthCounts", spec := "charwidthCounts", unfollowed := true, recurses := true, apart := false, narrowed := true }
def CharwidthCountsUptoSaid : Prop := charwidthCountsUptoRow.holds Try.pinned (OpenSpec.upto charwidthCountsSpec)

end Rows
end Go.Proofs.Yteblgiajgjolcaa
