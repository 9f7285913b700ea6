/-
  No cell of these rows narrows 'for every input' (looked for: loops, veiled, ifaces, maps, wideKeys, modest, calm, conditions, laid).
  DERIVED. THE GIVEN ROWS OF THIS SEAT. 4 by the template 'for every input the law returns true; each argument reads behind the call as it read before'; 0 by the template 'total and deterministic' (their statements: YtcifhkdbaienjaaTotals.lean).
  GIVEN WITH THE SEED: the statements are not yours to turn. If you find one false, say at which input.
  Laid BY PROGRAM, IN A SANDBOX (cutbox-rows.mjs): the forced cells as the released guide's own fill.sh prints them over the translation 66ebf9f7069945a5… (all of the seat's roots in one cut). By AI agents, Wed Nov 11 2026. No macro, syntax, notation, axiom, sorry.
-/
import Derived.Test.YtcifhkdbaienjaaChecked
import GoSem.Claim
import GoSem.ClaimJoined
import GoSem.ClaimMapViews
import Derived.JoinedTies
import Derived.KernelRfl
namespace Go.Proofs.Ytcifhkdbaienjaa
/- THE CELL 'sum', in the pinned program and in every row, IS THE sha256 OF THE DUMP (.gsa) THAT YtcifhkdbaienjaaProg.lean LOADS. Nothing in Lean hashes anything: it is a label: what it is worth is what the hold of that sum in a sandbox is worth. -/
noncomputable def Try.pinned : Pinned := { name := "ytcifhkdbaienjaa", sum := "66ebf9f7069945a512b1a853adaae9beca94f4e7abb5e907703bb15fc9bd2d7d", checked := Try.checked }
namespace Rows
def none {H : Type} : Left H := { results := [], args := [] }

/-- 'narratorlaw06.VtparseSplit': WHATEVER THE INPUT: true; the input reads as it did. -/
def vtparseSplitSpec : ChangeSpec := { name := "vtparseSplit", fn := fun _ => fun
  | [d1, d2, d3] => { results := [.lit (.bool true)], args := [d1, d2, d3] }
  | _ => none }
def vtparseSplitRow : OpenClaim := { program := "ytcifhkdbaienjaa", sum := "66ebf9f7069945a512b1a853adaae9beca94f4e7abb5e907703bb15fc9bd2d7d", func := "narrator/narratorlaw06.VtparseSplit", spec := "vtparseSplit", unfollowed := true, recurses := true, apart := false }
def VtparseSplitSaid : Prop := vtparseSplitRow.holds Try.pinned (OpenSpec.ofChange vtparseSplitSpec)

/-- ITS FALSE NEIGHBOUR: 'it returns false'. Refute it at one input. -/
def vtparseSplitWrong : ChangeSpec := { name := "vtparseSplit", fn := fun _ => fun
  | [d1, d2, d3] => { results := [.lit (.bool false)], args := [d1, d2, d3] }
  | _ => none }
def VtparseSplitWrongFalsely : Prop := vtparseSplitRow.holds Try.pinned (OpenSpec.ofChange vtparseSplitWrong)

/-- 'narratorlaw06.VtparseCancel': WHATEVER THE INPUT: true; the input reads as it did. -/
def vtparseCancelSpec : ChangeSpec := { name := "vtparseCancel", fn := fun _ => fun
  | [d1, d2] => { results := [.lit (.bool true)], args := [d1, d2] }
  | _ => none }
def vtparseCancelRow : OpenClaim := { program := "ytcifhkdbaienjaa", sum := "66ebf9f7069945a512b1a853adaae9beca94f4e7abb5e907703bb15fc9bd2d7d", func := "narrator/narratorlaw06.VtparseCancel", spec := "vtparseCancel", unfollowed := true, recurses := true, apart := false }
def VtparseCancelSaid : Prop := vtparseCancelRow.holds Try.pinned (OpenSpec.ofChange vtparseCancelSpec)

/-- ITS FALSE NEIGHBOUR: 'it returns false'. Refute it at one input. -/
def vtparseCancelWrong : ChangeSpec := { name := "vtparseCancel", fn := fun _ => fun
  | [d1, d2] => { results := [.lit (.bool false)], args := [d1, d2] }
  | _ => none }
def VtparseCancelWrongFalsely : Prop := vtparseCancelRow.holds Try.pinned (OpenSpec.ofChange vtparseCancelWrong)

/-- 'narratorlaw06.VtparseText': WHATEVER THE INPUT: true; the input reads as it did. -/
def vtparseTextSpec : ChangeSpec := { name := "vtparseText", fn := fun _ => fun
  | [d1, d2] => { results := [.lit (.bool true)], args := [d1, d2] }
  | _ => none }
def vtparseTextRow : OpenClaim := { program := "ytcifhkdbaienjaa", sum := "66ebf9f7069945a512b1a853adaae9beca94f4e7abb5e907703bb15fc9bd2d7d", func := "narrator/narratorlaw06.VtparseText", spec := "vtparseText", unfollowed := true, recurses := true, apart := false }
def VtparseTextSaid : Prop := vtparseTextRow.holds Try.pinned (OpenSpec.ofChange vtparseTextSpec)

/-- ITS FALSE NEIGHBOUR: 'it returns false'. Refute it at one input. -/
def vtparseTextWrong : ChangeSpec := { name := "vtparseText", fn := fun _ => fun
  | [d1, d2] => { results := [.lit (.bool false)], args := [d1, d2] }
  | _ => none }
def VtparseTextWrongFalsely : Prop := vtparseTextRow.holds Try.pinned (OpenSpec.ofChange vtparseTextWrong)

/-- 'narratorlaw06.VtparseFeed': WHATEVER THE INPUT: true; the input reads as it did. -/
def vtparseFeedSpec : ChangeSpec := { name := "vtparseFeed", fn := fun _ => fun
  | [d1, d2] => { results := [.lit (.bool true)], args := [d1, d2] }
  | _ => none }
def vtparseFeedRow : OpenClaim := { program := "ytcifhkdbaienjaa", sum := "66ebf9f7069945a512b1a853adaae9beca94f4e7abb5e907703bb15fc9bd2d7d", func := "narrator/narratorlaw06.VtparseFeed", spec := "vtparseFeed", unfollowed := true, recurses := true, apart := false }
def VtparseFeedSaid : Prop := vtparseFeedRow.holds Try.pinned (OpenSpec.ofChange vtparseFeedSpec)

/-- ITS FALSE NEIGHBOUR: 'it returns false'. Refute it at one input. -/
def vtparseFeedWrong : ChangeSpec := { name := "vtparseFeed", fn := fun _ => fun
  | [d1, d2] => { results := [.lit (.bool false)], args := [d1, d2] }
  | _ => none }
def VtparseFeedWrongFalsely : Prop := vtparseFeedRow.holds Try.pinned (OpenSpec.ofChange vtparseFeedWrong)

/- THE SECOND FORM. 'bulk': how many values and letters a reading holds, each counted each time it is reached (what is shared counts as often as it is met; a slice's spare places count too). A statement '..UptoSaid' is the law's where the arguments, and the package variables that the reading takes, are together of bulk at most 1048576: NARROWER than '..Said'. Prove '..Said' where nothing that the law and all that it calls make is longer than what came in: it says more and counts as full. Else prove '..UptoSaid'. A law counts once. -/
mutual
def uptoBulk {H : Type} : DataW H → Nat
  | .lit (.string bytes) => bytes.length + 1
  | .lit _ => 1
  | .nil => 1
  | .ptr d => uptoBulk d + 1
  | .slice elems spare => uptoBulkAll elems + uptoBulkAll spare + 1
  | .agg parts => uptoBulkAll parts + 1
  | .iface _ d => uptoBulk d + 1
  | .map entries => uptoBulkEntries entries + 1
  | .held _ => 1
def uptoBulkAll {H : Type} : List (DataW H) → Nat
  | [] => 0
  | d :: r => uptoBulk d + uptoBulkAll r
def uptoBulkEntries {H : Type} : List (Lit × DataW H) → Nat
  | [] => 0
  | x :: r => uptoBulkEntry x + uptoBulkEntries r
def uptoBulkEntry {H : Type} : Lit × DataW H → Nat
  | (.string bytes, d) => bytes.length + uptoBulk d + 1
  | (_, d) => uptoBulk d + 1
 end
def uptoSmall : (H : Type) → List (DataW H) → Bool := fun _ ds => decide (uptoBulkAll ds ≤ 1048576)
def OpenSpec.upto (s : _root_.Go.ChangeSpec) : _root_.Go.OpenSpec := { _root_.Go.OpenSpec.ofChange s with cond := some uptoSmall }

/-- 'narratorlaw06.VtparseSplit', WHERE WHAT IT READS IS OF BULK AT MOST 1048576: true; the input reads as it did. -/
def vtparseSplitUptoRow : OpenClaim := { program := "ytcifhkdbaienjaa", sum := "66ebf9f7069945a512b1a853adaae9beca94f4e7abb5e907703bb15fc9bd2d7d", func := "narrator/narratorlaw06.VtparseSplit", spec := "vtparseSplit", unfollowed := true, recurses := true, apart := false, narrowed := true }
def VtparseSplitUptoSaid : Prop := vtparseSplitUptoRow.holds Try.pinned (OpenSpec.upto vtparseSplitSpec)

/-- 'narratorlaw06.VtparseCancel', WHERE WHAT IT READS IS OF BULK AT MOST 1048576: true; the input reads as it did. -/
def vtparseCancelUptoRow : OpenClaim := { program := "ytcifhkdbaienjaa", sum := "66ebf9f7069945a512b1a853adaae9beca94f4e7abb5e907703bb15fc9bd2d7d", func := "narrator/narratorlaw06.VtparseCancel", spec := "vtparseCancel", unfollowed := true, recurses := true, apart := false, narrowed := true }
def VtparseCancelUptoSaid : Prop := vtparseCancelUptoRow.holds Try.pinned (OpenSpec.upto vtparseCancelSpec)

/-- 'narratorlaw06.VtparseText', WHERE WHAT IT READS IS OF BULK AT MOST 1048576: true; the input reads as it did. -/
def vtparseTextUptoRow : OpenClaim := { program := "ytcifhkdbaienjaa", sum := "66ebf9f7069945a512b1a853adaae9beca94f4e7abb5e907703bb15fc9bd2d7d", func := "narrator/narratorlaw06.VtparseText", spec := "vtparseText", unfollowed := true, recurses := true, apart := false, narrowed := true }
def VtparseTextUptoSaid : Prop := vtparseTextUptoRow.holds Try.pinned (OpenSpec.upto vtparseTextSpec)

/-- 'narratorlaw06.VtparseFeed', WHERE WHAT IT READS IS OF BULK AT MOST 1048576: true; the input reads as it did. -/
def vtparseFeedUptoRow : OpenClaim := { program := "ytcifhkdbaienjaa", sum := "66ebf9f7069945a512b1a853adaae9beca94f4e7abb5e907703bb15fc9bd2d7d", func := "narrator/narratorlaw06.VtparseFeed", spec := "vtparseFeed", unfollowed := true, recurses := true, apart := false, narrowed := true }
def VtparseFeedUptoSaid : Prop := vtparseFeedUptoRow.holds Try.pinned (OpenSpec.upto vtparseFeedSpec)

end Rows
end Go.Proofs.Ytcifhkdbaienjaa
