/-
  NARROWER THAN 'FOR EVERY INPUT', by the rows' own cells (each row's printed sentence says how): ScriptverifyDepths: laid · ScriptverifyFuel: laid · ScriptverifyHidden: laid · ScriptverifyPaths: laid · ScriptverifyLongest: laid · ScriptverifyReachable: laid · ScriptverifyPlain: laid · ScriptverifyMore: laid.
  DERIVED. THE GIVEN ROWS OF THIS SEAT. 8 by the template 'for every input the law returns true; each argument reads behind the call as it read before'; 0 by the template 'total and deterministic' (their statements: YtbacmnbjkhjopaaDoorTotals.lean).
  GIVEN WITH THE SEED: the statements are not yours to turn. If you find one false, say at which input.
  Laid BY PROGRAM, IN A SANDBOX (cutbox-rows.mjs): the forced cells as the released guide's own fill.sh prints them over the translation 3147e5807a7a0acc… (all of the seat's roots in one cut). By AI agents, Wed Nov 11 2026. No macro, syntax, notation, axiom, sorry.
-/
import Derived.Test.YtbacmnbjkhjopaaDoorChecked
import GoSem.Claim
import GoSem.ClaimJoined
import GoSem.ClaimMapViews
import Derived.JoinedTies
import Derived.KernelRfl
namespace Go.Proofs.YtbacmnbjkhjopaaDoor
/- THE CELL 'sum', in the pinned program and in every row, IS THE sha256 OF THE DUMP (.gsa) THAT YtbacmnbjkhjopaaDoorProg.lean LOADS. Nothing in Lean hashes anything: it is a label: what it is worth is what the hold of that sum in a sandbox is worth. -/
noncomputable def Tryd.pinned : Pinned := { name := "ytbacmnbjkhjopaadoor", sum := "3147e5807a7a0acc82cdd52c6ccc8efb9a6319182c74d8e171f940bc2642e490", checked := Tryd.checked }
namespace Rows
def none {H : Type} : Left H := { results := [], args := [] }

/- WHAT THE LISTED PACKAGE-LEVEL VARIABLES READ AS WHEN THE CALL BEGINS. Each datum BY PROGRAM (the guide's laid-datum.mjs) off the statement by which the dump's own 'gosem.cut.vars' lays the variable. In a bare row this is a premise. The card (YtbacmnbjkhjopaaDoorCards.lean) ties it to the program's text. -/
def laid_narrator_scriptverify_pops {H : Type} : DataW H := .agg [.lit (.int .i64 0), .lit (.int .i64 0), .lit (.int .i64 0), .lit (.int .i64 0), .lit (.int .i64 1), .lit (.int .i64 1), .lit (.int .i64 0), .lit (.int .i64 0), .lit (.int .i64 2), .lit (.int .i64 2), .lit (.int .i64 2), .lit (.int .i64 2), .lit (.int .i64 2), .lit (.int .i64 1), .lit (.int .i64 1), .lit (.int .i64 1), .lit (.int .i64 2), .lit (.int .i64 0), .lit (.int .i64 1), .lit (.int .i64 1), .lit (.int .i64 1)]
def laid_narrator_scriptverify_pushes {H : Type} : DataW H := .agg [.lit (.int .i64 0), .lit (.int .i64 1), .lit (.int .i64 1), .lit (.int .i64 1), .lit (.int .i64 1), .lit (.int .i64 1), .lit (.int .i64 1), .lit (.int .i64 1), .lit (.int .i64 1), .lit (.int .i64 1), .lit (.int .i64 1), .lit (.int .i64 1), .lit (.int .i64 1), .lit (.int .i64 1), .lit (.int .i64 2), .lit (.int .i64 0), .lit (.int .i64 2), .lit (.int .i64 0), .lit (.int .i64 0), .lit (.int .i64 0), .lit (.int .i64 0)]

/-- 'narratorlaw47.ScriptverifyDepths': WHATEVER THE INPUT: true; the input reads as it did. -/
def scriptverifyDepthsSpec : ChangeSpec := { name := "scriptverifyDepths", fn := fun _ => fun
  | [d] => { results := [.lit (.bool true)], args := [d] }
  | _ => none }
def scriptverifyDepthsRow : OpenClaim := { program := "ytbacmnbjkhjopaadoor", sum := "3147e5807a7a0acc82cdd52c6ccc8efb9a6319182c74d8e171f940bc2642e490", func := "narrator/narratorlaw47.ScriptverifyDepths", spec := "scriptverifyDepths", unfollowed := true, recurses := true, named := ["narrator/scriptverify.pops", "narrator/scriptverify.pushes"], apart := false, laid := [("narrator/scriptverify.pops", laid_narrator_scriptverify_pops), ("narrator/scriptverify.pushes", laid_narrator_scriptverify_pushes)] }
def ScriptverifyDepthsSaid : Prop := scriptverifyDepthsRow.holds Tryd.pinned (OpenSpec.ofChange scriptverifyDepthsSpec)

/-- ITS FALSE NEIGHBOUR: 'it returns false'. Refute it at one input. -/
def scriptverifyDepthsWrong : ChangeSpec := { name := "scriptverifyDepths", fn := fun _ => fun
  | [d] => { results := [.lit (.bool false)], args := [d] }
  | _ => none }
def ScriptverifyDepthsWrongFalsely : Prop := scriptverifyDepthsRow.holds Tryd.pinned (OpenSpec.ofChange scriptverifyDepthsWrong)

/-- 'narratorlaw47.ScriptverifyFuel': WHATEVER THE INPUT: true; the input reads as it did. -/
def scriptverifyFuelSpec : ChangeSpec := { name := "scriptverifyFuel", fn := fun _ => fun
  | [d] => { results := [.lit (.bool true)], args := [d] }
  | _ => none }
def scriptverifyFuelRow : OpenClaim := { program := "ytbacmnbjkhjopaadoor", sum := "3147e5807a7a0acc82cdd52c6ccc8efb9a6319182c74d8e171f940bc2642e490", func := "narrator/narratorlaw47.ScriptverifyFuel", spec := "scriptverifyFuel", unfollowed := true, recurses := true, named := ["narrator/scriptverify.pops", "narrator/scriptverify.pushes"], apart := false, laid := [("narrator/scriptverify.pops", laid_narrator_scriptverify_pops), ("narrator/scriptverify.pushes", laid_narrator_scriptverify_pushes)] }
def ScriptverifyFuelSaid : Prop := scriptverifyFuelRow.holds Tryd.pinned (OpenSpec.ofChange scriptverifyFuelSpec)

/-- ITS FALSE NEIGHBOUR: 'it returns false'. Refute it at one input. -/
def scriptverifyFuelWrong : ChangeSpec := { name := "scriptverifyFuel", fn := fun _ => fun
  | [d] => { results := [.lit (.bool false)], args := [d] }
  | _ => none }
def ScriptverifyFuelWrongFalsely : Prop := scriptverifyFuelRow.holds Tryd.pinned (OpenSpec.ofChange scriptverifyFuelWrong)

/-- 'narratorlaw47.ScriptverifyHidden': WHATEVER THE INPUT: true; the input reads as it did. -/
def scriptverifyHiddenSpec : ChangeSpec := { name := "scriptverifyHidden", fn := fun _ => fun
  | [d] => { results := [.lit (.bool true)], args := [d] }
  | _ => none }
def scriptverifyHiddenRow : OpenClaim := { program := "ytbacmnbjkhjopaadoor", sum := "3147e5807a7a0acc82cdd52c6ccc8efb9a6319182c74d8e171f940bc2642e490", func := "narrator/narratorlaw47.ScriptverifyHidden", spec := "scriptverifyHidden", unfollowed := true, recurses := true, named := ["narrator/scriptverify.pops", "narrator/scriptverify.pushes"], apart := false, laid := [("narrator/scriptverify.pops", laid_narrator_scriptverify_pops), ("narrator/scriptverify.pushes", laid_narrator_scriptverify_pushes)] }
def ScriptverifyHiddenSaid : Prop := scriptverifyHiddenRow.holds Tryd.pinned (OpenSpec.ofChange scriptverifyHiddenSpec)

/-- ITS FALSE NEIGHBOUR: 'it returns false'. Refute it at one input. -/
def scriptverifyHiddenWrong : ChangeSpec := { name := "scriptverifyHidden", fn := fun _ => fun
  | [d] => { results := [.lit (.bool false)], args := [d] }
  | _ => none }
def ScriptverifyHiddenWrongFalsely : Prop := scriptverifyHiddenRow.holds Tryd.pinned (OpenSpec.ofChange scriptverifyHiddenWrong)

/-- 'narratorlaw47.ScriptverifyPaths': WHATEVER THE INPUT: true; the input reads as it did. -/
def scriptverifyPathsSpec : ChangeSpec := { name := "scriptverifyPaths", fn := fun _ => fun
  | [d1, d2] => { results := [.lit (.bool true)], args := [d1, d2] }
  | _ => none }
def scriptverifyPathsRow : OpenClaim := { program := "ytbacmnbjkhjopaadoor", sum := "3147e5807a7a0acc82cdd52c6ccc8efb9a6319182c74d8e171f940bc2642e490", func := "narrator/narratorlaw47.ScriptverifyPaths", spec := "scriptverifyPaths", unfollowed := true, recurses := true, named := ["narrator/scriptverify.pops", "narrator/scriptverify.pushes"], apart := false, laid := [("narrator/scriptverify.pops", laid_narrator_scriptverify_pops), ("narrator/scriptverify.pushes", laid_narrator_scriptverify_pushes)] }
def ScriptverifyPathsSaid : Prop := scriptverifyPathsRow.holds Tryd.pinned (OpenSpec.ofChange scriptverifyPathsSpec)

/-- ITS FALSE NEIGHBOUR: 'it returns false'. Refute it at one input. -/
def scriptverifyPathsWrong : ChangeSpec := { name := "scriptverifyPaths", fn := fun _ => fun
  | [d1, d2] => { results := [.lit (.bool false)], args := [d1, d2] }
  | _ => none }
def ScriptverifyPathsWrongFalsely : Prop := scriptverifyPathsRow.holds Tryd.pinned (OpenSpec.ofChange scriptverifyPathsWrong)

/-- 'narratorlaw47.ScriptverifyLongest': WHATEVER THE INPUT: true; the input reads as it did. -/
def scriptverifyLongestSpec : ChangeSpec := { name := "scriptverifyLongest", fn := fun _ => fun
  | [d] => { results := [.lit (.bool true)], args := [d] }
  | _ => none }
def scriptverifyLongestRow : OpenClaim := { program := "ytbacmnbjkhjopaadoor", sum := "3147e5807a7a0acc82cdd52c6ccc8efb9a6319182c74d8e171f940bc2642e490", func := "narrator/narratorlaw47.ScriptverifyLongest", spec := "scriptverifyLongest", unfollowed := true, recurses := true, named := ["narrator/scriptverify.pops", "narrator/scriptverify.pushes"], apart := false, laid := [("narrator/scriptverify.pops", laid_narrator_scriptverify_pops), ("narrator/scriptverify.pushes", laid_narrator_scriptverify_pushes)] }
def ScriptverifyLongestSaid : Prop := scriptverifyLongestRow.holds Tryd.pinned (OpenSpec.ofChange scriptverifyLongestSpec)

/-- ITS FALSE NEIGHBOUR: 'it returns false'. Refute it at one input. -/
def scriptverifyLongestWrong : ChangeSpec := { name := "scriptverifyLongest", fn := fun _ => fun
  | [d] => { results := [.lit (.bool false)], args := [d] }
  | _ => none }
def ScriptverifyLongestWrongFalsely : Prop := scriptverifyLongestRow.holds Tryd.pinned (OpenSpec.ofChange scriptverifyLongestWrong)

/-- 'narratorlaw47.ScriptverifyReachable': WHATEVER THE INPUT: true; the input reads as it did. -/
def scriptverifyReachableSpec : ChangeSpec := { name := "scriptverifyReachable", fn := fun _ => fun
  | [d] => { results := [.lit (.bool true)], args := [d] }
  | _ => none }
def scriptverifyReachableRow : OpenClaim := { program := "ytbacmnbjkhjopaadoor", sum := "3147e5807a7a0acc82cdd52c6ccc8efb9a6319182c74d8e171f940bc2642e490", func := "narrator/narratorlaw47.ScriptverifyReachable", spec := "scriptverifyReachable", unfollowed := true, recurses := true, named := ["narrator/scriptverify.pops", "narrator/scriptverify.pushes"], apart := false, laid := [("narrator/scriptverify.pops", laid_narrator_scriptverify_pops), ("narrator/scriptverify.pushes", laid_narrator_scriptverify_pushes)] }
def ScriptverifyReachableSaid : Prop := scriptverifyReachableRow.holds Tryd.pinned (OpenSpec.ofChange scriptverifyReachableSpec)

/-- ITS FALSE NEIGHBOUR: 'it returns false'. Refute it at one input. -/
def scriptverifyReachableWrong : ChangeSpec := { name := "scriptverifyReachable", fn := fun _ => fun
  | [d] => { results := [.lit (.bool false)], args := [d] }
  | _ => none }
def ScriptverifyReachableWrongFalsely : Prop := scriptverifyReachableRow.holds Tryd.pinned (OpenSpec.ofChange scriptverifyReachableWrong)

/-- 'narratorlaw47.ScriptverifyPlain': WHATEVER THE INPUT: true; the input reads as it did. -/
def scriptverifyPlainSpec : ChangeSpec := { name := "scriptverifyPlain", fn := fun _ => fun
  | [d] => { results := [.lit (.bool true)], args := [d] }
  | _ => none }
def scriptverifyPlainRow : OpenClaim := { program := "ytbacmnbjkhjopaadoor", sum := "3147e5807a7a0acc82cdd52c6ccc8efb9a6319182c74d8e171f940bc2642e490", func := "narrator/narratorlaw47.ScriptverifyPlain", spec := "scriptverifyPlain", unfollowed := true, recurses := true, named := ["narrator/scriptverify.pops", "narrator/scriptverify.pushes"], apart := false, laid := [("narrator/scriptverify.pops", laid_narrator_scriptverify_pops), ("narrator/scriptverify.pushes", laid_narrator_scriptverify_pushes)] }
def ScriptverifyPlainSaid : Prop := scriptverifyPlainRow.holds Tryd.pinned (OpenSpec.ofChange scriptverifyPlainSpec)

/-- ITS FALSE NEIGHBOUR: 'it returns false'. Refute it at one input. -/
def scriptverifyPlainWrong : ChangeSpec := { name := "scriptverifyPlain", fn := fun _ => fun
  | [d] => { results := [.lit (.bool false)], args := [d] }
  | _ => none }
def ScriptverifyPlainWrongFalsely : Prop := scriptverifyPlainRow.holds Tryd.pinned (OpenSpec.ofChange scriptverifyPlainWrong)

/-- 'narratorlaw47.ScriptverifyMore': WHATEVER THE INPUT: true; the input reads as it did. -/
def scriptverifyMoreSpec : ChangeSpec := { name := "scriptverifyMore", fn := fun _ => fun
  | [d1, d2] => { results := [.lit (.bool true)], args := [d1, d2] }
  | _ => none }
def scriptverifyMoreRow : OpenClaim := { program := "ytbacmnbjkhjopaadoor", sum := "3147e5807a7a0acc82cdd52c6ccc8efb9a6319182c74d8e171f940bc2642e490", func := "narrator/narratorlaw47.ScriptverifyMore", spec := "scriptverifyMore", unfollowed := true, recurses := true, named := ["narrator/scriptverify.pops", "narrator/scriptverify.pushes"], apart := false, laid := [("narrator/scriptverify.pops", laid_narrator_scriptverify_pops), ("narrator/scriptverify.pushes", laid_narrator_scriptverify_pushes)] }
def ScriptverifyMoreSaid : Prop := scriptverifyMoreRow.holds Tryd.pinned (OpenSpec.ofChange scriptverifyMoreSpec)

/-- ITS FALSE NEIGHBOUR: 'it returns false'. Refute it at one input. -/
def scriptverifyMoreWrong : ChangeSpec := { name := "scriptverifyMore", fn := fun _ => fun
  | [d1, d2] => { results := [.lit (.bool false)], args := [d1, d2] }
  | _ => none }
def ScriptverifyMoreWrongFalsely : Prop := scriptverifyMoreRow.holds Tryd.pinned (OpenSpec.ofChange scriptverifyMoreWrong)

/- THE SECOND FORM. 'bulk': how many values and letters a reading holds, each counted each time it is reached (what is shared counts as often as it is met; a slice's spare places count too). A statement '..UptoSaid' is the law's where the arguments, and the package variables that the reading takes, are together of bulk at most 1048576: NARROWER than '..Said'. Prove '..Said' where nothing that the law and all that it calls make is longer than what came in: it says more and counts as full. Else prove '..UptoSaid'. A law counts once. -/
mutual
def uptoBulk {H : Type} : DataW H → Nat
  | .lit (.string bytes) => bytes.length + 1
  | .lit _ => 1
  | .nil => 1
  | .ptr d => uptoBulk d + 1
  | .slice elems spare => uptoBulkAll elems + uptoBulkAll spare + 1
  | .agg parts => uptoBulkAll parts + 1
  | .iface _ d => uptoBulk d + 1
  | .map entries => uptoBulkEntries entries + 1
  | .held _ => 1
def uptoBulkAll {H : Type} : List (DataW H) → Nat
  | [] => 0
  | d :: r => uptoBulk d + uptoBulkAll r
def uptoBulkEntries {H : Type} : List (Lit × DataW H) → Nat
  | [] => 0
  | x :: r => uptoBulkEntry x + uptoBulkEntries r
def uptoBulkEntry {H : Type} : Lit × DataW H → Nat
  | (.string bytes, d) => bytes.length + uptoBulk d + 1
  | (_, d) => uptoBulk d + 1
 end
def uptoSmall : (H : Type) → List (DataW H) → Bool := fun _ ds => decide (uptoBulkAll ds ≤ 1048576)
def OpenSpec.upto (s : _root_.Go.ChangeSpec) : _root_.Go.OpenSpec := { _root_.Go.OpenSpec.ofChange s with cond := some uptoSmall }

/-- 'narratorlaw47.ScriptverifyDepths', WHERE WHAT IT READS IS OF BULK AT MOST 1048576: true; the input reads as it did. -/
def scriptverifyDepthsUptoRow : OpenClaim := { program := "ytbacmnbjkhjopaadoor", sum := "3147e5807a7a0acc82cdd52c6ccc8efb9a6319182c74d8e171f940bc2642e490", func := "narrator/narratorlaw47.ScriptverifyDepths", spec := "scriptverifyDepths", unfollowed := true, recurses := true, named := ["narrator/scriptverify.pops", "narrator/scriptverify.pushes"], apart := false, laid := [("narrator/scriptverify.pops", laid_narrator_scriptverify_pops), ("narrator/scriptverify.pushes", laid_narrator_scriptverify_pushes)], narrowed := true }
def ScriptverifyDepthsUptoSaid : Prop := scriptverifyDepthsUptoRow.holds Tryd.pinned (OpenSpec.upto scriptverifyDepthsSpec)

/-- 'narratorlaw47.ScriptverifyFuel', WHERE WHAT IT READS IS OF BULK AT MOST 1048576: true; the input reads as it did. -/
def scriptverifyFuelUptoRow : OpenClaim := { program := "ytbacmnbjkhjopaadoor", sum := "3147e5807a7a0acc82cdd52c6ccc8efb9a6319182c74d8e171f940bc2642e490", func := "narrator/narratorlaw47.ScriptverifyFuel", spec := "scriptverifyFuel", unfollowed := true, recurses := true, named := ["narrator/scriptverify.pops", "narrator/scriptverify.pushes"], apart := false, laid := [("narrator/scriptverify.pops", laid_narrator_scriptverify_pops), ("narrator/scriptverify.pushes", laid_narrator_scriptverify_pushes)], narrowed := true }
def ScriptverifyFuelUptoSaid : Prop := scriptverifyFuelUptoRow.holds Tryd.pinned (OpenSpec.upto scriptverifyFuelSpec)

/-- 'narratorlaw47.ScriptverifyHidden', WHERE WHAT IT READS IS OF BULK AT MOST 1048576: true; the input reads as it did. -/
def scriptverifyHiddenUptoRow : OpenClaim := { program := "ytbacmnbjkhjopaadoor", sum := "3147e5807a7a0acc82cdd52c6ccc8efb9a6319182c74d8e171f940bc2642e490", func := "narrator/narratorlaw47.ScriptverifyHidden", spec := "scriptverifyHidden", unfollowed := true, recurses := true, named := ["narrator/scriptverify.pops", "narrator/scriptverify.pushes"], apart := false, laid := [("narrator/scriptverify.pops", laid_narrator_scriptverify_pops), ("narrator/scriptverify.pushes", laid_narrator_scriptverify_pushes)], narrowed := true }
def ScriptverifyHiddenUptoSaid : Prop := scriptverifyHiddenUptoRow.holds Tryd.pinned (OpenSpec.upto scriptverifyHiddenSpec)

/-- 'narratorlaw47.ScriptverifyPaths', WHERE WHAT IT READS IS OF BULK AT MOST 1048576: true; the input reads as it did. -/
def scriptverifyPathsUptoRow : OpenClaim := { program := "ytbacmnbjkhjopaadoor", sum := "3147e5807a7a0acc82cdd52c6ccc8efb9a6319182c74d8e171f940bc2642e490", func := "narrator/narratorlaw47.ScriptverifyPaths", spec := "scriptverifyPaths", unfollowed := true, recurses := true, named := ["narrator/scriptverify.pops", "narrator/scriptverify.pushes"], apart := false, laid := [("narrator/scriptverify.pops", laid_narrator_scriptverify_pops), ("narrator/scriptverify.pushes", laid_narrator_scriptverify_pushes)], narrowed := true }
def ScriptverifyPathsUptoSaid : Prop := scriptverifyPathsUptoRow.holds Tryd.pinned (OpenSpec.upto scriptverifyPathsSpec)

/-- 'narratorlaw47.ScriptverifyLongest', WHERE WHAT IT READS IS OF BULK AT MOST 1048576: true; the input reads as it did. -/
def scriptverifyLongestUptoRow : OpenClaim := { program := "ytbacmnbjkhjopaadoor", sum := "3147e5807a7a0acc82cdd52c6ccc8efb9a6319182c74d8e171f940bc2642e490", func := "narrator/narratorlaw47.ScriptverifyLongest", spec := "scriptverifyLongest", unfollowed := true, recurses := true, named := ["narrator/scriptverify.pops", "narrator/scriptverify.pushes"], apart := false, laid := [("narrator/scriptverify.pops", laid_narrator_scriptverify_pops), ("narrator/scriptverify.pushes", laid_narrator_scriptverify_pushes)], narrowed := true }
def ScriptverifyLongestUptoSaid : Prop := scriptverifyLongestUptoRow.holds Tryd.pinned (OpenSpec.upto scriptverifyLongestSpec)

/-- 'narratorlaw47.ScriptverifyReachable', WHERE WHAT IT READS IS OF BULK AT MOST 1048576: true; the input reads as it did. -/
def scriptverifyReachableUptoRow : OpenClaim := { program := "ytbacmnbjkhjopaadoor", sum := "3147e5807a7a0acc82cdd52c6ccc8efb9a6319182c74d8e171f940bc2642e490", func := "narrator/narratorlaw47.ScriptverifyReachable", spec := "scriptverifyReachable", unfollowed := true, recurses := true, named := ["narrator/scriptverify.pops", "narrator/scriptverify.pushes"], apart := false, laid := [("narrator/scriptverify.pops", laid_narrator_scriptverify_pops), ("narrator/scriptverify.pushes", laid_narrator_scriptverify_pushes)], narrowed := true }
def ScriptverifyReachableUptoSaid : Prop := scriptverifyReachableUptoRow.holds Tryd.pinned (OpenSpec.upto scriptverifyReachableSpec)

/-- 'narratorlaw47.ScriptverifyPlain', WHERE WHAT IT READS IS OF BULK AT MOST 1048576: true; the input reads as it did. -/
def scriptverifyPlainUptoRow : OpenClaim := { program := "ytbacmnbjkhjopaadoor", sum := "3147e5807a7a0acc82cdd52c6ccc8efb9a6319182c74d8e171f940bc2642e490", func := "narrator/narratorlaw47.ScriptverifyPlain", spec := "scriptverifyPlain", unfollowed := true, recurses := true, named := ["narrator/scriptverify.pops", "narrator/scriptverify.pushes"], apart := false, laid := [("narrator/scriptverify.pops", laid_narrator_scriptverify_pops), ("narrator/scriptverify.pushes", laid_narrator_scriptverify_pushes)], narrowed := true }
def ScriptverifyPlainUptoSaid : Prop := scriptverifyPlainUptoRow.holds Tryd.pinned (OpenSpec.upto scriptverifyPlainSpec)

/-- 'narratorlaw47.ScriptverifyMore', WHERE WHAT IT READS IS OF BULK AT MOST 1048576: true; the input reads as it did. -/
def scriptverifyMoreUptoRow : OpenClaim := { program := "ytbacmnbjkhjopaadoor", sum := "3147e5807a7a0acc82cdd52c6ccc8efb9a6319182c74d8e171f940bc2642e490", func := "narrator/narratorlaw47.ScriptverifyMore", spec := "scriptverifyMore", unfollowed := true, recurses := true, named := ["narrator/scriptverify.pops", "narrator/scriptverify.pushes"], apart := false, laid := [("narrator/scriptverify.pops", laid_narrator_scriptverify_pops), ("narrator/scriptverify.pushes", laid_narrator_scriptverify_pushes)], narrowed := true }
def ScriptverifyMoreUptoSaid : Prop := scriptverifyMoreUptoRow.holds Tryd.pinned (OpenSpec.upto scriptverifyMoreSpec)

end Rows
end Go.Proofs.YtbacmnbjkhjopaaDoor
