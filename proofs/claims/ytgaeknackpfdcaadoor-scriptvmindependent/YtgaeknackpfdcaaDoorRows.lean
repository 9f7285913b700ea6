/-
  NARROWER THAN 'FOR EVERY INPUT', by the rows' own cells (each row's printed sentence says how): ScriptvmRun: laid · ScriptvmDecide: laid · ScriptvmFuel: laid · ScriptvmHidden: laid · ScriptvmNumbers: laid · ScriptvmJoins: laid · ScriptvmVerified: laid · ScriptvmIndependent: laid.
  DERIVED. THE GIVEN ROWS OF THIS SEAT. 8 by the template 'for every input the law returns true; each argument reads behind the call as it read before'; 0 by the template 'total and deterministic' (their statements: YtgaeknackpfdcaaDoorTotals.lean).
  GIVEN WITH THE SEED: the statements are not yours to turn. If you find one false, say at which input.
  Laid BY PROGRAM, IN A SANDBOX (cutbox-rows.mjs): the forced cells as the released guide's own fill.sh prints them over the translation f36a5c3ac194c1df… (all of the seat's roots in one cut). By AI agents, Wed Nov 11 2026. No macro, syntax, notation, axiom, sorry.
-/
import Derived.Test.YtgaeknackpfdcaaDoorChecked
import GoSem.Claim
import GoSem.ClaimJoined
import GoSem.ClaimMapViews
import Derived.JoinedTies
import Derived.KernelRfl
namespace Go.Proofs.YtgaeknackpfdcaaDoor
/- THE CELL 'sum', in the pinned program and in every row, IS THE sha256 OF THE DUMP (.gsa) THAT YtgaeknackpfdcaaDoorProg.lean LOADS. Nothing in Lean hashes anything: it is a label: what it is worth is what the hold of that sum in a sandbox is worth. -/
noncomputable def Tryd.pinned : Pinned := { name := "ytgaeknackpfdcaadoor", sum := "f36a5c3ac194c1df5d2575e725cd4b8a254d638a9e8a85cee5daa6643646a613", checked := Tryd.checked }
namespace Rows
def none {H : Type} : Left H := { results := [], args := [] }

/- WHAT THE LISTED PACKAGE-LEVEL VARIABLES READ AS WHEN THE CALL BEGINS. Each datum BY PROGRAM (the guide's laid-datum.mjs) off the statement by which the dump's own 'gosem.cut.vars' lays the variable. In a bare row this is a premise. The card (YtgaeknackpfdcaaDoorCards.lean) ties it to the program's text. -/
def laid_narrator_scriptverify_pops {H : Type} : DataW H := .agg [.lit (.int .i64 0), .lit (.int .i64 0), .lit (.int .i64 0), .lit (.int .i64 0), .lit (.int .i64 1), .lit (.int .i64 1), .lit (.int .i64 0), .lit (.int .i64 0), .lit (.int .i64 2), .lit (.int .i64 2), .lit (.int .i64 2), .lit (.int .i64 2), .lit (.int .i64 2), .lit (.int .i64 1), .lit (.int .i64 1), .lit (.int .i64 1), .lit (.int .i64 2), .lit (.int .i64 0), .lit (.int .i64 1), .lit (.int .i64 1), .lit (.int .i64 1)]
def laid_narrator_scriptverify_pushes {H : Type} : DataW H := .agg [.lit (.int .i64 0), .lit (.int .i64 1), .lit (.int .i64 1), .lit (.int .i64 1), .lit (.int .i64 1), .lit (.int .i64 1), .lit (.int .i64 1), .lit (.int .i64 1), .lit (.int .i64 1), .lit (.int .i64 1), .lit (.int .i64 1), .lit (.int .i64 1), .lit (.int .i64 1), .lit (.int .i64 1), .lit (.int .i64 2), .lit (.int .i64 0), .lit (.int .i64 2), .lit (.int .i64 0), .lit (.int .i64 0), .lit (.int .i64 0), .lit (.int .i64 0)]

/-- 'narratorlaw48.ScriptvmRun': WHATEVER THE INPUT: true; the input reads as it did. -/
def scriptvmRunSpec : ChangeSpec := { name := "scriptvmRun", fn := fun _ => fun
  | [d1, d2, d3, d4, d5] => { results := [.lit (.bool true)], args := [d1, d2, d3, d4, d5] }
  | _ => none }
def scriptvmRunRow : OpenClaim := { program := "ytgaeknackpfdcaadoor", sum := "f36a5c3ac194c1df5d2575e725cd4b8a254d638a9e8a85cee5daa6643646a613", func := "narrator/narratorlaw48.ScriptvmRun", spec := "scriptvmRun", unfollowed := true, recurses := true, named := ["narrator/scriptverify.pops", "narrator/scriptverify.pushes"], apart := false, laid := [("narrator/scriptverify.pops", laid_narrator_scriptverify_pops), ("narrator/scriptverify.pushes", laid_narrator_scriptverify_pushes)] }
def ScriptvmRunSaid : Prop := scriptvmRunRow.holds Tryd.pinned (OpenSpec.ofChange scriptvmRunSpec)

/-- ITS FALSE NEIGHBOUR: 'it returns false'. Refute it at one input. -/
def scriptvmRunWrong : ChangeSpec := { name := "scriptvmRun", fn := fun _ => fun
  | [d1, d2, d3, d4, d5] => { results := [.lit (.bool false)], args := [d1, d2, d3, d4, d5] }
  | _ => none }
def ScriptvmRunWrongFalsely : Prop := scriptvmRunRow.holds Tryd.pinned (OpenSpec.ofChange scriptvmRunWrong)

/-- 'narratorlaw48.ScriptvmDecide': WHATEVER THE INPUT: true; the input reads as it did. -/
def scriptvmDecideSpec : ChangeSpec := { name := "scriptvmDecide", fn := fun _ => fun
  | [d1, d2, d3, d4] => { results := [.lit (.bool true)], args := [d1, d2, d3, d4] }
  | _ => none }
def scriptvmDecideRow : OpenClaim := { program := "ytgaeknackpfdcaadoor", sum := "f36a5c3ac194c1df5d2575e725cd4b8a254d638a9e8a85cee5daa6643646a613", func := "narrator/narratorlaw48.ScriptvmDecide", spec := "scriptvmDecide", unfollowed := true, recurses := true, named := ["narrator/scriptverify.pops", "narrator/scriptverify.pushes"], apart := false, laid := [("narrator/scriptverify.pops", laid_narrator_scriptverify_pops), ("narrator/scriptverify.pushes", laid_narrator_scriptverify_pushes)] }
def ScriptvmDecideSaid : Prop := scriptvmDecideRow.holds Tryd.pinned (OpenSpec.ofChange scriptvmDecideSpec)

/-- ITS FALSE NEIGHBOUR: 'it returns false'. Refute it at one input. -/
def scriptvmDecideWrong : ChangeSpec := { name := "scriptvmDecide", fn := fun _ => fun
  | [d1, d2, d3, d4] => { results := [.lit (.bool false)], args := [d1, d2, d3, d4] }
  | _ => none }
def ScriptvmDecideWrongFalsely : Prop := scriptvmDecideRow.holds Tryd.pinned (OpenSpec.ofChange scriptvmDecideWrong)

/-- 'narratorlaw48.ScriptvmFuel': WHATEVER THE INPUT: true; the input reads as it did. -/
def scriptvmFuelSpec : ChangeSpec := { name := "scriptvmFuel", fn := fun _ => fun
  | [d1, d2, d3, d4, d5] => { results := [.lit (.bool true)], args := [d1, d2, d3, d4, d5] }
  | _ => none }
def scriptvmFuelRow : OpenClaim := { program := "ytgaeknackpfdcaadoor", sum := "f36a5c3ac194c1df5d2575e725cd4b8a254d638a9e8a85cee5daa6643646a613", func := "narrator/narratorlaw48.ScriptvmFuel", spec := "scriptvmFuel", unfollowed := true, recurses := true, named := ["narrator/scriptverify.pops", "narrator/scriptverify.pushes"], apart := false, laid := [("narrator/scriptverify.pops", laid_narrator_scriptverify_pops), ("narrator/scriptverify.pushes", laid_narrator_scriptverify_pushes)] }
def ScriptvmFuelSaid : Prop := scriptvmFuelRow.holds Tryd.pinned (OpenSpec.ofChange scriptvmFuelSpec)

/-- ITS FALSE NEIGHBOUR: 'it returns false'. Refute it at one input. -/
def scriptvmFuelWrong : ChangeSpec := { name := "scriptvmFuel", fn := fun _ => fun
  | [d1, d2, d3, d4, d5] => { results := [.lit (.bool false)], args := [d1, d2, d3, d4, d5] }
  | _ => none }
def ScriptvmFuelWrongFalsely : Prop := scriptvmFuelRow.holds Tryd.pinned (OpenSpec.ofChange scriptvmFuelWrong)

/-- 'narratorlaw48.ScriptvmHidden': WHATEVER THE INPUT: true; the input reads as it did. -/
def scriptvmHiddenSpec : ChangeSpec := { name := "scriptvmHidden", fn := fun _ => fun
  | [d1, d2, d3, d4, d5] => { results := [.lit (.bool true)], args := [d1, d2, d3, d4, d5] }
  | _ => none }
def scriptvmHiddenRow : OpenClaim := { program := "ytgaeknackpfdcaadoor", sum := "f36a5c3ac194c1df5d2575e725cd4b8a254d638a9e8a85cee5daa6643646a613", func := "narrator/narratorlaw48.ScriptvmHidden", spec := "scriptvmHidden", unfollowed := true, recurses := true, named := ["narrator/scriptverify.pops", "narrator/scriptverify.pushes"], apart := false, laid := [("narrator/scriptverify.pops", laid_narrator_scriptverify_pops), ("narrator/scriptverify.pushes", laid_narrator_scriptverify_pushes)] }
def ScriptvmHiddenSaid : Prop := scriptvmHiddenRow.holds Tryd.pinned (OpenSpec.ofChange scriptvmHiddenSpec)

/-- ITS FALSE NEIGHBOUR: 'it returns false'. Refute it at one input. -/
def scriptvmHiddenWrong : ChangeSpec := { name := "scriptvmHidden", fn := fun _ => fun
  | [d1, d2, d3, d4, d5] => { results := [.lit (.bool false)], args := [d1, d2, d3, d4, d5] }
  | _ => none }
def ScriptvmHiddenWrongFalsely : Prop := scriptvmHiddenRow.holds Tryd.pinned (OpenSpec.ofChange scriptvmHiddenWrong)

/-- 'narratorlaw48.ScriptvmNumbers': WHATEVER THE INPUT: true; the input reads as it did. -/
def scriptvmNumbersSpec : ChangeSpec := { name := "scriptvmNumbers", fn := fun _ => fun
  | [d1, d2, d3] => { results := [.lit (.bool true)], args := [d1, d2, d3] }
  | _ => none }
def scriptvmNumbersRow : OpenClaim := { program := "ytgaeknackpfdcaadoor", sum := "f36a5c3ac194c1df5d2575e725cd4b8a254d638a9e8a85cee5daa6643646a613", func := "narrator/narratorlaw48.ScriptvmNumbers", spec := "scriptvmNumbers", unfollowed := true, recurses := true, named := ["narrator/scriptverify.pops", "narrator/scriptverify.pushes"], apart := false, laid := [("narrator/scriptverify.pops", laid_narrator_scriptverify_pops), ("narrator/scriptverify.pushes", laid_narrator_scriptverify_pushes)] }
def ScriptvmNumbersSaid : Prop := scriptvmNumbersRow.holds Tryd.pinned (OpenSpec.ofChange scriptvmNumbersSpec)

/-- ITS FALSE NEIGHBOUR: 'it returns false'. Refute it at one input. -/
def scriptvmNumbersWrong : ChangeSpec := { name := "scriptvmNumbers", fn := fun _ => fun
  | [d1, d2, d3] => { results := [.lit (.bool false)], args := [d1, d2, d3] }
  | _ => none }
def ScriptvmNumbersWrongFalsely : Prop := scriptvmNumbersRow.holds Tryd.pinned (OpenSpec.ofChange scriptvmNumbersWrong)

/-- 'narratorlaw48.ScriptvmJoins': WHATEVER THE INPUT: true; the input reads as it did. -/
def scriptvmJoinsSpec : ChangeSpec := { name := "scriptvmJoins", fn := fun _ => fun
  | [d1, d2, d3, d4, d5] => { results := [.lit (.bool true)], args := [d1, d2, d3, d4, d5] }
  | _ => none }
def scriptvmJoinsRow : OpenClaim := { program := "ytgaeknackpfdcaadoor", sum := "f36a5c3ac194c1df5d2575e725cd4b8a254d638a9e8a85cee5daa6643646a613", func := "narrator/narratorlaw48.ScriptvmJoins", spec := "scriptvmJoins", unfollowed := true, recurses := true, named := ["narrator/scriptverify.pops", "narrator/scriptverify.pushes"], apart := false, laid := [("narrator/scriptverify.pops", laid_narrator_scriptverify_pops), ("narrator/scriptverify.pushes", laid_narrator_scriptverify_pushes)] }
def ScriptvmJoinsSaid : Prop := scriptvmJoinsRow.holds Tryd.pinned (OpenSpec.ofChange scriptvmJoinsSpec)

/-- ITS FALSE NEIGHBOUR: 'it returns false'. Refute it at one input. -/
def scriptvmJoinsWrong : ChangeSpec := { name := "scriptvmJoins", fn := fun _ => fun
  | [d1, d2, d3, d4, d5] => { results := [.lit (.bool false)], args := [d1, d2, d3, d4, d5] }
  | _ => none }
def ScriptvmJoinsWrongFalsely : Prop := scriptvmJoinsRow.holds Tryd.pinned (OpenSpec.ofChange scriptvmJoinsWrong)

/-- 'narratorlaw48.ScriptvmVerified': WHATEVER THE INPUT: true; the input reads as it did. -/
def scriptvmVerifiedSpec : ChangeSpec := { name := "scriptvmVerified", fn := fun _ => fun
  | [d1, d2, d3, d4] => { results := [.lit (.bool true)], args := [d1, d2, d3, d4] }
  | _ => none }
def scriptvmVerifiedRow : OpenClaim := { program := "ytgaeknackpfdcaadoor", sum := "f36a5c3ac194c1df5d2575e725cd4b8a254d638a9e8a85cee5daa6643646a613", func := "narrator/narratorlaw48.ScriptvmVerified", spec := "scriptvmVerified", unfollowed := true, recurses := true, named := ["narrator/scriptverify.pops", "narrator/scriptverify.pushes"], apart := false, laid := [("narrator/scriptverify.pops", laid_narrator_scriptverify_pops), ("narrator/scriptverify.pushes", laid_narrator_scriptverify_pushes)] }
def ScriptvmVerifiedSaid : Prop := scriptvmVerifiedRow.holds Tryd.pinned (OpenSpec.ofChange scriptvmVerifiedSpec)

/-- ITS FALSE NEIGHBOUR: 'it returns false'. Refute it at one input. -/
def scriptvmVerifiedWrong : ChangeSpec := { name := "scriptvmVerified", fn := fun _ => fun
  | [d1, d2, d3, d4] => { results := [.lit (.bool false)], args := [d1, d2, d3, d4] }
  | _ => none }
def ScriptvmVerifiedWrongFalsely : Prop := scriptvmVerifiedRow.holds Tryd.pinned (OpenSpec.ofChange scriptvmVerifiedWrong)

/-- 'narratorlaw48.ScriptvmIndependent': WHATEVER THE INPUT: true; the input reads as it did. -/
def scriptvmIndependentSpec : ChangeSpec := { name := "scriptvmIndependent", fn := fun _ => fun
  | [d1, d2, d3, d4, d5] => { results := [.lit (.bool true)], args := [d1, d2, d3, d4, d5] }
  | _ => none }
def scriptvmIndependentRow : OpenClaim := { program := "ytgaeknackpfdcaadoor", sum := "f36a5c3ac194c1df5d2575e725cd4b8a254d638a9e8a85cee5daa6643646a613", func := "narrator/narratorlaw48.ScriptvmIndependent", spec := "scriptvmIndependent", unfollowed := true, recurses := true, named := ["narrator/scriptverify.pops", "narrator/scriptverify.pushes"], apart := false, laid := [("narrator/scriptverify.pops", laid_narrator_scriptverify_pops), ("narrator/scriptverify.pushes", laid_narrator_scriptverify_pushes)] }
def ScriptvmIndependentSaid : Prop := scriptvmIndependentRow.holds Tryd.pinned (OpenSpec.ofChange scriptvmIndependentSpec)

/-- ITS FALSE NEIGHBOUR: 'it returns false'. Refute it at one input. -/
def scriptvmIndependentWrong : ChangeSpec := { name := "scriptvmIndependent", fn := fun _ => fun
  | [d1, d2, d3, d4, d5] => { results := [.lit (.bool false)], args := [d1, d2, d3, d4, d5] }
  | _ => none }
def ScriptvmIndependentWrongFalsely : Prop := scriptvmIndependentRow.holds Tryd.pinned (OpenSpec.ofChange scriptvmIndependentWrong)

/- THE SECOND FORM. 'bulk': how many values and letters a reading holds, each counted each time it is reached (what is shared counts as often as it is met; a slice's spare places count too). A statement '..UptoSaid' is the law's where the arguments, and the package variables that the reading takes, are together of bulk at most 1048576: NARROWER than '..Said'. Prove '..Said' where nothing that the law and all that it calls make is longer than what came in: it says more and counts as full. Else prove '..UptoSaid'. A law counts once. -/
mutual
def uptoBulk {H : Type} : DataW H → Nat
  | .lit (.string bytes) => bytes.length + 1
  | .lit _ => 1
  | .nil => 1
  | .ptr d => uptoBulk d + 1
  | .slice elems spare => uptoBulkAll elems + uptoBulkAll spare + 1
  | .agg parts => uptoBulkAll parts + 1
  | .iface _ d => uptoBulk d + 1
  | .map entries => uptoBulkEntries entries + 1
  | .held _ => 1
def uptoBulkAll {H : Type} : List (DataW H) → Nat
  | [] => 0
  | d :: r => uptoBulk d + uptoBulkAll r
def uptoBulkEntries {H : Type} : List (Lit × DataW H) → Nat
  | [] => 0
  | x :: r => uptoBulkEntry x + uptoBulkEntries r
def uptoBulkEntry {H : Type} : Lit × DataW H → Nat
  | (.string bytes, d) => bytes.length + uptoBulk d + 1
  | (_, d) => uptoBulk d + 1
 end
def uptoSmall : (H : Type) → List (DataW H) → Bool := fun _ ds => decide (uptoBulkAll ds ≤ 1048576)
def OpenSpec.upto (s : _root_.Go.ChangeSpec) : _root_.Go.OpenSpec := { _root_.Go.OpenSpec.ofChange s with cond := some uptoSmall }

/-- 'narratorlaw48.ScriptvmRun', WHERE WHAT IT READS IS OF BULK AT MOST 1048576: true; the input reads as it did. -/
def scriptvmRunUptoRow : OpenClaim := { program := "ytgaeknackpfdcaadoor", sum := "f36a5c3ac194c1df5d2575e725cd4b8a254d638a9e8a85cee5daa6643646a613", func := "narrator/narratorlaw48.ScriptvmRun", spec := "scriptvmRun", unfollowed := true, recurses := true, named := ["narrator/scriptverify.pops", "narrator/scriptverify.pushes"], apart := false, laid := [("narrator/scriptverify.pops", laid_narrator_scriptverify_pops), ("narrator/scriptverify.pushes", laid_narrator_scriptverify_pushes)], narrowed := true }
def ScriptvmRunUptoSaid : Prop := scriptvmRunUptoRow.holds Tryd.pinned (OpenSpec.upto scriptvmRunSpec)

/-- 'narratorlaw48.ScriptvmDecide', WHERE WHAT IT READS IS OF BULK AT MOST 1048576: true; the input reads as it did. -/
def scriptvmDecideUptoRow : OpenClaim := { program := "ytgaeknackpfdcaadoor", sum := "f36a5c3ac194c1df5d2575e725cd4b8a254d638a9e8a85cee5daa6643646a613", func := "narrator/narratorlaw48.ScriptvmDecide", spec := "scriptvmDecide", unfollowed := true, recurses := true, named := ["narrator/scriptverify.pops", "narrator/scriptverify.pushes"], apart := false, laid := [("narrator/scriptverify.pops", laid_narrator_scriptverify_pops), ("narrator/scriptverify.pushes", laid_narrator_scriptverify_pushes)], narrowed := true }
def ScriptvmDecideUptoSaid : Prop := scriptvmDecideUptoRow.holds Tryd.pinned (OpenSpec.upto scriptvmDecideSpec)

/-- 'narratorlaw48.ScriptvmFuel', WHERE WHAT IT READS IS OF BULK AT MOST 1048576: true; the input reads as it did. -/
def scriptvmFuelUptoRow : OpenClaim := { program := "ytgaeknackpfdcaadoor", sum := "f36a5c3ac194c1df5d2575e725cd4b8a254d638a9e8a85cee5daa6643646a613", func := "narrator/narratorlaw48.ScriptvmFuel", spec := "scriptvmFuel", unfollowed := true, recurses := true, named := ["narrator/scriptverify.pops", "narrator/scriptverify.pushes"], apart := false, laid := [("narrator/scriptverify.pops", laid_narrator_scriptverify_pops), ("narrator/scriptverify.pushes", laid_narrator_scriptverify_pushes)], narrowed := true }
def ScriptvmFuelUptoSaid : Prop := scriptvmFuelUptoRow.holds Tryd.pinned (OpenSpec.upto scriptvmFuelSpec)

/-- 'narratorlaw48.ScriptvmHidden', WHERE WHAT IT READS IS OF BULK AT MOST 1048576: true; the input reads as it did. -/
def scriptvmHiddenUptoRow : OpenClaim := { program := "ytgaeknackpfdcaadoor", sum := "f36a5c3ac194c1df5d2575e725cd4b8a254d638a9e8a85cee5daa6643646a613", func := "narrator/narratorlaw48.ScriptvmHidden", spec := "scriptvmHidden", unfollowed := true, recurses := true, named := ["narrator/scriptverify.pops", "narrator/scriptverify.pushes"], apart := false, laid := [("narrator/scriptverify.pops", laid_narrator_scriptverify_pops), ("narrator/scriptverify.pushes", laid_narrator_scriptverify_pushes)], narrowed := true }
def ScriptvmHiddenUptoSaid : Prop := scriptvmHiddenUptoRow.holds Tryd.pinned (OpenSpec.upto scriptvmHiddenSpec)

/-- 'narratorlaw48.ScriptvmNumbers', WHERE WHAT IT READS IS OF BULK AT MOST 1048576: true; the input reads as it did. -/
def scriptvmNumbersUptoRow : OpenClaim := { program := "ytgaeknackpfdcaadoor", sum := "f36a5c3ac194c1df5d2575e725cd4b8a254d638a9e8a85cee5daa6643646a613", func := "narrator/narratorlaw48.ScriptvmNumbers", spec := "scriptvmNumbers", unfollowed := true, recurses := true, named := ["narrator/scriptverify.pops", "narrator/scriptverify.pushes"], apart := false, laid := [("narrator/scriptverify.pops", laid_narrator_scriptverify_pops), ("narrator/scriptverify.pushes", laid_narrator_scriptverify_pushes)], narrowed := true }
def ScriptvmNumbersUptoSaid : Prop := scriptvmNumbersUptoRow.holds Tryd.pinned (OpenSpec.upto scriptvmNumbersSpec)

/-- 'narratorlaw48.ScriptvmJoins', WHERE WHAT IT READS IS OF BULK AT MOST 1048576: true; the input reads as it did. -/
def scriptvmJoinsUptoRow : OpenClaim := { program := "ytgaeknackpfdcaadoor", sum := "f36a5c3ac194c1df5d2575e725cd4b8a254d638a9e8a85cee5daa6643646a613", func := "narrator/narratorlaw48.ScriptvmJoins", spec := "scriptvmJoins", unfollowed := true, recurses := true, named := ["narrator/scriptverify.pops", "narrator/scriptverify.pushes"], apart := false, laid := [("narrator/scriptverify.pops", laid_narrator_scriptverify_pops), ("narrator/scriptverify.pushes", laid_narrator_scriptverify_pushes)], narrowed := true }
def ScriptvmJoinsUptoSaid : Prop := scriptvmJoinsUptoRow.holds Tryd.pinned (OpenSpec.upto scriptvmJoinsSpec)

/-- 'narratorlaw48.ScriptvmVerified', WHERE WHAT IT READS IS OF BULK AT MOST 1048576: true; the input reads as it did. -/
def scriptvmVerifiedUptoRow : OpenClaim := { program := "ytgaeknackpfdcaadoor", sum := "f36a5c3ac194c1df5d2575e725cd4b8a254d638a9e8a85cee5daa6643646a613", func := "narrator/narratorlaw48.ScriptvmVerified", spec := "scriptvmVerified", unfollowed := true, recurses := true, named := ["narrator/scriptverify.pops", "narrator/scriptverify.pushes"], apart := false, laid := [("narrator/scriptverify.pops", laid_narrator_scriptverify_pops), ("narrator/scriptverify.pushes", laid_narrator_scriptverify_pushes)], narrowed := true }
def ScriptvmVerifiedUptoSaid : Prop := scriptvmVerifiedUptoRow.holds Tryd.pinned (OpenSpec.upto scriptvmVerifiedSpec)

/-- 'narratorlaw48.ScriptvmIndependent', WHERE WHAT IT READS IS OF BULK AT MOST 1048576: true; the input reads as it did. -/
def scriptvmIndependentUptoRow : OpenClaim := { program := "ytgaeknackpfdcaadoor", sum := "f36a5c3ac194c1df5d2575e725cd4b8a254d638a9e8a85cee5daa6643646a613", func := "narrator/narratorlaw48.ScriptvmIndependent", spec := "scriptvmIndependent", unfollowed := true, recurses := true, named := ["narrator/scriptverify.pops", "narrator/scriptverify.pushes"], apart := false, laid := [("narrator/scriptverify.pops", laid_narrator_scriptverify_pops), ("narrator/scriptverify.pushes", laid_narrator_scriptverify_pushes)], narrowed := true }
def ScriptvmIndependentUptoSaid : Prop := scriptvmIndependentUptoRow.holds Tryd.pinned (OpenSpec.upto scriptvmIndependentSpec)

end Rows
end Go.Proofs.YtgaeknackpfdcaaDoor
