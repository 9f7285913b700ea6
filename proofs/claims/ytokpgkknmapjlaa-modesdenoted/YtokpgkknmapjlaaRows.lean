/-
  No cell of these rows narrows 'for every input' (looked for: loops, veiled, ifaces, maps, wideKeys, modest, calm, conditions, laid).
  DERIVED. THE GIVEN ROWS OF THIS SEAT. 8 by the template 'for every input the law returns true; each argument reads behind the call as it read before'; 0 by the template 'total and deterministic' (their statements: YtokpgkknmapjlaaTotals.lean).
  GIVEN WITH THE SEED: the statements are not yours to turn. If you find one false, say at which input.
  Laid BY PROGRAM, IN A SANDBOX (cutbox-rows.mjs): the forced cells as the released guide's own fill.sh prints them over the translation d44dc0fff04762e2… (all of the seat's roots in one cut). By AI agents, Wed Nov 11 2026. No macro, syntax, notation, axiom, sorry.
-/
import Derived.Test.YtokpgkknmapjlaaChecked
import GoSem.Claim
import GoSem.ClaimJoined
import GoSem.ClaimMapViews
import Derived.JoinedTies
import Derived.KernelRfl
namespace Go.Proofs.Ytokpgkknmapjlaa
/- THE CELL 'sum', in the pinned program and in every row, IS THE sha256 OF THE DUMP (.gsa) THAT YtokpgkknmapjlaaProg.lean LOADS. Nothing in Lean hashes anything: it is a label: what it is worth is what the hold of that sum in a sandbox is worth. -/
noncomputable def Try.pinned : Pinned := { name := "ytokpgkknmapjlaa", sum := "d44dc0fff04762e26776f914da8dba9c4969ed472d02ad3d0448d98c72475672", checked := Try.checked }
namespace Rows
def none {H : Type} : Left H := { results := [], args := [] }

/-- 'narratorlaw11.ModesSet': WHATEVER THE INPUT: true; the input reads as it did. -/
def modesSetSpec : ChangeSpec := { name := "modesSet", fn := fun _ => fun
  | [d1, d2, d3, d4] => { results := [.lit (.bool true)], args := [d1, d2, d3, d4] }
  | _ => none }
def modesSetRow : OpenClaim := { program := "ytokpgkknmapjlaa", sum := "d44dc0fff04762e26776f914da8dba9c4969ed472d02ad3d0448d98c72475672", func := "narrator/narratorlaw11.ModesSet", spec := "modesSet", inPlace := ["internal/bytealg.IndexByteString"], unfollowed := true, recurses := true, apart := false }
def ModesSetSaid : Prop := modesSetRow.holds Try.pinned (OpenSpec.ofChange modesSetSpec)

/-- ITS FALSE NEIGHBOUR: 'it returns false'. Refute it at one input. -/
def modesSetWrong : ChangeSpec := { name := "modesSet", fn := fun _ => fun
  | [d1, d2, d3, d4] => { results := [.lit (.bool false)], args := [d1, d2, d3, d4] }
  | _ => none }
def ModesSetWrongFalsely : Prop := modesSetRow.holds Try.pinned (OpenSpec.ofChange modesSetWrong)

/-- 'narratorlaw11.ModesConcatenation': WHATEVER THE INPUT: true; the input reads as it did. -/
def modesConcatenationSpec : ChangeSpec := { name := "modesConcatenation", fn := fun _ => fun
  | [d1, d2, d3, d4, d5] => { results := [.lit (.bool true)], args := [d1, d2, d3, d4, d5] }
  | _ => none }
def modesConcatenationRow : OpenClaim := { program := "ytokpgkknmapjlaa", sum := "d44dc0fff04762e26776f914da8dba9c4969ed472d02ad3d0448d98c72475672", func := "narrator/narratorlaw11.ModesConcatenation", spec := "modesConcatenation", inPlace := ["internal/bytealg.IndexByteString"], unfollowed := true, recurses := true, apart := false }
def ModesConcatenationSaid : Prop := modesConcatenationRow.holds Try.pinned (OpenSpec.ofChange modesConcatenationSpec)

/-- ITS FALSE NEIGHBOUR: 'it returns false'. Refute it at one input. -/
def modesConcatenationWrong : ChangeSpec := { name := "modesConcatenation", fn := fun _ => fun
  | [d1, d2, d3, d4, d5] => { results := [.lit (.bool false)], args := [d1, d2, d3, d4, d5] }
  | _ => none }
def ModesConcatenationWrongFalsely : Prop := modesConcatenationRow.holds Try.pinned (OpenSpec.ofChange modesConcatenationWrong)

/-- 'narratorlaw11.ModesLast': WHATEVER THE INPUT: true; the input reads as it did. -/
def modesLastSpec : ChangeSpec := { name := "modesLast", fn := fun _ => fun
  | [d1, d2, d3, d4] => { results := [.lit (.bool true)], args := [d1, d2, d3, d4] }
  | _ => none }
def modesLastRow : OpenClaim := { program := "ytokpgkknmapjlaa", sum := "d44dc0fff04762e26776f914da8dba9c4969ed472d02ad3d0448d98c72475672", func := "narrator/narratorlaw11.ModesLast", spec := "modesLast", inPlace := ["internal/bytealg.IndexByteString"], unfollowed := true, recurses := true, apart := false }
def ModesLastSaid : Prop := modesLastRow.holds Try.pinned (OpenSpec.ofChange modesLastSpec)

/-- ITS FALSE NEIGHBOUR: 'it returns false'. Refute it at one input. -/
def modesLastWrong : ChangeSpec := { name := "modesLast", fn := fun _ => fun
  | [d1, d2, d3, d4] => { results := [.lit (.bool false)], args := [d1, d2, d3, d4] }
  | _ => none }
def ModesLastWrongFalsely : Prop := modesLastRow.holds Try.pinned (OpenSpec.ofChange modesLastWrong)

/-- 'narratorlaw11.ModesDenoted': WHATEVER THE INPUT: true; the input reads as it did. -/
def modesDenotedSpec : ChangeSpec := { name := "modesDenoted", fn := fun _ => fun
  | [d1, d2, d3] => { results := [.lit (.bool true)], args := [d1, d2, d3] }
  | _ => none }
def modesDenotedRow : OpenClaim := { program := "ytokpgkknmapjlaa", sum := "d44dc0fff04762e26776f914da8dba9c4969ed472d02ad3d0448d98c72475672", func := "narrator/narratorlaw11.ModesDenoted", spec := "modesDenoted", inPlace := ["internal/bytealg.IndexByteString"], unfollowed := true, recurses := true, apart := false }
def ModesDenotedSaid : Prop := modesDenotedRow.holds Try.pinned (OpenSpec.ofChange modesDenotedSpec)

/-- ITS FALSE NEIGHBOUR: 'it returns false'. Refute it at one input. -/
def modesDenotedWrong : ChangeSpec := { name := "modesDenoted", fn := fun _ => fun
  | [d1, d2, d3] => { results := [.lit (.bool false)], args := [d1, d2, d3] }
  | _ => none }
def ModesDenotedWrongFalsely : Prop := modesDenotedRow.holds Try.pinned (OpenSpec.ofChange modesDenotedWrong)

/-- 'narratorlaw11.ModesActive': WHATEVER THE INPUT: true; the input reads as it did. -/
def modesActiveSpec : ChangeSpec := { name := "modesActive", fn := fun _ => fun
  | [d1, d2, d3] => { results := [.lit (.bool true)], args := [d1, d2, d3] }
  | _ => none }
def modesActiveRow : OpenClaim := { program := "ytokpgkknmapjlaa", sum := "d44dc0fff04762e26776f914da8dba9c4969ed472d02ad3d0448d98c72475672", func := "narrator/narratorlaw11.ModesActive", spec := "modesActive", inPlace := ["internal/bytealg.IndexByteString"], unfollowed := true, recurses := true, apart := false }
def ModesActiveSaid : Prop := modesActiveRow.holds Try.pinned (OpenSpec.ofChange modesActiveSpec)

/-- ITS FALSE NEIGHBOUR: 'it returns false'. Refute it at one input. -/
def modesActiveWrong : ChangeSpec := { name := "modesActive", fn := fun _ => fun
  | [d1, d2, d3] => { results := [.lit (.bool false)], args := [d1, d2, d3] }
  | _ => none }
def ModesActiveWrongFalsely : Prop := modesActiveRow.holds Try.pinned (OpenSpec.ofChange modesActiveWrong)

/-- 'narratorlaw11.ModesCharacters': WHATEVER THE INPUT: true; the input reads as it did. -/
def modesCharactersSpec : ChangeSpec := { name := "modesCharacters", fn := fun _ => fun
  | [d1, d2, d3, d4, d5] => { results := [.lit (.bool true)], args := [d1, d2, d3, d4, d5] }
  | _ => none }
def modesCharactersRow : OpenClaim := { program := "ytokpgkknmapjlaa", sum := "d44dc0fff04762e26776f914da8dba9c4969ed472d02ad3d0448d98c72475672", func := "narrator/narratorlaw11.ModesCharacters", spec := "modesCharacters", inPlace := ["internal/bytealg.IndexByteString"], unfollowed := true, recurses := true, apart := false }
def ModesCharactersSaid : Prop := modesCharactersRow.holds Try.pinned (OpenSpec.ofChange modesCharactersSpec)

/-- ITS FALSE NEIGHBOUR: 'it returns false'. Refute it at one input. -/
def modesCharactersWrong : ChangeSpec := { name := "modesCharacters", fn := fun _ => fun
  | [d1, d2, d3, d4, d5] => { results := [.lit (.bool false)], args := [d1, d2, d3, d4, d5] }
  | _ => none }
def ModesCharactersWrongFalsely : Prop := modesCharactersRow.holds Try.pinned (OpenSpec.ofChange modesCharactersWrong)

/-- 'narratorlaw11.ModesSeparation': WHATEVER THE INPUT: true; the input reads as it did. -/
def modesSeparationSpec : ChangeSpec := { name := "modesSeparation", fn := fun _ => fun
  | [d1, d2, d3, d4, d5, d6] => { results := [.lit (.bool true)], args := [d1, d2, d3, d4, d5, d6] }
  | _ => none }
def modesSeparationRow : OpenClaim := { program := "ytokpgkknmapjlaa", sum := "d44dc0fff04762e26776f914da8dba9c4969ed472d02ad3d0448d98c72475672", func := "narrator/narratorlaw11.ModesSeparation", spec := "modesSeparation", inPlace := ["internal/bytealg.IndexByteString"], unfollowed := true, recurses := true, apart := false }
def ModesSeparationSaid : Prop := modesSeparationRow.holds Try.pinned (OpenSpec.ofChange modesSeparationSpec)

/-- ITS FALSE NEIGHBOUR: 'it returns false'. Refute it at one input. -/
def modesSeparationWrong : ChangeSpec := { name := "modesSeparation", fn := fun _ => fun
  | [d1, d2, d3, d4, d5, d6] => { results := [.lit (.bool false)], args := [d1, d2, d3, d4, d5, d6] }
  | _ => none }
def ModesSeparationWrongFalsely : Prop := modesSeparationRow.holds Try.pinned (OpenSpec.ofChange modesSeparationWrong)

/-- 'narratorlaw11.ModesGraphics': WHATEVER THE INPUT: true; the input reads as it did. -/
def modesGraphicsSpec : ChangeSpec := { name := "modesGraphics", fn := fun _ => fun
  | [d1, d2, d3] => { results := [.lit (.bool true)], args := [d1, d2, d3] }
  | _ => none }
def modesGraphicsRow : OpenClaim := { program := "ytokpgkknmapjlaa", sum := "d44dc0fff04762e26776f914da8dba9c4969ed472d02ad3d0448d98c72475672", func := "narrator/narratorlaw11.ModesGraphics", spec := "modesGraphics", inPlace := ["internal/bytealg.IndexByteString"], unfollowed := true, recurses := true, apart := false }
def ModesGraphicsSaid : Prop := modesGraphicsRow.holds Try.pinned (OpenSpec.ofChange modesGraphicsSpec)

/-- ITS FALSE NEIGHBOUR: 'it returns false'. Refute it at one input. -/
def modesGraphicsWrong : ChangeSpec := { name := "modesGraphics", fn := fun _ => fun
  | [d1, d2, d3] => { results := [.lit (.bool false)], args := [d1, d2, d3] }
  | _ => none }
def ModesGraphicsWrongFalsely : Prop := modesGraphicsRow.holds Try.pinned (OpenSpec.ofChange modesGraphicsWrong)

/- THE SECOND FORM. 'bulk': how many values and letters a reading holds, each counted each time it is reached (what is shared counts as often as it is met; a slice's spare places count too). A statement '..UptoSaid' is the law's where the arguments, and the package variables that the reading takes, are together of bulk at most 1048576: NARROWER than '..Said'. Prove '..Said' where nothing that the law and all that it calls make is longer than what came in: it says more and counts as full. Else prove '..UptoSaid'. A law counts once. -/
mutual
def uptoBulk {H : Type} : DataW H → Nat
  | .lit (.string bytes) => bytes.length + 1
  | .lit _ => 1
  | .nil => 1
  | .ptr d => uptoBulk d + 1
  | .slice elems spare => uptoBulkAll elems + uptoBulkAll spare + 1
  | .agg parts => uptoBulkAll parts + 1
  | .iface _ d => uptoBulk d + 1
  | .map entries => uptoBulkEntries entries + 1
  | .held _ => 1
def uptoBulkAll {H : Type} : List (DataW H) → Nat
  | [] => 0
  | d :: r => uptoBulk d + uptoBulkAll r
def uptoBulkEntries {H : Type} : List (Lit × DataW H) → Nat
  | [] => 0
  | x :: r => uptoBulkEntry x + uptoBulkEntries r
def uptoBulkEntry {H : Type} : Lit × DataW H → Nat
  | (.string bytes, d) => bytes.length + uptoBulk d + 1
  | (_, d) => uptoBulk d + 1
 end
def uptoSmall : (H : Type) → List (DataW H) → Bool := fun _ ds => decide (uptoBulkAll ds ≤ 1048576)
def OpenSpec.upto (s : _root_.Go.ChangeSpec) : _root_.Go.OpenSpec := { _root_.Go.OpenSpec.ofChange s with cond := some uptoSmall }

/-- 'narratorlaw11.ModesSet', WHERE WHAT IT READS IS OF BULK AT MOST 1048576: true; the input reads as it did. -/
def modesSetUptoRow : OpenClaim := { program := "ytokpgkknmapjlaa", sum := "d44dc0fff04762e26776f914da8dba9c4969ed472d02ad3d0448d98c72475672", func := "narrator/narratorlaw11.ModesSet", spec := "modesSet", inPlace := ["internal/bytealg.IndexByteString"], unfollowed := true, recurses := true, apart := false, narrowed := true }
def ModesSetUptoSaid : Prop := modesSetUptoRow.holds Try.pinned (OpenSpec.upto modesSetSpec)

/-- 'narratorlaw11.ModesConcatenation', WHERE WHAT IT READS IS OF BULK AT MOST 1048576: true; the input reads as it did. -/
def modesConcatenationUptoRow : OpenClaim := { program := "ytokpgkknmapjlaa", sum := "d44dc0fff04762e26776f914da8dba9c4969ed472d02ad3d0448d98c72475672", func := "narrator/narratorlaw11.ModesConcatenation", spec := "modesConcatenation", inPlace := ["internal/bytealg.IndexByteString"], unfollowed := true, recurses := true, apart := false, narrowed := true }
def ModesConcatenationUptoSaid : Prop := modesConcatenationUptoRow.holds Try.pinned (OpenSpec.upto modesConcatenationSpec)

/-- 'narratorlaw11.ModesLast', WHERE WHAT IT READS IS OF BULK AT MOST 1048576: true; the input reads as it did. -/
def modesLastUptoRow : OpenClaim := { program := "ytokpgkknmapjlaa", sum := "d44dc0fff04762e26776f914da8dba9c4969ed472d02ad3d0448d98c72475672", func := "narrator/narratorlaw11.ModesLast", spec := "modesLast", inPlace := ["internal/bytealg.IndexByteString"], unfollowed := true, recurses := true, apart := false, narrowed := true }
def ModesLastUptoSaid : Prop := modesLastUptoRow.holds Try.pinned (OpenSpec.upto modesLastSpec)

/-- 'narratorlaw11.ModesDenoted', WHERE WHAT IT READS IS OF BULK AT MOST 1048576: true; the input reads as it did. -/
def modesDenotedUptoRow : OpenClaim := { program := "ytokpgkknmapjlaa", sum := "d44dc0fff04762e26776f914da8dba9c4969ed472d02ad3d0448d98c72475672", func := "narrator/narratorlaw11.ModesDenoted", spec := "modesDenoted", inPlace := ["internal/bytealg.IndexByteString"], unfollowed := true, recurses := true, apart := false, narrowed := true }
def ModesDenotedUptoSaid : Prop := modesDenotedUptoRow.holds Try.pinned (OpenSpec.upto modesDenotedSpec)

/-- 'narratorlaw11.ModesActive', WHERE WHAT IT READS IS OF BULK AT MOST 1048576: true; the input reads as it did. -/
def modesActiveUptoRow : OpenClaim := { program := "ytokpgkknmapjlaa", sum := "d44dc0fff04762e26776f914da8dba9c4969ed472d02ad3d0448d98c72475672", func := "narrator/narratorlaw11.ModesActive", spec := "modesActive", inPlace := ["internal/bytealg.IndexByteString"], unfollowed := true, recurses := true, apart := false, narrowed := true }
def ModesActiveUptoSaid : Prop := modesActiveUptoRow.holds Try.pinned (OpenSpec.upto modesActiveSpec)

/-- 'narratorlaw11.ModesCharacters', WHERE WHAT IT READS IS OF BULK AT MOST 1048576: true; the input reads as it did. -/
def modesCharactersUptoRow : OpenClaim := { program := "ytokpgkknmapjlaa", sum := "d44dc0fff04762e26776f914da8dba9c4969ed472d02ad3d0448d98c72475672", func := "narrator/narratorlaw11.ModesCharacters", spec := "modesCharacters", inPlace := ["internal/bytealg.IndexByteString"], unfollowed := true, recurses := true, apart := false, narrowed := true }
def ModesCharactersUptoSaid : Prop := modesCharactersUptoRow.holds Try.pinned (OpenSpec.upto modesCharactersSpec)

/-- 'narratorlaw11.ModesSeparation', WHERE WHAT IT READS IS OF BULK AT MOST 1048576: true; the input reads as it did. -/
def modesSeparationUptoRow : OpenClaim := { program := "ytokpgkknmapjlaa", sum := "d44dc0fff04762e26776f914da8dba9c4969ed472d02ad3d0448d98c72475672", func := "narrator/narratorlaw11.ModesSeparation", spec := "modesSeparation", inPlace := ["internal/bytealg.IndexByteString"], unfollowed := true, recurses := true, apart := false, narrowed := true }
def ModesSeparationUptoSaid : Prop := modesSeparationUptoRow.holds Try.pinned (OpenSpec.upto modesSeparationSpec)

/-- 'narratorlaw11.ModesGraphics', WHERE WHAT IT READS IS OF BULK AT MOST 1048576: true; the input reads as it did. -/
def modesGraphicsUptoRow : OpenClaim := { program := "ytokpgkknmapjlaa", sum := "d44dc0fff04762e26776f914da8dba9c4969ed472d02ad3d0448d98c72475672", func := "narrator/narratorlaw11.ModesGraphics", spec := "modesGraphics", inPlace := ["internal/bytealg.IndexByteString"], unfollowed := true, recurses := true, apart := false, narrowed := true }
def ModesGraphicsUptoSaid : Prop := modesGraphicsUptoRow.holds Try.pinned (OpenSpec.upto modesGraphicsSpec)

end Rows
end Go.Proofs.Ytokpgkknmapjlaa
