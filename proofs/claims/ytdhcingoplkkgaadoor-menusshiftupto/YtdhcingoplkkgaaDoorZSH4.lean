import Derived.Test.YtdhcingoplkkgaaDoorProg
import Derived.KernelRfl
import Derived.Shelf.Strings.BuilderK
import Derived.WalkKit
import Derived.BigCall
import Derived.Deep.LoopGhost
import Derived.Lib.Walk
import Derived.Lib.SliceRun
import Derived.MakeChecks
import Derived.Test.YtdhcingoplkkgaaDoorZSH3
set_option linter.unusedVariables false
set_option linter.defProp false
set_option maxRecDepth 20000
namespace Go.VI
open Go.Proofs
def keepT : List (Nat × List (Nat × List Nat)) := [
  (2, [(0, [])]),
  (3, [(0, [1]), (1, [1, 10]), (2, [2]), (3, [1, 3]), (4, [1, 3, 13, 14, 15]), (5, [1, 3, 13, 14, 15, 16]), (6, [1, 3, 5, 13, 14, 15]), (7, [1, 3, 5, 6, 7, 13, 14, 15]), (8, [1, 5, 13, 14, 15, 83]), (9, [2]), (10, [1, 3, 13, 14, 15]), (11, [1, 3, 13, 14, 15]), (12, [2])]),
  (4, [(0, [1, 2]), (1, [1, 2, 12]), (2, [4]), (3, [2, 5]), (4, [2, 5, 6]), (5, [2, 5, 6]), (6, [2, 5, 6, 7]), (7, [5, 6, 7, 26, 27, 28]), (8, [5, 6, 7, 26, 27, 28, 29]), (9, [5, 6, 7, 9, 26, 27, 28]), (10, [5, 6, 7, 9, 26, 27, 28]), (11, [5, 6, 7, 26, 27, 28]), (12, [5, 6, 7, 26, 27, 28]), (13, [4])]),
  (5, [(0, [0]), (1, [0, 5]), (2, [2]), (3, [2])]),
  (6, [(0, [0]), (1, [0, 12]), (2, [2]), (3, [0, 3]), (4, [0, 3, 4]), (5, [0, 3, 4, 18, 19, 20]), (6, [0, 3, 4, 18, 19, 20, 21]), (7, [0, 3, 4, 6, 18, 19, 20]), (8, [0, 3, 6, 18, 19, 20, 46]), (9, [2]), (10, [0, 3, 6, 7, 18, 19, 20]), (11, [0, 3, 6, 7, 18, 19, 20, 52]), (12, [0, 3, 6, 7, 18, 19, 20]), (13, [0, 3, 6, 7, 18, 19, 20]), (14, [0, 3, 4, 18, 19, 20]), (15, [0, 3, 4, 18, 19, 20]), (16, [3, 61, 62, 63]), (17, [3, 61, 62, 63, 64]), (18, [3, 8, 9, 61, 62, 63]), (19, [3, 61, 62, 63, 75]), (20, [2]), (21, [3, 61, 62, 63]), (22, [2])]),
  (7, [(0, [1]), (1, [1, 11]), (2, [2]), (3, [1, 3]), (4, [1, 3]), (5, [3, 17, 18, 19]), (6, [3, 17, 18, 19, 20]), (7, [3, 5, 17, 18, 19]), (8, [3, 5, 6, 17, 18, 19]), (9, [3, 6, 17, 18, 19, 24, 25, 26]), (10, [3, 6, 17, 18, 19, 24, 25, 26, 27]), (11, [3, 6, 8, 17, 18, 19, 24, 25, 26]), (12, [3, 6, 8, 17, 18, 19, 24, 25, 26, 32]), (13, [3, 6, 8, 17, 18, 19, 24, 25, 26]), (14, [3, 6, 17, 18, 19, 24, 25, 26]), (15, [3, 6, 17, 18, 19, 24, 25, 26]), (16, [3, 6, 17, 18, 19, 42]), (17, [2]), (18, [3, 17, 18, 19]), (19, [3, 17, 18, 19]), (20, [2])]),
  (8, [(0, [1]), (1, [1, 8]), (2, [2]), (3, [10, 11, 12]), (4, [10, 11, 12, 13]), (5, [4, 10, 11, 12]), (6, [10, 11, 12, 18]), (7, [2]), (8, [10, 11, 12]), (9, [2])]),
  (9, [(0, []), (1, [1]), (2, [1, 2]), (3, [1, 2, 23]), (4, [0]), (5, [3, 4]), (6, [0])]),
  (10, [(0, [1]), (1, [1, 3]), (2, [3, 8, 9, 10]), (3, [3, 8, 9, 10, 11]), (4, [3, 5, 8, 9, 10]), (5, [3, 8, 9, 10]), (6, [3, 8, 9, 10]), (7, [3, 6]), (8, [6]), (9, [2])]),
  (11, [(0, [2, 3]), (1, [2, 3, 28]), (2, [4, 5]), (3, [2, 3, 6]), (4, [2, 3, 6, 7]), (5, [6, 7, 35, 36, 37]), (6, [6, 7, 35, 36, 37, 38]), (7, [6, 7, 8, 9, 35, 36, 37]), (8, [6, 7, 8, 10, 35, 36, 37]), (9, [6, 7, 8, 10, 35, 36, 37]), (10, [6, 7, 8, 35, 36, 37, 54]), (11, [6, 7, 35, 36, 37]), (12, [6, 7, 35, 36, 37]), (13, [4, 5])]),
  (12, [(0, [0, 1]), (1, [0, 1, 10]), (2, [4]), (3, [0, 1, 5]), (4, [0, 1, 5, 14]), (5, [0, 1, 5]), (6, [0, 1, 5, 25]), (7, [4]), (8, [4])]),
  (13, [(0, [0, 1]), (1, [0, 1, 10]), (2, [4]), (3, [0, 1, 5]), (4, [0, 1, 5, 14]), (5, [0, 1, 5]), (6, [0, 1, 5, 25]), (7, [4]), (8, [4])]),
  (14, [(0, [0]), (1, [0, 3]), (2, [0, 3, 6, 7, 8]), (3, [0, 3, 6, 7, 8, 9]), (4, [0, 3, 4, 5, 6, 7, 8]), (5, [0, 3, 6, 7, 8]), (6, [0, 3, 4, 6, 7, 8, 20]), (7, [0, 3, 4, 6, 7, 8, 24]), (8, [0, 3, 6, 7, 8]), (9, [0, 3, 6, 7, 8]), (10, [2])]),
  (15, [(0, [0]), (1, [0, 3]), (2, [0, 3, 4]), (3, [0, 3, 4, 9]), (4, [0, 3, 4]), (5, [0, 3, 4, 17]), (6, [0, 3, 4, 28]), (7, [0, 3, 4]), (8, [0, 3, 4]), (9, [2])]),
  (16, [(0, [0, 1]), (1, [0, 1, 5]), (2, [1, 5, 10]), (3, [1, 5, 10, 11, 12]), (4, [1, 5, 7, 10]), (5, [1, 5, 10]), (6, [4])]),
  (17, [(0, [0, 2]), (1, [0, 2]), (2, [0, 2, 3]), (3, [0, 2, 3, 26]), (4, [0, 2, 3]), (5, [2, 3, 4]), (6, [2, 3, 4]), (7, [2, 3, 4, 5]), (8, [2, 3, 4, 5, 43, 44, 45]), (9, [2, 3, 4, 5, 43, 44, 45, 46]), (10, [2, 3, 4, 5, 7, 43, 44, 45]), (11, [2, 3, 4, 5, 43, 44, 45, 51]), (12, [2, 3, 4, 5, 43, 44, 45]), (13, [2, 3, 4, 5, 43, 44, 45]), (14, [2, 3]), (15, [2])]),
  (18, [(0, [0, 1, 4]), (1, [0, 1, 4, 9]), (2, [0, 1, 4, 5]), (3, [0, 1, 4, 5, 44]), (4, [0, 1, 4, 5]), (5, [0, 1, 4, 5, 52]), (6, [0, 1, 5]), (7, [0, 1, 4])]),
  (19, [(0, [0, 1, 2, 3, 6]), (1, [0, 1, 2, 3, 6, 7]), (2, [0, 1, 3, 6, 7, 21, 22, 23]), (3, [0, 1, 3, 6, 7, 21, 22, 23, 24]), (4, [0, 1, 3, 6, 7, 9, 21, 22, 23]), (5, [0, 1, 3, 6, 7, 9, 21, 22, 23]), (6, [0, 1, 3, 6, 7, 9, 21, 22, 23, 34]), (7, [0, 1, 3, 6, 7, 21, 22, 23]), (8, [0, 1, 3, 6, 7, 21, 22, 23]), (9, [0, 1, 3, 6, 7, 21, 22, 23]), (10, [3, 6, 48]), (11, [])]),
  (20, [(0, [0]), (1, [0, 3]), (2, [0, 3, 16]), (3, [0, 3]), (4, [2])]),
  (21, [(0, [0]), (1, [0, 3]), (2, [3, 8, 9, 10]), (3, [3, 8, 9, 10, 11]), (4, [3, 5, 8, 9, 10]), (5, [3, 8, 9, 10, 15]), (6, [3, 8, 9, 10]), (7, [3, 8, 9, 10]), (8, [2])]),
  (22, [(0, [0, 1]), (1, [0, 1, 12]), (2, [4]), (3, [0, 1, 21]), (4, [4]), (5, [0, 1, 5, 6]), (6, [0, 1, 5, 31]), (7, [4]), (8, [4])]),
  (23, [(0, [0]), (1, [0, 3]), (2, [3, 6, 7, 8]), (3, [3, 6, 7, 8, 9]), (4, [3, 5, 6, 7, 8]), (5, [3, 6, 7, 8]), (6, [3, 6, 7, 8]), (7, [2])]),
  (24, [(0, [0]), (1, [0])]),
  (25, [(0, [0]), (1, [0, 4]), (2, [2]), (3, [2])]),
  (26, [(0, [0, 1]), (1, [0, 1, 16]), (2, [0, 1]), (3, [4])]),
  (27, [(0, [0, 2]), (1, [0, 2, 4]), (2, [0, 2, 4, 9]), (3, [0, 2, 4]), (4, [0, 2, 4, 5]), (5, [0, 2, 4, 5, 16]), (6, [2, 3]), (7, [0, 2, 4]), (8, [2, 3])]),
  (28, [(0, [0, 1]), (1, [0, 1, 7]), (2, [0, 1, 15]), (3, [0, 1]), (4, [4])]),
  (29, [(0, [0, 1]), (1, [0, 1, 9]), (2, [0, 1, 5, 6]), (3, [0, 1, 5, 6, 17]), (4, [0, 1, 5, 6]), (5, [0, 1, 6, 26]), (6, [0, 1]), (7, [4])]),
  (30, [(0, [0, 1]), (1, [0, 1]), (2, [1]), (3, [4, 5])]),
  (31, [(0, [0]), (1, [2])]),
  (32, [(0, [0, 1]), (1, [4])]),
  (33, [(0, [0]), (1, [0, 4]), (2, [0, 4, 10]), (3, [2, 3]), (4, [0, 4, 5]), (5, [0, 2, 4, 5]), (6, [0, 2, 4, 5, 18]), (7, [2, 3]), (8, [0, 4, 5, 6]), (9, [0, 4, 5, 6]), (10, [0, 4, 5, 6, 27]), (11, [0, 4, 5, 6]), (12, [0, 4, 5, 6, 33]), (13, [0, 4, 5, 35]), (14, [0, 4, 5]), (15, [2, 3, 4, 5]), (16, [2, 3, 48]), (17, [2, 3]), (18, [2, 3])]),
  (34, [(0, [0, 1]), (1, [4])]),
  (35, [(0, [0, 6]), (1, []), (2, [19])]),
  (36, [(0, [0]), (1, [2])]),
  (37, [(0, [0]), (1, [0, 10]), (2, [2, 3]), (3, [2, 3])]),
  (38, [(0, [0, 1]), (1, [0, 7]), (2, [0, 7, 8]), (3, [0, 7, 8, 9]), (4, [0, 7, 8, 9]), (5, [0, 7, 8, 9, 26]), (6, [0, 7, 8, 9, 33]), (7, [0, 7, 8, 9, 11]), (8, [0, 7, 8, 9, 11, 43]), (9, [4]), (10, [0, 7, 8, 9]), (11, [0, 7, 8, 9, 12]), (12, [0, 7, 8, 9, 12, 51]), (13, [0, 7, 8, 9, 12]), (14, [0, 7, 8, 9, 12, 64]), (15, [4]), (16, [0, 7, 8, 9, 10]), (17, [0, 7, 8, 9, 10]), (18, [0, 7, 8, 9, 98]), (19, [4]), (20, [8, 9, 13]), (21, [8, 9, 13, 108]), (22, [4]), (23, [0, 7, 8, 9, 14]), (24, [0, 7, 8, 9, 14, 15]), (25, [0, 7, 8, 9, 14, 15, 124]), (26, [0, 7, 8, 9, 14, 15]), (27, [0, 7, 8, 9, 14, 15, 139]), (28, [0, 7, 8, 9, 14, 15, 16]), (29, [0, 7, 8, 9, 14, 15, 16, 143]), (30, [0, 7, 8, 9, 14, 15, 16]), (31, [0, 7, 8, 9, 14, 15, 16, 156]), (32, [4]), (33, [4]), (34, [0, 1, 160]), (35, [4]), (36, [0, 1, 171]), (37, [175]), (38, [175, 176, 177]), (39, [5, 6, 175]), (40, [5, 175, 181]), (41, [4]), (42, [4]), (43, [0, 1, 183]), (44, [4])]),
  (40, [(0, [0]), (1, [0, 4]), (2, [0, 4, 16]), (3, [2, 3]), (4, [0, 4, 5]), (5, [0, 4, 5, 6]), (6, [0, 4, 5, 6, 23]), (7, [0, 7]), (8, [2, 3]), (9, [0, 4, 5, 6, 8]), (10, [0, 4, 5, 8, 9]), (11, [0, 5, 8, 9, 45]), (12, [2, 3]), (13, [0, 5, 8, 9, 10]), (14, [0, 5, 8, 10, 57]), (15, [2, 3]), (16, [0, 5, 8, 10, 59]), (17, [2, 3]), (18, [0, 5, 8, 10, 11]), (19, [0, 5, 8, 10, 11, 75]), (20, [2, 3]), (21, [0, 5, 10, 11, 77]), (22, [2, 3]), (23, [5, 10, 11, 12]), (24, [5, 10, 11, 12, 98]), (25, [2, 3]), (26, [2, 3])]),
  (41, [(0, [0, 1]), (1, [4])]),
  (42, [(0, [0]), (1, [0, 3]), (2, [2]), (3, [10]), (4, [2]), (5, [2])]),
  (43, [(0, [0]), (1, [2])]),
  (45, [(0, [0, 1]), (1, [4])]),
  (68, [(0, [])])]
def headT : List (Nat × List (Nat × List Nat)) := [
  (3, [(5, [1, 3, 13, 14, 15])]),
  (4, [(8, [5, 6, 7, 26, 27, 28])]),
  (6, [(6, [0, 3, 4, 18, 19, 20]), (11, [0, 3, 6, 7, 18, 19, 20]), (17, [3, 61, 62, 63])]),
  (7, [(6, [3, 17, 18, 19]), (10, [3, 6, 17, 18, 19, 24, 25, 26])]),
  (8, [(4, [10, 11, 12])]),
  (10, [(3, [3, 8, 9, 10])]),
  (11, [(6, [6, 7, 35, 36, 37])]),
  (12, [(4, [0, 1, 5])]),
  (13, [(4, [0, 1, 5])]),
  (14, [(3, [0, 3, 6, 7, 8])]),
  (15, [(3, [0, 3, 4])]),
  (16, [(3, [1, 5, 10])]),
  (17, [(3, [0, 2, 3]), (9, [2, 3, 4, 5, 43, 44, 45])]),
  (18, [(1, [0, 1, 4]), (3, [0, 1, 4, 5])]),
  (19, [(3, [0, 1, 3, 6, 7, 21, 22, 23])]),
  (20, [(2, [0, 3])]),
  (21, [(3, [3, 8, 9, 10])]),
  (23, [(3, [3, 6, 7, 8])]),
  (26, [(1, [0, 1])]),
  (27, [(2, [0, 2, 4])]),
  (28, [(1, [0, 1])]),
  (29, [(1, [0, 1])]),
  (33, [(10, [0, 4, 5, 6])]),
  (38, [(5, [0, 7, 8, 9]), (12, [0, 7, 8, 9, 12]), (25, [0, 7, 8, 9, 14, 15]), (29, [0, 7, 8, 9, 14, 15, 16]), (38, [175])])]
def lk2 (t : List (Nat × List (Nat × List Nat))) (f i : Nat) : List Nat := match t.lookup f with | some l => (l.lookup i).getD [] | none => []
def floT : List (Nat × List (Nat × List (Nat × Nat))) := [
  (3, [(8, [])]),
  (4, [(5, [(1, 3)])]),
  (6, [(19, [])]),
  (9, [(5, [])]),
  (10, [(5, [(0, 2), (0, 3)])]),
  (12, [(6, [])]),
  (13, [(6, [])]),
  (18, [(3, [])]),
  (20, [(2, [(6, 8), (7, 8)])]),
  (31, [(1, [])]),
  (38, [(6, []), (7, []), (14, []), (31, [])])]
def lkF (t : List (Nat × List (Nat × List (Nat × Nat)))) (f i : Nat) : List (Nat × Nat) := match t.lookup f with | some l => (l.lookup i).getD [] | none => []
def matT : List (Nat × List (Nat × List (Nat × Nat))) := [(4, [(8, [(7, 8)])]), (7, [(10, [(6, 3)])]), (11, [(6, [(6, 1)])]), (14, [(3, [(3, 2)])]), (15, [(3, [(3, 2)])]), (16, [(3, [(5, 3)])])]
def matbT : List (Nat × List (Nat × List (Nat × Nat × Nat))) := [(10, [(3, [(3, 0, 5)])])]
def frzT : List (Nat × List (Nat × List (Nat × Nat))) := []
def lkG {α : Type} (t : List (Nat × List (Nat × List α))) (f i : Nat) : List α := match t.lookup f with | some l => (l.lookup i).getD [] | none => []
def kindT : List (Nat × List (Option Nat)) := [(22, [some 1]), (23, [none, none, some 1, none, none, none]), (24, [none, none, some 1, none, none, none]), (27, [some 8]), (31, [some 1]), (36, [some 3]), (38, [some 2]), (41, [some 1]), (47, [some 5]), (66, [some 1]), (67, [none, some 1]), (68, [none, some 1])]
def argkT : List (Nat × List (List (Option Nat))) := [(3, [[none, none, some 1, none, none, none]]), (4, [[none, none, some 1, none, none, none]]), (5, [[some 3]]), (6, [[some 3]]), (7, [[none, none, some 1, none, none, none]]), (8, [[none, none, some 1, none, none, none]]), (10, [[none, none, some 1, none, none, none]]), (11, [[none, none, some 1, none, none, none]]), (12, [[some 8], [some 8]]), (13, [[some 2], [some 2]]), (14, [[some 3]]), (15, [[some 3]]), (17, [[some 3]]), (18, [[some 5]]), (20, [[some 3]]), (21, [[some 3]]), (23, [[some 3]]), (25, [[some 3]])]
def reskT : List (Nat × List (List (Option Nat))) := [(10, [[some 8]]), (11, [[some 1]]), (14, [[some 2]]), (15, [[some 2]]), (16, [[some 3]]), (20, [[some 3]]), (25, [[some 3]])]
noncomputable def E : Env := { P := Tryd.prog, keep := lk2 keepT, head := lk2 headT, flo := lkF floT, hol := fun f i => false, glob := fun g =>  none, byref := fun f => false, seq := fun f =>  none, ext := fun f => if f = 23 then some extText else if f = 25 then some (extClone 3) else none, kinds := fun t => (kindT.lookup t).getD [], argk := fun f => (argkT.lookup f).getD [], resk := fun f => (reskT.lookup f).getD [], own := fun f => [16].contains f, mat := lkG matT, matb := lkG matbT, frz := lkG frzT }
theorem E_P : E.P = Tryd.prog := rfl
theorem E_glob (g : Nat) : E.glob g = none := rfl
theorem E_extI (f : Nat) (h : List AV → Hp → Option (AV × Hp)) (hf : E.ext f = some h) : (f = 23 ∧ h = extText) ∨ (f = 25 ∧ h = (extClone 3)) ∨ False := by
  have h2 : (if f = 23 then some extText else if f = 25 then some (extClone 3) else none) = some h := hf
  (repeat (split at h2)) <;> simp_all
theorem xk23 : E.ext 23 = some extText := rfl
theorem xk25 : E.ext 25 = some (extClone 3) := rfl
theorem E_byref (f : Nat) : E.byref f = false := rfl
theorem agg22 : aggO Tryd.prog 22 = some false := by kernel_rfl
theorem agg24 : aggO Tryd.prog 24 = some true := by kernel_rfl
theorem agg27 : aggO Tryd.prog 27 = some false := by kernel_rfl
theorem agg3 : aggO Tryd.prog 3 = some false := by kernel_rfl
theorem agg30 : aggO Tryd.prog 30 = some true := by kernel_rfl
theorem agg36 : aggO Tryd.prog 36 = some false := by kernel_rfl
theorem agg4 : aggO Tryd.prog 4 = some false := by kernel_rfl
theorem agg45 : aggO Tryd.prog 45 = some true := by kernel_rfl
theorem agg47 : aggO Tryd.prog 47 = some false := by kernel_rfl
theorem agg49 : aggO Tryd.prog 49 = some true := by kernel_rfl
theorem agg5 : aggO Tryd.prog 5 = some false := by kernel_rfl
theorem agg52 : aggO Tryd.prog 52 = some false := by kernel_rfl
theorem agg60 : aggO Tryd.prog 60 = some true := by kernel_rfl
theorem agg64 : aggO Tryd.prog 64 = some false := by kernel_rfl
theorem agg9 : aggO Tryd.prog 9 = some false := by kernel_rfl
theorem arr22 : arrO Tryd.prog 22 = none := by kernel_rfl
theorem arr27 : arrO Tryd.prog 27 = none := by kernel_rfl
theorem arr30 : arrO Tryd.prog 30 = none := by kernel_rfl
theorem arr36 : arrO Tryd.prog 36 = none := by kernel_rfl
theorem arr45 : arrO Tryd.prog 45 = none := by kernel_rfl
theorem arr47 : arrO Tryd.prog 47 = none := by kernel_rfl
theorem arr49 : arrO Tryd.prog 49 = none := by kernel_rfl
theorem arr9 : arrO Tryd.prog 9 = none := by kernel_rfl
theorem arrz24 : arrO Tryd.prog 24 = none := by kernel_rfl
theorem arrz30 : arrO Tryd.prog 30 = none := by kernel_rfl
theorem arrz45 : arrO Tryd.prog 45 = none := by kernel_rfl
theorem arrz49 : arrO Tryd.prog 49 = none := by kernel_rfl
theorem arrz60 : arrO Tryd.prog 60 = some (256, 4) := by kernel_rfl
theorem eqg30 : eqgO Tryd.prog 30 = false := by kernel_rfl
theorem eqg45 : eqgO Tryd.prog 45 = false := by kernel_rfl
theorem fld24_2 : fldO Tryd.prog 24 2 = some (2, 22) := by kernel_rfl
theorem fld30_0 : fldO Tryd.prog 30 0 = some (0, 3) := by kernel_rfl
theorem fld30_2 : fldO Tryd.prog 30 2 = some (2, 3) := by kernel_rfl
theorem fld30_3 : fldO Tryd.prog 30 3 = some (3, 3) := by kernel_rfl
theorem fld30_4 : fldO Tryd.prog 30 4 = some (4, 3) := by kernel_rfl
theorem fld30_5 : fldO Tryd.prog 30 5 = some (5, 3) := by kernel_rfl
theorem fld30_6 : fldO Tryd.prog 30 6 = some (6, 3) := by kernel_rfl
theorem fld30_7 : fldO Tryd.prog 30 7 = some (7, 9) := by kernel_rfl
theorem fld45_0 : fldO Tryd.prog 45 0 = some (0, 9) := by kernel_rfl
theorem fld45_1 : fldO Tryd.prog 45 1 = some (1, 4) := by kernel_rfl
theorem fld45_2 : fldO Tryd.prog 45 2 = some (2, 3) := by kernel_rfl
theorem fld49_0 : fldO Tryd.prog 49 0 = some (0, 3) := by kernel_rfl
theorem fld49_1 : fldO Tryd.prog 49 1 = some (1, 3) := by kernel_rfl
theorem fld49_2 : fldO Tryd.prog 49 2 = some (2, 9) := by kernel_rfl
theorem fld49_3 : fldO Tryd.prog 49 3 = some (3, 4) := by kernel_rfl
theorem fld49_4 : fldO Tryd.prog 49 4 = some (4, 4) := by kernel_rfl
theorem kind22 : kindO Tryd.prog 22 = none := by kernel_rfl
theorem kind24 : kindO Tryd.prog 24 = none := by kernel_rfl
theorem kind27 : kindO Tryd.prog 27 = none := by kernel_rfl
theorem kind3 : kindO Tryd.prog 3 = some .i64 := by kernel_rfl
theorem kind30 : kindO Tryd.prog 30 = none := by kernel_rfl
theorem kind36 : kindO Tryd.prog 36 = none := by kernel_rfl
theorem kind45 : kindO Tryd.prog 45 = none := by kernel_rfl
theorem kind47 : kindO Tryd.prog 47 = none := by kernel_rfl
theorem kind49 : kindO Tryd.prog 49 = none := by kernel_rfl
theorem kind5 : kindO Tryd.prog 5 = some .u8 := by kernel_rfl
theorem kind52 : kindO Tryd.prog 52 = none := by kernel_rfl
theorem kind64 : kindO Tryd.prog 64 = none := by kernel_rfl
theorem kind9 : kindO Tryd.prog 9 = none := by kernel_rfl
theorem lv30 : leaves Tryd.prog 9 30 = some [.int .i64, .int .i64, .int .i64, .int .i64, .int .i64, .int .i64, .int .i64, .str] := by kernel_rfl
theorem lv45 : leaves Tryd.prog 9 45 = some [.str, .bool, .int .i64] := by kernel_rfl
theorem pl24 : placesO Tryd.prog 24 = some [(0, 1), (1, 1), (2, 1), (3, 1), (4, 1), (5, 1)] := by kernel_rfl
theorem pl30 : placesO Tryd.prog 30 = some [(0, 1), (1, 1), (2, 1), (3, 1), (4, 1), (5, 1), (6, 1), (7, 1)] := by kernel_rfl
theorem pl45 : placesO Tryd.prog 45 = some [(0, 1), (1, 1), (2, 1)] := by kernel_rfl
theorem pl49 : placesO Tryd.prog 49 = some [(0, 1), (1, 1), (2, 1), (3, 1), (4, 1)] := by kernel_rfl
theorem sl22 : slO Tryd.prog 22 = some 36 := by kernel_rfl
theorem sl24 : slO Tryd.prog 24 = none := by kernel_rfl
theorem sl27 : slO Tryd.prog 27 = some 30 := by kernel_rfl
theorem sl3 : slO Tryd.prog 3 = none := by kernel_rfl
theorem sl36 : slO Tryd.prog 36 = some 45 := by kernel_rfl
theorem sl47 : slO Tryd.prog 47 = some 49 := by kernel_rfl
theorem sl5 : slO Tryd.prog 5 = none := by kernel_rfl
theorem sl52 : slO Tryd.prog 52 = none := by kernel_rfl
theorem sl64 : slO Tryd.prog 64 = none := by kernel_rfl
theorem sl9 : slO Tryd.prog 9 = none := by kernel_rfl
theorem str22 : isStrO Tryd.prog 22 = false := by kernel_rfl
theorem str24 : isStrO Tryd.prog 24 = false := by kernel_rfl
theorem str27 : isStrO Tryd.prog 27 = false := by kernel_rfl
theorem str3 : isStrO Tryd.prog 3 = false := by kernel_rfl
theorem str36 : isStrO Tryd.prog 36 = false := by kernel_rfl
theorem str47 : isStrO Tryd.prog 47 = false := by kernel_rfl
theorem str5 : isStrO Tryd.prog 5 = false := by kernel_rfl
theorem str52 : isStrO Tryd.prog 52 = false := by kernel_rfl
theorem str64 : isStrO Tryd.prog 64 = false := by kernel_rfl
theorem str9 : isStrO Tryd.prog 9 = true := by kernel_rfl
theorem sz22 : szO Tryd.prog 22 = some 1 := by kernel_rfl
theorem sz24 : szO Tryd.prog 24 = some 6 := by kernel_rfl
theorem sz27 : szO Tryd.prog 27 = some 1 := by kernel_rfl
theorem sz3 : szO Tryd.prog 3 = some 1 := by kernel_rfl
theorem sz30 : szO Tryd.prog 30 = some 8 := by kernel_rfl
theorem sz36 : szO Tryd.prog 36 = some 1 := by kernel_rfl
theorem sz4 : szO Tryd.prog 4 = some 1 := by kernel_rfl
theorem sz45 : szO Tryd.prog 45 = some 3 := by kernel_rfl
theorem sz47 : szO Tryd.prog 47 = some 1 := by kernel_rfl
theorem sz49 : szO Tryd.prog 49 = some 5 := by kernel_rfl
theorem sz60 : szO Tryd.prog 60 = some 256 := by kernel_rfl
theorem sz9 : szO Tryd.prog 9 = some 1 := by kernel_rfl
theorem zero24 : zeroO Tryd.prog 24 = some (.agg [.i (.v (.int .i64 0)), .i (.v (.int .i64 0)), .i (.sl 0 [] true), .i (.v (.int .i64 0)), .i (.v (.int .i64 0)), .i (.v (.bool false))]) := by kernel_rfl
theorem zero27 : zeroO Tryd.prog 27 = some (.i (.sl 0 [] true)) := by kernel_rfl
theorem zero30 : zeroO Tryd.prog 30 = some (.agg [.i (.v (.int .i64 0)), .i (.v (.int .i64 0)), .i (.v (.int .i64 0)), .i (.v (.int .i64 0)), .i (.v (.int .i64 0)), .i (.v (.int .i64 0)), .i (.v (.int .i64 0)), .i (.str [])]) := by kernel_rfl
theorem zero36 : zeroO Tryd.prog 36 = some (.i (.sl 0 [] true)) := by kernel_rfl
theorem zero45 : zeroO Tryd.prog 45 = some (.agg [.i (.str []), .i (.v (.bool false)), .i (.v (.int .i64 0))]) := by kernel_rfl
theorem zero47 : zeroO Tryd.prog 47 = some (.i (.sl 0 [] true)) := by kernel_rfl
theorem zero49 : zeroO Tryd.prog 49 = some (.agg [.i (.v (.int .i64 0)), .i (.v (.int .i64 0)), .i (.str []), .i (.v (.bool false)), .i (.v (.bool false))]) := by kernel_rfl
theorem zero60 : zeroO Tryd.prog 60 = some (.agg [.i (.v (.bool false)), .i (.v (.bool false)), .i (.v (.bool false)), .i (.v (.bool false)), .i (.v (.bool false)), .i (.v (.bool false)), .i (.v (.bool false)), .i (.v (.bool false)), .i (.v (.bool false)), .i (.v (.bool false)), .i (.v (.bool false)), .i (.v (.bool false)), .i (.v (.bool false)), .i (.v (.bool false)), .i (.v (.bool false)), .i (.v (.bool false)), .i (.v (.bool false)), .i (.v (.bool false)), .i (.v (.bool false)), .i (.v (.bool false)), .i (.v (.bool false)), .i (.v (.bool false)), .i (.v (.bool false)), .i (.v (.bool false)), .i (.v (.bool false)), .i (.v (.bool false)), .i (.v (.bool false)), .i (.v (.bool false)), .i (.v (.bool false)), .i (.v (.bool false)), .i (.v (.bool false)), .i (.v (.bool false)), .i (.v (.bool false)), .i (.v (.bool false)), .i (.v (.bool false)), .i (.v (.bool false)), .i (.v (.bool false)), .i (.v (.bool false)), .i (.v (.bool false)), .i (.v (.bool false)), .i (.v (.bool false)), .i (.v (.bool false)), .i (.v (.bool false)), .i (.v (.bool false)), .i (.v (.bool false)), .i (.v (.bool false)), .i (.v (.bool false)), .i (.v (.bool false)), .i (.v (.bool false)), .i (.v (.bool false)), .i (.v (.bool false)), .i (.v (.bool false)), .i (.v (.bool false)), .i (.v (.bool false)), .i (.v (.bool false)), .i (.v (.bool false)), .i (.v (.bool false)), .i (.v (.bool false)), .i (.v (.bool false)), .i (.v (.bool false)), .i (.v (.bool false)), .i (.v (.bool false)), .i (.v (.bool false)), .i (.v (.bool false)), .i (.v (.bool false)), .i (.v (.bool false)), .i (.v (.bool false)), .i (.v (.bool false)), .i (.v (.bool false)), .i (.v (.bool false)), .i (.v (.bool false)), .i (.v (.bool false)), .i (.v (.bool false)), .i (.v (.bool false)), .i (.v (.bool false)), .i (.v (.bool false)), .i (.v (.bool false)), .i (.v (.bool false)), .i (.v (.bool false)), .i (.v (.bool false)), .i (.v (.bool false)), .i (.v (.bool false)), .i (.v (.bool false)), .i (.v (.bool false)), .i (.v (.bool false)), .i (.v (.bool false)), .i (.v (.bool false)), .i (.v (.bool false)), .i (.v (.bool false)), .i (.v (.bool false)), .i (.v (.bool false)), .i (.v (.bool false)), .i (.v (.bool false)), .i (.v (.bool false)), .i (.v (.bool false)), .i (.v (.bool false)), .i (.v (.bool false)), .i (.v (.bool false)), .i (.v (.bool false)), .i (.v (.bool false)), .i (.v (.bool false)), .i (.v (.bool false)), .i (.v (.bool false)), .i (.v (.bool false)), .i (.v (.bool false)), .i (.v (.bool false)), .i (.v (.bool false)), .i (.v (.bool false)), .i (.v (.bool false)), .i (.v (.bool false)), .i (.v (.bool false)), .i (.v (.bool false)), .i (.v (.bool false)), .i (.v (.bool false)), .i (.v (.bool false)), .i (.v (.bool false)), .i (.v (.bool false)), .i (.v (.bool false)), .i (.v (.bool false)), .i (.v (.bool false)), .i (.v (.bool false)), .i (.v (.bool false)), .i (.v (.bool false)), .i (.v (.bool false)), .i (.v (.bool false)), .i (.v (.bool false)), .i (.v (.bool false)), .i (.v (.bool false)), .i (.v (.bool false)), .i (.v (.bool false)), .i (.v (.bool false)), .i (.v (.bool false)), .i (.v (.bool false)), .i (.v (.bool false)), .i (.v (.bool false)), .i (.v (.bool false)), .i (.v (.bool false)), .i (.v (.bool false)), .i (.v (.bool false)), .i (.v (.bool false)), .i (.v (.bool false)), .i (.v (.bool false)), .i (.v (.bool false)), .i (.v (.bool false)), .i (.v (.bool false)), .i (.v (.bool false)), .i (.v (.bool false)), .i (.v (.bool false)), .i (.v (.bool false)), .i (.v (.bool false)), .i (.v (.bool false)), .i (.v (.bool false)), .i (.v (.bool false)), .i (.v (.bool false)), .i (.v (.bool false)), .i (.v (.bool false)), .i (.v (.bool false)), .i (.v (.bool false)), .i (.v (.bool false)), .i (.v (.bool false)), .i (.v (.bool false)), .i (.v (.bool false)), .i (.v (.bool false)), .i (.v (.bool false)), .i (.v (.bool false)), .i (.v (.bool false)), .i (.v (.bool false)), .i (.v (.bool false)), .i (.v (.bool false)), .i (.v (.bool false)), .i (.v (.bool false)), .i (.v (.bool false)), .i (.v (.bool false)), .i (.v (.bool false)), .i (.v (.bool false)), .i (.v (.bool false)), .i (.v (.bool false)), .i (.v (.bool false)), .i (.v (.bool false)), .i (.v (.bool false)), .i (.v (.bool false)), .i (.v (.bool false)), .i (.v (.bool false)), .i (.v (.bool false)), .i (.v (.bool false)), .i (.v (.bool false)), .i (.v (.bool false)), .i (.v (.bool false)), .i (.v (.bool false)), .i (.v (.bool false)), .i (.v (.bool false)), .i (.v (.bool false)), .i (.v (.bool false)), .i (.v (.bool false)), .i (.v (.bool false)), .i (.v (.bool false)), .i (.v (.bool false)), .i (.v (.bool false)), .i (.v (.bool false)), .i (.v (.bool false)), .i (.v (.bool false)), .i (.v (.bool false)), .i (.v (.bool false)), .i (.v (.bool false)), .i (.v (.bool false)), .i (.v (.bool false)), .i (.v (.bool false)), .i (.v (.bool false)), .i (.v (.bool false)), .i (.v (.bool false)), .i (.v (.bool false)), .i (.v (.bool false)), .i (.v (.bool false)), .i (.v (.bool false)), .i (.v (.bool false)), .i (.v (.bool false)), .i (.v (.bool false)), .i (.v (.bool false)), .i (.v (.bool false)), .i (.v (.bool false)), .i (.v (.bool false)), .i (.v (.bool false)), .i (.v (.bool false)), .i (.v (.bool false)), .i (.v (.bool false)), .i (.v (.bool false)), .i (.v (.bool false)), .i (.v (.bool false)), .i (.v (.bool false)), .i (.v (.bool false)), .i (.v (.bool false)), .i (.v (.bool false)), .i (.v (.bool false)), .i (.v (.bool false)), .i (.v (.bool false)), .i (.v (.bool false)), .i (.v (.bool false)), .i (.v (.bool false)), .i (.v (.bool false)), .i (.v (.bool false)), .i (.v (.bool false)), .i (.v (.bool false)), .i (.v (.bool false)), .i (.v (.bool false)), .i (.v (.bool false)), .i (.v (.bool false)), .i (.v (.bool false)), .i (.v (.bool false)), .i (.v (.bool false)), .i (.v (.bool false)), .i (.v (.bool false)), .i (.v (.bool false)), .i (.v (.bool false)), .i (.v (.bool false)), .i (.v (.bool false)), .i (.v (.bool false))]) := by kernel_rfl
theorem fok4 : fnOk E 4 = true := by kernel_rfl
theorem ent4 : enterOk E 4 = true := by kernel_rfl
theorem fok8 : fnOk E 8 = true := by kernel_rfl
theorem ent8 : enterOk E 8 = true := by kernel_rfl
theorem ent9 : enterOk E 9 = true := by kernel_rfl
theorem fok10 : fnOk E 10 = true := by kernel_rfl
theorem ent10 : enterOk E 10 = true := by kernel_rfl
theorem fok12 : fnOk E 12 = true := by kernel_rfl
theorem ent12 : enterOk E 12 = true := by kernel_rfl
theorem fok17 : fnOk E 17 = true := by kernel_rfl
theorem ent17 : enterOk E 17 = true := by kernel_rfl
theorem fok18 : fnOk E 18 = true := by kernel_rfl
theorem ent18 : enterOk E 18 = true := by kernel_rfl
theorem fok19 : fnOk E 19 = true := by kernel_rfl
theorem ent19 : enterOk E 19 = true := by kernel_rfl
theorem fok20 : fnOk E 20 = true := by kernel_rfl
theorem ent20 : enterOk E 20 = true := by kernel_rfl
theorem fok21 : fnOk E 21 = true := by kernel_rfl
theorem ent21 : enterOk E 21 = true := by kernel_rfl
theorem fok22 : fnOk E 22 = true := by kernel_rfl
theorem ent22 : enterOk E 22 = true := by kernel_rfl
theorem ent23 : enterOk E 23 = true := by kernel_rfl
theorem fok24 : fnOk E 24 = true := by kernel_rfl
theorem ent24 : enterOk E 24 = true := by kernel_rfl
theorem ent25 : enterOk E 25 = true := by kernel_rfl
theorem fok26 : fnOk E 26 = true := by kernel_rfl
theorem ent26 : enterOk E 26 = true := by kernel_rfl
theorem ent27 : enterOk E 27 = true := by kernel_rfl
theorem ent28 : enterOk E 28 = true := by kernel_rfl
theorem ent29 : enterOk E 29 = true := by kernel_rfl
theorem res4 : Tryd.f4.results = #[.tmp 4] := rfl
theorem res8 : Tryd.f8.results = #[.tmp 2] := rfl
theorem res10 : Tryd.f10.results = #[.tmp 2] := rfl
theorem res12 : Tryd.f12.results = #[.tmp 4] := rfl
theorem res17 : Tryd.f17.results = #[.cell 2 49] := rfl
theorem res18 : Tryd.f18.results = #[] := rfl
theorem res19 : Tryd.f19.results = #[] := rfl
theorem res20 : Tryd.f20.results = #[.tmp 2] := rfl
theorem res21 : Tryd.f21.results = #[.tmp 2] := rfl
theorem res22 : Tryd.f22.results = #[.tmp 4] := rfl
theorem res24 : Tryd.f24.results = #[.cell 0 45] := rfl
theorem res26 : Tryd.f26.results = #[.tmp 4] := rfl
theorem kp4_0 : E.keep 4 0 = [1, 2] := by kernel_rfl
theorem kp4_1 : E.keep 4 1 = [1, 2, 12] := by kernel_rfl
theorem kp4_2 : E.keep 4 2 = [4] := by kernel_rfl
theorem kp4_3 : E.keep 4 3 = [2, 5] := by kernel_rfl
theorem kp4_4 : E.keep 4 4 = [2, 5, 6] := by kernel_rfl
theorem kp4_5 : E.keep 4 5 = [2, 5, 6] := by kernel_rfl
theorem kp4_6 : E.keep 4 6 = [2, 5, 6, 7] := by kernel_rfl
theorem kp4_7 : E.keep 4 7 = [5, 6, 7, 26, 27, 28] := by kernel_rfl
theorem kp4_8 : E.keep 4 8 = [5, 6, 7, 26, 27, 28, 29] := by kernel_rfl
theorem kp4_9 : E.keep 4 9 = [5, 6, 7, 9, 26, 27, 28] := by kernel_rfl
theorem kp4_10 : E.keep 4 10 = [5, 6, 7, 9, 26, 27, 28] := by kernel_rfl
theorem kp4_11 : E.keep 4 11 = [5, 6, 7, 26, 27, 28] := by kernel_rfl
theorem kp4_12 : E.keep 4 12 = [5, 6, 7, 26, 27, 28] := by kernel_rfl
theorem kp4_13 : E.keep 4 13 = [4] := by kernel_rfl
theorem kp8_0 : E.keep 8 0 = [1] := by kernel_rfl
theorem kp8_1 : E.keep 8 1 = [1, 8] := by kernel_rfl
theorem kp8_2 : E.keep 8 2 = [2] := by kernel_rfl
theorem kp8_3 : E.keep 8 3 = [10, 11, 12] := by kernel_rfl
theorem kp8_4 : E.keep 8 4 = [10, 11, 12, 13] := by kernel_rfl
theorem kp8_5 : E.keep 8 5 = [4, 10, 11, 12] := by kernel_rfl
theorem kp8_6 : E.keep 8 6 = [10, 11, 12, 18] := by kernel_rfl
theorem kp8_7 : E.keep 8 7 = [2] := by kernel_rfl
theorem kp8_8 : E.keep 8 8 = [10, 11, 12] := by kernel_rfl
theorem kp8_9 : E.keep 8 9 = [2] := by kernel_rfl
theorem kp10_0 : E.keep 10 0 = [1] := by kernel_rfl
theorem kp10_1 : E.keep 10 1 = [1, 3] := by kernel_rfl
theorem kp10_2 : E.keep 10 2 = [3, 8, 9, 10] := by kernel_rfl
theorem kp10_3 : E.keep 10 3 = [3, 8, 9, 10, 11] := by kernel_rfl
theorem kp10_4 : E.keep 10 4 = [3, 5, 8, 9, 10] := by kernel_rfl
theorem kp10_5 : E.keep 10 5 = [3, 8, 9, 10] := by kernel_rfl
theorem kp10_6 : E.keep 10 6 = [3, 8, 9, 10] := by kernel_rfl
theorem kp10_7 : E.keep 10 7 = [3, 6] := by kernel_rfl
theorem kp10_8 : E.keep 10 8 = [6] := by kernel_rfl
theorem kp10_9 : E.keep 10 9 = [2] := by kernel_rfl
theorem kp12_0 : E.keep 12 0 = [0, 1] := by kernel_rfl
theorem kp12_1 : E.keep 12 1 = [0, 1, 10] := by kernel_rfl
theorem kp12_2 : E.keep 12 2 = [4] := by kernel_rfl
theorem kp12_3 : E.keep 12 3 = [0, 1, 5] := by kernel_rfl
theorem kp12_4 : E.keep 12 4 = [0, 1, 5, 14] := by kernel_rfl
theorem kp12_5 : E.keep 12 5 = [0, 1, 5] := by kernel_rfl
theorem kp12_6 : E.keep 12 6 = [0, 1, 5, 25] := by kernel_rfl
theorem kp12_7 : E.keep 12 7 = [4] := by kernel_rfl
theorem kp12_8 : E.keep 12 8 = [4] := by kernel_rfl
theorem kp17_0 : E.keep 17 0 = [0, 2] := by kernel_rfl
theorem kp17_1 : E.keep 17 1 = [0, 2] := by kernel_rfl
theorem kp17_2 : E.keep 17 2 = [0, 2, 3] := by kernel_rfl
theorem kp17_3 : E.keep 17 3 = [0, 2, 3, 26] := by kernel_rfl
theorem kp17_4 : E.keep 17 4 = [0, 2, 3] := by kernel_rfl
theorem kp17_5 : E.keep 17 5 = [2, 3, 4] := by kernel_rfl
theorem kp17_6 : E.keep 17 6 = [2, 3, 4] := by kernel_rfl
theorem kp17_7 : E.keep 17 7 = [2, 3, 4, 5] := by kernel_rfl
theorem kp17_8 : E.keep 17 8 = [2, 3, 4, 5, 43, 44, 45] := by kernel_rfl
theorem kp17_9 : E.keep 17 9 = [2, 3, 4, 5, 43, 44, 45, 46] := by kernel_rfl
theorem kp17_10 : E.keep 17 10 = [2, 3, 4, 5, 7, 43, 44, 45] := by kernel_rfl
theorem kp17_11 : E.keep 17 11 = [2, 3, 4, 5, 43, 44, 45, 51] := by kernel_rfl
theorem kp17_12 : E.keep 17 12 = [2, 3, 4, 5, 43, 44, 45] := by kernel_rfl
theorem kp17_13 : E.keep 17 13 = [2, 3, 4, 5, 43, 44, 45] := by kernel_rfl
theorem kp17_14 : E.keep 17 14 = [2, 3] := by kernel_rfl
theorem kp17_15 : E.keep 17 15 = [2] := by kernel_rfl
theorem kp18_0 : E.keep 18 0 = [0, 1, 4] := by kernel_rfl
theorem kp18_1 : E.keep 18 1 = [0, 1, 4, 9] := by kernel_rfl
theorem kp18_2 : E.keep 18 2 = [0, 1, 4, 5] := by kernel_rfl
theorem kp18_3 : E.keep 18 3 = [0, 1, 4, 5, 44] := by kernel_rfl
theorem kp18_4 : E.keep 18 4 = [0, 1, 4, 5] := by kernel_rfl
theorem kp18_5 : E.keep 18 5 = [0, 1, 4, 5, 52] := by kernel_rfl
theorem kp18_6 : E.keep 18 6 = [0, 1, 5] := by kernel_rfl
theorem kp18_7 : E.keep 18 7 = [0, 1, 4] := by kernel_rfl
theorem kp19_0 : E.keep 19 0 = [0, 1, 2, 3, 6] := by kernel_rfl
theorem kp19_1 : E.keep 19 1 = [0, 1, 2, 3, 6, 7] := by kernel_rfl
theorem kp19_2 : E.keep 19 2 = [0, 1, 3, 6, 7, 21, 22, 23] := by kernel_rfl
theorem kp19_3 : E.keep 19 3 = [0, 1, 3, 6, 7, 21, 22, 23, 24] := by kernel_rfl
theorem kp19_4 : E.keep 19 4 = [0, 1, 3, 6, 7, 9, 21, 22, 23] := by kernel_rfl
theorem kp19_5 : E.keep 19 5 = [0, 1, 3, 6, 7, 9, 21, 22, 23] := by kernel_rfl
theorem kp19_6 : E.keep 19 6 = [0, 1, 3, 6, 7, 9, 21, 22, 23, 34] := by kernel_rfl
theorem kp19_7 : E.keep 19 7 = [0, 1, 3, 6, 7, 21, 22, 23] := by kernel_rfl
theorem kp19_8 : E.keep 19 8 = [0, 1, 3, 6, 7, 21, 22, 23] := by kernel_rfl
theorem kp19_9 : E.keep 19 9 = [0, 1, 3, 6, 7, 21, 22, 23] := by kernel_rfl
theorem kp19_10 : E.keep 19 10 = [3, 6, 48] := by kernel_rfl
theorem kp19_11 : E.keep 19 11 = [] := by kernel_rfl
theorem kp20_0 : E.keep 20 0 = [0] := by kernel_rfl
theorem kp20_1 : E.keep 20 1 = [0, 3] := by kernel_rfl
theorem kp20_2 : E.keep 20 2 = [0, 3, 16] := by kernel_rfl
theorem kp20_3 : E.keep 20 3 = [0, 3] := by kernel_rfl
theorem kp20_4 : E.keep 20 4 = [2] := by kernel_rfl
theorem kp21_0 : E.keep 21 0 = [0] := by kernel_rfl
theorem kp21_1 : E.keep 21 1 = [0, 3] := by kernel_rfl
theorem kp21_2 : E.keep 21 2 = [3, 8, 9, 10] := by kernel_rfl
theorem kp21_3 : E.keep 21 3 = [3, 8, 9, 10, 11] := by kernel_rfl
theorem kp21_4 : E.keep 21 4 = [3, 5, 8, 9, 10] := by kernel_rfl
theorem kp21_5 : E.keep 21 5 = [3, 8, 9, 10, 15] := by kernel_rfl
theorem kp21_6 : E.keep 21 6 = [3, 8, 9, 10] := by kernel_rfl
theorem kp21_7 : E.keep 21 7 = [3, 8, 9, 10] := by kernel_rfl
theorem kp21_8 : E.keep 21 8 = [2] := by kernel_rfl
theorem kp22_0 : E.keep 22 0 = [0, 1] := by kernel_rfl
theorem kp22_1 : E.keep 22 1 = [0, 1, 12] := by kernel_rfl
theorem kp22_2 : E.keep 22 2 = [4] := by kernel_rfl
theorem kp22_3 : E.keep 22 3 = [0, 1, 21] := by kernel_rfl
theorem kp22_4 : E.keep 22 4 = [4] := by kernel_rfl
theorem kp22_5 : E.keep 22 5 = [0, 1, 5, 6] := by kernel_rfl
theorem kp22_6 : E.keep 22 6 = [0, 1, 5, 31] := by kernel_rfl
theorem kp22_7 : E.keep 22 7 = [4] := by kernel_rfl
theorem kp22_8 : E.keep 22 8 = [4] := by kernel_rfl
theorem kp24_0 : E.keep 24 0 = [0] := by kernel_rfl
theorem kp24_1 : E.keep 24 1 = [0] := by kernel_rfl
theorem kp26_0 : E.keep 26 0 = [0, 1] := by kernel_rfl
theorem kp26_1 : E.keep 26 1 = [0, 1, 16] := by kernel_rfl
theorem kp26_2 : E.keep 26 2 = [0, 1] := by kernel_rfl
theorem kp26_3 : E.keep 26 3 = [4] := by kernel_rfl
theorem hd4_8 : E.head 4 8 = [5, 6, 7, 26, 27, 28] := by kernel_rfl
theorem hd8_4 : E.head 8 4 = [10, 11, 12] := by kernel_rfl
theorem hd10_3 : E.head 10 3 = [3, 8, 9, 10] := by kernel_rfl
theorem hd12_4 : E.head 12 4 = [0, 1, 5] := by kernel_rfl
theorem hd17_3 : E.head 17 3 = [0, 2, 3] := by kernel_rfl
theorem hd17_9 : E.head 17 9 = [2, 3, 4, 5, 43, 44, 45] := by kernel_rfl
theorem hd18_1 : E.head 18 1 = [0, 1, 4] := by kernel_rfl
theorem hd18_3 : E.head 18 3 = [0, 1, 4, 5] := by kernel_rfl
theorem hd19_3 : E.head 19 3 = [0, 1, 3, 6, 7, 21, 22, 23] := by kernel_rfl
theorem hd20_2 : E.head 20 2 = [0, 3] := by kernel_rfl
theorem hd21_3 : E.head 21 3 = [3, 8, 9, 10] := by kernel_rfl
theorem hd26_1 : E.head 26 1 = [0, 1] := by kernel_rfl
theorem fl4_5 : E.flo 4 5 = [(1, 3)] := by kernel_rfl
theorem ho4_5 : E.hol 4 5 = false := by kernel_rfl
theorem dr4_5 (B : Nat) (fr : Fr) (H : Hp) (ops : Array Oper) : execT E B 4 (.region 5 ops true) fr H = regTK E 4 5 (evT E (callT E) ops.toList ops.toList fr H) := execT_draw ho4_5 ops
theorem fl10_5 : E.flo 10 5 = [(0, 2), (0, 3)] := by kernel_rfl
theorem ho10_5 : E.hol 10 5 = false := by kernel_rfl
theorem dr10_5 (B : Nat) (fr : Fr) (H : Hp) (ops : Array Oper) : execT E B 10 (.region 5 ops true) fr H = regTK E 10 5 (evT E (callT E) ops.toList ops.toList fr H) := execT_draw ho10_5 ops
theorem fl12_6 : E.flo 12 6 = [] := by kernel_rfl
theorem ho12_6 : E.hol 12 6 = false := by kernel_rfl
theorem dr12_6 (B : Nat) (fr : Fr) (H : Hp) (ops : Array Oper) : execT E B 12 (.region 6 ops true) fr H = regK E 12 6 (evOps E (callT E) ops.toList ops.toList fr H) := execT_draw0 ho12_6 fl12_6 ops
theorem fl18_3 : E.flo 18 3 = [] := by kernel_rfl
theorem ho18_3 : E.hol 18 3 = false := by kernel_rfl
theorem dr18_3 (B : Nat) (fr : Fr) (H : Hp) (ops : Array Oper) : execT E B 18 (.region 3 ops true) fr H = regK E 18 3 (evOps E (callT E) ops.toList ops.toList fr H) := execT_draw0 ho18_3 fl18_3 ops
theorem fl20_2 : E.flo 20 2 = [(6, 8), (7, 8)] := by kernel_rfl
theorem ho20_2 : E.hol 20 2 = false := by kernel_rfl
theorem dr20_2 (B : Nat) (fr : Fr) (H : Hp) (ops : Array Oper) : execT E B 20 (.region 2 ops true) fr H = regTK E 20 2 (evT E (callT E) ops.toList ops.toList fr H) := execT_draw ho20_2 ops
theorem mt4_8 : E.mat 4 8 = [(7, 8)] := by kernel_rfl
theorem mb4_8 : E.matb 4 8 = [] := by kernel_rfl
theorem zf4_8 : E.frz 4 8 = [] := by kernel_rfl
theorem mt8_4 : E.mat 8 4 = [] := by kernel_rfl
theorem mb8_4 : E.matb 8 4 = [] := by kernel_rfl
theorem zf8_4 : E.frz 8 4 = [] := by kernel_rfl
theorem mt10_3 : E.mat 10 3 = [] := by kernel_rfl
theorem mb10_3 : E.matb 10 3 = [(3, 0, 5)] := by kernel_rfl
theorem zf10_3 : E.frz 10 3 = [] := by kernel_rfl
theorem mt12_4 : E.mat 12 4 = [] := by kernel_rfl
theorem mb12_4 : E.matb 12 4 = [] := by kernel_rfl
theorem zf12_4 : E.frz 12 4 = [] := by kernel_rfl
theorem mt17_3 : E.mat 17 3 = [] := by kernel_rfl
theorem mb17_3 : E.matb 17 3 = [] := by kernel_rfl
theorem zf17_3 : E.frz 17 3 = [] := by kernel_rfl
theorem mt17_9 : E.mat 17 9 = [] := by kernel_rfl
theorem mb17_9 : E.matb 17 9 = [] := by kernel_rfl
theorem zf17_9 : E.frz 17 9 = [] := by kernel_rfl
theorem mt18_1 : E.mat 18 1 = [] := by kernel_rfl
theorem mb18_1 : E.matb 18 1 = [] := by kernel_rfl
theorem zf18_1 : E.frz 18 1 = [] := by kernel_rfl
theorem mt18_3 : E.mat 18 3 = [] := by kernel_rfl
theorem mb18_3 : E.matb 18 3 = [] := by kernel_rfl
theorem zf18_3 : E.frz 18 3 = [] := by kernel_rfl
theorem mt19_3 : E.mat 19 3 = [] := by kernel_rfl
theorem mb19_3 : E.matb 19 3 = [] := by kernel_rfl
theorem zf19_3 : E.frz 19 3 = [] := by kernel_rfl
theorem mt20_2 : E.mat 20 2 = [] := by kernel_rfl
theorem mb20_2 : E.matb 20 2 = [] := by kernel_rfl
theorem zf20_2 : E.frz 20 2 = [] := by kernel_rfl
theorem mt21_3 : E.mat 21 3 = [] := by kernel_rfl
theorem mb21_3 : E.matb 21 3 = [] := by kernel_rfl
theorem zf21_3 : E.frz 21 3 = [] := by kernel_rfl
theorem mt26_1 : E.mat 26 1 = [] := by kernel_rfl
theorem mb26_1 : E.matb 26 1 = [] := by kernel_rfl
theorem zf26_1 : E.frz 26 1 = [] := by kernel_rfl
theorem rk4 : E.resk 4 = [] := by kernel_rfl
theorem ow4 : E.own 4 = false := by kernel_rfl
theorem ak8 : E.argk 8 = [[none, none, some 1, none, none, none]] := by kernel_rfl
theorem rk8 : E.resk 8 = [] := by kernel_rfl
theorem ow8 : E.own 8 = false := by kernel_rfl
theorem pe8 (args : List AV) (H : Hp) : prepE E 8 H args = peP E 8 (prep H args) := prepE_v rfl args
theorem cr8 (args : List AV) (H : Hp) : calleeR E 8 args H = crK args (peP E 8 (prep H args)) := (cr_prep args).trans (by rw [pe8])
theorem ci8 (args : List AV) (H : Hp) : callIso E (callT E) 8 args H = prepK E (callT E) 8 (peP E 8 (prep H args)) := (iso_prep args).trans (by rw [pe8])
theorem ak9 : E.argk 9 = [] := by kernel_rfl
theorem pe9 (args : List AV) (H : Hp) : prepE E 9 H args = peP E 9 (prep H args) := prepE_v rfl args
theorem cr9 (args : List AV) (H : Hp) : calleeR E 9 args H = crK args (peP E 9 (prep H args)) := (cr_prep args).trans (by rw [pe9])
theorem ci9 (args : List AV) (H : Hp) : callIso E (callT E) 9 args H = prepK E (callT E) 9 (peP E 9 (prep H args)) := (iso_prep args).trans (by rw [pe9])
theorem ak10 : E.argk 10 = [[none, none, some 1, none, none, none]] := by kernel_rfl
theorem rk10 : E.resk 10 = [[some 8]] := by kernel_rfl
theorem ow10 : E.own 10 = false := by kernel_rfl
theorem pe10 (args : List AV) (H : Hp) : prepE E 10 H args = peP E 10 (prep H args) := prepE_v rfl args
theorem cr10 (args : List AV) (H : Hp) : calleeR E 10 args H = crK args (peP E 10 (prep H args)) := (cr_prep args).trans (by rw [pe10])
theorem ci10 (args : List AV) (H : Hp) : callIso E (callT E) 10 args H = prepK E (callT E) 10 (peP E 10 (prep H args)) := (iso_prep args).trans (by rw [pe10])
theorem ak12 : E.argk 12 = [[some 8], [some 8]] := by kernel_rfl
theorem rk12 : E.resk 12 = [] := by kernel_rfl
theorem ow12 : E.own 12 = false := by kernel_rfl
theorem pe12 (args : List AV) (H : Hp) : prepE E 12 H args = peP E 12 (prep H args) := prepE_v rfl args
theorem cr12 (args : List AV) (H : Hp) : calleeR E 12 args H = crK args (peP E 12 (prep H args)) := (cr_prep args).trans (by rw [pe12])
theorem ci12 (args : List AV) (H : Hp) : callIso E (callT E) 12 args H = prepK E (callT E) 12 (peP E 12 (prep H args)) := (iso_prep args).trans (by rw [pe12])
theorem ak17 : E.argk 17 = [[some 3]] := by kernel_rfl
theorem rk17 : E.resk 17 = [] := by kernel_rfl
theorem ow17 : E.own 17 = false := by kernel_rfl
theorem pe17 (args : List AV) (H : Hp) : prepE E 17 H args = peP E 17 (prep H args) := prepE_v rfl args
theorem cr17 (args : List AV) (H : Hp) : calleeR E 17 args H = crK args (peP E 17 (prep H args)) := (cr_prep args).trans (by rw [pe17])
theorem ci17 (args : List AV) (H : Hp) : callIso E (callT E) 17 args H = prepK E (callT E) 17 (peP E 17 (prep H args)) := (iso_prep args).trans (by rw [pe17])
theorem ak18 : E.argk 18 = [[some 5]] := by kernel_rfl
theorem rk18 : E.resk 18 = [] := by kernel_rfl
theorem ow18 : E.own 18 = false := by kernel_rfl
theorem pe18 (args : List AV) (H : Hp) : prepE E 18 H args = peP E 18 (prep H args) := prepE_v rfl args
theorem cr18 (args : List AV) (H : Hp) : calleeR E 18 args H = crK args (peP E 18 (prep H args)) := (cr_prep args).trans (by rw [pe18])
theorem ci18 (args : List AV) (H : Hp) : callIso E (callT E) 18 args H = prepK E (callT E) 18 (peP E 18 (prep H args)) := (iso_prep args).trans (by rw [pe18])
theorem ak19 : E.argk 19 = [] := by kernel_rfl
theorem rk19 : E.resk 19 = [] := by kernel_rfl
theorem ow19 : E.own 19 = false := by kernel_rfl
theorem pe19 (args : List AV) (H : Hp) : prepE E 19 H args = peP E 19 (prep H args) := prepE_v rfl args
theorem cr19 (args : List AV) (H : Hp) : calleeR E 19 args H = crK args (peP E 19 (prep H args)) := (cr_prep args).trans (by rw [pe19])
theorem ci19 (args : List AV) (H : Hp) : callIso E (callT E) 19 args H = prepK E (callT E) 19 (peP E 19 (prep H args)) := (iso_prep args).trans (by rw [pe19])
theorem ak20 : E.argk 20 = [[some 3]] := by kernel_rfl
theorem rk20 : E.resk 20 = [[some 3]] := by kernel_rfl
theorem ow20 : E.own 20 = false := by kernel_rfl
theorem pe20 (args : List AV) (H : Hp) : prepE E 20 H args = peP E 20 (prep H args) := prepE_v rfl args
theorem cr20 (args : List AV) (H : Hp) : calleeR E 20 args H = crK args (peP E 20 (prep H args)) := (cr_prep args).trans (by rw [pe20])
theorem ci20 (args : List AV) (H : Hp) : callIso E (callT E) 20 args H = prepK E (callT E) 20 (peP E 20 (prep H args)) := (iso_prep args).trans (by rw [pe20])
theorem ak21 : E.argk 21 = [[some 3]] := by kernel_rfl
theorem rk21 : E.resk 21 = [] := by kernel_rfl
theorem ow21 : E.own 21 = false := by kernel_rfl
theorem pe21 (args : List AV) (H : Hp) : prepE E 21 H args = peP E 21 (prep H args) := prepE_v rfl args
theorem cr21 (args : List AV) (H : Hp) : calleeR E 21 args H = crK args (peP E 21 (prep H args)) := (cr_prep args).trans (by rw [pe21])
theorem ci21 (args : List AV) (H : Hp) : callIso E (callT E) 21 args H = prepK E (callT E) 21 (peP E 21 (prep H args)) := (iso_prep args).trans (by rw [pe21])
theorem ak22 : E.argk 22 = [] := by kernel_rfl
theorem rk22 : E.resk 22 = [] := by kernel_rfl
theorem ow22 : E.own 22 = false := by kernel_rfl
theorem pe22 (args : List AV) (H : Hp) : prepE E 22 H args = peP E 22 (prep H args) := prepE_v rfl args
theorem cr22 (args : List AV) (H : Hp) : calleeR E 22 args H = crK args (peP E 22 (prep H args)) := (cr_prep args).trans (by rw [pe22])
theorem ci22 (args : List AV) (H : Hp) : callIso E (callT E) 22 args H = prepK E (callT E) 22 (peP E 22 (prep H args)) := (iso_prep args).trans (by rw [pe22])
theorem ak23 : E.argk 23 = [[some 3]] := by kernel_rfl
theorem pe23 (args : List AV) (H : Hp) : prepE E 23 H args = peP E 23 (prep H args) := prepE_v rfl args
theorem cr23 (args : List AV) (H : Hp) : calleeR E 23 args H = crK args (peP E 23 (prep H args)) := (cr_prep args).trans (by rw [pe23])
theorem ci23 (args : List AV) (H : Hp) : callIso E (callT E) 23 args H = prepK E (callT E) 23 (peP E 23 (prep H args)) := (iso_prep args).trans (by rw [pe23])
theorem ak24 : E.argk 24 = [] := by kernel_rfl
theorem rk24 : E.resk 24 = [] := by kernel_rfl
theorem ow24 : E.own 24 = false := by kernel_rfl
theorem pe24 (args : List AV) (H : Hp) : prepE E 24 H args = peP E 24 (prep H args) := prepE_v rfl args
theorem cr24 (args : List AV) (H : Hp) : calleeR E 24 args H = crK args (peP E 24 (prep H args)) := (cr_prep args).trans (by rw [pe24])
theorem ci24 (args : List AV) (H : Hp) : callIso E (callT E) 24 args H = prepK E (callT E) 24 (peP E 24 (prep H args)) := (iso_prep args).trans (by rw [pe24])
theorem ak25 : E.argk 25 = [[some 3]] := by kernel_rfl
theorem pe25 (args : List AV) (H : Hp) : prepE E 25 H args = peP E 25 (prep H args) := prepE_v rfl args
theorem cr25 (args : List AV) (H : Hp) : calleeR E 25 args H = crK args (peP E 25 (prep H args)) := (cr_prep args).trans (by rw [pe25])
theorem ci25 (args : List AV) (H : Hp) : callIso E (callT E) 25 args H = prepK E (callT E) 25 (peP E 25 (prep H args)) := (iso_prep args).trans (by rw [pe25])
theorem ak26 : E.argk 26 = [] := by kernel_rfl
theorem rk26 : E.resk 26 = [] := by kernel_rfl
theorem ow26 : E.own 26 = false := by kernel_rfl
theorem pe26 (args : List AV) (H : Hp) : prepE E 26 H args = peP E 26 (prep H args) := prepE_v rfl args
theorem cr26 (args : List AV) (H : Hp) : calleeR E 26 args H = crK args (peP E 26 (prep H args)) := (cr_prep args).trans (by rw [pe26])
theorem ci26 (args : List AV) (H : Hp) : callIso E (callT E) 26 args H = prepK E (callT E) 26 (peP E 26 (prep H args)) := (iso_prep args).trans (by rw [pe26])
theorem ak27 : E.argk 27 = [] := by kernel_rfl
theorem pe27 (args : List AV) (H : Hp) : prepE E 27 H args = peP E 27 (prep H args) := prepE_v rfl args
theorem cr27 (args : List AV) (H : Hp) : calleeR E 27 args H = crK args (peP E 27 (prep H args)) := (cr_prep args).trans (by rw [pe27])
theorem ci27 (args : List AV) (H : Hp) : callIso E (callT E) 27 args H = prepK E (callT E) 27 (peP E 27 (prep H args)) := (iso_prep args).trans (by rw [pe27])
theorem ak28 : E.argk 28 = [] := by kernel_rfl
theorem pe28 (args : List AV) (H : Hp) : prepE E 28 H args = peP E 28 (prep H args) := prepE_v rfl args
theorem cr28 (args : List AV) (H : Hp) : calleeR E 28 args H = crK args (peP E 28 (prep H args)) := (cr_prep args).trans (by rw [pe28])
theorem ci28 (args : List AV) (H : Hp) : callIso E (callT E) 28 args H = prepK E (callT E) 28 (peP E 28 (prep H args)) := (iso_prep args).trans (by rw [pe28])
theorem ak29 : E.argk 29 = [] := by kernel_rfl
theorem pe29 (args : List AV) (H : Hp) : prepE E 29 H args = peP E 29 (prep H args) := prepE_v rfl args
theorem cr29 (args : List AV) (H : Hp) : calleeR E 29 args H = crK args (peP E 29 (prep H args)) := (cr_prep args).trans (by rw [pe29])
theorem ci29 (args : List AV) (H : Hp) : callIso E (callT E) 29 args H = prepK E (callT E) 29 (peP E 29 (prep H args)) := (iso_prep args).trans (by rw [pe29])
theorem bd24 (parts : List (Nat × AV)) : buildE E 24 parts = aggK (fillS [(0, 1), (1, 1), (2, 1), (3, 1), (4, 1), (5, 1)] [.i (.v (.int .i64 0)), .i (.v (.int .i64 0)), .i (.sl 0 [] true), .i (.v (.int .i64 0)), .i (.v (.int .i64 0)), .i (.v (.bool false))] parts) := bd_struct (by kernel_rfl) (by kernel_rfl) (by kernel_rfl) parts
theorem bd30 (parts : List (Nat × AV)) : buildE E 30 parts = aggK (fillS [(0, 1), (1, 1), (2, 1), (3, 1), (4, 1), (5, 1), (6, 1), (7, 1)] [.i (.v (.int .i64 0)), .i (.v (.int .i64 0)), .i (.v (.int .i64 0)), .i (.v (.int .i64 0)), .i (.v (.int .i64 0)), .i (.v (.int .i64 0)), .i (.v (.int .i64 0)), .i (.str [])] parts) := bd_struct (by kernel_rfl) (by kernel_rfl) (by kernel_rfl) parts
theorem bd45 (parts : List (Nat × AV)) : buildE E 45 parts = aggK (fillS [(0, 1), (1, 1), (2, 1)] [.i (.str []), .i (.v (.bool false)), .i (.v (.int .i64 0))] parts) := bd_struct (by kernel_rfl) (by kernel_rfl) (by kernel_rfl) parts
theorem bd49 (parts : List (Nat × AV)) : buildE E 49 parts = aggK (fillS [(0, 1), (1, 1), (2, 1), (3, 1), (4, 1)] [.i (.v (.int .i64 0)), .i (.v (.int .i64 0)), .i (.str []), .i (.v (.bool false)), .i (.v (.bool false))] parts) := bd_struct (by kernel_rfl) (by kernel_rfl) (by kernel_rfl) parts
theorem bd60 (parts : List (Nat × AV)) : buildE E 60 parts = aggK (fillA 1 [.i (.v (.bool false)), .i (.v (.bool false)), .i (.v (.bool false)), .i (.v (.bool false)), .i (.v (.bool false)), .i (.v (.bool false)), .i (.v (.bool false)), .i (.v (.bool false)), .i (.v (.bool false)), .i (.v (.bool false)), .i (.v (.bool false)), .i (.v (.bool false)), .i (.v (.bool false)), .i (.v (.bool false)), .i (.v (.bool false)), .i (.v (.bool false)), .i (.v (.bool false)), .i (.v (.bool false)), .i (.v (.bool false)), .i (.v (.bool false)), .i (.v (.bool false)), .i (.v (.bool false)), .i (.v (.bool false)), .i (.v (.bool false)), .i (.v (.bool false)), .i (.v (.bool false)), .i (.v (.bool false)), .i (.v (.bool false)), .i (.v (.bool false)), .i (.v (.bool false)), .i (.v (.bool false)), .i (.v (.bool false)), .i (.v (.bool false)), .i (.v (.bool false)), .i (.v (.bool false)), .i (.v (.bool false)), .i (.v (.bool false)), .i (.v (.bool false)), .i (.v (.bool false)), .i (.v (.bool false)), .i (.v (.bool false)), .i (.v (.bool false)), .i (.v (.bool false)), .i (.v (.bool false)), .i (.v (.bool false)), .i (.v (.bool false)), .i (.v (.bool false)), .i (.v (.bool false)), .i (.v (.bool false)), .i (.v (.bool false)), .i (.v (.bool false)), .i (.v (.bool false)), .i (.v (.bool false)), .i (.v (.bool false)), .i (.v (.bool false)), .i (.v (.bool false)), .i (.v (.bool false)), .i (.v (.bool false)), .i (.v (.bool false)), .i (.v (.bool false)), .i (.v (.bool false)), .i (.v (.bool false)), .i (.v (.bool false)), .i (.v (.bool false)), .i (.v (.bool false)), .i (.v (.bool false)), .i (.v (.bool false)), .i (.v (.bool false)), .i (.v (.bool false)), .i (.v (.bool false)), .i (.v (.bool false)), .i (.v (.bool false)), .i (.v (.bool false)), .i (.v (.bool false)), .i (.v (.bool false)), .i (.v (.bool false)), .i (.v (.bool false)), .i (.v (.bool false)), .i (.v (.bool false)), .i (.v (.bool false)), .i (.v (.bool false)), .i (.v (.bool false)), .i (.v (.bool false)), .i (.v (.bool false)), .i (.v (.bool false)), .i (.v (.bool false)), .i (.v (.bool false)), .i (.v (.bool false)), .i (.v (.bool false)), .i (.v (.bool false)), .i (.v (.bool false)), .i (.v (.bool false)), .i (.v (.bool false)), .i (.v (.bool false)), .i (.v (.bool false)), .i (.v (.bool false)), .i (.v (.bool false)), .i (.v (.bool false)), .i (.v (.bool false)), .i (.v (.bool false)), .i (.v (.bool false)), .i (.v (.bool false)), .i (.v (.bool false)), .i (.v (.bool false)), .i (.v (.bool false)), .i (.v (.bool false)), .i (.v (.bool false)), .i (.v (.bool false)), .i (.v (.bool false)), .i (.v (.bool false)), .i (.v (.bool false)), .i (.v (.bool false)), .i (.v (.bool false)), .i (.v (.bool false)), .i (.v (.bool false)), .i (.v (.bool false)), .i (.v (.bool false)), .i (.v (.bool false)), .i (.v (.bool false)), .i (.v (.bool false)), .i (.v (.bool false)), .i (.v (.bool false)), .i (.v (.bool false)), .i (.v (.bool false)), .i (.v (.bool false)), .i (.v (.bool false)), .i (.v (.bool false)), .i (.v (.bool false)), .i (.v (.bool false)), .i (.v (.bool false)), .i (.v (.bool false)), .i (.v (.bool false)), .i (.v (.bool false)), .i (.v (.bool false)), .i (.v (.bool false)), .i (.v (.bool false)), .i (.v (.bool false)), .i (.v (.bool false)), .i (.v (.bool false)), .i (.v (.bool false)), .i (.v (.bool false)), .i (.v (.bool false)), .i (.v (.bool false)), .i (.v (.bool false)), .i (.v (.bool false)), .i (.v (.bool false)), .i (.v (.bool false)), .i (.v (.bool false)), .i (.v (.bool false)), .i (.v (.bool false)), .i (.v (.bool false)), .i (.v (.bool false)), .i (.v (.bool false)), .i (.v (.bool false)), .i (.v (.bool false)), .i (.v (.bool false)), .i (.v (.bool false)), .i (.v (.bool false)), .i (.v (.bool false)), .i (.v (.bool false)), .i (.v (.bool false)), .i (.v (.bool false)), .i (.v (.bool false)), .i (.v (.bool false)), .i (.v (.bool false)), .i (.v (.bool false)), .i (.v (.bool false)), .i (.v (.bool false)), .i (.v (.bool false)), .i (.v (.bool false)), .i (.v (.bool false)), .i (.v (.bool false)), .i (.v (.bool false)), .i (.v (.bool false)), .i (.v (.bool false)), .i (.v (.bool false)), .i (.v (.bool false)), .i (.v (.bool false)), .i (.v (.bool false)), .i (.v (.bool false)), .i (.v (.bool false)), .i (.v (.bool false)), .i (.v (.bool false)), .i (.v (.bool false)), .i (.v (.bool false)), .i (.v (.bool false)), .i (.v (.bool false)), .i (.v (.bool false)), .i (.v (.bool false)), .i (.v (.bool false)), .i (.v (.bool false)), .i (.v (.bool false)), .i (.v (.bool false)), .i (.v (.bool false)), .i (.v (.bool false)), .i (.v (.bool false)), .i (.v (.bool false)), .i (.v (.bool false)), .i (.v (.bool false)), .i (.v (.bool false)), .i (.v (.bool false)), .i (.v (.bool false)), .i (.v (.bool false)), .i (.v (.bool false)), .i (.v (.bool false)), .i (.v (.bool false)), .i (.v (.bool false)), .i (.v (.bool false)), .i (.v (.bool false)), .i (.v (.bool false)), .i (.v (.bool false)), .i (.v (.bool false)), .i (.v (.bool false)), .i (.v (.bool false)), .i (.v (.bool false)), .i (.v (.bool false)), .i (.v (.bool false)), .i (.v (.bool false)), .i (.v (.bool false)), .i (.v (.bool false)), .i (.v (.bool false)), .i (.v (.bool false)), .i (.v (.bool false)), .i (.v (.bool false)), .i (.v (.bool false)), .i (.v (.bool false)), .i (.v (.bool false)), .i (.v (.bool false)), .i (.v (.bool false)), .i (.v (.bool false)), .i (.v (.bool false)), .i (.v (.bool false)), .i (.v (.bool false)), .i (.v (.bool false)), .i (.v (.bool false)), .i (.v (.bool false)), .i (.v (.bool false)), .i (.v (.bool false)), .i (.v (.bool false)), .i (.v (.bool false)), .i (.v (.bool false)), .i (.v (.bool false)), .i (.v (.bool false)), .i (.v (.bool false)), .i (.v (.bool false)), .i (.v (.bool false)), .i (.v (.bool false)), .i (.v (.bool false)), .i (.v (.bool false)), .i (.v (.bool false)), .i (.v (.bool false)), .i (.v (.bool false)), .i (.v (.bool false)), .i (.v (.bool false)), .i (.v (.bool false)), .i (.v (.bool false))] parts) := bd_arr (n := 256) (e := 4) (by kernel_rfl) (by kernel_rfl) (by kernel_rfl) parts
theorem cv5_3 (cl : CallF) (fr : Fr) (H : Hp) (x : Operand) : evOp E cl (.convert 5 3 x) fr H = pK H (convE E 5 3 (opd E fr x)) := op_convert _ _ _ (by kernel_rfl) (by kernel_rfl)
theorem cv5_21 (cl : CallF) (fr : Fr) (H : Hp) (x : Operand) : evOp E cl (.convert 5 21 x) fr H = pK H (convE E 5 21 (opd E fr x)) := op_convert _ _ _ (by kernel_rfl) (by kernel_rfl)
theorem cv21_5 (cl : CallF) (fr : Fr) (H : Hp) (x : Operand) : evOp E cl (.convert 21 5 x) fr H = pK H (convE E 21 5 (opd E fr x)) := op_convert _ _ _ (by kernel_rfl) (by kernel_rfl)
theorem cv21_9 (cl : CallF) (fr : Fr) (H : Hp) (x : Operand) : evOp E cl (.convert 21 9 x) fr H = pK H (convE E 21 9 (opd E fr x)) := op_convert _ _ _ (by kernel_rfl) (by kernel_rfl)
theorem sx9 (H : Hp) (s : List UInt8) (lo hi : Option AV) : sliceE E H 9 (.i (.str s)) lo hi none = slSK s (bnd 0 lo) (bnd s.length hi) := sl_str (by kernel_rfl) s lo hi
theorem sx22 (H : Hp) (x : AV) (lo hi : Option AV) : sliceE E H 22 x lo hi none = slN 1 H lo hi x := sl_sl (e := 36) (z := 1) (by kernel_rfl) (by kernel_rfl) (by kernel_rfl) x lo hi
theorem sx36 (H : Hp) (x : AV) (lo hi : Option AV) : sliceE E H 36 x lo hi none = slN 3 H lo hi x := sl_sl (e := 45) (z := 3) (by kernel_rfl) (by kernel_rfl) (by kernel_rfl) x lo hi
theorem sx47 (H : Hp) (x : AV) (lo hi : Option AV) : sliceE E H 47 x lo hi none = slN 5 H lo hi x := sl_sl (e := 49) (z := 5) (by kernel_rfl) (by kernel_rfl) (by kernel_rfl) x lo hi
theorem sw22 (H : Hp) (sz : Nat) (rows : List (List IV)) (ex : Bool) (k k' : IntKind) (h m : Int) : sliceE E H 22 (.i (.sl sz rows ex)) none (some (.i (.v (.int k h)))) (some (.i (.v (.int k' m)))) = if 0 ≤ h ∧ h = m ∧ h ≤ rows.length ∧ (rows = [] ∨ 1 = sz) then some (.i (.sl sz (rows.take h.toNat) true)) else none := sl_sl3 (e := 36) (by kernel_rfl) (by kernel_rfl) sz rows ex k k' h m
theorem sw36 (H : Hp) (sz : Nat) (rows : List (List IV)) (ex : Bool) (k k' : IntKind) (h m : Int) : sliceE E H 36 (.i (.sl sz rows ex)) none (some (.i (.v (.int k h)))) (some (.i (.v (.int k' m)))) = if 0 ≤ h ∧ h = m ∧ h ≤ rows.length ∧ (rows = [] ∨ 3 = sz) then some (.i (.sl sz (rows.take h.toNat) true)) else none := sl_sl3 (e := 45) (by kernel_rfl) (by kernel_rfl) sz rows ex k k' h m
theorem sw47 (H : Hp) (sz : Nat) (rows : List (List IV)) (ex : Bool) (k k' : IntKind) (h m : Int) : sliceE E H 47 (.i (.sl sz rows ex)) none (some (.i (.v (.int k h)))) (some (.i (.v (.int k' m)))) = if 0 ≤ h ∧ h = m ∧ h ≤ rows.length ∧ (rows = [] ∨ 5 = sz) then some (.i (.sl sz (rows.take h.toNat) true)) else none := sl_sl3 (e := 49) (by kernel_rfl) (by kernel_rfl) sz rows ex k k' h m
theorem ap22_22 (H : Hp) (s x : AV) : appendE E H 22 22 s x = apS 1 H s (srcE H x) := ap_eq (by kernel_rfl) H s x
theorem ap27_27 (H : Hp) (s x : AV) : appendE E H 27 27 s x = apS 8 H s (srcE H x) := ap_eq (by kernel_rfl) H s x
theorem ap36_36 (H : Hp) (s x : AV) : appendE E H 36 36 s x = apS 3 H s (srcE H x) := ap_eq (by kernel_rfl) H s x
theorem ap47_47 (H : Hp) (s x : AV) : appendE E H 47 47 s x = apS 5 H s (srcE H x) := ap_eq (by kernel_rfl) H s x
theorem bs22 (H : Hp) (n : Nat) (hn : n * 1 ≤ 16777216) (parts : List (Nat × AV)) : buildSliceE E H 22 n parts = bsF [some 3] 1 n H (fillA 1 (List.replicate n [.i (.sl 0 [] true)]).flatten parts) := bs_eq (by kernel_rfl) H n hn parts
theorem br22 (n : Nat) (parts : List (Nat × AV)) : buildRefs E 22 n parts = brK (fillA 1 (List.replicate n [.i (.sl 0 [] true)]).flatten parts) := br_eq (ks := [some 3]) (by kernel_rfl) n parts
theorem ms22 (H : Hp) (k k' : IntKind) (n m : Int) : makeSliceE E H 22 (.i (.v (.int k n))) (.i (.v (.int k' m))) = if 0 ≤ n ∧ n = m ∧ n < 1073741824 then some (.ref H.length 0 0 n.toNat, H ++ [.sl 1 0 (List.replicate n.toNat [.sl 3 [] false]) true]) else none := ms_eq (by kernel_rfl) H k k' n m
theorem bs27 (H : Hp) (n : Nat) (hn : n * 8 ≤ 16777216) (parts : List (Nat × AV)) : buildSliceE E H 27 n parts = bsF [] 8 n H (fillA 8 (List.replicate n [.i (.v (.int .i64 0)), .i (.v (.int .i64 0)), .i (.v (.int .i64 0)), .i (.v (.int .i64 0)), .i (.v (.int .i64 0)), .i (.v (.int .i64 0)), .i (.v (.int .i64 0)), .i (.str [])]).flatten parts) := bs_eq (by kernel_rfl) H n hn parts
theorem br27 (n : Nat) (parts : List (Nat × AV)) : buildRefs E 27 n parts = brK (fillA 8 (List.replicate n [.i (.v (.int .i64 0)), .i (.v (.int .i64 0)), .i (.v (.int .i64 0)), .i (.v (.int .i64 0)), .i (.v (.int .i64 0)), .i (.v (.int .i64 0)), .i (.v (.int .i64 0)), .i (.str [])]).flatten parts) := br_eq (ks := []) (by kernel_rfl) n parts
theorem ms27 (H : Hp) (k k' : IntKind) (n m : Int) : makeSliceE E H 27 (.i (.v (.int k n))) (.i (.v (.int k' m))) = if 0 ≤ n ∧ n = m ∧ n < 1073741824 then some (.ref H.length 0 0 n.toNat, H ++ [.sl 8 0 (List.replicate n.toNat [.v (.int .i64 0), .v (.int .i64 0), .v (.int .i64 0), .v (.int .i64 0), .v (.int .i64 0), .v (.int .i64 0), .v (.int .i64 0), .str []]) true]) else none := ms_eq (by kernel_rfl) H k k' n m
theorem bs36 (H : Hp) (n : Nat) (hn : n * 3 ≤ 16777216) (parts : List (Nat × AV)) : buildSliceE E H 36 n parts = bsF [] 3 n H (fillA 3 (List.replicate n [.i (.str []), .i (.v (.bool false)), .i (.v (.int .i64 0))]).flatten parts) := bs_eq (by kernel_rfl) H n hn parts
theorem br36 (n : Nat) (parts : List (Nat × AV)) : buildRefs E 36 n parts = brK (fillA 3 (List.replicate n [.i (.str []), .i (.v (.bool false)), .i (.v (.int .i64 0))]).flatten parts) := br_eq (ks := []) (by kernel_rfl) n parts
theorem ms36 (H : Hp) (k k' : IntKind) (n m : Int) : makeSliceE E H 36 (.i (.v (.int k n))) (.i (.v (.int k' m))) = if 0 ≤ n ∧ n = m ∧ n < 1073741824 then some (.ref H.length 0 0 n.toNat, H ++ [.sl 3 0 (List.replicate n.toNat [.str [], .v (.bool false), .v (.int .i64 0)]) true]) else none := ms_eq (by kernel_rfl) H k k' n m
theorem bs47 (H : Hp) (n : Nat) (hn : n * 5 ≤ 16777216) (parts : List (Nat × AV)) : buildSliceE E H 47 n parts = bsF [] 5 n H (fillA 5 (List.replicate n [.i (.v (.int .i64 0)), .i (.v (.int .i64 0)), .i (.str []), .i (.v (.bool false)), .i (.v (.bool false))]).flatten parts) := bs_eq (by kernel_rfl) H n hn parts
theorem br47 (n : Nat) (parts : List (Nat × AV)) : buildRefs E 47 n parts = brK (fillA 5 (List.replicate n [.i (.v (.int .i64 0)), .i (.v (.int .i64 0)), .i (.str []), .i (.v (.bool false)), .i (.v (.bool false))]).flatten parts) := br_eq (ks := []) (by kernel_rfl) n parts
theorem ms47 (H : Hp) (k k' : IntKind) (n m : Int) : makeSliceE E H 47 (.i (.v (.int k n))) (.i (.v (.int k' m))) = if 0 ≤ n ∧ n = m ∧ n < 1073741824 then some (.ref H.length 0 0 n.toNat, H ++ [.sl 5 0 (List.replicate n.toNat [.v (.int .i64 0), .v (.int .i64 0), .str [], .v (.bool false), .v (.bool false)]) true]) else none := ms_eq (by kernel_rfl) H k k' n m
theorem st22 (H : Hp) (c g r k : Nat) (v : AV) : storeE E H 22 (.ptr c g r k) v = if (cellsA v).length = 1 ∧ (cellsA v).all one = true then stC [some 1] 1 H c g r k (cellsA v) H[c]? else none := st_eq sz22 H c g r k v
theorem st24 (H : Hp) (c g r k : Nat) (v : AV) : storeE E H 24 (.ptr c g r k) v = if (cellsA v).length = 6 ∧ (cellsA v).all one = true then stC [none, none, some 1, none, none, none] 6 H c g r k (cellsA v) H[c]? else none := st_eq sz24 H c g r k v
theorem st27 (H : Hp) (c g r k : Nat) (v : AV) : storeE E H 27 (.ptr c g r k) v = if (cellsA v).length = 1 ∧ (cellsA v).all one = true then stC [some 8] 1 H c g r k (cellsA v) H[c]? else none := st_eq sz27 H c g r k v
theorem st3 (H : Hp) (c g r k : Nat) (v : AV) : storeE E H 3 (.ptr c g r k) v = if (cellsA v).length = 1 ∧ (cellsA v).all one = true then stC [] 1 H c g r k (cellsA v) H[c]? else none := st_eq sz3 H c g r k v
theorem st30 (H : Hp) (c g r k : Nat) (v : AV) : storeE E H 30 (.ptr c g r k) v = if (cellsA v).length = 8 ∧ (cellsA v).all one = true then stC [] 8 H c g r k (cellsA v) H[c]? else none := st_eq sz30 H c g r k v
theorem st36 (H : Hp) (c g r k : Nat) (v : AV) : storeE E H 36 (.ptr c g r k) v = if (cellsA v).length = 1 ∧ (cellsA v).all one = true then stC [some 3] 1 H c g r k (cellsA v) H[c]? else none := st_eq sz36 H c g r k v
theorem st4 (H : Hp) (c g r k : Nat) (v : AV) : storeE E H 4 (.ptr c g r k) v = if (cellsA v).length = 1 ∧ (cellsA v).all one = true then stC [] 1 H c g r k (cellsA v) H[c]? else none := st_eq sz4 H c g r k v
theorem st45 (H : Hp) (c g r k : Nat) (v : AV) : storeE E H 45 (.ptr c g r k) v = if (cellsA v).length = 3 ∧ (cellsA v).all one = true then stC [] 3 H c g r k (cellsA v) H[c]? else none := st_eq sz45 H c g r k v
theorem st47 (H : Hp) (c g r k : Nat) (v : AV) : storeE E H 47 (.ptr c g r k) v = if (cellsA v).length = 1 ∧ (cellsA v).all one = true then stC [some 5] 1 H c g r k (cellsA v) H[c]? else none := st_eq sz47 H c g r k v
theorem st49 (H : Hp) (c g r k : Nat) (v : AV) : storeE E H 49 (.ptr c g r k) v = if (cellsA v).length = 5 ∧ (cellsA v).all one = true then stC [] 5 H c g r k (cellsA v) H[c]? else none := st_eq sz49 H c g r k v
theorem st60 (H : Hp) (c g r k : Nat) (v : AV) : storeE E H 60 (.ptr c g r k) v = if (cellsA v).length = 256 ∧ (cellsA v).all one = true then stC [] 256 H c g r k (cellsA v) H[c]? else none := st_eq sz60 H c g r k v
theorem st9 (H : Hp) (c g r k : Nat) (v : AV) : storeE E H 9 (.ptr c g r k) v = if (cellsA v).length = 1 ∧ (cellsA v).all one = true then stC [] 1 H c g r k (cellsA v) H[c]? else none := st_eq sz9 H c g r k v
def en4 := And.intro @ent4 (And.intro @res4 (And.intro @rk4 (And.intro @ow4 (And.intro @kp4_0 (And.intro @kp4_1 (And.intro @kp4_2 (And.intro @kp4_3 (And.intro @kp4_4 (And.intro @kp4_5 (And.intro @kp4_6 (And.intro @kp4_7 (And.intro @kp4_8 (And.intro @kp4_9 (And.intro @kp4_10 (And.intro @kp4_11 (And.intro @kp4_12 (And.intro @kp4_13 (And.intro @hd4_8 (And.intro @fl4_5 (And.intro @dr4_5 (And.intro @ent8 (And.intro @ci8 (And.intro @cr8 (And.intro @ak8 (And.intro @ent9 (And.intro @ci9 (And.intro @cr9 (And.intro @ak9 (And.intro @ent10 (And.intro @ci10 (And.intro @cr10 (And.intro @ak10 (And.intro @ent12 (And.intro @ci12 (And.intro @cr12 (And.intro @ak12 (And.intro @agg22 (And.intro @agg24 (And.intro @agg27 (And.intro @agg3 (And.intro @agg30 (And.intro @agg36 (And.intro @agg5 (And.intro @arr27 (And.intro @arrz24 (And.intro @arrz30 (And.intro @fld24_2 (And.intro @fld30_3 (And.intro @fld30_5 (And.intro @kind22 (And.intro @kind24 (And.intro @kind27 (And.intro @kind3 (And.intro @cv5_3 (And.intro @kind30 (And.intro @kind36 (And.intro @kind5 (And.intro @cv5_21 (And.intro @cv21_5 (And.intro @pl24 (And.intro @pl30 (And.intro @sl22 (And.intro @ms22 (And.intro @br22 (And.intro @sx22 (And.intro @sw22 (And.intro @ap22_22 (And.intro @sl24 (And.intro @sl27 (And.intro @ms27 (And.intro @br27 (And.intro @ap27_27 (And.intro @sl3 (And.intro @sl5 (And.intro @str22 (And.intro @str24 (And.intro @str27 (And.intro @str3 (And.intro @str5 (And.intro @sz22 (And.intro @st22 (And.intro @sz24 (And.intro @st24 (And.intro @sz3 (And.intro @st3 (And.intro @sz30 (And.intro @st30 (And.intro @sz36 (And.intro @st36 (And.intro @zero24 (And.intro @bd24 (And.intro @zero30 (And.intro @bd30 (@zero36))))))))))))))))))))))))))))))))))))))))))))))))))))))))))))))))))))))))))))))))))))))))))))))
def en8 := And.intro @ent8 (And.intro @res8 (And.intro @rk8 (And.intro @ow8 (And.intro @kp8_0 (And.intro @kp8_1 (And.intro @kp8_2 (And.intro @kp8_3 (And.intro @kp8_4 (And.intro @kp8_5 (And.intro @kp8_6 (And.intro @kp8_7 (And.intro @kp8_8 (And.intro @kp8_9 (And.intro @hd8_4 (And.intro @agg22 (And.intro @agg36 (And.intro @agg45 (And.intro @arr22 (And.intro @arrz45 (And.intro @fld24_2 (And.intro @kind22 (And.intro @kind36 (And.intro @kind45 (And.intro @pl45 (And.intro @sl22 (And.intro @ms22 (And.intro @br22 (And.intro @sx22 (And.intro @sw22 (And.intro @ap22_22 (And.intro @sl36 (And.intro @ms36 (And.intro @br36 (And.intro @sx36 (And.intro @sw36 (And.intro @ap36_36 (And.intro @str22 (And.intro @str36 (And.intro @sz22 (And.intro @st22 (And.intro @sz36 (And.intro @st36 (And.intro @sz45 (And.intro @st45 (And.intro @zero36 (And.intro @zero45 (@bd45)))))))))))))))))))))))))))))))))))))))))))))))
def en10 := And.intro @ent10 (And.intro @res10 (And.intro @rk10 (And.intro @ow10 (And.intro @kp10_0 (And.intro @kp10_1 (And.intro @kp10_2 (And.intro @kp10_3 (And.intro @kp10_4 (And.intro @kp10_5 (And.intro @kp10_6 (And.intro @kp10_7 (And.intro @kp10_8 (And.intro @kp10_9 (And.intro @hd10_3 (And.intro @fl10_5 (And.intro @dr10_5 (And.intro @ent17 (And.intro @ci17 (And.intro @cr17 (And.intro @ak17 (And.intro @ent18 (And.intro @ci18 (And.intro @cr18 (And.intro @ak18 (And.intro @ent19 (And.intro @ci19 (And.intro @cr19 (And.intro @ak19 (And.intro @agg22 (And.intro @agg27 (And.intro @agg36 (And.intro @agg45 (And.intro @agg47 (And.intro @agg49 (And.intro @agg52 (And.intro @arr22 (And.intro @arrz45 (And.intro @arrz49 (And.intro @fld24_2 (And.intro @kind22 (And.intro @kind36 (And.intro @kind45 (And.intro @kind47 (And.intro @kind49 (And.intro @kind52 (And.intro @pl45 (And.intro @pl49 (And.intro @sl22 (And.intro @ms22 (And.intro @br22 (And.intro @sx22 (And.intro @sw22 (And.intro @ap22_22 (And.intro @sl36 (And.intro @ms36 (And.intro @br36 (And.intro @sx36 (And.intro @sw36 (And.intro @ap36_36 (And.intro @sl47 (And.intro @ms47 (And.intro @br47 (And.intro @sx47 (And.intro @sw47 (And.intro @ap47_47 (And.intro @sl52 (And.intro @str22 (And.intro @str36 (And.intro @str47 (And.intro @str52 (And.intro @sz22 (And.intro @st22 (And.intro @sz27 (And.intro @st27 (And.intro @sz36 (And.intro @st36 (And.intro @sz45 (And.intro @st45 (And.intro @sz47 (And.intro @st47 (And.intro @sz49 (And.intro @st49 (And.intro @zero27 (And.intro @zero36 (And.intro @zero45 (And.intro @bd45 (And.intro @zero47 (And.intro @zero49 (@bd49)))))))))))))))))))))))))))))))))))))))))))))))))))))))))))))))))))))))))))))))))))))))))
def en12 := And.intro @ent12 (And.intro @res12 (And.intro @rk12 (And.intro @ow12 (And.intro @kp12_0 (And.intro @kp12_1 (And.intro @kp12_2 (And.intro @kp12_3 (And.intro @kp12_4 (And.intro @kp12_5 (And.intro @kp12_6 (And.intro @kp12_7 (And.intro @kp12_8 (And.intro @hd12_4 (And.intro @fl12_6 (And.intro @dr12_6 (And.intro @agg27 (And.intro @agg30 (And.intro @arr27 (And.intro @arrz30 (And.intro @eqg30 (And.intro @kind27 (And.intro @kind30 (And.intro @lv30 (And.intro @pl30 (And.intro @sl27 (And.intro @ms27 (And.intro @br27 (And.intro @ap27_27 (And.intro @str27 (And.intro @sz30 (And.intro @st30 (And.intro @zero30 (@bd30)))))))))))))))))))))))))))))))))
def en17 := And.intro @ent17 (And.intro @res17 (And.intro @rk17 (And.intro @ow17 (And.intro @kp17_0 (And.intro @kp17_1 (And.intro @kp17_2 (And.intro @kp17_3 (And.intro @kp17_4 (And.intro @kp17_5 (And.intro @kp17_6 (And.intro @kp17_7 (And.intro @kp17_8 (And.intro @kp17_9 (And.intro @kp17_10 (And.intro @kp17_11 (And.intro @kp17_12 (And.intro @kp17_13 (And.intro @kp17_14 (And.intro @kp17_15 (And.intro @hd17_3 (And.intro @hd17_9 (And.intro @ent20 (And.intro @ci20 (And.intro @cr20 (And.intro @ak20 (And.intro @ent21 (And.intro @ci21 (And.intro @cr21 (And.intro @ak21 (And.intro @ent22 (And.intro @ci22 (And.intro @cr22 (And.intro @ak22 (And.intro @ent23 (And.intro @ci23 (And.intro @cr23 (And.intro @ak23 (And.intro @xk23 (And.intro @agg3 (And.intro @agg36 (And.intro @agg4 (And.intro @agg45 (And.intro @agg49 (And.intro @agg9 (And.intro @arr36 (And.intro @arr49 (And.intro @arrz45 (And.intro @arrz49 (And.intro @fld45_0 (And.intro @fld45_2 (And.intro @fld49_0 (And.intro @fld49_1 (And.intro @fld49_2 (And.intro @fld49_3 (And.intro @fld49_4 (And.intro @kind36 (And.intro @kind45 (And.intro @kind9 (And.intro @cv21_9 (And.intro @pl45 (And.intro @pl49 (And.intro @sl36 (And.intro @ms36 (And.intro @br36 (And.intro @sx36 (And.intro @sw36 (And.intro @ap36_36 (And.intro @sl9 (And.intro @sx9 (And.intro @str36 (And.intro @str9 (And.intro @sz3 (And.intro @st3 (And.intro @sz4 (And.intro @st4 (And.intro @sz45 (And.intro @st45 (And.intro @sz49 (And.intro @st49 (And.intro @sz9 (And.intro @st9 (And.intro @zero45 (And.intro @bd45 (And.intro @zero49 (@bd49)))))))))))))))))))))))))))))))))))))))))))))))))))))))))))))))))))))))))))))))))))))
def en18 := And.intro @ent18 (And.intro @res18 (And.intro @rk18 (And.intro @ow18 (And.intro @kp18_0 (And.intro @kp18_1 (And.intro @kp18_2 (And.intro @kp18_3 (And.intro @kp18_4 (And.intro @kp18_5 (And.intro @kp18_6 (And.intro @kp18_7 (And.intro @hd18_1 (And.intro @hd18_3 (And.intro @fl18_3 (And.intro @dr18_3 (And.intro @agg3 (And.intro @agg4 (And.intro @agg47 (And.intro @agg49 (And.intro @arr47 (And.intro @arrz49 (And.intro @fld49_0 (And.intro @fld49_3 (And.intro @kind3 (And.intro @cv5_3 (And.intro @kind47 (And.intro @kind49 (And.intro @pl49 (And.intro @sl3 (And.intro @sl47 (And.intro @ms47 (And.intro @br47 (And.intro @sx47 (And.intro @sw47 (And.intro @ap47_47 (And.intro @str3 (And.intro @str47 (And.intro @sz3 (And.intro @st3 (And.intro @sz4 (And.intro @st4 (And.intro @sz49 (And.intro @st49 (And.intro @zero49 (@bd49)))))))))))))))))))))))))))))))))))))))))))))
def en19 := And.intro @ent19 (And.intro @res19 (And.intro @rk19 (And.intro @ow19 (And.intro @kp19_0 (And.intro @kp19_1 (And.intro @kp19_2 (And.intro @kp19_3 (And.intro @kp19_4 (And.intro @kp19_5 (And.intro @kp19_6 (And.intro @kp19_7 (And.intro @kp19_8 (And.intro @kp19_9 (And.intro @kp19_10 (And.intro @kp19_11 (And.intro @hd19_3 (And.intro @agg27 (And.intro @agg3 (And.intro @agg30 (And.intro @agg4 (And.intro @agg47 (And.intro @agg49 (And.intro @agg9 (And.intro @arr30 (And.intro @arr47 (And.intro @arrz30 (And.intro @arrz49 (And.intro @fld30_0 (And.intro @fld30_2 (And.intro @fld30_3 (And.intro @fld30_4 (And.intro @fld30_5 (And.intro @fld30_6 (And.intro @fld30_7 (And.intro @fld49_0 (And.intro @fld49_1 (And.intro @fld49_2 (And.intro @fld49_4 (And.intro @kind27 (And.intro @kind3 (And.intro @cv5_3 (And.intro @kind30 (And.intro @kind47 (And.intro @kind49 (And.intro @pl30 (And.intro @pl49 (And.intro @sl27 (And.intro @ms27 (And.intro @br27 (And.intro @ap27_27 (And.intro @sl3 (And.intro @sl47 (And.intro @ms47 (And.intro @br47 (And.intro @sx47 (And.intro @sw47 (And.intro @ap47_47 (And.intro @str27 (And.intro @str3 (And.intro @str47 (And.intro @sz27 (And.intro @st27 (And.intro @sz3 (And.intro @st3 (And.intro @sz30 (And.intro @st30 (And.intro @sz4 (And.intro @st4 (And.intro @sz47 (And.intro @st47 (And.intro @sz49 (And.intro @st49 (And.intro @sz9 (And.intro @st9 (And.intro @zero30 (And.intro @bd30 (And.intro @zero49 (@bd49))))))))))))))))))))))))))))))))))))))))))))))))))))))))))))))))))))))))))))))
def en20 := And.intro @ent20 (And.intro @res20 (And.intro @rk20 (And.intro @ow20 (And.intro @kp20_0 (And.intro @kp20_1 (And.intro @kp20_2 (And.intro @kp20_3 (And.intro @kp20_4 (And.intro @hd20_2 (And.intro @fl20_2 (And.intro @dr20_2 (And.intro @ent24 (And.intro @ci24 (And.intro @cr24 (And.intro @ak24 (And.intro @ent25 (And.intro @ci25 (And.intro @cr25 (And.intro @ak25 (And.intro @xk25 (And.intro @agg36 (And.intro @agg45 (And.intro @arr36 (And.intro @arrz45 (And.intro @eqg45 (And.intro @kind36 (And.intro @kind45 (And.intro @lv45 (And.intro @pl45 (And.intro @sl36 (And.intro @ms36 (And.intro @br36 (And.intro @sx36 (And.intro @sw36 (And.intro @ap36_36 (And.intro @str36 (And.intro @sz45 (And.intro @st45 (And.intro @zero45 (@bd45))))))))))))))))))))))))))))))))))))))))
def en21 := And.intro @ent21 (And.intro @res21 (And.intro @rk21 (And.intro @ow21 (And.intro @kp21_0 (And.intro @kp21_1 (And.intro @kp21_2 (And.intro @kp21_3 (And.intro @kp21_4 (And.intro @kp21_5 (And.intro @kp21_6 (And.intro @kp21_7 (And.intro @kp21_8 (And.intro @hd21_3 (And.intro @agg36 (And.intro @agg4 (And.intro @agg45 (And.intro @arr36 (And.intro @arrz45 (And.intro @fld45_1 (And.intro @kind36 (And.intro @kind45 (And.intro @pl45 (And.intro @sl36 (And.intro @ms36 (And.intro @br36 (And.intro @sx36 (And.intro @sw36 (And.intro @ap36_36 (And.intro @str36 (And.intro @sz4 (And.intro @st4 (And.intro @sz45 (And.intro @st45 (And.intro @zero45 (@bd45)))))))))))))))))))))))))))))))))))
def en22 := And.intro @ent22 (And.intro @res22 (And.intro @rk22 (And.intro @ow22 (And.intro @kp22_0 (And.intro @kp22_1 (And.intro @kp22_2 (And.intro @kp22_3 (And.intro @kp22_4 (And.intro @kp22_5 (And.intro @kp22_6 (And.intro @kp22_7 (And.intro @kp22_8 (And.intro @ent26 (And.intro @ci26 (And.intro @cr26 (And.intro @ak26 (And.intro @ent27 (And.intro @ci27 (And.intro @cr27 (And.intro @ak27 (And.intro @ent28 (And.intro @ci28 (And.intro @cr28 (And.intro @ak28 (And.intro @ent29 (And.intro @ci29 (And.intro @cr29 (And.intro @ak29 (And.intro @agg5 (And.intro @agg60 (And.intro @agg64 (And.intro @agg9 (And.intro @arr9 (And.intro @arrz60 (And.intro @kind5 (And.intro @cv5_21 (And.intro @cv5_3 (And.intro @cv21_5 (And.intro @kind64 (And.intro @kind9 (And.intro @cv21_9 (And.intro @sl5 (And.intro @sl64 (And.intro @sl9 (And.intro @sx9 (And.intro @str5 (And.intro @str64 (And.intro @str9 (And.intro @sz60 (And.intro @st60 (And.intro @zero60 (@bd60))))))))))))))))))))))))))))))))))))))))))))))))))))
def en24 := And.intro @ent24 (And.intro @res24 (And.intro @rk24 (And.intro @ow24 (And.intro @kp24_0 (And.intro @kp24_1 (And.intro @agg45 (And.intro @agg9 (And.intro @arr45 (And.intro @arrz45 (And.intro @fld45_0 (And.intro @pl45 (And.intro @sz45 (And.intro @st45 (And.intro @sz9 (And.intro @st9 (And.intro @zero45 (@bd45)))))))))))))))))
def en26 := And.intro @ent26 (And.intro @res26 (And.intro @rk26 (And.intro @ow26 (And.intro @kp26_0 (And.intro @kp26_1 (And.intro @kp26_2 (And.intro @kp26_3 (And.intro @hd26_1 (And.intro @agg9 (And.intro @arr9 (And.intro @kind9 (And.intro @cv21_9 (And.intro @sl9 (And.intro @sx9 (@str9)))))))))))))))
def ca19 := And.intro @ent19 (And.intro @ci19 (And.intro @cr19 (@ak19)))
end Go.VI

namespace Go.Proofs
open Go.Shelf
def Tryd.lays169_ren : Go.Shelf.Ren := ⟨fun | 169 => 31 | n => n, fun | 70 => 65 | 9 => 9 | 0 => 0 | 72 => 68 | 37 => 66 | 127 => 78 | 3 => 3 | 5 => 5 | n => n, fun | n => n⟩
theorem Tryd.lays169 : Go.Proofs.Lays.n169 Tryd.prog Tryd.lays169_ren := {
  mixed := by kernel_rfl
  f169 := Tryd.func31.trans (congrArg some (by kernel_rfl))
  t0 := Tryd.underlying0
  a0 := Tryd.isAgg0
  z0 := Tryd.sizeOf0
  v0 := Tryd.zeroValue0
  t3 := Tryd.underlying3
  a3 := Tryd.isAgg3
  z3 := Tryd.sizeOf3
  v3 := Tryd.zeroValue3
  t9 := Tryd.underlying9
  a9 := Tryd.isAgg9
  z9 := Tryd.sizeOf9
  v9 := Tryd.zeroValue9
  t37 := Tryd.underlying66
  a37 := Tryd.isAgg66
  z37 := Tryd.sizeOf66
  v37 := Tryd.zeroValue66
  t70 := Tryd.underlying65
  a70 := Tryd.isAgg65
  z70 := Tryd.sizeOf65
  v70 := Tryd.zeroValue65
  t72 := Tryd.underlying68
  a72 := Tryd.isAgg68
  z72 := Tryd.sizeOf68
  v72 := Tryd.zeroValue68
  t127 := Tryd.underlying78
  a127 := Tryd.isAgg78
  z127 := Tryd.sizeOf78
  v127 := Tryd.zeroValue78 }
def Tryd.lays166_ren : Go.Shelf.Ren := ⟨fun | 166 => 30 | 240 => 35 | 276 => 39 | n => n, fun | 70 => 65 | 9 => 9 | 0 => 0 | 72 => 68 | 37 => 66 | 127 => 78 | 3 => 3 | 4 => 4 | 5 => 5 | 20 => 20 | 75 => 70 | 80 => 73 | 164 => 80 | n => n, fun | n => n⟩
theorem Tryd.lays166 : Go.Proofs.Lays.n166 Tryd.prog Tryd.lays166_ren := {
  mixed := by kernel_rfl
  f166 := Tryd.func30.trans (congrArg some (by kernel_rfl))
  f240 := Tryd.func35.trans (congrArg some (by kernel_rfl))
  f276 := Tryd.func39.trans (congrArg some (by kernel_rfl))
  t0 := Tryd.underlying0
  a0 := Tryd.isAgg0
  z0 := Tryd.sizeOf0
  v0 := Tryd.zeroValue0
  t3 := Tryd.underlying3
  a3 := Tryd.isAgg3
  z3 := Tryd.sizeOf3
  v3 := Tryd.zeroValue3
  t4 := Tryd.underlying4
  a4 := Tryd.isAgg4
  z4 := Tryd.sizeOf4
  v4 := Tryd.zeroValue4
  t9 := Tryd.underlying9
  a9 := Tryd.isAgg9
  z9 := Tryd.sizeOf9
  v9 := Tryd.zeroValue9
  t20 := Tryd.underlying20
  a20 := Tryd.isAgg20
  z20 := Tryd.sizeOf20
  v20 := Tryd.zeroValue20
  t37 := Tryd.underlying66
  a37 := Tryd.isAgg66
  z37 := Tryd.sizeOf66
  v37 := Tryd.zeroValue66
  t70 := Tryd.underlying65
  a70 := Tryd.isAgg65
  z70 := Tryd.sizeOf65
  v70 := Tryd.zeroValue65
  t72 := Tryd.underlying68
  a72 := Tryd.isAgg68
  z72 := Tryd.sizeOf68
  v72 := Tryd.zeroValue68
  t75 := Tryd.underlying70
  a75 := Tryd.isAgg70
  z75 := Tryd.sizeOf70
  v75 := Tryd.zeroValue70
  t164 := Tryd.underlying80
  a164 := Tryd.isAgg80
  z164 := Tryd.sizeOf80
  v164 := Tryd.zeroValue80 }
end Go.Proofs

set_option linter.unusedSimpArgs false
set_option linter.unusedVariables false
namespace Go.VI
open Go.Proofs Go.Shelf Go.RowKit Go.Lib
theorem builder_X : Builder.Extra Tryd.prog Tryd.lays166_ren where
  sizeBuilder := by kernel_rfl
  liesBuilder := by kernel_rfl
  t5 := Tryd.underlying5
  a5 := Tryd.isAgg5
  z5 := Tryd.sizeOf5
  v5 := Tryd.zeroValue5
  infoByte := by kernel_rfl
  cellsByte := by kernel_rfl
  sizeByte := by kernel_rfl
  neB5 := by decide
theorem builder_X2 : Builder.Extra Tryd.prog Tryd.lays169_ren where
  sizeBuilder := by kernel_rfl
  liesBuilder := by kernel_rfl
  t5 := Tryd.underlying5
  a5 := Tryd.isAgg5
  z5 := Tryd.sizeOf5
  v5 := Tryd.zeroValue5
  infoByte := by kernel_rfl
  cellsByte := by kernel_rfl
  sizeByte := by kernel_rfl
  neB5 := by decide
theorem ws_k (B b : Nat) (bs : List Value) (s : ByteArray) (w : World) (h : Lib.IsBuilderF 68 5 B b bs w) (hlen : bs.length + s.size ≤ 140737488355328) (hBw : B ≤ w.heap.size) :
    Calls Tryd.prog 30 #[.pointer (some ⟨b, 0, none⟩), .string s] w fun e w' => e = .returned (.tuple #[.int .i64 s.size, .nilIface]) ∧ (Lib.BuilderAtF 68 5 B b (.pointer (some ⟨b, 0, none⟩)) (bs ++ Lib.strCells s) w' ∧ Below B w w' ∧ Lib.OthersKept 5 (some b) w w') := Any.Builder_WriteString_k Tryd.lays166 builder_X B b bs s w h hlen hBw
theorem st_k (B b : Nat) (l : List UInt8) (w : World) (h : Lib.IsBuilderF 68 5 B b (Lib.byteCells l) w) (hBw : B ≤ w.heap.size) :
    Calls Tryd.prog 31 #[.pointer (some ⟨b, 0, none⟩)] w fun e w' => e = .returned (.string ⟨l.toArray⟩) ∧ (Lib.IsBuilderF 68 5 B b (Lib.byteCells l) w' ∧ Below B w w' ∧ Lib.OthersKept 5 (some b) w w') := Any.Builder_String_any_k Tryd.lays169 builder_X2 B b l w h hBw
end Go.VI

set_option linter.unusedSimpArgs false
set_option linter.unusedVariables false
namespace Go.VI
open Go.Proofs Go.Shelf Go.RowKit Go.Lib
def catS (S : Nat → List UInt8) : Nat → List UInt8
  | 0 => []
  | k + 1 => catS S k ++ S k
theorem catS_le (S : Nat → List UInt8) : ∀ {n k : Nat}, k ≤ n → (catS S k).length ≤ (catS S n).length := by
  intro n k h
  induction h with
  | refl => exact Nat.le_refl _
  | step _ ih => rw [catS, List.length_append]; omega
set_option maxHeartbeats 4000000 in
set_option maxRecDepth 1000000 in
theorem text_walk (ao : Option Addr) (n cap b off : Nat) (ha : n ≠ 0 → ao = some ⟨b, off, none⟩) (S : Nat → List UInt8) (c1 : Nat → Bool) (c2 : Nat → Int) (w : World) (hc : ∀ j, j < n → w.cell? ⟨b, off + j * 3, none⟩ = some (.string ⟨⟨S j⟩⟩) ∧ w.cell? ⟨b, off + j * 3 + 1, none⟩ = some (.bool (c1 j)) ∧ w.cell? ⟨b, off + j * 3 + 2, none⟩ = some (.int .i64 (c2 j)))
    (hb : n ≠ 0 → b < w.heap.size) (hn : n ≤ 1000000000) (hl : (catS S n).length ≤ 140737488355328) : Calls Tryd.prog 23 #[.slice ao n cap] w fun e w' => e = .returned (.string ⟨(catS S n).toArray⟩) ∧ Below w.heap.size w w' := by
  go_enter Tryd.func23, Tryd.ntmps23
  go_wp2
  go_loopw [8] (fun i wr => ∃ k : Nat, i = .int .i64 k ∧ k ≤ n ∧ Lib.IsBuilderF 68 5 w.heap.size w.heap.size (Lib.byteCells (catS S k)) wr ∧ Below w.heap.size w wr) (fun i _ => n - (RowKit.intOf i).toNat)
  case atStart =>
    exact ⟨0, rfl, Nat.zero_le _, Lib.IsBuilderF.of (Lib.fresh_isBuilder 68 5 w), (Below.refl _ w).alloc (Nat.le_refl _) _⟩
  case round =>
    obtain ⟨k, rfl, hk, hI, hbw⟩ := hrel
    by_cases hlt : k < n
    · obtain rfl := ha (by omega)
      obtain ⟨q0, q1, q2⟩ := hc k hlt
      have hbb := hb (by omega)
      have hblk : wr.heap[b]? = w.heap[b]? := hbw.block b hbb
      rw [← World.cell?_of_block hblk] at q0 q1 q2
      have hcat := catS_le S (show k + 1 ≤ n from hlt)
      go_wp2_with (go_at_call 30; refine (ws_k w.heap.size w.heap.size _ _ _ (hI.alloc _) (by rw [Lib.byteCells_length]; rw [catS, List.length_append] at hcat; simp [ByteArray.size]; omega) (by simp; have := hbw.size; omega)).mono ?_)
      rintro e W1 rfl h1 b1 k1
      go_wp2
      go_roundw
      case rel =>
        refine ⟨k + 1, by simp, hlt, ?_, (hbw.alloc hbw.size _).trans b1⟩
        rw [catS, Lib.byteCells_append]
        exact Or.inr h1
      case measure =>
        simp [RowKit.intOf]
        omega
    · go_wp2_with (go_at_call 31; refine (st_k w.heap.size w.heap.size _ _ hI hbw.size).mono ?_)
      rintro e W1 ⟨rfl, _, b1, _⟩
      go_wp2
      go_ret
      obtain rfl : k = n := by omega
      exact ⟨rfl, hbw.trans b1⟩
end Go.VI

set_option linter.unusedSimpArgs false
set_option linter.unusedVariables false
namespace Go.VI
open Go.Proofs Go.Shelf Go.RowKit Go.Lib
section
variable {E : Env} {I : Imm} {η : Eta} {H : Hp} {w : World}
theorem conc_below (hC : Conc E I η H w) {w2 : World} (hb : Below w.heap.size w w2) : After E I η H w H w2 fun I' η' => I' = I ∧ η' = η := by
  have hold := hb.block
  refine ⟨I, η, ⟨fun b o h => ?_, fun c x hx => (hC.ch c x hx).mono rfl (fun _ _ h => h) (Mono.refl _ _ _) fun b n h => hold b (hC.sep _ _ _ h).2.1, hC.inj, fun c b n h => ?_, hC.glob⟩,
    ⟨hb.os, hb.tape, hb.output, hb.size, fun b h _ => hold b h, fun _ _ h => h, fun b h => .inl h, fun c b n h => .inr ⟨_, _, h⟩⟩, Mono.refl _ _ _, rfl, rfl⟩
  · have := hC.imm b o h
    rw [hold b (Array.getElem?_eq_some_iff.1 this).1]; exact this
  · obtain ⟨h1, h2, h3⟩ := hC.sep _ _ _ h
    exact ⟨h1, Nat.lt_of_lt_of_le h2 hb.size, h3⟩
end
def glT (r : List IV) : List UInt8 := match r with | .str s :: _ => s | _ => []
def glB (r : List IV) : Bool := match r with | [_, .v (.bool b), _] => b | _ => false
def glZ (r : List IV) : Int := match r with | [_, _, .v (.int .i64 z)] => z | _ => 0
theorem textOf_row : ∀ {rows : List (List IV)} {l : List UInt8}, textOf rows = some l → l = (rows.map glT).flatten ∧ ∀ r ∈ rows, r = [.str (glT r), .v (.bool (glB r)), .v (.int .i64 (glZ r))]
  | [], l, h => by simp only [textOf, Option.some.injEq] at h; subst h; exact ⟨rfl, by simp⟩
  | r :: rows, l, h => by
    unfold textOf at h
    split at h
    · rename_i h0; cases h0
    · rename_i s b z rs heq
      injection heq with h1 h2
      subst h1 h2
      simp only [Option.map_eq_some_iff] at h
      obtain ⟨m, hm, rfl⟩ := h
      obtain ⟨e1, e2⟩ := textOf_row hm
      refine ⟨by rw [List.map_cons, List.flatten_cons, ← e1]; rfl, fun q hq => ?_⟩
      rcases List.mem_cons.1 hq with rfl | hq
      · rfl
      · exact e2 q hq
    · cases h
theorem catS_take (rows : List (List IV)) : ∀ k, k ≤ rows.length → catS (fun j => glT (rows.getD j [])) k = ((rows.take k).map glT).flatten
  | 0, _ => rfl
  | k + 1, h => by
    rw [catS, catS_take rows k (by omega), List.take_succ_eq_append_getElem (by omega : k < rows.length), List.map_append, List.flatten_append]
    congr 1
    rw [List.getD_eq_getElem?_getD, List.getElem?_eq_getElem (by omega : k < rows.length)]
    simp
theorem args_one {I : Imm} {η : Eta} {H : Hp} {a : AV} {vs : Array Value} (h : ArgsOK I η H [a] vs) : ∃ x, vs = #[x] ∧ RelA I η H a x := by
  obtain ⟨hs, hr⟩ := h
  obtain ⟨l⟩ := vs
  match l, hs with
  | [x], _ => exact ⟨x, rfl, hr 0 a rfl⟩
theorem ext_text : Ext1 E 23 extText := by
  intro args H r H' hr I η w vs hC hA
  unfold extText at hr
  split at hr
  · rename_i rows ex
    split at hr
    · rename_i l ht
      split at hr
      · rename_i hc
        obtain ⟨hc1, hc2⟩ := hc
        cases hr
        obtain ⟨y, rfl, r1⟩ := args_one hA
        obtain ⟨e1, e2⟩ := textOf_row ht
        have hfin : ∀ {e : Ending} {w' : World}, e = .returned (.string ⟨l.toArray⟩) ∧ Below w.heap.size w w' → ∃ x, e = .returned x ∧ After E I η H w H w' fun I' η' => RelA I' η' H (.i (.str l)) x := by
          rintro e w' ⟨rfl, hb⟩
          obtain ⟨I', η', k1, k2, k3, rfl, rfl⟩ := conc_below hC hb
          exact ⟨_, rfl, _, _, k1, k2, k3, .i _ _ (.str _)⟩
        have hcat := catS_take rows rows.length (Nat.le_refl _)
        rw [List.take_length, ← e1] at hcat
        cases relA_i r1 with
        | nil _ _ a cap hx =>
          have := text_walk a 0 cap 0 0 (fun h => absurd rfl h) (fun _ => []) (fun _ => false) (fun _ => 0) w (fun j hj => absurd hj (Nat.not_lt_zero _)) (fun h => absurd rfl h) (by omega) (by decide)
          subst e1
          exact this.mono fun e w' h => hfin h
        | sl _ _ _ b off cap cs elem fz cv hI hcap hx hrr h1 h2 =>
          have hblk := hC.imm b _ hI
          have hcell : ∀ k v, cs[k]? = some v → w.cell? ⟨b, k, none⟩ = some v := by
            intro k v hk
            simp [World.cell?, hblk, hk]
          have := text_walk (some ⟨b, off, none⟩) rows.length cap b off (fun _ => rfl) (fun j => glT (rows.getD j [])) (fun j => glB (rows.getD j [])) (fun j => glZ (rows.getD j [])) w (fun j hj => by
            have hget : rows[j]? = some rows[j] := List.getElem?_eq_getElem hj
            have hgd : rows.getD j [] = rows[j] := by rw [List.getD_eq_getElem?_getD, hget]; rfl
            have hrow := e2 rows[j] (List.getElem_mem hj)
            rw [hgd]
            generalize rows[j] = q at *
            generalize glT q = gt at *
            generalize glB q = gb at *
            generalize glZ q = gz at *
            subst hrow
            refine ⟨hcell _ _ ?_, hcell _ _ ?_, hcell _ _ ?_⟩
            · have a1 := h1 j _ 0 _ hget rfl
              have a2 := h2 j _ 0 _ hget rfl
              rw [Nat.add_zero] at a1
              rw [a1]
              generalize cv j 0 = v at a2
              cases a2
              rfl
            · have a1 := h1 j _ 1 _ hget rfl
              have a2 := h2 j _ 1 _ hget rfl
              rw [a1]
              generalize cv j 1 = v at a2
              cases a2
              rfl
            · have a1 := h1 j _ 2 _ hget rfl
              have a2 := h2 j _ 2 _ hget rfl
              rw [a1]
              generalize cv j 2 = v at a2
              cases a2
              rfl) (fun _ => (Array.getElem?_eq_some_iff.1 hblk).1) hc2 (by rw [hcat]; exact hc1)
          rw [hcat] at this
          exact this.mono fun e w' h => hfin h
      · cases hr
    · cases hr
  · cases hr
end Go.VI

set_option linter.unusedSimpArgs false
set_option linter.unusedVariables false
namespace Go.VI
open Go.Proofs Go.Shelf Go.RowKit Go.Lib
set_option maxHeartbeats 2000000 in
set_option maxRecDepth 100000 in
theorem clone_walk (ad : Addr) (n c : Nat) (zs : List Value) (w : World) (hz : zs.length = n * 3) (hbig : n ≤ 1000000000) (hc : ∀ j u, zs[j]? = some u → w.cell? (ad.add j) = some u) (h1 : ∀ u ∈ zs, u.oneCell' = true) :
    Calls Tryd.prog 25 #[.slice (some ad) n c] w fun e w' => ∃ v', e = .returned v' ∧ w'.ownsRow w.heap.size 45 3 v' n zs ∧ Below w.heap.size w w' := by
  obtain ⟨i0, hi, hz0, hz1, hz2⟩ := info_parts (show (Tryd.prog.info? 45).map (fun i => (i.zero, i.size, i.bytes)) = some (some (.agg #[.string ⟨#[]⟩, .bool false, .int .i64 0]), 3, 32) from by kernel_rfl)
  have q36 : ∀ (w : World) (a : Option Addr) (n c n' c' : Nat), (binOp .eql 36 (.slice a n c) (.slice none n' c')).run Tryd.prog w = .ok (.bool a.isNone) w := fun w a n c n' c' => Lib.run_eql_slice_nil w _ _ a n c n' c' Tryd.underlying36
  have u36 : ∀ w, Sem.run Tryd.prog (underlying 36) w = .ok (TypeDesc.slice 45) w := run_underlying Tryd.underlying36
  have A : Aside (∀ j u, zs[j]? = some u → w.cell? (ad.add j) = some u) := hc
  clear hc
  go_enter Tryd.func25, Tryd.ntmps25
  go_wp2_with (at_builtin; refine wpList_append_own _ rfl _ _ 36 rfl w.heap.size 45 i0 _ 3 32 Tryd.underlying36 hi hz0 hz1 hz2 rfl (by decide) _ _ _ rfl (World.ownsRow_made w #[] 0 (Nat.le_refl _) (Nat.zero_le _) rfl) ad n c zs rfl hz ?qc2 ?qc3 ?qc4 ?qc5 ?qc6 ?_)
  case qc2 =>
    intro j u hj
    exact Lib.cell?_alloc_some _ (A.out j u hj)
  case qc3 => exact h1
  case qc4 => unfold maxLen; omega
  case qc5 => omega
  case qc6 => simp
  intro v' w1 hown hgrow hnil
  go_wp2
  go_ret
  exact ⟨v', rfl, by simpa using hown, ((Below.refl _ w).alloc (Nat.le_refl _) _).grown hgrow (by simp) (by intro k hk; simp [Value.ownBlock] at hk; omega)⟩
set_option maxHeartbeats 1000000 in
theorem clone_nil (n c : Nat) (w : World) : Calls Tryd.prog 25 #[.slice none n c] w fun e w' => e = .returned (.slice none 0 0) ∧ w' = w := by
  have q36 : ∀ (w : World) (a : Option Addr) (n c n' c' : Nat), (binOp .eql 36 (.slice a n c) (.slice none n' c')).run Tryd.prog w = .ok (.bool a.isNone) w := fun w a n c n' c' => Lib.run_eql_slice_nil w _ _ a n c n' c' Tryd.underlying36
  go_enter Tryd.func25, Tryd.ntmps25
  go_wp2
  go_ret
  exact ⟨rfl, rfl⟩
end Go.VI

set_option linter.unusedSimpArgs false
set_option linter.unusedVariables false
namespace Go.VI
open Go.Proofs Go.Shelf Go.RowKit Go.Lib
section
variable {E : Env} {I : Imm} {η : Eta} {H : Hp} {w : World}
theorem conc_new (hC : Conc E I η H w) {w2 : World} (hb : Below w.heap.size w w2) {g : Nat} (hg : w.heap.size ≤ g) {o : Obj} (hgo : w2.heap[g]? = some o) : After E I η H w H w2 fun I' η' => (∀ b, I' b = if b = g then some o else I b) ∧ I.le I' := by
  have ho := hb.block
  let I' : Imm := fun b => if b = g then some o else I b
  have hlt : ∀ b o, I b = some o → b < w.heap.size := fun b o hb => (Array.getElem?_eq_some_iff.1 (hC.imm b o hb)).1
  have hle : I.le I' := fun b o hb => by
    have := hlt b o hb
    show (if _ then _ else _) = _
    rw [if_neg (by omega)]; exact hb
  have hm : Mono I η H I' η H := mono_of hle (Nat.le_refl _) fun c hc => CStep.same rfl rfl
  refine ⟨I', η, ⟨fun b o' hb' => ?_, fun c x hx => (hC.ch c x hx).mono rfl hle hm fun b n h => ho b (hC.sep _ _ _ h).2.1, hC.inj, fun c b n hh => ?_, fun g cells hg => (hC.glob g cells hg).mono hle⟩,
    ⟨hb.os, hb.tape, hb.output, hb.size, fun b hb _ => ho b hb, hle, fun b hb' => ?_, fun c b n hh => .inr ⟨_, _, hh⟩⟩, hm, fun b => rfl, hle⟩
  · have hb'' : (if b = g then some o else I b) = some o' := hb'
    by_cases he : b = g
    · rw [if_pos he] at hb''
      rw [he, hgo]; exact hb''
    · rw [if_neg he] at hb''
      rw [ho b (hlt b o' hb'')]; exact hC.imm b o' hb''
  · obtain ⟨h1, h2, h3⟩ := hC.sep _ _ _ hh
    refine ⟨?_, Nat.lt_of_lt_of_le h2 hb.size, h3⟩
    show (if _ then _ else _) = _
    rw [if_neg (by omega)]; exact h1
  · by_cases he : b = g
    · exact .inr (.inl (by omega))
    · have hb'' : (if b = g then some o else I b) ≠ none := hb'
      rw [if_neg he] at hb''
      exact .inl hb''
theorem rel_one {a : IV} {v : Value} (h : RelI I a v) : v.oneCell' = true := by
  cases h
  · assumption
  all_goals rfl
end
theorem ext_clone : Ext1 E 25 (extClone 3) := by
  intro args H r H' hr I η w vs hC hA
  unfold extClone at hr
  split at hr
  · rename_i z rows ex
    split at hr
    · rename_i hc
      obtain ⟨rfl, hc2⟩ := hc
      cases hr
      obtain ⟨y, rfl, r1⟩ := args_one hA
      cases relA_i r1 with
      | nil _ _ a cap hx =>
        cases a with
        | none =>
          refine (clone_nil 0 cap w).mono fun e w' ⟨h1, h2⟩ => ?_
          subst h1 h2
          exact ⟨_, rfl, After.refl hC (.i _ _ (.nil _ _ _ _ (fun h => by cases h)))⟩
        | some ad =>
          refine (clone_walk ad 0 cap [] w rfl (by decide) (fun j u hj => by cases hj) (fun u hu => by cases hu)).mono fun e w' ⟨v', he, hown, hbel⟩ => ?_
          subst he
          obtain ⟨_, hv⟩ := hown
          obtain ⟨I', η', k1, k2, k3, rfl, rfl⟩ := conc_below hC hbel
          rcases hv with ⟨rfl, _⟩ | ⟨g, cap', cur, rfl, _⟩
          · exact ⟨_, rfl, _, _, k1, k2, k3, .i _ _ (.nil _ _ _ _ (fun h => by cases h))⟩
          · exact ⟨_, rfl, _, _, k1, k2, k3, .i _ _ (.nil _ _ _ _ (fun h => by cases h))⟩
      | sl _ _ _ b off cap cs elem fz cv hI hcap hx hrr h1 h2 =>
        have hblk := hC.imm b _ hI
        have hz3 : ∀ i k, i < rows.length → k < 3 → cs[off + i * 3 + k]? = some (cv i k) ∧ (cv i k).oneCell' = true := by
          intro i k hi hk
          have hget : rows[i]? = some rows[i] := List.getElem?_eq_getElem hi
          have hlen := hrr i _ hget
          have hgk : rows[i][k]? = some rows[i][k] := List.getElem?_eq_getElem (by omega)
          exact ⟨h1 i _ k _ hget hgk, rel_one (h2 i _ k _ hget hgk)⟩
        have hzs : ∀ j, j < rows.length * 3 → cs[off + j]? = some (cv (j / 3) (j % 3)) ∧ (cv (j / 3) (j % 3)).oneCell' = true := by
          intro j hj
          have := hz3 (j / 3) (j % 3) (by omega) (Nat.mod_lt _ (by decide))
          rw [show off + j / 3 * 3 + j % 3 = off + j from by omega] at this
          exact this
        have hgetz : ∀ j u, ((List.range (rows.length * 3)).map fun j => cv (j / 3) (j % 3))[j]? = some u → j < rows.length * 3 ∧ u = cv (j / 3) (j % 3) := by
          intro j u hj
          rw [List.getElem?_map] at hj
          by_cases hlt : j < rows.length * 3
          · rw [List.getElem?_range hlt] at hj
            simp only [Option.map_some, Option.some.injEq] at hj
            exact ⟨hlt, hj.symm⟩
          · rw [List.getElem?_eq_none (by simp; omega)] at hj; cases hj
        refine (clone_walk ⟨b, off, none⟩ rows.length cap ((List.range (rows.length * 3)).map fun j => cv (j / 3) (j % 3)) w (by simp) hc2 (fun j u hj => ?_) (fun u hu => ?_)).mono fun e w' ⟨v', he, hown, hbel⟩ => ?_
        · obtain ⟨hlt, rfl⟩ := hgetz j u hj
          rw [Addr.add_lit]
          simp [World.cell?, hblk, (hzs j hlt).1]
        · obtain ⟨j, hj⟩ := List.getElem?_of_mem hu
          obtain ⟨hlt, rfl⟩ := hgetz j u hj
          exact (hzs j hlt).2
        · subst he
          obtain ⟨_, hv⟩ := hown
          rcases hv with ⟨rfl, hn0⟩ | ⟨g, cap', cur, rfl, hge, hcur, hcap', _, hsz, htk⟩
          · obtain rfl : rows = [] := List.length_eq_zero_iff.1 hn0
            obtain ⟨I', η', k1, k2, k3, rfl, rfl⟩ := conc_below hC hbel
            exact ⟨_, rfl, _, _, k1, k2, k3, .i _ _ (.nil _ _ _ _ (fun h => by cases h))⟩
          · obtain ⟨I', η', k1, k2, k3, hI', hle⟩ := conc_new hC hbel hge hcur
            refine ⟨_, rfl, _, _, k1, k2, k3, .i _ _ ?_⟩
            refine .sl 3 rows false g 0 cap' cur 45 (0, 0) cv (by rw [hI', if_pos rfl]) hcap' (fun h => by cases h) hrr (fun i r k a hi hk => ?_) (fun i r k a hi hk => (h2 i r k a hi hk).mono hle)
            have hil : i < rows.length := (List.getElem?_eq_some_iff.1 hi).1
            have hkl : k < 3 := by
              have := (List.getElem?_eq_some_iff.1 hk).1
              rw [hrr i r hi] at this; exact this
            have hj : i * 3 + k < rows.length * 3 := by omega
            have : (cur.toList.take (rows.length * 3))[i * 3 + k]? = some (cv i k) := by
              rw [htk, List.getElem?_map, List.getElem?_range hj]
              simp only [Option.map_some, Option.some.injEq]
              rw [show (i * 3 + k) / 3 = i from by omega, show (i * 3 + k) % 3 = k from by omega]
            rw [List.getElem?_take_of_lt hj] at this
            rw [Nat.zero_add]
            simpa using this
    · cases hr
  · cases hr
end Go.VI

set_option linter.unusedSimpArgs false
set_option linter.unusedVariables false
namespace Go.VI
open Go.Proofs
theorem extOK : ExtOK E := by
  intro f h hf
  rcases E_extI f h hf with ⟨rfl, rfl⟩ | ⟨rfl, rfl⟩ | h2
  · exact ext_text
  · exact ext_clone
  · exact h2.elim
end Go.VI

namespace Go.VI
open Go.Proofs
set_option maxRecDepth 100000
set_option linter.unusedSimpArgs false
set_option linter.unusedVariables false
set_option maxHeartbeats 4000000
abbrev Gl := List UInt8 × Bool × Int
def rowsG (l : List Gl) : List (List IV) := l.map fun g => [.str g.1, .v (.bool g.2.1), .v (.int .i64 g.2.2)]
theorem rowsG_len (l : List Gl) : (rowsG l).length = l.length := by simp [rowsG]
theorem rowsG_at {l : List Gl} {k : Nat} (h : k < l.length) : (rowsG l)[k]? = some [.str l[k].1, .v (.bool l[k].2.1), .v (.int .i64 l[k].2.2)] := by simp [rowsG, h]
abbrev Sp := Nat × Nat
def atG (l : List Gl) (k : Nat) : Gl := l.getD k ([], false, 0)
theorem atG_eq {l : List Gl} {k : Nat} (h : k < l.length) : atG l k = l[k] := by rw [atG, List.getD_eq_getElem?_getD, List.getElem?_eq_getElem h]; rfl
theorem rowsG_D {l : List Gl} {k : Nat} (h : k < l.length) : (rowsG l)[k]? = some [.str (atG l k).1, .v (.bool (atG l k).2.1), .v (.int .i64 (atG l k).2.2)] := by rw [atG_eq h]; exact rowsG_at h
theorem drop_G {l : List Gl} {k : Nat} (h : k < l.length) : l.drop k = atG l k :: l.drop (k + 1) := by rw [atG_eq h]; exact List.drop_eq_getElem_cons h
end Go.VI

namespace Go.VI
open Go.Proofs
set_option maxRecDepth 100000
set_option linter.unusedSimpArgs false
set_option linter.unusedVariables false
set_option maxHeartbeats 4000000
theorem ran_true {f n : Nat} (h : (match call E n f [] [] with | some (.i (.v (.bool true)), _) => true | _ => false) = true) : ∃ L, callT E f [] [] = some (.i (.v (.bool true)), L) := by
  split at h
  · rename_i L hL; exact ⟨L, callT_of hL⟩
  · cases h
theorem ik9 (H : Hp) : isoK E (callT E) 9 [] H = some (.i (.v (.bool true)), H) := isoK_val rfl rfl rfl (ran_true (n := 400) (by kernel_rfl))
end Go.VI

namespace Go.VI
open Go.Proofs
set_option maxRecDepth 100000
set_option linter.unusedSimpArgs false
set_option linter.unusedVariables false
set_option maxHeartbeats 4000000
theorem eq_gl (a1 b1 : List UInt8) (a2 b2 : Bool) (a3 b3 : Int) : binE Tryd.prog .eql 45 (.agg [.i (.str a1), .i (.v (.bool a2)), .i (.v (.int .i64 a3))]) (.agg [.i (.str b1), .i (.v (.bool b2)), .i (.v (.int .i64 b3))]) = some (.i (.v (.bool ((a1 == b1) && ((a2 == b2) && (decide (a3 = b3) && true)))))) := by
  rw [be_aa]
  unfold eqE
  simp only
  rw [if_neg (by rw [eqg45]; decide), agg45, lv45]
  rfl
theorem ik24 (H : Hp) : isoK E (callT E) 24 [] H = some (.agg [.i (.str [32]), .i (.v (.bool false)), .i (.v (.int .i64 0))], H) := isoK_val rfl rfl rfl (by
  rw [callT_eq Tryd.func24 rfl fok24 (by simp [Tryd.ntmps24])]
  simp (disch := first | omega | (simp only [List.length_append, List.length_map, List.length_set, List.length_cons, List.length_nil, List.length_take, List.length_drop]; omega)) only [va0, va1, va2, va3, va4, va5, va6, va7, va8, va9, va10, va11, va12, va13, va14, va15, vb0, vb1, vb2, vb3, w_i8, w_u8, w_i16, w_u16, w_i32, w_u32, w_i64, w_u64, lt_T, lt_F, le_T, le_F, nlt_T, nlt_F, nle_T, nle_F, List.take_of_length_le, gB, gcW, gcR, posIn, renA, renL, Chunk.ren, Chunk.refs, evOpD, touchD, stepC, isFresh, nFresh, freshOf, mkR, hole, evL, evH, opd, get, putD, ofVal, cellOf, loadE, behind, lenE, idxAddrE, idxE, lookE, lookM, addPtr, intE, strE, unE, convE, AV.int, AV.bool, AV.str, ivs, take, frameOf, firstRegion, refsA, refsL, one, cellsA, floatOk, apartT, List.map, if_true, if_false, E_P, E_glob, reduceCtorEq, beq_self_eq_true, decide_true, decide_false, ↓reduceIte, Nat.reduceEqDiff, cond_true, cond_false, or_true, true_or, or_false, false_or, and_true, true_and, and_self, false_and, and_false, not_true, not_false_iff, Nat.reduceAdd, Nat.reduceSub, Nat.reduceMul, Nat.reduceLT, Nat.reduceLeDiff, Int.reduceToNat, Int.reduceLT, Int.reduceLE, Option.getD, Int.reduceMul, Int.reduceAdd, List.drop, List.take, Nat.reduceBEq, List.isEmpty, Int.reduceEq, Int.reduceNe, Int.reduceNeg, Int.reduceGT, Int.reduceGE, beq_true, beq_false, UInt8.reduceToNat, eqE, eq_self, foldE, maxE, minE, eq_T, eq_F, ndec, odec, adec, sdec, fillA, over, chop, List.replicate, leavesOk, leafOk, cellsEq, cellEq, E_byref, en24]
  exact ⟨_, rfl⟩)
def isBl (g : Gl) : Bool := (g.1 == [32]) && ((g.2.1 == false) && (decide (g.2.2 = 0) && true))
def trimN (l : List Gl) : Nat → Nat
  | 0 => 0
  | n + 1 => if isBl (atG l n) = true then trimN l n else n + 1
def trimS (l : List Gl) : List Gl := l.take (trimN l l.length)
theorem trimN_le (l : List Gl) : ∀ n, trimN l n ≤ n
  | 0 => Nat.le_refl _
  | n + 1 => by rw [trimN]; split; exact Nat.le_succ_of_le (trimN_le l n); exact Nat.le_refl _
theorem trimS_len (l : List Gl) : (trimS l).length ≤ l.length := by rw [trimS, List.length_take]; omega
theorem ik25 (rows : List (List IV)) (ex : Bool) (h : rows.length ≤ 1000000000) (H : Hp) : isoK E (callT E) 25 [.i (.sl 3 rows ex)] H = some (.i (.sl 3 rows false), H) :=
  isoK_ext (show E.ext 25 = some (extClone 3) from rfl) rfl rfl ⟨[], by simp [extClone, h]⟩
theorem l20 (l : List Gl) (hl : l.length ≤ 1000000) : ∀ n, n ≤ l.length →
    rl E 0 20 (loopAt Tryd.f20 0) [(0, .i (.sl 3 (rowsG l) false)), (3, .i (.v (.int .i64 n)))] [] = some (.exit 0, [(0, .i (.sl 3 (rowsG l) false)), (3, .i (.v (.int .i64 (trimN l n)))), (16, .i (.v (.bool false)))], []) := by
  intro n
  induction n with
  | zero =>
    intro hn
    rw [trimN]
    rw [rl_step (fn := Tryd.f20) (k := 0) rfl]
    simp (disch := first | omega | (simp only [List.length_append, List.length_map, List.length_set, List.length_cons, List.length_nil, List.length_take, List.length_drop, rowsG_len]; omega)) only [va0, va1, va2, va3, va4, va5, va6, va7, va8, va9, va10, va11, va12, va13, va14, va15, vb0, vb1, vb2, vb3, w_i8, w_u8, w_i16, w_u16, w_i32, w_u32, w_i64, w_u64, lt_T, lt_F, le_T, le_F, nlt_T, nlt_F, nle_T, nle_F, List.take_of_length_le, gB, gcW, gcR, posIn, renA, renL, Chunk.ren, Chunk.refs, evOpD, touchD, stepC, isFresh, nFresh, freshOf, mkR, hole, evL, evH, opd, get, putD, ofVal, cellOf, loadE, behind, lenE, idxAddrE, idxE, lookE, lookM, addPtr, intE, strE, unE, convE, AV.int, AV.bool, AV.str, ivs, take, frameOf, firstRegion, refsA, refsL, one, cellsA, floatOk, apartT, List.map, if_true, if_false, E_P, E_glob, reduceCtorEq, beq_self_eq_true, decide_true, decide_false, ↓reduceIte, Nat.reduceEqDiff, cond_true, cond_false, or_true, true_or, or_false, false_or, and_true, true_and, and_self, false_and, and_false, not_true, not_false_iff, Nat.reduceAdd, Nat.reduceSub, Nat.reduceMul, Nat.reduceLT, Nat.reduceLeDiff, Int.reduceToNat, Int.reduceLT, Int.reduceLE, Option.getD, Int.reduceMul, Int.reduceAdd, List.drop, List.take, Nat.reduceBEq, List.isEmpty, Int.reduceEq, Int.reduceNe, Int.reduceNeg, Int.reduceGT, Int.reduceGE, beq_true, beq_false, UInt8.reduceToNat, eqE, eq_self, foldE, maxE, minE, eq_T, eq_F, ndec, odec, adec, sdec, fillA, over, chop, List.replicate, leavesOk, leafOk, cellsEq, cellEq, E_byref, en20, bs36, rowsG_len, show ∀ B fr H, execT E B 20 (Code.loop _) fr H = rlG E B 20 (loopAt Tryd.f20 0) (gcn B (norm [0, 3] fr) H) from fun B fr H => rl_intro rfl mt20_2 mb20_2 zf20_2 hd20_2 fr H]
  | succ n ih =>
    intro hn
    have hrow := rowsG_D (show n < l.length from hn)
    have hn1 : ((n + 1 : Nat) : Int) - 1 = (n : Nat) := by omega
    rw [trimN]
    have hbl : binE Tryd.prog .eql 45 (.agg [.i (.str (atG l n).1), .i (.v (.bool (atG l n).2.1)), .i (.v (.int .i64 (atG l n).2.2))]) (.agg [.i (.str [32]), .i (.v (.bool false)), .i (.v (.int .i64 0))]) = some (.i (.v (.bool (isBl (atG l n))))) := eq_gl _ _ _ _ _ _
    generalize atG l n = g at *
    cases hb : isBl g with
    | true =>
      rw [hb] at hbl
      rw [if_pos rfl]
      refine Eq.trans ?_ (ih (by omega))
      clear ih
      rw [rl_step (fn := Tryd.f20) (k := 0) rfl]
      simp (disch := first | omega | (simp only [List.length_append, List.length_map, List.length_set, List.length_cons, List.length_nil, List.length_take, List.length_drop, rowsG_len]; omega)) only [va0, va1, va2, va3, va4, va5, va6, va7, va8, va9, va10, va11, va12, va13, va14, va15, vb0, vb1, vb2, vb3, w_i8, w_u8, w_i16, w_u16, w_i32, w_u32, w_i64, w_u64, lt_T, lt_F, le_T, le_F, nlt_T, nlt_F, nle_T, nle_F, List.take_of_length_le, gB, gcW, gcR, posIn, renA, renL, Chunk.ren, Chunk.refs, evOpD, touchD, stepC, isFresh, nFresh, freshOf, mkR, hole, evL, evH, opd, get, putD, ofVal, cellOf, loadE, behind, lenE, idxAddrE, idxE, lookE, lookM, addPtr, intE, strE, unE, convE, AV.int, AV.bool, AV.str, ivs, take, frameOf, firstRegion, refsA, refsL, one, cellsA, floatOk, apartT, List.map, if_true, if_false, E_P, E_glob, reduceCtorEq, beq_self_eq_true, decide_true, decide_false, ↓reduceIte, Nat.reduceEqDiff, cond_true, cond_false, or_true, true_or, or_false, false_or, and_true, true_and, and_self, false_and, and_false, not_true, not_false_iff, Nat.reduceAdd, Nat.reduceSub, Nat.reduceMul, Nat.reduceLT, Nat.reduceLeDiff, Int.reduceToNat, Int.reduceLT, Int.reduceLE, Option.getD, Int.reduceMul, Int.reduceAdd, List.drop, List.take, Nat.reduceBEq, List.isEmpty, Int.reduceEq, Int.reduceNe, Int.reduceNeg, Int.reduceGT, Int.reduceGE, beq_true, beq_false, UInt8.reduceToNat, eqE, eq_self, foldE, maxE, minE, eq_T, eq_F, ndec, odec, adec, sdec, fillA, over, chop, List.replicate, leavesOk, leafOk, cellsEq, cellEq, E_byref, en20, bs36, hrow, hn1, Int.toNat_natCast, ik24, hbl, rowsG_len, show ∀ B fr H, execT E B 20 (Code.loop _) fr H = rlG E B 20 (loopAt Tryd.f20 0) (gcn B (norm [0, 3] fr) H) from fun B fr H => rl_intro rfl mt20_2 mb20_2 zf20_2 hd20_2 fr H]
    | false =>
      rw [hb] at hbl
      rw [if_neg (by decide)]
      clear ih
      rw [rl_step (fn := Tryd.f20) (k := 0) rfl]
      simp (disch := first | omega | (simp only [List.length_append, List.length_map, List.length_set, List.length_cons, List.length_nil, List.length_take, List.length_drop, rowsG_len]; omega)) only [va0, va1, va2, va3, va4, va5, va6, va7, va8, va9, va10, va11, va12, va13, va14, va15, vb0, vb1, vb2, vb3, w_i8, w_u8, w_i16, w_u16, w_i32, w_u32, w_i64, w_u64, lt_T, lt_F, le_T, le_F, nlt_T, nlt_F, nle_T, nle_F, List.take_of_length_le, gB, gcW, gcR, posIn, renA, renL, Chunk.ren, Chunk.refs, evOpD, touchD, stepC, isFresh, nFresh, freshOf, mkR, hole, evL, evH, opd, get, putD, ofVal, cellOf, loadE, behind, lenE, idxAddrE, idxE, lookE, lookM, addPtr, intE, strE, unE, convE, AV.int, AV.bool, AV.str, ivs, take, frameOf, firstRegion, refsA, refsL, one, cellsA, floatOk, apartT, List.map, if_true, if_false, E_P, E_glob, reduceCtorEq, beq_self_eq_true, decide_true, decide_false, ↓reduceIte, Nat.reduceEqDiff, cond_true, cond_false, or_true, true_or, or_false, false_or, and_true, true_and, and_self, false_and, and_false, not_true, not_false_iff, Nat.reduceAdd, Nat.reduceSub, Nat.reduceMul, Nat.reduceLT, Nat.reduceLeDiff, Int.reduceToNat, Int.reduceLT, Int.reduceLE, Option.getD, Int.reduceMul, Int.reduceAdd, List.drop, List.take, Nat.reduceBEq, List.isEmpty, Int.reduceEq, Int.reduceNe, Int.reduceNeg, Int.reduceGT, Int.reduceGE, beq_true, beq_false, UInt8.reduceToNat, eqE, eq_self, foldE, maxE, minE, eq_T, eq_F, ndec, odec, adec, sdec, fillA, over, chop, List.replicate, leavesOk, leafOk, cellsEq, cellEq, E_byref, en20, bs36, hrow, hn1, Int.toNat_natCast, ik24, hbl, rowsG_len, show ∀ B fr H, execT E B 20 (Code.loop _) fr H = rlG E B 20 (loopAt Tryd.f20 0) (gcn B (norm [0, 3] fr) H) from fun B fr H => rl_intro rfl mt20_2 mb20_2 zf20_2 hd20_2 fr H]
theorem rowsG_take (l : List Gl) (n : Nat) : (rowsG l).take n = rowsG (l.take n) := by simp [rowsG, List.map_take]
theorem c20 (l : List Gl) (hl : l.length ≤ 1000000) : ∃ L, callT E 20 [.i (.sl 3 (rowsG l) false)] [] = some (.i (.sl 3 (rowsG (trimS l)) false), L) := by
  have h := l20 l hl l.length (Nat.le_refl _)
  have htn := trimN_le l l.length
  have htk := rowsG_take l (trimN l l.length)
  unfold trimS
  have hcl := fun rows ex h H => ik25 rows ex h H
  have hlt : (rowsG (l.take (trimN l l.length))).length = trimN l l.length := by rw [rowsG_len, List.length_take]; omega
  generalize trimN l l.length = n at *
  rw [callT_eq Tryd.func20 rfl fok20 (by simp [Tryd.ntmps20])]
  simp (disch := first | omega | (simp only [List.length_append, List.length_map, List.length_set, List.length_cons, List.length_nil, List.length_take, List.length_drop, rowsG_len, hlt]; omega)) only [va0, va1, va2, va3, va4, va5, va6, va7, va8, va9, va10, va11, va12, va13, va14, va15, vb0, vb1, vb2, vb3, w_i8, w_u8, w_i16, w_u16, w_i32, w_u32, w_i64, w_u64, lt_T, lt_F, le_T, le_F, nlt_T, nlt_F, nle_T, nle_F, List.take_of_length_le, gB, gcW, gcR, posIn, renA, renL, Chunk.ren, Chunk.refs, evOpD, touchD, stepC, isFresh, nFresh, freshOf, mkR, hole, evL, evH, opd, get, putD, ofVal, cellOf, loadE, behind, lenE, idxAddrE, idxE, lookE, lookM, addPtr, intE, strE, unE, convE, AV.int, AV.bool, AV.str, ivs, take, frameOf, firstRegion, refsA, refsL, one, cellsA, floatOk, apartT, List.map, if_true, if_false, E_P, E_glob, reduceCtorEq, beq_self_eq_true, decide_true, decide_false, ↓reduceIte, Nat.reduceEqDiff, cond_true, cond_false, or_true, true_or, or_false, false_or, and_true, true_and, and_self, false_and, and_false, not_true, not_false_iff, Nat.reduceAdd, Nat.reduceSub, Nat.reduceMul, Nat.reduceLT, Nat.reduceLeDiff, Int.reduceToNat, Int.reduceLT, Int.reduceLE, Option.getD, Int.reduceMul, Int.reduceAdd, List.drop, List.take, Nat.reduceBEq, List.isEmpty, Int.reduceEq, Int.reduceNe, Int.reduceNeg, Int.reduceGT, Int.reduceGE, beq_true, beq_false, UInt8.reduceToNat, eqE, eq_self, foldE, maxE, minE, eq_T, eq_F, ndec, odec, adec, sdec, fillA, over, chop, List.replicate, leavesOk, leafOk, cellsEq, cellEq, E_byref, en20, bs36, h, htk, hlt, hcl, Int.toNat_natCast, Nat.sub_zero, rowsG_len, show ∀ B fr H, execT E B 20 (Code.loop _) fr H = rlG E B 20 (loopAt Tryd.f20 0) (gcn B (norm [0, 3] fr) H) from fun B fr H => rl_intro rfl mt20_2 mb20_2 zf20_2 hd20_2 fr H]
  exact ⟨_, rfl⟩
theorem ik20 (l : List Gl) (hl : l.length ≤ 1000000) (H : Hp) : isoK E (callT E) 20 [.i (.sl 3 (rowsG l) false)] H = some (.i (.sl 3 (rowsG (trimS l)) false), H) := isoK_val rfl rfl rfl (c20 l hl)
def wideN : List Gl → Nat
  | [] => 0
  | g :: r => (if g.2.1 = true then 1 else 0) + wideN r
theorem l21 (l : List Gl) (hl : l.length ≤ 1000000) : ∀ (m k : Nat) (d : Nat), k + m = l.length → d ≤ 3000000 - m →
    rl E 0 21 (loopAt Tryd.f21 0) [(3, .i (.v (.int .i64 d))), (8, .i (.sl 3 (rowsG l) false)), (9, .i (.v (.int .i64 l.length))), (10, .i (.v (.int .i64 k)))] [] =
      some (.exit 0, [(3, .i (.v (.int .i64 (d + wideN (l.drop k) : Nat)))), (8, .i (.sl 3 (rowsG l) false)), (9, .i (.v (.int .i64 l.length))), (10, .i (.v (.int .i64 l.length))), (11, .i (.v (.bool false)))], []) := by
  intro m
  induction m with
  | zero =>
    intro k d hk hd
    obtain rfl : k = l.length := by omega
    rw [List.drop_length, wideN, Nat.add_zero]
    rw [rl_step (fn := Tryd.f21) (k := 0) rfl]
    simp (disch := first | omega | (simp only [List.length_append, List.length_map, List.length_set, List.length_cons, List.length_nil, List.length_take, List.length_drop, rowsG_len]; omega)) only [va0, va1, va2, va3, va4, va5, va6, va7, va8, va9, va10, va11, va12, va13, va14, va15, vb0, vb1, vb2, vb3, w_i8, w_u8, w_i16, w_u16, w_i32, w_u32, w_i64, w_u64, lt_T, lt_F, le_T, le_F, nlt_T, nlt_F, nle_T, nle_F, List.take_of_length_le, gB, gcW, gcR, posIn, renA, renL, Chunk.ren, Chunk.refs, evOpD, touchD, stepC, isFresh, nFresh, freshOf, mkR, hole, evL, evH, opd, get, putD, ofVal, cellOf, loadE, behind, lenE, idxAddrE, idxE, lookE, lookM, addPtr, intE, strE, unE, convE, AV.int, AV.bool, AV.str, ivs, take, frameOf, firstRegion, refsA, refsL, one, cellsA, floatOk, apartT, List.map, if_true, if_false, E_P, E_glob, reduceCtorEq, beq_self_eq_true, decide_true, decide_false, ↓reduceIte, Nat.reduceEqDiff, cond_true, cond_false, or_true, true_or, or_false, false_or, and_true, true_and, and_self, false_and, and_false, not_true, not_false_iff, Nat.reduceAdd, Nat.reduceSub, Nat.reduceMul, Nat.reduceLT, Nat.reduceLeDiff, Int.reduceToNat, Int.reduceLT, Int.reduceLE, Option.getD, Int.reduceMul, Int.reduceAdd, List.drop, List.take, Nat.reduceBEq, List.isEmpty, Int.reduceEq, Int.reduceNe, Int.reduceNeg, Int.reduceGT, Int.reduceGE, beq_true, beq_false, UInt8.reduceToNat, eqE, eq_self, foldE, maxE, minE, eq_T, eq_F, ndec, odec, adec, sdec, fillA, over, chop, List.replicate, leavesOk, leafOk, cellsEq, cellEq, E_byref, en21, bs36, rowsG_len, show ∀ B fr H, execT E B 21 (Code.loop _) fr H = rlG E B 21 (loopAt Tryd.f21 0) (gcn B (norm [3, 8, 9, 10] fr) H) from fun B fr H => rl_intro rfl mt21_3 mb21_3 zf21_3 hd21_3 fr H]
  | succ m ih =>
    intro k d hk hd
    have hlt : k < l.length := by omega
    have hrow := rowsG_D hlt
    rw [drop_G hlt, wideN]
    generalize atG l k = g at *
    obtain ⟨t, w, s⟩ := g
    simp only at hrow ⊢
    cases w with
    | true =>
      have e := ih (k + 1) (d + 1) (by omega) (by omega)
      rw [if_pos rfl, ← Nat.add_assoc]
      refine Eq.trans ?_ e
      clear e ih
      rw [rl_step (fn := Tryd.f21) (k := 0) rfl]
      simp (disch := first | omega | (simp only [List.length_append, List.length_map, List.length_set, List.length_cons, List.length_nil, List.length_take, List.length_drop, rowsG_len]; omega)) only [va0, va1, va2, va3, va4, va5, va6, va7, va8, va9, va10, va11, va12, va13, va14, va15, vb0, vb1, vb2, vb3, w_i8, w_u8, w_i16, w_u16, w_i32, w_u32, w_i64, w_u64, lt_T, lt_F, le_T, le_F, nlt_T, nlt_F, nle_T, nle_F, List.take_of_length_le, gB, gcW, gcR, posIn, renA, renL, Chunk.ren, Chunk.refs, evOpD, touchD, stepC, isFresh, nFresh, freshOf, mkR, hole, evL, evH, opd, get, putD, ofVal, cellOf, loadE, behind, lenE, idxAddrE, idxE, lookE, lookM, addPtr, intE, strE, unE, convE, AV.int, AV.bool, AV.str, ivs, take, frameOf, firstRegion, refsA, refsL, one, cellsA, floatOk, apartT, List.map, if_true, if_false, E_P, E_glob, reduceCtorEq, beq_self_eq_true, decide_true, decide_false, ↓reduceIte, Nat.reduceEqDiff, cond_true, cond_false, or_true, true_or, or_false, false_or, and_true, true_and, and_self, false_and, and_false, not_true, not_false_iff, Nat.reduceAdd, Nat.reduceSub, Nat.reduceMul, Nat.reduceLT, Nat.reduceLeDiff, Int.reduceToNat, Int.reduceLT, Int.reduceLE, Option.getD, Int.reduceMul, Int.reduceAdd, List.drop, List.take, Nat.reduceBEq, List.isEmpty, Int.reduceEq, Int.reduceNe, Int.reduceNeg, Int.reduceGT, Int.reduceGE, beq_true, beq_false, UInt8.reduceToNat, eqE, eq_self, foldE, maxE, minE, eq_T, eq_F, ndec, odec, adec, sdec, fillA, over, chop, List.replicate, leavesOk, leafOk, cellsEq, cellEq, E_byref, en21, bs36, hrow, rowsG_len, show ∀ B fr H, execT E B 21 (Code.loop _) fr H = rlG E B 21 (loopAt Tryd.f21 0) (gcn B (norm [3, 8, 9, 10] fr) H) from fun B fr H => rl_intro rfl mt21_3 mb21_3 zf21_3 hd21_3 fr H]
    | false =>
      have e := ih (k + 1) d (by omega) (by omega)
      rw [if_neg (by decide), Nat.zero_add]
      refine Eq.trans ?_ e
      clear e ih
      rw [rl_step (fn := Tryd.f21) (k := 0) rfl]
      simp (disch := first | omega | (simp only [List.length_append, List.length_map, List.length_set, List.length_cons, List.length_nil, List.length_take, List.length_drop, rowsG_len]; omega)) only [va0, va1, va2, va3, va4, va5, va6, va7, va8, va9, va10, va11, va12, va13, va14, va15, vb0, vb1, vb2, vb3, w_i8, w_u8, w_i16, w_u16, w_i32, w_u32, w_i64, w_u64, lt_T, lt_F, le_T, le_F, nlt_T, nlt_F, nle_T, nle_F, List.take_of_length_le, gB, gcW, gcR, posIn, renA, renL, Chunk.ren, Chunk.refs, evOpD, touchD, stepC, isFresh, nFresh, freshOf, mkR, hole, evL, evH, opd, get, putD, ofVal, cellOf, loadE, behind, lenE, idxAddrE, idxE, lookE, lookM, addPtr, intE, strE, unE, convE, AV.int, AV.bool, AV.str, ivs, take, frameOf, firstRegion, refsA, refsL, one, cellsA, floatOk, apartT, List.map, if_true, if_false, E_P, E_glob, reduceCtorEq, beq_self_eq_true, decide_true, decide_false, ↓reduceIte, Nat.reduceEqDiff, cond_true, cond_false, or_true, true_or, or_false, false_or, and_true, true_and, and_self, false_and, and_false, not_true, not_false_iff, Nat.reduceAdd, Nat.reduceSub, Nat.reduceMul, Nat.reduceLT, Nat.reduceLeDiff, Int.reduceToNat, Int.reduceLT, Int.reduceLE, Option.getD, Int.reduceMul, Int.reduceAdd, List.drop, List.take, Nat.reduceBEq, List.isEmpty, Int.reduceEq, Int.reduceNe, Int.reduceNeg, Int.reduceGT, Int.reduceGE, beq_true, beq_false, UInt8.reduceToNat, eqE, eq_self, foldE, maxE, minE, eq_T, eq_F, ndec, odec, adec, sdec, fillA, over, chop, List.replicate, leavesOk, leafOk, cellsEq, cellEq, E_byref, en21, bs36, hrow, rowsG_len, show ∀ B fr H, execT E B 21 (Code.loop _) fr H = rlG E B 21 (loopAt Tryd.f21 0) (gcn B (norm [3, 8, 9, 10] fr) H) from fun B fr H => rl_intro rfl mt21_3 mb21_3 zf21_3 hd21_3 fr H]
def widthS (l : List Gl) : Nat := l.length + wideN l
theorem c21 (l : List Gl) (hl : l.length ≤ 1000000) : ∃ L, callT E 21 [.i (.sl 3 (rowsG l) false)] [] = some (.i (.v (.int .i64 (widthS l))), L) := by
  have h := l21 l hl l.length 0 l.length (by omega) (by omega)
  rw [List.drop_zero] at h
  have h' : rl E 0 21 (loopAt Tryd.f21 0) [(3, .i (.v (.int .i64 l.length))), (8, .i (.sl 3 (rowsG l) false)), (9, .i (.v (.int .i64 l.length))), (10, .i (.v (.int .i64 0)))] [] = _ := h
  clear h
  rw [show l.length + wideN l = widthS l from rfl] at h'
  generalize widthS l = n at *
  rw [callT_eq Tryd.func21 rfl fok21 (by simp [Tryd.ntmps21])]
  simp (disch := first | omega | (simp only [List.length_append, List.length_map, List.length_set, List.length_cons, List.length_nil, List.length_take, List.length_drop, rowsG_len]; omega)) only [va0, va1, va2, va3, va4, va5, va6, va7, va8, va9, va10, va11, va12, va13, va14, va15, vb0, vb1, vb2, vb3, w_i8, w_u8, w_i16, w_u16, w_i32, w_u32, w_i64, w_u64, lt_T, lt_F, le_T, le_F, nlt_T, nlt_F, nle_T, nle_F, List.take_of_length_le, gB, gcW, gcR, posIn, renA, renL, Chunk.ren, Chunk.refs, evOpD, touchD, stepC, isFresh, nFresh, freshOf, mkR, hole, evL, evH, opd, get, putD, ofVal, cellOf, loadE, behind, lenE, idxAddrE, idxE, lookE, lookM, addPtr, intE, strE, unE, convE, AV.int, AV.bool, AV.str, ivs, take, frameOf, firstRegion, refsA, refsL, one, cellsA, floatOk, apartT, List.map, if_true, if_false, E_P, E_glob, reduceCtorEq, beq_self_eq_true, decide_true, decide_false, ↓reduceIte, Nat.reduceEqDiff, cond_true, cond_false, or_true, true_or, or_false, false_or, and_true, true_and, and_self, false_and, and_false, not_true, not_false_iff, Nat.reduceAdd, Nat.reduceSub, Nat.reduceMul, Nat.reduceLT, Nat.reduceLeDiff, Int.reduceToNat, Int.reduceLT, Int.reduceLE, Option.getD, Int.reduceMul, Int.reduceAdd, List.drop, List.take, Nat.reduceBEq, List.isEmpty, Int.reduceEq, Int.reduceNe, Int.reduceNeg, Int.reduceGT, Int.reduceGE, beq_true, beq_false, UInt8.reduceToNat, eqE, eq_self, foldE, maxE, minE, eq_T, eq_F, ndec, odec, adec, sdec, fillA, over, chop, List.replicate, leavesOk, leafOk, cellsEq, cellEq, E_byref, en21, bs36, h', rowsG_len, show ∀ B fr H, execT E B 21 (Code.loop _) fr H = rlG E B 21 (loopAt Tryd.f21 0) (gcn B (norm [3, 8, 9, 10] fr) H) from fun B fr H => rl_intro rfl mt21_3 mb21_3 zf21_3 hd21_3 fr H]
  exact ⟨_, rfl⟩
theorem ik21 (l : List Gl) (hl : l.length ≤ 1000000) (H : Hp) : isoK E (callT E) 21 [.i (.sl 3 (rowsG l) false)] H = some (.i (.v (.int .i64 (widthS l))), H) := isoK_val rfl rfl rfl (c21 l hl)
def textS (l : List Gl) : List UInt8 := (l.map fun g => g.1).flatten
theorem textOf_rowsG : ∀ l : List Gl, textOf (rowsG l) = some (textS l)
  | [] => rfl
  | g :: r => by
    have ih := textOf_rowsG r
    show textOf ([.str g.1, .v (.bool g.2.1), .v (.int .i64 g.2.2)] :: rowsG r) = _
    rw [textOf, ih]; rfl
theorem ik23 (l : List Gl) (ex : Bool) (hl : l.length ≤ 1000000) (ht : (textS l).length ≤ 140737488355328) (H : Hp) : isoK E (callT E) 23 [.i (.sl 3 (rowsG l) ex)] H = some (.i (.str (textS l)), H) :=
  isoK_ext (show E.ext 23 = some extText from rfl) rfl rfl ⟨[], by simp [extText, textOf_rowsG, ht, rowsG_len]; omega⟩
end Go.VI

namespace Go.VI
open Go.Proofs
set_option maxRecDepth 100000
set_option linter.unusedSimpArgs false
set_option linter.unusedVariables false
set_option maxHeartbeats 4000000
def rN (s : List UInt8) : Nat → Nat
  | 0 => 0
  | n + 1 => if s.getD n 0 = 32 then rN s n else n + 1
def trimB (s : List UInt8) : List UInt8 := s.take (rN s s.length)
theorem l26 (s : List UInt8) (hl : s.length ≤ 140737488355328) : ∀ n, n ≤ s.length →
    rl E 0 26 (loopAt Tryd.f26 0) [(0, .i (.str (s.take n))), (1, .i (.v (.int .u8 32)))] [] = some (.exit 0, [(0, .i (.str (s.take (rN s n)))), (1, .i (.v (.int .u8 32))), (16, .i (.v (.bool false)))], []) := by
  intro n
  induction n with
  | zero =>
    intro hn
    rw [rN, List.take_zero]
    rw [rl_step (fn := Tryd.f26) (k := 0) rfl]
    simp (disch := first | omega | (simp only [List.length_append, List.length_map, List.length_set, List.length_cons, List.length_nil, List.length_take, List.length_drop]; omega)) only [va0, va1, va2, va3, va4, va5, va6, va7, va8, va9, va10, va11, va12, va13, va14, va15, vb0, vb1, vb2, vb3, w_i8, w_u8, w_i16, w_u16, w_i32, w_u32, w_i64, w_u64, lt_T, lt_F, le_T, le_F, nlt_T, nlt_F, nle_T, nle_F, List.take_of_length_le, gB, gcW, gcR, posIn, renA, renL, Chunk.ren, Chunk.refs, evOpD, touchD, stepC, isFresh, nFresh, freshOf, mkR, hole, evL, evH, opd, get, putD, ofVal, cellOf, loadE, behind, lenE, idxAddrE, idxE, lookE, lookM, addPtr, intE, strE, unE, convE, AV.int, AV.bool, AV.str, ivs, take, frameOf, firstRegion, refsA, refsL, one, cellsA, floatOk, apartT, List.map, if_true, if_false, E_P, E_glob, reduceCtorEq, beq_self_eq_true, decide_true, decide_false, ↓reduceIte, Nat.reduceEqDiff, cond_true, cond_false, or_true, true_or, or_false, false_or, and_true, true_and, and_self, false_and, and_false, not_true, not_false_iff, Nat.reduceAdd, Nat.reduceSub, Nat.reduceMul, Nat.reduceLT, Nat.reduceLeDiff, Int.reduceToNat, Int.reduceLT, Int.reduceLE, Option.getD, Int.reduceMul, Int.reduceAdd, List.drop, List.take, Nat.reduceBEq, List.isEmpty, Int.reduceEq, Int.reduceNe, Int.reduceNeg, Int.reduceGT, Int.reduceGE, beq_true, beq_false, UInt8.reduceToNat, eqE, eq_self, foldE, maxE, minE, eq_T, eq_F, ndec, odec, adec, sdec, fillA, over, chop, List.replicate, leavesOk, leafOk, cellsEq, cellEq, E_byref, en26, show ∀ B fr H, execT E B 26 (Code.loop _) fr H = rlG E B 26 (loopAt Tryd.f26 0) (gcn B (norm [0, 1] fr) H) from fun B fr H => rl_intro rfl mt26_1 mb26_1 zf26_1 hd26_1 fr H]
  | succ n ih =>
    intro hn
    have hlt : n < s.length := hn
    have hget : (s.take (n + 1))[n]? = some (s.getD n 0) := by
      rw [List.getElem?_take_of_lt (Nat.lt_succ_self n), List.getD_eq_getElem?_getD, List.getElem?_eq_getElem hlt]; rfl
    have hlen : (s.take (n + 1)).length = n + 1 := by rw [List.length_take]; omega
    have hn1 : ((n + 1 : Nat) : Int) - 1 = (n : Nat) := by omega
    have htt : (s.take (n + 1)).take n = s.take n := by rw [List.take_take, Nat.min_eq_left (by omega)]
    rw [rN]
    by_cases hb : s.getD n 0 = 32
    · rw [if_pos hb]
      rw [hb] at hget
      refine Eq.trans ?_ (ih (by omega))
      clear ih
      generalize s.take (n + 1) = q at *
      rw [rl_step (fn := Tryd.f26) (k := 0) rfl]
      simp (disch := first | omega | (simp only [List.length_append, List.length_map, List.length_set, List.length_cons, List.length_nil, List.length_take, List.length_drop, hlen]; omega)) only [va0, va1, va2, va3, va4, va5, va6, va7, va8, va9, va10, va11, va12, va13, va14, va15, vb0, vb1, vb2, vb3, w_i8, w_u8, w_i16, w_u16, w_i32, w_u32, w_i64, w_u64, lt_T, lt_F, le_T, le_F, nlt_T, nlt_F, nle_T, nle_F, List.take_of_length_le, gB, gcW, gcR, posIn, renA, renL, Chunk.ren, Chunk.refs, evOpD, touchD, stepC, isFresh, nFresh, freshOf, mkR, hole, evL, evH, opd, get, putD, ofVal, cellOf, loadE, behind, lenE, idxAddrE, idxE, lookE, lookM, addPtr, intE, strE, unE, convE, AV.int, AV.bool, AV.str, ivs, take, frameOf, firstRegion, refsA, refsL, one, cellsA, floatOk, apartT, List.map, if_true, if_false, E_P, E_glob, reduceCtorEq, beq_self_eq_true, decide_true, decide_false, ↓reduceIte, Nat.reduceEqDiff, cond_true, cond_false, or_true, true_or, or_false, false_or, and_true, true_and, and_self, false_and, and_false, not_true, not_false_iff, Nat.reduceAdd, Nat.reduceSub, Nat.reduceMul, Nat.reduceLT, Nat.reduceLeDiff, Int.reduceToNat, Int.reduceLT, Int.reduceLE, Option.getD, Int.reduceMul, Int.reduceAdd, List.drop, List.take, Nat.reduceBEq, List.isEmpty, Int.reduceEq, Int.reduceNe, Int.reduceNeg, Int.reduceGT, Int.reduceGE, beq_true, beq_false, UInt8.reduceToNat, eqE, eq_self, foldE, maxE, minE, eq_T, eq_F, ndec, odec, adec, sdec, fillA, over, chop, List.replicate, leavesOk, leafOk, cellsEq, cellEq, E_byref, en26, hget, hlen, hn1, htt, Int.toNat_natCast, Nat.sub_zero, show ∀ B fr H, execT E B 26 (Code.loop _) fr H = rlG E B 26 (loopAt Tryd.f26 0) (gcn B (norm [0, 1] fr) H) from fun B fr H => rl_intro rfl mt26_1 mb26_1 zf26_1 hd26_1 fr H]
    · rw [if_neg hb]
      clear ih
      have hb2 : ¬ ((s.getD n 0).toNat : Int) = 32 := by
        intro h
        apply hb
        have : (s.getD n 0).toNat = 32 := by omega
        exact UInt8.toNat_inj.1 this
      generalize s.getD n 0 = c at *
      generalize s.take (n + 1) = q at *
      rw [rl_step (fn := Tryd.f26) (k := 0) rfl]
      simp (disch := first | omega | (simp only [List.length_append, List.length_map, List.length_set, List.length_cons, List.length_nil, List.length_take, List.length_drop, hlen]; omega)) only [va0, va1, va2, va3, va4, va5, va6, va7, va8, va9, va10, va11, va12, va13, va14, va15, vb0, vb1, vb2, vb3, w_i8, w_u8, w_i16, w_u16, w_i32, w_u32, w_i64, w_u64, lt_T, lt_F, le_T, le_F, nlt_T, nlt_F, nle_T, nle_F, List.take_of_length_le, gB, gcW, gcR, posIn, renA, renL, Chunk.ren, Chunk.refs, evOpD, touchD, stepC, isFresh, nFresh, freshOf, mkR, hole, evL, evH, opd, get, putD, ofVal, cellOf, loadE, behind, lenE, idxAddrE, idxE, lookE, lookM, addPtr, intE, strE, unE, convE, AV.int, AV.bool, AV.str, ivs, take, frameOf, firstRegion, refsA, refsL, one, cellsA, floatOk, apartT, List.map, if_true, if_false, E_P, E_glob, reduceCtorEq, beq_self_eq_true, decide_true, decide_false, ↓reduceIte, Nat.reduceEqDiff, cond_true, cond_false, or_true, true_or, or_false, false_or, and_true, true_and, and_self, false_and, and_false, not_true, not_false_iff, Nat.reduceAdd, Nat.reduceSub, Nat.reduceMul, Nat.reduceLT, Nat.reduceLeDiff, Int.reduceToNat, Int.reduceLT, Int.reduceLE, Option.getD, Int.reduceMul, Int.reduceAdd, List.drop, List.take, Nat.reduceBEq, List.isEmpty, Int.reduceEq, Int.reduceNe, Int.reduceNeg, Int.reduceGT, Int.reduceGE, beq_true, beq_false, UInt8.reduceToNat, eqE, eq_self, foldE, maxE, minE, eq_T, eq_F, ndec, odec, adec, sdec, fillA, over, chop, List.replicate, leavesOk, leafOk, cellsEq, cellEq, E_byref, en26, hget, hlen, hn1, htt, hb2, Int.toNat_natCast, Nat.sub_zero, show ∀ B fr H, execT E B 26 (Code.loop _) fr H = rlG E B 26 (loopAt Tryd.f26 0) (gcn B (norm [0, 1] fr) H) from fun B fr H => rl_intro rfl mt26_1 mb26_1 zf26_1 hd26_1 fr H]
theorem c26 (s : List UInt8) (hl : s.length ≤ 140737488355328) : ∃ L, callT E 26 [.i (.str s), .i (.v (.int .u8 32))] [] = some (.i (.str (trimB s)), L) := by
  have h := l26 s hl s.length (Nat.le_refl _)
  rw [List.take_length] at h
  rw [show s.take (rN s s.length) = trimB s from rfl] at h
  generalize trimB s = t at *
  rw [callT_eq Tryd.func26 rfl fok26 (by simp [Tryd.ntmps26])]
  simp (disch := first | omega | (simp only [List.length_append, List.length_map, List.length_set, List.length_cons, List.length_nil, List.length_take, List.length_drop]; omega)) only [va0, va1, va2, va3, va4, va5, va6, va7, va8, va9, va10, va11, va12, va13, va14, va15, vb0, vb1, vb2, vb3, w_i8, w_u8, w_i16, w_u16, w_i32, w_u32, w_i64, w_u64, lt_T, lt_F, le_T, le_F, nlt_T, nlt_F, nle_T, nle_F, List.take_of_length_le, gB, gcW, gcR, posIn, renA, renL, Chunk.ren, Chunk.refs, evOpD, touchD, stepC, isFresh, nFresh, freshOf, mkR, hole, evL, evH, opd, get, putD, ofVal, cellOf, loadE, behind, lenE, idxAddrE, idxE, lookE, lookM, addPtr, intE, strE, unE, convE, AV.int, AV.bool, AV.str, ivs, take, frameOf, firstRegion, refsA, refsL, one, cellsA, floatOk, apartT, List.map, if_true, if_false, E_P, E_glob, reduceCtorEq, beq_self_eq_true, decide_true, decide_false, ↓reduceIte, Nat.reduceEqDiff, cond_true, cond_false, or_true, true_or, or_false, false_or, and_true, true_and, and_self, false_and, and_false, not_true, not_false_iff, Nat.reduceAdd, Nat.reduceSub, Nat.reduceMul, Nat.reduceLT, Nat.reduceLeDiff, Int.reduceToNat, Int.reduceLT, Int.reduceLE, Option.getD, Int.reduceMul, Int.reduceAdd, List.drop, List.take, Nat.reduceBEq, List.isEmpty, Int.reduceEq, Int.reduceNe, Int.reduceNeg, Int.reduceGT, Int.reduceGE, beq_true, beq_false, UInt8.reduceToNat, eqE, eq_self, foldE, maxE, minE, eq_T, eq_F, ndec, odec, adec, sdec, fillA, over, chop, List.replicate, leavesOk, leafOk, cellsEq, cellEq, E_byref, en26, h, show ∀ B fr H, execT E B 26 (Code.loop _) fr H = rlG E B 26 (loopAt Tryd.f26 0) (gcn B (norm [0, 1] fr) H) from fun B fr H => rl_intro rfl mt26_1 mb26_1 zf26_1 hd26_1 fr H]
  exact ⟨_, rfl⟩
theorem ik26 (s : List UInt8) (hl : s.length ≤ 140737488355328) (H : Hp) : isoK E (callT E) 26 [.i (.str s), .i (.v (.int .u8 32))] H = some (.i (.str (trimB s)), H) := isoK_val rfl rfl rfl (c26 s hl)
theorem c22 (s : List UInt8) (hl : s.length ≤ 140737488355328) : ∃ L, callT E 22 [.i (.str s), .i (.str [32])] [] = some (.i (.str (trimB s)), L) := by
  have h := fun H => ik26 s hl H
  cases s with
  | nil =>
    rw [show trimB [] = [] from rfl]
    rw [callT_eq Tryd.func22 rfl fok22 (by simp [Tryd.ntmps22])]
    simp (disch := first | omega | (simp only [List.length_append, List.length_map, List.length_set, List.length_cons, List.length_nil, List.length_take, List.length_drop]; omega)) only [va0, va1, va2, va3, va4, va5, va6, va7, va8, va9, va10, va11, va12, va13, va14, va15, vb0, vb1, vb2, vb3, w_i8, w_u8, w_i16, w_u16, w_i32, w_u32, w_i64, w_u64, lt_T, lt_F, le_T, le_F, nlt_T, nlt_F, nle_T, nle_F, List.take_of_length_le, gB, gcW, gcR, posIn, renA, renL, Chunk.ren, Chunk.refs, evOpD, touchD, stepC, isFresh, nFresh, freshOf, mkR, hole, evL, evH, opd, get, putD, ofVal, cellOf, loadE, behind, lenE, idxAddrE, idxE, lookE, lookM, addPtr, intE, strE, unE, convE, AV.int, AV.bool, AV.str, ivs, take, frameOf, firstRegion, refsA, refsL, one, cellsA, floatOk, apartT, List.map, if_true, if_false, E_P, E_glob, reduceCtorEq, beq_self_eq_true, decide_true, decide_false, ↓reduceIte, Nat.reduceEqDiff, cond_true, cond_false, or_true, true_or, or_false, false_or, and_true, true_and, and_self, false_and, and_false, not_true, not_false_iff, Nat.reduceAdd, Nat.reduceSub, Nat.reduceMul, Nat.reduceLT, Nat.reduceLeDiff, Int.reduceToNat, Int.reduceLT, Int.reduceLE, Option.getD, Int.reduceMul, Int.reduceAdd, List.drop, List.take, Nat.reduceBEq, List.isEmpty, Int.reduceEq, Int.reduceNe, Int.reduceNeg, Int.reduceGT, Int.reduceGE, beq_true, beq_false, UInt8.reduceToNat, eqE, eq_self, foldE, maxE, minE, eq_T, eq_F, ndec, odec, adec, sdec, fillA, over, chop, List.replicate, leavesOk, leafOk, cellsEq, cellEq, E_byref, en22]
    exact ⟨_, rfl⟩
  | cons a s =>
    generalize trimB (a :: s) = t at *
    have hne : (a :: s == ([] : List UInt8)) = false := rfl
    rw [callT_eq Tryd.func22 rfl fok22 (by simp [Tryd.ntmps22])]
    simp (disch := first | omega | (simp only [List.length_append, List.length_map, List.length_set, List.length_cons, List.length_nil, List.length_take, List.length_drop]; omega)) only [va0, va1, va2, va3, va4, va5, va6, va7, va8, va9, va10, va11, va12, va13, va14, va15, vb0, vb1, vb2, vb3, w_i8, w_u8, w_i16, w_u16, w_i32, w_u32, w_i64, w_u64, lt_T, lt_F, le_T, le_F, nlt_T, nlt_F, nle_T, nle_F, List.take_of_length_le, gB, gcW, gcR, posIn, renA, renL, Chunk.ren, Chunk.refs, evOpD, touchD, stepC, isFresh, nFresh, freshOf, mkR, hole, evL, evH, opd, get, putD, ofVal, cellOf, loadE, behind, lenE, idxAddrE, idxE, lookE, lookM, addPtr, intE, strE, unE, convE, AV.int, AV.bool, AV.str, ivs, take, frameOf, firstRegion, refsA, refsL, one, cellsA, floatOk, apartT, List.map, if_true, if_false, E_P, E_glob, reduceCtorEq, beq_self_eq_true, decide_true, decide_false, ↓reduceIte, Nat.reduceEqDiff, cond_true, cond_false, or_true, true_or, or_false, false_or, and_true, true_and, and_self, false_and, and_false, not_true, not_false_iff, Nat.reduceAdd, Nat.reduceSub, Nat.reduceMul, Nat.reduceLT, Nat.reduceLeDiff, Int.reduceToNat, Int.reduceLT, Int.reduceLE, Option.getD, Int.reduceMul, Int.reduceAdd, List.drop, List.take, Nat.reduceBEq, List.isEmpty, Int.reduceEq, Int.reduceNe, Int.reduceNeg, Int.reduceGT, Int.reduceGE, beq_true, beq_false, UInt8.reduceToNat, eqE, eq_self, foldE, maxE, minE, eq_T, eq_F, ndec, odec, adec, sdec, fillA, over, chop, List.replicate, leavesOk, leafOk, cellsEq, cellEq, E_byref, en22, h, hne]
    exact ⟨_, rfl⟩
theorem ik22 (s : List UInt8) (hl : s.length ≤ 140737488355328) (H : Hp) : isoK E (callT E) 22 [.i (.str s), .i (.str [32])] H = some (.i (.str (trimB s)), H) := isoK_val rfl rfl rfl (c22 s hl)
def indL : List Gl → Nat
  | [] => 0
  | g :: r => if g.1 = [32] then indL r + 1 else 0
theorem indL_le : ∀ l, indL l ≤ l.length
  | [] => Nat.le_refl _
  | g :: r => by rw [indL, List.length_cons]; have := indL_le r; split <;> omega
theorem l17_0 (l : List Gl) (hl : l.length ≤ 1000000) (w : Nat) : ∀ (m k : Nat), k + m = l.length →
    rl E 0 17 (loopAt Tryd.f17 0) [(0, .i (.sl 3 (rowsG l) false)), (2, .ptr 0 0 0 0), (3, .ptr 1 0 0 0)] [.box [.i (.v (.int .i64 (0))), .i (.v (.int .i64 (0))), .i (.str []), .i (.v (.bool false)), .i (.v (.bool false))], .box [.i (.v (.int .i64 (k))), .i (.v (.int .i64 (w))), .i (.str []), .i (.v (.bool false)), .i (.v (.bool false))]] =
      some (.exit 0, [(0, .i (.sl 3 (rowsG l) false)), (2, .ptr 0 0 0 0), (3, .ptr 1 0 0 0), (26, .i (.v (.bool false)))], [.box [.i (.v (.int .i64 (0))), .i (.v (.int .i64 (0))), .i (.str []), .i (.v (.bool false)), .i (.v (.bool false))], .box [.i (.v (.int .i64 ((k + indL (l.drop k) : Nat)))), .i (.v (.int .i64 (w))), .i (.str []), .i (.v (.bool false)), .i (.v (.bool false))]]) := by
  intro m
  induction m with
  | zero =>
    intro k hk
    obtain rfl : k = l.length := by omega
    rw [List.drop_length, indL, Nat.add_zero]
    rw [rl_step (fn := Tryd.f17) (k := 0) rfl]
    simp (disch := first | omega | (simp only [List.length_append, List.length_map, List.length_set, List.length_cons, List.length_nil, List.length_take, List.length_drop, rowsG_len]; omega)) only [va0, va1, va2, va3, va4, va5, va6, va7, va8, va9, va10, va11, va12, va13, va14, va15, vb0, vb1, vb2, vb3, w_i8, w_u8, w_i16, w_u16, w_i32, w_u32, w_i64, w_u64, lt_T, lt_F, le_T, le_F, nlt_T, nlt_F, nle_T, nle_F, List.take_of_length_le, gB, gcW, gcR, posIn, renA, renL, Chunk.ren, Chunk.refs, evOpD, touchD, stepC, isFresh, nFresh, freshOf, mkR, hole, evL, evH, opd, get, putD, ofVal, cellOf, loadE, behind, lenE, idxAddrE, idxE, lookE, lookM, addPtr, intE, strE, unE, convE, AV.int, AV.bool, AV.str, ivs, take, frameOf, firstRegion, refsA, refsL, one, cellsA, floatOk, apartT, List.map, if_true, if_false, E_P, E_glob, reduceCtorEq, beq_self_eq_true, decide_true, decide_false, ↓reduceIte, Nat.reduceEqDiff, cond_true, cond_false, or_true, true_or, or_false, false_or, and_true, true_and, and_self, false_and, and_false, not_true, not_false_iff, Nat.reduceAdd, Nat.reduceSub, Nat.reduceMul, Nat.reduceLT, Nat.reduceLeDiff, Int.reduceToNat, Int.reduceLT, Int.reduceLE, Option.getD, Int.reduceMul, Int.reduceAdd, List.drop, List.take, Nat.reduceBEq, List.isEmpty, Int.reduceEq, Int.reduceNe, Int.reduceNeg, Int.reduceGT, Int.reduceGE, beq_true, beq_false, UInt8.reduceToNat, eqE, eq_self, foldE, maxE, minE, eq_T, eq_F, ndec, odec, adec, sdec, fillA, over, chop, List.replicate, leavesOk, leafOk, cellsEq, cellEq, E_byref, en17, bs36, rowsG_len, show ∀ B fr H, execT E B 17 (Code.loop _) fr H = rlG E B 17 (loopAt Tryd.f17 0) (gcn B (norm [0, 2, 3] fr) H) from fun B fr H => rl_intro rfl mt17_3 mb17_3 zf17_3 hd17_3 fr H]
  | succ m ih =>
    intro k hk
    have hlt : k < l.length := by omega
    have hrow := rowsG_D hlt
    rw [drop_G hlt, indL]
    generalize atG l k = g at *
    obtain ⟨t, ww, s⟩ := g
    simp only at hrow ⊢
    by_cases h : t = [32]
    · have e := ih (k + 1) (by omega)
      rw [if_pos h, show k + (indL (l.drop (k + 1)) + 1) = k + 1 + indL (l.drop (k + 1)) from by omega]
      subst h
      refine Eq.trans ?_ e
      clear e ih
      rw [rl_step (fn := Tryd.f17) (k := 0) rfl]
      simp (disch := first | omega | (simp only [List.length_append, List.length_map, List.length_set, List.length_cons, List.length_nil, List.length_take, List.length_drop, rowsG_len]; omega)) only [va0, va1, va2, va3, va4, va5, va6, va7, va8, va9, va10, va11, va12, va13, va14, va15, vb0, vb1, vb2, vb3, w_i8, w_u8, w_i16, w_u16, w_i32, w_u32, w_i64, w_u64, lt_T, lt_F, le_T, le_F, nlt_T, nlt_F, nle_T, nle_F, List.take_of_length_le, gB, gcW, gcR, posIn, renA, renL, Chunk.ren, Chunk.refs, evOpD, touchD, stepC, isFresh, nFresh, freshOf, mkR, hole, evL, evH, opd, get, putD, ofVal, cellOf, loadE, behind, lenE, idxAddrE, idxE, lookE, lookM, addPtr, intE, strE, unE, convE, AV.int, AV.bool, AV.str, ivs, take, frameOf, firstRegion, refsA, refsL, one, cellsA, floatOk, apartT, List.map, if_true, if_false, E_P, E_glob, reduceCtorEq, beq_self_eq_true, decide_true, decide_false, ↓reduceIte, Nat.reduceEqDiff, cond_true, cond_false, or_true, true_or, or_false, false_or, and_true, true_and, and_self, false_and, and_false, not_true, not_false_iff, Nat.reduceAdd, Nat.reduceSub, Nat.reduceMul, Nat.reduceLT, Nat.reduceLeDiff, Int.reduceToNat, Int.reduceLT, Int.reduceLE, Option.getD, Int.reduceMul, Int.reduceAdd, List.drop, List.take, Nat.reduceBEq, List.isEmpty, Int.reduceEq, Int.reduceNe, Int.reduceNeg, Int.reduceGT, Int.reduceGE, beq_true, beq_false, UInt8.reduceToNat, eqE, eq_self, foldE, maxE, minE, eq_T, eq_F, ndec, odec, adec, sdec, fillA, over, chop, List.replicate, leavesOk, leafOk, cellsEq, cellEq, E_byref, en17, bs36, hrow, rowsG_len, show ∀ B fr H, execT E B 17 (Code.loop _) fr H = rlG E B 17 (loopAt Tryd.f17 0) (gcn B (norm [0, 2, 3] fr) H) from fun B fr H => rl_intro rfl mt17_3 mb17_3 zf17_3 hd17_3 fr H]
    · rw [if_neg h, Nat.add_zero]
      have hne : (t == [32]) = false := by simp [h]
      clear ih
      rw [rl_step (fn := Tryd.f17) (k := 0) rfl]
      simp (disch := first | omega | (simp only [List.length_append, List.length_map, List.length_set, List.length_cons, List.length_nil, List.length_take, List.length_drop, rowsG_len]; omega)) only [va0, va1, va2, va3, va4, va5, va6, va7, va8, va9, va10, va11, va12, va13, va14, va15, vb0, vb1, vb2, vb3, w_i8, w_u8, w_i16, w_u16, w_i32, w_u32, w_i64, w_u64, lt_T, lt_F, le_T, le_F, nlt_T, nlt_F, nle_T, nle_F, List.take_of_length_le, gB, gcW, gcR, posIn, renA, renL, Chunk.ren, Chunk.refs, evOpD, touchD, stepC, isFresh, nFresh, freshOf, mkR, hole, evL, evH, opd, get, putD, ofVal, cellOf, loadE, behind, lenE, idxAddrE, idxE, lookE, lookM, addPtr, intE, strE, unE, convE, AV.int, AV.bool, AV.str, ivs, take, frameOf, firstRegion, refsA, refsL, one, cellsA, floatOk, apartT, List.map, if_true, if_false, E_P, E_glob, reduceCtorEq, beq_self_eq_true, decide_true, decide_false, ↓reduceIte, Nat.reduceEqDiff, cond_true, cond_false, or_true, true_or, or_false, false_or, and_true, true_and, and_self, false_and, and_false, not_true, not_false_iff, Nat.reduceAdd, Nat.reduceSub, Nat.reduceMul, Nat.reduceLT, Nat.reduceLeDiff, Int.reduceToNat, Int.reduceLT, Int.reduceLE, Option.getD, Int.reduceMul, Int.reduceAdd, List.drop, List.take, Nat.reduceBEq, List.isEmpty, Int.reduceEq, Int.reduceNe, Int.reduceNeg, Int.reduceGT, Int.reduceGE, beq_true, beq_false, UInt8.reduceToNat, eqE, eq_self, foldE, maxE, minE, eq_T, eq_F, ndec, odec, adec, sdec, fillA, over, chop, List.replicate, leavesOk, leafOk, cellsEq, cellEq, E_byref, en17, bs36, hrow, h, hne, rowsG_len, show ∀ B fr H, execT E B 17 (Code.loop _) fr H = rlG E B 17 (loopAt Tryd.f17 0) (gcn B (norm [0, 2, 3] fr) H) from fun B fr H => rl_intro rfl mt17_3 mb17_3 zf17_3 hd17_3 fr H]
end Go.VI

namespace Go.VI
open Go.Proofs
set_option maxRecDepth 100000
set_option linter.unusedSimpArgs false
set_option linter.unusedVariables false
set_option maxHeartbeats 4000000
def invN : List Gl → Nat
  | [] => 0
  | g :: r => if g.2.2 = 2 then invN r + 1 else invN r
theorem invN_le : ∀ l, invN l ≤ l.length
  | [] => Nat.le_refl _
  | g :: r => by rw [invN, List.length_cons]; have := invN_le r; split <;> omega
theorem l17_1 (l : List Gl) (hl : l.length ≤ 1000000) (A B : List AV) (hA : ∀ b h, cnL b h A = A) (hB : ∀ b h, cnL b h B = B) (rA : refsL A = []) (rB : refsL B = []) : ∀ (m k d : Nat), k + m = l.length → d ≤ 3000000 - m →
    rl E 0 17 (loopAt Tryd.f17 1) ([(2, .ptr 0 0 0 0), (3, .ptr 1 0 0 0), (4, .i (.sl 3 (rowsG l) false)), (5, .i (.v (.int .i64 (d)))), (43, .i (.sl 3 (rowsG l) false)), (44, .i (.v (.int .i64 l.length))), (45, .i (.v (.int .i64 (k))))]) [.box A, .box B] = some (.exit 2, [(2, .ptr 0 0 0 0), (3, .ptr 1 0 0 0), (4, .i (.sl 3 (rowsG l) false)), (5, .i (.v (.int .i64 ((d + invN (l.drop k) : Nat))))), (43, .i (.sl 3 (rowsG l) false)), (44, .i (.v (.int .i64 l.length))), (45, .i (.v (.int .i64 (l.length)))), (46, .i (.v (.bool false)))], [.box A, .box B]) := by
  have wA : ∀ ρ, renL ρ A = A := fun ρ => (refs_ren ρ).2 A rA
  have wB : ∀ ρ, renL ρ B = B := fun ρ => (refs_ren ρ).2 B rB
  intro m
  induction m with
  | zero =>
    intro k d hk hd
    obtain rfl : k = l.length := by omega
    rw [List.drop_length, invN, Nat.add_zero]
    rw [rl_step (fn := Tryd.f17) (k := 1) rfl]
    simp (disch := first | omega | (simp only [List.length_append, List.length_map, List.length_set, List.length_cons, List.length_nil, List.length_take, List.length_drop, rowsG_len]; omega)) only [va0, va1, va2, va3, va4, va5, va6, va7, va8, va9, va10, va11, va12, va13, va14, va15, vb0, vb1, vb2, vb3, w_i8, w_u8, w_i16, w_u16, w_i32, w_u32, w_i64, w_u64, lt_T, lt_F, le_T, le_F, nlt_T, nlt_F, nle_T, nle_F, List.take_of_length_le, gB, gcW, gcR, posIn, renA, renL, Chunk.ren, Chunk.refs, evOpD, touchD, stepC, isFresh, nFresh, freshOf, mkR, hole, evL, evH, opd, get, putD, ofVal, cellOf, loadE, behind, lenE, idxAddrE, idxE, lookE, lookM, addPtr, intE, strE, unE, convE, AV.int, AV.bool, AV.str, ivs, take, frameOf, firstRegion, refsA, refsL, one, cellsA, floatOk, apartT, List.map, if_true, if_false, E_P, E_glob, reduceCtorEq, beq_self_eq_true, decide_true, decide_false, ↓reduceIte, Nat.reduceEqDiff, cond_true, cond_false, or_true, true_or, or_false, false_or, and_true, true_and, and_self, false_and, and_false, not_true, not_false_iff, Nat.reduceAdd, Nat.reduceSub, Nat.reduceMul, Nat.reduceLT, Nat.reduceLeDiff, Int.reduceToNat, Int.reduceLT, Int.reduceLE, Option.getD, Int.reduceMul, Int.reduceAdd, List.drop, List.take, Nat.reduceBEq, List.isEmpty, Int.reduceEq, Int.reduceNe, Int.reduceNeg, Int.reduceGT, Int.reduceGE, beq_true, beq_false, UInt8.reduceToNat, eqE, eq_self, foldE, maxE, minE, eq_T, eq_F, ndec, odec, adec, sdec, fillA, over, chop, List.replicate, leavesOk, leafOk, cellsEq, cellEq, E_byref, en17, bs36, hA, hB, rA, rB, wA, wB, rowsG_len, show ∀ B fr H, execT E B 17 (Code.loop _) fr H = rlG E B 17 (loopAt Tryd.f17 1) (gcn B (norm [2, 3, 4, 5, 43, 44, 45] fr) H) from fun B fr H => rl_intro rfl mt17_9 mb17_9 zf17_9 hd17_9 fr H]
  | succ m ih =>
    intro k d hk hd
    have hlt : k < l.length := by omega
    have hrow := rowsG_D hlt
    rw [drop_G hlt, invN]
    generalize atG l k = g at *
    obtain ⟨t, ww, s⟩ := g
    simp only at hrow ⊢
    by_cases h : s = 2
    · have e := ih (k + 1) (d + 1) (by omega) (by omega)
      rw [if_pos h, show d + (invN (l.drop (k + 1)) + 1) = d + 1 + invN (l.drop (k + 1)) from by omega]
      subst h
      refine Eq.trans ?_ e
      clear e ih
      rw [rl_step (fn := Tryd.f17) (k := 1) rfl]
      simp (disch := first | omega | (simp only [List.length_append, List.length_map, List.length_set, List.length_cons, List.length_nil, List.length_take, List.length_drop, rowsG_len]; omega)) only [va0, va1, va2, va3, va4, va5, va6, va7, va8, va9, va10, va11, va12, va13, va14, va15, vb0, vb1, vb2, vb3, w_i8, w_u8, w_i16, w_u16, w_i32, w_u32, w_i64, w_u64, lt_T, lt_F, le_T, le_F, nlt_T, nlt_F, nle_T, nle_F, List.take_of_length_le, gB, gcW, gcR, posIn, renA, renL, Chunk.ren, Chunk.refs, evOpD, touchD, stepC, isFresh, nFresh, freshOf, mkR, hole, evL, evH, opd, get, putD, ofVal, cellOf, loadE, behind, lenE, idxAddrE, idxE, lookE, lookM, addPtr, intE, strE, unE, convE, AV.int, AV.bool, AV.str, ivs, take, frameOf, firstRegion, refsA, refsL, one, cellsA, floatOk, apartT, List.map, if_true, if_false, E_P, E_glob, reduceCtorEq, beq_self_eq_true, decide_true, decide_false, ↓reduceIte, Nat.reduceEqDiff, cond_true, cond_false, or_true, true_or, or_false, false_or, and_true, true_and, and_self, false_and, and_false, not_true, not_false_iff, Nat.reduceAdd, Nat.reduceSub, Nat.reduceMul, Nat.reduceLT, Nat.reduceLeDiff, Int.reduceToNat, Int.reduceLT, Int.reduceLE, Option.getD, Int.reduceMul, Int.reduceAdd, List.drop, List.take, Nat.reduceBEq, List.isEmpty, Int.reduceEq, Int.reduceNe, Int.reduceNeg, Int.reduceGT, Int.reduceGE, beq_true, beq_false, UInt8.reduceToNat, eqE, eq_self, foldE, maxE, minE, eq_T, eq_F, ndec, odec, adec, sdec, fillA, over, chop, List.replicate, leavesOk, leafOk, cellsEq, cellEq, E_byref, en17, bs36, hrow, hA, hB, rA, rB, wA, wB, rowsG_len, show ∀ B fr H, execT E B 17 (Code.loop _) fr H = rlG E B 17 (loopAt Tryd.f17 1) (gcn B (norm [2, 3, 4, 5, 43, 44, 45] fr) H) from fun B fr H => rl_intro rfl mt17_9 mb17_9 zf17_9 hd17_9 fr H]
    · have e := ih (k + 1) d (by omega) (by omega)
      rw [if_neg h]
      refine Eq.trans ?_ e
      clear e ih
      rw [rl_step (fn := Tryd.f17) (k := 1) rfl]
      simp (disch := first | omega | (simp only [List.length_append, List.length_map, List.length_set, List.length_cons, List.length_nil, List.length_take, List.length_drop, rowsG_len]; omega)) only [va0, va1, va2, va3, va4, va5, va6, va7, va8, va9, va10, va11, va12, va13, va14, va15, vb0, vb1, vb2, vb3, w_i8, w_u8, w_i16, w_u16, w_i32, w_u32, w_i64, w_u64, lt_T, lt_F, le_T, le_F, nlt_T, nlt_F, nle_T, nle_F, List.take_of_length_le, gB, gcW, gcR, posIn, renA, renL, Chunk.ren, Chunk.refs, evOpD, touchD, stepC, isFresh, nFresh, freshOf, mkR, hole, evL, evH, opd, get, putD, ofVal, cellOf, loadE, behind, lenE, idxAddrE, idxE, lookE, lookM, addPtr, intE, strE, unE, convE, AV.int, AV.bool, AV.str, ivs, take, frameOf, firstRegion, refsA, refsL, one, cellsA, floatOk, apartT, List.map, if_true, if_false, E_P, E_glob, reduceCtorEq, beq_self_eq_true, decide_true, decide_false, ↓reduceIte, Nat.reduceEqDiff, cond_true, cond_false, or_true, true_or, or_false, false_or, and_true, true_and, and_self, false_and, and_false, not_true, not_false_iff, Nat.reduceAdd, Nat.reduceSub, Nat.reduceMul, Nat.reduceLT, Nat.reduceLeDiff, Int.reduceToNat, Int.reduceLT, Int.reduceLE, Option.getD, Int.reduceMul, Int.reduceAdd, List.drop, List.take, Nat.reduceBEq, List.isEmpty, Int.reduceEq, Int.reduceNe, Int.reduceNeg, Int.reduceGT, Int.reduceGE, beq_true, beq_false, UInt8.reduceToNat, eqE, eq_self, foldE, maxE, minE, eq_T, eq_F, ndec, odec, adec, sdec, fillA, over, chop, List.replicate, leavesOk, leafOk, cellsEq, cellEq, E_byref, en17, bs36, hrow, h, hA, hB, rA, rB, wA, wB, rowsG_len, show ∀ B fr H, execT E B 17 (Code.loop _) fr H = rlG E B 17 (loopAt Tryd.f17 1) (gcn B (norm [2, 3, 4, 5, 43, 44, 45] fr) H) from fun B fr H => rl_intro rfl mt17_9 mb17_9 zf17_9 hd17_9 fr H]
structure Ln where
  (i w : Nat) (item : List UInt8) (em lit : Bool)
def lnA (x : Ln) : AV := .agg [.i (.v (.int .i64 x.i)), .i (.v (.int .i64 x.w)), .i (.str x.item), .i (.v (.bool x.em)), .i (.v (.bool x.lit))]
def restS (l : List Gl) : List Gl := (trimS l).drop (indL (trimS l))
def emS (l : List Gl) : Bool := decide ((restS l).length = 0)
def litS (l : List Gl) : Bool := !emS l && decide ((restS l).length ≤ 2 * invN (restS l))
def readS (l : List Gl) : Ln := ⟨indL (trimS l), widthS (trimS l), trimB (textS (restS l)), emS l, litS l⟩
theorem textS_app (a b : List Gl) : textS (a ++ b) = textS a ++ textS b := by simp [textS]
theorem textS_take (l : List Gl) (n : Nat) : (textS (l.take n)).length ≤ (textS l).length := by
  have := textS_app (l.take n) (l.drop n)
  rw [List.take_append_drop] at this
  rw [this, List.length_append]; omega
theorem textS_drop (l : List Gl) (n : Nat) : (textS (l.drop n)).length ≤ (textS l).length := by
  have := textS_app (l.take n) (l.drop n)
  rw [List.take_append_drop] at this
  rw [this, List.length_append]; omega
theorem rest_len (l : List Gl) : (restS l).length ≤ l.length := by
  unfold restS; rw [List.length_drop]; have := trimS_len l; omega
theorem rest_text (l : List Gl) : (textS (restS l)).length ≤ (textS l).length := Nat.le_trans (textS_drop _ _) (textS_take l _)
theorem rowsG_drop (l : List Gl) (n : Nat) : (rowsG l).drop n = rowsG (l.drop n) := by simp [rowsG, List.map_drop]
theorem c17 (l : List Gl) (hl : l.length ≤ 100000) (ht : (textS l).length ≤ 1048576) : ∃ L, callT E 17 [.i (.sl 3 (rowsG l) false)] [] = some (lnA (readS l), L) := by
  have hT := fun H => ik20 l (by omega) H
  have htl := trimS_len l
  have hW := fun H => ik21 (trimS l) (by omega) H
  have h0 := l17_0 (trimS l) (by omega) (widthS (trimS l)) (trimS l).length 0 (by omega)
  rw [List.drop_zero, Nat.zero_add] at h0
  have hil := indL_le (trimS l)
  have hrl := rest_len l
  have hrt := rest_text l
  have hdr : (rowsG (trimS l)).drop (indL (trimS l)) = rowsG (restS l) := rowsG_drop _ _
  have hX := fun ex H => ik23 (restS l) ex (by omega) (by omega) H
  have hR := fun H => ik22 (textS (restS l)) (by omega) H
  have hem : emS l = decide ((restS l).length = 0) := rfl
  have hlit : litS l = (!emS l && decide ((restS l).length ≤ 2 * invN (restS l))) := rfl
  have hin := invN_le (restS l)
  have h1 := fun A B hA hB rA rB => l17_1 (restS l) (by omega) A B hA hB rA rB (restS l).length 0 0 (by omega) (by omega)
  rw [List.drop_zero, Nat.zero_add] at h1
  unfold lnA readS
  simp only
  clear hdr
  have hdr : (rowsG (trimS l)).drop (indL (trimS l)) = rowsG (restS l) := rowsG_drop _ _
  have htk : List.take ((trimS l).length - indL (trimS l)) (rowsG (restS l)) = rowsG (restS l) := List.take_of_length_le (by rw [rowsG_len]; unfold restS; rw [List.length_drop]; exact Nat.le_refl _)
  rw [hlit, hem]
  clear hlit hem
  generalize hrest : restS l = rest at *
  generalize trimS l = tr at *
  generalize trimB (textS rest) = item at *
  generalize textS rest = tx at *
  generalize indL tr = ind at *
  generalize widthS tr = wid at *
  generalize invN rest = inv at *
  have h0' : rl E 0 17 (loopAt Tryd.f17 0) [(0, .i (.sl 3 (rowsG tr) false)), (2, .ptr 0 0 0 0), (3, .ptr 1 0 0 0)] [.box [.i (.v (.int .i64 (0))), .i (.v (.int .i64 (0))), .i (.str []), .i (.v (.bool false)), .i (.v (.bool false))], .box [.i (.v (.int .i64 (0))), .i (.v (.int .i64 (wid))), .i (.str []), .i (.v (.bool false)), .i (.v (.bool false))]] = _ := h0
  clear h0
  by_cases hz : rest.length = 0
  · rw [decide_eq_true hz, Bool.not_true, Bool.false_and]
    have h1' : rl E 0 17 (loopAt Tryd.f17 1) [(2, .ptr 0 0 0 0), (3, .ptr 1 0 0 0), (4, .i (.sl 3 (rowsG rest) false)), (5, .i (.v (.int .i64 (0)))), (43, .i (.sl 3 (rowsG rest) false)), (44, .i (.v (.int .i64 (rest.length)))), (45, .i (.v (.int .i64 (0))))] [.box [.i (.v (.int .i64 (0))), .i (.v (.int .i64 (0))), .i (.str []), .i (.v (.bool false)), .i (.v (.bool false))], .box [.i (.v (.int .i64 (ind))), .i (.v (.int .i64 (wid))), .i (.str item), .i (.v (.bool true)), .i (.v (.bool false))]] = _ := h1 _ _ (fun _ _ => rfl) (fun _ _ => rfl) rfl rfl
    clear h1
    rw [callT_eq Tryd.func17 rfl fok17 (by simp [Tryd.ntmps17])]
    simp (disch := first | omega | (simp only [List.length_append, List.length_map, List.length_set, List.length_cons, List.length_nil, List.length_take, List.length_drop, rowsG_len]; omega)) only [va0, va1, va2, va3, va4, va5, va6, va7, va8, va9, va10, va11, va12, va13, va14, va15, vb0, vb1, vb2, vb3, w_i8, w_u8, w_i16, w_u16, w_i32, w_u32, w_i64, w_u64, lt_T, lt_F, le_T, le_F, nlt_T, nlt_F, nle_T, nle_F, List.take_of_length_le, gB, gcW, gcR, posIn, renA, renL, Chunk.ren, Chunk.refs, evOpD, touchD, stepC, isFresh, nFresh, freshOf, mkR, hole, evL, evH, opd, get, putD, ofVal, cellOf, loadE, behind, lenE, idxAddrE, idxE, lookE, lookM, addPtr, intE, strE, unE, convE, AV.int, AV.bool, AV.str, ivs, take, frameOf, firstRegion, refsA, refsL, one, cellsA, floatOk, apartT, List.map, if_true, if_false, E_P, E_glob, reduceCtorEq, beq_self_eq_true, decide_true, decide_false, ↓reduceIte, Nat.reduceEqDiff, cond_true, cond_false, or_true, true_or, or_false, false_or, and_true, true_and, and_self, false_and, and_false, not_true, not_false_iff, Nat.reduceAdd, Nat.reduceSub, Nat.reduceMul, Nat.reduceLT, Nat.reduceLeDiff, Int.reduceToNat, Int.reduceLT, Int.reduceLE, Option.getD, Int.reduceMul, Int.reduceAdd, List.drop, List.take, Nat.reduceBEq, List.isEmpty, Int.reduceEq, Int.reduceNe, Int.reduceNeg, Int.reduceGT, Int.reduceGE, beq_true, beq_false, UInt8.reduceToNat, eqE, eq_self, foldE, maxE, minE, eq_T, eq_F, ndec, odec, adec, sdec, fillA, over, chop, List.replicate, leavesOk, leafOk, cellsEq, cellEq, E_byref, en17, bs36, hT, hW, h0', hdr, htk, hX, hR, h1', Int.toNat_natCast, rowsG_len, show ∀ B fr H, execT E B 17 (Code.loop _) fr H = rlG E B 17 (loopAt Tryd.f17 0) (gcn B (norm [0, 2, 3] fr) H) from fun B fr H => rl_intro rfl mt17_3 mb17_3 zf17_3 hd17_3 fr H, show ∀ B fr H, execT E B 17 (Code.loop _) fr H = rlG E B 17 (loopAt Tryd.f17 1) (gcn B (norm [2, 3, 4, 5, 43, 44, 45] fr) H) from fun B fr H => rl_intro rfl mt17_9 mb17_9 zf17_9 hd17_9 fr H]
    exact ⟨_, rfl⟩
  · rw [decide_eq_false hz, Bool.not_false, Bool.true_and]
    have hz2 : ¬ ((rest.length : Nat) : Int) = 0 := by omega
    have h1' : rl E 0 17 (loopAt Tryd.f17 1) [(2, .ptr 0 0 0 0), (3, .ptr 1 0 0 0), (4, .i (.sl 3 (rowsG rest) false)), (5, .i (.v (.int .i64 (0)))), (43, .i (.sl 3 (rowsG rest) false)), (44, .i (.v (.int .i64 (rest.length)))), (45, .i (.v (.int .i64 (0))))] [.box [.i (.v (.int .i64 (0))), .i (.v (.int .i64 (0))), .i (.str []), .i (.v (.bool false)), .i (.v (.bool false))], .box [.i (.v (.int .i64 (ind))), .i (.v (.int .i64 (wid))), .i (.str item), .i (.v (.bool false)), .i (.v (.bool false))]] = _ := h1 _ _ (fun _ _ => rfl) (fun _ _ => rfl) rfl rfl
    clear h1
    by_cases hc : rest.length ≤ 2 * inv
    · rw [decide_eq_true hc]
      rw [callT_eq Tryd.func17 rfl fok17 (by simp [Tryd.ntmps17])]
      simp (disch := first | omega | (simp only [List.length_append, List.length_map, List.length_set, List.length_cons, List.length_nil, List.length_take, List.length_drop, rowsG_len]; omega)) only [va0, va1, va2, va3, va4, va5, va6, va7, va8, va9, va10, va11, va12, va13, va14, va15, vb0, vb1, vb2, vb3, w_i8, w_u8, w_i16, w_u16, w_i32, w_u32, w_i64, w_u64, lt_T, lt_F, le_T, le_F, nlt_T, nlt_F, nle_T, nle_F, List.take_of_length_le, gB, gcW, gcR, posIn, renA, renL, Chunk.ren, Chunk.refs, evOpD, touchD, stepC, isFresh, nFresh, freshOf, mkR, hole, evL, evH, opd, get, putD, ofVal, cellOf, loadE, behind, lenE, idxAddrE, idxE, lookE, lookM, addPtr, intE, strE, unE, convE, AV.int, AV.bool, AV.str, ivs, take, frameOf, firstRegion, refsA, refsL, one, cellsA, floatOk, apartT, List.map, if_true, if_false, E_P, E_glob, reduceCtorEq, beq_self_eq_true, decide_true, decide_false, ↓reduceIte, Nat.reduceEqDiff, cond_true, cond_false, or_true, true_or, or_false, false_or, and_true, true_and, and_self, false_and, and_false, not_true, not_false_iff, Nat.reduceAdd, Nat.reduceSub, Nat.reduceMul, Nat.reduceLT, Nat.reduceLeDiff, Int.reduceToNat, Int.reduceLT, Int.reduceLE, Option.getD, Int.reduceMul, Int.reduceAdd, List.drop, List.take, Nat.reduceBEq, List.isEmpty, Int.reduceEq, Int.reduceNe, Int.reduceNeg, Int.reduceGT, Int.reduceGE, beq_true, beq_false, UInt8.reduceToNat, eqE, eq_self, foldE, maxE, minE, eq_T, eq_F, ndec, odec, adec, sdec, fillA, over, chop, List.replicate, leavesOk, leafOk, cellsEq, cellEq, E_byref, en17, bs36, hT, hW, h0', hdr, htk, hX, hR, h1', hz2, Int.toNat_natCast, rowsG_len, show ∀ B fr H, execT E B 17 (Code.loop _) fr H = rlG E B 17 (loopAt Tryd.f17 0) (gcn B (norm [0, 2, 3] fr) H) from fun B fr H => rl_intro rfl mt17_3 mb17_3 zf17_3 hd17_3 fr H, show ∀ B fr H, execT E B 17 (Code.loop _) fr H = rlG E B 17 (loopAt Tryd.f17 1) (gcn B (norm [2, 3, 4, 5, 43, 44, 45] fr) H) from fun B fr H => rl_intro rfl mt17_9 mb17_9 zf17_9 hd17_9 fr H]
      exact ⟨_, rfl⟩
    · rw [decide_eq_false hc]
      rw [callT_eq Tryd.func17 rfl fok17 (by simp [Tryd.ntmps17])]
      simp (disch := first | omega | (simp only [List.length_append, List.length_map, List.length_set, List.length_cons, List.length_nil, List.length_take, List.length_drop, rowsG_len]; omega)) only [va0, va1, va2, va3, va4, va5, va6, va7, va8, va9, va10, va11, va12, va13, va14, va15, vb0, vb1, vb2, vb3, w_i8, w_u8, w_i16, w_u16, w_i32, w_u32, w_i64, w_u64, lt_T, lt_F, le_T, le_F, nlt_T, nlt_F, nle_T, nle_F, List.take_of_length_le, gB, gcW, gcR, posIn, renA, renL, Chunk.ren, Chunk.refs, evOpD, touchD, stepC, isFresh, nFresh, freshOf, mkR, hole, evL, evH, opd, get, putD, ofVal, cellOf, loadE, behind, lenE, idxAddrE, idxE, lookE, lookM, addPtr, intE, strE, unE, convE, AV.int, AV.bool, AV.str, ivs, take, frameOf, firstRegion, refsA, refsL, one, cellsA, floatOk, apartT, List.map, if_true, if_false, E_P, E_glob, reduceCtorEq, beq_self_eq_true, decide_true, decide_false, ↓reduceIte, Nat.reduceEqDiff, cond_true, cond_false, or_true, true_or, or_false, false_or, and_true, true_and, and_self, false_and, and_false, not_true, not_false_iff, Nat.reduceAdd, Nat.reduceSub, Nat.reduceMul, Nat.reduceLT, Nat.reduceLeDiff, Int.reduceToNat, Int.reduceLT, Int.reduceLE, Option.getD, Int.reduceMul, Int.reduceAdd, List.drop, List.take, Nat.reduceBEq, List.isEmpty, Int.reduceEq, Int.reduceNe, Int.reduceNeg, Int.reduceGT, Int.reduceGE, beq_true, beq_false, UInt8.reduceToNat, eqE, eq_self, foldE, maxE, minE, eq_T, eq_F, ndec, odec, adec, sdec, fillA, over, chop, List.replicate, leavesOk, leafOk, cellsEq, cellEq, E_byref, en17, bs36, hT, hW, h0', hdr, htk, hX, hR, h1', hz2, Int.toNat_natCast, rowsG_len, show ∀ B fr H, execT E B 17 (Code.loop _) fr H = rlG E B 17 (loopAt Tryd.f17 0) (gcn B (norm [0, 2, 3] fr) H) from fun B fr H => rl_intro rfl mt17_3 mb17_3 zf17_3 hd17_3 fr H, show ∀ B fr H, execT E B 17 (Code.loop _) fr H = rlG E B 17 (loopAt Tryd.f17 1) (gcn B (norm [2, 3, 4, 5, 43, 44, 45] fr) H) from fun B fr H => rl_intro rfl mt17_9 mb17_9 zf17_9 hd17_9 fr H]
      exact ⟨_, rfl⟩
theorem ik17 (l : List Gl) (hl : l.length ≤ 100000) (ht : (textS l).length ≤ 1048576) (H : Hp) : isoK E (callT E) 17 [.i (.sl 3 (rowsG l) false)] H = some (lnA (readS l), H) := isoK_val rfl rfl rfl (c17 l hl ht)
end Go.VI

namespace Go.VI
open Go.Proofs
set_option maxRecDepth 100000
set_option linter.unusedSimpArgs false
set_option linter.unusedVariables false
set_option maxHeartbeats 4000000
def rowsLn (l : List Ln) : List (List IV) := l.map fun x => [.v (.int .i64 x.i), .v (.int .i64 x.w), .str x.item, .v (.bool x.em), .v (.bool x.lit)]
theorem rowsLn_len (l : List Ln) : (rowsLn l).length = l.length := by simp [rowsLn]
theorem rowsLn_snoc (l : List Ln) (x : Ln) : rowsLn l ++ [[.v (.int .i64 x.i), .v (.int .i64 x.w), .str x.item, .v (.bool x.em), .v (.bool x.lit)]] = rowsLn (l ++ [x]) := by simp [rowsLn]
def rowsV (l : List (List Gl)) : List (List IV) := l.map fun r => [.sl 3 (rowsG r) false]
theorem rowsV_len (l : List (List Gl)) : (rowsV l).length = l.length := by simp [rowsV]
def atV (l : List (List Gl)) (k : Nat) : List Gl := l.getD k []
theorem atV_eq {l : List (List Gl)} {k : Nat} (h : k < l.length) : atV l k = l[k] := by rw [atV, List.getD_eq_getElem?_getD, List.getElem?_eq_getElem h]; rfl
theorem rowsV_D {l : List (List Gl)} {k : Nat} (h : k < l.length) : (rowsV l)[k]? = some [.sl 3 (rowsG (atV l k)) false] := by rw [atV_eq h]; simp [rowsV, h]
theorem drop_V {l : List (List Gl)} {k : Nat} (h : k < l.length) : l.drop k = atV l k :: l.drop (k + 1) := by rw [atV_eq h]; exact List.drop_eq_getElem_cons h
def okV (l : List (List Gl)) : Prop := l.length ≤ 100000 ∧ ∀ r ∈ l, r.length ≤ 100000 ∧ (textS r).length ≤ 1048576
theorem l10 (v : List (List Gl)) (hv : okV v) : ∀ (m k : Nat) (ls : List Ln), k + m = v.length → ls.length + m ≤ 300000 →
    rl E 0 10 (loopAt Tryd.f10 0) [(3, .ptr 0 0 0 0), (8, .i (.sl 1 (rowsV v) false)), (9, .i (.v (.int .i64 v.length))), (10, .i (.v (.int .i64 k)))] [.box [.ref 1 0 0 ls.length], .sl 5 0 (rowsLn ls) false] =
      some (.exit 0, [(3, .ptr 0 0 0 0), (8, .i (.sl 1 (rowsV v) false)), (9, .i (.v (.int .i64 v.length))), (10, .i (.v (.int .i64 v.length))), (11, .i (.v (.bool false)))], [.box [.ref 1 0 0 (ls ++ (v.drop k).map readS).length], .sl 5 0 (rowsLn (ls ++ (v.drop k).map readS)) false]) := by
  intro m
  induction m with
  | zero =>
    intro k ls hk hl
    obtain rfl : k = v.length := by omega
    rw [List.drop_length, List.map_nil, List.append_nil]
    rw [rl_step (fn := Tryd.f10) (k := 0) rfl]
    simp (disch := first | omega | (simp only [List.length_append, List.length_map, List.length_set, List.length_cons, List.length_nil, List.length_take, List.length_drop, rowsV_len, rowsLn_len]; omega)) only [va0, va1, va2, va3, va4, va5, va6, va7, va8, va9, va10, va11, va12, va13, va14, va15, vb0, vb1, vb2, vb3, w_i8, w_u8, w_i16, w_u16, w_i32, w_u32, w_i64, w_u64, lt_T, lt_F, le_T, le_F, nlt_T, nlt_F, nle_T, nle_F, List.take_of_length_le, gB, gcW, gcR, posIn, renA, renL, Chunk.ren, Chunk.refs, evOpD, touchD, stepC, isFresh, nFresh, freshOf, mkR, hole, evL, evH, opd, get, putD, ofVal, cellOf, loadE, behind, lenE, idxAddrE, idxE, lookE, lookM, addPtr, intE, strE, unE, convE, AV.int, AV.bool, AV.str, ivs, take, frameOf, firstRegion, refsA, refsL, one, cellsA, floatOk, apartT, List.map, if_true, if_false, E_P, E_glob, reduceCtorEq, beq_self_eq_true, decide_true, decide_false, ↓reduceIte, Nat.reduceEqDiff, cond_true, cond_false, or_true, true_or, or_false, false_or, and_true, true_and, and_self, false_and, and_false, not_true, not_false_iff, Nat.reduceAdd, Nat.reduceSub, Nat.reduceMul, Nat.reduceLT, Nat.reduceLeDiff, Int.reduceToNat, Int.reduceLT, Int.reduceLE, Option.getD, Int.reduceMul, Int.reduceAdd, List.drop, List.take, Nat.reduceBEq, List.isEmpty, Int.reduceEq, Int.reduceNe, Int.reduceNeg, Int.reduceGT, Int.reduceGE, beq_true, beq_false, UInt8.reduceToNat, eqE, eq_self, foldE, maxE, minE, eq_T, eq_F, ndec, odec, adec, sdec, fillA, over, chop, List.replicate, leavesOk, leafOk, cellsEq, cellEq, E_byref, en10, bs22, bs36, bs47, rowsV_len, rowsLn_len, show ∀ B fr H, execT E B 10 (Code.loop _) fr H = rlM E B 10 (loopAt Tryd.f10 0) [3, 8, 9, 10] [] (matF [] fr H).1 (matB [(3, 0, 5)] (matF [] fr H).1 (matF [] fr H).2) from fun B fr H => rl_introM rfl mt10_3 mb10_3 zf10_3 hd10_3 fr H]
  | succ m ih =>
    intro k ls hk hl
    have hlt : k < v.length := by omega
    have hv1 := hv.1
    have hrow := rowsV_D hlt
    have hok := hv.2 (atV v k) (by rw [atV_eq hlt]; exact List.getElem_mem hlt)
    have hrd := fun H => ik17 (atV v k) hok.1 hok.2 H
    rw [drop_V hlt, List.map_cons]
    have hsn := rowsLn_snoc ls (readS (atV v k))
    have e := ih (k + 1) (ls ++ [readS (atV v k)]) (by omega) (by simp; omega)
    rw [List.append_assoc, List.singleton_append] at e
    refine Eq.trans ?_ e
    clear e ih hok
    generalize readS (atV v k) = x at *
    generalize rowsG (atV v k) = rr at *
    unfold lnA at hrd
    have htk : List.take ls.length (rowsLn ls) = rowsLn ls := List.take_of_length_le (by rw [rowsLn_len]; exact Nat.le_refl _)
    rw [rl_step (fn := Tryd.f10) (k := 0) rfl]
    simp (disch := first | omega | (simp only [List.length_append, List.length_map, List.length_set, List.length_cons, List.length_nil, List.length_take, List.length_drop, rowsV_len, rowsLn_len]; omega)) only [va0, va1, va2, va3, va4, va5, va6, va7, va8, va9, va10, va11, va12, va13, va14, va15, vb0, vb1, vb2, vb3, w_i8, w_u8, w_i16, w_u16, w_i32, w_u32, w_i64, w_u64, lt_T, lt_F, le_T, le_F, nlt_T, nlt_F, nle_T, nle_F, List.take_of_length_le, gB, gcW, gcR, posIn, renA, renL, Chunk.ren, Chunk.refs, evOpD, touchD, stepC, isFresh, nFresh, freshOf, mkR, hole, evL, evH, opd, get, putD, ofVal, cellOf, loadE, behind, lenE, idxAddrE, idxE, lookE, lookM, addPtr, intE, strE, unE, convE, AV.int, AV.bool, AV.str, ivs, take, frameOf, firstRegion, refsA, refsL, one, cellsA, floatOk, apartT, List.map, if_true, if_false, E_P, E_glob, reduceCtorEq, beq_self_eq_true, decide_true, decide_false, ↓reduceIte, Nat.reduceEqDiff, cond_true, cond_false, or_true, true_or, or_false, false_or, and_true, true_and, and_self, false_and, and_false, not_true, not_false_iff, Nat.reduceAdd, Nat.reduceSub, Nat.reduceMul, Nat.reduceLT, Nat.reduceLeDiff, Int.reduceToNat, Int.reduceLT, Int.reduceLE, Option.getD, Int.reduceMul, Int.reduceAdd, List.drop, List.take, Nat.reduceBEq, List.isEmpty, Int.reduceEq, Int.reduceNe, Int.reduceNeg, Int.reduceGT, Int.reduceGE, beq_true, beq_false, UInt8.reduceToNat, eqE, eq_self, foldE, maxE, minE, eq_T, eq_F, ndec, odec, adec, sdec, fillA, over, chop, List.replicate, leavesOk, leafOk, cellsEq, cellEq, E_byref, en10, bs22, bs36, bs47, hrow, hrd, hsn, htk, List.length_append, List.length_singleton, rowsV_len, rowsLn_len, show ∀ B fr H, execT E B 10 (Code.loop _) fr H = rlM E B 10 (loopAt Tryd.f10 0) [3, 8, 9, 10] [] (matF [] fr H).1 (matB [(3, 0, 5)] (matF [] fr H).1 (matF [] fr H).2) from fun B fr H => rl_introM rfl mt10_3 mb10_3 zf10_3 hd10_3 fr H]
end Go.VI

namespace Go.VI
open Go.Proofs
set_option maxRecDepth 100000
set_option linter.unusedSimpArgs false
set_option linter.unusedVariables false
set_option maxHeartbeats 4000000
structure Rg where
  (top left bottom right : Nat) (label : List UInt8)
def rgI (r : Rg) : List IV := [.v (.int .i64 5), .v (.int .i64 0), .v (.int .i64 (-1)), .v (.int .i64 r.top), .v (.int .i64 r.left), .v (.int .i64 r.bottom), .v (.int .i64 r.right), .str r.label]
def rowsR (l : List Rg) : List (List IV) := l.map rgI
theorem rowsR_len (l : List Rg) : (rowsR l).length = l.length := by simp [rowsR]
theorem rowsR_snoc (l : List Rg) (r : Rg) : rowsR l ++ [[.v (.int .i64 5), .v (.int .i64 0), .v (.int .i64 (-1)), .v (.int .i64 r.top), .v (.int .i64 r.left), .v (.int .i64 r.bottom), .v (.int .i64 r.right), .str r.label]] = rowsR (l ++ [r]) := by simp [rowsR, rgI]
def atL (l : List Ln) (k : Nat) : Ln := l.getD k ⟨0, 0, [], false, false⟩
theorem atL_eq {l : List Ln} {k : Nat} (h : k < l.length) : atL l k = l[k] := by rw [atL, List.getD_eq_getElem?_getD, List.getElem?_eq_getElem h]; rfl
theorem rowsLn_D {l : List Ln} {k : Nat} (h : k < l.length) : (rowsLn l)[k]? = some [.v (.int .i64 (atL l k).i), .v (.int .i64 (atL l k).w), .str (atL l k).item, .v (.bool (atL l k).em), .v (.bool (atL l k).lit)] := by rw [atL_eq h]; simp [rowsLn, h]
theorem drop_L {l : List Ln} {k : Nat} (h : k < l.length) : l.drop k = atL l k :: l.drop (k + 1) := by rw [atL_eq h]; exact List.drop_eq_getElem_cons h
def stpL (q : Nat × List UInt8 × Nat) (x : Ln) : Nat × List UInt8 × Nat := (max q.1 x.w, if x.lit = true then x.item else q.2.1, if x.lit = true then q.2.2 + 1 else q.2.2)
theorem f1_loop0 (l : List Ln) (hl : l.length ≤ 300000) (bb : Bool) (n0 : Nat) (rl0 : List (List IV)) (out : List Rg) (from_ to_ left : Int) : ∀ (m k : Nat) (q : Nat × List UInt8 × Nat), k + m = l.length → q.2.2 + m ≤ 1000000 → 
    rl E 3 19 (loopAt Tryd.f19 0) ([(0, .i (.v (.int .i64 from_))), (1, .i (.v (.int .i64 to_))), (3, .ptr 2 0 0 0), (6, .ptr 3 0 0 0), (7, .i (.v (.int .i64 (q.2.2)))), (21, .i (.sl 5 (rowsLn l) bb)), (22, .i (.v (.int .i64 l.length))), (23, .i (.v (.int .i64 (k))))]) [.box [.ref 1 0 0 n0], .fz 5 0 rl0 false, .box [.i (.sl 0 [] true)], .box [.i (.v (.int .i64 5)), .i (.v (.int .i64 0)), .i (.v (.int .i64 (-1))), .i (.v (.int .i64 from_)), .i (.v (.int .i64 left)), .i (.v (.int .i64 to_)), .i (.v (.int .i64 (q.1))), .i (.str (q.2.1))]] = some (.exit 0, [(0, .i (.v (.int .i64 from_))), (1, .i (.v (.int .i64 to_))), (3, .ptr 2 0 0 0), (6, .ptr 3 0 0 0), (7, .i (.v (.int .i64 ((((l.drop k).foldl stpL q).2.2 : Nat))))), (21, .i (.sl 5 (rowsLn l) bb)), (22, .i (.v (.int .i64 l.length))), (23, .i (.v (.int .i64 (l.length)))), (24, .i (.v (.bool false)))], [.box [.ref 1 0 0 n0], .fz 5 0 rl0 false, .box [.i (.sl 0 [] true)], .box [.i (.v (.int .i64 5)), .i (.v (.int .i64 0)), .i (.v (.int .i64 (-1))), .i (.v (.int .i64 from_)), .i (.v (.int .i64 left)), .i (.v (.int .i64 to_)), .i (.v (.int .i64 ((((l.drop k).foldl stpL q).1 : Nat)))), .i (.str (((l.drop k).foldl stpL q).2.1))]]) := by 
  intro m 
  induction m with 
  | zero => 
    intro k q hk hq 
    obtain rfl : k = l.length := by omega 
    rw [List.drop_length, List.foldl_nil] 
    obtain ⟨q1, q2, q3⟩ := q 
    simp only 
    rw [rl_step (fn := Tryd.f19) (k := 0) rfl] 
    simp (disch := first | omega | (simp only [List.length_append, List.length_map, List.length_set, List.length_cons, List.length_nil, List.length_take, List.length_drop, rowsLn_len, rowsR_len]; omega)) only [va0, va1, va2, va3, va4, va5, va6, va7, va8, va9, va10, va11, va12, va13, va14, va15, vb0, vb1, vb2, vb3, w_i8, w_u8, w_i16, w_u16, w_i32, w_u32, w_i64, w_u64, lt_T, lt_F, le_T, le_F, nlt_T, nlt_F, nle_T, nle_F, List.take_of_length_le, gB, gcW, gcR, posIn, renA, renL, Chunk.ren, Chunk.refs, evOpD, touchD, stepC, isFresh, nFresh, freshOf, mkR, hole, evL, evH, opd, get, putD, ofVal, cellOf, loadE, behind, lenE, idxAddrE, idxE, lookE, lookM, addPtr, intE, strE, unE, convE, AV.int, AV.bool, AV.str, ivs, take, frameOf, firstRegion, refsA, refsL, one, cellsA, floatOk, apartT, List.map, if_true, if_false, E_P, E_glob, reduceCtorEq, beq_self_eq_true, decide_true, decide_false, ↓reduceIte, Nat.reduceEqDiff, cond_true, cond_false, or_true, true_or, or_false, false_or, and_true, true_and, and_self, false_and, and_false, not_true, not_false_iff, Nat.reduceAdd, Nat.reduceSub, Nat.reduceMul, Nat.reduceLT, Nat.reduceLeDiff, Int.reduceToNat, Int.reduceLT, Int.reduceLE, Option.getD, Int.reduceMul, Int.reduceAdd, List.drop, List.take, Nat.reduceBEq, List.isEmpty, Int.reduceEq, Int.reduceNe, Int.reduceNeg, Int.reduceGT, Int.reduceGE, beq_true, beq_false, UInt8.reduceToNat, eqE, eq_self, foldE, maxE, minE, eq_T, eq_F, ndec, odec, adec, sdec, fillA, over, chop, List.replicate, leavesOk, leafOk, cellsEq, cellEq, E_byref, en19, bs27, bs47, rowsLn_len, rowsR_len, show ∀ B fr H, execT E B 19 (Code.loop _) fr H = rlG E B 19 (loopAt Tryd.f19 0) (gcn B (norm [0, 1, 3, 6, 7, 21, 22, 23] fr) H) from fun B fr H => rl_intro rfl mt19_3 mb19_3 zf19_3 hd19_3 fr H] 
  | succ m ih => 
    intro k q hk hq 
    have hlt : k < l.length := by omega 
    have hrow := rowsLn_D hlt 
    rw [drop_L hlt, List.foldl_cons] 
    have e := ih (k + 1) (stpL q (atL l k)) (by omega) (by unfold stpL; simp only; split <;> omega) 
    refine Eq.trans ?_ e 
    clear e ih 
    unfold stpL 
    generalize atL l k = x at * 
    obtain ⟨x1, x2, x3, x4, x5⟩ := x 
    obtain ⟨q1, q2, q3⟩ := q 
    simp only at hrow hq ⊢ 
    have hmx : max (q1 : Int) (x2 : Int) = ((max q1 x2 : Nat) : Int) := by omega 
    cases x5 with 
    | true => 
      rw [if_pos rfl, if_pos rfl] 
      rw [rl_step (fn := Tryd.f19) (k := 0) rfl] 
      simp (disch := first | omega | (simp only [List.length_append, List.length_map, List.length_set, List.length_cons, List.length_nil, List.length_take, List.length_drop, rowsLn_len, rowsR_len]; omega)) only [va0, va1, va2, va3, va4, va5, va6, va7, va8, va9, va10, va11, va12, va13, va14, va15, vb0, vb1, vb2, vb3, w_i8, w_u8, w_i16, w_u16, w_i32, w_u32, w_i64, w_u64, lt_T, lt_F, le_T, le_F, nlt_T, nlt_F, nle_T, nle_F, List.take_of_length_le, gB, gcW, gcR, posIn, renA, renL, Chunk.ren, Chunk.refs, evOpD, touchD, stepC, isFresh, nFresh, freshOf, mkR, hole, evL, evH, opd, get, putD, ofVal, cellOf, loadE, behind, lenE, idxAddrE, idxE, lookE, lookM, addPtr, intE, strE, unE, convE, AV.int, AV.bool, AV.str, ivs, take, frameOf, firstRegion, refsA, refsL, one, cellsA, floatOk, apartT, List.map, if_true, if_false, E_P, E_glob, reduceCtorEq, beq_self_eq_true, decide_true, decide_false, ↓reduceIte, Nat.reduceEqDiff, cond_true, cond_false, or_true, true_or, or_false, false_or, and_true, true_and, and_self, false_and, and_false, not_true, not_false_iff, Nat.reduceAdd, Nat.reduceSub, Nat.reduceMul, Nat.reduceLT, Nat.reduceLeDiff, Int.reduceToNat, Int.reduceLT, Int.reduceLE, Option.getD, Int.reduceMul, Int.reduceAdd, List.drop, List.take, Nat.reduceBEq, List.isEmpty, Int.reduceEq, Int.reduceNe, Int.reduceNeg, Int.reduceGT, Int.reduceGE, beq_true, beq_false, UInt8.reduceToNat, eqE, eq_self, foldE, maxE, minE, eq_T, eq_F, ndec, odec, adec, sdec, fillA, over, chop, List.replicate, leavesOk, leafOk, cellsEq, cellEq, E_byref, en19, bs27, bs47, hrow, hmx, rowsLn_len, rowsR_len, show ∀ B fr H, execT E B 19 (Code.loop _) fr H = rlG E B 19 (loopAt Tryd.f19 0) (gcn B (norm [0, 1, 3, 6, 7, 21, 22, 23] fr) H) from fun B fr H => rl_intro rfl mt19_3 mb19_3 zf19_3 hd19_3 fr H] 
    | false => 
      rw [if_neg (by decide), if_neg (by decide)] 
      rw [rl_step (fn := Tryd.f19) (k := 0) rfl] 
      simp (disch := first | omega | (simp only [List.length_append, List.length_map, List.length_set, List.length_cons, List.length_nil, List.length_take, List.length_drop, rowsLn_len, rowsR_len]; omega)) only [va0, va1, va2, va3, va4, va5, va6, va7, va8, va9, va10, va11, va12, va13, va14, va15, vb0, vb1, vb2, vb3, w_i8, w_u8, w_i16, w_u16, w_i32, w_u32, w_i64, w_u64, lt_T, lt_F, le_T, le_F, nlt_T, nlt_F, nle_T, nle_F, List.take_of_length_le, gB, gcW, gcR, posIn, renA, renL, Chunk.ren, Chunk.refs, evOpD, touchD, stepC, isFresh, nFresh, freshOf, mkR, hole, evL, evH, opd, get, putD, ofVal, cellOf, loadE, behind, lenE, idxAddrE, idxE, lookE, lookM, addPtr, intE, strE, unE, convE, AV.int, AV.bool, AV.str, ivs, take, frameOf, firstRegion, refsA, refsL, one, cellsA, floatOk, apartT, List.map, if_true, if_false, E_P, E_glob, reduceCtorEq, beq_self_eq_true, decide_true, decide_false, ↓reduceIte, Nat.reduceEqDiff, cond_true, cond_false, or_true, true_or, or_false, false_or, and_true, true_and, and_self, false_and, and_false, not_true, not_false_iff, Nat.reduceAdd, Nat.reduceSub, Nat.reduceMul, Nat.reduceLT, Nat.reduceLeDiff, Int.reduceToNat, Int.reduceLT, Int.reduceLE, Option.getD, Int.reduceMul, Int.reduceAdd, List.drop, List.take, Nat.reduceBEq, List.isEmpty, Int.reduceEq, Int.reduceNe, Int.reduceNeg, Int.reduceGT, Int.reduceGE, beq_true, beq_false, UInt8.reduceToNat, eqE, eq_self, foldE, maxE, minE, eq_T, eq_F, ndec, odec, adec, sdec, fillA, over, chop, List.replicate, leavesOk, leafOk, cellsEq, cellEq, E_byref, en19, bs27, bs47, hrow, hmx, rowsLn_len, rowsR_len, show ∀ B fr H, execT E B 19 (Code.loop _) fr H = rlG E B 19 (loopAt Tryd.f19 0) (gcn B (norm [0, 1, 3, 6, 7, 21, 22, 23] fr) H) from fun B fr H => rl_intro rfl mt19_3 mb19_3 zf19_3 hd19_3 fr H]
theorem f1_loop1 (l : List Ln) (hl : l.length ≤ 300000) (bb : Bool) (n0 : Nat) (rl0 : List (List IV)) (out : List Rg) (from_ to_ left : Int) : ∀ (m k : Nat) (q : Nat × List UInt8 × Nat), k + m = l.length → q.2.2 + m ≤ 1000000 → 
    rl E 4 19 (loopAt Tryd.f19 0) ([(0, .i (.v (.int .i64 from_))), (1, .i (.v (.int .i64 to_))), (3, .ptr 2 0 0 0), (6, .ptr 4 0 0 0), (7, .i (.v (.int .i64 (q.2.2)))), (21, .i (.sl 5 (rowsLn l) bb)), (22, .i (.v (.int .i64 l.length))), (23, .i (.v (.int .i64 (k))))]) [.box [.ref 1 0 0 n0], .fz 5 0 rl0 false, .box [.ref 3 0 0 out.length], .sl 8 0 (rowsR out) false, .box [.i (.v (.int .i64 5)), .i (.v (.int .i64 0)), .i (.v (.int .i64 (-1))), .i (.v (.int .i64 from_)), .i (.v (.int .i64 left)), .i (.v (.int .i64 to_)), .i (.v (.int .i64 (q.1))), .i (.str (q.2.1))]] = some (.exit 0, [(0, .i (.v (.int .i64 from_))), (1, .i (.v (.int .i64 to_))), (3, .ptr 2 0 0 0), (6, .ptr 4 0 0 0), (7, .i (.v (.int .i64 ((((l.drop k).foldl stpL q).2.2 : Nat))))), (21, .i (.sl 5 (rowsLn l) bb)), (22, .i (.v (.int .i64 l.length))), (23, .i (.v (.int .i64 (l.length)))), (24, .i (.v (.bool false)))], [.box [.ref 1 0 0 n0], .fz 5 0 rl0 false, .box [.ref 3 0 0 out.length], .sl 8 0 (rowsR out) false, .box [.i (.v (.int .i64 5)), .i (.v (.int .i64 0)), .i (.v (.int .i64 (-1))), .i (.v (.int .i64 from_)), .i (.v (.int .i64 left)), .i (.v (.int .i64 to_)), .i (.v (.int .i64 ((((l.drop k).foldl stpL q).1 : Nat)))), .i (.str (((l.drop k).foldl stpL q).2.1))]]) := by 
  intro m 
  induction m with 
  | zero => 
    intro k q hk hq 
    obtain rfl : k = l.length := by omega 
    rw [List.drop_length, List.foldl_nil] 
    obtain ⟨q1, q2, q3⟩ := q 
    simp only 
    rw [rl_step (fn := Tryd.f19) (k := 0) rfl] 
    simp (disch := first | omega | (simp only [List.length_append, List.length_map, List.length_set, List.length_cons, List.length_nil, List.length_take, List.length_drop, rowsLn_len, rowsR_len]; omega)) only [va0, va1, va2, va3, va4, va5, va6, va7, va8, va9, va10, va11, va12, va13, va14, va15, vb0, vb1, vb2, vb3, w_i8, w_u8, w_i16, w_u16, w_i32, w_u32, w_i64, w_u64, lt_T, lt_F, le_T, le_F, nlt_T, nlt_F, nle_T, nle_F, List.take_of_length_le, gB, gcW, gcR, posIn, renA, renL, Chunk.ren, Chunk.refs, evOpD, touchD, stepC, isFresh, nFresh, freshOf, mkR, hole, evL, evH, opd, get, putD, ofVal, cellOf, loadE, behind, lenE, idxAddrE, idxE, lookE, lookM, addPtr, intE, strE, unE, convE, AV.int, AV.bool, AV.str, ivs, take, frameOf, firstRegion, refsA, refsL, one, cellsA, floatOk, apartT, List.map, if_true, if_false, E_P, E_glob, reduceCtorEq, beq_self_eq_true, decide_true, decide_false, ↓reduceIte, Nat.reduceEqDiff, cond_true, cond_false, or_true, true_or, or_false, false_or, and_true, true_and, and_self, false_and, and_false, not_true, not_false_iff, Nat.reduceAdd, Nat.reduceSub, Nat.reduceMul, Nat.reduceLT, Nat.reduceLeDiff, Int.reduceToNat, Int.reduceLT, Int.reduceLE, Option.getD, Int.reduceMul, Int.reduceAdd, List.drop, List.take, Nat.reduceBEq, List.isEmpty, Int.reduceEq, Int.reduceNe, Int.reduceNeg, Int.reduceGT, Int.reduceGE, beq_true, beq_false, UInt8.reduceToNat, eqE, eq_self, foldE, maxE, minE, eq_T, eq_F, ndec, odec, adec, sdec, fillA, over, chop, List.replicate, leavesOk, leafOk, cellsEq, cellEq, E_byref, en19, bs27, bs47, rowsLn_len, rowsR_len, show ∀ B fr H, execT E B 19 (Code.loop _) fr H = rlG E B 19 (loopAt Tryd.f19 0) (gcn B (norm [0, 1, 3, 6, 7, 21, 22, 23] fr) H) from fun B fr H => rl_intro rfl mt19_3 mb19_3 zf19_3 hd19_3 fr H] 
  | succ m ih => 
    intro k q hk hq 
    have hlt : k < l.length := by omega 
    have hrow := rowsLn_D hlt 
    rw [drop_L hlt, List.foldl_cons] 
    have e := ih (k + 1) (stpL q (atL l k)) (by omega) (by unfold stpL; simp only; split <;> omega) 
    refine Eq.trans ?_ e 
    clear e ih 
    unfold stpL 
    generalize atL l k = x at * 
    obtain ⟨x1, x2, x3, x4, x5⟩ := x 
    obtain ⟨q1, q2, q3⟩ := q 
    simp only at hrow hq ⊢ 
    have hmx : max (q1 : Int) (x2 : Int) = ((max q1 x2 : Nat) : Int) := by omega 
    cases x5 with 
    | true => 
      rw [if_pos rfl, if_pos rfl] 
      rw [rl_step (fn := Tryd.f19) (k := 0) rfl] 
      simp (disch := first | omega | (simp only [List.length_append, List.length_map, List.length_set, List.length_cons, List.length_nil, List.length_take, List.length_drop, rowsLn_len, rowsR_len]; omega)) only [va0, va1, va2, va3, va4, va5, va6, va7, va8, va9, va10, va11, va12, va13, va14, va15, vb0, vb1, vb2, vb3, w_i8, w_u8, w_i16, w_u16, w_i32, w_u32, w_i64, w_u64, lt_T, lt_F, le_T, le_F, nlt_T, nlt_F, nle_T, nle_F, List.take_of_length_le, gB, gcW, gcR, posIn, renA, renL, Chunk.ren, Chunk.refs, evOpD, touchD, stepC, isFresh, nFresh, freshOf, mkR, hole, evL, evH, opd, get, putD, ofVal, cellOf, loadE, behind, lenE, idxAddrE, idxE, lookE, lookM, addPtr, intE, strE, unE, convE, AV.int, AV.bool, AV.str, ivs, take, frameOf, firstRegion, refsA, refsL, one, cellsA, floatOk, apartT, List.map, if_true, if_false, E_P, E_glob, reduceCtorEq, beq_self_eq_true, decide_true, decide_false, ↓reduceIte, Nat.reduceEqDiff, cond_true, cond_false, or_true, true_or, or_false, false_or, and_true, true_and, and_self, false_and, and_false, not_true, not_false_iff, Nat.reduceAdd, Nat.reduceSub, Nat.reduceMul, Nat.reduceLT, Nat.reduceLeDiff, Int.reduceToNat, Int.reduceLT, Int.reduceLE, Option.getD, Int.reduceMul, Int.reduceAdd, List.drop, List.take, Nat.reduceBEq, List.isEmpty, Int.reduceEq, Int.reduceNe, Int.reduceNeg, Int.reduceGT, Int.reduceGE, beq_true, beq_false, UInt8.reduceToNat, eqE, eq_self, foldE, maxE, minE, eq_T, eq_F, ndec, odec, adec, sdec, fillA, over, chop, List.replicate, leavesOk, leafOk, cellsEq, cellEq, E_byref, en19, bs27, bs47, hrow, hmx, rowsLn_len, rowsR_len, show ∀ B fr H, execT E B 19 (Code.loop _) fr H = rlG E B 19 (loopAt Tryd.f19 0) (gcn B (norm [0, 1, 3, 6, 7, 21, 22, 23] fr) H) from fun B fr H => rl_intro rfl mt19_3 mb19_3 zf19_3 hd19_3 fr H] 
    | false => 
      rw [if_neg (by decide), if_neg (by decide)] 
      rw [rl_step (fn := Tryd.f19) (k := 0) rfl] 
      simp (disch := first | omega | (simp only [List.length_append, List.length_map, List.length_set, List.length_cons, List.length_nil, List.length_take, List.length_drop, rowsLn_len, rowsR_len]; omega)) only [va0, va1, va2, va3, va4, va5, va6, va7, va8, va9, va10, va11, va12, va13, va14, va15, vb0, vb1, vb2, vb3, w_i8, w_u8, w_i16, w_u16, w_i32, w_u32, w_i64, w_u64, lt_T, lt_F, le_T, le_F, nlt_T, nlt_F, nle_T, nle_F, List.take_of_length_le, gB, gcW, gcR, posIn, renA, renL, Chunk.ren, Chunk.refs, evOpD, touchD, stepC, isFresh, nFresh, freshOf, mkR, hole, evL, evH, opd, get, putD, ofVal, cellOf, loadE, behind, lenE, idxAddrE, idxE, lookE, lookM, addPtr, intE, strE, unE, convE, AV.int, AV.bool, AV.str, ivs, take, frameOf, firstRegion, refsA, refsL, one, cellsA, floatOk, apartT, List.map, if_true, if_false, E_P, E_glob, reduceCtorEq, beq_self_eq_true, decide_true, decide_false, ↓reduceIte, Nat.reduceEqDiff, cond_true, cond_false, or_true, true_or, or_false, false_or, and_true, true_and, and_self, false_and, and_false, not_true, not_false_iff, Nat.reduceAdd, Nat.reduceSub, Nat.reduceMul, Nat.reduceLT, Nat.reduceLeDiff, Int.reduceToNat, Int.reduceLT, Int.reduceLE, Option.getD, Int.reduceMul, Int.reduceAdd, List.drop, List.take, Nat.reduceBEq, List.isEmpty, Int.reduceEq, Int.reduceNe, Int.reduceNeg, Int.reduceGT, Int.reduceGE, beq_true, beq_false, UInt8.reduceToNat, eqE, eq_self, foldE, maxE, minE, eq_T, eq_F, ndec, odec, adec, sdec, fillA, over, chop, List.replicate, leavesOk, leafOk, cellsEq, cellEq, E_byref, en19, bs27, bs47, hrow, hmx, rowsLn_len, rowsR_len, show ∀ B fr H, execT E B 19 (Code.loop _) fr H = rlG E B 19 (loopAt Tryd.f19 0) (gcn B (norm [0, 1, 3, 6, 7, 21, 22, 23] fr) H) from fun B fr H => rl_intro rfl mt19_3 mb19_3 zf19_3 hd19_3 fr H]
end Go.VI

namespace Go.VI
open Go.Proofs
set_option maxRecDepth 100000
set_option linter.unusedSimpArgs false
set_option linter.unusedVariables false
set_option maxHeartbeats 4000000
def cutL (ls : List Ln) (f t : Nat) : List Ln := (ls.drop f).take (t - f)
def foldQ (ls : List Ln) (f t : Nat) : Nat × List UInt8 × Nat := (cutL ls f t).foldl stpL (0, [], 0)
theorem rowsLn_cut (ls : List Ln) (f t : Nat) : List.take (t - f) (List.drop f (rowsLn ls)) = rowsLn (cutL ls f t) := by simp [rowsLn, cutL, List.map_take, List.map_drop]
theorem cutL_len {ls : List Ln} {f t : Nat} (h : t ≤ ls.length) : (cutL ls f t).length = t - f := by rw [cutL, List.length_take, List.length_drop]; omega
theorem foldQ_le : ∀ (l : List Ln) (q : Nat × List UInt8 × Nat), (l.foldl stpL q).2.2 ≤ q.2.2 + l.length
  | [], q => Nat.le_refl _
  | x :: r, q => by
    rw [List.foldl_cons, List.length_cons]
    have := foldQ_le r (stpL q x)
    have h2 : (stpL q x).2.2 ≤ q.2.2 + 1 := by unfold stpL; simp only; split <;> omega
    omega
def regR (ls : List Ln) (f t : Nat) : Rg := ⟨f, (atL ls f).i, t, (foldQ ls f t).1, (foldQ ls f t).2.1⟩
def hitR (ls : List Ln) (f t : Nat) : Prop := 1 < t - f ∧ (foldQ ls f t).2.2 = 1
instance (ls : List Ln) (f t : Nat) : Decidable (hitR ls f t) := by unfold hitR; infer_instance
theorem cl0n (ls : List Ln) (hls : ls.length ≤ 100000) (f t : Nat) (hft : f < t) (ht : t ≤ ls.length) (hn : ¬ hitR ls f t) :
    ∃ L, callT E 19 [.i (.v (.int .i64 (f))), .i (.v (.int .i64 (t))), .ptr 0 0 0 0, .ptr 2 0 0 0] [.box [.ref 1 0 0 ls.length], .fz 5 0 (rowsLn ls) false, .box [.i (.sl 0 [] true)]] = some (.tup [], .box [.ref 1 0 0 ls.length] :: .fz 5 0 (rowsLn ls) false :: .box [.i (.sl 0 [] true)] :: L) := by
  have hrow := rowsLn_D (show f < ls.length by omega)
  have hcut := rowsLn_cut ls f t
  have hcl := cutL_len (f := f) ht
  have hlp := f1_loop0 (cutL ls f t) (by omega) false ls.length (rowsLn ls) [] f t (atL ls f).i (cutL ls f t).length 0 (0, [], 0) (by omega) (by simp only; omega)
  rw [List.drop_zero] at hlp
  rw [show (cutL ls f t).foldl stpL (0, [], 0) = foldQ ls f t from rfl] at hlp
  have hfl := foldQ_le (cutL ls f t) (0, [], 0)
  rw [show (cutL ls f t).foldl stpL (0, [], 0) = foldQ ls f t from rfl] at hfl
  unfold hitR at hn
  generalize foldQ ls f t = q at *
  generalize atL ls f = x at *
  generalize hcc : cutL ls f t = cl at *
  obtain ⟨q1, q2, q3⟩ := q
  obtain ⟨x1, x2, x3, x4, x5⟩ := x
  simp only at hlp hn hrow hfl
  have hlp' : rl E 3 19 (loopAt Tryd.f19 0) [(0, .i (.v (.int .i64 (f)))), (1, .i (.v (.int .i64 (t)))), (3, .ptr 2 0 0 0), (6, .ptr 3 0 0 0), (7, .i (.v (.int .i64 (0)))), (21, .i (.sl 5 (rowsLn cl) false)), (22, .i (.v (.int .i64 (cl.length)))), (23, .i (.v (.int .i64 (0))))] [.box [.ref 1 0 0 ls.length], .fz 5 0 (rowsLn ls) false, .box [.i (.sl 0 [] true)], .box [.i (.v (.int .i64 (5))), .i (.v (.int .i64 (0))), .i (.v (.int .i64 (-1))), .i (.v (.int .i64 (f))), .i (.v (.int .i64 (x1))), .i (.v (.int .i64 (t))), .i (.v (.int .i64 (0))), .i (.str [])]] = _ := hlp
  clear hlp
  by_cases n1 : 1 < t - f
  · have n2 : ¬ ((q3 : Nat) : Int) = 1 := fun h => hn ⟨n1, by omega⟩
    clear hn
    rw [callT_eq Tryd.func19 rfl fok19 (by simp [Tryd.ntmps19])]
    simp (disch := first | omega | (simp only [List.length_append, List.length_map, List.length_set, List.length_cons, List.length_nil, List.length_take, List.length_drop, rowsLn_len, rowsR_len]; omega)) only [va0, va1, va2, va3, va4, va5, va6, va7, va8, va9, va10, va11, va12, va13, va14, va15, vb0, vb1, vb2, vb3, w_i8, w_u8, w_i16, w_u16, w_i32, w_u32, w_i64, w_u64, lt_T, lt_F, le_T, le_F, nlt_T, nlt_F, nle_T, nle_F, List.take_of_length_le, gB, gcW, gcR, posIn, renA, renL, Chunk.ren, Chunk.refs, evOpD, touchD, stepC, isFresh, nFresh, freshOf, mkR, hole, evL, evH, opd, get, putD, ofVal, cellOf, loadE, behind, lenE, idxAddrE, idxE, lookE, lookM, addPtr, intE, strE, unE, convE, AV.int, AV.bool, AV.str, ivs, take, frameOf, firstRegion, refsA, refsL, one, cellsA, floatOk, apartT, List.map, if_true, if_false, E_P, E_glob, reduceCtorEq, beq_self_eq_true, decide_true, decide_false, ↓reduceIte, Nat.reduceEqDiff, cond_true, cond_false, or_true, true_or, or_false, false_or, and_true, true_and, and_self, false_and, and_false, not_true, not_false_iff, Nat.reduceAdd, Nat.reduceSub, Nat.reduceMul, Nat.reduceLT, Nat.reduceLeDiff, Int.reduceToNat, Int.reduceLT, Int.reduceLE, Option.getD, Int.reduceMul, Int.reduceAdd, List.drop, List.take, Nat.reduceBEq, List.isEmpty, Int.reduceEq, Int.reduceNe, Int.reduceNeg, Int.reduceGT, Int.reduceGE, beq_true, beq_false, UInt8.reduceToNat, eqE, eq_self, foldE, maxE, minE, eq_T, eq_F, ndec, odec, adec, sdec, fillA, over, chop, List.replicate, leavesOk, leafOk, cellsEq, cellEq, E_byref, en19, bs27, bs47, hrow, hcut, hlp', n2, rowsLn_len, rowsR_len, show ∀ B fr H, execT E B 19 (Code.loop _) fr H = rlG E B 19 (loopAt Tryd.f19 0) (gcn B (norm [0, 1, 3, 6, 7, 21, 22, 23] fr) H) from fun B fr H => rl_intro rfl mt19_3 mb19_3 zf19_3 hd19_3 fr H]
    exact ⟨_, rfl⟩
  · clear hn
    rw [callT_eq Tryd.func19 rfl fok19 (by simp [Tryd.ntmps19])]
    simp (disch := first | omega | (simp only [List.length_append, List.length_map, List.length_set, List.length_cons, List.length_nil, List.length_take, List.length_drop, rowsLn_len, rowsR_len]; omega)) only [va0, va1, va2, va3, va4, va5, va6, va7, va8, va9, va10, va11, va12, va13, va14, va15, vb0, vb1, vb2, vb3, w_i8, w_u8, w_i16, w_u16, w_i32, w_u32, w_i64, w_u64, lt_T, lt_F, le_T, le_F, nlt_T, nlt_F, nle_T, nle_F, List.take_of_length_le, gB, gcW, gcR, posIn, renA, renL, Chunk.ren, Chunk.refs, evOpD, touchD, stepC, isFresh, nFresh, freshOf, mkR, hole, evL, evH, opd, get, putD, ofVal, cellOf, loadE, behind, lenE, idxAddrE, idxE, lookE, lookM, addPtr, intE, strE, unE, convE, AV.int, AV.bool, AV.str, ivs, take, frameOf, firstRegion, refsA, refsL, one, cellsA, floatOk, apartT, List.map, if_true, if_false, E_P, E_glob, reduceCtorEq, beq_self_eq_true, decide_true, decide_false, ↓reduceIte, Nat.reduceEqDiff, cond_true, cond_false, or_true, true_or, or_false, false_or, and_true, true_and, and_self, false_and, and_false, not_true, not_false_iff, Nat.reduceAdd, Nat.reduceSub, Nat.reduceMul, Nat.reduceLT, Nat.reduceLeDiff, Int.reduceToNat, Int.reduceLT, Int.reduceLE, Option.getD, Int.reduceMul, Int.reduceAdd, List.drop, List.take, Nat.reduceBEq, List.isEmpty, Int.reduceEq, Int.reduceNe, Int.reduceNeg, Int.reduceGT, Int.reduceGE, beq_true, beq_false, UInt8.reduceToNat, eqE, eq_self, foldE, maxE, minE, eq_T, eq_F, ndec, odec, adec, sdec, fillA, over, chop, List.replicate, leavesOk, leafOk, cellsEq, cellEq, E_byref, en19, bs27, bs47, hrow, hcut, hlp', rowsLn_len, rowsR_len, show ∀ B fr H, execT E B 19 (Code.loop _) fr H = rlG E B 19 (loopAt Tryd.f19 0) (gcn B (norm [0, 1, 3, 6, 7, 21, 22, 23] fr) H) from fun B fr H => rl_intro rfl mt19_3 mb19_3 zf19_3 hd19_3 fr H]
    exact ⟨_, rfl⟩
theorem cl0h (ls : List Ln) (hls : ls.length ≤ 100000) (f t : Nat) (hft : f < t) (ht : t ≤ ls.length) (hn : hitR ls f t) :
    ∃ L c, callT E 19 [.i (.v (.int .i64 (f))), .i (.v (.int .i64 (t))), .ptr 0 0 0 0, .ptr 2 0 0 0] [.box [.ref 1 0 0 ls.length], .fz 5 0 (rowsLn ls) false, .box [.i (.sl 0 [] true)]] = some (.tup [], .box [.ref 1 0 0 ls.length] :: .fz 5 0 (rowsLn ls) false :: .box [.ref c 0 0 1] :: L) ∧ 3 ≤ c ∧ L[c - 3]? = some (.sl 8 0 (rowsR [regR ls f t]) false) := by
  have hrow := rowsLn_D (show f < ls.length by omega)
  have hcut := rowsLn_cut ls f t
  have hcl := cutL_len (f := f) ht
  have hlp := f1_loop0 (cutL ls f t) (by omega) false ls.length (rowsLn ls) [] f t (atL ls f).i (cutL ls f t).length 0 (0, [], 0) (by omega) (by simp only; omega)
  rw [List.drop_zero] at hlp
  rw [show (cutL ls f t).foldl stpL (0, [], 0) = foldQ ls f t from rfl] at hlp
  have hfl := foldQ_le (cutL ls f t) (0, [], 0)
  rw [show (cutL ls f t).foldl stpL (0, [], 0) = foldQ ls f t from rfl] at hfl
  unfold hitR at hn
  have hsn := rowsR_snoc [] (regR ls f t)
  unfold regR at hsn ⊢
  generalize foldQ ls f t = q at *
  generalize atL ls f = x at *
  generalize hcc : cutL ls f t = cl at *
  obtain ⟨q1, q2, q3⟩ := q
  obtain ⟨x1, x2, x3, x4, x5⟩ := x
  simp only at hlp hn hrow hfl hsn ⊢
  have hlp' : rl E 3 19 (loopAt Tryd.f19 0) [(0, .i (.v (.int .i64 (f)))), (1, .i (.v (.int .i64 (t)))), (3, .ptr 2 0 0 0), (6, .ptr 3 0 0 0), (7, .i (.v (.int .i64 (0)))), (21, .i (.sl 5 (rowsLn cl) false)), (22, .i (.v (.int .i64 (cl.length)))), (23, .i (.v (.int .i64 (0))))] [.box [.ref 1 0 0 ls.length], .fz 5 0 (rowsLn ls) false, .box [.i (.sl 0 [] true)], .box [.i (.v (.int .i64 (5))), .i (.v (.int .i64 (0))), .i (.v (.int .i64 (-1))), .i (.v (.int .i64 (f))), .i (.v (.int .i64 (x1))), .i (.v (.int .i64 (t))), .i (.v (.int .i64 (0))), .i (.str [])]] = _ := hlp
  clear hlp
  obtain ⟨n1, n2⟩ := hn
  subst n2
  rw [callT_eq Tryd.func19 rfl fok19 (by simp [Tryd.ntmps19])]
  simp (disch := first | omega | (simp only [List.length_append, List.length_map, List.length_set, List.length_cons, List.length_nil, List.length_take, List.length_drop, rowsLn_len, rowsR_len]; omega)) only [va0, va1, va2, va3, va4, va5, va6, va7, va8, va9, va10, va11, va12, va13, va14, va15, vb0, vb1, vb2, vb3, w_i8, w_u8, w_i16, w_u16, w_i32, w_u32, w_i64, w_u64, lt_T, lt_F, le_T, le_F, nlt_T, nlt_F, nle_T, nle_F, List.take_of_length_le, gB, gcW, gcR, posIn, renA, renL, Chunk.ren, Chunk.refs, evOpD, touchD, stepC, isFresh, nFresh, freshOf, mkR, hole, evL, evH, opd, get, putD, ofVal, cellOf, loadE, behind, lenE, idxAddrE, idxE, lookE, lookM, addPtr, intE, strE, unE, convE, AV.int, AV.bool, AV.str, ivs, take, frameOf, firstRegion, refsA, refsL, one, cellsA, floatOk, apartT, List.map, if_true, if_false, E_P, E_glob, reduceCtorEq, beq_self_eq_true, decide_true, decide_false, ↓reduceIte, Nat.reduceEqDiff, cond_true, cond_false, or_true, true_or, or_false, false_or, and_true, true_and, and_self, false_and, and_false, not_true, not_false_iff, Nat.reduceAdd, Nat.reduceSub, Nat.reduceMul, Nat.reduceLT, Nat.reduceLeDiff, Int.reduceToNat, Int.reduceLT, Int.reduceLE, Option.getD, Int.reduceMul, Int.reduceAdd, List.drop, List.take, Nat.reduceBEq, List.isEmpty, Int.reduceEq, Int.reduceNe, Int.reduceNeg, Int.reduceGT, Int.reduceGE, beq_true, beq_false, UInt8.reduceToNat, eqE, eq_self, foldE, maxE, minE, eq_T, eq_F, ndec, odec, adec, sdec, fillA, over, chop, List.replicate, leavesOk, leafOk, cellsEq, cellEq, E_byref, en19, bs27, bs47, hrow, hcut, hlp', hsn, rowsLn_len, rowsR_len, show ∀ B fr H, execT E B 19 (Code.loop _) fr H = rlG E B 19 (loopAt Tryd.f19 0) (gcn B (norm [0, 1, 3, 6, 7, 21, 22, 23] fr) H) from fun B fr H => rl_intro rfl mt19_3 mb19_3 zf19_3 hd19_3 fr H]
  exact ⟨_, _, rfl, by decide, rfl⟩
theorem cl1n (ls : List Ln) (hls : ls.length ≤ 100000) (out : List Rg) (ho : out.length ≤ 200000) (f t : Nat) (hft : f < t) (ht : t ≤ ls.length) (hn : ¬ hitR ls f t) :
    ∃ L, callT E 19 [.i (.v (.int .i64 (f))), .i (.v (.int .i64 (t))), .ptr 0 0 0 0, .ptr 2 0 0 0] [.box [.ref 1 0 0 ls.length], .fz 5 0 (rowsLn ls) false, .box [.ref 3 0 0 out.length], .sl 8 0 (rowsR out) false] = some (.tup [], .box [.ref 1 0 0 ls.length] :: .fz 5 0 (rowsLn ls) false :: .box [.ref 3 0 0 out.length] :: .sl 8 0 (rowsR out) false :: L) := by
  have hrow := rowsLn_D (show f < ls.length by omega)
  have hcut := rowsLn_cut ls f t
  have hcl := cutL_len (f := f) ht
  have hlp := f1_loop1 (cutL ls f t) (by omega) false ls.length (rowsLn ls) out f t (atL ls f).i (cutL ls f t).length 0 (0, [], 0) (by omega) (by simp only; omega)
  rw [List.drop_zero] at hlp
  rw [show (cutL ls f t).foldl stpL (0, [], 0) = foldQ ls f t from rfl] at hlp
  have hfl := foldQ_le (cutL ls f t) (0, [], 0)
  rw [show (cutL ls f t).foldl stpL (0, [], 0) = foldQ ls f t from rfl] at hfl
  unfold hitR at hn
  generalize foldQ ls f t = q at *
  generalize atL ls f = x at *
  generalize hcc : cutL ls f t = cl at *
  obtain ⟨q1, q2, q3⟩ := q
  obtain ⟨x1, x2, x3, x4, x5⟩ := x
  simp only at hlp hn hrow hfl
  have hlp' : rl E 4 19 (loopAt Tryd.f19 0) [(0, .i (.v (.int .i64 (f)))), (1, .i (.v (.int .i64 (t)))), (3, .ptr 2 0 0 0), (6, .ptr 4 0 0 0), (7, .i (.v (.int .i64 (0)))), (21, .i (.sl 5 (rowsLn cl) false)), (22, .i (.v (.int .i64 (cl.length)))), (23, .i (.v (.int .i64 (0))))] [.box [.ref 1 0 0 ls.length], .fz 5 0 (rowsLn ls) false, .box [.ref 3 0 0 out.length], .sl 8 0 (rowsR out) false, .box [.i (.v (.int .i64 (5))), .i (.v (.int .i64 (0))), .i (.v (.int .i64 (-1))), .i (.v (.int .i64 (f))), .i (.v (.int .i64 (x1))), .i (.v (.int .i64 (t))), .i (.v (.int .i64 (0))), .i (.str [])]] = _ := hlp
  clear hlp
  by_cases n1 : 1 < t - f
  · have n2 : ¬ ((q3 : Nat) : Int) = 1 := fun h => hn ⟨n1, by omega⟩
    clear hn
    rw [callT_eq Tryd.func19 rfl fok19 (by simp [Tryd.ntmps19])]
    simp (disch := first | omega | (simp only [List.length_append, List.length_map, List.length_set, List.length_cons, List.length_nil, List.length_take, List.length_drop, rowsLn_len, rowsR_len]; omega)) only [va0, va1, va2, va3, va4, va5, va6, va7, va8, va9, va10, va11, va12, va13, va14, va15, vb0, vb1, vb2, vb3, w_i8, w_u8, w_i16, w_u16, w_i32, w_u32, w_i64, w_u64, lt_T, lt_F, le_T, le_F, nlt_T, nlt_F, nle_T, nle_F, List.take_of_length_le, gB, gcW, gcR, posIn, renA, renL, Chunk.ren, Chunk.refs, evOpD, touchD, stepC, isFresh, nFresh, freshOf, mkR, hole, evL, evH, opd, get, putD, ofVal, cellOf, loadE, behind, lenE, idxAddrE, idxE, lookE, lookM, addPtr, intE, strE, unE, convE, AV.int, AV.bool, AV.str, ivs, take, frameOf, firstRegion, refsA, refsL, one, cellsA, floatOk, apartT, List.map, if_true, if_false, E_P, E_glob, reduceCtorEq, beq_self_eq_true, decide_true, decide_false, ↓reduceIte, Nat.reduceEqDiff, cond_true, cond_false, or_true, true_or, or_false, false_or, and_true, true_and, and_self, false_and, and_false, not_true, not_false_iff, Nat.reduceAdd, Nat.reduceSub, Nat.reduceMul, Nat.reduceLT, Nat.reduceLeDiff, Int.reduceToNat, Int.reduceLT, Int.reduceLE, Option.getD, Int.reduceMul, Int.reduceAdd, List.drop, List.take, Nat.reduceBEq, List.isEmpty, Int.reduceEq, Int.reduceNe, Int.reduceNeg, Int.reduceGT, Int.reduceGE, beq_true, beq_false, UInt8.reduceToNat, eqE, eq_self, foldE, maxE, minE, eq_T, eq_F, ndec, odec, adec, sdec, fillA, over, chop, List.replicate, leavesOk, leafOk, cellsEq, cellEq, E_byref, en19, bs27, bs47, hrow, hcut, hlp', n2, rowsLn_len, rowsR_len, show ∀ B fr H, execT E B 19 (Code.loop _) fr H = rlG E B 19 (loopAt Tryd.f19 0) (gcn B (norm [0, 1, 3, 6, 7, 21, 22, 23] fr) H) from fun B fr H => rl_intro rfl mt19_3 mb19_3 zf19_3 hd19_3 fr H]
    exact ⟨_, rfl⟩
  · clear hn
    rw [callT_eq Tryd.func19 rfl fok19 (by simp [Tryd.ntmps19])]
    simp (disch := first | omega | (simp only [List.length_append, List.length_map, List.length_set, List.length_cons, List.length_nil, List.length_take, List.length_drop, rowsLn_len, rowsR_len]; omega)) only [va0, va1, va2, va3, va4, va5, va6, va7, va8, va9, va10, va11, va12, va13, va14, va15, vb0, vb1, vb2, vb3, w_i8, w_u8, w_i16, w_u16, w_i32, w_u32, w_i64, w_u64, lt_T, lt_F, le_T, le_F, nlt_T, nlt_F, nle_T, nle_F, List.take_of_length_le, gB, gcW, gcR, posIn, renA, renL, Chunk.ren, Chunk.refs, evOpD, touchD, stepC, isFresh, nFresh, freshOf, mkR, hole, evL, evH, opd, get, putD, ofVal, cellOf, loadE, behind, lenE, idxAddrE, idxE, lookE, lookM, addPtr, intE, strE, unE, convE, AV.int, AV.bool, AV.str, ivs, take, frameOf, firstRegion, refsA, refsL, one, cellsA, floatOk, apartT, List.map, if_true, if_false, E_P, E_glob, reduceCtorEq, beq_self_eq_true, decide_true, decide_false, ↓reduceIte, Nat.reduceEqDiff, cond_true, cond_false, or_true, true_or, or_false, false_or, and_true, true_and, and_self, false_and, and_false, not_true, not_false_iff, Nat.reduceAdd, Nat.reduceSub, Nat.reduceMul, Nat.reduceLT, Nat.reduceLeDiff, Int.reduceToNat, Int.reduceLT, Int.reduceLE, Option.getD, Int.reduceMul, Int.reduceAdd, List.drop, List.take, Nat.reduceBEq, List.isEmpty, Int.reduceEq, Int.reduceNe, Int.reduceNeg, Int.reduceGT, Int.reduceGE, beq_true, beq_false, UInt8.reduceToNat, eqE, eq_self, foldE, maxE, minE, eq_T, eq_F, ndec, odec, adec, sdec, fillA, over, chop, List.replicate, leavesOk, leafOk, cellsEq, cellEq, E_byref, en19, bs27, bs47, hrow, hcut, hlp', rowsLn_len, rowsR_len, show ∀ B fr H, execT E B 19 (Code.loop _) fr H = rlG E B 19 (loopAt Tryd.f19 0) (gcn B (norm [0, 1, 3, 6, 7, 21, 22, 23] fr) H) from fun B fr H => rl_intro rfl mt19_3 mb19_3 zf19_3 hd19_3 fr H]
    exact ⟨_, rfl⟩
theorem cl1h (ls : List Ln) (hls : ls.length ≤ 100000) (out : List Rg) (ho : out.length ≤ 200000) (f t : Nat) (hft : f < t) (ht : t ≤ ls.length) (hn : hitR ls f t) :
    ∃ L, callT E 19 [.i (.v (.int .i64 (f))), .i (.v (.int .i64 (t))), .ptr 0 0 0 0, .ptr 2 0 0 0] [.box [.ref 1 0 0 ls.length], .fz 5 0 (rowsLn ls) false, .box [.ref 3 0 0 out.length], .sl 8 0 (rowsR out) false] = some (.tup [], .box [.ref 1 0 0 ls.length] :: .fz 5 0 (rowsLn ls) false :: .box [.ref 3 1 0 (out.length + 1)] :: .sl 8 1 (rowsR (out ++ [regR ls f t])) false :: L) := by
  have hrow := rowsLn_D (show f < ls.length by omega)
  have hcut := rowsLn_cut ls f t
  have hcl := cutL_len (f := f) ht
  have hlp := f1_loop1 (cutL ls f t) (by omega) false ls.length (rowsLn ls) out f t (atL ls f).i (cutL ls f t).length 0 (0, [], 0) (by omega) (by simp only; omega)
  rw [List.drop_zero] at hlp
  rw [show (cutL ls f t).foldl stpL (0, [], 0) = foldQ ls f t from rfl] at hlp
  have hfl := foldQ_le (cutL ls f t) (0, [], 0)
  rw [show (cutL ls f t).foldl stpL (0, [], 0) = foldQ ls f t from rfl] at hfl
  unfold hitR at hn
  have hsn := rowsR_snoc out (regR ls f t)
  unfold regR at hsn ⊢
  generalize foldQ ls f t = q at *
  generalize atL ls f = x at *
  generalize hcc : cutL ls f t = cl at *
  obtain ⟨q1, q2, q3⟩ := q
  obtain ⟨x1, x2, x3, x4, x5⟩ := x
  simp only at hlp hn hrow hfl hsn ⊢
  have hlp' : rl E 4 19 (loopAt Tryd.f19 0) [(0, .i (.v (.int .i64 (f)))), (1, .i (.v (.int .i64 (t)))), (3, .ptr 2 0 0 0), (6, .ptr 4 0 0 0), (7, .i (.v (.int .i64 (0)))), (21, .i (.sl 5 (rowsLn cl) false)), (22, .i (.v (.int .i64 (cl.length)))), (23, .i (.v (.int .i64 (0))))] [.box [.ref 1 0 0 ls.length], .fz 5 0 (rowsLn ls) false, .box [.ref 3 0 0 out.length], .sl 8 0 (rowsR out) false, .box [.i (.v (.int .i64 (5))), .i (.v (.int .i64 (0))), .i (.v (.int .i64 (-1))), .i (.v (.int .i64 (f))), .i (.v (.int .i64 (x1))), .i (.v (.int .i64 (t))), .i (.v (.int .i64 (0))), .i (.str [])]] = _ := hlp
  clear hlp
  obtain ⟨n1, n2⟩ := hn
  subst n2
  have htk : List.take out.length (rowsR out) = rowsR out := List.take_of_length_le (by rw [rowsR_len]; exact Nat.le_refl _)
  rw [callT_eq Tryd.func19 rfl fok19 (by simp [Tryd.ntmps19])]
  simp (disch := first | omega | (simp only [List.length_append, List.length_map, List.length_set, List.length_cons, List.length_nil, List.length_take, List.length_drop, rowsLn_len, rowsR_len]; omega)) only [va0, va1, va2, va3, va4, va5, va6, va7, va8, va9, va10, va11, va12, va13, va14, va15, vb0, vb1, vb2, vb3, w_i8, w_u8, w_i16, w_u16, w_i32, w_u32, w_i64, w_u64, lt_T, lt_F, le_T, le_F, nlt_T, nlt_F, nle_T, nle_F, List.take_of_length_le, gB, gcW, gcR, posIn, renA, renL, Chunk.ren, Chunk.refs, evOpD, touchD, stepC, isFresh, nFresh, freshOf, mkR, hole, evL, evH, opd, get, putD, ofVal, cellOf, loadE, behind, lenE, idxAddrE, idxE, lookE, lookM, addPtr, intE, strE, unE, convE, AV.int, AV.bool, AV.str, ivs, take, frameOf, firstRegion, refsA, refsL, one, cellsA, floatOk, apartT, List.map, if_true, if_false, E_P, E_glob, reduceCtorEq, beq_self_eq_true, decide_true, decide_false, ↓reduceIte, Nat.reduceEqDiff, cond_true, cond_false, or_true, true_or, or_false, false_or, and_true, true_and, and_self, false_and, and_false, not_true, not_false_iff, Nat.reduceAdd, Nat.reduceSub, Nat.reduceMul, Nat.reduceLT, Nat.reduceLeDiff, Int.reduceToNat, Int.reduceLT, Int.reduceLE, Option.getD, Int.reduceMul, Int.reduceAdd, List.drop, List.take, Nat.reduceBEq, List.isEmpty, Int.reduceEq, Int.reduceNe, Int.reduceNeg, Int.reduceGT, Int.reduceGE, beq_true, beq_false, UInt8.reduceToNat, eqE, eq_self, foldE, maxE, minE, eq_T, eq_F, ndec, odec, adec, sdec, fillA, over, chop, List.replicate, leavesOk, leafOk, cellsEq, cellEq, E_byref, en19, bs27, bs47, hrow, hcut, hlp', hsn, htk, rowsLn_len, rowsR_len, show ∀ B fr H, execT E B 19 (Code.loop _) fr H = rlG E B 19 (loopAt Tryd.f19 0) (gcn B (norm [0, 1, 3, 6, 7, 21, 22, 23] fr) H) from fun B fr H => rl_intro rfl mt19_3 mb19_3 zf19_3 hd19_3 fr H]
  exact ⟨_, rfl⟩
end Go.VI

namespace Go.VI
open Go.Proofs
set_option maxRecDepth 100000
set_option linter.unusedSimpArgs false
set_option linter.unusedVariables false
set_option maxHeartbeats 4000000
theorem ik0n (ls : List Ln) (hls : ls.length ≤ 100000) (f t : Nat) (hft : f < t) (ht : t ≤ ls.length) (hn : ¬ hitR ls f t) :
    isoK E (callT E) 19 [.i (.v (.int .i64 f)), .i (.v (.int .i64 t)), .ptr 0 0 0 0, .ptr 2 0 0 0] [.box [.ref 1 0 0 ls.length], .fz 5 0 (rowsLn ls) false, .box [.i (.sl 0 [] true)]] = some (.tup [], [.box [.ref 1 0 0 ls.length], .fz 5 0 (rowsLn ls) false, .box [.i (.sl 0 [] true)]]) := by
  obtain ⟨L, h⟩ := cl0n ls hls f t hft ht hn
  have he : E.ext 19 = none := rfl
  unfold isoK
  simp [exCl, he, refsL, refsA, renL, renA, posIn, Chunk.ren, h, Chunk.refs, reach, setAll, backRen]
theorem ik1n (ls : List Ln) (hls : ls.length ≤ 100000) (out : List Rg) (ho : out.length ≤ 200000) (f t : Nat) (hft : f < t) (ht : t ≤ ls.length) (hn : ¬ hitR ls f t) :
    isoK E (callT E) 19 [.i (.v (.int .i64 f)), .i (.v (.int .i64 t)), .ptr 0 0 0 0, .ptr 2 0 0 0] [.box [.ref 1 0 0 ls.length], .fz 5 0 (rowsLn ls) false, .box [.ref 3 0 0 out.length], .sl 8 0 (rowsR out) false] = some (.tup [], [.box [.ref 1 0 0 ls.length], .fz 5 0 (rowsLn ls) false, .box [.ref 3 0 0 out.length], .sl 8 0 (rowsR out) false]) := by
  obtain ⟨L, h⟩ := cl1n ls hls out ho f t hft ht hn
  have he : E.ext 19 = none := rfl
  unfold isoK
  simp [exCl, he, refsL, refsA, renL, renA, posIn, Chunk.ren, h, Chunk.refs, reach, setAll, backRen]
theorem ik1h (ls : List Ln) (hls : ls.length ≤ 100000) (out : List Rg) (ho : out.length ≤ 200000) (f t : Nat) (hft : f < t) (ht : t ≤ ls.length) (hn : hitR ls f t) :
    isoK E (callT E) 19 [.i (.v (.int .i64 f)), .i (.v (.int .i64 t)), .ptr 0 0 0 0, .ptr 2 0 0 0] [.box [.ref 1 0 0 ls.length], .fz 5 0 (rowsLn ls) false, .box [.ref 3 0 0 out.length], .sl 8 0 (rowsR out) false] = some (.tup [], [.box [.ref 1 0 0 ls.length], .fz 5 0 (rowsLn ls) false, .box [.ref 3 1 0 (out.length + 1)], .sl 8 1 (rowsR (out ++ [regR ls f t])) false]) := by
  obtain ⟨L, h⟩ := cl1h ls hls out ho f t hft ht hn
  have he : E.ext 19 = none := rfl
  generalize rowsR (out ++ [regR ls f t]) = rr at *
  unfold isoK
  simp [exCl, he, refsL, refsA, renL, renA, posIn, Chunk.ren, h, Chunk.refs, reach, setAll, backRen]
theorem ik0h (ls : List Ln) (hls : ls.length ≤ 100000) (f t : Nat) (hft : f < t) (ht : t ≤ ls.length) (hn : hitR ls f t) :
    isoK E (callT E) 19 [.i (.v (.int .i64 f)), .i (.v (.int .i64 t)), .ptr 0 0 0 0, .ptr 2 0 0 0] [.box [.ref 1 0 0 ls.length], .fz 5 0 (rowsLn ls) false, .box [.i (.sl 0 [] true)]] = some (.tup [], [.box [.ref 1 0 0 ls.length], .fz 5 0 (rowsLn ls) false, .box [.ref 3 0 0 1], .sl 8 0 (rowsR [regR ls f t]) false]) := by
  obtain ⟨L, c, h, hc, hg⟩ := cl0h ls hls f t hft ht hn
  have he : E.ext 19 = none := rfl
  generalize rowsR [regR ls f t] = rr at *
  obtain ⟨d, rfl⟩ : ∃ d, c = d + 3 := ⟨c - 3, by omega⟩
  rw [Nat.add_sub_cancel] at hg
  have hlt : d < L.length := (List.getElem?_eq_some_iff.1 hg).1
  have hnl : ¬ L.length ≤ d := by omega
  have hgd : L[d]? = some (.sl 8 0 rr false) := hg
  unfold isoK
  simp [exCl, he, refsL, refsA, renL, renA, posIn, Chunk.ren, h, Chunk.refs, reach, setAll, backRen, hgd, hnl]
end Go.VI

