import Derived.Test.YtbacmnbjkhjopaaDoorProg
import Derived.KernelRfl
import Derived.RangeFuncNested
import Derived.RangeFuncBound
import Derived.RangeFuncCalls
import Derived.RangeFuncLeaves
import Derived.Shelf.Abstract
import Derived.Shelf.RegionOpen
import Derived.WalkKit
import Derived.OwnWalkIn
import Derived.TacticsInMore
import Derived.LoopNIn
import Derived.LoopIn
import Derived.Lib.LaidTab
import Derived.MakeChecks
import Derived.Test.YtbacmnbjkhjopaaDoorZZF3
set_option linter.unusedVariables false
set_option linter.defProp false
set_option maxRecDepth 20000
namespace Go.VI
open Go.Proofs
def keepT : List (Nat × List (Nat × List Nat)) := [
  (2, [(0, [])]),
  (3, [(0, [0]), (1, [0, 9]), (2, [2]), (3, [0, 3, 4]), (4, [0, 3, 4, 5, 6]), (5, [2])]),
  (4, [(0, [0]), (1, [0, 9]), (2, [2]), (3, [0, 3, 4]), (4, [3, 4, 5, 6]), (5, [2])]),
  (5, [(0, [0]), (1, [0, 9]), (2, [2]), (3, [0, 3, 4]), (4, [3, 4, 5, 6]), (5, [2])]),
  (6, [(0, [0, 1]), (1, [0, 1, 5, 6]), (2, [0, 1, 5, 6, 7, 8]), (3, [0, 1, 5, 7, 8, 29]), (4, [4]), (5, [0, 5, 7, 8, 9]), (6, [0, 5, 9, 48]), (7, [4]), (8, [0, 5, 9, 10]), (9, [0, 5, 10, 49, 50, 51]), (10, [0, 5, 10, 49, 50, 51, 52]), (11, [0, 5, 10, 12, 49, 50, 51]), (12, [0, 5, 10, 12, 49, 50, 51, 70]), (13, [4]), (14, [0, 5, 10, 49, 50, 51]), (15, [0, 5, 10, 49, 50, 51, 87]), (16, [4]), (17, [0, 5, 10, 49, 50, 51]), (18, [4])]),
  (7, [(0, [0]), (1, [0, 17]), (2, [2]), (3, [0, 3]), (4, [0, 3, 19, 20, 21]), (5, [0, 3, 19, 20, 21, 22]), (6, [0, 3, 5, 19, 20, 21]), (7, [0, 3, 19, 20, 21, 27]), (8, [0, 3, 19, 20, 21]), (9, [0, 3, 19, 20, 21]), (10, [0, 3, 32]), (11, [2]), (12, [0, 3, 6]), (13, [0, 3, 6, 7]), (14, [0, 3, 6, 7, 37]), (15, [0, 3, 6, 7]), (16, [0, 3, 6, 7]), (17, [6, 8, 9]), (18, [2])]),
  (8, [(0, [0]), (1, [0, 3, 4]), (2, [0, 3, 24]), (3, [2]), (4, [0, 3, 30]), (5, [2]), (6, [0, 3, 5]), (7, [0, 3, 5, 31, 32, 33]), (8, [0, 3, 5, 31, 32, 33, 34]), (9, [0, 3, 5, 7, 31, 32, 33]), (10, [0, 3, 5, 31, 32, 33, 39]), (11, [0, 3, 5, 31, 32, 33]), (12, [0, 3, 5, 31, 32, 33]), (13, [0, 3, 5, 44]), (14, [2]), (15, [0, 3, 5, 8]), (16, [0, 3, 5, 8, 9]), (17, [0, 3, 5, 8, 9, 52]), (18, [0, 3, 5, 8, 9]), (19, [0, 3, 5, 8, 9, 57, 58, 59]), (20, [0, 3, 5, 8, 9, 57, 58, 59, 60]), (21, [0, 3, 5, 8, 9, 11, 57, 58, 59]), (22, [0, 3, 5, 8, 9, 57, 58, 59]), (23, [0, 3, 5, 8, 9, 57, 58, 59]), (24, [0, 3, 8, 12]), (25, [0, 3, 8, 12, 70]), (26, [0, 3, 8, 12]), (27, [0, 3, 8, 12, 82]), (28, [2]), (29, [2])]),
  (9, [(0, [0]), (1, [0, 11]), (2, [2]), (3, [0, 3, 4]), (4, [0, 3, 4, 13, 14, 15]), (5, [0, 3, 4, 13, 14, 15, 16]), (6, [0, 3, 4, 6, 13, 14, 15]), (7, [0, 3, 4, 6, 13, 14, 15]), (8, [0, 3, 4, 13, 14, 15]), (9, [0, 3, 4, 13, 14, 15]), (10, [3, 4, 7, 8]), (11, [2])]),
  (10, [(0, [0, 1]), (1, [0, 1, 18]), (2, [4]), (3, [0, 5]), (4, [0, 5, 6, 7]), (5, [0, 5, 6, 39]), (6, [4]), (7, [5, 6, 8]), (8, [6, 8]), (9, [6, 9, 10]), (10, [4])]),
  (11, [(0, []), (1, [1]), (2, [1, 2, 3]), (3, [1, 2, 3, 4, 5]), (4, [2, 3, 4, 5, 6, 7]), (5, [2, 3, 4, 5, 6, 7, 8, 9]), (6, [0])]),
  (12, [(0, [1, 2, 3]), (1, [1, 2, 3, 4]), (2, [1, 2, 3, 4, 14]), (3, [2, 3]), (4, [1, 2, 3, 5]), (5, [1, 2, 3, 5, 21, 22]), (6, [1, 2, 3, 5, 21, 22, 23]), (7, [1, 2, 3, 5, 6, 21, 22]), (8, [1, 2, 3, 5, 21, 22]), (9, [1, 2, 3, 5, 21, 22]), (10, [1, 2, 3, 5]), (11, [1, 2, 3, 5, 31, 32, 33]), (12, [1, 2, 3, 5, 31, 32, 33, 34]), (13, [1, 2, 3, 5, 7, 8, 31, 32, 33]), (14, [1, 2, 3, 5, 7, 8, 31, 32, 33, 42]), (15, [1, 2, 3, 5, 7, 8, 9, 31, 32, 33]), (16, [1, 2, 3, 5, 7, 8, 9, 31, 32, 33, 69]), (17, [2, 3]), (18, [1, 2, 3, 5, 9, 31, 32, 33, 72]), (19, [1, 2, 3, 5, 9, 10]), (20, [2, 3, 5, 9, 10, 92]), (21, []), (22, []), (23, [1, 2, 3, 5, 31, 32, 33]), (24, [2, 3])]),
  (13, [(0, [0]), (1, [0, 4]), (2, [0, 4, 14]), (3, [2, 3]), (4, [0, 5]), (5, [0, 5, 6]), (6, [0, 5, 6, 19]), (7, [0, 5, 6]), (8, [0, 5, 6]), (9, [0, 5]), (10, [0, 5, 7]), (11, [0, 5, 7, 30]), (12, [0, 5, 7]), (13, [0, 5, 7, 37]), (14, [0, 5, 7, 8]), (15, [0, 5, 7, 8, 70]), (16, [2, 3]), (17, [0, 5, 7, 8, 9]), (18, [0, 5, 7, 8, 9, 10]), (19, [0, 5, 7, 8, 9, 10, 77]), (20, [0, 5, 7, 8, 9, 10]), (21, [0, 5, 7, 8, 9, 10, 107]), (22, [2, 3]), (23, [0, 5, 7, 8, 9, 10]), (24, [2, 3])]),
  (14, [(0, [0, 1]), (1, [0, 1, 10]), (2, [4]), (3, [0, 1, 5]), (4, [0, 1, 5, 14]), (5, [0, 1, 5]), (6, [0, 1, 5, 25]), (7, [4]), (8, [4])]),
  (15, [(0, [0]), (1, [4]), (2, [2])]),
  (16, [(0, [0, 2, 3]), (1, [0, 2, 3, 4]), (2, [0, 2, 3, 4, 11]), (3, [2, 3]), (4, [0, 2, 3, 5]), (5, [0, 2, 3, 5, 6]), (6, [0, 2, 3, 5, 6, 21]), (7, [0, 2, 3, 5, 6]), (8, [0, 2, 3, 5, 6, 29]), (9, [5, 6, 7]), (10, []), (11, [0, 2, 3, 5, 6]), (12, [0, 2, 3, 5, 49]), (13, [0, 2, 3, 5, 6]), (14, [2, 3])]),
  (17, [(0, [0]), (1, [0, 4]), (2, [0, 4, 12]), (3, [2, 3]), (4, [0, 5]), (5, [0, 5, 6]), (6, [0, 5, 6, 22]), (7, [0, 5, 6]), (8, [0, 5, 6, 7]), (9, [0, 5, 6, 7, 8]), (10, [0, 5, 6, 7, 8, 31]), (11, [0, 5, 6, 7, 8]), (12, [0, 5, 6, 7, 8]), (13, [0, 5, 6]), (14, [2, 3])]),
  (18, [(0, [0, 2, 3]), (1, [0, 2, 3, 4, 5]), (2, [0, 2, 3, 4, 5, 19]), (3, [2, 3]), (4, [0, 2, 3, 4, 6]), (5, [2, 3, 4, 6, 25, 26, 27]), (6, [2, 3, 4, 6, 25, 26, 27, 28]), (7, [2, 3, 4, 6, 7, 8, 25, 26, 27]), (8, [2, 3, 4, 6, 7, 8, 25, 26, 27, 36]), (9, [2, 3, 4, 6, 7, 8, 9, 25, 26, 27]), (10, [2, 3, 4, 6, 7, 8, 9, 25, 26, 27, 62]), (11, [2, 3]), (12, [2, 3, 4, 6, 7, 8, 9, 25, 26, 27]), (13, [2, 3, 4, 6, 9, 25, 26, 27, 73]), (14, [6, 9, 10]), (15, [6, 9, 10]), (16, [6, 10, 89, 90]), (17, [6, 10, 89, 90, 91]), (18, [6, 10, 11, 12, 89, 90]), (19, [6, 10, 89, 90]), (20, [6, 10, 89, 90]), (21, [2, 3, 4, 6, 25, 26, 27]), (22, [2, 3])]),
  (19, [(0, [0]), (1, [0, 5]), (2, [0, 5, 20]), (3, [2, 3]), (4, [0, 6]), (5, [0, 6]), (6, [0, 6, 7]), (7, [0, 6, 7, 8]), (8, [0, 6, 7, 8, 32]), (9, [0, 6, 7, 8]), (10, [0, 6, 7, 8, 9]), (11, [0, 6, 7, 8, 9, 41]), (12, [0, 6, 7, 8, 9, 10]), (13, [0, 6, 7, 8, 9, 10, 66]), (14, [0, 6, 7, 8, 9, 10]), (15, [0, 6, 7, 8, 11]), (16, [0, 6, 7, 8, 11, 12]), (17, [0, 6, 7, 8, 11, 12, 13]), (18, [0, 6, 7, 8, 11, 12, 13, 76]), (19, [0, 6, 7, 8, 11, 12, 13]), (20, [0, 6, 7, 8, 11, 12, 13]), (21, [2, 3])]),
  (20, [(0, [0, 1]), (1, [0, 1, 5]), (2, [0, 1, 5, 6]), (3, [0, 1, 5, 6, 11]), (4, [0, 1, 5, 6]), (5, [0, 1, 5, 6, 7]), (6, [0, 1, 5, 6, 7]), (7, [0, 1, 5, 6, 7, 23]), (8, [0, 1, 5, 6, 7, 23, 24]), (9, [4]), (10, [0, 1, 5, 6, 7, 23, 27]), (11, [0, 1, 5, 6]), (12, [0, 1, 5, 6, 7, 31]), (13, [0, 1, 5, 6, 7, 35]), (14, [0, 1, 5, 6]), (15, [0, 1, 5, 6]), (16, [4])]),
  (21, [(0, [0]), (1, [0, 3]), (2, [2])]),
  (22, [(0, [0]), (1, [0, 3]), (2, [2])]),
  (23, [(0, [0]), (1, [0, 9]), (2, [2]), (3, [0, 10, 11, 12]), (4, [0, 10, 11, 12, 13]), (5, [0, 3, 4, 10, 11, 12]), (6, [0, 3, 4, 10, 11, 12, 26]), (7, [2]), (8, [0, 4, 5, 6, 10, 11, 12]), (9, [0, 10, 11, 12, 45]), (10, [2]), (11, [0, 10, 11, 12]), (12, [2])]),
  (24, [(0, [2, 3]), (1, [4])]),
  (25, [(0, [0]), (1, [0, 9]), (2, [2]), (3, [0, 3]), (4, [0, 3, 13]), (5, [0, 3]), (6, [0, 3, 4]), (7, [0, 3, 4, 27]), (8, [2]), (9, [0, 3, 4, 5, 6]), (10, [0, 3, 4, 5, 6, 30]), (11, [0, 3, 4, 5]), (12, [0, 3, 4, 5, 6]), (13, [0, 3, 4, 5, 6, 33]), (14, [0, 3, 4, 5]), (15, [0, 3, 4, 5, 6]), (16, [0, 3, 47]), (17, [2]), (18, [2])]),
  (26, [(0, [0, 1]), (1, [0, 1, 9]), (2, [0, 1, 9, 10]), (3, [4]), (4, [0, 1, 9, 12]), (5, [4]), (6, [0, 1, 20]), (7, [4]), (8, [4])]),
  (27, [(0, [1, 2, 3, 6]), (1, [1, 2, 3, 6, 7]), (2, [1, 2, 3, 6, 7, 11]), (3, [1, 2, 3, 6]), (4, [1, 2, 3, 6, 7, 25]), (5, [1, 2, 3, 6]), (6, [1, 2, 3, 6, 7, 47]), (7, [1, 2, 3, 6]), (8, [1, 2, 3, 6, 7, 57]), (9, [1, 2, 3, 6]), (10, [1, 2, 3, 6, 7, 76]), (11, [1, 2, 3, 6]), (12, [1, 2, 3, 6, 88]), (13, [1, 2, 3, 6]), (14, [3, 6, 8]), (15, [3, 6, 8, 110]), (16, [3, 6, 8]), (17, [3, 6, 8]), (18, [6])]),
  (28, [(0, [1, 2, 4]), (1, [1, 2, 4, 5]), (2, [1, 2, 4, 5, 6]), (3, [1, 2, 4, 5, 6]), (4, [2, 4, 5, 6, 24]), (5, [2, 4, 5, 6, 24, 25]), (6, [2, 4, 5, 6, 24, 25]), (7, [2, 4, 5, 6, 24, 25]), (8, [4, 6]), (9, [2, 4, 5, 6, 24, 34]), (10, [2, 4, 5, 6, 24, 34]), (11, [2, 4, 5, 6, 24, 34]), (12, [2, 4, 5, 6, 24, 34]), (13, [2, 4, 5, 6, 24, 34]), (14, [4, 6]), (15, [2, 4, 5, 6, 24, 59]), (16, [4, 6]), (17, [2, 4, 5, 6, 24, 72]), (18, [4, 6]), (19, [2, 4, 5, 6, 24, 91]), (20, [4, 6]), (21, [2, 4, 5, 6, 24, 110]), (22, [4, 6]), (23, [4, 6, 24, 123]), (24, [4, 6, 24, 123]), (25, [4, 6, 24, 123]), (26, [4, 6, 123]), (27, [4, 6]), (28, [4])]),
  (29, [(0, [2, 3, 4]), (1, [2, 3, 4, 9]), (2, [4]), (3, [2, 3, 4, 5]), (4, [2, 3, 4, 5, 6]), (5, [2, 3, 4, 5, 6, 35]), (6, [2, 3, 4, 5, 6]), (7, [2, 3, 4, 5, 6]), (8, [4])]),
  (30, [(0, []), (1, [0])]),
  (31, [(0, [0, 1, 2]), (1, [1, 2, 8]), (2, [1, 2, 8, 9]), (3, [1, 2, 8, 11]), (4, [1, 2, 13]), (5, [6, 7]), (6, [6, 7]), (7, [6, 7])]),
  (32, [(0, [0, 1, 18]), (1, [0, 1, 26]), (2, [])]),
  (33, [(0, [0]), (1, [2])]),
  (54, [(0, []), (1, [])])]
def headT : List (Nat × List (Nat × List Nat)) := [
  (6, [(10, [0, 5, 10, 49, 50, 51])]),
  (7, [(5, [0, 3, 19, 20, 21]), (14, [0, 3, 6, 7])]),
  (8, [(8, [0, 3, 5, 31, 32, 33]), (17, [0, 3, 5, 8, 9]), (20, [0, 3, 5, 8, 9, 57, 58, 59]), (25, [0, 3, 8, 12])]),
  (9, [(5, [0, 3, 4, 13, 14, 15])]),
  (12, [(6, [1, 2, 3, 5, 21, 22]), (12, [1, 2, 3, 5, 31, 32, 33])]),
  (13, [(6, [0, 5, 6]), (11, [0, 5, 7]), (19, [0, 5, 7, 8, 9, 10])]),
  (14, [(4, [0, 1, 5])]),
  (16, [(6, [0, 2, 3, 5, 6])]),
  (17, [(6, [0, 5, 6]), (10, [0, 5, 6, 7, 8])]),
  (18, [(6, [2, 3, 4, 6, 25, 26, 27]), (17, [6, 10, 89, 90])]),
  (19, [(8, [0, 6, 7, 8]), (18, [0, 6, 7, 8, 11, 12, 13])]),
  (20, [(3, [0, 1, 5, 6])]),
  (23, [(4, [0, 10, 11, 12])]),
  (25, [(4, [0, 3])]),
  (27, [(15, [3, 6, 8])]),
  (29, [(5, [2, 3, 4, 5, 6])])]
def lk2 (t : List (Nat × List (Nat × List Nat))) (f i : Nat) : List Nat := match t.lookup f with | some l => (l.lookup i).getD [] | none => []
def floT : List (Nat × List (Nat × List (Nat × Nat))) := [
  (6, [(14, [(6, 9), (6, 11)])]),
  (8, [(27, [])]),
  (12, [(15, [(0, 14), (2, 14), (3, 14), (5, 14), (6, 14), (7, 14), (10, 14), (11, 14), (12, 14)]), (16, []), (20, [])]),
  (13, [(14, [(2, 9), (3, 9), (9, 13), (9, 15), (2, 16), (3, 16)]), (15, [(2, 9), (3, 9)])]),
  (14, [(6, [])]),
  (16, [(8, []), (10, [])]),
  (17, [(12, [])]),
  (18, [(12, []), (15, []), (19, [])]),
  (19, [(20, [(3, 13), (4, 13)])]),
  (23, [(6, [(5, 6)])]),
  (27, [(9, []), (14, [])]),
  (28, [(3, [(1, 6), (3, 6)]), (14, [(1, 16)]), (16, [(1, 8)]), (18, [(1, 14)]), (20, [(1, 14)])]),
  (29, [(2, [(1, 2), (2, 4), (1, 5)]), (7, [(1, 14)])])]
def lkF (t : List (Nat × List (Nat × List (Nat × Nat)))) (f i : Nat) : List (Nat × Nat) := match t.lookup f with | some l => (l.lookup i).getD [] | none => []
def matT : List (Nat × List (Nat × List (Nat × Nat))) := [(13, [(6, [(5, 1)]), (11, [(5, 1)]), (19, [(5, 1)])]), (20, [(3, [(5, 1)])])]
def matbT : List (Nat × List (Nat × List (Nat × Nat × Nat))) := []
def frzT : List (Nat × List (Nat × List (Nat × Nat))) := []
def lkG {α : Type} (t : List (Nat × List (Nat × List α))) (f i : Nat) : List α := match t.lookup f with | some l => (l.lookup i).getD [] | none => []
def kindT : List (Nat × List (Option Nat)) := [(22, [some 2]), (24, [some 1]), (47, [some 1]), (55, [some 17]), (60, [some 3]), (61, [none, none, some 1]), (62, [none, none, some 1]), (65, [some 1])]
def argkT : List (Nat × List (List (Option Nat))) := [(3, [[some 2]]), (4, [[some 2]]), (5, [[some 2]]), (6, [[some 2]]), (7, [[some 2]]), (8, [[some 2]]), (9, [[some 2]]), (10, [[some 2]]), (12, [[some 2]]), (13, [[some 2]]), (14, [[some 1], [some 1]]), (15, [[some 2]]), (16, [[some 2]]), (17, [[some 2]]), (18, [[some 2]]), (19, [[some 2]]), (20, [[some 2]]), (23, [[some 2]]), (25, [[some 2]]), (26, [[some 2]]), (28, [[none, none, some 1]]), (29, [[none, none, some 1], [none, none, some 1]])]
def reskT : List (Nat × List (List (Option Nat))) := [(12, [[some 1]]), (13, [[some 1]]), (20, [[some 1]]), (26, [[some 1]]), (28, [[none, none, some 1]]), (29, [[none, none, some 1]]), (30, [[some 1]])]
noncomputable def E : Env := { P := Tryd.prog, keep := lk2 keepT, head := lk2 headT, flo := lkF floT, hol := fun f i => false, glob := fun g => if g = 0 then some popsT else if g = 1 then some pushesT else none, byref := fun f => false, seq := fun f => if f = 32 then some seqSucc else none, ext := fun f =>  none, kinds := fun t => (kindT.lookup t).getD [], argk := fun f => (argkT.lookup f).getD [], resk := fun f => (reskT.lookup f).getD [], own := fun f => false, mat := lkG matT, matb := lkG matbT, frz := lkG frzT }
theorem E_P : E.P = Tryd.prog := rfl
theorem sq32 : E.seq 32 = some seqSucc := rfl
theorem E_seqI (f : Nat) (h : List (List Int) → Option (List Int)) (hf : E.seq f = some h) : (f = 32 ∧ h = seqSucc) ∨ False := by
  have h2 : (if f = 32 then some seqSucc else none) = some h := hf
  (repeat (split at h2)) <;> simp_all
theorem E_globI (g : Nat) (cells : List IV) (h : E.glob g = some cells) : (g = 0 ∧ cells = popsT) ∨ (g = 1 ∧ cells = pushesT) ∨ False := by
  have h2 : (if g = 0 then some popsT else if g = 1 then some pushesT else none) = some cells := h
  (repeat (split at h2)) <;> simp_all
theorem E_glob0 : E.glob 0 = some popsT := rfl
theorem E_glob1 : E.glob 1 = some pushesT := rfl
theorem E_ext (f : Nat) : E.ext f = none := rfl
theorem E_byref (f : Nat) : E.byref f = false := rfl
theorem agg22 : aggO Tryd.prog 22 = some false := by kernel_rfl
theorem agg24 : aggO Tryd.prog 24 = some false := by kernel_rfl
theorem agg3 : aggO Tryd.prog 3 = some false := by kernel_rfl
theorem agg45 : aggO Tryd.prog 45 = some true := by kernel_rfl
theorem agg65 : aggO Tryd.prog 65 = some false := by kernel_rfl
theorem agg9 : aggO Tryd.prog 9 = some false := by kernel_rfl
theorem arr22 : arrO Tryd.prog 22 = none := by kernel_rfl
theorem arr24 : arrO Tryd.prog 24 = none := by kernel_rfl
theorem arrz45 : arrO Tryd.prog 45 = none := by kernel_rfl
theorem fld45_0 : fldO Tryd.prog 45 0 = some (0, 3) := by kernel_rfl
theorem fld45_1 : fldO Tryd.prog 45 1 = some (1, 3) := by kernel_rfl
theorem kind22 : kindO Tryd.prog 22 = none := by kernel_rfl
theorem kind24 : kindO Tryd.prog 24 = none := by kernel_rfl
theorem kind3 : kindO Tryd.prog 3 = some .i64 := by kernel_rfl
theorem kind45 : kindO Tryd.prog 45 = none := by kernel_rfl
theorem kind65 : kindO Tryd.prog 65 = none := by kernel_rfl
theorem kind9 : kindO Tryd.prog 9 = none := by kernel_rfl
theorem pl45 : placesO Tryd.prog 45 = some [(0, 1), (1, 1)] := by kernel_rfl
theorem sl22 : slO Tryd.prog 22 = some 45 := by kernel_rfl
theorem sl24 : slO Tryd.prog 24 = some 3 := by kernel_rfl
theorem sl3 : slO Tryd.prog 3 = none := by kernel_rfl
theorem sl45 : slO Tryd.prog 45 = none := by kernel_rfl
theorem sl65 : slO Tryd.prog 65 = some 9 := by kernel_rfl
theorem str22 : isStrO Tryd.prog 22 = false := by kernel_rfl
theorem str24 : isStrO Tryd.prog 24 = false := by kernel_rfl
theorem str3 : isStrO Tryd.prog 3 = false := by kernel_rfl
theorem str45 : isStrO Tryd.prog 45 = false := by kernel_rfl
theorem str65 : isStrO Tryd.prog 65 = false := by kernel_rfl
theorem sz24 : szO Tryd.prog 24 = some 1 := by kernel_rfl
theorem sz3 : szO Tryd.prog 3 = some 1 := by kernel_rfl
theorem sz45 : szO Tryd.prog 45 = some 2 := by kernel_rfl
theorem sz9 : szO Tryd.prog 9 = some 1 := by kernel_rfl
theorem zero24 : zeroO Tryd.prog 24 = some (.i (.sl 0 [] true)) := by kernel_rfl
theorem zero3 : zeroO Tryd.prog 3 = some (.i (.v (.int .i64 0))) := by kernel_rfl
theorem zero45 : zeroO Tryd.prog 45 = some (.agg [.i (.v (.int .i64 0)), .i (.v (.int .i64 0))]) := by kernel_rfl
theorem zero9 : zeroO Tryd.prog 9 = some (.i (.str [])) := by kernel_rfl
theorem fok4 : fnOk E 4 = true := by kernel_rfl
theorem ent4 : enterOk E 4 = true := by kernel_rfl
theorem ent11 : enterOk E 11 = true := by kernel_rfl
theorem fok16 : fnOk E 16 = true := by kernel_rfl
theorem ent16 : enterOk E 16 = true := by kernel_rfl
theorem fok17 : fnOk E 17 = true := by kernel_rfl
theorem ent17 : enterOk E 17 = true := by kernel_rfl
theorem fok23 : fnOk E 23 = true := by kernel_rfl
theorem ent23 : enterOk E 23 = true := by kernel_rfl
theorem fok24 : fnOk E 24 = true := by kernel_rfl
theorem ent24 : enterOk E 24 = true := by kernel_rfl
theorem fok25 : fnOk E 25 = true := by kernel_rfl
theorem ent25 : enterOk E 25 = true := by kernel_rfl
theorem fok26 : fnOk E 26 = true := by kernel_rfl
theorem ent26 : enterOk E 26 = true := by kernel_rfl
theorem ent30 : enterOk E 30 = true := by kernel_rfl
theorem fok31 : fnOk E 31 = true := by kernel_rfl
theorem ent31 : enterOk E 31 = true := by kernel_rfl
theorem ent32 : enterOk E 32 = true := by kernel_rfl
theorem fok33 : fnOk E 33 = true := by kernel_rfl
theorem ent33 : enterOk E 33 = true := by kernel_rfl
theorem res4 : Tryd.f4.results = #[.tmp 2] := rfl
theorem res16 : Tryd.f16.results = #[.tmp 2, .tmp 3] := rfl
theorem res17 : Tryd.f17.results = #[.tmp 2, .tmp 3] := rfl
theorem res23 : Tryd.f23.results = #[.tmp 2] := rfl
theorem res24 : Tryd.f24.results = #[.tmp 4] := rfl
theorem res25 : Tryd.f25.results = #[.tmp 2] := rfl
theorem res26 : Tryd.f26.results = #[.tmp 4] := rfl
theorem res31 : Tryd.f31.results = #[.tmp 6, .tmp 7] := rfl
theorem res33 : Tryd.f33.results = #[.tmp 2] := rfl
theorem kp4_0 : E.keep 4 0 = [0] := by kernel_rfl
theorem kp4_1 : E.keep 4 1 = [0, 9] := by kernel_rfl
theorem kp4_2 : E.keep 4 2 = [2] := by kernel_rfl
theorem kp4_3 : E.keep 4 3 = [0, 3, 4] := by kernel_rfl
theorem kp4_4 : E.keep 4 4 = [3, 4, 5, 6] := by kernel_rfl
theorem kp4_5 : E.keep 4 5 = [2] := by kernel_rfl
theorem kp16_0 : E.keep 16 0 = [0, 2, 3] := by kernel_rfl
theorem kp16_1 : E.keep 16 1 = [0, 2, 3, 4] := by kernel_rfl
theorem kp16_2 : E.keep 16 2 = [0, 2, 3, 4, 11] := by kernel_rfl
theorem kp16_3 : E.keep 16 3 = [2, 3] := by kernel_rfl
theorem kp16_4 : E.keep 16 4 = [0, 2, 3, 5] := by kernel_rfl
theorem kp16_5 : E.keep 16 5 = [0, 2, 3, 5, 6] := by kernel_rfl
theorem kp16_6 : E.keep 16 6 = [0, 2, 3, 5, 6, 21] := by kernel_rfl
theorem kp16_7 : E.keep 16 7 = [0, 2, 3, 5, 6] := by kernel_rfl
theorem kp16_8 : E.keep 16 8 = [0, 2, 3, 5, 6, 29] := by kernel_rfl
theorem kp16_9 : E.keep 16 9 = [5, 6, 7] := by kernel_rfl
theorem kp16_10 : E.keep 16 10 = [] := by kernel_rfl
theorem kp16_11 : E.keep 16 11 = [0, 2, 3, 5, 6] := by kernel_rfl
theorem kp16_12 : E.keep 16 12 = [0, 2, 3, 5, 49] := by kernel_rfl
theorem kp16_13 : E.keep 16 13 = [0, 2, 3, 5, 6] := by kernel_rfl
theorem kp16_14 : E.keep 16 14 = [2, 3] := by kernel_rfl
theorem kp17_0 : E.keep 17 0 = [0] := by kernel_rfl
theorem kp17_1 : E.keep 17 1 = [0, 4] := by kernel_rfl
theorem kp17_2 : E.keep 17 2 = [0, 4, 12] := by kernel_rfl
theorem kp17_3 : E.keep 17 3 = [2, 3] := by kernel_rfl
theorem kp17_4 : E.keep 17 4 = [0, 5] := by kernel_rfl
theorem kp17_5 : E.keep 17 5 = [0, 5, 6] := by kernel_rfl
theorem kp17_6 : E.keep 17 6 = [0, 5, 6, 22] := by kernel_rfl
theorem kp17_7 : E.keep 17 7 = [0, 5, 6] := by kernel_rfl
theorem kp17_8 : E.keep 17 8 = [0, 5, 6, 7] := by kernel_rfl
theorem kp17_9 : E.keep 17 9 = [0, 5, 6, 7, 8] := by kernel_rfl
theorem kp17_10 : E.keep 17 10 = [0, 5, 6, 7, 8, 31] := by kernel_rfl
theorem kp17_11 : E.keep 17 11 = [0, 5, 6, 7, 8] := by kernel_rfl
theorem kp17_12 : E.keep 17 12 = [0, 5, 6, 7, 8] := by kernel_rfl
theorem kp17_13 : E.keep 17 13 = [0, 5, 6] := by kernel_rfl
theorem kp17_14 : E.keep 17 14 = [2, 3] := by kernel_rfl
theorem kp23_0 : E.keep 23 0 = [0] := by kernel_rfl
theorem kp23_1 : E.keep 23 1 = [0, 9] := by kernel_rfl
theorem kp23_2 : E.keep 23 2 = [2] := by kernel_rfl
theorem kp23_3 : E.keep 23 3 = [0, 10, 11, 12] := by kernel_rfl
theorem kp23_4 : E.keep 23 4 = [0, 10, 11, 12, 13] := by kernel_rfl
theorem kp23_5 : E.keep 23 5 = [0, 3, 4, 10, 11, 12] := by kernel_rfl
theorem kp23_6 : E.keep 23 6 = [0, 3, 4, 10, 11, 12, 26] := by kernel_rfl
theorem kp23_7 : E.keep 23 7 = [2] := by kernel_rfl
theorem kp23_8 : E.keep 23 8 = [0, 4, 5, 6, 10, 11, 12] := by kernel_rfl
theorem kp23_9 : E.keep 23 9 = [0, 10, 11, 12, 45] := by kernel_rfl
theorem kp23_10 : E.keep 23 10 = [2] := by kernel_rfl
theorem kp23_11 : E.keep 23 11 = [0, 10, 11, 12] := by kernel_rfl
theorem kp23_12 : E.keep 23 12 = [2] := by kernel_rfl
theorem kp24_0 : E.keep 24 0 = [2, 3] := by kernel_rfl
theorem kp24_1 : E.keep 24 1 = [4] := by kernel_rfl
theorem kp25_0 : E.keep 25 0 = [0] := by kernel_rfl
theorem kp25_1 : E.keep 25 1 = [0, 9] := by kernel_rfl
theorem kp25_2 : E.keep 25 2 = [2] := by kernel_rfl
theorem kp25_3 : E.keep 25 3 = [0, 3] := by kernel_rfl
theorem kp25_4 : E.keep 25 4 = [0, 3, 13] := by kernel_rfl
theorem kp25_5 : E.keep 25 5 = [0, 3] := by kernel_rfl
theorem kp25_6 : E.keep 25 6 = [0, 3, 4] := by kernel_rfl
theorem kp25_7 : E.keep 25 7 = [0, 3, 4, 27] := by kernel_rfl
theorem kp25_8 : E.keep 25 8 = [2] := by kernel_rfl
theorem kp25_9 : E.keep 25 9 = [0, 3, 4, 5, 6] := by kernel_rfl
theorem kp25_10 : E.keep 25 10 = [0, 3, 4, 5, 6, 30] := by kernel_rfl
theorem kp25_11 : E.keep 25 11 = [0, 3, 4, 5] := by kernel_rfl
theorem kp25_12 : E.keep 25 12 = [0, 3, 4, 5, 6] := by kernel_rfl
theorem kp25_13 : E.keep 25 13 = [0, 3, 4, 5, 6, 33] := by kernel_rfl
theorem kp25_14 : E.keep 25 14 = [0, 3, 4, 5] := by kernel_rfl
theorem kp25_15 : E.keep 25 15 = [0, 3, 4, 5, 6] := by kernel_rfl
theorem kp25_16 : E.keep 25 16 = [0, 3, 47] := by kernel_rfl
theorem kp25_17 : E.keep 25 17 = [2] := by kernel_rfl
theorem kp25_18 : E.keep 25 18 = [2] := by kernel_rfl
theorem kp26_0 : E.keep 26 0 = [0, 1] := by kernel_rfl
theorem kp26_1 : E.keep 26 1 = [0, 1, 9] := by kernel_rfl
theorem kp26_2 : E.keep 26 2 = [0, 1, 9, 10] := by kernel_rfl
theorem kp26_3 : E.keep 26 3 = [4] := by kernel_rfl
theorem kp26_4 : E.keep 26 4 = [0, 1, 9, 12] := by kernel_rfl
theorem kp26_5 : E.keep 26 5 = [4] := by kernel_rfl
theorem kp26_6 : E.keep 26 6 = [0, 1, 20] := by kernel_rfl
theorem kp26_7 : E.keep 26 7 = [4] := by kernel_rfl
theorem kp26_8 : E.keep 26 8 = [4] := by kernel_rfl
theorem kp31_0 : E.keep 31 0 = [0, 1, 2] := by kernel_rfl
theorem kp31_1 : E.keep 31 1 = [1, 2, 8] := by kernel_rfl
theorem kp31_2 : E.keep 31 2 = [1, 2, 8, 9] := by kernel_rfl
theorem kp31_3 : E.keep 31 3 = [1, 2, 8, 11] := by kernel_rfl
theorem kp31_4 : E.keep 31 4 = [1, 2, 13] := by kernel_rfl
theorem kp31_5 : E.keep 31 5 = [6, 7] := by kernel_rfl
theorem kp31_6 : E.keep 31 6 = [6, 7] := by kernel_rfl
theorem kp31_7 : E.keep 31 7 = [6, 7] := by kernel_rfl
theorem kp33_0 : E.keep 33 0 = [0] := by kernel_rfl
theorem kp33_1 : E.keep 33 1 = [2] := by kernel_rfl
theorem hd16_6 : E.head 16 6 = [0, 2, 3, 5, 6] := by kernel_rfl
theorem hd17_6 : E.head 17 6 = [0, 5, 6] := by kernel_rfl
theorem hd17_10 : E.head 17 10 = [0, 5, 6, 7, 8] := by kernel_rfl
theorem hd23_4 : E.head 23 4 = [0, 10, 11, 12] := by kernel_rfl
theorem hd25_4 : E.head 25 4 = [0, 3] := by kernel_rfl
theorem fl16_8 : E.flo 16 8 = [] := by kernel_rfl
theorem ho16_8 : E.hol 16 8 = false := by kernel_rfl
theorem dr16_8 (B : Nat) (fr : Fr) (H : Hp) (ops : Array Oper) : execT E B 16 (.region 8 ops true) fr H = regK E 16 8 (evOps E (callT E) ops.toList ops.toList fr H) := execT_draw0 ho16_8 fl16_8 ops
theorem fl16_10 : E.flo 16 10 = [] := by kernel_rfl
theorem ho16_10 : E.hol 16 10 = false := by kernel_rfl
theorem dr16_10 (B : Nat) (fr : Fr) (H : Hp) (ops : Array Oper) : execT E B 16 (.region 10 ops true) fr H = regK E 16 10 (evOps E (callT E) ops.toList ops.toList fr H) := execT_draw0 ho16_10 fl16_10 ops
theorem fl17_12 : E.flo 17 12 = [] := by kernel_rfl
theorem ho17_12 : E.hol 17 12 = false := by kernel_rfl
theorem dr17_12 (B : Nat) (fr : Fr) (H : Hp) (ops : Array Oper) : execT E B 17 (.region 12 ops true) fr H = regK E 17 12 (evOps E (callT E) ops.toList ops.toList fr H) := execT_draw0 ho17_12 fl17_12 ops
theorem fl23_6 : E.flo 23 6 = [(5, 6)] := by kernel_rfl
theorem ho23_6 : E.hol 23 6 = false := by kernel_rfl
theorem dr23_6 (B : Nat) (fr : Fr) (H : Hp) (ops : Array Oper) : execT E B 23 (.region 6 ops true) fr H = regTK E 23 6 (evT E (callT E) ops.toList ops.toList fr H) := execT_draw ho23_6 ops
theorem mt16_6 : E.mat 16 6 = [] := by kernel_rfl
theorem mb16_6 : E.matb 16 6 = [] := by kernel_rfl
theorem zf16_6 : E.frz 16 6 = [] := by kernel_rfl
theorem mt17_6 : E.mat 17 6 = [] := by kernel_rfl
theorem mb17_6 : E.matb 17 6 = [] := by kernel_rfl
theorem zf17_6 : E.frz 17 6 = [] := by kernel_rfl
theorem mt17_10 : E.mat 17 10 = [] := by kernel_rfl
theorem mb17_10 : E.matb 17 10 = [] := by kernel_rfl
theorem zf17_10 : E.frz 17 10 = [] := by kernel_rfl
theorem mt23_4 : E.mat 23 4 = [] := by kernel_rfl
theorem mb23_4 : E.matb 23 4 = [] := by kernel_rfl
theorem zf23_4 : E.frz 23 4 = [] := by kernel_rfl
theorem mt25_4 : E.mat 25 4 = [] := by kernel_rfl
theorem mb25_4 : E.matb 25 4 = [] := by kernel_rfl
theorem zf25_4 : E.frz 25 4 = [] := by kernel_rfl
theorem rk4 : E.resk 4 = [] := by kernel_rfl
theorem ow4 : E.own 4 = false := by kernel_rfl
theorem ak11 : E.argk 11 = [] := by kernel_rfl
theorem pe11 (args : List AV) (H : Hp) : prepE E 11 H args = peP E 11 (prep H args) := prepE_v rfl args
theorem cr11 (args : List AV) (H : Hp) : calleeR E 11 args H = crK args (peP E 11 (prep H args)) := (cr_prep args).trans (by rw [pe11])
theorem ci11 (args : List AV) (H : Hp) : callIso E (callT E) 11 args H = prepK E (callT E) 11 (peP E 11 (prep H args)) := (iso_prep args).trans (by rw [pe11])
theorem ak16 : E.argk 16 = [[some 2]] := by kernel_rfl
theorem rk16 : E.resk 16 = [] := by kernel_rfl
theorem ow16 : E.own 16 = false := by kernel_rfl
theorem pe16 (args : List AV) (H : Hp) : prepE E 16 H args = peP E 16 (prep H args) := prepE_v rfl args
theorem cr16 (args : List AV) (H : Hp) : calleeR E 16 args H = crK args (peP E 16 (prep H args)) := (cr_prep args).trans (by rw [pe16])
theorem ci16 (args : List AV) (H : Hp) : callIso E (callT E) 16 args H = prepK E (callT E) 16 (peP E 16 (prep H args)) := (iso_prep args).trans (by rw [pe16])
theorem ak17 : E.argk 17 = [[some 2]] := by kernel_rfl
theorem rk17 : E.resk 17 = [] := by kernel_rfl
theorem ow17 : E.own 17 = false := by kernel_rfl
theorem pe17 (args : List AV) (H : Hp) : prepE E 17 H args = peP E 17 (prep H args) := prepE_v rfl args
theorem cr17 (args : List AV) (H : Hp) : calleeR E 17 args H = crK args (peP E 17 (prep H args)) := (cr_prep args).trans (by rw [pe17])
theorem ci17 (args : List AV) (H : Hp) : callIso E (callT E) 17 args H = prepK E (callT E) 17 (peP E 17 (prep H args)) := (iso_prep args).trans (by rw [pe17])
theorem ak23 : E.argk 23 = [[some 2]] := by kernel_rfl
theorem rk23 : E.resk 23 = [] := by kernel_rfl
theorem ow23 : E.own 23 = false := by kernel_rfl
theorem pe23 (args : List AV) (H : Hp) : prepE E 23 H args = peP E 23 (prep H args) := prepE_v rfl args
theorem cr23 (args : List AV) (H : Hp) : calleeR E 23 args H = crK args (peP E 23 (prep H args)) := (cr_prep args).trans (by rw [pe23])
theorem ci23 (args : List AV) (H : Hp) : callIso E (callT E) 23 args H = prepK E (callT E) 23 (peP E 23 (prep H args)) := (iso_prep args).trans (by rw [pe23])
theorem ak24 : E.argk 24 = [] := by kernel_rfl
theorem rk24 : E.resk 24 = [] := by kernel_rfl
theorem ow24 : E.own 24 = false := by kernel_rfl
theorem pe24 (args : List AV) (H : Hp) : prepE E 24 H args = peP E 24 (prep H args) := prepE_v rfl args
theorem cr24 (args : List AV) (H : Hp) : calleeR E 24 args H = crK args (peP E 24 (prep H args)) := (cr_prep args).trans (by rw [pe24])
theorem ci24 (args : List AV) (H : Hp) : callIso E (callT E) 24 args H = prepK E (callT E) 24 (peP E 24 (prep H args)) := (iso_prep args).trans (by rw [pe24])
theorem ak25 : E.argk 25 = [[some 2]] := by kernel_rfl
theorem rk25 : E.resk 25 = [] := by kernel_rfl
theorem ow25 : E.own 25 = false := by kernel_rfl
theorem pe25 (args : List AV) (H : Hp) : prepE E 25 H args = peP E 25 (prep H args) := prepE_v rfl args
theorem cr25 (args : List AV) (H : Hp) : calleeR E 25 args H = crK args (peP E 25 (prep H args)) := (cr_prep args).trans (by rw [pe25])
theorem ci25 (args : List AV) (H : Hp) : callIso E (callT E) 25 args H = prepK E (callT E) 25 (peP E 25 (prep H args)) := (iso_prep args).trans (by rw [pe25])
theorem ak26 : E.argk 26 = [[some 2]] := by kernel_rfl
theorem rk26 : E.resk 26 = [[some 1]] := by kernel_rfl
theorem ow26 : E.own 26 = false := by kernel_rfl
theorem pe26 (args : List AV) (H : Hp) : prepE E 26 H args = peP E 26 (prep H args) := prepE_v rfl args
theorem cr26 (args : List AV) (H : Hp) : calleeR E 26 args H = crK args (peP E 26 (prep H args)) := (cr_prep args).trans (by rw [pe26])
theorem ci26 (args : List AV) (H : Hp) : callIso E (callT E) 26 args H = prepK E (callT E) 26 (peP E 26 (prep H args)) := (iso_prep args).trans (by rw [pe26])
theorem ak30 : E.argk 30 = [] := by kernel_rfl
theorem pe30 (args : List AV) (H : Hp) : prepE E 30 H args = peP E 30 (prep H args) := prepE_v rfl args
theorem cr30 (args : List AV) (H : Hp) : calleeR E 30 args H = crK args (peP E 30 (prep H args)) := (cr_prep args).trans (by rw [pe30])
theorem ci30 (args : List AV) (H : Hp) : callIso E (callT E) 30 args H = prepK E (callT E) 30 (peP E 30 (prep H args)) := (iso_prep args).trans (by rw [pe30])
theorem ak31 : E.argk 31 = [] := by kernel_rfl
theorem rk31 : E.resk 31 = [] := by kernel_rfl
theorem ow31 : E.own 31 = false := by kernel_rfl
theorem pe31 (args : List AV) (H : Hp) : prepE E 31 H args = peP E 31 (prep H args) := prepE_v rfl args
theorem cr31 (args : List AV) (H : Hp) : calleeR E 31 args H = crK args (peP E 31 (prep H args)) := (cr_prep args).trans (by rw [pe31])
theorem ci31 (args : List AV) (H : Hp) : callIso E (callT E) 31 args H = prepK E (callT E) 31 (peP E 31 (prep H args)) := (iso_prep args).trans (by rw [pe31])
theorem ak32 : E.argk 32 = [] := by kernel_rfl
theorem pe32 (args : List AV) (H : Hp) : prepE E 32 H args = peP E 32 (prep H args) := prepE_v rfl args
theorem cr32 (args : List AV) (H : Hp) : calleeR E 32 args H = crK args (peP E 32 (prep H args)) := (cr_prep args).trans (by rw [pe32])
theorem ci32 (args : List AV) (H : Hp) : callIso E (callT E) 32 args H = prepK E (callT E) 32 (peP E 32 (prep H args)) := (iso_prep args).trans (by rw [pe32])
theorem ak33 : E.argk 33 = [] := by kernel_rfl
theorem rk33 : E.resk 33 = [] := by kernel_rfl
theorem ow33 : E.own 33 = false := by kernel_rfl
theorem pe33 (args : List AV) (H : Hp) : prepE E 33 H args = peP E 33 (prep H args) := prepE_v rfl args
theorem cr33 (args : List AV) (H : Hp) : calleeR E 33 args H = crK args (peP E 33 (prep H args)) := (cr_prep args).trans (by rw [pe33])
theorem ci33 (args : List AV) (H : Hp) : callIso E (callT E) 33 args H = prepK E (callT E) 33 (peP E 33 (prep H args)) := (iso_prep args).trans (by rw [pe33])
theorem bd45 (parts : List (Nat × AV)) : buildE E 45 parts = aggK (fillS [(0, 1), (1, 1)] [.i (.v (.int .i64 0)), .i (.v (.int .i64 0))] parts) := bd_struct (by kernel_rfl) (by kernel_rfl) (by kernel_rfl) parts
theorem cv48_3 (cl : CallF) (fr : Fr) (H : Hp) (x : Operand) : evOp E cl (.convert 48 3 x) fr H = pK H (convE E 48 3 (opd E fr x)) := op_convert _ _ _ (by kernel_rfl) (by kernel_rfl)
theorem sx24 (H : Hp) (x : AV) (lo hi : Option AV) : sliceE E H 24 x lo hi none = slN 1 H lo hi x := sl_sl (e := 3) (z := 1) (by kernel_rfl) (by kernel_rfl) (by kernel_rfl) x lo hi
theorem sw24 (H : Hp) (sz : Nat) (rows : List (List IV)) (ex : Bool) (k k' : IntKind) (h m : Int) : sliceE E H 24 (.i (.sl sz rows ex)) none (some (.i (.v (.int k h)))) (some (.i (.v (.int k' m)))) = if 0 ≤ h ∧ h = m ∧ h ≤ rows.length ∧ (rows = [] ∨ 1 = sz) then some (.i (.sl sz (rows.take h.toNat) true)) else none := sl_sl3 (e := 3) (by kernel_rfl) (by kernel_rfl) sz rows ex k k' h m
theorem ap22_22 (H : Hp) (s x : AV) : appendE E H 22 22 s x = apS 2 H s (srcE H x) := ap_eq (by kernel_rfl) H s x
theorem ap24_24 (H : Hp) (s x : AV) : appendE E H 24 24 s x = apS 1 H s (srcE H x) := ap_eq (by kernel_rfl) H s x
theorem bs22 (H : Hp) (n : Nat) (hn : n * 2 ≤ 16777216) (parts : List (Nat × AV)) : buildSliceE E H 22 n parts = bsF [] 2 n H (fillA 2 (List.replicate n [.i (.v (.int .i64 0)), .i (.v (.int .i64 0))]).flatten parts) := bs_eq (by kernel_rfl) H n hn parts
theorem br22 (n : Nat) (parts : List (Nat × AV)) : buildRefs E 22 n parts = brK (fillA 2 (List.replicate n [.i (.v (.int .i64 0)), .i (.v (.int .i64 0))]).flatten parts) := br_eq (ks := []) (by kernel_rfl) n parts
theorem ms22 (H : Hp) (k k' : IntKind) (n m : Int) : makeSliceE E H 22 (.i (.v (.int k n))) (.i (.v (.int k' m))) = if 0 ≤ n ∧ n = m ∧ n < 1073741824 then some (.ref H.length 0 0 n.toNat, H ++ [.sl 2 0 (List.replicate n.toNat [.v (.int .i64 0), .v (.int .i64 0)]) true]) else none := ms_eq (by kernel_rfl) H k k' n m
theorem bs24 (H : Hp) (n : Nat) (hn : n * 1 ≤ 16777216) (parts : List (Nat × AV)) : buildSliceE E H 24 n parts = bsF [] 1 n H (fillA 1 (List.replicate n [.i (.v (.int .i64 0))]).flatten parts) := bs_eq (by kernel_rfl) H n hn parts
theorem br24 (n : Nat) (parts : List (Nat × AV)) : buildRefs E 24 n parts = brK (fillA 1 (List.replicate n [.i (.v (.int .i64 0))]).flatten parts) := br_eq (ks := []) (by kernel_rfl) n parts
theorem ms24 (H : Hp) (k k' : IntKind) (n m : Int) : makeSliceE E H 24 (.i (.v (.int k n))) (.i (.v (.int k' m))) = if 0 ≤ n ∧ n = m ∧ n < 1073741824 then some (.ref H.length 0 0 n.toNat, H ++ [.sl 1 0 (List.replicate n.toNat [.v (.int .i64 0)]) true]) else none := ms_eq (by kernel_rfl) H k k' n m
theorem bs65 (H : Hp) (n : Nat) (hn : n * 1 ≤ 16777216) (parts : List (Nat × AV)) : buildSliceE E H 65 n parts = bsF [] 1 n H (fillA 1 (List.replicate n [.i (.str [])]).flatten parts) := bs_eq (by kernel_rfl) H n hn parts
theorem br65 (n : Nat) (parts : List (Nat × AV)) : buildRefs E 65 n parts = brK (fillA 1 (List.replicate n [.i (.str [])]).flatten parts) := br_eq (ks := []) (by kernel_rfl) n parts
theorem ms65 (H : Hp) (k k' : IntKind) (n m : Int) : makeSliceE E H 65 (.i (.v (.int k n))) (.i (.v (.int k' m))) = if 0 ≤ n ∧ n = m ∧ n < 1073741824 then some (.ref H.length 0 0 n.toNat, H ++ [.sl 1 0 (List.replicate n.toNat [.str []]) true]) else none := ms_eq (by kernel_rfl) H k k' n m
theorem st24 (H : Hp) (c g r k : Nat) (v : AV) : storeE E H 24 (.ptr c g r k) v = if (cellsA v).length = 1 ∧ (cellsA v).all one = true then stC [some 1] 1 H c g r k (cellsA v) H[c]? else none := st_eq sz24 H c g r k v
theorem st3 (H : Hp) (c g r k : Nat) (v : AV) : storeE E H 3 (.ptr c g r k) v = if (cellsA v).length = 1 ∧ (cellsA v).all one = true then stC [] 1 H c g r k (cellsA v) H[c]? else none := st_eq sz3 H c g r k v
theorem st45 (H : Hp) (c g r k : Nat) (v : AV) : storeE E H 45 (.ptr c g r k) v = if (cellsA v).length = 2 ∧ (cellsA v).all one = true then stC [] 2 H c g r k (cellsA v) H[c]? else none := st_eq sz45 H c g r k v
theorem st9 (H : Hp) (c g r k : Nat) (v : AV) : storeE E H 9 (.ptr c g r k) v = if (cellsA v).length = 1 ∧ (cellsA v).all one = true then stC [] 1 H c g r k (cellsA v) H[c]? else none := st_eq sz9 H c g r k v
def en4 := And.intro @ent4 (And.intro @res4 (And.intro @rk4 (And.intro @ow4 (And.intro @kp4_0 (And.intro @kp4_1 (And.intro @kp4_2 (And.intro @kp4_3 (And.intro @kp4_4 (And.intro @kp4_5 (And.intro @sq32 (And.intro @ent11 (And.intro @ci11 (And.intro @cr11 (And.intro @ak11 (And.intro @ent16 (And.intro @ci16 (And.intro @cr16 (And.intro @ak16 (And.intro @ent17 (And.intro @ci17 (And.intro @cr17 (And.intro @ak17 (And.intro @agg22 (And.intro @agg45 (And.intro @arrz45 (And.intro @kind22 (And.intro @kind45 (And.intro @pl45 (And.intro @sl22 (And.intro @ms22 (And.intro @br22 (And.intro @ap22_22 (And.intro @str22 (And.intro @sz45 (And.intro @st45 (And.intro @zero45 (@bd45)))))))))))))))))))))))))))))))))))))
def en16 := And.intro @ent16 (And.intro @res16 (And.intro @rk16 (And.intro @ow16 (And.intro @kp16_0 (And.intro @kp16_1 (And.intro @kp16_2 (And.intro @kp16_3 (And.intro @kp16_4 (And.intro @kp16_5 (And.intro @kp16_6 (And.intro @kp16_7 (And.intro @kp16_8 (And.intro @kp16_9 (And.intro @kp16_10 (And.intro @kp16_11 (And.intro @kp16_12 (And.intro @kp16_13 (And.intro @kp16_14 (And.intro @hd16_6 (And.intro @fl16_8 (And.intro @dr16_8 (And.intro @fl16_10 (And.intro @dr16_10 (And.intro @sq32 (And.intro @ent23 (And.intro @ci23 (And.intro @cr23 (And.intro @ak23 (And.intro @ent24 (And.intro @ci24 (And.intro @cr24 (And.intro @ak24 (And.intro @agg22 (And.intro @agg24 (And.intro @agg3 (And.intro @agg45 (And.intro @arr22 (And.intro @arr24 (And.intro @arrz45 (And.intro @kind22 (And.intro @kind24 (And.intro @kind3 (And.intro @cv48_3 (And.intro @kind45 (And.intro @pl45 (And.intro @sl22 (And.intro @ms22 (And.intro @br22 (And.intro @ap22_22 (And.intro @sl24 (And.intro @ms24 (And.intro @br24 (And.intro @sx24 (And.intro @sw24 (And.intro @ap24_24 (And.intro @sl3 (And.intro @sl45 (And.intro @str22 (And.intro @str24 (And.intro @str3 (And.intro @str45 (And.intro @sz24 (And.intro @st24 (And.intro @sz3 (And.intro @st3 (And.intro @sz45 (And.intro @st45 (And.intro @zero24 (And.intro @zero3 (And.intro @zero45 (@bd45)))))))))))))))))))))))))))))))))))))))))))))))))))))))))))))))))))))))
def en17 := And.intro @ent17 (And.intro @res17 (And.intro @rk17 (And.intro @ow17 (And.intro @kp17_0 (And.intro @kp17_1 (And.intro @kp17_2 (And.intro @kp17_3 (And.intro @kp17_4 (And.intro @kp17_5 (And.intro @kp17_6 (And.intro @kp17_7 (And.intro @kp17_8 (And.intro @kp17_9 (And.intro @kp17_10 (And.intro @kp17_11 (And.intro @kp17_12 (And.intro @kp17_13 (And.intro @kp17_14 (And.intro @hd17_6 (And.intro @hd17_10 (And.intro @fl17_12 (And.intro @dr17_12 (And.intro @sq32 (And.intro @ent25 (And.intro @ci25 (And.intro @cr25 (And.intro @ak25 (And.intro @ent26 (And.intro @ci26 (And.intro @cr26 (And.intro @ak26 (And.intro @agg22 (And.intro @agg24 (And.intro @agg3 (And.intro @agg45 (And.intro @arr24 (And.intro @arrz45 (And.intro @kind22 (And.intro @kind24 (And.intro @kind3 (And.intro @cv48_3 (And.intro @kind45 (And.intro @pl45 (And.intro @sl22 (And.intro @ms22 (And.intro @br22 (And.intro @ap22_22 (And.intro @sl24 (And.intro @ms24 (And.intro @br24 (And.intro @sx24 (And.intro @sw24 (And.intro @ap24_24 (And.intro @sl3 (And.intro @str22 (And.intro @str24 (And.intro @str3 (And.intro @sz3 (And.intro @st3 (And.intro @sz45 (And.intro @st45 (And.intro @zero3 (And.intro @zero45 (@bd45))))))))))))))))))))))))))))))))))))))))))))))))))))))))))))))))
def en23 := And.intro @ent23 (And.intro @res23 (And.intro @rk23 (And.intro @ow23 (And.intro @kp23_0 (And.intro @kp23_1 (And.intro @kp23_2 (And.intro @kp23_3 (And.intro @kp23_4 (And.intro @kp23_5 (And.intro @kp23_6 (And.intro @kp23_7 (And.intro @kp23_8 (And.intro @kp23_9 (And.intro @kp23_10 (And.intro @kp23_11 (And.intro @kp23_12 (And.intro @hd23_4 (And.intro @fl23_6 (And.intro @dr23_6 (And.intro @sq32 (And.intro @ent30 (And.intro @ci30 (And.intro @cr30 (And.intro @ak30 (And.intro @ent31 (And.intro @ci31 (And.intro @cr31 (And.intro @ak31 (And.intro @agg22 (And.intro @agg3 (And.intro @agg45 (And.intro @agg65 (And.intro @agg9 (And.intro @arr22 (And.intro @arrz45 (And.intro @fld45_0 (And.intro @fld45_1 (And.intro @kind22 (And.intro @kind3 (And.intro @cv48_3 (And.intro @kind45 (And.intro @kind65 (And.intro @kind9 (And.intro @pl45 (And.intro @sl22 (And.intro @ms22 (And.intro @br22 (And.intro @ap22_22 (And.intro @sl3 (And.intro @sl65 (And.intro @ms65 (And.intro @br65 (And.intro @str22 (And.intro @str3 (And.intro @str65 (And.intro @sz3 (And.intro @st3 (And.intro @sz45 (And.intro @st45 (And.intro @sz9 (And.intro @st9 (And.intro @zero45 (And.intro @bd45 (@zero9))))))))))))))))))))))))))))))))))))))))))))))))))))))))))))))))
def en24 := And.intro @ent24 (And.intro @res24 (And.intro @rk24 (And.intro @ow24 (And.intro @kp24_0 (And.intro @kp24_1 (And.intro @sq32 (And.intro @ent32 (And.intro @ci32 (And.intro @cr32 (@ak32))))))))))
def en25 := And.intro @ent25 (And.intro @res25 (And.intro @rk25 (And.intro @ow25 (And.intro @kp25_0 (And.intro @kp25_1 (And.intro @kp25_2 (And.intro @kp25_3 (And.intro @kp25_4 (And.intro @kp25_5 (And.intro @kp25_6 (And.intro @kp25_7 (And.intro @kp25_8 (And.intro @kp25_9 (And.intro @kp25_10 (And.intro @kp25_11 (And.intro @kp25_12 (And.intro @kp25_13 (And.intro @kp25_14 (And.intro @kp25_15 (And.intro @kp25_16 (And.intro @kp25_17 (And.intro @kp25_18 (And.intro @hd25_4 (And.intro @sq32 (And.intro @ent33 (And.intro @ci33 (And.intro @cr33 (And.intro @ak33 (And.intro @agg22 (And.intro @agg3 (And.intro @agg45 (And.intro @arr22 (And.intro @arrz45 (And.intro @fld45_0 (And.intro @fld45_1 (And.intro @kind22 (And.intro @kind3 (And.intro @cv48_3 (And.intro @kind45 (And.intro @pl45 (And.intro @sl22 (And.intro @ms22 (And.intro @br22 (And.intro @ap22_22 (And.intro @sl3 (And.intro @str22 (And.intro @str3 (And.intro @sz3 (And.intro @st3 (And.intro @sz45 (And.intro @st45 (And.intro @zero45 (@bd45)))))))))))))))))))))))))))))))))))))))))))))))))))))
def en26 := And.intro @ent26 (And.intro @res26 (And.intro @rk26 (And.intro @ow26 (And.intro @kp26_0 (And.intro @kp26_1 (And.intro @kp26_2 (And.intro @kp26_3 (And.intro @kp26_4 (And.intro @kp26_5 (And.intro @kp26_6 (And.intro @kp26_7 (And.intro @kp26_8 (And.intro @sq32 (And.intro @agg22 (And.intro @agg24 (And.intro @agg3 (And.intro @agg45 (And.intro @arr22 (And.intro @arrz45 (And.intro @fld45_0 (And.intro @fld45_1 (And.intro @kind22 (And.intro @kind24 (And.intro @kind3 (And.intro @cv48_3 (And.intro @kind45 (And.intro @pl45 (And.intro @sl22 (And.intro @ms22 (And.intro @br22 (And.intro @ap22_22 (And.intro @sl24 (And.intro @ms24 (And.intro @br24 (And.intro @sx24 (And.intro @sw24 (And.intro @ap24_24 (And.intro @str22 (And.intro @str24 (And.intro @sz3 (And.intro @st3 (And.intro @sz45 (And.intro @st45 (And.intro @zero3 (And.intro @zero45 (@bd45))))))))))))))))))))))))))))))))))))))))))))))
def en31 := And.intro @ent31 (And.intro @res31 (And.intro @rk31 (And.intro @ow31 (And.intro @kp31_0 (And.intro @kp31_1 (And.intro @kp31_2 (And.intro @kp31_3 (And.intro @kp31_4 (And.intro @kp31_5 (And.intro @kp31_6 (And.intro @kp31_7 (@sq32))))))))))))
def en33 := And.intro @ent33 (And.intro @res33 (And.intro @rk33 (And.intro @ow33 (And.intro @kp33_0 (And.intro @kp33_1 (@sq32))))))
end Go.VI

namespace Go.VI
open Go.Proofs Go.RowKit Go.Shelf
attribute [local go_sem] Oper.semAt_some
set_option maxRecDepth 100000
set_option linter.unusedSimpArgs false
set_option linter.unusedVariables false
set_option maxHeartbeats 4000000
theorem seq_inv {css : List (List Int)} {xs : List Int} (h : seqSucc css = some xs) : ∃ op arg i, css = [[op, arg], [i]] ∧ (-9223372036854775808 ≤ i + 1 ∧ i + 1 ≤ 9223372036854775807) ∧ sucL op arg i = xs := by
  unfold seqSucc at h
  split at h
  · rename_i op arg i
    split at h
    · rename_i hi
      cases h
      exact ⟨op, arg, i, rfl, hi, rfl⟩
    · cases h
  · cases h
theorem seq_succ : Seq1 Tryd.prog 32 seqSucc := by
  intro l nn css xs bs J Jx W hL hlen hcells hdr hdrx hY h0
  obtain ⟨op, arg, i, rfl, ⟨hi1, hi2⟩, rfl⟩ := seq_inv hL
  obtain ⟨b1, b2, rfl⟩ : ∃ b1 b2, bs = [b1, b2] := by
    cases bs with
    | nil => cases hlen
    | cons a bs => cases bs with
      | nil => cases hlen
      | cons b bs => cases bs with
        | nil => exact ⟨a, b, rfl⟩
        | cons c bs => simp at hlen
  have c1 : ∀ j W, J j W → W.cell? ⟨b1, 0, none⟩ = some (.int .i64 op) := fun j W h => hcells j W h 0 b1 [op, arg] rfl rfl 0 op rfl
  have c2 : ∀ j W, J j W → W.cell? ⟨b1, 1, none⟩ = some (.int .i64 arg) := fun j W h => hcells j W h 0 b1 [op, arg] rfl rfl 1 arg rfl
  have c3 : ∀ j W, J j W → W.cell? ⟨b2, 0, none⟩ = some (.int .i64 i) := fun j W h => hcells j W h 1 b2 [i] rfl rfl 0 i rfl
  have a1 := c1 0 W h0
  have a2 := c2 0 W h0
  have a3 := c3 0 W h0
  have hw : IntKind.i64.wrap (i + 1) = i + 1 := w_i64 hi1 hi2
  refine callsIn_of_wp Tryd.func32 rfl trivial ?_ rfl
  simp only [ptrV, List.map_cons, List.map_nil, Tryd.ntmps32, List.size_toArray, List.length_cons, List.length_nil, Nat.reduceAdd, Nat.reduceSub, Array.replicate_succ, Array.replicate_zero, List.push_toArray, List.append_toArray, List.nil_append, List.cons_append]
  by_cases h : op = 0
  · subst h
    have hs : sucL 0 arg i = [] := by simp [sucL]
    rw [hs] at hY ⊢
    gi_wp2
    refine ⟨fun _ h => (by cases h), ?_⟩
    gi_wp2
    go_end0
    exact ⟨⟨_, rfl⟩, .inl h0⟩
  · by_cases h17 : op = 17
    · subst h17
      have hs : sucL 17 arg i = [arg] := by simp [sucL]
      rw [hs] at hY ⊢
      obtain ⟨f1, t1, s1, d1, hy1, hR1⟩ := hY (nn - 1) 0 arg W rfl h0
      gi_wp2
      refine ⟨fun _ h => (by cases h), ?_⟩
      gi_wp2
      refine ⟨fun h => (by cases h), hR1.mono ?_⟩
      rintro e W1 (⟨rfl, hJ1⟩ | ⟨rfl, hx1⟩)
      · gi_wp2
        go_end0
        exact ⟨⟨_, rfl⟩, .inl hJ1⟩
      · gi_wp2
        go_end0
        exact ⟨⟨_, rfl⟩, .inr hx1⟩
    · have hs : sucL op arg i = (i + 1) :: (if op = 17 ∨ op = 18 then [arg] else []) := by unfold sucL; rw [if_neg (by omega)]; rfl
      rw [hs] at hY ⊢
      obtain ⟨f1, t1, s1, d1, hy1, hR1⟩ := hY (nn - 1) 0 (i + 1) W rfl h0
      have q1 : (op != 0) = true := by simp [h]
      have q2 : (op != 17) = true := by simp [h17]
      have q4 : (op == 17) = false := by simp [h17]
      by_cases h18 : op = 18
      · subst h18
        gi_wp2
        refine ⟨fun h => (by cases h), hR1.mono ?_⟩
        rintro e W1 (⟨rfl, hJ1⟩ | ⟨rfl, hx1⟩)
        · have e1 := c1 1 W1 hJ1
          have e2 := c2 1 W1 hJ1
          obtain ⟨f2, t2, s2, d2, hy2, hR2⟩ := hY (nn - 1) 1 arg W1 rfl hJ1
          gi_wp2
          refine ⟨fun h => (by cases h), hR2.mono ?_⟩
          rintro e W2 (⟨rfl, hJ2⟩ | ⟨rfl, hx2⟩)
          · gi_wp2
            go_end0
            exact ⟨⟨_, rfl⟩, .inl hJ2⟩
          · gi_wp2
            go_end0
            exact ⟨⟨_, rfl⟩, .inr hx2⟩
        · gi_wp2
          refine bodyPost_ret (results_none rfl _ _ _) rfl ?_
          exact ⟨⟨_, rfl⟩, .inr hx1⟩
      · rw [if_neg (show ¬ (op = 17 ∨ op = 18) by omega)] at hY ⊢
        have q3 : (op == 18) = false := by simp [h18]
        gi_wp2
        refine ⟨fun h => (by cases h), hR1.mono ?_⟩
        rintro e W1 (⟨rfl, hJ1⟩ | ⟨rfl, hx1⟩)
        · have e1 := c1 1 W1 hJ1
          gi_wp2
          go_end0
          exact ⟨⟨_, rfl⟩, .inl hJ1⟩
        · gi_wp2
          refine bodyPost_ret (results_none rfl _ _ _) rfl ?_
          exact ⟨⟨_, rfl⟩, .inr hx1⟩
theorem seqOK : SeqOK E := by
  intro g L h
  rcases E_seqI g L h with ⟨rfl, rfl⟩ | h
  · exact ⟨ent32, seq_succ⟩
  · exact h.elim
end Go.VI

namespace Go.VI
open Go.Proofs
set_option maxRecDepth 100000
set_option linter.unusedSimpArgs false
set_option linter.unusedVariables false
set_option maxHeartbeats 4000000
abbrev Ins := Int × Int
def insC (p : Ins) : List IV := [.v (.int .i64 p.1), .v (.int .i64 p.2)]
def rowsI (l : List Ins) : List (List IV) := l.map insC
theorem rowsI_len (l : List Ins) : (rowsI l).length = l.length := by simp [rowsI]
theorem rowsI_at {l : List Ins} {k : Nat} (h : k < l.length) : (rowsI l)[k]? = some [.v (.int .i64 l[k].1), .v (.int .i64 l[k].2)] := by simp [rowsI, insC, h]
def boundsS (op i n : Int) : Int × Int := if op = 1 then (-999999999, 999999999) else if op = 17 ∨ op = 18 then (i + 1, n) else (0, 0)
def chk1 (n i : Int) (p : Ins) : Int := if p.1 < 0 ∨ 20 < p.1 then 9 else if p.2 < (boundsS p.1 i n).1 ∨ (boundsS p.1 i n).2 < p.2 then 2 else 0
def chkL (n : Int) : Nat → List Ins → Int
  | _, [] => 0
  | i, p :: r => if chk1 n i p = 0 then chkL n (i + 1) r else chk1 n i p
def checkI (l : List Ins) : Int := if 500 < (l.length : Int) then 5 else chkL l.length 0 l
theorem c31 (op i n : Int) (hi : -9223372036854775808 ≤ i + 1 ∧ i + 1 ≤ 9223372036854775807) : ∃ L, callT E 31 [.i (.v (.int .i64 op)), .i (.v (.int .i64 i)), .i (.v (.int .i64 n))] [] = some (.tup [.i (.v (.int .i64 (boundsS op i n).1)), .i (.v (.int .i64 (boundsS op i n).2))], L) := by
  unfold boundsS
  by_cases h1 : op = 1
  · subst h1; rw [callT_eq Tryd.func31 rfl fok31 (by simp [Tryd.ntmps31])]; simp (disch := first | omega | (simp only [List.length_append, List.length_map, List.length_set, List.length_cons, List.length_nil, List.length_take, List.length_drop]; omega)) only [va0, va1, va2, va3, va4, va5, va6, va7, va8, va9, va10, va11, va12, va13, va14, va15, vb0, vb1, vb2, vb3, w_i8, w_u8, w_i16, w_u16, w_i32, w_u32, w_i64, w_u64, lt_T, lt_F, le_T, le_F, nlt_T, nlt_F, nle_T, nle_F, List.take_of_length_le, gB, gcW, gcR, posIn, renA, renL, Chunk.ren, Chunk.refs, evOpD, touchD, stepC, isFresh, nFresh, freshOf, mkR, hole, evL, evH, opd, get, putD, ofVal, cellOf, loadE, behind, lenE, idxAddrE, idxE, addPtr, intE, strE, unE, convE, AV.int, AV.bool, AV.str, ivs, take, frameOf, firstRegion, refsA, refsL, one, cellsA, floatOk, apartT, List.map, if_true, if_false, E_P, E_glob0, E_glob1, reduceCtorEq, beq_self_eq_true, decide_true, decide_false, ↓reduceIte, Nat.reduceEqDiff, cond_true, cond_false, or_true, true_or, or_false, false_or, and_true, true_and, and_self, false_and, and_false, not_true, not_false_iff, Nat.reduceAdd, Nat.reduceSub, Nat.reduceMul, Nat.reduceLT, Nat.reduceLeDiff, Int.reduceToNat, Int.reduceLT, Int.reduceLE, Option.getD, Int.reduceMul, Int.reduceAdd, List.drop, List.take, Nat.reduceBEq, List.isEmpty, Int.reduceEq, Int.reduceNe, Int.reduceNeg, Int.reduceGT, Int.reduceGE, beq_true, beq_false, UInt8.reduceToNat, eqE, eq_self, foldE, maxE, minE, eq_T, eq_F, ndec, odec, adec, sdec, fillA, over, chop, List.replicate, leavesOk, leafOk, cellsEq, cellEq, E_ext, E_byref, en31]; exact ⟨_, rfl⟩
  · by_cases h2 : op = 17
    · subst h2; rw [callT_eq Tryd.func31 rfl fok31 (by simp [Tryd.ntmps31])]; simp (disch := first | omega | (simp only [List.length_append, List.length_map, List.length_set, List.length_cons, List.length_nil, List.length_take, List.length_drop]; omega)) only [va0, va1, va2, va3, va4, va5, va6, va7, va8, va9, va10, va11, va12, va13, va14, va15, vb0, vb1, vb2, vb3, w_i8, w_u8, w_i16, w_u16, w_i32, w_u32, w_i64, w_u64, lt_T, lt_F, le_T, le_F, nlt_T, nlt_F, nle_T, nle_F, List.take_of_length_le, gB, gcW, gcR, posIn, renA, renL, Chunk.ren, Chunk.refs, evOpD, touchD, stepC, isFresh, nFresh, freshOf, mkR, hole, evL, evH, opd, get, putD, ofVal, cellOf, loadE, behind, lenE, idxAddrE, idxE, addPtr, intE, strE, unE, convE, AV.int, AV.bool, AV.str, ivs, take, frameOf, firstRegion, refsA, refsL, one, cellsA, floatOk, apartT, List.map, if_true, if_false, E_P, E_glob0, E_glob1, reduceCtorEq, beq_self_eq_true, decide_true, decide_false, ↓reduceIte, Nat.reduceEqDiff, cond_true, cond_false, or_true, true_or, or_false, false_or, and_true, true_and, and_self, false_and, and_false, not_true, not_false_iff, Nat.reduceAdd, Nat.reduceSub, Nat.reduceMul, Nat.reduceLT, Nat.reduceLeDiff, Int.reduceToNat, Int.reduceLT, Int.reduceLE, Option.getD, Int.reduceMul, Int.reduceAdd, List.drop, List.take, Nat.reduceBEq, List.isEmpty, Int.reduceEq, Int.reduceNe, Int.reduceNeg, Int.reduceGT, Int.reduceGE, beq_true, beq_false, UInt8.reduceToNat, eqE, eq_self, foldE, maxE, minE, eq_T, eq_F, ndec, odec, adec, sdec, fillA, over, chop, List.replicate, leavesOk, leafOk, cellsEq, cellEq, E_ext, E_byref, en31, w_i64]; exact ⟨_, rfl⟩
    · by_cases h3 : op = 18
      · subst h3; rw [callT_eq Tryd.func31 rfl fok31 (by simp [Tryd.ntmps31])]; simp (disch := first | omega | (simp only [List.length_append, List.length_map, List.length_set, List.length_cons, List.length_nil, List.length_take, List.length_drop]; omega)) only [va0, va1, va2, va3, va4, va5, va6, va7, va8, va9, va10, va11, va12, va13, va14, va15, vb0, vb1, vb2, vb3, w_i8, w_u8, w_i16, w_u16, w_i32, w_u32, w_i64, w_u64, lt_T, lt_F, le_T, le_F, nlt_T, nlt_F, nle_T, nle_F, List.take_of_length_le, gB, gcW, gcR, posIn, renA, renL, Chunk.ren, Chunk.refs, evOpD, touchD, stepC, isFresh, nFresh, freshOf, mkR, hole, evL, evH, opd, get, putD, ofVal, cellOf, loadE, behind, lenE, idxAddrE, idxE, addPtr, intE, strE, unE, convE, AV.int, AV.bool, AV.str, ivs, take, frameOf, firstRegion, refsA, refsL, one, cellsA, floatOk, apartT, List.map, if_true, if_false, E_P, E_glob0, E_glob1, reduceCtorEq, beq_self_eq_true, decide_true, decide_false, ↓reduceIte, Nat.reduceEqDiff, cond_true, cond_false, or_true, true_or, or_false, false_or, and_true, true_and, and_self, false_and, and_false, not_true, not_false_iff, Nat.reduceAdd, Nat.reduceSub, Nat.reduceMul, Nat.reduceLT, Nat.reduceLeDiff, Int.reduceToNat, Int.reduceLT, Int.reduceLE, Option.getD, Int.reduceMul, Int.reduceAdd, List.drop, List.take, Nat.reduceBEq, List.isEmpty, Int.reduceEq, Int.reduceNe, Int.reduceNeg, Int.reduceGT, Int.reduceGE, beq_true, beq_false, UInt8.reduceToNat, eqE, eq_self, foldE, maxE, minE, eq_T, eq_F, ndec, odec, adec, sdec, fillA, over, chop, List.replicate, leavesOk, leafOk, cellsEq, cellEq, E_ext, E_byref, en31, w_i64]; exact ⟨_, rfl⟩
      · rw [if_neg h1, if_neg (by omega)]; rw [callT_eq Tryd.func31 rfl fok31 (by simp [Tryd.ntmps31])]; simp (disch := first | omega | (simp only [List.length_append, List.length_map, List.length_set, List.length_cons, List.length_nil, List.length_take, List.length_drop]; omega)) only [va0, va1, va2, va3, va4, va5, va6, va7, va8, va9, va10, va11, va12, va13, va14, va15, vb0, vb1, vb2, vb3, w_i8, w_u8, w_i16, w_u16, w_i32, w_u32, w_i64, w_u64, lt_T, lt_F, le_T, le_F, nlt_T, nlt_F, nle_T, nle_F, List.take_of_length_le, gB, gcW, gcR, posIn, renA, renL, Chunk.ren, Chunk.refs, evOpD, touchD, stepC, isFresh, nFresh, freshOf, mkR, hole, evL, evH, opd, get, putD, ofVal, cellOf, loadE, behind, lenE, idxAddrE, idxE, addPtr, intE, strE, unE, convE, AV.int, AV.bool, AV.str, ivs, take, frameOf, firstRegion, refsA, refsL, one, cellsA, floatOk, apartT, List.map, if_true, if_false, E_P, E_glob0, E_glob1, reduceCtorEq, beq_self_eq_true, decide_true, decide_false, ↓reduceIte, Nat.reduceEqDiff, cond_true, cond_false, or_true, true_or, or_false, false_or, and_true, true_and, and_self, false_and, and_false, not_true, not_false_iff, Nat.reduceAdd, Nat.reduceSub, Nat.reduceMul, Nat.reduceLT, Nat.reduceLeDiff, Int.reduceToNat, Int.reduceLT, Int.reduceLE, Option.getD, Int.reduceMul, Int.reduceAdd, List.drop, List.take, Nat.reduceBEq, List.isEmpty, Int.reduceEq, Int.reduceNe, Int.reduceNeg, Int.reduceGT, Int.reduceGE, beq_true, beq_false, UInt8.reduceToNat, eqE, eq_self, foldE, maxE, minE, eq_T, eq_F, ndec, odec, adec, sdec, fillA, over, chop, List.replicate, leavesOk, leafOk, cellsEq, cellEq, E_ext, E_byref, en31, h1, h2, h3]; exact ⟨_, rfl⟩
theorem ik31 (op i n : Int) (hi : -9223372036854775808 ≤ i + 1 ∧ i + 1 ≤ 9223372036854775807) (H : Hp) : isoK E (callT E) 31 [.i (.v (.int .i64 op)), .i (.v (.int .i64 i)), .i (.v (.int .i64 n))] H = some (.tup [.i (.v (.int .i64 (boundsS op i n).1)), .i (.v (.int .i64 (boundsS op i n).2))], H) := isoK_val rfl rfl rfl (c31 op i n hi)
theorem names_all : (match call E 60 30 [] [] with | some (.i (.sl 1 R false), _) => decide (R.length = 21) | _ => false) = true := by kernel_rfl
theorem c30 : ∃ R : List (List IV), R.length = 21 ∧ ∃ L, callT E 30 [] [] = some (.i (.sl 1 R false), L) := by
  have h := names_all
  split at h
  · rename_i R L hL
    exact ⟨R, of_decide_eq_true h, L, callT_of hL⟩
  · cases h
theorem ik30 : ∃ R : List (List IV), (R.length : Int) = 21 ∧ ∀ H, isoK E (callT E) 30 [] H = some (.i (.sl 1 R false), H) := by
  obtain ⟨R, h1, h2⟩ := c30
  exact ⟨R, by omega, fun H => isoK_val rfl rfl rfl h2⟩
def chP (e : Int) (fr : Fr) (ex : Ex) : Prop := (e = 0 ∧ ex = .exit 0) ∨ (e ≠ 0 ∧ ex = .ret ∧ get 2 fr = .i (.v (.int .i64 e)))
theorem l23 (l : List Ins) (hl : l.length ≤ 500) (k : Nat) (hk : k ≤ l.length) :
    ∃ fr ex H', rl E 0 23 (loopAt Tryd.f23 0) [(0, .i (.sl 2 (rowsI l) false)), (10, .i (.sl 2 (rowsI l) false)), (11, .i (.v (.int .i64 l.length))), (12, .i (.v (.int .i64 k)))] [] = some (ex, fr, H') ∧ chP (chkL l.length k (l.drop k)) fr ex := by
  rw [rl_step (fn := Tryd.f23) (k := 0) rfl]
  by_cases hlt : k < l.length
  · have hrow := rowsI_at hlt
    rw [List.drop_eq_getElem_cons hlt, chkL]
    obtain ⟨fr, ex, H', e, hh⟩ := l23 l hl (k + 1) hlt
    obtain ⟨op, arg, hp⟩ : ∃ op arg, l[k] = (op, arg) := ⟨_, _, rfl⟩
    rw [hp] at hrow ⊢
    simp only at hrow
    obtain ⟨R, hR, hN⟩ := ik30
    have hb := fun H => ik31 op k l.length (by omega) H
    have hchk : chk1 l.length k (op, arg) = if op < 0 ∨ 20 < op then 9 else if arg < (boundsS op k l.length).1 ∨ (boundsS op k l.length).2 < arg then 2 else 0 := rfl
    generalize boundsS op k l.length = q at *
    generalize chk1 l.length k (op, arg) = ch at *
    obtain ⟨lo, hi⟩ := q
    simp only at hb hchk ⊢
    by_cases h1 : op < 0
    · rw [if_pos (.inl h1)] at hchk
      subst hchk
      rw [if_neg (by decide)]
      clear e hh
      simp (disch := first | omega | (simp only [List.length_append, List.length_map, List.length_set, List.length_cons, List.length_nil, List.length_take, List.length_drop, rowsI_len]; omega)) only [va0, va1, va2, va3, va4, va5, va6, va7, va8, va9, va10, va11, va12, va13, va14, va15, vb0, vb1, vb2, vb3, w_i8, w_u8, w_i16, w_u16, w_i32, w_u32, w_i64, w_u64, lt_T, lt_F, le_T, le_F, nlt_T, nlt_F, nle_T, nle_F, List.take_of_length_le, gB, gcW, gcR, posIn, renA, renL, Chunk.ren, Chunk.refs, evOpD, touchD, stepC, isFresh, nFresh, freshOf, mkR, hole, evL, evH, opd, get, putD, ofVal, cellOf, loadE, behind, lenE, idxAddrE, idxE, addPtr, intE, strE, unE, convE, AV.int, AV.bool, AV.str, ivs, take, frameOf, firstRegion, refsA, refsL, one, cellsA, floatOk, apartT, List.map, if_true, if_false, E_P, E_glob0, E_glob1, reduceCtorEq, beq_self_eq_true, decide_true, decide_false, ↓reduceIte, Nat.reduceEqDiff, cond_true, cond_false, or_true, true_or, or_false, false_or, and_true, true_and, and_self, false_and, and_false, not_true, not_false_iff, Nat.reduceAdd, Nat.reduceSub, Nat.reduceMul, Nat.reduceLT, Nat.reduceLeDiff, Int.reduceToNat, Int.reduceLT, Int.reduceLE, Option.getD, Int.reduceMul, Int.reduceAdd, List.drop, List.take, Nat.reduceBEq, List.isEmpty, Int.reduceEq, Int.reduceNe, Int.reduceNeg, Int.reduceGT, Int.reduceGE, beq_true, beq_false, UInt8.reduceToNat, eqE, eq_self, foldE, maxE, minE, eq_T, eq_F, ndec, odec, adec, sdec, fillA, over, chop, List.replicate, leavesOk, leafOk, cellsEq, cellEq, E_ext, E_byref, en23, bs22, bs65, hrow, rowsI_len, h1, hN, hR, show ∀ B fr H, execT E B 23 (Code.loop _) fr H = rlG E B 23 (loopAt Tryd.f23 0) (gcn B (norm [0, 10, 11, 12] fr) H) from fun B fr H => rl_intro rfl mt23_4 mb23_4 zf23_4 hd23_4 fr H]
      exact ⟨_, _, _, rfl, .inr ⟨by decide, rfl, rfl⟩⟩
    · by_cases h2 : 21 ≤ op
      · rw [if_pos (.inr (by omega))] at hchk
        subst hchk
        rw [if_neg (by decide)]
        clear e hh
        simp (disch := first | omega | (simp only [List.length_append, List.length_map, List.length_set, List.length_cons, List.length_nil, List.length_take, List.length_drop, rowsI_len]; omega)) only [va0, va1, va2, va3, va4, va5, va6, va7, va8, va9, va10, va11, va12, va13, va14, va15, vb0, vb1, vb2, vb3, w_i8, w_u8, w_i16, w_u16, w_i32, w_u32, w_i64, w_u64, lt_T, lt_F, le_T, le_F, nlt_T, nlt_F, nle_T, nle_F, List.take_of_length_le, gB, gcW, gcR, posIn, renA, renL, Chunk.ren, Chunk.refs, evOpD, touchD, stepC, isFresh, nFresh, freshOf, mkR, hole, evL, evH, opd, get, putD, ofVal, cellOf, loadE, behind, lenE, idxAddrE, idxE, addPtr, intE, strE, unE, convE, AV.int, AV.bool, AV.str, ivs, take, frameOf, firstRegion, refsA, refsL, one, cellsA, floatOk, apartT, List.map, if_true, if_false, E_P, E_glob0, E_glob1, reduceCtorEq, beq_self_eq_true, decide_true, decide_false, ↓reduceIte, Nat.reduceEqDiff, cond_true, cond_false, or_true, true_or, or_false, false_or, and_true, true_and, and_self, false_and, and_false, not_true, not_false_iff, Nat.reduceAdd, Nat.reduceSub, Nat.reduceMul, Nat.reduceLT, Nat.reduceLeDiff, Int.reduceToNat, Int.reduceLT, Int.reduceLE, Option.getD, Int.reduceMul, Int.reduceAdd, List.drop, List.take, Nat.reduceBEq, List.isEmpty, Int.reduceEq, Int.reduceNe, Int.reduceNeg, Int.reduceGT, Int.reduceGE, beq_true, beq_false, UInt8.reduceToNat, eqE, eq_self, foldE, maxE, minE, eq_T, eq_F, ndec, odec, adec, sdec, fillA, over, chop, List.replicate, leavesOk, leafOk, cellsEq, cellEq, E_ext, E_byref, en23, bs22, bs65, hrow, rowsI_len, h1, h2, hN, hR, show ∀ B fr H, execT E B 23 (Code.loop _) fr H = rlG E B 23 (loopAt Tryd.f23 0) (gcn B (norm [0, 10, 11, 12] fr) H) from fun B fr H => rl_intro rfl mt23_4 mb23_4 zf23_4 hd23_4 fr H]
        exact ⟨_, _, _, rfl, .inr ⟨by decide, rfl, rfl⟩⟩
      · rw [if_neg (by omega)] at hchk
        by_cases h3 : arg < lo
        · rw [if_pos (.inl h3)] at hchk
          subst hchk
          rw [if_neg (by decide)]
          clear e hh
          simp (disch := first | omega | (simp only [List.length_append, List.length_map, List.length_set, List.length_cons, List.length_nil, List.length_take, List.length_drop, rowsI_len]; omega)) only [va0, va1, va2, va3, va4, va5, va6, va7, va8, va9, va10, va11, va12, va13, va14, va15, vb0, vb1, vb2, vb3, w_i8, w_u8, w_i16, w_u16, w_i32, w_u32, w_i64, w_u64, lt_T, lt_F, le_T, le_F, nlt_T, nlt_F, nle_T, nle_F, List.take_of_length_le, gB, gcW, gcR, posIn, renA, renL, Chunk.ren, Chunk.refs, evOpD, touchD, stepC, isFresh, nFresh, freshOf, mkR, hole, evL, evH, opd, get, putD, ofVal, cellOf, loadE, behind, lenE, idxAddrE, idxE, addPtr, intE, strE, unE, convE, AV.int, AV.bool, AV.str, ivs, take, frameOf, firstRegion, refsA, refsL, one, cellsA, floatOk, apartT, List.map, if_true, if_false, E_P, E_glob0, E_glob1, reduceCtorEq, beq_self_eq_true, decide_true, decide_false, ↓reduceIte, Nat.reduceEqDiff, cond_true, cond_false, or_true, true_or, or_false, false_or, and_true, true_and, and_self, false_and, and_false, not_true, not_false_iff, Nat.reduceAdd, Nat.reduceSub, Nat.reduceMul, Nat.reduceLT, Nat.reduceLeDiff, Int.reduceToNat, Int.reduceLT, Int.reduceLE, Option.getD, Int.reduceMul, Int.reduceAdd, List.drop, List.take, Nat.reduceBEq, List.isEmpty, Int.reduceEq, Int.reduceNe, Int.reduceNeg, Int.reduceGT, Int.reduceGE, beq_true, beq_false, UInt8.reduceToNat, eqE, eq_self, foldE, maxE, minE, eq_T, eq_F, ndec, odec, adec, sdec, fillA, over, chop, List.replicate, leavesOk, leafOk, cellsEq, cellEq, E_ext, E_byref, en23, bs22, bs65, hrow, rowsI_len, h1, h2, h3, hN, hR, hb, show ∀ B fr H, execT E B 23 (Code.loop _) fr H = rlG E B 23 (loopAt Tryd.f23 0) (gcn B (norm [0, 10, 11, 12] fr) H) from fun B fr H => rl_intro rfl mt23_4 mb23_4 zf23_4 hd23_4 fr H]
          exact ⟨_, _, _, rfl, .inr ⟨by decide, rfl, rfl⟩⟩
        · by_cases h4 : hi < arg
          · rw [if_pos (.inr h4)] at hchk
            subst hchk
            rw [if_neg (by decide)]
            clear e hh
            simp (disch := first | omega | (simp only [List.length_append, List.length_map, List.length_set, List.length_cons, List.length_nil, List.length_take, List.length_drop, rowsI_len]; omega)) only [va0, va1, va2, va3, va4, va5, va6, va7, va8, va9, va10, va11, va12, va13, va14, va15, vb0, vb1, vb2, vb3, w_i8, w_u8, w_i16, w_u16, w_i32, w_u32, w_i64, w_u64, lt_T, lt_F, le_T, le_F, nlt_T, nlt_F, nle_T, nle_F, List.take_of_length_le, gB, gcW, gcR, posIn, renA, renL, Chunk.ren, Chunk.refs, evOpD, touchD, stepC, isFresh, nFresh, freshOf, mkR, hole, evL, evH, opd, get, putD, ofVal, cellOf, loadE, behind, lenE, idxAddrE, idxE, addPtr, intE, strE, unE, convE, AV.int, AV.bool, AV.str, ivs, take, frameOf, firstRegion, refsA, refsL, one, cellsA, floatOk, apartT, List.map, if_true, if_false, E_P, E_glob0, E_glob1, reduceCtorEq, beq_self_eq_true, decide_true, decide_false, ↓reduceIte, Nat.reduceEqDiff, cond_true, cond_false, or_true, true_or, or_false, false_or, and_true, true_and, and_self, false_and, and_false, not_true, not_false_iff, Nat.reduceAdd, Nat.reduceSub, Nat.reduceMul, Nat.reduceLT, Nat.reduceLeDiff, Int.reduceToNat, Int.reduceLT, Int.reduceLE, Option.getD, Int.reduceMul, Int.reduceAdd, List.drop, List.take, Nat.reduceBEq, List.isEmpty, Int.reduceEq, Int.reduceNe, Int.reduceNeg, Int.reduceGT, Int.reduceGE, beq_true, beq_false, UInt8.reduceToNat, eqE, eq_self, foldE, maxE, minE, eq_T, eq_F, ndec, odec, adec, sdec, fillA, over, chop, List.replicate, leavesOk, leafOk, cellsEq, cellEq, E_ext, E_byref, en23, bs22, bs65, hrow, rowsI_len, h1, h2, h3, h4, hN, hR, hb, show ∀ B fr H, execT E B 23 (Code.loop _) fr H = rlG E B 23 (loopAt Tryd.f23 0) (gcn B (norm [0, 10, 11, 12] fr) H) from fun B fr H => rl_intro rfl mt23_4 mb23_4 zf23_4 hd23_4 fr H]
            exact ⟨_, _, _, rfl, .inr ⟨by decide, rfl, rfl⟩⟩
          · rw [if_neg (by omega)] at hchk
            subst hchk
            rw [if_pos rfl]
            refine ⟨fr, ex, H', Eq.trans ?_ e, hh⟩
            clear e hh
            simp (disch := first | omega | (simp only [List.length_append, List.length_map, List.length_set, List.length_cons, List.length_nil, List.length_take, List.length_drop, rowsI_len]; omega)) only [va0, va1, va2, va3, va4, va5, va6, va7, va8, va9, va10, va11, va12, va13, va14, va15, vb0, vb1, vb2, vb3, w_i8, w_u8, w_i16, w_u16, w_i32, w_u32, w_i64, w_u64, lt_T, lt_F, le_T, le_F, nlt_T, nlt_F, nle_T, nle_F, List.take_of_length_le, gB, gcW, gcR, posIn, renA, renL, Chunk.ren, Chunk.refs, evOpD, touchD, stepC, isFresh, nFresh, freshOf, mkR, hole, evL, evH, opd, get, putD, ofVal, cellOf, loadE, behind, lenE, idxAddrE, idxE, addPtr, intE, strE, unE, convE, AV.int, AV.bool, AV.str, ivs, take, frameOf, firstRegion, refsA, refsL, one, cellsA, floatOk, apartT, List.map, if_true, if_false, E_P, E_glob0, E_glob1, reduceCtorEq, beq_self_eq_true, decide_true, decide_false, ↓reduceIte, Nat.reduceEqDiff, cond_true, cond_false, or_true, true_or, or_false, false_or, and_true, true_and, and_self, false_and, and_false, not_true, not_false_iff, Nat.reduceAdd, Nat.reduceSub, Nat.reduceMul, Nat.reduceLT, Nat.reduceLeDiff, Int.reduceToNat, Int.reduceLT, Int.reduceLE, Option.getD, Int.reduceMul, Int.reduceAdd, List.drop, List.take, Nat.reduceBEq, List.isEmpty, Int.reduceEq, Int.reduceNe, Int.reduceNeg, Int.reduceGT, Int.reduceGE, beq_true, beq_false, UInt8.reduceToNat, eqE, eq_self, foldE, maxE, minE, eq_T, eq_F, ndec, odec, adec, sdec, fillA, over, chop, List.replicate, leavesOk, leafOk, cellsEq, cellEq, E_ext, E_byref, en23, bs22, bs65, hrow, rowsI_len, h1, h2, h3, h4, hN, hR, hb, show ∀ B fr H, execT E B 23 (Code.loop _) fr H = rlG E B 23 (loopAt Tryd.f23 0) (gcn B (norm [0, 10, 11, 12] fr) H) from fun B fr H => rl_intro rfl mt23_4 mb23_4 zf23_4 hd23_4 fr H]
  · obtain rfl : k = l.length := by omega
    rw [List.drop_length, chkL]
    simp (disch := first | omega | (simp only [List.length_append, List.length_map, List.length_set, List.length_cons, List.length_nil, List.length_take, List.length_drop, rowsI_len]; omega)) only [va0, va1, va2, va3, va4, va5, va6, va7, va8, va9, va10, va11, va12, va13, va14, va15, vb0, vb1, vb2, vb3, w_i8, w_u8, w_i16, w_u16, w_i32, w_u32, w_i64, w_u64, lt_T, lt_F, le_T, le_F, nlt_T, nlt_F, nle_T, nle_F, List.take_of_length_le, gB, gcW, gcR, posIn, renA, renL, Chunk.ren, Chunk.refs, evOpD, touchD, stepC, isFresh, nFresh, freshOf, mkR, hole, evL, evH, opd, get, putD, ofVal, cellOf, loadE, behind, lenE, idxAddrE, idxE, addPtr, intE, strE, unE, convE, AV.int, AV.bool, AV.str, ivs, take, frameOf, firstRegion, refsA, refsL, one, cellsA, floatOk, apartT, List.map, if_true, if_false, E_P, E_glob0, E_glob1, reduceCtorEq, beq_self_eq_true, decide_true, decide_false, ↓reduceIte, Nat.reduceEqDiff, cond_true, cond_false, or_true, true_or, or_false, false_or, and_true, true_and, and_self, false_and, and_false, not_true, not_false_iff, Nat.reduceAdd, Nat.reduceSub, Nat.reduceMul, Nat.reduceLT, Nat.reduceLeDiff, Int.reduceToNat, Int.reduceLT, Int.reduceLE, Option.getD, Int.reduceMul, Int.reduceAdd, List.drop, List.take, Nat.reduceBEq, List.isEmpty, Int.reduceEq, Int.reduceNe, Int.reduceNeg, Int.reduceGT, Int.reduceGE, beq_true, beq_false, UInt8.reduceToNat, eqE, eq_self, foldE, maxE, minE, eq_T, eq_F, ndec, odec, adec, sdec, fillA, over, chop, List.replicate, leavesOk, leafOk, cellsEq, cellEq, E_ext, E_byref, en23, bs22, bs65, rowsI_len, show ∀ B fr H, execT E B 23 (Code.loop _) fr H = rlG E B 23 (loopAt Tryd.f23 0) (gcn B (norm [0, 10, 11, 12] fr) H) from fun B fr H => rl_intro rfl mt23_4 mb23_4 zf23_4 hd23_4 fr H]
    exact ⟨_, _, _, rfl, .inl ⟨rfl, rfl⟩⟩
termination_by l.length - k
theorem c23 (l : List Ins) (hl : (l.length : Int) < 9223372036854775808) : ∃ L, callT E 23 [.i (.sl 2 (rowsI l) false)] [] = some (.i (.v (.int .i64 (checkI l))), L) := by
  unfold checkI
  by_cases h5 : 500 < (l.length : Int)
  · rw [if_pos h5]
    rw [callT_eq Tryd.func23 rfl fok23 (by simp [Tryd.ntmps23])]
    simp (disch := first | omega | (simp only [List.length_append, List.length_map, List.length_set, List.length_cons, List.length_nil, List.length_take, List.length_drop, rowsI_len]; omega)) only [va0, va1, va2, va3, va4, va5, va6, va7, va8, va9, va10, va11, va12, va13, va14, va15, vb0, vb1, vb2, vb3, w_i8, w_u8, w_i16, w_u16, w_i32, w_u32, w_i64, w_u64, lt_T, lt_F, le_T, le_F, nlt_T, nlt_F, nle_T, nle_F, List.take_of_length_le, gB, gcW, gcR, posIn, renA, renL, Chunk.ren, Chunk.refs, evOpD, touchD, stepC, isFresh, nFresh, freshOf, mkR, hole, evL, evH, opd, get, putD, ofVal, cellOf, loadE, behind, lenE, idxAddrE, idxE, addPtr, intE, strE, unE, convE, AV.int, AV.bool, AV.str, ivs, take, frameOf, firstRegion, refsA, refsL, one, cellsA, floatOk, apartT, List.map, if_true, if_false, E_P, E_glob0, E_glob1, reduceCtorEq, beq_self_eq_true, decide_true, decide_false, ↓reduceIte, Nat.reduceEqDiff, cond_true, cond_false, or_true, true_or, or_false, false_or, and_true, true_and, and_self, false_and, and_false, not_true, not_false_iff, Nat.reduceAdd, Nat.reduceSub, Nat.reduceMul, Nat.reduceLT, Nat.reduceLeDiff, Int.reduceToNat, Int.reduceLT, Int.reduceLE, Option.getD, Int.reduceMul, Int.reduceAdd, List.drop, List.take, Nat.reduceBEq, List.isEmpty, Int.reduceEq, Int.reduceNe, Int.reduceNeg, Int.reduceGT, Int.reduceGE, beq_true, beq_false, UInt8.reduceToNat, eqE, eq_self, foldE, maxE, minE, eq_T, eq_F, ndec, odec, adec, sdec, fillA, over, chop, List.replicate, leavesOk, leafOk, cellsEq, cellEq, E_ext, E_byref, en23, bs22, bs65, rowsI_len, h5]
    exact ⟨_, rfl⟩
  · rw [if_neg h5]
    obtain ⟨fr, ex, H', e, hh⟩ := l23 l (by omega) 0 (Nat.zero_le _)
    rw [List.drop_zero] at hh
    have e' : rl E 0 23 (loopAt Tryd.f23 0) [(0, .i (.sl 2 (rowsI l) false)), (10, .i (.sl 2 (rowsI l) false)), (11, .i (.v (.int .i64 l.length))), (12, .i (.v (.int .i64 0)))] [] = _ := e
    rcases hh with ⟨h1, rfl⟩ | ⟨h1, rfl, h2⟩
    · rw [h1]
      rw [callT_eq Tryd.func23 rfl fok23 (by simp [Tryd.ntmps23])]
      simp (disch := first | omega | (simp only [List.length_append, List.length_map, List.length_set, List.length_cons, List.length_nil, List.length_take, List.length_drop, rowsI_len]; omega)) only [va0, va1, va2, va3, va4, va5, va6, va7, va8, va9, va10, va11, va12, va13, va14, va15, vb0, vb1, vb2, vb3, w_i8, w_u8, w_i16, w_u16, w_i32, w_u32, w_i64, w_u64, lt_T, lt_F, le_T, le_F, nlt_T, nlt_F, nle_T, nle_F, List.take_of_length_le, gB, gcW, gcR, posIn, renA, renL, Chunk.ren, Chunk.refs, evOpD, touchD, stepC, isFresh, nFresh, freshOf, mkR, hole, evL, evH, opd, get, putD, ofVal, cellOf, loadE, behind, lenE, idxAddrE, idxE, addPtr, intE, strE, unE, convE, AV.int, AV.bool, AV.str, ivs, take, frameOf, firstRegion, refsA, refsL, one, cellsA, floatOk, apartT, List.map, if_true, if_false, E_P, E_glob0, E_glob1, reduceCtorEq, beq_self_eq_true, decide_true, decide_false, ↓reduceIte, Nat.reduceEqDiff, cond_true, cond_false, or_true, true_or, or_false, false_or, and_true, true_and, and_self, false_and, and_false, not_true, not_false_iff, Nat.reduceAdd, Nat.reduceSub, Nat.reduceMul, Nat.reduceLT, Nat.reduceLeDiff, Int.reduceToNat, Int.reduceLT, Int.reduceLE, Option.getD, Int.reduceMul, Int.reduceAdd, List.drop, List.take, Nat.reduceBEq, List.isEmpty, Int.reduceEq, Int.reduceNe, Int.reduceNeg, Int.reduceGT, Int.reduceGE, beq_true, beq_false, UInt8.reduceToNat, eqE, eq_self, foldE, maxE, minE, eq_T, eq_F, ndec, odec, adec, sdec, fillA, over, chop, List.replicate, leavesOk, leafOk, cellsEq, cellEq, E_ext, E_byref, en23, bs22, bs65, rowsI_len, h5, e', show ∀ B fr H, execT E B 23 (Code.loop _) fr H = rlG E B 23 (loopAt Tryd.f23 0) (gcn B (norm [0, 10, 11, 12] fr) H) from fun B fr H => rl_intro rfl mt23_4 mb23_4 zf23_4 hd23_4 fr H]
      exact ⟨_, rfl⟩
    · generalize chkL l.length 0 l = q at *
      rw [callT_eq Tryd.func23 rfl fok23 (by simp [Tryd.ntmps23])]
      simp (disch := first | omega | (simp only [List.length_append, List.length_map, List.length_set, List.length_cons, List.length_nil, List.length_take, List.length_drop, rowsI_len]; omega)) only [va0, va1, va2, va3, va4, va5, va6, va7, va8, va9, va10, va11, va12, va13, va14, va15, vb0, vb1, vb2, vb3, w_i8, w_u8, w_i16, w_u16, w_i32, w_u32, w_i64, w_u64, lt_T, lt_F, le_T, le_F, nlt_T, nlt_F, nle_T, nle_F, List.take_of_length_le, gB, gcW, gcR, posIn, renA, renL, Chunk.ren, Chunk.refs, evOpD, touchD, stepC, isFresh, nFresh, freshOf, mkR, hole, evL, evH, opd, get, putD, ofVal, cellOf, loadE, behind, lenE, idxAddrE, idxE, addPtr, intE, strE, unE, convE, AV.int, AV.bool, AV.str, ivs, take, frameOf, firstRegion, refsA, refsL, one, cellsA, floatOk, apartT, List.map, if_true, if_false, E_P, E_glob0, E_glob1, reduceCtorEq, beq_self_eq_true, decide_true, decide_false, ↓reduceIte, Nat.reduceEqDiff, cond_true, cond_false, or_true, true_or, or_false, false_or, and_true, true_and, and_self, false_and, and_false, not_true, not_false_iff, Nat.reduceAdd, Nat.reduceSub, Nat.reduceMul, Nat.reduceLT, Nat.reduceLeDiff, Int.reduceToNat, Int.reduceLT, Int.reduceLE, Option.getD, Int.reduceMul, Int.reduceAdd, List.drop, List.take, Nat.reduceBEq, List.isEmpty, Int.reduceEq, Int.reduceNe, Int.reduceNeg, Int.reduceGT, Int.reduceGE, beq_true, beq_false, UInt8.reduceToNat, eqE, eq_self, foldE, maxE, minE, eq_T, eq_F, ndec, odec, adec, sdec, fillA, over, chop, List.replicate, leavesOk, leafOk, cellsEq, cellEq, E_ext, E_byref, en23, bs22, bs65, rowsI_len, h5, e', h2, show ∀ B fr H, execT E B 23 (Code.loop _) fr H = rlG E B 23 (loopAt Tryd.f23 0) (gcn B (norm [0, 10, 11, 12] fr) H) from fun B fr H => rl_intro rfl mt23_4 mb23_4 zf23_4 hd23_4 fr H]
      exact ⟨_, rfl⟩
theorem ik23 (l : List Ins) (hl : (l.length : Int) < 9223372036854775808) (H : Hp) : isoK E (callT E) 23 [.i (.sl 2 (rowsI l) false)] H = some (.i (.v (.int .i64 (checkI l))), H) := isoK_val rfl rfl rfl (c23 l hl)
end Go.VI

namespace Go.VI
open Go.Proofs
set_option maxRecDepth 100000
set_option linter.unusedSimpArgs false
set_option linter.unusedVariables false
set_option maxHeartbeats 4000000
theorem c33 (op : Int) : ∃ L, callT E 33 [.i (.v (.int .i64 op))] [] = some (.i (.v (.bool (decide (op = 17) || decide (op = 18)))), L) := by
  by_cases h1 : op = 17
  · subst h1; rw [callT_eq Tryd.func33 rfl fok33 (by simp [Tryd.ntmps33])]; simp (disch := first | omega | (simp only [List.length_append, List.length_map, List.length_set, List.length_cons, List.length_nil, List.length_take, List.length_drop]; omega)) only [va0, va1, va2, va3, va4, va5, va6, va7, va8, va9, va10, va11, va12, va13, va14, va15, vb0, vb1, vb2, vb3, w_i8, w_u8, w_i16, w_u16, w_i32, w_u32, w_i64, w_u64, lt_T, lt_F, le_T, le_F, nlt_T, nlt_F, nle_T, nle_F, List.take_of_length_le, gB, gcW, gcR, posIn, renA, renL, Chunk.ren, Chunk.refs, evOpD, touchD, stepC, isFresh, nFresh, freshOf, mkR, hole, evL, evH, opd, get, putD, ofVal, cellOf, loadE, behind, lenE, idxAddrE, idxE, addPtr, intE, strE, unE, convE, AV.int, AV.bool, AV.str, ivs, take, frameOf, firstRegion, refsA, refsL, one, cellsA, floatOk, apartT, List.map, if_true, if_false, E_P, E_glob0, E_glob1, reduceCtorEq, beq_self_eq_true, decide_true, decide_false, ↓reduceIte, Nat.reduceEqDiff, cond_true, cond_false, or_true, true_or, or_false, false_or, and_true, true_and, and_self, false_and, and_false, not_true, not_false_iff, Nat.reduceAdd, Nat.reduceSub, Nat.reduceMul, Nat.reduceLT, Nat.reduceLeDiff, Int.reduceToNat, Int.reduceLT, Int.reduceLE, Option.getD, Int.reduceMul, Int.reduceAdd, List.drop, List.take, Nat.reduceBEq, List.isEmpty, Int.reduceEq, Int.reduceNe, Int.reduceNeg, Int.reduceGT, Int.reduceGE, beq_true, beq_false, UInt8.reduceToNat, eqE, eq_self, foldE, maxE, minE, eq_T, eq_F, ndec, odec, adec, sdec, fillA, over, chop, List.replicate, leavesOk, leafOk, cellsEq, cellEq, E_ext, E_byref, en33]; exact ⟨_, rfl⟩
  · by_cases h2 : op = 18
    · subst h2; rw [callT_eq Tryd.func33 rfl fok33 (by simp [Tryd.ntmps33])]; simp (disch := first | omega | (simp only [List.length_append, List.length_map, List.length_set, List.length_cons, List.length_nil, List.length_take, List.length_drop]; omega)) only [va0, va1, va2, va3, va4, va5, va6, va7, va8, va9, va10, va11, va12, va13, va14, va15, vb0, vb1, vb2, vb3, w_i8, w_u8, w_i16, w_u16, w_i32, w_u32, w_i64, w_u64, lt_T, lt_F, le_T, le_F, nlt_T, nlt_F, nle_T, nle_F, List.take_of_length_le, gB, gcW, gcR, posIn, renA, renL, Chunk.ren, Chunk.refs, evOpD, touchD, stepC, isFresh, nFresh, freshOf, mkR, hole, evL, evH, opd, get, putD, ofVal, cellOf, loadE, behind, lenE, idxAddrE, idxE, addPtr, intE, strE, unE, convE, AV.int, AV.bool, AV.str, ivs, take, frameOf, firstRegion, refsA, refsL, one, cellsA, floatOk, apartT, List.map, if_true, if_false, E_P, E_glob0, E_glob1, reduceCtorEq, beq_self_eq_true, decide_true, decide_false, ↓reduceIte, Nat.reduceEqDiff, cond_true, cond_false, or_true, true_or, or_false, false_or, and_true, true_and, and_self, false_and, and_false, not_true, not_false_iff, Nat.reduceAdd, Nat.reduceSub, Nat.reduceMul, Nat.reduceLT, Nat.reduceLeDiff, Int.reduceToNat, Int.reduceLT, Int.reduceLE, Option.getD, Int.reduceMul, Int.reduceAdd, List.drop, List.take, Nat.reduceBEq, List.isEmpty, Int.reduceEq, Int.reduceNe, Int.reduceNeg, Int.reduceGT, Int.reduceGE, beq_true, beq_false, UInt8.reduceToNat, eqE, eq_self, foldE, maxE, minE, eq_T, eq_F, ndec, odec, adec, sdec, fillA, over, chop, List.replicate, leavesOk, leafOk, cellsEq, cellEq, E_ext, E_byref, en33]; exact ⟨_, rfl⟩
    · simp only [h1, h2, decide_false, Bool.or_false]
      rw [callT_eq Tryd.func33 rfl fok33 (by simp [Tryd.ntmps33])]
      simp (disch := first | omega | (simp only [List.length_append, List.length_map, List.length_set, List.length_cons, List.length_nil, List.length_take, List.length_drop]; omega)) only [va0, va1, va2, va3, va4, va5, va6, va7, va8, va9, va10, va11, va12, va13, va14, va15, vb0, vb1, vb2, vb3, w_i8, w_u8, w_i16, w_u16, w_i32, w_u32, w_i64, w_u64, lt_T, lt_F, le_T, le_F, nlt_T, nlt_F, nle_T, nle_F, List.take_of_length_le, gB, gcW, gcR, posIn, renA, renL, Chunk.ren, Chunk.refs, evOpD, touchD, stepC, isFresh, nFresh, freshOf, mkR, hole, evL, evH, opd, get, putD, ofVal, cellOf, loadE, behind, lenE, idxAddrE, idxE, addPtr, intE, strE, unE, convE, AV.int, AV.bool, AV.str, ivs, take, frameOf, firstRegion, refsA, refsL, one, cellsA, floatOk, apartT, List.map, if_true, if_false, E_P, E_glob0, E_glob1, reduceCtorEq, beq_self_eq_true, decide_true, decide_false, ↓reduceIte, Nat.reduceEqDiff, cond_true, cond_false, or_true, true_or, or_false, false_or, and_true, true_and, and_self, false_and, and_false, not_true, not_false_iff, Nat.reduceAdd, Nat.reduceSub, Nat.reduceMul, Nat.reduceLT, Nat.reduceLeDiff, Int.reduceToNat, Int.reduceLT, Int.reduceLE, Option.getD, Int.reduceMul, Int.reduceAdd, List.drop, List.take, Nat.reduceBEq, List.isEmpty, Int.reduceEq, Int.reduceNe, Int.reduceNeg, Int.reduceGT, Int.reduceGE, beq_true, beq_false, UInt8.reduceToNat, eqE, eq_self, foldE, maxE, minE, eq_T, eq_F, ndec, odec, adec, sdec, fillA, over, chop, List.replicate, leavesOk, leafOk, cellsEq, cellEq, E_ext, E_byref, en33, h1, h2]
      exact ⟨_, rfl⟩
theorem ik33 (op : Int) (H : Hp) : isoK E (callT E) 33 [.i (.v (.int .i64 op))] H = some (.i (.v (.bool (decide (op = 17) || decide (op = 18)))), H) := isoK_val rfl rfl rfl (c33 op)
theorem l25 (l : List Ins) (hl : l.length ≤ 500) (k : Nat) (hk : k ≤ l.length) :
    ∃ fr ex H', rl E 0 25 (loopAt Tryd.f25 0) [(0, .i (.sl 2 (rowsI l) false)), (3, .i (.v (.int .i64 k)))] [] = some (ex, fr, H') ∧ chP (chkL l.length k (l.drop k)) fr ex := by
  rw [rl_step (fn := Tryd.f25) (k := 0) rfl]
  by_cases hlt : k < l.length
  · have hrow := rowsI_at hlt
    rw [List.drop_eq_getElem_cons hlt, chkL]
    obtain ⟨fr, ex, H', e, hh⟩ := l25 l hl (k + 1) hlt
    obtain ⟨op, arg, hp⟩ : ∃ op arg, l[k] = (op, arg) := ⟨_, _, rfl⟩
    rw [hp] at hrow ⊢
    simp only at hrow
    have hj := fun H => ik33 op H
    have hchk : chk1 l.length k (op, arg) = if op < 0 ∨ 20 < op then 9 else if arg < (boundsS op k l.length).1 ∨ (boundsS op k l.length).2 < arg then 2 else 0 := rfl
    generalize chk1 l.length k (op, arg) = ch at *
    by_cases h1 : op < 0
    · rw [if_pos (.inl h1)] at hchk
      subst hchk
      rw [if_neg (by decide)]
      clear e hh
      simp (disch := first | omega | (simp only [List.length_append, List.length_map, List.length_set, List.length_cons, List.length_nil, List.length_take, List.length_drop, rowsI_len]; omega)) only [va0, va1, va2, va3, va4, va5, va6, va7, va8, va9, va10, va11, va12, va13, va14, va15, vb0, vb1, vb2, vb3, w_i8, w_u8, w_i16, w_u16, w_i32, w_u32, w_i64, w_u64, lt_T, lt_F, le_T, le_F, nlt_T, nlt_F, nle_T, nle_F, List.take_of_length_le, gB, gcW, gcR, posIn, renA, renL, Chunk.ren, Chunk.refs, evOpD, touchD, stepC, isFresh, nFresh, freshOf, mkR, hole, evL, evH, opd, get, putD, ofVal, cellOf, loadE, behind, lenE, idxAddrE, idxE, addPtr, intE, strE, unE, convE, AV.int, AV.bool, AV.str, ivs, take, frameOf, firstRegion, refsA, refsL, one, cellsA, floatOk, apartT, List.map, if_true, if_false, E_P, E_glob0, E_glob1, reduceCtorEq, beq_self_eq_true, decide_true, decide_false, ↓reduceIte, Nat.reduceEqDiff, cond_true, cond_false, or_true, true_or, or_false, false_or, and_true, true_and, and_self, false_and, and_false, not_true, not_false_iff, Nat.reduceAdd, Nat.reduceSub, Nat.reduceMul, Nat.reduceLT, Nat.reduceLeDiff, Int.reduceToNat, Int.reduceLT, Int.reduceLE, Option.getD, Int.reduceMul, Int.reduceAdd, List.drop, List.take, Nat.reduceBEq, List.isEmpty, Int.reduceEq, Int.reduceNe, Int.reduceNeg, Int.reduceGT, Int.reduceGE, beq_true, beq_false, UInt8.reduceToNat, eqE, eq_self, foldE, maxE, minE, eq_T, eq_F, ndec, odec, adec, sdec, fillA, over, chop, List.replicate, leavesOk, leafOk, cellsEq, cellEq, E_ext, E_byref, en25, bs22, hrow, rowsI_len, h1, show ∀ B fr H, execT E B 25 (Code.loop _) fr H = rlG E B 25 (loopAt Tryd.f25 0) (gcn B (norm [0, 3] fr) H) from fun B fr H => rl_intro rfl mt25_4 mb25_4 zf25_4 hd25_4 fr H]
      exact ⟨_, _, _, rfl, .inr ⟨by decide, rfl, rfl⟩⟩
    · by_cases h2 : 20 < op
      · rw [if_pos (.inr (by omega))] at hchk
        subst hchk
        rw [if_neg (by decide)]
        clear e hh
        simp (disch := first | omega | (simp only [List.length_append, List.length_map, List.length_set, List.length_cons, List.length_nil, List.length_take, List.length_drop, rowsI_len]; omega)) only [va0, va1, va2, va3, va4, va5, va6, va7, va8, va9, va10, va11, va12, va13, va14, va15, vb0, vb1, vb2, vb3, w_i8, w_u8, w_i16, w_u16, w_i32, w_u32, w_i64, w_u64, lt_T, lt_F, le_T, le_F, nlt_T, nlt_F, nle_T, nle_F, List.take_of_length_le, gB, gcW, gcR, posIn, renA, renL, Chunk.ren, Chunk.refs, evOpD, touchD, stepC, isFresh, nFresh, freshOf, mkR, hole, evL, evH, opd, get, putD, ofVal, cellOf, loadE, behind, lenE, idxAddrE, idxE, addPtr, intE, strE, unE, convE, AV.int, AV.bool, AV.str, ivs, take, frameOf, firstRegion, refsA, refsL, one, cellsA, floatOk, apartT, List.map, if_true, if_false, E_P, E_glob0, E_glob1, reduceCtorEq, beq_self_eq_true, decide_true, decide_false, ↓reduceIte, Nat.reduceEqDiff, cond_true, cond_false, or_true, true_or, or_false, false_or, and_true, true_and, and_self, false_and, and_false, not_true, not_false_iff, Nat.reduceAdd, Nat.reduceSub, Nat.reduceMul, Nat.reduceLT, Nat.reduceLeDiff, Int.reduceToNat, Int.reduceLT, Int.reduceLE, Option.getD, Int.reduceMul, Int.reduceAdd, List.drop, List.take, Nat.reduceBEq, List.isEmpty, Int.reduceEq, Int.reduceNe, Int.reduceNeg, Int.reduceGT, Int.reduceGE, beq_true, beq_false, UInt8.reduceToNat, eqE, eq_self, foldE, maxE, minE, eq_T, eq_F, ndec, odec, adec, sdec, fillA, over, chop, List.replicate, leavesOk, leafOk, cellsEq, cellEq, E_ext, E_byref, en25, bs22, hrow, rowsI_len, h1, h2, show ∀ B fr H, execT E B 25 (Code.loop _) fr H = rlG E B 25 (loopAt Tryd.f25 0) (gcn B (norm [0, 3] fr) H) from fun B fr H => rl_intro rfl mt25_4 mb25_4 zf25_4 hd25_4 fr H]
        exact ⟨_, _, _, rfl, .inr ⟨by decide, rfl, rfl⟩⟩
      · rw [if_neg (by omega)] at hchk
        have key : ∀ lo hi, boundsS op k l.length = (lo, hi) → (op = 1 ∧ lo = -999999999 ∧ hi = 999999999 ∨ op = 17 ∧ lo = k + 1 ∧ hi = l.length ∨ op = 18 ∧ lo = k + 1 ∧ hi = l.length ∨ ¬ op = 1 ∧ ¬ op = 17 ∧ ¬ op = 18 ∧ lo = 0 ∧ hi = 0) := by
          intro lo hi hq
          unfold boundsS at hq
          split at hq
          · simp only [Prod.mk.injEq] at hq; omega
          · split at hq
            · simp only [Prod.mk.injEq] at hq; omega
            · simp only [Prod.mk.injEq] at hq; omega
        obtain ⟨lo, hi, hq⟩ : ∃ lo hi, boundsS op k l.length = (lo, hi) := ⟨_, _, rfl⟩
        have key := key lo hi hq
        rw [hq] at hchk
        simp only at hchk
        clear hq
        by_cases h3 : arg < lo
        · rw [if_pos (.inl h3)] at hchk
          subst hchk
          rw [if_neg (by decide)]
          clear e hh
          rcases key with ⟨rfl, rfl, rfl⟩ | ⟨rfl, rfl, rfl⟩ | ⟨rfl, rfl, rfl⟩ | ⟨g1, g2, g3, rfl, rfl⟩
          · simp only [Int.reduceEq, decide_false, Bool.or_false] at hj; simp (disch := first | omega | (simp only [List.length_append, List.length_map, List.length_set, List.length_cons, List.length_nil, List.length_take, List.length_drop, rowsI_len]; omega)) only [va0, va1, va2, va3, va4, va5, va6, va7, va8, va9, va10, va11, va12, va13, va14, va15, vb0, vb1, vb2, vb3, w_i8, w_u8, w_i16, w_u16, w_i32, w_u32, w_i64, w_u64, lt_T, lt_F, le_T, le_F, nlt_T, nlt_F, nle_T, nle_F, List.take_of_length_le, gB, gcW, gcR, posIn, renA, renL, Chunk.ren, Chunk.refs, evOpD, touchD, stepC, isFresh, nFresh, freshOf, mkR, hole, evL, evH, opd, get, putD, ofVal, cellOf, loadE, behind, lenE, idxAddrE, idxE, addPtr, intE, strE, unE, convE, AV.int, AV.bool, AV.str, ivs, take, frameOf, firstRegion, refsA, refsL, one, cellsA, floatOk, apartT, List.map, if_true, if_false, E_P, E_glob0, E_glob1, reduceCtorEq, beq_self_eq_true, decide_true, decide_false, ↓reduceIte, Nat.reduceEqDiff, cond_true, cond_false, or_true, true_or, or_false, false_or, and_true, true_and, and_self, false_and, and_false, not_true, not_false_iff, Nat.reduceAdd, Nat.reduceSub, Nat.reduceMul, Nat.reduceLT, Nat.reduceLeDiff, Int.reduceToNat, Int.reduceLT, Int.reduceLE, Option.getD, Int.reduceMul, Int.reduceAdd, List.drop, List.take, Nat.reduceBEq, List.isEmpty, Int.reduceEq, Int.reduceNe, Int.reduceNeg, Int.reduceGT, Int.reduceGE, beq_true, beq_false, UInt8.reduceToNat, eqE, eq_self, foldE, maxE, minE, eq_T, eq_F, ndec, odec, adec, sdec, fillA, over, chop, List.replicate, leavesOk, leafOk, cellsEq, cellEq, E_ext, E_byref, en25, bs22, hrow, rowsI_len, h1, h2, h3, hj, show ∀ B fr H, execT E B 25 (Code.loop _) fr H = rlG E B 25 (loopAt Tryd.f25 0) (gcn B (norm [0, 3] fr) H) from fun B fr H => rl_intro rfl mt25_4 mb25_4 zf25_4 hd25_4 fr H]; exact ⟨_, _, _, rfl, .inr ⟨by decide, rfl, rfl⟩⟩
          · simp only [Int.reduceEq, decide_true, decide_false, Bool.or_false] at hj; simp (disch := first | omega | (simp only [List.length_append, List.length_map, List.length_set, List.length_cons, List.length_nil, List.length_take, List.length_drop, rowsI_len]; omega)) only [va0, va1, va2, va3, va4, va5, va6, va7, va8, va9, va10, va11, va12, va13, va14, va15, vb0, vb1, vb2, vb3, w_i8, w_u8, w_i16, w_u16, w_i32, w_u32, w_i64, w_u64, lt_T, lt_F, le_T, le_F, nlt_T, nlt_F, nle_T, nle_F, List.take_of_length_le, gB, gcW, gcR, posIn, renA, renL, Chunk.ren, Chunk.refs, evOpD, touchD, stepC, isFresh, nFresh, freshOf, mkR, hole, evL, evH, opd, get, putD, ofVal, cellOf, loadE, behind, lenE, idxAddrE, idxE, addPtr, intE, strE, unE, convE, AV.int, AV.bool, AV.str, ivs, take, frameOf, firstRegion, refsA, refsL, one, cellsA, floatOk, apartT, List.map, if_true, if_false, E_P, E_glob0, E_glob1, reduceCtorEq, beq_self_eq_true, decide_true, decide_false, ↓reduceIte, Nat.reduceEqDiff, cond_true, cond_false, or_true, true_or, or_false, false_or, and_true, true_and, and_self, false_and, and_false, not_true, not_false_iff, Nat.reduceAdd, Nat.reduceSub, Nat.reduceMul, Nat.reduceLT, Nat.reduceLeDiff, Int.reduceToNat, Int.reduceLT, Int.reduceLE, Option.getD, Int.reduceMul, Int.reduceAdd, List.drop, List.take, Nat.reduceBEq, List.isEmpty, Int.reduceEq, Int.reduceNe, Int.reduceNeg, Int.reduceGT, Int.reduceGE, beq_true, beq_false, UInt8.reduceToNat, eqE, eq_self, foldE, maxE, minE, eq_T, eq_F, ndec, odec, adec, sdec, fillA, over, chop, List.replicate, leavesOk, leafOk, cellsEq, cellEq, E_ext, E_byref, en25, bs22, hrow, rowsI_len, h1, h2, h3, hj, show ∀ B fr H, execT E B 25 (Code.loop _) fr H = rlG E B 25 (loopAt Tryd.f25 0) (gcn B (norm [0, 3] fr) H) from fun B fr H => rl_intro rfl mt25_4 mb25_4 zf25_4 hd25_4 fr H]; exact ⟨_, _, _, rfl, .inr ⟨by decide, rfl, rfl⟩⟩
          · simp only [Int.reduceEq, decide_true, decide_false, Bool.false_or] at hj; simp (disch := first | omega | (simp only [List.length_append, List.length_map, List.length_set, List.length_cons, List.length_nil, List.length_take, List.length_drop, rowsI_len]; omega)) only [va0, va1, va2, va3, va4, va5, va6, va7, va8, va9, va10, va11, va12, va13, va14, va15, vb0, vb1, vb2, vb3, w_i8, w_u8, w_i16, w_u16, w_i32, w_u32, w_i64, w_u64, lt_T, lt_F, le_T, le_F, nlt_T, nlt_F, nle_T, nle_F, List.take_of_length_le, gB, gcW, gcR, posIn, renA, renL, Chunk.ren, Chunk.refs, evOpD, touchD, stepC, isFresh, nFresh, freshOf, mkR, hole, evL, evH, opd, get, putD, ofVal, cellOf, loadE, behind, lenE, idxAddrE, idxE, addPtr, intE, strE, unE, convE, AV.int, AV.bool, AV.str, ivs, take, frameOf, firstRegion, refsA, refsL, one, cellsA, floatOk, apartT, List.map, if_true, if_false, E_P, E_glob0, E_glob1, reduceCtorEq, beq_self_eq_true, decide_true, decide_false, ↓reduceIte, Nat.reduceEqDiff, cond_true, cond_false, or_true, true_or, or_false, false_or, and_true, true_and, and_self, false_and, and_false, not_true, not_false_iff, Nat.reduceAdd, Nat.reduceSub, Nat.reduceMul, Nat.reduceLT, Nat.reduceLeDiff, Int.reduceToNat, Int.reduceLT, Int.reduceLE, Option.getD, Int.reduceMul, Int.reduceAdd, List.drop, List.take, Nat.reduceBEq, List.isEmpty, Int.reduceEq, Int.reduceNe, Int.reduceNeg, Int.reduceGT, Int.reduceGE, beq_true, beq_false, UInt8.reduceToNat, eqE, eq_self, foldE, maxE, minE, eq_T, eq_F, ndec, odec, adec, sdec, fillA, over, chop, List.replicate, leavesOk, leafOk, cellsEq, cellEq, E_ext, E_byref, en25, bs22, hrow, rowsI_len, h1, h2, h3, hj, show ∀ B fr H, execT E B 25 (Code.loop _) fr H = rlG E B 25 (loopAt Tryd.f25 0) (gcn B (norm [0, 3] fr) H) from fun B fr H => rl_intro rfl mt25_4 mb25_4 zf25_4 hd25_4 fr H]; exact ⟨_, _, _, rfl, .inr ⟨by decide, rfl, rfl⟩⟩
          · simp only [g2, g3, decide_false, Bool.or_false] at hj; simp (disch := first | omega | (simp only [List.length_append, List.length_map, List.length_set, List.length_cons, List.length_nil, List.length_take, List.length_drop, rowsI_len]; omega)) only [va0, va1, va2, va3, va4, va5, va6, va7, va8, va9, va10, va11, va12, va13, va14, va15, vb0, vb1, vb2, vb3, w_i8, w_u8, w_i16, w_u16, w_i32, w_u32, w_i64, w_u64, lt_T, lt_F, le_T, le_F, nlt_T, nlt_F, nle_T, nle_F, List.take_of_length_le, gB, gcW, gcR, posIn, renA, renL, Chunk.ren, Chunk.refs, evOpD, touchD, stepC, isFresh, nFresh, freshOf, mkR, hole, evL, evH, opd, get, putD, ofVal, cellOf, loadE, behind, lenE, idxAddrE, idxE, addPtr, intE, strE, unE, convE, AV.int, AV.bool, AV.str, ivs, take, frameOf, firstRegion, refsA, refsL, one, cellsA, floatOk, apartT, List.map, if_true, if_false, E_P, E_glob0, E_glob1, reduceCtorEq, beq_self_eq_true, decide_true, decide_false, ↓reduceIte, Nat.reduceEqDiff, cond_true, cond_false, or_true, true_or, or_false, false_or, and_true, true_and, and_self, false_and, and_false, not_true, not_false_iff, Nat.reduceAdd, Nat.reduceSub, Nat.reduceMul, Nat.reduceLT, Nat.reduceLeDiff, Int.reduceToNat, Int.reduceLT, Int.reduceLE, Option.getD, Int.reduceMul, Int.reduceAdd, List.drop, List.take, Nat.reduceBEq, List.isEmpty, Int.reduceEq, Int.reduceNe, Int.reduceNeg, Int.reduceGT, Int.reduceGE, beq_true, beq_false, UInt8.reduceToNat, eqE, eq_self, foldE, maxE, minE, eq_T, eq_F, ndec, odec, adec, sdec, fillA, over, chop, List.replicate, leavesOk, leafOk, cellsEq, cellEq, E_ext, E_byref, en25, bs22, hrow, rowsI_len, h1, h2, h3, hj, g1, show ∀ B fr H, execT E B 25 (Code.loop _) fr H = rlG E B 25 (loopAt Tryd.f25 0) (gcn B (norm [0, 3] fr) H) from fun B fr H => rl_intro rfl mt25_4 mb25_4 zf25_4 hd25_4 fr H]; exact ⟨_, _, _, rfl, .inr ⟨by decide, rfl, rfl⟩⟩
        · by_cases h4 : hi < arg
          · rw [if_pos (.inr h4)] at hchk
            subst hchk
            rw [if_neg (by decide)]
            clear e hh
            rcases key with ⟨rfl, rfl, rfl⟩ | ⟨rfl, rfl, rfl⟩ | ⟨rfl, rfl, rfl⟩ | ⟨g1, g2, g3, rfl, rfl⟩
            · simp only [Int.reduceEq, decide_false, Bool.or_false] at hj; simp (disch := first | omega | (simp only [List.length_append, List.length_map, List.length_set, List.length_cons, List.length_nil, List.length_take, List.length_drop, rowsI_len]; omega)) only [va0, va1, va2, va3, va4, va5, va6, va7, va8, va9, va10, va11, va12, va13, va14, va15, vb0, vb1, vb2, vb3, w_i8, w_u8, w_i16, w_u16, w_i32, w_u32, w_i64, w_u64, lt_T, lt_F, le_T, le_F, nlt_T, nlt_F, nle_T, nle_F, List.take_of_length_le, gB, gcW, gcR, posIn, renA, renL, Chunk.ren, Chunk.refs, evOpD, touchD, stepC, isFresh, nFresh, freshOf, mkR, hole, evL, evH, opd, get, putD, ofVal, cellOf, loadE, behind, lenE, idxAddrE, idxE, addPtr, intE, strE, unE, convE, AV.int, AV.bool, AV.str, ivs, take, frameOf, firstRegion, refsA, refsL, one, cellsA, floatOk, apartT, List.map, if_true, if_false, E_P, E_glob0, E_glob1, reduceCtorEq, beq_self_eq_true, decide_true, decide_false, ↓reduceIte, Nat.reduceEqDiff, cond_true, cond_false, or_true, true_or, or_false, false_or, and_true, true_and, and_self, false_and, and_false, not_true, not_false_iff, Nat.reduceAdd, Nat.reduceSub, Nat.reduceMul, Nat.reduceLT, Nat.reduceLeDiff, Int.reduceToNat, Int.reduceLT, Int.reduceLE, Option.getD, Int.reduceMul, Int.reduceAdd, List.drop, List.take, Nat.reduceBEq, List.isEmpty, Int.reduceEq, Int.reduceNe, Int.reduceNeg, Int.reduceGT, Int.reduceGE, beq_true, beq_false, UInt8.reduceToNat, eqE, eq_self, foldE, maxE, minE, eq_T, eq_F, ndec, odec, adec, sdec, fillA, over, chop, List.replicate, leavesOk, leafOk, cellsEq, cellEq, E_ext, E_byref, en25, bs22, hrow, rowsI_len, h1, h2, h3, h4, hj, show ∀ B fr H, execT E B 25 (Code.loop _) fr H = rlG E B 25 (loopAt Tryd.f25 0) (gcn B (norm [0, 3] fr) H) from fun B fr H => rl_intro rfl mt25_4 mb25_4 zf25_4 hd25_4 fr H]; exact ⟨_, _, _, rfl, .inr ⟨by decide, rfl, rfl⟩⟩
            · simp only [Int.reduceEq, decide_true, decide_false, Bool.or_false] at hj; simp (disch := first | omega | (simp only [List.length_append, List.length_map, List.length_set, List.length_cons, List.length_nil, List.length_take, List.length_drop, rowsI_len]; omega)) only [va0, va1, va2, va3, va4, va5, va6, va7, va8, va9, va10, va11, va12, va13, va14, va15, vb0, vb1, vb2, vb3, w_i8, w_u8, w_i16, w_u16, w_i32, w_u32, w_i64, w_u64, lt_T, lt_F, le_T, le_F, nlt_T, nlt_F, nle_T, nle_F, List.take_of_length_le, gB, gcW, gcR, posIn, renA, renL, Chunk.ren, Chunk.refs, evOpD, touchD, stepC, isFresh, nFresh, freshOf, mkR, hole, evL, evH, opd, get, putD, ofVal, cellOf, loadE, behind, lenE, idxAddrE, idxE, addPtr, intE, strE, unE, convE, AV.int, AV.bool, AV.str, ivs, take, frameOf, firstRegion, refsA, refsL, one, cellsA, floatOk, apartT, List.map, if_true, if_false, E_P, E_glob0, E_glob1, reduceCtorEq, beq_self_eq_true, decide_true, decide_false, ↓reduceIte, Nat.reduceEqDiff, cond_true, cond_false, or_true, true_or, or_false, false_or, and_true, true_and, and_self, false_and, and_false, not_true, not_false_iff, Nat.reduceAdd, Nat.reduceSub, Nat.reduceMul, Nat.reduceLT, Nat.reduceLeDiff, Int.reduceToNat, Int.reduceLT, Int.reduceLE, Option.getD, Int.reduceMul, Int.reduceAdd, List.drop, List.take, Nat.reduceBEq, List.isEmpty, Int.reduceEq, Int.reduceNe, Int.reduceNeg, Int.reduceGT, Int.reduceGE, beq_true, beq_false, UInt8.reduceToNat, eqE, eq_self, foldE, maxE, minE, eq_T, eq_F, ndec, odec, adec, sdec, fillA, over, chop, List.replicate, leavesOk, leafOk, cellsEq, cellEq, E_ext, E_byref, en25, bs22, hrow, rowsI_len, h1, h2, h3, h4, hj, show ∀ B fr H, execT E B 25 (Code.loop _) fr H = rlG E B 25 (loopAt Tryd.f25 0) (gcn B (norm [0, 3] fr) H) from fun B fr H => rl_intro rfl mt25_4 mb25_4 zf25_4 hd25_4 fr H]; exact ⟨_, _, _, rfl, .inr ⟨by decide, rfl, rfl⟩⟩
            · simp only [Int.reduceEq, decide_true, decide_false, Bool.false_or] at hj; simp (disch := first | omega | (simp only [List.length_append, List.length_map, List.length_set, List.length_cons, List.length_nil, List.length_take, List.length_drop, rowsI_len]; omega)) only [va0, va1, va2, va3, va4, va5, va6, va7, va8, va9, va10, va11, va12, va13, va14, va15, vb0, vb1, vb2, vb3, w_i8, w_u8, w_i16, w_u16, w_i32, w_u32, w_i64, w_u64, lt_T, lt_F, le_T, le_F, nlt_T, nlt_F, nle_T, nle_F, List.take_of_length_le, gB, gcW, gcR, posIn, renA, renL, Chunk.ren, Chunk.refs, evOpD, touchD, stepC, isFresh, nFresh, freshOf, mkR, hole, evL, evH, opd, get, putD, ofVal, cellOf, loadE, behind, lenE, idxAddrE, idxE, addPtr, intE, strE, unE, convE, AV.int, AV.bool, AV.str, ivs, take, frameOf, firstRegion, refsA, refsL, one, cellsA, floatOk, apartT, List.map, if_true, if_false, E_P, E_glob0, E_glob1, reduceCtorEq, beq_self_eq_true, decide_true, decide_false, ↓reduceIte, Nat.reduceEqDiff, cond_true, cond_false, or_true, true_or, or_false, false_or, and_true, true_and, and_self, false_and, and_false, not_true, not_false_iff, Nat.reduceAdd, Nat.reduceSub, Nat.reduceMul, Nat.reduceLT, Nat.reduceLeDiff, Int.reduceToNat, Int.reduceLT, Int.reduceLE, Option.getD, Int.reduceMul, Int.reduceAdd, List.drop, List.take, Nat.reduceBEq, List.isEmpty, Int.reduceEq, Int.reduceNe, Int.reduceNeg, Int.reduceGT, Int.reduceGE, beq_true, beq_false, UInt8.reduceToNat, eqE, eq_self, foldE, maxE, minE, eq_T, eq_F, ndec, odec, adec, sdec, fillA, over, chop, List.replicate, leavesOk, leafOk, cellsEq, cellEq, E_ext, E_byref, en25, bs22, hrow, rowsI_len, h1, h2, h3, h4, hj, show ∀ B fr H, execT E B 25 (Code.loop _) fr H = rlG E B 25 (loopAt Tryd.f25 0) (gcn B (norm [0, 3] fr) H) from fun B fr H => rl_intro rfl mt25_4 mb25_4 zf25_4 hd25_4 fr H]; exact ⟨_, _, _, rfl, .inr ⟨by decide, rfl, rfl⟩⟩
            · simp only [g2, g3, decide_false, Bool.or_false] at hj; simp (disch := first | omega | (simp only [List.length_append, List.length_map, List.length_set, List.length_cons, List.length_nil, List.length_take, List.length_drop, rowsI_len]; omega)) only [va0, va1, va2, va3, va4, va5, va6, va7, va8, va9, va10, va11, va12, va13, va14, va15, vb0, vb1, vb2, vb3, w_i8, w_u8, w_i16, w_u16, w_i32, w_u32, w_i64, w_u64, lt_T, lt_F, le_T, le_F, nlt_T, nlt_F, nle_T, nle_F, List.take_of_length_le, gB, gcW, gcR, posIn, renA, renL, Chunk.ren, Chunk.refs, evOpD, touchD, stepC, isFresh, nFresh, freshOf, mkR, hole, evL, evH, opd, get, putD, ofVal, cellOf, loadE, behind, lenE, idxAddrE, idxE, addPtr, intE, strE, unE, convE, AV.int, AV.bool, AV.str, ivs, take, frameOf, firstRegion, refsA, refsL, one, cellsA, floatOk, apartT, List.map, if_true, if_false, E_P, E_glob0, E_glob1, reduceCtorEq, beq_self_eq_true, decide_true, decide_false, ↓reduceIte, Nat.reduceEqDiff, cond_true, cond_false, or_true, true_or, or_false, false_or, and_true, true_and, and_self, false_and, and_false, not_true, not_false_iff, Nat.reduceAdd, Nat.reduceSub, Nat.reduceMul, Nat.reduceLT, Nat.reduceLeDiff, Int.reduceToNat, Int.reduceLT, Int.reduceLE, Option.getD, Int.reduceMul, Int.reduceAdd, List.drop, List.take, Nat.reduceBEq, List.isEmpty, Int.reduceEq, Int.reduceNe, Int.reduceNeg, Int.reduceGT, Int.reduceGE, beq_true, beq_false, UInt8.reduceToNat, eqE, eq_self, foldE, maxE, minE, eq_T, eq_F, ndec, odec, adec, sdec, fillA, over, chop, List.replicate, leavesOk, leafOk, cellsEq, cellEq, E_ext, E_byref, en25, bs22, hrow, rowsI_len, h1, h2, h3, h4, hj, g1, show ∀ B fr H, execT E B 25 (Code.loop _) fr H = rlG E B 25 (loopAt Tryd.f25 0) (gcn B (norm [0, 3] fr) H) from fun B fr H => rl_intro rfl mt25_4 mb25_4 zf25_4 hd25_4 fr H]; exact ⟨_, _, _, rfl, .inr ⟨by decide, rfl, rfl⟩⟩
          · rw [if_neg (by omega)] at hchk
            subst hchk
            rw [if_pos rfl]
            refine ⟨fr, ex, H', Eq.trans ?_ e, hh⟩
            clear e hh
            rcases key with ⟨rfl, rfl, rfl⟩ | ⟨rfl, rfl, rfl⟩ | ⟨rfl, rfl, rfl⟩ | ⟨g1, g2, g3, rfl, rfl⟩
            · simp only [Int.reduceEq, decide_false, Bool.or_false] at hj; simp (disch := first | omega | (simp only [List.length_append, List.length_map, List.length_set, List.length_cons, List.length_nil, List.length_take, List.length_drop, rowsI_len]; omega)) only [va0, va1, va2, va3, va4, va5, va6, va7, va8, va9, va10, va11, va12, va13, va14, va15, vb0, vb1, vb2, vb3, w_i8, w_u8, w_i16, w_u16, w_i32, w_u32, w_i64, w_u64, lt_T, lt_F, le_T, le_F, nlt_T, nlt_F, nle_T, nle_F, List.take_of_length_le, gB, gcW, gcR, posIn, renA, renL, Chunk.ren, Chunk.refs, evOpD, touchD, stepC, isFresh, nFresh, freshOf, mkR, hole, evL, evH, opd, get, putD, ofVal, cellOf, loadE, behind, lenE, idxAddrE, idxE, addPtr, intE, strE, unE, convE, AV.int, AV.bool, AV.str, ivs, take, frameOf, firstRegion, refsA, refsL, one, cellsA, floatOk, apartT, List.map, if_true, if_false, E_P, E_glob0, E_glob1, reduceCtorEq, beq_self_eq_true, decide_true, decide_false, ↓reduceIte, Nat.reduceEqDiff, cond_true, cond_false, or_true, true_or, or_false, false_or, and_true, true_and, and_self, false_and, and_false, not_true, not_false_iff, Nat.reduceAdd, Nat.reduceSub, Nat.reduceMul, Nat.reduceLT, Nat.reduceLeDiff, Int.reduceToNat, Int.reduceLT, Int.reduceLE, Option.getD, Int.reduceMul, Int.reduceAdd, List.drop, List.take, Nat.reduceBEq, List.isEmpty, Int.reduceEq, Int.reduceNe, Int.reduceNeg, Int.reduceGT, Int.reduceGE, beq_true, beq_false, UInt8.reduceToNat, eqE, eq_self, foldE, maxE, minE, eq_T, eq_F, ndec, odec, adec, sdec, fillA, over, chop, List.replicate, leavesOk, leafOk, cellsEq, cellEq, E_ext, E_byref, en25, bs22, hrow, rowsI_len, h1, h2, h3, h4, hj, show ∀ B fr H, execT E B 25 (Code.loop _) fr H = rlG E B 25 (loopAt Tryd.f25 0) (gcn B (norm [0, 3] fr) H) from fun B fr H => rl_intro rfl mt25_4 mb25_4 zf25_4 hd25_4 fr H]
            · simp only [Int.reduceEq, decide_true, decide_false, Bool.or_false] at hj; simp (disch := first | omega | (simp only [List.length_append, List.length_map, List.length_set, List.length_cons, List.length_nil, List.length_take, List.length_drop, rowsI_len]; omega)) only [va0, va1, va2, va3, va4, va5, va6, va7, va8, va9, va10, va11, va12, va13, va14, va15, vb0, vb1, vb2, vb3, w_i8, w_u8, w_i16, w_u16, w_i32, w_u32, w_i64, w_u64, lt_T, lt_F, le_T, le_F, nlt_T, nlt_F, nle_T, nle_F, List.take_of_length_le, gB, gcW, gcR, posIn, renA, renL, Chunk.ren, Chunk.refs, evOpD, touchD, stepC, isFresh, nFresh, freshOf, mkR, hole, evL, evH, opd, get, putD, ofVal, cellOf, loadE, behind, lenE, idxAddrE, idxE, addPtr, intE, strE, unE, convE, AV.int, AV.bool, AV.str, ivs, take, frameOf, firstRegion, refsA, refsL, one, cellsA, floatOk, apartT, List.map, if_true, if_false, E_P, E_glob0, E_glob1, reduceCtorEq, beq_self_eq_true, decide_true, decide_false, ↓reduceIte, Nat.reduceEqDiff, cond_true, cond_false, or_true, true_or, or_false, false_or, and_true, true_and, and_self, false_and, and_false, not_true, not_false_iff, Nat.reduceAdd, Nat.reduceSub, Nat.reduceMul, Nat.reduceLT, Nat.reduceLeDiff, Int.reduceToNat, Int.reduceLT, Int.reduceLE, Option.getD, Int.reduceMul, Int.reduceAdd, List.drop, List.take, Nat.reduceBEq, List.isEmpty, Int.reduceEq, Int.reduceNe, Int.reduceNeg, Int.reduceGT, Int.reduceGE, beq_true, beq_false, UInt8.reduceToNat, eqE, eq_self, foldE, maxE, minE, eq_T, eq_F, ndec, odec, adec, sdec, fillA, over, chop, List.replicate, leavesOk, leafOk, cellsEq, cellEq, E_ext, E_byref, en25, bs22, hrow, rowsI_len, h1, h2, h3, h4, hj, show ∀ B fr H, execT E B 25 (Code.loop _) fr H = rlG E B 25 (loopAt Tryd.f25 0) (gcn B (norm [0, 3] fr) H) from fun B fr H => rl_intro rfl mt25_4 mb25_4 zf25_4 hd25_4 fr H]
            · simp only [Int.reduceEq, decide_true, decide_false, Bool.false_or] at hj; simp (disch := first | omega | (simp only [List.length_append, List.length_map, List.length_set, List.length_cons, List.length_nil, List.length_take, List.length_drop, rowsI_len]; omega)) only [va0, va1, va2, va3, va4, va5, va6, va7, va8, va9, va10, va11, va12, va13, va14, va15, vb0, vb1, vb2, vb3, w_i8, w_u8, w_i16, w_u16, w_i32, w_u32, w_i64, w_u64, lt_T, lt_F, le_T, le_F, nlt_T, nlt_F, nle_T, nle_F, List.take_of_length_le, gB, gcW, gcR, posIn, renA, renL, Chunk.ren, Chunk.refs, evOpD, touchD, stepC, isFresh, nFresh, freshOf, mkR, hole, evL, evH, opd, get, putD, ofVal, cellOf, loadE, behind, lenE, idxAddrE, idxE, addPtr, intE, strE, unE, convE, AV.int, AV.bool, AV.str, ivs, take, frameOf, firstRegion, refsA, refsL, one, cellsA, floatOk, apartT, List.map, if_true, if_false, E_P, E_glob0, E_glob1, reduceCtorEq, beq_self_eq_true, decide_true, decide_false, ↓reduceIte, Nat.reduceEqDiff, cond_true, cond_false, or_true, true_or, or_false, false_or, and_true, true_and, and_self, false_and, and_false, not_true, not_false_iff, Nat.reduceAdd, Nat.reduceSub, Nat.reduceMul, Nat.reduceLT, Nat.reduceLeDiff, Int.reduceToNat, Int.reduceLT, Int.reduceLE, Option.getD, Int.reduceMul, Int.reduceAdd, List.drop, List.take, Nat.reduceBEq, List.isEmpty, Int.reduceEq, Int.reduceNe, Int.reduceNeg, Int.reduceGT, Int.reduceGE, beq_true, beq_false, UInt8.reduceToNat, eqE, eq_self, foldE, maxE, minE, eq_T, eq_F, ndec, odec, adec, sdec, fillA, over, chop, List.replicate, leavesOk, leafOk, cellsEq, cellEq, E_ext, E_byref, en25, bs22, hrow, rowsI_len, h1, h2, h3, h4, hj, show ∀ B fr H, execT E B 25 (Code.loop _) fr H = rlG E B 25 (loopAt Tryd.f25 0) (gcn B (norm [0, 3] fr) H) from fun B fr H => rl_intro rfl mt25_4 mb25_4 zf25_4 hd25_4 fr H]
            · simp only [g2, g3, decide_false, Bool.or_false] at hj; simp (disch := first | omega | (simp only [List.length_append, List.length_map, List.length_set, List.length_cons, List.length_nil, List.length_take, List.length_drop, rowsI_len]; omega)) only [va0, va1, va2, va3, va4, va5, va6, va7, va8, va9, va10, va11, va12, va13, va14, va15, vb0, vb1, vb2, vb3, w_i8, w_u8, w_i16, w_u16, w_i32, w_u32, w_i64, w_u64, lt_T, lt_F, le_T, le_F, nlt_T, nlt_F, nle_T, nle_F, List.take_of_length_le, gB, gcW, gcR, posIn, renA, renL, Chunk.ren, Chunk.refs, evOpD, touchD, stepC, isFresh, nFresh, freshOf, mkR, hole, evL, evH, opd, get, putD, ofVal, cellOf, loadE, behind, lenE, idxAddrE, idxE, addPtr, intE, strE, unE, convE, AV.int, AV.bool, AV.str, ivs, take, frameOf, firstRegion, refsA, refsL, one, cellsA, floatOk, apartT, List.map, if_true, if_false, E_P, E_glob0, E_glob1, reduceCtorEq, beq_self_eq_true, decide_true, decide_false, ↓reduceIte, Nat.reduceEqDiff, cond_true, cond_false, or_true, true_or, or_false, false_or, and_true, true_and, and_self, false_and, and_false, not_true, not_false_iff, Nat.reduceAdd, Nat.reduceSub, Nat.reduceMul, Nat.reduceLT, Nat.reduceLeDiff, Int.reduceToNat, Int.reduceLT, Int.reduceLE, Option.getD, Int.reduceMul, Int.reduceAdd, List.drop, List.take, Nat.reduceBEq, List.isEmpty, Int.reduceEq, Int.reduceNe, Int.reduceNeg, Int.reduceGT, Int.reduceGE, beq_true, beq_false, UInt8.reduceToNat, eqE, eq_self, foldE, maxE, minE, eq_T, eq_F, ndec, odec, adec, sdec, fillA, over, chop, List.replicate, leavesOk, leafOk, cellsEq, cellEq, E_ext, E_byref, en25, bs22, hrow, rowsI_len, h1, h2, h3, h4, hj, g1, show ∀ B fr H, execT E B 25 (Code.loop _) fr H = rlG E B 25 (loopAt Tryd.f25 0) (gcn B (norm [0, 3] fr) H) from fun B fr H => rl_intro rfl mt25_4 mb25_4 zf25_4 hd25_4 fr H]
  · obtain rfl : k = l.length := by omega
    rw [List.drop_length, chkL]
    simp (disch := first | omega | (simp only [List.length_append, List.length_map, List.length_set, List.length_cons, List.length_nil, List.length_take, List.length_drop, rowsI_len]; omega)) only [va0, va1, va2, va3, va4, va5, va6, va7, va8, va9, va10, va11, va12, va13, va14, va15, vb0, vb1, vb2, vb3, w_i8, w_u8, w_i16, w_u16, w_i32, w_u32, w_i64, w_u64, lt_T, lt_F, le_T, le_F, nlt_T, nlt_F, nle_T, nle_F, List.take_of_length_le, gB, gcW, gcR, posIn, renA, renL, Chunk.ren, Chunk.refs, evOpD, touchD, stepC, isFresh, nFresh, freshOf, mkR, hole, evL, evH, opd, get, putD, ofVal, cellOf, loadE, behind, lenE, idxAddrE, idxE, addPtr, intE, strE, unE, convE, AV.int, AV.bool, AV.str, ivs, take, frameOf, firstRegion, refsA, refsL, one, cellsA, floatOk, apartT, List.map, if_true, if_false, E_P, E_glob0, E_glob1, reduceCtorEq, beq_self_eq_true, decide_true, decide_false, ↓reduceIte, Nat.reduceEqDiff, cond_true, cond_false, or_true, true_or, or_false, false_or, and_true, true_and, and_self, false_and, and_false, not_true, not_false_iff, Nat.reduceAdd, Nat.reduceSub, Nat.reduceMul, Nat.reduceLT, Nat.reduceLeDiff, Int.reduceToNat, Int.reduceLT, Int.reduceLE, Option.getD, Int.reduceMul, Int.reduceAdd, List.drop, List.take, Nat.reduceBEq, List.isEmpty, Int.reduceEq, Int.reduceNe, Int.reduceNeg, Int.reduceGT, Int.reduceGE, beq_true, beq_false, UInt8.reduceToNat, eqE, eq_self, foldE, maxE, minE, eq_T, eq_F, ndec, odec, adec, sdec, fillA, over, chop, List.replicate, leavesOk, leafOk, cellsEq, cellEq, E_ext, E_byref, en25, bs22, rowsI_len, show ∀ B fr H, execT E B 25 (Code.loop _) fr H = rlG E B 25 (loopAt Tryd.f25 0) (gcn B (norm [0, 3] fr) H) from fun B fr H => rl_intro rfl mt25_4 mb25_4 zf25_4 hd25_4 fr H]
    exact ⟨_, _, _, rfl, .inl ⟨rfl, rfl⟩⟩
termination_by l.length - k
theorem c25 (l : List Ins) (hl : (l.length : Int) < 9223372036854775808) : ∃ L, callT E 25 [.i (.sl 2 (rowsI l) false)] [] = some (.i (.v (.int .i64 (checkI l))), L) := by
  unfold checkI
  by_cases h5 : 500 < (l.length : Int)
  · rw [if_pos h5]
    rw [callT_eq Tryd.func25 rfl fok25 (by simp [Tryd.ntmps25])]
    simp (disch := first | omega | (simp only [List.length_append, List.length_map, List.length_set, List.length_cons, List.length_nil, List.length_take, List.length_drop, rowsI_len]; omega)) only [va0, va1, va2, va3, va4, va5, va6, va7, va8, va9, va10, va11, va12, va13, va14, va15, vb0, vb1, vb2, vb3, w_i8, w_u8, w_i16, w_u16, w_i32, w_u32, w_i64, w_u64, lt_T, lt_F, le_T, le_F, nlt_T, nlt_F, nle_T, nle_F, List.take_of_length_le, gB, gcW, gcR, posIn, renA, renL, Chunk.ren, Chunk.refs, evOpD, touchD, stepC, isFresh, nFresh, freshOf, mkR, hole, evL, evH, opd, get, putD, ofVal, cellOf, loadE, behind, lenE, idxAddrE, idxE, addPtr, intE, strE, unE, convE, AV.int, AV.bool, AV.str, ivs, take, frameOf, firstRegion, refsA, refsL, one, cellsA, floatOk, apartT, List.map, if_true, if_false, E_P, E_glob0, E_glob1, reduceCtorEq, beq_self_eq_true, decide_true, decide_false, ↓reduceIte, Nat.reduceEqDiff, cond_true, cond_false, or_true, true_or, or_false, false_or, and_true, true_and, and_self, false_and, and_false, not_true, not_false_iff, Nat.reduceAdd, Nat.reduceSub, Nat.reduceMul, Nat.reduceLT, Nat.reduceLeDiff, Int.reduceToNat, Int.reduceLT, Int.reduceLE, Option.getD, Int.reduceMul, Int.reduceAdd, List.drop, List.take, Nat.reduceBEq, List.isEmpty, Int.reduceEq, Int.reduceNe, Int.reduceNeg, Int.reduceGT, Int.reduceGE, beq_true, beq_false, UInt8.reduceToNat, eqE, eq_self, foldE, maxE, minE, eq_T, eq_F, ndec, odec, adec, sdec, fillA, over, chop, List.replicate, leavesOk, leafOk, cellsEq, cellEq, E_ext, E_byref, en25, bs22, rowsI_len, h5]
    exact ⟨_, rfl⟩
  · rw [if_neg h5]
    obtain ⟨fr, ex, H', e, hh⟩ := l25 l (by omega) 0 (Nat.zero_le _)
    rw [List.drop_zero] at hh
    have e' : rl E 0 25 (loopAt Tryd.f25 0) [(0, .i (.sl 2 (rowsI l) false)), (3, .i (.v (.int .i64 0)))] [] = _ := e
    rcases hh with ⟨h1, rfl⟩ | ⟨h1, rfl, h2⟩
    · rw [h1]
      rw [callT_eq Tryd.func25 rfl fok25 (by simp [Tryd.ntmps25])]
      simp (disch := first | omega | (simp only [List.length_append, List.length_map, List.length_set, List.length_cons, List.length_nil, List.length_take, List.length_drop, rowsI_len]; omega)) only [va0, va1, va2, va3, va4, va5, va6, va7, va8, va9, va10, va11, va12, va13, va14, va15, vb0, vb1, vb2, vb3, w_i8, w_u8, w_i16, w_u16, w_i32, w_u32, w_i64, w_u64, lt_T, lt_F, le_T, le_F, nlt_T, nlt_F, nle_T, nle_F, List.take_of_length_le, gB, gcW, gcR, posIn, renA, renL, Chunk.ren, Chunk.refs, evOpD, touchD, stepC, isFresh, nFresh, freshOf, mkR, hole, evL, evH, opd, get, putD, ofVal, cellOf, loadE, behind, lenE, idxAddrE, idxE, addPtr, intE, strE, unE, convE, AV.int, AV.bool, AV.str, ivs, take, frameOf, firstRegion, refsA, refsL, one, cellsA, floatOk, apartT, List.map, if_true, if_false, E_P, E_glob0, E_glob1, reduceCtorEq, beq_self_eq_true, decide_true, decide_false, ↓reduceIte, Nat.reduceEqDiff, cond_true, cond_false, or_true, true_or, or_false, false_or, and_true, true_and, and_self, false_and, and_false, not_true, not_false_iff, Nat.reduceAdd, Nat.reduceSub, Nat.reduceMul, Nat.reduceLT, Nat.reduceLeDiff, Int.reduceToNat, Int.reduceLT, Int.reduceLE, Option.getD, Int.reduceMul, Int.reduceAdd, List.drop, List.take, Nat.reduceBEq, List.isEmpty, Int.reduceEq, Int.reduceNe, Int.reduceNeg, Int.reduceGT, Int.reduceGE, beq_true, beq_false, UInt8.reduceToNat, eqE, eq_self, foldE, maxE, minE, eq_T, eq_F, ndec, odec, adec, sdec, fillA, over, chop, List.replicate, leavesOk, leafOk, cellsEq, cellEq, E_ext, E_byref, en25, bs22, rowsI_len, h5, e', show ∀ B fr H, execT E B 25 (Code.loop _) fr H = rlG E B 25 (loopAt Tryd.f25 0) (gcn B (norm [0, 3] fr) H) from fun B fr H => rl_intro rfl mt25_4 mb25_4 zf25_4 hd25_4 fr H]
      exact ⟨_, rfl⟩
    · generalize chkL l.length 0 l = q at *
      rw [callT_eq Tryd.func25 rfl fok25 (by simp [Tryd.ntmps25])]
      simp (disch := first | omega | (simp only [List.length_append, List.length_map, List.length_set, List.length_cons, List.length_nil, List.length_take, List.length_drop, rowsI_len]; omega)) only [va0, va1, va2, va3, va4, va5, va6, va7, va8, va9, va10, va11, va12, va13, va14, va15, vb0, vb1, vb2, vb3, w_i8, w_u8, w_i16, w_u16, w_i32, w_u32, w_i64, w_u64, lt_T, lt_F, le_T, le_F, nlt_T, nlt_F, nle_T, nle_F, List.take_of_length_le, gB, gcW, gcR, posIn, renA, renL, Chunk.ren, Chunk.refs, evOpD, touchD, stepC, isFresh, nFresh, freshOf, mkR, hole, evL, evH, opd, get, putD, ofVal, cellOf, loadE, behind, lenE, idxAddrE, idxE, addPtr, intE, strE, unE, convE, AV.int, AV.bool, AV.str, ivs, take, frameOf, firstRegion, refsA, refsL, one, cellsA, floatOk, apartT, List.map, if_true, if_false, E_P, E_glob0, E_glob1, reduceCtorEq, beq_self_eq_true, decide_true, decide_false, ↓reduceIte, Nat.reduceEqDiff, cond_true, cond_false, or_true, true_or, or_false, false_or, and_true, true_and, and_self, false_and, and_false, not_true, not_false_iff, Nat.reduceAdd, Nat.reduceSub, Nat.reduceMul, Nat.reduceLT, Nat.reduceLeDiff, Int.reduceToNat, Int.reduceLT, Int.reduceLE, Option.getD, Int.reduceMul, Int.reduceAdd, List.drop, List.take, Nat.reduceBEq, List.isEmpty, Int.reduceEq, Int.reduceNe, Int.reduceNeg, Int.reduceGT, Int.reduceGE, beq_true, beq_false, UInt8.reduceToNat, eqE, eq_self, foldE, maxE, minE, eq_T, eq_F, ndec, odec, adec, sdec, fillA, over, chop, List.replicate, leavesOk, leafOk, cellsEq, cellEq, E_ext, E_byref, en25, bs22, rowsI_len, h5, e', h2, show ∀ B fr H, execT E B 25 (Code.loop _) fr H = rlG E B 25 (loopAt Tryd.f25 0) (gcn B (norm [0, 3] fr) H) from fun B fr H => rl_intro rfl mt25_4 mb25_4 zf25_4 hd25_4 fr H]
      exact ⟨_, rfl⟩
theorem ik25 (l : List Ins) (hl : (l.length : Int) < 9223372036854775808) (H : Hp) : isoK E (callT E) 25 [.i (.sl 2 (rowsI l) false)] H = some (.i (.v (.int .i64 (checkI l))), H) := isoK_val rfl rfl rfl (c25 l hl)
end Go.VI

namespace Go.VI
open Go.Proofs
set_option maxRecDepth 100000
set_option linter.unusedSimpArgs false
set_option linter.unusedVariables false
set_option maxHeartbeats 4000000
def rows64 (l : List Int) : List (List IV) := l.map fun n => [.v (.int .i64 n)]
theorem rows64_len (l : List Int) : (rows64 l).length = l.length := by simp [rows64]
theorem rows64_at {l : List Int} {k : Nat} (h : k < l.length) : (rows64 l)[k]? = some [.v (.int .i64 l[k])] := by simp [rows64, h]
theorem rows64_set (l : List Int) (k : Nat) (x : Int) : (rows64 l).set k [.v (.int .i64 x)] = rows64 (l.set k x) := by simp [rows64, List.map_set]
theorem rows64_rep (n : Nat) (x : Int) : List.replicate n [IV.v (.int .i64 x)] = rows64 (List.replicate n x) := by simp [rows64]
end Go.VI

namespace Go.VI
open Go.Proofs
set_option maxRecDepth 100000
set_option linter.unusedSimpArgs false
set_option linter.unusedVariables false
set_option maxHeartbeats 4000000
theorem rows64_get {l : List Int} {k : Nat} (h : k < l.length) : (rows64 l)[k]? = some [.v (.int .i64 (l.getD k 0))] := by
  rw [rows64_at h, List.getD_eq_getElem?_getD, List.getElem?_eq_getElem h]; rfl
end Go.VI

namespace Go.VI
open Go.Proofs
set_option maxRecDepth 100000
set_option linter.unusedSimpArgs false
set_option linter.unusedVariables false
set_option maxHeartbeats 4000000
theorem c24 (op arg i : Int) : callT E 24 [.agg [.i (.v (.int .i64 op)), .i (.v (.int .i64 arg))], .i (.v (.int .i64 i))] [] = some (.clo (.func 32) [] [.ptr 0 0 0 0, .ptr 1 0 0 0], [.box [.i (.v (.int .i64 op)), .i (.v (.int .i64 arg))], .box [.i (.v (.int .i64 i))]]) := by
  rw [callT_eq Tryd.func24 rfl fok24 (by simp [Tryd.ntmps24])]
  simp (disch := first | omega | (simp only [List.length_append, List.length_map, List.length_set, List.length_cons, List.length_nil, List.length_take, List.length_drop]; omega)) only [va0, va1, va2, va3, va4, va5, va6, va7, va8, va9, va10, va11, va12, va13, va14, va15, vb0, vb1, vb2, vb3, w_i8, w_u8, w_i16, w_u16, w_i32, w_u32, w_i64, w_u64, lt_T, lt_F, le_T, le_F, nlt_T, nlt_F, nle_T, nle_F, List.take_of_length_le, gB, gcW, gcR, posIn, renA, renL, Chunk.ren, Chunk.refs, evOpD, touchD, stepC, isFresh, nFresh, freshOf, mkR, hole, evL, evH, opd, get, putD, ofVal, cellOf, loadE, behind, lenE, idxAddrE, idxE, addPtr, intE, strE, unE, convE, AV.int, AV.bool, AV.str, ivs, take, frameOf, firstRegion, refsA, refsL, one, cellsA, floatOk, apartT, List.map, if_true, if_false, E_P, E_glob0, E_glob1, reduceCtorEq, beq_self_eq_true, decide_true, decide_false, ↓reduceIte, Nat.reduceEqDiff, cond_true, cond_false, or_true, true_or, or_false, false_or, and_true, true_and, and_self, false_and, and_false, not_true, not_false_iff, Nat.reduceAdd, Nat.reduceSub, Nat.reduceMul, Nat.reduceLT, Nat.reduceLeDiff, Int.reduceToNat, Int.reduceLT, Int.reduceLE, Option.getD, Int.reduceMul, Int.reduceAdd, List.drop, List.take, Nat.reduceBEq, List.isEmpty, Int.reduceEq, Int.reduceNe, Int.reduceNeg, Int.reduceGT, Int.reduceGE, beq_true, beq_false, UInt8.reduceToNat, eqE, eq_self, foldE, maxE, minE, eq_T, eq_F, ndec, odec, adec, sdec, fillA, over, chop, List.replicate, leavesOk, leafOk, cellsEq, cellEq, E_ext, E_byref, en24]
theorem ik24 (op arg i : Int) (H : Hp) : isoK E (callT E) 24 [.agg [.i (.v (.int .i64 op)), .i (.v (.int .i64 arg))], .i (.v (.int .i64 i))] H = some (.clo (.func 32) [] [.ptr H.length 0 0 0, .ptr (H.length + 1) 0 0 0], H ++ [.box [.i (.v (.int .i64 op)), .i (.v (.int .i64 arg))], .box [.i (.v (.int .i64 i))]]) := by
  have h := c24 op arg i
  unfold isoK
  simp [exCl, show E.ext 24 = none from rfl, refsL, refsA, reach, renL, renA, posIn, h, Chunk.refs, Chunk.ren, setAll, backRen]
  exact Nat.add_comm _ _
theorem sucL_in {n k : Nat} {op arg : Int} (hk : k < n) (h : chk1 n k (op, arg) = 0) : (0 ≤ op ∧ op ≤ 20) ∧ ∀ x ∈ sucL op arg k, (k : Int) < x ∧ x ≤ n := by
  unfold chk1 at h
  simp only at h
  split at h
  · cases h
  rename_i h1
  split at h
  · cases h
  rename_i h2
  refine ⟨by omega, fun x hx => ?_⟩
  unfold sucL at hx
  rw [List.mem_append] at hx
  rcases hx with hx | hx
  · split at hx
    · cases hx
    · rw [List.mem_singleton] at hx; omega
  · split at hx
    · rename_i hj
      rw [List.mem_singleton] at hx
      subst hx
      have h1 : ¬ op = 1 := by omega
      unfold boundsS at h2
      rw [if_neg h1, if_pos hj] at h2
      simp only at h2
      omega
    · cases hx
end Go.VI

namespace Go.VI
open Go.Proofs
set_option maxRecDepth 100000
set_option linter.unusedSimpArgs false
set_option linter.unusedVariables false
set_option maxHeartbeats 4000000
theorem chkL_ok {n : Int} : ∀ (l : List Ins) (k : Nat), chkL n k l = 0 → ∀ (j : Nat) (h : j < l.length), chk1 n ((k + j : Nat)) l[j] = 0
  | [], k, _, j, h => by simp at h
  | p :: r, k, hc, j, h => by
    simp only [chkL] at hc
    split at hc
    · rename_i h1
      cases j with
      | zero => simpa using h1
      | succ j =>
        have := chkL_ok r (k + 1) hc j (by simpa using h)
        simpa [Nat.add_assoc, Nat.add_comm 1 j] using this
    · rename_i h1
      exact absurd hc h1
theorem check_len {l : List Ins} (h : checkI l = 0) : l.length ≤ 500 := by
  unfold checkI at h
  split at h
  · cases h
  · omega
theorem check_ok {l : List Ins} (h : checkI l = 0) (j : Nat) (hj : j < l.length) : chk1 l.length j l[j] = 0 := by
  unfold checkI at h
  split at h
  · cases h
  · simpa using chkL_ok l 0 h j hj
end Go.VI

namespace Go.VI
open Go.Proofs
set_option maxRecDepth 100000
set_option linter.unusedSimpArgs false
set_option linter.unusedVariables false
set_option maxHeartbeats 4000000
theorem c26 (l : List Ins) (k : Nat) (hk : k < l.length) (hl : l.length < 100000) : ∃ L, callT E 26 [.i (.sl 2 (rowsI l) false), .i (.v (.int .i64 k))] [] = some (.i (.sl 1 (rows64 (sucL l[k].1 l[k].2 k)) false), L) := by
  have hrow := rowsI_at hk
  obtain ⟨op, arg, hp⟩ : ∃ op arg, l[k] = (op, arg) := ⟨_, _, rfl⟩
  rw [hp] at hrow ⊢
  simp only at hrow ⊢
  by_cases h0 : op = 0
  · subst h0
    rw [show rows64 (sucL 0 arg k) = [] by simp [sucL, rows64]]
    rw [callT_eq Tryd.func26 rfl fok26 (by simp [Tryd.ntmps26])]; simp (disch := first | omega | (simp only [List.length_append, List.length_map, List.length_set, List.length_cons, List.length_nil, List.length_take, List.length_drop, rowsI_len]; omega)) only [va0, va1, va2, va3, va4, va5, va6, va7, va8, va9, va10, va11, va12, va13, va14, va15, vb0, vb1, vb2, vb3, w_i8, w_u8, w_i16, w_u16, w_i32, w_u32, w_i64, w_u64, lt_T, lt_F, le_T, le_F, nlt_T, nlt_F, nle_T, nle_F, List.take_of_length_le, gB, gcW, gcR, posIn, renA, renL, Chunk.ren, Chunk.refs, evOpD, touchD, stepC, isFresh, nFresh, freshOf, mkR, hole, evL, evH, opd, get, putD, ofVal, cellOf, loadE, behind, lenE, idxAddrE, idxE, addPtr, intE, strE, unE, convE, AV.int, AV.bool, AV.str, ivs, take, frameOf, firstRegion, refsA, refsL, one, cellsA, floatOk, apartT, List.map, if_true, if_false, E_P, E_glob0, E_glob1, reduceCtorEq, beq_self_eq_true, decide_true, decide_false, ↓reduceIte, Nat.reduceEqDiff, cond_true, cond_false, or_true, true_or, or_false, false_or, and_true, true_and, and_self, false_and, and_false, not_true, not_false_iff, Nat.reduceAdd, Nat.reduceSub, Nat.reduceMul, Nat.reduceLT, Nat.reduceLeDiff, Int.reduceToNat, Int.reduceLT, Int.reduceLE, Option.getD, Int.reduceMul, Int.reduceAdd, List.drop, List.take, Nat.reduceBEq, List.isEmpty, Int.reduceEq, Int.reduceNe, Int.reduceNeg, Int.reduceGT, Int.reduceGE, beq_true, beq_false, UInt8.reduceToNat, eqE, eq_self, foldE, maxE, minE, eq_T, eq_F, ndec, odec, adec, sdec, fillA, over, chop, List.replicate, leavesOk, leafOk, cellsEq, cellEq, E_ext, E_byref, en26, bs22, bs24, hrow, rowsI_len, List.length_nil]; exact ⟨_, rfl⟩
  · by_cases h17 : op = 17
    · subst h17
      rw [show rows64 (sucL 17 arg k) = [[.v (.int .i64 arg)]] by simp [sucL, rows64]]
      rw [callT_eq Tryd.func26 rfl fok26 (by simp [Tryd.ntmps26])]; simp (disch := first | omega | (simp only [List.length_append, List.length_map, List.length_set, List.length_cons, List.length_nil, List.length_take, List.length_drop, rowsI_len]; omega)) only [va0, va1, va2, va3, va4, va5, va6, va7, va8, va9, va10, va11, va12, va13, va14, va15, vb0, vb1, vb2, vb3, w_i8, w_u8, w_i16, w_u16, w_i32, w_u32, w_i64, w_u64, lt_T, lt_F, le_T, le_F, nlt_T, nlt_F, nle_T, nle_F, List.take_of_length_le, gB, gcW, gcR, posIn, renA, renL, Chunk.ren, Chunk.refs, evOpD, touchD, stepC, isFresh, nFresh, freshOf, mkR, hole, evL, evH, opd, get, putD, ofVal, cellOf, loadE, behind, lenE, idxAddrE, idxE, addPtr, intE, strE, unE, convE, AV.int, AV.bool, AV.str, ivs, take, frameOf, firstRegion, refsA, refsL, one, cellsA, floatOk, apartT, List.map, if_true, if_false, E_P, E_glob0, E_glob1, reduceCtorEq, beq_self_eq_true, decide_true, decide_false, ↓reduceIte, Nat.reduceEqDiff, cond_true, cond_false, or_true, true_or, or_false, false_or, and_true, true_and, and_self, false_and, and_false, not_true, not_false_iff, Nat.reduceAdd, Nat.reduceSub, Nat.reduceMul, Nat.reduceLT, Nat.reduceLeDiff, Int.reduceToNat, Int.reduceLT, Int.reduceLE, Option.getD, Int.reduceMul, Int.reduceAdd, List.drop, List.take, Nat.reduceBEq, List.isEmpty, Int.reduceEq, Int.reduceNe, Int.reduceNeg, Int.reduceGT, Int.reduceGE, beq_true, beq_false, UInt8.reduceToNat, eqE, eq_self, foldE, maxE, minE, eq_T, eq_F, ndec, odec, adec, sdec, fillA, over, chop, List.replicate, leavesOk, leafOk, cellsEq, cellEq, E_ext, E_byref, en26, bs22, bs24, hrow, rowsI_len, List.length_nil]; exact ⟨_, rfl⟩
    · by_cases h18 : op = 18
      · subst h18
        rw [show rows64 (sucL 18 arg k) = [[.v (.int .i64 (k + 1))], [.v (.int .i64 arg)]] by simp [sucL, rows64]]
        rw [callT_eq Tryd.func26 rfl fok26 (by simp [Tryd.ntmps26])]; simp (disch := first | omega | (simp only [List.length_append, List.length_map, List.length_set, List.length_cons, List.length_nil, List.length_take, List.length_drop, rowsI_len]; omega)) only [va0, va1, va2, va3, va4, va5, va6, va7, va8, va9, va10, va11, va12, va13, va14, va15, vb0, vb1, vb2, vb3, w_i8, w_u8, w_i16, w_u16, w_i32, w_u32, w_i64, w_u64, lt_T, lt_F, le_T, le_F, nlt_T, nlt_F, nle_T, nle_F, List.take_of_length_le, gB, gcW, gcR, posIn, renA, renL, Chunk.ren, Chunk.refs, evOpD, touchD, stepC, isFresh, nFresh, freshOf, mkR, hole, evL, evH, opd, get, putD, ofVal, cellOf, loadE, behind, lenE, idxAddrE, idxE, addPtr, intE, strE, unE, convE, AV.int, AV.bool, AV.str, ivs, take, frameOf, firstRegion, refsA, refsL, one, cellsA, floatOk, apartT, List.map, if_true, if_false, E_P, E_glob0, E_glob1, reduceCtorEq, beq_self_eq_true, decide_true, decide_false, ↓reduceIte, Nat.reduceEqDiff, cond_true, cond_false, or_true, true_or, or_false, false_or, and_true, true_and, and_self, false_and, and_false, not_true, not_false_iff, Nat.reduceAdd, Nat.reduceSub, Nat.reduceMul, Nat.reduceLT, Nat.reduceLeDiff, Int.reduceToNat, Int.reduceLT, Int.reduceLE, Option.getD, Int.reduceMul, Int.reduceAdd, List.drop, List.take, Nat.reduceBEq, List.isEmpty, Int.reduceEq, Int.reduceNe, Int.reduceNeg, Int.reduceGT, Int.reduceGE, beq_true, beq_false, UInt8.reduceToNat, eqE, eq_self, foldE, maxE, minE, eq_T, eq_F, ndec, odec, adec, sdec, fillA, over, chop, List.replicate, leavesOk, leafOk, cellsEq, cellEq, E_ext, E_byref, en26, bs22, bs24, hrow, rowsI_len, List.length_nil]; exact ⟨_, rfl⟩
      · rw [show rows64 (sucL op arg k) = [[.v (.int .i64 (k + 1))]] by simp [sucL, rows64, h0, h17, h18]]
        rw [callT_eq Tryd.func26 rfl fok26 (by simp [Tryd.ntmps26])]; simp (disch := first | omega | (simp only [List.length_append, List.length_map, List.length_set, List.length_cons, List.length_nil, List.length_take, List.length_drop, rowsI_len]; omega)) only [va0, va1, va2, va3, va4, va5, va6, va7, va8, va9, va10, va11, va12, va13, va14, va15, vb0, vb1, vb2, vb3, w_i8, w_u8, w_i16, w_u16, w_i32, w_u32, w_i64, w_u64, lt_T, lt_F, le_T, le_F, nlt_T, nlt_F, nle_T, nle_F, List.take_of_length_le, gB, gcW, gcR, posIn, renA, renL, Chunk.ren, Chunk.refs, evOpD, touchD, stepC, isFresh, nFresh, freshOf, mkR, hole, evL, evH, opd, get, putD, ofVal, cellOf, loadE, behind, lenE, idxAddrE, idxE, addPtr, intE, strE, unE, convE, AV.int, AV.bool, AV.str, ivs, take, frameOf, firstRegion, refsA, refsL, one, cellsA, floatOk, apartT, List.map, if_true, if_false, E_P, E_glob0, E_glob1, reduceCtorEq, beq_self_eq_true, decide_true, decide_false, ↓reduceIte, Nat.reduceEqDiff, cond_true, cond_false, or_true, true_or, or_false, false_or, and_true, true_and, and_self, false_and, and_false, not_true, not_false_iff, Nat.reduceAdd, Nat.reduceSub, Nat.reduceMul, Nat.reduceLT, Nat.reduceLeDiff, Int.reduceToNat, Int.reduceLT, Int.reduceLE, Option.getD, Int.reduceMul, Int.reduceAdd, List.drop, List.take, Nat.reduceBEq, List.isEmpty, Int.reduceEq, Int.reduceNe, Int.reduceNeg, Int.reduceGT, Int.reduceGE, beq_true, beq_false, UInt8.reduceToNat, eqE, eq_self, foldE, maxE, minE, eq_T, eq_F, ndec, odec, adec, sdec, fillA, over, chop, List.replicate, leavesOk, leafOk, cellsEq, cellEq, E_ext, E_byref, en26, bs22, bs24, hrow, rowsI_len, h0, h17, h18]; exact ⟨_, rfl⟩
theorem ik26 (l : List Ins) (k : Nat) (hk : k < l.length) (hl : l.length < 100000) (H : Hp) : isoK E (callT E) 26 [.i (.sl 2 (rowsI l) false), .i (.v (.int .i64 k))] H = some (.i (.sl 1 (rows64 (sucL l[k].1 l[k].2 k)) false), H) := isoK_val rfl rfl rfl (c26 l k hk hl)
end Go.VI

namespace Go.VI
open Go.Proofs
set_option maxRecDepth 100000
set_option linter.unusedSimpArgs false
set_option linter.unusedVariables false
set_option maxHeartbeats 4000000
theorem sucL_len (op arg i : Int) : (sucL op arg i).length ≤ 2 := by
  unfold sucL; rw [List.length_append]; repeat' split
  all_goals simp
end Go.VI

namespace Go.VI
open Go.Proofs
set_option maxRecDepth 100000
set_option linter.unusedSimpArgs false
set_option linter.unusedVariables false
set_option maxHeartbeats 4000000
theorem ran_true {f n : Nat} (h : (match call E n f [] [] with | some (.i (.v (.bool true)), _) => true | _ => false) = true) : ∃ L, callT E f [] [] = some (.i (.v (.bool true)), L) := by
  split at h
  · rename_i L hL; exact ⟨L, callT_of hL⟩
  · cases h
theorem ik11 (H : Hp) : isoK E (callT E) 11 [] H = some (.i (.v (.bool true)), H) := isoK_val rfl rfl rfl (ran_true (n := 200) (by kernel_rfl))
end Go.VI

namespace Go.VI
open Go.Proofs
set_option maxRecDepth 100000
set_option linter.unusedSimpArgs false
set_option linter.unusedVariables false
set_option maxHeartbeats 4000000
def fSet (i : Nat) : List Int → List Int → List Int
  | [], out => out
  | x :: xs, out => fSet i xs (out.set i (max (out.getD i 0) (out.getD x.toNat 0)))
def fStep (i : Nat) (p : Ins) (out : List Int) : List Int := (fSet i (sucL p.1 p.2 i) out).set i ((fSet i (sucL p.1 p.2 i) out).getD i 0 + 1)
def fRun (l : List Ins) : Nat → List Int → List Int
  | 0, out => out
  | k + 1, out => fRun l k (fStep k (l.getD k (0, 0)) out)
def fuelS (l : List Ins) : Int × Int := if checkI l = 0 then ((fRun l l.length (List.replicate (l.length + 1) 0)).getD 0 0, 0) else (0, checkI l)
theorem getD_mem_b {l : List Int} {P : Int → Prop} (h0 : P 0) (h : ∀ x ∈ l, P x) (j : Nat) : P (l.getD j 0) := by
  rw [List.getD_eq_getElem?_getD]
  cases hh : l[j]? with
  | none => exact h0
  | some x => exact h x (List.mem_of_getElem? hh)
theorem fSet_len (i : Nat) : ∀ (xs out : List Int), (fSet i xs out).length = out.length
  | [], out => rfl
  | x :: xs, out => by rw [fSet, fSet_len i xs, List.length_set]
theorem set_mem_b {l : List Int} {P : Int → Prop} {i : Nat} {v : Int} (hv : P v) (h : ∀ x ∈ l, P x) : ∀ x ∈ l.set i v, P x := fun x hx => by
  rcases List.mem_or_eq_of_mem_set hx with h1 | h1
  · exact h x h1
  · rw [h1]; exact hv
theorem fSet_b {i : Nat} {m : Int} (hm : 0 ≤ m) : ∀ (xs out : List Int), (∀ x ∈ out, 0 ≤ x ∧ x ≤ m) → ∀ x ∈ fSet i xs out, 0 ≤ x ∧ x ≤ m
  | [], out, h => h
  | x :: xs, out, h => by
    have h1 := getD_mem_b (P := fun x => 0 ≤ x ∧ x ≤ m) ⟨by omega, hm⟩ h i
    have h2 := getD_mem_b (P := fun x => 0 ≤ x ∧ x ≤ m) ⟨by omega, hm⟩ h x.toNat
    exact fSet_b hm xs _ (set_mem_b (by omega) h)
theorem fStep_len (i : Nat) (p : Ins) (out : List Int) : (fStep i p out).length = out.length := by rw [fStep, List.length_set, fSet_len]
theorem fStep_b {i : Nat} {p : Ins} {m : Int} (hm : 0 ≤ m) {out : List Int} (h : ∀ x ∈ out, 0 ≤ x ∧ x ≤ m) : ∀ x ∈ fStep i p out, 0 ≤ x ∧ x ≤ m + 1 := by
  have h1 := fSet_b (i := i) hm (sucL p.1 p.2 i) out h
  have h2 := getD_mem_b (P := fun x => 0 ≤ x ∧ x ≤ m) ⟨by omega, hm⟩ h1 i
  unfold fStep
  exact set_mem_b (by omega) fun x hx => by have := h1 x hx; omega
theorem rd16 (l : List Ins) (hl : l.length < 100000) (n : Nat) (hn : n = l.length + 1) (out : List Int) (ho : out.length = n) (op arg : Int) (i : Nat) (hi : i < l.length) (x : Int) (hx : 0 ≤ x ∧ x ≤ l.length) :
    rdF E 16 (rfAt Tryd.f16 0) ((30, .i (.v (.int .i64 x))) :: [(0, .i (.sl 2 (rowsI l) false)), (2, .i (.v (.int .i64 0))), (3, .i (.v (.int .i64 0))), (5, .ptr 0 0 0 0), (6, .ptr 2 0 0 0), (29, .clo (.func 32) [] [.ptr 3 0 0 0, .ptr 4 0 0 0])]) [.box [.ref 1 0 0 (n)], .sl 1 0 (rows64 (out)) false, .box [.i (.v (.int .i64 (i)))], .box [.i (.v (.int .i64 (op))), .i (.v (.int .i64 (arg)))], .box [.i (.v (.int .i64 (i)))]] =
      some (.normal, [.box [.ref 1 0 0 (n)], .sl 1 0 (rows64 (out.set i (max (out.getD i 0) (out.getD x.toNat 0)))) false, .box [.i (.v (.int .i64 (i)))], .box [.i (.v (.int .i64 (op))), .i (.v (.int .i64 (arg)))], .box [.i (.v (.int .i64 (i)))]]) := by
  have hrow := rows64_get (l := out) (k := x.toNat) (by omega)
  have hrow2 := rows64_get (l := out) (k := i) (by omega)
  generalize out.getD x.toNat 0 = y at *
  generalize out.getD i 0 = z at *
  rw [rd_step (fn := Tryd.f16) (k := 0) rfl]
  simp (disch := first | omega | (simp only [List.length_append, List.length_map, List.length_set, List.length_cons, List.length_nil, List.length_take, List.length_drop, rows64_len, rowsI_len]; omega)) only [va0, va1, va2, va3, va4, va5, va6, va7, va8, va9, va10, va11, va12, va13, va14, va15, vb0, vb1, vb2, vb3, w_i8, w_u8, w_i16, w_u16, w_i32, w_u32, w_i64, w_u64, lt_T, lt_F, le_T, le_F, nlt_T, nlt_F, nle_T, nle_F, List.take_of_length_le, gB, gcW, gcR, posIn, renA, renL, Chunk.ren, Chunk.refs, evOpD, touchD, stepC, isFresh, nFresh, freshOf, mkR, hole, evL, evH, opd, get, putD, ofVal, cellOf, loadE, behind, lenE, idxAddrE, idxE, addPtr, intE, strE, unE, convE, AV.int, AV.bool, AV.str, ivs, take, frameOf, firstRegion, refsA, refsL, one, cellsA, floatOk, apartT, List.map, if_true, if_false, E_P, E_glob0, E_glob1, reduceCtorEq, beq_self_eq_true, decide_true, decide_false, ↓reduceIte, Nat.reduceEqDiff, cond_true, cond_false, or_true, true_or, or_false, false_or, and_true, true_and, and_self, false_and, and_false, not_true, not_false_iff, Nat.reduceAdd, Nat.reduceSub, Nat.reduceMul, Nat.reduceLT, Nat.reduceLeDiff, Int.reduceToNat, Int.reduceLT, Int.reduceLE, Option.getD, Int.reduceMul, Int.reduceAdd, List.drop, List.take, Nat.reduceBEq, List.isEmpty, Int.reduceEq, Int.reduceNe, Int.reduceNeg, Int.reduceGT, Int.reduceGE, beq_true, beq_false, UInt8.reduceToNat, eqE, eq_self, foldE, maxE, minE, eq_T, eq_F, ndec, odec, adec, sdec, fillA, over, chop, List.replicate, leavesOk, leafOk, cellsEq, cellEq, E_ext, E_byref, en16, bs22, bs24, rows64_len, rowsI_len, hrow, hrow2, rows64_set]
theorem rg16 (l : List Ins) (hl : l.length < 100000) (n : Nat) (hn : n = l.length + 1) (op arg : Int) (i : Nat) (hi : i < l.length) : ∀ (xs : List Int), (∀ x ∈ xs, 0 ≤ x ∧ x ≤ l.length) → ∀ out : List Int, out.length = n →
    rgE (rdF E 16 (rfAt Tryd.f16 0)) 30 [(0, .i (.sl 2 (rowsI l) false)), (2, .i (.v (.int .i64 0))), (3, .i (.v (.int .i64 0))), (5, .ptr 0 0 0 0), (6, .ptr 2 0 0 0), (29, .clo (.func 32) [] [.ptr 3 0 0 0, .ptr 4 0 0 0])] [.ptr 3 0 0 0, .ptr 4 0 0 0] [[op, arg], [(i : Int)]] xs [.box [.ref 1 0 0 (n)], .sl 1 0 (rows64 (out)) false, .box [.i (.v (.int .i64 (i)))], .box [.i (.v (.int .i64 (op))), .i (.v (.int .i64 (arg)))], .box [.i (.v (.int .i64 (i)))]] = some (.normal, [(0, .i (.sl 2 (rowsI l) false)), (2, .i (.v (.int .i64 0))), (3, .i (.v (.int .i64 0))), (5, .ptr 0 0 0 0), (6, .ptr 2 0 0 0), (29, .clo (.func 32) [] [.ptr 3 0 0 0, .ptr 4 0 0 0])], [.box [.ref 1 0 0 (n)], .sl 1 0 (rows64 (fSet i xs out)) false, .box [.i (.v (.int .i64 (i)))], .box [.i (.v (.int .i64 (op))), .i (.v (.int .i64 (arg)))], .box [.i (.v (.int .i64 (i)))]])
  | [], _, out, ho => rfl
  | x :: xs, hx, out, ho => by
    have h1 := rd16 l hl n hn out ho op arg i hi x (hx x (.head _))
    rw [rgE_cons, h1, rgN_n, if_pos (show capsI _ [.ptr 3 0 0 0, .ptr 4 0 0 0] = some [[op, arg], [(i : Int)]] from rfl), fSet]
    exact rg16 l hl n hn op arg i hi xs (fun y hy => hx y (.tail _ hy)) _ (by simpa using ho)
end Go.VI

namespace Go.VI
open Go.Proofs
set_option maxRecDepth 100000
set_option linter.unusedSimpArgs false
set_option linter.unusedVariables false
set_option maxHeartbeats 4000000
theorem l16_0 (l : List Ins) (hl : l.length ≤ 500) (n : Nat) (hn : n = l.length + 1) (hok : ∀ (j : Nat) (h : j < l.length), chk1 l.length j l[j] = 0) : ∀ (k : Nat) (hk : k ≤ l.length) (out : List Int) (ho : out.length = n) (hr : ∀ x ∈ out, 0 ≤ x ∧ x ≤ l.length - k),
    ∃ fr, rl E 0 16 (loopAt Tryd.f16 0) [(0, .i (.sl 2 (rowsI l) false)), (2, .i (.v (.int .i64 0))), (3, .i (.v (.int .i64 0))), (5, .ptr 0 0 0 0), (6, .ptr 2 0 0 0)] [.box [.ref 1 0 0 (n)], .sl 1 0 (rows64 (out)) false, .box [.i (.v (.int .i64 ((k : Int) - 1)))]] = some (.exit 0, fr, [.box [.ref 1 0 0 (n)], .sl 1 0 (rows64 (fRun l k out)) false, .box [.i (.v (.int .i64 (-1)))]]) ∧ get 5 fr = .ptr 0 0 0 0
  | 0, hk, out, ho, hr => by
    rw [rl_step (fn := Tryd.f16) (k := 0) rfl]
    rw [fRun]
    simp (disch := first | omega | (simp only [List.length_append, List.length_map, List.length_set, List.length_cons, List.length_nil, List.length_take, List.length_drop, rows64_len, rowsI_len]; omega)) only [va0, va1, va2, va3, va4, va5, va6, va7, va8, va9, va10, va11, va12, va13, va14, va15, vb0, vb1, vb2, vb3, w_i8, w_u8, w_i16, w_u16, w_i32, w_u32, w_i64, w_u64, lt_T, lt_F, le_T, le_F, nlt_T, nlt_F, nle_T, nle_F, List.take_of_length_le, gB, gcW, gcR, posIn, renA, renL, Chunk.ren, Chunk.refs, evOpD, touchD, stepC, isFresh, nFresh, freshOf, mkR, hole, evL, evH, opd, get, putD, ofVal, cellOf, loadE, behind, lenE, idxAddrE, idxE, addPtr, intE, strE, unE, convE, AV.int, AV.bool, AV.str, ivs, take, frameOf, firstRegion, refsA, refsL, one, cellsA, floatOk, apartT, List.map, if_true, if_false, E_P, E_glob0, E_glob1, reduceCtorEq, beq_self_eq_true, decide_true, decide_false, ↓reduceIte, Nat.reduceEqDiff, cond_true, cond_false, or_true, true_or, or_false, false_or, and_true, true_and, and_self, false_and, and_false, not_true, not_false_iff, Nat.reduceAdd, Nat.reduceSub, Nat.reduceMul, Nat.reduceLT, Nat.reduceLeDiff, Int.reduceToNat, Int.reduceLT, Int.reduceLE, Option.getD, Int.reduceMul, Int.reduceAdd, List.drop, List.take, Nat.reduceBEq, List.isEmpty, Int.reduceEq, Int.reduceNe, Int.reduceNeg, Int.reduceGT, Int.reduceGE, beq_true, beq_false, UInt8.reduceToNat, eqE, eq_self, foldE, maxE, minE, eq_T, eq_F, ndec, odec, adec, sdec, fillA, over, chop, List.replicate, leavesOk, leafOk, cellsEq, cellEq, E_ext, E_byref, en16, bs22, bs24, rows64_len, rowsI_len, show ∀ B fr H, execT E B 16 (Code.loop _) fr H = rlG E B 16 (loopAt Tryd.f16 0) (gcn B (norm [0, 2, 3, 5, 6] fr) H) from fun B fr H => rl_intro rfl mt16_6 mb16_6 zf16_6 hd16_6 fr H]
    exact ⟨_, rfl, rfl⟩
  | k + 1, hk, out, ho, hr => by
    rw [rl_step (fn := Tryd.f16) (k := 0) rfl]
    have hlt : k < l.length := hk
    have hrow := rowsI_at hlt
    have hck := hok k hlt
    have hb := fStep_b (i := k) (p := l.getD k (0, 0)) (m := (l.length : Int) - (k + 1 : Nat)) (by omega) hr
    obtain ⟨fr, e, hh⟩ := l16_0 l hl n hn hok k (by omega) (fStep k (l.getD k (0, 0)) out) (by rw [fStep_len]; exact ho) (fun x hx => by have := hb x hx; omega)
    rw [fRun]
    have hgd : l.getD k (0, 0) = l[k] := by rw [List.getD_eq_getElem?_getD, List.getElem?_eq_getElem hlt]; rfl
    rw [hgd] at e ⊢
    obtain ⟨op, arg, hp⟩ : ∃ op arg, l[k] = (op, arg) := ⟨_, _, rfl⟩
    rw [hp] at hrow hck e ⊢
    simp only at hrow
    obtain ⟨⟨o1, o2⟩, hsuc⟩ := sucL_in hlt hck
    have hrg := rg16 l (by omega) n hn op arg k hlt (sucL op arg k) (fun x hx => by have := hsuc x hx; omega) out ho
    have hsq := seqSucc_eq op arg k (by omega) (by omega)
    have hb2 := fSet_b (i := k) (m := (l.length : Int) - (k + 1 : Nat)) (by omega) (sucL op arg k) out hr
    have hfl := fSet_len k (sucL op arg k) out
    unfold fStep at e ⊢
    simp only at e ⊢
    generalize fSet k (sucL op arg k) out = o2 at *
    have hrow2 := rows64_get (l := o2) (k := k) (by omega)
    have hz := getD_mem_b (P := fun x => 0 ≤ x ∧ x ≤ (l.length : Int) - (k + 1 : Nat)) ⟨by omega, by omega⟩ hb2 k
    generalize o2.getD k 0 = z at *
    generalize sucL op arg k = xs at *
    have hcast : ((k + 1 : Nat) : Int) - 1 = k := by omega
    rw [hcast]
    refine ⟨fr, Eq.trans ?_ e, hh⟩
    clear e hh hb hb2 hgd hp
    simp (disch := first | omega | (simp only [List.length_append, List.length_map, List.length_set, List.length_cons, List.length_nil, List.length_take, List.length_drop, rowsI_len, rows64_len]; omega)) only [va0, va1, va2, va3, va4, va5, va6, va7, va8, va9, va10, va11, va12, va13, va14, va15, vb0, vb1, vb2, vb3, w_i8, w_u8, w_i16, w_u16, w_i32, w_u32, w_i64, w_u64, lt_T, lt_F, le_T, le_F, nlt_T, nlt_F, nle_T, nle_F, List.take_of_length_le, gB, gcW, gcR, posIn, renA, renL, Chunk.ren, Chunk.refs, evOpD, touchD, stepC, isFresh, nFresh, freshOf, mkR, hole, evL, evH, opd, get, putD, ofVal, cellOf, loadE, behind, lenE, idxAddrE, idxE, addPtr, intE, strE, unE, convE, AV.int, AV.bool, AV.str, ivs, take, frameOf, firstRegion, refsA, refsL, one, cellsA, floatOk, apartT, List.map, if_true, if_false, E_P, E_glob0, E_glob1, reduceCtorEq, beq_self_eq_true, decide_true, decide_false, ↓reduceIte, Nat.reduceEqDiff, cond_true, cond_false, or_true, true_or, or_false, false_or, and_true, true_and, and_self, false_and, and_false, not_true, not_false_iff, Nat.reduceAdd, Nat.reduceSub, Nat.reduceMul, Nat.reduceLT, Nat.reduceLeDiff, Int.reduceToNat, Int.reduceLT, Int.reduceLE, Option.getD, Int.reduceMul, Int.reduceAdd, List.drop, List.take, Nat.reduceBEq, List.isEmpty, Int.reduceEq, Int.reduceNe, Int.reduceNeg, Int.reduceGT, Int.reduceGE, beq_true, beq_false, UInt8.reduceToNat, eqE, eq_self, foldE, maxE, minE, eq_T, eq_F, ndec, odec, adec, sdec, fillA, over, chop, List.replicate, leavesOk, leafOk, cellsEq, cellEq, E_ext, E_byref, en16, bs22, bs24, hrow, hrow2, rowsI_len, rows64_len, rows64_set, ik24, hsq, hrg, show ∀ B fr H, execT E B 16 (Code.rangeFunc _ _ _ _) fr H = rgO (rdF E 16 (rfAt Tryd.f16 0)) 30 fr H (seqE E H (opd E fr _)) from fun B fr H => rf_intro rfl rfl fr H, show ∀ B fr H, execT E B 16 (Code.loop _) fr H = rlG E B 16 (loopAt Tryd.f16 0) (gcn B (norm [0, 2, 3, 5, 6] fr) H) from fun B fr H => rl_intro rfl mt16_6 mb16_6 zf16_6 hd16_6 fr H]
theorem c16 (l : List Ins) (hl : (l.length : Int) < 9223372036854775808) : ∃ L, callT E 16 [.i (.sl 2 (rowsI l) false)] [] = some (.tup [.i (.v (.int .i64 (fuelS l).1)), .i (.v (.int .i64 (fuelS l).2))], L) := by
  have hC := fun H => ik23 l hl H
  unfold fuelS
  by_cases h0 : checkI l = 0
  rotate_left
  · rw [if_neg h0]
    generalize checkI l = q at *
    rw [callT_eq Tryd.func16 rfl fok16 (by simp [Tryd.ntmps16])]
    simp (disch := first | omega | (simp only [List.length_append, List.length_map, List.length_set, List.length_cons, List.length_nil, List.length_take, List.length_drop]; omega)) only [va0, va1, va2, va3, va4, va5, va6, va7, va8, va9, va10, va11, va12, va13, va14, va15, vb0, vb1, vb2, vb3, w_i8, w_u8, w_i16, w_u16, w_i32, w_u32, w_i64, w_u64, lt_T, lt_F, le_T, le_F, nlt_T, nlt_F, nle_T, nle_F, List.take_of_length_le, gB, gcW, gcR, posIn, renA, renL, Chunk.ren, Chunk.refs, evOpD, touchD, stepC, isFresh, nFresh, freshOf, mkR, hole, evL, evH, opd, get, putD, ofVal, cellOf, loadE, behind, lenE, idxAddrE, idxE, addPtr, intE, strE, unE, convE, AV.int, AV.bool, AV.str, ivs, take, frameOf, firstRegion, refsA, refsL, one, cellsA, floatOk, apartT, List.map, if_true, if_false, E_P, E_glob0, E_glob1, reduceCtorEq, beq_self_eq_true, decide_true, decide_false, ↓reduceIte, Nat.reduceEqDiff, cond_true, cond_false, or_true, true_or, or_false, false_or, and_true, true_and, and_self, false_and, and_false, not_true, not_false_iff, Nat.reduceAdd, Nat.reduceSub, Nat.reduceMul, Nat.reduceLT, Nat.reduceLeDiff, Int.reduceToNat, Int.reduceLT, Int.reduceLE, Option.getD, Int.reduceMul, Int.reduceAdd, List.drop, List.take, Nat.reduceBEq, List.isEmpty, Int.reduceEq, Int.reduceNe, Int.reduceNeg, Int.reduceGT, Int.reduceGE, beq_true, beq_false, UInt8.reduceToNat, eqE, eq_self, foldE, maxE, minE, eq_T, eq_F, ndec, odec, adec, sdec, fillA, over, chop, List.replicate, leavesOk, leafOk, cellsEq, cellEq, E_ext, E_byref, en16, bs22, bs24, hC, h0]
    exact ⟨_, rfl⟩
  · rw [if_pos h0]
    rw [h0] at hC
    have h5 := check_len h0
    have hnn : ((l.length : Int) + 1).toNat = l.length + 1 := by omega
    obtain ⟨fr, e, f5⟩ := l16_0 l h5 (l.length + 1) rfl (check_ok h0) l.length (Nat.le_refl _) (List.replicate (l.length + 1) 0) (by simp) (fun x hx => by have := List.eq_of_mem_replicate hx; omega)
    have hfl : (fRun l l.length (List.replicate (l.length + 1) 0)).length = l.length + 1 := by
      have : ∀ (k : Nat) (out : List Int), (fRun l k out).length = out.length := fun k => by
        induction k with
        | zero => intro out; rfl
        | succ k ih => intro out; rw [fRun, ih, fStep_len]
      rw [this, List.length_replicate]
    have hrow := rows64_get (l := fRun l l.length (List.replicate (l.length + 1) 0)) (k := 0) (by omega)
    generalize fRun l l.length (List.replicate (l.length + 1) 0) = o1 at *
    generalize o1.getD 0 0 = z at *
    have e' : rl E 0 16 (loopAt Tryd.f16 0) [(0, .i (.sl 2 (rowsI l) false)), (2, .i (.v (.int .i64 0))), (3, .i (.v (.int .i64 0))), (5, .ptr 0 0 0 0), (6, .ptr 2 0 0 0)] [.box [.ref 1 0 0 ((l.length + 1 : Nat))], .sl 1 0 (rows64 (0 :: List.replicate l.length 0)) false, .box [.i (.v (.int .i64 ((l.length : Int) - 1)))]] = _ := e
    have e2 : rl E 0 16 (loopAt Tryd.f16 0) [(0, .i (.sl 2 (rowsI l) false)), (2, .i (.v (.int .i64 0))), (3, .i (.v (.int .i64 0))), (5, .ptr 0 0 0 0), (6, .ptr 2 0 0 0)] [.box [.ref 1 0 0 (l.length + 1)], .sl 1 0 ([.v (.int .i64 0)] :: rows64 (List.replicate l.length 0)) false, .box [.i (.v (.int .i64 ((l.length : Int) - 1)))]] = _ := e'
    clear e e'
    rw [callT_eq Tryd.func16 rfl fok16 (by simp [Tryd.ntmps16])]
    simp (disch := first | omega | (simp only [List.length_append, List.length_map, List.length_set, List.length_cons, List.length_nil, List.length_take, List.length_drop, rowsI_len, rows64_len]; omega)) only [va0, va1, va2, va3, va4, va5, va6, va7, va8, va9, va10, va11, va12, va13, va14, va15, vb0, vb1, vb2, vb3, w_i8, w_u8, w_i16, w_u16, w_i32, w_u32, w_i64, w_u64, lt_T, lt_F, le_T, le_F, nlt_T, nlt_F, nle_T, nle_F, List.take_of_length_le, gB, gcW, gcR, posIn, renA, renL, Chunk.ren, Chunk.refs, evOpD, touchD, stepC, isFresh, nFresh, freshOf, mkR, hole, evL, evH, opd, get, putD, ofVal, cellOf, loadE, behind, lenE, idxAddrE, idxE, addPtr, intE, strE, unE, convE, AV.int, AV.bool, AV.str, ivs, take, frameOf, firstRegion, refsA, refsL, one, cellsA, floatOk, apartT, List.map, if_true, if_false, E_P, E_glob0, E_glob1, reduceCtorEq, beq_self_eq_true, decide_true, decide_false, ↓reduceIte, Nat.reduceEqDiff, cond_true, cond_false, or_true, true_or, or_false, false_or, and_true, true_and, and_self, false_and, and_false, not_true, not_false_iff, Nat.reduceAdd, Nat.reduceSub, Nat.reduceMul, Nat.reduceLT, Nat.reduceLeDiff, Int.reduceToNat, Int.reduceLT, Int.reduceLE, Option.getD, Int.reduceMul, Int.reduceAdd, List.drop, List.take, Nat.reduceBEq, List.isEmpty, Int.reduceEq, Int.reduceNe, Int.reduceNeg, Int.reduceGT, Int.reduceGE, beq_true, beq_false, UInt8.reduceToNat, eqE, eq_self, foldE, maxE, minE, eq_T, eq_F, ndec, odec, adec, sdec, fillA, over, chop, List.replicate, leavesOk, leafOk, cellsEq, cellEq, E_ext, E_byref, en16, bs22, bs24, hC, rowsI_len, rows64_len, rows64_rep, hnn, hrow, e2, f5, show ∀ B fr H, execT E B 16 (Code.loop _) fr H = rlG E B 16 (loopAt Tryd.f16 0) (gcn B (norm [0, 2, 3, 5, 6] fr) H) from fun B fr H => rl_intro rfl mt16_6 mb16_6 zf16_6 hd16_6 fr H]
    exact ⟨_, rfl⟩
theorem ik16 (l : List Ins) (hl : (l.length : Int) < 9223372036854775808) (H : Hp) : isoK E (callT E) 16 [.i (.sl 2 (rowsI l) false)] H = some (.tup [.i (.v (.int .i64 (fuelS l).1)), .i (.v (.int .i64 (fuelS l).2))], H) := isoK_val rfl rfl rfl (c16 l hl)
end Go.VI

namespace Go.VI
open Go.Proofs
set_option maxRecDepth 100000
set_option linter.unusedSimpArgs false
set_option linter.unusedVariables false
set_option maxHeartbeats 4000000
theorem l17_1 (l : List Ins) (hl : l.length ≤ 500) (n : Nat) (hn : n = l.length + 1) (k : Nat) (hk : k < l.length) (xs : List Int) (hxl : xs.length ≤ 2) (hx : ∀ x ∈ xs, 0 ≤ x ∧ x ≤ l.length) (j : Nat) (hj : j ≤ xs.length) (out : List Int) (ho : out.length = n) :
    ∃ fr, rl E 0 17 (loopAt Tryd.f17 1) [(0, .i (.sl 2 (rowsI l) false)), (5, .ref 0 0 0 n), (6, .i (.v (.int .i64 k))), (7, .i (.sl 1 (rows64 xs) false)), (8, .i (.v (.int .i64 j)))] [.sl 1 0 (rows64 out) false] = some (.exit 2, fr, [.sl 1 0 (rows64 (fSet k (xs.drop j) out)) false]) ∧ get 0 fr = .i (.sl 2 (rowsI l) false) ∧ get 5 fr = .ref 0 0 0 n ∧ get 6 fr = .i (.v (.int .i64 k)) := by
  rw [rl_step (fn := Tryd.f17) (k := 1) rfl]
  by_cases hlt : j < xs.length
  · have hrx := rows64_at hlt
    have hxx := hx xs[j] (List.getElem_mem _)
    rw [List.drop_eq_getElem_cons hlt, fSet]
    obtain ⟨fr, e, hh⟩ := l17_1 l hl n hn k hk xs hxl hx (j + 1) hlt (out.set k (max (out.getD k 0) (out.getD xs[j].toNat 0))) (by simpa using ho)
    refine ⟨fr, Eq.trans ?_ e, hh⟩
    clear e hh
    generalize xs[j] = x at *
    have hrow := rows64_get (l := out) (k := x.toNat) (by omega)
    have hrow2 := rows64_get (l := out) (k := k) (by omega)
    generalize out.getD x.toNat 0 = y at *
    generalize out.getD k 0 = z at *
    simp (disch := first | omega | (simp only [List.length_append, List.length_map, List.length_set, List.length_cons, List.length_nil, List.length_take, List.length_drop, rows64_len, rowsI_len]; omega)) only [va0, va1, va2, va3, va4, va5, va6, va7, va8, va9, va10, va11, va12, va13, va14, va15, vb0, vb1, vb2, vb3, w_i8, w_u8, w_i16, w_u16, w_i32, w_u32, w_i64, w_u64, lt_T, lt_F, le_T, le_F, nlt_T, nlt_F, nle_T, nle_F, List.take_of_length_le, gB, gcW, gcR, posIn, renA, renL, Chunk.ren, Chunk.refs, evOpD, touchD, stepC, isFresh, nFresh, freshOf, mkR, hole, evL, evH, opd, get, putD, ofVal, cellOf, loadE, behind, lenE, idxAddrE, idxE, addPtr, intE, strE, unE, convE, AV.int, AV.bool, AV.str, ivs, take, frameOf, firstRegion, refsA, refsL, one, cellsA, floatOk, apartT, List.map, if_true, if_false, E_P, E_glob0, E_glob1, reduceCtorEq, beq_self_eq_true, decide_true, decide_false, ↓reduceIte, Nat.reduceEqDiff, cond_true, cond_false, or_true, true_or, or_false, false_or, and_true, true_and, and_self, false_and, and_false, not_true, not_false_iff, Nat.reduceAdd, Nat.reduceSub, Nat.reduceMul, Nat.reduceLT, Nat.reduceLeDiff, Int.reduceToNat, Int.reduceLT, Int.reduceLE, Option.getD, Int.reduceMul, Int.reduceAdd, List.drop, List.take, Nat.reduceBEq, List.isEmpty, Int.reduceEq, Int.reduceNe, Int.reduceNeg, Int.reduceGT, Int.reduceGE, beq_true, beq_false, UInt8.reduceToNat, eqE, eq_self, foldE, maxE, minE, eq_T, eq_F, ndec, odec, adec, sdec, fillA, over, chop, List.replicate, leavesOk, leafOk, cellsEq, cellEq, E_ext, E_byref, en17, bs22, bs24, rows64_len, rowsI_len, hrx, hrow, hrow2, rows64_set, show ∀ B fr H, execT E B 17 (Code.loop _) fr H = rlG E B 17 (loopAt Tryd.f17 1) (gcn B (norm [0, 5, 6, 7, 8] fr) H) from fun B fr H => rl_intro rfl mt17_10 mb17_10 zf17_10 hd17_10 fr H]
  · obtain rfl : j = xs.length := by omega
    rw [List.drop_length, fSet]
    simp (disch := first | omega | (simp only [List.length_append, List.length_map, List.length_set, List.length_cons, List.length_nil, List.length_take, List.length_drop, rows64_len, rowsI_len]; omega)) only [va0, va1, va2, va3, va4, va5, va6, va7, va8, va9, va10, va11, va12, va13, va14, va15, vb0, vb1, vb2, vb3, w_i8, w_u8, w_i16, w_u16, w_i32, w_u32, w_i64, w_u64, lt_T, lt_F, le_T, le_F, nlt_T, nlt_F, nle_T, nle_F, List.take_of_length_le, gB, gcW, gcR, posIn, renA, renL, Chunk.ren, Chunk.refs, evOpD, touchD, stepC, isFresh, nFresh, freshOf, mkR, hole, evL, evH, opd, get, putD, ofVal, cellOf, loadE, behind, lenE, idxAddrE, idxE, addPtr, intE, strE, unE, convE, AV.int, AV.bool, AV.str, ivs, take, frameOf, firstRegion, refsA, refsL, one, cellsA, floatOk, apartT, List.map, if_true, if_false, E_P, E_glob0, E_glob1, reduceCtorEq, beq_self_eq_true, decide_true, decide_false, ↓reduceIte, Nat.reduceEqDiff, cond_true, cond_false, or_true, true_or, or_false, false_or, and_true, true_and, and_self, false_and, and_false, not_true, not_false_iff, Nat.reduceAdd, Nat.reduceSub, Nat.reduceMul, Nat.reduceLT, Nat.reduceLeDiff, Int.reduceToNat, Int.reduceLT, Int.reduceLE, Option.getD, Int.reduceMul, Int.reduceAdd, List.drop, List.take, Nat.reduceBEq, List.isEmpty, Int.reduceEq, Int.reduceNe, Int.reduceNeg, Int.reduceGT, Int.reduceGE, beq_true, beq_false, UInt8.reduceToNat, eqE, eq_self, foldE, maxE, minE, eq_T, eq_F, ndec, odec, adec, sdec, fillA, over, chop, List.replicate, leavesOk, leafOk, cellsEq, cellEq, E_ext, E_byref, en17, bs22, bs24, rows64_len, rowsI_len, show ∀ B fr H, execT E B 17 (Code.loop _) fr H = rlG E B 17 (loopAt Tryd.f17 1) (gcn B (norm [0, 5, 6, 7, 8] fr) H) from fun B fr H => rl_intro rfl mt17_10 mb17_10 zf17_10 hd17_10 fr H]
    exact ⟨_, rfl, rfl, rfl, rfl⟩
termination_by xs.length - j
theorem l17_0 (l : List Ins) (hl : l.length ≤ 500) (n : Nat) (hn : n = l.length + 1) (hok : ∀ (j : Nat) (h : j < l.length), chk1 l.length j l[j] = 0) : ∀ (k : Nat) (hk : k ≤ l.length) (out : List Int) (ho : out.length = n) (hr : ∀ x ∈ out, 0 ≤ x ∧ x ≤ l.length - k),
    ∃ fr, rl E 0 17 (loopAt Tryd.f17 0) [(0, .i (.sl 2 (rowsI l) false)), (5, .ref 0 0 0 n), (6, .i (.v (.int .i64 ((k : Int) - 1))))] [.sl 1 0 (rows64 out) false] = some (.exit 0, fr, [.sl 1 0 (rows64 (fRun l k out)) false]) ∧ get 5 fr = .ref 0 0 0 n
  | 0, hk, out, ho, hr => by
    rw [rl_step (fn := Tryd.f17) (k := 0) rfl]
    rw [fRun]
    simp (disch := first | omega | (simp only [List.length_append, List.length_map, List.length_set, List.length_cons, List.length_nil, List.length_take, List.length_drop, rows64_len, rowsI_len]; omega)) only [va0, va1, va2, va3, va4, va5, va6, va7, va8, va9, va10, va11, va12, va13, va14, va15, vb0, vb1, vb2, vb3, w_i8, w_u8, w_i16, w_u16, w_i32, w_u32, w_i64, w_u64, lt_T, lt_F, le_T, le_F, nlt_T, nlt_F, nle_T, nle_F, List.take_of_length_le, gB, gcW, gcR, posIn, renA, renL, Chunk.ren, Chunk.refs, evOpD, touchD, stepC, isFresh, nFresh, freshOf, mkR, hole, evL, evH, opd, get, putD, ofVal, cellOf, loadE, behind, lenE, idxAddrE, idxE, addPtr, intE, strE, unE, convE, AV.int, AV.bool, AV.str, ivs, take, frameOf, firstRegion, refsA, refsL, one, cellsA, floatOk, apartT, List.map, if_true, if_false, E_P, E_glob0, E_glob1, reduceCtorEq, beq_self_eq_true, decide_true, decide_false, ↓reduceIte, Nat.reduceEqDiff, cond_true, cond_false, or_true, true_or, or_false, false_or, and_true, true_and, and_self, false_and, and_false, not_true, not_false_iff, Nat.reduceAdd, Nat.reduceSub, Nat.reduceMul, Nat.reduceLT, Nat.reduceLeDiff, Int.reduceToNat, Int.reduceLT, Int.reduceLE, Option.getD, Int.reduceMul, Int.reduceAdd, List.drop, List.take, Nat.reduceBEq, List.isEmpty, Int.reduceEq, Int.reduceNe, Int.reduceNeg, Int.reduceGT, Int.reduceGE, beq_true, beq_false, UInt8.reduceToNat, eqE, eq_self, foldE, maxE, minE, eq_T, eq_F, ndec, odec, adec, sdec, fillA, over, chop, List.replicate, leavesOk, leafOk, cellsEq, cellEq, E_ext, E_byref, en17, bs22, bs24, rows64_len, rowsI_len, show ∀ B fr H, execT E B 17 (Code.loop _) fr H = rlG E B 17 (loopAt Tryd.f17 0) (gcn B (norm [0, 5, 6] fr) H) from fun B fr H => rl_intro rfl mt17_6 mb17_6 zf17_6 hd17_6 fr H]
    exact ⟨_, rfl, rfl⟩
  | k + 1, hk, out, ho, hr => by
    rw [rl_step (fn := Tryd.f17) (k := 0) rfl]
    have hlt : k < l.length := hk
    have hck := hok k hlt
    have hnx := fun H => ik26 l k hlt (by omega) H
    have hb := fStep_b (i := k) (p := l.getD k (0, 0)) (m := (l.length : Int) - (k + 1 : Nat)) (by omega) hr
    obtain ⟨fr, e, hh⟩ := l17_0 l hl n hn hok k (by omega) (fStep k (l.getD k (0, 0)) out) (by rw [fStep_len]; exact ho) (fun x hx => by have := hb x hx; omega)
    rw [fRun]
    have hgd : l.getD k (0, 0) = l[k] := by rw [List.getD_eq_getElem?_getD, List.getElem?_eq_getElem hlt]; rfl
    rw [hgd] at e ⊢
    obtain ⟨op, arg, hp⟩ : ∃ op arg, l[k] = (op, arg) := ⟨_, _, rfl⟩
    rw [hp] at hnx hck e ⊢
    simp only at hnx
    obtain ⟨⟨o1, o2⟩, hsuc⟩ := sucL_in hlt hck
    obtain ⟨fr2, e2, f0, f5, f6⟩ := l17_1 l hl n hn k hlt (sucL op arg k) (sucL_len _ _ _) (fun x hx => by have := hsuc x hx; omega) 0 (Nat.zero_le _) out ho
    rw [List.drop_zero] at e2
    have hb2 := fSet_b (i := k) (m := (l.length : Int) - (k + 1 : Nat)) (by omega) (sucL op arg k) out hr
    have hfl := fSet_len k (sucL op arg k) out
    unfold fStep at e ⊢
    simp only at e ⊢
    generalize fSet k (sucL op arg k) out = o2 at *
    have hrow2 := rows64_get (l := o2) (k := k) (by omega)
    have hz := getD_mem_b (P := fun x => 0 ≤ x ∧ x ≤ (l.length : Int) - (k + 1 : Nat)) ⟨by omega, by omega⟩ hb2 k
    generalize o2.getD k 0 = z at *
    have hxl := sucL_len op arg k
    generalize sucL op arg k = xs at *
    have e2' : rl E 0 17 (loopAt Tryd.f17 1) [(0, .i (.sl 2 (rowsI l) false)), (5, .ref 0 0 0 n), (6, .i (.v (.int .i64 k))), (7, .i (.sl 1 (rows64 xs) false)), (8, .i (.v (.int .i64 0)))] [.sl 1 0 (rows64 out) false] = _ := e2
    have hcast : ((k + 1 : Nat) : Int) - 1 = k := by omega
    rw [hcast]
    refine ⟨fr, Eq.trans ?_ e, hh⟩
    clear e hh hb hb2 hgd hp e2
    simp (disch := first | omega | (simp only [List.length_append, List.length_map, List.length_set, List.length_cons, List.length_nil, List.length_take, List.length_drop, rowsI_len, rows64_len]; omega)) only [va0, va1, va2, va3, va4, va5, va6, va7, va8, va9, va10, va11, va12, va13, va14, va15, vb0, vb1, vb2, vb3, w_i8, w_u8, w_i16, w_u16, w_i32, w_u32, w_i64, w_u64, lt_T, lt_F, le_T, le_F, nlt_T, nlt_F, nle_T, nle_F, List.take_of_length_le, gB, gcW, gcR, posIn, renA, renL, Chunk.ren, Chunk.refs, evOpD, touchD, stepC, isFresh, nFresh, freshOf, mkR, hole, evL, evH, opd, get, putD, ofVal, cellOf, loadE, behind, lenE, idxAddrE, idxE, addPtr, intE, strE, unE, convE, AV.int, AV.bool, AV.str, ivs, take, frameOf, firstRegion, refsA, refsL, one, cellsA, floatOk, apartT, List.map, if_true, if_false, E_P, E_glob0, E_glob1, reduceCtorEq, beq_self_eq_true, decide_true, decide_false, ↓reduceIte, Nat.reduceEqDiff, cond_true, cond_false, or_true, true_or, or_false, false_or, and_true, true_and, and_self, false_and, and_false, not_true, not_false_iff, Nat.reduceAdd, Nat.reduceSub, Nat.reduceMul, Nat.reduceLT, Nat.reduceLeDiff, Int.reduceToNat, Int.reduceLT, Int.reduceLE, Option.getD, Int.reduceMul, Int.reduceAdd, List.drop, List.take, Nat.reduceBEq, List.isEmpty, Int.reduceEq, Int.reduceNe, Int.reduceNeg, Int.reduceGT, Int.reduceGE, beq_true, beq_false, UInt8.reduceToNat, eqE, eq_self, foldE, maxE, minE, eq_T, eq_F, ndec, odec, adec, sdec, fillA, over, chop, List.replicate, leavesOk, leafOk, cellsEq, cellEq, E_ext, E_byref, en17, bs22, bs24, hrow2, rowsI_len, rows64_len, rows64_set, hnx, e2', f0, f5, f6, show ∀ B fr H, execT E B 17 (Code.loop _) fr H = rlG E B 17 (loopAt Tryd.f17 1) (gcn B (norm [0, 5, 6, 7, 8] fr) H) from fun B fr H => rl_intro rfl mt17_10 mb17_10 zf17_10 hd17_10 fr H, show ∀ B fr H, execT E B 17 (Code.loop _) fr H = rlG E B 17 (loopAt Tryd.f17 0) (gcn B (norm [0, 5, 6] fr) H) from fun B fr H => rl_intro rfl mt17_6 mb17_6 zf17_6 hd17_6 fr H]
theorem c17 (l : List Ins) (hl : (l.length : Int) < 9223372036854775808) : ∃ L, callT E 17 [.i (.sl 2 (rowsI l) false)] [] = some (.tup [.i (.v (.int .i64 (fuelS l).1)), .i (.v (.int .i64 (fuelS l).2))], L) := by
  have hC := fun H => ik25 l hl H
  unfold fuelS
  by_cases h0 : checkI l = 0
  rotate_left
  · rw [if_neg h0]
    generalize checkI l = q at *
    rw [callT_eq Tryd.func17 rfl fok17 (by simp [Tryd.ntmps17])]
    simp (disch := first | omega | (simp only [List.length_append, List.length_map, List.length_set, List.length_cons, List.length_nil, List.length_take, List.length_drop]; omega)) only [va0, va1, va2, va3, va4, va5, va6, va7, va8, va9, va10, va11, va12, va13, va14, va15, vb0, vb1, vb2, vb3, w_i8, w_u8, w_i16, w_u16, w_i32, w_u32, w_i64, w_u64, lt_T, lt_F, le_T, le_F, nlt_T, nlt_F, nle_T, nle_F, List.take_of_length_le, gB, gcW, gcR, posIn, renA, renL, Chunk.ren, Chunk.refs, evOpD, touchD, stepC, isFresh, nFresh, freshOf, mkR, hole, evL, evH, opd, get, putD, ofVal, cellOf, loadE, behind, lenE, idxAddrE, idxE, addPtr, intE, strE, unE, convE, AV.int, AV.bool, AV.str, ivs, take, frameOf, firstRegion, refsA, refsL, one, cellsA, floatOk, apartT, List.map, if_true, if_false, E_P, E_glob0, E_glob1, reduceCtorEq, beq_self_eq_true, decide_true, decide_false, ↓reduceIte, Nat.reduceEqDiff, cond_true, cond_false, or_true, true_or, or_false, false_or, and_true, true_and, and_self, false_and, and_false, not_true, not_false_iff, Nat.reduceAdd, Nat.reduceSub, Nat.reduceMul, Nat.reduceLT, Nat.reduceLeDiff, Int.reduceToNat, Int.reduceLT, Int.reduceLE, Option.getD, Int.reduceMul, Int.reduceAdd, List.drop, List.take, Nat.reduceBEq, List.isEmpty, Int.reduceEq, Int.reduceNe, Int.reduceNeg, Int.reduceGT, Int.reduceGE, beq_true, beq_false, UInt8.reduceToNat, eqE, eq_self, foldE, maxE, minE, eq_T, eq_F, ndec, odec, adec, sdec, fillA, over, chop, List.replicate, leavesOk, leafOk, cellsEq, cellEq, E_ext, E_byref, en17, bs22, bs24, hC, h0]
    exact ⟨_, rfl⟩
  · rw [if_pos h0]
    rw [h0] at hC
    have h5 := check_len h0
    have hnn : ((l.length : Int) + 1).toNat = l.length + 1 := by omega
    obtain ⟨fr, e, f5⟩ := l17_0 l h5 (l.length + 1) rfl (check_ok h0) l.length (Nat.le_refl _) (List.replicate (l.length + 1) 0) (by simp) (fun x hx => by have := List.eq_of_mem_replicate hx; omega)
    have hfl : (fRun l l.length (List.replicate (l.length + 1) 0)).length = l.length + 1 := by
      have : ∀ (k : Nat) (out : List Int), (fRun l k out).length = out.length := fun k => by
        induction k with
        | zero => intro out; rfl
        | succ k ih => intro out; rw [fRun, ih, fStep_len]
      rw [this, List.length_replicate]
    have hrow := rows64_get (l := fRun l l.length (List.replicate (l.length + 1) 0)) (k := 0) (by omega)
    generalize fRun l l.length (List.replicate (l.length + 1) 0) = o1 at *
    generalize o1.getD 0 0 = z at *
    have e2 : rl E 0 17 (loopAt Tryd.f17 0) [(0, .i (.sl 2 (rowsI l) false)), (5, .ref 0 0 0 (l.length + 1)), (6, .i (.v (.int .i64 ((l.length : Int) - 1))))] [.sl 1 0 ([.v (.int .i64 0)] :: rows64 (List.replicate l.length 0)) false] = _ := e
    clear e
    rw [callT_eq Tryd.func17 rfl fok17 (by simp [Tryd.ntmps17])]
    simp (disch := first | omega | (simp only [List.length_append, List.length_map, List.length_set, List.length_cons, List.length_nil, List.length_take, List.length_drop, rowsI_len, rows64_len]; omega)) only [va0, va1, va2, va3, va4, va5, va6, va7, va8, va9, va10, va11, va12, va13, va14, va15, vb0, vb1, vb2, vb3, w_i8, w_u8, w_i16, w_u16, w_i32, w_u32, w_i64, w_u64, lt_T, lt_F, le_T, le_F, nlt_T, nlt_F, nle_T, nle_F, List.take_of_length_le, gB, gcW, gcR, posIn, renA, renL, Chunk.ren, Chunk.refs, evOpD, touchD, stepC, isFresh, nFresh, freshOf, mkR, hole, evL, evH, opd, get, putD, ofVal, cellOf, loadE, behind, lenE, idxAddrE, idxE, addPtr, intE, strE, unE, convE, AV.int, AV.bool, AV.str, ivs, take, frameOf, firstRegion, refsA, refsL, one, cellsA, floatOk, apartT, List.map, if_true, if_false, E_P, E_glob0, E_glob1, reduceCtorEq, beq_self_eq_true, decide_true, decide_false, ↓reduceIte, Nat.reduceEqDiff, cond_true, cond_false, or_true, true_or, or_false, false_or, and_true, true_and, and_self, false_and, and_false, not_true, not_false_iff, Nat.reduceAdd, Nat.reduceSub, Nat.reduceMul, Nat.reduceLT, Nat.reduceLeDiff, Int.reduceToNat, Int.reduceLT, Int.reduceLE, Option.getD, Int.reduceMul, Int.reduceAdd, List.drop, List.take, Nat.reduceBEq, List.isEmpty, Int.reduceEq, Int.reduceNe, Int.reduceNeg, Int.reduceGT, Int.reduceGE, beq_true, beq_false, UInt8.reduceToNat, eqE, eq_self, foldE, maxE, minE, eq_T, eq_F, ndec, odec, adec, sdec, fillA, over, chop, List.replicate, leavesOk, leafOk, cellsEq, cellEq, E_ext, E_byref, en17, bs22, bs24, hC, rowsI_len, rows64_len, rows64_rep, hnn, hrow, e2, f5, show ∀ B fr H, execT E B 17 (Code.loop _) fr H = rlG E B 17 (loopAt Tryd.f17 0) (gcn B (norm [0, 5, 6] fr) H) from fun B fr H => rl_intro rfl mt17_6 mb17_6 zf17_6 hd17_6 fr H]
    exact ⟨_, rfl⟩
theorem ik17 (l : List Ins) (hl : (l.length : Int) < 9223372036854775808) (H : Hp) : isoK E (callT E) 17 [.i (.sl 2 (rowsI l) false)] H = some (.tup [.i (.v (.int .i64 (fuelS l).1)), .i (.v (.int .i64 (fuelS l).2))], H) := isoK_val rfl rfl rfl (c17 l hl)
theorem law4 (l : List Ins) (hl : l.length ≤ 9223372036854775807) : ∃ L, callT E 4 [.i (.sl 2 (rowsI l) false)] [] = some (.i (.v (.bool true)), L) := by
  by_cases h6 : 600 < (l.length : Int)
  · rw [callT_eq Tryd.func4 rfl fok4 (by simp [Tryd.ntmps4])]
    simp (disch := first | omega | (simp only [List.length_append, List.length_map, List.length_set, List.length_cons, List.length_nil, List.length_take, List.length_drop, rowsI_len]; omega)) only [va0, va1, va2, va3, va4, va5, va6, va7, va8, va9, va10, va11, va12, va13, va14, va15, vb0, vb1, vb2, vb3, w_i8, w_u8, w_i16, w_u16, w_i32, w_u32, w_i64, w_u64, lt_T, lt_F, le_T, le_F, nlt_T, nlt_F, nle_T, nle_F, List.take_of_length_le, gB, gcW, gcR, posIn, renA, renL, Chunk.ren, Chunk.refs, evOpD, touchD, stepC, isFresh, nFresh, freshOf, mkR, hole, evL, evH, opd, get, putD, ofVal, cellOf, loadE, behind, lenE, idxAddrE, idxE, addPtr, intE, strE, unE, convE, AV.int, AV.bool, AV.str, ivs, take, frameOf, firstRegion, refsA, refsL, one, cellsA, floatOk, apartT, List.map, if_true, if_false, E_P, E_glob0, E_glob1, reduceCtorEq, beq_self_eq_true, decide_true, decide_false, ↓reduceIte, Nat.reduceEqDiff, cond_true, cond_false, or_true, true_or, or_false, false_or, and_true, true_and, and_self, false_and, and_false, not_true, not_false_iff, Nat.reduceAdd, Nat.reduceSub, Nat.reduceMul, Nat.reduceLT, Nat.reduceLeDiff, Int.reduceToNat, Int.reduceLT, Int.reduceLE, Option.getD, Int.reduceMul, Int.reduceAdd, List.drop, List.take, Nat.reduceBEq, List.isEmpty, Int.reduceEq, Int.reduceNe, Int.reduceNeg, Int.reduceGT, Int.reduceGE, beq_true, beq_false, UInt8.reduceToNat, eqE, eq_self, foldE, maxE, minE, eq_T, eq_F, ndec, odec, adec, sdec, fillA, over, chop, List.replicate, leavesOk, leafOk, cellsEq, cellEq, E_ext, E_byref, en4, bs22, rowsI_len, h6, ik11]
    exact ⟨_, rfl⟩
  · have h1 := fun H => ik16 l (by omega) H
    have h2 := fun H => ik17 l (by omega) H
    generalize fuelS l = q at *
    rw [callT_eq Tryd.func4 rfl fok4 (by simp [Tryd.ntmps4])]
    simp (disch := first | omega | (simp only [List.length_append, List.length_map, List.length_set, List.length_cons, List.length_nil, List.length_take, List.length_drop, rowsI_len]; omega)) only [va0, va1, va2, va3, va4, va5, va6, va7, va8, va9, va10, va11, va12, va13, va14, va15, vb0, vb1, vb2, vb3, w_i8, w_u8, w_i16, w_u16, w_i32, w_u32, w_i64, w_u64, lt_T, lt_F, le_T, le_F, nlt_T, nlt_F, nle_T, nle_F, List.take_of_length_le, gB, gcW, gcR, posIn, renA, renL, Chunk.ren, Chunk.refs, evOpD, touchD, stepC, isFresh, nFresh, freshOf, mkR, hole, evL, evH, opd, get, putD, ofVal, cellOf, loadE, behind, lenE, idxAddrE, idxE, addPtr, intE, strE, unE, convE, AV.int, AV.bool, AV.str, ivs, take, frameOf, firstRegion, refsA, refsL, one, cellsA, floatOk, apartT, List.map, if_true, if_false, E_P, E_glob0, E_glob1, reduceCtorEq, beq_self_eq_true, decide_true, decide_false, ↓reduceIte, Nat.reduceEqDiff, cond_true, cond_false, or_true, true_or, or_false, false_or, and_true, true_and, and_self, false_and, and_false, not_true, not_false_iff, Nat.reduceAdd, Nat.reduceSub, Nat.reduceMul, Nat.reduceLT, Nat.reduceLeDiff, Int.reduceToNat, Int.reduceLT, Int.reduceLE, Option.getD, Int.reduceMul, Int.reduceAdd, List.drop, List.take, Nat.reduceBEq, List.isEmpty, Int.reduceEq, Int.reduceNe, Int.reduceNeg, Int.reduceGT, Int.reduceGE, beq_true, beq_false, UInt8.reduceToNat, eqE, eq_self, foldE, maxE, minE, eq_T, eq_F, ndec, odec, adec, sdec, fillA, over, chop, List.replicate, leavesOk, leafOk, cellsEq, cellEq, E_ext, E_byref, en4, bs22, rowsI_len, h6, h1, h2, ik11]
    exact ⟨_, rfl⟩
theorem c4 (l : List Ins) (hl : l.length ≤ 9223372036854775807) : ∃ L, callT E 4 [.i (.sl 2 (l.map fun a => insC a) false)] [] = some (.i (.v (.bool true)), L) := law4 l hl
end Go.VI

set_option linter.unusedSimpArgs false
set_option linter.unusedVariables false
namespace Go.VI
open Go.Proofs
theorem laid_tail {P : Program} {W : World} {x : String × DataW Unit} {l : List (String × DataW Unit)} (h : laidMet P (x :: l) W) : laidMet P l W := by
  obtain ⟨ps, ⟨g, t, cs, fuel, p, q, _, _, _, _, hr, rfl⟩, hnd, hrows⟩ := h
  exact ⟨q, hr, hnd.sublist (List.sublist_append_right _ _), fun b off hp => hrows b off (List.mem_append.2 (.inr hp))⟩
theorem glob_of_tabI {P : Program} {W : World} {name : String} {g : Nat} {tab : List Int} (hg : P.globalNamed name = some g) (h : Lib.TabIs P W name .i64 tab) : RelI (imm0 W) (.pt (tabT tab) 0) (.pointer (some ⟨g, 0, none⟩)) := by
  unfold Lib.TabIs World.var? at h
  rw [hg] at h
  simp only [Option.bind_some] at h
  split at h
  · rename_i cs e fz hh
    simp only [Option.some.injEq] at h
    refine .pt (tabT tab) 0 g 0 cs e fz (fun k => .int .i64 (tab.getD k 0)) hh (fun k a hk => ?_) (fun k a hk => ?_)
    · have hl : k < tab.length := by
        have := (List.getElem?_eq_some_iff.1 hk).1
        simpa [tabT] using this
      subst h
      simp [List.getD, hl]
    · have hl : k < tab.length := by
        have := (List.getElem?_eq_some_iff.1 hk).1
        simpa [tabT] using this
      simp only [tabT, List.getElem?_map, List.getElem?_eq_getElem hl, Option.map_some, Option.some.injEq] at hk
      subst hk
      simp [List.getD, hl]
      exact .v _ rfl
  · cases h
theorem globs2 {W : World} (h0 : Lib.TabIs Tryd.prog W "narrator/scriptverify.pops" .i64 popsL) (h1 : Lib.TabIs Tryd.prog W "narrator/scriptverify.pushes" .i64 pushesL) : ∀ g cells, E.glob g = some cells → RelI (imm0 W) (.pt cells 0) (.pointer (some ⟨g, 0, none⟩)) := by
  intro g cells hg
  rcases E_globI g cells hg with ⟨rfl, rfl⟩ | ⟨rfl, rfl⟩ | h'
  · exact glob_of_tabI (by kernel_rfl) h0
  · exact glob_of_tabI (by kernel_rfl) h1
  · exact h'.elim
end Go.VI

