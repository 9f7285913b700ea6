import Derived.Test.YtbacmnbjkhjopaaDoorProg
import Derived.KernelRfl
import Derived.RangeFuncNested
import Derived.RangeFuncBound
import Derived.RangeFuncCalls
import Derived.RangeFuncLeaves
import Derived.Shelf.Abstract
import Derived.Shelf.RegionOpen
import Derived.WalkKit
import Derived.OwnWalkIn
import Derived.TacticsInMore
import Derived.LoopNIn
import Derived.LoopIn
import Derived.Lib.LaidTab
import Derived.MakeChecks
import Derived.Test.YtbacmnbjkhjopaaDoorZZR3
set_option linter.unusedVariables false
set_option linter.defProp false
set_option maxRecDepth 20000
namespace Go.VI
open Go.Proofs
def keepT : List (Nat × List (Nat × List Nat)) := [
  (2, [(0, [])]),
  (3, [(0, [0]), (1, [0, 9]), (2, [2]), (3, [0, 3, 4]), (4, [0, 3, 4, 5, 6]), (5, [2])]),
  (4, [(0, [0]), (1, [0, 9]), (2, [2]), (3, [0, 3, 4]), (4, [3, 4, 5, 6]), (5, [2])]),
  (5, [(0, [0]), (1, [0, 9]), (2, [2]), (3, [0, 3, 4]), (4, [3, 4, 5, 6]), (5, [2])]),
  (6, [(0, [0, 1]), (1, [0, 1, 5, 6]), (2, [0, 1, 5, 6, 7, 8]), (3, [0, 1, 5, 7, 8, 29]), (4, [4]), (5, [0, 5, 7, 8, 9]), (6, [0, 5, 9, 48]), (7, [4]), (8, [0, 5, 9, 10]), (9, [0, 5, 10, 49, 50, 51]), (10, [0, 5, 10, 49, 50, 51, 52]), (11, [0, 5, 10, 12, 49, 50, 51]), (12, [0, 5, 10, 12, 49, 50, 51, 70]), (13, [4]), (14, [0, 5, 10, 49, 50, 51]), (15, [0, 5, 10, 49, 50, 51, 87]), (16, [4]), (17, [0, 5, 10, 49, 50, 51]), (18, [4])]),
  (7, [(0, [0]), (1, [0, 17]), (2, [2]), (3, [0, 3]), (4, [0, 3, 19, 20, 21]), (5, [0, 3, 19, 20, 21, 22]), (6, [0, 3, 5, 19, 20, 21]), (7, [0, 3, 19, 20, 21, 27]), (8, [0, 3, 19, 20, 21]), (9, [0, 3, 19, 20, 21]), (10, [0, 3, 32]), (11, [2]), (12, [0, 3, 6]), (13, [0, 3, 6, 7]), (14, [0, 3, 6, 7, 37]), (15, [0, 3, 6, 7]), (16, [0, 3, 6, 7]), (17, [6, 8, 9]), (18, [2])]),
  (8, [(0, [0]), (1, [0, 3, 4]), (2, [0, 3, 24]), (3, [2]), (4, [0, 3, 30]), (5, [2]), (6, [0, 3, 5]), (7, [0, 3, 5, 31, 32, 33]), (8, [0, 3, 5, 31, 32, 33, 34]), (9, [0, 3, 5, 7, 31, 32, 33]), (10, [0, 3, 5, 31, 32, 33, 39]), (11, [0, 3, 5, 31, 32, 33]), (12, [0, 3, 5, 31, 32, 33]), (13, [0, 3, 5, 44]), (14, [2]), (15, [0, 3, 5, 8]), (16, [0, 3, 5, 8, 9]), (17, [0, 3, 5, 8, 9, 52]), (18, [0, 3, 5, 8, 9]), (19, [0, 3, 5, 8, 9, 57, 58, 59]), (20, [0, 3, 5, 8, 9, 57, 58, 59, 60]), (21, [0, 3, 5, 8, 9, 11, 57, 58, 59]), (22, [0, 3, 5, 8, 9, 57, 58, 59]), (23, [0, 3, 5, 8, 9, 57, 58, 59]), (24, [0, 3, 8, 12]), (25, [0, 3, 8, 12, 70]), (26, [0, 3, 8, 12]), (27, [0, 3, 8, 12, 82]), (28, [2]), (29, [2])]),
  (9, [(0, [0]), (1, [0, 11]), (2, [2]), (3, [0, 3, 4]), (4, [0, 3, 4, 13, 14, 15]), (5, [0, 3, 4, 13, 14, 15, 16]), (6, [0, 3, 4, 6, 13, 14, 15]), (7, [0, 3, 4, 6, 13, 14, 15]), (8, [0, 3, 4, 13, 14, 15]), (9, [0, 3, 4, 13, 14, 15]), (10, [3, 4, 7, 8]), (11, [2])]),
  (10, [(0, [0, 1]), (1, [0, 1, 18]), (2, [4]), (3, [0, 5]), (4, [0, 5, 6, 7]), (5, [0, 5, 6, 39]), (6, [4]), (7, [5, 6, 8]), (8, [6, 8]), (9, [6, 9, 10]), (10, [4])]),
  (11, [(0, []), (1, [1]), (2, [1, 2, 3]), (3, [1, 2, 3, 4, 5]), (4, [2, 3, 4, 5, 6, 7]), (5, [2, 3, 4, 5, 6, 7, 8, 9]), (6, [0])]),
  (12, [(0, [1, 2, 3]), (1, [1, 2, 3, 4]), (2, [1, 2, 3, 4, 14]), (3, [2, 3]), (4, [1, 2, 3, 5]), (5, [1, 2, 3, 5, 21, 22]), (6, [1, 2, 3, 5, 21, 22, 23]), (7, [1, 2, 3, 5, 6, 21, 22]), (8, [1, 2, 3, 5, 21, 22]), (9, [1, 2, 3, 5, 21, 22]), (10, [1, 2, 3, 5]), (11, [1, 2, 3, 5, 31, 32, 33]), (12, [1, 2, 3, 5, 31, 32, 33, 34]), (13, [1, 2, 3, 5, 7, 8, 31, 32, 33]), (14, [1, 2, 3, 5, 7, 8, 31, 32, 33, 42]), (15, [1, 2, 3, 5, 7, 8, 9, 31, 32, 33]), (16, [1, 2, 3, 5, 7, 8, 9, 31, 32, 33, 69]), (17, [2, 3]), (18, [1, 2, 3, 5, 9, 31, 32, 33, 72]), (19, [1, 2, 3, 5, 9, 10]), (20, [2, 3, 5, 9, 10, 92]), (21, []), (22, []), (23, [1, 2, 3, 5, 31, 32, 33]), (24, [2, 3])]),
  (13, [(0, [0]), (1, [0, 4]), (2, [0, 4, 14]), (3, [2, 3]), (4, [0, 5]), (5, [0, 5, 6]), (6, [0, 5, 6, 19]), (7, [0, 5, 6]), (8, [0, 5, 6]), (9, [0, 5]), (10, [0, 5, 7]), (11, [0, 5, 7, 30]), (12, [0, 5, 7]), (13, [0, 5, 7, 37]), (14, [0, 5, 7, 8]), (15, [0, 5, 7, 8, 70]), (16, [2, 3]), (17, [0, 5, 7, 8, 9]), (18, [0, 5, 7, 8, 9, 10]), (19, [0, 5, 7, 8, 9, 10, 77]), (20, [0, 5, 7, 8, 9, 10]), (21, [0, 5, 7, 8, 9, 10, 107]), (22, [2, 3]), (23, [0, 5, 7, 8, 9, 10]), (24, [2, 3])]),
  (14, [(0, [0, 1]), (1, [0, 1, 10]), (2, [4]), (3, [0, 1, 5]), (4, [0, 1, 5, 14]), (5, [0, 1, 5]), (6, [0, 1, 5, 25]), (7, [4]), (8, [4])]),
  (15, [(0, [0]), (1, [4]), (2, [2])]),
  (16, [(0, [0, 2, 3]), (1, [0, 2, 3, 4]), (2, [0, 2, 3, 4, 11]), (3, [2, 3]), (4, [0, 2, 3, 5]), (5, [0, 2, 3, 5, 6]), (6, [0, 2, 3, 5, 6, 21]), (7, [0, 2, 3, 5, 6]), (8, [0, 2, 3, 5, 6, 29]), (9, [5, 6, 7]), (10, []), (11, [0, 2, 3, 5, 6]), (12, [0, 2, 3, 5, 49]), (13, [0, 2, 3, 5, 6]), (14, [2, 3])]),
  (17, [(0, [0]), (1, [0, 4]), (2, [0, 4, 12]), (3, [2, 3]), (4, [0, 5]), (5, [0, 5, 6]), (6, [0, 5, 6, 22]), (7, [0, 5, 6]), (8, [0, 5, 6, 7]), (9, [0, 5, 6, 7, 8]), (10, [0, 5, 6, 7, 8, 31]), (11, [0, 5, 6, 7, 8]), (12, [0, 5, 6, 7, 8]), (13, [0, 5, 6]), (14, [2, 3])]),
  (18, [(0, [0, 2, 3]), (1, [0, 2, 3, 4, 5]), (2, [0, 2, 3, 4, 5, 19]), (3, [2, 3]), (4, [0, 2, 3, 4, 6]), (5, [2, 3, 4, 6, 25, 26, 27]), (6, [2, 3, 4, 6, 25, 26, 27, 28]), (7, [2, 3, 4, 6, 7, 8, 25, 26, 27]), (8, [2, 3, 4, 6, 7, 8, 25, 26, 27, 36]), (9, [2, 3, 4, 6, 7, 8, 9, 25, 26, 27]), (10, [2, 3, 4, 6, 7, 8, 9, 25, 26, 27, 62]), (11, [2, 3]), (12, [2, 3, 4, 6, 7, 8, 9, 25, 26, 27]), (13, [2, 3, 4, 6, 9, 25, 26, 27, 73]), (14, [6, 9, 10]), (15, [6, 9, 10]), (16, [6, 10, 89, 90]), (17, [6, 10, 89, 90, 91]), (18, [6, 10, 11, 12, 89, 90]), (19, [6, 10, 89, 90]), (20, [6, 10, 89, 90]), (21, [2, 3, 4, 6, 25, 26, 27]), (22, [2, 3])]),
  (19, [(0, [0]), (1, [0, 5]), (2, [0, 5, 20]), (3, [2, 3]), (4, [0, 6]), (5, [0, 6]), (6, [0, 6, 7]), (7, [0, 6, 7, 8]), (8, [0, 6, 7, 8, 32]), (9, [0, 6, 7, 8]), (10, [0, 6, 7, 8, 9]), (11, [0, 6, 7, 8, 9, 41]), (12, [0, 6, 7, 8, 9, 10]), (13, [0, 6, 7, 8, 9, 10, 66]), (14, [0, 6, 7, 8, 9, 10]), (15, [0, 6, 7, 8, 11]), (16, [0, 6, 7, 8, 11, 12]), (17, [0, 6, 7, 8, 11, 12, 13]), (18, [0, 6, 7, 8, 11, 12, 13, 76]), (19, [0, 6, 7, 8, 11, 12, 13]), (20, [0, 6, 7, 8, 11, 12, 13]), (21, [2, 3])]),
  (20, [(0, [0, 1]), (1, [0, 1, 5]), (2, [0, 1, 5, 6]), (3, [0, 1, 5, 6, 11]), (4, [0, 1, 5, 6]), (5, [0, 1, 5, 6, 7]), (6, [0, 1, 5, 6, 7]), (7, [0, 1, 5, 6, 7, 23]), (8, [0, 1, 5, 6, 7, 23, 24]), (9, [4]), (10, [0, 1, 5, 6, 7, 23, 27]), (11, [0, 1, 5, 6]), (12, [0, 1, 5, 6, 7, 31]), (13, [0, 1, 5, 6, 7, 35]), (14, [0, 1, 5, 6]), (15, [0, 1, 5, 6]), (16, [4])]),
  (21, [(0, [0]), (1, [0, 3]), (2, [2])]),
  (22, [(0, [0]), (1, [0, 3]), (2, [2])]),
  (23, [(0, [0]), (1, [0, 9]), (2, [2]), (3, [0, 10, 11, 12]), (4, [0, 10, 11, 12, 13]), (5, [0, 3, 4, 10, 11, 12]), (6, [0, 3, 4, 10, 11, 12, 26]), (7, [2]), (8, [0, 4, 5, 6, 10, 11, 12]), (9, [0, 10, 11, 12, 45]), (10, [2]), (11, [0, 10, 11, 12]), (12, [2])]),
  (24, [(0, [2, 3]), (1, [4])]),
  (25, [(0, [0]), (1, [0, 9]), (2, [2]), (3, [0, 3]), (4, [0, 3, 13]), (5, [0, 3]), (6, [0, 3, 4]), (7, [0, 3, 4, 27]), (8, [2]), (9, [0, 3, 4, 5, 6]), (10, [0, 3, 4, 5, 6, 30]), (11, [0, 3, 4, 5]), (12, [0, 3, 4, 5, 6]), (13, [0, 3, 4, 5, 6, 33]), (14, [0, 3, 4, 5]), (15, [0, 3, 4, 5, 6]), (16, [0, 3, 47]), (17, [2]), (18, [2])]),
  (26, [(0, [0, 1]), (1, [0, 1, 9]), (2, [0, 1, 9, 10]), (3, [4]), (4, [0, 1, 9, 12]), (5, [4]), (6, [0, 1, 20]), (7, [4]), (8, [4])]),
  (27, [(0, [1, 2, 3, 6]), (1, [1, 2, 3, 6, 7]), (2, [1, 2, 3, 6, 7, 11]), (3, [1, 2, 3, 6]), (4, [1, 2, 3, 6, 7, 25]), (5, [1, 2, 3, 6]), (6, [1, 2, 3, 6, 7, 47]), (7, [1, 2, 3, 6]), (8, [1, 2, 3, 6, 7, 57]), (9, [1, 2, 3, 6]), (10, [1, 2, 3, 6, 7, 76]), (11, [1, 2, 3, 6]), (12, [1, 2, 3, 6, 88]), (13, [1, 2, 3, 6]), (14, [3, 6, 8]), (15, [3, 6, 8, 110]), (16, [3, 6, 8]), (17, [3, 6, 8]), (18, [6])]),
  (28, [(0, [1, 2, 4]), (1, [1, 2, 4, 5]), (2, [1, 2, 4, 5, 6]), (3, [1, 2, 4, 5, 6]), (4, [2, 4, 5, 6, 24]), (5, [2, 4, 5, 6, 24, 25]), (6, [2, 4, 5, 6, 24, 25]), (7, [2, 4, 5, 6, 24, 25]), (8, [4, 6]), (9, [2, 4, 5, 6, 24, 34]), (10, [2, 4, 5, 6, 24, 34]), (11, [2, 4, 5, 6, 24, 34]), (12, [2, 4, 5, 6, 24, 34]), (13, [2, 4, 5, 6, 24, 34]), (14, [4, 6]), (15, [2, 4, 5, 6, 24, 59]), (16, [4, 6]), (17, [2, 4, 5, 6, 24, 72]), (18, [4, 6]), (19, [2, 4, 5, 6, 24, 91]), (20, [4, 6]), (21, [2, 4, 5, 6, 24, 110]), (22, [4, 6]), (23, [4, 6, 24, 123]), (24, [4, 6, 24, 123]), (25, [4, 6, 24, 123]), (26, [4, 6, 123]), (27, [4, 6]), (28, [4])]),
  (29, [(0, [2, 3, 4]), (1, [2, 3, 4, 9]), (2, [4]), (3, [2, 3, 4, 5]), (4, [2, 3, 4, 5, 6]), (5, [2, 3, 4, 5, 6, 35]), (6, [2, 3, 4, 5, 6]), (7, [2, 3, 4, 5, 6]), (8, [4])]),
  (30, [(0, []), (1, [0])]),
  (31, [(0, [0, 1, 2]), (1, [1, 2, 8]), (2, [1, 2, 8, 9]), (3, [1, 2, 8, 11]), (4, [1, 2, 13]), (5, [6, 7]), (6, [6, 7]), (7, [6, 7])]),
  (32, [(0, [0, 1, 18]), (1, [0, 1, 26]), (2, [])]),
  (33, [(0, [0]), (1, [2])]),
  (54, [(0, []), (1, [])])]
def headT : List (Nat × List (Nat × List Nat)) := [
  (6, [(10, [0, 5, 10, 49, 50, 51])]),
  (7, [(5, [0, 3, 19, 20, 21]), (14, [0, 3, 6, 7])]),
  (8, [(8, [0, 3, 5, 31, 32, 33]), (17, [0, 3, 5, 8, 9]), (20, [0, 3, 5, 8, 9, 57, 58, 59]), (25, [0, 3, 8, 12])]),
  (9, [(5, [0, 3, 4, 13, 14, 15])]),
  (12, [(6, [1, 2, 3, 5, 21, 22]), (12, [1, 2, 3, 5, 31, 32, 33])]),
  (13, [(6, [0, 5, 6]), (11, [0, 5, 7]), (19, [0, 5, 7, 8, 9, 10])]),
  (14, [(4, [0, 1, 5])]),
  (16, [(6, [0, 2, 3, 5, 6])]),
  (17, [(6, [0, 5, 6]), (10, [0, 5, 6, 7, 8])]),
  (18, [(6, [2, 3, 4, 6, 25, 26, 27]), (17, [6, 10, 89, 90])]),
  (19, [(8, [0, 6, 7, 8]), (18, [0, 6, 7, 8, 11, 12, 13])]),
  (20, [(3, [0, 1, 5, 6])]),
  (23, [(4, [0, 10, 11, 12])]),
  (25, [(4, [0, 3])]),
  (27, [(15, [3, 6, 8])]),
  (29, [(5, [2, 3, 4, 5, 6])])]
def lk2 (t : List (Nat × List (Nat × List Nat))) (f i : Nat) : List Nat := match t.lookup f with | some l => (l.lookup i).getD [] | none => []
def floT : List (Nat × List (Nat × List (Nat × Nat))) := [
  (6, [(14, [(6, 9), (6, 11)])]),
  (8, [(27, [])]),
  (12, [(15, [(0, 14), (2, 14), (3, 14), (5, 14), (6, 14), (7, 14), (10, 14), (11, 14), (12, 14)]), (16, []), (20, [])]),
  (13, [(14, [(2, 9), (3, 9), (9, 13), (9, 15), (2, 16), (3, 16)]), (15, [(2, 9), (3, 9)])]),
  (14, [(6, [])]),
  (16, [(8, []), (10, [])]),
  (17, [(12, [])]),
  (18, [(12, []), (15, []), (19, [])]),
  (19, [(20, [(3, 13), (4, 13)])]),
  (23, [(6, [(5, 6)])]),
  (27, [(9, []), (14, [])]),
  (28, [(3, [(1, 6), (3, 6)]), (14, [(1, 16)]), (16, [(1, 8)]), (18, [(1, 14)]), (20, [(1, 14)])]),
  (29, [(2, [(1, 2), (2, 4), (1, 5)]), (7, [(1, 14)])])]
def lkF (t : List (Nat × List (Nat × List (Nat × Nat)))) (f i : Nat) : List (Nat × Nat) := match t.lookup f with | some l => (l.lookup i).getD [] | none => []
def matT : List (Nat × List (Nat × List (Nat × Nat))) := [(13, [(6, [(5, 1)]), (11, [(5, 1)]), (19, [(5, 1)])]), (20, [(3, [(5, 1)])])]
def matbT : List (Nat × List (Nat × List (Nat × Nat × Nat))) := []
def frzT : List (Nat × List (Nat × List (Nat × Nat))) := []
def lkG {α : Type} (t : List (Nat × List (Nat × List α))) (f i : Nat) : List α := match t.lookup f with | some l => (l.lookup i).getD [] | none => []
def kindT : List (Nat × List (Option Nat)) := [(22, [some 2]), (24, [some 1]), (47, [some 1]), (55, [some 17]), (60, [some 3]), (61, [none, none, some 1]), (62, [none, none, some 1]), (65, [some 1])]
def argkT : List (Nat × List (List (Option Nat))) := [(3, [[some 2]]), (4, [[some 2]]), (5, [[some 2]]), (6, [[some 2]]), (7, [[some 2]]), (8, [[some 2]]), (9, [[some 2]]), (10, [[some 2]]), (12, [[some 2]]), (13, [[some 2]]), (14, [[some 1], [some 1]]), (15, [[some 2]]), (16, [[some 2]]), (17, [[some 2]]), (18, [[some 2]]), (19, [[some 2]]), (20, [[some 2]]), (23, [[some 2]]), (25, [[some 2]]), (26, [[some 2]]), (28, [[none, none, some 1]]), (29, [[none, none, some 1], [none, none, some 1]])]
def reskT : List (Nat × List (List (Option Nat))) := [(12, [[some 1]]), (13, [[some 1]]), (20, [[some 1]]), (26, [[some 1]]), (28, [[none, none, some 1]]), (29, [[none, none, some 1]]), (30, [[some 1]])]
noncomputable def E : Env := { P := Tryd.prog, keep := lk2 keepT, head := lk2 headT, flo := lkF floT, hol := fun f i => false, glob := fun g => if g = 0 then some popsT else if g = 1 then some pushesT else none, byref := fun f => false, seq := fun f => if f = 32 then some seqSucc else none, ext := fun f =>  none, kinds := fun t => (kindT.lookup t).getD [], argk := fun f => (argkT.lookup f).getD [], resk := fun f => (reskT.lookup f).getD [], own := fun f => false, mat := lkG matT, matb := lkG matbT, frz := lkG frzT }
theorem E_P : E.P = Tryd.prog := rfl
theorem sq32 : E.seq 32 = some seqSucc := rfl
theorem E_seqI (f : Nat) (h : List (List Int) → Option (List Int)) (hf : E.seq f = some h) : (f = 32 ∧ h = seqSucc) ∨ False := by
  have h2 : (if f = 32 then some seqSucc else none) = some h := hf
  (repeat (split at h2)) <;> simp_all
theorem E_globI (g : Nat) (cells : List IV) (h : E.glob g = some cells) : (g = 0 ∧ cells = popsT) ∨ (g = 1 ∧ cells = pushesT) ∨ False := by
  have h2 : (if g = 0 then some popsT else if g = 1 then some pushesT else none) = some cells := h
  (repeat (split at h2)) <;> simp_all
theorem E_glob0 : E.glob 0 = some popsT := rfl
theorem E_glob1 : E.glob 1 = some pushesT := rfl
theorem E_ext (f : Nat) : E.ext f = none := rfl
theorem E_byref (f : Nat) : E.byref f = false := rfl
theorem agg22 : aggO Tryd.prog 22 = some false := by kernel_rfl
theorem agg24 : aggO Tryd.prog 24 = some false := by kernel_rfl
theorem agg25 : aggO Tryd.prog 25 = some false := by kernel_rfl
theorem agg3 : aggO Tryd.prog 3 = some false := by kernel_rfl
theorem agg4 : aggO Tryd.prog 4 = some false := by kernel_rfl
theorem agg41 : aggO Tryd.prog 41 = some false := by kernel_rfl
theorem agg45 : aggO Tryd.prog 45 = some true := by kernel_rfl
theorem agg47 : aggO Tryd.prog 47 = some false := by kernel_rfl
theorem agg50 : aggO Tryd.prog 50 = some true := by kernel_rfl
theorem agg65 : aggO Tryd.prog 65 = some false := by kernel_rfl
theorem agg9 : aggO Tryd.prog 9 = some false := by kernel_rfl
theorem arr22 : arrO Tryd.prog 22 = none := by kernel_rfl
theorem arr24 : arrO Tryd.prog 24 = none := by kernel_rfl
theorem arr47 : arrO Tryd.prog 47 = none := by kernel_rfl
theorem arr50 : arrO Tryd.prog 50 = some (21, 3) := by kernel_rfl
theorem arrz45 : arrO Tryd.prog 45 = none := by kernel_rfl
theorem fld45_0 : fldO Tryd.prog 45 0 = some (0, 3) := by kernel_rfl
theorem fld45_1 : fldO Tryd.prog 45 1 = some (1, 3) := by kernel_rfl
theorem kind22 : kindO Tryd.prog 22 = none := by kernel_rfl
theorem kind24 : kindO Tryd.prog 24 = none := by kernel_rfl
theorem kind3 : kindO Tryd.prog 3 = some .i64 := by kernel_rfl
theorem kind4 : kindO Tryd.prog 4 = none := by kernel_rfl
theorem kind41 : kindO Tryd.prog 41 = some .u32 := by kernel_rfl
theorem kind45 : kindO Tryd.prog 45 = none := by kernel_rfl
theorem kind47 : kindO Tryd.prog 47 = none := by kernel_rfl
theorem kind50 : kindO Tryd.prog 50 = none := by kernel_rfl
theorem kind65 : kindO Tryd.prog 65 = none := by kernel_rfl
theorem kind9 : kindO Tryd.prog 9 = none := by kernel_rfl
theorem pl45 : placesO Tryd.prog 45 = some [(0, 1), (1, 1)] := by kernel_rfl
theorem sl22 : slO Tryd.prog 22 = some 45 := by kernel_rfl
theorem sl24 : slO Tryd.prog 24 = some 3 := by kernel_rfl
theorem sl3 : slO Tryd.prog 3 = none := by kernel_rfl
theorem sl41 : slO Tryd.prog 41 = none := by kernel_rfl
theorem sl45 : slO Tryd.prog 45 = none := by kernel_rfl
theorem sl47 : slO Tryd.prog 47 = some 4 := by kernel_rfl
theorem sl50 : slO Tryd.prog 50 = none := by kernel_rfl
theorem sl65 : slO Tryd.prog 65 = some 9 := by kernel_rfl
theorem str22 : isStrO Tryd.prog 22 = false := by kernel_rfl
theorem str24 : isStrO Tryd.prog 24 = false := by kernel_rfl
theorem str3 : isStrO Tryd.prog 3 = false := by kernel_rfl
theorem str41 : isStrO Tryd.prog 41 = false := by kernel_rfl
theorem str45 : isStrO Tryd.prog 45 = false := by kernel_rfl
theorem str47 : isStrO Tryd.prog 47 = false := by kernel_rfl
theorem str50 : isStrO Tryd.prog 50 = false := by kernel_rfl
theorem str65 : isStrO Tryd.prog 65 = false := by kernel_rfl
theorem sz22 : szO Tryd.prog 22 = some 1 := by kernel_rfl
theorem sz24 : szO Tryd.prog 24 = some 1 := by kernel_rfl
theorem sz25 : szO Tryd.prog 25 = some 1 := by kernel_rfl
theorem sz3 : szO Tryd.prog 3 = some 1 := by kernel_rfl
theorem sz4 : szO Tryd.prog 4 = some 1 := by kernel_rfl
theorem sz45 : szO Tryd.prog 45 = some 2 := by kernel_rfl
theorem sz9 : szO Tryd.prog 9 = some 1 := by kernel_rfl
theorem und4 : Tryd.prog.underlying 4 = some .bool := by kernel_rfl
theorem zero24 : zeroO Tryd.prog 24 = some (.i (.sl 0 [] true)) := by kernel_rfl
theorem zero25 : zeroO Tryd.prog 25 = some (.i (.v (.int .i64 0))) := by kernel_rfl
theorem zero3 : zeroO Tryd.prog 3 = some (.i (.v (.int .i64 0))) := by kernel_rfl
theorem zero4 : zeroO Tryd.prog 4 = some (.i (.v (.bool false))) := by kernel_rfl
theorem zero45 : zeroO Tryd.prog 45 = some (.agg [.i (.v (.int .i64 0)), .i (.v (.int .i64 0))]) := by kernel_rfl
theorem zero9 : zeroO Tryd.prog 9 = some (.i (.str [])) := by kernel_rfl
theorem fok8 : fnOk E 8 = true := by kernel_rfl
theorem ent8 : enterOk E 8 = true := by kernel_rfl
theorem ent11 : enterOk E 11 = true := by kernel_rfl
theorem fok12 : fnOk E 12 = true := by kernel_rfl
theorem ent12 : enterOk E 12 = true := by kernel_rfl
theorem fok20 : fnOk E 20 = true := by kernel_rfl
theorem ent20 : enterOk E 20 = true := by kernel_rfl
theorem fok23 : fnOk E 23 = true := by kernel_rfl
theorem ent23 : enterOk E 23 = true := by kernel_rfl
theorem fok24 : fnOk E 24 = true := by kernel_rfl
theorem ent24 : enterOk E 24 = true := by kernel_rfl
theorem ent30 : enterOk E 30 = true := by kernel_rfl
theorem fok31 : fnOk E 31 = true := by kernel_rfl
theorem ent31 : enterOk E 31 = true := by kernel_rfl
theorem ent32 : enterOk E 32 = true := by kernel_rfl
theorem res8 : Tryd.f8.results = #[.tmp 2] := rfl
theorem res12 : Tryd.f12.results = #[.cell 2 24, .cell 3 25] := rfl
theorem res20 : Tryd.f20.results = #[.tmp 4] := rfl
theorem res23 : Tryd.f23.results = #[.tmp 2] := rfl
theorem res24 : Tryd.f24.results = #[.tmp 4] := rfl
theorem res31 : Tryd.f31.results = #[.tmp 6, .tmp 7] := rfl
theorem kp8_0 : E.keep 8 0 = [0] := by kernel_rfl
theorem kp8_1 : E.keep 8 1 = [0, 3, 4] := by kernel_rfl
theorem kp8_2 : E.keep 8 2 = [0, 3, 24] := by kernel_rfl
theorem kp8_3 : E.keep 8 3 = [2] := by kernel_rfl
theorem kp8_4 : E.keep 8 4 = [0, 3, 30] := by kernel_rfl
theorem kp8_5 : E.keep 8 5 = [2] := by kernel_rfl
theorem kp8_6 : E.keep 8 6 = [0, 3, 5] := by kernel_rfl
theorem kp8_7 : E.keep 8 7 = [0, 3, 5, 31, 32, 33] := by kernel_rfl
theorem kp8_8 : E.keep 8 8 = [0, 3, 5, 31, 32, 33, 34] := by kernel_rfl
theorem kp8_9 : E.keep 8 9 = [0, 3, 5, 7, 31, 32, 33] := by kernel_rfl
theorem kp8_10 : E.keep 8 10 = [0, 3, 5, 31, 32, 33, 39] := by kernel_rfl
theorem kp8_11 : E.keep 8 11 = [0, 3, 5, 31, 32, 33] := by kernel_rfl
theorem kp8_12 : E.keep 8 12 = [0, 3, 5, 31, 32, 33] := by kernel_rfl
theorem kp8_13 : E.keep 8 13 = [0, 3, 5, 44] := by kernel_rfl
theorem kp8_14 : E.keep 8 14 = [2] := by kernel_rfl
theorem kp8_15 : E.keep 8 15 = [0, 3, 5, 8] := by kernel_rfl
theorem kp8_16 : E.keep 8 16 = [0, 3, 5, 8, 9] := by kernel_rfl
theorem kp8_17 : E.keep 8 17 = [0, 3, 5, 8, 9, 52] := by kernel_rfl
theorem kp8_18 : E.keep 8 18 = [0, 3, 5, 8, 9] := by kernel_rfl
theorem kp8_19 : E.keep 8 19 = [0, 3, 5, 8, 9, 57, 58, 59] := by kernel_rfl
theorem kp8_20 : E.keep 8 20 = [0, 3, 5, 8, 9, 57, 58, 59, 60] := by kernel_rfl
theorem kp8_21 : E.keep 8 21 = [0, 3, 5, 8, 9, 11, 57, 58, 59] := by kernel_rfl
theorem kp8_22 : E.keep 8 22 = [0, 3, 5, 8, 9, 57, 58, 59] := by kernel_rfl
theorem kp8_23 : E.keep 8 23 = [0, 3, 5, 8, 9, 57, 58, 59] := by kernel_rfl
theorem kp8_24 : E.keep 8 24 = [0, 3, 8, 12] := by kernel_rfl
theorem kp8_25 : E.keep 8 25 = [0, 3, 8, 12, 70] := by kernel_rfl
theorem kp8_26 : E.keep 8 26 = [0, 3, 8, 12] := by kernel_rfl
theorem kp8_27 : E.keep 8 27 = [0, 3, 8, 12, 82] := by kernel_rfl
theorem kp8_28 : E.keep 8 28 = [2] := by kernel_rfl
theorem kp8_29 : E.keep 8 29 = [2] := by kernel_rfl
theorem kp12_0 : E.keep 12 0 = [1, 2, 3] := by kernel_rfl
theorem kp12_1 : E.keep 12 1 = [1, 2, 3, 4] := by kernel_rfl
theorem kp12_2 : E.keep 12 2 = [1, 2, 3, 4, 14] := by kernel_rfl
theorem kp12_3 : E.keep 12 3 = [2, 3] := by kernel_rfl
theorem kp12_4 : E.keep 12 4 = [1, 2, 3, 5] := by kernel_rfl
theorem kp12_5 : E.keep 12 5 = [1, 2, 3, 5, 21, 22] := by kernel_rfl
theorem kp12_6 : E.keep 12 6 = [1, 2, 3, 5, 21, 22, 23] := by kernel_rfl
theorem kp12_7 : E.keep 12 7 = [1, 2, 3, 5, 6, 21, 22] := by kernel_rfl
theorem kp12_8 : E.keep 12 8 = [1, 2, 3, 5, 21, 22] := by kernel_rfl
theorem kp12_9 : E.keep 12 9 = [1, 2, 3, 5, 21, 22] := by kernel_rfl
theorem kp12_10 : E.keep 12 10 = [1, 2, 3, 5] := by kernel_rfl
theorem kp12_11 : E.keep 12 11 = [1, 2, 3, 5, 31, 32, 33] := by kernel_rfl
theorem kp12_12 : E.keep 12 12 = [1, 2, 3, 5, 31, 32, 33, 34] := by kernel_rfl
theorem kp12_13 : E.keep 12 13 = [1, 2, 3, 5, 7, 8, 31, 32, 33] := by kernel_rfl
theorem kp12_14 : E.keep 12 14 = [1, 2, 3, 5, 7, 8, 31, 32, 33, 42] := by kernel_rfl
theorem kp12_15 : E.keep 12 15 = [1, 2, 3, 5, 7, 8, 9, 31, 32, 33] := by kernel_rfl
theorem kp12_16 : E.keep 12 16 = [1, 2, 3, 5, 7, 8, 9, 31, 32, 33, 69] := by kernel_rfl
theorem kp12_17 : E.keep 12 17 = [2, 3] := by kernel_rfl
theorem kp12_18 : E.keep 12 18 = [1, 2, 3, 5, 9, 31, 32, 33, 72] := by kernel_rfl
theorem kp12_19 : E.keep 12 19 = [1, 2, 3, 5, 9, 10] := by kernel_rfl
theorem kp12_20 : E.keep 12 20 = [2, 3, 5, 9, 10, 92] := by kernel_rfl
theorem kp12_21 : E.keep 12 21 = [] := by kernel_rfl
theorem kp12_22 : E.keep 12 22 = [] := by kernel_rfl
theorem kp12_23 : E.keep 12 23 = [1, 2, 3, 5, 31, 32, 33] := by kernel_rfl
theorem kp12_24 : E.keep 12 24 = [2, 3] := by kernel_rfl
theorem kp20_0 : E.keep 20 0 = [0, 1] := by kernel_rfl
theorem kp20_1 : E.keep 20 1 = [0, 1, 5] := by kernel_rfl
theorem kp20_2 : E.keep 20 2 = [0, 1, 5, 6] := by kernel_rfl
theorem kp20_3 : E.keep 20 3 = [0, 1, 5, 6, 11] := by kernel_rfl
theorem kp20_4 : E.keep 20 4 = [0, 1, 5, 6] := by kernel_rfl
theorem kp20_5 : E.keep 20 5 = [0, 1, 5, 6, 7] := by kernel_rfl
theorem kp20_6 : E.keep 20 6 = [0, 1, 5, 6, 7] := by kernel_rfl
theorem kp20_7 : E.keep 20 7 = [0, 1, 5, 6, 7, 23] := by kernel_rfl
theorem kp20_8 : E.keep 20 8 = [0, 1, 5, 6, 7, 23, 24] := by kernel_rfl
theorem kp20_9 : E.keep 20 9 = [4] := by kernel_rfl
theorem kp20_10 : E.keep 20 10 = [0, 1, 5, 6, 7, 23, 27] := by kernel_rfl
theorem kp20_11 : E.keep 20 11 = [0, 1, 5, 6] := by kernel_rfl
theorem kp20_12 : E.keep 20 12 = [0, 1, 5, 6, 7, 31] := by kernel_rfl
theorem kp20_13 : E.keep 20 13 = [0, 1, 5, 6, 7, 35] := by kernel_rfl
theorem kp20_14 : E.keep 20 14 = [0, 1, 5, 6] := by kernel_rfl
theorem kp20_15 : E.keep 20 15 = [0, 1, 5, 6] := by kernel_rfl
theorem kp20_16 : E.keep 20 16 = [4] := by kernel_rfl
theorem kp23_0 : E.keep 23 0 = [0] := by kernel_rfl
theorem kp23_1 : E.keep 23 1 = [0, 9] := by kernel_rfl
theorem kp23_2 : E.keep 23 2 = [2] := by kernel_rfl
theorem kp23_3 : E.keep 23 3 = [0, 10, 11, 12] := by kernel_rfl
theorem kp23_4 : E.keep 23 4 = [0, 10, 11, 12, 13] := by kernel_rfl
theorem kp23_5 : E.keep 23 5 = [0, 3, 4, 10, 11, 12] := by kernel_rfl
theorem kp23_6 : E.keep 23 6 = [0, 3, 4, 10, 11, 12, 26] := by kernel_rfl
theorem kp23_7 : E.keep 23 7 = [2] := by kernel_rfl
theorem kp23_8 : E.keep 23 8 = [0, 4, 5, 6, 10, 11, 12] := by kernel_rfl
theorem kp23_9 : E.keep 23 9 = [0, 10, 11, 12, 45] := by kernel_rfl
theorem kp23_10 : E.keep 23 10 = [2] := by kernel_rfl
theorem kp23_11 : E.keep 23 11 = [0, 10, 11, 12] := by kernel_rfl
theorem kp23_12 : E.keep 23 12 = [2] := by kernel_rfl
theorem kp24_0 : E.keep 24 0 = [2, 3] := by kernel_rfl
theorem kp24_1 : E.keep 24 1 = [4] := by kernel_rfl
theorem kp31_0 : E.keep 31 0 = [0, 1, 2] := by kernel_rfl
theorem kp31_1 : E.keep 31 1 = [1, 2, 8] := by kernel_rfl
theorem kp31_2 : E.keep 31 2 = [1, 2, 8, 9] := by kernel_rfl
theorem kp31_3 : E.keep 31 3 = [1, 2, 8, 11] := by kernel_rfl
theorem kp31_4 : E.keep 31 4 = [1, 2, 13] := by kernel_rfl
theorem kp31_5 : E.keep 31 5 = [6, 7] := by kernel_rfl
theorem kp31_6 : E.keep 31 6 = [6, 7] := by kernel_rfl
theorem kp31_7 : E.keep 31 7 = [6, 7] := by kernel_rfl
theorem hd8_8 : E.head 8 8 = [0, 3, 5, 31, 32, 33] := by kernel_rfl
theorem hd8_17 : E.head 8 17 = [0, 3, 5, 8, 9] := by kernel_rfl
theorem hd8_20 : E.head 8 20 = [0, 3, 5, 8, 9, 57, 58, 59] := by kernel_rfl
theorem hd8_25 : E.head 8 25 = [0, 3, 8, 12] := by kernel_rfl
theorem hd12_6 : E.head 12 6 = [1, 2, 3, 5, 21, 22] := by kernel_rfl
theorem hd12_12 : E.head 12 12 = [1, 2, 3, 5, 31, 32, 33] := by kernel_rfl
theorem hd20_3 : E.head 20 3 = [0, 1, 5, 6] := by kernel_rfl
theorem hd23_4 : E.head 23 4 = [0, 10, 11, 12] := by kernel_rfl
theorem fl8_27 : E.flo 8 27 = [] := by kernel_rfl
theorem ho8_27 : E.hol 8 27 = false := by kernel_rfl
theorem dr8_27 (B : Nat) (fr : Fr) (H : Hp) (ops : Array Oper) : execT E B 8 (.region 27 ops true) fr H = regK E 8 27 (evOps E (callT E) ops.toList ops.toList fr H) := execT_draw0 ho8_27 fl8_27 ops
theorem fl12_15 : E.flo 12 15 = [(0, 14), (2, 14), (3, 14), (5, 14), (6, 14), (7, 14), (10, 14), (11, 14), (12, 14)] := by kernel_rfl
theorem ho12_15 : E.hol 12 15 = false := by kernel_rfl
theorem dr12_15 (B : Nat) (fr : Fr) (H : Hp) (ops : Array Oper) : execT E B 12 (.region 15 ops true) fr H = regTK E 12 15 (evT E (callT E) ops.toList ops.toList fr H) := execT_draw ho12_15 ops
theorem fl12_16 : E.flo 12 16 = [] := by kernel_rfl
theorem ho12_16 : E.hol 12 16 = false := by kernel_rfl
theorem dr12_16 (B : Nat) (fr : Fr) (H : Hp) (ops : Array Oper) : execT E B 12 (.region 16 ops true) fr H = regK E 12 16 (evOps E (callT E) ops.toList ops.toList fr H) := execT_draw0 ho12_16 fl12_16 ops
theorem fl12_20 : E.flo 12 20 = [] := by kernel_rfl
theorem ho12_20 : E.hol 12 20 = false := by kernel_rfl
theorem dr12_20 (B : Nat) (fr : Fr) (H : Hp) (ops : Array Oper) : execT E B 12 (.region 20 ops true) fr H = regK E 12 20 (evOps E (callT E) ops.toList ops.toList fr H) := execT_draw0 ho12_20 fl12_20 ops
theorem fl23_6 : E.flo 23 6 = [(5, 6)] := by kernel_rfl
theorem ho23_6 : E.hol 23 6 = false := by kernel_rfl
theorem dr23_6 (B : Nat) (fr : Fr) (H : Hp) (ops : Array Oper) : execT E B 23 (.region 6 ops true) fr H = regTK E 23 6 (evT E (callT E) ops.toList ops.toList fr H) := execT_draw ho23_6 ops
theorem mt8_8 : E.mat 8 8 = [] := by kernel_rfl
theorem mb8_8 : E.matb 8 8 = [] := by kernel_rfl
theorem zf8_8 : E.frz 8 8 = [] := by kernel_rfl
theorem mt8_17 : E.mat 8 17 = [] := by kernel_rfl
theorem mb8_17 : E.matb 8 17 = [] := by kernel_rfl
theorem zf8_17 : E.frz 8 17 = [] := by kernel_rfl
theorem mt8_20 : E.mat 8 20 = [] := by kernel_rfl
theorem mb8_20 : E.matb 8 20 = [] := by kernel_rfl
theorem zf8_20 : E.frz 8 20 = [] := by kernel_rfl
theorem mt8_25 : E.mat 8 25 = [] := by kernel_rfl
theorem mb8_25 : E.matb 8 25 = [] := by kernel_rfl
theorem zf8_25 : E.frz 8 25 = [] := by kernel_rfl
theorem mt12_6 : E.mat 12 6 = [] := by kernel_rfl
theorem mb12_6 : E.matb 12 6 = [] := by kernel_rfl
theorem zf12_6 : E.frz 12 6 = [] := by kernel_rfl
theorem mt12_12 : E.mat 12 12 = [] := by kernel_rfl
theorem mb12_12 : E.matb 12 12 = [] := by kernel_rfl
theorem zf12_12 : E.frz 12 12 = [] := by kernel_rfl
theorem mt20_3 : E.mat 20 3 = [(5, 1)] := by kernel_rfl
theorem mb20_3 : E.matb 20 3 = [] := by kernel_rfl
theorem zf20_3 : E.frz 20 3 = [] := by kernel_rfl
theorem mt23_4 : E.mat 23 4 = [] := by kernel_rfl
theorem mb23_4 : E.matb 23 4 = [] := by kernel_rfl
theorem zf23_4 : E.frz 23 4 = [] := by kernel_rfl
theorem rk8 : E.resk 8 = [] := by kernel_rfl
theorem ow8 : E.own 8 = false := by kernel_rfl
theorem ak11 : E.argk 11 = [] := by kernel_rfl
theorem pe11 (args : List AV) (H : Hp) : prepE E 11 H args = peP E 11 (prep H args) := prepE_v rfl args
theorem cr11 (args : List AV) (H : Hp) : calleeR E 11 args H = crK args (peP E 11 (prep H args)) := (cr_prep args).trans (by rw [pe11])
theorem ci11 (args : List AV) (H : Hp) : callIso E (callT E) 11 args H = prepK E (callT E) 11 (peP E 11 (prep H args)) := (iso_prep args).trans (by rw [pe11])
theorem ak12 : E.argk 12 = [[some 2]] := by kernel_rfl
theorem rk12 : E.resk 12 = [[some 1]] := by kernel_rfl
theorem ow12 : E.own 12 = false := by kernel_rfl
theorem pe12 (args : List AV) (H : Hp) : prepE E 12 H args = peP E 12 (prep H args) := prepE_v rfl args
theorem cr12 (args : List AV) (H : Hp) : calleeR E 12 args H = crK args (peP E 12 (prep H args)) := (cr_prep args).trans (by rw [pe12])
theorem ci12 (args : List AV) (H : Hp) : callIso E (callT E) 12 args H = prepK E (callT E) 12 (peP E 12 (prep H args)) := (iso_prep args).trans (by rw [pe12])
theorem ak20 : E.argk 20 = [[some 2]] := by kernel_rfl
theorem rk20 : E.resk 20 = [[some 1]] := by kernel_rfl
theorem ow20 : E.own 20 = false := by kernel_rfl
theorem pe20 (args : List AV) (H : Hp) : prepE E 20 H args = peP E 20 (prep H args) := prepE_v rfl args
theorem cr20 (args : List AV) (H : Hp) : calleeR E 20 args H = crK args (peP E 20 (prep H args)) := (cr_prep args).trans (by rw [pe20])
theorem ci20 (args : List AV) (H : Hp) : callIso E (callT E) 20 args H = prepK E (callT E) 20 (peP E 20 (prep H args)) := (iso_prep args).trans (by rw [pe20])
theorem ak23 : E.argk 23 = [[some 2]] := by kernel_rfl
theorem rk23 : E.resk 23 = [] := by kernel_rfl
theorem ow23 : E.own 23 = false := by kernel_rfl
theorem pe23 (args : List AV) (H : Hp) : prepE E 23 H args = peP E 23 (prep H args) := prepE_v rfl args
theorem cr23 (args : List AV) (H : Hp) : calleeR E 23 args H = crK args (peP E 23 (prep H args)) := (cr_prep args).trans (by rw [pe23])
theorem ci23 (args : List AV) (H : Hp) : callIso E (callT E) 23 args H = prepK E (callT E) 23 (peP E 23 (prep H args)) := (iso_prep args).trans (by rw [pe23])
theorem ak24 : E.argk 24 = [] := by kernel_rfl
theorem rk24 : E.resk 24 = [] := by kernel_rfl
theorem ow24 : E.own 24 = false := by kernel_rfl
theorem pe24 (args : List AV) (H : Hp) : prepE E 24 H args = peP E 24 (prep H args) := prepE_v rfl args
theorem cr24 (args : List AV) (H : Hp) : calleeR E 24 args H = crK args (peP E 24 (prep H args)) := (cr_prep args).trans (by rw [pe24])
theorem ci24 (args : List AV) (H : Hp) : callIso E (callT E) 24 args H = prepK E (callT E) 24 (peP E 24 (prep H args)) := (iso_prep args).trans (by rw [pe24])
theorem ak30 : E.argk 30 = [] := by kernel_rfl
theorem pe30 (args : List AV) (H : Hp) : prepE E 30 H args = peP E 30 (prep H args) := prepE_v rfl args
theorem cr30 (args : List AV) (H : Hp) : calleeR E 30 args H = crK args (peP E 30 (prep H args)) := (cr_prep args).trans (by rw [pe30])
theorem ci30 (args : List AV) (H : Hp) : callIso E (callT E) 30 args H = prepK E (callT E) 30 (peP E 30 (prep H args)) := (iso_prep args).trans (by rw [pe30])
theorem ak31 : E.argk 31 = [] := by kernel_rfl
theorem rk31 : E.resk 31 = [] := by kernel_rfl
theorem ow31 : E.own 31 = false := by kernel_rfl
theorem pe31 (args : List AV) (H : Hp) : prepE E 31 H args = peP E 31 (prep H args) := prepE_v rfl args
theorem cr31 (args : List AV) (H : Hp) : calleeR E 31 args H = crK args (peP E 31 (prep H args)) := (cr_prep args).trans (by rw [pe31])
theorem ci31 (args : List AV) (H : Hp) : callIso E (callT E) 31 args H = prepK E (callT E) 31 (peP E 31 (prep H args)) := (iso_prep args).trans (by rw [pe31])
theorem ak32 : E.argk 32 = [] := by kernel_rfl
theorem pe32 (args : List AV) (H : Hp) : prepE E 32 H args = peP E 32 (prep H args) := prepE_v rfl args
theorem cr32 (args : List AV) (H : Hp) : calleeR E 32 args H = crK args (peP E 32 (prep H args)) := (cr_prep args).trans (by rw [pe32])
theorem ci32 (args : List AV) (H : Hp) : callIso E (callT E) 32 args H = prepK E (callT E) 32 (peP E 32 (prep H args)) := (iso_prep args).trans (by rw [pe32])
theorem bd45 (parts : List (Nat × AV)) : buildE E 45 parts = aggK (fillS [(0, 1), (1, 1)] [.i (.v (.int .i64 0)), .i (.v (.int .i64 0))] parts) := bd_struct (by kernel_rfl) (by kernel_rfl) (by kernel_rfl) parts
theorem cv48_3 (cl : CallF) (fr : Fr) (H : Hp) (x : Operand) : evOp E cl (.convert 48 3 x) fr H = pK H (convE E 48 3 (opd E fr x)) := op_convert _ _ _ (by kernel_rfl) (by kernel_rfl)
theorem sx24 (H : Hp) (x : AV) (lo hi : Option AV) : sliceE E H 24 x lo hi none = slN 1 H lo hi x := sl_sl (e := 3) (z := 1) (by kernel_rfl) (by kernel_rfl) (by kernel_rfl) x lo hi
theorem sx47 (H : Hp) (x : AV) (lo hi : Option AV) : sliceE E H 47 x lo hi none = slN 1 H lo hi x := sl_sl (e := 4) (z := 1) (by kernel_rfl) (by kernel_rfl) (by kernel_rfl) x lo hi
theorem sw24 (H : Hp) (sz : Nat) (rows : List (List IV)) (ex : Bool) (k k' : IntKind) (h m : Int) : sliceE E H 24 (.i (.sl sz rows ex)) none (some (.i (.v (.int k h)))) (some (.i (.v (.int k' m)))) = if 0 ≤ h ∧ h = m ∧ h ≤ rows.length ∧ (rows = [] ∨ 1 = sz) then some (.i (.sl sz (rows.take h.toNat) true)) else none := sl_sl3 (e := 3) (by kernel_rfl) (by kernel_rfl) sz rows ex k k' h m
theorem sw47 (H : Hp) (sz : Nat) (rows : List (List IV)) (ex : Bool) (k k' : IntKind) (h m : Int) : sliceE E H 47 (.i (.sl sz rows ex)) none (some (.i (.v (.int k h)))) (some (.i (.v (.int k' m)))) = if 0 ≤ h ∧ h = m ∧ h ≤ rows.length ∧ (rows = [] ∨ 1 = sz) then some (.i (.sl sz (rows.take h.toNat) true)) else none := sl_sl3 (e := 4) (by kernel_rfl) (by kernel_rfl) sz rows ex k k' h m
theorem ap22_22 (H : Hp) (s x : AV) : appendE E H 22 22 s x = apS 2 H s (srcE H x) := ap_eq (by kernel_rfl) H s x
theorem ap24_24 (H : Hp) (s x : AV) : appendE E H 24 24 s x = apS 1 H s (srcE H x) := ap_eq (by kernel_rfl) H s x
theorem ap47_47 (H : Hp) (s x : AV) : appendE E H 47 47 s x = apS 1 H s (srcE H x) := ap_eq (by kernel_rfl) H s x
theorem bs22 (H : Hp) (n : Nat) (hn : n * 2 ≤ 16777216) (parts : List (Nat × AV)) : buildSliceE E H 22 n parts = bsF [] 2 n H (fillA 2 (List.replicate n [.i (.v (.int .i64 0)), .i (.v (.int .i64 0))]).flatten parts) := bs_eq (by kernel_rfl) H n hn parts
theorem br22 (n : Nat) (parts : List (Nat × AV)) : buildRefs E 22 n parts = brK (fillA 2 (List.replicate n [.i (.v (.int .i64 0)), .i (.v (.int .i64 0))]).flatten parts) := br_eq (ks := []) (by kernel_rfl) n parts
theorem ms22 (H : Hp) (k k' : IntKind) (n m : Int) : makeSliceE E H 22 (.i (.v (.int k n))) (.i (.v (.int k' m))) = if 0 ≤ n ∧ n = m ∧ n < 1073741824 then some (.ref H.length 0 0 n.toNat, H ++ [.sl 2 0 (List.replicate n.toNat [.v (.int .i64 0), .v (.int .i64 0)]) true]) else none := ms_eq (by kernel_rfl) H k k' n m
theorem bs24 (H : Hp) (n : Nat) (hn : n * 1 ≤ 16777216) (parts : List (Nat × AV)) : buildSliceE E H 24 n parts = bsF [] 1 n H (fillA 1 (List.replicate n [.i (.v (.int .i64 0))]).flatten parts) := bs_eq (by kernel_rfl) H n hn parts
theorem br24 (n : Nat) (parts : List (Nat × AV)) : buildRefs E 24 n parts = brK (fillA 1 (List.replicate n [.i (.v (.int .i64 0))]).flatten parts) := br_eq (ks := []) (by kernel_rfl) n parts
theorem ms24 (H : Hp) (k k' : IntKind) (n m : Int) : makeSliceE E H 24 (.i (.v (.int k n))) (.i (.v (.int k' m))) = if 0 ≤ n ∧ n = m ∧ n < 1073741824 then some (.ref H.length 0 0 n.toNat, H ++ [.sl 1 0 (List.replicate n.toNat [.v (.int .i64 0)]) true]) else none := ms_eq (by kernel_rfl) H k k' n m
theorem bs47 (H : Hp) (n : Nat) (hn : n * 1 ≤ 16777216) (parts : List (Nat × AV)) : buildSliceE E H 47 n parts = bsF [] 1 n H (fillA 1 (List.replicate n [.i (.v (.bool false))]).flatten parts) := bs_eq (by kernel_rfl) H n hn parts
theorem br47 (n : Nat) (parts : List (Nat × AV)) : buildRefs E 47 n parts = brK (fillA 1 (List.replicate n [.i (.v (.bool false))]).flatten parts) := br_eq (ks := []) (by kernel_rfl) n parts
theorem ms47 (H : Hp) (k k' : IntKind) (n m : Int) : makeSliceE E H 47 (.i (.v (.int k n))) (.i (.v (.int k' m))) = if 0 ≤ n ∧ n = m ∧ n < 1073741824 then some (.ref H.length 0 0 n.toNat, H ++ [.sl 1 0 (List.replicate n.toNat [.v (.bool false)]) true]) else none := ms_eq (by kernel_rfl) H k k' n m
theorem bs65 (H : Hp) (n : Nat) (hn : n * 1 ≤ 16777216) (parts : List (Nat × AV)) : buildSliceE E H 65 n parts = bsF [] 1 n H (fillA 1 (List.replicate n [.i (.str [])]).flatten parts) := bs_eq (by kernel_rfl) H n hn parts
theorem br65 (n : Nat) (parts : List (Nat × AV)) : buildRefs E 65 n parts = brK (fillA 1 (List.replicate n [.i (.str [])]).flatten parts) := br_eq (ks := []) (by kernel_rfl) n parts
theorem ms65 (H : Hp) (k k' : IntKind) (n m : Int) : makeSliceE E H 65 (.i (.v (.int k n))) (.i (.v (.int k' m))) = if 0 ≤ n ∧ n = m ∧ n < 1073741824 then some (.ref H.length 0 0 n.toNat, H ++ [.sl 1 0 (List.replicate n.toNat [.str []]) true]) else none := ms_eq (by kernel_rfl) H k k' n m
theorem st22 (H : Hp) (c g r k : Nat) (v : AV) : storeE E H 22 (.ptr c g r k) v = if (cellsA v).length = 1 ∧ (cellsA v).all one = true then stC [some 2] 1 H c g r k (cellsA v) H[c]? else none := st_eq sz22 H c g r k v
theorem st24 (H : Hp) (c g r k : Nat) (v : AV) : storeE E H 24 (.ptr c g r k) v = if (cellsA v).length = 1 ∧ (cellsA v).all one = true then stC [some 1] 1 H c g r k (cellsA v) H[c]? else none := st_eq sz24 H c g r k v
theorem st25 (H : Hp) (c g r k : Nat) (v : AV) : storeE E H 25 (.ptr c g r k) v = if (cellsA v).length = 1 ∧ (cellsA v).all one = true then stC [] 1 H c g r k (cellsA v) H[c]? else none := st_eq sz25 H c g r k v
theorem st3 (H : Hp) (c g r k : Nat) (v : AV) : storeE E H 3 (.ptr c g r k) v = if (cellsA v).length = 1 ∧ (cellsA v).all one = true then stC [] 1 H c g r k (cellsA v) H[c]? else none := st_eq sz3 H c g r k v
theorem st4 (H : Hp) (c g r k : Nat) (v : AV) : storeE E H 4 (.ptr c g r k) v = if (cellsA v).length = 1 ∧ (cellsA v).all one = true then stC [] 1 H c g r k (cellsA v) H[c]? else none := st_eq sz4 H c g r k v
theorem st45 (H : Hp) (c g r k : Nat) (v : AV) : storeE E H 45 (.ptr c g r k) v = if (cellsA v).length = 2 ∧ (cellsA v).all one = true then stC [] 2 H c g r k (cellsA v) H[c]? else none := st_eq sz45 H c g r k v
theorem st9 (H : Hp) (c g r k : Nat) (v : AV) : storeE E H 9 (.ptr c g r k) v = if (cellsA v).length = 1 ∧ (cellsA v).all one = true then stC [] 1 H c g r k (cellsA v) H[c]? else none := st_eq sz9 H c g r k v
def en8 := And.intro @ent8 (And.intro @res8 (And.intro @rk8 (And.intro @ow8 (And.intro @kp8_0 (And.intro @kp8_1 (And.intro @kp8_2 (And.intro @kp8_3 (And.intro @kp8_4 (And.intro @kp8_5 (And.intro @kp8_6 (And.intro @kp8_7 (And.intro @kp8_8 (And.intro @kp8_9 (And.intro @kp8_10 (And.intro @kp8_11 (And.intro @kp8_12 (And.intro @kp8_13 (And.intro @kp8_14 (And.intro @kp8_15 (And.intro @kp8_16 (And.intro @kp8_17 (And.intro @kp8_18 (And.intro @kp8_19 (And.intro @kp8_20 (And.intro @kp8_21 (And.intro @kp8_22 (And.intro @kp8_23 (And.intro @kp8_24 (And.intro @kp8_25 (And.intro @kp8_26 (And.intro @kp8_27 (And.intro @kp8_28 (And.intro @kp8_29 (And.intro @hd8_8 (And.intro @hd8_17 (And.intro @hd8_20 (And.intro @hd8_25 (And.intro @fl8_27 (And.intro @dr8_27 (And.intro @sq32 (And.intro @ent11 (And.intro @ci11 (And.intro @cr11 (And.intro @ak11 (And.intro @ent12 (And.intro @ci12 (And.intro @cr12 (And.intro @ak12 (And.intro @ent20 (And.intro @ci20 (And.intro @cr20 (And.intro @ak20 (And.intro @agg22 (And.intro @agg24 (And.intro @agg3 (And.intro @agg4 (And.intro @agg41 (And.intro @agg45 (And.intro @agg47 (And.intro @arr22 (And.intro @arr24 (And.intro @arr47 (And.intro @arrz45 (And.intro @fld45_0 (And.intro @kind22 (And.intro @kind24 (And.intro @kind3 (And.intro @cv48_3 (And.intro @kind4 (And.intro @kind41 (And.intro @kind45 (And.intro @kind47 (And.intro @pl45 (And.intro @sl22 (And.intro @ms22 (And.intro @br22 (And.intro @ap22_22 (And.intro @sl24 (And.intro @ms24 (And.intro @br24 (And.intro @sx24 (And.intro @sw24 (And.intro @ap24_24 (And.intro @sl41 (And.intro @sl47 (And.intro @ms47 (And.intro @br47 (And.intro @sx47 (And.intro @sw47 (And.intro @ap47_47 (And.intro @str22 (And.intro @str24 (And.intro @str41 (And.intro @str47 (And.intro @sz3 (And.intro @st3 (And.intro @sz4 (And.intro @st4 (And.intro @sz45 (And.intro @st45 (And.intro @und4 (And.intro @zero3 (And.intro @zero4 (And.intro @zero45 (@bd45)))))))))))))))))))))))))))))))))))))))))))))))))))))))))))))))))))))))))))))))))))))))))))))))))))))))))
def en12 := And.intro @ent12 (And.intro @res12 (And.intro @rk12 (And.intro @ow12 (And.intro @kp12_0 (And.intro @kp12_1 (And.intro @kp12_2 (And.intro @kp12_3 (And.intro @kp12_4 (And.intro @kp12_5 (And.intro @kp12_6 (And.intro @kp12_7 (And.intro @kp12_8 (And.intro @kp12_9 (And.intro @kp12_10 (And.intro @kp12_11 (And.intro @kp12_12 (And.intro @kp12_13 (And.intro @kp12_14 (And.intro @kp12_15 (And.intro @kp12_16 (And.intro @kp12_17 (And.intro @kp12_18 (And.intro @kp12_19 (And.intro @kp12_20 (And.intro @kp12_21 (And.intro @kp12_22 (And.intro @kp12_23 (And.intro @kp12_24 (And.intro @hd12_6 (And.intro @hd12_12 (And.intro @fl12_15 (And.intro @dr12_15 (And.intro @fl12_16 (And.intro @dr12_16 (And.intro @fl12_20 (And.intro @dr12_20 (And.intro @sq32 (And.intro @ent23 (And.intro @ci23 (And.intro @cr23 (And.intro @ak23 (And.intro @ent24 (And.intro @ci24 (And.intro @cr24 (And.intro @ak24 (And.intro @agg22 (And.intro @agg24 (And.intro @agg25 (And.intro @agg3 (And.intro @agg45 (And.intro @agg50 (And.intro @arr22 (And.intro @arr24 (And.intro @arr50 (And.intro @arrz45 (And.intro @fld45_0 (And.intro @kind22 (And.intro @kind24 (And.intro @kind3 (And.intro @cv48_3 (And.intro @kind45 (And.intro @kind50 (And.intro @pl45 (And.intro @sl22 (And.intro @ms22 (And.intro @br22 (And.intro @ap22_22 (And.intro @sl24 (And.intro @ms24 (And.intro @br24 (And.intro @sx24 (And.intro @sw24 (And.intro @ap24_24 (And.intro @sl3 (And.intro @sl45 (And.intro @sl50 (And.intro @str22 (And.intro @str24 (And.intro @str3 (And.intro @str45 (And.intro @str50 (And.intro @sz22 (And.intro @st22 (And.intro @sz24 (And.intro @st24 (And.intro @sz25 (And.intro @st25 (And.intro @sz3 (And.intro @st3 (And.intro @sz45 (And.intro @st45 (And.intro @zero24 (And.intro @zero25 (And.intro @zero3 (And.intro @zero45 (@bd45))))))))))))))))))))))))))))))))))))))))))))))))))))))))))))))))))))))))))))))))))))))))))))))))
def en20 := And.intro @ent20 (And.intro @res20 (And.intro @rk20 (And.intro @ow20 (And.intro @kp20_0 (And.intro @kp20_1 (And.intro @kp20_2 (And.intro @kp20_3 (And.intro @kp20_4 (And.intro @kp20_5 (And.intro @kp20_6 (And.intro @kp20_7 (And.intro @kp20_8 (And.intro @kp20_9 (And.intro @kp20_10 (And.intro @kp20_11 (And.intro @kp20_12 (And.intro @kp20_13 (And.intro @kp20_14 (And.intro @kp20_15 (And.intro @kp20_16 (And.intro @hd20_3 (And.intro @sq32 (And.intro @agg22 (And.intro @agg24 (And.intro @agg3 (And.intro @agg45 (And.intro @arr22 (And.intro @arrz45 (And.intro @fld45_0 (And.intro @fld45_1 (And.intro @kind22 (And.intro @kind24 (And.intro @kind3 (And.intro @cv48_3 (And.intro @kind45 (And.intro @pl45 (And.intro @sl22 (And.intro @ms22 (And.intro @br22 (And.intro @ap22_22 (And.intro @sl24 (And.intro @ms24 (And.intro @br24 (And.intro @sx24 (And.intro @sw24 (And.intro @ap24_24 (And.intro @str22 (And.intro @str24 (And.intro @sz3 (And.intro @st3 (And.intro @sz45 (And.intro @st45 (And.intro @zero3 (And.intro @zero45 (@bd45)))))))))))))))))))))))))))))))))))))))))))))))))))))))
def en23 := And.intro @ent23 (And.intro @res23 (And.intro @rk23 (And.intro @ow23 (And.intro @kp23_0 (And.intro @kp23_1 (And.intro @kp23_2 (And.intro @kp23_3 (And.intro @kp23_4 (And.intro @kp23_5 (And.intro @kp23_6 (And.intro @kp23_7 (And.intro @kp23_8 (And.intro @kp23_9 (And.intro @kp23_10 (And.intro @kp23_11 (And.intro @kp23_12 (And.intro @hd23_4 (And.intro @fl23_6 (And.intro @dr23_6 (And.intro @sq32 (And.intro @ent30 (And.intro @ci30 (And.intro @cr30 (And.intro @ak30 (And.intro @ent31 (And.intro @ci31 (And.intro @cr31 (And.intro @ak31 (And.intro @agg22 (And.intro @agg3 (And.intro @agg45 (And.intro @agg65 (And.intro @agg9 (And.intro @arr22 (And.intro @arrz45 (And.intro @fld45_0 (And.intro @fld45_1 (And.intro @kind22 (And.intro @kind3 (And.intro @cv48_3 (And.intro @kind45 (And.intro @kind65 (And.intro @kind9 (And.intro @pl45 (And.intro @sl22 (And.intro @ms22 (And.intro @br22 (And.intro @ap22_22 (And.intro @sl3 (And.intro @sl65 (And.intro @ms65 (And.intro @br65 (And.intro @str22 (And.intro @str3 (And.intro @str65 (And.intro @sz3 (And.intro @st3 (And.intro @sz45 (And.intro @st45 (And.intro @sz9 (And.intro @st9 (And.intro @zero45 (And.intro @bd45 (@zero9))))))))))))))))))))))))))))))))))))))))))))))))))))))))))))))))
def en24 := And.intro @ent24 (And.intro @res24 (And.intro @rk24 (And.intro @ow24 (And.intro @kp24_0 (And.intro @kp24_1 (And.intro @sq32 (And.intro @ent32 (And.intro @ci32 (And.intro @cr32 (@ak32))))))))))
def en31 := And.intro @ent31 (And.intro @res31 (And.intro @rk31 (And.intro @ow31 (And.intro @kp31_0 (And.intro @kp31_1 (And.intro @kp31_2 (And.intro @kp31_3 (And.intro @kp31_4 (And.intro @kp31_5 (And.intro @kp31_6 (And.intro @kp31_7 (@sq32))))))))))))
end Go.VI

namespace Go.VI
open Go.Proofs Go.RowKit Go.Shelf
attribute [local go_sem] Oper.semAt_some
set_option maxRecDepth 100000
set_option linter.unusedSimpArgs false
set_option linter.unusedVariables false
set_option maxHeartbeats 4000000
theorem seq_inv {css : List (List Int)} {xs : List Int} (h : seqSucc css = some xs) : ∃ op arg i, css = [[op, arg], [i]] ∧ (-9223372036854775808 ≤ i + 1 ∧ i + 1 ≤ 9223372036854775807) ∧ sucL op arg i = xs := by
  unfold seqSucc at h
  split at h
  · rename_i op arg i
    split at h
    · rename_i hi
      cases h
      exact ⟨op, arg, i, rfl, hi, rfl⟩
    · cases h
  · cases h
theorem seq_succ : Seq1 Tryd.prog 32 seqSucc := by
  intro l nn css xs bs J Jx W hL hlen hcells hdr hdrx hY h0
  obtain ⟨op, arg, i, rfl, ⟨hi1, hi2⟩, rfl⟩ := seq_inv hL
  obtain ⟨b1, b2, rfl⟩ : ∃ b1 b2, bs = [b1, b2] := by
    cases bs with
    | nil => cases hlen
    | cons a bs => cases bs with
      | nil => cases hlen
      | cons b bs => cases bs with
        | nil => exact ⟨a, b, rfl⟩
        | cons c bs => simp at hlen
  have c1 : ∀ j W, J j W → W.cell? ⟨b1, 0, none⟩ = some (.int .i64 op) := fun j W h => hcells j W h 0 b1 [op, arg] rfl rfl 0 op rfl
  have c2 : ∀ j W, J j W → W.cell? ⟨b1, 1, none⟩ = some (.int .i64 arg) := fun j W h => hcells j W h 0 b1 [op, arg] rfl rfl 1 arg rfl
  have c3 : ∀ j W, J j W → W.cell? ⟨b2, 0, none⟩ = some (.int .i64 i) := fun j W h => hcells j W h 1 b2 [i] rfl rfl 0 i rfl
  have a1 := c1 0 W h0
  have a2 := c2 0 W h0
  have a3 := c3 0 W h0
  have hw : IntKind.i64.wrap (i + 1) = i + 1 := w_i64 hi1 hi2
  refine callsIn_of_wp Tryd.func32 rfl trivial ?_ rfl
  simp only [ptrV, List.map_cons, List.map_nil, Tryd.ntmps32, List.size_toArray, List.length_cons, List.length_nil, Nat.reduceAdd, Nat.reduceSub, Array.replicate_succ, Array.replicate_zero, List.push_toArray, List.append_toArray, List.nil_append, List.cons_append]
  by_cases h : op = 0
  · subst h
    have hs : sucL 0 arg i = [] := by simp [sucL]
    rw [hs] at hY ⊢
    gi_wp2
    refine ⟨fun _ h => (by cases h), ?_⟩
    gi_wp2
    go_end0
    exact ⟨⟨_, rfl⟩, .inl h0⟩
  · by_cases h17 : op = 17
    · subst h17
      have hs : sucL 17 arg i = [arg] := by simp [sucL]
      rw [hs] at hY ⊢
      obtain ⟨f1, t1, s1, d1, hy1, hR1⟩ := hY (nn - 1) 0 arg W rfl h0
      gi_wp2
      refine ⟨fun _ h => (by cases h), ?_⟩
      gi_wp2
      refine ⟨fun h => (by cases h), hR1.mono ?_⟩
      rintro e W1 (⟨rfl, hJ1⟩ | ⟨rfl, hx1⟩)
      · gi_wp2
        go_end0
        exact ⟨⟨_, rfl⟩, .inl hJ1⟩
      · gi_wp2
        go_end0
        exact ⟨⟨_, rfl⟩, .inr hx1⟩
    · have hs : sucL op arg i = (i + 1) :: (if op = 17 ∨ op = 18 then [arg] else []) := by unfold sucL; rw [if_neg (by omega)]; rfl
      rw [hs] at hY ⊢
      obtain ⟨f1, t1, s1, d1, hy1, hR1⟩ := hY (nn - 1) 0 (i + 1) W rfl h0
      have q1 : (op != 0) = true := by simp [h]
      have q2 : (op != 17) = true := by simp [h17]
      have q4 : (op == 17) = false := by simp [h17]
      by_cases h18 : op = 18
      · subst h18
        gi_wp2
        refine ⟨fun h => (by cases h), hR1.mono ?_⟩
        rintro e W1 (⟨rfl, hJ1⟩ | ⟨rfl, hx1⟩)
        · have e1 := c1 1 W1 hJ1
          have e2 := c2 1 W1 hJ1
          obtain ⟨f2, t2, s2, d2, hy2, hR2⟩ := hY (nn - 1) 1 arg W1 rfl hJ1
          gi_wp2
          refine ⟨fun h => (by cases h), hR2.mono ?_⟩
          rintro e W2 (⟨rfl, hJ2⟩ | ⟨rfl, hx2⟩)
          · gi_wp2
            go_end0
            exact ⟨⟨_, rfl⟩, .inl hJ2⟩
          · gi_wp2
            go_end0
            exact ⟨⟨_, rfl⟩, .inr hx2⟩
        · gi_wp2
          refine bodyPost_ret (results_none rfl _ _ _) rfl ?_
          exact ⟨⟨_, rfl⟩, .inr hx1⟩
      · rw [if_neg (show ¬ (op = 17 ∨ op = 18) by omega)] at hY ⊢
        have q3 : (op == 18) = false := by simp [h18]
        gi_wp2
        refine ⟨fun h => (by cases h), hR1.mono ?_⟩
        rintro e W1 (⟨rfl, hJ1⟩ | ⟨rfl, hx1⟩)
        · have e1 := c1 1 W1 hJ1
          gi_wp2
          go_end0
          exact ⟨⟨_, rfl⟩, .inl hJ1⟩
        · gi_wp2
          refine bodyPost_ret (results_none rfl _ _ _) rfl ?_
          exact ⟨⟨_, rfl⟩, .inr hx1⟩
theorem seqOK : SeqOK E := by
  intro g L h
  rcases E_seqI g L h with ⟨rfl, rfl⟩ | h
  · exact ⟨ent32, seq_succ⟩
  · exact h.elim
end Go.VI

namespace Go.VI
open Go.Proofs
set_option maxRecDepth 100000
set_option linter.unusedSimpArgs false
set_option linter.unusedVariables false
set_option maxHeartbeats 4000000
abbrev Ins := Int × Int
def insC (p : Ins) : List IV := [.v (.int .i64 p.1), .v (.int .i64 p.2)]
def rowsI (l : List Ins) : List (List IV) := l.map insC
theorem rowsI_len (l : List Ins) : (rowsI l).length = l.length := by simp [rowsI]
theorem rowsI_at {l : List Ins} {k : Nat} (h : k < l.length) : (rowsI l)[k]? = some [.v (.int .i64 l[k].1), .v (.int .i64 l[k].2)] := by simp [rowsI, insC, h]
def boundsS (op i n : Int) : Int × Int := if op = 1 then (-999999999, 999999999) else if op = 17 ∨ op = 18 then (i + 1, n) else (0, 0)
def chk1 (n i : Int) (p : Ins) : Int := if p.1 < 0 ∨ 20 < p.1 then 9 else if p.2 < (boundsS p.1 i n).1 ∨ (boundsS p.1 i n).2 < p.2 then 2 else 0
def chkL (n : Int) : Nat → List Ins → Int
  | _, [] => 0
  | i, p :: r => if chk1 n i p = 0 then chkL n (i + 1) r else chk1 n i p
def checkI (l : List Ins) : Int := if 500 < (l.length : Int) then 5 else chkL l.length 0 l
theorem c31 (op i n : Int) (hi : -9223372036854775808 ≤ i + 1 ∧ i + 1 ≤ 9223372036854775807) : ∃ L, callT E 31 [.i (.v (.int .i64 op)), .i (.v (.int .i64 i)), .i (.v (.int .i64 n))] [] = some (.tup [.i (.v (.int .i64 (boundsS op i n).1)), .i (.v (.int .i64 (boundsS op i n).2))], L) := by
  unfold boundsS
  by_cases h1 : op = 1
  · subst h1; rw [callT_eq Tryd.func31 rfl fok31 (by simp [Tryd.ntmps31])]; simp (disch := first | omega | (simp only [List.length_append, List.length_map, List.length_set, List.length_cons, List.length_nil, List.length_take, List.length_drop]; omega)) only [va0, va1, va2, va3, va4, va5, va6, va7, va8, va9, va10, va11, va12, va13, va14, va15, vb0, vb1, vb2, vb3, w_i8, w_u8, w_i16, w_u16, w_i32, w_u32, w_i64, w_u64, lt_T, lt_F, le_T, le_F, nlt_T, nlt_F, nle_T, nle_F, List.take_of_length_le, gB, gcW, gcR, posIn, renA, renL, Chunk.ren, Chunk.refs, evOpD, touchD, stepC, isFresh, nFresh, freshOf, mkR, hole, evL, evH, opd, get, putD, ofVal, cellOf, loadE, behind, lenE, idxAddrE, idxE, addPtr, intE, strE, unE, convE, AV.int, AV.bool, AV.str, ivs, take, frameOf, firstRegion, refsA, refsL, one, cellsA, floatOk, apartT, List.map, if_true, if_false, E_P, E_glob0, E_glob1, reduceCtorEq, beq_self_eq_true, decide_true, decide_false, ↓reduceIte, Nat.reduceEqDiff, cond_true, cond_false, or_true, true_or, or_false, false_or, and_true, true_and, and_self, false_and, and_false, not_true, not_false_iff, Nat.reduceAdd, Nat.reduceSub, Nat.reduceMul, Nat.reduceLT, Nat.reduceLeDiff, Int.reduceToNat, Int.reduceLT, Int.reduceLE, Option.getD, Int.reduceMul, Int.reduceAdd, List.drop, List.take, Nat.reduceBEq, List.isEmpty, Int.reduceEq, Int.reduceNe, Int.reduceNeg, Int.reduceGT, Int.reduceGE, beq_true, beq_false, UInt8.reduceToNat, eqE, eq_self, foldE, maxE, minE, eq_T, eq_F, ndec, odec, adec, sdec, fillA, over, chop, List.replicate, leavesOk, leafOk, cellsEq, cellEq, E_ext, E_byref, en31]; exact ⟨_, rfl⟩
  · by_cases h2 : op = 17
    · subst h2; rw [callT_eq Tryd.func31 rfl fok31 (by simp [Tryd.ntmps31])]; simp (disch := first | omega | (simp only [List.length_append, List.length_map, List.length_set, List.length_cons, List.length_nil, List.length_take, List.length_drop]; omega)) only [va0, va1, va2, va3, va4, va5, va6, va7, va8, va9, va10, va11, va12, va13, va14, va15, vb0, vb1, vb2, vb3, w_i8, w_u8, w_i16, w_u16, w_i32, w_u32, w_i64, w_u64, lt_T, lt_F, le_T, le_F, nlt_T, nlt_F, nle_T, nle_F, List.take_of_length_le, gB, gcW, gcR, posIn, renA, renL, Chunk.ren, Chunk.refs, evOpD, touchD, stepC, isFresh, nFresh, freshOf, mkR, hole, evL, evH, opd, get, putD, ofVal, cellOf, loadE, behind, lenE, idxAddrE, idxE, addPtr, intE, strE, unE, convE, AV.int, AV.bool, AV.str, ivs, take, frameOf, firstRegion, refsA, refsL, one, cellsA, floatOk, apartT, List.map, if_true, if_false, E_P, E_glob0, E_glob1, reduceCtorEq, beq_self_eq_true, decide_true, decide_false, ↓reduceIte, Nat.reduceEqDiff, cond_true, cond_false, or_true, true_or, or_false, false_or, and_true, true_and, and_self, false_and, and_false, not_true, not_false_iff, Nat.reduceAdd, Nat.reduceSub, Nat.reduceMul, Nat.reduceLT, Nat.reduceLeDiff, Int.reduceToNat, Int.reduceLT, Int.reduceLE, Option.getD, Int.reduceMul, Int.reduceAdd, List.drop, List.take, Nat.reduceBEq, List.isEmpty, Int.reduceEq, Int.reduceNe, Int.reduceNeg, Int.reduceGT, Int.reduceGE, beq_true, beq_false, UInt8.reduceToNat, eqE, eq_self, foldE, maxE, minE, eq_T, eq_F, ndec, odec, adec, sdec, fillA, over, chop, List.replicate, leavesOk, leafOk, cellsEq, cellEq, E_ext, E_byref, en31, w_i64]; exact ⟨_, rfl⟩
    · by_cases h3 : op = 18
      · subst h3; rw [callT_eq Tryd.func31 rfl fok31 (by simp [Tryd.ntmps31])]; simp (disch := first | omega | (simp only [List.length_append, List.length_map, List.length_set, List.length_cons, List.length_nil, List.length_take, List.length_drop]; omega)) only [va0, va1, va2, va3, va4, va5, va6, va7, va8, va9, va10, va11, va12, va13, va14, va15, vb0, vb1, vb2, vb3, w_i8, w_u8, w_i16, w_u16, w_i32, w_u32, w_i64, w_u64, lt_T, lt_F, le_T, le_F, nlt_T, nlt_F, nle_T, nle_F, List.take_of_length_le, gB, gcW, gcR, posIn, renA, renL, Chunk.ren, Chunk.refs, evOpD, touchD, stepC, isFresh, nFresh, freshOf, mkR, hole, evL, evH, opd, get, putD, ofVal, cellOf, loadE, behind, lenE, idxAddrE, idxE, addPtr, intE, strE, unE, convE, AV.int, AV.bool, AV.str, ivs, take, frameOf, firstRegion, refsA, refsL, one, cellsA, floatOk, apartT, List.map, if_true, if_false, E_P, E_glob0, E_glob1, reduceCtorEq, beq_self_eq_true, decide_true, decide_false, ↓reduceIte, Nat.reduceEqDiff, cond_true, cond_false, or_true, true_or, or_false, false_or, and_true, true_and, and_self, false_and, and_false, not_true, not_false_iff, Nat.reduceAdd, Nat.reduceSub, Nat.reduceMul, Nat.reduceLT, Nat.reduceLeDiff, Int.reduceToNat, Int.reduceLT, Int.reduceLE, Option.getD, Int.reduceMul, Int.reduceAdd, List.drop, List.take, Nat.reduceBEq, List.isEmpty, Int.reduceEq, Int.reduceNe, Int.reduceNeg, Int.reduceGT, Int.reduceGE, beq_true, beq_false, UInt8.reduceToNat, eqE, eq_self, foldE, maxE, minE, eq_T, eq_F, ndec, odec, adec, sdec, fillA, over, chop, List.replicate, leavesOk, leafOk, cellsEq, cellEq, E_ext, E_byref, en31, w_i64]; exact ⟨_, rfl⟩
      · rw [if_neg h1, if_neg (by omega)]; rw [callT_eq Tryd.func31 rfl fok31 (by simp [Tryd.ntmps31])]; simp (disch := first | omega | (simp only [List.length_append, List.length_map, List.length_set, List.length_cons, List.length_nil, List.length_take, List.length_drop]; omega)) only [va0, va1, va2, va3, va4, va5, va6, va7, va8, va9, va10, va11, va12, va13, va14, va15, vb0, vb1, vb2, vb3, w_i8, w_u8, w_i16, w_u16, w_i32, w_u32, w_i64, w_u64, lt_T, lt_F, le_T, le_F, nlt_T, nlt_F, nle_T, nle_F, List.take_of_length_le, gB, gcW, gcR, posIn, renA, renL, Chunk.ren, Chunk.refs, evOpD, touchD, stepC, isFresh, nFresh, freshOf, mkR, hole, evL, evH, opd, get, putD, ofVal, cellOf, loadE, behind, lenE, idxAddrE, idxE, addPtr, intE, strE, unE, convE, AV.int, AV.bool, AV.str, ivs, take, frameOf, firstRegion, refsA, refsL, one, cellsA, floatOk, apartT, List.map, if_true, if_false, E_P, E_glob0, E_glob1, reduceCtorEq, beq_self_eq_true, decide_true, decide_false, ↓reduceIte, Nat.reduceEqDiff, cond_true, cond_false, or_true, true_or, or_false, false_or, and_true, true_and, and_self, false_and, and_false, not_true, not_false_iff, Nat.reduceAdd, Nat.reduceSub, Nat.reduceMul, Nat.reduceLT, Nat.reduceLeDiff, Int.reduceToNat, Int.reduceLT, Int.reduceLE, Option.getD, Int.reduceMul, Int.reduceAdd, List.drop, List.take, Nat.reduceBEq, List.isEmpty, Int.reduceEq, Int.reduceNe, Int.reduceNeg, Int.reduceGT, Int.reduceGE, beq_true, beq_false, UInt8.reduceToNat, eqE, eq_self, foldE, maxE, minE, eq_T, eq_F, ndec, odec, adec, sdec, fillA, over, chop, List.replicate, leavesOk, leafOk, cellsEq, cellEq, E_ext, E_byref, en31, h1, h2, h3]; exact ⟨_, rfl⟩
theorem ik31 (op i n : Int) (hi : -9223372036854775808 ≤ i + 1 ∧ i + 1 ≤ 9223372036854775807) (H : Hp) : isoK E (callT E) 31 [.i (.v (.int .i64 op)), .i (.v (.int .i64 i)), .i (.v (.int .i64 n))] H = some (.tup [.i (.v (.int .i64 (boundsS op i n).1)), .i (.v (.int .i64 (boundsS op i n).2))], H) := isoK_val rfl rfl rfl (c31 op i n hi)
theorem names_all : (match call E 60 30 [] [] with | some (.i (.sl 1 R false), _) => decide (R.length = 21) | _ => false) = true := by kernel_rfl
theorem c30 : ∃ R : List (List IV), R.length = 21 ∧ ∃ L, callT E 30 [] [] = some (.i (.sl 1 R false), L) := by
  have h := names_all
  split at h
  · rename_i R L hL
    exact ⟨R, of_decide_eq_true h, L, callT_of hL⟩
  · cases h
theorem ik30 : ∃ R : List (List IV), (R.length : Int) = 21 ∧ ∀ H, isoK E (callT E) 30 [] H = some (.i (.sl 1 R false), H) := by
  obtain ⟨R, h1, h2⟩ := c30
  exact ⟨R, by omega, fun H => isoK_val rfl rfl rfl h2⟩
def chP (e : Int) (fr : Fr) (ex : Ex) : Prop := (e = 0 ∧ ex = .exit 0) ∨ (e ≠ 0 ∧ ex = .ret ∧ get 2 fr = .i (.v (.int .i64 e)))
theorem l23 (l : List Ins) (hl : l.length ≤ 500) (k : Nat) (hk : k ≤ l.length) :
    ∃ fr ex H', rl E 0 23 (loopAt Tryd.f23 0) [(0, .i (.sl 2 (rowsI l) false)), (10, .i (.sl 2 (rowsI l) false)), (11, .i (.v (.int .i64 l.length))), (12, .i (.v (.int .i64 k)))] [] = some (ex, fr, H') ∧ chP (chkL l.length k (l.drop k)) fr ex := by
  rw [rl_step (fn := Tryd.f23) (k := 0) rfl]
  by_cases hlt : k < l.length
  · have hrow := rowsI_at hlt
    rw [List.drop_eq_getElem_cons hlt, chkL]
    obtain ⟨fr, ex, H', e, hh⟩ := l23 l hl (k + 1) hlt
    obtain ⟨op, arg, hp⟩ : ∃ op arg, l[k] = (op, arg) := ⟨_, _, rfl⟩
    rw [hp] at hrow ⊢
    simp only at hrow
    obtain ⟨R, hR, hN⟩ := ik30
    have hb := fun H => ik31 op k l.length (by omega) H
    have hchk : chk1 l.length k (op, arg) = if op < 0 ∨ 20 < op then 9 else if arg < (boundsS op k l.length).1 ∨ (boundsS op k l.length).2 < arg then 2 else 0 := rfl
    generalize boundsS op k l.length = q at *
    generalize chk1 l.length k (op, arg) = ch at *
    obtain ⟨lo, hi⟩ := q
    simp only at hb hchk ⊢
    by_cases h1 : op < 0
    · rw [if_pos (.inl h1)] at hchk
      subst hchk
      rw [if_neg (by decide)]
      clear e hh
      simp (disch := first | omega | (simp only [List.length_append, List.length_map, List.length_set, List.length_cons, List.length_nil, List.length_take, List.length_drop, rowsI_len]; omega)) only [va0, va1, va2, va3, va4, va5, va6, va7, va8, va9, va10, va11, va12, va13, va14, va15, vb0, vb1, vb2, vb3, w_i8, w_u8, w_i16, w_u16, w_i32, w_u32, w_i64, w_u64, lt_T, lt_F, le_T, le_F, nlt_T, nlt_F, nle_T, nle_F, List.take_of_length_le, gB, gcW, gcR, posIn, renA, renL, Chunk.ren, Chunk.refs, evOpD, touchD, stepC, isFresh, nFresh, freshOf, mkR, hole, evL, evH, opd, get, putD, ofVal, cellOf, loadE, behind, lenE, idxAddrE, idxE, addPtr, intE, strE, unE, convE, AV.int, AV.bool, AV.str, ivs, take, frameOf, firstRegion, refsA, refsL, one, cellsA, floatOk, apartT, List.map, if_true, if_false, E_P, E_glob0, E_glob1, reduceCtorEq, beq_self_eq_true, decide_true, decide_false, ↓reduceIte, Nat.reduceEqDiff, cond_true, cond_false, or_true, true_or, or_false, false_or, and_true, true_and, and_self, false_and, and_false, not_true, not_false_iff, Nat.reduceAdd, Nat.reduceSub, Nat.reduceMul, Nat.reduceLT, Nat.reduceLeDiff, Int.reduceToNat, Int.reduceLT, Int.reduceLE, Option.getD, Int.reduceMul, Int.reduceAdd, List.drop, List.take, Nat.reduceBEq, List.isEmpty, Int.reduceEq, Int.reduceNe, Int.reduceNeg, Int.reduceGT, Int.reduceGE, beq_true, beq_false, UInt8.reduceToNat, eqE, eq_self, foldE, maxE, minE, eq_T, eq_F, ndec, odec, adec, sdec, fillA, over, chop, List.replicate, leavesOk, leafOk, cellsEq, cellEq, E_ext, E_byref, en23, bs22, bs65, hrow, rowsI_len, h1, hN, hR, show ∀ B fr H, execT E B 23 (Code.loop _) fr H = rlG E B 23 (loopAt Tryd.f23 0) (gcn B (norm [0, 10, 11, 12] fr) H) from fun B fr H => rl_intro rfl mt23_4 mb23_4 zf23_4 hd23_4 fr H]
      exact ⟨_, _, _, rfl, .inr ⟨by decide, rfl, rfl⟩⟩
    · by_cases h2 : 21 ≤ op
      · rw [if_pos (.inr (by omega))] at hchk
        subst hchk
        rw [if_neg (by decide)]
        clear e hh
        simp (disch := first | omega | (simp only [List.length_append, List.length_map, List.length_set, List.length_cons, List.length_nil, List.length_take, List.length_drop, rowsI_len]; omega)) only [va0, va1, va2, va3, va4, va5, va6, va7, va8, va9, va10, va11, va12, va13, va14, va15, vb0, vb1, vb2, vb3, w_i8, w_u8, w_i16, w_u16, w_i32, w_u32, w_i64, w_u64, lt_T, lt_F, le_T, le_F, nlt_T, nlt_F, nle_T, nle_F, List.take_of_length_le, gB, gcW, gcR, posIn, renA, renL, Chunk.ren, Chunk.refs, evOpD, touchD, stepC, isFresh, nFresh, freshOf, mkR, hole, evL, evH, opd, get, putD, ofVal, cellOf, loadE, behind, lenE, idxAddrE, idxE, addPtr, intE, strE, unE, convE, AV.int, AV.bool, AV.str, ivs, take, frameOf, firstRegion, refsA, refsL, one, cellsA, floatOk, apartT, List.map, if_true, if_false, E_P, E_glob0, E_glob1, reduceCtorEq, beq_self_eq_true, decide_true, decide_false, ↓reduceIte, Nat.reduceEqDiff, cond_true, cond_false, or_true, true_or, or_false, false_or, and_true, true_and, and_self, false_and, and_false, not_true, not_false_iff, Nat.reduceAdd, Nat.reduceSub, Nat.reduceMul, Nat.reduceLT, Nat.reduceLeDiff, Int.reduceToNat, Int.reduceLT, Int.reduceLE, Option.getD, Int.reduceMul, Int.reduceAdd, List.drop, List.take, Nat.reduceBEq, List.isEmpty, Int.reduceEq, Int.reduceNe, Int.reduceNeg, Int.reduceGT, Int.reduceGE, beq_true, beq_false, UInt8.reduceToNat, eqE, eq_self, foldE, maxE, minE, eq_T, eq_F, ndec, odec, adec, sdec, fillA, over, chop, List.replicate, leavesOk, leafOk, cellsEq, cellEq, E_ext, E_byref, en23, bs22, bs65, hrow, rowsI_len, h1, h2, hN, hR, show ∀ B fr H, execT E B 23 (Code.loop _) fr H = rlG E B 23 (loopAt Tryd.f23 0) (gcn B (norm [0, 10, 11, 12] fr) H) from fun B fr H => rl_intro rfl mt23_4 mb23_4 zf23_4 hd23_4 fr H]
        exact ⟨_, _, _, rfl, .inr ⟨by decide, rfl, rfl⟩⟩
      · rw [if_neg (by omega)] at hchk
        by_cases h3 : arg < lo
        · rw [if_pos (.inl h3)] at hchk
          subst hchk
          rw [if_neg (by decide)]
          clear e hh
          simp (disch := first | omega | (simp only [List.length_append, List.length_map, List.length_set, List.length_cons, List.length_nil, List.length_take, List.length_drop, rowsI_len]; omega)) only [va0, va1, va2, va3, va4, va5, va6, va7, va8, va9, va10, va11, va12, va13, va14, va15, vb0, vb1, vb2, vb3, w_i8, w_u8, w_i16, w_u16, w_i32, w_u32, w_i64, w_u64, lt_T, lt_F, le_T, le_F, nlt_T, nlt_F, nle_T, nle_F, List.take_of_length_le, gB, gcW, gcR, posIn, renA, renL, Chunk.ren, Chunk.refs, evOpD, touchD, stepC, isFresh, nFresh, freshOf, mkR, hole, evL, evH, opd, get, putD, ofVal, cellOf, loadE, behind, lenE, idxAddrE, idxE, addPtr, intE, strE, unE, convE, AV.int, AV.bool, AV.str, ivs, take, frameOf, firstRegion, refsA, refsL, one, cellsA, floatOk, apartT, List.map, if_true, if_false, E_P, E_glob0, E_glob1, reduceCtorEq, beq_self_eq_true, decide_true, decide_false, ↓reduceIte, Nat.reduceEqDiff, cond_true, cond_false, or_true, true_or, or_false, false_or, and_true, true_and, and_self, false_and, and_false, not_true, not_false_iff, Nat.reduceAdd, Nat.reduceSub, Nat.reduceMul, Nat.reduceLT, Nat.reduceLeDiff, Int.reduceToNat, Int.reduceLT, Int.reduceLE, Option.getD, Int.reduceMul, Int.reduceAdd, List.drop, List.take, Nat.reduceBEq, List.isEmpty, Int.reduceEq, Int.reduceNe, Int.reduceNeg, Int.reduceGT, Int.reduceGE, beq_true, beq_false, UInt8.reduceToNat, eqE, eq_self, foldE, maxE, minE, eq_T, eq_F, ndec, odec, adec, sdec, fillA, over, chop, List.replicate, leavesOk, leafOk, cellsEq, cellEq, E_ext, E_byref, en23, bs22, bs65, hrow, rowsI_len, h1, h2, h3, hN, hR, hb, show ∀ B fr H, execT E B 23 (Code.loop _) fr H = rlG E B 23 (loopAt Tryd.f23 0) (gcn B (norm [0, 10, 11, 12] fr) H) from fun B fr H => rl_intro rfl mt23_4 mb23_4 zf23_4 hd23_4 fr H]
          exact ⟨_, _, _, rfl, .inr ⟨by decide, rfl, rfl⟩⟩
        · by_cases h4 : hi < arg
          · rw [if_pos (.inr h4)] at hchk
            subst hchk
            rw [if_neg (by decide)]
            clear e hh
            simp (disch := first | omega | (simp only [List.length_append, List.length_map, List.length_set, List.length_cons, List.length_nil, List.length_take, List.length_drop, rowsI_len]; omega)) only [va0, va1, va2, va3, va4, va5, va6, va7, va8, va9, va10, va11, va12, va13, va14, va15, vb0, vb1, vb2, vb3, w_i8, w_u8, w_i16, w_u16, w_i32, w_u32, w_i64, w_u64, lt_T, lt_F, le_T, le_F, nlt_T, nlt_F, nle_T, nle_F, List.take_of_length_le, gB, gcW, gcR, posIn, renA, renL, Chunk.ren, Chunk.refs, evOpD, touchD, stepC, isFresh, nFresh, freshOf, mkR, hole, evL, evH, opd, get, putD, ofVal, cellOf, loadE, behind, lenE, idxAddrE, idxE, addPtr, intE, strE, unE, convE, AV.int, AV.bool, AV.str, ivs, take, frameOf, firstRegion, refsA, refsL, one, cellsA, floatOk, apartT, List.map, if_true, if_false, E_P, E_glob0, E_glob1, reduceCtorEq, beq_self_eq_true, decide_true, decide_false, ↓reduceIte, Nat.reduceEqDiff, cond_true, cond_false, or_true, true_or, or_false, false_or, and_true, true_and, and_self, false_and, and_false, not_true, not_false_iff, Nat.reduceAdd, Nat.reduceSub, Nat.reduceMul, Nat.reduceLT, Nat.reduceLeDiff, Int.reduceToNat, Int.reduceLT, Int.reduceLE, Option.getD, Int.reduceMul, Int.reduceAdd, List.drop, List.take, Nat.reduceBEq, List.isEmpty, Int.reduceEq, Int.reduceNe, Int.reduceNeg, Int.reduceGT, Int.reduceGE, beq_true, beq_false, UInt8.reduceToNat, eqE, eq_self, foldE, maxE, minE, eq_T, eq_F, ndec, odec, adec, sdec, fillA, over, chop, List.replicate, leavesOk, leafOk, cellsEq, cellEq, E_ext, E_byref, en23, bs22, bs65, hrow, rowsI_len, h1, h2, h3, h4, hN, hR, hb, show ∀ B fr H, execT E B 23 (Code.loop _) fr H = rlG E B 23 (loopAt Tryd.f23 0) (gcn B (norm [0, 10, 11, 12] fr) H) from fun B fr H => rl_intro rfl mt23_4 mb23_4 zf23_4 hd23_4 fr H]
            exact ⟨_, _, _, rfl, .inr ⟨by decide, rfl, rfl⟩⟩
          · rw [if_neg (by omega)] at hchk
            subst hchk
            rw [if_pos rfl]
            refine ⟨fr, ex, H', Eq.trans ?_ e, hh⟩
            clear e hh
            simp (disch := first | omega | (simp only [List.length_append, List.length_map, List.length_set, List.length_cons, List.length_nil, List.length_take, List.length_drop, rowsI_len]; omega)) only [va0, va1, va2, va3, va4, va5, va6, va7, va8, va9, va10, va11, va12, va13, va14, va15, vb0, vb1, vb2, vb3, w_i8, w_u8, w_i16, w_u16, w_i32, w_u32, w_i64, w_u64, lt_T, lt_F, le_T, le_F, nlt_T, nlt_F, nle_T, nle_F, List.take_of_length_le, gB, gcW, gcR, posIn, renA, renL, Chunk.ren, Chunk.refs, evOpD, touchD, stepC, isFresh, nFresh, freshOf, mkR, hole, evL, evH, opd, get, putD, ofVal, cellOf, loadE, behind, lenE, idxAddrE, idxE, addPtr, intE, strE, unE, convE, AV.int, AV.bool, AV.str, ivs, take, frameOf, firstRegion, refsA, refsL, one, cellsA, floatOk, apartT, List.map, if_true, if_false, E_P, E_glob0, E_glob1, reduceCtorEq, beq_self_eq_true, decide_true, decide_false, ↓reduceIte, Nat.reduceEqDiff, cond_true, cond_false, or_true, true_or, or_false, false_or, and_true, true_and, and_self, false_and, and_false, not_true, not_false_iff, Nat.reduceAdd, Nat.reduceSub, Nat.reduceMul, Nat.reduceLT, Nat.reduceLeDiff, Int.reduceToNat, Int.reduceLT, Int.reduceLE, Option.getD, Int.reduceMul, Int.reduceAdd, List.drop, List.take, Nat.reduceBEq, List.isEmpty, Int.reduceEq, Int.reduceNe, Int.reduceNeg, Int.reduceGT, Int.reduceGE, beq_true, beq_false, UInt8.reduceToNat, eqE, eq_self, foldE, maxE, minE, eq_T, eq_F, ndec, odec, adec, sdec, fillA, over, chop, List.replicate, leavesOk, leafOk, cellsEq, cellEq, E_ext, E_byref, en23, bs22, bs65, hrow, rowsI_len, h1, h2, h3, h4, hN, hR, hb, show ∀ B fr H, execT E B 23 (Code.loop _) fr H = rlG E B 23 (loopAt Tryd.f23 0) (gcn B (norm [0, 10, 11, 12] fr) H) from fun B fr H => rl_intro rfl mt23_4 mb23_4 zf23_4 hd23_4 fr H]
  · obtain rfl : k = l.length := by omega
    rw [List.drop_length, chkL]
    simp (disch := first | omega | (simp only [List.length_append, List.length_map, List.length_set, List.length_cons, List.length_nil, List.length_take, List.length_drop, rowsI_len]; omega)) only [va0, va1, va2, va3, va4, va5, va6, va7, va8, va9, va10, va11, va12, va13, va14, va15, vb0, vb1, vb2, vb3, w_i8, w_u8, w_i16, w_u16, w_i32, w_u32, w_i64, w_u64, lt_T, lt_F, le_T, le_F, nlt_T, nlt_F, nle_T, nle_F, List.take_of_length_le, gB, gcW, gcR, posIn, renA, renL, Chunk.ren, Chunk.refs, evOpD, touchD, stepC, isFresh, nFresh, freshOf, mkR, hole, evL, evH, opd, get, putD, ofVal, cellOf, loadE, behind, lenE, idxAddrE, idxE, addPtr, intE, strE, unE, convE, AV.int, AV.bool, AV.str, ivs, take, frameOf, firstRegion, refsA, refsL, one, cellsA, floatOk, apartT, List.map, if_true, if_false, E_P, E_glob0, E_glob1, reduceCtorEq, beq_self_eq_true, decide_true, decide_false, ↓reduceIte, Nat.reduceEqDiff, cond_true, cond_false, or_true, true_or, or_false, false_or, and_true, true_and, and_self, false_and, and_false, not_true, not_false_iff, Nat.reduceAdd, Nat.reduceSub, Nat.reduceMul, Nat.reduceLT, Nat.reduceLeDiff, Int.reduceToNat, Int.reduceLT, Int.reduceLE, Option.getD, Int.reduceMul, Int.reduceAdd, List.drop, List.take, Nat.reduceBEq, List.isEmpty, Int.reduceEq, Int.reduceNe, Int.reduceNeg, Int.reduceGT, Int.reduceGE, beq_true, beq_false, UInt8.reduceToNat, eqE, eq_self, foldE, maxE, minE, eq_T, eq_F, ndec, odec, adec, sdec, fillA, over, chop, List.replicate, leavesOk, leafOk, cellsEq, cellEq, E_ext, E_byref, en23, bs22, bs65, rowsI_len, show ∀ B fr H, execT E B 23 (Code.loop _) fr H = rlG E B 23 (loopAt Tryd.f23 0) (gcn B (norm [0, 10, 11, 12] fr) H) from fun B fr H => rl_intro rfl mt23_4 mb23_4 zf23_4 hd23_4 fr H]
    exact ⟨_, _, _, rfl, .inl ⟨rfl, rfl⟩⟩
termination_by l.length - k
theorem c23 (l : List Ins) (hl : (l.length : Int) < 9223372036854775808) : ∃ L, callT E 23 [.i (.sl 2 (rowsI l) false)] [] = some (.i (.v (.int .i64 (checkI l))), L) := by
  unfold checkI
  by_cases h5 : 500 < (l.length : Int)
  · rw [if_pos h5]
    rw [callT_eq Tryd.func23 rfl fok23 (by simp [Tryd.ntmps23])]
    simp (disch := first | omega | (simp only [List.length_append, List.length_map, List.length_set, List.length_cons, List.length_nil, List.length_take, List.length_drop, rowsI_len]; omega)) only [va0, va1, va2, va3, va4, va5, va6, va7, va8, va9, va10, va11, va12, va13, va14, va15, vb0, vb1, vb2, vb3, w_i8, w_u8, w_i16, w_u16, w_i32, w_u32, w_i64, w_u64, lt_T, lt_F, le_T, le_F, nlt_T, nlt_F, nle_T, nle_F, List.take_of_length_le, gB, gcW, gcR, posIn, renA, renL, Chunk.ren, Chunk.refs, evOpD, touchD, stepC, isFresh, nFresh, freshOf, mkR, hole, evL, evH, opd, get, putD, ofVal, cellOf, loadE, behind, lenE, idxAddrE, idxE, addPtr, intE, strE, unE, convE, AV.int, AV.bool, AV.str, ivs, take, frameOf, firstRegion, refsA, refsL, one, cellsA, floatOk, apartT, List.map, if_true, if_false, E_P, E_glob0, E_glob1, reduceCtorEq, beq_self_eq_true, decide_true, decide_false, ↓reduceIte, Nat.reduceEqDiff, cond_true, cond_false, or_true, true_or, or_false, false_or, and_true, true_and, and_self, false_and, and_false, not_true, not_false_iff, Nat.reduceAdd, Nat.reduceSub, Nat.reduceMul, Nat.reduceLT, Nat.reduceLeDiff, Int.reduceToNat, Int.reduceLT, Int.reduceLE, Option.getD, Int.reduceMul, Int.reduceAdd, List.drop, List.take, Nat.reduceBEq, List.isEmpty, Int.reduceEq, Int.reduceNe, Int.reduceNeg, Int.reduceGT, Int.reduceGE, beq_true, beq_false, UInt8.reduceToNat, eqE, eq_self, foldE, maxE, minE, eq_T, eq_F, ndec, odec, adec, sdec, fillA, over, chop, List.replicate, leavesOk, leafOk, cellsEq, cellEq, E_ext, E_byref, en23, bs22, bs65, rowsI_len, h5]
    exact ⟨_, rfl⟩
  · rw [if_neg h5]
    obtain ⟨fr, ex, H', e, hh⟩ := l23 l (by omega) 0 (Nat.zero_le _)
    rw [List.drop_zero] at hh
    have e' : rl E 0 23 (loopAt Tryd.f23 0) [(0, .i (.sl 2 (rowsI l) false)), (10, .i (.sl 2 (rowsI l) false)), (11, .i (.v (.int .i64 l.length))), (12, .i (.v (.int .i64 0)))] [] = _ := e
    rcases hh with ⟨h1, rfl⟩ | ⟨h1, rfl, h2⟩
    · rw [h1]
      rw [callT_eq Tryd.func23 rfl fok23 (by simp [Tryd.ntmps23])]
      simp (disch := first | omega | (simp only [List.length_append, List.length_map, List.length_set, List.length_cons, List.length_nil, List.length_take, List.length_drop, rowsI_len]; omega)) only [va0, va1, va2, va3, va4, va5, va6, va7, va8, va9, va10, va11, va12, va13, va14, va15, vb0, vb1, vb2, vb3, w_i8, w_u8, w_i16, w_u16, w_i32, w_u32, w_i64, w_u64, lt_T, lt_F, le_T, le_F, nlt_T, nlt_F, nle_T, nle_F, List.take_of_length_le, gB, gcW, gcR, posIn, renA, renL, Chunk.ren, Chunk.refs, evOpD, touchD, stepC, isFresh, nFresh, freshOf, mkR, hole, evL, evH, opd, get, putD, ofVal, cellOf, loadE, behind, lenE, idxAddrE, idxE, addPtr, intE, strE, unE, convE, AV.int, AV.bool, AV.str, ivs, take, frameOf, firstRegion, refsA, refsL, one, cellsA, floatOk, apartT, List.map, if_true, if_false, E_P, E_glob0, E_glob1, reduceCtorEq, beq_self_eq_true, decide_true, decide_false, ↓reduceIte, Nat.reduceEqDiff, cond_true, cond_false, or_true, true_or, or_false, false_or, and_true, true_and, and_self, false_and, and_false, not_true, not_false_iff, Nat.reduceAdd, Nat.reduceSub, Nat.reduceMul, Nat.reduceLT, Nat.reduceLeDiff, Int.reduceToNat, Int.reduceLT, Int.reduceLE, Option.getD, Int.reduceMul, Int.reduceAdd, List.drop, List.take, Nat.reduceBEq, List.isEmpty, Int.reduceEq, Int.reduceNe, Int.reduceNeg, Int.reduceGT, Int.reduceGE, beq_true, beq_false, UInt8.reduceToNat, eqE, eq_self, foldE, maxE, minE, eq_T, eq_F, ndec, odec, adec, sdec, fillA, over, chop, List.replicate, leavesOk, leafOk, cellsEq, cellEq, E_ext, E_byref, en23, bs22, bs65, rowsI_len, h5, e', show ∀ B fr H, execT E B 23 (Code.loop _) fr H = rlG E B 23 (loopAt Tryd.f23 0) (gcn B (norm [0, 10, 11, 12] fr) H) from fun B fr H => rl_intro rfl mt23_4 mb23_4 zf23_4 hd23_4 fr H]
      exact ⟨_, rfl⟩
    · generalize chkL l.length 0 l = q at *
      rw [callT_eq Tryd.func23 rfl fok23 (by simp [Tryd.ntmps23])]
      simp (disch := first | omega | (simp only [List.length_append, List.length_map, List.length_set, List.length_cons, List.length_nil, List.length_take, List.length_drop, rowsI_len]; omega)) only [va0, va1, va2, va3, va4, va5, va6, va7, va8, va9, va10, va11, va12, va13, va14, va15, vb0, vb1, vb2, vb3, w_i8, w_u8, w_i16, w_u16, w_i32, w_u32, w_i64, w_u64, lt_T, lt_F, le_T, le_F, nlt_T, nlt_F, nle_T, nle_F, List.take_of_length_le, gB, gcW, gcR, posIn, renA, renL, Chunk.ren, Chunk.refs, evOpD, touchD, stepC, isFresh, nFresh, freshOf, mkR, hole, evL, evH, opd, get, putD, ofVal, cellOf, loadE, behind, lenE, idxAddrE, idxE, addPtr, intE, strE, unE, convE, AV.int, AV.bool, AV.str, ivs, take, frameOf, firstRegion, refsA, refsL, one, cellsA, floatOk, apartT, List.map, if_true, if_false, E_P, E_glob0, E_glob1, reduceCtorEq, beq_self_eq_true, decide_true, decide_false, ↓reduceIte, Nat.reduceEqDiff, cond_true, cond_false, or_true, true_or, or_false, false_or, and_true, true_and, and_self, false_and, and_false, not_true, not_false_iff, Nat.reduceAdd, Nat.reduceSub, Nat.reduceMul, Nat.reduceLT, Nat.reduceLeDiff, Int.reduceToNat, Int.reduceLT, Int.reduceLE, Option.getD, Int.reduceMul, Int.reduceAdd, List.drop, List.take, Nat.reduceBEq, List.isEmpty, Int.reduceEq, Int.reduceNe, Int.reduceNeg, Int.reduceGT, Int.reduceGE, beq_true, beq_false, UInt8.reduceToNat, eqE, eq_self, foldE, maxE, minE, eq_T, eq_F, ndec, odec, adec, sdec, fillA, over, chop, List.replicate, leavesOk, leafOk, cellsEq, cellEq, E_ext, E_byref, en23, bs22, bs65, rowsI_len, h5, e', h2, show ∀ B fr H, execT E B 23 (Code.loop _) fr H = rlG E B 23 (loopAt Tryd.f23 0) (gcn B (norm [0, 10, 11, 12] fr) H) from fun B fr H => rl_intro rfl mt23_4 mb23_4 zf23_4 hd23_4 fr H]
      exact ⟨_, rfl⟩
theorem ik23 (l : List Ins) (hl : (l.length : Int) < 9223372036854775808) (H : Hp) : isoK E (callT E) 23 [.i (.sl 2 (rowsI l) false)] H = some (.i (.v (.int .i64 (checkI l))), H) := isoK_val rfl rfl rfl (c23 l hl)
end Go.VI

namespace Go.VI
open Go.Proofs
set_option maxRecDepth 100000
set_option linter.unusedSimpArgs false
set_option linter.unusedVariables false
set_option maxHeartbeats 4000000
def rows64 (l : List Int) : List (List IV) := l.map fun n => [.v (.int .i64 n)]
theorem rows64_len (l : List Int) : (rows64 l).length = l.length := by simp [rows64]
theorem rows64_snoc (l : List Int) (n : Int) : rows64 l ++ [[.v (.int .i64 n)]] = rows64 (l ++ [n]) := by simp [rows64]
theorem rows64_at {l : List Int} {k : Nat} (h : k < l.length) : (rows64 l)[k]? = some [.v (.int .i64 l[k])] := by simp [rows64, h]
theorem rows64_set (l : List Int) (k : Nat) (x : Int) : (rows64 l).set k [.v (.int .i64 x)] = rows64 (l.set k x) := by simp [rows64, List.map_set]
theorem rows64_rep (n : Nat) (x : Int) : List.replicate n [IV.v (.int .i64 x)] = rows64 (List.replicate n x) := by simp [rows64]
def popS (op : Int) : Int := popsL.getD op.toNat 0
def pushS (op : Int) : Int := pushesL.getD op.toNat 0
theorem tab_at {l : List Int} {n : Nat} (h : n < l.length) : (tabT l)[n]? = some (.v (.int .i64 (l.getD n 0))) := by
  rw [List.getD_eq_getElem?_getD, List.getElem?_eq_getElem h]
  simp [tabT, h]
theorem pops_at {op : Int} (h0 : 0 ≤ op) (h1 : op ≤ 20) : popsT[op.toNat]? = some (.v (.int .i64 (popS op))) := tab_at (by show op.toNat < 21; omega)
theorem pushes_at {op : Int} (h0 : 0 ≤ op) (h1 : op ≤ 20) : pushesT[op.toNat]? = some (.v (.int .i64 (pushS op))) := tab_at (by show op.toNat < 21; omega)
theorem popS_r (op : Int) : 0 ≤ popS op ∧ popS op ≤ 2 := by
  have key : ∀ x ∈ popsL, 0 ≤ x ∧ x ≤ 2 := by decide
  unfold popS
  rw [List.getD_eq_getElem?_getD]
  cases h : popsL[op.toNat]? with
  | none => simp
  | some x => exact key x (List.mem_of_getElem? h)
theorem pushS_r (op : Int) : 0 ≤ pushS op ∧ pushS op ≤ 2 := by
  have key : ∀ x ∈ pushesL, 0 ≤ x ∧ x ≤ 2 := by decide
  unfold pushS
  rw [List.getD_eq_getElem?_getD]
  cases h : pushesL[op.toNat]? with
  | none => simp
  | some x => exact key x (List.mem_of_getElem? h)
def dSet (n after : Int) : List Int → List Int → Option (List Int)
  | [], out => some out
  | k :: ks, out => if k < n ∧ 0 ≤ out.getD k.toNat 0 ∧ out.getD k.toNat 0 ≠ after then none else dSet n after ks (out.set k.toNat after)
def dStep (n : Nat) (i : Nat) (p : Ins) (out : List Int) : Option (List Int) :=
  if out.getD i 0 < 0 then some out
  else if out.getD i 0 < popS p.1 ∨ 16 < out.getD i 0 - popS p.1 + pushS p.1 then none
  else dSet n (out.getD i 0 - popS p.1 + pushS p.1) (sucL p.1 p.2 i) out
def dRun (n : Nat) : Nat → List Ins → List Int → Option (List Int)
  | _, [], out => some out
  | i, p :: r, out => match dStep n i p out with
    | some out' => dRun n (i + 1) r out'
    | none => none
def depthsS (l : List Ins) : List Int × Int := if checkI l = 0 then match dRun l.length 0 l (0 :: List.replicate l.length (-1)) with
  | some out => (out.take l.length, 0)
  | none => ([], 13) else ([], checkI l)
theorem l12_0 (l : List Ins) (n : Nat) (hn : n < 1000000) (k : Nat) (hk : k ≤ n) :
    ∃ fr, rl E 0 12 (loopAt Tryd.f12 0) [(1, .ptr 0 0 0 0), (2, .ptr 1 0 0 0), (3, .ptr 2 0 0 0), (5, .ptr 3 0 0 0), (21, .i (.v (.int .i64 (n)))), (22, .i (.v (.int .i64 (k))))] [.box [.i (.sl 2 (rowsI l) false)], .box [.i (.sl 0 [] true)], .box [.i (.v (.int .i64 0))], .box [.ref 4 0 0 (n)], .sl 1 0 (rows64 (List.replicate k (-1) ++ List.replicate (n - k) 0)) false] = some (.exit 0, fr, [.box [.i (.sl 2 (rowsI l) false)], .box [.i (.sl 0 [] true)], .box [.i (.v (.int .i64 0))], .box [.ref 4 0 0 (n)], .sl 1 0 (rows64 (List.replicate n (-1))) false]) ∧ get 1 fr = .ptr 0 0 0 0 ∧ get 2 fr = .ptr 1 0 0 0 ∧ get 3 fr = .ptr 2 0 0 0 ∧ get 5 fr = .ptr 3 0 0 0 := by
  rw [rl_step (fn := Tryd.f12) (k := 0) rfl]
  by_cases hlt : k < n
  · obtain ⟨fr, e, hh⟩ := l12_0 l n hn (k + 1) hlt
    refine ⟨fr, Eq.trans ?_ e, hh⟩
    clear e hh
    have ho : (List.replicate k (-1 : Int) ++ List.replicate (n - k) 0).length = n := by simp; omega
    have hs : (List.replicate k (-1 : Int) ++ List.replicate (n - k) 0).set k (-1) = List.replicate (k + 1) (-1) ++ List.replicate (n - (k + 1)) 0 := by
      apply List.ext_getElem?
      intro j
      rw [List.getElem?_set]
      by_cases hj : k = j
      · subst hj
        rw [if_pos rfl, if_pos (by omega), List.getElem?_append_left (by simp), List.getElem?_replicate, if_pos (by omega)]
      · rw [if_neg hj]
        by_cases hjk : j < k
        · rw [List.getElem?_append_left (by simpa using hjk), List.getElem?_append_left (by simp; omega), List.getElem?_replicate, List.getElem?_replicate, if_pos hjk, if_pos (by omega)]
        · rw [List.getElem?_append_right (by simp; omega), List.getElem?_append_right (by simp; omega), List.getElem?_replicate, List.getElem?_replicate]
          simp only [List.length_replicate]
          by_cases hjn : j - k < n - k
          · rw [if_pos hjn, if_pos (by omega)]
          · rw [if_neg hjn, if_neg (by omega)]
    obtain ⟨x, hrow⟩ : ∃ x, (rows64 (List.replicate k (-1 : Int) ++ List.replicate (n - k) 0))[k]? = some [.v (.int .i64 x)] := ⟨_, rows64_at (by omega)⟩
    rw [← hs]
    generalize List.replicate k (-1 : Int) ++ List.replicate (n - k) 0 = out at *
    simp (disch := first | omega | (simp only [List.length_append, List.length_map, List.length_set, List.length_cons, List.length_nil, List.length_take, List.length_drop, rows64_len]; omega)) only [va0, va1, va2, va3, va4, va5, va6, va7, va8, va9, va10, va11, va12, va13, va14, va15, vb0, vb1, vb2, vb3, w_i8, w_u8, w_i16, w_u16, w_i32, w_u32, w_i64, w_u64, lt_T, lt_F, le_T, le_F, nlt_T, nlt_F, nle_T, nle_F, List.take_of_length_le, gB, gcW, gcR, posIn, renA, renL, Chunk.ren, Chunk.refs, evOpD, touchD, stepC, isFresh, nFresh, freshOf, mkR, hole, evL, evH, opd, get, putD, ofVal, cellOf, loadE, behind, lenE, idxAddrE, idxE, addPtr, intE, strE, unE, convE, AV.int, AV.bool, AV.str, ivs, take, frameOf, firstRegion, refsA, refsL, one, cellsA, floatOk, apartT, List.map, if_true, if_false, E_P, E_glob0, E_glob1, reduceCtorEq, beq_self_eq_true, decide_true, decide_false, ↓reduceIte, Nat.reduceEqDiff, cond_true, cond_false, or_true, true_or, or_false, false_or, and_true, true_and, and_self, false_and, and_false, not_true, not_false_iff, Nat.reduceAdd, Nat.reduceSub, Nat.reduceMul, Nat.reduceLT, Nat.reduceLeDiff, Int.reduceToNat, Int.reduceLT, Int.reduceLE, Option.getD, Int.reduceMul, Int.reduceAdd, List.drop, List.take, Nat.reduceBEq, List.isEmpty, Int.reduceEq, Int.reduceNe, Int.reduceNeg, Int.reduceGT, Int.reduceGE, beq_true, beq_false, UInt8.reduceToNat, eqE, eq_self, foldE, maxE, minE, eq_T, eq_F, ndec, odec, adec, sdec, fillA, over, chop, List.replicate, leavesOk, leafOk, cellsEq, cellEq, E_ext, E_byref, en12, bs22, bs24, rows64_len, hrow, rows64_set, show ∀ B fr H, execT E B 12 (Code.loop _) fr H = rlG E B 12 (loopAt Tryd.f12 0) (gcn B (norm [1, 2, 3, 5, 21, 22] fr) H) from fun B fr H => rl_intro rfl mt12_6 mb12_6 zf12_6 hd12_6 fr H]
  · obtain rfl : k = n := by omega
    rw [Nat.sub_self, List.replicate_zero, List.append_nil]
    generalize List.replicate k (-1 : Int) = out at *
    simp (disch := first | omega | (simp only [List.length_append, List.length_map, List.length_set, List.length_cons, List.length_nil, List.length_take, List.length_drop, rows64_len]; omega)) only [va0, va1, va2, va3, va4, va5, va6, va7, va8, va9, va10, va11, va12, va13, va14, va15, vb0, vb1, vb2, vb3, w_i8, w_u8, w_i16, w_u16, w_i32, w_u32, w_i64, w_u64, lt_T, lt_F, le_T, le_F, nlt_T, nlt_F, nle_T, nle_F, List.take_of_length_le, gB, gcW, gcR, posIn, renA, renL, Chunk.ren, Chunk.refs, evOpD, touchD, stepC, isFresh, nFresh, freshOf, mkR, hole, evL, evH, opd, get, putD, ofVal, cellOf, loadE, behind, lenE, idxAddrE, idxE, addPtr, intE, strE, unE, convE, AV.int, AV.bool, AV.str, ivs, take, frameOf, firstRegion, refsA, refsL, one, cellsA, floatOk, apartT, List.map, if_true, if_false, E_P, E_glob0, E_glob1, reduceCtorEq, beq_self_eq_true, decide_true, decide_false, ↓reduceIte, Nat.reduceEqDiff, cond_true, cond_false, or_true, true_or, or_false, false_or, and_true, true_and, and_self, false_and, and_false, not_true, not_false_iff, Nat.reduceAdd, Nat.reduceSub, Nat.reduceMul, Nat.reduceLT, Nat.reduceLeDiff, Int.reduceToNat, Int.reduceLT, Int.reduceLE, Option.getD, Int.reduceMul, Int.reduceAdd, List.drop, List.take, Nat.reduceBEq, List.isEmpty, Int.reduceEq, Int.reduceNe, Int.reduceNeg, Int.reduceGT, Int.reduceGE, beq_true, beq_false, UInt8.reduceToNat, eqE, eq_self, foldE, maxE, minE, eq_T, eq_F, ndec, odec, adec, sdec, fillA, over, chop, List.replicate, leavesOk, leafOk, cellsEq, cellEq, E_ext, E_byref, en12, bs22, bs24, rows64_len, show ∀ B fr H, execT E B 12 (Code.loop _) fr H = rlG E B 12 (loopAt Tryd.f12 0) (gcn B (norm [1, 2, 3, 5, 21, 22] fr) H) from fun B fr H => rl_intro rfl mt12_6 mb12_6 zf12_6 hd12_6 fr H]
    exact ⟨_, rfl, rfl, rfl, rfl, rfl⟩
termination_by n - k
end Go.VI

namespace Go.VI
open Go.Proofs
set_option maxRecDepth 100000
set_option linter.unusedSimpArgs false
set_option linter.unusedVariables false
set_option maxHeartbeats 4000000
theorem rows64_get {l : List Int} {k : Nat} (h : k < l.length) : (rows64 l)[k]? = some [.v (.int .i64 (l.getD k 0))] := by
  rw [rows64_at h, List.getD_eq_getElem?_getD, List.getElem?_eq_getElem h]; rfl
theorem rd12 (l : List Ins) (hl : l.length < 100000) (n : Nat) (hn : n = l.length + 1) (out : List Int) (ho : out.length = n) (op arg af i k x : Int) (hx : 0 ≤ x ∧ x ≤ l.length) :
    rdF E 12 (rfAt Tryd.f12 0) ((73, .i (.v (.int .i64 x))) :: [(1, .ptr 0 0 0 0), (2, .ptr 1 0 0 0), (3, .ptr 2 0 0 0), (5, .ptr 3 0 0 0), (9, .ptr 6 0 0 0), (31, .i (.sl 2 (rowsI l) false)), (32, .i (.v (.int .i64 l.length))), (33, .i (.v (.int .i64 (k)))), (72, .clo (.func 32) [] [.ptr 7 0 0 0, .ptr 8 0 0 0])]) [.box [.i (.sl 2 (rowsI l) false)], .box [.i (.sl 0 [] true)], .box [.i (.v (.int .i64 (0)))], .box [.ref 4 0 0 (n)], .sl 1 0 (rows64 (out)) false, .box [.i (.v (.int .i64 (op))), .i (.v (.int .i64 (arg)))], .box [.i (.v (.int .i64 (af)))], .box [.i (.v (.int .i64 (op))), .i (.v (.int .i64 (arg)))], .box [.i (.v (.int .i64 (i)))]] =
      if x < l.length ∧ 0 ≤ out.getD x.toNat 0 ∧ out.getD x.toNat 0 ≠ af then some (.ret, [.box [.i (.sl 2 (rowsI l) false)], .box [.i (.sl 0 [] true)], .box [.i (.v (.int .i64 (13)))], .box [.ref 4 0 0 (n)], .sl 1 0 (rows64 (out)) false, .box [.i (.v (.int .i64 (op))), .i (.v (.int .i64 (arg)))], .box [.i (.v (.int .i64 (af)))], .box [.i (.v (.int .i64 (op))), .i (.v (.int .i64 (arg)))], .box [.i (.v (.int .i64 (i)))]]) else some (.normal, [.box [.i (.sl 2 (rowsI l) false)], .box [.i (.sl 0 [] true)], .box [.i (.v (.int .i64 (0)))], .box [.ref 4 0 0 (n)], .sl 1 0 (rows64 (out.set x.toNat af)) false, .box [.i (.v (.int .i64 (op))), .i (.v (.int .i64 (arg)))], .box [.i (.v (.int .i64 (af)))], .box [.i (.v (.int .i64 (op))), .i (.v (.int .i64 (arg)))], .box [.i (.v (.int .i64 (i)))]]) := by
  have hrow := rows64_get (l := out) (k := x.toNat) (by omega)
  generalize hy : out.getD x.toNat 0 = y at *
  rw [rd_step (fn := Tryd.f12) (k := 0) rfl]
  by_cases h1 : x < l.length
  · by_cases h2 : 0 ≤ y
    · by_cases h3 : y = af
      · rw [if_neg (fun h => h.2.2 h3)]
        subst h3
        simp (disch := first | omega | (simp only [List.length_append, List.length_map, List.length_set, List.length_cons, List.length_nil, List.length_take, List.length_drop, rows64_len, rowsI_len]; omega)) only [va0, va1, va2, va3, va4, va5, va6, va7, va8, va9, va10, va11, va12, va13, va14, va15, vb0, vb1, vb2, vb3, w_i8, w_u8, w_i16, w_u16, w_i32, w_u32, w_i64, w_u64, lt_T, lt_F, le_T, le_F, nlt_T, nlt_F, nle_T, nle_F, List.take_of_length_le, gB, gcW, gcR, posIn, renA, renL, Chunk.ren, Chunk.refs, evOpD, touchD, stepC, isFresh, nFresh, freshOf, mkR, hole, evL, evH, opd, get, putD, ofVal, cellOf, loadE, behind, lenE, idxAddrE, idxE, addPtr, intE, strE, unE, convE, AV.int, AV.bool, AV.str, ivs, take, frameOf, firstRegion, refsA, refsL, one, cellsA, floatOk, apartT, List.map, if_true, if_false, E_P, E_glob0, E_glob1, reduceCtorEq, beq_self_eq_true, decide_true, decide_false, ↓reduceIte, Nat.reduceEqDiff, cond_true, cond_false, or_true, true_or, or_false, false_or, and_true, true_and, and_self, false_and, and_false, not_true, not_false_iff, Nat.reduceAdd, Nat.reduceSub, Nat.reduceMul, Nat.reduceLT, Nat.reduceLeDiff, Int.reduceToNat, Int.reduceLT, Int.reduceLE, Option.getD, Int.reduceMul, Int.reduceAdd, List.drop, List.take, Nat.reduceBEq, List.isEmpty, Int.reduceEq, Int.reduceNe, Int.reduceNeg, Int.reduceGT, Int.reduceGE, beq_true, beq_false, UInt8.reduceToNat, eqE, eq_self, foldE, maxE, minE, eq_T, eq_F, ndec, odec, adec, sdec, fillA, over, chop, List.replicate, leavesOk, leafOk, cellsEq, cellEq, E_ext, E_byref, en12, bs22, bs24, rows64_len, rowsI_len, hrow, h1, h2, rows64_set]
      · rw [if_pos ⟨h1, h2, h3⟩]
        simp (disch := first | omega | (simp only [List.length_append, List.length_map, List.length_set, List.length_cons, List.length_nil, List.length_take, List.length_drop, rows64_len, rowsI_len]; omega)) only [va0, va1, va2, va3, va4, va5, va6, va7, va8, va9, va10, va11, va12, va13, va14, va15, vb0, vb1, vb2, vb3, w_i8, w_u8, w_i16, w_u16, w_i32, w_u32, w_i64, w_u64, lt_T, lt_F, le_T, le_F, nlt_T, nlt_F, nle_T, nle_F, List.take_of_length_le, gB, gcW, gcR, posIn, renA, renL, Chunk.ren, Chunk.refs, evOpD, touchD, stepC, isFresh, nFresh, freshOf, mkR, hole, evL, evH, opd, get, putD, ofVal, cellOf, loadE, behind, lenE, idxAddrE, idxE, addPtr, intE, strE, unE, convE, AV.int, AV.bool, AV.str, ivs, take, frameOf, firstRegion, refsA, refsL, one, cellsA, floatOk, apartT, List.map, if_true, if_false, E_P, E_glob0, E_glob1, reduceCtorEq, beq_self_eq_true, decide_true, decide_false, ↓reduceIte, Nat.reduceEqDiff, cond_true, cond_false, or_true, true_or, or_false, false_or, and_true, true_and, and_self, false_and, and_false, not_true, not_false_iff, Nat.reduceAdd, Nat.reduceSub, Nat.reduceMul, Nat.reduceLT, Nat.reduceLeDiff, Int.reduceToNat, Int.reduceLT, Int.reduceLE, Option.getD, Int.reduceMul, Int.reduceAdd, List.drop, List.take, Nat.reduceBEq, List.isEmpty, Int.reduceEq, Int.reduceNe, Int.reduceNeg, Int.reduceGT, Int.reduceGE, beq_true, beq_false, UInt8.reduceToNat, eqE, eq_self, foldE, maxE, minE, eq_T, eq_F, ndec, odec, adec, sdec, fillA, over, chop, List.replicate, leavesOk, leafOk, cellsEq, cellEq, E_ext, E_byref, en12, bs22, bs24, rows64_len, rowsI_len, hrow, h1, h2, h3, rows64_set]
    · rw [if_neg (fun h => h2 h.2.1)]
      simp (disch := first | omega | (simp only [List.length_append, List.length_map, List.length_set, List.length_cons, List.length_nil, List.length_take, List.length_drop, rows64_len, rowsI_len]; omega)) only [va0, va1, va2, va3, va4, va5, va6, va7, va8, va9, va10, va11, va12, va13, va14, va15, vb0, vb1, vb2, vb3, w_i8, w_u8, w_i16, w_u16, w_i32, w_u32, w_i64, w_u64, lt_T, lt_F, le_T, le_F, nlt_T, nlt_F, nle_T, nle_F, List.take_of_length_le, gB, gcW, gcR, posIn, renA, renL, Chunk.ren, Chunk.refs, evOpD, touchD, stepC, isFresh, nFresh, freshOf, mkR, hole, evL, evH, opd, get, putD, ofVal, cellOf, loadE, behind, lenE, idxAddrE, idxE, addPtr, intE, strE, unE, convE, AV.int, AV.bool, AV.str, ivs, take, frameOf, firstRegion, refsA, refsL, one, cellsA, floatOk, apartT, List.map, if_true, if_false, E_P, E_glob0, E_glob1, reduceCtorEq, beq_self_eq_true, decide_true, decide_false, ↓reduceIte, Nat.reduceEqDiff, cond_true, cond_false, or_true, true_or, or_false, false_or, and_true, true_and, and_self, false_and, and_false, not_true, not_false_iff, Nat.reduceAdd, Nat.reduceSub, Nat.reduceMul, Nat.reduceLT, Nat.reduceLeDiff, Int.reduceToNat, Int.reduceLT, Int.reduceLE, Option.getD, Int.reduceMul, Int.reduceAdd, List.drop, List.take, Nat.reduceBEq, List.isEmpty, Int.reduceEq, Int.reduceNe, Int.reduceNeg, Int.reduceGT, Int.reduceGE, beq_true, beq_false, UInt8.reduceToNat, eqE, eq_self, foldE, maxE, minE, eq_T, eq_F, ndec, odec, adec, sdec, fillA, over, chop, List.replicate, leavesOk, leafOk, cellsEq, cellEq, E_ext, E_byref, en12, bs22, bs24, rows64_len, rowsI_len, hrow, h1, h2, rows64_set]
  · rw [if_neg (fun h => h1 h.1)]
    simp (disch := first | omega | (simp only [List.length_append, List.length_map, List.length_set, List.length_cons, List.length_nil, List.length_take, List.length_drop, rows64_len, rowsI_len]; omega)) only [va0, va1, va2, va3, va4, va5, va6, va7, va8, va9, va10, va11, va12, va13, va14, va15, vb0, vb1, vb2, vb3, w_i8, w_u8, w_i16, w_u16, w_i32, w_u32, w_i64, w_u64, lt_T, lt_F, le_T, le_F, nlt_T, nlt_F, nle_T, nle_F, List.take_of_length_le, gB, gcW, gcR, posIn, renA, renL, Chunk.ren, Chunk.refs, evOpD, touchD, stepC, isFresh, nFresh, freshOf, mkR, hole, evL, evH, opd, get, putD, ofVal, cellOf, loadE, behind, lenE, idxAddrE, idxE, addPtr, intE, strE, unE, convE, AV.int, AV.bool, AV.str, ivs, take, frameOf, firstRegion, refsA, refsL, one, cellsA, floatOk, apartT, List.map, if_true, if_false, E_P, E_glob0, E_glob1, reduceCtorEq, beq_self_eq_true, decide_true, decide_false, ↓reduceIte, Nat.reduceEqDiff, cond_true, cond_false, or_true, true_or, or_false, false_or, and_true, true_and, and_self, false_and, and_false, not_true, not_false_iff, Nat.reduceAdd, Nat.reduceSub, Nat.reduceMul, Nat.reduceLT, Nat.reduceLeDiff, Int.reduceToNat, Int.reduceLT, Int.reduceLE, Option.getD, Int.reduceMul, Int.reduceAdd, List.drop, List.take, Nat.reduceBEq, List.isEmpty, Int.reduceEq, Int.reduceNe, Int.reduceNeg, Int.reduceGT, Int.reduceGE, beq_true, beq_false, UInt8.reduceToNat, eqE, eq_self, foldE, maxE, minE, eq_T, eq_F, ndec, odec, adec, sdec, fillA, over, chop, List.replicate, leavesOk, leafOk, cellsEq, cellEq, E_ext, E_byref, en12, bs22, bs24, rows64_len, rowsI_len, hrow, h1, rows64_set]
end Go.VI

namespace Go.VI
open Go.Proofs
set_option maxRecDepth 100000
set_option linter.unusedSimpArgs false
set_option linter.unusedVariables false
set_option maxHeartbeats 4000000
theorem c24 (op arg i : Int) : callT E 24 [.agg [.i (.v (.int .i64 op)), .i (.v (.int .i64 arg))], .i (.v (.int .i64 i))] [] = some (.clo (.func 32) [] [.ptr 0 0 0 0, .ptr 1 0 0 0], [.box [.i (.v (.int .i64 op)), .i (.v (.int .i64 arg))], .box [.i (.v (.int .i64 i))]]) := by
  rw [callT_eq Tryd.func24 rfl fok24 (by simp [Tryd.ntmps24])]
  simp (disch := first | omega | (simp only [List.length_append, List.length_map, List.length_set, List.length_cons, List.length_nil, List.length_take, List.length_drop]; omega)) only [va0, va1, va2, va3, va4, va5, va6, va7, va8, va9, va10, va11, va12, va13, va14, va15, vb0, vb1, vb2, vb3, w_i8, w_u8, w_i16, w_u16, w_i32, w_u32, w_i64, w_u64, lt_T, lt_F, le_T, le_F, nlt_T, nlt_F, nle_T, nle_F, List.take_of_length_le, gB, gcW, gcR, posIn, renA, renL, Chunk.ren, Chunk.refs, evOpD, touchD, stepC, isFresh, nFresh, freshOf, mkR, hole, evL, evH, opd, get, putD, ofVal, cellOf, loadE, behind, lenE, idxAddrE, idxE, addPtr, intE, strE, unE, convE, AV.int, AV.bool, AV.str, ivs, take, frameOf, firstRegion, refsA, refsL, one, cellsA, floatOk, apartT, List.map, if_true, if_false, E_P, E_glob0, E_glob1, reduceCtorEq, beq_self_eq_true, decide_true, decide_false, ↓reduceIte, Nat.reduceEqDiff, cond_true, cond_false, or_true, true_or, or_false, false_or, and_true, true_and, and_self, false_and, and_false, not_true, not_false_iff, Nat.reduceAdd, Nat.reduceSub, Nat.reduceMul, Nat.reduceLT, Nat.reduceLeDiff, Int.reduceToNat, Int.reduceLT, Int.reduceLE, Option.getD, Int.reduceMul, Int.reduceAdd, List.drop, List.take, Nat.reduceBEq, List.isEmpty, Int.reduceEq, Int.reduceNe, Int.reduceNeg, Int.reduceGT, Int.reduceGE, beq_true, beq_false, UInt8.reduceToNat, eqE, eq_self, foldE, maxE, minE, eq_T, eq_F, ndec, odec, adec, sdec, fillA, over, chop, List.replicate, leavesOk, leafOk, cellsEq, cellEq, E_ext, E_byref, en24]
theorem ik24 (op arg i : Int) (H : Hp) : isoK E (callT E) 24 [.agg [.i (.v (.int .i64 op)), .i (.v (.int .i64 arg))], .i (.v (.int .i64 i))] H = some (.clo (.func 32) [] [.ptr H.length 0 0 0, .ptr (H.length + 1) 0 0 0], H ++ [.box [.i (.v (.int .i64 op)), .i (.v (.int .i64 arg))], .box [.i (.v (.int .i64 i))]]) := by
  have h := c24 op arg i
  unfold isoK
  simp [exCl, show E.ext 24 = none from rfl, refsL, refsA, reach, renL, renA, posIn, h, Chunk.refs, Chunk.ren, setAll, backRen]
  exact Nat.add_comm _ _
theorem rg12 (l : List Ins) (hl : l.length < 100000) (n : Nat) (hn : n = l.length + 1) (op arg af i k : Int) : ∀ (xs : List Int), (∀ x ∈ xs, 0 ≤ x ∧ x ≤ l.length) → ∀ out : List Int, out.length = n →
    (∃ out', dSet l.length af xs out = some out' ∧ out'.length = n ∧ rgE (rdF E 12 (rfAt Tryd.f12 0)) 73 [(1, .ptr 0 0 0 0), (2, .ptr 1 0 0 0), (3, .ptr 2 0 0 0), (5, .ptr 3 0 0 0), (9, .ptr 6 0 0 0), (31, .i (.sl 2 (rowsI l) false)), (32, .i (.v (.int .i64 l.length))), (33, .i (.v (.int .i64 (k)))), (72, .clo (.func 32) [] [.ptr 7 0 0 0, .ptr 8 0 0 0])] [.ptr 7 0 0 0, .ptr 8 0 0 0] [[op, arg], [i]] xs [.box [.i (.sl 2 (rowsI l) false)], .box [.i (.sl 0 [] true)], .box [.i (.v (.int .i64 (0)))], .box [.ref 4 0 0 (n)], .sl 1 0 (rows64 (out)) false, .box [.i (.v (.int .i64 (op))), .i (.v (.int .i64 (arg)))], .box [.i (.v (.int .i64 (af)))], .box [.i (.v (.int .i64 (op))), .i (.v (.int .i64 (arg)))], .box [.i (.v (.int .i64 (i)))]] = some (.normal, [(1, .ptr 0 0 0 0), (2, .ptr 1 0 0 0), (3, .ptr 2 0 0 0), (5, .ptr 3 0 0 0), (9, .ptr 6 0 0 0), (31, .i (.sl 2 (rowsI l) false)), (32, .i (.v (.int .i64 l.length))), (33, .i (.v (.int .i64 (k)))), (72, .clo (.func 32) [] [.ptr 7 0 0 0, .ptr 8 0 0 0])], [.box [.i (.sl 2 (rowsI l) false)], .box [.i (.sl 0 [] true)], .box [.i (.v (.int .i64 (0)))], .box [.ref 4 0 0 (n)], .sl 1 0 (rows64 (out')) false, .box [.i (.v (.int .i64 (op))), .i (.v (.int .i64 (arg)))], .box [.i (.v (.int .i64 (af)))], .box [.i (.v (.int .i64 (op))), .i (.v (.int .i64 (arg)))], .box [.i (.v (.int .i64 (i)))]])) ∨
    (dSet l.length af xs out = none ∧ ∃ out', rgE (rdF E 12 (rfAt Tryd.f12 0)) 73 [(1, .ptr 0 0 0 0), (2, .ptr 1 0 0 0), (3, .ptr 2 0 0 0), (5, .ptr 3 0 0 0), (9, .ptr 6 0 0 0), (31, .i (.sl 2 (rowsI l) false)), (32, .i (.v (.int .i64 l.length))), (33, .i (.v (.int .i64 (k)))), (72, .clo (.func 32) [] [.ptr 7 0 0 0, .ptr 8 0 0 0])] [.ptr 7 0 0 0, .ptr 8 0 0 0] [[op, arg], [i]] xs [.box [.i (.sl 2 (rowsI l) false)], .box [.i (.sl 0 [] true)], .box [.i (.v (.int .i64 (0)))], .box [.ref 4 0 0 (n)], .sl 1 0 (rows64 (out)) false, .box [.i (.v (.int .i64 (op))), .i (.v (.int .i64 (arg)))], .box [.i (.v (.int .i64 (af)))], .box [.i (.v (.int .i64 (op))), .i (.v (.int .i64 (arg)))], .box [.i (.v (.int .i64 (i)))]] = some (.ret, [(1, .ptr 0 0 0 0), (2, .ptr 1 0 0 0), (3, .ptr 2 0 0 0), (5, .ptr 3 0 0 0), (9, .ptr 6 0 0 0), (31, .i (.sl 2 (rowsI l) false)), (32, .i (.v (.int .i64 l.length))), (33, .i (.v (.int .i64 (k)))), (72, .clo (.func 32) [] [.ptr 7 0 0 0, .ptr 8 0 0 0])], [.box [.i (.sl 2 (rowsI l) false)], .box [.i (.sl 0 [] true)], .box [.i (.v (.int .i64 (13)))], .box [.ref 4 0 0 (n)], .sl 1 0 (rows64 (out')) false, .box [.i (.v (.int .i64 (op))), .i (.v (.int .i64 (arg)))], .box [.i (.v (.int .i64 (af)))], .box [.i (.v (.int .i64 (op))), .i (.v (.int .i64 (arg)))], .box [.i (.v (.int .i64 (i)))]]))
  | [], _, out, ho => .inl ⟨out, rfl, ho, rfl⟩
  | x :: xs, hx, out, ho => by
    have h1 := rd12 l hl n hn out ho op arg af i k x (hx x (.head _))
    rw [rgE_cons, h1]
    simp only [dSet]
    by_cases hc : x < l.length ∧ 0 ≤ out.getD x.toNat 0 ∧ out.getD x.toNat 0 ≠ af
    · rw [if_pos hc, if_pos hc]
      exact .inr ⟨rfl, out, rfl⟩
    · rw [if_neg hc, if_neg hc, rgN_n, if_pos (show capsI _ [.ptr 7 0 0 0, .ptr 8 0 0 0] = some [[op, arg], [i]] from rfl)]
      exact rg12 l hl n hn op arg af i k xs (fun y hy => hx y (.tail _ hy)) (out.set x.toNat af) (by simpa using ho)
theorem sucL_in {n k : Nat} {op arg : Int} (hk : k < n) (h : chk1 n k (op, arg) = 0) : (0 ≤ op ∧ op ≤ 20) ∧ ∀ x ∈ sucL op arg k, (k : Int) < x ∧ x ≤ n := by
  unfold chk1 at h
  simp only at h
  split at h
  · cases h
  rename_i h1
  split at h
  · cases h
  rename_i h2
  refine ⟨by omega, fun x hx => ?_⟩
  unfold sucL at hx
  rw [List.mem_append] at hx
  rcases hx with hx | hx
  · split at hx
    · cases hx
    · rw [List.mem_singleton] at hx; omega
  · split at hx
    · rename_i hj
      rw [List.mem_singleton] at hx
      subst hx
      have h1 : ¬ op = 1 := by omega
      unfold boundsS at h2
      rw [if_neg h1, if_pos hj] at h2
      simp only at h2
      omega
    · cases hx
theorem dSet_r {n after : Int} (ha : 0 ≤ after ∧ after ≤ 16) : ∀ (ks out out' : List Int), dSet n after ks out = some out' → (∀ x ∈ out, -1 ≤ x ∧ x ≤ 16) → ∀ x ∈ out', -1 ≤ x ∧ x ≤ 16
  | [], out, out', h, hr => by simp only [dSet, Option.some.injEq] at h; subst h; exact hr
  | k :: ks, out, out', h, hr => by
    simp only [dSet] at h
    split at h
    · cases h
    · exact dSet_r ha ks _ out' h fun x hx => by
        rcases List.mem_or_eq_of_mem_set hx with h1 | h1
        · exact hr x h1
        · omega
theorem dSet_len {n after : Int} : ∀ (ks out out' : List Int), dSet n after ks out = some out' → out'.length = out.length
  | [], out, out', h => by simp only [dSet, Option.some.injEq] at h; subst h; rfl
  | k :: ks, out, out', h => by
    simp only [dSet] at h
    split at h
    · cases h
    · rw [dSet_len ks _ out' h, List.length_set]
def dP (l : List Ins) (n : Nat) (fr : Fr) (ex : Ex) (H' : Hp) : Option (List Int) → Prop
  | some out' => ex = .exit 2 ∧ out'.length = n ∧ H' = [.box [.i (.sl 2 (rowsI l) false)], .box [.i (.sl 0 [] true)], .box [.i (.v (.int .i64 0))], .box [.ref 4 0 0 (n)], .sl 1 0 (rows64 (out')) false] ∧ get 1 fr = .ptr 0 0 0 0 ∧ get 2 fr = .ptr 1 0 0 0 ∧ get 3 fr = .ptr 2 0 0 0 ∧ get 5 fr = .ptr 3 0 0 0
  | none => ex = .ret ∧ H'[1]? = some (.box [.i (.sl 0 [] true)]) ∧ H'[2]? = some (.box [.i (.v (.int .i64 13))]) ∧ get 2 fr = .ptr 1 0 0 0 ∧ get 3 fr = .ptr 2 0 0 0
theorem l12_1 (l : List Ins) (hl : l.length ≤ 500) (n : Nat) (hn : n = l.length + 1) (hok : ∀ (j : Nat) (h : j < l.length), chk1 l.length j l[j] = 0) (k : Nat) (hk : k ≤ l.length) (out : List Int) (ho : out.length = n) (hr : ∀ x ∈ out, -1 ≤ x ∧ x ≤ 16) :
    ∃ fr ex H', rl E 0 12 (loopAt Tryd.f12 1) [(1, .ptr 0 0 0 0), (2, .ptr 1 0 0 0), (3, .ptr 2 0 0 0), (5, .ptr 3 0 0 0), (31, .i (.sl 2 (rowsI l) false)), (32, .i (.v (.int .i64 l.length))), (33, .i (.v (.int .i64 (k))))] [.box [.i (.sl 2 (rowsI l) false)], .box [.i (.sl 0 [] true)], .box [.i (.v (.int .i64 0))], .box [.ref 4 0 0 (n)], .sl 1 0 (rows64 (out)) false] = some (ex, fr, H') ∧ dP l n fr ex H' (dRun l.length k (l.drop k) out) := by
  rw [rl_step (fn := Tryd.f12) (k := 1) rfl]
  by_cases hlt : k < l.length
  · have hrow := rowsI_at hlt
    have hck := hok k hlt
    rw [List.drop_eq_getElem_cons hlt, dRun, dStep]
    have ih := fun out ho hr => l12_1 l hl n hn hok (k + 1) hlt out ho hr
    obtain ⟨op, arg, hp⟩ : ∃ op arg, l[k] = (op, arg) := ⟨_, _, rfl⟩
    rw [hp] at hrow hck ⊢
    simp only at hrow ⊢
    obtain ⟨⟨o1, o2⟩, hsuc⟩ := sucL_in hlt hck
    have hd := rows64_get (l := out) (k := k) (by omega)
    have hdr := hr (out.getD k 0) (by rw [List.getD_eq_getElem?_getD, List.getElem?_eq_getElem (by omega)]; exact List.getElem_mem _)
    have hpo := pops_at o1 o2
    have hpu := pushes_at o1 o2
    have hp1 := popS_r op
    have hp2 := pushS_r op
    have hrg := fun af => rg12 l (by omega) n hn op arg af k k (sucL op arg k) (fun x hx => by have := hsuc x hx; omega) out ho
    have hsq := seqSucc_eq op arg k (by omega) (by omega)
    generalize out.getD k 0 = d at *
    generalize popS op = po at *
    generalize pushS op = pu at *
    generalize sucL op arg k = xs at *
    by_cases h1 : d < 0
    · rw [if_pos h1]
      simp only
      obtain ⟨fr, ex, H', e, hh⟩ := ih out ho hr
      refine ⟨fr, ex, H', Eq.trans ?_ e, hh⟩
      clear e hh ih hrg
      simp (disch := first | omega | (simp only [List.length_append, List.length_map, List.length_set, List.length_cons, List.length_nil, List.length_take, List.length_drop, rowsI_len, rows64_len]; omega)) only [va0, va1, va2, va3, va4, va5, va6, va7, va8, va9, va10, va11, va12, va13, va14, va15, vb0, vb1, vb2, vb3, w_i8, w_u8, w_i16, w_u16, w_i32, w_u32, w_i64, w_u64, lt_T, lt_F, le_T, le_F, nlt_T, nlt_F, nle_T, nle_F, List.take_of_length_le, gB, gcW, gcR, posIn, renA, renL, Chunk.ren, Chunk.refs, evOpD, touchD, stepC, isFresh, nFresh, freshOf, mkR, hole, evL, evH, opd, get, putD, ofVal, cellOf, loadE, behind, lenE, idxAddrE, idxE, addPtr, intE, strE, unE, convE, AV.int, AV.bool, AV.str, ivs, take, frameOf, firstRegion, refsA, refsL, one, cellsA, floatOk, apartT, List.map, if_true, if_false, E_P, E_glob0, E_glob1, reduceCtorEq, beq_self_eq_true, decide_true, decide_false, ↓reduceIte, Nat.reduceEqDiff, cond_true, cond_false, or_true, true_or, or_false, false_or, and_true, true_and, and_self, false_and, and_false, not_true, not_false_iff, Nat.reduceAdd, Nat.reduceSub, Nat.reduceMul, Nat.reduceLT, Nat.reduceLeDiff, Int.reduceToNat, Int.reduceLT, Int.reduceLE, Option.getD, Int.reduceMul, Int.reduceAdd, List.drop, List.take, Nat.reduceBEq, List.isEmpty, Int.reduceEq, Int.reduceNe, Int.reduceNeg, Int.reduceGT, Int.reduceGE, beq_true, beq_false, UInt8.reduceToNat, eqE, eq_self, foldE, maxE, minE, eq_T, eq_F, ndec, odec, adec, sdec, fillA, over, chop, List.replicate, leavesOk, leafOk, cellsEq, cellEq, E_ext, E_byref, en12, bs22, bs24, hrow, rowsI_len, rows64_len, hd, h1, show ∀ B fr H, execT E B 12 (Code.loop _) fr H = rlG E B 12 (loopAt Tryd.f12 1) (gcn B (norm [1, 2, 3, 5, 31, 32, 33] fr) H) from fun B fr H => rl_intro rfl mt12_12 mb12_12 zf12_12 hd12_12 fr H]
    · rw [if_neg h1]
      by_cases h2 : d < po
      · rw [if_pos (.inl h2)]
        clear ih hrg
        simp (disch := first | omega | (simp only [List.length_append, List.length_map, List.length_set, List.length_cons, List.length_nil, List.length_take, List.length_drop, rowsI_len, rows64_len]; omega)) only [va0, va1, va2, va3, va4, va5, va6, va7, va8, va9, va10, va11, va12, va13, va14, va15, vb0, vb1, vb2, vb3, w_i8, w_u8, w_i16, w_u16, w_i32, w_u32, w_i64, w_u64, lt_T, lt_F, le_T, le_F, nlt_T, nlt_F, nle_T, nle_F, List.take_of_length_le, gB, gcW, gcR, posIn, renA, renL, Chunk.ren, Chunk.refs, evOpD, touchD, stepC, isFresh, nFresh, freshOf, mkR, hole, evL, evH, opd, get, putD, ofVal, cellOf, loadE, behind, lenE, idxAddrE, idxE, addPtr, intE, strE, unE, convE, AV.int, AV.bool, AV.str, ivs, take, frameOf, firstRegion, refsA, refsL, one, cellsA, floatOk, apartT, List.map, if_true, if_false, E_P, E_glob0, E_glob1, reduceCtorEq, beq_self_eq_true, decide_true, decide_false, ↓reduceIte, Nat.reduceEqDiff, cond_true, cond_false, or_true, true_or, or_false, false_or, and_true, true_and, and_self, false_and, and_false, not_true, not_false_iff, Nat.reduceAdd, Nat.reduceSub, Nat.reduceMul, Nat.reduceLT, Nat.reduceLeDiff, Int.reduceToNat, Int.reduceLT, Int.reduceLE, Option.getD, Int.reduceMul, Int.reduceAdd, List.drop, List.take, Nat.reduceBEq, List.isEmpty, Int.reduceEq, Int.reduceNe, Int.reduceNeg, Int.reduceGT, Int.reduceGE, beq_true, beq_false, UInt8.reduceToNat, eqE, eq_self, foldE, maxE, minE, eq_T, eq_F, ndec, odec, adec, sdec, fillA, over, chop, List.replicate, leavesOk, leafOk, cellsEq, cellEq, E_ext, E_byref, en12, bs22, bs24, hrow, rowsI_len, rows64_len, hd, hpo, hpu, h1, h2, Nat.mul_one, show ∀ B fr H, execT E B 12 (Code.loop _) fr H = rlG E B 12 (loopAt Tryd.f12 1) (gcn B (norm [1, 2, 3, 5, 31, 32, 33] fr) H) from fun B fr H => rl_intro rfl mt12_12 mb12_12 zf12_12 hd12_12 fr H]
        refine ⟨_, _, _, rfl, ?_⟩
        exact ⟨rfl, rfl, rfl, rfl, rfl⟩
      · by_cases h3 : 16 < d - po + pu
        · rw [if_pos (.inr h3)]
          clear ih hrg
          simp (disch := first | omega | (simp only [List.length_append, List.length_map, List.length_set, List.length_cons, List.length_nil, List.length_take, List.length_drop, rowsI_len, rows64_len]; omega)) only [va0, va1, va2, va3, va4, va5, va6, va7, va8, va9, va10, va11, va12, va13, va14, va15, vb0, vb1, vb2, vb3, w_i8, w_u8, w_i16, w_u16, w_i32, w_u32, w_i64, w_u64, lt_T, lt_F, le_T, le_F, nlt_T, nlt_F, nle_T, nle_F, List.take_of_length_le, gB, gcW, gcR, posIn, renA, renL, Chunk.ren, Chunk.refs, evOpD, touchD, stepC, isFresh, nFresh, freshOf, mkR, hole, evL, evH, opd, get, putD, ofVal, cellOf, loadE, behind, lenE, idxAddrE, idxE, addPtr, intE, strE, unE, convE, AV.int, AV.bool, AV.str, ivs, take, frameOf, firstRegion, refsA, refsL, one, cellsA, floatOk, apartT, List.map, if_true, if_false, E_P, E_glob0, E_glob1, reduceCtorEq, beq_self_eq_true, decide_true, decide_false, ↓reduceIte, Nat.reduceEqDiff, cond_true, cond_false, or_true, true_or, or_false, false_or, and_true, true_and, and_self, false_and, and_false, not_true, not_false_iff, Nat.reduceAdd, Nat.reduceSub, Nat.reduceMul, Nat.reduceLT, Nat.reduceLeDiff, Int.reduceToNat, Int.reduceLT, Int.reduceLE, Option.getD, Int.reduceMul, Int.reduceAdd, List.drop, List.take, Nat.reduceBEq, List.isEmpty, Int.reduceEq, Int.reduceNe, Int.reduceNeg, Int.reduceGT, Int.reduceGE, beq_true, beq_false, UInt8.reduceToNat, eqE, eq_self, foldE, maxE, minE, eq_T, eq_F, ndec, odec, adec, sdec, fillA, over, chop, List.replicate, leavesOk, leafOk, cellsEq, cellEq, E_ext, E_byref, en12, bs22, bs24, hrow, rowsI_len, rows64_len, hd, hpo, hpu, h1, h2, h3, Nat.mul_one, show ∀ B fr H, execT E B 12 (Code.loop _) fr H = rlG E B 12 (loopAt Tryd.f12 1) (gcn B (norm [1, 2, 3, 5, 31, 32, 33] fr) H) from fun B fr H => rl_intro rfl mt12_12 mb12_12 zf12_12 hd12_12 fr H]
          refine ⟨_, _, _, rfl, ?_⟩
          exact ⟨rfl, rfl, rfl, rfl, rfl⟩
        · rw [if_neg (by omega)]
          rcases hrg (d - po + pu) with ⟨out', g1, g2, g3⟩ | ⟨g1, out', g3⟩
          · rw [g1]
            simp only
            obtain ⟨fr, ex, H', e, hh⟩ := ih out' g2 (dSet_r (by omega) xs out out' g1 hr)
            refine ⟨fr, ex, H', Eq.trans ?_ e, hh⟩
            clear e hh ih hrg
            simp (disch := first | omega | (simp only [List.length_append, List.length_map, List.length_set, List.length_cons, List.length_nil, List.length_take, List.length_drop, rowsI_len, rows64_len]; omega)) only [va0, va1, va2, va3, va4, va5, va6, va7, va8, va9, va10, va11, va12, va13, va14, va15, vb0, vb1, vb2, vb3, w_i8, w_u8, w_i16, w_u16, w_i32, w_u32, w_i64, w_u64, lt_T, lt_F, le_T, le_F, nlt_T, nlt_F, nle_T, nle_F, List.take_of_length_le, gB, gcW, gcR, posIn, renA, renL, Chunk.ren, Chunk.refs, evOpD, touchD, stepC, isFresh, nFresh, freshOf, mkR, hole, evL, evH, opd, get, putD, ofVal, cellOf, loadE, behind, lenE, idxAddrE, idxE, addPtr, intE, strE, unE, convE, AV.int, AV.bool, AV.str, ivs, take, frameOf, firstRegion, refsA, refsL, one, cellsA, floatOk, apartT, List.map, if_true, if_false, E_P, E_glob0, E_glob1, reduceCtorEq, beq_self_eq_true, decide_true, decide_false, ↓reduceIte, Nat.reduceEqDiff, cond_true, cond_false, or_true, true_or, or_false, false_or, and_true, true_and, and_self, false_and, and_false, not_true, not_false_iff, Nat.reduceAdd, Nat.reduceSub, Nat.reduceMul, Nat.reduceLT, Nat.reduceLeDiff, Int.reduceToNat, Int.reduceLT, Int.reduceLE, Option.getD, Int.reduceMul, Int.reduceAdd, List.drop, List.take, Nat.reduceBEq, List.isEmpty, Int.reduceEq, Int.reduceNe, Int.reduceNeg, Int.reduceGT, Int.reduceGE, beq_true, beq_false, UInt8.reduceToNat, eqE, eq_self, foldE, maxE, minE, eq_T, eq_F, ndec, odec, adec, sdec, fillA, over, chop, List.replicate, leavesOk, leafOk, cellsEq, cellEq, E_ext, E_byref, en12, bs22, bs24, hrow, rowsI_len, rows64_len, hd, hpo, hpu, h1, h2, h3, Nat.mul_one, ik24, hsq, g3, show ∀ B fr H, execT E B 12 (Code.rangeFunc _ _ _ _) fr H = rgO (rdF E 12 (rfAt Tryd.f12 0)) 73 fr H (seqE E H (opd E fr _)) from fun B fr H => rf_intro rfl rfl fr H, show ∀ B fr H, execT E B 12 (Code.loop _) fr H = rlG E B 12 (loopAt Tryd.f12 1) (gcn B (norm [1, 2, 3, 5, 31, 32, 33] fr) H) from fun B fr H => rl_intro rfl mt12_12 mb12_12 zf12_12 hd12_12 fr H]
          · rw [g1]
            simp only
            clear ih hrg
            simp (disch := first | omega | (simp only [List.length_append, List.length_map, List.length_set, List.length_cons, List.length_nil, List.length_take, List.length_drop, rowsI_len, rows64_len]; omega)) only [va0, va1, va2, va3, va4, va5, va6, va7, va8, va9, va10, va11, va12, va13, va14, va15, vb0, vb1, vb2, vb3, w_i8, w_u8, w_i16, w_u16, w_i32, w_u32, w_i64, w_u64, lt_T, lt_F, le_T, le_F, nlt_T, nlt_F, nle_T, nle_F, List.take_of_length_le, gB, gcW, gcR, posIn, renA, renL, Chunk.ren, Chunk.refs, evOpD, touchD, stepC, isFresh, nFresh, freshOf, mkR, hole, evL, evH, opd, get, putD, ofVal, cellOf, loadE, behind, lenE, idxAddrE, idxE, addPtr, intE, strE, unE, convE, AV.int, AV.bool, AV.str, ivs, take, frameOf, firstRegion, refsA, refsL, one, cellsA, floatOk, apartT, List.map, if_true, if_false, E_P, E_glob0, E_glob1, reduceCtorEq, beq_self_eq_true, decide_true, decide_false, ↓reduceIte, Nat.reduceEqDiff, cond_true, cond_false, or_true, true_or, or_false, false_or, and_true, true_and, and_self, false_and, and_false, not_true, not_false_iff, Nat.reduceAdd, Nat.reduceSub, Nat.reduceMul, Nat.reduceLT, Nat.reduceLeDiff, Int.reduceToNat, Int.reduceLT, Int.reduceLE, Option.getD, Int.reduceMul, Int.reduceAdd, List.drop, List.take, Nat.reduceBEq, List.isEmpty, Int.reduceEq, Int.reduceNe, Int.reduceNeg, Int.reduceGT, Int.reduceGE, beq_true, beq_false, UInt8.reduceToNat, eqE, eq_self, foldE, maxE, minE, eq_T, eq_F, ndec, odec, adec, sdec, fillA, over, chop, List.replicate, leavesOk, leafOk, cellsEq, cellEq, E_ext, E_byref, en12, bs22, bs24, hrow, rowsI_len, rows64_len, hd, hpo, hpu, h1, h2, h3, Nat.mul_one, ik24, hsq, g3, show ∀ B fr H, execT E B 12 (Code.rangeFunc _ _ _ _) fr H = rgO (rdF E 12 (rfAt Tryd.f12 0)) 73 fr H (seqE E H (opd E fr _)) from fun B fr H => rf_intro rfl rfl fr H, show ∀ B fr H, execT E B 12 (Code.loop _) fr H = rlG E B 12 (loopAt Tryd.f12 1) (gcn B (norm [1, 2, 3, 5, 31, 32, 33] fr) H) from fun B fr H => rl_intro rfl mt12_12 mb12_12 zf12_12 hd12_12 fr H]
            refine ⟨_, _, _, rfl, ?_⟩
            exact ⟨rfl, rfl, rfl, rfl, rfl⟩
  · obtain rfl : k = l.length := by omega
    rw [List.drop_length, dRun]
    simp (disch := first | omega | (simp only [List.length_append, List.length_map, List.length_set, List.length_cons, List.length_nil, List.length_take, List.length_drop, rows64_len, rowsI_len]; omega)) only [va0, va1, va2, va3, va4, va5, va6, va7, va8, va9, va10, va11, va12, va13, va14, va15, vb0, vb1, vb2, vb3, w_i8, w_u8, w_i16, w_u16, w_i32, w_u32, w_i64, w_u64, lt_T, lt_F, le_T, le_F, nlt_T, nlt_F, nle_T, nle_F, List.take_of_length_le, gB, gcW, gcR, posIn, renA, renL, Chunk.ren, Chunk.refs, evOpD, touchD, stepC, isFresh, nFresh, freshOf, mkR, hole, evL, evH, opd, get, putD, ofVal, cellOf, loadE, behind, lenE, idxAddrE, idxE, addPtr, intE, strE, unE, convE, AV.int, AV.bool, AV.str, ivs, take, frameOf, firstRegion, refsA, refsL, one, cellsA, floatOk, apartT, List.map, if_true, if_false, E_P, E_glob0, E_glob1, reduceCtorEq, beq_self_eq_true, decide_true, decide_false, ↓reduceIte, Nat.reduceEqDiff, cond_true, cond_false, or_true, true_or, or_false, false_or, and_true, true_and, and_self, false_and, and_false, not_true, not_false_iff, Nat.reduceAdd, Nat.reduceSub, Nat.reduceMul, Nat.reduceLT, Nat.reduceLeDiff, Int.reduceToNat, Int.reduceLT, Int.reduceLE, Option.getD, Int.reduceMul, Int.reduceAdd, List.drop, List.take, Nat.reduceBEq, List.isEmpty, Int.reduceEq, Int.reduceNe, Int.reduceNeg, Int.reduceGT, Int.reduceGE, beq_true, beq_false, UInt8.reduceToNat, eqE, eq_self, foldE, maxE, minE, eq_T, eq_F, ndec, odec, adec, sdec, fillA, over, chop, List.replicate, leavesOk, leafOk, cellsEq, cellEq, E_ext, E_byref, en12, bs22, bs24, rows64_len, rowsI_len, show ∀ B fr H, execT E B 12 (Code.loop _) fr H = rlG E B 12 (loopAt Tryd.f12 1) (gcn B (norm [1, 2, 3, 5, 31, 32, 33] fr) H) from fun B fr H => rl_intro rfl mt12_12 mb12_12 zf12_12 hd12_12 fr H]
    exact ⟨_, _, _, rfl, rfl, ho, rfl, rfl, rfl, rfl, rfl⟩
termination_by l.length - k
end Go.VI

namespace Go.VI
open Go.Proofs
set_option maxRecDepth 100000
set_option linter.unusedSimpArgs false
set_option linter.unusedVariables false
set_option maxHeartbeats 4000000
theorem rows64_take (l : List Int) (k : Nat) : (rows64 l).take k = rows64 (l.take k) := by simp [rows64, List.map_take]
theorem chkL_ok {n : Int} : ∀ (l : List Ins) (k : Nat), chkL n k l = 0 → ∀ (j : Nat) (h : j < l.length), chk1 n ((k + j : Nat)) l[j] = 0
  | [], k, _, j, h => by simp at h
  | p :: r, k, hc, j, h => by
    simp only [chkL] at hc
    split at hc
    · rename_i h1
      cases j with
      | zero => simpa using h1
      | succ j =>
        have := chkL_ok r (k + 1) hc j (by simpa using h)
        simpa [Nat.add_assoc, Nat.add_comm 1 j] using this
    · rename_i h1
      exact absurd hc h1
theorem check_len {l : List Ins} (h : checkI l = 0) : l.length ≤ 500 := by
  unfold checkI at h
  split at h
  · cases h
  · omega
theorem check_ok {l : List Ins} (h : checkI l = 0) (j : Nat) (hj : j < l.length) : chk1 l.length j l[j] = 0 := by
  unfold checkI at h
  split at h
  · cases h
  · simpa using chkL_ok l 0 h j hj
theorem c12 (l : List Ins) (hl : (l.length : Int) < 9223372036854775808) : ∃ L, callT E 12 [.i (.sl 2 (rowsI l) false)] [] = some (.tup [.i (.sl 1 (rows64 (depthsS l).1) false), .i (.v (.int .i64 (depthsS l).2))], L) := by
  have hC := fun H => ik23 l hl H
  unfold depthsS
  by_cases h0 : checkI l = 0
  rotate_left
  · rw [if_neg h0]
    generalize checkI l = q at *
    simp only
    have hz : rows64 [] = [] := rfl
    rw [hz]
    rw [callT_eq Tryd.func12 rfl fok12 (by simp [Tryd.ntmps12])]
    simp (disch := first | omega | (simp only [List.length_append, List.length_map, List.length_set, List.length_cons, List.length_nil, List.length_take, List.length_drop]; omega)) only [va0, va1, va2, va3, va4, va5, va6, va7, va8, va9, va10, va11, va12, va13, va14, va15, vb0, vb1, vb2, vb3, w_i8, w_u8, w_i16, w_u16, w_i32, w_u32, w_i64, w_u64, lt_T, lt_F, le_T, le_F, nlt_T, nlt_F, nle_T, nle_F, List.take_of_length_le, gB, gcW, gcR, posIn, renA, renL, Chunk.ren, Chunk.refs, evOpD, touchD, stepC, isFresh, nFresh, freshOf, mkR, hole, evL, evH, opd, get, putD, ofVal, cellOf, loadE, behind, lenE, idxAddrE, idxE, addPtr, intE, strE, unE, convE, AV.int, AV.bool, AV.str, ivs, take, frameOf, firstRegion, refsA, refsL, one, cellsA, floatOk, apartT, List.map, if_true, if_false, E_P, E_glob0, E_glob1, reduceCtorEq, beq_self_eq_true, decide_true, decide_false, ↓reduceIte, Nat.reduceEqDiff, cond_true, cond_false, or_true, true_or, or_false, false_or, and_true, true_and, and_self, false_and, and_false, not_true, not_false_iff, Nat.reduceAdd, Nat.reduceSub, Nat.reduceMul, Nat.reduceLT, Nat.reduceLeDiff, Int.reduceToNat, Int.reduceLT, Int.reduceLE, Option.getD, Int.reduceMul, Int.reduceAdd, List.drop, List.take, Nat.reduceBEq, List.isEmpty, Int.reduceEq, Int.reduceNe, Int.reduceNeg, Int.reduceGT, Int.reduceGE, beq_true, beq_false, UInt8.reduceToNat, eqE, eq_self, foldE, maxE, minE, eq_T, eq_F, ndec, odec, adec, sdec, fillA, over, chop, List.replicate, leavesOk, leafOk, cellsEq, cellEq, E_ext, E_byref, en12, bs22, bs24, hC, h0]
    exact ⟨_, rfl⟩
  · rw [if_pos h0]
    rw [h0] at hC
    have h5 := check_len h0
    have hnn : ((l.length : Int) + 1).toNat = l.length + 1 := by omega
    obtain ⟨fr0, e0, f1, f2, f3, f5⟩ := l12_0 l (l.length + 1) (by omega) 0 (Nat.zero_le _)
    rw [Nat.sub_zero, List.replicate_zero, List.nil_append] at e0
    have e0' : rl E 0 12 (loopAt Tryd.f12 0) [(1, .ptr 0 0 0 0), (2, .ptr 1 0 0 0), (3, .ptr 2 0 0 0), (5, .ptr 3 0 0 0), (21, .i (.v (.int .i64 ((l.length + 1 : Nat))))), (22, .i (.v (.int .i64 (0))))] [.box [.i (.sl 2 (rowsI l) false)], .box [.i (.sl 0 [] true)], .box [.i (.v (.int .i64 0))], .box [.ref 4 0 0 (l.length + 1)], .sl 1 0 ([.v (.int .i64 0)] :: rows64 (List.replicate l.length 0)) false] = _ := e0
    have hs : (List.replicate (l.length + 1) (-1 : Int)).set 0 0 = 0 :: List.replicate l.length (-1) := by rw [List.replicate_succ]; rfl
    have hrow : (rows64 (List.replicate (l.length + 1) (-1)))[0]? = some [.v (.int .i64 (-1))] := by rw [List.replicate_succ]; rfl
    obtain ⟨fr1, ex1, H1, e1, hh⟩ := l12_1 l h5 (l.length + 1) rfl (check_ok h0) 0 (Nat.zero_le _) (0 :: List.replicate l.length (-1)) (by simp) (fun x hx => by
      rcases List.mem_cons.1 hx with rfl | hx
      · omega
      · have := List.eq_of_mem_replicate hx; omega)
    rw [List.drop_zero] at hh
    have e1' : rl E 0 12 (loopAt Tryd.f12 1) [(1, .ptr 0 0 0 0), (2, .ptr 1 0 0 0), (3, .ptr 2 0 0 0), (5, .ptr 3 0 0 0), (31, .i (.sl 2 (rowsI l) false)), (32, .i (.v (.int .i64 l.length))), (33, .i (.v (.int .i64 (0))))] [.box [.i (.sl 2 (rowsI l) false)], .box [.i (.sl 0 [] true)], .box [.i (.v (.int .i64 0))], .box [.ref 4 0 0 ((l.length + 1 : Nat))], .sl 1 0 (rows64 (0 :: List.replicate l.length (-1))) false] = _ := e1
    rw [← hs] at e1'
    clear e0 e1
    cases hd : dRun l.length 0 l (0 :: List.replicate l.length (-1)) with
    | none =>
      rw [hd] at hh
      obtain ⟨rfl, g1, g2, g3, g4⟩ := hh
      simp only
      have hz : rows64 [] = [] := rfl
      rw [hz]
      generalize List.replicate (l.length + 1) (-1 : Int) = o1 at *
      clear hs
      rw [callT_eq Tryd.func12 rfl fok12 (by simp [Tryd.ntmps12])]
      simp (disch := first | omega | (simp only [List.length_append, List.length_map, List.length_set, List.length_cons, List.length_nil, List.length_take, List.length_drop, rowsI_len, rows64_len]; omega)) only [va0, va1, va2, va3, va4, va5, va6, va7, va8, va9, va10, va11, va12, va13, va14, va15, vb0, vb1, vb2, vb3, w_i8, w_u8, w_i16, w_u16, w_i32, w_u32, w_i64, w_u64, lt_T, lt_F, le_T, le_F, nlt_T, nlt_F, nle_T, nle_F, List.take_of_length_le, gB, gcW, gcR, posIn, renA, renL, Chunk.ren, Chunk.refs, evOpD, touchD, stepC, isFresh, nFresh, freshOf, mkR, hole, evL, evH, opd, get, putD, ofVal, cellOf, loadE, behind, lenE, idxAddrE, idxE, addPtr, intE, strE, unE, convE, AV.int, AV.bool, AV.str, ivs, take, frameOf, firstRegion, refsA, refsL, one, cellsA, floatOk, apartT, List.map, if_true, if_false, E_P, E_glob0, E_glob1, reduceCtorEq, beq_self_eq_true, decide_true, decide_false, ↓reduceIte, Nat.reduceEqDiff, cond_true, cond_false, or_true, true_or, or_false, false_or, and_true, true_and, and_self, false_and, and_false, not_true, not_false_iff, Nat.reduceAdd, Nat.reduceSub, Nat.reduceMul, Nat.reduceLT, Nat.reduceLeDiff, Int.reduceToNat, Int.reduceLT, Int.reduceLE, Option.getD, Int.reduceMul, Int.reduceAdd, List.drop, List.take, Nat.reduceBEq, List.isEmpty, Int.reduceEq, Int.reduceNe, Int.reduceNeg, Int.reduceGT, Int.reduceGE, beq_true, beq_false, UInt8.reduceToNat, eqE, eq_self, foldE, maxE, minE, eq_T, eq_F, ndec, odec, adec, sdec, fillA, over, chop, List.replicate, leavesOk, leafOk, cellsEq, cellEq, E_ext, E_byref, en12, bs22, bs24, hC, rowsI_len, rows64_len, rows64_rep, rows64_set, hnn, hrow, e0', f1, f2, f3, f5, e1', g1, g2, g3, g4, show ∀ B fr H, execT E B 12 (Code.loop _) fr H = rlG E B 12 (loopAt Tryd.f12 0) (gcn B (norm [1, 2, 3, 5, 21, 22] fr) H) from fun B fr H => rl_intro rfl mt12_6 mb12_6 zf12_6 hd12_6 fr H, show ∀ B fr H, execT E B 12 (Code.loop _) fr H = rlG E B 12 (loopAt Tryd.f12 1) (gcn B (norm [1, 2, 3, 5, 31, 32, 33] fr) H) from fun B fr H => rl_intro rfl mt12_12 mb12_12 zf12_12 hd12_12 fr H]
      exact ⟨_, rfl⟩
    | some out =>
      rw [hd] at hh
      obtain ⟨rfl, ho, rfl, g1, g2, g3, g5⟩ := hh
      simp only
      generalize List.replicate (l.length + 1) (-1 : Int) = o1 at *
      clear hs
      rw [callT_eq Tryd.func12 rfl fok12 (by simp [Tryd.ntmps12])]
      simp (disch := first | omega | (simp only [List.length_append, List.length_map, List.length_set, List.length_cons, List.length_nil, List.length_take, List.length_drop, rowsI_len, rows64_len]; omega)) only [va0, va1, va2, va3, va4, va5, va6, va7, va8, va9, va10, va11, va12, va13, va14, va15, vb0, vb1, vb2, vb3, w_i8, w_u8, w_i16, w_u16, w_i32, w_u32, w_i64, w_u64, lt_T, lt_F, le_T, le_F, nlt_T, nlt_F, nle_T, nle_F, List.take_of_length_le, gB, gcW, gcR, posIn, renA, renL, Chunk.ren, Chunk.refs, evOpD, touchD, stepC, isFresh, nFresh, freshOf, mkR, hole, evL, evH, opd, get, putD, ofVal, cellOf, loadE, behind, lenE, idxAddrE, idxE, addPtr, intE, strE, unE, convE, AV.int, AV.bool, AV.str, ivs, take, frameOf, firstRegion, refsA, refsL, one, cellsA, floatOk, apartT, List.map, if_true, if_false, E_P, E_glob0, E_glob1, reduceCtorEq, beq_self_eq_true, decide_true, decide_false, ↓reduceIte, Nat.reduceEqDiff, cond_true, cond_false, or_true, true_or, or_false, false_or, and_true, true_and, and_self, false_and, and_false, not_true, not_false_iff, Nat.reduceAdd, Nat.reduceSub, Nat.reduceMul, Nat.reduceLT, Nat.reduceLeDiff, Int.reduceToNat, Int.reduceLT, Int.reduceLE, Option.getD, Int.reduceMul, Int.reduceAdd, List.drop, List.take, Nat.reduceBEq, List.isEmpty, Int.reduceEq, Int.reduceNe, Int.reduceNeg, Int.reduceGT, Int.reduceGE, beq_true, beq_false, UInt8.reduceToNat, eqE, eq_self, foldE, maxE, minE, eq_T, eq_F, ndec, odec, adec, sdec, fillA, over, chop, List.replicate, leavesOk, leafOk, cellsEq, cellEq, E_ext, E_byref, en12, bs22, bs24, hC, rowsI_len, rows64_len, rows64_rep, rows64_set, rows64_take, hnn, hrow, e0', f1, f2, f3, f5, e1', g1, g2, g3, g5, show ∀ B fr H, execT E B 12 (Code.loop _) fr H = rlG E B 12 (loopAt Tryd.f12 0) (gcn B (norm [1, 2, 3, 5, 21, 22] fr) H) from fun B fr H => rl_intro rfl mt12_6 mb12_6 zf12_6 hd12_6 fr H, show ∀ B fr H, execT E B 12 (Code.loop _) fr H = rlG E B 12 (loopAt Tryd.f12 1) (gcn B (norm [1, 2, 3, 5, 31, 32, 33] fr) H) from fun B fr H => rl_intro rfl mt12_12 mb12_12 zf12_12 hd12_12 fr H]
      exact ⟨_, rfl⟩
theorem ik12 (l : List Ins) (hl : (l.length : Int) < 9223372036854775808) (H : Hp) : isoK E (callT E) 12 [.i (.sl 2 (rowsI l) false)] H = some (.tup [.i (.sl 1 (rows64 (depthsS l).1) false), .i (.v (.int .i64 (depthsS l).2))], H) := isoK_val rfl rfl rfl (c12 l hl)
end Go.VI

namespace Go.VI
open Go.Proofs
set_option maxRecDepth 100000
set_option linter.unusedSimpArgs false
set_option linter.unusedVariables false
set_option maxHeartbeats 4000000
theorem ran_true {f n : Nat} (h : (match call E n f [] [] with | some (.i (.v (.bool true)), _) => true | _ => false) = true) : ∃ L, callT E f [] [] = some (.i (.v (.bool true)), L) := by
  split at h
  · rename_i L hL; exact ⟨L, callT_of hL⟩
  · cases h
theorem ik11 (H : Hp) : isoK E (callT E) 11 [] H = some (.i (.v (.bool true)), H) := isoK_val rfl rfl rfl (ran_true (n := 200) (by kernel_rfl))
end Go.VI

namespace Go.VI
open Go.Proofs
set_option maxRecDepth 100000
set_option linter.unusedSimpArgs false
set_option linter.unusedVariables false
set_option maxHeartbeats 4000000
theorem getD_set_int (l : List Int) (i j : Nat) (x : Int) : (l.set i x).getD j 0 = if i = j ∧ i < l.length then x else l.getD j 0 := by
  simp only [List.getD_eq_getElem?_getD, List.getElem?_set]
  by_cases h : i = j
  · subst h
    by_cases hl : i < l.length
    · simp [hl]
    · simp [hl]
  · simp [h]
end Go.VI

namespace Go.VI
open Go.Proofs
set_option maxRecDepth 100000
set_option linter.unusedSimpArgs false
set_option linter.unusedVariables false
set_option maxHeartbeats 4000000
def walkF (l : List Ins) : Nat → Nat → Int → List Int
  | 0, _, _ => []
  | f + 1, i, q => if i < l.length then (i : Int) :: (if (l.getD i (0, 0)).1 = 0 then [] else if (l.getD i (0, 0)).1 = 17 then walkF l f (l.getD i (0, 0)).2.toNat q else if (l.getD i (0, 0)).1 = 18 then walkF l f (if q % 2 = 1 then (l.getD i (0, 0)).2.toNat else i + 1) (q / 2) else walkF l f (i + 1) q) else []
theorem chk1_jump {n k : Nat} {op arg : Int} (h : chk1 n k (op, arg) = 0) (hj : op = 17 ∨ op = 18) : (k : Int) + 1 ≤ arg ∧ arg ≤ n := by
  unfold chk1 at h
  simp only at h
  split at h
  · cases h
  rename_i h1
  split at h
  · cases h
  rename_i h2
  have h1 : ¬ op = 1 := by omega
  unfold boundsS at h2
  rw [if_neg h1, if_pos hj] at h2
  simp only at h2
  omega
def wP (out : List Int) (fr : Fr) (ex : Ex) (H' : Hp) : Prop := (ex = .exit 0 ∧ get 5 fr = .ref 0 0 0 out.length ∧ H'[0]? = some (.sl 1 0 (rows64 out) false)) ∨ (ex = .ret ∧ get 4 fr = .ref 0 1 0 out.length ∧ H'[0]? = some (.sl 1 1 (rows64 out) false))
theorem l20 (l : List Ins) (hl : l.length ≤ 500) (hok : ∀ (j : Nat) (h : j < l.length), chk1 l.length j l[j] = 0) : ∀ (f k : Nat) (hk : k ≤ l.length) (hf : l.length + 1 ≤ k + f) (out : List Int) (ho : out.length ≤ k) (q : Int) (hq : 0 ≤ q ∧ q ≤ 4294967295),
    ∃ fr ex H', rl E 0 20 (loopAt Tryd.f20 0) [(0, .i (.sl 2 (rowsI l) false)), (1, .i (.v (.int .u32 q))), (5, .ref 0 0 0 out.length), (6, .i (.v (.int .i64 k)))] [.sl 1 0 (rows64 out) false] = some (ex, fr, H') ∧ wP (out ++ walkF l f k q) fr ex H'
  | 0, k, hk, hf, out, ho, q, hq => by omega
  | f + 1, k, hk, hf, out, ho, q, hq => by
    rw [rl_step (fn := Tryd.f20) (k := 0) rfl]
    rw [walkF]
    by_cases hlt : k < l.length
    · have htm := Int.tmod_eq_emod_of_nonneg (a := q) (b := 2) hq.1
      have htd := Int.tdiv_eq_ediv_of_nonneg (a := q) (b := 2) hq.1
      have hrow := rowsI_at hlt
      have hck := hok k hlt
      rw [if_pos hlt]
      have hgd : l.getD k (0, 0) = l[k] := by rw [List.getD_eq_getElem?_getD, List.getElem?_eq_getElem hlt]; rfl
      rw [hgd]
      have ht : List.take out.length (rows64 out) = rows64 out := by rw [rows64_take, List.take_length]
      have ih := fun k' (h1 : k + 1 ≤ k') (h2 : k' ≤ l.length) q' hq' => l20 l hl hok f k' h2 (by omega) (out ++ [(k : Int)]) (by rw [List.length_append]; simp only [List.length_cons, List.length_nil]; omega) q' hq'
      obtain ⟨op, arg, hp⟩ : ∃ op arg, l[k] = (op, arg) := ⟨_, _, rfl⟩
      rw [hp] at hrow hck ⊢
      simp only at hrow ⊢
      by_cases h0 : op = 0
      · rw [if_pos h0]
        subst h0
        clear ih
        simp (disch := first | omega | (simp only [List.length_append, List.length_map, List.length_set, List.length_cons, List.length_nil, List.length_take, List.length_drop, rows64_len, rowsI_len]; omega)) only [va0, va1, va2, va3, va4, va5, va6, va7, va8, va9, va10, va11, va12, va13, va14, va15, vb0, vb1, vb2, vb3, w_i8, w_u8, w_i16, w_u16, w_i32, w_u32, w_i64, w_u64, lt_T, lt_F, le_T, le_F, nlt_T, nlt_F, nle_T, nle_F, List.take_of_length_le, gB, gcW, gcR, posIn, renA, renL, Chunk.ren, Chunk.refs, evOpD, touchD, stepC, isFresh, nFresh, freshOf, mkR, hole, evL, evH, opd, get, putD, ofVal, cellOf, loadE, behind, lenE, idxAddrE, idxE, addPtr, intE, strE, unE, convE, AV.int, AV.bool, AV.str, ivs, take, frameOf, firstRegion, refsA, refsL, one, cellsA, floatOk, apartT, List.map, if_true, if_false, E_P, E_glob0, E_glob1, reduceCtorEq, beq_self_eq_true, decide_true, decide_false, ↓reduceIte, Nat.reduceEqDiff, cond_true, cond_false, or_true, true_or, or_false, false_or, and_true, true_and, and_self, false_and, and_false, not_true, not_false_iff, Nat.reduceAdd, Nat.reduceSub, Nat.reduceMul, Nat.reduceLT, Nat.reduceLeDiff, Int.reduceToNat, Int.reduceLT, Int.reduceLE, Option.getD, Int.reduceMul, Int.reduceAdd, List.drop, List.take, Nat.reduceBEq, List.isEmpty, Int.reduceEq, Int.reduceNe, Int.reduceNeg, Int.reduceGT, Int.reduceGE, beq_true, beq_false, UInt8.reduceToNat, eqE, eq_self, foldE, maxE, minE, eq_T, eq_F, ndec, odec, adec, sdec, fillA, over, chop, List.replicate, leavesOk, leafOk, cellsEq, cellEq, E_ext, E_byref, en20, bs22, bs24, hrow, rows64_len, rowsI_len, rows64_snoc, ht, show ∀ B fr H, execT E B 20 (Code.loop _) fr H = rlM E B 20 (loopAt Tryd.f20 0) [0, 1, 5, 6] [] (matF [(5, 1)] fr H).1 (matB [] (matF [(5, 1)] fr H).1 (matF [(5, 1)] fr H).2) from fun B fr H => rl_introM rfl mt20_3 mb20_3 zf20_3 hd20_3 fr H]
        refine ⟨_, _, _, rfl, .inr ?_⟩
        refine ⟨rfl, ?_, rfl⟩
        rw [List.length_append]; rfl
      · rw [if_neg h0]
        by_cases h17 : op = 17
        · rw [if_pos h17]
          have hj := chk1_jump hck (.inl h17)
          obtain ⟨fr, ex, H', e, hh⟩ := ih arg.toNat (by omega) (by omega) q hq
          rw [List.append_assoc] at hh
          refine ⟨fr, ex, H', Eq.trans ?_ e, hh⟩
          have hc : ((arg.toNat : Nat) : Int) = arg := by omega
          rw [hc]
          subst h17
          clear e hh ih
          simp (disch := first | omega | (simp only [List.length_append, List.length_map, List.length_set, List.length_cons, List.length_nil, List.length_take, List.length_drop, rows64_len, rowsI_len]; omega)) only [va0, va1, va2, va3, va4, va5, va6, va7, va8, va9, va10, va11, va12, va13, va14, va15, vb0, vb1, vb2, vb3, w_i8, w_u8, w_i16, w_u16, w_i32, w_u32, w_i64, w_u64, lt_T, lt_F, le_T, le_F, nlt_T, nlt_F, nle_T, nle_F, List.take_of_length_le, gB, gcW, gcR, posIn, renA, renL, Chunk.ren, Chunk.refs, evOpD, touchD, stepC, isFresh, nFresh, freshOf, mkR, hole, evL, evH, opd, get, putD, ofVal, cellOf, loadE, behind, lenE, idxAddrE, idxE, addPtr, intE, strE, unE, convE, AV.int, AV.bool, AV.str, ivs, take, frameOf, firstRegion, refsA, refsL, one, cellsA, floatOk, apartT, List.map, if_true, if_false, E_P, E_glob0, E_glob1, reduceCtorEq, beq_self_eq_true, decide_true, decide_false, ↓reduceIte, Nat.reduceEqDiff, cond_true, cond_false, or_true, true_or, or_false, false_or, and_true, true_and, and_self, false_and, and_false, not_true, not_false_iff, Nat.reduceAdd, Nat.reduceSub, Nat.reduceMul, Nat.reduceLT, Nat.reduceLeDiff, Int.reduceToNat, Int.reduceLT, Int.reduceLE, Option.getD, Int.reduceMul, Int.reduceAdd, List.drop, List.take, Nat.reduceBEq, List.isEmpty, Int.reduceEq, Int.reduceNe, Int.reduceNeg, Int.reduceGT, Int.reduceGE, beq_true, beq_false, UInt8.reduceToNat, eqE, eq_self, foldE, maxE, minE, eq_T, eq_F, ndec, odec, adec, sdec, fillA, over, chop, List.replicate, leavesOk, leafOk, cellsEq, cellEq, E_ext, E_byref, en20, bs22, bs24, hrow, rows64_len, rowsI_len, rows64_snoc, ht, show ∀ B fr H, execT E B 20 (Code.loop _) fr H = rlM E B 20 (loopAt Tryd.f20 0) [0, 1, 5, 6] [] (matF [(5, 1)] fr H).1 (matB [] (matF [(5, 1)] fr H).1 (matF [(5, 1)] fr H).2) from fun B fr H => rl_introM rfl mt20_3 mb20_3 zf20_3 hd20_3 fr H]
        · rw [if_neg h17]
          by_cases h18 : op = 18
          · rw [if_pos h18]
            have hj := chk1_jump hck (.inr h18)
            by_cases h1 : q % 2 = 1
            · rw [if_pos h1]
              obtain ⟨fr, ex, H', e, hh⟩ := ih arg.toNat (by omega) (by omega) (q / 2) (by omega)
              rw [List.append_assoc] at hh
              refine ⟨fr, ex, H', Eq.trans ?_ e, hh⟩
              have hc : ((arg.toNat : Nat) : Int) = arg := by omega
              rw [hc]
              subst h18
              clear e hh ih
              simp (disch := first | omega | (simp only [List.length_append, List.length_map, List.length_set, List.length_cons, List.length_nil, List.length_take, List.length_drop, rows64_len, rowsI_len]; omega)) only [va0, va1, va2, va3, va4, va5, va6, va7, va8, va9, va10, va11, va12, va13, va14, va15, vb0, vb1, vb2, vb3, w_i8, w_u8, w_i16, w_u16, w_i32, w_u32, w_i64, w_u64, lt_T, lt_F, le_T, le_F, nlt_T, nlt_F, nle_T, nle_F, List.take_of_length_le, gB, gcW, gcR, posIn, renA, renL, Chunk.ren, Chunk.refs, evOpD, touchD, stepC, isFresh, nFresh, freshOf, mkR, hole, evL, evH, opd, get, putD, ofVal, cellOf, loadE, behind, lenE, idxAddrE, idxE, addPtr, intE, strE, unE, convE, AV.int, AV.bool, AV.str, ivs, take, frameOf, firstRegion, refsA, refsL, one, cellsA, floatOk, apartT, List.map, if_true, if_false, E_P, E_glob0, E_glob1, reduceCtorEq, beq_self_eq_true, decide_true, decide_false, ↓reduceIte, Nat.reduceEqDiff, cond_true, cond_false, or_true, true_or, or_false, false_or, and_true, true_and, and_self, false_and, and_false, not_true, not_false_iff, Nat.reduceAdd, Nat.reduceSub, Nat.reduceMul, Nat.reduceLT, Nat.reduceLeDiff, Int.reduceToNat, Int.reduceLT, Int.reduceLE, Option.getD, Int.reduceMul, Int.reduceAdd, List.drop, List.take, Nat.reduceBEq, List.isEmpty, Int.reduceEq, Int.reduceNe, Int.reduceNeg, Int.reduceGT, Int.reduceGE, beq_true, beq_false, UInt8.reduceToNat, eqE, eq_self, foldE, maxE, minE, eq_T, eq_F, ndec, odec, adec, sdec, fillA, over, chop, List.replicate, leavesOk, leafOk, cellsEq, cellEq, E_ext, E_byref, en20, bs22, bs24, hrow, htm, htd, h1, rows64_len, rowsI_len, rows64_snoc, ht, show ∀ B fr H, execT E B 20 (Code.loop _) fr H = rlM E B 20 (loopAt Tryd.f20 0) [0, 1, 5, 6] [] (matF [(5, 1)] fr H).1 (matB [] (matF [(5, 1)] fr H).1 (matF [(5, 1)] fr H).2) from fun B fr H => rl_introM rfl mt20_3 mb20_3 zf20_3 hd20_3 fr H]
            · rw [if_neg h1]
              obtain ⟨fr, ex, H', e, hh⟩ := ih (k + 1) (by omega) (by omega) (q / 2) (by omega)
              rw [List.append_assoc] at hh
              refine ⟨fr, ex, H', Eq.trans ?_ e, hh⟩
              subst h18
              clear e hh ih
              simp (disch := first | omega | (simp only [List.length_append, List.length_map, List.length_set, List.length_cons, List.length_nil, List.length_take, List.length_drop, rows64_len, rowsI_len]; omega)) only [va0, va1, va2, va3, va4, va5, va6, va7, va8, va9, va10, va11, va12, va13, va14, va15, vb0, vb1, vb2, vb3, w_i8, w_u8, w_i16, w_u16, w_i32, w_u32, w_i64, w_u64, lt_T, lt_F, le_T, le_F, nlt_T, nlt_F, nle_T, nle_F, List.take_of_length_le, gB, gcW, gcR, posIn, renA, renL, Chunk.ren, Chunk.refs, evOpD, touchD, stepC, isFresh, nFresh, freshOf, mkR, hole, evL, evH, opd, get, putD, ofVal, cellOf, loadE, behind, lenE, idxAddrE, idxE, addPtr, intE, strE, unE, convE, AV.int, AV.bool, AV.str, ivs, take, frameOf, firstRegion, refsA, refsL, one, cellsA, floatOk, apartT, List.map, if_true, if_false, E_P, E_glob0, E_glob1, reduceCtorEq, beq_self_eq_true, decide_true, decide_false, ↓reduceIte, Nat.reduceEqDiff, cond_true, cond_false, or_true, true_or, or_false, false_or, and_true, true_and, and_self, false_and, and_false, not_true, not_false_iff, Nat.reduceAdd, Nat.reduceSub, Nat.reduceMul, Nat.reduceLT, Nat.reduceLeDiff, Int.reduceToNat, Int.reduceLT, Int.reduceLE, Option.getD, Int.reduceMul, Int.reduceAdd, List.drop, List.take, Nat.reduceBEq, List.isEmpty, Int.reduceEq, Int.reduceNe, Int.reduceNeg, Int.reduceGT, Int.reduceGE, beq_true, beq_false, UInt8.reduceToNat, eqE, eq_self, foldE, maxE, minE, eq_T, eq_F, ndec, odec, adec, sdec, fillA, over, chop, List.replicate, leavesOk, leafOk, cellsEq, cellEq, E_ext, E_byref, en20, bs22, bs24, hrow, htm, htd, h1, rows64_len, rowsI_len, rows64_snoc, ht, show ∀ B fr H, execT E B 20 (Code.loop _) fr H = rlM E B 20 (loopAt Tryd.f20 0) [0, 1, 5, 6] [] (matF [(5, 1)] fr H).1 (matB [] (matF [(5, 1)] fr H).1 (matF [(5, 1)] fr H).2) from fun B fr H => rl_introM rfl mt20_3 mb20_3 zf20_3 hd20_3 fr H]
          · rw [if_neg h18]
            obtain ⟨fr, ex, H', e, hh⟩ := ih (k + 1) (by omega) (by omega) q hq
            rw [List.append_assoc] at hh
            refine ⟨fr, ex, H', Eq.trans ?_ e, hh⟩
            clear e hh ih
            simp (disch := first | omega | (simp only [List.length_append, List.length_map, List.length_set, List.length_cons, List.length_nil, List.length_take, List.length_drop, rows64_len, rowsI_len]; omega)) only [va0, va1, va2, va3, va4, va5, va6, va7, va8, va9, va10, va11, va12, va13, va14, va15, vb0, vb1, vb2, vb3, w_i8, w_u8, w_i16, w_u16, w_i32, w_u32, w_i64, w_u64, lt_T, lt_F, le_T, le_F, nlt_T, nlt_F, nle_T, nle_F, List.take_of_length_le, gB, gcW, gcR, posIn, renA, renL, Chunk.ren, Chunk.refs, evOpD, touchD, stepC, isFresh, nFresh, freshOf, mkR, hole, evL, evH, opd, get, putD, ofVal, cellOf, loadE, behind, lenE, idxAddrE, idxE, addPtr, intE, strE, unE, convE, AV.int, AV.bool, AV.str, ivs, take, frameOf, firstRegion, refsA, refsL, one, cellsA, floatOk, apartT, List.map, if_true, if_false, E_P, E_glob0, E_glob1, reduceCtorEq, beq_self_eq_true, decide_true, decide_false, ↓reduceIte, Nat.reduceEqDiff, cond_true, cond_false, or_true, true_or, or_false, false_or, and_true, true_and, and_self, false_and, and_false, not_true, not_false_iff, Nat.reduceAdd, Nat.reduceSub, Nat.reduceMul, Nat.reduceLT, Nat.reduceLeDiff, Int.reduceToNat, Int.reduceLT, Int.reduceLE, Option.getD, Int.reduceMul, Int.reduceAdd, List.drop, List.take, Nat.reduceBEq, List.isEmpty, Int.reduceEq, Int.reduceNe, Int.reduceNeg, Int.reduceGT, Int.reduceGE, beq_true, beq_false, UInt8.reduceToNat, eqE, eq_self, foldE, maxE, minE, eq_T, eq_F, ndec, odec, adec, sdec, fillA, over, chop, List.replicate, leavesOk, leafOk, cellsEq, cellEq, E_ext, E_byref, en20, bs22, bs24, hrow, h0, h17, h18, rows64_len, rowsI_len, rows64_snoc, ht, show ∀ B fr H, execT E B 20 (Code.loop _) fr H = rlM E B 20 (loopAt Tryd.f20 0) [0, 1, 5, 6] [] (matF [(5, 1)] fr H).1 (matB [] (matF [(5, 1)] fr H).1 (matF [(5, 1)] fr H).2) from fun B fr H => rl_introM rfl mt20_3 mb20_3 zf20_3 hd20_3 fr H]
    · obtain rfl : k = l.length := by omega
      rw [if_neg hlt, List.append_nil]
      simp (disch := first | omega | (simp only [List.length_append, List.length_map, List.length_set, List.length_cons, List.length_nil, List.length_take, List.length_drop, rows64_len, rowsI_len]; omega)) only [va0, va1, va2, va3, va4, va5, va6, va7, va8, va9, va10, va11, va12, va13, va14, va15, vb0, vb1, vb2, vb3, w_i8, w_u8, w_i16, w_u16, w_i32, w_u32, w_i64, w_u64, lt_T, lt_F, le_T, le_F, nlt_T, nlt_F, nle_T, nle_F, List.take_of_length_le, gB, gcW, gcR, posIn, renA, renL, Chunk.ren, Chunk.refs, evOpD, touchD, stepC, isFresh, nFresh, freshOf, mkR, hole, evL, evH, opd, get, putD, ofVal, cellOf, loadE, behind, lenE, idxAddrE, idxE, addPtr, intE, strE, unE, convE, AV.int, AV.bool, AV.str, ivs, take, frameOf, firstRegion, refsA, refsL, one, cellsA, floatOk, apartT, List.map, if_true, if_false, E_P, E_glob0, E_glob1, reduceCtorEq, beq_self_eq_true, decide_true, decide_false, ↓reduceIte, Nat.reduceEqDiff, cond_true, cond_false, or_true, true_or, or_false, false_or, and_true, true_and, and_self, false_and, and_false, not_true, not_false_iff, Nat.reduceAdd, Nat.reduceSub, Nat.reduceMul, Nat.reduceLT, Nat.reduceLeDiff, Int.reduceToNat, Int.reduceLT, Int.reduceLE, Option.getD, Int.reduceMul, Int.reduceAdd, List.drop, List.take, Nat.reduceBEq, List.isEmpty, Int.reduceEq, Int.reduceNe, Int.reduceNeg, Int.reduceGT, Int.reduceGE, beq_true, beq_false, UInt8.reduceToNat, eqE, eq_self, foldE, maxE, minE, eq_T, eq_F, ndec, odec, adec, sdec, fillA, over, chop, List.replicate, leavesOk, leafOk, cellsEq, cellEq, E_ext, E_byref, en20, bs22, bs24, rows64_len, rowsI_len, show ∀ B fr H, execT E B 20 (Code.loop _) fr H = rlM E B 20 (loopAt Tryd.f20 0) [0, 1, 5, 6] [] (matF [(5, 1)] fr H).1 (matB [] (matF [(5, 1)] fr H).1 (matF [(5, 1)] fr H).2) from fun B fr H => rl_introM rfl mt20_3 mb20_3 zf20_3 hd20_3 fr H]
      refine ⟨_, _, _, rfl, .inl ?_⟩
      exact ⟨rfl, rfl, rfl⟩
def walkS (l : List Ins) (q : Int) : List Int := walkF l (l.length + 1) 0 q
theorem c20 (l : List Ins) (hl : l.length ≤ 500) (hok : ∀ (j : Nat) (h : j < l.length), chk1 l.length j l[j] = 0) (q : Int) (hq : 0 ≤ q ∧ q ≤ 4294967295) : ∃ L, callT E 20 [.i (.sl 2 (rowsI l) false), .i (.v (.int .u32 q))] [] = some (.i (.sl 1 (rows64 (walkS l q)) false), L) := by
  obtain ⟨fr, ex, H', e, hh⟩ := l20 l hl hok (l.length + 1) 0 (Nat.zero_le _) (by omega) [] (Nat.zero_le _) q hq
  rw [List.nil_append] at hh
  have e' : rl E 0 20 (loopAt Tryd.f20 0) [(0, .i (.sl 2 (rowsI l) false)), (1, .i (.v (.int .u32 q))), (5, .ref 0 0 0 0), (6, .i (.v (.int .i64 0)))] [.sl 1 0 [] false] = _ := e
  clear e
  unfold walkS
  generalize walkF l (l.length + 1) 0 q = w at *
  have ht : List.take w.length (rows64 w) = rows64 w := by rw [rows64_take, List.take_length]
  rcases hh with ⟨rfl, g1, g2⟩ | ⟨rfl, g1, g2⟩
  · rw [callT_eq Tryd.func20 rfl fok20 (by simp [Tryd.ntmps20])]
    simp (disch := first | omega | (simp only [List.length_append, List.length_map, List.length_set, List.length_cons, List.length_nil, List.length_take, List.length_drop, rowsI_len, rows64_len]; omega)) only [va0, va1, va2, va3, va4, va5, va6, va7, va8, va9, va10, va11, va12, va13, va14, va15, vb0, vb1, vb2, vb3, w_i8, w_u8, w_i16, w_u16, w_i32, w_u32, w_i64, w_u64, lt_T, lt_F, le_T, le_F, nlt_T, nlt_F, nle_T, nle_F, List.take_of_length_le, gB, gcW, gcR, posIn, renA, renL, Chunk.ren, Chunk.refs, evOpD, touchD, stepC, isFresh, nFresh, freshOf, mkR, hole, evL, evH, opd, get, putD, ofVal, cellOf, loadE, behind, lenE, idxAddrE, idxE, addPtr, intE, strE, unE, convE, AV.int, AV.bool, AV.str, ivs, take, frameOf, firstRegion, refsA, refsL, one, cellsA, floatOk, apartT, List.map, if_true, if_false, E_P, E_glob0, E_glob1, reduceCtorEq, beq_self_eq_true, decide_true, decide_false, ↓reduceIte, Nat.reduceEqDiff, cond_true, cond_false, or_true, true_or, or_false, false_or, and_true, true_and, and_self, false_and, and_false, not_true, not_false_iff, Nat.reduceAdd, Nat.reduceSub, Nat.reduceMul, Nat.reduceLT, Nat.reduceLeDiff, Int.reduceToNat, Int.reduceLT, Int.reduceLE, Option.getD, Int.reduceMul, Int.reduceAdd, List.drop, List.take, Nat.reduceBEq, List.isEmpty, Int.reduceEq, Int.reduceNe, Int.reduceNeg, Int.reduceGT, Int.reduceGE, beq_true, beq_false, UInt8.reduceToNat, eqE, eq_self, foldE, maxE, minE, eq_T, eq_F, ndec, odec, adec, sdec, fillA, over, chop, List.replicate, leavesOk, leafOk, cellsEq, cellEq, E_ext, E_byref, en20, bs22, bs24, e', g1, g2, ht, rowsI_len, rows64_len, show ∀ B fr H, execT E B 20 (Code.loop _) fr H = rlM E B 20 (loopAt Tryd.f20 0) [0, 1, 5, 6] [] (matF [(5, 1)] fr H).1 (matB [] (matF [(5, 1)] fr H).1 (matF [(5, 1)] fr H).2) from fun B fr H => rl_introM rfl mt20_3 mb20_3 zf20_3 hd20_3 fr H]
    exact ⟨_, rfl⟩
  · rw [callT_eq Tryd.func20 rfl fok20 (by simp [Tryd.ntmps20])]
    simp (disch := first | omega | (simp only [List.length_append, List.length_map, List.length_set, List.length_cons, List.length_nil, List.length_take, List.length_drop, rowsI_len, rows64_len]; omega)) only [va0, va1, va2, va3, va4, va5, va6, va7, va8, va9, va10, va11, va12, va13, va14, va15, vb0, vb1, vb2, vb3, w_i8, w_u8, w_i16, w_u16, w_i32, w_u32, w_i64, w_u64, lt_T, lt_F, le_T, le_F, nlt_T, nlt_F, nle_T, nle_F, List.take_of_length_le, gB, gcW, gcR, posIn, renA, renL, Chunk.ren, Chunk.refs, evOpD, touchD, stepC, isFresh, nFresh, freshOf, mkR, hole, evL, evH, opd, get, putD, ofVal, cellOf, loadE, behind, lenE, idxAddrE, idxE, addPtr, intE, strE, unE, convE, AV.int, AV.bool, AV.str, ivs, take, frameOf, firstRegion, refsA, refsL, one, cellsA, floatOk, apartT, List.map, if_true, if_false, E_P, E_glob0, E_glob1, reduceCtorEq, beq_self_eq_true, decide_true, decide_false, ↓reduceIte, Nat.reduceEqDiff, cond_true, cond_false, or_true, true_or, or_false, false_or, and_true, true_and, and_self, false_and, and_false, not_true, not_false_iff, Nat.reduceAdd, Nat.reduceSub, Nat.reduceMul, Nat.reduceLT, Nat.reduceLeDiff, Int.reduceToNat, Int.reduceLT, Int.reduceLE, Option.getD, Int.reduceMul, Int.reduceAdd, List.drop, List.take, Nat.reduceBEq, List.isEmpty, Int.reduceEq, Int.reduceNe, Int.reduceNeg, Int.reduceGT, Int.reduceGE, beq_true, beq_false, UInt8.reduceToNat, eqE, eq_self, foldE, maxE, minE, eq_T, eq_F, ndec, odec, adec, sdec, fillA, over, chop, List.replicate, leavesOk, leafOk, cellsEq, cellEq, E_ext, E_byref, en20, bs22, bs24, e', g1, g2, ht, rowsI_len, rows64_len, show ∀ B fr H, execT E B 20 (Code.loop _) fr H = rlM E B 20 (loopAt Tryd.f20 0) [0, 1, 5, 6] [] (matF [(5, 1)] fr H).1 (matB [] (matF [(5, 1)] fr H).1 (matF [(5, 1)] fr H).2) from fun B fr H => rl_introM rfl mt20_3 mb20_3 zf20_3 hd20_3 fr H]
    exact ⟨_, rfl⟩
theorem ik20 (l : List Ins) (hl : l.length ≤ 500) (hok : ∀ (j : Nat) (h : j < l.length), chk1 l.length j l[j] = 0) (q : Int) (hq : 0 ≤ q ∧ q ≤ 4294967295) (H : Hp) : isoK E (callT E) 20 [.i (.sl 2 (rowsI l) false), .i (.v (.int .u32 q))] H = some (.i (.sl 1 (rows64 (walkS l q)) false), H) := isoK_val rfl rfl rfl (c20 l hl hok q hq)
end Go.VI

namespace Go.VI
open Go.Proofs
set_option maxRecDepth 100000
set_option linter.unusedSimpArgs false
set_option linter.unusedVariables false
set_option maxHeartbeats 4000000
theorem dSet_keep {n after : Int} : ∀ (ks out out' : List Int), dSet n after ks out = some out' → (∀ x ∈ ks, 0 ≤ x) → ∀ j : Nat, (j : Int) < n → 0 ≤ out.getD j 0 → j < out.length → out'.getD j 0 = out.getD j 0
  | [], out, out', h, hk, j, hj, h0, hl => by simp only [dSet, Option.some.injEq] at h; rw [h]
  | k :: ks, out, out', h, hk, j, hj, h0, hl => by
    simp only [dSet] at h
    split at h
    · cases h
    · rename_i hc
      have hk0 := hk k (.head _)
      have hs : (out.set k.toNat after).getD j 0 = out.getD j 0 := by
        rw [getD_set_int]
        split
        · rename_i he
          obtain ⟨rfl, _⟩ := he
          by_cases hx : out.getD k.toNat 0 = after
          · exact hx.symm
          · exact absurd ⟨by omega, h0, hx⟩ hc
        · rfl
      rw [dSet_keep ks _ out' h (fun x hx => hk x (.tail _ hx)) j hj (by rw [hs]; exact h0) (by rw [List.length_set]; exact hl), hs]
theorem dSet_hit {n after : Int} (ha : 0 ≤ after) : ∀ (ks out out' : List Int), dSet n after ks out = some out' → (∀ x ∈ ks, 0 ≤ x) → ∀ j : Nat, (j : Int) < n → j < out.length → (j : Int) ∈ ks → out'.getD j 0 = after
  | [], out, out', h, hk, j, hj, hl, hm => by cases hm
  | k :: ks, out, out', h, hk, j, hj, hl, hm => by
    simp only [dSet] at h
    split at h
    · cases h
    · rename_i hc
      rcases List.mem_cons.1 hm with e | hm
      · subst e
        have hs : (out.set (j : Int).toNat after).getD j 0 = after := by rw [getD_set_int, if_pos ⟨by omega, by omega⟩]
        rw [dSet_keep ks _ out' h (fun x hx => hk x (.tail _ hx)) j hj (by rw [hs]; exact ha) (by rw [List.length_set]; exact hl), hs]
      · exact dSet_hit ha ks _ out' h (fun x hx => hk x (.tail _ hx)) j hj (by rw [List.length_set]; exact hl) hm
theorem dSet_new {n after : Int} : ∀ (ks out out' : List Int), dSet n after ks out = some out' → (∀ x ∈ ks, 0 ≤ x) → ∀ j : Nat, (j : Int) ∉ ks → out'.getD j 0 = out.getD j 0
  | [], out, out', h, hk, j, hm => by simp only [dSet, Option.some.injEq] at h; rw [h]
  | k :: ks, out, out', h, hk, j, hm => by
    simp only [dSet] at h
    split at h
    · cases h
    · rename_i hc
      have hk0 := hk k (.head _)
      rw [dSet_new ks _ out' h (fun x hx => hk x (.tail _ hx)) j (fun hx => hm (.tail _ hx)), getD_set_int, if_neg]
      intro he
      exact hm (by rw [← he.1]; have : ((k.toNat : Nat) : Int) = k := by omega
                   rw [this]; exact .head _)
structure Good (l : List Ins) : Prop where
  ok : ∀ (j : Nat) (h : j < l.length), chk1 l.length j l[j] = 0
theorem good_of {l : List Ins} (h : checkI l = 0) : Good l := ⟨check_ok h⟩
theorem good_getD {l : List Ins} {j : Nat} (h : j < l.length) : l.getD j (0, 0) = l[j] := by rw [List.getD_eq_getElem?_getD, List.getElem?_eq_getElem h]; rfl
theorem good_suc {l : List Ins} (g : Good l) {j : Nat} (h : j < l.length) : (0 ≤ (l.getD j (0, 0)).1 ∧ (l.getD j (0, 0)).1 ≤ 20) ∧ ∀ x ∈ sucL (l.getD j (0, 0)).1 (l.getD j (0, 0)).2 j, (j : Int) < x ∧ x ≤ l.length := by
  rw [good_getD h]; exact sucL_in h (g.ok j h)
theorem good_jump {l : List Ins} (g : Good l) {j : Nat} (h : j < l.length) (hj : (l.getD j (0, 0)).1 = 17 ∨ (l.getD j (0, 0)).1 = 18) : (j : Int) + 1 ≤ (l.getD j (0, 0)).2 ∧ (l.getD j (0, 0)).2 ≤ l.length := by
  rw [good_getD h] at hj ⊢; exact chk1_jump (g.ok j h) hj
theorem dStep_keep {l : List Ins} (g : Good l) {k : Nat} (hk : k < l.length) {out out' : List Int} (h : dStep l.length k (l.getD k (0, 0)) out = some out') : ∀ j : Nat, j < l.length → 0 ≤ out.getD j 0 → j < out.length → out'.getD j 0 = out.getD j 0 := fun j hj h0 hl => by
  unfold dStep at h
  split at h
  · injection h with h; rw [h]
  split at h
  · cases h
  · exact dSet_keep _ _ _ h (fun x hx => by have := (good_suc g hk).2 x hx; omega) j (by omega) h0 hl
theorem dStep_len {n i : Nat} {p : Ins} {out out' : List Int} (h : dStep n i p out = some out') : out'.length = out.length := by
  unfold dStep at h
  split at h
  · injection h with h; rw [h]
  split at h
  · cases h
  · exact dSet_len _ _ _ h
theorem dRun_next {l : List Ins} {k : Nat} (hk : k < l.length) {out fin : List Int} (h : dRun l.length k (l.drop k) out = some fin) : ∃ out', dStep l.length k (l.getD k (0, 0)) out = some out' ∧ dRun l.length (k + 1) (l.drop (k + 1)) out' = some fin := by
  rw [List.drop_eq_getElem_cons hk, dRun, ← good_getD hk] at h
  cases hd : dStep l.length k (l.getD k (0, 0)) out with
  | none => rw [hd] at h; cases h
  | some out' => rw [hd] at h; exact ⟨out', rfl, h⟩
theorem dRun_to {l : List Ins} (g : Good l) {fin : List Int} (b : Nat) (hb : b ≤ l.length) (a : Nat) (ha : a ≤ b) (out : List Int) (hl : out.length = l.length + 1) (h : dRun l.length a (l.drop a) out = some fin) :
    ∃ out', dRun l.length b (l.drop b) out' = some fin ∧ out'.length = l.length + 1 ∧ ∀ j : Nat, j < l.length → 0 ≤ out.getD j 0 → out'.getD j 0 = out.getD j 0 := by
  by_cases hlt : a < b
  · obtain ⟨o1, h1, h2⟩ := dRun_next (by omega) h
    obtain ⟨o2, g1, g2, g3⟩ := dRun_to g b hb (a + 1) hlt o1 (by rw [dStep_len h1]; exact hl) h2
    refine ⟨o2, g1, g2, fun j hj h0 => ?_⟩
    have h3 := dStep_keep g (by omega) h1 j hj h0 (by omega)
    rw [g3 j hj (by rw [h3]; exact h0), h3]
  · obtain rfl : a = b := by omega
    exact ⟨out, h, hl, fun _ _ _ => rfl⟩
termination_by b - a
theorem dRun_fin {l : List Ins} (g : Good l) {fin : List Int} (a : Nat) (ha : a ≤ l.length) (out : List Int) (hl : out.length = l.length + 1) (h : dRun l.length a (l.drop a) out = some fin) : fin.length = l.length + 1 ∧ ∀ j : Nat, j < l.length → 0 ≤ out.getD j 0 → fin.getD j 0 = out.getD j 0 := by
  obtain ⟨o, g1, g2, g3⟩ := dRun_to g l.length (Nat.le_refl _) a ha out hl h
  rw [List.drop_length, dRun, Option.some.injEq] at g1
  subst g1
  exact ⟨g2, g3⟩
def pathOK (fin : List Int) (l : List Ins) : List Int → Int → Prop
  | [], _ => True
  | i :: r, d => (0 ≤ i ∧ i < l.length ∧ fin.getD i.toNat 0 = d ∧ popS (l.getD i.toNat (0, 0)).1 ≤ d ∧ d - popS (l.getD i.toNat (0, 0)).1 + pushS (l.getD i.toNat (0, 0)).1 ≤ 16 ∧ 0 ≤ d) ∧ pathOK fin l r (d - popS (l.getD i.toNat (0, 0)).1 + pushS (l.getD i.toNat (0, 0)).1)
theorem walk_end {l : List Ins} (f : Nat) {k : Nat} (q : Int) (hk : l.length ≤ k) : walkF l f k q = [] := by
  cases f with
  | zero => rfl
  | succ f => rw [walkF, if_neg (by omega)]
def nextW (p : Ins) (k : Nat) (q : Int) : Option (Nat × Int) := if p.1 = 0 then none else if p.1 = 17 then some (p.2.toNat, q) else if p.1 = 18 then some (if q % 2 = 1 then p.2.toNat else k + 1, q / 2) else some (k + 1, q)
theorem walk_step {l : List Ins} (f : Nat) {k : Nat} (q : Int) (hk : k < l.length) : walkF l (f + 1) k q = (k : Int) :: (match nextW (l.getD k (0, 0)) k q with | none => [] | some (k', q') => walkF l f k' q') := by
  rw [walkF, if_pos hk]
  unfold nextW
  by_cases h0 : (l.getD k (0, 0)).1 = 0
  · rw [if_pos h0, if_pos h0]
  · rw [if_neg h0, if_neg h0]
    by_cases h17 : (l.getD k (0, 0)).1 = 17
    · rw [if_pos h17, if_pos h17]
    · rw [if_neg h17, if_neg h17]
      by_cases h18 : (l.getD k (0, 0)).1 = 18
      · rw [if_pos h18, if_pos h18]
      · rw [if_neg h18, if_neg h18]
theorem nextW_suc {l : List Ins} (g : Good l) {k : Nat} (hk : k < l.length) {q : Int} {k' : Nat} {q' : Int} (h : nextW (l.getD k (0, 0)) k q = some (k', q')) : (k' : Int) ∈ sucL (l.getD k (0, 0)).1 (l.getD k (0, 0)).2 k ∧ k < k' ∧ k' ≤ l.length := by
  have key : (k' : Int) ∈ sucL (l.getD k (0, 0)).1 (l.getD k (0, 0)).2 k := by
    unfold nextW at h
    unfold sucL
    rw [List.mem_append]
    split at h
    · cases h
    rename_i h0
    split at h
    · rename_i h17
      have := good_jump g hk (.inl h17)
      injection h with h; injection h with h1 h2
      refine .inr ?_
      rw [if_pos (.inl h17), List.mem_singleton]; omega
    rename_i h17
    split at h
    · rename_i h18
      have := good_jump g hk (.inr h18)
      injection h with h; injection h with h1 h2
      split at h1
      · refine .inr ?_
        rw [if_pos (.inr h18), List.mem_singleton]; omega
      · refine .inl ?_
        rw [if_neg (by omega), List.mem_singleton]; omega
    · injection h with h; injection h with h1 h2
      refine .inl ?_
      rw [if_neg (by omega), List.mem_singleton]; omega
  have := (good_suc g hk).2 _ key
  exact ⟨key, by omega, by omega⟩
theorem path_ok {l : List Ins} (g : Good l) {fin : List Int} : ∀ (f k : Nat) (hk : k ≤ l.length) (out : List Int) (hl : out.length = l.length + 1) (h : dRun l.length k (l.drop k) out = some fin) (d : Int) (h0 : 0 ≤ d) (hd : k < l.length → out.getD k 0 = d) (q : Int), pathOK fin l (walkF l f k q) d
  | 0, _, _, _, _, _, _, _, _, _ => trivial
  | f + 1, k, hk, out, hl, h, d, h0, hd, q => by
    by_cases hlt : k < l.length
    · rw [walk_step f q hlt]
      have hd := hd hlt
      have hfin := (dRun_fin g k hk out hl h).2 k hlt (by omega)
      obtain ⟨o1, h1, h2⟩ := dRun_next hlt h
      have hl1 := (dStep_len h1).trans hl
      unfold dStep at h1
      rw [if_neg (by omega)] at h1
      split at h1
      · cases h1
      rename_i hc
      have hpu := pushS_r (l.getD k (0, 0)).1
      rw [hd] at hc h1
      refine ⟨?_, ?_⟩
      · exact ⟨by omega, by omega, by rw [Int.toNat_natCast, hfin, hd], by rw [Int.toNat_natCast]; omega, by rw [Int.toNat_natCast]; omega, h0⟩
      · rw [Int.toNat_natCast]
        cases hn : nextW (l.getD k (0, 0)) k q with
        | none => trivial
        | some kq =>
          obtain ⟨k', q'⟩ := kq
          obtain ⟨hs, hb1, hb2⟩ := nextW_suc g hlt hn
          simp only
          obtain ⟨o2, g1, g2, g3⟩ := dRun_to g k' hb2 (k + 1) hb1 o1 hl1 h2
          refine path_ok g f k' hb2 o2 g2 g1 _ (by omega) (fun hlt' => ?_) q'
          have hh := dSet_hit (by omega) _ _ _ h1 (fun x hx => by have := (good_suc g hlt).2 x hx; omega) k' (by omega) (by omega) hs
          rw [g3 k' hlt' (by rw [hh]; omega), hh]
    · rw [walk_end _ _ (by omega)]
      trivial
end Go.VI

namespace Go.VI
open Go.Proofs
set_option maxRecDepth 100000
set_option linter.unusedSimpArgs false
set_option linter.unusedVariables false
set_option maxHeartbeats 4000000
theorem pathOK_congr {l : List Ins} {d fin : List Int} (h : ∀ j : Nat, j < l.length → d.getD j 0 = fin.getD j 0) : ∀ (w : List Int) (dep : Int), pathOK fin l w dep → pathOK d l w dep
  | [], _, _ => trivial
  | i :: r, dep, ⟨⟨p1, p2, p3, p4⟩, hr⟩ => ⟨⟨p1, p2, by rw [h i.toNat (by omega)]; exact p3, p4⟩, pathOK_congr h r _ hr⟩
theorem getD_take (l : List Int) (n j : Nat) (h : j < n) : (l.take n).getD j 0 = l.getD j 0 := by
  rw [List.getD_eq_getElem?_getD, List.getD_eq_getElem?_getD, List.getElem?_take, if_pos h]
theorem depths_ok {l : List Ins} (h : (depthsS l).2 = 0) : ∃ fin, checkI l = 0 ∧ dRun l.length 0 l (0 :: List.replicate l.length (-1)) = some fin ∧ (depthsS l).1 = fin.take l.length ∧ fin.length = l.length + 1 := by
  unfold depthsS at h ⊢
  by_cases h0 : checkI l = 0
  · rw [if_pos h0] at h ⊢
    cases hd : dRun l.length 0 l (0 :: List.replicate l.length (-1)) with
    | none => rw [hd] at h; cases h
    | some fin =>
      refine ⟨fin, h0, rfl, rfl, ?_⟩
      exact (dRun_fin (good_of h0) 0 (Nat.zero_le _) (0 :: List.replicate l.length (-1)) (by simp) (by rw [List.drop_zero]; exact hd)).1
  · rw [if_neg h0] at h
    exact absurd h h0
theorem depths_path {l : List Ins} (h : (depthsS l).2 = 0) (f : Nat) (q : Int) : pathOK (depthsS l).1 l (walkF l f 0 q) 0 := by
  obtain ⟨fin, h0, hd, h1, h2⟩ := depths_ok h
  rw [h1]
  refine pathOK_congr (fun j hj => getD_take _ _ _ hj) _ _ ?_
  exact path_ok (good_of h0) f 0 (Nat.zero_le _) (0 :: List.replicate l.length (-1)) (by simp) (by rw [List.drop_zero]; exact hd) 0 (by omega) (fun _ => rfl) q
structure Most (l : List Ins) (k : Nat) (out : List Int) : Prop where
  len : out.length = l.length + 1
  low : ∀ j : Nat, j < k → out.getD j 0 = 0
  end_ : 0 ≤ out.getD l.length 0
  ge : ∀ j : Nat, k ≤ j → j ≤ l.length → ∀ f q, ((walkF l f j q).length : Int) ≤ out.getD j 0
theorem walk_len {l : List Ins} : ∀ (f k : Nat) (q : Int), (walkF l f k q).length ≤ f
  | 0, k, q => Nat.le_refl _
  | f + 1, k, q => by
    by_cases hk : k < l.length
    · rw [walk_step f q hk, List.length_cons]
      cases nextW (l.getD k (0, 0)) k q with
      | none => simp only [List.length_nil]; omega
      | some kq => have := walk_len (l := l) f kq.1 kq.2; simp only; omega
    · rw [walk_end _ _ (by omega)]; exact Nat.zero_le _
end Go.VI

namespace Go.VI
open Go.Proofs
set_option maxRecDepth 100000
set_option linter.unusedSimpArgs false
set_option linter.unusedVariables false
set_option maxHeartbeats 4000000
def jz : List Ins → Nat
  | [] => 0
  | p :: r => (if p.1 = 18 then 1 else 0) + jz r
theorem jz_drop (l : List Ins) {k : Nat} (hk : k < l.length) : jz (l.drop k) = (if (l.getD k (0, 0)).1 = 18 then 1 else 0) + jz (l.drop (k + 1)) := by
  rw [List.drop_eq_getElem_cons hk, jz, good_getD hk]
theorem jz_mono (l : List Ins) (a b : Nat) (h : a ≤ b) (hb : b ≤ l.length) : jz (l.drop b) ≤ jz (l.drop a) := by
  by_cases hlt : a < b
  · have h1 := jz_mono l (a + 1) b hlt hb
    rw [jz_drop l (k := a) (by omega)]
    omega
  · obtain rfl : a = b := by omega
    exact Nat.le_refl _
termination_by b - a
def two (n : Nat) : Int := ((2 ^ n : Nat) : Int)
theorem two_pos (n : Nat) : 1 ≤ two n := by unfold two; have := Nat.two_pow_pos n; omega
theorem two_succ (n : Nat) : two (n + 1) = 2 * two n := by unfold two; rw [Nat.pow_succ]; omega
theorem two_mono {a b : Nat} (h : a ≤ b) : two a ≤ two b := by unfold two; have := Nat.pow_le_pow_right (n := 2) (by omega) h; omega
structure Hit (l : List Ins) (k : Nat) (out : List Int) : Prop where
  len : out.length = l.length + 1
  low : ∀ j : Nat, j < k → out.getD j 0 = 0
  at_ : ∀ j : Nat, k ≤ j → j ≤ l.length → ∃ q, 0 ≤ q ∧ q < two (jz (l.drop j)) ∧ ∀ f, l.length + 1 ≤ j + f → ((walkF l f j q).length : Int) = out.getD j 0
end Go.VI

namespace Go.VI
open Go.Proofs
set_option maxRecDepth 100000
set_option linter.unusedSimpArgs false
set_option linter.unusedVariables false
set_option maxHeartbeats 4000000
theorem two_u32 (c : Nat) (h : c ≤ 8) : IntKind.wrap .u32 (1 * 2 ^ min c (IntKind.bits .u32)) = two c := by
  have h1 : c = 0 ∨ c = 1 ∨ c = 2 ∨ c = 3 ∨ c = 4 ∨ c = 5 ∨ c = 6 ∨ c = 7 ∨ c = 8 := by omega
  rcases h1 with h | h | h | h | h | h | h | h | h <;> subst h <;> rfl
theorem two_256 (c : Nat) (h : c ≤ 8) : two c ≤ 256 := two_mono h
end Go.VI

namespace Go.VI
open Go.Proofs
set_option maxRecDepth 100000
set_option linter.unusedSimpArgs false
set_option linter.unusedVariables false
set_option maxHeartbeats 4000000
theorem walk_fuel {l : List Ins} (g : Good l) : ∀ (f f' k : Nat) (q : Int), l.length + 1 ≤ k + f → l.length + 1 ≤ k + f' → walkF l f k q = walkF l f' k q
  | 0, f', k, q, h1, h2 => by rw [walk_end f' q (by omega)]; rfl
  | f + 1, 0, k, q, h1, h2 => by rw [walk_end (f + 1) q (by omega)]; rfl
  | f + 1, f' + 1, k, q, h1, h2 => by
    by_cases hk : k < l.length
    · rw [walk_step f q hk, walk_step f' q hk]
      cases hn : nextW (l.getD k (0, 0)) k q with
      | none => rfl
      | some kq =>
        obtain ⟨k', q'⟩ := kq
        obtain ⟨_, h3, h4⟩ := nextW_suc g hk hn
        simp only
        rw [walk_fuel g f f' k' q' (by omega) (by omega)]
    · rw [walk_end _ _ (by omega), walk_end _ _ (by omega)]
theorem pick_all {l : List Ins} (g : Good l) {k : Nat} (hk : k < l.length) {k' : Nat} (hs : (k' : Int) ∈ sucL (l.getD k (0, 0)).1 (l.getD k (0, 0)).2 k) :
    ((l.getD k (0, 0)).1 ≠ 18 ∧ ∀ q', 0 ≤ q' → nextW (l.getD k (0, 0)) k q' = some (k', q')) ∨
    ((l.getD k (0, 0)).1 = 18 ∧ ((∀ q', 0 ≤ q' → nextW (l.getD k (0, 0)) k (2 * q') = some (k', q')) ∨ ∀ q', 0 ≤ q' → nextW (l.getD k (0, 0)) k (2 * q' + 1) = some (k', q'))) := by
  unfold sucL at hs
  rw [List.mem_append] at hs
  by_cases h18 : (l.getD k (0, 0)).1 = 18
  · have hj := good_jump g hk (.inr h18)
    rw [if_neg (by omega), if_pos (.inr h18), List.mem_singleton, List.mem_singleton] at hs
    refine .inr ⟨h18, ?_⟩
    rcases hs with hs | hs
    · refine .inl fun q' h0 => ?_
      unfold nextW
      rw [if_neg (by omega), if_neg (by omega), if_pos h18, if_neg (by omega)]
      have e1 : k + 1 = k' := by omega
      have e2 : 2 * q' / 2 = q' := by omega
      rw [e1, e2]
    · refine .inr fun q' h0 => ?_
      unfold nextW
      rw [if_neg (by omega), if_neg (by omega), if_pos h18, if_pos (by omega)]
      have e1 : (l.getD k (0, 0)).2.toNat = k' := by omega
      have e2 : (2 * q' + 1) / 2 = q' := by omega
      rw [e1, e2]
  · refine .inl ⟨h18, fun q' h0 => ?_⟩
    unfold nextW
    by_cases h17 : (l.getD k (0, 0)).1 = 17
    · rw [if_neg (by omega), if_pos h17]
      rw [if_pos (.inr h17), if_pos (.inl h17), List.mem_singleton] at hs
      rcases hs with hs | hs
      · cases hs
      · have e1 : (l.getD k (0, 0)).2.toNat = k' := by omega
        rw [e1]
    · by_cases h00 : (l.getD k (0, 0)).1 = 0
      · rw [if_pos (.inl h00), if_neg (by omega)] at hs
        rcases hs with hs | hs <;> cases hs
      · rw [if_neg h00, if_neg h17, if_neg h18]
        rw [if_neg (by omega), if_neg (by omega), List.mem_singleton] at hs
        rcases hs with hs | hs
        · have e1 : k + 1 = k' := by omega
          rw [e1]
        · cases hs
theorem dRun_from {l : List Ins} (g : Good l) {fin : List Int} (j : Nat) (hj : j < l.length) (k : Nat) (hk : k ≤ l.length) (out : List Int) (hl : out.length = l.length + 1) (h : dRun l.length k (l.drop k) out = some fin) (h0 : out.getD j 0 < 0) (h1 : 0 ≤ fin.getD j 0) :
    ∃ i : Nat, i < l.length ∧ i < j ∧ (j : Int) ∈ sucL (l.getD i (0, 0)).1 (l.getD i (0, 0)).2 i ∧ 0 ≤ fin.getD i 0 := by
  by_cases hlt : k < l.length
  · obtain ⟨o1, g1, g2⟩ := dRun_next hlt h
    have hl1 := (dStep_len g1).trans hl
    by_cases h2 : o1.getD j 0 < 0
    · exact dRun_from g j hj (k + 1) hlt o1 hl1 g2 h2 h1
    · unfold dStep at g1
      split at g1
      · injection g1 with g1; rw [g1] at h0; omega
      rename_i hc
      split at g1
      · cases g1
      have hs := (good_suc g hlt).2
      by_cases hm : (j : Int) ∈ sucL (l.getD k (0, 0)).1 (l.getD k (0, 0)).2 k
      · have := hs _ hm
        refine ⟨k, hlt, by omega, hm, ?_⟩
        rw [(dRun_fin g k hk out hl h).2 k hlt (by omega)]
        omega
      · have := dSet_new _ _ _ g1 (fun x hx => by have := hs x hx; omega) j hm
        omega
  · obtain rfl : k = l.length := by omega
    rw [List.drop_length, dRun, Option.some.injEq] at h
    subst h
    omega
termination_by l.length - k
theorem reachP {l : List Ins} (g : Good l) {fin : List Int} (h : dRun l.length 0 l (0 :: List.replicate l.length (-1)) = some fin) (j : Nat) (hj : j < l.length) (h1 : 0 ≤ fin.getD j 0) :
    ∃ (q : Int) (m : Nat), 0 ≤ q ∧ q < two m ∧ m + jz (l.drop j) ≤ jz l ∧ ∀ q', 0 ≤ q' → ∀ x ∈ walkF l (l.length + 1) j q', x ∈ walkF l (l.length + 1) 0 (q + two m * q') := by
  by_cases hj0 : j = 0
  · subst hj0
    refine ⟨0, 0, Int.le_refl _, by decide, by rw [List.drop_zero]; omega, fun q' h0 x hx => ?_⟩
    rw [show (0 : Int) + two 0 * q' = q' from by rw [show two 0 = 1 from rfl]; omega]
    exact hx
  · have hneg : (0 :: List.replicate l.length (-1 : Int)).getD j 0 < 0 := by
      obtain ⟨j', rfl⟩ : ∃ j', j = j' + 1 := ⟨j - 1, by omega⟩
      rw [List.getD_cons_succ, List.getD_eq_getElem?_getD, List.getElem?_replicate, if_pos (by omega)]
      decide
    obtain ⟨i, hi, hij, hs, hfi⟩ := dRun_from g j hj 0 (Nat.zero_le _) _ (by simp) (by rw [List.drop_zero]; exact h) hneg h1
    obtain ⟨q, m, a1, a2, a3, a4⟩ := reachP g h i hi hfi
    rw [jz_drop l hi] at a3
    have hmono := jz_mono l (i + 1) j (by omega) (by omega)
    have step : ∀ q0 q', nextW (l.getD i (0, 0)) i q0 = some (j, q') → ∀ x ∈ walkF l (l.length + 1) j q', x ∈ walkF l (l.length + 1) i q0 := fun q0 q' hn x hx => by
      rw [walk_step l.length q0 hi, hn]
      simp only
      rw [walk_fuel g l.length (l.length + 1) j q' (by omega) (by omega)]
      exact .tail _ hx
    have tp := two_pos m
    rcases pick_all g hi hs with ⟨h18, hp⟩ | ⟨h18, hp | hp⟩
    · rw [if_neg h18] at a3
      exact ⟨q, m, a1, a2, by omega, fun q' h0 x hx => a4 q' h0 x (step q' q' (hp q' h0) x hx)⟩
    · rw [if_pos h18] at a3
      refine ⟨q, m + 1, a1, by rw [two_succ]; omega, by omega, fun q' h0 x hx => ?_⟩
      rw [two_succ, Int.mul_comm 2 (two m), Int.mul_assoc]
      exact a4 (2 * q') (by omega) x (step _ q' (hp q' h0) x hx)
    · rw [if_pos h18] at a3
      refine ⟨q + two m, m + 1, by omega, by rw [two_succ]; omega, by omega, fun q' h0 x hx => ?_⟩
      rw [two_succ, Int.mul_comm 2 (two m), Int.mul_assoc, Int.add_assoc]
      have := a4 (2 * q' + 1) (by omega) x (step _ q' (hp q' h0) x hx)
      rw [Int.mul_add, Int.mul_one, Int.add_comm (two m * (2 * q')) (two m)] at this
      exact this
termination_by j
theorem pathOK_mem {l : List Ins} {d : List Int} : ∀ (w : List Int) (dep : Int), pathOK d l w dep → ∀ x ∈ w, 0 ≤ x ∧ x < l.length ∧ 0 ≤ d.getD x.toNat 0
  | [], _, _, x, hx => by cases hx
  | i :: r, dep, ⟨⟨p1, p2, p3, p4, p5, p6⟩, hr⟩, x, hx => by
    rcases List.mem_cons.1 hx with rfl | hx
    · exact ⟨p1, p2, by omega⟩
    · exact pathOK_mem r _ hr x hx
theorem reachable {l : List Ins} (h : (depthsS l).2 = 0) (j : Nat) (hj : j < l.length) : 0 ≤ (depthsS l).1.getD j 0 ↔ ∃ q, 0 ≤ q ∧ q < two (jz l) ∧ (j : Int) ∈ walkS l q := by
  obtain ⟨fin, h0, hd, hf1, hf2⟩ := depths_ok h
  refine ⟨fun hx => ?_, fun ⟨q, _, _, hm⟩ => ?_⟩
  · rw [hf1, getD_take _ _ _ hj] at hx
    obtain ⟨q, m, a1, a2, a3, a4⟩ := reachP (good_of h0) hd j hj hx
    refine ⟨q, a1, Int.lt_of_lt_of_le a2 (two_mono (by omega)), ?_⟩
    have := a4 0 (Int.le_refl _) j (by rw [walk_step l.length 0 hj]; exact .head _)
    rw [Int.mul_zero, Int.add_zero] at this
    exact this
  · have := (pathOK_mem _ _ (depths_path h (l.length + 1) q) j hm).2.2
    rw [Int.toNat_natCast] at this
    exact this
def markL : List Int → List Bool → List Bool
  | [], s => s
  | i :: r, s => markL r (s.set i.toNat true)
def markR (l : List Ins) : Nat → Int → List Bool → List Bool
  | 0, _, s => s
  | r + 1, p, s => markR l r (p + 1) (markL (walkS l p) s)
theorem markL_len : ∀ (w : List Int) (s : List Bool), (markL w s).length = s.length
  | [], s => rfl
  | i :: r, s => by rw [markL, markL_len r, List.length_set]
theorem markR_len (l : List Ins) : ∀ (r : Nat) (p : Int) (s : List Bool), (markR l r p s).length = s.length
  | 0, p, s => rfl
  | r + 1, p, s => by rw [markR, markR_len l r, markL_len]
theorem getD_set_bool (l : List Bool) (i j : Nat) (x : Bool) : (l.set i x).getD j false = if i = j ∧ i < l.length then x else l.getD j false := by
  simp only [List.getD_eq_getElem?_getD, List.getElem?_set]
  by_cases h : i = j
  · subst h
    by_cases hl : i < l.length
    · simp [hl]
    · simp [hl]
  · simp [h]
theorem markL_at : ∀ (w : List Int) (s : List Bool) (j : Nat), j < s.length → (∀ x ∈ w, 0 ≤ x) → ((markL w s).getD j false = true ↔ s.getD j false = true ∨ (j : Int) ∈ w)
  | [], s, j, hj, hw => by simp [markL]
  | i :: r, s, j, hj, hw => by
    have hi := hw i (.head _)
    rw [markL, markL_at r _ j (by rw [List.length_set]; exact hj) (fun x hx => hw x (.tail _ hx)), getD_set_bool]
    by_cases he : i = (j : Int)
    · subst he
      rw [if_pos ⟨by omega, by omega⟩]
      exact ⟨fun _ => .inr (.head _), fun _ => .inl rfl⟩
    · rw [if_neg (by omega)]
      refine ⟨fun h => h.imp id (.tail _), fun h => h.imp id fun h => ?_⟩
      rcases List.mem_cons.1 h with h | h
      · exact absurd h.symm he
      · exact h
theorem markR_at (l : List Ins) (hw : ∀ q, ∀ x ∈ walkS l q, 0 ≤ x) : ∀ (r : Nat) (p : Int) (s : List Bool) (j : Nat), j < s.length → ((markR l r p s).getD j false = true ↔ s.getD j false = true ∨ ∃ q, p ≤ q ∧ q < p + r ∧ (j : Int) ∈ walkS l q)
  | 0, p, s, j, hj => by
    rw [markR]
    exact ⟨.inl, fun h => h.elim id fun ⟨q, h1, h2, _⟩ => by omega⟩
  | r + 1, p, s, j, hj => by
    rw [markR, markR_at l hw r (p + 1) _ j (by rw [markL_len]; exact hj), markL_at _ _ j hj (hw p)]
    constructor
    · rintro ((h | h) | ⟨q, h1, h2, h3⟩)
      · exact .inl h
      · exact .inr ⟨p, by omega, by omega, h⟩
      · exact .inr ⟨q, by omega, by omega, h3⟩
    · rintro (h | ⟨q, h1, h2, h3⟩)
      · exact .inl (.inl h)
      · by_cases he : q = p
        · subst he; exact .inl (.inr h3)
        · exact .inr ⟨q, by omega, by omega, h3⟩
theorem marked {l : List Ins} (h : (depthsS l).2 = 0) (j : Nat) (hj : j < l.length) : (markR l (2 ^ jz l) 0 (List.replicate l.length false)).getD j false = decide (0 ≤ (depthsS l).1.getD j 0) := by
  have h0 : (List.replicate l.length false).getD j false = false := by rw [List.getD_eq_getElem?_getD, List.getElem?_replicate]; split <;> rfl
  have h1 := markR_at l (fun q x hx => (pathOK_mem _ _ (depths_path h (l.length + 1) q) x hx).1) (2 ^ jz l) 0 (List.replicate l.length false) j (by simpa using hj)
  rw [h0] at h1
  rw [Bool.eq_iff_iff, h1, decide_eq_true_iff, reachable h j hj]
  have ht : two (jz l) = (2 ^ jz l : Nat) := rfl
  constructor
  · rintro (h | ⟨q, a, b, c⟩)
    · cases h
    · exact ⟨q, a, by omega, c⟩
  · rintro ⟨q, a, b, c⟩
    exact .inr ⟨q, a, by omega, c⟩
end Go.VI

namespace Go.VI
open Go.Proofs
set_option maxRecDepth 100000
set_option linter.unusedSimpArgs false
set_option linter.unusedVariables false
set_option maxHeartbeats 4000000
def rowsT (l : List Bool) : List (List IV) := l.map fun b => [.v (.bool b)]
theorem rowsT_len (l : List Bool) : (rowsT l).length = l.length := by simp [rowsT]
theorem rowsT_get {l : List Bool} {k : Nat} (h : k < l.length) : (rowsT l)[k]? = some [.v (.bool (l.getD k false))] := by
  rw [List.getD_eq_getElem?_getD, List.getElem?_eq_getElem h]; simp [rowsT, h]
theorem rowsT_set (l : List Bool) (k : Nat) (x : Bool) : (rowsT l).set k [.v (.bool x)] = rowsT (l.set k x) := by simp [rowsT, List.map_set]
theorem rowsT_rep (n : Nat) (x : Bool) : List.replicate n [IV.v (.bool x)] = rowsT (List.replicate n x) := by simp [rowsT]
theorem l8_0 (l : List Ins) (hl : l.length ≤ 40) (d : List Int) (k : Nat) (hk : k ≤ l.length) (c : Nat) (hc : c ≤ k) :
    ∃ fr, rl E 0 8 (loopAt Tryd.f8 0) [(0, .i (.sl 2 (rowsI l) false)), (3, .i (.sl 1 (rows64 d) false)), (5, .i (.v (.int .i64 c))), (31, .i (.sl 2 (rowsI l) false)), (32, .i (.v (.int .i64 l.length))), (33, .i (.v (.int .i64 k)))] [] = some (.exit 0, fr, []) ∧ get 0 fr = .i (.sl 2 (rowsI l) false) ∧ get 3 fr = .i (.sl 1 (rows64 d) false) ∧ get 5 fr = .i (.v (.int .i64 (c + jz (l.drop k) : Nat))) := by
  rw [rl_step (fn := Tryd.f8) (k := 0) rfl]
  by_cases hlt : k < l.length
  · have hrow := rowsI_at hlt
    rw [jz_drop l hlt, good_getD hlt]
    obtain ⟨op, arg, hp⟩ : ∃ op arg, l[k] = (op, arg) := ⟨_, _, rfl⟩
    rw [hp] at hrow ⊢
    simp only at hrow ⊢
    by_cases h18 : op = 18
    · rw [if_pos h18]
      obtain ⟨fr, e, h0, h3⟩ := l8_0 l hl d (k + 1) hlt (c + 1) (by omega)
      rw [Nat.add_assoc] at h3
      refine ⟨fr, Eq.trans ?_ e, h0, h3⟩
      subst h18
      clear e h0 h3
      simp (disch := first | omega | (simp only [List.length_append, List.length_map, List.length_set, List.length_cons, List.length_nil, List.length_take, List.length_drop, rowsI_len]; omega)) only [va0, va1, va2, va3, va4, va5, va6, va7, va8, va9, va10, va11, va12, va13, va14, va15, vb0, vb1, vb2, vb3, w_i8, w_u8, w_i16, w_u16, w_i32, w_u32, w_i64, w_u64, lt_T, lt_F, le_T, le_F, nlt_T, nlt_F, nle_T, nle_F, List.take_of_length_le, gB, gcW, gcR, posIn, renA, renL, Chunk.ren, Chunk.refs, evOpD, touchD, stepC, isFresh, nFresh, freshOf, mkR, hole, evL, evH, opd, get, putD, ofVal, cellOf, loadE, behind, lenE, idxAddrE, idxE, addPtr, intE, strE, unE, convE, AV.int, AV.bool, AV.str, ivs, take, frameOf, firstRegion, refsA, refsL, one, cellsA, floatOk, apartT, List.map, if_true, if_false, E_P, E_glob0, E_glob1, reduceCtorEq, beq_self_eq_true, decide_true, decide_false, ↓reduceIte, Nat.reduceEqDiff, cond_true, cond_false, or_true, true_or, or_false, false_or, and_true, true_and, and_self, false_and, and_false, not_true, not_false_iff, Nat.reduceAdd, Nat.reduceSub, Nat.reduceMul, Nat.reduceLT, Nat.reduceLeDiff, Int.reduceToNat, Int.reduceLT, Int.reduceLE, Option.getD, Int.reduceMul, Int.reduceAdd, List.drop, List.take, Nat.reduceBEq, List.isEmpty, Int.reduceEq, Int.reduceNe, Int.reduceNeg, Int.reduceGT, Int.reduceGE, beq_true, beq_false, UInt8.reduceToNat, eqE, eq_self, foldE, maxE, minE, eq_T, eq_F, ndec, odec, adec, sdec, fillA, over, chop, List.replicate, leavesOk, leafOk, cellsEq, cellEq, E_ext, E_byref, en8, bs22, bs24, bs47, hrow, rowsI_len, show ∀ B fr H, execT E B 8 (Code.loop _) fr H = rlG E B 8 (loopAt Tryd.f8 0) (gcn B (norm [0, 3, 5, 31, 32, 33] fr) H) from fun B fr H => rl_intro rfl mt8_8 mb8_8 zf8_8 hd8_8 fr H]
    · rw [if_neg h18, Nat.zero_add]
      obtain ⟨fr, e, h0, h3⟩ := l8_0 l hl d (k + 1) hlt c (by omega)
      refine ⟨fr, Eq.trans ?_ e, h0, h3⟩
      clear e h0 h3
      simp (disch := first | omega | (simp only [List.length_append, List.length_map, List.length_set, List.length_cons, List.length_nil, List.length_take, List.length_drop, rowsI_len]; omega)) only [va0, va1, va2, va3, va4, va5, va6, va7, va8, va9, va10, va11, va12, va13, va14, va15, vb0, vb1, vb2, vb3, w_i8, w_u8, w_i16, w_u16, w_i32, w_u32, w_i64, w_u64, lt_T, lt_F, le_T, le_F, nlt_T, nlt_F, nle_T, nle_F, List.take_of_length_le, gB, gcW, gcR, posIn, renA, renL, Chunk.ren, Chunk.refs, evOpD, touchD, stepC, isFresh, nFresh, freshOf, mkR, hole, evL, evH, opd, get, putD, ofVal, cellOf, loadE, behind, lenE, idxAddrE, idxE, addPtr, intE, strE, unE, convE, AV.int, AV.bool, AV.str, ivs, take, frameOf, firstRegion, refsA, refsL, one, cellsA, floatOk, apartT, List.map, if_true, if_false, E_P, E_glob0, E_glob1, reduceCtorEq, beq_self_eq_true, decide_true, decide_false, ↓reduceIte, Nat.reduceEqDiff, cond_true, cond_false, or_true, true_or, or_false, false_or, and_true, true_and, and_self, false_and, and_false, not_true, not_false_iff, Nat.reduceAdd, Nat.reduceSub, Nat.reduceMul, Nat.reduceLT, Nat.reduceLeDiff, Int.reduceToNat, Int.reduceLT, Int.reduceLE, Option.getD, Int.reduceMul, Int.reduceAdd, List.drop, List.take, Nat.reduceBEq, List.isEmpty, Int.reduceEq, Int.reduceNe, Int.reduceNeg, Int.reduceGT, Int.reduceGE, beq_true, beq_false, UInt8.reduceToNat, eqE, eq_self, foldE, maxE, minE, eq_T, eq_F, ndec, odec, adec, sdec, fillA, over, chop, List.replicate, leavesOk, leafOk, cellsEq, cellEq, E_ext, E_byref, en8, bs22, bs24, bs47, hrow, h18, rowsI_len, show ∀ B fr H, execT E B 8 (Code.loop _) fr H = rlG E B 8 (loopAt Tryd.f8 0) (gcn B (norm [0, 3, 5, 31, 32, 33] fr) H) from fun B fr H => rl_intro rfl mt8_8 mb8_8 zf8_8 hd8_8 fr H]
  · obtain rfl : k = l.length := by omega
    rw [List.drop_length, jz]
    simp (disch := first | omega | (simp only [List.length_append, List.length_map, List.length_set, List.length_cons, List.length_nil, List.length_take, List.length_drop, rowsI_len]; omega)) only [va0, va1, va2, va3, va4, va5, va6, va7, va8, va9, va10, va11, va12, va13, va14, va15, vb0, vb1, vb2, vb3, w_i8, w_u8, w_i16, w_u16, w_i32, w_u32, w_i64, w_u64, lt_T, lt_F, le_T, le_F, nlt_T, nlt_F, nle_T, nle_F, List.take_of_length_le, gB, gcW, gcR, posIn, renA, renL, Chunk.ren, Chunk.refs, evOpD, touchD, stepC, isFresh, nFresh, freshOf, mkR, hole, evL, evH, opd, get, putD, ofVal, cellOf, loadE, behind, lenE, idxAddrE, idxE, addPtr, intE, strE, unE, convE, AV.int, AV.bool, AV.str, ivs, take, frameOf, firstRegion, refsA, refsL, one, cellsA, floatOk, apartT, List.map, if_true, if_false, E_P, E_glob0, E_glob1, reduceCtorEq, beq_self_eq_true, decide_true, decide_false, ↓reduceIte, Nat.reduceEqDiff, cond_true, cond_false, or_true, true_or, or_false, false_or, and_true, true_and, and_self, false_and, and_false, not_true, not_false_iff, Nat.reduceAdd, Nat.reduceSub, Nat.reduceMul, Nat.reduceLT, Nat.reduceLeDiff, Int.reduceToNat, Int.reduceLT, Int.reduceLE, Option.getD, Int.reduceMul, Int.reduceAdd, List.drop, List.take, Nat.reduceBEq, List.isEmpty, Int.reduceEq, Int.reduceNe, Int.reduceNeg, Int.reduceGT, Int.reduceGE, beq_true, beq_false, UInt8.reduceToNat, eqE, eq_self, foldE, maxE, minE, eq_T, eq_F, ndec, odec, adec, sdec, fillA, over, chop, List.replicate, leavesOk, leafOk, cellsEq, cellEq, E_ext, E_byref, en8, bs22, bs24, bs47, rowsI_len, show ∀ B fr H, execT E B 8 (Code.loop _) fr H = rlG E B 8 (loopAt Tryd.f8 0) (gcn B (norm [0, 3, 5, 31, 32, 33] fr) H) from fun B fr H => rl_intro rfl mt8_8 mb8_8 zf8_8 hd8_8 fr H]
    exact ⟨_, rfl, rfl, rfl, rfl⟩
termination_by l.length - k
theorem l8_2 (l : List Ins) (hl : l.length ≤ 40) (d : List Int) (c : Nat) (hc : c ≤ 8) (p : Int) (hp : 0 ≤ p ∧ p ≤ 300) (w : List Int) (hwl : w.length ≤ 100) (hw : ∀ x ∈ w, 0 ≤ x ∧ x < l.length) (k : Nat) (hk : k ≤ w.length) (s : List Bool) (hs : s.length = l.length) :
    ∃ fr, rl E 0 8 (loopAt Tryd.f8 2) [(0, .i (.sl 2 (rowsI l) false)), (3, .i (.sl 1 (rows64 d) false)), (5, .i (.v (.int .i64 c))), (8, .ref 0 0 0 l.length), (9, .i (.v (.int .u32 p))), (57, .i (.sl 1 (rows64 w) false)), (58, .i (.v (.int .i64 w.length))), (59, .i (.v (.int .i64 k)))] [.sl 1 0 (rowsT s) false] = some (.exit 4, fr, [.sl 1 0 (rowsT (markL (w.drop k) s)) false]) ∧ get 0 fr = .i (.sl 2 (rowsI l) false) ∧ get 3 fr = .i (.sl 1 (rows64 d) false) ∧ get 5 fr = .i (.v (.int .i64 c)) ∧ get 8 fr = .ref 0 0 0 l.length ∧ get 9 fr = .i (.v (.int .u32 p)) := by
  rw [rl_step (fn := Tryd.f8) (k := 2) rfl]
  by_cases hlt : k < w.length
  · have hrow := rows64_at hlt
    have hx := hw w[k] (List.getElem_mem _)
    rw [List.drop_eq_getElem_cons hlt, markL]
    obtain ⟨fr, e, hh⟩ := l8_2 l hl d c hc p hp w hwl hw (k + 1) hlt (s.set w[k].toNat true) (by rw [List.length_set]; exact hs)
    refine ⟨fr, Eq.trans ?_ e, hh⟩
    clear e hh
    generalize w[k] = x at *
    have hrs := rowsT_get (l := s) (k := x.toNat) (by omega)
    generalize s.getD x.toNat false = sb at *
    simp (disch := first | omega | (simp only [List.length_append, List.length_map, List.length_set, List.length_cons, List.length_nil, List.length_take, List.length_drop, rows64_len, rowsT_len]; omega)) only [va0, va1, va2, va3, va4, va5, va6, va7, va8, va9, va10, va11, va12, va13, va14, va15, vb0, vb1, vb2, vb3, w_i8, w_u8, w_i16, w_u16, w_i32, w_u32, w_i64, w_u64, lt_T, lt_F, le_T, le_F, nlt_T, nlt_F, nle_T, nle_F, List.take_of_length_le, gB, gcW, gcR, posIn, renA, renL, Chunk.ren, Chunk.refs, evOpD, touchD, stepC, isFresh, nFresh, freshOf, mkR, hole, evL, evH, opd, get, putD, ofVal, cellOf, loadE, behind, lenE, idxAddrE, idxE, addPtr, intE, strE, unE, convE, AV.int, AV.bool, AV.str, ivs, take, frameOf, firstRegion, refsA, refsL, one, cellsA, floatOk, apartT, List.map, if_true, if_false, E_P, E_glob0, E_glob1, reduceCtorEq, beq_self_eq_true, decide_true, decide_false, ↓reduceIte, Nat.reduceEqDiff, cond_true, cond_false, or_true, true_or, or_false, false_or, and_true, true_and, and_self, false_and, and_false, not_true, not_false_iff, Nat.reduceAdd, Nat.reduceSub, Nat.reduceMul, Nat.reduceLT, Nat.reduceLeDiff, Int.reduceToNat, Int.reduceLT, Int.reduceLE, Option.getD, Int.reduceMul, Int.reduceAdd, List.drop, List.take, Nat.reduceBEq, List.isEmpty, Int.reduceEq, Int.reduceNe, Int.reduceNeg, Int.reduceGT, Int.reduceGE, beq_true, beq_false, UInt8.reduceToNat, eqE, eq_self, foldE, maxE, minE, eq_T, eq_F, ndec, odec, adec, sdec, fillA, over, chop, List.replicate, leavesOk, leafOk, cellsEq, cellEq, E_ext, E_byref, en8, bs22, bs24, bs47, hrow, hrs, rows64_len, rowsT_len, rowsT_set, show ∀ B fr H, execT E B 8 (Code.loop _) fr H = rlG E B 8 (loopAt Tryd.f8 2) (gcn B (norm [0, 3, 5, 8, 9, 57, 58, 59] fr) H) from fun B fr H => rl_intro rfl mt8_20 mb8_20 zf8_20 hd8_20 fr H]
  · obtain rfl : k = w.length := by omega
    rw [List.drop_length, markL]
    simp (disch := first | omega | (simp only [List.length_append, List.length_map, List.length_set, List.length_cons, List.length_nil, List.length_take, List.length_drop, rows64_len, rowsT_len]; omega)) only [va0, va1, va2, va3, va4, va5, va6, va7, va8, va9, va10, va11, va12, va13, va14, va15, vb0, vb1, vb2, vb3, w_i8, w_u8, w_i16, w_u16, w_i32, w_u32, w_i64, w_u64, lt_T, lt_F, le_T, le_F, nlt_T, nlt_F, nle_T, nle_F, List.take_of_length_le, gB, gcW, gcR, posIn, renA, renL, Chunk.ren, Chunk.refs, evOpD, touchD, stepC, isFresh, nFresh, freshOf, mkR, hole, evL, evH, opd, get, putD, ofVal, cellOf, loadE, behind, lenE, idxAddrE, idxE, addPtr, intE, strE, unE, convE, AV.int, AV.bool, AV.str, ivs, take, frameOf, firstRegion, refsA, refsL, one, cellsA, floatOk, apartT, List.map, if_true, if_false, E_P, E_glob0, E_glob1, reduceCtorEq, beq_self_eq_true, decide_true, decide_false, ↓reduceIte, Nat.reduceEqDiff, cond_true, cond_false, or_true, true_or, or_false, false_or, and_true, true_and, and_self, false_and, and_false, not_true, not_false_iff, Nat.reduceAdd, Nat.reduceSub, Nat.reduceMul, Nat.reduceLT, Nat.reduceLeDiff, Int.reduceToNat, Int.reduceLT, Int.reduceLE, Option.getD, Int.reduceMul, Int.reduceAdd, List.drop, List.take, Nat.reduceBEq, List.isEmpty, Int.reduceEq, Int.reduceNe, Int.reduceNeg, Int.reduceGT, Int.reduceGE, beq_true, beq_false, UInt8.reduceToNat, eqE, eq_self, foldE, maxE, minE, eq_T, eq_F, ndec, odec, adec, sdec, fillA, over, chop, List.replicate, leavesOk, leafOk, cellsEq, cellEq, E_ext, E_byref, en8, bs22, bs24, bs47, rows64_len, rowsT_len, show ∀ B fr H, execT E B 8 (Code.loop _) fr H = rlG E B 8 (loopAt Tryd.f8 2) (gcn B (norm [0, 3, 5, 8, 9, 57, 58, 59] fr) H) from fun B fr H => rl_intro rfl mt8_20 mb8_20 zf8_20 hd8_20 fr H]
    exact ⟨_, rfl, rfl, rfl, rfl, rfl, rfl⟩
termination_by w.length - k
theorem l8_1 (l : List Ins) (hl : l.length ≤ 40) (g : Good l) (d : List Int) (hw : ∀ q, ∀ x ∈ walkS l q, 0 ≤ x ∧ x < l.length) (c : Nat) (hc : c ≤ 8) : ∀ (r : Nat) (p : Int) (hp : 0 ≤ p ∧ p + r = two c) (s : List Bool) (hs : s.length = l.length),
    ∃ fr, rl E 0 8 (loopAt Tryd.f8 1) [(0, .i (.sl 2 (rowsI l) false)), (3, .i (.sl 1 (rows64 d) false)), (5, .i (.v (.int .i64 c))), (8, .ref 0 0 0 l.length), (9, .i (.v (.int .u32 p)))] [.sl 1 0 (rowsT s) false] = some (.exit 2, fr, [.sl 1 0 (rowsT (markR l r p s)) false]) ∧ get 0 fr = .i (.sl 2 (rowsI l) false) ∧ get 3 fr = .i (.sl 1 (rows64 d) false) ∧ get 8 fr = .ref 0 0 0 l.length
  | 0, p, hp, s, hs => by
    rw [rl_step (fn := Tryd.f8) (k := 1) rfl]
    have h2 := two_u32 c hc
    have h3 := two_256 c hc
    generalize two c = tw at *
    rw [markR]
    simp (disch := first | omega | (simp only [List.length_append, List.length_map, List.length_set, List.length_cons, List.length_nil, List.length_take, List.length_drop, rowsI_len, rowsT_len]; omega)) only [va0, va1, va2, va3, va4, va5, va6, va7, va8, va9, va10, va11, va12, va13, va14, va15, vb0, vb1, vb2, vb3, w_i8, w_u8, w_i16, w_u16, w_i32, w_u32, w_i64, w_u64, lt_T, lt_F, le_T, le_F, nlt_T, nlt_F, nle_T, nle_F, List.take_of_length_le, gB, gcW, gcR, posIn, renA, renL, Chunk.ren, Chunk.refs, evOpD, touchD, stepC, isFresh, nFresh, freshOf, mkR, hole, evL, evH, opd, get, putD, ofVal, cellOf, loadE, behind, lenE, idxAddrE, idxE, addPtr, intE, strE, unE, convE, AV.int, AV.bool, AV.str, ivs, take, frameOf, firstRegion, refsA, refsL, one, cellsA, floatOk, apartT, List.map, if_true, if_false, E_P, E_glob0, E_glob1, reduceCtorEq, beq_self_eq_true, decide_true, decide_false, ↓reduceIte, Nat.reduceEqDiff, cond_true, cond_false, or_true, true_or, or_false, false_or, and_true, true_and, and_self, false_and, and_false, not_true, not_false_iff, Nat.reduceAdd, Nat.reduceSub, Nat.reduceMul, Nat.reduceLT, Nat.reduceLeDiff, Int.reduceToNat, Int.reduceLT, Int.reduceLE, Option.getD, Int.reduceMul, Int.reduceAdd, List.drop, List.take, Nat.reduceBEq, List.isEmpty, Int.reduceEq, Int.reduceNe, Int.reduceNeg, Int.reduceGT, Int.reduceGE, beq_true, beq_false, UInt8.reduceToNat, eqE, eq_self, foldE, maxE, minE, eq_T, eq_F, ndec, odec, adec, sdec, fillA, over, chop, List.replicate, leavesOk, leafOk, cellsEq, cellEq, E_ext, E_byref, en8, bs22, bs24, bs47, h2, rowsI_len, rowsT_len, show ∀ B fr H, execT E B 8 (Code.loop _) fr H = rlG E B 8 (loopAt Tryd.f8 1) (gcn B (norm [0, 3, 5, 8, 9] fr) H) from fun B fr H => rl_intro rfl mt8_17 mb8_17 zf8_17 hd8_17 fr H]
    exact ⟨_, rfl, rfl, rfl, rfl⟩
  | r + 1, p, hp, s, hs => by
    rw [rl_step (fn := Tryd.f8) (k := 1) rfl]
    have h2 := two_u32 c hc
    have h3 := two_256 c hc
    have hwk := fun H => ik20 l (by omega) g.ok p (by omega) H
    have hwl := walk_len (l := l) (l.length + 1) 0 p
    rw [show walkF l (l.length + 1) 0 p = walkS l p from rfl] at hwl
    rw [markR]
    obtain ⟨fr, e, h0⟩ := l8_1 l hl g d hw c hc r (p + 1) (by omega) (markL (walkS l p) s) (by rw [markL_len]; exact hs)
    obtain ⟨fr2, e2, f0, f3, f5, f8, f9⟩ := l8_2 l hl d c hc p (by omega) (walkS l p) (by omega) (hw p) 0 (Nat.zero_le _) s hs
    rw [List.drop_zero] at e2
    have hml := markL_len (walkS l p) s
    refine ⟨fr, Eq.trans ?_ e, h0⟩
    clear e h0
    generalize markL (walkS l p) s = s2 at *
    have hwp := hw p
    generalize walkS l p = w at *
    generalize two c = tw at *
    have e2' : rl E 0 8 (loopAt Tryd.f8 2) [(0, .i (.sl 2 (rowsI l) false)), (3, .i (.sl 1 (rows64 d) false)), (5, .i (.v (.int .i64 c))), (8, .ref 0 0 0 l.length), (9, .i (.v (.int .u32 p))), (57, .i (.sl 1 (rows64 w) false)), (58, .i (.v (.int .i64 w.length))), (59, .i (.v (.int .i64 0)))] [.sl 1 0 (rowsT s) false] = _ := e2
    clear e2
    simp (disch := first | omega | (simp only [List.length_append, List.length_map, List.length_set, List.length_cons, List.length_nil, List.length_take, List.length_drop, rowsI_len, rows64_len, rowsT_len]; omega)) only [va0, va1, va2, va3, va4, va5, va6, va7, va8, va9, va10, va11, va12, va13, va14, va15, vb0, vb1, vb2, vb3, w_i8, w_u8, w_i16, w_u16, w_i32, w_u32, w_i64, w_u64, lt_T, lt_F, le_T, le_F, nlt_T, nlt_F, nle_T, nle_F, List.take_of_length_le, gB, gcW, gcR, posIn, renA, renL, Chunk.ren, Chunk.refs, evOpD, touchD, stepC, isFresh, nFresh, freshOf, mkR, hole, evL, evH, opd, get, putD, ofVal, cellOf, loadE, behind, lenE, idxAddrE, idxE, addPtr, intE, strE, unE, convE, AV.int, AV.bool, AV.str, ivs, take, frameOf, firstRegion, refsA, refsL, one, cellsA, floatOk, apartT, List.map, if_true, if_false, E_P, E_glob0, E_glob1, reduceCtorEq, beq_self_eq_true, decide_true, decide_false, ↓reduceIte, Nat.reduceEqDiff, cond_true, cond_false, or_true, true_or, or_false, false_or, and_true, true_and, and_self, false_and, and_false, not_true, not_false_iff, Nat.reduceAdd, Nat.reduceSub, Nat.reduceMul, Nat.reduceLT, Nat.reduceLeDiff, Int.reduceToNat, Int.reduceLT, Int.reduceLE, Option.getD, Int.reduceMul, Int.reduceAdd, List.drop, List.take, Nat.reduceBEq, List.isEmpty, Int.reduceEq, Int.reduceNe, Int.reduceNeg, Int.reduceGT, Int.reduceGE, beq_true, beq_false, UInt8.reduceToNat, eqE, eq_self, foldE, maxE, minE, eq_T, eq_F, ndec, odec, adec, sdec, fillA, over, chop, List.replicate, leavesOk, leafOk, cellsEq, cellEq, E_ext, E_byref, en8, bs22, bs24, bs47, h2, hwk, e2', f0, f3, f5, f8, f9, rows64_len, rowsI_len, rowsT_len, show ∀ B fr H, execT E B 8 (Code.loop _) fr H = rlG E B 8 (loopAt Tryd.f8 1) (gcn B (norm [0, 3, 5, 8, 9] fr) H) from fun B fr H => rl_intro rfl mt8_17 mb8_17 zf8_17 hd8_17 fr H, show ∀ B fr H, execT E B 8 (Code.loop _) fr H = rlG E B 8 (loopAt Tryd.f8 2) (gcn B (norm [0, 3, 5, 8, 9, 57, 58, 59] fr) H) from fun B fr H => rl_intro rfl mt8_20 mb8_20 zf8_20 hd8_20 fr H]
theorem l8_3 (l : List Ins) (hl : l.length ≤ 40) (d : List Int) (hd : d.length = l.length) (s : List Bool) (hs : s.length = l.length) (hm : ∀ j, j < l.length → s.getD j false = decide (0 ≤ d.getD j 0)) (k : Nat) (hk : k ≤ l.length) :
    ∃ fr, rl E 0 8 (loopAt Tryd.f8 3) [(0, .i (.sl 2 (rowsI l) false)), (3, .i (.sl 1 (rows64 d) false)), (8, .ref 0 0 0 l.length), (12, .i (.v (.int .i64 k)))] [.sl 1 0 (rowsT s) false] = some (.exit 6, fr, [.sl 1 0 (rowsT s) false]) := by
  rw [rl_step (fn := Tryd.f8) (k := 3) rfl]
  by_cases hlt : k < l.length
  · have hrow := rows64_get (l := d) (k := k) (by omega)
    have hrs := rowsT_get (l := s) (k := k) (by omega)
    rw [hm k hlt] at hrs
    obtain ⟨fr, e⟩ := l8_3 l hl d hd s hs hm (k + 1) hlt
    refine ⟨fr, Eq.trans ?_ e⟩
    clear e
    generalize d.getD k 0 = x at *
    by_cases hx : 0 ≤ x
    · rw [decide_eq_true hx] at hrs
      simp (disch := first | omega | (simp only [List.length_append, List.length_map, List.length_set, List.length_cons, List.length_nil, List.length_take, List.length_drop, rows64_len, rowsT_len, rowsI_len]; omega)) only [va0, va1, va2, va3, va4, va5, va6, va7, va8, va9, va10, va11, va12, va13, va14, va15, vb0, vb1, vb2, vb3, w_i8, w_u8, w_i16, w_u16, w_i32, w_u32, w_i64, w_u64, lt_T, lt_F, le_T, le_F, nlt_T, nlt_F, nle_T, nle_F, List.take_of_length_le, gB, gcW, gcR, posIn, renA, renL, Chunk.ren, Chunk.refs, evOpD, touchD, stepC, isFresh, nFresh, freshOf, mkR, hole, evL, evH, opd, get, putD, ofVal, cellOf, loadE, behind, lenE, idxAddrE, idxE, addPtr, intE, strE, unE, convE, AV.int, AV.bool, AV.str, ivs, take, frameOf, firstRegion, refsA, refsL, one, cellsA, floatOk, apartT, List.map, if_true, if_false, E_P, E_glob0, E_glob1, reduceCtorEq, beq_self_eq_true, decide_true, decide_false, ↓reduceIte, Nat.reduceEqDiff, cond_true, cond_false, or_true, true_or, or_false, false_or, and_true, true_and, and_self, false_and, and_false, not_true, not_false_iff, Nat.reduceAdd, Nat.reduceSub, Nat.reduceMul, Nat.reduceLT, Nat.reduceLeDiff, Int.reduceToNat, Int.reduceLT, Int.reduceLE, Option.getD, Int.reduceMul, Int.reduceAdd, List.drop, List.take, Nat.reduceBEq, List.isEmpty, Int.reduceEq, Int.reduceNe, Int.reduceNeg, Int.reduceGT, Int.reduceGE, beq_true, beq_false, UInt8.reduceToNat, eqE, eq_self, foldE, maxE, minE, eq_T, eq_F, ndec, odec, adec, sdec, fillA, over, chop, List.replicate, leavesOk, leafOk, cellsEq, cellEq, E_ext, E_byref, en8, bs22, bs24, bs47, hrow, hrs, hx, hd, rows64_len, rowsI_len, rowsT_len, show ∀ B fr H, execT E B 8 (Code.loop _) fr H = rlG E B 8 (loopAt Tryd.f8 3) (gcn B (norm [0, 3, 8, 12] fr) H) from fun B fr H => rl_intro rfl mt8_25 mb8_25 zf8_25 hd8_25 fr H]
    · rw [decide_eq_false hx] at hrs
      simp (disch := first | omega | (simp only [List.length_append, List.length_map, List.length_set, List.length_cons, List.length_nil, List.length_take, List.length_drop, rows64_len, rowsT_len, rowsI_len]; omega)) only [va0, va1, va2, va3, va4, va5, va6, va7, va8, va9, va10, va11, va12, va13, va14, va15, vb0, vb1, vb2, vb3, w_i8, w_u8, w_i16, w_u16, w_i32, w_u32, w_i64, w_u64, lt_T, lt_F, le_T, le_F, nlt_T, nlt_F, nle_T, nle_F, List.take_of_length_le, gB, gcW, gcR, posIn, renA, renL, Chunk.ren, Chunk.refs, evOpD, touchD, stepC, isFresh, nFresh, freshOf, mkR, hole, evL, evH, opd, get, putD, ofVal, cellOf, loadE, behind, lenE, idxAddrE, idxE, addPtr, intE, strE, unE, convE, AV.int, AV.bool, AV.str, ivs, take, frameOf, firstRegion, refsA, refsL, one, cellsA, floatOk, apartT, List.map, if_true, if_false, E_P, E_glob0, E_glob1, reduceCtorEq, beq_self_eq_true, decide_true, decide_false, ↓reduceIte, Nat.reduceEqDiff, cond_true, cond_false, or_true, true_or, or_false, false_or, and_true, true_and, and_self, false_and, and_false, not_true, not_false_iff, Nat.reduceAdd, Nat.reduceSub, Nat.reduceMul, Nat.reduceLT, Nat.reduceLeDiff, Int.reduceToNat, Int.reduceLT, Int.reduceLE, Option.getD, Int.reduceMul, Int.reduceAdd, List.drop, List.take, Nat.reduceBEq, List.isEmpty, Int.reduceEq, Int.reduceNe, Int.reduceNeg, Int.reduceGT, Int.reduceGE, beq_true, beq_false, UInt8.reduceToNat, eqE, eq_self, foldE, maxE, minE, eq_T, eq_F, ndec, odec, adec, sdec, fillA, over, chop, List.replicate, leavesOk, leafOk, cellsEq, cellEq, E_ext, E_byref, en8, bs22, bs24, bs47, hrow, hrs, hx, hd, rows64_len, rowsI_len, rowsT_len, show ∀ B fr H, execT E B 8 (Code.loop _) fr H = rlG E B 8 (loopAt Tryd.f8 3) (gcn B (norm [0, 3, 8, 12] fr) H) from fun B fr H => rl_intro rfl mt8_25 mb8_25 zf8_25 hd8_25 fr H]
  · obtain rfl : k = l.length := by omega
    simp (disch := first | omega | (simp only [List.length_append, List.length_map, List.length_set, List.length_cons, List.length_nil, List.length_take, List.length_drop, rows64_len, rowsT_len, rowsI_len]; omega)) only [va0, va1, va2, va3, va4, va5, va6, va7, va8, va9, va10, va11, va12, va13, va14, va15, vb0, vb1, vb2, vb3, w_i8, w_u8, w_i16, w_u16, w_i32, w_u32, w_i64, w_u64, lt_T, lt_F, le_T, le_F, nlt_T, nlt_F, nle_T, nle_F, List.take_of_length_le, gB, gcW, gcR, posIn, renA, renL, Chunk.ren, Chunk.refs, evOpD, touchD, stepC, isFresh, nFresh, freshOf, mkR, hole, evL, evH, opd, get, putD, ofVal, cellOf, loadE, behind, lenE, idxAddrE, idxE, addPtr, intE, strE, unE, convE, AV.int, AV.bool, AV.str, ivs, take, frameOf, firstRegion, refsA, refsL, one, cellsA, floatOk, apartT, List.map, if_true, if_false, E_P, E_glob0, E_glob1, reduceCtorEq, beq_self_eq_true, decide_true, decide_false, ↓reduceIte, Nat.reduceEqDiff, cond_true, cond_false, or_true, true_or, or_false, false_or, and_true, true_and, and_self, false_and, and_false, not_true, not_false_iff, Nat.reduceAdd, Nat.reduceSub, Nat.reduceMul, Nat.reduceLT, Nat.reduceLeDiff, Int.reduceToNat, Int.reduceLT, Int.reduceLE, Option.getD, Int.reduceMul, Int.reduceAdd, List.drop, List.take, Nat.reduceBEq, List.isEmpty, Int.reduceEq, Int.reduceNe, Int.reduceNeg, Int.reduceGT, Int.reduceGE, beq_true, beq_false, UInt8.reduceToNat, eqE, eq_self, foldE, maxE, minE, eq_T, eq_F, ndec, odec, adec, sdec, fillA, over, chop, List.replicate, leavesOk, leafOk, cellsEq, cellEq, E_ext, E_byref, en8, bs22, bs24, bs47, rows64_len, rowsT_len, rowsI_len, show ∀ B fr H, execT E B 8 (Code.loop _) fr H = rlG E B 8 (loopAt Tryd.f8 3) (gcn B (norm [0, 3, 8, 12] fr) H) from fun B fr H => rl_intro rfl mt8_25 mb8_25 zf8_25 hd8_25 fr H]
    exact ⟨_, rfl⟩
termination_by l.length - k
theorem law8 (l : List Ins) (hl : l.length ≤ 9223372036854775807) : ∃ L, callT E 8 [.i (.sl 2 (rowsI l) false)] [] = some (.i (.v (.bool true)), L) := by
  have hD := fun H => ik12 l (by omega) H
  by_cases h6 : 40 < (l.length : Int)
  · generalize depthsS l = ds at *
    by_cases h7 : ds.2 = 0
    · rw [callT_eq Tryd.func8 rfl fok8 (by simp [Tryd.ntmps8])]
      simp (disch := first | omega | (simp only [List.length_append, List.length_map, List.length_set, List.length_cons, List.length_nil, List.length_take, List.length_drop, rowsI_len]; omega)) only [va0, va1, va2, va3, va4, va5, va6, va7, va8, va9, va10, va11, va12, va13, va14, va15, vb0, vb1, vb2, vb3, w_i8, w_u8, w_i16, w_u16, w_i32, w_u32, w_i64, w_u64, lt_T, lt_F, le_T, le_F, nlt_T, nlt_F, nle_T, nle_F, List.take_of_length_le, gB, gcW, gcR, posIn, renA, renL, Chunk.ren, Chunk.refs, evOpD, touchD, stepC, isFresh, nFresh, freshOf, mkR, hole, evL, evH, opd, get, putD, ofVal, cellOf, loadE, behind, lenE, idxAddrE, idxE, addPtr, intE, strE, unE, convE, AV.int, AV.bool, AV.str, ivs, take, frameOf, firstRegion, refsA, refsL, one, cellsA, floatOk, apartT, List.map, if_true, if_false, E_P, E_glob0, E_glob1, reduceCtorEq, beq_self_eq_true, decide_true, decide_false, ↓reduceIte, Nat.reduceEqDiff, cond_true, cond_false, or_true, true_or, or_false, false_or, and_true, true_and, and_self, false_and, and_false, not_true, not_false_iff, Nat.reduceAdd, Nat.reduceSub, Nat.reduceMul, Nat.reduceLT, Nat.reduceLeDiff, Int.reduceToNat, Int.reduceLT, Int.reduceLE, Option.getD, Int.reduceMul, Int.reduceAdd, List.drop, List.take, Nat.reduceBEq, List.isEmpty, Int.reduceEq, Int.reduceNe, Int.reduceNeg, Int.reduceGT, Int.reduceGE, beq_true, beq_false, UInt8.reduceToNat, eqE, eq_self, foldE, maxE, minE, eq_T, eq_F, ndec, odec, adec, sdec, fillA, over, chop, List.replicate, leavesOk, leafOk, cellsEq, cellEq, E_ext, E_byref, en8, bs22, bs24, bs47, hD, h6, h7, rowsI_len, ik11]
      exact ⟨_, rfl⟩
    · rw [callT_eq Tryd.func8 rfl fok8 (by simp [Tryd.ntmps8])]
      simp (disch := first | omega | (simp only [List.length_append, List.length_map, List.length_set, List.length_cons, List.length_nil, List.length_take, List.length_drop, rowsI_len]; omega)) only [va0, va1, va2, va3, va4, va5, va6, va7, va8, va9, va10, va11, va12, va13, va14, va15, vb0, vb1, vb2, vb3, w_i8, w_u8, w_i16, w_u16, w_i32, w_u32, w_i64, w_u64, lt_T, lt_F, le_T, le_F, nlt_T, nlt_F, nle_T, nle_F, List.take_of_length_le, gB, gcW, gcR, posIn, renA, renL, Chunk.ren, Chunk.refs, evOpD, touchD, stepC, isFresh, nFresh, freshOf, mkR, hole, evL, evH, opd, get, putD, ofVal, cellOf, loadE, behind, lenE, idxAddrE, idxE, addPtr, intE, strE, unE, convE, AV.int, AV.bool, AV.str, ivs, take, frameOf, firstRegion, refsA, refsL, one, cellsA, floatOk, apartT, List.map, if_true, if_false, E_P, E_glob0, E_glob1, reduceCtorEq, beq_self_eq_true, decide_true, decide_false, ↓reduceIte, Nat.reduceEqDiff, cond_true, cond_false, or_true, true_or, or_false, false_or, and_true, true_and, and_self, false_and, and_false, not_true, not_false_iff, Nat.reduceAdd, Nat.reduceSub, Nat.reduceMul, Nat.reduceLT, Nat.reduceLeDiff, Int.reduceToNat, Int.reduceLT, Int.reduceLE, Option.getD, Int.reduceMul, Int.reduceAdd, List.drop, List.take, Nat.reduceBEq, List.isEmpty, Int.reduceEq, Int.reduceNe, Int.reduceNeg, Int.reduceGT, Int.reduceGE, beq_true, beq_false, UInt8.reduceToNat, eqE, eq_self, foldE, maxE, minE, eq_T, eq_F, ndec, odec, adec, sdec, fillA, over, chop, List.replicate, leavesOk, leafOk, cellsEq, cellEq, E_ext, E_byref, en8, bs22, bs24, bs47, hD, h6, h7, rowsI_len, ik11]
      exact ⟨_, rfl⟩
  · by_cases h7 : (depthsS l).2 = 0
    · obtain ⟨fin, hc0, hdr, hf1, hf2⟩ := depths_ok h7
      have hdl : (depthsS l).1.length = l.length := by rw [hf1, List.length_take, hf2]; omega
      have hmk := marked h7
      have hpm : ∀ q, ∀ x ∈ walkS l q, 0 ≤ x ∧ x < l.length := fun q x hx => by
        have := pathOK_mem _ _ (depths_path h7 (l.length + 1) q) x hx
        exact ⟨this.1, this.2.1⟩
      rw [h7] at hD
      generalize (depthsS l).1 = d at *
      obtain ⟨fr, e, g0, g3, g5⟩ := l8_0 l (by omega) d 0 (Nat.zero_le _) 0 (Nat.le_refl _)
      have e' : rl E 0 8 (loopAt Tryd.f8 0) [(0, .i (.sl 2 (rowsI l) false)), (3, .i (.sl 1 (rows64 d) false)), (5, .i (.v (.int .i64 0))), (31, .i (.sl 2 (rowsI l) false)), (32, .i (.v (.int .i64 l.length))), (33, .i (.v (.int .i64 0)))] [] = _ := e
      rw [Nat.zero_add, List.drop_zero] at g5
      clear e
      by_cases h8 : 8 < jz l
      · generalize jz l = c at *
        rw [callT_eq Tryd.func8 rfl fok8 (by simp [Tryd.ntmps8])]
        simp (disch := first | omega | (simp only [List.length_append, List.length_map, List.length_set, List.length_cons, List.length_nil, List.length_take, List.length_drop, rowsI_len, rows64_len]; omega)) only [va0, va1, va2, va3, va4, va5, va6, va7, va8, va9, va10, va11, va12, va13, va14, va15, vb0, vb1, vb2, vb3, w_i8, w_u8, w_i16, w_u16, w_i32, w_u32, w_i64, w_u64, lt_T, lt_F, le_T, le_F, nlt_T, nlt_F, nle_T, nle_F, List.take_of_length_le, gB, gcW, gcR, posIn, renA, renL, Chunk.ren, Chunk.refs, evOpD, touchD, stepC, isFresh, nFresh, freshOf, mkR, hole, evL, evH, opd, get, putD, ofVal, cellOf, loadE, behind, lenE, idxAddrE, idxE, addPtr, intE, strE, unE, convE, AV.int, AV.bool, AV.str, ivs, take, frameOf, firstRegion, refsA, refsL, one, cellsA, floatOk, apartT, List.map, if_true, if_false, E_P, E_glob0, E_glob1, reduceCtorEq, beq_self_eq_true, decide_true, decide_false, ↓reduceIte, Nat.reduceEqDiff, cond_true, cond_false, or_true, true_or, or_false, false_or, and_true, true_and, and_self, false_and, and_false, not_true, not_false_iff, Nat.reduceAdd, Nat.reduceSub, Nat.reduceMul, Nat.reduceLT, Nat.reduceLeDiff, Int.reduceToNat, Int.reduceLT, Int.reduceLE, Option.getD, Int.reduceMul, Int.reduceAdd, List.drop, List.take, Nat.reduceBEq, List.isEmpty, Int.reduceEq, Int.reduceNe, Int.reduceNeg, Int.reduceGT, Int.reduceGE, beq_true, beq_false, UInt8.reduceToNat, eqE, eq_self, foldE, maxE, minE, eq_T, eq_F, ndec, odec, adec, sdec, fillA, over, chop, List.replicate, leavesOk, leafOk, cellsEq, cellEq, E_ext, E_byref, en8, bs22, bs24, bs47, hD, h6, h8, hdl, e', g0, g3, g5, rowsI_len, rows64_len, ik11, show ∀ B fr H, execT E B 8 (Code.loop _) fr H = rlG E B 8 (loopAt Tryd.f8 0) (gcn B (norm [0, 3, 5, 31, 32, 33] fr) H) from fun B fr H => rl_intro rfl mt8_8 mb8_8 zf8_8 hd8_8 fr H]
        exact ⟨_, rfl⟩
      · obtain ⟨fr1, e1, f0, f3, f8⟩ := l8_1 l (by omega) (good_of hc0) d hpm (jz l) (by omega) (2 ^ jz l) 0 (by unfold two; omega) (List.replicate l.length false) (by simp)
        have hml := markR_len l (2 ^ jz l) 0 (List.replicate l.length false)
        rw [List.length_replicate] at hml
        generalize markR l (2 ^ jz l) 0 (List.replicate l.length false) = s at *
        generalize jz l = c at *
        obtain ⟨fr2, e2⟩ := l8_3 l (by omega) d hdl s hml hmk 0 (Nat.zero_le _)
        have hnn : ((l.length : Int)).toNat = l.length := by omega
        have e1' : rl E 0 8 (loopAt Tryd.f8 1) [(0, .i (.sl 2 (rowsI l) false)), (3, .i (.sl 1 (rows64 d) false)), (5, .i (.v (.int .i64 c))), (8, .ref 0 0 0 l.length), (9, .i (.v (.int .u32 0)))] [.sl 1 0 (rowsT (List.replicate l.length false)) false] = _ := e1
        have e2' : rl E 0 8 (loopAt Tryd.f8 3) [(0, .i (.sl 2 (rowsI l) false)), (3, .i (.sl 1 (rows64 d) false)), (8, .ref 0 0 0 l.length), (12, .i (.v (.int .i64 0)))] [.sl 1 0 (rowsT s) false] = _ := e2
        clear e1 e2
        rw [callT_eq Tryd.func8 rfl fok8 (by simp [Tryd.ntmps8])]
        simp (disch := first | omega | (simp only [List.length_append, List.length_map, List.length_set, List.length_cons, List.length_nil, List.length_take, List.length_drop, rowsI_len, rows64_len, rowsT_len]; omega)) only [va0, va1, va2, va3, va4, va5, va6, va7, va8, va9, va10, va11, va12, va13, va14, va15, vb0, vb1, vb2, vb3, w_i8, w_u8, w_i16, w_u16, w_i32, w_u32, w_i64, w_u64, lt_T, lt_F, le_T, le_F, nlt_T, nlt_F, nle_T, nle_F, List.take_of_length_le, gB, gcW, gcR, posIn, renA, renL, Chunk.ren, Chunk.refs, evOpD, touchD, stepC, isFresh, nFresh, freshOf, mkR, hole, evL, evH, opd, get, putD, ofVal, cellOf, loadE, behind, lenE, idxAddrE, idxE, addPtr, intE, strE, unE, convE, AV.int, AV.bool, AV.str, ivs, take, frameOf, firstRegion, refsA, refsL, one, cellsA, floatOk, apartT, List.map, if_true, if_false, E_P, E_glob0, E_glob1, reduceCtorEq, beq_self_eq_true, decide_true, decide_false, ↓reduceIte, Nat.reduceEqDiff, cond_true, cond_false, or_true, true_or, or_false, false_or, and_true, true_and, and_self, false_and, and_false, not_true, not_false_iff, Nat.reduceAdd, Nat.reduceSub, Nat.reduceMul, Nat.reduceLT, Nat.reduceLeDiff, Int.reduceToNat, Int.reduceLT, Int.reduceLE, Option.getD, Int.reduceMul, Int.reduceAdd, List.drop, List.take, Nat.reduceBEq, List.isEmpty, Int.reduceEq, Int.reduceNe, Int.reduceNeg, Int.reduceGT, Int.reduceGE, beq_true, beq_false, UInt8.reduceToNat, eqE, eq_self, foldE, maxE, minE, eq_T, eq_F, ndec, odec, adec, sdec, fillA, over, chop, List.replicate, leavesOk, leafOk, cellsEq, cellEq, E_ext, E_byref, en8, bs22, bs24, bs47, hD, h6, h8, hdl, hnn, e', g0, g3, g5, e1', f0, f3, f8, e2', rowsI_len, rows64_len, rowsT_len, rowsT_rep, ik11, show ∀ B fr H, execT E B 8 (Code.loop _) fr H = rlG E B 8 (loopAt Tryd.f8 0) (gcn B (norm [0, 3, 5, 31, 32, 33] fr) H) from fun B fr H => rl_intro rfl mt8_8 mb8_8 zf8_8 hd8_8 fr H, show ∀ B fr H, execT E B 8 (Code.loop _) fr H = rlG E B 8 (loopAt Tryd.f8 1) (gcn B (norm [0, 3, 5, 8, 9] fr) H) from fun B fr H => rl_intro rfl mt8_17 mb8_17 zf8_17 hd8_17 fr H, show ∀ B fr H, execT E B 8 (Code.loop _) fr H = rlG E B 8 (loopAt Tryd.f8 3) (gcn B (norm [0, 3, 8, 12] fr) H) from fun B fr H => rl_intro rfl mt8_25 mb8_25 zf8_25 hd8_25 fr H]
        exact ⟨_, rfl⟩
    · generalize depthsS l = ds at *
      rw [callT_eq Tryd.func8 rfl fok8 (by simp [Tryd.ntmps8])]
      simp (disch := first | omega | (simp only [List.length_append, List.length_map, List.length_set, List.length_cons, List.length_nil, List.length_take, List.length_drop, rowsI_len]; omega)) only [va0, va1, va2, va3, va4, va5, va6, va7, va8, va9, va10, va11, va12, va13, va14, va15, vb0, vb1, vb2, vb3, w_i8, w_u8, w_i16, w_u16, w_i32, w_u32, w_i64, w_u64, lt_T, lt_F, le_T, le_F, nlt_T, nlt_F, nle_T, nle_F, List.take_of_length_le, gB, gcW, gcR, posIn, renA, renL, Chunk.ren, Chunk.refs, evOpD, touchD, stepC, isFresh, nFresh, freshOf, mkR, hole, evL, evH, opd, get, putD, ofVal, cellOf, loadE, behind, lenE, idxAddrE, idxE, addPtr, intE, strE, unE, convE, AV.int, AV.bool, AV.str, ivs, take, frameOf, firstRegion, refsA, refsL, one, cellsA, floatOk, apartT, List.map, if_true, if_false, E_P, E_glob0, E_glob1, reduceCtorEq, beq_self_eq_true, decide_true, decide_false, ↓reduceIte, Nat.reduceEqDiff, cond_true, cond_false, or_true, true_or, or_false, false_or, and_true, true_and, and_self, false_and, and_false, not_true, not_false_iff, Nat.reduceAdd, Nat.reduceSub, Nat.reduceMul, Nat.reduceLT, Nat.reduceLeDiff, Int.reduceToNat, Int.reduceLT, Int.reduceLE, Option.getD, Int.reduceMul, Int.reduceAdd, List.drop, List.take, Nat.reduceBEq, List.isEmpty, Int.reduceEq, Int.reduceNe, Int.reduceNeg, Int.reduceGT, Int.reduceGE, beq_true, beq_false, UInt8.reduceToNat, eqE, eq_self, foldE, maxE, minE, eq_T, eq_F, ndec, odec, adec, sdec, fillA, over, chop, List.replicate, leavesOk, leafOk, cellsEq, cellEq, E_ext, E_byref, en8, bs22, bs24, bs47, hD, h6, h7, rowsI_len, ik11]
      exact ⟨_, rfl⟩
theorem c8 (l : List Ins) (hl : l.length ≤ 9223372036854775807) : ∃ L, callT E 8 [.i (.sl 2 (l.map fun a => insC a) false)] [] = some (.i (.v (.bool true)), L) := law8 l hl
end Go.VI

set_option linter.unusedSimpArgs false
set_option linter.unusedVariables false
namespace Go.VI
open Go.Proofs
theorem laid_tail {P : Program} {W : World} {x : String × DataW Unit} {l : List (String × DataW Unit)} (h : laidMet P (x :: l) W) : laidMet P l W := by
  obtain ⟨ps, ⟨g, t, cs, fuel, p, q, _, _, _, _, hr, rfl⟩, hnd, hrows⟩ := h
  exact ⟨q, hr, hnd.sublist (List.sublist_append_right _ _), fun b off hp => hrows b off (List.mem_append.2 (.inr hp))⟩
theorem glob_of_tabI {P : Program} {W : World} {name : String} {g : Nat} {tab : List Int} (hg : P.globalNamed name = some g) (h : Lib.TabIs P W name .i64 tab) : RelI (imm0 W) (.pt (tabT tab) 0) (.pointer (some ⟨g, 0, none⟩)) := by
  unfold Lib.TabIs World.var? at h
  rw [hg] at h
  simp only [Option.bind_some] at h
  split at h
  · rename_i cs e fz hh
    simp only [Option.some.injEq] at h
    refine .pt (tabT tab) 0 g 0 cs e fz (fun k => .int .i64 (tab.getD k 0)) hh (fun k a hk => ?_) (fun k a hk => ?_)
    · have hl : k < tab.length := by
        have := (List.getElem?_eq_some_iff.1 hk).1
        simpa [tabT] using this
      subst h
      simp [List.getD, hl]
    · have hl : k < tab.length := by
        have := (List.getElem?_eq_some_iff.1 hk).1
        simpa [tabT] using this
      simp only [tabT, List.getElem?_map, List.getElem?_eq_getElem hl, Option.map_some, Option.some.injEq] at hk
      subst hk
      simp [List.getD, hl]
      exact .v _ rfl
  · cases h
theorem globs2 {W : World} (h0 : Lib.TabIs Tryd.prog W "narrator/scriptverify.pops" .i64 popsL) (h1 : Lib.TabIs Tryd.prog W "narrator/scriptverify.pushes" .i64 pushesL) : ∀ g cells, E.glob g = some cells → RelI (imm0 W) (.pt cells 0) (.pointer (some ⟨g, 0, none⟩)) := by
  intro g cells hg
  rcases E_globI g cells hg with ⟨rfl, rfl⟩ | ⟨rfl, rfl⟩ | h'
  · exact glob_of_tabI (by kernel_rfl) h0
  · exact glob_of_tabI (by kernel_rfl) h1
  · exact h'.elim
end Go.VI

