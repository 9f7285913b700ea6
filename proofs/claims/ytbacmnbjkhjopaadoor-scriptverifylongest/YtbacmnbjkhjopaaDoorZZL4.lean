import Derived.Test.YtbacmnbjkhjopaaDoorProg
import Derived.KernelRfl
import Derived.RangeFuncNested
import Derived.RangeFuncBound
import Derived.RangeFuncCalls
import Derived.RangeFuncLeaves
import Derived.Shelf.Abstract
import Derived.Shelf.RegionOpen
import Derived.WalkKit
import Derived.OwnWalkIn
import Derived.TacticsInMore
import Derived.LoopNIn
import Derived.LoopIn
import Derived.Lib.LaidTab
import Derived.MakeChecks
import Derived.Test.YtbacmnbjkhjopaaDoorZZL3
set_option linter.unusedVariables false
set_option linter.defProp false
set_option maxRecDepth 20000
namespace Go.VI
open Go.Proofs
def keepT : List (Nat × List (Nat × List Nat)) := [
  (2, [(0, [])]),
  (3, [(0, [0]), (1, [0, 9]), (2, [2]), (3, [0, 3, 4]), (4, [0, 3, 4, 5, 6]), (5, [2])]),
  (4, [(0, [0]), (1, [0, 9]), (2, [2]), (3, [0, 3, 4]), (4, [3, 4, 5, 6]), (5, [2])]),
  (5, [(0, [0]), (1, [0, 9]), (2, [2]), (3, [0, 3, 4]), (4, [3, 4, 5, 6]), (5, [2])]),
  (6, [(0, [0, 1]), (1, [0, 1, 5, 6]), (2, [0, 1, 5, 6, 7, 8]), (3, [0, 1, 5, 7, 8, 29]), (4, [4]), (5, [0, 5, 7, 8, 9]), (6, [0, 5, 9, 48]), (7, [4]), (8, [0, 5, 9, 10]), (9, [0, 5, 10, 49, 50, 51]), (10, [0, 5, 10, 49, 50, 51, 52]), (11, [0, 5, 10, 12, 49, 50, 51]), (12, [0, 5, 10, 12, 49, 50, 51, 70]), (13, [4]), (14, [0, 5, 10, 49, 50, 51]), (15, [0, 5, 10, 49, 50, 51, 87]), (16, [4]), (17, [0, 5, 10, 49, 50, 51]), (18, [4])]),
  (7, [(0, [0]), (1, [0, 17]), (2, [2]), (3, [0, 3]), (4, [0, 3, 19, 20, 21]), (5, [0, 3, 19, 20, 21, 22]), (6, [0, 3, 5, 19, 20, 21]), (7, [0, 3, 19, 20, 21, 27]), (8, [0, 3, 19, 20, 21]), (9, [0, 3, 19, 20, 21]), (10, [0, 3, 32]), (11, [2]), (12, [0, 3, 6]), (13, [0, 3, 6, 7]), (14, [0, 3, 6, 7, 37]), (15, [0, 3, 6, 7]), (16, [0, 3, 6, 7]), (17, [6, 8, 9]), (18, [2])]),
  (8, [(0, [0]), (1, [0, 3, 4]), (2, [0, 3, 24]), (3, [2]), (4, [0, 3, 30]), (5, [2]), (6, [0, 3, 5]), (7, [0, 3, 5, 31, 32, 33]), (8, [0, 3, 5, 31, 32, 33, 34]), (9, [0, 3, 5, 7, 31, 32, 33]), (10, [0, 3, 5, 31, 32, 33, 39]), (11, [0, 3, 5, 31, 32, 33]), (12, [0, 3, 5, 31, 32, 33]), (13, [0, 3, 5, 44]), (14, [2]), (15, [0, 3, 5, 8]), (16, [0, 3, 5, 8, 9]), (17, [0, 3, 5, 8, 9, 52]), (18, [0, 3, 5, 8, 9]), (19, [0, 3, 5, 8, 9, 57, 58, 59]), (20, [0, 3, 5, 8, 9, 57, 58, 59, 60]), (21, [0, 3, 5, 8, 9, 11, 57, 58, 59]), (22, [0, 3, 5, 8, 9, 57, 58, 59]), (23, [0, 3, 5, 8, 9, 57, 58, 59]), (24, [0, 3, 8, 12]), (25, [0, 3, 8, 12, 70]), (26, [0, 3, 8, 12]), (27, [0, 3, 8, 12, 82]), (28, [2]), (29, [2])]),
  (9, [(0, [0]), (1, [0, 11]), (2, [2]), (3, [0, 3, 4]), (4, [0, 3, 4, 13, 14, 15]), (5, [0, 3, 4, 13, 14, 15, 16]), (6, [0, 3, 4, 6, 13, 14, 15]), (7, [0, 3, 4, 6, 13, 14, 15]), (8, [0, 3, 4, 13, 14, 15]), (9, [0, 3, 4, 13, 14, 15]), (10, [3, 4, 7, 8]), (11, [2])]),
  (10, [(0, [0, 1]), (1, [0, 1, 18]), (2, [4]), (3, [0, 5]), (4, [0, 5, 6, 7]), (5, [0, 5, 6, 39]), (6, [4]), (7, [5, 6, 8]), (8, [6, 8]), (9, [6, 9, 10]), (10, [4])]),
  (11, [(0, []), (1, [1]), (2, [1, 2, 3]), (3, [1, 2, 3, 4, 5]), (4, [2, 3, 4, 5, 6, 7]), (5, [2, 3, 4, 5, 6, 7, 8, 9]), (6, [0])]),
  (12, [(0, [1, 2, 3]), (1, [1, 2, 3, 4]), (2, [1, 2, 3, 4, 14]), (3, [2, 3]), (4, [1, 2, 3, 5]), (5, [1, 2, 3, 5, 21, 22]), (6, [1, 2, 3, 5, 21, 22, 23]), (7, [1, 2, 3, 5, 6, 21, 22]), (8, [1, 2, 3, 5, 21, 22]), (9, [1, 2, 3, 5, 21, 22]), (10, [1, 2, 3, 5]), (11, [1, 2, 3, 5, 31, 32, 33]), (12, [1, 2, 3, 5, 31, 32, 33, 34]), (13, [1, 2, 3, 5, 7, 8, 31, 32, 33]), (14, [1, 2, 3, 5, 7, 8, 31, 32, 33, 42]), (15, [1, 2, 3, 5, 7, 8, 9, 31, 32, 33]), (16, [1, 2, 3, 5, 7, 8, 9, 31, 32, 33, 69]), (17, [2, 3]), (18, [1, 2, 3, 5, 9, 31, 32, 33, 72]), (19, [1, 2, 3, 5, 9, 10]), (20, [2, 3, 5, 9, 10, 92]), (21, []), (22, []), (23, [1, 2, 3, 5, 31, 32, 33]), (24, [2, 3])]),
  (13, [(0, [0]), (1, [0, 4]), (2, [0, 4, 14]), (3, [2, 3]), (4, [0, 5]), (5, [0, 5, 6]), (6, [0, 5, 6, 19]), (7, [0, 5, 6]), (8, [0, 5, 6]), (9, [0, 5]), (10, [0, 5, 7]), (11, [0, 5, 7, 30]), (12, [0, 5, 7]), (13, [0, 5, 7, 37]), (14, [0, 5, 7, 8]), (15, [0, 5, 7, 8, 70]), (16, [2, 3]), (17, [0, 5, 7, 8, 9]), (18, [0, 5, 7, 8, 9, 10]), (19, [0, 5, 7, 8, 9, 10, 77]), (20, [0, 5, 7, 8, 9, 10]), (21, [0, 5, 7, 8, 9, 10, 107]), (22, [2, 3]), (23, [0, 5, 7, 8, 9, 10]), (24, [2, 3])]),
  (14, [(0, [0, 1]), (1, [0, 1, 10]), (2, [4]), (3, [0, 1, 5]), (4, [0, 1, 5, 14]), (5, [0, 1, 5]), (6, [0, 1, 5, 25]), (7, [4]), (8, [4])]),
  (15, [(0, [0]), (1, [4]), (2, [2])]),
  (16, [(0, [0, 2, 3]), (1, [0, 2, 3, 4]), (2, [0, 2, 3, 4, 11]), (3, [2, 3]), (4, [0, 2, 3, 5]), (5, [0, 2, 3, 5, 6]), (6, [0, 2, 3, 5, 6, 21]), (7, [0, 2, 3, 5, 6]), (8, [0, 2, 3, 5, 6, 29]), (9, [5, 6, 7]), (10, []), (11, [0, 2, 3, 5, 6]), (12, [0, 2, 3, 5, 49]), (13, [0, 2, 3, 5, 6]), (14, [2, 3])]),
  (17, [(0, [0]), (1, [0, 4]), (2, [0, 4, 12]), (3, [2, 3]), (4, [0, 5]), (5, [0, 5, 6]), (6, [0, 5, 6, 22]), (7, [0, 5, 6]), (8, [0, 5, 6, 7]), (9, [0, 5, 6, 7, 8]), (10, [0, 5, 6, 7, 8, 31]), (11, [0, 5, 6, 7, 8]), (12, [0, 5, 6, 7, 8]), (13, [0, 5, 6]), (14, [2, 3])]),
  (18, [(0, [0, 2, 3]), (1, [0, 2, 3, 4, 5]), (2, [0, 2, 3, 4, 5, 19]), (3, [2, 3]), (4, [0, 2, 3, 4, 6]), (5, [2, 3, 4, 6, 25, 26, 27]), (6, [2, 3, 4, 6, 25, 26, 27, 28]), (7, [2, 3, 4, 6, 7, 8, 25, 26, 27]), (8, [2, 3, 4, 6, 7, 8, 25, 26, 27, 36]), (9, [2, 3, 4, 6, 7, 8, 9, 25, 26, 27]), (10, [2, 3, 4, 6, 7, 8, 9, 25, 26, 27, 62]), (11, [2, 3]), (12, [2, 3, 4, 6, 7, 8, 9, 25, 26, 27]), (13, [2, 3, 4, 6, 9, 25, 26, 27, 73]), (14, [6, 9, 10]), (15, [6, 9, 10]), (16, [6, 10, 89, 90]), (17, [6, 10, 89, 90, 91]), (18, [6, 10, 11, 12, 89, 90]), (19, [6, 10, 89, 90]), (20, [6, 10, 89, 90]), (21, [2, 3, 4, 6, 25, 26, 27]), (22, [2, 3])]),
  (19, [(0, [0]), (1, [0, 5]), (2, [0, 5, 20]), (3, [2, 3]), (4, [0, 6]), (5, [0, 6]), (6, [0, 6, 7]), (7, [0, 6, 7, 8]), (8, [0, 6, 7, 8, 32]), (9, [0, 6, 7, 8]), (10, [0, 6, 7, 8, 9]), (11, [0, 6, 7, 8, 9, 41]), (12, [0, 6, 7, 8, 9, 10]), (13, [0, 6, 7, 8, 9, 10, 66]), (14, [0, 6, 7, 8, 9, 10]), (15, [0, 6, 7, 8, 11]), (16, [0, 6, 7, 8, 11, 12]), (17, [0, 6, 7, 8, 11, 12, 13]), (18, [0, 6, 7, 8, 11, 12, 13, 76]), (19, [0, 6, 7, 8, 11, 12, 13]), (20, [0, 6, 7, 8, 11, 12, 13]), (21, [2, 3])]),
  (20, [(0, [0, 1]), (1, [0, 1, 5]), (2, [0, 1, 5, 6]), (3, [0, 1, 5, 6, 11]), (4, [0, 1, 5, 6]), (5, [0, 1, 5, 6, 7]), (6, [0, 1, 5, 6, 7]), (7, [0, 1, 5, 6, 7, 23]), (8, [0, 1, 5, 6, 7, 23, 24]), (9, [4]), (10, [0, 1, 5, 6, 7, 23, 27]), (11, [0, 1, 5, 6]), (12, [0, 1, 5, 6, 7, 31]), (13, [0, 1, 5, 6, 7, 35]), (14, [0, 1, 5, 6]), (15, [0, 1, 5, 6]), (16, [4])]),
  (21, [(0, [0]), (1, [0, 3]), (2, [2])]),
  (22, [(0, [0]), (1, [0, 3]), (2, [2])]),
  (23, [(0, [0]), (1, [0, 9]), (2, [2]), (3, [0, 10, 11, 12]), (4, [0, 10, 11, 12, 13]), (5, [0, 3, 4, 10, 11, 12]), (6, [0, 3, 4, 10, 11, 12, 26]), (7, [2]), (8, [0, 4, 5, 6, 10, 11, 12]), (9, [0, 10, 11, 12, 45]), (10, [2]), (11, [0, 10, 11, 12]), (12, [2])]),
  (24, [(0, [2, 3]), (1, [4])]),
  (25, [(0, [0]), (1, [0, 9]), (2, [2]), (3, [0, 3]), (4, [0, 3, 13]), (5, [0, 3]), (6, [0, 3, 4]), (7, [0, 3, 4, 27]), (8, [2]), (9, [0, 3, 4, 5, 6]), (10, [0, 3, 4, 5, 6, 30]), (11, [0, 3, 4, 5]), (12, [0, 3, 4, 5, 6]), (13, [0, 3, 4, 5, 6, 33]), (14, [0, 3, 4, 5]), (15, [0, 3, 4, 5, 6]), (16, [0, 3, 47]), (17, [2]), (18, [2])]),
  (26, [(0, [0, 1]), (1, [0, 1, 9]), (2, [0, 1, 9, 10]), (3, [4]), (4, [0, 1, 9, 12]), (5, [4]), (6, [0, 1, 20]), (7, [4]), (8, [4])]),
  (27, [(0, [1, 2, 3, 6]), (1, [1, 2, 3, 6, 7]), (2, [1, 2, 3, 6, 7, 11]), (3, [1, 2, 3, 6]), (4, [1, 2, 3, 6, 7, 25]), (5, [1, 2, 3, 6]), (6, [1, 2, 3, 6, 7, 47]), (7, [1, 2, 3, 6]), (8, [1, 2, 3, 6, 7, 57]), (9, [1, 2, 3, 6]), (10, [1, 2, 3, 6, 7, 76]), (11, [1, 2, 3, 6]), (12, [1, 2, 3, 6, 88]), (13, [1, 2, 3, 6]), (14, [3, 6, 8]), (15, [3, 6, 8, 110]), (16, [3, 6, 8]), (17, [3, 6, 8]), (18, [6])]),
  (28, [(0, [1, 2, 4]), (1, [1, 2, 4, 5]), (2, [1, 2, 4, 5, 6]), (3, [1, 2, 4, 5, 6]), (4, [2, 4, 5, 6, 24]), (5, [2, 4, 5, 6, 24, 25]), (6, [2, 4, 5, 6, 24, 25]), (7, [2, 4, 5, 6, 24, 25]), (8, [4, 6]), (9, [2, 4, 5, 6, 24, 34]), (10, [2, 4, 5, 6, 24, 34]), (11, [2, 4, 5, 6, 24, 34]), (12, [2, 4, 5, 6, 24, 34]), (13, [2, 4, 5, 6, 24, 34]), (14, [4, 6]), (15, [2, 4, 5, 6, 24, 59]), (16, [4, 6]), (17, [2, 4, 5, 6, 24, 72]), (18, [4, 6]), (19, [2, 4, 5, 6, 24, 91]), (20, [4, 6]), (21, [2, 4, 5, 6, 24, 110]), (22, [4, 6]), (23, [4, 6, 24, 123]), (24, [4, 6, 24, 123]), (25, [4, 6, 24, 123]), (26, [4, 6, 123]), (27, [4, 6]), (28, [4])]),
  (29, [(0, [2, 3, 4]), (1, [2, 3, 4, 9]), (2, [4]), (3, [2, 3, 4, 5]), (4, [2, 3, 4, 5, 6]), (5, [2, 3, 4, 5, 6, 35]), (6, [2, 3, 4, 5, 6]), (7, [2, 3, 4, 5, 6]), (8, [4])]),
  (30, [(0, []), (1, [0])]),
  (31, [(0, [0, 1, 2]), (1, [1, 2, 8]), (2, [1, 2, 8, 9]), (3, [1, 2, 8, 11]), (4, [1, 2, 13]), (5, [6, 7]), (6, [6, 7]), (7, [6, 7])]),
  (32, [(0, [0, 1, 18]), (1, [0, 1, 26]), (2, [])]),
  (33, [(0, [0]), (1, [2])]),
  (54, [(0, []), (1, [])])]
def headT : List (Nat × List (Nat × List Nat)) := [
  (6, [(10, [0, 5, 10, 49, 50, 51])]),
  (7, [(5, [0, 3, 19, 20, 21]), (14, [0, 3, 6, 7])]),
  (8, [(8, [0, 3, 5, 31, 32, 33]), (17, [0, 3, 5, 8, 9]), (20, [0, 3, 5, 8, 9, 57, 58, 59]), (25, [0, 3, 8, 12])]),
  (9, [(5, [0, 3, 4, 13, 14, 15])]),
  (12, [(6, [1, 2, 3, 5, 21, 22]), (12, [1, 2, 3, 5, 31, 32, 33])]),
  (13, [(6, [0, 5, 6]), (11, [0, 5, 7]), (19, [0, 5, 7, 8, 9, 10])]),
  (14, [(4, [0, 1, 5])]),
  (16, [(6, [0, 2, 3, 5, 6])]),
  (17, [(6, [0, 5, 6]), (10, [0, 5, 6, 7, 8])]),
  (18, [(6, [2, 3, 4, 6, 25, 26, 27]), (17, [6, 10, 89, 90])]),
  (19, [(8, [0, 6, 7, 8]), (18, [0, 6, 7, 8, 11, 12, 13])]),
  (20, [(3, [0, 1, 5, 6])]),
  (23, [(4, [0, 10, 11, 12])]),
  (25, [(4, [0, 3])]),
  (27, [(15, [3, 6, 8])]),
  (29, [(5, [2, 3, 4, 5, 6])])]
def lk2 (t : List (Nat × List (Nat × List Nat))) (f i : Nat) : List Nat := match t.lookup f with | some l => (l.lookup i).getD [] | none => []
def floT : List (Nat × List (Nat × List (Nat × Nat))) := [
  (6, [(14, [(6, 9), (6, 11)])]),
  (8, [(27, [])]),
  (12, [(15, [(0, 14), (2, 14), (3, 14), (5, 14), (6, 14), (7, 14), (10, 14), (11, 14), (12, 14)]), (16, []), (20, [])]),
  (13, [(14, [(2, 9), (3, 9), (9, 13), (9, 15), (2, 16), (3, 16)]), (15, [(2, 9), (3, 9)])]),
  (14, [(6, [])]),
  (16, [(8, []), (10, [])]),
  (17, [(12, [])]),
  (18, [(12, []), (15, []), (19, [])]),
  (19, [(20, [(3, 13), (4, 13)])]),
  (23, [(6, [(5, 6)])]),
  (27, [(9, []), (14, [])]),
  (28, [(3, [(1, 6), (3, 6)]), (14, [(1, 16)]), (16, [(1, 8)]), (18, [(1, 14)]), (20, [(1, 14)])]),
  (29, [(2, [(1, 2), (2, 4), (1, 5)]), (7, [(1, 14)])])]
def lkF (t : List (Nat × List (Nat × List (Nat × Nat)))) (f i : Nat) : List (Nat × Nat) := match t.lookup f with | some l => (l.lookup i).getD [] | none => []
def matT : List (Nat × List (Nat × List (Nat × Nat))) := [(13, [(6, [(5, 1)]), (11, [(5, 1)]), (19, [(5, 1)])]), (20, [(3, [(5, 1)])])]
def matbT : List (Nat × List (Nat × List (Nat × Nat × Nat))) := []
def frzT : List (Nat × List (Nat × List (Nat × Nat))) := []
def lkG {α : Type} (t : List (Nat × List (Nat × List α))) (f i : Nat) : List α := match t.lookup f with | some l => (l.lookup i).getD [] | none => []
def kindT : List (Nat × List (Option Nat)) := [(22, [some 2]), (24, [some 1]), (47, [some 1]), (55, [some 17]), (60, [some 3]), (61, [none, none, some 1]), (62, [none, none, some 1]), (65, [some 1])]
def argkT : List (Nat × List (List (Option Nat))) := [(3, [[some 2]]), (4, [[some 2]]), (5, [[some 2]]), (6, [[some 2]]), (7, [[some 2]]), (8, [[some 2]]), (9, [[some 2]]), (10, [[some 2]]), (12, [[some 2]]), (13, [[some 2]]), (14, [[some 1], [some 1]]), (15, [[some 2]]), (16, [[some 2]]), (17, [[some 2]]), (18, [[some 2]]), (19, [[some 2]]), (20, [[some 2]]), (23, [[some 2]]), (25, [[some 2]]), (26, [[some 2]]), (28, [[none, none, some 1]]), (29, [[none, none, some 1], [none, none, some 1]])]
def reskT : List (Nat × List (List (Option Nat))) := [(12, [[some 1]]), (13, [[some 1]]), (20, [[some 1]]), (26, [[some 1]]), (28, [[none, none, some 1]]), (29, [[none, none, some 1]]), (30, [[some 1]])]
noncomputable def E : Env := { P := Tryd.prog, keep := lk2 keepT, head := lk2 headT, flo := lkF floT, hol := fun f i => false, glob := fun g => if g = 0 then some popsT else if g = 1 then some pushesT else none, byref := fun f => false, seq := fun f => if f = 32 then some seqSucc else none, ext := fun f =>  none, kinds := fun t => (kindT.lookup t).getD [], argk := fun f => (argkT.lookup f).getD [], resk := fun f => (reskT.lookup f).getD [], own := fun f => false, mat := lkG matT, matb := lkG matbT, frz := lkG frzT }
theorem E_P : E.P = Tryd.prog := rfl
theorem sq32 : E.seq 32 = some seqSucc := rfl
theorem E_seqI (f : Nat) (h : List (List Int) → Option (List Int)) (hf : E.seq f = some h) : (f = 32 ∧ h = seqSucc) ∨ False := by
  have h2 : (if f = 32 then some seqSucc else none) = some h := hf
  (repeat (split at h2)) <;> simp_all
theorem E_globI (g : Nat) (cells : List IV) (h : E.glob g = some cells) : (g = 0 ∧ cells = popsT) ∨ (g = 1 ∧ cells = pushesT) ∨ False := by
  have h2 : (if g = 0 then some popsT else if g = 1 then some pushesT else none) = some cells := h
  (repeat (split at h2)) <;> simp_all
theorem E_glob0 : E.glob 0 = some popsT := rfl
theorem E_glob1 : E.glob 1 = some pushesT := rfl
theorem E_ext (f : Nat) : E.ext f = none := rfl
theorem E_byref (f : Nat) : E.byref f = false := rfl
theorem agg22 : aggO Tryd.prog 22 = some false := by kernel_rfl
theorem agg24 : aggO Tryd.prog 24 = some false := by kernel_rfl
theorem agg3 : aggO Tryd.prog 3 = some false := by kernel_rfl
theorem agg41 : aggO Tryd.prog 41 = some false := by kernel_rfl
theorem agg45 : aggO Tryd.prog 45 = some true := by kernel_rfl
theorem agg65 : aggO Tryd.prog 65 = some false := by kernel_rfl
theorem agg9 : aggO Tryd.prog 9 = some false := by kernel_rfl
theorem arr22 : arrO Tryd.prog 22 = none := by kernel_rfl
theorem arr24 : arrO Tryd.prog 24 = none := by kernel_rfl
theorem arrz45 : arrO Tryd.prog 45 = none := by kernel_rfl
theorem fld45_0 : fldO Tryd.prog 45 0 = some (0, 3) := by kernel_rfl
theorem fld45_1 : fldO Tryd.prog 45 1 = some (1, 3) := by kernel_rfl
theorem kind22 : kindO Tryd.prog 22 = none := by kernel_rfl
theorem kind24 : kindO Tryd.prog 24 = none := by kernel_rfl
theorem kind3 : kindO Tryd.prog 3 = some .i64 := by kernel_rfl
theorem kind41 : kindO Tryd.prog 41 = some .u32 := by kernel_rfl
theorem kind45 : kindO Tryd.prog 45 = none := by kernel_rfl
theorem kind65 : kindO Tryd.prog 65 = none := by kernel_rfl
theorem kind9 : kindO Tryd.prog 9 = none := by kernel_rfl
theorem pl45 : placesO Tryd.prog 45 = some [(0, 1), (1, 1)] := by kernel_rfl
theorem sl22 : slO Tryd.prog 22 = some 45 := by kernel_rfl
theorem sl24 : slO Tryd.prog 24 = some 3 := by kernel_rfl
theorem sl3 : slO Tryd.prog 3 = none := by kernel_rfl
theorem sl41 : slO Tryd.prog 41 = none := by kernel_rfl
theorem sl45 : slO Tryd.prog 45 = none := by kernel_rfl
theorem sl65 : slO Tryd.prog 65 = some 9 := by kernel_rfl
theorem str22 : isStrO Tryd.prog 22 = false := by kernel_rfl
theorem str24 : isStrO Tryd.prog 24 = false := by kernel_rfl
theorem str3 : isStrO Tryd.prog 3 = false := by kernel_rfl
theorem str41 : isStrO Tryd.prog 41 = false := by kernel_rfl
theorem str45 : isStrO Tryd.prog 45 = false := by kernel_rfl
theorem str65 : isStrO Tryd.prog 65 = false := by kernel_rfl
theorem sz24 : szO Tryd.prog 24 = some 1 := by kernel_rfl
theorem sz3 : szO Tryd.prog 3 = some 1 := by kernel_rfl
theorem sz45 : szO Tryd.prog 45 = some 2 := by kernel_rfl
theorem sz9 : szO Tryd.prog 9 = some 1 := by kernel_rfl
theorem zero24 : zeroO Tryd.prog 24 = some (.i (.sl 0 [] true)) := by kernel_rfl
theorem zero3 : zeroO Tryd.prog 3 = some (.i (.v (.int .i64 0))) := by kernel_rfl
theorem zero45 : zeroO Tryd.prog 45 = some (.agg [.i (.v (.int .i64 0)), .i (.v (.int .i64 0))]) := by kernel_rfl
theorem zero9 : zeroO Tryd.prog 9 = some (.i (.str [])) := by kernel_rfl
theorem fok7 : fnOk E 7 = true := by kernel_rfl
theorem ent7 : enterOk E 7 = true := by kernel_rfl
theorem ent11 : enterOk E 11 = true := by kernel_rfl
theorem fok16 : fnOk E 16 = true := by kernel_rfl
theorem ent16 : enterOk E 16 = true := by kernel_rfl
theorem fok20 : fnOk E 20 = true := by kernel_rfl
theorem ent20 : enterOk E 20 = true := by kernel_rfl
theorem fok23 : fnOk E 23 = true := by kernel_rfl
theorem ent23 : enterOk E 23 = true := by kernel_rfl
theorem fok24 : fnOk E 24 = true := by kernel_rfl
theorem ent24 : enterOk E 24 = true := by kernel_rfl
theorem ent30 : enterOk E 30 = true := by kernel_rfl
theorem fok31 : fnOk E 31 = true := by kernel_rfl
theorem ent31 : enterOk E 31 = true := by kernel_rfl
theorem ent32 : enterOk E 32 = true := by kernel_rfl
theorem res7 : Tryd.f7.results = #[.tmp 2] := rfl
theorem res16 : Tryd.f16.results = #[.tmp 2, .tmp 3] := rfl
theorem res20 : Tryd.f20.results = #[.tmp 4] := rfl
theorem res23 : Tryd.f23.results = #[.tmp 2] := rfl
theorem res24 : Tryd.f24.results = #[.tmp 4] := rfl
theorem res31 : Tryd.f31.results = #[.tmp 6, .tmp 7] := rfl
theorem kp7_0 : E.keep 7 0 = [0] := by kernel_rfl
theorem kp7_1 : E.keep 7 1 = [0, 17] := by kernel_rfl
theorem kp7_2 : E.keep 7 2 = [2] := by kernel_rfl
theorem kp7_3 : E.keep 7 3 = [0, 3] := by kernel_rfl
theorem kp7_4 : E.keep 7 4 = [0, 3, 19, 20, 21] := by kernel_rfl
theorem kp7_5 : E.keep 7 5 = [0, 3, 19, 20, 21, 22] := by kernel_rfl
theorem kp7_6 : E.keep 7 6 = [0, 3, 5, 19, 20, 21] := by kernel_rfl
theorem kp7_7 : E.keep 7 7 = [0, 3, 19, 20, 21, 27] := by kernel_rfl
theorem kp7_8 : E.keep 7 8 = [0, 3, 19, 20, 21] := by kernel_rfl
theorem kp7_9 : E.keep 7 9 = [0, 3, 19, 20, 21] := by kernel_rfl
theorem kp7_10 : E.keep 7 10 = [0, 3, 32] := by kernel_rfl
theorem kp7_11 : E.keep 7 11 = [2] := by kernel_rfl
theorem kp7_12 : E.keep 7 12 = [0, 3, 6] := by kernel_rfl
theorem kp7_13 : E.keep 7 13 = [0, 3, 6, 7] := by kernel_rfl
theorem kp7_14 : E.keep 7 14 = [0, 3, 6, 7, 37] := by kernel_rfl
theorem kp7_15 : E.keep 7 15 = [0, 3, 6, 7] := by kernel_rfl
theorem kp7_16 : E.keep 7 16 = [0, 3, 6, 7] := by kernel_rfl
theorem kp7_17 : E.keep 7 17 = [6, 8, 9] := by kernel_rfl
theorem kp7_18 : E.keep 7 18 = [2] := by kernel_rfl
theorem kp16_0 : E.keep 16 0 = [0, 2, 3] := by kernel_rfl
theorem kp16_1 : E.keep 16 1 = [0, 2, 3, 4] := by kernel_rfl
theorem kp16_2 : E.keep 16 2 = [0, 2, 3, 4, 11] := by kernel_rfl
theorem kp16_3 : E.keep 16 3 = [2, 3] := by kernel_rfl
theorem kp16_4 : E.keep 16 4 = [0, 2, 3, 5] := by kernel_rfl
theorem kp16_5 : E.keep 16 5 = [0, 2, 3, 5, 6] := by kernel_rfl
theorem kp16_6 : E.keep 16 6 = [0, 2, 3, 5, 6, 21] := by kernel_rfl
theorem kp16_7 : E.keep 16 7 = [0, 2, 3, 5, 6] := by kernel_rfl
theorem kp16_8 : E.keep 16 8 = [0, 2, 3, 5, 6, 29] := by kernel_rfl
theorem kp16_9 : E.keep 16 9 = [5, 6, 7] := by kernel_rfl
theorem kp16_10 : E.keep 16 10 = [] := by kernel_rfl
theorem kp16_11 : E.keep 16 11 = [0, 2, 3, 5, 6] := by kernel_rfl
theorem kp16_12 : E.keep 16 12 = [0, 2, 3, 5, 49] := by kernel_rfl
theorem kp16_13 : E.keep 16 13 = [0, 2, 3, 5, 6] := by kernel_rfl
theorem kp16_14 : E.keep 16 14 = [2, 3] := by kernel_rfl
theorem kp20_0 : E.keep 20 0 = [0, 1] := by kernel_rfl
theorem kp20_1 : E.keep 20 1 = [0, 1, 5] := by kernel_rfl
theorem kp20_2 : E.keep 20 2 = [0, 1, 5, 6] := by kernel_rfl
theorem kp20_3 : E.keep 20 3 = [0, 1, 5, 6, 11] := by kernel_rfl
theorem kp20_4 : E.keep 20 4 = [0, 1, 5, 6] := by kernel_rfl
theorem kp20_5 : E.keep 20 5 = [0, 1, 5, 6, 7] := by kernel_rfl
theorem kp20_6 : E.keep 20 6 = [0, 1, 5, 6, 7] := by kernel_rfl
theorem kp20_7 : E.keep 20 7 = [0, 1, 5, 6, 7, 23] := by kernel_rfl
theorem kp20_8 : E.keep 20 8 = [0, 1, 5, 6, 7, 23, 24] := by kernel_rfl
theorem kp20_9 : E.keep 20 9 = [4] := by kernel_rfl
theorem kp20_10 : E.keep 20 10 = [0, 1, 5, 6, 7, 23, 27] := by kernel_rfl
theorem kp20_11 : E.keep 20 11 = [0, 1, 5, 6] := by kernel_rfl
theorem kp20_12 : E.keep 20 12 = [0, 1, 5, 6, 7, 31] := by kernel_rfl
theorem kp20_13 : E.keep 20 13 = [0, 1, 5, 6, 7, 35] := by kernel_rfl
theorem kp20_14 : E.keep 20 14 = [0, 1, 5, 6] := by kernel_rfl
theorem kp20_15 : E.keep 20 15 = [0, 1, 5, 6] := by kernel_rfl
theorem kp20_16 : E.keep 20 16 = [4] := by kernel_rfl
theorem kp23_0 : E.keep 23 0 = [0] := by kernel_rfl
theorem kp23_1 : E.keep 23 1 = [0, 9] := by kernel_rfl
theorem kp23_2 : E.keep 23 2 = [2] := by kernel_rfl
theorem kp23_3 : E.keep 23 3 = [0, 10, 11, 12] := by kernel_rfl
theorem kp23_4 : E.keep 23 4 = [0, 10, 11, 12, 13] := by kernel_rfl
theorem kp23_5 : E.keep 23 5 = [0, 3, 4, 10, 11, 12] := by kernel_rfl
theorem kp23_6 : E.keep 23 6 = [0, 3, 4, 10, 11, 12, 26] := by kernel_rfl
theorem kp23_7 : E.keep 23 7 = [2] := by kernel_rfl
theorem kp23_8 : E.keep 23 8 = [0, 4, 5, 6, 10, 11, 12] := by kernel_rfl
theorem kp23_9 : E.keep 23 9 = [0, 10, 11, 12, 45] := by kernel_rfl
theorem kp23_10 : E.keep 23 10 = [2] := by kernel_rfl
theorem kp23_11 : E.keep 23 11 = [0, 10, 11, 12] := by kernel_rfl
theorem kp23_12 : E.keep 23 12 = [2] := by kernel_rfl
theorem kp24_0 : E.keep 24 0 = [2, 3] := by kernel_rfl
theorem kp24_1 : E.keep 24 1 = [4] := by kernel_rfl
theorem kp31_0 : E.keep 31 0 = [0, 1, 2] := by kernel_rfl
theorem kp31_1 : E.keep 31 1 = [1, 2, 8] := by kernel_rfl
theorem kp31_2 : E.keep 31 2 = [1, 2, 8, 9] := by kernel_rfl
theorem kp31_3 : E.keep 31 3 = [1, 2, 8, 11] := by kernel_rfl
theorem kp31_4 : E.keep 31 4 = [1, 2, 13] := by kernel_rfl
theorem kp31_5 : E.keep 31 5 = [6, 7] := by kernel_rfl
theorem kp31_6 : E.keep 31 6 = [6, 7] := by kernel_rfl
theorem kp31_7 : E.keep 31 7 = [6, 7] := by kernel_rfl
theorem hd7_5 : E.head 7 5 = [0, 3, 19, 20, 21] := by kernel_rfl
theorem hd7_14 : E.head 7 14 = [0, 3, 6, 7] := by kernel_rfl
theorem hd16_6 : E.head 16 6 = [0, 2, 3, 5, 6] := by kernel_rfl
theorem hd20_3 : E.head 20 3 = [0, 1, 5, 6] := by kernel_rfl
theorem hd23_4 : E.head 23 4 = [0, 10, 11, 12] := by kernel_rfl
theorem fl16_8 : E.flo 16 8 = [] := by kernel_rfl
theorem ho16_8 : E.hol 16 8 = false := by kernel_rfl
theorem dr16_8 (B : Nat) (fr : Fr) (H : Hp) (ops : Array Oper) : execT E B 16 (.region 8 ops true) fr H = regK E 16 8 (evOps E (callT E) ops.toList ops.toList fr H) := execT_draw0 ho16_8 fl16_8 ops
theorem fl16_10 : E.flo 16 10 = [] := by kernel_rfl
theorem ho16_10 : E.hol 16 10 = false := by kernel_rfl
theorem dr16_10 (B : Nat) (fr : Fr) (H : Hp) (ops : Array Oper) : execT E B 16 (.region 10 ops true) fr H = regK E 16 10 (evOps E (callT E) ops.toList ops.toList fr H) := execT_draw0 ho16_10 fl16_10 ops
theorem fl23_6 : E.flo 23 6 = [(5, 6)] := by kernel_rfl
theorem ho23_6 : E.hol 23 6 = false := by kernel_rfl
theorem dr23_6 (B : Nat) (fr : Fr) (H : Hp) (ops : Array Oper) : execT E B 23 (.region 6 ops true) fr H = regTK E 23 6 (evT E (callT E) ops.toList ops.toList fr H) := execT_draw ho23_6 ops
theorem mt7_5 : E.mat 7 5 = [] := by kernel_rfl
theorem mb7_5 : E.matb 7 5 = [] := by kernel_rfl
theorem zf7_5 : E.frz 7 5 = [] := by kernel_rfl
theorem mt7_14 : E.mat 7 14 = [] := by kernel_rfl
theorem mb7_14 : E.matb 7 14 = [] := by kernel_rfl
theorem zf7_14 : E.frz 7 14 = [] := by kernel_rfl
theorem mt16_6 : E.mat 16 6 = [] := by kernel_rfl
theorem mb16_6 : E.matb 16 6 = [] := by kernel_rfl
theorem zf16_6 : E.frz 16 6 = [] := by kernel_rfl
theorem mt20_3 : E.mat 20 3 = [(5, 1)] := by kernel_rfl
theorem mb20_3 : E.matb 20 3 = [] := by kernel_rfl
theorem zf20_3 : E.frz 20 3 = [] := by kernel_rfl
theorem mt23_4 : E.mat 23 4 = [] := by kernel_rfl
theorem mb23_4 : E.matb 23 4 = [] := by kernel_rfl
theorem zf23_4 : E.frz 23 4 = [] := by kernel_rfl
theorem rk7 : E.resk 7 = [] := by kernel_rfl
theorem ow7 : E.own 7 = false := by kernel_rfl
theorem ak11 : E.argk 11 = [] := by kernel_rfl
theorem pe11 (args : List AV) (H : Hp) : prepE E 11 H args = peP E 11 (prep H args) := prepE_v rfl args
theorem cr11 (args : List AV) (H : Hp) : calleeR E 11 args H = crK args (peP E 11 (prep H args)) := (cr_prep args).trans (by rw [pe11])
theorem ci11 (args : List AV) (H : Hp) : callIso E (callT E) 11 args H = prepK E (callT E) 11 (peP E 11 (prep H args)) := (iso_prep args).trans (by rw [pe11])
theorem ak16 : E.argk 16 = [[some 2]] := by kernel_rfl
theorem rk16 : E.resk 16 = [] := by kernel_rfl
theorem ow16 : E.own 16 = false := by kernel_rfl
theorem pe16 (args : List AV) (H : Hp) : prepE E 16 H args = peP E 16 (prep H args) := prepE_v rfl args
theorem cr16 (args : List AV) (H : Hp) : calleeR E 16 args H = crK args (peP E 16 (prep H args)) := (cr_prep args).trans (by rw [pe16])
theorem ci16 (args : List AV) (H : Hp) : callIso E (callT E) 16 args H = prepK E (callT E) 16 (peP E 16 (prep H args)) := (iso_prep args).trans (by rw [pe16])
theorem ak20 : E.argk 20 = [[some 2]] := by kernel_rfl
theorem rk20 : E.resk 20 = [[some 1]] := by kernel_rfl
theorem ow20 : E.own 20 = false := by kernel_rfl
theorem pe20 (args : List AV) (H : Hp) : prepE E 20 H args = peP E 20 (prep H args) := prepE_v rfl args
theorem cr20 (args : List AV) (H : Hp) : calleeR E 20 args H = crK args (peP E 20 (prep H args)) := (cr_prep args).trans (by rw [pe20])
theorem ci20 (args : List AV) (H : Hp) : callIso E (callT E) 20 args H = prepK E (callT E) 20 (peP E 20 (prep H args)) := (iso_prep args).trans (by rw [pe20])
theorem ak23 : E.argk 23 = [[some 2]] := by kernel_rfl
theorem rk23 : E.resk 23 = [] := by kernel_rfl
theorem ow23 : E.own 23 = false := by kernel_rfl
theorem pe23 (args : List AV) (H : Hp) : prepE E 23 H args = peP E 23 (prep H args) := prepE_v rfl args
theorem cr23 (args : List AV) (H : Hp) : calleeR E 23 args H = crK args (peP E 23 (prep H args)) := (cr_prep args).trans (by rw [pe23])
theorem ci23 (args : List AV) (H : Hp) : callIso E (callT E) 23 args H = prepK E (callT E) 23 (peP E 23 (prep H args)) := (iso_prep args).trans (by rw [pe23])
theorem ak24 : E.argk 24 = [] := by kernel_rfl
theorem rk24 : E.resk 24 = [] := by kernel_rfl
theorem ow24 : E.own 24 = false := by kernel_rfl
theorem pe24 (args : List AV) (H : Hp) : prepE E 24 H args = peP E 24 (prep H args) := prepE_v rfl args
theorem cr24 (args : List AV) (H : Hp) : calleeR E 24 args H = crK args (peP E 24 (prep H args)) := (cr_prep args).trans (by rw [pe24])
theorem ci24 (args : List AV) (H : Hp) : callIso E (callT E) 24 args H = prepK E (callT E) 24 (peP E 24 (prep H args)) := (iso_prep args).trans (by rw [pe24])
theorem ak30 : E.argk 30 = [] := by kernel_rfl
theorem pe30 (args : List AV) (H : Hp) : prepE E 30 H args = peP E 30 (prep H args) := prepE_v rfl args
theorem cr30 (args : List AV) (H : Hp) : calleeR E 30 args H = crK args (peP E 30 (prep H args)) := (cr_prep args).trans (by rw [pe30])
theorem ci30 (args : List AV) (H : Hp) : callIso E (callT E) 30 args H = prepK E (callT E) 30 (peP E 30 (prep H args)) := (iso_prep args).trans (by rw [pe30])
theorem ak31 : E.argk 31 = [] := by kernel_rfl
theorem rk31 : E.resk 31 = [] := by kernel_rfl
theorem ow31 : E.own 31 = false := by kernel_rfl
theorem pe31 (args : List AV) (H : Hp) : prepE E 31 H args = peP E 31 (prep H args) := prepE_v rfl args
theorem cr31 (args : List AV) (H : Hp) : calleeR E 31 args H = crK args (peP E 31 (prep H args)) := (cr_prep args).trans (by rw [pe31])
theorem ci31 (args : List AV) (H : Hp) : callIso E (callT E) 31 args H = prepK E (callT E) 31 (peP E 31 (prep H args)) := (iso_prep args).trans (by rw [pe31])
theorem ak32 : E.argk 32 = [] := by kernel_rfl
theorem pe32 (args : List AV) (H : Hp) : prepE E 32 H args = peP E 32 (prep H args) := prepE_v rfl args
theorem cr32 (args : List AV) (H : Hp) : calleeR E 32 args H = crK args (peP E 32 (prep H args)) := (cr_prep args).trans (by rw [pe32])
theorem ci32 (args : List AV) (H : Hp) : callIso E (callT E) 32 args H = prepK E (callT E) 32 (peP E 32 (prep H args)) := (iso_prep args).trans (by rw [pe32])
theorem bd45 (parts : List (Nat × AV)) : buildE E 45 parts = aggK (fillS [(0, 1), (1, 1)] [.i (.v (.int .i64 0)), .i (.v (.int .i64 0))] parts) := bd_struct (by kernel_rfl) (by kernel_rfl) (by kernel_rfl) parts
theorem cv48_3 (cl : CallF) (fr : Fr) (H : Hp) (x : Operand) : evOp E cl (.convert 48 3 x) fr H = pK H (convE E 48 3 (opd E fr x)) := op_convert _ _ _ (by kernel_rfl) (by kernel_rfl)
theorem sx24 (H : Hp) (x : AV) (lo hi : Option AV) : sliceE E H 24 x lo hi none = slN 1 H lo hi x := sl_sl (e := 3) (z := 1) (by kernel_rfl) (by kernel_rfl) (by kernel_rfl) x lo hi
theorem sw24 (H : Hp) (sz : Nat) (rows : List (List IV)) (ex : Bool) (k k' : IntKind) (h m : Int) : sliceE E H 24 (.i (.sl sz rows ex)) none (some (.i (.v (.int k h)))) (some (.i (.v (.int k' m)))) = if 0 ≤ h ∧ h = m ∧ h ≤ rows.length ∧ (rows = [] ∨ 1 = sz) then some (.i (.sl sz (rows.take h.toNat) true)) else none := sl_sl3 (e := 3) (by kernel_rfl) (by kernel_rfl) sz rows ex k k' h m
theorem ap22_22 (H : Hp) (s x : AV) : appendE E H 22 22 s x = apS 2 H s (srcE H x) := ap_eq (by kernel_rfl) H s x
theorem ap24_24 (H : Hp) (s x : AV) : appendE E H 24 24 s x = apS 1 H s (srcE H x) := ap_eq (by kernel_rfl) H s x
theorem bs22 (H : Hp) (n : Nat) (hn : n * 2 ≤ 16777216) (parts : List (Nat × AV)) : buildSliceE E H 22 n parts = bsF [] 2 n H (fillA 2 (List.replicate n [.i (.v (.int .i64 0)), .i (.v (.int .i64 0))]).flatten parts) := bs_eq (by kernel_rfl) H n hn parts
theorem br22 (n : Nat) (parts : List (Nat × AV)) : buildRefs E 22 n parts = brK (fillA 2 (List.replicate n [.i (.v (.int .i64 0)), .i (.v (.int .i64 0))]).flatten parts) := br_eq (ks := []) (by kernel_rfl) n parts
theorem ms22 (H : Hp) (k k' : IntKind) (n m : Int) : makeSliceE E H 22 (.i (.v (.int k n))) (.i (.v (.int k' m))) = if 0 ≤ n ∧ n = m ∧ n < 1073741824 then some (.ref H.length 0 0 n.toNat, H ++ [.sl 2 0 (List.replicate n.toNat [.v (.int .i64 0), .v (.int .i64 0)]) true]) else none := ms_eq (by kernel_rfl) H k k' n m
theorem bs24 (H : Hp) (n : Nat) (hn : n * 1 ≤ 16777216) (parts : List (Nat × AV)) : buildSliceE E H 24 n parts = bsF [] 1 n H (fillA 1 (List.replicate n [.i (.v (.int .i64 0))]).flatten parts) := bs_eq (by kernel_rfl) H n hn parts
theorem br24 (n : Nat) (parts : List (Nat × AV)) : buildRefs E 24 n parts = brK (fillA 1 (List.replicate n [.i (.v (.int .i64 0))]).flatten parts) := br_eq (ks := []) (by kernel_rfl) n parts
theorem ms24 (H : Hp) (k k' : IntKind) (n m : Int) : makeSliceE E H 24 (.i (.v (.int k n))) (.i (.v (.int k' m))) = if 0 ≤ n ∧ n = m ∧ n < 1073741824 then some (.ref H.length 0 0 n.toNat, H ++ [.sl 1 0 (List.replicate n.toNat [.v (.int .i64 0)]) true]) else none := ms_eq (by kernel_rfl) H k k' n m
theorem bs65 (H : Hp) (n : Nat) (hn : n * 1 ≤ 16777216) (parts : List (Nat × AV)) : buildSliceE E H 65 n parts = bsF [] 1 n H (fillA 1 (List.replicate n [.i (.str [])]).flatten parts) := bs_eq (by kernel_rfl) H n hn parts
theorem br65 (n : Nat) (parts : List (Nat × AV)) : buildRefs E 65 n parts = brK (fillA 1 (List.replicate n [.i (.str [])]).flatten parts) := br_eq (ks := []) (by kernel_rfl) n parts
theorem ms65 (H : Hp) (k k' : IntKind) (n m : Int) : makeSliceE E H 65 (.i (.v (.int k n))) (.i (.v (.int k' m))) = if 0 ≤ n ∧ n = m ∧ n < 1073741824 then some (.ref H.length 0 0 n.toNat, H ++ [.sl 1 0 (List.replicate n.toNat [.str []]) true]) else none := ms_eq (by kernel_rfl) H k k' n m
theorem st24 (H : Hp) (c g r k : Nat) (v : AV) : storeE E H 24 (.ptr c g r k) v = if (cellsA v).length = 1 ∧ (cellsA v).all one = true then stC [some 1] 1 H c g r k (cellsA v) H[c]? else none := st_eq sz24 H c g r k v
theorem st3 (H : Hp) (c g r k : Nat) (v : AV) : storeE E H 3 (.ptr c g r k) v = if (cellsA v).length = 1 ∧ (cellsA v).all one = true then stC [] 1 H c g r k (cellsA v) H[c]? else none := st_eq sz3 H c g r k v
theorem st45 (H : Hp) (c g r k : Nat) (v : AV) : storeE E H 45 (.ptr c g r k) v = if (cellsA v).length = 2 ∧ (cellsA v).all one = true then stC [] 2 H c g r k (cellsA v) H[c]? else none := st_eq sz45 H c g r k v
theorem st9 (H : Hp) (c g r k : Nat) (v : AV) : storeE E H 9 (.ptr c g r k) v = if (cellsA v).length = 1 ∧ (cellsA v).all one = true then stC [] 1 H c g r k (cellsA v) H[c]? else none := st_eq sz9 H c g r k v
def en7 := And.intro @ent7 (And.intro @res7 (And.intro @rk7 (And.intro @ow7 (And.intro @kp7_0 (And.intro @kp7_1 (And.intro @kp7_2 (And.intro @kp7_3 (And.intro @kp7_4 (And.intro @kp7_5 (And.intro @kp7_6 (And.intro @kp7_7 (And.intro @kp7_8 (And.intro @kp7_9 (And.intro @kp7_10 (And.intro @kp7_11 (And.intro @kp7_12 (And.intro @kp7_13 (And.intro @kp7_14 (And.intro @kp7_15 (And.intro @kp7_16 (And.intro @kp7_17 (And.intro @kp7_18 (And.intro @hd7_5 (And.intro @hd7_14 (And.intro @sq32 (And.intro @ent11 (And.intro @ci11 (And.intro @cr11 (And.intro @ak11 (And.intro @ent16 (And.intro @ci16 (And.intro @cr16 (And.intro @ak16 (And.intro @ent20 (And.intro @ci20 (And.intro @cr20 (And.intro @ak20 (And.intro @ent23 (And.intro @ci23 (And.intro @cr23 (And.intro @ak23 (And.intro @agg22 (And.intro @agg24 (And.intro @agg3 (And.intro @agg41 (And.intro @agg45 (And.intro @arr22 (And.intro @arrz45 (And.intro @fld45_0 (And.intro @kind22 (And.intro @kind24 (And.intro @kind3 (And.intro @cv48_3 (And.intro @kind41 (And.intro @kind45 (And.intro @pl45 (And.intro @sl22 (And.intro @ms22 (And.intro @br22 (And.intro @ap22_22 (And.intro @sl24 (And.intro @ms24 (And.intro @br24 (And.intro @sx24 (And.intro @sw24 (And.intro @ap24_24 (And.intro @sl3 (And.intro @sl41 (And.intro @str22 (And.intro @str24 (And.intro @str3 (And.intro @str41 (And.intro @sz3 (And.intro @st3 (And.intro @sz45 (And.intro @st45 (And.intro @zero3 (And.intro @zero45 (@bd45)))))))))))))))))))))))))))))))))))))))))))))))))))))))))))))))))))))))))))))))
def en16 := And.intro @ent16 (And.intro @res16 (And.intro @rk16 (And.intro @ow16 (And.intro @kp16_0 (And.intro @kp16_1 (And.intro @kp16_2 (And.intro @kp16_3 (And.intro @kp16_4 (And.intro @kp16_5 (And.intro @kp16_6 (And.intro @kp16_7 (And.intro @kp16_8 (And.intro @kp16_9 (And.intro @kp16_10 (And.intro @kp16_11 (And.intro @kp16_12 (And.intro @kp16_13 (And.intro @kp16_14 (And.intro @hd16_6 (And.intro @fl16_8 (And.intro @dr16_8 (And.intro @fl16_10 (And.intro @dr16_10 (And.intro @sq32 (And.intro @ent23 (And.intro @ci23 (And.intro @cr23 (And.intro @ak23 (And.intro @ent24 (And.intro @ci24 (And.intro @cr24 (And.intro @ak24 (And.intro @agg22 (And.intro @agg24 (And.intro @agg3 (And.intro @agg45 (And.intro @arr22 (And.intro @arr24 (And.intro @arrz45 (And.intro @kind22 (And.intro @kind24 (And.intro @kind3 (And.intro @cv48_3 (And.intro @kind45 (And.intro @pl45 (And.intro @sl22 (And.intro @ms22 (And.intro @br22 (And.intro @ap22_22 (And.intro @sl24 (And.intro @ms24 (And.intro @br24 (And.intro @sx24 (And.intro @sw24 (And.intro @ap24_24 (And.intro @sl3 (And.intro @sl45 (And.intro @str22 (And.intro @str24 (And.intro @str3 (And.intro @str45 (And.intro @sz24 (And.intro @st24 (And.intro @sz3 (And.intro @st3 (And.intro @sz45 (And.intro @st45 (And.intro @zero24 (And.intro @zero3 (And.intro @zero45 (@bd45)))))))))))))))))))))))))))))))))))))))))))))))))))))))))))))))))))))))
def en20 := And.intro @ent20 (And.intro @res20 (And.intro @rk20 (And.intro @ow20 (And.intro @kp20_0 (And.intro @kp20_1 (And.intro @kp20_2 (And.intro @kp20_3 (And.intro @kp20_4 (And.intro @kp20_5 (And.intro @kp20_6 (And.intro @kp20_7 (And.intro @kp20_8 (And.intro @kp20_9 (And.intro @kp20_10 (And.intro @kp20_11 (And.intro @kp20_12 (And.intro @kp20_13 (And.intro @kp20_14 (And.intro @kp20_15 (And.intro @kp20_16 (And.intro @hd20_3 (And.intro @sq32 (And.intro @agg22 (And.intro @agg24 (And.intro @agg3 (And.intro @agg45 (And.intro @arr22 (And.intro @arrz45 (And.intro @fld45_0 (And.intro @fld45_1 (And.intro @kind22 (And.intro @kind24 (And.intro @kind3 (And.intro @cv48_3 (And.intro @kind45 (And.intro @pl45 (And.intro @sl22 (And.intro @ms22 (And.intro @br22 (And.intro @ap22_22 (And.intro @sl24 (And.intro @ms24 (And.intro @br24 (And.intro @sx24 (And.intro @sw24 (And.intro @ap24_24 (And.intro @str22 (And.intro @str24 (And.intro @sz3 (And.intro @st3 (And.intro @sz45 (And.intro @st45 (And.intro @zero3 (And.intro @zero45 (@bd45)))))))))))))))))))))))))))))))))))))))))))))))))))))))
def en23 := And.intro @ent23 (And.intro @res23 (And.intro @rk23 (And.intro @ow23 (And.intro @kp23_0 (And.intro @kp23_1 (And.intro @kp23_2 (And.intro @kp23_3 (And.intro @kp23_4 (And.intro @kp23_5 (And.intro @kp23_6 (And.intro @kp23_7 (And.intro @kp23_8 (And.intro @kp23_9 (And.intro @kp23_10 (And.intro @kp23_11 (And.intro @kp23_12 (And.intro @hd23_4 (And.intro @fl23_6 (And.intro @dr23_6 (And.intro @sq32 (And.intro @ent30 (And.intro @ci30 (And.intro @cr30 (And.intro @ak30 (And.intro @ent31 (And.intro @ci31 (And.intro @cr31 (And.intro @ak31 (And.intro @agg22 (And.intro @agg3 (And.intro @agg45 (And.intro @agg65 (And.intro @agg9 (And.intro @arr22 (And.intro @arrz45 (And.intro @fld45_0 (And.intro @fld45_1 (And.intro @kind22 (And.intro @kind3 (And.intro @cv48_3 (And.intro @kind45 (And.intro @kind65 (And.intro @kind9 (And.intro @pl45 (And.intro @sl22 (And.intro @ms22 (And.intro @br22 (And.intro @ap22_22 (And.intro @sl3 (And.intro @sl65 (And.intro @ms65 (And.intro @br65 (And.intro @str22 (And.intro @str3 (And.intro @str65 (And.intro @sz3 (And.intro @st3 (And.intro @sz45 (And.intro @st45 (And.intro @sz9 (And.intro @st9 (And.intro @zero45 (And.intro @bd45 (@zero9))))))))))))))))))))))))))))))))))))))))))))))))))))))))))))))))
def en24 := And.intro @ent24 (And.intro @res24 (And.intro @rk24 (And.intro @ow24 (And.intro @kp24_0 (And.intro @kp24_1 (And.intro @sq32 (And.intro @ent32 (And.intro @ci32 (And.intro @cr32 (@ak32))))))))))
def en31 := And.intro @ent31 (And.intro @res31 (And.intro @rk31 (And.intro @ow31 (And.intro @kp31_0 (And.intro @kp31_1 (And.intro @kp31_2 (And.intro @kp31_3 (And.intro @kp31_4 (And.intro @kp31_5 (And.intro @kp31_6 (And.intro @kp31_7 (@sq32))))))))))))
end Go.VI

namespace Go.VI
open Go.Proofs Go.RowKit Go.Shelf
attribute [local go_sem] Oper.semAt_some
set_option maxRecDepth 100000
set_option linter.unusedSimpArgs false
set_option linter.unusedVariables false
set_option maxHeartbeats 4000000
theorem seq_inv {css : List (List Int)} {xs : List Int} (h : seqSucc css = some xs) : ∃ op arg i, css = [[op, arg], [i]] ∧ (-9223372036854775808 ≤ i + 1 ∧ i + 1 ≤ 9223372036854775807) ∧ sucL op arg i = xs := by
  unfold seqSucc at h
  split at h
  · rename_i op arg i
    split at h
    · rename_i hi
      cases h
      exact ⟨op, arg, i, rfl, hi, rfl⟩
    · cases h
  · cases h
theorem seq_succ : Seq1 Tryd.prog 32 seqSucc := by
  intro l nn css xs bs J Jx W hL hlen hcells hdr hdrx hY h0
  obtain ⟨op, arg, i, rfl, ⟨hi1, hi2⟩, rfl⟩ := seq_inv hL
  obtain ⟨b1, b2, rfl⟩ : ∃ b1 b2, bs = [b1, b2] := by
    cases bs with
    | nil => cases hlen
    | cons a bs => cases bs with
      | nil => cases hlen
      | cons b bs => cases bs with
        | nil => exact ⟨a, b, rfl⟩
        | cons c bs => simp at hlen
  have c1 : ∀ j W, J j W → W.cell? ⟨b1, 0, none⟩ = some (.int .i64 op) := fun j W h => hcells j W h 0 b1 [op, arg] rfl rfl 0 op rfl
  have c2 : ∀ j W, J j W → W.cell? ⟨b1, 1, none⟩ = some (.int .i64 arg) := fun j W h => hcells j W h 0 b1 [op, arg] rfl rfl 1 arg rfl
  have c3 : ∀ j W, J j W → W.cell? ⟨b2, 0, none⟩ = some (.int .i64 i) := fun j W h => hcells j W h 1 b2 [i] rfl rfl 0 i rfl
  have a1 := c1 0 W h0
  have a2 := c2 0 W h0
  have a3 := c3 0 W h0
  have hw : IntKind.i64.wrap (i + 1) = i + 1 := w_i64 hi1 hi2
  refine callsIn_of_wp Tryd.func32 rfl trivial ?_ rfl
  simp only [ptrV, List.map_cons, List.map_nil, Tryd.ntmps32, List.size_toArray, List.length_cons, List.length_nil, Nat.reduceAdd, Nat.reduceSub, Array.replicate_succ, Array.replicate_zero, List.push_toArray, List.append_toArray, List.nil_append, List.cons_append]
  by_cases h : op = 0
  · subst h
    have hs : sucL 0 arg i = [] := by simp [sucL]
    rw [hs] at hY ⊢
    gi_wp2
    refine ⟨fun _ h => (by cases h), ?_⟩
    gi_wp2
    go_end0
    exact ⟨⟨_, rfl⟩, .inl h0⟩
  · by_cases h17 : op = 17
    · subst h17
      have hs : sucL 17 arg i = [arg] := by simp [sucL]
      rw [hs] at hY ⊢
      obtain ⟨f1, t1, s1, d1, hy1, hR1⟩ := hY (nn - 1) 0 arg W rfl h0
      gi_wp2
      refine ⟨fun _ h => (by cases h), ?_⟩
      gi_wp2
      refine ⟨fun h => (by cases h), hR1.mono ?_⟩
      rintro e W1 (⟨rfl, hJ1⟩ | ⟨rfl, hx1⟩)
      · gi_wp2
        go_end0
        exact ⟨⟨_, rfl⟩, .inl hJ1⟩
      · gi_wp2
        go_end0
        exact ⟨⟨_, rfl⟩, .inr hx1⟩
    · have hs : sucL op arg i = (i + 1) :: (if op = 17 ∨ op = 18 then [arg] else []) := by unfold sucL; rw [if_neg (by omega)]; rfl
      rw [hs] at hY ⊢
      obtain ⟨f1, t1, s1, d1, hy1, hR1⟩ := hY (nn - 1) 0 (i + 1) W rfl h0
      have q1 : (op != 0) = true := by simp [h]
      have q2 : (op != 17) = true := by simp [h17]
      have q4 : (op == 17) = false := by simp [h17]
      by_cases h18 : op = 18
      · subst h18
        gi_wp2
        refine ⟨fun h => (by cases h), hR1.mono ?_⟩
        rintro e W1 (⟨rfl, hJ1⟩ | ⟨rfl, hx1⟩)
        · have e1 := c1 1 W1 hJ1
          have e2 := c2 1 W1 hJ1
          obtain ⟨f2, t2, s2, d2, hy2, hR2⟩ := hY (nn - 1) 1 arg W1 rfl hJ1
          gi_wp2
          refine ⟨fun h => (by cases h), hR2.mono ?_⟩
          rintro e W2 (⟨rfl, hJ2⟩ | ⟨rfl, hx2⟩)
          · gi_wp2
            go_end0
            exact ⟨⟨_, rfl⟩, .inl hJ2⟩
          · gi_wp2
            go_end0
            exact ⟨⟨_, rfl⟩, .inr hx2⟩
        · gi_wp2
          refine bodyPost_ret (results_none rfl _ _ _) rfl ?_
          exact ⟨⟨_, rfl⟩, .inr hx1⟩
      · rw [if_neg (show ¬ (op = 17 ∨ op = 18) by omega)] at hY ⊢
        have q3 : (op == 18) = false := by simp [h18]
        gi_wp2
        refine ⟨fun h => (by cases h), hR1.mono ?_⟩
        rintro e W1 (⟨rfl, hJ1⟩ | ⟨rfl, hx1⟩)
        · have e1 := c1 1 W1 hJ1
          gi_wp2
          go_end0
          exact ⟨⟨_, rfl⟩, .inl hJ1⟩
        · gi_wp2
          refine bodyPost_ret (results_none rfl _ _ _) rfl ?_
          exact ⟨⟨_, rfl⟩, .inr hx1⟩
theorem seqOK : SeqOK E := by
  intro g L h
  rcases E_seqI g L h with ⟨rfl, rfl⟩ | h
  · exact ⟨ent32, seq_succ⟩
  · exact h.elim
end Go.VI

namespace Go.VI
open Go.Proofs
set_option maxRecDepth 100000
set_option linter.unusedSimpArgs false
set_option linter.unusedVariables false
set_option maxHeartbeats 4000000
abbrev Ins := Int × Int
def insC (p : Ins) : List IV := [.v (.int .i64 p.1), .v (.int .i64 p.2)]
def rowsI (l : List Ins) : List (List IV) := l.map insC
theorem rowsI_len (l : List Ins) : (rowsI l).length = l.length := by simp [rowsI]
theorem rowsI_at {l : List Ins} {k : Nat} (h : k < l.length) : (rowsI l)[k]? = some [.v (.int .i64 l[k].1), .v (.int .i64 l[k].2)] := by simp [rowsI, insC, h]
def boundsS (op i n : Int) : Int × Int := if op = 1 then (-999999999, 999999999) else if op = 17 ∨ op = 18 then (i + 1, n) else (0, 0)
def chk1 (n i : Int) (p : Ins) : Int := if p.1 < 0 ∨ 20 < p.1 then 9 else if p.2 < (boundsS p.1 i n).1 ∨ (boundsS p.1 i n).2 < p.2 then 2 else 0
def chkL (n : Int) : Nat → List Ins → Int
  | _, [] => 0
  | i, p :: r => if chk1 n i p = 0 then chkL n (i + 1) r else chk1 n i p
def checkI (l : List Ins) : Int := if 500 < (l.length : Int) then 5 else chkL l.length 0 l
theorem c31 (op i n : Int) (hi : -9223372036854775808 ≤ i + 1 ∧ i + 1 ≤ 9223372036854775807) : ∃ L, callT E 31 [.i (.v (.int .i64 op)), .i (.v (.int .i64 i)), .i (.v (.int .i64 n))] [] = some (.tup [.i (.v (.int .i64 (boundsS op i n).1)), .i (.v (.int .i64 (boundsS op i n).2))], L) := by
  unfold boundsS
  by_cases h1 : op = 1
  · subst h1; rw [callT_eq Tryd.func31 rfl fok31 (by simp [Tryd.ntmps31])]; simp (disch := first | omega | (simp only [List.length_append, List.length_map, List.length_set, List.length_cons, List.length_nil, List.length_take, List.length_drop]; omega)) only [va0, va1, va2, va3, va4, va5, va6, va7, va8, va9, va10, va11, va12, va13, va14, va15, vb0, vb1, vb2, vb3, w_i8, w_u8, w_i16, w_u16, w_i32, w_u32, w_i64, w_u64, lt_T, lt_F, le_T, le_F, nlt_T, nlt_F, nle_T, nle_F, List.take_of_length_le, gB, gcW, gcR, posIn, renA, renL, Chunk.ren, Chunk.refs, evOpD, touchD, stepC, isFresh, nFresh, freshOf, mkR, hole, evL, evH, opd, get, putD, ofVal, cellOf, loadE, behind, lenE, idxAddrE, idxE, addPtr, intE, strE, unE, convE, AV.int, AV.bool, AV.str, ivs, take, frameOf, firstRegion, refsA, refsL, one, cellsA, floatOk, apartT, List.map, if_true, if_false, E_P, E_glob0, E_glob1, reduceCtorEq, beq_self_eq_true, decide_true, decide_false, ↓reduceIte, Nat.reduceEqDiff, cond_true, cond_false, or_true, true_or, or_false, false_or, and_true, true_and, and_self, false_and, and_false, not_true, not_false_iff, Nat.reduceAdd, Nat.reduceSub, Nat.reduceMul, Nat.reduceLT, Nat.reduceLeDiff, Int.reduceToNat, Int.reduceLT, Int.reduceLE, Option.getD, Int.reduceMul, Int.reduceAdd, List.drop, List.take, Nat.reduceBEq, List.isEmpty, Int.reduceEq, Int.reduceNe, Int.reduceNeg, Int.reduceGT, Int.reduceGE, beq_true, beq_false, UInt8.reduceToNat, eqE, eq_self, foldE, maxE, minE, eq_T, eq_F, ndec, odec, adec, sdec, fillA, over, chop, List.replicate, leavesOk, leafOk, cellsEq, cellEq, E_ext, E_byref, en31]; exact ⟨_, rfl⟩
  · by_cases h2 : op = 17
    · subst h2; rw [callT_eq Tryd.func31 rfl fok31 (by simp [Tryd.ntmps31])]; simp (disch := first | omega | (simp only [List.length_append, List.length_map, List.length_set, List.length_cons, List.length_nil, List.length_take, List.length_drop]; omega)) only [va0, va1, va2, va3, va4, va5, va6, va7, va8, va9, va10, va11, va12, va13, va14, va15, vb0, vb1, vb2, vb3, w_i8, w_u8, w_i16, w_u16, w_i32, w_u32, w_i64, w_u64, lt_T, lt_F, le_T, le_F, nlt_T, nlt_F, nle_T, nle_F, List.take_of_length_le, gB, gcW, gcR, posIn, renA, renL, Chunk.ren, Chunk.refs, evOpD, touchD, stepC, isFresh, nFresh, freshOf, mkR, hole, evL, evH, opd, get, putD, ofVal, cellOf, loadE, behind, lenE, idxAddrE, idxE, addPtr, intE, strE, unE, convE, AV.int, AV.bool, AV.str, ivs, take, frameOf, firstRegion, refsA, refsL, one, cellsA, floatOk, apartT, List.map, if_true, if_false, E_P, E_glob0, E_glob1, reduceCtorEq, beq_self_eq_true, decide_true, decide_false, ↓reduceIte, Nat.reduceEqDiff, cond_true, cond_false, or_true, true_or, or_false, false_or, and_true, true_and, and_self, false_and, and_false, not_true, not_false_iff, Nat.reduceAdd, Nat.reduceSub, Nat.reduceMul, Nat.reduceLT, Nat.reduceLeDiff, Int.reduceToNat, Int.reduceLT, Int.reduceLE, Option.getD, Int.reduceMul, Int.reduceAdd, List.drop, List.take, Nat.reduceBEq, List.isEmpty, Int.reduceEq, Int.reduceNe, Int.reduceNeg, Int.reduceGT, Int.reduceGE, beq_true, beq_false, UInt8.reduceToNat, eqE, eq_self, foldE, maxE, minE, eq_T, eq_F, ndec, odec, adec, sdec, fillA, over, chop, List.replicate, leavesOk, leafOk, cellsEq, cellEq, E_ext, E_byref, en31, w_i64]; exact ⟨_, rfl⟩
    · by_cases h3 : op = 18
      · subst h3; rw [callT_eq Tryd.func31 rfl fok31 (by simp [Tryd.ntmps31])]; simp (disch := first | omega | (simp only [List.length_append, List.length_map, List.length_set, List.length_cons, List.length_nil, List.length_take, List.length_drop]; omega)) only [va0, va1, va2, va3, va4, va5, va6, va7, va8, va9, va10, va11, va12, va13, va14, va15, vb0, vb1, vb2, vb3, w_i8, w_u8, w_i16, w_u16, w_i32, w_u32, w_i64, w_u64, lt_T, lt_F, le_T, le_F, nlt_T, nlt_F, nle_T, nle_F, List.take_of_length_le, gB, gcW, gcR, posIn, renA, renL, Chunk.ren, Chunk.refs, evOpD, touchD, stepC, isFresh, nFresh, freshOf, mkR, hole, evL, evH, opd, get, putD, ofVal, cellOf, loadE, behind, lenE, idxAddrE, idxE, addPtr, intE, strE, unE, convE, AV.int, AV.bool, AV.str, ivs, take, frameOf, firstRegion, refsA, refsL, one, cellsA, floatOk, apartT, List.map, if_true, if_false, E_P, E_glob0, E_glob1, reduceCtorEq, beq_self_eq_true, decide_true, decide_false, ↓reduceIte, Nat.reduceEqDiff, cond_true, cond_false, or_true, true_or, or_false, false_or, and_true, true_and, and_self, false_and, and_false, not_true, not_false_iff, Nat.reduceAdd, Nat.reduceSub, Nat.reduceMul, Nat.reduceLT, Nat.reduceLeDiff, Int.reduceToNat, Int.reduceLT, Int.reduceLE, Option.getD, Int.reduceMul, Int.reduceAdd, List.drop, List.take, Nat.reduceBEq, List.isEmpty, Int.reduceEq, Int.reduceNe, Int.reduceNeg, Int.reduceGT, Int.reduceGE, beq_true, beq_false, UInt8.reduceToNat, eqE, eq_self, foldE, maxE, minE, eq_T, eq_F, ndec, odec, adec, sdec, fillA, over, chop, List.replicate, leavesOk, leafOk, cellsEq, cellEq, E_ext, E_byref, en31, w_i64]; exact ⟨_, rfl⟩
      · rw [if_neg h1, if_neg (by omega)]; rw [callT_eq Tryd.func31 rfl fok31 (by simp [Tryd.ntmps31])]; simp (disch := first | omega | (simp only [List.length_append, List.length_map, List.length_set, List.length_cons, List.length_nil, List.length_take, List.length_drop]; omega)) only [va0, va1, va2, va3, va4, va5, va6, va7, va8, va9, va10, va11, va12, va13, va14, va15, vb0, vb1, vb2, vb3, w_i8, w_u8, w_i16, w_u16, w_i32, w_u32, w_i64, w_u64, lt_T, lt_F, le_T, le_F, nlt_T, nlt_F, nle_T, nle_F, List.take_of_length_le, gB, gcW, gcR, posIn, renA, renL, Chunk.ren, Chunk.refs, evOpD, touchD, stepC, isFresh, nFresh, freshOf, mkR, hole, evL, evH, opd, get, putD, ofVal, cellOf, loadE, behind, lenE, idxAddrE, idxE, addPtr, intE, strE, unE, convE, AV.int, AV.bool, AV.str, ivs, take, frameOf, firstRegion, refsA, refsL, one, cellsA, floatOk, apartT, List.map, if_true, if_false, E_P, E_glob0, E_glob1, reduceCtorEq, beq_self_eq_true, decide_true, decide_false, ↓reduceIte, Nat.reduceEqDiff, cond_true, cond_false, or_true, true_or, or_false, false_or, and_true, true_and, and_self, false_and, and_false, not_true, not_false_iff, Nat.reduceAdd, Nat.reduceSub, Nat.reduceMul, Nat.reduceLT, Nat.reduceLeDiff, Int.reduceToNat, Int.reduceLT, Int.reduceLE, Option.getD, Int.reduceMul, Int.reduceAdd, List.drop, List.take, Nat.reduceBEq, List.isEmpty, Int.reduceEq, Int.reduceNe, Int.reduceNeg, Int.reduceGT, Int.reduceGE, beq_true, beq_false, UInt8.reduceToNat, eqE, eq_self, foldE, maxE, minE, eq_T, eq_F, ndec, odec, adec, sdec, fillA, over, chop, List.replicate, leavesOk, leafOk, cellsEq, cellEq, E_ext, E_byref, en31, h1, h2, h3]; exact ⟨_, rfl⟩
theorem ik31 (op i n : Int) (hi : -9223372036854775808 ≤ i + 1 ∧ i + 1 ≤ 9223372036854775807) (H : Hp) : isoK E (callT E) 31 [.i (.v (.int .i64 op)), .i (.v (.int .i64 i)), .i (.v (.int .i64 n))] H = some (.tup [.i (.v (.int .i64 (boundsS op i n).1)), .i (.v (.int .i64 (boundsS op i n).2))], H) := isoK_val rfl rfl rfl (c31 op i n hi)
theorem names_all : (match call E 60 30 [] [] with | some (.i (.sl 1 R false), _) => decide (R.length = 21) | _ => false) = true := by kernel_rfl
theorem c30 : ∃ R : List (List IV), R.length = 21 ∧ ∃ L, callT E 30 [] [] = some (.i (.sl 1 R false), L) := by
  have h := names_all
  split at h
  · rename_i R L hL
    exact ⟨R, of_decide_eq_true h, L, callT_of hL⟩
  · cases h
theorem ik30 : ∃ R : List (List IV), (R.length : Int) = 21 ∧ ∀ H, isoK E (callT E) 30 [] H = some (.i (.sl 1 R false), H) := by
  obtain ⟨R, h1, h2⟩ := c30
  exact ⟨R, by omega, fun H => isoK_val rfl rfl rfl h2⟩
def chP (e : Int) (fr : Fr) (ex : Ex) : Prop := (e = 0 ∧ ex = .exit 0) ∨ (e ≠ 0 ∧ ex = .ret ∧ get 2 fr = .i (.v (.int .i64 e)))
theorem l23 (l : List Ins) (hl : l.length ≤ 500) (k : Nat) (hk : k ≤ l.length) :
    ∃ fr ex H', rl E 0 23 (loopAt Tryd.f23 0) [(0, .i (.sl 2 (rowsI l) false)), (10, .i (.sl 2 (rowsI l) false)), (11, .i (.v (.int .i64 l.length))), (12, .i (.v (.int .i64 k)))] [] = some (ex, fr, H') ∧ chP (chkL l.length k (l.drop k)) fr ex := by
  rw [rl_step (fn := Tryd.f23) (k := 0) rfl]
  by_cases hlt : k < l.length
  · have hrow := rowsI_at hlt
    rw [List.drop_eq_getElem_cons hlt, chkL]
    obtain ⟨fr, ex, H', e, hh⟩ := l23 l hl (k + 1) hlt
    obtain ⟨op, arg, hp⟩ : ∃ op arg, l[k] = (op, arg) := ⟨_, _, rfl⟩
    rw [hp] at hrow ⊢
    simp only at hrow
    obtain ⟨R, hR, hN⟩ := ik30
    have hb := fun H => ik31 op k l.length (by omega) H
    have hchk : chk1 l.length k (op, arg) = if op < 0 ∨ 20 < op then 9 else if arg < (boundsS op k l.length).1 ∨ (boundsS op k l.length).2 < arg then 2 else 0 := rfl
    generalize boundsS op k l.length = q at *
    generalize chk1 l.length k (op, arg) = ch at *
    obtain ⟨lo, hi⟩ := q
    simp only at hb hchk ⊢
    by_cases h1 : op < 0
    · rw [if_pos (.inl h1)] at hchk
      subst hchk
      rw [if_neg (by decide)]
      clear e hh
      simp (disch := first | omega | (simp only [List.length_append, List.length_map, List.length_set, List.length_cons, List.length_nil, List.length_take, List.length_drop, rowsI_len]; omega)) only [va0, va1, va2, va3, va4, va5, va6, va7, va8, va9, va10, va11, va12, va13, va14, va15, vb0, vb1, vb2, vb3, w_i8, w_u8, w_i16, w_u16, w_i32, w_u32, w_i64, w_u64, lt_T, lt_F, le_T, le_F, nlt_T, nlt_F, nle_T, nle_F, List.take_of_length_le, gB, gcW, gcR, posIn, renA, renL, Chunk.ren, Chunk.refs, evOpD, touchD, stepC, isFresh, nFresh, freshOf, mkR, hole, evL, evH, opd, get, putD, ofVal, cellOf, loadE, behind, lenE, idxAddrE, idxE, addPtr, intE, strE, unE, convE, AV.int, AV.bool, AV.str, ivs, take, frameOf, firstRegion, refsA, refsL, one, cellsA, floatOk, apartT, List.map, if_true, if_false, E_P, E_glob0, E_glob1, reduceCtorEq, beq_self_eq_true, decide_true, decide_false, ↓reduceIte, Nat.reduceEqDiff, cond_true, cond_false, or_true, true_or, or_false, false_or, and_true, true_and, and_self, false_and, and_false, not_true, not_false_iff, Nat.reduceAdd, Nat.reduceSub, Nat.reduceMul, Nat.reduceLT, Nat.reduceLeDiff, Int.reduceToNat, Int.reduceLT, Int.reduceLE, Option.getD, Int.reduceMul, Int.reduceAdd, List.drop, List.take, Nat.reduceBEq, List.isEmpty, Int.reduceEq, Int.reduceNe, Int.reduceNeg, Int.reduceGT, Int.reduceGE, beq_true, beq_false, UInt8.reduceToNat, eqE, eq_self, foldE, maxE, minE, eq_T, eq_F, ndec, odec, adec, sdec, fillA, over, chop, List.replicate, leavesOk, leafOk, cellsEq, cellEq, E_ext, E_byref, en23, bs22, bs65, hrow, rowsI_len, h1, hN, hR, show ∀ B fr H, execT E B 23 (Code.loop _) fr H = rlG E B 23 (loopAt Tryd.f23 0) (gcn B (norm [0, 10, 11, 12] fr) H) from fun B fr H => rl_intro rfl mt23_4 mb23_4 zf23_4 hd23_4 fr H]
      exact ⟨_, _, _, rfl, .inr ⟨by decide, rfl, rfl⟩⟩
    · by_cases h2 : 21 ≤ op
      · rw [if_pos (.inr (by omega))] at hchk
        subst hchk
        rw [if_neg (by decide)]
        clear e hh
        simp (disch := first | omega | (simp only [List.length_append, List.length_map, List.length_set, List.length_cons, List.length_nil, List.length_take, List.length_drop, rowsI_len]; omega)) only [va0, va1, va2, va3, va4, va5, va6, va7, va8, va9, va10, va11, va12, va13, va14, va15, vb0, vb1, vb2, vb3, w_i8, w_u8, w_i16, w_u16, w_i32, w_u32, w_i64, w_u64, lt_T, lt_F, le_T, le_F, nlt_T, nlt_F, nle_T, nle_F, List.take_of_length_le, gB, gcW, gcR, posIn, renA, renL, Chunk.ren, Chunk.refs, evOpD, touchD, stepC, isFresh, nFresh, freshOf, mkR, hole, evL, evH, opd, get, putD, ofVal, cellOf, loadE, behind, lenE, idxAddrE, idxE, addPtr, intE, strE, unE, convE, AV.int, AV.bool, AV.str, ivs, take, frameOf, firstRegion, refsA, refsL, one, cellsA, floatOk, apartT, List.map, if_true, if_false, E_P, E_glob0, E_glob1, reduceCtorEq, beq_self_eq_true, decide_true, decide_false, ↓reduceIte, Nat.reduceEqDiff, cond_true, cond_false, or_true, true_or, or_false, false_or, and_true, true_and, and_self, false_and, and_false, not_true, not_false_iff, Nat.reduceAdd, Nat.reduceSub, Nat.reduceMul, Nat.reduceLT, Nat.reduceLeDiff, Int.reduceToNat, Int.reduceLT, Int.reduceLE, Option.getD, Int.reduceMul, Int.reduceAdd, List.drop, List.take, Nat.reduceBEq, List.isEmpty, Int.reduceEq, Int.reduceNe, Int.reduceNeg, Int.reduceGT, Int.reduceGE, beq_true, beq_false, UInt8.reduceToNat, eqE, eq_self, foldE, maxE, minE, eq_T, eq_F, ndec, odec, adec, sdec, fillA, over, chop, List.replicate, leavesOk, leafOk, cellsEq, cellEq, E_ext, E_byref, en23, bs22, bs65, hrow, rowsI_len, h1, h2, hN, hR, show ∀ B fr H, execT E B 23 (Code.loop _) fr H = rlG E B 23 (loopAt Tryd.f23 0) (gcn B (norm [0, 10, 11, 12] fr) H) from fun B fr H => rl_intro rfl mt23_4 mb23_4 zf23_4 hd23_4 fr H]
        exact ⟨_, _, _, rfl, .inr ⟨by decide, rfl, rfl⟩⟩
      · rw [if_neg (by omega)] at hchk
        by_cases h3 : arg < lo
        · rw [if_pos (.inl h3)] at hchk
          subst hchk
          rw [if_neg (by decide)]
          clear e hh
          simp (disch := first | omega | (simp only [List.length_append, List.length_map, List.length_set, List.length_cons, List.length_nil, List.length_take, List.length_drop, rowsI_len]; omega)) only [va0, va1, va2, va3, va4, va5, va6, va7, va8, va9, va10, va11, va12, va13, va14, va15, vb0, vb1, vb2, vb3, w_i8, w_u8, w_i16, w_u16, w_i32, w_u32, w_i64, w_u64, lt_T, lt_F, le_T, le_F, nlt_T, nlt_F, nle_T, nle_F, List.take_of_length_le, gB, gcW, gcR, posIn, renA, renL, Chunk.ren, Chunk.refs, evOpD, touchD, stepC, isFresh, nFresh, freshOf, mkR, hole, evL, evH, opd, get, putD, ofVal, cellOf, loadE, behind, lenE, idxAddrE, idxE, addPtr, intE, strE, unE, convE, AV.int, AV.bool, AV.str, ivs, take, frameOf, firstRegion, refsA, refsL, one, cellsA, floatOk, apartT, List.map, if_true, if_false, E_P, E_glob0, E_glob1, reduceCtorEq, beq_self_eq_true, decide_true, decide_false, ↓reduceIte, Nat.reduceEqDiff, cond_true, cond_false, or_true, true_or, or_false, false_or, and_true, true_and, and_self, false_and, and_false, not_true, not_false_iff, Nat.reduceAdd, Nat.reduceSub, Nat.reduceMul, Nat.reduceLT, Nat.reduceLeDiff, Int.reduceToNat, Int.reduceLT, Int.reduceLE, Option.getD, Int.reduceMul, Int.reduceAdd, List.drop, List.take, Nat.reduceBEq, List.isEmpty, Int.reduceEq, Int.reduceNe, Int.reduceNeg, Int.reduceGT, Int.reduceGE, beq_true, beq_false, UInt8.reduceToNat, eqE, eq_self, foldE, maxE, minE, eq_T, eq_F, ndec, odec, adec, sdec, fillA, over, chop, List.replicate, leavesOk, leafOk, cellsEq, cellEq, E_ext, E_byref, en23, bs22, bs65, hrow, rowsI_len, h1, h2, h3, hN, hR, hb, show ∀ B fr H, execT E B 23 (Code.loop _) fr H = rlG E B 23 (loopAt Tryd.f23 0) (gcn B (norm [0, 10, 11, 12] fr) H) from fun B fr H => rl_intro rfl mt23_4 mb23_4 zf23_4 hd23_4 fr H]
          exact ⟨_, _, _, rfl, .inr ⟨by decide, rfl, rfl⟩⟩
        · by_cases h4 : hi < arg
          · rw [if_pos (.inr h4)] at hchk
            subst hchk
            rw [if_neg (by decide)]
            clear e hh
            simp (disch := first | omega | (simp only [List.length_append, List.length_map, List.length_set, List.length_cons, List.length_nil, List.length_take, List.length_drop, rowsI_len]; omega)) only [va0, va1, va2, va3, va4, va5, va6, va7, va8, va9, va10, va11, va12, va13, va14, va15, vb0, vb1, vb2, vb3, w_i8, w_u8, w_i16, w_u16, w_i32, w_u32, w_i64, w_u64, lt_T, lt_F, le_T, le_F, nlt_T, nlt_F, nle_T, nle_F, List.take_of_length_le, gB, gcW, gcR, posIn, renA, renL, Chunk.ren, Chunk.refs, evOpD, touchD, stepC, isFresh, nFresh, freshOf, mkR, hole, evL, evH, opd, get, putD, ofVal, cellOf, loadE, behind, lenE, idxAddrE, idxE, addPtr, intE, strE, unE, convE, AV.int, AV.bool, AV.str, ivs, take, frameOf, firstRegion, refsA, refsL, one, cellsA, floatOk, apartT, List.map, if_true, if_false, E_P, E_glob0, E_glob1, reduceCtorEq, beq_self_eq_true, decide_true, decide_false, ↓reduceIte, Nat.reduceEqDiff, cond_true, cond_false, or_true, true_or, or_false, false_or, and_true, true_and, and_self, false_and, and_false, not_true, not_false_iff, Nat.reduceAdd, Nat.reduceSub, Nat.reduceMul, Nat.reduceLT, Nat.reduceLeDiff, Int.reduceToNat, Int.reduceLT, Int.reduceLE, Option.getD, Int.reduceMul, Int.reduceAdd, List.drop, List.take, Nat.reduceBEq, List.isEmpty, Int.reduceEq, Int.reduceNe, Int.reduceNeg, Int.reduceGT, Int.reduceGE, beq_true, beq_false, UInt8.reduceToNat, eqE, eq_self, foldE, maxE, minE, eq_T, eq_F, ndec, odec, adec, sdec, fillA, over, chop, List.replicate, leavesOk, leafOk, cellsEq, cellEq, E_ext, E_byref, en23, bs22, bs65, hrow, rowsI_len, h1, h2, h3, h4, hN, hR, hb, show ∀ B fr H, execT E B 23 (Code.loop _) fr H = rlG E B 23 (loopAt Tryd.f23 0) (gcn B (norm [0, 10, 11, 12] fr) H) from fun B fr H => rl_intro rfl mt23_4 mb23_4 zf23_4 hd23_4 fr H]
            exact ⟨_, _, _, rfl, .inr ⟨by decide, rfl, rfl⟩⟩
          · rw [if_neg (by omega)] at hchk
            subst hchk
            rw [if_pos rfl]
            refine ⟨fr, ex, H', Eq.trans ?_ e, hh⟩
            clear e hh
            simp (disch := first | omega | (simp only [List.length_append, List.length_map, List.length_set, List.length_cons, List.length_nil, List.length_take, List.length_drop, rowsI_len]; omega)) only [va0, va1, va2, va3, va4, va5, va6, va7, va8, va9, va10, va11, va12, va13, va14, va15, vb0, vb1, vb2, vb3, w_i8, w_u8, w_i16, w_u16, w_i32, w_u32, w_i64, w_u64, lt_T, lt_F, le_T, le_F, nlt_T, nlt_F, nle_T, nle_F, List.take_of_length_le, gB, gcW, gcR, posIn, renA, renL, Chunk.ren, Chunk.refs, evOpD, touchD, stepC, isFresh, nFresh, freshOf, mkR, hole, evL, evH, opd, get, putD, ofVal, cellOf, loadE, behind, lenE, idxAddrE, idxE, addPtr, intE, strE, unE, convE, AV.int, AV.bool, AV.str, ivs, take, frameOf, firstRegion, refsA, refsL, one, cellsA, floatOk, apartT, List.map, if_true, if_false, E_P, E_glob0, E_glob1, reduceCtorEq, beq_self_eq_true, decide_true, decide_false, ↓reduceIte, Nat.reduceEqDiff, cond_true, cond_false, or_true, true_or, or_false, false_or, and_true, true_and, and_self, false_and, and_false, not_true, not_false_iff, Nat.reduceAdd, Nat.reduceSub, Nat.reduceMul, Nat.reduceLT, Nat.reduceLeDiff, Int.reduceToNat, Int.reduceLT, Int.reduceLE, Option.getD, Int.reduceMul, Int.reduceAdd, List.drop, List.take, Nat.reduceBEq, List.isEmpty, Int.reduceEq, Int.reduceNe, Int.reduceNeg, Int.reduceGT, Int.reduceGE, beq_true, beq_false, UInt8.reduceToNat, eqE, eq_self, foldE, maxE, minE, eq_T, eq_F, ndec, odec, adec, sdec, fillA, over, chop, List.replicate, leavesOk, leafOk, cellsEq, cellEq, E_ext, E_byref, en23, bs22, bs65, hrow, rowsI_len, h1, h2, h3, h4, hN, hR, hb, show ∀ B fr H, execT E B 23 (Code.loop _) fr H = rlG E B 23 (loopAt Tryd.f23 0) (gcn B (norm [0, 10, 11, 12] fr) H) from fun B fr H => rl_intro rfl mt23_4 mb23_4 zf23_4 hd23_4 fr H]
  · obtain rfl : k = l.length := by omega
    rw [List.drop_length, chkL]
    simp (disch := first | omega | (simp only [List.length_append, List.length_map, List.length_set, List.length_cons, List.length_nil, List.length_take, List.length_drop, rowsI_len]; omega)) only [va0, va1, va2, va3, va4, va5, va6, va7, va8, va9, va10, va11, va12, va13, va14, va15, vb0, vb1, vb2, vb3, w_i8, w_u8, w_i16, w_u16, w_i32, w_u32, w_i64, w_u64, lt_T, lt_F, le_T, le_F, nlt_T, nlt_F, nle_T, nle_F, List.take_of_length_le, gB, gcW, gcR, posIn, renA, renL, Chunk.ren, Chunk.refs, evOpD, touchD, stepC, isFresh, nFresh, freshOf, mkR, hole, evL, evH, opd, get, putD, ofVal, cellOf, loadE, behind, lenE, idxAddrE, idxE, addPtr, intE, strE, unE, convE, AV.int, AV.bool, AV.str, ivs, take, frameOf, firstRegion, refsA, refsL, one, cellsA, floatOk, apartT, List.map, if_true, if_false, E_P, E_glob0, E_glob1, reduceCtorEq, beq_self_eq_true, decide_true, decide_false, ↓reduceIte, Nat.reduceEqDiff, cond_true, cond_false, or_true, true_or, or_false, false_or, and_true, true_and, and_self, false_and, and_false, not_true, not_false_iff, Nat.reduceAdd, Nat.reduceSub, Nat.reduceMul, Nat.reduceLT, Nat.reduceLeDiff, Int.reduceToNat, Int.reduceLT, Int.reduceLE, Option.getD, Int.reduceMul, Int.reduceAdd, List.drop, List.take, Nat.reduceBEq, List.isEmpty, Int.reduceEq, Int.reduceNe, Int.reduceNeg, Int.reduceGT, Int.reduceGE, beq_true, beq_false, UInt8.reduceToNat, eqE, eq_self, foldE, maxE, minE, eq_T, eq_F, ndec, odec, adec, sdec, fillA, over, chop, List.replicate, leavesOk, leafOk, cellsEq, cellEq, E_ext, E_byref, en23, bs22, bs65, rowsI_len, show ∀ B fr H, execT E B 23 (Code.loop _) fr H = rlG E B 23 (loopAt Tryd.f23 0) (gcn B (norm [0, 10, 11, 12] fr) H) from fun B fr H => rl_intro rfl mt23_4 mb23_4 zf23_4 hd23_4 fr H]
    exact ⟨_, _, _, rfl, .inl ⟨rfl, rfl⟩⟩
termination_by l.length - k
theorem c23 (l : List Ins) (hl : (l.length : Int) < 9223372036854775808) : ∃ L, callT E 23 [.i (.sl 2 (rowsI l) false)] [] = some (.i (.v (.int .i64 (checkI l))), L) := by
  unfold checkI
  by_cases h5 : 500 < (l.length : Int)
  · rw [if_pos h5]
    rw [callT_eq Tryd.func23 rfl fok23 (by simp [Tryd.ntmps23])]
    simp (disch := first | omega | (simp only [List.length_append, List.length_map, List.length_set, List.length_cons, List.length_nil, List.length_take, List.length_drop, rowsI_len]; omega)) only [va0, va1, va2, va3, va4, va5, va6, va7, va8, va9, va10, va11, va12, va13, va14, va15, vb0, vb1, vb2, vb3, w_i8, w_u8, w_i16, w_u16, w_i32, w_u32, w_i64, w_u64, lt_T, lt_F, le_T, le_F, nlt_T, nlt_F, nle_T, nle_F, List.take_of_length_le, gB, gcW, gcR, posIn, renA, renL, Chunk.ren, Chunk.refs, evOpD, touchD, stepC, isFresh, nFresh, freshOf, mkR, hole, evL, evH, opd, get, putD, ofVal, cellOf, loadE, behind, lenE, idxAddrE, idxE, addPtr, intE, strE, unE, convE, AV.int, AV.bool, AV.str, ivs, take, frameOf, firstRegion, refsA, refsL, one, cellsA, floatOk, apartT, List.map, if_true, if_false, E_P, E_glob0, E_glob1, reduceCtorEq, beq_self_eq_true, decide_true, decide_false, ↓reduceIte, Nat.reduceEqDiff, cond_true, cond_false, or_true, true_or, or_false, false_or, and_true, true_and, and_self, false_and, and_false, not_true, not_false_iff, Nat.reduceAdd, Nat.reduceSub, Nat.reduceMul, Nat.reduceLT, Nat.reduceLeDiff, Int.reduceToNat, Int.reduceLT, Int.reduceLE, Option.getD, Int.reduceMul, Int.reduceAdd, List.drop, List.take, Nat.reduceBEq, List.isEmpty, Int.reduceEq, Int.reduceNe, Int.reduceNeg, Int.reduceGT, Int.reduceGE, beq_true, beq_false, UInt8.reduceToNat, eqE, eq_self, foldE, maxE, minE, eq_T, eq_F, ndec, odec, adec, sdec, fillA, over, chop, List.replicate, leavesOk, leafOk, cellsEq, cellEq, E_ext, E_byref, en23, bs22, bs65, rowsI_len, h5]
    exact ⟨_, rfl⟩
  · rw [if_neg h5]
    obtain ⟨fr, ex, H', e, hh⟩ := l23 l (by omega) 0 (Nat.zero_le _)
    rw [List.drop_zero] at hh
    have e' : rl E 0 23 (loopAt Tryd.f23 0) [(0, .i (.sl 2 (rowsI l) false)), (10, .i (.sl 2 (rowsI l) false)), (11, .i (.v (.int .i64 l.length))), (12, .i (.v (.int .i64 0)))] [] = _ := e
    rcases hh with ⟨h1, rfl⟩ | ⟨h1, rfl, h2⟩
    · rw [h1]
      rw [callT_eq Tryd.func23 rfl fok23 (by simp [Tryd.ntmps23])]
      simp (disch := first | omega | (simp only [List.length_append, List.length_map, List.length_set, List.length_cons, List.length_nil, List.length_take, List.length_drop, rowsI_len]; omega)) only [va0, va1, va2, va3, va4, va5, va6, va7, va8, va9, va10, va11, va12, va13, va14, va15, vb0, vb1, vb2, vb3, w_i8, w_u8, w_i16, w_u16, w_i32, w_u32, w_i64, w_u64, lt_T, lt_F, le_T, le_F, nlt_T, nlt_F, nle_T, nle_F, List.take_of_length_le, gB, gcW, gcR, posIn, renA, renL, Chunk.ren, Chunk.refs, evOpD, touchD, stepC, isFresh, nFresh, freshOf, mkR, hole, evL, evH, opd, get, putD, ofVal, cellOf, loadE, behind, lenE, idxAddrE, idxE, addPtr, intE, strE, unE, convE, AV.int, AV.bool, AV.str, ivs, take, frameOf, firstRegion, refsA, refsL, one, cellsA, floatOk, apartT, List.map, if_true, if_false, E_P, E_glob0, E_glob1, reduceCtorEq, beq_self_eq_true, decide_true, decide_false, ↓reduceIte, Nat.reduceEqDiff, cond_true, cond_false, or_true, true_or, or_false, false_or, and_true, true_and, and_self, false_and, and_false, not_true, not_false_iff, Nat.reduceAdd, Nat.reduceSub, Nat.reduceMul, Nat.reduceLT, Nat.reduceLeDiff, Int.reduceToNat, Int.reduceLT, Int.reduceLE, Option.getD, Int.reduceMul, Int.reduceAdd, List.drop, List.take, Nat.reduceBEq, List.isEmpty, Int.reduceEq, Int.reduceNe, Int.reduceNeg, Int.reduceGT, Int.reduceGE, beq_true, beq_false, UInt8.reduceToNat, eqE, eq_self, foldE, maxE, minE, eq_T, eq_F, ndec, odec, adec, sdec, fillA, over, chop, List.replicate, leavesOk, leafOk, cellsEq, cellEq, E_ext, E_byref, en23, bs22, bs65, rowsI_len, h5, e', show ∀ B fr H, execT E B 23 (Code.loop _) fr H = rlG E B 23 (loopAt Tryd.f23 0) (gcn B (norm [0, 10, 11, 12] fr) H) from fun B fr H => rl_intro rfl mt23_4 mb23_4 zf23_4 hd23_4 fr H]
      exact ⟨_, rfl⟩
    · generalize chkL l.length 0 l = q at *
      rw [callT_eq Tryd.func23 rfl fok23 (by simp [Tryd.ntmps23])]
      simp (disch := first | omega | (simp only [List.length_append, List.length_map, List.length_set, List.length_cons, List.length_nil, List.length_take, List.length_drop, rowsI_len]; omega)) only [va0, va1, va2, va3, va4, va5, va6, va7, va8, va9, va10, va11, va12, va13, va14, va15, vb0, vb1, vb2, vb3, w_i8, w_u8, w_i16, w_u16, w_i32, w_u32, w_i64, w_u64, lt_T, lt_F, le_T, le_F, nlt_T, nlt_F, nle_T, nle_F, List.take_of_length_le, gB, gcW, gcR, posIn, renA, renL, Chunk.ren, Chunk.refs, evOpD, touchD, stepC, isFresh, nFresh, freshOf, mkR, hole, evL, evH, opd, get, putD, ofVal, cellOf, loadE, behind, lenE, idxAddrE, idxE, addPtr, intE, strE, unE, convE, AV.int, AV.bool, AV.str, ivs, take, frameOf, firstRegion, refsA, refsL, one, cellsA, floatOk, apartT, List.map, if_true, if_false, E_P, E_glob0, E_glob1, reduceCtorEq, beq_self_eq_true, decide_true, decide_false, ↓reduceIte, Nat.reduceEqDiff, cond_true, cond_false, or_true, true_or, or_false, false_or, and_true, true_and, and_self, false_and, and_false, not_true, not_false_iff, Nat.reduceAdd, Nat.reduceSub, Nat.reduceMul, Nat.reduceLT, Nat.reduceLeDiff, Int.reduceToNat, Int.reduceLT, Int.reduceLE, Option.getD, Int.reduceMul, Int.reduceAdd, List.drop, List.take, Nat.reduceBEq, List.isEmpty, Int.reduceEq, Int.reduceNe, Int.reduceNeg, Int.reduceGT, Int.reduceGE, beq_true, beq_false, UInt8.reduceToNat, eqE, eq_self, foldE, maxE, minE, eq_T, eq_F, ndec, odec, adec, sdec, fillA, over, chop, List.replicate, leavesOk, leafOk, cellsEq, cellEq, E_ext, E_byref, en23, bs22, bs65, rowsI_len, h5, e', h2, show ∀ B fr H, execT E B 23 (Code.loop _) fr H = rlG E B 23 (loopAt Tryd.f23 0) (gcn B (norm [0, 10, 11, 12] fr) H) from fun B fr H => rl_intro rfl mt23_4 mb23_4 zf23_4 hd23_4 fr H]
      exact ⟨_, rfl⟩
theorem ik23 (l : List Ins) (hl : (l.length : Int) < 9223372036854775808) (H : Hp) : isoK E (callT E) 23 [.i (.sl 2 (rowsI l) false)] H = some (.i (.v (.int .i64 (checkI l))), H) := isoK_val rfl rfl rfl (c23 l hl)
end Go.VI

namespace Go.VI
open Go.Proofs
set_option maxRecDepth 100000
set_option linter.unusedSimpArgs false
set_option linter.unusedVariables false
set_option maxHeartbeats 4000000
def rows64 (l : List Int) : List (List IV) := l.map fun n => [.v (.int .i64 n)]
theorem rows64_len (l : List Int) : (rows64 l).length = l.length := by simp [rows64]
theorem rows64_snoc (l : List Int) (n : Int) : rows64 l ++ [[.v (.int .i64 n)]] = rows64 (l ++ [n]) := by simp [rows64]
theorem rows64_at {l : List Int} {k : Nat} (h : k < l.length) : (rows64 l)[k]? = some [.v (.int .i64 l[k])] := by simp [rows64, h]
theorem rows64_set (l : List Int) (k : Nat) (x : Int) : (rows64 l).set k [.v (.int .i64 x)] = rows64 (l.set k x) := by simp [rows64, List.map_set]
theorem rows64_rep (n : Nat) (x : Int) : List.replicate n [IV.v (.int .i64 x)] = rows64 (List.replicate n x) := by simp [rows64]
end Go.VI

namespace Go.VI
open Go.Proofs
set_option maxRecDepth 100000
set_option linter.unusedSimpArgs false
set_option linter.unusedVariables false
set_option maxHeartbeats 4000000
theorem rows64_get {l : List Int} {k : Nat} (h : k < l.length) : (rows64 l)[k]? = some [.v (.int .i64 (l.getD k 0))] := by
  rw [rows64_at h, List.getD_eq_getElem?_getD, List.getElem?_eq_getElem h]; rfl
end Go.VI

namespace Go.VI
open Go.Proofs
set_option maxRecDepth 100000
set_option linter.unusedSimpArgs false
set_option linter.unusedVariables false
set_option maxHeartbeats 4000000
theorem c24 (op arg i : Int) : callT E 24 [.agg [.i (.v (.int .i64 op)), .i (.v (.int .i64 arg))], .i (.v (.int .i64 i))] [] = some (.clo (.func 32) [] [.ptr 0 0 0 0, .ptr 1 0 0 0], [.box [.i (.v (.int .i64 op)), .i (.v (.int .i64 arg))], .box [.i (.v (.int .i64 i))]]) := by
  rw [callT_eq Tryd.func24 rfl fok24 (by simp [Tryd.ntmps24])]
  simp (disch := first | omega | (simp only [List.length_append, List.length_map, List.length_set, List.length_cons, List.length_nil, List.length_take, List.length_drop]; omega)) only [va0, va1, va2, va3, va4, va5, va6, va7, va8, va9, va10, va11, va12, va13, va14, va15, vb0, vb1, vb2, vb3, w_i8, w_u8, w_i16, w_u16, w_i32, w_u32, w_i64, w_u64, lt_T, lt_F, le_T, le_F, nlt_T, nlt_F, nle_T, nle_F, List.take_of_length_le, gB, gcW, gcR, posIn, renA, renL, Chunk.ren, Chunk.refs, evOpD, touchD, stepC, isFresh, nFresh, freshOf, mkR, hole, evL, evH, opd, get, putD, ofVal, cellOf, loadE, behind, lenE, idxAddrE, idxE, addPtr, intE, strE, unE, convE, AV.int, AV.bool, AV.str, ivs, take, frameOf, firstRegion, refsA, refsL, one, cellsA, floatOk, apartT, List.map, if_true, if_false, E_P, E_glob0, E_glob1, reduceCtorEq, beq_self_eq_true, decide_true, decide_false, ↓reduceIte, Nat.reduceEqDiff, cond_true, cond_false, or_true, true_or, or_false, false_or, and_true, true_and, and_self, false_and, and_false, not_true, not_false_iff, Nat.reduceAdd, Nat.reduceSub, Nat.reduceMul, Nat.reduceLT, Nat.reduceLeDiff, Int.reduceToNat, Int.reduceLT, Int.reduceLE, Option.getD, Int.reduceMul, Int.reduceAdd, List.drop, List.take, Nat.reduceBEq, List.isEmpty, Int.reduceEq, Int.reduceNe, Int.reduceNeg, Int.reduceGT, Int.reduceGE, beq_true, beq_false, UInt8.reduceToNat, eqE, eq_self, foldE, maxE, minE, eq_T, eq_F, ndec, odec, adec, sdec, fillA, over, chop, List.replicate, leavesOk, leafOk, cellsEq, cellEq, E_ext, E_byref, en24]
theorem ik24 (op arg i : Int) (H : Hp) : isoK E (callT E) 24 [.agg [.i (.v (.int .i64 op)), .i (.v (.int .i64 arg))], .i (.v (.int .i64 i))] H = some (.clo (.func 32) [] [.ptr H.length 0 0 0, .ptr (H.length + 1) 0 0 0], H ++ [.box [.i (.v (.int .i64 op)), .i (.v (.int .i64 arg))], .box [.i (.v (.int .i64 i))]]) := by
  have h := c24 op arg i
  unfold isoK
  simp [exCl, show E.ext 24 = none from rfl, refsL, refsA, reach, renL, renA, posIn, h, Chunk.refs, Chunk.ren, setAll, backRen]
  exact Nat.add_comm _ _
theorem sucL_in {n k : Nat} {op arg : Int} (hk : k < n) (h : chk1 n k (op, arg) = 0) : (0 ≤ op ∧ op ≤ 20) ∧ ∀ x ∈ sucL op arg k, (k : Int) < x ∧ x ≤ n := by
  unfold chk1 at h
  simp only at h
  split at h
  · cases h
  rename_i h1
  split at h
  · cases h
  rename_i h2
  refine ⟨by omega, fun x hx => ?_⟩
  unfold sucL at hx
  rw [List.mem_append] at hx
  rcases hx with hx | hx
  · split at hx
    · cases hx
    · rw [List.mem_singleton] at hx; omega
  · split at hx
    · rename_i hj
      rw [List.mem_singleton] at hx
      subst hx
      have h1 : ¬ op = 1 := by omega
      unfold boundsS at h2
      rw [if_neg h1, if_pos hj] at h2
      simp only at h2
      omega
    · cases hx
end Go.VI

namespace Go.VI
open Go.Proofs
set_option maxRecDepth 100000
set_option linter.unusedSimpArgs false
set_option linter.unusedVariables false
set_option maxHeartbeats 4000000
theorem rows64_take (l : List Int) (k : Nat) : (rows64 l).take k = rows64 (l.take k) := by simp [rows64, List.map_take]
theorem chkL_ok {n : Int} : ∀ (l : List Ins) (k : Nat), chkL n k l = 0 → ∀ (j : Nat) (h : j < l.length), chk1 n ((k + j : Nat)) l[j] = 0
  | [], k, _, j, h => by simp at h
  | p :: r, k, hc, j, h => by
    simp only [chkL] at hc
    split at hc
    · rename_i h1
      cases j with
      | zero => simpa using h1
      | succ j =>
        have := chkL_ok r (k + 1) hc j (by simpa using h)
        simpa [Nat.add_assoc, Nat.add_comm 1 j] using this
    · rename_i h1
      exact absurd hc h1
theorem check_len {l : List Ins} (h : checkI l = 0) : l.length ≤ 500 := by
  unfold checkI at h
  split at h
  · cases h
  · omega
theorem check_ok {l : List Ins} (h : checkI l = 0) (j : Nat) (hj : j < l.length) : chk1 l.length j l[j] = 0 := by
  unfold checkI at h
  split at h
  · cases h
  · simpa using chkL_ok l 0 h j hj
end Go.VI

namespace Go.VI
open Go.Proofs
set_option maxRecDepth 100000
set_option linter.unusedSimpArgs false
set_option linter.unusedVariables false
set_option maxHeartbeats 4000000
theorem ran_true {f n : Nat} (h : (match call E n f [] [] with | some (.i (.v (.bool true)), _) => true | _ => false) = true) : ∃ L, callT E f [] [] = some (.i (.v (.bool true)), L) := by
  split at h
  · rename_i L hL; exact ⟨L, callT_of hL⟩
  · cases h
theorem ik11 (H : Hp) : isoK E (callT E) 11 [] H = some (.i (.v (.bool true)), H) := isoK_val rfl rfl rfl (ran_true (n := 200) (by kernel_rfl))
end Go.VI

namespace Go.VI
open Go.Proofs
set_option maxRecDepth 100000
set_option linter.unusedSimpArgs false
set_option linter.unusedVariables false
set_option maxHeartbeats 4000000
def fSet (i : Nat) : List Int → List Int → List Int
  | [], out => out
  | x :: xs, out => fSet i xs (out.set i (max (out.getD i 0) (out.getD x.toNat 0)))
def fStep (i : Nat) (p : Ins) (out : List Int) : List Int := (fSet i (sucL p.1 p.2 i) out).set i ((fSet i (sucL p.1 p.2 i) out).getD i 0 + 1)
def fRun (l : List Ins) : Nat → List Int → List Int
  | 0, out => out
  | k + 1, out => fRun l k (fStep k (l.getD k (0, 0)) out)
def fuelS (l : List Ins) : Int × Int := if checkI l = 0 then ((fRun l l.length (List.replicate (l.length + 1) 0)).getD 0 0, 0) else (0, checkI l)
theorem getD_set_int (l : List Int) (i j : Nat) (x : Int) : (l.set i x).getD j 0 = if i = j ∧ i < l.length then x else l.getD j 0 := by
  simp only [List.getD_eq_getElem?_getD, List.getElem?_set]
  by_cases h : i = j
  · subst h
    by_cases hl : i < l.length
    · simp [hl]
    · simp [hl]
  · simp [h]
theorem getD_mem_b {l : List Int} {P : Int → Prop} (h0 : P 0) (h : ∀ x ∈ l, P x) (j : Nat) : P (l.getD j 0) := by
  rw [List.getD_eq_getElem?_getD]
  cases hh : l[j]? with
  | none => exact h0
  | some x => exact h x (List.mem_of_getElem? hh)
theorem fSet_len (i : Nat) : ∀ (xs out : List Int), (fSet i xs out).length = out.length
  | [], out => rfl
  | x :: xs, out => by rw [fSet, fSet_len i xs, List.length_set]
theorem set_mem_b {l : List Int} {P : Int → Prop} {i : Nat} {v : Int} (hv : P v) (h : ∀ x ∈ l, P x) : ∀ x ∈ l.set i v, P x := fun x hx => by
  rcases List.mem_or_eq_of_mem_set hx with h1 | h1
  · exact h x h1
  · rw [h1]; exact hv
theorem fSet_b {i : Nat} {m : Int} (hm : 0 ≤ m) : ∀ (xs out : List Int), (∀ x ∈ out, 0 ≤ x ∧ x ≤ m) → ∀ x ∈ fSet i xs out, 0 ≤ x ∧ x ≤ m
  | [], out, h => h
  | x :: xs, out, h => by
    have h1 := getD_mem_b (P := fun x => 0 ≤ x ∧ x ≤ m) ⟨by omega, hm⟩ h i
    have h2 := getD_mem_b (P := fun x => 0 ≤ x ∧ x ≤ m) ⟨by omega, hm⟩ h x.toNat
    exact fSet_b hm xs _ (set_mem_b (by omega) h)
theorem fStep_len (i : Nat) (p : Ins) (out : List Int) : (fStep i p out).length = out.length := by rw [fStep, List.length_set, fSet_len]
theorem fStep_b {i : Nat} {p : Ins} {m : Int} (hm : 0 ≤ m) {out : List Int} (h : ∀ x ∈ out, 0 ≤ x ∧ x ≤ m) : ∀ x ∈ fStep i p out, 0 ≤ x ∧ x ≤ m + 1 := by
  have h1 := fSet_b (i := i) hm (sucL p.1 p.2 i) out h
  have h2 := getD_mem_b (P := fun x => 0 ≤ x ∧ x ≤ m) ⟨by omega, hm⟩ h1 i
  unfold fStep
  exact set_mem_b (by omega) fun x hx => by have := h1 x hx; omega
theorem rd16 (l : List Ins) (hl : l.length < 100000) (n : Nat) (hn : n = l.length + 1) (out : List Int) (ho : out.length = n) (op arg : Int) (i : Nat) (hi : i < l.length) (x : Int) (hx : 0 ≤ x ∧ x ≤ l.length) :
    rdF E 16 (rfAt Tryd.f16 0) ((30, .i (.v (.int .i64 x))) :: [(0, .i (.sl 2 (rowsI l) false)), (2, .i (.v (.int .i64 0))), (3, .i (.v (.int .i64 0))), (5, .ptr 0 0 0 0), (6, .ptr 2 0 0 0), (29, .clo (.func 32) [] [.ptr 3 0 0 0, .ptr 4 0 0 0])]) [.box [.ref 1 0 0 (n)], .sl 1 0 (rows64 (out)) false, .box [.i (.v (.int .i64 (i)))], .box [.i (.v (.int .i64 (op))), .i (.v (.int .i64 (arg)))], .box [.i (.v (.int .i64 (i)))]] =
      some (.normal, [.box [.ref 1 0 0 (n)], .sl 1 0 (rows64 (out.set i (max (out.getD i 0) (out.getD x.toNat 0)))) false, .box [.i (.v (.int .i64 (i)))], .box [.i (.v (.int .i64 (op))), .i (.v (.int .i64 (arg)))], .box [.i (.v (.int .i64 (i)))]]) := by
  have hrow := rows64_get (l := out) (k := x.toNat) (by omega)
  have hrow2 := rows64_get (l := out) (k := i) (by omega)
  generalize out.getD x.toNat 0 = y at *
  generalize out.getD i 0 = z at *
  rw [rd_step (fn := Tryd.f16) (k := 0) rfl]
  simp (disch := first | omega | (simp only [List.length_append, List.length_map, List.length_set, List.length_cons, List.length_nil, List.length_take, List.length_drop, rows64_len, rowsI_len]; omega)) only [va0, va1, va2, va3, va4, va5, va6, va7, va8, va9, va10, va11, va12, va13, va14, va15, vb0, vb1, vb2, vb3, w_i8, w_u8, w_i16, w_u16, w_i32, w_u32, w_i64, w_u64, lt_T, lt_F, le_T, le_F, nlt_T, nlt_F, nle_T, nle_F, List.take_of_length_le, gB, gcW, gcR, posIn, renA, renL, Chunk.ren, Chunk.refs, evOpD, touchD, stepC, isFresh, nFresh, freshOf, mkR, hole, evL, evH, opd, get, putD, ofVal, cellOf, loadE, behind, lenE, idxAddrE, idxE, addPtr, intE, strE, unE, convE, AV.int, AV.bool, AV.str, ivs, take, frameOf, firstRegion, refsA, refsL, one, cellsA, floatOk, apartT, List.map, if_true, if_false, E_P, E_glob0, E_glob1, reduceCtorEq, beq_self_eq_true, decide_true, decide_false, ↓reduceIte, Nat.reduceEqDiff, cond_true, cond_false, or_true, true_or, or_false, false_or, and_true, true_and, and_self, false_and, and_false, not_true, not_false_iff, Nat.reduceAdd, Nat.reduceSub, Nat.reduceMul, Nat.reduceLT, Nat.reduceLeDiff, Int.reduceToNat, Int.reduceLT, Int.reduceLE, Option.getD, Int.reduceMul, Int.reduceAdd, List.drop, List.take, Nat.reduceBEq, List.isEmpty, Int.reduceEq, Int.reduceNe, Int.reduceNeg, Int.reduceGT, Int.reduceGE, beq_true, beq_false, UInt8.reduceToNat, eqE, eq_self, foldE, maxE, minE, eq_T, eq_F, ndec, odec, adec, sdec, fillA, over, chop, List.replicate, leavesOk, leafOk, cellsEq, cellEq, E_ext, E_byref, en16, bs22, bs24, rows64_len, rowsI_len, hrow, hrow2, rows64_set]
theorem rg16 (l : List Ins) (hl : l.length < 100000) (n : Nat) (hn : n = l.length + 1) (op arg : Int) (i : Nat) (hi : i < l.length) : ∀ (xs : List Int), (∀ x ∈ xs, 0 ≤ x ∧ x ≤ l.length) → ∀ out : List Int, out.length = n →
    rgE (rdF E 16 (rfAt Tryd.f16 0)) 30 [(0, .i (.sl 2 (rowsI l) false)), (2, .i (.v (.int .i64 0))), (3, .i (.v (.int .i64 0))), (5, .ptr 0 0 0 0), (6, .ptr 2 0 0 0), (29, .clo (.func 32) [] [.ptr 3 0 0 0, .ptr 4 0 0 0])] [.ptr 3 0 0 0, .ptr 4 0 0 0] [[op, arg], [(i : Int)]] xs [.box [.ref 1 0 0 (n)], .sl 1 0 (rows64 (out)) false, .box [.i (.v (.int .i64 (i)))], .box [.i (.v (.int .i64 (op))), .i (.v (.int .i64 (arg)))], .box [.i (.v (.int .i64 (i)))]] = some (.normal, [(0, .i (.sl 2 (rowsI l) false)), (2, .i (.v (.int .i64 0))), (3, .i (.v (.int .i64 0))), (5, .ptr 0 0 0 0), (6, .ptr 2 0 0 0), (29, .clo (.func 32) [] [.ptr 3 0 0 0, .ptr 4 0 0 0])], [.box [.ref 1 0 0 (n)], .sl 1 0 (rows64 (fSet i xs out)) false, .box [.i (.v (.int .i64 (i)))], .box [.i (.v (.int .i64 (op))), .i (.v (.int .i64 (arg)))], .box [.i (.v (.int .i64 (i)))]])
  | [], _, out, ho => rfl
  | x :: xs, hx, out, ho => by
    have h1 := rd16 l hl n hn out ho op arg i hi x (hx x (.head _))
    rw [rgE_cons, h1, rgN_n, if_pos (show capsI _ [.ptr 3 0 0 0, .ptr 4 0 0 0] = some [[op, arg], [(i : Int)]] from rfl), fSet]
    exact rg16 l hl n hn op arg i hi xs (fun y hy => hx y (.tail _ hy)) _ (by simpa using ho)
end Go.VI

namespace Go.VI
open Go.Proofs
set_option maxRecDepth 100000
set_option linter.unusedSimpArgs false
set_option linter.unusedVariables false
set_option maxHeartbeats 4000000
theorem l16_0 (l : List Ins) (hl : l.length ≤ 500) (n : Nat) (hn : n = l.length + 1) (hok : ∀ (j : Nat) (h : j < l.length), chk1 l.length j l[j] = 0) : ∀ (k : Nat) (hk : k ≤ l.length) (out : List Int) (ho : out.length = n) (hr : ∀ x ∈ out, 0 ≤ x ∧ x ≤ l.length - k),
    ∃ fr, rl E 0 16 (loopAt Tryd.f16 0) [(0, .i (.sl 2 (rowsI l) false)), (2, .i (.v (.int .i64 0))), (3, .i (.v (.int .i64 0))), (5, .ptr 0 0 0 0), (6, .ptr 2 0 0 0)] [.box [.ref 1 0 0 (n)], .sl 1 0 (rows64 (out)) false, .box [.i (.v (.int .i64 ((k : Int) - 1)))]] = some (.exit 0, fr, [.box [.ref 1 0 0 (n)], .sl 1 0 (rows64 (fRun l k out)) false, .box [.i (.v (.int .i64 (-1)))]]) ∧ get 5 fr = .ptr 0 0 0 0
  | 0, hk, out, ho, hr => by
    rw [rl_step (fn := Tryd.f16) (k := 0) rfl]
    rw [fRun]
    simp (disch := first | omega | (simp only [List.length_append, List.length_map, List.length_set, List.length_cons, List.length_nil, List.length_take, List.length_drop, rows64_len, rowsI_len]; omega)) only [va0, va1, va2, va3, va4, va5, va6, va7, va8, va9, va10, va11, va12, va13, va14, va15, vb0, vb1, vb2, vb3, w_i8, w_u8, w_i16, w_u16, w_i32, w_u32, w_i64, w_u64, lt_T, lt_F, le_T, le_F, nlt_T, nlt_F, nle_T, nle_F, List.take_of_length_le, gB, gcW, gcR, posIn, renA, renL, Chunk.ren, Chunk.refs, evOpD, touchD, stepC, isFresh, nFresh, freshOf, mkR, hole, evL, evH, opd, get, putD, ofVal, cellOf, loadE, behind, lenE, idxAddrE, idxE, addPtr, intE, strE, unE, convE, AV.int, AV.bool, AV.str, ivs, take, frameOf, firstRegion, refsA, refsL, one, cellsA, floatOk, apartT, List.map, if_true, if_false, E_P, E_glob0, E_glob1, reduceCtorEq, beq_self_eq_true, decide_true, decide_false, ↓reduceIte, Nat.reduceEqDiff, cond_true, cond_false, or_true, true_or, or_false, false_or, and_true, true_and, and_self, false_and, and_false, not_true, not_false_iff, Nat.reduceAdd, Nat.reduceSub, Nat.reduceMul, Nat.reduceLT, Nat.reduceLeDiff, Int.reduceToNat, Int.reduceLT, Int.reduceLE, Option.getD, Int.reduceMul, Int.reduceAdd, List.drop, List.take, Nat.reduceBEq, List.isEmpty, Int.reduceEq, Int.reduceNe, Int.reduceNeg, Int.reduceGT, Int.reduceGE, beq_true, beq_false, UInt8.reduceToNat, eqE, eq_self, foldE, maxE, minE, eq_T, eq_F, ndec, odec, adec, sdec, fillA, over, chop, List.replicate, leavesOk, leafOk, cellsEq, cellEq, E_ext, E_byref, en16, bs22, bs24, rows64_len, rowsI_len, show ∀ B fr H, execT E B 16 (Code.loop _) fr H = rlG E B 16 (loopAt Tryd.f16 0) (gcn B (norm [0, 2, 3, 5, 6] fr) H) from fun B fr H => rl_intro rfl mt16_6 mb16_6 zf16_6 hd16_6 fr H]
    exact ⟨_, rfl, rfl⟩
  | k + 1, hk, out, ho, hr => by
    rw [rl_step (fn := Tryd.f16) (k := 0) rfl]
    have hlt : k < l.length := hk
    have hrow := rowsI_at hlt
    have hck := hok k hlt
    have hb := fStep_b (i := k) (p := l.getD k (0, 0)) (m := (l.length : Int) - (k + 1 : Nat)) (by omega) hr
    obtain ⟨fr, e, hh⟩ := l16_0 l hl n hn hok k (by omega) (fStep k (l.getD k (0, 0)) out) (by rw [fStep_len]; exact ho) (fun x hx => by have := hb x hx; omega)
    rw [fRun]
    have hgd : l.getD k (0, 0) = l[k] := by rw [List.getD_eq_getElem?_getD, List.getElem?_eq_getElem hlt]; rfl
    rw [hgd] at e ⊢
    obtain ⟨op, arg, hp⟩ : ∃ op arg, l[k] = (op, arg) := ⟨_, _, rfl⟩
    rw [hp] at hrow hck e ⊢
    simp only at hrow
    obtain ⟨⟨o1, o2⟩, hsuc⟩ := sucL_in hlt hck
    have hrg := rg16 l (by omega) n hn op arg k hlt (sucL op arg k) (fun x hx => by have := hsuc x hx; omega) out ho
    have hsq := seqSucc_eq op arg k (by omega) (by omega)
    have hb2 := fSet_b (i := k) (m := (l.length : Int) - (k + 1 : Nat)) (by omega) (sucL op arg k) out hr
    have hfl := fSet_len k (sucL op arg k) out
    unfold fStep at e ⊢
    simp only at e ⊢
    generalize fSet k (sucL op arg k) out = o2 at *
    have hrow2 := rows64_get (l := o2) (k := k) (by omega)
    have hz := getD_mem_b (P := fun x => 0 ≤ x ∧ x ≤ (l.length : Int) - (k + 1 : Nat)) ⟨by omega, by omega⟩ hb2 k
    generalize o2.getD k 0 = z at *
    generalize sucL op arg k = xs at *
    have hcast : ((k + 1 : Nat) : Int) - 1 = k := by omega
    rw [hcast]
    refine ⟨fr, Eq.trans ?_ e, hh⟩
    clear e hh hb hb2 hgd hp
    simp (disch := first | omega | (simp only [List.length_append, List.length_map, List.length_set, List.length_cons, List.length_nil, List.length_take, List.length_drop, rowsI_len, rows64_len]; omega)) only [va0, va1, va2, va3, va4, va5, va6, va7, va8, va9, va10, va11, va12, va13, va14, va15, vb0, vb1, vb2, vb3, w_i8, w_u8, w_i16, w_u16, w_i32, w_u32, w_i64, w_u64, lt_T, lt_F, le_T, le_F, nlt_T, nlt_F, nle_T, nle_F, List.take_of_length_le, gB, gcW, gcR, posIn, renA, renL, Chunk.ren, Chunk.refs, evOpD, touchD, stepC, isFresh, nFresh, freshOf, mkR, hole, evL, evH, opd, get, putD, ofVal, cellOf, loadE, behind, lenE, idxAddrE, idxE, addPtr, intE, strE, unE, convE, AV.int, AV.bool, AV.str, ivs, take, frameOf, firstRegion, refsA, refsL, one, cellsA, floatOk, apartT, List.map, if_true, if_false, E_P, E_glob0, E_glob1, reduceCtorEq, beq_self_eq_true, decide_true, decide_false, ↓reduceIte, Nat.reduceEqDiff, cond_true, cond_false, or_true, true_or, or_false, false_or, and_true, true_and, and_self, false_and, and_false, not_true, not_false_iff, Nat.reduceAdd, Nat.reduceSub, Nat.reduceMul, Nat.reduceLT, Nat.reduceLeDiff, Int.reduceToNat, Int.reduceLT, Int.reduceLE, Option.getD, Int.reduceMul, Int.reduceAdd, List.drop, List.take, Nat.reduceBEq, List.isEmpty, Int.reduceEq, Int.reduceNe, Int.reduceNeg, Int.reduceGT, Int.reduceGE, beq_true, beq_false, UInt8.reduceToNat, eqE, eq_self, foldE, maxE, minE, eq_T, eq_F, ndec, odec, adec, sdec, fillA, over, chop, List.replicate, leavesOk, leafOk, cellsEq, cellEq, E_ext, E_byref, en16, bs22, bs24, hrow, hrow2, rowsI_len, rows64_len, rows64_set, ik24, hsq, hrg, show ∀ B fr H, execT E B 16 (Code.rangeFunc _ _ _ _) fr H = rgO (rdF E 16 (rfAt Tryd.f16 0)) 30 fr H (seqE E H (opd E fr _)) from fun B fr H => rf_intro rfl rfl fr H, show ∀ B fr H, execT E B 16 (Code.loop _) fr H = rlG E B 16 (loopAt Tryd.f16 0) (gcn B (norm [0, 2, 3, 5, 6] fr) H) from fun B fr H => rl_intro rfl mt16_6 mb16_6 zf16_6 hd16_6 fr H]
theorem c16 (l : List Ins) (hl : (l.length : Int) < 9223372036854775808) : ∃ L, callT E 16 [.i (.sl 2 (rowsI l) false)] [] = some (.tup [.i (.v (.int .i64 (fuelS l).1)), .i (.v (.int .i64 (fuelS l).2))], L) := by
  have hC := fun H => ik23 l hl H
  unfold fuelS
  by_cases h0 : checkI l = 0
  rotate_left
  · rw [if_neg h0]
    generalize checkI l = q at *
    rw [callT_eq Tryd.func16 rfl fok16 (by simp [Tryd.ntmps16])]
    simp (disch := first | omega | (simp only [List.length_append, List.length_map, List.length_set, List.length_cons, List.length_nil, List.length_take, List.length_drop]; omega)) only [va0, va1, va2, va3, va4, va5, va6, va7, va8, va9, va10, va11, va12, va13, va14, va15, vb0, vb1, vb2, vb3, w_i8, w_u8, w_i16, w_u16, w_i32, w_u32, w_i64, w_u64, lt_T, lt_F, le_T, le_F, nlt_T, nlt_F, nle_T, nle_F, List.take_of_length_le, gB, gcW, gcR, posIn, renA, renL, Chunk.ren, Chunk.refs, evOpD, touchD, stepC, isFresh, nFresh, freshOf, mkR, hole, evL, evH, opd, get, putD, ofVal, cellOf, loadE, behind, lenE, idxAddrE, idxE, addPtr, intE, strE, unE, convE, AV.int, AV.bool, AV.str, ivs, take, frameOf, firstRegion, refsA, refsL, one, cellsA, floatOk, apartT, List.map, if_true, if_false, E_P, E_glob0, E_glob1, reduceCtorEq, beq_self_eq_true, decide_true, decide_false, ↓reduceIte, Nat.reduceEqDiff, cond_true, cond_false, or_true, true_or, or_false, false_or, and_true, true_and, and_self, false_and, and_false, not_true, not_false_iff, Nat.reduceAdd, Nat.reduceSub, Nat.reduceMul, Nat.reduceLT, Nat.reduceLeDiff, Int.reduceToNat, Int.reduceLT, Int.reduceLE, Option.getD, Int.reduceMul, Int.reduceAdd, List.drop, List.take, Nat.reduceBEq, List.isEmpty, Int.reduceEq, Int.reduceNe, Int.reduceNeg, Int.reduceGT, Int.reduceGE, beq_true, beq_false, UInt8.reduceToNat, eqE, eq_self, foldE, maxE, minE, eq_T, eq_F, ndec, odec, adec, sdec, fillA, over, chop, List.replicate, leavesOk, leafOk, cellsEq, cellEq, E_ext, E_byref, en16, bs22, bs24, hC, h0]
    exact ⟨_, rfl⟩
  · rw [if_pos h0]
    rw [h0] at hC
    have h5 := check_len h0
    have hnn : ((l.length : Int) + 1).toNat = l.length + 1 := by omega
    obtain ⟨fr, e, f5⟩ := l16_0 l h5 (l.length + 1) rfl (check_ok h0) l.length (Nat.le_refl _) (List.replicate (l.length + 1) 0) (by simp) (fun x hx => by have := List.eq_of_mem_replicate hx; omega)
    have hfl : (fRun l l.length (List.replicate (l.length + 1) 0)).length = l.length + 1 := by
      have : ∀ (k : Nat) (out : List Int), (fRun l k out).length = out.length := fun k => by
        induction k with
        | zero => intro out; rfl
        | succ k ih => intro out; rw [fRun, ih, fStep_len]
      rw [this, List.length_replicate]
    have hrow := rows64_get (l := fRun l l.length (List.replicate (l.length + 1) 0)) (k := 0) (by omega)
    generalize fRun l l.length (List.replicate (l.length + 1) 0) = o1 at *
    generalize o1.getD 0 0 = z at *
    have e' : rl E 0 16 (loopAt Tryd.f16 0) [(0, .i (.sl 2 (rowsI l) false)), (2, .i (.v (.int .i64 0))), (3, .i (.v (.int .i64 0))), (5, .ptr 0 0 0 0), (6, .ptr 2 0 0 0)] [.box [.ref 1 0 0 ((l.length + 1 : Nat))], .sl 1 0 (rows64 (0 :: List.replicate l.length 0)) false, .box [.i (.v (.int .i64 ((l.length : Int) - 1)))]] = _ := e
    have e2 : rl E 0 16 (loopAt Tryd.f16 0) [(0, .i (.sl 2 (rowsI l) false)), (2, .i (.v (.int .i64 0))), (3, .i (.v (.int .i64 0))), (5, .ptr 0 0 0 0), (6, .ptr 2 0 0 0)] [.box [.ref 1 0 0 (l.length + 1)], .sl 1 0 ([.v (.int .i64 0)] :: rows64 (List.replicate l.length 0)) false, .box [.i (.v (.int .i64 ((l.length : Int) - 1)))]] = _ := e'
    clear e e'
    rw [callT_eq Tryd.func16 rfl fok16 (by simp [Tryd.ntmps16])]
    simp (disch := first | omega | (simp only [List.length_append, List.length_map, List.length_set, List.length_cons, List.length_nil, List.length_take, List.length_drop, rowsI_len, rows64_len]; omega)) only [va0, va1, va2, va3, va4, va5, va6, va7, va8, va9, va10, va11, va12, va13, va14, va15, vb0, vb1, vb2, vb3, w_i8, w_u8, w_i16, w_u16, w_i32, w_u32, w_i64, w_u64, lt_T, lt_F, le_T, le_F, nlt_T, nlt_F, nle_T, nle_F, List.take_of_length_le, gB, gcW, gcR, posIn, renA, renL, Chunk.ren, Chunk.refs, evOpD, touchD, stepC, isFresh, nFresh, freshOf, mkR, hole, evL, evH, opd, get, putD, ofVal, cellOf, loadE, behind, lenE, idxAddrE, idxE, addPtr, intE, strE, unE, convE, AV.int, AV.bool, AV.str, ivs, take, frameOf, firstRegion, refsA, refsL, one, cellsA, floatOk, apartT, List.map, if_true, if_false, E_P, E_glob0, E_glob1, reduceCtorEq, beq_self_eq_true, decide_true, decide_false, ↓reduceIte, Nat.reduceEqDiff, cond_true, cond_false, or_true, true_or, or_false, false_or, and_true, true_and, and_self, false_and, and_false, not_true, not_false_iff, Nat.reduceAdd, Nat.reduceSub, Nat.reduceMul, Nat.reduceLT, Nat.reduceLeDiff, Int.reduceToNat, Int.reduceLT, Int.reduceLE, Option.getD, Int.reduceMul, Int.reduceAdd, List.drop, List.take, Nat.reduceBEq, List.isEmpty, Int.reduceEq, Int.reduceNe, Int.reduceNeg, Int.reduceGT, Int.reduceGE, beq_true, beq_false, UInt8.reduceToNat, eqE, eq_self, foldE, maxE, minE, eq_T, eq_F, ndec, odec, adec, sdec, fillA, over, chop, List.replicate, leavesOk, leafOk, cellsEq, cellEq, E_ext, E_byref, en16, bs22, bs24, hC, rowsI_len, rows64_len, rows64_rep, hnn, hrow, e2, f5, show ∀ B fr H, execT E B 16 (Code.loop _) fr H = rlG E B 16 (loopAt Tryd.f16 0) (gcn B (norm [0, 2, 3, 5, 6] fr) H) from fun B fr H => rl_intro rfl mt16_6 mb16_6 zf16_6 hd16_6 fr H]
    exact ⟨_, rfl⟩
theorem ik16 (l : List Ins) (hl : (l.length : Int) < 9223372036854775808) (H : Hp) : isoK E (callT E) 16 [.i (.sl 2 (rowsI l) false)] H = some (.tup [.i (.v (.int .i64 (fuelS l).1)), .i (.v (.int .i64 (fuelS l).2))], H) := isoK_val rfl rfl rfl (c16 l hl)
end Go.VI

namespace Go.VI
open Go.Proofs
set_option maxRecDepth 100000
set_option linter.unusedSimpArgs false
set_option linter.unusedVariables false
set_option maxHeartbeats 4000000
def walkF (l : List Ins) : Nat → Nat → Int → List Int
  | 0, _, _ => []
  | f + 1, i, q => if i < l.length then (i : Int) :: (if (l.getD i (0, 0)).1 = 0 then [] else if (l.getD i (0, 0)).1 = 17 then walkF l f (l.getD i (0, 0)).2.toNat q else if (l.getD i (0, 0)).1 = 18 then walkF l f (if q % 2 = 1 then (l.getD i (0, 0)).2.toNat else i + 1) (q / 2) else walkF l f (i + 1) q) else []
theorem chk1_jump {n k : Nat} {op arg : Int} (h : chk1 n k (op, arg) = 0) (hj : op = 17 ∨ op = 18) : (k : Int) + 1 ≤ arg ∧ arg ≤ n := by
  unfold chk1 at h
  simp only at h
  split at h
  · cases h
  rename_i h1
  split at h
  · cases h
  rename_i h2
  have h1 : ¬ op = 1 := by omega
  unfold boundsS at h2
  rw [if_neg h1, if_pos hj] at h2
  simp only at h2
  omega
def wP (out : List Int) (fr : Fr) (ex : Ex) (H' : Hp) : Prop := (ex = .exit 0 ∧ get 5 fr = .ref 0 0 0 out.length ∧ H'[0]? = some (.sl 1 0 (rows64 out) false)) ∨ (ex = .ret ∧ get 4 fr = .ref 0 1 0 out.length ∧ H'[0]? = some (.sl 1 1 (rows64 out) false))
theorem l20 (l : List Ins) (hl : l.length ≤ 500) (hok : ∀ (j : Nat) (h : j < l.length), chk1 l.length j l[j] = 0) : ∀ (f k : Nat) (hk : k ≤ l.length) (hf : l.length + 1 ≤ k + f) (out : List Int) (ho : out.length ≤ k) (q : Int) (hq : 0 ≤ q ∧ q ≤ 4294967295),
    ∃ fr ex H', rl E 0 20 (loopAt Tryd.f20 0) [(0, .i (.sl 2 (rowsI l) false)), (1, .i (.v (.int .u32 q))), (5, .ref 0 0 0 out.length), (6, .i (.v (.int .i64 k)))] [.sl 1 0 (rows64 out) false] = some (ex, fr, H') ∧ wP (out ++ walkF l f k q) fr ex H'
  | 0, k, hk, hf, out, ho, q, hq => by omega
  | f + 1, k, hk, hf, out, ho, q, hq => by
    rw [rl_step (fn := Tryd.f20) (k := 0) rfl]
    rw [walkF]
    by_cases hlt : k < l.length
    · have htm := Int.tmod_eq_emod_of_nonneg (a := q) (b := 2) hq.1
      have htd := Int.tdiv_eq_ediv_of_nonneg (a := q) (b := 2) hq.1
      have hrow := rowsI_at hlt
      have hck := hok k hlt
      rw [if_pos hlt]
      have hgd : l.getD k (0, 0) = l[k] := by rw [List.getD_eq_getElem?_getD, List.getElem?_eq_getElem hlt]; rfl
      rw [hgd]
      have ht : List.take out.length (rows64 out) = rows64 out := by rw [rows64_take, List.take_length]
      have ih := fun k' (h1 : k + 1 ≤ k') (h2 : k' ≤ l.length) q' hq' => l20 l hl hok f k' h2 (by omega) (out ++ [(k : Int)]) (by rw [List.length_append]; simp only [List.length_cons, List.length_nil]; omega) q' hq'
      obtain ⟨op, arg, hp⟩ : ∃ op arg, l[k] = (op, arg) := ⟨_, _, rfl⟩
      rw [hp] at hrow hck ⊢
      simp only at hrow ⊢
      by_cases h0 : op = 0
      · rw [if_pos h0]
        subst h0
        clear ih
        simp (disch := first | omega | (simp only [List.length_append, List.length_map, List.length_set, List.length_cons, List.length_nil, List.length_take, List.length_drop, rows64_len, rowsI_len]; omega)) only [va0, va1, va2, va3, va4, va5, va6, va7, va8, va9, va10, va11, va12, va13, va14, va15, vb0, vb1, vb2, vb3, w_i8, w_u8, w_i16, w_u16, w_i32, w_u32, w_i64, w_u64, lt_T, lt_F, le_T, le_F, nlt_T, nlt_F, nle_T, nle_F, List.take_of_length_le, gB, gcW, gcR, posIn, renA, renL, Chunk.ren, Chunk.refs, evOpD, touchD, stepC, isFresh, nFresh, freshOf, mkR, hole, evL, evH, opd, get, putD, ofVal, cellOf, loadE, behind, lenE, idxAddrE, idxE, addPtr, intE, strE, unE, convE, AV.int, AV.bool, AV.str, ivs, take, frameOf, firstRegion, refsA, refsL, one, cellsA, floatOk, apartT, List.map, if_true, if_false, E_P, E_glob0, E_glob1, reduceCtorEq, beq_self_eq_true, decide_true, decide_false, ↓reduceIte, Nat.reduceEqDiff, cond_true, cond_false, or_true, true_or, or_false, false_or, and_true, true_and, and_self, false_and, and_false, not_true, not_false_iff, Nat.reduceAdd, Nat.reduceSub, Nat.reduceMul, Nat.reduceLT, Nat.reduceLeDiff, Int.reduceToNat, Int.reduceLT, Int.reduceLE, Option.getD, Int.reduceMul, Int.reduceAdd, List.drop, List.take, Nat.reduceBEq, List.isEmpty, Int.reduceEq, Int.reduceNe, Int.reduceNeg, Int.reduceGT, Int.reduceGE, beq_true, beq_false, UInt8.reduceToNat, eqE, eq_self, foldE, maxE, minE, eq_T, eq_F, ndec, odec, adec, sdec, fillA, over, chop, List.replicate, leavesOk, leafOk, cellsEq, cellEq, E_ext, E_byref, en20, bs22, bs24, hrow, rows64_len, rowsI_len, rows64_snoc, ht, show ∀ B fr H, execT E B 20 (Code.loop _) fr H = rlM E B 20 (loopAt Tryd.f20 0) [0, 1, 5, 6] [] (matF [(5, 1)] fr H).1 (matB [] (matF [(5, 1)] fr H).1 (matF [(5, 1)] fr H).2) from fun B fr H => rl_introM rfl mt20_3 mb20_3 zf20_3 hd20_3 fr H]
        refine ⟨_, _, _, rfl, .inr ?_⟩
        refine ⟨rfl, ?_, rfl⟩
        rw [List.length_append]; rfl
      · rw [if_neg h0]
        by_cases h17 : op = 17
        · rw [if_pos h17]
          have hj := chk1_jump hck (.inl h17)
          obtain ⟨fr, ex, H', e, hh⟩ := ih arg.toNat (by omega) (by omega) q hq
          rw [List.append_assoc] at hh
          refine ⟨fr, ex, H', Eq.trans ?_ e, hh⟩
          have hc : ((arg.toNat : Nat) : Int) = arg := by omega
          rw [hc]
          subst h17
          clear e hh ih
          simp (disch := first | omega | (simp only [List.length_append, List.length_map, List.length_set, List.length_cons, List.length_nil, List.length_take, List.length_drop, rows64_len, rowsI_len]; omega)) only [va0, va1, va2, va3, va4, va5, va6, va7, va8, va9, va10, va11, va12, va13, va14, va15, vb0, vb1, vb2, vb3, w_i8, w_u8, w_i16, w_u16, w_i32, w_u32, w_i64, w_u64, lt_T, lt_F, le_T, le_F, nlt_T, nlt_F, nle_T, nle_F, List.take_of_length_le, gB, gcW, gcR, posIn, renA, renL, Chunk.ren, Chunk.refs, evOpD, touchD, stepC, isFresh, nFresh, freshOf, mkR, hole, evL, evH, opd, get, putD, ofVal, cellOf, loadE, behind, lenE, idxAddrE, idxE, addPtr, intE, strE, unE, convE, AV.int, AV.bool, AV.str, ivs, take, frameOf, firstRegion, refsA, refsL, one, cellsA, floatOk, apartT, List.map, if_true, if_false, E_P, E_glob0, E_glob1, reduceCtorEq, beq_self_eq_true, decide_true, decide_false, ↓reduceIte, Nat.reduceEqDiff, cond_true, cond_false, or_true, true_or, or_false, false_or, and_true, true_and, and_self, false_and, and_false, not_true, not_false_iff, Nat.reduceAdd, Nat.reduceSub, Nat.reduceMul, Nat.reduceLT, Nat.reduceLeDiff, Int.reduceToNat, Int.reduceLT, Int.reduceLE, Option.getD, Int.reduceMul, Int.reduceAdd, List.drop, List.take, Nat.reduceBEq, List.isEmpty, Int.reduceEq, Int.reduceNe, Int.reduceNeg, Int.reduceGT, Int.reduceGE, beq_true, beq_false, UInt8.reduceToNat, eqE, eq_self, foldE, maxE, minE, eq_T, eq_F, ndec, odec, adec, sdec, fillA, over, chop, List.replicate, leavesOk, leafOk, cellsEq, cellEq, E_ext, E_byref, en20, bs22, bs24, hrow, rows64_len, rowsI_len, rows64_snoc, ht, show ∀ B fr H, execT E B 20 (Code.loop _) fr H = rlM E B 20 (loopAt Tryd.f20 0) [0, 1, 5, 6] [] (matF [(5, 1)] fr H).1 (matB [] (matF [(5, 1)] fr H).1 (matF [(5, 1)] fr H).2) from fun B fr H => rl_introM rfl mt20_3 mb20_3 zf20_3 hd20_3 fr H]
        · rw [if_neg h17]
          by_cases h18 : op = 18
          · rw [if_pos h18]
            have hj := chk1_jump hck (.inr h18)
            by_cases h1 : q % 2 = 1
            · rw [if_pos h1]
              obtain ⟨fr, ex, H', e, hh⟩ := ih arg.toNat (by omega) (by omega) (q / 2) (by omega)
              rw [List.append_assoc] at hh
              refine ⟨fr, ex, H', Eq.trans ?_ e, hh⟩
              have hc : ((arg.toNat : Nat) : Int) = arg := by omega
              rw [hc]
              subst h18
              clear e hh ih
              simp (disch := first | omega | (simp only [List.length_append, List.length_map, List.length_set, List.length_cons, List.length_nil, List.length_take, List.length_drop, rows64_len, rowsI_len]; omega)) only [va0, va1, va2, va3, va4, va5, va6, va7, va8, va9, va10, va11, va12, va13, va14, va15, vb0, vb1, vb2, vb3, w_i8, w_u8, w_i16, w_u16, w_i32, w_u32, w_i64, w_u64, lt_T, lt_F, le_T, le_F, nlt_T, nlt_F, nle_T, nle_F, List.take_of_length_le, gB, gcW, gcR, posIn, renA, renL, Chunk.ren, Chunk.refs, evOpD, touchD, stepC, isFresh, nFresh, freshOf, mkR, hole, evL, evH, opd, get, putD, ofVal, cellOf, loadE, behind, lenE, idxAddrE, idxE, addPtr, intE, strE, unE, convE, AV.int, AV.bool, AV.str, ivs, take, frameOf, firstRegion, refsA, refsL, one, cellsA, floatOk, apartT, List.map, if_true, if_false, E_P, E_glob0, E_glob1, reduceCtorEq, beq_self_eq_true, decide_true, decide_false, ↓reduceIte, Nat.reduceEqDiff, cond_true, cond_false, or_true, true_or, or_false, false_or, and_true, true_and, and_self, false_and, and_false, not_true, not_false_iff, Nat.reduceAdd, Nat.reduceSub, Nat.reduceMul, Nat.reduceLT, Nat.reduceLeDiff, Int.reduceToNat, Int.reduceLT, Int.reduceLE, Option.getD, Int.reduceMul, Int.reduceAdd, List.drop, List.take, Nat.reduceBEq, List.isEmpty, Int.reduceEq, Int.reduceNe, Int.reduceNeg, Int.reduceGT, Int.reduceGE, beq_true, beq_false, UInt8.reduceToNat, eqE, eq_self, foldE, maxE, minE, eq_T, eq_F, ndec, odec, adec, sdec, fillA, over, chop, List.replicate, leavesOk, leafOk, cellsEq, cellEq, E_ext, E_byref, en20, bs22, bs24, hrow, htm, htd, h1, rows64_len, rowsI_len, rows64_snoc, ht, show ∀ B fr H, execT E B 20 (Code.loop _) fr H = rlM E B 20 (loopAt Tryd.f20 0) [0, 1, 5, 6] [] (matF [(5, 1)] fr H).1 (matB [] (matF [(5, 1)] fr H).1 (matF [(5, 1)] fr H).2) from fun B fr H => rl_introM rfl mt20_3 mb20_3 zf20_3 hd20_3 fr H]
            · rw [if_neg h1]
              obtain ⟨fr, ex, H', e, hh⟩ := ih (k + 1) (by omega) (by omega) (q / 2) (by omega)
              rw [List.append_assoc] at hh
              refine ⟨fr, ex, H', Eq.trans ?_ e, hh⟩
              subst h18
              clear e hh ih
              simp (disch := first | omega | (simp only [List.length_append, List.length_map, List.length_set, List.length_cons, List.length_nil, List.length_take, List.length_drop, rows64_len, rowsI_len]; omega)) only [va0, va1, va2, va3, va4, va5, va6, va7, va8, va9, va10, va11, va12, va13, va14, va15, vb0, vb1, vb2, vb3, w_i8, w_u8, w_i16, w_u16, w_i32, w_u32, w_i64, w_u64, lt_T, lt_F, le_T, le_F, nlt_T, nlt_F, nle_T, nle_F, List.take_of_length_le, gB, gcW, gcR, posIn, renA, renL, Chunk.ren, Chunk.refs, evOpD, touchD, stepC, isFresh, nFresh, freshOf, mkR, hole, evL, evH, opd, get, putD, ofVal, cellOf, loadE, behind, lenE, idxAddrE, idxE, addPtr, intE, strE, unE, convE, AV.int, AV.bool, AV.str, ivs, take, frameOf, firstRegion, refsA, refsL, one, cellsA, floatOk, apartT, List.map, if_true, if_false, E_P, E_glob0, E_glob1, reduceCtorEq, beq_self_eq_true, decide_true, decide_false, ↓reduceIte, Nat.reduceEqDiff, cond_true, cond_false, or_true, true_or, or_false, false_or, and_true, true_and, and_self, false_and, and_false, not_true, not_false_iff, Nat.reduceAdd, Nat.reduceSub, Nat.reduceMul, Nat.reduceLT, Nat.reduceLeDiff, Int.reduceToNat, Int.reduceLT, Int.reduceLE, Option.getD, Int.reduceMul, Int.reduceAdd, List.drop, List.take, Nat.reduceBEq, List.isEmpty, Int.reduceEq, Int.reduceNe, Int.reduceNeg, Int.reduceGT, Int.reduceGE, beq_true, beq_false, UInt8.reduceToNat, eqE, eq_self, foldE, maxE, minE, eq_T, eq_F, ndec, odec, adec, sdec, fillA, over, chop, List.replicate, leavesOk, leafOk, cellsEq, cellEq, E_ext, E_byref, en20, bs22, bs24, hrow, htm, htd, h1, rows64_len, rowsI_len, rows64_snoc, ht, show ∀ B fr H, execT E B 20 (Code.loop _) fr H = rlM E B 20 (loopAt Tryd.f20 0) [0, 1, 5, 6] [] (matF [(5, 1)] fr H).1 (matB [] (matF [(5, 1)] fr H).1 (matF [(5, 1)] fr H).2) from fun B fr H => rl_introM rfl mt20_3 mb20_3 zf20_3 hd20_3 fr H]
          · rw [if_neg h18]
            obtain ⟨fr, ex, H', e, hh⟩ := ih (k + 1) (by omega) (by omega) q hq
            rw [List.append_assoc] at hh
            refine ⟨fr, ex, H', Eq.trans ?_ e, hh⟩
            clear e hh ih
            simp (disch := first | omega | (simp only [List.length_append, List.length_map, List.length_set, List.length_cons, List.length_nil, List.length_take, List.length_drop, rows64_len, rowsI_len]; omega)) only [va0, va1, va2, va3, va4, va5, va6, va7, va8, va9, va10, va11, va12, va13, va14, va15, vb0, vb1, vb2, vb3, w_i8, w_u8, w_i16, w_u16, w_i32, w_u32, w_i64, w_u64, lt_T, lt_F, le_T, le_F, nlt_T, nlt_F, nle_T, nle_F, List.take_of_length_le, gB, gcW, gcR, posIn, renA, renL, Chunk.ren, Chunk.refs, evOpD, touchD, stepC, isFresh, nFresh, freshOf, mkR, hole, evL, evH, opd, get, putD, ofVal, cellOf, loadE, behind, lenE, idxAddrE, idxE, addPtr, intE, strE, unE, convE, AV.int, AV.bool, AV.str, ivs, take, frameOf, firstRegion, refsA, refsL, one, cellsA, floatOk, apartT, List.map, if_true, if_false, E_P, E_glob0, E_glob1, reduceCtorEq, beq_self_eq_true, decide_true, decide_false, ↓reduceIte, Nat.reduceEqDiff, cond_true, cond_false, or_true, true_or, or_false, false_or, and_true, true_and, and_self, false_and, and_false, not_true, not_false_iff, Nat.reduceAdd, Nat.reduceSub, Nat.reduceMul, Nat.reduceLT, Nat.reduceLeDiff, Int.reduceToNat, Int.reduceLT, Int.reduceLE, Option.getD, Int.reduceMul, Int.reduceAdd, List.drop, List.take, Nat.reduceBEq, List.isEmpty, Int.reduceEq, Int.reduceNe, Int.reduceNeg, Int.reduceGT, Int.reduceGE, beq_true, beq_false, UInt8.reduceToNat, eqE, eq_self, foldE, maxE, minE, eq_T, eq_F, ndec, odec, adec, sdec, fillA, over, chop, List.replicate, leavesOk, leafOk, cellsEq, cellEq, E_ext, E_byref, en20, bs22, bs24, hrow, h0, h17, h18, rows64_len, rowsI_len, rows64_snoc, ht, show ∀ B fr H, execT E B 20 (Code.loop _) fr H = rlM E B 20 (loopAt Tryd.f20 0) [0, 1, 5, 6] [] (matF [(5, 1)] fr H).1 (matB [] (matF [(5, 1)] fr H).1 (matF [(5, 1)] fr H).2) from fun B fr H => rl_introM rfl mt20_3 mb20_3 zf20_3 hd20_3 fr H]
    · obtain rfl : k = l.length := by omega
      rw [if_neg hlt, List.append_nil]
      simp (disch := first | omega | (simp only [List.length_append, List.length_map, List.length_set, List.length_cons, List.length_nil, List.length_take, List.length_drop, rows64_len, rowsI_len]; omega)) only [va0, va1, va2, va3, va4, va5, va6, va7, va8, va9, va10, va11, va12, va13, va14, va15, vb0, vb1, vb2, vb3, w_i8, w_u8, w_i16, w_u16, w_i32, w_u32, w_i64, w_u64, lt_T, lt_F, le_T, le_F, nlt_T, nlt_F, nle_T, nle_F, List.take_of_length_le, gB, gcW, gcR, posIn, renA, renL, Chunk.ren, Chunk.refs, evOpD, touchD, stepC, isFresh, nFresh, freshOf, mkR, hole, evL, evH, opd, get, putD, ofVal, cellOf, loadE, behind, lenE, idxAddrE, idxE, addPtr, intE, strE, unE, convE, AV.int, AV.bool, AV.str, ivs, take, frameOf, firstRegion, refsA, refsL, one, cellsA, floatOk, apartT, List.map, if_true, if_false, E_P, E_glob0, E_glob1, reduceCtorEq, beq_self_eq_true, decide_true, decide_false, ↓reduceIte, Nat.reduceEqDiff, cond_true, cond_false, or_true, true_or, or_false, false_or, and_true, true_and, and_self, false_and, and_false, not_true, not_false_iff, Nat.reduceAdd, Nat.reduceSub, Nat.reduceMul, Nat.reduceLT, Nat.reduceLeDiff, Int.reduceToNat, Int.reduceLT, Int.reduceLE, Option.getD, Int.reduceMul, Int.reduceAdd, List.drop, List.take, Nat.reduceBEq, List.isEmpty, Int.reduceEq, Int.reduceNe, Int.reduceNeg, Int.reduceGT, Int.reduceGE, beq_true, beq_false, UInt8.reduceToNat, eqE, eq_self, foldE, maxE, minE, eq_T, eq_F, ndec, odec, adec, sdec, fillA, over, chop, List.replicate, leavesOk, leafOk, cellsEq, cellEq, E_ext, E_byref, en20, bs22, bs24, rows64_len, rowsI_len, show ∀ B fr H, execT E B 20 (Code.loop _) fr H = rlM E B 20 (loopAt Tryd.f20 0) [0, 1, 5, 6] [] (matF [(5, 1)] fr H).1 (matB [] (matF [(5, 1)] fr H).1 (matF [(5, 1)] fr H).2) from fun B fr H => rl_introM rfl mt20_3 mb20_3 zf20_3 hd20_3 fr H]
      refine ⟨_, _, _, rfl, .inl ?_⟩
      exact ⟨rfl, rfl, rfl⟩
def walkS (l : List Ins) (q : Int) : List Int := walkF l (l.length + 1) 0 q
theorem c20 (l : List Ins) (hl : l.length ≤ 500) (hok : ∀ (j : Nat) (h : j < l.length), chk1 l.length j l[j] = 0) (q : Int) (hq : 0 ≤ q ∧ q ≤ 4294967295) : ∃ L, callT E 20 [.i (.sl 2 (rowsI l) false), .i (.v (.int .u32 q))] [] = some (.i (.sl 1 (rows64 (walkS l q)) false), L) := by
  obtain ⟨fr, ex, H', e, hh⟩ := l20 l hl hok (l.length + 1) 0 (Nat.zero_le _) (by omega) [] (Nat.zero_le _) q hq
  rw [List.nil_append] at hh
  have e' : rl E 0 20 (loopAt Tryd.f20 0) [(0, .i (.sl 2 (rowsI l) false)), (1, .i (.v (.int .u32 q))), (5, .ref 0 0 0 0), (6, .i (.v (.int .i64 0)))] [.sl 1 0 [] false] = _ := e
  clear e
  unfold walkS
  generalize walkF l (l.length + 1) 0 q = w at *
  have ht : List.take w.length (rows64 w) = rows64 w := by rw [rows64_take, List.take_length]
  rcases hh with ⟨rfl, g1, g2⟩ | ⟨rfl, g1, g2⟩
  · rw [callT_eq Tryd.func20 rfl fok20 (by simp [Tryd.ntmps20])]
    simp (disch := first | omega | (simp only [List.length_append, List.length_map, List.length_set, List.length_cons, List.length_nil, List.length_take, List.length_drop, rowsI_len, rows64_len]; omega)) only [va0, va1, va2, va3, va4, va5, va6, va7, va8, va9, va10, va11, va12, va13, va14, va15, vb0, vb1, vb2, vb3, w_i8, w_u8, w_i16, w_u16, w_i32, w_u32, w_i64, w_u64, lt_T, lt_F, le_T, le_F, nlt_T, nlt_F, nle_T, nle_F, List.take_of_length_le, gB, gcW, gcR, posIn, renA, renL, Chunk.ren, Chunk.refs, evOpD, touchD, stepC, isFresh, nFresh, freshOf, mkR, hole, evL, evH, opd, get, putD, ofVal, cellOf, loadE, behind, lenE, idxAddrE, idxE, addPtr, intE, strE, unE, convE, AV.int, AV.bool, AV.str, ivs, take, frameOf, firstRegion, refsA, refsL, one, cellsA, floatOk, apartT, List.map, if_true, if_false, E_P, E_glob0, E_glob1, reduceCtorEq, beq_self_eq_true, decide_true, decide_false, ↓reduceIte, Nat.reduceEqDiff, cond_true, cond_false, or_true, true_or, or_false, false_or, and_true, true_and, and_self, false_and, and_false, not_true, not_false_iff, Nat.reduceAdd, Nat.reduceSub, Nat.reduceMul, Nat.reduceLT, Nat.reduceLeDiff, Int.reduceToNat, Int.reduceLT, Int.reduceLE, Option.getD, Int.reduceMul, Int.reduceAdd, List.drop, List.take, Nat.reduceBEq, List.isEmpty, Int.reduceEq, Int.reduceNe, Int.reduceNeg, Int.reduceGT, Int.reduceGE, beq_true, beq_false, UInt8.reduceToNat, eqE, eq_self, foldE, maxE, minE, eq_T, eq_F, ndec, odec, adec, sdec, fillA, over, chop, List.replicate, leavesOk, leafOk, cellsEq, cellEq, E_ext, E_byref, en20, bs22, bs24, e', g1, g2, ht, rowsI_len, rows64_len, show ∀ B fr H, execT E B 20 (Code.loop _) fr H = rlM E B 20 (loopAt Tryd.f20 0) [0, 1, 5, 6] [] (matF [(5, 1)] fr H).1 (matB [] (matF [(5, 1)] fr H).1 (matF [(5, 1)] fr H).2) from fun B fr H => rl_introM rfl mt20_3 mb20_3 zf20_3 hd20_3 fr H]
    exact ⟨_, rfl⟩
  · rw [callT_eq Tryd.func20 rfl fok20 (by simp [Tryd.ntmps20])]
    simp (disch := first | omega | (simp only [List.length_append, List.length_map, List.length_set, List.length_cons, List.length_nil, List.length_take, List.length_drop, rowsI_len, rows64_len]; omega)) only [va0, va1, va2, va3, va4, va5, va6, va7, va8, va9, va10, va11, va12, va13, va14, va15, vb0, vb1, vb2, vb3, w_i8, w_u8, w_i16, w_u16, w_i32, w_u32, w_i64, w_u64, lt_T, lt_F, le_T, le_F, nlt_T, nlt_F, nle_T, nle_F, List.take_of_length_le, gB, gcW, gcR, posIn, renA, renL, Chunk.ren, Chunk.refs, evOpD, touchD, stepC, isFresh, nFresh, freshOf, mkR, hole, evL, evH, opd, get, putD, ofVal, cellOf, loadE, behind, lenE, idxAddrE, idxE, addPtr, intE, strE, unE, convE, AV.int, AV.bool, AV.str, ivs, take, frameOf, firstRegion, refsA, refsL, one, cellsA, floatOk, apartT, List.map, if_true, if_false, E_P, E_glob0, E_glob1, reduceCtorEq, beq_self_eq_true, decide_true, decide_false, ↓reduceIte, Nat.reduceEqDiff, cond_true, cond_false, or_true, true_or, or_false, false_or, and_true, true_and, and_self, false_and, and_false, not_true, not_false_iff, Nat.reduceAdd, Nat.reduceSub, Nat.reduceMul, Nat.reduceLT, Nat.reduceLeDiff, Int.reduceToNat, Int.reduceLT, Int.reduceLE, Option.getD, Int.reduceMul, Int.reduceAdd, List.drop, List.take, Nat.reduceBEq, List.isEmpty, Int.reduceEq, Int.reduceNe, Int.reduceNeg, Int.reduceGT, Int.reduceGE, beq_true, beq_false, UInt8.reduceToNat, eqE, eq_self, foldE, maxE, minE, eq_T, eq_F, ndec, odec, adec, sdec, fillA, over, chop, List.replicate, leavesOk, leafOk, cellsEq, cellEq, E_ext, E_byref, en20, bs22, bs24, e', g1, g2, ht, rowsI_len, rows64_len, show ∀ B fr H, execT E B 20 (Code.loop _) fr H = rlM E B 20 (loopAt Tryd.f20 0) [0, 1, 5, 6] [] (matF [(5, 1)] fr H).1 (matB [] (matF [(5, 1)] fr H).1 (matF [(5, 1)] fr H).2) from fun B fr H => rl_introM rfl mt20_3 mb20_3 zf20_3 hd20_3 fr H]
    exact ⟨_, rfl⟩
theorem ik20 (l : List Ins) (hl : l.length ≤ 500) (hok : ∀ (j : Nat) (h : j < l.length), chk1 l.length j l[j] = 0) (q : Int) (hq : 0 ≤ q ∧ q ≤ 4294967295) (H : Hp) : isoK E (callT E) 20 [.i (.sl 2 (rowsI l) false), .i (.v (.int .u32 q))] H = some (.i (.sl 1 (rows64 (walkS l q)) false), H) := isoK_val rfl rfl rfl (c20 l hl hok q hq)
end Go.VI

namespace Go.VI
open Go.Proofs
set_option maxRecDepth 100000
set_option linter.unusedSimpArgs false
set_option linter.unusedVariables false
set_option maxHeartbeats 4000000
structure Good (l : List Ins) : Prop where
  ok : ∀ (j : Nat) (h : j < l.length), chk1 l.length j l[j] = 0
theorem good_of {l : List Ins} (h : checkI l = 0) : Good l := ⟨check_ok h⟩
theorem good_getD {l : List Ins} {j : Nat} (h : j < l.length) : l.getD j (0, 0) = l[j] := by rw [List.getD_eq_getElem?_getD, List.getElem?_eq_getElem h]; rfl
theorem good_suc {l : List Ins} (g : Good l) {j : Nat} (h : j < l.length) : (0 ≤ (l.getD j (0, 0)).1 ∧ (l.getD j (0, 0)).1 ≤ 20) ∧ ∀ x ∈ sucL (l.getD j (0, 0)).1 (l.getD j (0, 0)).2 j, (j : Int) < x ∧ x ≤ l.length := by
  rw [good_getD h]; exact sucL_in h (g.ok j h)
theorem good_jump {l : List Ins} (g : Good l) {j : Nat} (h : j < l.length) (hj : (l.getD j (0, 0)).1 = 17 ∨ (l.getD j (0, 0)).1 = 18) : (j : Int) + 1 ≤ (l.getD j (0, 0)).2 ∧ (l.getD j (0, 0)).2 ≤ l.length := by
  rw [good_getD h] at hj ⊢; exact chk1_jump (g.ok j h) hj
theorem walk_end {l : List Ins} (f : Nat) {k : Nat} (q : Int) (hk : l.length ≤ k) : walkF l f k q = [] := by
  cases f with
  | zero => rfl
  | succ f => rw [walkF, if_neg (by omega)]
def nextW (p : Ins) (k : Nat) (q : Int) : Option (Nat × Int) := if p.1 = 0 then none else if p.1 = 17 then some (p.2.toNat, q) else if p.1 = 18 then some (if q % 2 = 1 then p.2.toNat else k + 1, q / 2) else some (k + 1, q)
theorem walk_step {l : List Ins} (f : Nat) {k : Nat} (q : Int) (hk : k < l.length) : walkF l (f + 1) k q = (k : Int) :: (match nextW (l.getD k (0, 0)) k q with | none => [] | some (k', q') => walkF l f k' q') := by
  rw [walkF, if_pos hk]
  unfold nextW
  by_cases h0 : (l.getD k (0, 0)).1 = 0
  · rw [if_pos h0, if_pos h0]
  · rw [if_neg h0, if_neg h0]
    by_cases h17 : (l.getD k (0, 0)).1 = 17
    · rw [if_pos h17, if_pos h17]
    · rw [if_neg h17, if_neg h17]
      by_cases h18 : (l.getD k (0, 0)).1 = 18
      · rw [if_pos h18, if_pos h18]
      · rw [if_neg h18, if_neg h18]
theorem nextW_suc {l : List Ins} (g : Good l) {k : Nat} (hk : k < l.length) {q : Int} {k' : Nat} {q' : Int} (h : nextW (l.getD k (0, 0)) k q = some (k', q')) : (k' : Int) ∈ sucL (l.getD k (0, 0)).1 (l.getD k (0, 0)).2 k ∧ k < k' ∧ k' ≤ l.length := by
  have key : (k' : Int) ∈ sucL (l.getD k (0, 0)).1 (l.getD k (0, 0)).2 k := by
    unfold nextW at h
    unfold sucL
    rw [List.mem_append]
    split at h
    · cases h
    rename_i h0
    split at h
    · rename_i h17
      have := good_jump g hk (.inl h17)
      injection h with h; injection h with h1 h2
      refine .inr ?_
      rw [if_pos (.inl h17), List.mem_singleton]; omega
    rename_i h17
    split at h
    · rename_i h18
      have := good_jump g hk (.inr h18)
      injection h with h; injection h with h1 h2
      split at h1
      · refine .inr ?_
        rw [if_pos (.inr h18), List.mem_singleton]; omega
      · refine .inl ?_
        rw [if_neg (by omega), List.mem_singleton]; omega
    · injection h with h; injection h with h1 h2
      refine .inl ?_
      rw [if_neg (by omega), List.mem_singleton]; omega
  have := (good_suc g hk).2 _ key
  exact ⟨key, by omega, by omega⟩
end Go.VI

namespace Go.VI
open Go.Proofs
set_option maxRecDepth 100000
set_option linter.unusedSimpArgs false
set_option linter.unusedVariables false
set_option maxHeartbeats 4000000
theorem fSet_own (i : Nat) : ∀ (xs out : List Int), (∀ x ∈ xs, (i : Int) < x) → i < out.length → ∀ j : Nat, j ≠ i → (fSet i xs out).getD j 0 = out.getD j 0
  | [], out, h, hl, j, hj => rfl
  | x :: xs, out, h, hl, j, hj => by
    rw [fSet, fSet_own i xs _ (fun y hy => h y (.tail _ hy)) (by rw [List.length_set]; exact hl) j hj, getD_set_int, if_neg (fun e => hj e.1.symm)]
theorem fSet_ge (i : Nat) : ∀ (xs out : List Int), (∀ x ∈ xs, (i : Int) < x) → i < out.length → out.getD i 0 ≤ (fSet i xs out).getD i 0 ∧ ∀ x ∈ xs, out.getD x.toNat 0 ≤ (fSet i xs out).getD i 0
  | [], out, h, hl => ⟨Int.le_refl _, fun x hx => by cases hx⟩
  | x :: xs, out, h, hl => by
    have hx := h x (.head _)
    obtain ⟨h1, h2⟩ := fSet_ge i xs (out.set i (max (out.getD i 0) (out.getD x.toNat 0))) (fun y hy => h y (.tail _ hy)) (by rw [List.length_set]; exact hl)
    rw [getD_set_int, if_pos ⟨rfl, hl⟩] at h1
    rw [fSet]
    refine ⟨by omega, fun y hy => ?_⟩
    rcases List.mem_cons.1 hy with rfl | hy
    · omega
    · have hyy := h y (.tail _ hy)
      have := h2 y hy
      rw [getD_set_int, if_neg (by omega)] at this
      exact this
theorem fSet_at (i : Nat) : ∀ (xs out : List Int), (∀ x ∈ xs, (i : Int) < x) → i < out.length → (fSet i xs out).getD i 0 = out.getD i 0 ∨ ∃ x ∈ xs, (fSet i xs out).getD i 0 = out.getD x.toNat 0
  | [], out, h, hl => .inl rfl
  | x :: xs, out, h, hl => by
    have hx := h x (.head _)
    rw [fSet]
    rcases fSet_at i xs (out.set i (max (out.getD i 0) (out.getD x.toNat 0))) (fun y hy => h y (.tail _ hy)) (by rw [List.length_set]; exact hl) with h1 | ⟨y, hy, h1⟩
    · rw [h1, getD_set_int, if_pos ⟨rfl, hl⟩]
      by_cases hm : out.getD i 0 ≤ out.getD x.toNat 0
      · exact .inr ⟨x, .head _, by omega⟩
      · exact .inl (by omega)
    · have hyy := h y (.tail _ hy)
      rw [getD_set_int, if_neg (by omega)] at h1
      exact .inr ⟨y, .tail _ hy, h1⟩
structure Most (l : List Ins) (k : Nat) (out : List Int) : Prop where
  len : out.length = l.length + 1
  low : ∀ j : Nat, j < k → out.getD j 0 = 0
  end_ : 0 ≤ out.getD l.length 0
  ge : ∀ j : Nat, k ≤ j → j ≤ l.length → ∀ f q, ((walkF l f j q).length : Int) ≤ out.getD j 0
theorem most_step {l : List Ins} (g : Good l) {k : Nat} (hk : k < l.length) {out : List Int} (h : Most l (k + 1) out) : Most l k (fStep k (l.getD k (0, 0)) out) := by
  have hs := good_suc g hk
  have hxs : ∀ x ∈ sucL (l.getD k (0, 0)).1 (l.getD k (0, 0)).2 k, (k : Int) < x := fun x hx => (hs.2 x hx).1
  have hl : k < out.length := by rw [h.len]; omega
  have hl2 := fSet_len k (sucL (l.getD k (0, 0)).1 (l.getD k (0, 0)).2 k) out
  have hother : ∀ j : Nat, j ≠ k → (fStep k (l.getD k (0, 0)) out).getD j 0 = out.getD j 0 := fun j hj => by
    unfold fStep
    rw [getD_set_int, if_neg (fun e => hj e.1.symm), fSet_own k _ _ hxs hl j hj]
  have hown : (fStep k (l.getD k (0, 0)) out).getD k 0 = (fSet k (sucL (l.getD k (0, 0)).1 (l.getD k (0, 0)).2 k) out).getD k 0 + 1 := by
    unfold fStep
    rw [getD_set_int, if_pos ⟨rfl, by rw [hl2]; exact hl⟩]
  refine ⟨by rw [fStep_len]; exact h.len, fun j hj => ?_, ?_, fun j hj hjl f q => ?_⟩
  · rw [hother j (by omega)]; exact h.low j (by omega)
  · rw [hother _ (by omega)]; exact h.end_
  · by_cases hjk : j = k
    · subst hjk
      rw [hown]
      obtain ⟨h1, h2⟩ := fSet_ge j _ _ hxs hl
      rw [h.low j (by omega)] at h1
      cases f with
      | zero => simp only [walkF, List.length_nil]; omega
      | succ f =>
        rw [walk_step f q hk, List.length_cons]
        cases hn : nextW (l.getD j (0, 0)) j q with
        | none => simp only [List.length_nil]; omega
        | some kq =>
          obtain ⟨k', q'⟩ := kq
          obtain ⟨hs', hb1, hb2⟩ := nextW_suc g hk hn
          have h3 := h2 _ hs'
          rw [Int.toNat_natCast] at h3
          have h4 := h.ge k' hb1 hb2 f q'
          simp only
          omega
    · rw [hother j hjk]; exact h.ge j (by omega) hjl f q
theorem most_run {l : List Ins} (g : Good l) : ∀ (k : Nat), k ≤ l.length → ∀ out, Most l k out → Most l 0 (fRun l k out)
  | 0, _, out, h => h
  | k + 1, hk, out, h => most_run g k (by omega) _ (most_step g hk h)
theorem getD_rep0 (n j : Nat) : (List.replicate n (0 : Int)).getD j 0 = 0 := by
  rw [List.getD_eq_getElem?_getD, List.getElem?_replicate]; split <;> rfl
theorem most_start (l : List Ins) : Most l l.length (List.replicate (l.length + 1) 0) :=
  ⟨by simp, fun j _ => getD_rep0 _ _, by rw [getD_rep0]; exact Int.le_refl _, fun j h1 h2 f q => by rw [walk_end f q h1, getD_rep0]; exact Int.le_refl _⟩
theorem fuel_ge {l : List Ins} (h : checkI l = 0) (f : Nat) (q : Int) : (fuelS l).2 = 0 ∧ ((walkF l f 0 q).length : Int) ≤ (fuelS l).1 := by
  unfold fuelS
  rw [if_pos h]
  exact ⟨rfl, (most_run (good_of h) l.length (Nat.le_refl _) _ (most_start l)).ge 0 (Nat.le_refl _) (Nat.zero_le _) f q⟩
theorem walk_len {l : List Ins} : ∀ (f k : Nat) (q : Int), (walkF l f k q).length ≤ f
  | 0, k, q => Nat.le_refl _
  | f + 1, k, q => by
    by_cases hk : k < l.length
    · rw [walk_step f q hk, List.length_cons]
      cases nextW (l.getD k (0, 0)) k q with
      | none => simp only [List.length_nil]; omega
      | some kq => have := walk_len (l := l) f kq.1 kq.2; simp only; omega
    · rw [walk_end _ _ (by omega)]; exact Nat.zero_le _
end Go.VI

namespace Go.VI
open Go.Proofs
set_option maxRecDepth 100000
set_option linter.unusedSimpArgs false
set_option linter.unusedVariables false
set_option maxHeartbeats 4000000
def jz : List Ins → Nat
  | [] => 0
  | p :: r => (if p.1 = 18 then 1 else 0) + jz r
theorem jz_drop (l : List Ins) {k : Nat} (hk : k < l.length) : jz (l.drop k) = (if (l.getD k (0, 0)).1 = 18 then 1 else 0) + jz (l.drop (k + 1)) := by
  rw [List.drop_eq_getElem_cons hk, jz, good_getD hk]
theorem jz_mono (l : List Ins) (a b : Nat) (h : a ≤ b) (hb : b ≤ l.length) : jz (l.drop b) ≤ jz (l.drop a) := by
  by_cases hlt : a < b
  · have h1 := jz_mono l (a + 1) b hlt hb
    rw [jz_drop l (k := a) (by omega)]
    omega
  · obtain rfl : a = b := by omega
    exact Nat.le_refl _
termination_by b - a
def two (n : Nat) : Int := ((2 ^ n : Nat) : Int)
theorem two_pos (n : Nat) : 1 ≤ two n := by unfold two; have := Nat.two_pow_pos n; omega
theorem two_succ (n : Nat) : two (n + 1) = 2 * two n := by unfold two; rw [Nat.pow_succ]; omega
theorem two_mono {a b : Nat} (h : a ≤ b) : two a ≤ two b := by unfold two; have := Nat.pow_le_pow_right (n := 2) (by omega) h; omega
structure Hit (l : List Ins) (k : Nat) (out : List Int) : Prop where
  len : out.length = l.length + 1
  low : ∀ j : Nat, j < k → out.getD j 0 = 0
  at_ : ∀ j : Nat, k ≤ j → j ≤ l.length → ∃ q, 0 ≤ q ∧ q < two (jz (l.drop j)) ∧ ∀ f, l.length + 1 ≤ j + f → ((walkF l f j q).length : Int) = out.getD j 0
theorem pick_next {l : List Ins} (g : Good l) {k : Nat} (hk : k < l.length) {k' : Nat} (hs : (k' : Int) ∈ sucL (l.getD k (0, 0)).1 (l.getD k (0, 0)).2 k) (q' : Int) (h0 : 0 ≤ q') (m : Nat) (h1 : q' < two m) : ∃ q, 0 ≤ q ∧ q < two ((if (l.getD k (0, 0)).1 = 18 then 1 else 0) + m) ∧ nextW (l.getD k (0, 0)) k q = some (k', q') := by
  unfold sucL at hs
  rw [List.mem_append] at hs
  unfold nextW
  by_cases h18 : (l.getD k (0, 0)).1 = 18
  · have hj := good_jump g hk (.inr h18)
    rw [if_pos h18, Nat.add_comm, two_succ]
    rw [if_neg (by omega), if_pos (.inr h18), List.mem_singleton, List.mem_singleton] at hs
    rcases hs with hs | hs
    · refine ⟨2 * q', by omega, by omega, ?_⟩
      rw [if_neg (by omega), if_neg (by omega), if_pos h18, if_neg (by omega)]
      have e1 : k + 1 = k' := by omega
      have e2 : 2 * q' / 2 = q' := by omega
      rw [e1, e2]
    · refine ⟨2 * q' + 1, by omega, by omega, ?_⟩
      rw [if_neg (by omega), if_neg (by omega), if_pos h18, if_pos (by omega)]
      have e1 : (l.getD k (0, 0)).2.toNat = k' := by omega
      have e2 : (2 * q' + 1) / 2 = q' := by omega
      rw [e1, e2]
  · rw [if_neg h18, Nat.zero_add]
    refine ⟨q', h0, h1, ?_⟩
    by_cases h17 : (l.getD k (0, 0)).1 = 17
    · rw [if_neg (by omega), if_pos h17]
      rw [if_pos (.inr h17), if_pos (.inl h17), List.mem_singleton] at hs
      rcases hs with hs | hs
      · cases hs
      · have e1 : (l.getD k (0, 0)).2.toNat = k' := by omega
        rw [e1]
    · by_cases h00 : (l.getD k (0, 0)).1 = 0
      · rw [if_pos (.inl h00), if_neg (by omega)] at hs
        rcases hs with hs | hs <;> cases hs
      · rw [if_neg h00, if_neg h17, if_neg h18]
        rw [if_neg (by omega), if_neg (by omega), List.mem_singleton] at hs
        rcases hs with hs | hs
        · have e1 : k + 1 = k' := by omega
          rw [e1]
        · cases hs
theorem sucL_nil {op arg i : Int} (h : sucL op arg i = []) : op = 0 := by
  unfold sucL at h
  rw [List.append_eq_nil_iff] at h
  by_cases h0 : op = 0
  · exact h0
  · exfalso
    obtain ⟨h1, h2⟩ := h
    by_cases h17 : op = 17
    · rw [if_pos (.inl h17)] at h2; cases h2
    · rw [if_neg (by omega)] at h1; cases h1
theorem hit_step {l : List Ins} (g : Good l) {k : Nat} (hk : k < l.length) {out : List Int} (hm : Most l (k + 1) out) (h : Hit l (k + 1) out) : Hit l k (fStep k (l.getD k (0, 0)) out) := by
  have hs := good_suc g hk
  have hxs : ∀ x ∈ sucL (l.getD k (0, 0)).1 (l.getD k (0, 0)).2 k, (k : Int) < x := fun x hx => (hs.2 x hx).1
  have hl : k < out.length := by rw [h.len]; omega
  have hl2 := fSet_len k (sucL (l.getD k (0, 0)).1 (l.getD k (0, 0)).2 k) out
  have hother : ∀ j : Nat, j ≠ k → (fStep k (l.getD k (0, 0)) out).getD j 0 = out.getD j 0 := fun j hj => by
    unfold fStep
    rw [getD_set_int, if_neg (fun e => hj e.1.symm), fSet_own k _ _ hxs hl j hj]
  have hown : (fStep k (l.getD k (0, 0)) out).getD k 0 = (fSet k (sucL (l.getD k (0, 0)).1 (l.getD k (0, 0)).2 k) out).getD k 0 + 1 := by
    unfold fStep
    rw [getD_set_int, if_pos ⟨rfl, by rw [hl2]; exact hl⟩]
  have via : ∀ k' : Nat, (k' : Int) ∈ sucL (l.getD k (0, 0)).1 (l.getD k (0, 0)).2 k → (fSet k (sucL (l.getD k (0, 0)).1 (l.getD k (0, 0)).2 k) out).getD k 0 = out.getD k' 0 →
      ∃ q, 0 ≤ q ∧ q < two (jz (l.drop k)) ∧ ∀ f, l.length + 1 ≤ k + f → ((walkF l f k q).length : Int) = (fStep k (l.getD k (0, 0)) out).getD k 0 := fun k' hk' he => by
    have hb := hs.2 _ hk'
    obtain ⟨q', p1, p2, p3⟩ := h.at_ k' (by omega) (by omega)
    obtain ⟨q, r1, r2, r3⟩ := pick_next g hk hk' q' p1 (jz (l.drop (k + 1))) (Int.lt_of_lt_of_le p2 (two_mono (jz_mono l (k + 1) k' (by omega) (by omega))))
    rw [← jz_drop l hk] at r2
    refine ⟨q, r1, r2, fun f hf => ?_⟩
    cases f with
    | zero => omega
    | succ f =>
      rw [walk_step f q hk, r3, hown, he, List.length_cons]
      simp only
      have := p3 f (by omega)
      omega
  refine ⟨by rw [fStep_len]; exact h.len, fun j hj => ?_, fun j hj hjl => ?_⟩
  · rw [hother j (by omega)]; exact h.low j (by omega)
  · by_cases hjk : j = k
    · subst hjk
      rcases fSet_at j _ _ hxs hl with h1 | ⟨x, hx, h1⟩
      · rw [h.low j (by omega)] at h1
        cases hsu : sucL (l.getD j (0, 0)).1 (l.getD j (0, 0)).2 j with
        | nil =>
          have h0 := sucL_nil hsu
          refine ⟨0, Int.le_refl _, Int.lt_of_lt_of_le (by omega) (two_pos _), fun f hf => ?_⟩
          cases f with
          | zero => omega
          | succ f =>
            rw [walk_step f 0 hk, hown, h1, nextW, if_pos h0]
            rfl
        | cons x xs =>
          have hx : x ∈ sucL (l.getD j (0, 0)).1 (l.getD j (0, 0)).2 j := by rw [hsu]; exact .head _
          have hb := hs.2 x hx
          have hge := (fSet_ge j _ _ hxs hl).2 x hx
          have h0 := hm.ge x.toNat (by omega) (by omega) 0 0
          simp only [walkF, List.length_nil] at h0
          have hc : ((x.toNat : Nat) : Int) = x := by omega
          exact via x.toNat (by rw [hc]; exact hx) (by omega)
      · have hb := hs.2 x hx
        have hc : ((x.toNat : Nat) : Int) = x := by omega
        exact via x.toNat (by rw [hc]; exact hx) h1
    · rw [hother j hjk]; exact h.at_ j (by omega) hjl
theorem hit_run {l : List Ins} (g : Good l) : ∀ (k : Nat), k ≤ l.length → ∀ out, Most l k out → Hit l k out → Hit l 0 (fRun l k out)
  | 0, _, out, hm, h => h
  | k + 1, hk, out, hm, h => hit_run g k (by omega) _ (most_step g hk hm) (hit_step g hk hm h)
theorem hit_start (l : List Ins) : Hit l l.length (List.replicate (l.length + 1) 0) :=
  ⟨by simp, fun j _ => getD_rep0 _ _, fun j h1 h2 => ⟨0, Int.le_refl _, Int.lt_of_lt_of_le (by omega) (two_pos _), fun f _ => by rw [walk_end f 0 h1, getD_rep0]; rfl⟩⟩
theorem fuel_hit {l : List Ins} (h : checkI l = 0) : ∃ q, 0 ≤ q ∧ q < two (jz l) ∧ ((walkS l q).length : Int) = (fuelS l).1 := by
  obtain ⟨q, h1, h2, h3⟩ := (hit_run (good_of h) l.length (Nat.le_refl _) _ (most_start l) (hit_start l)).at_ 0 (Nat.le_refl _) (Nat.zero_le _)
  refine ⟨q, h1, by rw [List.drop_zero] at h2; exact h2, ?_⟩
  unfold fuelS walkS
  rw [if_pos h]
  exact h3 _ (by omega)
def mostR (l : List Ins) : Nat → Int → Int → Int
  | 0, _, m => m
  | r + 1, p, m => mostR l r (p + 1) (max m (walkS l p).length)
theorem mostR_le (l : List Ins) (b : Int) : ∀ (r : Nat) (p m : Int), m ≤ b → (∀ q, ((walkS l q).length : Int) ≤ b) → mostR l r p m ≤ b
  | 0, p, m, hm, h => hm
  | r + 1, p, m, hm, h => by rw [mostR]; exact mostR_le l b r _ _ (by have := h p; omega) h
theorem mostR_ge0 (l : List Ins) : ∀ (r : Nat) (p m : Int), m ≤ mostR l r p m
  | 0, p, m => Int.le_refl _
  | r + 1, p, m => by rw [mostR]; have := mostR_ge0 l r (p + 1) (max m (walkS l p).length); omega
theorem mostR_ge (l : List Ins) : ∀ (r : Nat) (p m q : Int), p ≤ q → q < p + r → ((walkS l q).length : Int) ≤ mostR l r p m
  | 0, p, m, q, h1, h2 => by omega
  | r + 1, p, m, q, h1, h2 => by
    rw [mostR]
    by_cases he : p = q
    · subst he
      have := mostR_ge0 l r (p + 1) (max m (walkS l p).length); omega
    · exact mostR_ge l r (p + 1) _ q (by omega) (by omega)
theorem longest {l : List Ins} (h : checkI l = 0) : mostR l (2 ^ jz l) 0 0 = (fuelS l).1 := by
  obtain ⟨q, h1, h2, h3⟩ := fuel_hit h
  have ha := mostR_ge l (2 ^ jz l) 0 0 q h1 (by unfold two at h2; omega)
  have hb := mostR_le l (fuelS l).1 (2 ^ jz l) 0 0 (by rw [← h3]; omega) (fun q => (fuel_ge h (l.length + 1) q).2)
  omega
end Go.VI

namespace Go.VI
open Go.Proofs
set_option maxRecDepth 100000
set_option linter.unusedSimpArgs false
set_option linter.unusedVariables false
set_option maxHeartbeats 4000000
theorem l7_0 (l : List Ins) (hl : l.length ≤ 40) (k : Nat) (hk : k ≤ l.length) (c : Nat) (hc : c ≤ k) :
    ∃ fr, rl E 0 7 (loopAt Tryd.f7 0) [(0, .i (.sl 2 (rowsI l) false)), (3, .i (.v (.int .i64 c))), (19, .i (.sl 2 (rowsI l) false)), (20, .i (.v (.int .i64 l.length))), (21, .i (.v (.int .i64 k)))] [] = some (.exit 0, fr, []) ∧ get 0 fr = .i (.sl 2 (rowsI l) false) ∧ get 3 fr = .i (.v (.int .i64 (c + jz (l.drop k) : Nat))) := by
  rw [rl_step (fn := Tryd.f7) (k := 0) rfl]
  by_cases hlt : k < l.length
  · have hrow := rowsI_at hlt
    rw [jz_drop l hlt, good_getD hlt]
    obtain ⟨op, arg, hp⟩ : ∃ op arg, l[k] = (op, arg) := ⟨_, _, rfl⟩
    rw [hp] at hrow ⊢
    simp only at hrow ⊢
    by_cases h18 : op = 18
    · rw [if_pos h18]
      obtain ⟨fr, e, h0, h3⟩ := l7_0 l hl (k + 1) hlt (c + 1) (by omega)
      rw [Nat.add_assoc] at h3
      refine ⟨fr, Eq.trans ?_ e, h0, h3⟩
      subst h18
      clear e h0 h3
      simp (disch := first | omega | (simp only [List.length_append, List.length_map, List.length_set, List.length_cons, List.length_nil, List.length_take, List.length_drop, rowsI_len]; omega)) only [va0, va1, va2, va3, va4, va5, va6, va7, va8, va9, va10, va11, va12, va13, va14, va15, vb0, vb1, vb2, vb3, w_i8, w_u8, w_i16, w_u16, w_i32, w_u32, w_i64, w_u64, lt_T, lt_F, le_T, le_F, nlt_T, nlt_F, nle_T, nle_F, List.take_of_length_le, gB, gcW, gcR, posIn, renA, renL, Chunk.ren, Chunk.refs, evOpD, touchD, stepC, isFresh, nFresh, freshOf, mkR, hole, evL, evH, opd, get, putD, ofVal, cellOf, loadE, behind, lenE, idxAddrE, idxE, addPtr, intE, strE, unE, convE, AV.int, AV.bool, AV.str, ivs, take, frameOf, firstRegion, refsA, refsL, one, cellsA, floatOk, apartT, List.map, if_true, if_false, E_P, E_glob0, E_glob1, reduceCtorEq, beq_self_eq_true, decide_true, decide_false, ↓reduceIte, Nat.reduceEqDiff, cond_true, cond_false, or_true, true_or, or_false, false_or, and_true, true_and, and_self, false_and, and_false, not_true, not_false_iff, Nat.reduceAdd, Nat.reduceSub, Nat.reduceMul, Nat.reduceLT, Nat.reduceLeDiff, Int.reduceToNat, Int.reduceLT, Int.reduceLE, Option.getD, Int.reduceMul, Int.reduceAdd, List.drop, List.take, Nat.reduceBEq, List.isEmpty, Int.reduceEq, Int.reduceNe, Int.reduceNeg, Int.reduceGT, Int.reduceGE, beq_true, beq_false, UInt8.reduceToNat, eqE, eq_self, foldE, maxE, minE, eq_T, eq_F, ndec, odec, adec, sdec, fillA, over, chop, List.replicate, leavesOk, leafOk, cellsEq, cellEq, E_ext, E_byref, en7, bs22, bs24, hrow, rowsI_len, show ∀ B fr H, execT E B 7 (Code.loop _) fr H = rlG E B 7 (loopAt Tryd.f7 0) (gcn B (norm [0, 3, 19, 20, 21] fr) H) from fun B fr H => rl_intro rfl mt7_5 mb7_5 zf7_5 hd7_5 fr H]
    · rw [if_neg h18, Nat.zero_add]
      obtain ⟨fr, e, h0, h3⟩ := l7_0 l hl (k + 1) hlt c (by omega)
      refine ⟨fr, Eq.trans ?_ e, h0, h3⟩
      clear e h0 h3
      simp (disch := first | omega | (simp only [List.length_append, List.length_map, List.length_set, List.length_cons, List.length_nil, List.length_take, List.length_drop, rowsI_len]; omega)) only [va0, va1, va2, va3, va4, va5, va6, va7, va8, va9, va10, va11, va12, va13, va14, va15, vb0, vb1, vb2, vb3, w_i8, w_u8, w_i16, w_u16, w_i32, w_u32, w_i64, w_u64, lt_T, lt_F, le_T, le_F, nlt_T, nlt_F, nle_T, nle_F, List.take_of_length_le, gB, gcW, gcR, posIn, renA, renL, Chunk.ren, Chunk.refs, evOpD, touchD, stepC, isFresh, nFresh, freshOf, mkR, hole, evL, evH, opd, get, putD, ofVal, cellOf, loadE, behind, lenE, idxAddrE, idxE, addPtr, intE, strE, unE, convE, AV.int, AV.bool, AV.str, ivs, take, frameOf, firstRegion, refsA, refsL, one, cellsA, floatOk, apartT, List.map, if_true, if_false, E_P, E_glob0, E_glob1, reduceCtorEq, beq_self_eq_true, decide_true, decide_false, ↓reduceIte, Nat.reduceEqDiff, cond_true, cond_false, or_true, true_or, or_false, false_or, and_true, true_and, and_self, false_and, and_false, not_true, not_false_iff, Nat.reduceAdd, Nat.reduceSub, Nat.reduceMul, Nat.reduceLT, Nat.reduceLeDiff, Int.reduceToNat, Int.reduceLT, Int.reduceLE, Option.getD, Int.reduceMul, Int.reduceAdd, List.drop, List.take, Nat.reduceBEq, List.isEmpty, Int.reduceEq, Int.reduceNe, Int.reduceNeg, Int.reduceGT, Int.reduceGE, beq_true, beq_false, UInt8.reduceToNat, eqE, eq_self, foldE, maxE, minE, eq_T, eq_F, ndec, odec, adec, sdec, fillA, over, chop, List.replicate, leavesOk, leafOk, cellsEq, cellEq, E_ext, E_byref, en7, bs22, bs24, hrow, h18, rowsI_len, show ∀ B fr H, execT E B 7 (Code.loop _) fr H = rlG E B 7 (loopAt Tryd.f7 0) (gcn B (norm [0, 3, 19, 20, 21] fr) H) from fun B fr H => rl_intro rfl mt7_5 mb7_5 zf7_5 hd7_5 fr H]
  · obtain rfl : k = l.length := by omega
    rw [List.drop_length, jz]
    simp (disch := first | omega | (simp only [List.length_append, List.length_map, List.length_set, List.length_cons, List.length_nil, List.length_take, List.length_drop, rowsI_len]; omega)) only [va0, va1, va2, va3, va4, va5, va6, va7, va8, va9, va10, va11, va12, va13, va14, va15, vb0, vb1, vb2, vb3, w_i8, w_u8, w_i16, w_u16, w_i32, w_u32, w_i64, w_u64, lt_T, lt_F, le_T, le_F, nlt_T, nlt_F, nle_T, nle_F, List.take_of_length_le, gB, gcW, gcR, posIn, renA, renL, Chunk.ren, Chunk.refs, evOpD, touchD, stepC, isFresh, nFresh, freshOf, mkR, hole, evL, evH, opd, get, putD, ofVal, cellOf, loadE, behind, lenE, idxAddrE, idxE, addPtr, intE, strE, unE, convE, AV.int, AV.bool, AV.str, ivs, take, frameOf, firstRegion, refsA, refsL, one, cellsA, floatOk, apartT, List.map, if_true, if_false, E_P, E_glob0, E_glob1, reduceCtorEq, beq_self_eq_true, decide_true, decide_false, ↓reduceIte, Nat.reduceEqDiff, cond_true, cond_false, or_true, true_or, or_false, false_or, and_true, true_and, and_self, false_and, and_false, not_true, not_false_iff, Nat.reduceAdd, Nat.reduceSub, Nat.reduceMul, Nat.reduceLT, Nat.reduceLeDiff, Int.reduceToNat, Int.reduceLT, Int.reduceLE, Option.getD, Int.reduceMul, Int.reduceAdd, List.drop, List.take, Nat.reduceBEq, List.isEmpty, Int.reduceEq, Int.reduceNe, Int.reduceNeg, Int.reduceGT, Int.reduceGE, beq_true, beq_false, UInt8.reduceToNat, eqE, eq_self, foldE, maxE, minE, eq_T, eq_F, ndec, odec, adec, sdec, fillA, over, chop, List.replicate, leavesOk, leafOk, cellsEq, cellEq, E_ext, E_byref, en7, bs22, bs24, rowsI_len, show ∀ B fr H, execT E B 7 (Code.loop _) fr H = rlG E B 7 (loopAt Tryd.f7 0) (gcn B (norm [0, 3, 19, 20, 21] fr) H) from fun B fr H => rl_intro rfl mt7_5 mb7_5 zf7_5 hd7_5 fr H]
    exact ⟨_, rfl, rfl, rfl⟩
termination_by l.length - k
theorem two_u32 (c : Nat) (h : c ≤ 8) : IntKind.wrap .u32 (1 * 2 ^ min c (IntKind.bits .u32)) = two c := by
  have h1 : c = 0 ∨ c = 1 ∨ c = 2 ∨ c = 3 ∨ c = 4 ∨ c = 5 ∨ c = 6 ∨ c = 7 ∨ c = 8 := by omega
  rcases h1 with h | h | h | h | h | h | h | h | h <;> subst h <;> rfl
theorem two_256 (c : Nat) (h : c ≤ 8) : two c ≤ 256 := two_mono h
theorem l7_1 (l : List Ins) (hl : l.length ≤ 40) (g : Good l) (c : Nat) (hc : c ≤ 8) : ∀ (r : Nat) (p : Int) (hp : 0 ≤ p ∧ p + r = two c) (m : Int) (hm : 0 ≤ m ∧ m ≤ 1000),
    ∃ fr, rl E 0 7 (loopAt Tryd.f7 1) [(0, .i (.sl 2 (rowsI l) false)), (3, .i (.v (.int .i64 c))), (6, .i (.v (.int .i64 m))), (7, .i (.v (.int .u32 p)))] [] = some (.exit 2, fr, []) ∧ get 0 fr = .i (.sl 2 (rowsI l) false) ∧ get 6 fr = .i (.v (.int .i64 (mostR l r p m)))
  | 0, p, hp, m, hm => by
    rw [rl_step (fn := Tryd.f7) (k := 1) rfl]
    have h2 := two_u32 c hc
    have h3 := two_256 c hc
    generalize two c = tw at *
    rw [mostR]
    simp (disch := first | omega | (simp only [List.length_append, List.length_map, List.length_set, List.length_cons, List.length_nil, List.length_take, List.length_drop, rowsI_len]; omega)) only [va0, va1, va2, va3, va4, va5, va6, va7, va8, va9, va10, va11, va12, va13, va14, va15, vb0, vb1, vb2, vb3, w_i8, w_u8, w_i16, w_u16, w_i32, w_u32, w_i64, w_u64, lt_T, lt_F, le_T, le_F, nlt_T, nlt_F, nle_T, nle_F, List.take_of_length_le, gB, gcW, gcR, posIn, renA, renL, Chunk.ren, Chunk.refs, evOpD, touchD, stepC, isFresh, nFresh, freshOf, mkR, hole, evL, evH, opd, get, putD, ofVal, cellOf, loadE, behind, lenE, idxAddrE, idxE, addPtr, intE, strE, unE, convE, AV.int, AV.bool, AV.str, ivs, take, frameOf, firstRegion, refsA, refsL, one, cellsA, floatOk, apartT, List.map, if_true, if_false, E_P, E_glob0, E_glob1, reduceCtorEq, beq_self_eq_true, decide_true, decide_false, ↓reduceIte, Nat.reduceEqDiff, cond_true, cond_false, or_true, true_or, or_false, false_or, and_true, true_and, and_self, false_and, and_false, not_true, not_false_iff, Nat.reduceAdd, Nat.reduceSub, Nat.reduceMul, Nat.reduceLT, Nat.reduceLeDiff, Int.reduceToNat, Int.reduceLT, Int.reduceLE, Option.getD, Int.reduceMul, Int.reduceAdd, List.drop, List.take, Nat.reduceBEq, List.isEmpty, Int.reduceEq, Int.reduceNe, Int.reduceNeg, Int.reduceGT, Int.reduceGE, beq_true, beq_false, UInt8.reduceToNat, eqE, eq_self, foldE, maxE, minE, eq_T, eq_F, ndec, odec, adec, sdec, fillA, over, chop, List.replicate, leavesOk, leafOk, cellsEq, cellEq, E_ext, E_byref, en7, bs22, bs24, h2, rowsI_len, show ∀ B fr H, execT E B 7 (Code.loop _) fr H = rlG E B 7 (loopAt Tryd.f7 1) (gcn B (norm [0, 3, 6, 7] fr) H) from fun B fr H => rl_intro rfl mt7_14 mb7_14 zf7_14 hd7_14 fr H]
    exact ⟨_, rfl, rfl, rfl⟩
  | r + 1, p, hp, m, hm => by
    rw [rl_step (fn := Tryd.f7) (k := 1) rfl]
    have h2 := two_u32 c hc
    have h3 := two_256 c hc
    have hw := fun H => ik20 l (by omega) g.ok p (by omega) H
    have hwl := walk_len (l := l) (l.length + 1) 0 p
    rw [show walkF l (l.length + 1) 0 p = walkS l p from rfl] at hwl
    rw [mostR]
    obtain ⟨fr, e, h0, h6⟩ := l7_1 l hl g c hc r (p + 1) (by omega) (max m (walkS l p).length) (by omega)
    refine ⟨fr, Eq.trans ?_ e, h0, h6⟩
    clear e h0 h6
    generalize walkS l p = w at *
    generalize two c = tw at *
    simp (disch := first | omega | (simp only [List.length_append, List.length_map, List.length_set, List.length_cons, List.length_nil, List.length_take, List.length_drop, rowsI_len, rows64_len]; omega)) only [va0, va1, va2, va3, va4, va5, va6, va7, va8, va9, va10, va11, va12, va13, va14, va15, vb0, vb1, vb2, vb3, w_i8, w_u8, w_i16, w_u16, w_i32, w_u32, w_i64, w_u64, lt_T, lt_F, le_T, le_F, nlt_T, nlt_F, nle_T, nle_F, List.take_of_length_le, gB, gcW, gcR, posIn, renA, renL, Chunk.ren, Chunk.refs, evOpD, touchD, stepC, isFresh, nFresh, freshOf, mkR, hole, evL, evH, opd, get, putD, ofVal, cellOf, loadE, behind, lenE, idxAddrE, idxE, addPtr, intE, strE, unE, convE, AV.int, AV.bool, AV.str, ivs, take, frameOf, firstRegion, refsA, refsL, one, cellsA, floatOk, apartT, List.map, if_true, if_false, E_P, E_glob0, E_glob1, reduceCtorEq, beq_self_eq_true, decide_true, decide_false, ↓reduceIte, Nat.reduceEqDiff, cond_true, cond_false, or_true, true_or, or_false, false_or, and_true, true_and, and_self, false_and, and_false, not_true, not_false_iff, Nat.reduceAdd, Nat.reduceSub, Nat.reduceMul, Nat.reduceLT, Nat.reduceLeDiff, Int.reduceToNat, Int.reduceLT, Int.reduceLE, Option.getD, Int.reduceMul, Int.reduceAdd, List.drop, List.take, Nat.reduceBEq, List.isEmpty, Int.reduceEq, Int.reduceNe, Int.reduceNeg, Int.reduceGT, Int.reduceGE, beq_true, beq_false, UInt8.reduceToNat, eqE, eq_self, foldE, maxE, minE, eq_T, eq_F, ndec, odec, adec, sdec, fillA, over, chop, List.replicate, leavesOk, leafOk, cellsEq, cellEq, E_ext, E_byref, en7, bs22, bs24, h2, hw, rows64_len, rowsI_len, show ∀ B fr H, execT E B 7 (Code.loop _) fr H = rlG E B 7 (loopAt Tryd.f7 1) (gcn B (norm [0, 3, 6, 7] fr) H) from fun B fr H => rl_intro rfl mt7_14 mb7_14 zf7_14 hd7_14 fr H]
theorem law7 (l : List Ins) (hl : l.length ≤ 9223372036854775807) : ∃ L, callT E 7 [.i (.sl 2 (rowsI l) false)] [] = some (.i (.v (.bool true)), L) := by
  have hC := fun H => ik23 l (by omega) H
  have hF := fun H => ik16 l (by omega) H
  by_cases h6 : 40 < (l.length : Int)
  · by_cases h7 : checkI l = 0
    · rw [callT_eq Tryd.func7 rfl fok7 (by simp [Tryd.ntmps7])]
      simp (disch := first | omega | (simp only [List.length_append, List.length_map, List.length_set, List.length_cons, List.length_nil, List.length_take, List.length_drop, rowsI_len]; omega)) only [va0, va1, va2, va3, va4, va5, va6, va7, va8, va9, va10, va11, va12, va13, va14, va15, vb0, vb1, vb2, vb3, w_i8, w_u8, w_i16, w_u16, w_i32, w_u32, w_i64, w_u64, lt_T, lt_F, le_T, le_F, nlt_T, nlt_F, nle_T, nle_F, List.take_of_length_le, gB, gcW, gcR, posIn, renA, renL, Chunk.ren, Chunk.refs, evOpD, touchD, stepC, isFresh, nFresh, freshOf, mkR, hole, evL, evH, opd, get, putD, ofVal, cellOf, loadE, behind, lenE, idxAddrE, idxE, addPtr, intE, strE, unE, convE, AV.int, AV.bool, AV.str, ivs, take, frameOf, firstRegion, refsA, refsL, one, cellsA, floatOk, apartT, List.map, if_true, if_false, E_P, E_glob0, E_glob1, reduceCtorEq, beq_self_eq_true, decide_true, decide_false, ↓reduceIte, Nat.reduceEqDiff, cond_true, cond_false, or_true, true_or, or_false, false_or, and_true, true_and, and_self, false_and, and_false, not_true, not_false_iff, Nat.reduceAdd, Nat.reduceSub, Nat.reduceMul, Nat.reduceLT, Nat.reduceLeDiff, Int.reduceToNat, Int.reduceLT, Int.reduceLE, Option.getD, Int.reduceMul, Int.reduceAdd, List.drop, List.take, Nat.reduceBEq, List.isEmpty, Int.reduceEq, Int.reduceNe, Int.reduceNeg, Int.reduceGT, Int.reduceGE, beq_true, beq_false, UInt8.reduceToNat, eqE, eq_self, foldE, maxE, minE, eq_T, eq_F, ndec, odec, adec, sdec, fillA, over, chop, List.replicate, leavesOk, leafOk, cellsEq, cellEq, E_ext, E_byref, en7, bs22, bs24, hC, h6, h7, rowsI_len, ik11]
      exact ⟨_, rfl⟩
    · rw [callT_eq Tryd.func7 rfl fok7 (by simp [Tryd.ntmps7])]
      simp (disch := first | omega | (simp only [List.length_append, List.length_map, List.length_set, List.length_cons, List.length_nil, List.length_take, List.length_drop, rowsI_len]; omega)) only [va0, va1, va2, va3, va4, va5, va6, va7, va8, va9, va10, va11, va12, va13, va14, va15, vb0, vb1, vb2, vb3, w_i8, w_u8, w_i16, w_u16, w_i32, w_u32, w_i64, w_u64, lt_T, lt_F, le_T, le_F, nlt_T, nlt_F, nle_T, nle_F, List.take_of_length_le, gB, gcW, gcR, posIn, renA, renL, Chunk.ren, Chunk.refs, evOpD, touchD, stepC, isFresh, nFresh, freshOf, mkR, hole, evL, evH, opd, get, putD, ofVal, cellOf, loadE, behind, lenE, idxAddrE, idxE, addPtr, intE, strE, unE, convE, AV.int, AV.bool, AV.str, ivs, take, frameOf, firstRegion, refsA, refsL, one, cellsA, floatOk, apartT, List.map, if_true, if_false, E_P, E_glob0, E_glob1, reduceCtorEq, beq_self_eq_true, decide_true, decide_false, ↓reduceIte, Nat.reduceEqDiff, cond_true, cond_false, or_true, true_or, or_false, false_or, and_true, true_and, and_self, false_and, and_false, not_true, not_false_iff, Nat.reduceAdd, Nat.reduceSub, Nat.reduceMul, Nat.reduceLT, Nat.reduceLeDiff, Int.reduceToNat, Int.reduceLT, Int.reduceLE, Option.getD, Int.reduceMul, Int.reduceAdd, List.drop, List.take, Nat.reduceBEq, List.isEmpty, Int.reduceEq, Int.reduceNe, Int.reduceNeg, Int.reduceGT, Int.reduceGE, beq_true, beq_false, UInt8.reduceToNat, eqE, eq_self, foldE, maxE, minE, eq_T, eq_F, ndec, odec, adec, sdec, fillA, over, chop, List.replicate, leavesOk, leafOk, cellsEq, cellEq, E_ext, E_byref, en7, bs22, bs24, hC, h6, h7, rowsI_len, ik11]
      exact ⟨_, rfl⟩
  · by_cases h7 : checkI l = 0
    · obtain ⟨fr, e, g0, g3⟩ := l7_0 l (by omega) 0 (Nat.zero_le _) 0 (Nat.le_refl _)
      have e' : rl E 0 7 (loopAt Tryd.f7 0) [(0, .i (.sl 2 (rowsI l) false)), (3, .i (.v (.int .i64 0))), (19, .i (.sl 2 (rowsI l) false)), (20, .i (.v (.int .i64 l.length))), (21, .i (.v (.int .i64 0)))] [] = _ := e
      rw [Nat.zero_add, List.drop_zero] at g3
      clear e
      have hlg := longest h7
      by_cases h8 : 8 < jz l
      · generalize jz l = c at *
        rw [h7] at hC
        rw [callT_eq Tryd.func7 rfl fok7 (by simp [Tryd.ntmps7])]
        simp (disch := first | omega | (simp only [List.length_append, List.length_map, List.length_set, List.length_cons, List.length_nil, List.length_take, List.length_drop, rowsI_len]; omega)) only [va0, va1, va2, va3, va4, va5, va6, va7, va8, va9, va10, va11, va12, va13, va14, va15, vb0, vb1, vb2, vb3, w_i8, w_u8, w_i16, w_u16, w_i32, w_u32, w_i64, w_u64, lt_T, lt_F, le_T, le_F, nlt_T, nlt_F, nle_T, nle_F, List.take_of_length_le, gB, gcW, gcR, posIn, renA, renL, Chunk.ren, Chunk.refs, evOpD, touchD, stepC, isFresh, nFresh, freshOf, mkR, hole, evL, evH, opd, get, putD, ofVal, cellOf, loadE, behind, lenE, idxAddrE, idxE, addPtr, intE, strE, unE, convE, AV.int, AV.bool, AV.str, ivs, take, frameOf, firstRegion, refsA, refsL, one, cellsA, floatOk, apartT, List.map, if_true, if_false, E_P, E_glob0, E_glob1, reduceCtorEq, beq_self_eq_true, decide_true, decide_false, ↓reduceIte, Nat.reduceEqDiff, cond_true, cond_false, or_true, true_or, or_false, false_or, and_true, true_and, and_self, false_and, and_false, not_true, not_false_iff, Nat.reduceAdd, Nat.reduceSub, Nat.reduceMul, Nat.reduceLT, Nat.reduceLeDiff, Int.reduceToNat, Int.reduceLT, Int.reduceLE, Option.getD, Int.reduceMul, Int.reduceAdd, List.drop, List.take, Nat.reduceBEq, List.isEmpty, Int.reduceEq, Int.reduceNe, Int.reduceNeg, Int.reduceGT, Int.reduceGE, beq_true, beq_false, UInt8.reduceToNat, eqE, eq_self, foldE, maxE, minE, eq_T, eq_F, ndec, odec, adec, sdec, fillA, over, chop, List.replicate, leavesOk, leafOk, cellsEq, cellEq, E_ext, E_byref, en7, bs22, bs24, hC, h6, h8, e', g0, g3, rowsI_len, ik11, show ∀ B fr H, execT E B 7 (Code.loop _) fr H = rlG E B 7 (loopAt Tryd.f7 0) (gcn B (norm [0, 3, 19, 20, 21] fr) H) from fun B fr H => rl_intro rfl mt7_5 mb7_5 zf7_5 hd7_5 fr H]
        exact ⟨_, rfl⟩
      · obtain ⟨fr1, e1, f0, f6⟩ := l7_1 l (by omega) (good_of h7) (jz l) (by omega) (2 ^ jz l) 0 (by unfold two; omega) 0 (by omega)
        rw [hlg] at f6
        clear hlg
        have hf2 := (fuel_ge h7 0 0).1
        rw [hf2] at hF
        generalize jz l = c at *
        generalize (fuelS l).1 = m at *
        rw [h7] at hC
        have e1' : rl E 0 7 (loopAt Tryd.f7 1) [(0, .i (.sl 2 (rowsI l) false)), (3, .i (.v (.int .i64 c))), (6, .i (.v (.int .i64 0))), (7, .i (.v (.int .u32 0)))] [] = _ := e1
        clear e1
        rw [callT_eq Tryd.func7 rfl fok7 (by simp [Tryd.ntmps7])]
        simp (disch := first | omega | (simp only [List.length_append, List.length_map, List.length_set, List.length_cons, List.length_nil, List.length_take, List.length_drop, rowsI_len]; omega)) only [va0, va1, va2, va3, va4, va5, va6, va7, va8, va9, va10, va11, va12, va13, va14, va15, vb0, vb1, vb2, vb3, w_i8, w_u8, w_i16, w_u16, w_i32, w_u32, w_i64, w_u64, lt_T, lt_F, le_T, le_F, nlt_T, nlt_F, nle_T, nle_F, List.take_of_length_le, gB, gcW, gcR, posIn, renA, renL, Chunk.ren, Chunk.refs, evOpD, touchD, stepC, isFresh, nFresh, freshOf, mkR, hole, evL, evH, opd, get, putD, ofVal, cellOf, loadE, behind, lenE, idxAddrE, idxE, addPtr, intE, strE, unE, convE, AV.int, AV.bool, AV.str, ivs, take, frameOf, firstRegion, refsA, refsL, one, cellsA, floatOk, apartT, List.map, if_true, if_false, E_P, E_glob0, E_glob1, reduceCtorEq, beq_self_eq_true, decide_true, decide_false, ↓reduceIte, Nat.reduceEqDiff, cond_true, cond_false, or_true, true_or, or_false, false_or, and_true, true_and, and_self, false_and, and_false, not_true, not_false_iff, Nat.reduceAdd, Nat.reduceSub, Nat.reduceMul, Nat.reduceLT, Nat.reduceLeDiff, Int.reduceToNat, Int.reduceLT, Int.reduceLE, Option.getD, Int.reduceMul, Int.reduceAdd, List.drop, List.take, Nat.reduceBEq, List.isEmpty, Int.reduceEq, Int.reduceNe, Int.reduceNeg, Int.reduceGT, Int.reduceGE, beq_true, beq_false, UInt8.reduceToNat, eqE, eq_self, foldE, maxE, minE, eq_T, eq_F, ndec, odec, adec, sdec, fillA, over, chop, List.replicate, leavesOk, leafOk, cellsEq, cellEq, E_ext, E_byref, en7, bs22, bs24, hC, hF, h6, h8, e', g0, g3, e1', f0, f6, rowsI_len, ik11, show ∀ B fr H, execT E B 7 (Code.loop _) fr H = rlG E B 7 (loopAt Tryd.f7 0) (gcn B (norm [0, 3, 19, 20, 21] fr) H) from fun B fr H => rl_intro rfl mt7_5 mb7_5 zf7_5 hd7_5 fr H, show ∀ B fr H, execT E B 7 (Code.loop _) fr H = rlG E B 7 (loopAt Tryd.f7 1) (gcn B (norm [0, 3, 6, 7] fr) H) from fun B fr H => rl_intro rfl mt7_14 mb7_14 zf7_14 hd7_14 fr H]
        exact ⟨_, rfl⟩
    · rw [callT_eq Tryd.func7 rfl fok7 (by simp [Tryd.ntmps7])]
      simp (disch := first | omega | (simp only [List.length_append, List.length_map, List.length_set, List.length_cons, List.length_nil, List.length_take, List.length_drop, rowsI_len]; omega)) only [va0, va1, va2, va3, va4, va5, va6, va7, va8, va9, va10, va11, va12, va13, va14, va15, vb0, vb1, vb2, vb3, w_i8, w_u8, w_i16, w_u16, w_i32, w_u32, w_i64, w_u64, lt_T, lt_F, le_T, le_F, nlt_T, nlt_F, nle_T, nle_F, List.take_of_length_le, gB, gcW, gcR, posIn, renA, renL, Chunk.ren, Chunk.refs, evOpD, touchD, stepC, isFresh, nFresh, freshOf, mkR, hole, evL, evH, opd, get, putD, ofVal, cellOf, loadE, behind, lenE, idxAddrE, idxE, addPtr, intE, strE, unE, convE, AV.int, AV.bool, AV.str, ivs, take, frameOf, firstRegion, refsA, refsL, one, cellsA, floatOk, apartT, List.map, if_true, if_false, E_P, E_glob0, E_glob1, reduceCtorEq, beq_self_eq_true, decide_true, decide_false, ↓reduceIte, Nat.reduceEqDiff, cond_true, cond_false, or_true, true_or, or_false, false_or, and_true, true_and, and_self, false_and, and_false, not_true, not_false_iff, Nat.reduceAdd, Nat.reduceSub, Nat.reduceMul, Nat.reduceLT, Nat.reduceLeDiff, Int.reduceToNat, Int.reduceLT, Int.reduceLE, Option.getD, Int.reduceMul, Int.reduceAdd, List.drop, List.take, Nat.reduceBEq, List.isEmpty, Int.reduceEq, Int.reduceNe, Int.reduceNeg, Int.reduceGT, Int.reduceGE, beq_true, beq_false, UInt8.reduceToNat, eqE, eq_self, foldE, maxE, minE, eq_T, eq_F, ndec, odec, adec, sdec, fillA, over, chop, List.replicate, leavesOk, leafOk, cellsEq, cellEq, E_ext, E_byref, en7, bs22, bs24, hC, h6, h7, rowsI_len, ik11]
      exact ⟨_, rfl⟩
theorem c7 (l : List Ins) (hl : l.length ≤ 9223372036854775807) : ∃ L, callT E 7 [.i (.sl 2 (l.map fun a => insC a) false)] [] = some (.i (.v (.bool true)), L) := law7 l hl
end Go.VI

set_option linter.unusedSimpArgs false
set_option linter.unusedVariables false
namespace Go.VI
open Go.Proofs
theorem laid_tail {P : Program} {W : World} {x : String × DataW Unit} {l : List (String × DataW Unit)} (h : laidMet P (x :: l) W) : laidMet P l W := by
  obtain ⟨ps, ⟨g, t, cs, fuel, p, q, _, _, _, _, hr, rfl⟩, hnd, hrows⟩ := h
  exact ⟨q, hr, hnd.sublist (List.sublist_append_right _ _), fun b off hp => hrows b off (List.mem_append.2 (.inr hp))⟩
theorem glob_of_tabI {P : Program} {W : World} {name : String} {g : Nat} {tab : List Int} (hg : P.globalNamed name = some g) (h : Lib.TabIs P W name .i64 tab) : RelI (imm0 W) (.pt (tabT tab) 0) (.pointer (some ⟨g, 0, none⟩)) := by
  unfold Lib.TabIs World.var? at h
  rw [hg] at h
  simp only [Option.bind_some] at h
  split at h
  · rename_i cs e fz hh
    simp only [Option.some.injEq] at h
    refine .pt (tabT tab) 0 g 0 cs e fz (fun k => .int .i64 (tab.getD k 0)) hh (fun k a hk => ?_) (fun k a hk => ?_)
    · have hl : k < tab.length := by
        have := (List.getElem?_eq_some_iff.1 hk).1
        simpa [tabT] using this
      subst h
      simp [List.getD, hl]
    · have hl : k < tab.length := by
        have := (List.getElem?_eq_some_iff.1 hk).1
        simpa [tabT] using this
      simp only [tabT, List.getElem?_map, List.getElem?_eq_getElem hl, Option.map_some, Option.some.injEq] at hk
      subst hk
      simp [List.getD, hl]
      exact .v _ rfl
  · cases h
theorem globs2 {W : World} (h0 : Lib.TabIs Tryd.prog W "narrator/scriptverify.pops" .i64 popsL) (h1 : Lib.TabIs Tryd.prog W "narrator/scriptverify.pushes" .i64 pushesL) : ∀ g cells, E.glob g = some cells → RelI (imm0 W) (.pt cells 0) (.pointer (some ⟨g, 0, none⟩)) := by
  intro g cells hg
  rcases E_globI g cells hg with ⟨rfl, rfl⟩ | ⟨rfl, rfl⟩ | h'
  · exact glob_of_tabI (by kernel_rfl) h0
  · exact glob_of_tabI (by kernel_rfl) h1
  · exact h'.elim
end Go.VI

