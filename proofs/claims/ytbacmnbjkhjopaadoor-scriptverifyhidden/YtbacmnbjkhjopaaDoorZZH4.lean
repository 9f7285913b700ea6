import Derived.Test.YtbacmnbjkhjopaaDoorProg
import Derived.KernelRfl
import Derived.RangeFuncNested
import Derived.RangeFuncBound
import Derived.RangeFuncCalls
import Derived.RangeFuncLeaves
import Derived.Shelf.Abstract
import Derived.Shelf.RegionOpen
import Derived.WalkKit
import Derived.OwnWalkIn
import Derived.TacticsInMore
import Derived.LoopNIn
import Derived.LoopIn
import Derived.Test.YtbacmnbjkhjopaaDoorZZH3
set_option linter.unusedVariables false
set_option linter.defProp false
set_option maxRecDepth 20000
namespace Go.VI
open Go.Proofs
def keepT : List (Nat × List (Nat × List Nat)) := [
  (2, [(0, [])]),
  (3, [(0, [0]), (1, [0, 9]), (2, [2]), (3, [0, 3, 4]), (4, [0, 3, 4, 5, 6]), (5, [2])]),
  (4, [(0, [0]), (1, [0, 9]), (2, [2]), (3, [0, 3, 4]), (4, [3, 4, 5, 6]), (5, [2])]),
  (5, [(0, [0]), (1, [0, 9]), (2, [2]), (3, [0, 3, 4]), (4, [3, 4, 5, 6]), (5, [2])]),
  (6, [(0, [0, 1]), (1, [0, 1, 5, 6]), (2, [0, 1, 5, 6, 7, 8]), (3, [0, 1, 5, 7, 8, 29]), (4, [4]), (5, [0, 5, 7, 8, 9]), (6, [0, 5, 9, 48]), (7, [4]), (8, [0, 5, 9, 10]), (9, [0, 5, 10, 49, 50, 51]), (10, [0, 5, 10, 49, 50, 51, 52]), (11, [0, 5, 10, 12, 49, 50, 51]), (12, [0, 5, 10, 12, 49, 50, 51, 70]), (13, [4]), (14, [0, 5, 10, 49, 50, 51]), (15, [0, 5, 10, 49, 50, 51, 87]), (16, [4]), (17, [0, 5, 10, 49, 50, 51]), (18, [4])]),
  (7, [(0, [0]), (1, [0, 17]), (2, [2]), (3, [0, 3]), (4, [0, 3, 19, 20, 21]), (5, [0, 3, 19, 20, 21, 22]), (6, [0, 3, 5, 19, 20, 21]), (7, [0, 3, 19, 20, 21, 27]), (8, [0, 3, 19, 20, 21]), (9, [0, 3, 19, 20, 21]), (10, [0, 3, 32]), (11, [2]), (12, [0, 3, 6]), (13, [0, 3, 6, 7]), (14, [0, 3, 6, 7, 37]), (15, [0, 3, 6, 7]), (16, [0, 3, 6, 7]), (17, [6, 8, 9]), (18, [2])]),
  (8, [(0, [0]), (1, [0, 3, 4]), (2, [0, 3, 24]), (3, [2]), (4, [0, 3, 30]), (5, [2]), (6, [0, 3, 5]), (7, [0, 3, 5, 31, 32, 33]), (8, [0, 3, 5, 31, 32, 33, 34]), (9, [0, 3, 5, 7, 31, 32, 33]), (10, [0, 3, 5, 31, 32, 33, 39]), (11, [0, 3, 5, 31, 32, 33]), (12, [0, 3, 5, 31, 32, 33]), (13, [0, 3, 5, 44]), (14, [2]), (15, [0, 3, 5, 8]), (16, [0, 3, 5, 8, 9]), (17, [0, 3, 5, 8, 9, 52]), (18, [0, 3, 5, 8, 9]), (19, [0, 3, 5, 8, 9, 57, 58, 59]), (20, [0, 3, 5, 8, 9, 57, 58, 59, 60]), (21, [0, 3, 5, 8, 9, 11, 57, 58, 59]), (22, [0, 3, 5, 8, 9, 57, 58, 59]), (23, [0, 3, 5, 8, 9, 57, 58, 59]), (24, [0, 3, 8, 12]), (25, [0, 3, 8, 12, 70]), (26, [0, 3, 8, 12]), (27, [0, 3, 8, 12, 82]), (28, [2]), (29, [2])]),
  (9, [(0, [0]), (1, [0, 11]), (2, [2]), (3, [0, 3, 4]), (4, [0, 3, 4, 13, 14, 15]), (5, [0, 3, 4, 13, 14, 15, 16]), (6, [0, 3, 4, 6, 13, 14, 15]), (7, [0, 3, 4, 6, 13, 14, 15]), (8, [0, 3, 4, 13, 14, 15]), (9, [0, 3, 4, 13, 14, 15]), (10, [3, 4, 7, 8]), (11, [2])]),
  (10, [(0, [0, 1]), (1, [0, 1, 18]), (2, [4]), (3, [0, 5]), (4, [0, 5, 6, 7]), (5, [0, 5, 6, 39]), (6, [4]), (7, [5, 6, 8]), (8, [6, 8]), (9, [6, 9, 10]), (10, [4])]),
  (11, [(0, []), (1, [1]), (2, [1, 2, 3]), (3, [1, 2, 3, 4, 5]), (4, [2, 3, 4, 5, 6, 7]), (5, [2, 3, 4, 5, 6, 7, 8, 9]), (6, [0])]),
  (12, [(0, [1, 2, 3]), (1, [1, 2, 3, 4]), (2, [1, 2, 3, 4, 14]), (3, [2, 3]), (4, [1, 2, 3, 5]), (5, [1, 2, 3, 5, 21, 22]), (6, [1, 2, 3, 5, 21, 22, 23]), (7, [1, 2, 3, 5, 6, 21, 22]), (8, [1, 2, 3, 5, 21, 22]), (9, [1, 2, 3, 5, 21, 22]), (10, [1, 2, 3, 5]), (11, [1, 2, 3, 5, 31, 32, 33]), (12, [1, 2, 3, 5, 31, 32, 33, 34]), (13, [1, 2, 3, 5, 7, 8, 31, 32, 33]), (14, [1, 2, 3, 5, 7, 8, 31, 32, 33, 42]), (15, [1, 2, 3, 5, 7, 8, 9, 31, 32, 33]), (16, [1, 2, 3, 5, 7, 8, 9, 31, 32, 33, 69]), (17, [2, 3]), (18, [1, 2, 3, 5, 9, 31, 32, 33, 72]), (19, [1, 2, 3, 5, 9, 10]), (20, [2, 3, 5, 9, 10, 92]), (21, []), (22, []), (23, [1, 2, 3, 5, 31, 32, 33]), (24, [2, 3])]),
  (13, [(0, [0]), (1, [0, 4]), (2, [0, 4, 14]), (3, [2, 3]), (4, [0, 5]), (5, [0, 5, 6]), (6, [0, 5, 6, 19]), (7, [0, 5, 6]), (8, [0, 5, 6]), (9, [0, 5]), (10, [0, 5, 7]), (11, [0, 5, 7, 30]), (12, [0, 5, 7]), (13, [0, 5, 7, 37]), (14, [0, 5, 7, 8]), (15, [0, 5, 7, 8, 70]), (16, [2, 3]), (17, [0, 5, 7, 8, 9]), (18, [0, 5, 7, 8, 9, 10]), (19, [0, 5, 7, 8, 9, 10, 77]), (20, [0, 5, 7, 8, 9, 10]), (21, [0, 5, 7, 8, 9, 10, 107]), (22, [2, 3]), (23, [0, 5, 7, 8, 9, 10]), (24, [2, 3])]),
  (14, [(0, [0, 1]), (1, [0, 1, 10]), (2, [4]), (3, [0, 1, 5]), (4, [0, 1, 5, 14]), (5, [0, 1, 5]), (6, [0, 1, 5, 25]), (7, [4]), (8, [4])]),
  (15, [(0, [0]), (1, [4]), (2, [2])]),
  (16, [(0, [0, 2, 3]), (1, [0, 2, 3, 4]), (2, [0, 2, 3, 4, 11]), (3, [2, 3]), (4, [0, 2, 3, 5]), (5, [0, 2, 3, 5, 6]), (6, [0, 2, 3, 5, 6, 21]), (7, [0, 2, 3, 5, 6]), (8, [0, 2, 3, 5, 6, 29]), (9, [5, 6, 7]), (10, []), (11, [0, 2, 3, 5, 6]), (12, [0, 2, 3, 5, 49]), (13, [0, 2, 3, 5, 6]), (14, [2, 3])]),
  (17, [(0, [0]), (1, [0, 4]), (2, [0, 4, 12]), (3, [2, 3]), (4, [0, 5]), (5, [0, 5, 6]), (6, [0, 5, 6, 22]), (7, [0, 5, 6]), (8, [0, 5, 6, 7]), (9, [0, 5, 6, 7, 8]), (10, [0, 5, 6, 7, 8, 31]), (11, [0, 5, 6, 7, 8]), (12, [0, 5, 6, 7, 8]), (13, [0, 5, 6]), (14, [2, 3])]),
  (18, [(0, [0, 2, 3]), (1, [0, 2, 3, 4, 5]), (2, [0, 2, 3, 4, 5, 19]), (3, [2, 3]), (4, [0, 2, 3, 4, 6]), (5, [2, 3, 4, 6, 25, 26, 27]), (6, [2, 3, 4, 6, 25, 26, 27, 28]), (7, [2, 3, 4, 6, 7, 8, 25, 26, 27]), (8, [2, 3, 4, 6, 7, 8, 25, 26, 27, 36]), (9, [2, 3, 4, 6, 7, 8, 9, 25, 26, 27]), (10, [2, 3, 4, 6, 7, 8, 9, 25, 26, 27, 62]), (11, [2, 3]), (12, [2, 3, 4, 6, 7, 8, 9, 25, 26, 27]), (13, [2, 3, 4, 6, 9, 25, 26, 27, 73]), (14, [6, 9, 10]), (15, [6, 9, 10]), (16, [6, 10, 89, 90]), (17, [6, 10, 89, 90, 91]), (18, [6, 10, 11, 12, 89, 90]), (19, [6, 10, 89, 90]), (20, [6, 10, 89, 90]), (21, [2, 3, 4, 6, 25, 26, 27]), (22, [2, 3])]),
  (19, [(0, [0]), (1, [0, 5]), (2, [0, 5, 20]), (3, [2, 3]), (4, [0, 6]), (5, [0, 6]), (6, [0, 6, 7]), (7, [0, 6, 7, 8]), (8, [0, 6, 7, 8, 32]), (9, [0, 6, 7, 8]), (10, [0, 6, 7, 8, 9]), (11, [0, 6, 7, 8, 9, 41]), (12, [0, 6, 7, 8, 9, 10]), (13, [0, 6, 7, 8, 9, 10, 66]), (14, [0, 6, 7, 8, 9, 10]), (15, [0, 6, 7, 8, 11]), (16, [0, 6, 7, 8, 11, 12]), (17, [0, 6, 7, 8, 11, 12, 13]), (18, [0, 6, 7, 8, 11, 12, 13, 76]), (19, [0, 6, 7, 8, 11, 12, 13]), (20, [0, 6, 7, 8, 11, 12, 13]), (21, [2, 3])]),
  (20, [(0, [0, 1]), (1, [0, 1, 5]), (2, [0, 1, 5, 6]), (3, [0, 1, 5, 6, 11]), (4, [0, 1, 5, 6]), (5, [0, 1, 5, 6, 7]), (6, [0, 1, 5, 6, 7]), (7, [0, 1, 5, 6, 7, 23]), (8, [0, 1, 5, 6, 7, 23, 24]), (9, [4]), (10, [0, 1, 5, 6, 7, 23, 27]), (11, [0, 1, 5, 6]), (12, [0, 1, 5, 6, 7, 31]), (13, [0, 1, 5, 6, 7, 35]), (14, [0, 1, 5, 6]), (15, [0, 1, 5, 6]), (16, [4])]),
  (21, [(0, [0]), (1, [0, 3]), (2, [2])]),
  (22, [(0, [0]), (1, [0, 3]), (2, [2])]),
  (23, [(0, [0]), (1, [0, 9]), (2, [2]), (3, [0, 10, 11, 12]), (4, [0, 10, 11, 12, 13]), (5, [0, 3, 4, 10, 11, 12]), (6, [0, 3, 4, 10, 11, 12, 26]), (7, [2]), (8, [0, 4, 5, 6, 10, 11, 12]), (9, [0, 10, 11, 12, 45]), (10, [2]), (11, [0, 10, 11, 12]), (12, [2])]),
  (24, [(0, [2, 3]), (1, [4])]),
  (25, [(0, [0]), (1, [0, 9]), (2, [2]), (3, [0, 3]), (4, [0, 3, 13]), (5, [0, 3]), (6, [0, 3, 4]), (7, [0, 3, 4, 27]), (8, [2]), (9, [0, 3, 4, 5, 6]), (10, [0, 3, 4, 5, 6, 30]), (11, [0, 3, 4, 5]), (12, [0, 3, 4, 5, 6]), (13, [0, 3, 4, 5, 6, 33]), (14, [0, 3, 4, 5]), (15, [0, 3, 4, 5, 6]), (16, [0, 3, 47]), (17, [2]), (18, [2])]),
  (26, [(0, [0, 1]), (1, [0, 1, 9]), (2, [0, 1, 9, 10]), (3, [4]), (4, [0, 1, 9, 12]), (5, [4]), (6, [0, 1, 20]), (7, [4]), (8, [4])]),
  (27, [(0, [1, 2, 3, 6]), (1, [1, 2, 3, 6, 7]), (2, [1, 2, 3, 6, 7, 11]), (3, [1, 2, 3, 6]), (4, [1, 2, 3, 6, 7, 25]), (5, [1, 2, 3, 6]), (6, [1, 2, 3, 6, 7, 47]), (7, [1, 2, 3, 6]), (8, [1, 2, 3, 6, 7, 57]), (9, [1, 2, 3, 6]), (10, [1, 2, 3, 6, 7, 76]), (11, [1, 2, 3, 6]), (12, [1, 2, 3, 6, 88]), (13, [1, 2, 3, 6]), (14, [3, 6, 8]), (15, [3, 6, 8, 110]), (16, [3, 6, 8]), (17, [3, 6, 8]), (18, [6])]),
  (28, [(0, [1, 2, 4]), (1, [1, 2, 4, 5]), (2, [1, 2, 4, 5, 6]), (3, [1, 2, 4, 5, 6]), (4, [2, 4, 5, 6, 24]), (5, [2, 4, 5, 6, 24, 25]), (6, [2, 4, 5, 6, 24, 25]), (7, [2, 4, 5, 6, 24, 25]), (8, [4, 6]), (9, [2, 4, 5, 6, 24, 34]), (10, [2, 4, 5, 6, 24, 34]), (11, [2, 4, 5, 6, 24, 34]), (12, [2, 4, 5, 6, 24, 34]), (13, [2, 4, 5, 6, 24, 34]), (14, [4, 6]), (15, [2, 4, 5, 6, 24, 59]), (16, [4, 6]), (17, [2, 4, 5, 6, 24, 72]), (18, [4, 6]), (19, [2, 4, 5, 6, 24, 91]), (20, [4, 6]), (21, [2, 4, 5, 6, 24, 110]), (22, [4, 6]), (23, [4, 6, 24, 123]), (24, [4, 6, 24, 123]), (25, [4, 6, 24, 123]), (26, [4, 6, 123]), (27, [4, 6]), (28, [4])]),
  (29, [(0, [2, 3, 4]), (1, [2, 3, 4, 9]), (2, [4]), (3, [2, 3, 4, 5]), (4, [2, 3, 4, 5, 6]), (5, [2, 3, 4, 5, 6, 35]), (6, [2, 3, 4, 5, 6]), (7, [2, 3, 4, 5, 6]), (8, [4])]),
  (30, [(0, []), (1, [0])]),
  (31, [(0, [0, 1, 2]), (1, [1, 2, 8]), (2, [1, 2, 8, 9]), (3, [1, 2, 8, 11]), (4, [1, 2, 13]), (5, [6, 7]), (6, [6, 7]), (7, [6, 7])]),
  (32, [(0, [0, 1, 18]), (1, [0, 1, 26]), (2, [])]),
  (33, [(0, [0]), (1, [2])]),
  (54, [(0, []), (1, [])])]
def headT : List (Nat × List (Nat × List Nat)) := [
  (6, [(10, [0, 5, 10, 49, 50, 51])]),
  (7, [(5, [0, 3, 19, 20, 21]), (14, [0, 3, 6, 7])]),
  (8, [(8, [0, 3, 5, 31, 32, 33]), (17, [0, 3, 5, 8, 9]), (20, [0, 3, 5, 8, 9, 57, 58, 59]), (25, [0, 3, 8, 12])]),
  (9, [(5, [0, 3, 4, 13, 14, 15])]),
  (12, [(6, [1, 2, 3, 5, 21, 22]), (12, [1, 2, 3, 5, 31, 32, 33])]),
  (13, [(6, [0, 5, 6]), (11, [0, 5, 7]), (19, [0, 5, 7, 8, 9, 10])]),
  (14, [(4, [0, 1, 5])]),
  (16, [(6, [0, 2, 3, 5, 6])]),
  (17, [(6, [0, 5, 6]), (10, [0, 5, 6, 7, 8])]),
  (18, [(6, [2, 3, 4, 6, 25, 26, 27]), (17, [6, 10, 89, 90])]),
  (19, [(8, [0, 6, 7, 8]), (18, [0, 6, 7, 8, 11, 12, 13])]),
  (20, [(3, [0, 1, 5, 6])]),
  (23, [(4, [0, 10, 11, 12])]),
  (25, [(4, [0, 3])]),
  (27, [(15, [3, 6, 8])]),
  (29, [(5, [2, 3, 4, 5, 6])])]
def lk2 (t : List (Nat × List (Nat × List Nat))) (f i : Nat) : List Nat := match t.lookup f with | some l => (l.lookup i).getD [] | none => []
def floT : List (Nat × List (Nat × List (Nat × Nat))) := [
  (6, [(14, [(6, 9), (6, 11)])]),
  (8, [(27, [])]),
  (12, [(15, [(0, 14), (2, 14), (3, 14), (5, 14), (6, 14), (7, 14), (10, 14), (11, 14), (12, 14)]), (16, []), (20, [])]),
  (13, [(14, [(2, 9), (3, 9), (9, 13), (9, 15), (2, 16), (3, 16)]), (15, [(2, 9), (3, 9)])]),
  (14, [(6, [])]),
  (16, [(8, []), (10, [])]),
  (17, [(12, [])]),
  (18, [(12, []), (15, []), (19, [])]),
  (19, [(20, [(3, 13), (4, 13)])]),
  (23, [(6, [(5, 6)])]),
  (27, [(9, []), (14, [])]),
  (28, [(3, [(1, 6), (3, 6)]), (14, [(1, 16)]), (16, [(1, 8)]), (18, [(1, 14)]), (20, [(1, 14)])]),
  (29, [(2, [(1, 2), (2, 4), (1, 5)]), (7, [(1, 14)])])]
def lkF (t : List (Nat × List (Nat × List (Nat × Nat)))) (f i : Nat) : List (Nat × Nat) := match t.lookup f with | some l => (l.lookup i).getD [] | none => []
def matT : List (Nat × List (Nat × List (Nat × Nat))) := [(13, [(6, [(5, 1)]), (11, [(5, 1)]), (19, [(5, 1)])]), (20, [(3, [(5, 1)])])]
def matbT : List (Nat × List (Nat × List (Nat × Nat × Nat))) := []
def frzT : List (Nat × List (Nat × List (Nat × Nat))) := []
def lkG {α : Type} (t : List (Nat × List (Nat × List α))) (f i : Nat) : List α := match t.lookup f with | some l => (l.lookup i).getD [] | none => []
def kindT : List (Nat × List (Option Nat)) := [(22, [some 2]), (24, [some 1]), (47, [some 1]), (55, [some 17]), (60, [some 3]), (61, [none, none, some 1]), (62, [none, none, some 1]), (65, [some 1])]
def argkT : List (Nat × List (List (Option Nat))) := [(3, [[some 2]]), (4, [[some 2]]), (5, [[some 2]]), (6, [[some 2]]), (7, [[some 2]]), (8, [[some 2]]), (9, [[some 2]]), (10, [[some 2]]), (12, [[some 2]]), (13, [[some 2]]), (14, [[some 1], [some 1]]), (15, [[some 2]]), (16, [[some 2]]), (17, [[some 2]]), (18, [[some 2]]), (19, [[some 2]]), (20, [[some 2]]), (23, [[some 2]]), (25, [[some 2]]), (26, [[some 2]]), (28, [[none, none, some 1]]), (29, [[none, none, some 1], [none, none, some 1]])]
def reskT : List (Nat × List (List (Option Nat))) := [(12, [[some 1]]), (13, [[some 1]]), (20, [[some 1]]), (26, [[some 1]]), (28, [[none, none, some 1]]), (29, [[none, none, some 1]]), (30, [[some 1]])]
noncomputable def E : Env := { P := Tryd.prog, keep := lk2 keepT, head := lk2 headT, flo := lkF floT, hol := fun f i => false, glob := fun g => if g = 0 then some popsT else if g = 1 then some pushesT else none, byref := fun f => false, seq := fun f => if f = 32 then some seqSucc else none, ext := fun f =>  none, kinds := fun t => (kindT.lookup t).getD [], argk := fun f => (argkT.lookup f).getD [], resk := fun f => (reskT.lookup f).getD [], own := fun f => false, mat := lkG matT, matb := lkG matbT, frz := lkG frzT }
theorem E_P : E.P = Tryd.prog := rfl
theorem sq32 : E.seq 32 = some seqSucc := rfl
theorem E_seqI (f : Nat) (h : List (List Int) → Option (List Int)) (hf : E.seq f = some h) : (f = 32 ∧ h = seqSucc) ∨ False := by
  have h2 : (if f = 32 then some seqSucc else none) = some h := hf
  (repeat (split at h2)) <;> simp_all
theorem E_globI (g : Nat) (cells : List IV) (h : E.glob g = some cells) : (g = 0 ∧ cells = popsT) ∨ (g = 1 ∧ cells = pushesT) ∨ False := by
  have h2 : (if g = 0 then some popsT else if g = 1 then some pushesT else none) = some cells := h
  (repeat (split at h2)) <;> simp_all
theorem E_glob0 : E.glob 0 = some popsT := rfl
theorem E_glob1 : E.glob 1 = some pushesT := rfl
theorem E_ext (f : Nat) : E.ext f = none := rfl
theorem E_byref (f : Nat) : E.byref f = false := rfl
theorem agg22 : aggO Tryd.prog 22 = some false := by kernel_rfl
theorem agg24 : aggO Tryd.prog 24 = some false := by kernel_rfl
theorem agg25 : aggO Tryd.prog 25 = some false := by kernel_rfl
theorem agg3 : aggO Tryd.prog 3 = some false := by kernel_rfl
theorem agg4 : aggO Tryd.prog 4 = some false := by kernel_rfl
theorem agg45 : aggO Tryd.prog 45 = some true := by kernel_rfl
theorem agg47 : aggO Tryd.prog 47 = some false := by kernel_rfl
theorem agg50 : aggO Tryd.prog 50 = some true := by kernel_rfl
theorem agg55 : aggO Tryd.prog 55 = some false := by kernel_rfl
theorem agg56 : aggO Tryd.prog 56 = some true := by kernel_rfl
theorem agg58 : aggO Tryd.prog 58 = some true := by kernel_rfl
theorem agg60 : aggO Tryd.prog 60 = some false := by kernel_rfl
theorem agg62 : aggO Tryd.prog 62 = some true := by kernel_rfl
theorem agg65 : aggO Tryd.prog 65 = some false := by kernel_rfl
theorem agg9 : aggO Tryd.prog 9 = some false := by kernel_rfl
theorem arr22 : arrO Tryd.prog 22 = none := by kernel_rfl
theorem arr24 : arrO Tryd.prog 24 = none := by kernel_rfl
theorem arr47 : arrO Tryd.prog 47 = none := by kernel_rfl
theorem arr50 : arrO Tryd.prog 50 = some (21, 3) := by kernel_rfl
theorem arr55 : arrO Tryd.prog 55 = none := by kernel_rfl
theorem arr56 : arrO Tryd.prog 56 = some (16, 4) := by kernel_rfl
theorem arr60 : arrO Tryd.prog 60 = none := by kernel_rfl
theorem arr62 : arrO Tryd.prog 62 = none := by kernel_rfl
theorem arrz45 : arrO Tryd.prog 45 = none := by kernel_rfl
theorem arrz58 : arrO Tryd.prog 58 = none := by kernel_rfl
theorem arrz62 : arrO Tryd.prog 62 = none := by kernel_rfl
theorem fld45_0 : fldO Tryd.prog 45 0 = some (0, 3) := by kernel_rfl
theorem fld45_1 : fldO Tryd.prog 45 1 = some (1, 3) := by kernel_rfl
theorem fld58_0 : fldO Tryd.prog 58 0 = some (0, 4) := by kernel_rfl
theorem fld58_1 : fldO Tryd.prog 58 1 = some (1, 56) := by kernel_rfl
theorem fld62_0 : fldO Tryd.prog 62 0 = some (0, 4) := by kernel_rfl
theorem fld62_1 : fldO Tryd.prog 62 1 = some (1, 4) := by kernel_rfl
theorem fld62_2 : fldO Tryd.prog 62 2 = some (2, 47) := by kernel_rfl
theorem kind22 : kindO Tryd.prog 22 = none := by kernel_rfl
theorem kind24 : kindO Tryd.prog 24 = none := by kernel_rfl
theorem kind3 : kindO Tryd.prog 3 = some .i64 := by kernel_rfl
theorem kind4 : kindO Tryd.prog 4 = none := by kernel_rfl
theorem kind45 : kindO Tryd.prog 45 = none := by kernel_rfl
theorem kind47 : kindO Tryd.prog 47 = none := by kernel_rfl
theorem kind50 : kindO Tryd.prog 50 = none := by kernel_rfl
theorem kind55 : kindO Tryd.prog 55 = none := by kernel_rfl
theorem kind56 : kindO Tryd.prog 56 = none := by kernel_rfl
theorem kind58 : kindO Tryd.prog 58 = none := by kernel_rfl
theorem kind60 : kindO Tryd.prog 60 = none := by kernel_rfl
theorem kind62 : kindO Tryd.prog 62 = none := by kernel_rfl
theorem kind65 : kindO Tryd.prog 65 = none := by kernel_rfl
theorem kind9 : kindO Tryd.prog 9 = none := by kernel_rfl
theorem pl45 : placesO Tryd.prog 45 = some [(0, 1), (1, 1)] := by kernel_rfl
theorem pl58 : placesO Tryd.prog 58 = some [(0, 1), (1, 16)] := by kernel_rfl
theorem pl62 : placesO Tryd.prog 62 = some [(0, 1), (1, 1), (2, 1)] := by kernel_rfl
theorem sl22 : slO Tryd.prog 22 = some 45 := by kernel_rfl
theorem sl24 : slO Tryd.prog 24 = some 3 := by kernel_rfl
theorem sl3 : slO Tryd.prog 3 = none := by kernel_rfl
theorem sl45 : slO Tryd.prog 45 = none := by kernel_rfl
theorem sl47 : slO Tryd.prog 47 = some 4 := by kernel_rfl
theorem sl50 : slO Tryd.prog 50 = none := by kernel_rfl
theorem sl55 : slO Tryd.prog 55 = some 58 := by kernel_rfl
theorem sl56 : slO Tryd.prog 56 = none := by kernel_rfl
theorem sl58 : slO Tryd.prog 58 = none := by kernel_rfl
theorem sl60 : slO Tryd.prog 60 = some 62 := by kernel_rfl
theorem sl62 : slO Tryd.prog 62 = none := by kernel_rfl
theorem sl65 : slO Tryd.prog 65 = some 9 := by kernel_rfl
theorem str22 : isStrO Tryd.prog 22 = false := by kernel_rfl
theorem str24 : isStrO Tryd.prog 24 = false := by kernel_rfl
theorem str3 : isStrO Tryd.prog 3 = false := by kernel_rfl
theorem str45 : isStrO Tryd.prog 45 = false := by kernel_rfl
theorem str47 : isStrO Tryd.prog 47 = false := by kernel_rfl
theorem str50 : isStrO Tryd.prog 50 = false := by kernel_rfl
theorem str55 : isStrO Tryd.prog 55 = false := by kernel_rfl
theorem str56 : isStrO Tryd.prog 56 = false := by kernel_rfl
theorem str58 : isStrO Tryd.prog 58 = false := by kernel_rfl
theorem str60 : isStrO Tryd.prog 60 = false := by kernel_rfl
theorem str62 : isStrO Tryd.prog 62 = false := by kernel_rfl
theorem str65 : isStrO Tryd.prog 65 = false := by kernel_rfl
theorem sz22 : szO Tryd.prog 22 = some 1 := by kernel_rfl
theorem sz24 : szO Tryd.prog 24 = some 1 := by kernel_rfl
theorem sz25 : szO Tryd.prog 25 = some 1 := by kernel_rfl
theorem sz3 : szO Tryd.prog 3 = some 1 := by kernel_rfl
theorem sz4 : szO Tryd.prog 4 = some 1 := by kernel_rfl
theorem sz45 : szO Tryd.prog 45 = some 2 := by kernel_rfl
theorem sz47 : szO Tryd.prog 47 = some 1 := by kernel_rfl
theorem sz55 : szO Tryd.prog 55 = some 1 := by kernel_rfl
theorem sz56 : szO Tryd.prog 56 = some 16 := by kernel_rfl
theorem sz58 : szO Tryd.prog 58 = some 17 := by kernel_rfl
theorem sz62 : szO Tryd.prog 62 = some 3 := by kernel_rfl
theorem sz9 : szO Tryd.prog 9 = some 1 := by kernel_rfl
theorem und4 : Tryd.prog.underlying 4 = some .bool := by kernel_rfl
theorem zero24 : zeroO Tryd.prog 24 = some (.i (.sl 0 [] true)) := by kernel_rfl
theorem zero25 : zeroO Tryd.prog 25 = some (.i (.v (.int .i64 0))) := by kernel_rfl
theorem zero3 : zeroO Tryd.prog 3 = some (.i (.v (.int .i64 0))) := by kernel_rfl
theorem zero4 : zeroO Tryd.prog 4 = some (.i (.v (.bool false))) := by kernel_rfl
theorem zero45 : zeroO Tryd.prog 45 = some (.agg [.i (.v (.int .i64 0)), .i (.v (.int .i64 0))]) := by kernel_rfl
theorem zero55 : zeroO Tryd.prog 55 = some (.i (.sl 0 [] true)) := by kernel_rfl
theorem zero58 : zeroO Tryd.prog 58 = some (.agg [.i (.v (.bool false)), .i (.v (.bool false)), .i (.v (.bool false)), .i (.v (.bool false)), .i (.v (.bool false)), .i (.v (.bool false)), .i (.v (.bool false)), .i (.v (.bool false)), .i (.v (.bool false)), .i (.v (.bool false)), .i (.v (.bool false)), .i (.v (.bool false)), .i (.v (.bool false)), .i (.v (.bool false)), .i (.v (.bool false)), .i (.v (.bool false)), .i (.v (.bool false))]) := by kernel_rfl
theorem zero62 : zeroO Tryd.prog 62 = some (.agg [.i (.v (.bool false)), .i (.v (.bool false)), .i (.sl 0 [] true)]) := by kernel_rfl
theorem zero9 : zeroO Tryd.prog 9 = some (.i (.str [])) := by kernel_rfl
theorem fok3 : fnOk E 3 = true := by kernel_rfl
theorem ent3 : enterOk E 3 = true := by kernel_rfl
theorem fok5 : fnOk E 5 = true := by kernel_rfl
theorem ent5 : enterOk E 5 = true := by kernel_rfl
theorem ent11 : enterOk E 11 = true := by kernel_rfl
theorem fok12 : fnOk E 12 = true := by kernel_rfl
theorem ent12 : enterOk E 12 = true := by kernel_rfl
theorem fok13 : fnOk E 13 = true := by kernel_rfl
theorem ent13 : enterOk E 13 = true := by kernel_rfl
theorem fok14 : fnOk E 14 = true := by kernel_rfl
theorem ent14 : enterOk E 14 = true := by kernel_rfl
theorem fok15 : fnOk E 15 = true := by kernel_rfl
theorem ent15 : enterOk E 15 = true := by kernel_rfl
theorem fok18 : fnOk E 18 = true := by kernel_rfl
theorem ent18 : enterOk E 18 = true := by kernel_rfl
theorem fok19 : fnOk E 19 = true := by kernel_rfl
theorem ent19 : enterOk E 19 = true := by kernel_rfl
theorem ent21 : enterOk E 21 = true := by kernel_rfl
theorem ent22 : enterOk E 22 = true := by kernel_rfl
theorem fok23 : fnOk E 23 = true := by kernel_rfl
theorem ent23 : enterOk E 23 = true := by kernel_rfl
theorem fok24 : fnOk E 24 = true := by kernel_rfl
theorem ent24 : enterOk E 24 = true := by kernel_rfl
theorem fok25 : fnOk E 25 = true := by kernel_rfl
theorem ent25 : enterOk E 25 = true := by kernel_rfl
theorem fok26 : fnOk E 26 = true := by kernel_rfl
theorem ent26 : enterOk E 26 = true := by kernel_rfl
theorem fok27 : fnOk E 27 = true := by kernel_rfl
theorem ent27 : enterOk E 27 = true := by kernel_rfl
theorem fok28 : fnOk E 28 = true := by kernel_rfl
theorem ent28 : enterOk E 28 = true := by kernel_rfl
theorem fok29 : fnOk E 29 = true := by kernel_rfl
theorem ent29 : enterOk E 29 = true := by kernel_rfl
theorem ent30 : enterOk E 30 = true := by kernel_rfl
theorem fok31 : fnOk E 31 = true := by kernel_rfl
theorem ent31 : enterOk E 31 = true := by kernel_rfl
theorem ent32 : enterOk E 32 = true := by kernel_rfl
theorem fok33 : fnOk E 33 = true := by kernel_rfl
theorem ent33 : enterOk E 33 = true := by kernel_rfl
theorem res3 : Tryd.f3.results = #[.tmp 2] := rfl
theorem res5 : Tryd.f5.results = #[.tmp 2] := rfl
theorem res12 : Tryd.f12.results = #[.cell 2 24, .cell 3 25] := rfl
theorem res13 : Tryd.f13.results = #[.tmp 2, .tmp 3] := rfl
theorem res14 : Tryd.f14.results = #[.tmp 4] := rfl
theorem res15 : Tryd.f15.results = #[.tmp 2] := rfl
theorem res18 : Tryd.f18.results = #[.tmp 2, .tmp 3] := rfl
theorem res19 : Tryd.f19.results = #[.tmp 2, .tmp 3] := rfl
theorem res23 : Tryd.f23.results = #[.tmp 2] := rfl
theorem res24 : Tryd.f24.results = #[.tmp 4] := rfl
theorem res25 : Tryd.f25.results = #[.tmp 2] := rfl
theorem res26 : Tryd.f26.results = #[.tmp 4] := rfl
theorem res27 : Tryd.f27.results = #[.cell 6 58] := rfl
theorem res28 : Tryd.f28.results = #[.cell 4 62] := rfl
theorem res29 : Tryd.f29.results = #[.cell 4 62] := rfl
theorem res31 : Tryd.f31.results = #[.tmp 6, .tmp 7] := rfl
theorem res33 : Tryd.f33.results = #[.tmp 2] := rfl
theorem kp3_0 : E.keep 3 0 = [0] := by kernel_rfl
theorem kp3_1 : E.keep 3 1 = [0, 9] := by kernel_rfl
theorem kp3_2 : E.keep 3 2 = [2] := by kernel_rfl
theorem kp3_3 : E.keep 3 3 = [0, 3, 4] := by kernel_rfl
theorem kp3_4 : E.keep 3 4 = [0, 3, 4, 5, 6] := by kernel_rfl
theorem kp3_5 : E.keep 3 5 = [2] := by kernel_rfl
theorem kp5_0 : E.keep 5 0 = [0] := by kernel_rfl
theorem kp5_1 : E.keep 5 1 = [0, 9] := by kernel_rfl
theorem kp5_2 : E.keep 5 2 = [2] := by kernel_rfl
theorem kp5_3 : E.keep 5 3 = [0, 3, 4] := by kernel_rfl
theorem kp5_4 : E.keep 5 4 = [3, 4, 5, 6] := by kernel_rfl
theorem kp5_5 : E.keep 5 5 = [2] := by kernel_rfl
theorem kp12_0 : E.keep 12 0 = [1, 2, 3] := by kernel_rfl
theorem kp12_1 : E.keep 12 1 = [1, 2, 3, 4] := by kernel_rfl
theorem kp12_2 : E.keep 12 2 = [1, 2, 3, 4, 14] := by kernel_rfl
theorem kp12_3 : E.keep 12 3 = [2, 3] := by kernel_rfl
theorem kp12_4 : E.keep 12 4 = [1, 2, 3, 5] := by kernel_rfl
theorem kp12_5 : E.keep 12 5 = [1, 2, 3, 5, 21, 22] := by kernel_rfl
theorem kp12_6 : E.keep 12 6 = [1, 2, 3, 5, 21, 22, 23] := by kernel_rfl
theorem kp12_7 : E.keep 12 7 = [1, 2, 3, 5, 6, 21, 22] := by kernel_rfl
theorem kp12_8 : E.keep 12 8 = [1, 2, 3, 5, 21, 22] := by kernel_rfl
theorem kp12_9 : E.keep 12 9 = [1, 2, 3, 5, 21, 22] := by kernel_rfl
theorem kp12_10 : E.keep 12 10 = [1, 2, 3, 5] := by kernel_rfl
theorem kp12_11 : E.keep 12 11 = [1, 2, 3, 5, 31, 32, 33] := by kernel_rfl
theorem kp12_12 : E.keep 12 12 = [1, 2, 3, 5, 31, 32, 33, 34] := by kernel_rfl
theorem kp12_13 : E.keep 12 13 = [1, 2, 3, 5, 7, 8, 31, 32, 33] := by kernel_rfl
theorem kp12_14 : E.keep 12 14 = [1, 2, 3, 5, 7, 8, 31, 32, 33, 42] := by kernel_rfl
theorem kp12_15 : E.keep 12 15 = [1, 2, 3, 5, 7, 8, 9, 31, 32, 33] := by kernel_rfl
theorem kp12_16 : E.keep 12 16 = [1, 2, 3, 5, 7, 8, 9, 31, 32, 33, 69] := by kernel_rfl
theorem kp12_17 : E.keep 12 17 = [2, 3] := by kernel_rfl
theorem kp12_18 : E.keep 12 18 = [1, 2, 3, 5, 9, 31, 32, 33, 72] := by kernel_rfl
theorem kp12_19 : E.keep 12 19 = [1, 2, 3, 5, 9, 10] := by kernel_rfl
theorem kp12_20 : E.keep 12 20 = [2, 3, 5, 9, 10, 92] := by kernel_rfl
theorem kp12_21 : E.keep 12 21 = [] := by kernel_rfl
theorem kp12_22 : E.keep 12 22 = [] := by kernel_rfl
theorem kp12_23 : E.keep 12 23 = [1, 2, 3, 5, 31, 32, 33] := by kernel_rfl
theorem kp12_24 : E.keep 12 24 = [2, 3] := by kernel_rfl
theorem kp13_0 : E.keep 13 0 = [0] := by kernel_rfl
theorem kp13_1 : E.keep 13 1 = [0, 4] := by kernel_rfl
theorem kp13_2 : E.keep 13 2 = [0, 4, 14] := by kernel_rfl
theorem kp13_3 : E.keep 13 3 = [2, 3] := by kernel_rfl
theorem kp13_4 : E.keep 13 4 = [0, 5] := by kernel_rfl
theorem kp13_5 : E.keep 13 5 = [0, 5, 6] := by kernel_rfl
theorem kp13_6 : E.keep 13 6 = [0, 5, 6, 19] := by kernel_rfl
theorem kp13_7 : E.keep 13 7 = [0, 5, 6] := by kernel_rfl
theorem kp13_8 : E.keep 13 8 = [0, 5, 6] := by kernel_rfl
theorem kp13_9 : E.keep 13 9 = [0, 5] := by kernel_rfl
theorem kp13_10 : E.keep 13 10 = [0, 5, 7] := by kernel_rfl
theorem kp13_11 : E.keep 13 11 = [0, 5, 7, 30] := by kernel_rfl
theorem kp13_12 : E.keep 13 12 = [0, 5, 7] := by kernel_rfl
theorem kp13_13 : E.keep 13 13 = [0, 5, 7, 37] := by kernel_rfl
theorem kp13_14 : E.keep 13 14 = [0, 5, 7, 8] := by kernel_rfl
theorem kp13_15 : E.keep 13 15 = [0, 5, 7, 8, 70] := by kernel_rfl
theorem kp13_16 : E.keep 13 16 = [2, 3] := by kernel_rfl
theorem kp13_17 : E.keep 13 17 = [0, 5, 7, 8, 9] := by kernel_rfl
theorem kp13_18 : E.keep 13 18 = [0, 5, 7, 8, 9, 10] := by kernel_rfl
theorem kp13_19 : E.keep 13 19 = [0, 5, 7, 8, 9, 10, 77] := by kernel_rfl
theorem kp13_20 : E.keep 13 20 = [0, 5, 7, 8, 9, 10] := by kernel_rfl
theorem kp13_21 : E.keep 13 21 = [0, 5, 7, 8, 9, 10, 107] := by kernel_rfl
theorem kp13_22 : E.keep 13 22 = [2, 3] := by kernel_rfl
theorem kp13_23 : E.keep 13 23 = [0, 5, 7, 8, 9, 10] := by kernel_rfl
theorem kp13_24 : E.keep 13 24 = [2, 3] := by kernel_rfl
theorem kp14_0 : E.keep 14 0 = [0, 1] := by kernel_rfl
theorem kp14_1 : E.keep 14 1 = [0, 1, 10] := by kernel_rfl
theorem kp14_2 : E.keep 14 2 = [4] := by kernel_rfl
theorem kp14_3 : E.keep 14 3 = [0, 1, 5] := by kernel_rfl
theorem kp14_4 : E.keep 14 4 = [0, 1, 5, 14] := by kernel_rfl
theorem kp14_5 : E.keep 14 5 = [0, 1, 5] := by kernel_rfl
theorem kp14_6 : E.keep 14 6 = [0, 1, 5, 25] := by kernel_rfl
theorem kp14_7 : E.keep 14 7 = [4] := by kernel_rfl
theorem kp14_8 : E.keep 14 8 = [4] := by kernel_rfl
theorem kp15_0 : E.keep 15 0 = [0] := by kernel_rfl
theorem kp15_1 : E.keep 15 1 = [4] := by kernel_rfl
theorem kp15_2 : E.keep 15 2 = [2] := by kernel_rfl
theorem kp18_0 : E.keep 18 0 = [0, 2, 3] := by kernel_rfl
theorem kp18_1 : E.keep 18 1 = [0, 2, 3, 4, 5] := by kernel_rfl
theorem kp18_2 : E.keep 18 2 = [0, 2, 3, 4, 5, 19] := by kernel_rfl
theorem kp18_3 : E.keep 18 3 = [2, 3] := by kernel_rfl
theorem kp18_4 : E.keep 18 4 = [0, 2, 3, 4, 6] := by kernel_rfl
theorem kp18_5 : E.keep 18 5 = [2, 3, 4, 6, 25, 26, 27] := by kernel_rfl
theorem kp18_6 : E.keep 18 6 = [2, 3, 4, 6, 25, 26, 27, 28] := by kernel_rfl
theorem kp18_7 : E.keep 18 7 = [2, 3, 4, 6, 7, 8, 25, 26, 27] := by kernel_rfl
theorem kp18_8 : E.keep 18 8 = [2, 3, 4, 6, 7, 8, 25, 26, 27, 36] := by kernel_rfl
theorem kp18_9 : E.keep 18 9 = [2, 3, 4, 6, 7, 8, 9, 25, 26, 27] := by kernel_rfl
theorem kp18_10 : E.keep 18 10 = [2, 3, 4, 6, 7, 8, 9, 25, 26, 27, 62] := by kernel_rfl
theorem kp18_11 : E.keep 18 11 = [2, 3] := by kernel_rfl
theorem kp18_12 : E.keep 18 12 = [2, 3, 4, 6, 7, 8, 9, 25, 26, 27] := by kernel_rfl
theorem kp18_13 : E.keep 18 13 = [2, 3, 4, 6, 9, 25, 26, 27, 73] := by kernel_rfl
theorem kp18_14 : E.keep 18 14 = [6, 9, 10] := by kernel_rfl
theorem kp18_15 : E.keep 18 15 = [6, 9, 10] := by kernel_rfl
theorem kp18_16 : E.keep 18 16 = [6, 10, 89, 90] := by kernel_rfl
theorem kp18_17 : E.keep 18 17 = [6, 10, 89, 90, 91] := by kernel_rfl
theorem kp18_18 : E.keep 18 18 = [6, 10, 11, 12, 89, 90] := by kernel_rfl
theorem kp18_19 : E.keep 18 19 = [6, 10, 89, 90] := by kernel_rfl
theorem kp18_20 : E.keep 18 20 = [6, 10, 89, 90] := by kernel_rfl
theorem kp18_21 : E.keep 18 21 = [2, 3, 4, 6, 25, 26, 27] := by kernel_rfl
theorem kp18_22 : E.keep 18 22 = [2, 3] := by kernel_rfl
theorem kp19_0 : E.keep 19 0 = [0] := by kernel_rfl
theorem kp19_1 : E.keep 19 1 = [0, 5] := by kernel_rfl
theorem kp19_2 : E.keep 19 2 = [0, 5, 20] := by kernel_rfl
theorem kp19_3 : E.keep 19 3 = [2, 3] := by kernel_rfl
theorem kp19_4 : E.keep 19 4 = [0, 6] := by kernel_rfl
theorem kp19_5 : E.keep 19 5 = [0, 6] := by kernel_rfl
theorem kp19_6 : E.keep 19 6 = [0, 6, 7] := by kernel_rfl
theorem kp19_7 : E.keep 19 7 = [0, 6, 7, 8] := by kernel_rfl
theorem kp19_8 : E.keep 19 8 = [0, 6, 7, 8, 32] := by kernel_rfl
theorem kp19_9 : E.keep 19 9 = [0, 6, 7, 8] := by kernel_rfl
theorem kp19_10 : E.keep 19 10 = [0, 6, 7, 8, 9] := by kernel_rfl
theorem kp19_11 : E.keep 19 11 = [0, 6, 7, 8, 9, 41] := by kernel_rfl
theorem kp19_12 : E.keep 19 12 = [0, 6, 7, 8, 9, 10] := by kernel_rfl
theorem kp19_13 : E.keep 19 13 = [0, 6, 7, 8, 9, 10, 66] := by kernel_rfl
theorem kp19_14 : E.keep 19 14 = [0, 6, 7, 8, 9, 10] := by kernel_rfl
theorem kp19_15 : E.keep 19 15 = [0, 6, 7, 8, 11] := by kernel_rfl
theorem kp19_16 : E.keep 19 16 = [0, 6, 7, 8, 11, 12] := by kernel_rfl
theorem kp19_17 : E.keep 19 17 = [0, 6, 7, 8, 11, 12, 13] := by kernel_rfl
theorem kp19_18 : E.keep 19 18 = [0, 6, 7, 8, 11, 12, 13, 76] := by kernel_rfl
theorem kp19_19 : E.keep 19 19 = [0, 6, 7, 8, 11, 12, 13] := by kernel_rfl
theorem kp19_20 : E.keep 19 20 = [0, 6, 7, 8, 11, 12, 13] := by kernel_rfl
theorem kp19_21 : E.keep 19 21 = [2, 3] := by kernel_rfl
theorem kp23_0 : E.keep 23 0 = [0] := by kernel_rfl
theorem kp23_1 : E.keep 23 1 = [0, 9] := by kernel_rfl
theorem kp23_2 : E.keep 23 2 = [2] := by kernel_rfl
theorem kp23_3 : E.keep 23 3 = [0, 10, 11, 12] := by kernel_rfl
theorem kp23_4 : E.keep 23 4 = [0, 10, 11, 12, 13] := by kernel_rfl
theorem kp23_5 : E.keep 23 5 = [0, 3, 4, 10, 11, 12] := by kernel_rfl
theorem kp23_6 : E.keep 23 6 = [0, 3, 4, 10, 11, 12, 26] := by kernel_rfl
theorem kp23_7 : E.keep 23 7 = [2] := by kernel_rfl
theorem kp23_8 : E.keep 23 8 = [0, 4, 5, 6, 10, 11, 12] := by kernel_rfl
theorem kp23_9 : E.keep 23 9 = [0, 10, 11, 12, 45] := by kernel_rfl
theorem kp23_10 : E.keep 23 10 = [2] := by kernel_rfl
theorem kp23_11 : E.keep 23 11 = [0, 10, 11, 12] := by kernel_rfl
theorem kp23_12 : E.keep 23 12 = [2] := by kernel_rfl
theorem kp24_0 : E.keep 24 0 = [2, 3] := by kernel_rfl
theorem kp24_1 : E.keep 24 1 = [4] := by kernel_rfl
theorem kp25_0 : E.keep 25 0 = [0] := by kernel_rfl
theorem kp25_1 : E.keep 25 1 = [0, 9] := by kernel_rfl
theorem kp25_2 : E.keep 25 2 = [2] := by kernel_rfl
theorem kp25_3 : E.keep 25 3 = [0, 3] := by kernel_rfl
theorem kp25_4 : E.keep 25 4 = [0, 3, 13] := by kernel_rfl
theorem kp25_5 : E.keep 25 5 = [0, 3] := by kernel_rfl
theorem kp25_6 : E.keep 25 6 = [0, 3, 4] := by kernel_rfl
theorem kp25_7 : E.keep 25 7 = [0, 3, 4, 27] := by kernel_rfl
theorem kp25_8 : E.keep 25 8 = [2] := by kernel_rfl
theorem kp25_9 : E.keep 25 9 = [0, 3, 4, 5, 6] := by kernel_rfl
theorem kp25_10 : E.keep 25 10 = [0, 3, 4, 5, 6, 30] := by kernel_rfl
theorem kp25_11 : E.keep 25 11 = [0, 3, 4, 5] := by kernel_rfl
theorem kp25_12 : E.keep 25 12 = [0, 3, 4, 5, 6] := by kernel_rfl
theorem kp25_13 : E.keep 25 13 = [0, 3, 4, 5, 6, 33] := by kernel_rfl
theorem kp25_14 : E.keep 25 14 = [0, 3, 4, 5] := by kernel_rfl
theorem kp25_15 : E.keep 25 15 = [0, 3, 4, 5, 6] := by kernel_rfl
theorem kp25_16 : E.keep 25 16 = [0, 3, 47] := by kernel_rfl
theorem kp25_17 : E.keep 25 17 = [2] := by kernel_rfl
theorem kp25_18 : E.keep 25 18 = [2] := by kernel_rfl
theorem kp26_0 : E.keep 26 0 = [0, 1] := by kernel_rfl
theorem kp26_1 : E.keep 26 1 = [0, 1, 9] := by kernel_rfl
theorem kp26_2 : E.keep 26 2 = [0, 1, 9, 10] := by kernel_rfl
theorem kp26_3 : E.keep 26 3 = [4] := by kernel_rfl
theorem kp26_4 : E.keep 26 4 = [0, 1, 9, 12] := by kernel_rfl
theorem kp26_5 : E.keep 26 5 = [4] := by kernel_rfl
theorem kp26_6 : E.keep 26 6 = [0, 1, 20] := by kernel_rfl
theorem kp26_7 : E.keep 26 7 = [4] := by kernel_rfl
theorem kp26_8 : E.keep 26 8 = [4] := by kernel_rfl
theorem kp27_0 : E.keep 27 0 = [1, 2, 3, 6] := by kernel_rfl
theorem kp27_1 : E.keep 27 1 = [1, 2, 3, 6, 7] := by kernel_rfl
theorem kp27_2 : E.keep 27 2 = [1, 2, 3, 6, 7, 11] := by kernel_rfl
theorem kp27_3 : E.keep 27 3 = [1, 2, 3, 6] := by kernel_rfl
theorem kp27_4 : E.keep 27 4 = [1, 2, 3, 6, 7, 25] := by kernel_rfl
theorem kp27_5 : E.keep 27 5 = [1, 2, 3, 6] := by kernel_rfl
theorem kp27_6 : E.keep 27 6 = [1, 2, 3, 6, 7, 47] := by kernel_rfl
theorem kp27_7 : E.keep 27 7 = [1, 2, 3, 6] := by kernel_rfl
theorem kp27_8 : E.keep 27 8 = [1, 2, 3, 6, 7, 57] := by kernel_rfl
theorem kp27_9 : E.keep 27 9 = [1, 2, 3, 6] := by kernel_rfl
theorem kp27_10 : E.keep 27 10 = [1, 2, 3, 6, 7, 76] := by kernel_rfl
theorem kp27_11 : E.keep 27 11 = [1, 2, 3, 6] := by kernel_rfl
theorem kp27_12 : E.keep 27 12 = [1, 2, 3, 6, 88] := by kernel_rfl
theorem kp27_13 : E.keep 27 13 = [1, 2, 3, 6] := by kernel_rfl
theorem kp27_14 : E.keep 27 14 = [3, 6, 8] := by kernel_rfl
theorem kp27_15 : E.keep 27 15 = [3, 6, 8, 110] := by kernel_rfl
theorem kp27_16 : E.keep 27 16 = [3, 6, 8] := by kernel_rfl
theorem kp27_17 : E.keep 27 17 = [3, 6, 8] := by kernel_rfl
theorem kp27_18 : E.keep 27 18 = [6] := by kernel_rfl
theorem kp28_0 : E.keep 28 0 = [1, 2, 4] := by kernel_rfl
theorem kp28_1 : E.keep 28 1 = [1, 2, 4, 5] := by kernel_rfl
theorem kp28_2 : E.keep 28 2 = [1, 2, 4, 5, 6] := by kernel_rfl
theorem kp28_3 : E.keep 28 3 = [1, 2, 4, 5, 6] := by kernel_rfl
theorem kp28_4 : E.keep 28 4 = [2, 4, 5, 6, 24] := by kernel_rfl
theorem kp28_5 : E.keep 28 5 = [2, 4, 5, 6, 24, 25] := by kernel_rfl
theorem kp28_6 : E.keep 28 6 = [2, 4, 5, 6, 24, 25] := by kernel_rfl
theorem kp28_7 : E.keep 28 7 = [2, 4, 5, 6, 24, 25] := by kernel_rfl
theorem kp28_8 : E.keep 28 8 = [4, 6] := by kernel_rfl
theorem kp28_9 : E.keep 28 9 = [2, 4, 5, 6, 24, 34] := by kernel_rfl
theorem kp28_10 : E.keep 28 10 = [2, 4, 5, 6, 24, 34] := by kernel_rfl
theorem kp28_11 : E.keep 28 11 = [2, 4, 5, 6, 24, 34] := by kernel_rfl
theorem kp28_12 : E.keep 28 12 = [2, 4, 5, 6, 24, 34] := by kernel_rfl
theorem kp28_13 : E.keep 28 13 = [2, 4, 5, 6, 24, 34] := by kernel_rfl
theorem kp28_14 : E.keep 28 14 = [4, 6] := by kernel_rfl
theorem kp28_15 : E.keep 28 15 = [2, 4, 5, 6, 24, 59] := by kernel_rfl
theorem kp28_16 : E.keep 28 16 = [4, 6] := by kernel_rfl
theorem kp28_17 : E.keep 28 17 = [2, 4, 5, 6, 24, 72] := by kernel_rfl
theorem kp28_18 : E.keep 28 18 = [4, 6] := by kernel_rfl
theorem kp28_19 : E.keep 28 19 = [2, 4, 5, 6, 24, 91] := by kernel_rfl
theorem kp28_20 : E.keep 28 20 = [4, 6] := by kernel_rfl
theorem kp28_21 : E.keep 28 21 = [2, 4, 5, 6, 24, 110] := by kernel_rfl
theorem kp28_22 : E.keep 28 22 = [4, 6] := by kernel_rfl
theorem kp28_23 : E.keep 28 23 = [4, 6, 24, 123] := by kernel_rfl
theorem kp28_24 : E.keep 28 24 = [4, 6, 24, 123] := by kernel_rfl
theorem kp28_25 : E.keep 28 25 = [4, 6, 24, 123] := by kernel_rfl
theorem kp28_26 : E.keep 28 26 = [4, 6, 123] := by kernel_rfl
theorem kp28_27 : E.keep 28 27 = [4, 6] := by kernel_rfl
theorem kp28_28 : E.keep 28 28 = [4] := by kernel_rfl
theorem kp29_0 : E.keep 29 0 = [2, 3, 4] := by kernel_rfl
theorem kp29_1 : E.keep 29 1 = [2, 3, 4, 9] := by kernel_rfl
theorem kp29_2 : E.keep 29 2 = [4] := by kernel_rfl
theorem kp29_3 : E.keep 29 3 = [2, 3, 4, 5] := by kernel_rfl
theorem kp29_4 : E.keep 29 4 = [2, 3, 4, 5, 6] := by kernel_rfl
theorem kp29_5 : E.keep 29 5 = [2, 3, 4, 5, 6, 35] := by kernel_rfl
theorem kp29_6 : E.keep 29 6 = [2, 3, 4, 5, 6] := by kernel_rfl
theorem kp29_7 : E.keep 29 7 = [2, 3, 4, 5, 6] := by kernel_rfl
theorem kp29_8 : E.keep 29 8 = [4] := by kernel_rfl
theorem kp31_0 : E.keep 31 0 = [0, 1, 2] := by kernel_rfl
theorem kp31_1 : E.keep 31 1 = [1, 2, 8] := by kernel_rfl
theorem kp31_2 : E.keep 31 2 = [1, 2, 8, 9] := by kernel_rfl
theorem kp31_3 : E.keep 31 3 = [1, 2, 8, 11] := by kernel_rfl
theorem kp31_4 : E.keep 31 4 = [1, 2, 13] := by kernel_rfl
theorem kp31_5 : E.keep 31 5 = [6, 7] := by kernel_rfl
theorem kp31_6 : E.keep 31 6 = [6, 7] := by kernel_rfl
theorem kp31_7 : E.keep 31 7 = [6, 7] := by kernel_rfl
theorem kp33_0 : E.keep 33 0 = [0] := by kernel_rfl
theorem kp33_1 : E.keep 33 1 = [2] := by kernel_rfl
theorem hd12_6 : E.head 12 6 = [1, 2, 3, 5, 21, 22] := by kernel_rfl
theorem hd12_12 : E.head 12 12 = [1, 2, 3, 5, 31, 32, 33] := by kernel_rfl
theorem hd13_6 : E.head 13 6 = [0, 5, 6] := by kernel_rfl
theorem hd13_11 : E.head 13 11 = [0, 5, 7] := by kernel_rfl
theorem hd13_19 : E.head 13 19 = [0, 5, 7, 8, 9, 10] := by kernel_rfl
theorem hd14_4 : E.head 14 4 = [0, 1, 5] := by kernel_rfl
theorem hd18_6 : E.head 18 6 = [2, 3, 4, 6, 25, 26, 27] := by kernel_rfl
theorem hd18_17 : E.head 18 17 = [6, 10, 89, 90] := by kernel_rfl
theorem hd19_8 : E.head 19 8 = [0, 6, 7, 8] := by kernel_rfl
theorem hd19_18 : E.head 19 18 = [0, 6, 7, 8, 11, 12, 13] := by kernel_rfl
theorem hd23_4 : E.head 23 4 = [0, 10, 11, 12] := by kernel_rfl
theorem hd25_4 : E.head 25 4 = [0, 3] := by kernel_rfl
theorem hd27_15 : E.head 27 15 = [3, 6, 8] := by kernel_rfl
theorem hd29_5 : E.head 29 5 = [2, 3, 4, 5, 6] := by kernel_rfl
theorem fl12_15 : E.flo 12 15 = [(0, 14), (2, 14), (3, 14), (5, 14), (6, 14), (7, 14), (10, 14), (11, 14), (12, 14)] := by kernel_rfl
theorem ho12_15 : E.hol 12 15 = false := by kernel_rfl
theorem dr12_15 (B : Nat) (fr : Fr) (H : Hp) (ops : Array Oper) : execT E B 12 (.region 15 ops true) fr H = regTK E 12 15 (evT E (callT E) ops.toList ops.toList fr H) := execT_draw ho12_15 ops
theorem fl12_16 : E.flo 12 16 = [] := by kernel_rfl
theorem ho12_16 : E.hol 12 16 = false := by kernel_rfl
theorem dr12_16 (B : Nat) (fr : Fr) (H : Hp) (ops : Array Oper) : execT E B 12 (.region 16 ops true) fr H = regK E 12 16 (evOps E (callT E) ops.toList ops.toList fr H) := execT_draw0 ho12_16 fl12_16 ops
theorem fl12_20 : E.flo 12 20 = [] := by kernel_rfl
theorem ho12_20 : E.hol 12 20 = false := by kernel_rfl
theorem dr12_20 (B : Nat) (fr : Fr) (H : Hp) (ops : Array Oper) : execT E B 12 (.region 20 ops true) fr H = regK E 12 20 (evOps E (callT E) ops.toList ops.toList fr H) := execT_draw0 ho12_20 fl12_20 ops
theorem fl13_14 : E.flo 13 14 = [(2, 9), (3, 9), (9, 13), (9, 15), (2, 16), (3, 16)] := by kernel_rfl
theorem ho13_14 : E.hol 13 14 = false := by kernel_rfl
theorem dr13_14 (B : Nat) (fr : Fr) (H : Hp) (ops : Array Oper) : execT E B 13 (.region 14 ops true) fr H = regTK E 13 14 (evT E (callT E) ops.toList ops.toList fr H) := execT_draw ho13_14 ops
theorem fl13_15 : E.flo 13 15 = [(2, 9), (3, 9)] := by kernel_rfl
theorem ho13_15 : E.hol 13 15 = false := by kernel_rfl
theorem dr13_15 (B : Nat) (fr : Fr) (H : Hp) (ops : Array Oper) : execT E B 13 (.region 15 ops true) fr H = regTK E 13 15 (evT E (callT E) ops.toList ops.toList fr H) := execT_draw ho13_15 ops
theorem fl14_6 : E.flo 14 6 = [] := by kernel_rfl
theorem ho14_6 : E.hol 14 6 = false := by kernel_rfl
theorem dr14_6 (B : Nat) (fr : Fr) (H : Hp) (ops : Array Oper) : execT E B 14 (.region 6 ops true) fr H = regK E 14 6 (evOps E (callT E) ops.toList ops.toList fr H) := execT_draw0 ho14_6 fl14_6 ops
theorem fl18_12 : E.flo 18 12 = [] := by kernel_rfl
theorem ho18_12 : E.hol 18 12 = false := by kernel_rfl
theorem dr18_12 (B : Nat) (fr : Fr) (H : Hp) (ops : Array Oper) : execT E B 18 (.region 12 ops true) fr H = regK E 18 12 (evOps E (callT E) ops.toList ops.toList fr H) := execT_draw0 ho18_12 fl18_12 ops
theorem fl18_15 : E.flo 18 15 = [] := by kernel_rfl
theorem ho18_15 : E.hol 18 15 = false := by kernel_rfl
theorem dr18_15 (B : Nat) (fr : Fr) (H : Hp) (ops : Array Oper) : execT E B 18 (.region 15 ops true) fr H = regK E 18 15 (evOps E (callT E) ops.toList ops.toList fr H) := execT_draw0 ho18_15 fl18_15 ops
theorem fl18_19 : E.flo 18 19 = [] := by kernel_rfl
theorem ho18_19 : E.hol 18 19 = false := by kernel_rfl
theorem dr18_19 (B : Nat) (fr : Fr) (H : Hp) (ops : Array Oper) : execT E B 18 (.region 19 ops true) fr H = regK E 18 19 (evOps E (callT E) ops.toList ops.toList fr H) := execT_draw0 ho18_19 fl18_19 ops
theorem fl19_20 : E.flo 19 20 = [(3, 13), (4, 13)] := by kernel_rfl
theorem ho19_20 : E.hol 19 20 = false := by kernel_rfl
theorem dr19_20 (B : Nat) (fr : Fr) (H : Hp) (ops : Array Oper) : execT E B 19 (.region 20 ops true) fr H = regTK E 19 20 (evT E (callT E) ops.toList ops.toList fr H) := execT_draw ho19_20 ops
theorem fl23_6 : E.flo 23 6 = [(5, 6)] := by kernel_rfl
theorem ho23_6 : E.hol 23 6 = false := by kernel_rfl
theorem dr23_6 (B : Nat) (fr : Fr) (H : Hp) (ops : Array Oper) : execT E B 23 (.region 6 ops true) fr H = regTK E 23 6 (evT E (callT E) ops.toList ops.toList fr H) := execT_draw ho23_6 ops
theorem fl27_9 : E.flo 27 9 = [] := by kernel_rfl
theorem ho27_9 : E.hol 27 9 = false := by kernel_rfl
theorem dr27_9 (B : Nat) (fr : Fr) (H : Hp) (ops : Array Oper) : execT E B 27 (.region 9 ops true) fr H = regK E 27 9 (evOps E (callT E) ops.toList ops.toList fr H) := execT_draw0 ho27_9 fl27_9 ops
theorem fl27_14 : E.flo 27 14 = [] := by kernel_rfl
theorem ho27_14 : E.hol 27 14 = false := by kernel_rfl
theorem dr27_14 (B : Nat) (fr : Fr) (H : Hp) (ops : Array Oper) : execT E B 27 (.region 14 ops true) fr H = regK E 27 14 (evOps E (callT E) ops.toList ops.toList fr H) := execT_draw0 ho27_14 fl27_14 ops
theorem fl28_3 : E.flo 28 3 = [(1, 6), (3, 6)] := by kernel_rfl
theorem ho28_3 : E.hol 28 3 = false := by kernel_rfl
theorem dr28_3 (B : Nat) (fr : Fr) (H : Hp) (ops : Array Oper) : execT E B 28 (.region 3 ops true) fr H = regTK E 28 3 (evT E (callT E) ops.toList ops.toList fr H) := execT_draw ho28_3 ops
theorem fl28_14 : E.flo 28 14 = [(1, 16)] := by kernel_rfl
theorem ho28_14 : E.hol 28 14 = false := by kernel_rfl
theorem dr28_14 (B : Nat) (fr : Fr) (H : Hp) (ops : Array Oper) : execT E B 28 (.region 14 ops true) fr H = regTK E 28 14 (evT E (callT E) ops.toList ops.toList fr H) := execT_draw ho28_14 ops
theorem fl28_16 : E.flo 28 16 = [(1, 8)] := by kernel_rfl
theorem ho28_16 : E.hol 28 16 = false := by kernel_rfl
theorem dr28_16 (B : Nat) (fr : Fr) (H : Hp) (ops : Array Oper) : execT E B 28 (.region 16 ops true) fr H = regTK E 28 16 (evT E (callT E) ops.toList ops.toList fr H) := execT_draw ho28_16 ops
theorem fl28_18 : E.flo 28 18 = [(1, 14)] := by kernel_rfl
theorem ho28_18 : E.hol 28 18 = false := by kernel_rfl
theorem dr28_18 (B : Nat) (fr : Fr) (H : Hp) (ops : Array Oper) : execT E B 28 (.region 18 ops true) fr H = regTK E 28 18 (evT E (callT E) ops.toList ops.toList fr H) := execT_draw ho28_18 ops
theorem fl28_20 : E.flo 28 20 = [(1, 14)] := by kernel_rfl
theorem ho28_20 : E.hol 28 20 = false := by kernel_rfl
theorem dr28_20 (B : Nat) (fr : Fr) (H : Hp) (ops : Array Oper) : execT E B 28 (.region 20 ops true) fr H = regTK E 28 20 (evT E (callT E) ops.toList ops.toList fr H) := execT_draw ho28_20 ops
theorem fl29_2 : E.flo 29 2 = [(1, 2), (2, 4), (1, 5)] := by kernel_rfl
theorem ho29_2 : E.hol 29 2 = false := by kernel_rfl
theorem dr29_2 (B : Nat) (fr : Fr) (H : Hp) (ops : Array Oper) : execT E B 29 (.region 2 ops true) fr H = regTK E 29 2 (evT E (callT E) ops.toList ops.toList fr H) := execT_draw ho29_2 ops
theorem fl29_7 : E.flo 29 7 = [(1, 14)] := by kernel_rfl
theorem ho29_7 : E.hol 29 7 = false := by kernel_rfl
theorem dr29_7 (B : Nat) (fr : Fr) (H : Hp) (ops : Array Oper) : execT E B 29 (.region 7 ops true) fr H = regTK E 29 7 (evT E (callT E) ops.toList ops.toList fr H) := execT_draw ho29_7 ops
theorem mt12_6 : E.mat 12 6 = [] := by kernel_rfl
theorem mb12_6 : E.matb 12 6 = [] := by kernel_rfl
theorem zf12_6 : E.frz 12 6 = [] := by kernel_rfl
theorem mt12_12 : E.mat 12 12 = [] := by kernel_rfl
theorem mb12_12 : E.matb 12 12 = [] := by kernel_rfl
theorem zf12_12 : E.frz 12 12 = [] := by kernel_rfl
theorem mt13_6 : E.mat 13 6 = [(5, 1)] := by kernel_rfl
theorem mb13_6 : E.matb 13 6 = [] := by kernel_rfl
theorem zf13_6 : E.frz 13 6 = [] := by kernel_rfl
theorem mt13_11 : E.mat 13 11 = [(5, 1)] := by kernel_rfl
theorem mb13_11 : E.matb 13 11 = [] := by kernel_rfl
theorem zf13_11 : E.frz 13 11 = [] := by kernel_rfl
theorem mt13_19 : E.mat 13 19 = [(5, 1)] := by kernel_rfl
theorem mb13_19 : E.matb 13 19 = [] := by kernel_rfl
theorem zf13_19 : E.frz 13 19 = [] := by kernel_rfl
theorem mt14_4 : E.mat 14 4 = [] := by kernel_rfl
theorem mb14_4 : E.matb 14 4 = [] := by kernel_rfl
theorem zf14_4 : E.frz 14 4 = [] := by kernel_rfl
theorem mt18_6 : E.mat 18 6 = [] := by kernel_rfl
theorem mb18_6 : E.matb 18 6 = [] := by kernel_rfl
theorem zf18_6 : E.frz 18 6 = [] := by kernel_rfl
theorem mt18_17 : E.mat 18 17 = [] := by kernel_rfl
theorem mb18_17 : E.matb 18 17 = [] := by kernel_rfl
theorem zf18_17 : E.frz 18 17 = [] := by kernel_rfl
theorem mt19_8 : E.mat 19 8 = [] := by kernel_rfl
theorem mb19_8 : E.matb 19 8 = [] := by kernel_rfl
theorem zf19_8 : E.frz 19 8 = [] := by kernel_rfl
theorem mt19_18 : E.mat 19 18 = [] := by kernel_rfl
theorem mb19_18 : E.matb 19 18 = [] := by kernel_rfl
theorem zf19_18 : E.frz 19 18 = [] := by kernel_rfl
theorem mt23_4 : E.mat 23 4 = [] := by kernel_rfl
theorem mb23_4 : E.matb 23 4 = [] := by kernel_rfl
theorem zf23_4 : E.frz 23 4 = [] := by kernel_rfl
theorem mt25_4 : E.mat 25 4 = [] := by kernel_rfl
theorem mb25_4 : E.matb 25 4 = [] := by kernel_rfl
theorem zf25_4 : E.frz 25 4 = [] := by kernel_rfl
theorem mt27_15 : E.mat 27 15 = [] := by kernel_rfl
theorem mb27_15 : E.matb 27 15 = [] := by kernel_rfl
theorem zf27_15 : E.frz 27 15 = [] := by kernel_rfl
theorem mt29_5 : E.mat 29 5 = [] := by kernel_rfl
theorem mb29_5 : E.matb 29 5 = [] := by kernel_rfl
theorem zf29_5 : E.frz 29 5 = [] := by kernel_rfl
theorem rk3 : E.resk 3 = [] := by kernel_rfl
theorem ow3 : E.own 3 = false := by kernel_rfl
theorem rk5 : E.resk 5 = [] := by kernel_rfl
theorem ow5 : E.own 5 = false := by kernel_rfl
theorem ak11 : E.argk 11 = [] := by kernel_rfl
theorem pe11 (args : List AV) (H : Hp) : prepE E 11 H args = peP E 11 (prep H args) := prepE_v rfl args
theorem cr11 (args : List AV) (H : Hp) : calleeR E 11 args H = crK args (peP E 11 (prep H args)) := (cr_prep args).trans (by rw [pe11])
theorem ci11 (args : List AV) (H : Hp) : callIso E (callT E) 11 args H = prepK E (callT E) 11 (peP E 11 (prep H args)) := (iso_prep args).trans (by rw [pe11])
theorem ak12 : E.argk 12 = [[some 2]] := by kernel_rfl
theorem rk12 : E.resk 12 = [[some 1]] := by kernel_rfl
theorem ow12 : E.own 12 = false := by kernel_rfl
theorem pe12 (args : List AV) (H : Hp) : prepE E 12 H args = peP E 12 (prep H args) := prepE_v rfl args
theorem cr12 (args : List AV) (H : Hp) : calleeR E 12 args H = crK args (peP E 12 (prep H args)) := (cr_prep args).trans (by rw [pe12])
theorem ci12 (args : List AV) (H : Hp) : callIso E (callT E) 12 args H = prepK E (callT E) 12 (peP E 12 (prep H args)) := (iso_prep args).trans (by rw [pe12])
theorem ak13 : E.argk 13 = [[some 2]] := by kernel_rfl
theorem rk13 : E.resk 13 = [[some 1]] := by kernel_rfl
theorem ow13 : E.own 13 = false := by kernel_rfl
theorem pe13 (args : List AV) (H : Hp) : prepE E 13 H args = peP E 13 (prep H args) := prepE_v rfl args
theorem cr13 (args : List AV) (H : Hp) : calleeR E 13 args H = crK args (peP E 13 (prep H args)) := (cr_prep args).trans (by rw [pe13])
theorem ci13 (args : List AV) (H : Hp) : callIso E (callT E) 13 args H = prepK E (callT E) 13 (peP E 13 (prep H args)) := (iso_prep args).trans (by rw [pe13])
theorem ak14 : E.argk 14 = [[some 1], [some 1]] := by kernel_rfl
theorem rk14 : E.resk 14 = [] := by kernel_rfl
theorem ow14 : E.own 14 = false := by kernel_rfl
theorem pe14 (args : List AV) (H : Hp) : prepE E 14 H args = peP E 14 (prep H args) := prepE_v rfl args
theorem cr14 (args : List AV) (H : Hp) : calleeR E 14 args H = crK args (peP E 14 (prep H args)) := (cr_prep args).trans (by rw [pe14])
theorem ci14 (args : List AV) (H : Hp) : callIso E (callT E) 14 args H = prepK E (callT E) 14 (peP E 14 (prep H args)) := (iso_prep args).trans (by rw [pe14])
theorem ak15 : E.argk 15 = [[some 2]] := by kernel_rfl
theorem rk15 : E.resk 15 = [] := by kernel_rfl
theorem ow15 : E.own 15 = false := by kernel_rfl
theorem pe15 (args : List AV) (H : Hp) : prepE E 15 H args = peP E 15 (prep H args) := prepE_v rfl args
theorem cr15 (args : List AV) (H : Hp) : calleeR E 15 args H = crK args (peP E 15 (prep H args)) := (cr_prep args).trans (by rw [pe15])
theorem ci15 (args : List AV) (H : Hp) : callIso E (callT E) 15 args H = prepK E (callT E) 15 (peP E 15 (prep H args)) := (iso_prep args).trans (by rw [pe15])
theorem ak18 : E.argk 18 = [[some 2]] := by kernel_rfl
theorem rk18 : E.resk 18 = [] := by kernel_rfl
theorem ow18 : E.own 18 = false := by kernel_rfl
theorem pe18 (args : List AV) (H : Hp) : prepE E 18 H args = peP E 18 (prep H args) := prepE_v rfl args
theorem cr18 (args : List AV) (H : Hp) : calleeR E 18 args H = crK args (peP E 18 (prep H args)) := (cr_prep args).trans (by rw [pe18])
theorem ci18 (args : List AV) (H : Hp) : callIso E (callT E) 18 args H = prepK E (callT E) 18 (peP E 18 (prep H args)) := (iso_prep args).trans (by rw [pe18])
theorem ak19 : E.argk 19 = [[some 2]] := by kernel_rfl
theorem rk19 : E.resk 19 = [] := by kernel_rfl
theorem ow19 : E.own 19 = false := by kernel_rfl
theorem pe19 (args : List AV) (H : Hp) : prepE E 19 H args = peP E 19 (prep H args) := prepE_v rfl args
theorem cr19 (args : List AV) (H : Hp) : calleeR E 19 args H = crK args (peP E 19 (prep H args)) := (cr_prep args).trans (by rw [pe19])
theorem ci19 (args : List AV) (H : Hp) : callIso E (callT E) 19 args H = prepK E (callT E) 19 (peP E 19 (prep H args)) := (iso_prep args).trans (by rw [pe19])
theorem ak21 : E.argk 21 = [] := by kernel_rfl
theorem pe21 (args : List AV) (H : Hp) : prepE E 21 H args = peP E 21 (prep H args) := prepE_v rfl args
theorem cr21 (args : List AV) (H : Hp) : calleeR E 21 args H = crK args (peP E 21 (prep H args)) := (cr_prep args).trans (by rw [pe21])
theorem ci21 (args : List AV) (H : Hp) : callIso E (callT E) 21 args H = prepK E (callT E) 21 (peP E 21 (prep H args)) := (iso_prep args).trans (by rw [pe21])
theorem ak22 : E.argk 22 = [] := by kernel_rfl
theorem pe22 (args : List AV) (H : Hp) : prepE E 22 H args = peP E 22 (prep H args) := prepE_v rfl args
theorem cr22 (args : List AV) (H : Hp) : calleeR E 22 args H = crK args (peP E 22 (prep H args)) := (cr_prep args).trans (by rw [pe22])
theorem ci22 (args : List AV) (H : Hp) : callIso E (callT E) 22 args H = prepK E (callT E) 22 (peP E 22 (prep H args)) := (iso_prep args).trans (by rw [pe22])
theorem ak23 : E.argk 23 = [[some 2]] := by kernel_rfl
theorem rk23 : E.resk 23 = [] := by kernel_rfl
theorem ow23 : E.own 23 = false := by kernel_rfl
theorem pe23 (args : List AV) (H : Hp) : prepE E 23 H args = peP E 23 (prep H args) := prepE_v rfl args
theorem cr23 (args : List AV) (H : Hp) : calleeR E 23 args H = crK args (peP E 23 (prep H args)) := (cr_prep args).trans (by rw [pe23])
theorem ci23 (args : List AV) (H : Hp) : callIso E (callT E) 23 args H = prepK E (callT E) 23 (peP E 23 (prep H args)) := (iso_prep args).trans (by rw [pe23])
theorem ak24 : E.argk 24 = [] := by kernel_rfl
theorem rk24 : E.resk 24 = [] := by kernel_rfl
theorem ow24 : E.own 24 = false := by kernel_rfl
theorem pe24 (args : List AV) (H : Hp) : prepE E 24 H args = peP E 24 (prep H args) := prepE_v rfl args
theorem cr24 (args : List AV) (H : Hp) : calleeR E 24 args H = crK args (peP E 24 (prep H args)) := (cr_prep args).trans (by rw [pe24])
theorem ci24 (args : List AV) (H : Hp) : callIso E (callT E) 24 args H = prepK E (callT E) 24 (peP E 24 (prep H args)) := (iso_prep args).trans (by rw [pe24])
theorem ak25 : E.argk 25 = [[some 2]] := by kernel_rfl
theorem rk25 : E.resk 25 = [] := by kernel_rfl
theorem ow25 : E.own 25 = false := by kernel_rfl
theorem pe25 (args : List AV) (H : Hp) : prepE E 25 H args = peP E 25 (prep H args) := prepE_v rfl args
theorem cr25 (args : List AV) (H : Hp) : calleeR E 25 args H = crK args (peP E 25 (prep H args)) := (cr_prep args).trans (by rw [pe25])
theorem ci25 (args : List AV) (H : Hp) : callIso E (callT E) 25 args H = prepK E (callT E) 25 (peP E 25 (prep H args)) := (iso_prep args).trans (by rw [pe25])
theorem ak26 : E.argk 26 = [[some 2]] := by kernel_rfl
theorem rk26 : E.resk 26 = [[some 1]] := by kernel_rfl
theorem ow26 : E.own 26 = false := by kernel_rfl
theorem pe26 (args : List AV) (H : Hp) : prepE E 26 H args = peP E 26 (prep H args) := prepE_v rfl args
theorem cr26 (args : List AV) (H : Hp) : calleeR E 26 args H = crK args (peP E 26 (prep H args)) := (cr_prep args).trans (by rw [pe26])
theorem ci26 (args : List AV) (H : Hp) : callIso E (callT E) 26 args H = prepK E (callT E) 26 (peP E 26 (prep H args)) := (iso_prep args).trans (by rw [pe26])
theorem ak27 : E.argk 27 = [] := by kernel_rfl
theorem rk27 : E.resk 27 = [] := by kernel_rfl
theorem ow27 : E.own 27 = false := by kernel_rfl
theorem pe27 (args : List AV) (H : Hp) : prepE E 27 H args = peP E 27 (prep H args) := prepE_v rfl args
theorem cr27 (args : List AV) (H : Hp) : calleeR E 27 args H = crK args (peP E 27 (prep H args)) := (cr_prep args).trans (by rw [pe27])
theorem ci27 (args : List AV) (H : Hp) : callIso E (callT E) 27 args H = prepK E (callT E) 27 (peP E 27 (prep H args)) := (iso_prep args).trans (by rw [pe27])
theorem ak28 : E.argk 28 = [[none, none, some 1]] := by kernel_rfl
theorem rk28 : E.resk 28 = [[none, none, some 1]] := by kernel_rfl
theorem ow28 : E.own 28 = false := by kernel_rfl
theorem pe28 (args : List AV) (H : Hp) : prepE E 28 H args = peP E 28 (prep H args) := prepE_v rfl args
theorem cr28 (args : List AV) (H : Hp) : calleeR E 28 args H = crK args (peP E 28 (prep H args)) := (cr_prep args).trans (by rw [pe28])
theorem ci28 (args : List AV) (H : Hp) : callIso E (callT E) 28 args H = prepK E (callT E) 28 (peP E 28 (prep H args)) := (iso_prep args).trans (by rw [pe28])
theorem ak29 : E.argk 29 = [[none, none, some 1], [none, none, some 1]] := by kernel_rfl
theorem rk29 : E.resk 29 = [[none, none, some 1]] := by kernel_rfl
theorem ow29 : E.own 29 = false := by kernel_rfl
theorem pe29 (args : List AV) (H : Hp) : prepE E 29 H args = peP E 29 (prep H args) := prepE_v rfl args
theorem cr29 (args : List AV) (H : Hp) : calleeR E 29 args H = crK args (peP E 29 (prep H args)) := (cr_prep args).trans (by rw [pe29])
theorem ci29 (args : List AV) (H : Hp) : callIso E (callT E) 29 args H = prepK E (callT E) 29 (peP E 29 (prep H args)) := (iso_prep args).trans (by rw [pe29])
theorem ak30 : E.argk 30 = [] := by kernel_rfl
theorem pe30 (args : List AV) (H : Hp) : prepE E 30 H args = peP E 30 (prep H args) := prepE_v rfl args
theorem cr30 (args : List AV) (H : Hp) : calleeR E 30 args H = crK args (peP E 30 (prep H args)) := (cr_prep args).trans (by rw [pe30])
theorem ci30 (args : List AV) (H : Hp) : callIso E (callT E) 30 args H = prepK E (callT E) 30 (peP E 30 (prep H args)) := (iso_prep args).trans (by rw [pe30])
theorem ak31 : E.argk 31 = [] := by kernel_rfl
theorem rk31 : E.resk 31 = [] := by kernel_rfl
theorem ow31 : E.own 31 = false := by kernel_rfl
theorem pe31 (args : List AV) (H : Hp) : prepE E 31 H args = peP E 31 (prep H args) := prepE_v rfl args
theorem cr31 (args : List AV) (H : Hp) : calleeR E 31 args H = crK args (peP E 31 (prep H args)) := (cr_prep args).trans (by rw [pe31])
theorem ci31 (args : List AV) (H : Hp) : callIso E (callT E) 31 args H = prepK E (callT E) 31 (peP E 31 (prep H args)) := (iso_prep args).trans (by rw [pe31])
theorem ak32 : E.argk 32 = [] := by kernel_rfl
theorem pe32 (args : List AV) (H : Hp) : prepE E 32 H args = peP E 32 (prep H args) := prepE_v rfl args
theorem cr32 (args : List AV) (H : Hp) : calleeR E 32 args H = crK args (peP E 32 (prep H args)) := (cr_prep args).trans (by rw [pe32])
theorem ci32 (args : List AV) (H : Hp) : callIso E (callT E) 32 args H = prepK E (callT E) 32 (peP E 32 (prep H args)) := (iso_prep args).trans (by rw [pe32])
theorem ak33 : E.argk 33 = [] := by kernel_rfl
theorem rk33 : E.resk 33 = [] := by kernel_rfl
theorem ow33 : E.own 33 = false := by kernel_rfl
theorem pe33 (args : List AV) (H : Hp) : prepE E 33 H args = peP E 33 (prep H args) := prepE_v rfl args
theorem cr33 (args : List AV) (H : Hp) : calleeR E 33 args H = crK args (peP E 33 (prep H args)) := (cr_prep args).trans (by rw [pe33])
theorem ci33 (args : List AV) (H : Hp) : callIso E (callT E) 33 args H = prepK E (callT E) 33 (peP E 33 (prep H args)) := (iso_prep args).trans (by rw [pe33])
theorem bd45 (parts : List (Nat × AV)) : buildE E 45 parts = aggK (fillS [(0, 1), (1, 1)] [.i (.v (.int .i64 0)), .i (.v (.int .i64 0))] parts) := bd_struct (by kernel_rfl) (by kernel_rfl) (by kernel_rfl) parts
theorem bd58 (parts : List (Nat × AV)) : buildE E 58 parts = aggK (fillS [(0, 1), (1, 16)] [.i (.v (.bool false)), .i (.v (.bool false)), .i (.v (.bool false)), .i (.v (.bool false)), .i (.v (.bool false)), .i (.v (.bool false)), .i (.v (.bool false)), .i (.v (.bool false)), .i (.v (.bool false)), .i (.v (.bool false)), .i (.v (.bool false)), .i (.v (.bool false)), .i (.v (.bool false)), .i (.v (.bool false)), .i (.v (.bool false)), .i (.v (.bool false)), .i (.v (.bool false))] parts) := bd_struct (by kernel_rfl) (by kernel_rfl) (by kernel_rfl) parts
theorem bd62 (parts : List (Nat × AV)) : buildE E 62 parts = aggK (fillS [(0, 1), (1, 1), (2, 1)] [.i (.v (.bool false)), .i (.v (.bool false)), .i (.sl 0 [] true)] parts) := bd_struct (by kernel_rfl) (by kernel_rfl) (by kernel_rfl) parts
theorem cv48_3 (cl : CallF) (fr : Fr) (H : Hp) (x : Operand) : evOp E cl (.convert 48 3 x) fr H = pK H (convE E 48 3 (opd E fr x)) := op_convert _ _ _ (by kernel_rfl) (by kernel_rfl)
theorem sx24 (H : Hp) (x : AV) (lo hi : Option AV) : sliceE E H 24 x lo hi none = slN 1 H lo hi x := sl_sl (e := 3) (z := 1) (by kernel_rfl) (by kernel_rfl) (by kernel_rfl) x lo hi
theorem sx47 (H : Hp) (x : AV) (lo hi : Option AV) : sliceE E H 47 x lo hi none = slN 1 H lo hi x := sl_sl (e := 4) (z := 1) (by kernel_rfl) (by kernel_rfl) (by kernel_rfl) x lo hi
theorem sw24 (H : Hp) (sz : Nat) (rows : List (List IV)) (ex : Bool) (k k' : IntKind) (h m : Int) : sliceE E H 24 (.i (.sl sz rows ex)) none (some (.i (.v (.int k h)))) (some (.i (.v (.int k' m)))) = if 0 ≤ h ∧ h = m ∧ h ≤ rows.length ∧ (rows = [] ∨ 1 = sz) then some (.i (.sl sz (rows.take h.toNat) true)) else none := sl_sl3 (e := 3) (by kernel_rfl) (by kernel_rfl) sz rows ex k k' h m
theorem sw47 (H : Hp) (sz : Nat) (rows : List (List IV)) (ex : Bool) (k k' : IntKind) (h m : Int) : sliceE E H 47 (.i (.sl sz rows ex)) none (some (.i (.v (.int k h)))) (some (.i (.v (.int k' m)))) = if 0 ≤ h ∧ h = m ∧ h ≤ rows.length ∧ (rows = [] ∨ 1 = sz) then some (.i (.sl sz (rows.take h.toNat) true)) else none := sl_sl3 (e := 4) (by kernel_rfl) (by kernel_rfl) sz rows ex k k' h m
theorem ap22_22 (H : Hp) (s x : AV) : appendE E H 22 22 s x = apS 2 H s (srcE H x) := ap_eq (by kernel_rfl) H s x
theorem ap24_24 (H : Hp) (s x : AV) : appendE E H 24 24 s x = apS 1 H s (srcE H x) := ap_eq (by kernel_rfl) H s x
theorem ap47_47 (H : Hp) (s x : AV) : appendE E H 47 47 s x = apS 1 H s (srcE H x) := ap_eq (by kernel_rfl) H s x
theorem bs22 (H : Hp) (n : Nat) (hn : n * 2 ≤ 16777216) (parts : List (Nat × AV)) : buildSliceE E H 22 n parts = bsF [] 2 n H (fillA 2 (List.replicate n [.i (.v (.int .i64 0)), .i (.v (.int .i64 0))]).flatten parts) := bs_eq (by kernel_rfl) H n hn parts
theorem br22 (n : Nat) (parts : List (Nat × AV)) : buildRefs E 22 n parts = brK (fillA 2 (List.replicate n [.i (.v (.int .i64 0)), .i (.v (.int .i64 0))]).flatten parts) := br_eq (ks := []) (by kernel_rfl) n parts
theorem ms22 (H : Hp) (k k' : IntKind) (n m : Int) : makeSliceE E H 22 (.i (.v (.int k n))) (.i (.v (.int k' m))) = if 0 ≤ n ∧ n = m ∧ n < 1073741824 then some (.ref H.length 0 0 n.toNat, H ++ [.sl 2 0 (List.replicate n.toNat [.v (.int .i64 0), .v (.int .i64 0)]) true]) else none := ms_eq (by kernel_rfl) H k k' n m
theorem bs24 (H : Hp) (n : Nat) (hn : n * 1 ≤ 16777216) (parts : List (Nat × AV)) : buildSliceE E H 24 n parts = bsF [] 1 n H (fillA 1 (List.replicate n [.i (.v (.int .i64 0))]).flatten parts) := bs_eq (by kernel_rfl) H n hn parts
theorem br24 (n : Nat) (parts : List (Nat × AV)) : buildRefs E 24 n parts = brK (fillA 1 (List.replicate n [.i (.v (.int .i64 0))]).flatten parts) := br_eq (ks := []) (by kernel_rfl) n parts
theorem ms24 (H : Hp) (k k' : IntKind) (n m : Int) : makeSliceE E H 24 (.i (.v (.int k n))) (.i (.v (.int k' m))) = if 0 ≤ n ∧ n = m ∧ n < 1073741824 then some (.ref H.length 0 0 n.toNat, H ++ [.sl 1 0 (List.replicate n.toNat [.v (.int .i64 0)]) true]) else none := ms_eq (by kernel_rfl) H k k' n m
theorem bs47 (H : Hp) (n : Nat) (hn : n * 1 ≤ 16777216) (parts : List (Nat × AV)) : buildSliceE E H 47 n parts = bsF [] 1 n H (fillA 1 (List.replicate n [.i (.v (.bool false))]).flatten parts) := bs_eq (by kernel_rfl) H n hn parts
theorem br47 (n : Nat) (parts : List (Nat × AV)) : buildRefs E 47 n parts = brK (fillA 1 (List.replicate n [.i (.v (.bool false))]).flatten parts) := br_eq (ks := []) (by kernel_rfl) n parts
theorem ms47 (H : Hp) (k k' : IntKind) (n m : Int) : makeSliceE E H 47 (.i (.v (.int k n))) (.i (.v (.int k' m))) = if 0 ≤ n ∧ n = m ∧ n < 1073741824 then some (.ref H.length 0 0 n.toNat, H ++ [.sl 1 0 (List.replicate n.toNat [.v (.bool false)]) true]) else none := ms_eq (by kernel_rfl) H k k' n m
theorem bs55 (H : Hp) (n : Nat) (hn : n * 17 ≤ 16777216) (parts : List (Nat × AV)) : buildSliceE E H 55 n parts = bsF [] 17 n H (fillA 17 (List.replicate n [.i (.v (.bool false)), .i (.v (.bool false)), .i (.v (.bool false)), .i (.v (.bool false)), .i (.v (.bool false)), .i (.v (.bool false)), .i (.v (.bool false)), .i (.v (.bool false)), .i (.v (.bool false)), .i (.v (.bool false)), .i (.v (.bool false)), .i (.v (.bool false)), .i (.v (.bool false)), .i (.v (.bool false)), .i (.v (.bool false)), .i (.v (.bool false)), .i (.v (.bool false))]).flatten parts) := bs_eq (by kernel_rfl) H n hn parts
theorem br55 (n : Nat) (parts : List (Nat × AV)) : buildRefs E 55 n parts = brK (fillA 17 (List.replicate n [.i (.v (.bool false)), .i (.v (.bool false)), .i (.v (.bool false)), .i (.v (.bool false)), .i (.v (.bool false)), .i (.v (.bool false)), .i (.v (.bool false)), .i (.v (.bool false)), .i (.v (.bool false)), .i (.v (.bool false)), .i (.v (.bool false)), .i (.v (.bool false)), .i (.v (.bool false)), .i (.v (.bool false)), .i (.v (.bool false)), .i (.v (.bool false)), .i (.v (.bool false))]).flatten parts) := br_eq (ks := []) (by kernel_rfl) n parts
theorem ms55 (H : Hp) (k k' : IntKind) (n m : Int) : makeSliceE E H 55 (.i (.v (.int k n))) (.i (.v (.int k' m))) = if 0 ≤ n ∧ n = m ∧ n < 1073741824 then some (.ref H.length 0 0 n.toNat, H ++ [.sl 17 0 (List.replicate n.toNat [.v (.bool false), .v (.bool false), .v (.bool false), .v (.bool false), .v (.bool false), .v (.bool false), .v (.bool false), .v (.bool false), .v (.bool false), .v (.bool false), .v (.bool false), .v (.bool false), .v (.bool false), .v (.bool false), .v (.bool false), .v (.bool false), .v (.bool false)]) true]) else none := ms_eq (by kernel_rfl) H k k' n m
theorem bs60 (H : Hp) (n : Nat) (hn : n * 3 ≤ 16777216) (parts : List (Nat × AV)) : buildSliceE E H 60 n parts = bsF [none, none, some 1] 3 n H (fillA 3 (List.replicate n [.i (.v (.bool false)), .i (.v (.bool false)), .i (.sl 0 [] true)]).flatten parts) := bs_eq (by kernel_rfl) H n hn parts
theorem br60 (n : Nat) (parts : List (Nat × AV)) : buildRefs E 60 n parts = brK (fillA 3 (List.replicate n [.i (.v (.bool false)), .i (.v (.bool false)), .i (.sl 0 [] true)]).flatten parts) := br_eq (ks := [none, none, some 1]) (by kernel_rfl) n parts
theorem ms60 (H : Hp) (k k' : IntKind) (n m : Int) : makeSliceE E H 60 (.i (.v (.int k n))) (.i (.v (.int k' m))) = if 0 ≤ n ∧ n = m ∧ n < 1073741824 then some (.ref H.length 0 0 n.toNat, H ++ [.sl 3 0 (List.replicate n.toNat [.v (.bool false), .v (.bool false), .sl 1 [] false]) true]) else none := ms_eq (by kernel_rfl) H k k' n m
theorem bs65 (H : Hp) (n : Nat) (hn : n * 1 ≤ 16777216) (parts : List (Nat × AV)) : buildSliceE E H 65 n parts = bsF [] 1 n H (fillA 1 (List.replicate n [.i (.str [])]).flatten parts) := bs_eq (by kernel_rfl) H n hn parts
theorem br65 (n : Nat) (parts : List (Nat × AV)) : buildRefs E 65 n parts = brK (fillA 1 (List.replicate n [.i (.str [])]).flatten parts) := br_eq (ks := []) (by kernel_rfl) n parts
theorem ms65 (H : Hp) (k k' : IntKind) (n m : Int) : makeSliceE E H 65 (.i (.v (.int k n))) (.i (.v (.int k' m))) = if 0 ≤ n ∧ n = m ∧ n < 1073741824 then some (.ref H.length 0 0 n.toNat, H ++ [.sl 1 0 (List.replicate n.toNat [.str []]) true]) else none := ms_eq (by kernel_rfl) H k k' n m
theorem st22 (H : Hp) (c g r k : Nat) (v : AV) : storeE E H 22 (.ptr c g r k) v = if (cellsA v).length = 1 ∧ (cellsA v).all one = true then stC [some 2] 1 H c g r k (cellsA v) H[c]? else none := st_eq sz22 H c g r k v
theorem st24 (H : Hp) (c g r k : Nat) (v : AV) : storeE E H 24 (.ptr c g r k) v = if (cellsA v).length = 1 ∧ (cellsA v).all one = true then stC [some 1] 1 H c g r k (cellsA v) H[c]? else none := st_eq sz24 H c g r k v
theorem st25 (H : Hp) (c g r k : Nat) (v : AV) : storeE E H 25 (.ptr c g r k) v = if (cellsA v).length = 1 ∧ (cellsA v).all one = true then stC [] 1 H c g r k (cellsA v) H[c]? else none := st_eq sz25 H c g r k v
theorem st3 (H : Hp) (c g r k : Nat) (v : AV) : storeE E H 3 (.ptr c g r k) v = if (cellsA v).length = 1 ∧ (cellsA v).all one = true then stC [] 1 H c g r k (cellsA v) H[c]? else none := st_eq sz3 H c g r k v
theorem st4 (H : Hp) (c g r k : Nat) (v : AV) : storeE E H 4 (.ptr c g r k) v = if (cellsA v).length = 1 ∧ (cellsA v).all one = true then stC [] 1 H c g r k (cellsA v) H[c]? else none := st_eq sz4 H c g r k v
theorem st45 (H : Hp) (c g r k : Nat) (v : AV) : storeE E H 45 (.ptr c g r k) v = if (cellsA v).length = 2 ∧ (cellsA v).all one = true then stC [] 2 H c g r k (cellsA v) H[c]? else none := st_eq sz45 H c g r k v
theorem st47 (H : Hp) (c g r k : Nat) (v : AV) : storeE E H 47 (.ptr c g r k) v = if (cellsA v).length = 1 ∧ (cellsA v).all one = true then stC [some 1] 1 H c g r k (cellsA v) H[c]? else none := st_eq sz47 H c g r k v
theorem st55 (H : Hp) (c g r k : Nat) (v : AV) : storeE E H 55 (.ptr c g r k) v = if (cellsA v).length = 1 ∧ (cellsA v).all one = true then stC [some 17] 1 H c g r k (cellsA v) H[c]? else none := st_eq sz55 H c g r k v
theorem st56 (H : Hp) (c g r k : Nat) (v : AV) : storeE E H 56 (.ptr c g r k) v = if (cellsA v).length = 16 ∧ (cellsA v).all one = true then stC [] 16 H c g r k (cellsA v) H[c]? else none := st_eq sz56 H c g r k v
theorem st58 (H : Hp) (c g r k : Nat) (v : AV) : storeE E H 58 (.ptr c g r k) v = if (cellsA v).length = 17 ∧ (cellsA v).all one = true then stC [] 17 H c g r k (cellsA v) H[c]? else none := st_eq sz58 H c g r k v
theorem st62 (H : Hp) (c g r k : Nat) (v : AV) : storeE E H 62 (.ptr c g r k) v = if (cellsA v).length = 3 ∧ (cellsA v).all one = true then stC [none, none, some 1] 3 H c g r k (cellsA v) H[c]? else none := st_eq sz62 H c g r k v
theorem st9 (H : Hp) (c g r k : Nat) (v : AV) : storeE E H 9 (.ptr c g r k) v = if (cellsA v).length = 1 ∧ (cellsA v).all one = true then stC [] 1 H c g r k (cellsA v) H[c]? else none := st_eq sz9 H c g r k v
def en3 := And.intro @ent3 (And.intro @res3 (And.intro @rk3 (And.intro @ow3 (And.intro @kp3_0 (And.intro @kp3_1 (And.intro @kp3_2 (And.intro @kp3_3 (And.intro @kp3_4 (And.intro @kp3_5 (And.intro @sq32 (And.intro @ent11 (And.intro @ci11 (And.intro @cr11 (And.intro @ak11 (And.intro @ent12 (And.intro @ci12 (And.intro @cr12 (And.intro @ak12 (And.intro @ent13 (And.intro @ci13 (And.intro @cr13 (And.intro @ak13 (And.intro @ent14 (And.intro @ci14 (And.intro @cr14 (And.intro @ak14 (And.intro @ent15 (And.intro @ci15 (And.intro @cr15 (And.intro @ak15 (And.intro @agg22 (And.intro @agg24 (And.intro @agg3 (And.intro @agg45 (And.intro @arrz45 (And.intro @kind22 (And.intro @kind24 (And.intro @kind3 (And.intro @cv48_3 (And.intro @kind45 (And.intro @pl45 (And.intro @sl22 (And.intro @ms22 (And.intro @br22 (And.intro @ap22_22 (And.intro @sl24 (And.intro @ms24 (And.intro @br24 (And.intro @sx24 (And.intro @sw24 (And.intro @ap24_24 (And.intro @str22 (And.intro @str24 (And.intro @sz3 (And.intro @st3 (And.intro @sz45 (And.intro @st45 (And.intro @zero3 (And.intro @zero45 (@bd45))))))))))))))))))))))))))))))))))))))))))))))))))))))))))))
def en5 := And.intro @ent5 (And.intro @res5 (And.intro @rk5 (And.intro @ow5 (And.intro @kp5_0 (And.intro @kp5_1 (And.intro @kp5_2 (And.intro @kp5_3 (And.intro @kp5_4 (And.intro @kp5_5 (And.intro @sq32 (And.intro @ent11 (And.intro @ci11 (And.intro @cr11 (And.intro @ak11 (And.intro @ent18 (And.intro @ci18 (And.intro @cr18 (And.intro @ak18 (And.intro @ent19 (And.intro @ci19 (And.intro @cr19 (And.intro @ak19 (And.intro @agg22 (And.intro @agg45 (And.intro @arrz45 (And.intro @kind22 (And.intro @kind45 (And.intro @pl45 (And.intro @sl22 (And.intro @ms22 (And.intro @br22 (And.intro @ap22_22 (And.intro @str22 (And.intro @sz45 (And.intro @st45 (And.intro @und4 (And.intro @zero45 (@bd45))))))))))))))))))))))))))))))))))))))
def en12 := And.intro @ent12 (And.intro @res12 (And.intro @rk12 (And.intro @ow12 (And.intro @kp12_0 (And.intro @kp12_1 (And.intro @kp12_2 (And.intro @kp12_3 (And.intro @kp12_4 (And.intro @kp12_5 (And.intro @kp12_6 (And.intro @kp12_7 (And.intro @kp12_8 (And.intro @kp12_9 (And.intro @kp12_10 (And.intro @kp12_11 (And.intro @kp12_12 (And.intro @kp12_13 (And.intro @kp12_14 (And.intro @kp12_15 (And.intro @kp12_16 (And.intro @kp12_17 (And.intro @kp12_18 (And.intro @kp12_19 (And.intro @kp12_20 (And.intro @kp12_21 (And.intro @kp12_22 (And.intro @kp12_23 (And.intro @kp12_24 (And.intro @hd12_6 (And.intro @hd12_12 (And.intro @fl12_15 (And.intro @dr12_15 (And.intro @fl12_16 (And.intro @dr12_16 (And.intro @fl12_20 (And.intro @dr12_20 (And.intro @sq32 (And.intro @ent23 (And.intro @ci23 (And.intro @cr23 (And.intro @ak23 (And.intro @ent24 (And.intro @ci24 (And.intro @cr24 (And.intro @ak24 (And.intro @agg22 (And.intro @agg24 (And.intro @agg25 (And.intro @agg3 (And.intro @agg45 (And.intro @agg50 (And.intro @arr22 (And.intro @arr24 (And.intro @arr50 (And.intro @arrz45 (And.intro @fld45_0 (And.intro @kind22 (And.intro @kind24 (And.intro @kind3 (And.intro @cv48_3 (And.intro @kind45 (And.intro @kind50 (And.intro @pl45 (And.intro @sl22 (And.intro @ms22 (And.intro @br22 (And.intro @ap22_22 (And.intro @sl24 (And.intro @ms24 (And.intro @br24 (And.intro @sx24 (And.intro @sw24 (And.intro @ap24_24 (And.intro @sl3 (And.intro @sl45 (And.intro @sl50 (And.intro @str22 (And.intro @str24 (And.intro @str3 (And.intro @str45 (And.intro @str50 (And.intro @sz22 (And.intro @st22 (And.intro @sz24 (And.intro @st24 (And.intro @sz25 (And.intro @st25 (And.intro @sz3 (And.intro @st3 (And.intro @sz45 (And.intro @st45 (And.intro @zero24 (And.intro @zero25 (And.intro @zero3 (And.intro @zero45 (@bd45))))))))))))))))))))))))))))))))))))))))))))))))))))))))))))))))))))))))))))))))))))))))))))))))
def en13 := And.intro @ent13 (And.intro @res13 (And.intro @rk13 (And.intro @ow13 (And.intro @kp13_0 (And.intro @kp13_1 (And.intro @kp13_2 (And.intro @kp13_3 (And.intro @kp13_4 (And.intro @kp13_5 (And.intro @kp13_6 (And.intro @kp13_7 (And.intro @kp13_8 (And.intro @kp13_9 (And.intro @kp13_10 (And.intro @kp13_11 (And.intro @kp13_12 (And.intro @kp13_13 (And.intro @kp13_14 (And.intro @kp13_15 (And.intro @kp13_16 (And.intro @kp13_17 (And.intro @kp13_18 (And.intro @kp13_19 (And.intro @kp13_20 (And.intro @kp13_21 (And.intro @kp13_22 (And.intro @kp13_23 (And.intro @kp13_24 (And.intro @hd13_6 (And.intro @hd13_11 (And.intro @hd13_19 (And.intro @fl13_14 (And.intro @dr13_14 (And.intro @fl13_15 (And.intro @dr13_15 (And.intro @sq32 (And.intro @ent21 (And.intro @ci21 (And.intro @cr21 (And.intro @ak21 (And.intro @ent22 (And.intro @ci22 (And.intro @cr22 (And.intro @ak22 (And.intro @ent25 (And.intro @ci25 (And.intro @cr25 (And.intro @ak25 (And.intro @ent26 (And.intro @ci26 (And.intro @cr26 (And.intro @ak26 (And.intro @agg22 (And.intro @agg24 (And.intro @agg3 (And.intro @agg45 (And.intro @arr22 (And.intro @arr24 (And.intro @arrz45 (And.intro @fld45_0 (And.intro @kind22 (And.intro @kind24 (And.intro @kind3 (And.intro @cv48_3 (And.intro @kind45 (And.intro @pl45 (And.intro @sl22 (And.intro @ms22 (And.intro @br22 (And.intro @ap22_22 (And.intro @sl24 (And.intro @ms24 (And.intro @br24 (And.intro @sx24 (And.intro @sw24 (And.intro @ap24_24 (And.intro @sl3 (And.intro @str22 (And.intro @str24 (And.intro @str3 (And.intro @sz3 (And.intro @st3 (And.intro @sz45 (And.intro @st45 (And.intro @zero3 (And.intro @zero45 (@bd45)))))))))))))))))))))))))))))))))))))))))))))))))))))))))))))))))))))))))))))))))))))))
def en14 := And.intro @ent14 (And.intro @res14 (And.intro @rk14 (And.intro @ow14 (And.intro @kp14_0 (And.intro @kp14_1 (And.intro @kp14_2 (And.intro @kp14_3 (And.intro @kp14_4 (And.intro @kp14_5 (And.intro @kp14_6 (And.intro @kp14_7 (And.intro @kp14_8 (And.intro @hd14_4 (And.intro @fl14_6 (And.intro @dr14_6 (And.intro @sq32 (And.intro @agg24 (And.intro @agg3 (And.intro @arr24 (And.intro @kind24 (And.intro @kind3 (And.intro @cv48_3 (And.intro @sl24 (And.intro @ms24 (And.intro @br24 (And.intro @sx24 (And.intro @sw24 (And.intro @ap24_24 (And.intro @str24 (And.intro @sz3 (And.intro @st3 (@zero3))))))))))))))))))))))))))))))))
def en15 := And.intro @ent15 (And.intro @res15 (And.intro @rk15 (And.intro @ow15 (And.intro @kp15_0 (And.intro @kp15_1 (And.intro @kp15_2 (And.intro @sq32 (And.intro @ent12 (And.intro @ci12 (And.intro @cr12 (And.intro @ak12 (And.intro @agg22 (And.intro @agg45 (And.intro @arrz45 (And.intro @kind22 (And.intro @kind45 (And.intro @pl45 (And.intro @sl22 (And.intro @ms22 (And.intro @br22 (And.intro @ap22_22 (And.intro @str22 (And.intro @sz45 (And.intro @st45 (And.intro @zero45 (@bd45))))))))))))))))))))))))))
def en18 := And.intro @ent18 (And.intro @res18 (And.intro @rk18 (And.intro @ow18 (And.intro @kp18_0 (And.intro @kp18_1 (And.intro @kp18_2 (And.intro @kp18_3 (And.intro @kp18_4 (And.intro @kp18_5 (And.intro @kp18_6 (And.intro @kp18_7 (And.intro @kp18_8 (And.intro @kp18_9 (And.intro @kp18_10 (And.intro @kp18_11 (And.intro @kp18_12 (And.intro @kp18_13 (And.intro @kp18_14 (And.intro @kp18_15 (And.intro @kp18_16 (And.intro @kp18_17 (And.intro @kp18_18 (And.intro @kp18_19 (And.intro @kp18_20 (And.intro @kp18_21 (And.intro @kp18_22 (And.intro @hd18_6 (And.intro @hd18_17 (And.intro @fl18_12 (And.intro @dr18_12 (And.intro @fl18_15 (And.intro @dr18_15 (And.intro @fl18_19 (And.intro @dr18_19 (And.intro @sq32 (And.intro @ent12 (And.intro @ci12 (And.intro @cr12 (And.intro @ak12 (And.intro @ent24 (And.intro @ci24 (And.intro @cr24 (And.intro @ak24 (And.intro @ent27 (And.intro @ci27 (And.intro @cr27 (And.intro @ak27 (And.intro @agg22 (And.intro @agg24 (And.intro @agg3 (And.intro @agg4 (And.intro @agg45 (And.intro @agg55 (And.intro @agg56 (And.intro @agg58 (And.intro @arr22 (And.intro @arr24 (And.intro @arr55 (And.intro @arr56 (And.intro @arrz45 (And.intro @arrz58 (And.intro @fld45_0 (And.intro @fld58_0 (And.intro @fld58_1 (And.intro @kind22 (And.intro @kind24 (And.intro @kind3 (And.intro @cv48_3 (And.intro @kind45 (And.intro @kind55 (And.intro @kind56 (And.intro @kind58 (And.intro @pl45 (And.intro @pl58 (And.intro @sl22 (And.intro @ms22 (And.intro @br22 (And.intro @ap22_22 (And.intro @sl24 (And.intro @ms24 (And.intro @br24 (And.intro @sx24 (And.intro @sw24 (And.intro @ap24_24 (And.intro @sl3 (And.intro @sl45 (And.intro @sl55 (And.intro @ms55 (And.intro @br55 (And.intro @sl56 (And.intro @sl58 (And.intro @str22 (And.intro @str24 (And.intro @str3 (And.intro @str45 (And.intro @str55 (And.intro @str56 (And.intro @str58 (And.intro @sz3 (And.intro @st3 (And.intro @sz4 (And.intro @st4 (And.intro @sz45 (And.intro @st45 (And.intro @sz55 (And.intro @st55 (And.intro @sz56 (And.intro @st56 (And.intro @sz58 (And.intro @st58 (And.intro @zero3 (And.intro @zero45 (And.intro @bd45 (And.intro @zero55 (And.intro @zero58 (@bd58))))))))))))))))))))))))))))))))))))))))))))))))))))))))))))))))))))))))))))))))))))))))))))))))))))))))))))))))))))
def en19 := And.intro @ent19 (And.intro @res19 (And.intro @rk19 (And.intro @ow19 (And.intro @kp19_0 (And.intro @kp19_1 (And.intro @kp19_2 (And.intro @kp19_3 (And.intro @kp19_4 (And.intro @kp19_5 (And.intro @kp19_6 (And.intro @kp19_7 (And.intro @kp19_8 (And.intro @kp19_9 (And.intro @kp19_10 (And.intro @kp19_11 (And.intro @kp19_12 (And.intro @kp19_13 (And.intro @kp19_14 (And.intro @kp19_15 (And.intro @kp19_16 (And.intro @kp19_17 (And.intro @kp19_18 (And.intro @kp19_19 (And.intro @kp19_20 (And.intro @kp19_21 (And.intro @hd19_8 (And.intro @hd19_18 (And.intro @fl19_20 (And.intro @dr19_20 (And.intro @sq32 (And.intro @ent13 (And.intro @ci13 (And.intro @cr13 (And.intro @ak13 (And.intro @ent26 (And.intro @ci26 (And.intro @cr26 (And.intro @ak26 (And.intro @ent28 (And.intro @ci28 (And.intro @cr28 (And.intro @ak28 (And.intro @ent29 (And.intro @ci29 (And.intro @cr29 (And.intro @ak29 (And.intro @agg22 (And.intro @agg24 (And.intro @agg3 (And.intro @agg4 (And.intro @agg45 (And.intro @agg47 (And.intro @agg60 (And.intro @agg62 (And.intro @arr22 (And.intro @arr24 (And.intro @arr47 (And.intro @arr60 (And.intro @arrz45 (And.intro @arrz62 (And.intro @fld45_0 (And.intro @fld62_0 (And.intro @fld62_1 (And.intro @fld62_2 (And.intro @kind22 (And.intro @kind24 (And.intro @kind3 (And.intro @cv48_3 (And.intro @kind4 (And.intro @kind45 (And.intro @kind47 (And.intro @kind60 (And.intro @kind62 (And.intro @pl45 (And.intro @pl62 (And.intro @sl22 (And.intro @ms22 (And.intro @br22 (And.intro @ap22_22 (And.intro @sl24 (And.intro @ms24 (And.intro @br24 (And.intro @sx24 (And.intro @sw24 (And.intro @ap24_24 (And.intro @sl3 (And.intro @sl47 (And.intro @ms47 (And.intro @br47 (And.intro @sx47 (And.intro @sw47 (And.intro @ap47_47 (And.intro @sl60 (And.intro @ms60 (And.intro @br60 (And.intro @sl62 (And.intro @str22 (And.intro @str24 (And.intro @str3 (And.intro @str47 (And.intro @str60 (And.intro @str62 (And.intro @sz3 (And.intro @st3 (And.intro @sz4 (And.intro @st4 (And.intro @sz45 (And.intro @st45 (And.intro @sz47 (And.intro @st47 (And.intro @sz62 (And.intro @st62 (And.intro @zero3 (And.intro @zero4 (And.intro @zero45 (And.intro @bd45 (And.intro @zero62 (@bd62))))))))))))))))))))))))))))))))))))))))))))))))))))))))))))))))))))))))))))))))))))))))))))))))))))))))))))))))))))))
def en23 := And.intro @ent23 (And.intro @res23 (And.intro @rk23 (And.intro @ow23 (And.intro @kp23_0 (And.intro @kp23_1 (And.intro @kp23_2 (And.intro @kp23_3 (And.intro @kp23_4 (And.intro @kp23_5 (And.intro @kp23_6 (And.intro @kp23_7 (And.intro @kp23_8 (And.intro @kp23_9 (And.intro @kp23_10 (And.intro @kp23_11 (And.intro @kp23_12 (And.intro @hd23_4 (And.intro @fl23_6 (And.intro @dr23_6 (And.intro @sq32 (And.intro @ent30 (And.intro @ci30 (And.intro @cr30 (And.intro @ak30 (And.intro @ent31 (And.intro @ci31 (And.intro @cr31 (And.intro @ak31 (And.intro @agg22 (And.intro @agg3 (And.intro @agg45 (And.intro @agg65 (And.intro @agg9 (And.intro @arr22 (And.intro @arrz45 (And.intro @fld45_0 (And.intro @fld45_1 (And.intro @kind22 (And.intro @kind3 (And.intro @cv48_3 (And.intro @kind45 (And.intro @kind65 (And.intro @kind9 (And.intro @pl45 (And.intro @sl22 (And.intro @ms22 (And.intro @br22 (And.intro @ap22_22 (And.intro @sl3 (And.intro @sl65 (And.intro @ms65 (And.intro @br65 (And.intro @str22 (And.intro @str3 (And.intro @str65 (And.intro @sz3 (And.intro @st3 (And.intro @sz45 (And.intro @st45 (And.intro @sz9 (And.intro @st9 (And.intro @zero45 (And.intro @bd45 (@zero9))))))))))))))))))))))))))))))))))))))))))))))))))))))))))))))))
def en24 := And.intro @ent24 (And.intro @res24 (And.intro @rk24 (And.intro @ow24 (And.intro @kp24_0 (And.intro @kp24_1 (And.intro @sq32 (And.intro @ent32 (And.intro @ci32 (And.intro @cr32 (@ak32))))))))))
def en25 := And.intro @ent25 (And.intro @res25 (And.intro @rk25 (And.intro @ow25 (And.intro @kp25_0 (And.intro @kp25_1 (And.intro @kp25_2 (And.intro @kp25_3 (And.intro @kp25_4 (And.intro @kp25_5 (And.intro @kp25_6 (And.intro @kp25_7 (And.intro @kp25_8 (And.intro @kp25_9 (And.intro @kp25_10 (And.intro @kp25_11 (And.intro @kp25_12 (And.intro @kp25_13 (And.intro @kp25_14 (And.intro @kp25_15 (And.intro @kp25_16 (And.intro @kp25_17 (And.intro @kp25_18 (And.intro @hd25_4 (And.intro @sq32 (And.intro @ent33 (And.intro @ci33 (And.intro @cr33 (And.intro @ak33 (And.intro @agg22 (And.intro @agg3 (And.intro @agg45 (And.intro @arr22 (And.intro @arrz45 (And.intro @fld45_0 (And.intro @fld45_1 (And.intro @kind22 (And.intro @kind3 (And.intro @cv48_3 (And.intro @kind45 (And.intro @pl45 (And.intro @sl22 (And.intro @ms22 (And.intro @br22 (And.intro @ap22_22 (And.intro @sl3 (And.intro @str22 (And.intro @str3 (And.intro @sz3 (And.intro @st3 (And.intro @sz45 (And.intro @st45 (And.intro @zero45 (@bd45)))))))))))))))))))))))))))))))))))))))))))))))))))))
def en26 := And.intro @ent26 (And.intro @res26 (And.intro @rk26 (And.intro @ow26 (And.intro @kp26_0 (And.intro @kp26_1 (And.intro @kp26_2 (And.intro @kp26_3 (And.intro @kp26_4 (And.intro @kp26_5 (And.intro @kp26_6 (And.intro @kp26_7 (And.intro @kp26_8 (And.intro @sq32 (And.intro @agg22 (And.intro @agg24 (And.intro @agg3 (And.intro @agg45 (And.intro @arr22 (And.intro @arrz45 (And.intro @fld45_0 (And.intro @fld45_1 (And.intro @kind22 (And.intro @kind24 (And.intro @kind3 (And.intro @cv48_3 (And.intro @kind45 (And.intro @pl45 (And.intro @sl22 (And.intro @ms22 (And.intro @br22 (And.intro @ap22_22 (And.intro @sl24 (And.intro @ms24 (And.intro @br24 (And.intro @sx24 (And.intro @sw24 (And.intro @ap24_24 (And.intro @str22 (And.intro @str24 (And.intro @sz3 (And.intro @st3 (And.intro @sz45 (And.intro @st45 (And.intro @zero3 (And.intro @zero45 (@bd45))))))))))))))))))))))))))))))))))))))))))))))
def en27 := And.intro @ent27 (And.intro @res27 (And.intro @rk27 (And.intro @ow27 (And.intro @kp27_0 (And.intro @kp27_1 (And.intro @kp27_2 (And.intro @kp27_3 (And.intro @kp27_4 (And.intro @kp27_5 (And.intro @kp27_6 (And.intro @kp27_7 (And.intro @kp27_8 (And.intro @kp27_9 (And.intro @kp27_10 (And.intro @kp27_11 (And.intro @kp27_12 (And.intro @kp27_13 (And.intro @kp27_14 (And.intro @kp27_15 (And.intro @kp27_16 (And.intro @kp27_17 (And.intro @kp27_18 (And.intro @hd27_15 (And.intro @fl27_9 (And.intro @dr27_9 (And.intro @fl27_14 (And.intro @dr27_14 (And.intro @sq32 (And.intro @agg3 (And.intro @agg4 (And.intro @agg50 (And.intro @agg56 (And.intro @agg58 (And.intro @arr50 (And.intro @arr56 (And.intro @arrz58 (And.intro @fld58_0 (And.intro @fld58_1 (And.intro @kind50 (And.intro @kind56 (And.intro @pl58 (And.intro @sl50 (And.intro @sl56 (And.intro @str50 (And.intro @str56 (And.intro @sz3 (And.intro @st3 (And.intro @sz4 (And.intro @st4 (And.intro @sz56 (And.intro @st56 (And.intro @sz58 (And.intro @st58 (And.intro @zero58 (@bd58)))))))))))))))))))))))))))))))))))))))))))))))))))))))
def en28 := And.intro @ent28 (And.intro @res28 (And.intro @rk28 (And.intro @ow28 (And.intro @kp28_0 (And.intro @kp28_1 (And.intro @kp28_2 (And.intro @kp28_3 (And.intro @kp28_4 (And.intro @kp28_5 (And.intro @kp28_6 (And.intro @kp28_7 (And.intro @kp28_8 (And.intro @kp28_9 (And.intro @kp28_10 (And.intro @kp28_11 (And.intro @kp28_12 (And.intro @kp28_13 (And.intro @kp28_14 (And.intro @kp28_15 (And.intro @kp28_16 (And.intro @kp28_17 (And.intro @kp28_18 (And.intro @kp28_19 (And.intro @kp28_20 (And.intro @kp28_21 (And.intro @kp28_22 (And.intro @kp28_23 (And.intro @kp28_24 (And.intro @kp28_25 (And.intro @kp28_26 (And.intro @kp28_27 (And.intro @kp28_28 (And.intro @fl28_3 (And.intro @dr28_3 (And.intro @fl28_14 (And.intro @dr28_14 (And.intro @fl28_16 (And.intro @dr28_16 (And.intro @fl28_18 (And.intro @dr28_18 (And.intro @fl28_20 (And.intro @dr28_20 (And.intro @sq32 (And.intro @ent21 (And.intro @ci21 (And.intro @cr21 (And.intro @ak21 (And.intro @agg3 (And.intro @agg4 (And.intro @agg47 (And.intro @agg62 (And.intro @arr47 (And.intro @arr62 (And.intro @arrz62 (And.intro @fld62_0 (And.intro @fld62_1 (And.intro @fld62_2 (And.intro @kind3 (And.intro @cv48_3 (And.intro @kind4 (And.intro @kind47 (And.intro @pl62 (And.intro @sl3 (And.intro @sl47 (And.intro @ms47 (And.intro @br47 (And.intro @sx47 (And.intro @sw47 (And.intro @ap47_47 (And.intro @str3 (And.intro @str47 (And.intro @sz4 (And.intro @st4 (And.intro @sz47 (And.intro @st47 (And.intro @sz62 (And.intro @st62 (And.intro @zero4 (And.intro @zero62 (@bd62))))))))))))))))))))))))))))))))))))))))))))))))))))))))))))))))))))))))))))))))
def en29 := And.intro @ent29 (And.intro @res29 (And.intro @rk29 (And.intro @ow29 (And.intro @kp29_0 (And.intro @kp29_1 (And.intro @kp29_2 (And.intro @kp29_3 (And.intro @kp29_4 (And.intro @kp29_5 (And.intro @kp29_6 (And.intro @kp29_7 (And.intro @kp29_8 (And.intro @hd29_5 (And.intro @fl29_2 (And.intro @dr29_2 (And.intro @fl29_7 (And.intro @dr29_7 (And.intro @sq32 (And.intro @agg4 (And.intro @agg47 (And.intro @agg62 (And.intro @arr47 (And.intro @arr62 (And.intro @arrz62 (And.intro @fld62_0 (And.intro @fld62_1 (And.intro @fld62_2 (And.intro @kind4 (And.intro @kind47 (And.intro @pl62 (And.intro @sl47 (And.intro @ms47 (And.intro @br47 (And.intro @sx47 (And.intro @sw47 (And.intro @ap47_47 (And.intro @str47 (And.intro @sz4 (And.intro @st4 (And.intro @sz47 (And.intro @st47 (And.intro @sz62 (And.intro @st62 (And.intro @zero4 (And.intro @zero62 (@bd62))))))))))))))))))))))))))))))))))))))))))))))
def en31 := And.intro @ent31 (And.intro @res31 (And.intro @rk31 (And.intro @ow31 (And.intro @kp31_0 (And.intro @kp31_1 (And.intro @kp31_2 (And.intro @kp31_3 (And.intro @kp31_4 (And.intro @kp31_5 (And.intro @kp31_6 (And.intro @kp31_7 (@sq32))))))))))))
def en33 := And.intro @ent33 (And.intro @res33 (And.intro @rk33 (And.intro @ow33 (And.intro @kp33_0 (And.intro @kp33_1 (@sq32))))))
end Go.VI

namespace Go.VI
open Go.Proofs Go.RowKit Go.Shelf
attribute [local go_sem] Oper.semAt_some
set_option maxRecDepth 100000
set_option linter.unusedSimpArgs false
set_option linter.unusedVariables false
set_option maxHeartbeats 4000000
theorem seq_inv {css : List (List Int)} {xs : List Int} (h : seqSucc css = some xs) : ∃ op arg i, css = [[op, arg], [i]] ∧ (-9223372036854775808 ≤ i + 1 ∧ i + 1 ≤ 9223372036854775807) ∧ sucL op arg i = xs := by
  unfold seqSucc at h
  split at h
  · rename_i op arg i
    split at h
    · rename_i hi
      cases h
      exact ⟨op, arg, i, rfl, hi, rfl⟩
    · cases h
  · cases h
theorem seq_succ : Seq1 Tryd.prog 32 seqSucc := by
  intro l nn css xs bs J Jx W hL hlen hcells hdr hdrx hY h0
  obtain ⟨op, arg, i, rfl, ⟨hi1, hi2⟩, rfl⟩ := seq_inv hL
  obtain ⟨b1, b2, rfl⟩ : ∃ b1 b2, bs = [b1, b2] := by
    cases bs with
    | nil => cases hlen
    | cons a bs => cases bs with
      | nil => cases hlen
      | cons b bs => cases bs with
        | nil => exact ⟨a, b, rfl⟩
        | cons c bs => simp at hlen
  have c1 : ∀ j W, J j W → W.cell? ⟨b1, 0, none⟩ = some (.int .i64 op) := fun j W h => hcells j W h 0 b1 [op, arg] rfl rfl 0 op rfl
  have c2 : ∀ j W, J j W → W.cell? ⟨b1, 1, none⟩ = some (.int .i64 arg) := fun j W h => hcells j W h 0 b1 [op, arg] rfl rfl 1 arg rfl
  have c3 : ∀ j W, J j W → W.cell? ⟨b2, 0, none⟩ = some (.int .i64 i) := fun j W h => hcells j W h 1 b2 [i] rfl rfl 0 i rfl
  have a1 := c1 0 W h0
  have a2 := c2 0 W h0
  have a3 := c3 0 W h0
  have hw : IntKind.i64.wrap (i + 1) = i + 1 := w_i64 hi1 hi2
  refine callsIn_of_wp Tryd.func32 rfl trivial ?_ rfl
  simp only [ptrV, List.map_cons, List.map_nil, Tryd.ntmps32, List.size_toArray, List.length_cons, List.length_nil, Nat.reduceAdd, Nat.reduceSub, Array.replicate_succ, Array.replicate_zero, List.push_toArray, List.append_toArray, List.nil_append, List.cons_append]
  by_cases h : op = 0
  · subst h
    have hs : sucL 0 arg i = [] := by simp [sucL]
    rw [hs] at hY ⊢
    gi_wp2
    refine ⟨fun _ h => (by cases h), ?_⟩
    gi_wp2
    go_end0
    exact ⟨⟨_, rfl⟩, .inl h0⟩
  · by_cases h17 : op = 17
    · subst h17
      have hs : sucL 17 arg i = [arg] := by simp [sucL]
      rw [hs] at hY ⊢
      obtain ⟨f1, t1, s1, d1, hy1, hR1⟩ := hY (nn - 1) 0 arg W rfl h0
      gi_wp2
      refine ⟨fun _ h => (by cases h), ?_⟩
      gi_wp2
      refine ⟨fun h => (by cases h), hR1.mono ?_⟩
      rintro e W1 (⟨rfl, hJ1⟩ | ⟨rfl, hx1⟩)
      · gi_wp2
        go_end0
        exact ⟨⟨_, rfl⟩, .inl hJ1⟩
      · gi_wp2
        go_end0
        exact ⟨⟨_, rfl⟩, .inr hx1⟩
    · have hs : sucL op arg i = (i + 1) :: (if op = 17 ∨ op = 18 then [arg] else []) := by unfold sucL; rw [if_neg (by omega)]; rfl
      rw [hs] at hY ⊢
      obtain ⟨f1, t1, s1, d1, hy1, hR1⟩ := hY (nn - 1) 0 (i + 1) W rfl h0
      have q1 : (op != 0) = true := by simp [h]
      have q2 : (op != 17) = true := by simp [h17]
      have q4 : (op == 17) = false := by simp [h17]
      by_cases h18 : op = 18
      · subst h18
        gi_wp2
        refine ⟨fun h => (by cases h), hR1.mono ?_⟩
        rintro e W1 (⟨rfl, hJ1⟩ | ⟨rfl, hx1⟩)
        · have e1 := c1 1 W1 hJ1
          have e2 := c2 1 W1 hJ1
          obtain ⟨f2, t2, s2, d2, hy2, hR2⟩ := hY (nn - 1) 1 arg W1 rfl hJ1
          gi_wp2
          refine ⟨fun h => (by cases h), hR2.mono ?_⟩
          rintro e W2 (⟨rfl, hJ2⟩ | ⟨rfl, hx2⟩)
          · gi_wp2
            go_end0
            exact ⟨⟨_, rfl⟩, .inl hJ2⟩
          · gi_wp2
            go_end0
            exact ⟨⟨_, rfl⟩, .inr hx2⟩
        · gi_wp2
          refine bodyPost_ret (results_none rfl _ _ _) rfl ?_
          exact ⟨⟨_, rfl⟩, .inr hx1⟩
      · rw [if_neg (show ¬ (op = 17 ∨ op = 18) by omega)] at hY ⊢
        have q3 : (op == 18) = false := by simp [h18]
        gi_wp2
        refine ⟨fun h => (by cases h), hR1.mono ?_⟩
        rintro e W1 (⟨rfl, hJ1⟩ | ⟨rfl, hx1⟩)
        · have e1 := c1 1 W1 hJ1
          gi_wp2
          go_end0
          exact ⟨⟨_, rfl⟩, .inl hJ1⟩
        · gi_wp2
          refine bodyPost_ret (results_none rfl _ _ _) rfl ?_
          exact ⟨⟨_, rfl⟩, .inr hx1⟩
theorem seqOK : SeqOK E := by
  intro g L h
  rcases E_seqI g L h with ⟨rfl, rfl⟩ | h
  · exact ⟨ent32, seq_succ⟩
  · exact h.elim
end Go.VI

namespace Go.VI
open Go.Proofs
set_option maxRecDepth 100000
set_option linter.unusedSimpArgs false
set_option linter.unusedVariables false
set_option maxHeartbeats 4000000
abbrev Ins := Int × Int
def insC (p : Ins) : List IV := [.v (.int .i64 p.1), .v (.int .i64 p.2)]
def rowsI (l : List Ins) : List (List IV) := l.map insC
theorem rowsI_len (l : List Ins) : (rowsI l).length = l.length := by simp [rowsI]
theorem rowsI_at {l : List Ins} {k : Nat} (h : k < l.length) : (rowsI l)[k]? = some [.v (.int .i64 l[k].1), .v (.int .i64 l[k].2)] := by simp [rowsI, insC, h]
def boundsS (op i n : Int) : Int × Int := if op = 1 then (-999999999, 999999999) else if op = 17 ∨ op = 18 then (i + 1, n) else (0, 0)
def chk1 (n i : Int) (p : Ins) : Int := if p.1 < 0 ∨ 20 < p.1 then 9 else if p.2 < (boundsS p.1 i n).1 ∨ (boundsS p.1 i n).2 < p.2 then 2 else 0
def chkL (n : Int) : Nat → List Ins → Int
  | _, [] => 0
  | i, p :: r => if chk1 n i p = 0 then chkL n (i + 1) r else chk1 n i p
def checkI (l : List Ins) : Int := if 500 < (l.length : Int) then 5 else chkL l.length 0 l
theorem c31 (op i n : Int) (hi : -9223372036854775808 ≤ i + 1 ∧ i + 1 ≤ 9223372036854775807) : ∃ L, callT E 31 [.i (.v (.int .i64 op)), .i (.v (.int .i64 i)), .i (.v (.int .i64 n))] [] = some (.tup [.i (.v (.int .i64 (boundsS op i n).1)), .i (.v (.int .i64 (boundsS op i n).2))], L) := by
  unfold boundsS
  by_cases h1 : op = 1
  · subst h1; rw [callT_eq Tryd.func31 rfl fok31 (by simp [Tryd.ntmps31])]; simp (disch := first | omega | (simp only [List.length_append, List.length_map, List.length_set, List.length_cons, List.length_nil, List.length_take, List.length_drop]; omega)) only [va0, va1, va2, va3, va4, va5, va6, va7, va8, va9, va10, va11, va12, va13, va14, va15, vb0, vb1, vb2, vb3, w_i8, w_u8, w_i16, w_u16, w_i32, w_u32, w_i64, w_u64, lt_T, lt_F, le_T, le_F, nlt_T, nlt_F, nle_T, nle_F, List.take_of_length_le, gB, gcW, gcR, posIn, renA, renL, Chunk.ren, Chunk.refs, evOpD, touchD, stepC, isFresh, nFresh, freshOf, mkR, hole, evL, evH, opd, get, putD, ofVal, cellOf, loadE, behind, lenE, idxAddrE, idxE, addPtr, intE, strE, unE, convE, AV.int, AV.bool, AV.str, ivs, take, frameOf, firstRegion, refsA, refsL, one, cellsA, floatOk, apartT, List.map, if_true, if_false, E_P, E_glob0, E_glob1, reduceCtorEq, beq_self_eq_true, decide_true, decide_false, ↓reduceIte, Nat.reduceEqDiff, cond_true, cond_false, or_true, true_or, or_false, false_or, and_true, true_and, and_self, false_and, and_false, not_true, not_false_iff, Nat.reduceAdd, Nat.reduceSub, Nat.reduceMul, Nat.reduceLT, Nat.reduceLeDiff, Int.reduceToNat, Int.reduceLT, Int.reduceLE, Option.getD, Int.reduceMul, Int.reduceAdd, List.drop, List.take, Nat.reduceBEq, List.isEmpty, Int.reduceEq, Int.reduceNe, Int.reduceNeg, Int.reduceGT, Int.reduceGE, beq_true, beq_false, UInt8.reduceToNat, eqE, eq_self, foldE, maxE, minE, eq_T, eq_F, ndec, odec, adec, sdec, fillA, over, chop, List.replicate, leavesOk, leafOk, cellsEq, cellEq, E_ext, E_byref, en31]; exact ⟨_, rfl⟩
  · by_cases h2 : op = 17
    · subst h2; rw [callT_eq Tryd.func31 rfl fok31 (by simp [Tryd.ntmps31])]; simp (disch := first | omega | (simp only [List.length_append, List.length_map, List.length_set, List.length_cons, List.length_nil, List.length_take, List.length_drop]; omega)) only [va0, va1, va2, va3, va4, va5, va6, va7, va8, va9, va10, va11, va12, va13, va14, va15, vb0, vb1, vb2, vb3, w_i8, w_u8, w_i16, w_u16, w_i32, w_u32, w_i64, w_u64, lt_T, lt_F, le_T, le_F, nlt_T, nlt_F, nle_T, nle_F, List.take_of_length_le, gB, gcW, gcR, posIn, renA, renL, Chunk.ren, Chunk.refs, evOpD, touchD, stepC, isFresh, nFresh, freshOf, mkR, hole, evL, evH, opd, get, putD, ofVal, cellOf, loadE, behind, lenE, idxAddrE, idxE, addPtr, intE, strE, unE, convE, AV.int, AV.bool, AV.str, ivs, take, frameOf, firstRegion, refsA, refsL, one, cellsA, floatOk, apartT, List.map, if_true, if_false, E_P, E_glob0, E_glob1, reduceCtorEq, beq_self_eq_true, decide_true, decide_false, ↓reduceIte, Nat.reduceEqDiff, cond_true, cond_false, or_true, true_or, or_false, false_or, and_true, true_and, and_self, false_and, and_false, not_true, not_false_iff, Nat.reduceAdd, Nat.reduceSub, Nat.reduceMul, Nat.reduceLT, Nat.reduceLeDiff, Int.reduceToNat, Int.reduceLT, Int.reduceLE, Option.getD, Int.reduceMul, Int.reduceAdd, List.drop, List.take, Nat.reduceBEq, List.isEmpty, Int.reduceEq, Int.reduceNe, Int.reduceNeg, Int.reduceGT, Int.reduceGE, beq_true, beq_false, UInt8.reduceToNat, eqE, eq_self, foldE, maxE, minE, eq_T, eq_F, ndec, odec, adec, sdec, fillA, over, chop, List.replicate, leavesOk, leafOk, cellsEq, cellEq, E_ext, E_byref, en31, w_i64]; exact ⟨_, rfl⟩
    · by_cases h3 : op = 18
      · subst h3; rw [callT_eq Tryd.func31 rfl fok31 (by simp [Tryd.ntmps31])]; simp (disch := first | omega | (simp only [List.length_append, List.length_map, List.length_set, List.length_cons, List.length_nil, List.length_take, List.length_drop]; omega)) only [va0, va1, va2, va3, va4, va5, va6, va7, va8, va9, va10, va11, va12, va13, va14, va15, vb0, vb1, vb2, vb3, w_i8, w_u8, w_i16, w_u16, w_i32, w_u32, w_i64, w_u64, lt_T, lt_F, le_T, le_F, nlt_T, nlt_F, nle_T, nle_F, List.take_of_length_le, gB, gcW, gcR, posIn, renA, renL, Chunk.ren, Chunk.refs, evOpD, touchD, stepC, isFresh, nFresh, freshOf, mkR, hole, evL, evH, opd, get, putD, ofVal, cellOf, loadE, behind, lenE, idxAddrE, idxE, addPtr, intE, strE, unE, convE, AV.int, AV.bool, AV.str, ivs, take, frameOf, firstRegion, refsA, refsL, one, cellsA, floatOk, apartT, List.map, if_true, if_false, E_P, E_glob0, E_glob1, reduceCtorEq, beq_self_eq_true, decide_true, decide_false, ↓reduceIte, Nat.reduceEqDiff, cond_true, cond_false, or_true, true_or, or_false, false_or, and_true, true_and, and_self, false_and, and_false, not_true, not_false_iff, Nat.reduceAdd, Nat.reduceSub, Nat.reduceMul, Nat.reduceLT, Nat.reduceLeDiff, Int.reduceToNat, Int.reduceLT, Int.reduceLE, Option.getD, Int.reduceMul, Int.reduceAdd, List.drop, List.take, Nat.reduceBEq, List.isEmpty, Int.reduceEq, Int.reduceNe, Int.reduceNeg, Int.reduceGT, Int.reduceGE, beq_true, beq_false, UInt8.reduceToNat, eqE, eq_self, foldE, maxE, minE, eq_T, eq_F, ndec, odec, adec, sdec, fillA, over, chop, List.replicate, leavesOk, leafOk, cellsEq, cellEq, E_ext, E_byref, en31, w_i64]; exact ⟨_, rfl⟩
      · rw [if_neg h1, if_neg (by omega)]; rw [callT_eq Tryd.func31 rfl fok31 (by simp [Tryd.ntmps31])]; simp (disch := first | omega | (simp only [List.length_append, List.length_map, List.length_set, List.length_cons, List.length_nil, List.length_take, List.length_drop]; omega)) only [va0, va1, va2, va3, va4, va5, va6, va7, va8, va9, va10, va11, va12, va13, va14, va15, vb0, vb1, vb2, vb3, w_i8, w_u8, w_i16, w_u16, w_i32, w_u32, w_i64, w_u64, lt_T, lt_F, le_T, le_F, nlt_T, nlt_F, nle_T, nle_F, List.take_of_length_le, gB, gcW, gcR, posIn, renA, renL, Chunk.ren, Chunk.refs, evOpD, touchD, stepC, isFresh, nFresh, freshOf, mkR, hole, evL, evH, opd, get, putD, ofVal, cellOf, loadE, behind, lenE, idxAddrE, idxE, addPtr, intE, strE, unE, convE, AV.int, AV.bool, AV.str, ivs, take, frameOf, firstRegion, refsA, refsL, one, cellsA, floatOk, apartT, List.map, if_true, if_false, E_P, E_glob0, E_glob1, reduceCtorEq, beq_self_eq_true, decide_true, decide_false, ↓reduceIte, Nat.reduceEqDiff, cond_true, cond_false, or_true, true_or, or_false, false_or, and_true, true_and, and_self, false_and, and_false, not_true, not_false_iff, Nat.reduceAdd, Nat.reduceSub, Nat.reduceMul, Nat.reduceLT, Nat.reduceLeDiff, Int.reduceToNat, Int.reduceLT, Int.reduceLE, Option.getD, Int.reduceMul, Int.reduceAdd, List.drop, List.take, Nat.reduceBEq, List.isEmpty, Int.reduceEq, Int.reduceNe, Int.reduceNeg, Int.reduceGT, Int.reduceGE, beq_true, beq_false, UInt8.reduceToNat, eqE, eq_self, foldE, maxE, minE, eq_T, eq_F, ndec, odec, adec, sdec, fillA, over, chop, List.replicate, leavesOk, leafOk, cellsEq, cellEq, E_ext, E_byref, en31, h1, h2, h3]; exact ⟨_, rfl⟩
theorem ik31 (op i n : Int) (hi : -9223372036854775808 ≤ i + 1 ∧ i + 1 ≤ 9223372036854775807) (H : Hp) : isoK E (callT E) 31 [.i (.v (.int .i64 op)), .i (.v (.int .i64 i)), .i (.v (.int .i64 n))] H = some (.tup [.i (.v (.int .i64 (boundsS op i n).1)), .i (.v (.int .i64 (boundsS op i n).2))], H) := isoK_val rfl rfl rfl (c31 op i n hi)
theorem names_all : (match call E 60 30 [] [] with | some (.i (.sl 1 R false), _) => decide (R.length = 21) | _ => false) = true := by kernel_rfl
theorem c30 : ∃ R : List (List IV), R.length = 21 ∧ ∃ L, callT E 30 [] [] = some (.i (.sl 1 R false), L) := by
  have h := names_all
  split at h
  · rename_i R L hL
    exact ⟨R, of_decide_eq_true h, L, callT_of hL⟩
  · cases h
theorem ik30 : ∃ R : List (List IV), (R.length : Int) = 21 ∧ ∀ H, isoK E (callT E) 30 [] H = some (.i (.sl 1 R false), H) := by
  obtain ⟨R, h1, h2⟩ := c30
  exact ⟨R, by omega, fun H => isoK_val rfl rfl rfl h2⟩
def chP (e : Int) (fr : Fr) (ex : Ex) : Prop := (e = 0 ∧ ex = .exit 0) ∨ (e ≠ 0 ∧ ex = .ret ∧ get 2 fr = .i (.v (.int .i64 e)))
theorem l23 (l : List Ins) (hl : l.length ≤ 500) (k : Nat) (hk : k ≤ l.length) :
    ∃ fr ex H', rl E 0 23 (loopAt Tryd.f23 0) [(0, .i (.sl 2 (rowsI l) false)), (10, .i (.sl 2 (rowsI l) false)), (11, .i (.v (.int .i64 l.length))), (12, .i (.v (.int .i64 k)))] [] = some (ex, fr, H') ∧ chP (chkL l.length k (l.drop k)) fr ex := by
  rw [rl_step (fn := Tryd.f23) (k := 0) rfl]
  by_cases hlt : k < l.length
  · have hrow := rowsI_at hlt
    rw [List.drop_eq_getElem_cons hlt, chkL]
    obtain ⟨fr, ex, H', e, hh⟩ := l23 l hl (k + 1) hlt
    obtain ⟨op, arg, hp⟩ : ∃ op arg, l[k] = (op, arg) := ⟨_, _, rfl⟩
    rw [hp] at hrow ⊢
    simp only at hrow
    obtain ⟨R, hR, hN⟩ := ik30
    have hb := fun H => ik31 op k l.length (by omega) H
    have hchk : chk1 l.length k (op, arg) = if op < 0 ∨ 20 < op then 9 else if arg < (boundsS op k l.length).1 ∨ (boundsS op k l.length).2 < arg then 2 else 0 := rfl
    generalize boundsS op k l.length = q at *
    generalize chk1 l.length k (op, arg) = ch at *
    obtain ⟨lo, hi⟩ := q
    simp only at hb hchk ⊢
    by_cases h1 : op < 0
    · rw [if_pos (.inl h1)] at hchk
      subst hchk
      rw [if_neg (by decide)]
      clear e hh
      simp (disch := first | omega | (simp only [List.length_append, List.length_map, List.length_set, List.length_cons, List.length_nil, List.length_take, List.length_drop, rowsI_len]; omega)) only [va0, va1, va2, va3, va4, va5, va6, va7, va8, va9, va10, va11, va12, va13, va14, va15, vb0, vb1, vb2, vb3, w_i8, w_u8, w_i16, w_u16, w_i32, w_u32, w_i64, w_u64, lt_T, lt_F, le_T, le_F, nlt_T, nlt_F, nle_T, nle_F, List.take_of_length_le, gB, gcW, gcR, posIn, renA, renL, Chunk.ren, Chunk.refs, evOpD, touchD, stepC, isFresh, nFresh, freshOf, mkR, hole, evL, evH, opd, get, putD, ofVal, cellOf, loadE, behind, lenE, idxAddrE, idxE, addPtr, intE, strE, unE, convE, AV.int, AV.bool, AV.str, ivs, take, frameOf, firstRegion, refsA, refsL, one, cellsA, floatOk, apartT, List.map, if_true, if_false, E_P, E_glob0, E_glob1, reduceCtorEq, beq_self_eq_true, decide_true, decide_false, ↓reduceIte, Nat.reduceEqDiff, cond_true, cond_false, or_true, true_or, or_false, false_or, and_true, true_and, and_self, false_and, and_false, not_true, not_false_iff, Nat.reduceAdd, Nat.reduceSub, Nat.reduceMul, Nat.reduceLT, Nat.reduceLeDiff, Int.reduceToNat, Int.reduceLT, Int.reduceLE, Option.getD, Int.reduceMul, Int.reduceAdd, List.drop, List.take, Nat.reduceBEq, List.isEmpty, Int.reduceEq, Int.reduceNe, Int.reduceNeg, Int.reduceGT, Int.reduceGE, beq_true, beq_false, UInt8.reduceToNat, eqE, eq_self, foldE, maxE, minE, eq_T, eq_F, ndec, odec, adec, sdec, fillA, over, chop, List.replicate, leavesOk, leafOk, cellsEq, cellEq, E_ext, E_byref, en23, bs22, bs65, hrow, rowsI_len, h1, hN, hR, show ∀ B fr H, execT E B 23 (Code.loop _) fr H = rlG E B 23 (loopAt Tryd.f23 0) (gcn B (norm [0, 10, 11, 12] fr) H) from fun B fr H => rl_intro rfl mt23_4 mb23_4 zf23_4 hd23_4 fr H]
      exact ⟨_, _, _, rfl, .inr ⟨by decide, rfl, rfl⟩⟩
    · by_cases h2 : 21 ≤ op
      · rw [if_pos (.inr (by omega))] at hchk
        subst hchk
        rw [if_neg (by decide)]
        clear e hh
        simp (disch := first | omega | (simp only [List.length_append, List.length_map, List.length_set, List.length_cons, List.length_nil, List.length_take, List.length_drop, rowsI_len]; omega)) only [va0, va1, va2, va3, va4, va5, va6, va7, va8, va9, va10, va11, va12, va13, va14, va15, vb0, vb1, vb2, vb3, w_i8, w_u8, w_i16, w_u16, w_i32, w_u32, w_i64, w_u64, lt_T, lt_F, le_T, le_F, nlt_T, nlt_F, nle_T, nle_F, List.take_of_length_le, gB, gcW, gcR, posIn, renA, renL, Chunk.ren, Chunk.refs, evOpD, touchD, stepC, isFresh, nFresh, freshOf, mkR, hole, evL, evH, opd, get, putD, ofVal, cellOf, loadE, behind, lenE, idxAddrE, idxE, addPtr, intE, strE, unE, convE, AV.int, AV.bool, AV.str, ivs, take, frameOf, firstRegion, refsA, refsL, one, cellsA, floatOk, apartT, List.map, if_true, if_false, E_P, E_glob0, E_glob1, reduceCtorEq, beq_self_eq_true, decide_true, decide_false, ↓reduceIte, Nat.reduceEqDiff, cond_true, cond_false, or_true, true_or, or_false, false_or, and_true, true_and, and_self, false_and, and_false, not_true, not_false_iff, Nat.reduceAdd, Nat.reduceSub, Nat.reduceMul, Nat.reduceLT, Nat.reduceLeDiff, Int.reduceToNat, Int.reduceLT, Int.reduceLE, Option.getD, Int.reduceMul, Int.reduceAdd, List.drop, List.take, Nat.reduceBEq, List.isEmpty, Int.reduceEq, Int.reduceNe, Int.reduceNeg, Int.reduceGT, Int.reduceGE, beq_true, beq_false, UInt8.reduceToNat, eqE, eq_self, foldE, maxE, minE, eq_T, eq_F, ndec, odec, adec, sdec, fillA, over, chop, List.replicate, leavesOk, leafOk, cellsEq, cellEq, E_ext, E_byref, en23, bs22, bs65, hrow, rowsI_len, h1, h2, hN, hR, show ∀ B fr H, execT E B 23 (Code.loop _) fr H = rlG E B 23 (loopAt Tryd.f23 0) (gcn B (norm [0, 10, 11, 12] fr) H) from fun B fr H => rl_intro rfl mt23_4 mb23_4 zf23_4 hd23_4 fr H]
        exact ⟨_, _, _, rfl, .inr ⟨by decide, rfl, rfl⟩⟩
      · rw [if_neg (by omega)] at hchk
        by_cases h3 : arg < lo
        · rw [if_pos (.inl h3)] at hchk
          subst hchk
          rw [if_neg (by decide)]
          clear e hh
          simp (disch := first | omega | (simp only [List.length_append, List.length_map, List.length_set, List.length_cons, List.length_nil, List.length_take, List.length_drop, rowsI_len]; omega)) only [va0, va1, va2, va3, va4, va5, va6, va7, va8, va9, va10, va11, va12, va13, va14, va15, vb0, vb1, vb2, vb3, w_i8, w_u8, w_i16, w_u16, w_i32, w_u32, w_i64, w_u64, lt_T, lt_F, le_T, le_F, nlt_T, nlt_F, nle_T, nle_F, List.take_of_length_le, gB, gcW, gcR, posIn, renA, renL, Chunk.ren, Chunk.refs, evOpD, touchD, stepC, isFresh, nFresh, freshOf, mkR, hole, evL, evH, opd, get, putD, ofVal, cellOf, loadE, behind, lenE, idxAddrE, idxE, addPtr, intE, strE, unE, convE, AV.int, AV.bool, AV.str, ivs, take, frameOf, firstRegion, refsA, refsL, one, cellsA, floatOk, apartT, List.map, if_true, if_false, E_P, E_glob0, E_glob1, reduceCtorEq, beq_self_eq_true, decide_true, decide_false, ↓reduceIte, Nat.reduceEqDiff, cond_true, cond_false, or_true, true_or, or_false, false_or, and_true, true_and, and_self, false_and, and_false, not_true, not_false_iff, Nat.reduceAdd, Nat.reduceSub, Nat.reduceMul, Nat.reduceLT, Nat.reduceLeDiff, Int.reduceToNat, Int.reduceLT, Int.reduceLE, Option.getD, Int.reduceMul, Int.reduceAdd, List.drop, List.take, Nat.reduceBEq, List.isEmpty, Int.reduceEq, Int.reduceNe, Int.reduceNeg, Int.reduceGT, Int.reduceGE, beq_true, beq_false, UInt8.reduceToNat, eqE, eq_self, foldE, maxE, minE, eq_T, eq_F, ndec, odec, adec, sdec, fillA, over, chop, List.replicate, leavesOk, leafOk, cellsEq, cellEq, E_ext, E_byref, en23, bs22, bs65, hrow, rowsI_len, h1, h2, h3, hN, hR, hb, show ∀ B fr H, execT E B 23 (Code.loop _) fr H = rlG E B 23 (loopAt Tryd.f23 0) (gcn B (norm [0, 10, 11, 12] fr) H) from fun B fr H => rl_intro rfl mt23_4 mb23_4 zf23_4 hd23_4 fr H]
          exact ⟨_, _, _, rfl, .inr ⟨by decide, rfl, rfl⟩⟩
        · by_cases h4 : hi < arg
          · rw [if_pos (.inr h4)] at hchk
            subst hchk
            rw [if_neg (by decide)]
            clear e hh
            simp (disch := first | omega | (simp only [List.length_append, List.length_map, List.length_set, List.length_cons, List.length_nil, List.length_take, List.length_drop, rowsI_len]; omega)) only [va0, va1, va2, va3, va4, va5, va6, va7, va8, va9, va10, va11, va12, va13, va14, va15, vb0, vb1, vb2, vb3, w_i8, w_u8, w_i16, w_u16, w_i32, w_u32, w_i64, w_u64, lt_T, lt_F, le_T, le_F, nlt_T, nlt_F, nle_T, nle_F, List.take_of_length_le, gB, gcW, gcR, posIn, renA, renL, Chunk.ren, Chunk.refs, evOpD, touchD, stepC, isFresh, nFresh, freshOf, mkR, hole, evL, evH, opd, get, putD, ofVal, cellOf, loadE, behind, lenE, idxAddrE, idxE, addPtr, intE, strE, unE, convE, AV.int, AV.bool, AV.str, ivs, take, frameOf, firstRegion, refsA, refsL, one, cellsA, floatOk, apartT, List.map, if_true, if_false, E_P, E_glob0, E_glob1, reduceCtorEq, beq_self_eq_true, decide_true, decide_false, ↓reduceIte, Nat.reduceEqDiff, cond_true, cond_false, or_true, true_or, or_false, false_or, and_true, true_and, and_self, false_and, and_false, not_true, not_false_iff, Nat.reduceAdd, Nat.reduceSub, Nat.reduceMul, Nat.reduceLT, Nat.reduceLeDiff, Int.reduceToNat, Int.reduceLT, Int.reduceLE, Option.getD, Int.reduceMul, Int.reduceAdd, List.drop, List.take, Nat.reduceBEq, List.isEmpty, Int.reduceEq, Int.reduceNe, Int.reduceNeg, Int.reduceGT, Int.reduceGE, beq_true, beq_false, UInt8.reduceToNat, eqE, eq_self, foldE, maxE, minE, eq_T, eq_F, ndec, odec, adec, sdec, fillA, over, chop, List.replicate, leavesOk, leafOk, cellsEq, cellEq, E_ext, E_byref, en23, bs22, bs65, hrow, rowsI_len, h1, h2, h3, h4, hN, hR, hb, show ∀ B fr H, execT E B 23 (Code.loop _) fr H = rlG E B 23 (loopAt Tryd.f23 0) (gcn B (norm [0, 10, 11, 12] fr) H) from fun B fr H => rl_intro rfl mt23_4 mb23_4 zf23_4 hd23_4 fr H]
            exact ⟨_, _, _, rfl, .inr ⟨by decide, rfl, rfl⟩⟩
          · rw [if_neg (by omega)] at hchk
            subst hchk
            rw [if_pos rfl]
            refine ⟨fr, ex, H', Eq.trans ?_ e, hh⟩
            clear e hh
            simp (disch := first | omega | (simp only [List.length_append, List.length_map, List.length_set, List.length_cons, List.length_nil, List.length_take, List.length_drop, rowsI_len]; omega)) only [va0, va1, va2, va3, va4, va5, va6, va7, va8, va9, va10, va11, va12, va13, va14, va15, vb0, vb1, vb2, vb3, w_i8, w_u8, w_i16, w_u16, w_i32, w_u32, w_i64, w_u64, lt_T, lt_F, le_T, le_F, nlt_T, nlt_F, nle_T, nle_F, List.take_of_length_le, gB, gcW, gcR, posIn, renA, renL, Chunk.ren, Chunk.refs, evOpD, touchD, stepC, isFresh, nFresh, freshOf, mkR, hole, evL, evH, opd, get, putD, ofVal, cellOf, loadE, behind, lenE, idxAddrE, idxE, addPtr, intE, strE, unE, convE, AV.int, AV.bool, AV.str, ivs, take, frameOf, firstRegion, refsA, refsL, one, cellsA, floatOk, apartT, List.map, if_true, if_false, E_P, E_glob0, E_glob1, reduceCtorEq, beq_self_eq_true, decide_true, decide_false, ↓reduceIte, Nat.reduceEqDiff, cond_true, cond_false, or_true, true_or, or_false, false_or, and_true, true_and, and_self, false_and, and_false, not_true, not_false_iff, Nat.reduceAdd, Nat.reduceSub, Nat.reduceMul, Nat.reduceLT, Nat.reduceLeDiff, Int.reduceToNat, Int.reduceLT, Int.reduceLE, Option.getD, Int.reduceMul, Int.reduceAdd, List.drop, List.take, Nat.reduceBEq, List.isEmpty, Int.reduceEq, Int.reduceNe, Int.reduceNeg, Int.reduceGT, Int.reduceGE, beq_true, beq_false, UInt8.reduceToNat, eqE, eq_self, foldE, maxE, minE, eq_T, eq_F, ndec, odec, adec, sdec, fillA, over, chop, List.replicate, leavesOk, leafOk, cellsEq, cellEq, E_ext, E_byref, en23, bs22, bs65, hrow, rowsI_len, h1, h2, h3, h4, hN, hR, hb, show ∀ B fr H, execT E B 23 (Code.loop _) fr H = rlG E B 23 (loopAt Tryd.f23 0) (gcn B (norm [0, 10, 11, 12] fr) H) from fun B fr H => rl_intro rfl mt23_4 mb23_4 zf23_4 hd23_4 fr H]
  · obtain rfl : k = l.length := by omega
    rw [List.drop_length, chkL]
    simp (disch := first | omega | (simp only [List.length_append, List.length_map, List.length_set, List.length_cons, List.length_nil, List.length_take, List.length_drop, rowsI_len]; omega)) only [va0, va1, va2, va3, va4, va5, va6, va7, va8, va9, va10, va11, va12, va13, va14, va15, vb0, vb1, vb2, vb3, w_i8, w_u8, w_i16, w_u16, w_i32, w_u32, w_i64, w_u64, lt_T, lt_F, le_T, le_F, nlt_T, nlt_F, nle_T, nle_F, List.take_of_length_le, gB, gcW, gcR, posIn, renA, renL, Chunk.ren, Chunk.refs, evOpD, touchD, stepC, isFresh, nFresh, freshOf, mkR, hole, evL, evH, opd, get, putD, ofVal, cellOf, loadE, behind, lenE, idxAddrE, idxE, addPtr, intE, strE, unE, convE, AV.int, AV.bool, AV.str, ivs, take, frameOf, firstRegion, refsA, refsL, one, cellsA, floatOk, apartT, List.map, if_true, if_false, E_P, E_glob0, E_glob1, reduceCtorEq, beq_self_eq_true, decide_true, decide_false, ↓reduceIte, Nat.reduceEqDiff, cond_true, cond_false, or_true, true_or, or_false, false_or, and_true, true_and, and_self, false_and, and_false, not_true, not_false_iff, Nat.reduceAdd, Nat.reduceSub, Nat.reduceMul, Nat.reduceLT, Nat.reduceLeDiff, Int.reduceToNat, Int.reduceLT, Int.reduceLE, Option.getD, Int.reduceMul, Int.reduceAdd, List.drop, List.take, Nat.reduceBEq, List.isEmpty, Int.reduceEq, Int.reduceNe, Int.reduceNeg, Int.reduceGT, Int.reduceGE, beq_true, beq_false, UInt8.reduceToNat, eqE, eq_self, foldE, maxE, minE, eq_T, eq_F, ndec, odec, adec, sdec, fillA, over, chop, List.replicate, leavesOk, leafOk, cellsEq, cellEq, E_ext, E_byref, en23, bs22, bs65, rowsI_len, show ∀ B fr H, execT E B 23 (Code.loop _) fr H = rlG E B 23 (loopAt Tryd.f23 0) (gcn B (norm [0, 10, 11, 12] fr) H) from fun B fr H => rl_intro rfl mt23_4 mb23_4 zf23_4 hd23_4 fr H]
    exact ⟨_, _, _, rfl, .inl ⟨rfl, rfl⟩⟩
termination_by l.length - k
theorem c23 (l : List Ins) (hl : (l.length : Int) < 9223372036854775808) : ∃ L, callT E 23 [.i (.sl 2 (rowsI l) false)] [] = some (.i (.v (.int .i64 (checkI l))), L) := by
  unfold checkI
  by_cases h5 : 500 < (l.length : Int)
  · rw [if_pos h5]
    rw [callT_eq Tryd.func23 rfl fok23 (by simp [Tryd.ntmps23])]
    simp (disch := first | omega | (simp only [List.length_append, List.length_map, List.length_set, List.length_cons, List.length_nil, List.length_take, List.length_drop, rowsI_len]; omega)) only [va0, va1, va2, va3, va4, va5, va6, va7, va8, va9, va10, va11, va12, va13, va14, va15, vb0, vb1, vb2, vb3, w_i8, w_u8, w_i16, w_u16, w_i32, w_u32, w_i64, w_u64, lt_T, lt_F, le_T, le_F, nlt_T, nlt_F, nle_T, nle_F, List.take_of_length_le, gB, gcW, gcR, posIn, renA, renL, Chunk.ren, Chunk.refs, evOpD, touchD, stepC, isFresh, nFresh, freshOf, mkR, hole, evL, evH, opd, get, putD, ofVal, cellOf, loadE, behind, lenE, idxAddrE, idxE, addPtr, intE, strE, unE, convE, AV.int, AV.bool, AV.str, ivs, take, frameOf, firstRegion, refsA, refsL, one, cellsA, floatOk, apartT, List.map, if_true, if_false, E_P, E_glob0, E_glob1, reduceCtorEq, beq_self_eq_true, decide_true, decide_false, ↓reduceIte, Nat.reduceEqDiff, cond_true, cond_false, or_true, true_or, or_false, false_or, and_true, true_and, and_self, false_and, and_false, not_true, not_false_iff, Nat.reduceAdd, Nat.reduceSub, Nat.reduceMul, Nat.reduceLT, Nat.reduceLeDiff, Int.reduceToNat, Int.reduceLT, Int.reduceLE, Option.getD, Int.reduceMul, Int.reduceAdd, List.drop, List.take, Nat.reduceBEq, List.isEmpty, Int.reduceEq, Int.reduceNe, Int.reduceNeg, Int.reduceGT, Int.reduceGE, beq_true, beq_false, UInt8.reduceToNat, eqE, eq_self, foldE, maxE, minE, eq_T, eq_F, ndec, odec, adec, sdec, fillA, over, chop, List.replicate, leavesOk, leafOk, cellsEq, cellEq, E_ext, E_byref, en23, bs22, bs65, rowsI_len, h5]
    exact ⟨_, rfl⟩
  · rw [if_neg h5]
    obtain ⟨fr, ex, H', e, hh⟩ := l23 l (by omega) 0 (Nat.zero_le _)
    rw [List.drop_zero] at hh
    have e' : rl E 0 23 (loopAt Tryd.f23 0) [(0, .i (.sl 2 (rowsI l) false)), (10, .i (.sl 2 (rowsI l) false)), (11, .i (.v (.int .i64 l.length))), (12, .i (.v (.int .i64 0)))] [] = _ := e
    rcases hh with ⟨h1, rfl⟩ | ⟨h1, rfl, h2⟩
    · rw [h1]
      rw [callT_eq Tryd.func23 rfl fok23 (by simp [Tryd.ntmps23])]
      simp (disch := first | omega | (simp only [List.length_append, List.length_map, List.length_set, List.length_cons, List.length_nil, List.length_take, List.length_drop, rowsI_len]; omega)) only [va0, va1, va2, va3, va4, va5, va6, va7, va8, va9, va10, va11, va12, va13, va14, va15, vb0, vb1, vb2, vb3, w_i8, w_u8, w_i16, w_u16, w_i32, w_u32, w_i64, w_u64, lt_T, lt_F, le_T, le_F, nlt_T, nlt_F, nle_T, nle_F, List.take_of_length_le, gB, gcW, gcR, posIn, renA, renL, Chunk.ren, Chunk.refs, evOpD, touchD, stepC, isFresh, nFresh, freshOf, mkR, hole, evL, evH, opd, get, putD, ofVal, cellOf, loadE, behind, lenE, idxAddrE, idxE, addPtr, intE, strE, unE, convE, AV.int, AV.bool, AV.str, ivs, take, frameOf, firstRegion, refsA, refsL, one, cellsA, floatOk, apartT, List.map, if_true, if_false, E_P, E_glob0, E_glob1, reduceCtorEq, beq_self_eq_true, decide_true, decide_false, ↓reduceIte, Nat.reduceEqDiff, cond_true, cond_false, or_true, true_or, or_false, false_or, and_true, true_and, and_self, false_and, and_false, not_true, not_false_iff, Nat.reduceAdd, Nat.reduceSub, Nat.reduceMul, Nat.reduceLT, Nat.reduceLeDiff, Int.reduceToNat, Int.reduceLT, Int.reduceLE, Option.getD, Int.reduceMul, Int.reduceAdd, List.drop, List.take, Nat.reduceBEq, List.isEmpty, Int.reduceEq, Int.reduceNe, Int.reduceNeg, Int.reduceGT, Int.reduceGE, beq_true, beq_false, UInt8.reduceToNat, eqE, eq_self, foldE, maxE, minE, eq_T, eq_F, ndec, odec, adec, sdec, fillA, over, chop, List.replicate, leavesOk, leafOk, cellsEq, cellEq, E_ext, E_byref, en23, bs22, bs65, rowsI_len, h5, e', show ∀ B fr H, execT E B 23 (Code.loop _) fr H = rlG E B 23 (loopAt Tryd.f23 0) (gcn B (norm [0, 10, 11, 12] fr) H) from fun B fr H => rl_intro rfl mt23_4 mb23_4 zf23_4 hd23_4 fr H]
      exact ⟨_, rfl⟩
    · generalize chkL l.length 0 l = q at *
      rw [callT_eq Tryd.func23 rfl fok23 (by simp [Tryd.ntmps23])]
      simp (disch := first | omega | (simp only [List.length_append, List.length_map, List.length_set, List.length_cons, List.length_nil, List.length_take, List.length_drop, rowsI_len]; omega)) only [va0, va1, va2, va3, va4, va5, va6, va7, va8, va9, va10, va11, va12, va13, va14, va15, vb0, vb1, vb2, vb3, w_i8, w_u8, w_i16, w_u16, w_i32, w_u32, w_i64, w_u64, lt_T, lt_F, le_T, le_F, nlt_T, nlt_F, nle_T, nle_F, List.take_of_length_le, gB, gcW, gcR, posIn, renA, renL, Chunk.ren, Chunk.refs, evOpD, touchD, stepC, isFresh, nFresh, freshOf, mkR, hole, evL, evH, opd, get, putD, ofVal, cellOf, loadE, behind, lenE, idxAddrE, idxE, addPtr, intE, strE, unE, convE, AV.int, AV.bool, AV.str, ivs, take, frameOf, firstRegion, refsA, refsL, one, cellsA, floatOk, apartT, List.map, if_true, if_false, E_P, E_glob0, E_glob1, reduceCtorEq, beq_self_eq_true, decide_true, decide_false, ↓reduceIte, Nat.reduceEqDiff, cond_true, cond_false, or_true, true_or, or_false, false_or, and_true, true_and, and_self, false_and, and_false, not_true, not_false_iff, Nat.reduceAdd, Nat.reduceSub, Nat.reduceMul, Nat.reduceLT, Nat.reduceLeDiff, Int.reduceToNat, Int.reduceLT, Int.reduceLE, Option.getD, Int.reduceMul, Int.reduceAdd, List.drop, List.take, Nat.reduceBEq, List.isEmpty, Int.reduceEq, Int.reduceNe, Int.reduceNeg, Int.reduceGT, Int.reduceGE, beq_true, beq_false, UInt8.reduceToNat, eqE, eq_self, foldE, maxE, minE, eq_T, eq_F, ndec, odec, adec, sdec, fillA, over, chop, List.replicate, leavesOk, leafOk, cellsEq, cellEq, E_ext, E_byref, en23, bs22, bs65, rowsI_len, h5, e', h2, show ∀ B fr H, execT E B 23 (Code.loop _) fr H = rlG E B 23 (loopAt Tryd.f23 0) (gcn B (norm [0, 10, 11, 12] fr) H) from fun B fr H => rl_intro rfl mt23_4 mb23_4 zf23_4 hd23_4 fr H]
      exact ⟨_, rfl⟩
theorem ik23 (l : List Ins) (hl : (l.length : Int) < 9223372036854775808) (H : Hp) : isoK E (callT E) 23 [.i (.sl 2 (rowsI l) false)] H = some (.i (.v (.int .i64 (checkI l))), H) := isoK_val rfl rfl rfl (c23 l hl)
end Go.VI

namespace Go.VI
open Go.Proofs
set_option maxRecDepth 100000
set_option linter.unusedSimpArgs false
set_option linter.unusedVariables false
set_option maxHeartbeats 4000000
theorem c33 (op : Int) : ∃ L, callT E 33 [.i (.v (.int .i64 op))] [] = some (.i (.v (.bool (decide (op = 17) || decide (op = 18)))), L) := by
  by_cases h1 : op = 17
  · subst h1; rw [callT_eq Tryd.func33 rfl fok33 (by simp [Tryd.ntmps33])]; simp (disch := first | omega | (simp only [List.length_append, List.length_map, List.length_set, List.length_cons, List.length_nil, List.length_take, List.length_drop]; omega)) only [va0, va1, va2, va3, va4, va5, va6, va7, va8, va9, va10, va11, va12, va13, va14, va15, vb0, vb1, vb2, vb3, w_i8, w_u8, w_i16, w_u16, w_i32, w_u32, w_i64, w_u64, lt_T, lt_F, le_T, le_F, nlt_T, nlt_F, nle_T, nle_F, List.take_of_length_le, gB, gcW, gcR, posIn, renA, renL, Chunk.ren, Chunk.refs, evOpD, touchD, stepC, isFresh, nFresh, freshOf, mkR, hole, evL, evH, opd, get, putD, ofVal, cellOf, loadE, behind, lenE, idxAddrE, idxE, addPtr, intE, strE, unE, convE, AV.int, AV.bool, AV.str, ivs, take, frameOf, firstRegion, refsA, refsL, one, cellsA, floatOk, apartT, List.map, if_true, if_false, E_P, E_glob0, E_glob1, reduceCtorEq, beq_self_eq_true, decide_true, decide_false, ↓reduceIte, Nat.reduceEqDiff, cond_true, cond_false, or_true, true_or, or_false, false_or, and_true, true_and, and_self, false_and, and_false, not_true, not_false_iff, Nat.reduceAdd, Nat.reduceSub, Nat.reduceMul, Nat.reduceLT, Nat.reduceLeDiff, Int.reduceToNat, Int.reduceLT, Int.reduceLE, Option.getD, Int.reduceMul, Int.reduceAdd, List.drop, List.take, Nat.reduceBEq, List.isEmpty, Int.reduceEq, Int.reduceNe, Int.reduceNeg, Int.reduceGT, Int.reduceGE, beq_true, beq_false, UInt8.reduceToNat, eqE, eq_self, foldE, maxE, minE, eq_T, eq_F, ndec, odec, adec, sdec, fillA, over, chop, List.replicate, leavesOk, leafOk, cellsEq, cellEq, E_ext, E_byref, en33]; exact ⟨_, rfl⟩
  · by_cases h2 : op = 18
    · subst h2; rw [callT_eq Tryd.func33 rfl fok33 (by simp [Tryd.ntmps33])]; simp (disch := first | omega | (simp only [List.length_append, List.length_map, List.length_set, List.length_cons, List.length_nil, List.length_take, List.length_drop]; omega)) only [va0, va1, va2, va3, va4, va5, va6, va7, va8, va9, va10, va11, va12, va13, va14, va15, vb0, vb1, vb2, vb3, w_i8, w_u8, w_i16, w_u16, w_i32, w_u32, w_i64, w_u64, lt_T, lt_F, le_T, le_F, nlt_T, nlt_F, nle_T, nle_F, List.take_of_length_le, gB, gcW, gcR, posIn, renA, renL, Chunk.ren, Chunk.refs, evOpD, touchD, stepC, isFresh, nFresh, freshOf, mkR, hole, evL, evH, opd, get, putD, ofVal, cellOf, loadE, behind, lenE, idxAddrE, idxE, addPtr, intE, strE, unE, convE, AV.int, AV.bool, AV.str, ivs, take, frameOf, firstRegion, refsA, refsL, one, cellsA, floatOk, apartT, List.map, if_true, if_false, E_P, E_glob0, E_glob1, reduceCtorEq, beq_self_eq_true, decide_true, decide_false, ↓reduceIte, Nat.reduceEqDiff, cond_true, cond_false, or_true, true_or, or_false, false_or, and_true, true_and, and_self, false_and, and_false, not_true, not_false_iff, Nat.reduceAdd, Nat.reduceSub, Nat.reduceMul, Nat.reduceLT, Nat.reduceLeDiff, Int.reduceToNat, Int.reduceLT, Int.reduceLE, Option.getD, Int.reduceMul, Int.reduceAdd, List.drop, List.take, Nat.reduceBEq, List.isEmpty, Int.reduceEq, Int.reduceNe, Int.reduceNeg, Int.reduceGT, Int.reduceGE, beq_true, beq_false, UInt8.reduceToNat, eqE, eq_self, foldE, maxE, minE, eq_T, eq_F, ndec, odec, adec, sdec, fillA, over, chop, List.replicate, leavesOk, leafOk, cellsEq, cellEq, E_ext, E_byref, en33]; exact ⟨_, rfl⟩
    · simp only [h1, h2, decide_false, Bool.or_false]
      rw [callT_eq Tryd.func33 rfl fok33 (by simp [Tryd.ntmps33])]
      simp (disch := first | omega | (simp only [List.length_append, List.length_map, List.length_set, List.length_cons, List.length_nil, List.length_take, List.length_drop]; omega)) only [va0, va1, va2, va3, va4, va5, va6, va7, va8, va9, va10, va11, va12, va13, va14, va15, vb0, vb1, vb2, vb3, w_i8, w_u8, w_i16, w_u16, w_i32, w_u32, w_i64, w_u64, lt_T, lt_F, le_T, le_F, nlt_T, nlt_F, nle_T, nle_F, List.take_of_length_le, gB, gcW, gcR, posIn, renA, renL, Chunk.ren, Chunk.refs, evOpD, touchD, stepC, isFresh, nFresh, freshOf, mkR, hole, evL, evH, opd, get, putD, ofVal, cellOf, loadE, behind, lenE, idxAddrE, idxE, addPtr, intE, strE, unE, convE, AV.int, AV.bool, AV.str, ivs, take, frameOf, firstRegion, refsA, refsL, one, cellsA, floatOk, apartT, List.map, if_true, if_false, E_P, E_glob0, E_glob1, reduceCtorEq, beq_self_eq_true, decide_true, decide_false, ↓reduceIte, Nat.reduceEqDiff, cond_true, cond_false, or_true, true_or, or_false, false_or, and_true, true_and, and_self, false_and, and_false, not_true, not_false_iff, Nat.reduceAdd, Nat.reduceSub, Nat.reduceMul, Nat.reduceLT, Nat.reduceLeDiff, Int.reduceToNat, Int.reduceLT, Int.reduceLE, Option.getD, Int.reduceMul, Int.reduceAdd, List.drop, List.take, Nat.reduceBEq, List.isEmpty, Int.reduceEq, Int.reduceNe, Int.reduceNeg, Int.reduceGT, Int.reduceGE, beq_true, beq_false, UInt8.reduceToNat, eqE, eq_self, foldE, maxE, minE, eq_T, eq_F, ndec, odec, adec, sdec, fillA, over, chop, List.replicate, leavesOk, leafOk, cellsEq, cellEq, E_ext, E_byref, en33, h1, h2]
      exact ⟨_, rfl⟩
theorem ik33 (op : Int) (H : Hp) : isoK E (callT E) 33 [.i (.v (.int .i64 op))] H = some (.i (.v (.bool (decide (op = 17) || decide (op = 18)))), H) := isoK_val rfl rfl rfl (c33 op)
theorem l25 (l : List Ins) (hl : l.length ≤ 500) (k : Nat) (hk : k ≤ l.length) :
    ∃ fr ex H', rl E 0 25 (loopAt Tryd.f25 0) [(0, .i (.sl 2 (rowsI l) false)), (3, .i (.v (.int .i64 k)))] [] = some (ex, fr, H') ∧ chP (chkL l.length k (l.drop k)) fr ex := by
  rw [rl_step (fn := Tryd.f25) (k := 0) rfl]
  by_cases hlt : k < l.length
  · have hrow := rowsI_at hlt
    rw [List.drop_eq_getElem_cons hlt, chkL]
    obtain ⟨fr, ex, H', e, hh⟩ := l25 l hl (k + 1) hlt
    obtain ⟨op, arg, hp⟩ : ∃ op arg, l[k] = (op, arg) := ⟨_, _, rfl⟩
    rw [hp] at hrow ⊢
    simp only at hrow
    have hj := fun H => ik33 op H
    have hchk : chk1 l.length k (op, arg) = if op < 0 ∨ 20 < op then 9 else if arg < (boundsS op k l.length).1 ∨ (boundsS op k l.length).2 < arg then 2 else 0 := rfl
    generalize chk1 l.length k (op, arg) = ch at *
    by_cases h1 : op < 0
    · rw [if_pos (.inl h1)] at hchk
      subst hchk
      rw [if_neg (by decide)]
      clear e hh
      simp (disch := first | omega | (simp only [List.length_append, List.length_map, List.length_set, List.length_cons, List.length_nil, List.length_take, List.length_drop, rowsI_len]; omega)) only [va0, va1, va2, va3, va4, va5, va6, va7, va8, va9, va10, va11, va12, va13, va14, va15, vb0, vb1, vb2, vb3, w_i8, w_u8, w_i16, w_u16, w_i32, w_u32, w_i64, w_u64, lt_T, lt_F, le_T, le_F, nlt_T, nlt_F, nle_T, nle_F, List.take_of_length_le, gB, gcW, gcR, posIn, renA, renL, Chunk.ren, Chunk.refs, evOpD, touchD, stepC, isFresh, nFresh, freshOf, mkR, hole, evL, evH, opd, get, putD, ofVal, cellOf, loadE, behind, lenE, idxAddrE, idxE, addPtr, intE, strE, unE, convE, AV.int, AV.bool, AV.str, ivs, take, frameOf, firstRegion, refsA, refsL, one, cellsA, floatOk, apartT, List.map, if_true, if_false, E_P, E_glob0, E_glob1, reduceCtorEq, beq_self_eq_true, decide_true, decide_false, ↓reduceIte, Nat.reduceEqDiff, cond_true, cond_false, or_true, true_or, or_false, false_or, and_true, true_and, and_self, false_and, and_false, not_true, not_false_iff, Nat.reduceAdd, Nat.reduceSub, Nat.reduceMul, Nat.reduceLT, Nat.reduceLeDiff, Int.reduceToNat, Int.reduceLT, Int.reduceLE, Option.getD, Int.reduceMul, Int.reduceAdd, List.drop, List.take, Nat.reduceBEq, List.isEmpty, Int.reduceEq, Int.reduceNe, Int.reduceNeg, Int.reduceGT, Int.reduceGE, beq_true, beq_false, UInt8.reduceToNat, eqE, eq_self, foldE, maxE, minE, eq_T, eq_F, ndec, odec, adec, sdec, fillA, over, chop, List.replicate, leavesOk, leafOk, cellsEq, cellEq, E_ext, E_byref, en25, bs22, hrow, rowsI_len, h1, show ∀ B fr H, execT E B 25 (Code.loop _) fr H = rlG E B 25 (loopAt Tryd.f25 0) (gcn B (norm [0, 3] fr) H) from fun B fr H => rl_intro rfl mt25_4 mb25_4 zf25_4 hd25_4 fr H]
      exact ⟨_, _, _, rfl, .inr ⟨by decide, rfl, rfl⟩⟩
    · by_cases h2 : 20 < op
      · rw [if_pos (.inr (by omega))] at hchk
        subst hchk
        rw [if_neg (by decide)]
        clear e hh
        simp (disch := first | omega | (simp only [List.length_append, List.length_map, List.length_set, List.length_cons, List.length_nil, List.length_take, List.length_drop, rowsI_len]; omega)) only [va0, va1, va2, va3, va4, va5, va6, va7, va8, va9, va10, va11, va12, va13, va14, va15, vb0, vb1, vb2, vb3, w_i8, w_u8, w_i16, w_u16, w_i32, w_u32, w_i64, w_u64, lt_T, lt_F, le_T, le_F, nlt_T, nlt_F, nle_T, nle_F, List.take_of_length_le, gB, gcW, gcR, posIn, renA, renL, Chunk.ren, Chunk.refs, evOpD, touchD, stepC, isFresh, nFresh, freshOf, mkR, hole, evL, evH, opd, get, putD, ofVal, cellOf, loadE, behind, lenE, idxAddrE, idxE, addPtr, intE, strE, unE, convE, AV.int, AV.bool, AV.str, ivs, take, frameOf, firstRegion, refsA, refsL, one, cellsA, floatOk, apartT, List.map, if_true, if_false, E_P, E_glob0, E_glob1, reduceCtorEq, beq_self_eq_true, decide_true, decide_false, ↓reduceIte, Nat.reduceEqDiff, cond_true, cond_false, or_true, true_or, or_false, false_or, and_true, true_and, and_self, false_and, and_false, not_true, not_false_iff, Nat.reduceAdd, Nat.reduceSub, Nat.reduceMul, Nat.reduceLT, Nat.reduceLeDiff, Int.reduceToNat, Int.reduceLT, Int.reduceLE, Option.getD, Int.reduceMul, Int.reduceAdd, List.drop, List.take, Nat.reduceBEq, List.isEmpty, Int.reduceEq, Int.reduceNe, Int.reduceNeg, Int.reduceGT, Int.reduceGE, beq_true, beq_false, UInt8.reduceToNat, eqE, eq_self, foldE, maxE, minE, eq_T, eq_F, ndec, odec, adec, sdec, fillA, over, chop, List.replicate, leavesOk, leafOk, cellsEq, cellEq, E_ext, E_byref, en25, bs22, hrow, rowsI_len, h1, h2, show ∀ B fr H, execT E B 25 (Code.loop _) fr H = rlG E B 25 (loopAt Tryd.f25 0) (gcn B (norm [0, 3] fr) H) from fun B fr H => rl_intro rfl mt25_4 mb25_4 zf25_4 hd25_4 fr H]
        exact ⟨_, _, _, rfl, .inr ⟨by decide, rfl, rfl⟩⟩
      · rw [if_neg (by omega)] at hchk
        have key : ∀ lo hi, boundsS op k l.length = (lo, hi) → (op = 1 ∧ lo = -999999999 ∧ hi = 999999999 ∨ op = 17 ∧ lo = k + 1 ∧ hi = l.length ∨ op = 18 ∧ lo = k + 1 ∧ hi = l.length ∨ ¬ op = 1 ∧ ¬ op = 17 ∧ ¬ op = 18 ∧ lo = 0 ∧ hi = 0) := by
          intro lo hi hq
          unfold boundsS at hq
          split at hq
          · simp only [Prod.mk.injEq] at hq; omega
          · split at hq
            · simp only [Prod.mk.injEq] at hq; omega
            · simp only [Prod.mk.injEq] at hq; omega
        obtain ⟨lo, hi, hq⟩ : ∃ lo hi, boundsS op k l.length = (lo, hi) := ⟨_, _, rfl⟩
        have key := key lo hi hq
        rw [hq] at hchk
        simp only at hchk
        clear hq
        by_cases h3 : arg < lo
        · rw [if_pos (.inl h3)] at hchk
          subst hchk
          rw [if_neg (by decide)]
          clear e hh
          rcases key with ⟨rfl, rfl, rfl⟩ | ⟨rfl, rfl, rfl⟩ | ⟨rfl, rfl, rfl⟩ | ⟨g1, g2, g3, rfl, rfl⟩
          · simp only [Int.reduceEq, decide_false, Bool.or_false] at hj; simp (disch := first | omega | (simp only [List.length_append, List.length_map, List.length_set, List.length_cons, List.length_nil, List.length_take, List.length_drop, rowsI_len]; omega)) only [va0, va1, va2, va3, va4, va5, va6, va7, va8, va9, va10, va11, va12, va13, va14, va15, vb0, vb1, vb2, vb3, w_i8, w_u8, w_i16, w_u16, w_i32, w_u32, w_i64, w_u64, lt_T, lt_F, le_T, le_F, nlt_T, nlt_F, nle_T, nle_F, List.take_of_length_le, gB, gcW, gcR, posIn, renA, renL, Chunk.ren, Chunk.refs, evOpD, touchD, stepC, isFresh, nFresh, freshOf, mkR, hole, evL, evH, opd, get, putD, ofVal, cellOf, loadE, behind, lenE, idxAddrE, idxE, addPtr, intE, strE, unE, convE, AV.int, AV.bool, AV.str, ivs, take, frameOf, firstRegion, refsA, refsL, one, cellsA, floatOk, apartT, List.map, if_true, if_false, E_P, E_glob0, E_glob1, reduceCtorEq, beq_self_eq_true, decide_true, decide_false, ↓reduceIte, Nat.reduceEqDiff, cond_true, cond_false, or_true, true_or, or_false, false_or, and_true, true_and, and_self, false_and, and_false, not_true, not_false_iff, Nat.reduceAdd, Nat.reduceSub, Nat.reduceMul, Nat.reduceLT, Nat.reduceLeDiff, Int.reduceToNat, Int.reduceLT, Int.reduceLE, Option.getD, Int.reduceMul, Int.reduceAdd, List.drop, List.take, Nat.reduceBEq, List.isEmpty, Int.reduceEq, Int.reduceNe, Int.reduceNeg, Int.reduceGT, Int.reduceGE, beq_true, beq_false, UInt8.reduceToNat, eqE, eq_self, foldE, maxE, minE, eq_T, eq_F, ndec, odec, adec, sdec, fillA, over, chop, List.replicate, leavesOk, leafOk, cellsEq, cellEq, E_ext, E_byref, en25, bs22, hrow, rowsI_len, h1, h2, h3, hj, show ∀ B fr H, execT E B 25 (Code.loop _) fr H = rlG E B 25 (loopAt Tryd.f25 0) (gcn B (norm [0, 3] fr) H) from fun B fr H => rl_intro rfl mt25_4 mb25_4 zf25_4 hd25_4 fr H]; exact ⟨_, _, _, rfl, .inr ⟨by decide, rfl, rfl⟩⟩
          · simp only [Int.reduceEq, decide_true, decide_false, Bool.or_false] at hj; simp (disch := first | omega | (simp only [List.length_append, List.length_map, List.length_set, List.length_cons, List.length_nil, List.length_take, List.length_drop, rowsI_len]; omega)) only [va0, va1, va2, va3, va4, va5, va6, va7, va8, va9, va10, va11, va12, va13, va14, va15, vb0, vb1, vb2, vb3, w_i8, w_u8, w_i16, w_u16, w_i32, w_u32, w_i64, w_u64, lt_T, lt_F, le_T, le_F, nlt_T, nlt_F, nle_T, nle_F, List.take_of_length_le, gB, gcW, gcR, posIn, renA, renL, Chunk.ren, Chunk.refs, evOpD, touchD, stepC, isFresh, nFresh, freshOf, mkR, hole, evL, evH, opd, get, putD, ofVal, cellOf, loadE, behind, lenE, idxAddrE, idxE, addPtr, intE, strE, unE, convE, AV.int, AV.bool, AV.str, ivs, take, frameOf, firstRegion, refsA, refsL, one, cellsA, floatOk, apartT, List.map, if_true, if_false, E_P, E_glob0, E_glob1, reduceCtorEq, beq_self_eq_true, decide_true, decide_false, ↓reduceIte, Nat.reduceEqDiff, cond_true, cond_false, or_true, true_or, or_false, false_or, and_true, true_and, and_self, false_and, and_false, not_true, not_false_iff, Nat.reduceAdd, Nat.reduceSub, Nat.reduceMul, Nat.reduceLT, Nat.reduceLeDiff, Int.reduceToNat, Int.reduceLT, Int.reduceLE, Option.getD, Int.reduceMul, Int.reduceAdd, List.drop, List.take, Nat.reduceBEq, List.isEmpty, Int.reduceEq, Int.reduceNe, Int.reduceNeg, Int.reduceGT, Int.reduceGE, beq_true, beq_false, UInt8.reduceToNat, eqE, eq_self, foldE, maxE, minE, eq_T, eq_F, ndec, odec, adec, sdec, fillA, over, chop, List.replicate, leavesOk, leafOk, cellsEq, cellEq, E_ext, E_byref, en25, bs22, hrow, rowsI_len, h1, h2, h3, hj, show ∀ B fr H, execT E B 25 (Code.loop _) fr H = rlG E B 25 (loopAt Tryd.f25 0) (gcn B (norm [0, 3] fr) H) from fun B fr H => rl_intro rfl mt25_4 mb25_4 zf25_4 hd25_4 fr H]; exact ⟨_, _, _, rfl, .inr ⟨by decide, rfl, rfl⟩⟩
          · simp only [Int.reduceEq, decide_true, decide_false, Bool.false_or] at hj; simp (disch := first | omega | (simp only [List.length_append, List.length_map, List.length_set, List.length_cons, List.length_nil, List.length_take, List.length_drop, rowsI_len]; omega)) only [va0, va1, va2, va3, va4, va5, va6, va7, va8, va9, va10, va11, va12, va13, va14, va15, vb0, vb1, vb2, vb3, w_i8, w_u8, w_i16, w_u16, w_i32, w_u32, w_i64, w_u64, lt_T, lt_F, le_T, le_F, nlt_T, nlt_F, nle_T, nle_F, List.take_of_length_le, gB, gcW, gcR, posIn, renA, renL, Chunk.ren, Chunk.refs, evOpD, touchD, stepC, isFresh, nFresh, freshOf, mkR, hole, evL, evH, opd, get, putD, ofVal, cellOf, loadE, behind, lenE, idxAddrE, idxE, addPtr, intE, strE, unE, convE, AV.int, AV.bool, AV.str, ivs, take, frameOf, firstRegion, refsA, refsL, one, cellsA, floatOk, apartT, List.map, if_true, if_false, E_P, E_glob0, E_glob1, reduceCtorEq, beq_self_eq_true, decide_true, decide_false, ↓reduceIte, Nat.reduceEqDiff, cond_true, cond_false, or_true, true_or, or_false, false_or, and_true, true_and, and_self, false_and, and_false, not_true, not_false_iff, Nat.reduceAdd, Nat.reduceSub, Nat.reduceMul, Nat.reduceLT, Nat.reduceLeDiff, Int.reduceToNat, Int.reduceLT, Int.reduceLE, Option.getD, Int.reduceMul, Int.reduceAdd, List.drop, List.take, Nat.reduceBEq, List.isEmpty, Int.reduceEq, Int.reduceNe, Int.reduceNeg, Int.reduceGT, Int.reduceGE, beq_true, beq_false, UInt8.reduceToNat, eqE, eq_self, foldE, maxE, minE, eq_T, eq_F, ndec, odec, adec, sdec, fillA, over, chop, List.replicate, leavesOk, leafOk, cellsEq, cellEq, E_ext, E_byref, en25, bs22, hrow, rowsI_len, h1, h2, h3, hj, show ∀ B fr H, execT E B 25 (Code.loop _) fr H = rlG E B 25 (loopAt Tryd.f25 0) (gcn B (norm [0, 3] fr) H) from fun B fr H => rl_intro rfl mt25_4 mb25_4 zf25_4 hd25_4 fr H]; exact ⟨_, _, _, rfl, .inr ⟨by decide, rfl, rfl⟩⟩
          · simp only [g2, g3, decide_false, Bool.or_false] at hj; simp (disch := first | omega | (simp only [List.length_append, List.length_map, List.length_set, List.length_cons, List.length_nil, List.length_take, List.length_drop, rowsI_len]; omega)) only [va0, va1, va2, va3, va4, va5, va6, va7, va8, va9, va10, va11, va12, va13, va14, va15, vb0, vb1, vb2, vb3, w_i8, w_u8, w_i16, w_u16, w_i32, w_u32, w_i64, w_u64, lt_T, lt_F, le_T, le_F, nlt_T, nlt_F, nle_T, nle_F, List.take_of_length_le, gB, gcW, gcR, posIn, renA, renL, Chunk.ren, Chunk.refs, evOpD, touchD, stepC, isFresh, nFresh, freshOf, mkR, hole, evL, evH, opd, get, putD, ofVal, cellOf, loadE, behind, lenE, idxAddrE, idxE, addPtr, intE, strE, unE, convE, AV.int, AV.bool, AV.str, ivs, take, frameOf, firstRegion, refsA, refsL, one, cellsA, floatOk, apartT, List.map, if_true, if_false, E_P, E_glob0, E_glob1, reduceCtorEq, beq_self_eq_true, decide_true, decide_false, ↓reduceIte, Nat.reduceEqDiff, cond_true, cond_false, or_true, true_or, or_false, false_or, and_true, true_and, and_self, false_and, and_false, not_true, not_false_iff, Nat.reduceAdd, Nat.reduceSub, Nat.reduceMul, Nat.reduceLT, Nat.reduceLeDiff, Int.reduceToNat, Int.reduceLT, Int.reduceLE, Option.getD, Int.reduceMul, Int.reduceAdd, List.drop, List.take, Nat.reduceBEq, List.isEmpty, Int.reduceEq, Int.reduceNe, Int.reduceNeg, Int.reduceGT, Int.reduceGE, beq_true, beq_false, UInt8.reduceToNat, eqE, eq_self, foldE, maxE, minE, eq_T, eq_F, ndec, odec, adec, sdec, fillA, over, chop, List.replicate, leavesOk, leafOk, cellsEq, cellEq, E_ext, E_byref, en25, bs22, hrow, rowsI_len, h1, h2, h3, hj, g1, show ∀ B fr H, execT E B 25 (Code.loop _) fr H = rlG E B 25 (loopAt Tryd.f25 0) (gcn B (norm [0, 3] fr) H) from fun B fr H => rl_intro rfl mt25_4 mb25_4 zf25_4 hd25_4 fr H]; exact ⟨_, _, _, rfl, .inr ⟨by decide, rfl, rfl⟩⟩
        · by_cases h4 : hi < arg
          · rw [if_pos (.inr h4)] at hchk
            subst hchk
            rw [if_neg (by decide)]
            clear e hh
            rcases key with ⟨rfl, rfl, rfl⟩ | ⟨rfl, rfl, rfl⟩ | ⟨rfl, rfl, rfl⟩ | ⟨g1, g2, g3, rfl, rfl⟩
            · simp only [Int.reduceEq, decide_false, Bool.or_false] at hj; simp (disch := first | omega | (simp only [List.length_append, List.length_map, List.length_set, List.length_cons, List.length_nil, List.length_take, List.length_drop, rowsI_len]; omega)) only [va0, va1, va2, va3, va4, va5, va6, va7, va8, va9, va10, va11, va12, va13, va14, va15, vb0, vb1, vb2, vb3, w_i8, w_u8, w_i16, w_u16, w_i32, w_u32, w_i64, w_u64, lt_T, lt_F, le_T, le_F, nlt_T, nlt_F, nle_T, nle_F, List.take_of_length_le, gB, gcW, gcR, posIn, renA, renL, Chunk.ren, Chunk.refs, evOpD, touchD, stepC, isFresh, nFresh, freshOf, mkR, hole, evL, evH, opd, get, putD, ofVal, cellOf, loadE, behind, lenE, idxAddrE, idxE, addPtr, intE, strE, unE, convE, AV.int, AV.bool, AV.str, ivs, take, frameOf, firstRegion, refsA, refsL, one, cellsA, floatOk, apartT, List.map, if_true, if_false, E_P, E_glob0, E_glob1, reduceCtorEq, beq_self_eq_true, decide_true, decide_false, ↓reduceIte, Nat.reduceEqDiff, cond_true, cond_false, or_true, true_or, or_false, false_or, and_true, true_and, and_self, false_and, and_false, not_true, not_false_iff, Nat.reduceAdd, Nat.reduceSub, Nat.reduceMul, Nat.reduceLT, Nat.reduceLeDiff, Int.reduceToNat, Int.reduceLT, Int.reduceLE, Option.getD, Int.reduceMul, Int.reduceAdd, List.drop, List.take, Nat.reduceBEq, List.isEmpty, Int.reduceEq, Int.reduceNe, Int.reduceNeg, Int.reduceGT, Int.reduceGE, beq_true, beq_false, UInt8.reduceToNat, eqE, eq_self, foldE, maxE, minE, eq_T, eq_F, ndec, odec, adec, sdec, fillA, over, chop, List.replicate, leavesOk, leafOk, cellsEq, cellEq, E_ext, E_byref, en25, bs22, hrow, rowsI_len, h1, h2, h3, h4, hj, show ∀ B fr H, execT E B 25 (Code.loop _) fr H = rlG E B 25 (loopAt Tryd.f25 0) (gcn B (norm [0, 3] fr) H) from fun B fr H => rl_intro rfl mt25_4 mb25_4 zf25_4 hd25_4 fr H]; exact ⟨_, _, _, rfl, .inr ⟨by decide, rfl, rfl⟩⟩
            · simp only [Int.reduceEq, decide_true, decide_false, Bool.or_false] at hj; simp (disch := first | omega | (simp only [List.length_append, List.length_map, List.length_set, List.length_cons, List.length_nil, List.length_take, List.length_drop, rowsI_len]; omega)) only [va0, va1, va2, va3, va4, va5, va6, va7, va8, va9, va10, va11, va12, va13, va14, va15, vb0, vb1, vb2, vb3, w_i8, w_u8, w_i16, w_u16, w_i32, w_u32, w_i64, w_u64, lt_T, lt_F, le_T, le_F, nlt_T, nlt_F, nle_T, nle_F, List.take_of_length_le, gB, gcW, gcR, posIn, renA, renL, Chunk.ren, Chunk.refs, evOpD, touchD, stepC, isFresh, nFresh, freshOf, mkR, hole, evL, evH, opd, get, putD, ofVal, cellOf, loadE, behind, lenE, idxAddrE, idxE, addPtr, intE, strE, unE, convE, AV.int, AV.bool, AV.str, ivs, take, frameOf, firstRegion, refsA, refsL, one, cellsA, floatOk, apartT, List.map, if_true, if_false, E_P, E_glob0, E_glob1, reduceCtorEq, beq_self_eq_true, decide_true, decide_false, ↓reduceIte, Nat.reduceEqDiff, cond_true, cond_false, or_true, true_or, or_false, false_or, and_true, true_and, and_self, false_and, and_false, not_true, not_false_iff, Nat.reduceAdd, Nat.reduceSub, Nat.reduceMul, Nat.reduceLT, Nat.reduceLeDiff, Int.reduceToNat, Int.reduceLT, Int.reduceLE, Option.getD, Int.reduceMul, Int.reduceAdd, List.drop, List.take, Nat.reduceBEq, List.isEmpty, Int.reduceEq, Int.reduceNe, Int.reduceNeg, Int.reduceGT, Int.reduceGE, beq_true, beq_false, UInt8.reduceToNat, eqE, eq_self, foldE, maxE, minE, eq_T, eq_F, ndec, odec, adec, sdec, fillA, over, chop, List.replicate, leavesOk, leafOk, cellsEq, cellEq, E_ext, E_byref, en25, bs22, hrow, rowsI_len, h1, h2, h3, h4, hj, show ∀ B fr H, execT E B 25 (Code.loop _) fr H = rlG E B 25 (loopAt Tryd.f25 0) (gcn B (norm [0, 3] fr) H) from fun B fr H => rl_intro rfl mt25_4 mb25_4 zf25_4 hd25_4 fr H]; exact ⟨_, _, _, rfl, .inr ⟨by decide, rfl, rfl⟩⟩
            · simp only [Int.reduceEq, decide_true, decide_false, Bool.false_or] at hj; simp (disch := first | omega | (simp only [List.length_append, List.length_map, List.length_set, List.length_cons, List.length_nil, List.length_take, List.length_drop, rowsI_len]; omega)) only [va0, va1, va2, va3, va4, va5, va6, va7, va8, va9, va10, va11, va12, va13, va14, va15, vb0, vb1, vb2, vb3, w_i8, w_u8, w_i16, w_u16, w_i32, w_u32, w_i64, w_u64, lt_T, lt_F, le_T, le_F, nlt_T, nlt_F, nle_T, nle_F, List.take_of_length_le, gB, gcW, gcR, posIn, renA, renL, Chunk.ren, Chunk.refs, evOpD, touchD, stepC, isFresh, nFresh, freshOf, mkR, hole, evL, evH, opd, get, putD, ofVal, cellOf, loadE, behind, lenE, idxAddrE, idxE, addPtr, intE, strE, unE, convE, AV.int, AV.bool, AV.str, ivs, take, frameOf, firstRegion, refsA, refsL, one, cellsA, floatOk, apartT, List.map, if_true, if_false, E_P, E_glob0, E_glob1, reduceCtorEq, beq_self_eq_true, decide_true, decide_false, ↓reduceIte, Nat.reduceEqDiff, cond_true, cond_false, or_true, true_or, or_false, false_or, and_true, true_and, and_self, false_and, and_false, not_true, not_false_iff, Nat.reduceAdd, Nat.reduceSub, Nat.reduceMul, Nat.reduceLT, Nat.reduceLeDiff, Int.reduceToNat, Int.reduceLT, Int.reduceLE, Option.getD, Int.reduceMul, Int.reduceAdd, List.drop, List.take, Nat.reduceBEq, List.isEmpty, Int.reduceEq, Int.reduceNe, Int.reduceNeg, Int.reduceGT, Int.reduceGE, beq_true, beq_false, UInt8.reduceToNat, eqE, eq_self, foldE, maxE, minE, eq_T, eq_F, ndec, odec, adec, sdec, fillA, over, chop, List.replicate, leavesOk, leafOk, cellsEq, cellEq, E_ext, E_byref, en25, bs22, hrow, rowsI_len, h1, h2, h3, h4, hj, show ∀ B fr H, execT E B 25 (Code.loop _) fr H = rlG E B 25 (loopAt Tryd.f25 0) (gcn B (norm [0, 3] fr) H) from fun B fr H => rl_intro rfl mt25_4 mb25_4 zf25_4 hd25_4 fr H]; exact ⟨_, _, _, rfl, .inr ⟨by decide, rfl, rfl⟩⟩
            · simp only [g2, g3, decide_false, Bool.or_false] at hj; simp (disch := first | omega | (simp only [List.length_append, List.length_map, List.length_set, List.length_cons, List.length_nil, List.length_take, List.length_drop, rowsI_len]; omega)) only [va0, va1, va2, va3, va4, va5, va6, va7, va8, va9, va10, va11, va12, va13, va14, va15, vb0, vb1, vb2, vb3, w_i8, w_u8, w_i16, w_u16, w_i32, w_u32, w_i64, w_u64, lt_T, lt_F, le_T, le_F, nlt_T, nlt_F, nle_T, nle_F, List.take_of_length_le, gB, gcW, gcR, posIn, renA, renL, Chunk.ren, Chunk.refs, evOpD, touchD, stepC, isFresh, nFresh, freshOf, mkR, hole, evL, evH, opd, get, putD, ofVal, cellOf, loadE, behind, lenE, idxAddrE, idxE, addPtr, intE, strE, unE, convE, AV.int, AV.bool, AV.str, ivs, take, frameOf, firstRegion, refsA, refsL, one, cellsA, floatOk, apartT, List.map, if_true, if_false, E_P, E_glob0, E_glob1, reduceCtorEq, beq_self_eq_true, decide_true, decide_false, ↓reduceIte, Nat.reduceEqDiff, cond_true, cond_false, or_true, true_or, or_false, false_or, and_true, true_and, and_self, false_and, and_false, not_true, not_false_iff, Nat.reduceAdd, Nat.reduceSub, Nat.reduceMul, Nat.reduceLT, Nat.reduceLeDiff, Int.reduceToNat, Int.reduceLT, Int.reduceLE, Option.getD, Int.reduceMul, Int.reduceAdd, List.drop, List.take, Nat.reduceBEq, List.isEmpty, Int.reduceEq, Int.reduceNe, Int.reduceNeg, Int.reduceGT, Int.reduceGE, beq_true, beq_false, UInt8.reduceToNat, eqE, eq_self, foldE, maxE, minE, eq_T, eq_F, ndec, odec, adec, sdec, fillA, over, chop, List.replicate, leavesOk, leafOk, cellsEq, cellEq, E_ext, E_byref, en25, bs22, hrow, rowsI_len, h1, h2, h3, h4, hj, g1, show ∀ B fr H, execT E B 25 (Code.loop _) fr H = rlG E B 25 (loopAt Tryd.f25 0) (gcn B (norm [0, 3] fr) H) from fun B fr H => rl_intro rfl mt25_4 mb25_4 zf25_4 hd25_4 fr H]; exact ⟨_, _, _, rfl, .inr ⟨by decide, rfl, rfl⟩⟩
          · rw [if_neg (by omega)] at hchk
            subst hchk
            rw [if_pos rfl]
            refine ⟨fr, ex, H', Eq.trans ?_ e, hh⟩
            clear e hh
            rcases key with ⟨rfl, rfl, rfl⟩ | ⟨rfl, rfl, rfl⟩ | ⟨rfl, rfl, rfl⟩ | ⟨g1, g2, g3, rfl, rfl⟩
            · simp only [Int.reduceEq, decide_false, Bool.or_false] at hj; simp (disch := first | omega | (simp only [List.length_append, List.length_map, List.length_set, List.length_cons, List.length_nil, List.length_take, List.length_drop, rowsI_len]; omega)) only [va0, va1, va2, va3, va4, va5, va6, va7, va8, va9, va10, va11, va12, va13, va14, va15, vb0, vb1, vb2, vb3, w_i8, w_u8, w_i16, w_u16, w_i32, w_u32, w_i64, w_u64, lt_T, lt_F, le_T, le_F, nlt_T, nlt_F, nle_T, nle_F, List.take_of_length_le, gB, gcW, gcR, posIn, renA, renL, Chunk.ren, Chunk.refs, evOpD, touchD, stepC, isFresh, nFresh, freshOf, mkR, hole, evL, evH, opd, get, putD, ofVal, cellOf, loadE, behind, lenE, idxAddrE, idxE, addPtr, intE, strE, unE, convE, AV.int, AV.bool, AV.str, ivs, take, frameOf, firstRegion, refsA, refsL, one, cellsA, floatOk, apartT, List.map, if_true, if_false, E_P, E_glob0, E_glob1, reduceCtorEq, beq_self_eq_true, decide_true, decide_false, ↓reduceIte, Nat.reduceEqDiff, cond_true, cond_false, or_true, true_or, or_false, false_or, and_true, true_and, and_self, false_and, and_false, not_true, not_false_iff, Nat.reduceAdd, Nat.reduceSub, Nat.reduceMul, Nat.reduceLT, Nat.reduceLeDiff, Int.reduceToNat, Int.reduceLT, Int.reduceLE, Option.getD, Int.reduceMul, Int.reduceAdd, List.drop, List.take, Nat.reduceBEq, List.isEmpty, Int.reduceEq, Int.reduceNe, Int.reduceNeg, Int.reduceGT, Int.reduceGE, beq_true, beq_false, UInt8.reduceToNat, eqE, eq_self, foldE, maxE, minE, eq_T, eq_F, ndec, odec, adec, sdec, fillA, over, chop, List.replicate, leavesOk, leafOk, cellsEq, cellEq, E_ext, E_byref, en25, bs22, hrow, rowsI_len, h1, h2, h3, h4, hj, show ∀ B fr H, execT E B 25 (Code.loop _) fr H = rlG E B 25 (loopAt Tryd.f25 0) (gcn B (norm [0, 3] fr) H) from fun B fr H => rl_intro rfl mt25_4 mb25_4 zf25_4 hd25_4 fr H]
            · simp only [Int.reduceEq, decide_true, decide_false, Bool.or_false] at hj; simp (disch := first | omega | (simp only [List.length_append, List.length_map, List.length_set, List.length_cons, List.length_nil, List.length_take, List.length_drop, rowsI_len]; omega)) only [va0, va1, va2, va3, va4, va5, va6, va7, va8, va9, va10, va11, va12, va13, va14, va15, vb0, vb1, vb2, vb3, w_i8, w_u8, w_i16, w_u16, w_i32, w_u32, w_i64, w_u64, lt_T, lt_F, le_T, le_F, nlt_T, nlt_F, nle_T, nle_F, List.take_of_length_le, gB, gcW, gcR, posIn, renA, renL, Chunk.ren, Chunk.refs, evOpD, touchD, stepC, isFresh, nFresh, freshOf, mkR, hole, evL, evH, opd, get, putD, ofVal, cellOf, loadE, behind, lenE, idxAddrE, idxE, addPtr, intE, strE, unE, convE, AV.int, AV.bool, AV.str, ivs, take, frameOf, firstRegion, refsA, refsL, one, cellsA, floatOk, apartT, List.map, if_true, if_false, E_P, E_glob0, E_glob1, reduceCtorEq, beq_self_eq_true, decide_true, decide_false, ↓reduceIte, Nat.reduceEqDiff, cond_true, cond_false, or_true, true_or, or_false, false_or, and_true, true_and, and_self, false_and, and_false, not_true, not_false_iff, Nat.reduceAdd, Nat.reduceSub, Nat.reduceMul, Nat.reduceLT, Nat.reduceLeDiff, Int.reduceToNat, Int.reduceLT, Int.reduceLE, Option.getD, Int.reduceMul, Int.reduceAdd, List.drop, List.take, Nat.reduceBEq, List.isEmpty, Int.reduceEq, Int.reduceNe, Int.reduceNeg, Int.reduceGT, Int.reduceGE, beq_true, beq_false, UInt8.reduceToNat, eqE, eq_self, foldE, maxE, minE, eq_T, eq_F, ndec, odec, adec, sdec, fillA, over, chop, List.replicate, leavesOk, leafOk, cellsEq, cellEq, E_ext, E_byref, en25, bs22, hrow, rowsI_len, h1, h2, h3, h4, hj, show ∀ B fr H, execT E B 25 (Code.loop _) fr H = rlG E B 25 (loopAt Tryd.f25 0) (gcn B (norm [0, 3] fr) H) from fun B fr H => rl_intro rfl mt25_4 mb25_4 zf25_4 hd25_4 fr H]
            · simp only [Int.reduceEq, decide_true, decide_false, Bool.false_or] at hj; simp (disch := first | omega | (simp only [List.length_append, List.length_map, List.length_set, List.length_cons, List.length_nil, List.length_take, List.length_drop, rowsI_len]; omega)) only [va0, va1, va2, va3, va4, va5, va6, va7, va8, va9, va10, va11, va12, va13, va14, va15, vb0, vb1, vb2, vb3, w_i8, w_u8, w_i16, w_u16, w_i32, w_u32, w_i64, w_u64, lt_T, lt_F, le_T, le_F, nlt_T, nlt_F, nle_T, nle_F, List.take_of_length_le, gB, gcW, gcR, posIn, renA, renL, Chunk.ren, Chunk.refs, evOpD, touchD, stepC, isFresh, nFresh, freshOf, mkR, hole, evL, evH, opd, get, putD, ofVal, cellOf, loadE, behind, lenE, idxAddrE, idxE, addPtr, intE, strE, unE, convE, AV.int, AV.bool, AV.str, ivs, take, frameOf, firstRegion, refsA, refsL, one, cellsA, floatOk, apartT, List.map, if_true, if_false, E_P, E_glob0, E_glob1, reduceCtorEq, beq_self_eq_true, decide_true, decide_false, ↓reduceIte, Nat.reduceEqDiff, cond_true, cond_false, or_true, true_or, or_false, false_or, and_true, true_and, and_self, false_and, and_false, not_true, not_false_iff, Nat.reduceAdd, Nat.reduceSub, Nat.reduceMul, Nat.reduceLT, Nat.reduceLeDiff, Int.reduceToNat, Int.reduceLT, Int.reduceLE, Option.getD, Int.reduceMul, Int.reduceAdd, List.drop, List.take, Nat.reduceBEq, List.isEmpty, Int.reduceEq, Int.reduceNe, Int.reduceNeg, Int.reduceGT, Int.reduceGE, beq_true, beq_false, UInt8.reduceToNat, eqE, eq_self, foldE, maxE, minE, eq_T, eq_F, ndec, odec, adec, sdec, fillA, over, chop, List.replicate, leavesOk, leafOk, cellsEq, cellEq, E_ext, E_byref, en25, bs22, hrow, rowsI_len, h1, h2, h3, h4, hj, show ∀ B fr H, execT E B 25 (Code.loop _) fr H = rlG E B 25 (loopAt Tryd.f25 0) (gcn B (norm [0, 3] fr) H) from fun B fr H => rl_intro rfl mt25_4 mb25_4 zf25_4 hd25_4 fr H]
            · simp only [g2, g3, decide_false, Bool.or_false] at hj; simp (disch := first | omega | (simp only [List.length_append, List.length_map, List.length_set, List.length_cons, List.length_nil, List.length_take, List.length_drop, rowsI_len]; omega)) only [va0, va1, va2, va3, va4, va5, va6, va7, va8, va9, va10, va11, va12, va13, va14, va15, vb0, vb1, vb2, vb3, w_i8, w_u8, w_i16, w_u16, w_i32, w_u32, w_i64, w_u64, lt_T, lt_F, le_T, le_F, nlt_T, nlt_F, nle_T, nle_F, List.take_of_length_le, gB, gcW, gcR, posIn, renA, renL, Chunk.ren, Chunk.refs, evOpD, touchD, stepC, isFresh, nFresh, freshOf, mkR, hole, evL, evH, opd, get, putD, ofVal, cellOf, loadE, behind, lenE, idxAddrE, idxE, addPtr, intE, strE, unE, convE, AV.int, AV.bool, AV.str, ivs, take, frameOf, firstRegion, refsA, refsL, one, cellsA, floatOk, apartT, List.map, if_true, if_false, E_P, E_glob0, E_glob1, reduceCtorEq, beq_self_eq_true, decide_true, decide_false, ↓reduceIte, Nat.reduceEqDiff, cond_true, cond_false, or_true, true_or, or_false, false_or, and_true, true_and, and_self, false_and, and_false, not_true, not_false_iff, Nat.reduceAdd, Nat.reduceSub, Nat.reduceMul, Nat.reduceLT, Nat.reduceLeDiff, Int.reduceToNat, Int.reduceLT, Int.reduceLE, Option.getD, Int.reduceMul, Int.reduceAdd, List.drop, List.take, Nat.reduceBEq, List.isEmpty, Int.reduceEq, Int.reduceNe, Int.reduceNeg, Int.reduceGT, Int.reduceGE, beq_true, beq_false, UInt8.reduceToNat, eqE, eq_self, foldE, maxE, minE, eq_T, eq_F, ndec, odec, adec, sdec, fillA, over, chop, List.replicate, leavesOk, leafOk, cellsEq, cellEq, E_ext, E_byref, en25, bs22, hrow, rowsI_len, h1, h2, h3, h4, hj, g1, show ∀ B fr H, execT E B 25 (Code.loop _) fr H = rlG E B 25 (loopAt Tryd.f25 0) (gcn B (norm [0, 3] fr) H) from fun B fr H => rl_intro rfl mt25_4 mb25_4 zf25_4 hd25_4 fr H]
  · obtain rfl : k = l.length := by omega
    rw [List.drop_length, chkL]
    simp (disch := first | omega | (simp only [List.length_append, List.length_map, List.length_set, List.length_cons, List.length_nil, List.length_take, List.length_drop, rowsI_len]; omega)) only [va0, va1, va2, va3, va4, va5, va6, va7, va8, va9, va10, va11, va12, va13, va14, va15, vb0, vb1, vb2, vb3, w_i8, w_u8, w_i16, w_u16, w_i32, w_u32, w_i64, w_u64, lt_T, lt_F, le_T, le_F, nlt_T, nlt_F, nle_T, nle_F, List.take_of_length_le, gB, gcW, gcR, posIn, renA, renL, Chunk.ren, Chunk.refs, evOpD, touchD, stepC, isFresh, nFresh, freshOf, mkR, hole, evL, evH, opd, get, putD, ofVal, cellOf, loadE, behind, lenE, idxAddrE, idxE, addPtr, intE, strE, unE, convE, AV.int, AV.bool, AV.str, ivs, take, frameOf, firstRegion, refsA, refsL, one, cellsA, floatOk, apartT, List.map, if_true, if_false, E_P, E_glob0, E_glob1, reduceCtorEq, beq_self_eq_true, decide_true, decide_false, ↓reduceIte, Nat.reduceEqDiff, cond_true, cond_false, or_true, true_or, or_false, false_or, and_true, true_and, and_self, false_and, and_false, not_true, not_false_iff, Nat.reduceAdd, Nat.reduceSub, Nat.reduceMul, Nat.reduceLT, Nat.reduceLeDiff, Int.reduceToNat, Int.reduceLT, Int.reduceLE, Option.getD, Int.reduceMul, Int.reduceAdd, List.drop, List.take, Nat.reduceBEq, List.isEmpty, Int.reduceEq, Int.reduceNe, Int.reduceNeg, Int.reduceGT, Int.reduceGE, beq_true, beq_false, UInt8.reduceToNat, eqE, eq_self, foldE, maxE, minE, eq_T, eq_F, ndec, odec, adec, sdec, fillA, over, chop, List.replicate, leavesOk, leafOk, cellsEq, cellEq, E_ext, E_byref, en25, bs22, rowsI_len, show ∀ B fr H, execT E B 25 (Code.loop _) fr H = rlG E B 25 (loopAt Tryd.f25 0) (gcn B (norm [0, 3] fr) H) from fun B fr H => rl_intro rfl mt25_4 mb25_4 zf25_4 hd25_4 fr H]
    exact ⟨_, _, _, rfl, .inl ⟨rfl, rfl⟩⟩
termination_by l.length - k
theorem c25 (l : List Ins) (hl : (l.length : Int) < 9223372036854775808) : ∃ L, callT E 25 [.i (.sl 2 (rowsI l) false)] [] = some (.i (.v (.int .i64 (checkI l))), L) := by
  unfold checkI
  by_cases h5 : 500 < (l.length : Int)
  · rw [if_pos h5]
    rw [callT_eq Tryd.func25 rfl fok25 (by simp [Tryd.ntmps25])]
    simp (disch := first | omega | (simp only [List.length_append, List.length_map, List.length_set, List.length_cons, List.length_nil, List.length_take, List.length_drop, rowsI_len]; omega)) only [va0, va1, va2, va3, va4, va5, va6, va7, va8, va9, va10, va11, va12, va13, va14, va15, vb0, vb1, vb2, vb3, w_i8, w_u8, w_i16, w_u16, w_i32, w_u32, w_i64, w_u64, lt_T, lt_F, le_T, le_F, nlt_T, nlt_F, nle_T, nle_F, List.take_of_length_le, gB, gcW, gcR, posIn, renA, renL, Chunk.ren, Chunk.refs, evOpD, touchD, stepC, isFresh, nFresh, freshOf, mkR, hole, evL, evH, opd, get, putD, ofVal, cellOf, loadE, behind, lenE, idxAddrE, idxE, addPtr, intE, strE, unE, convE, AV.int, AV.bool, AV.str, ivs, take, frameOf, firstRegion, refsA, refsL, one, cellsA, floatOk, apartT, List.map, if_true, if_false, E_P, E_glob0, E_glob1, reduceCtorEq, beq_self_eq_true, decide_true, decide_false, ↓reduceIte, Nat.reduceEqDiff, cond_true, cond_false, or_true, true_or, or_false, false_or, and_true, true_and, and_self, false_and, and_false, not_true, not_false_iff, Nat.reduceAdd, Nat.reduceSub, Nat.reduceMul, Nat.reduceLT, Nat.reduceLeDiff, Int.reduceToNat, Int.reduceLT, Int.reduceLE, Option.getD, Int.reduceMul, Int.reduceAdd, List.drop, List.take, Nat.reduceBEq, List.isEmpty, Int.reduceEq, Int.reduceNe, Int.reduceNeg, Int.reduceGT, Int.reduceGE, beq_true, beq_false, UInt8.reduceToNat, eqE, eq_self, foldE, maxE, minE, eq_T, eq_F, ndec, odec, adec, sdec, fillA, over, chop, List.replicate, leavesOk, leafOk, cellsEq, cellEq, E_ext, E_byref, en25, bs22, rowsI_len, h5]
    exact ⟨_, rfl⟩
  · rw [if_neg h5]
    obtain ⟨fr, ex, H', e, hh⟩ := l25 l (by omega) 0 (Nat.zero_le _)
    rw [List.drop_zero] at hh
    have e' : rl E 0 25 (loopAt Tryd.f25 0) [(0, .i (.sl 2 (rowsI l) false)), (3, .i (.v (.int .i64 0)))] [] = _ := e
    rcases hh with ⟨h1, rfl⟩ | ⟨h1, rfl, h2⟩
    · rw [h1]
      rw [callT_eq Tryd.func25 rfl fok25 (by simp [Tryd.ntmps25])]
      simp (disch := first | omega | (simp only [List.length_append, List.length_map, List.length_set, List.length_cons, List.length_nil, List.length_take, List.length_drop, rowsI_len]; omega)) only [va0, va1, va2, va3, va4, va5, va6, va7, va8, va9, va10, va11, va12, va13, va14, va15, vb0, vb1, vb2, vb3, w_i8, w_u8, w_i16, w_u16, w_i32, w_u32, w_i64, w_u64, lt_T, lt_F, le_T, le_F, nlt_T, nlt_F, nle_T, nle_F, List.take_of_length_le, gB, gcW, gcR, posIn, renA, renL, Chunk.ren, Chunk.refs, evOpD, touchD, stepC, isFresh, nFresh, freshOf, mkR, hole, evL, evH, opd, get, putD, ofVal, cellOf, loadE, behind, lenE, idxAddrE, idxE, addPtr, intE, strE, unE, convE, AV.int, AV.bool, AV.str, ivs, take, frameOf, firstRegion, refsA, refsL, one, cellsA, floatOk, apartT, List.map, if_true, if_false, E_P, E_glob0, E_glob1, reduceCtorEq, beq_self_eq_true, decide_true, decide_false, ↓reduceIte, Nat.reduceEqDiff, cond_true, cond_false, or_true, true_or, or_false, false_or, and_true, true_and, and_self, false_and, and_false, not_true, not_false_iff, Nat.reduceAdd, Nat.reduceSub, Nat.reduceMul, Nat.reduceLT, Nat.reduceLeDiff, Int.reduceToNat, Int.reduceLT, Int.reduceLE, Option.getD, Int.reduceMul, Int.reduceAdd, List.drop, List.take, Nat.reduceBEq, List.isEmpty, Int.reduceEq, Int.reduceNe, Int.reduceNeg, Int.reduceGT, Int.reduceGE, beq_true, beq_false, UInt8.reduceToNat, eqE, eq_self, foldE, maxE, minE, eq_T, eq_F, ndec, odec, adec, sdec, fillA, over, chop, List.replicate, leavesOk, leafOk, cellsEq, cellEq, E_ext, E_byref, en25, bs22, rowsI_len, h5, e', show ∀ B fr H, execT E B 25 (Code.loop _) fr H = rlG E B 25 (loopAt Tryd.f25 0) (gcn B (norm [0, 3] fr) H) from fun B fr H => rl_intro rfl mt25_4 mb25_4 zf25_4 hd25_4 fr H]
      exact ⟨_, rfl⟩
    · generalize chkL l.length 0 l = q at *
      rw [callT_eq Tryd.func25 rfl fok25 (by simp [Tryd.ntmps25])]
      simp (disch := first | omega | (simp only [List.length_append, List.length_map, List.length_set, List.length_cons, List.length_nil, List.length_take, List.length_drop, rowsI_len]; omega)) only [va0, va1, va2, va3, va4, va5, va6, va7, va8, va9, va10, va11, va12, va13, va14, va15, vb0, vb1, vb2, vb3, w_i8, w_u8, w_i16, w_u16, w_i32, w_u32, w_i64, w_u64, lt_T, lt_F, le_T, le_F, nlt_T, nlt_F, nle_T, nle_F, List.take_of_length_le, gB, gcW, gcR, posIn, renA, renL, Chunk.ren, Chunk.refs, evOpD, touchD, stepC, isFresh, nFresh, freshOf, mkR, hole, evL, evH, opd, get, putD, ofVal, cellOf, loadE, behind, lenE, idxAddrE, idxE, addPtr, intE, strE, unE, convE, AV.int, AV.bool, AV.str, ivs, take, frameOf, firstRegion, refsA, refsL, one, cellsA, floatOk, apartT, List.map, if_true, if_false, E_P, E_glob0, E_glob1, reduceCtorEq, beq_self_eq_true, decide_true, decide_false, ↓reduceIte, Nat.reduceEqDiff, cond_true, cond_false, or_true, true_or, or_false, false_or, and_true, true_and, and_self, false_and, and_false, not_true, not_false_iff, Nat.reduceAdd, Nat.reduceSub, Nat.reduceMul, Nat.reduceLT, Nat.reduceLeDiff, Int.reduceToNat, Int.reduceLT, Int.reduceLE, Option.getD, Int.reduceMul, Int.reduceAdd, List.drop, List.take, Nat.reduceBEq, List.isEmpty, Int.reduceEq, Int.reduceNe, Int.reduceNeg, Int.reduceGT, Int.reduceGE, beq_true, beq_false, UInt8.reduceToNat, eqE, eq_self, foldE, maxE, minE, eq_T, eq_F, ndec, odec, adec, sdec, fillA, over, chop, List.replicate, leavesOk, leafOk, cellsEq, cellEq, E_ext, E_byref, en25, bs22, rowsI_len, h5, e', h2, show ∀ B fr H, execT E B 25 (Code.loop _) fr H = rlG E B 25 (loopAt Tryd.f25 0) (gcn B (norm [0, 3] fr) H) from fun B fr H => rl_intro rfl mt25_4 mb25_4 zf25_4 hd25_4 fr H]
      exact ⟨_, rfl⟩
theorem ik25 (l : List Ins) (hl : (l.length : Int) < 9223372036854775808) (H : Hp) : isoK E (callT E) 25 [.i (.sl 2 (rowsI l) false)] H = some (.i (.v (.int .i64 (checkI l))), H) := isoK_val rfl rfl rfl (c25 l hl)
end Go.VI

namespace Go.VI
open Go.Proofs
set_option maxRecDepth 100000
set_option linter.unusedSimpArgs false
set_option linter.unusedVariables false
set_option maxHeartbeats 4000000
def rows64 (l : List Int) : List (List IV) := l.map fun n => [.v (.int .i64 n)]
theorem rows64_len (l : List Int) : (rows64 l).length = l.length := by simp [rows64]
theorem rows64_snoc (l : List Int) (n : Int) : rows64 l ++ [[.v (.int .i64 n)]] = rows64 (l ++ [n]) := by simp [rows64]
theorem rows64_at {l : List Int} {k : Nat} (h : k < l.length) : (rows64 l)[k]? = some [.v (.int .i64 l[k])] := by simp [rows64, h]
theorem rows64_set (l : List Int) (k : Nat) (x : Int) : (rows64 l).set k [.v (.int .i64 x)] = rows64 (l.set k x) := by simp [rows64, List.map_set]
theorem rows64_rep (n : Nat) (x : Int) : List.replicate n [IV.v (.int .i64 x)] = rows64 (List.replicate n x) := by simp [rows64]
def popS (op : Int) : Int := popsL.getD op.toNat 0
def pushS (op : Int) : Int := pushesL.getD op.toNat 0
theorem tab_at {l : List Int} {n : Nat} (h : n < l.length) : (tabT l)[n]? = some (.v (.int .i64 (l.getD n 0))) := by
  rw [List.getD_eq_getElem?_getD, List.getElem?_eq_getElem h]
  simp [tabT, h]
theorem pops_at {op : Int} (h0 : 0 ≤ op) (h1 : op ≤ 20) : popsT[op.toNat]? = some (.v (.int .i64 (popS op))) := tab_at (by show op.toNat < 21; omega)
theorem pushes_at {op : Int} (h0 : 0 ≤ op) (h1 : op ≤ 20) : pushesT[op.toNat]? = some (.v (.int .i64 (pushS op))) := tab_at (by show op.toNat < 21; omega)
theorem popS_r (op : Int) : 0 ≤ popS op ∧ popS op ≤ 2 := by
  have key : ∀ x ∈ popsL, 0 ≤ x ∧ x ≤ 2 := by decide
  unfold popS
  rw [List.getD_eq_getElem?_getD]
  cases h : popsL[op.toNat]? with
  | none => simp
  | some x => exact key x (List.mem_of_getElem? h)
theorem pushS_r (op : Int) : 0 ≤ pushS op ∧ pushS op ≤ 2 := by
  have key : ∀ x ∈ pushesL, 0 ≤ x ∧ x ≤ 2 := by decide
  unfold pushS
  rw [List.getD_eq_getElem?_getD]
  cases h : pushesL[op.toNat]? with
  | none => simp
  | some x => exact key x (List.mem_of_getElem? h)
def dSet (n after : Int) : List Int → List Int → Option (List Int)
  | [], out => some out
  | k :: ks, out => if k < n ∧ 0 ≤ out.getD k.toNat 0 ∧ out.getD k.toNat 0 ≠ after then none else dSet n after ks (out.set k.toNat after)
def dStep (n : Nat) (i : Nat) (p : Ins) (out : List Int) : Option (List Int) :=
  if out.getD i 0 < 0 then some out
  else if out.getD i 0 < popS p.1 ∨ 16 < out.getD i 0 - popS p.1 + pushS p.1 then none
  else dSet n (out.getD i 0 - popS p.1 + pushS p.1) (sucL p.1 p.2 i) out
def dRun (n : Nat) : Nat → List Ins → List Int → Option (List Int)
  | _, [], out => some out
  | i, p :: r, out => match dStep n i p out with
    | some out' => dRun n (i + 1) r out'
    | none => none
def depthsS (l : List Ins) : List Int × Int := if checkI l = 0 then match dRun l.length 0 l (0 :: List.replicate l.length (-1)) with
  | some out => (out.take l.length, 0)
  | none => ([], 13) else ([], checkI l)
theorem l12_0 (l : List Ins) (n : Nat) (hn : n < 1000000) (k : Nat) (hk : k ≤ n) :
    ∃ fr, rl E 0 12 (loopAt Tryd.f12 0) [(1, .ptr 0 0 0 0), (2, .ptr 1 0 0 0), (3, .ptr 2 0 0 0), (5, .ptr 3 0 0 0), (21, .i (.v (.int .i64 (n)))), (22, .i (.v (.int .i64 (k))))] [.box [.i (.sl 2 (rowsI l) false)], .box [.i (.sl 0 [] true)], .box [.i (.v (.int .i64 0))], .box [.ref 4 0 0 (n)], .sl 1 0 (rows64 (List.replicate k (-1) ++ List.replicate (n - k) 0)) false] = some (.exit 0, fr, [.box [.i (.sl 2 (rowsI l) false)], .box [.i (.sl 0 [] true)], .box [.i (.v (.int .i64 0))], .box [.ref 4 0 0 (n)], .sl 1 0 (rows64 (List.replicate n (-1))) false]) ∧ get 1 fr = .ptr 0 0 0 0 ∧ get 2 fr = .ptr 1 0 0 0 ∧ get 3 fr = .ptr 2 0 0 0 ∧ get 5 fr = .ptr 3 0 0 0 := by
  rw [rl_step (fn := Tryd.f12) (k := 0) rfl]
  by_cases hlt : k < n
  · obtain ⟨fr, e, hh⟩ := l12_0 l n hn (k + 1) hlt
    refine ⟨fr, Eq.trans ?_ e, hh⟩
    clear e hh
    have ho : (List.replicate k (-1 : Int) ++ List.replicate (n - k) 0).length = n := by simp; omega
    have hs : (List.replicate k (-1 : Int) ++ List.replicate (n - k) 0).set k (-1) = List.replicate (k + 1) (-1) ++ List.replicate (n - (k + 1)) 0 := by
      apply List.ext_getElem?
      intro j
      rw [List.getElem?_set]
      by_cases hj : k = j
      · subst hj
        rw [if_pos rfl, if_pos (by omega), List.getElem?_append_left (by simp), List.getElem?_replicate, if_pos (by omega)]
      · rw [if_neg hj]
        by_cases hjk : j < k
        · rw [List.getElem?_append_left (by simpa using hjk), List.getElem?_append_left (by simp; omega), List.getElem?_replicate, List.getElem?_replicate, if_pos hjk, if_pos (by omega)]
        · rw [List.getElem?_append_right (by simp; omega), List.getElem?_append_right (by simp; omega), List.getElem?_replicate, List.getElem?_replicate]
          simp only [List.length_replicate]
          by_cases hjn : j - k < n - k
          · rw [if_pos hjn, if_pos (by omega)]
          · rw [if_neg hjn, if_neg (by omega)]
    obtain ⟨x, hrow⟩ : ∃ x, (rows64 (List.replicate k (-1 : Int) ++ List.replicate (n - k) 0))[k]? = some [.v (.int .i64 x)] := ⟨_, rows64_at (by omega)⟩
    rw [← hs]
    generalize List.replicate k (-1 : Int) ++ List.replicate (n - k) 0 = out at *
    simp (disch := first | omega | (simp only [List.length_append, List.length_map, List.length_set, List.length_cons, List.length_nil, List.length_take, List.length_drop, rows64_len]; omega)) only [va0, va1, va2, va3, va4, va5, va6, va7, va8, va9, va10, va11, va12, va13, va14, va15, vb0, vb1, vb2, vb3, w_i8, w_u8, w_i16, w_u16, w_i32, w_u32, w_i64, w_u64, lt_T, lt_F, le_T, le_F, nlt_T, nlt_F, nle_T, nle_F, List.take_of_length_le, gB, gcW, gcR, posIn, renA, renL, Chunk.ren, Chunk.refs, evOpD, touchD, stepC, isFresh, nFresh, freshOf, mkR, hole, evL, evH, opd, get, putD, ofVal, cellOf, loadE, behind, lenE, idxAddrE, idxE, addPtr, intE, strE, unE, convE, AV.int, AV.bool, AV.str, ivs, take, frameOf, firstRegion, refsA, refsL, one, cellsA, floatOk, apartT, List.map, if_true, if_false, E_P, E_glob0, E_glob1, reduceCtorEq, beq_self_eq_true, decide_true, decide_false, ↓reduceIte, Nat.reduceEqDiff, cond_true, cond_false, or_true, true_or, or_false, false_or, and_true, true_and, and_self, false_and, and_false, not_true, not_false_iff, Nat.reduceAdd, Nat.reduceSub, Nat.reduceMul, Nat.reduceLT, Nat.reduceLeDiff, Int.reduceToNat, Int.reduceLT, Int.reduceLE, Option.getD, Int.reduceMul, Int.reduceAdd, List.drop, List.take, Nat.reduceBEq, List.isEmpty, Int.reduceEq, Int.reduceNe, Int.reduceNeg, Int.reduceGT, Int.reduceGE, beq_true, beq_false, UInt8.reduceToNat, eqE, eq_self, foldE, maxE, minE, eq_T, eq_F, ndec, odec, adec, sdec, fillA, over, chop, List.replicate, leavesOk, leafOk, cellsEq, cellEq, E_ext, E_byref, en12, bs22, bs24, rows64_len, hrow, rows64_set, show ∀ B fr H, execT E B 12 (Code.loop _) fr H = rlG E B 12 (loopAt Tryd.f12 0) (gcn B (norm [1, 2, 3, 5, 21, 22] fr) H) from fun B fr H => rl_intro rfl mt12_6 mb12_6 zf12_6 hd12_6 fr H]
  · obtain rfl : k = n := by omega
    rw [Nat.sub_self, List.replicate_zero, List.append_nil]
    generalize List.replicate k (-1 : Int) = out at *
    simp (disch := first | omega | (simp only [List.length_append, List.length_map, List.length_set, List.length_cons, List.length_nil, List.length_take, List.length_drop, rows64_len]; omega)) only [va0, va1, va2, va3, va4, va5, va6, va7, va8, va9, va10, va11, va12, va13, va14, va15, vb0, vb1, vb2, vb3, w_i8, w_u8, w_i16, w_u16, w_i32, w_u32, w_i64, w_u64, lt_T, lt_F, le_T, le_F, nlt_T, nlt_F, nle_T, nle_F, List.take_of_length_le, gB, gcW, gcR, posIn, renA, renL, Chunk.ren, Chunk.refs, evOpD, touchD, stepC, isFresh, nFresh, freshOf, mkR, hole, evL, evH, opd, get, putD, ofVal, cellOf, loadE, behind, lenE, idxAddrE, idxE, addPtr, intE, strE, unE, convE, AV.int, AV.bool, AV.str, ivs, take, frameOf, firstRegion, refsA, refsL, one, cellsA, floatOk, apartT, List.map, if_true, if_false, E_P, E_glob0, E_glob1, reduceCtorEq, beq_self_eq_true, decide_true, decide_false, ↓reduceIte, Nat.reduceEqDiff, cond_true, cond_false, or_true, true_or, or_false, false_or, and_true, true_and, and_self, false_and, and_false, not_true, not_false_iff, Nat.reduceAdd, Nat.reduceSub, Nat.reduceMul, Nat.reduceLT, Nat.reduceLeDiff, Int.reduceToNat, Int.reduceLT, Int.reduceLE, Option.getD, Int.reduceMul, Int.reduceAdd, List.drop, List.take, Nat.reduceBEq, List.isEmpty, Int.reduceEq, Int.reduceNe, Int.reduceNeg, Int.reduceGT, Int.reduceGE, beq_true, beq_false, UInt8.reduceToNat, eqE, eq_self, foldE, maxE, minE, eq_T, eq_F, ndec, odec, adec, sdec, fillA, over, chop, List.replicate, leavesOk, leafOk, cellsEq, cellEq, E_ext, E_byref, en12, bs22, bs24, rows64_len, show ∀ B fr H, execT E B 12 (Code.loop _) fr H = rlG E B 12 (loopAt Tryd.f12 0) (gcn B (norm [1, 2, 3, 5, 21, 22] fr) H) from fun B fr H => rl_intro rfl mt12_6 mb12_6 zf12_6 hd12_6 fr H]
    exact ⟨_, rfl, rfl, rfl, rfl, rfl⟩
termination_by n - k
end Go.VI

namespace Go.VI
open Go.Proofs
set_option maxRecDepth 100000
set_option linter.unusedSimpArgs false
set_option linter.unusedVariables false
set_option maxHeartbeats 4000000
theorem rows64_get {l : List Int} {k : Nat} (h : k < l.length) : (rows64 l)[k]? = some [.v (.int .i64 (l.getD k 0))] := by
  rw [rows64_at h, List.getD_eq_getElem?_getD, List.getElem?_eq_getElem h]; rfl
theorem rd12 (l : List Ins) (hl : l.length < 100000) (n : Nat) (hn : n = l.length + 1) (out : List Int) (ho : out.length = n) (op arg af i k x : Int) (hx : 0 ≤ x ∧ x ≤ l.length) :
    rdF E 12 (rfAt Tryd.f12 0) ((73, .i (.v (.int .i64 x))) :: [(1, .ptr 0 0 0 0), (2, .ptr 1 0 0 0), (3, .ptr 2 0 0 0), (5, .ptr 3 0 0 0), (9, .ptr 6 0 0 0), (31, .i (.sl 2 (rowsI l) false)), (32, .i (.v (.int .i64 l.length))), (33, .i (.v (.int .i64 (k)))), (72, .clo (.func 32) [] [.ptr 7 0 0 0, .ptr 8 0 0 0])]) [.box [.i (.sl 2 (rowsI l) false)], .box [.i (.sl 0 [] true)], .box [.i (.v (.int .i64 (0)))], .box [.ref 4 0 0 (n)], .sl 1 0 (rows64 (out)) false, .box [.i (.v (.int .i64 (op))), .i (.v (.int .i64 (arg)))], .box [.i (.v (.int .i64 (af)))], .box [.i (.v (.int .i64 (op))), .i (.v (.int .i64 (arg)))], .box [.i (.v (.int .i64 (i)))]] =
      if x < l.length ∧ 0 ≤ out.getD x.toNat 0 ∧ out.getD x.toNat 0 ≠ af then some (.ret, [.box [.i (.sl 2 (rowsI l) false)], .box [.i (.sl 0 [] true)], .box [.i (.v (.int .i64 (13)))], .box [.ref 4 0 0 (n)], .sl 1 0 (rows64 (out)) false, .box [.i (.v (.int .i64 (op))), .i (.v (.int .i64 (arg)))], .box [.i (.v (.int .i64 (af)))], .box [.i (.v (.int .i64 (op))), .i (.v (.int .i64 (arg)))], .box [.i (.v (.int .i64 (i)))]]) else some (.normal, [.box [.i (.sl 2 (rowsI l) false)], .box [.i (.sl 0 [] true)], .box [.i (.v (.int .i64 (0)))], .box [.ref 4 0 0 (n)], .sl 1 0 (rows64 (out.set x.toNat af)) false, .box [.i (.v (.int .i64 (op))), .i (.v (.int .i64 (arg)))], .box [.i (.v (.int .i64 (af)))], .box [.i (.v (.int .i64 (op))), .i (.v (.int .i64 (arg)))], .box [.i (.v (.int .i64 (i)))]]) := by
  have hrow := rows64_get (l := out) (k := x.toNat) (by omega)
  generalize hy : out.getD x.toNat 0 = y at *
  rw [rd_step (fn := Tryd.f12) (k := 0) rfl]
  by_cases h1 : x < l.length
  · by_cases h2 : 0 ≤ y
    · by_cases h3 : y = af
      · rw [if_neg (fun h => h.2.2 h3)]
        subst h3
        simp (disch := first | omega | (simp only [List.length_append, List.length_map, List.length_set, List.length_cons, List.length_nil, List.length_take, List.length_drop, rows64_len, rowsI_len]; omega)) only [va0, va1, va2, va3, va4, va5, va6, va7, va8, va9, va10, va11, va12, va13, va14, va15, vb0, vb1, vb2, vb3, w_i8, w_u8, w_i16, w_u16, w_i32, w_u32, w_i64, w_u64, lt_T, lt_F, le_T, le_F, nlt_T, nlt_F, nle_T, nle_F, List.take_of_length_le, gB, gcW, gcR, posIn, renA, renL, Chunk.ren, Chunk.refs, evOpD, touchD, stepC, isFresh, nFresh, freshOf, mkR, hole, evL, evH, opd, get, putD, ofVal, cellOf, loadE, behind, lenE, idxAddrE, idxE, addPtr, intE, strE, unE, convE, AV.int, AV.bool, AV.str, ivs, take, frameOf, firstRegion, refsA, refsL, one, cellsA, floatOk, apartT, List.map, if_true, if_false, E_P, E_glob0, E_glob1, reduceCtorEq, beq_self_eq_true, decide_true, decide_false, ↓reduceIte, Nat.reduceEqDiff, cond_true, cond_false, or_true, true_or, or_false, false_or, and_true, true_and, and_self, false_and, and_false, not_true, not_false_iff, Nat.reduceAdd, Nat.reduceSub, Nat.reduceMul, Nat.reduceLT, Nat.reduceLeDiff, Int.reduceToNat, Int.reduceLT, Int.reduceLE, Option.getD, Int.reduceMul, Int.reduceAdd, List.drop, List.take, Nat.reduceBEq, List.isEmpty, Int.reduceEq, Int.reduceNe, Int.reduceNeg, Int.reduceGT, Int.reduceGE, beq_true, beq_false, UInt8.reduceToNat, eqE, eq_self, foldE, maxE, minE, eq_T, eq_F, ndec, odec, adec, sdec, fillA, over, chop, List.replicate, leavesOk, leafOk, cellsEq, cellEq, E_ext, E_byref, en12, bs22, bs24, rows64_len, rowsI_len, hrow, h1, h2, rows64_set]
      · rw [if_pos ⟨h1, h2, h3⟩]
        simp (disch := first | omega | (simp only [List.length_append, List.length_map, List.length_set, List.length_cons, List.length_nil, List.length_take, List.length_drop, rows64_len, rowsI_len]; omega)) only [va0, va1, va2, va3, va4, va5, va6, va7, va8, va9, va10, va11, va12, va13, va14, va15, vb0, vb1, vb2, vb3, w_i8, w_u8, w_i16, w_u16, w_i32, w_u32, w_i64, w_u64, lt_T, lt_F, le_T, le_F, nlt_T, nlt_F, nle_T, nle_F, List.take_of_length_le, gB, gcW, gcR, posIn, renA, renL, Chunk.ren, Chunk.refs, evOpD, touchD, stepC, isFresh, nFresh, freshOf, mkR, hole, evL, evH, opd, get, putD, ofVal, cellOf, loadE, behind, lenE, idxAddrE, idxE, addPtr, intE, strE, unE, convE, AV.int, AV.bool, AV.str, ivs, take, frameOf, firstRegion, refsA, refsL, one, cellsA, floatOk, apartT, List.map, if_true, if_false, E_P, E_glob0, E_glob1, reduceCtorEq, beq_self_eq_true, decide_true, decide_false, ↓reduceIte, Nat.reduceEqDiff, cond_true, cond_false, or_true, true_or, or_false, false_or, and_true, true_and, and_self, false_and, and_false, not_true, not_false_iff, Nat.reduceAdd, Nat.reduceSub, Nat.reduceMul, Nat.reduceLT, Nat.reduceLeDiff, Int.reduceToNat, Int.reduceLT, Int.reduceLE, Option.getD, Int.reduceMul, Int.reduceAdd, List.drop, List.take, Nat.reduceBEq, List.isEmpty, Int.reduceEq, Int.reduceNe, Int.reduceNeg, Int.reduceGT, Int.reduceGE, beq_true, beq_false, UInt8.reduceToNat, eqE, eq_self, foldE, maxE, minE, eq_T, eq_F, ndec, odec, adec, sdec, fillA, over, chop, List.replicate, leavesOk, leafOk, cellsEq, cellEq, E_ext, E_byref, en12, bs22, bs24, rows64_len, rowsI_len, hrow, h1, h2, h3, rows64_set]
    · rw [if_neg (fun h => h2 h.2.1)]
      simp (disch := first | omega | (simp only [List.length_append, List.length_map, List.length_set, List.length_cons, List.length_nil, List.length_take, List.length_drop, rows64_len, rowsI_len]; omega)) only [va0, va1, va2, va3, va4, va5, va6, va7, va8, va9, va10, va11, va12, va13, va14, va15, vb0, vb1, vb2, vb3, w_i8, w_u8, w_i16, w_u16, w_i32, w_u32, w_i64, w_u64, lt_T, lt_F, le_T, le_F, nlt_T, nlt_F, nle_T, nle_F, List.take_of_length_le, gB, gcW, gcR, posIn, renA, renL, Chunk.ren, Chunk.refs, evOpD, touchD, stepC, isFresh, nFresh, freshOf, mkR, hole, evL, evH, opd, get, putD, ofVal, cellOf, loadE, behind, lenE, idxAddrE, idxE, addPtr, intE, strE, unE, convE, AV.int, AV.bool, AV.str, ivs, take, frameOf, firstRegion, refsA, refsL, one, cellsA, floatOk, apartT, List.map, if_true, if_false, E_P, E_glob0, E_glob1, reduceCtorEq, beq_self_eq_true, decide_true, decide_false, ↓reduceIte, Nat.reduceEqDiff, cond_true, cond_false, or_true, true_or, or_false, false_or, and_true, true_and, and_self, false_and, and_false, not_true, not_false_iff, Nat.reduceAdd, Nat.reduceSub, Nat.reduceMul, Nat.reduceLT, Nat.reduceLeDiff, Int.reduceToNat, Int.reduceLT, Int.reduceLE, Option.getD, Int.reduceMul, Int.reduceAdd, List.drop, List.take, Nat.reduceBEq, List.isEmpty, Int.reduceEq, Int.reduceNe, Int.reduceNeg, Int.reduceGT, Int.reduceGE, beq_true, beq_false, UInt8.reduceToNat, eqE, eq_self, foldE, maxE, minE, eq_T, eq_F, ndec, odec, adec, sdec, fillA, over, chop, List.replicate, leavesOk, leafOk, cellsEq, cellEq, E_ext, E_byref, en12, bs22, bs24, rows64_len, rowsI_len, hrow, h1, h2, rows64_set]
  · rw [if_neg (fun h => h1 h.1)]
    simp (disch := first | omega | (simp only [List.length_append, List.length_map, List.length_set, List.length_cons, List.length_nil, List.length_take, List.length_drop, rows64_len, rowsI_len]; omega)) only [va0, va1, va2, va3, va4, va5, va6, va7, va8, va9, va10, va11, va12, va13, va14, va15, vb0, vb1, vb2, vb3, w_i8, w_u8, w_i16, w_u16, w_i32, w_u32, w_i64, w_u64, lt_T, lt_F, le_T, le_F, nlt_T, nlt_F, nle_T, nle_F, List.take_of_length_le, gB, gcW, gcR, posIn, renA, renL, Chunk.ren, Chunk.refs, evOpD, touchD, stepC, isFresh, nFresh, freshOf, mkR, hole, evL, evH, opd, get, putD, ofVal, cellOf, loadE, behind, lenE, idxAddrE, idxE, addPtr, intE, strE, unE, convE, AV.int, AV.bool, AV.str, ivs, take, frameOf, firstRegion, refsA, refsL, one, cellsA, floatOk, apartT, List.map, if_true, if_false, E_P, E_glob0, E_glob1, reduceCtorEq, beq_self_eq_true, decide_true, decide_false, ↓reduceIte, Nat.reduceEqDiff, cond_true, cond_false, or_true, true_or, or_false, false_or, and_true, true_and, and_self, false_and, and_false, not_true, not_false_iff, Nat.reduceAdd, Nat.reduceSub, Nat.reduceMul, Nat.reduceLT, Nat.reduceLeDiff, Int.reduceToNat, Int.reduceLT, Int.reduceLE, Option.getD, Int.reduceMul, Int.reduceAdd, List.drop, List.take, Nat.reduceBEq, List.isEmpty, Int.reduceEq, Int.reduceNe, Int.reduceNeg, Int.reduceGT, Int.reduceGE, beq_true, beq_false, UInt8.reduceToNat, eqE, eq_self, foldE, maxE, minE, eq_T, eq_F, ndec, odec, adec, sdec, fillA, over, chop, List.replicate, leavesOk, leafOk, cellsEq, cellEq, E_ext, E_byref, en12, bs22, bs24, rows64_len, rowsI_len, hrow, h1, rows64_set]
end Go.VI

namespace Go.VI
open Go.Proofs
set_option maxRecDepth 100000
set_option linter.unusedSimpArgs false
set_option linter.unusedVariables false
set_option maxHeartbeats 4000000
theorem c24 (op arg i : Int) : callT E 24 [.agg [.i (.v (.int .i64 op)), .i (.v (.int .i64 arg))], .i (.v (.int .i64 i))] [] = some (.clo (.func 32) [] [.ptr 0 0 0 0, .ptr 1 0 0 0], [.box [.i (.v (.int .i64 op)), .i (.v (.int .i64 arg))], .box [.i (.v (.int .i64 i))]]) := by
  rw [callT_eq Tryd.func24 rfl fok24 (by simp [Tryd.ntmps24])]
  simp (disch := first | omega | (simp only [List.length_append, List.length_map, List.length_set, List.length_cons, List.length_nil, List.length_take, List.length_drop]; omega)) only [va0, va1, va2, va3, va4, va5, va6, va7, va8, va9, va10, va11, va12, va13, va14, va15, vb0, vb1, vb2, vb3, w_i8, w_u8, w_i16, w_u16, w_i32, w_u32, w_i64, w_u64, lt_T, lt_F, le_T, le_F, nlt_T, nlt_F, nle_T, nle_F, List.take_of_length_le, gB, gcW, gcR, posIn, renA, renL, Chunk.ren, Chunk.refs, evOpD, touchD, stepC, isFresh, nFresh, freshOf, mkR, hole, evL, evH, opd, get, putD, ofVal, cellOf, loadE, behind, lenE, idxAddrE, idxE, addPtr, intE, strE, unE, convE, AV.int, AV.bool, AV.str, ivs, take, frameOf, firstRegion, refsA, refsL, one, cellsA, floatOk, apartT, List.map, if_true, if_false, E_P, E_glob0, E_glob1, reduceCtorEq, beq_self_eq_true, decide_true, decide_false, ↓reduceIte, Nat.reduceEqDiff, cond_true, cond_false, or_true, true_or, or_false, false_or, and_true, true_and, and_self, false_and, and_false, not_true, not_false_iff, Nat.reduceAdd, Nat.reduceSub, Nat.reduceMul, Nat.reduceLT, Nat.reduceLeDiff, Int.reduceToNat, Int.reduceLT, Int.reduceLE, Option.getD, Int.reduceMul, Int.reduceAdd, List.drop, List.take, Nat.reduceBEq, List.isEmpty, Int.reduceEq, Int.reduceNe, Int.reduceNeg, Int.reduceGT, Int.reduceGE, beq_true, beq_false, UInt8.reduceToNat, eqE, eq_self, foldE, maxE, minE, eq_T, eq_F, ndec, odec, adec, sdec, fillA, over, chop, List.replicate, leavesOk, leafOk, cellsEq, cellEq, E_ext, E_byref, en24]
theorem ik24 (op arg i : Int) (H : Hp) : isoK E (callT E) 24 [.agg [.i (.v (.int .i64 op)), .i (.v (.int .i64 arg))], .i (.v (.int .i64 i))] H = some (.clo (.func 32) [] [.ptr H.length 0 0 0, .ptr (H.length + 1) 0 0 0], H ++ [.box [.i (.v (.int .i64 op)), .i (.v (.int .i64 arg))], .box [.i (.v (.int .i64 i))]]) := by
  have h := c24 op arg i
  unfold isoK
  simp [exCl, show E.ext 24 = none from rfl, refsL, refsA, reach, renL, renA, posIn, h, Chunk.refs, Chunk.ren, setAll, backRen]
  exact Nat.add_comm _ _
theorem rg12 (l : List Ins) (hl : l.length < 100000) (n : Nat) (hn : n = l.length + 1) (op arg af i k : Int) : ∀ (xs : List Int), (∀ x ∈ xs, 0 ≤ x ∧ x ≤ l.length) → ∀ out : List Int, out.length = n →
    (∃ out', dSet l.length af xs out = some out' ∧ out'.length = n ∧ rgE (rdF E 12 (rfAt Tryd.f12 0)) 73 [(1, .ptr 0 0 0 0), (2, .ptr 1 0 0 0), (3, .ptr 2 0 0 0), (5, .ptr 3 0 0 0), (9, .ptr 6 0 0 0), (31, .i (.sl 2 (rowsI l) false)), (32, .i (.v (.int .i64 l.length))), (33, .i (.v (.int .i64 (k)))), (72, .clo (.func 32) [] [.ptr 7 0 0 0, .ptr 8 0 0 0])] [.ptr 7 0 0 0, .ptr 8 0 0 0] [[op, arg], [i]] xs [.box [.i (.sl 2 (rowsI l) false)], .box [.i (.sl 0 [] true)], .box [.i (.v (.int .i64 (0)))], .box [.ref 4 0 0 (n)], .sl 1 0 (rows64 (out)) false, .box [.i (.v (.int .i64 (op))), .i (.v (.int .i64 (arg)))], .box [.i (.v (.int .i64 (af)))], .box [.i (.v (.int .i64 (op))), .i (.v (.int .i64 (arg)))], .box [.i (.v (.int .i64 (i)))]] = some (.normal, [(1, .ptr 0 0 0 0), (2, .ptr 1 0 0 0), (3, .ptr 2 0 0 0), (5, .ptr 3 0 0 0), (9, .ptr 6 0 0 0), (31, .i (.sl 2 (rowsI l) false)), (32, .i (.v (.int .i64 l.length))), (33, .i (.v (.int .i64 (k)))), (72, .clo (.func 32) [] [.ptr 7 0 0 0, .ptr 8 0 0 0])], [.box [.i (.sl 2 (rowsI l) false)], .box [.i (.sl 0 [] true)], .box [.i (.v (.int .i64 (0)))], .box [.ref 4 0 0 (n)], .sl 1 0 (rows64 (out')) false, .box [.i (.v (.int .i64 (op))), .i (.v (.int .i64 (arg)))], .box [.i (.v (.int .i64 (af)))], .box [.i (.v (.int .i64 (op))), .i (.v (.int .i64 (arg)))], .box [.i (.v (.int .i64 (i)))]])) ∨
    (dSet l.length af xs out = none ∧ ∃ out', rgE (rdF E 12 (rfAt Tryd.f12 0)) 73 [(1, .ptr 0 0 0 0), (2, .ptr 1 0 0 0), (3, .ptr 2 0 0 0), (5, .ptr 3 0 0 0), (9, .ptr 6 0 0 0), (31, .i (.sl 2 (rowsI l) false)), (32, .i (.v (.int .i64 l.length))), (33, .i (.v (.int .i64 (k)))), (72, .clo (.func 32) [] [.ptr 7 0 0 0, .ptr 8 0 0 0])] [.ptr 7 0 0 0, .ptr 8 0 0 0] [[op, arg], [i]] xs [.box [.i (.sl 2 (rowsI l) false)], .box [.i (.sl 0 [] true)], .box [.i (.v (.int .i64 (0)))], .box [.ref 4 0 0 (n)], .sl 1 0 (rows64 (out)) false, .box [.i (.v (.int .i64 (op))), .i (.v (.int .i64 (arg)))], .box [.i (.v (.int .i64 (af)))], .box [.i (.v (.int .i64 (op))), .i (.v (.int .i64 (arg)))], .box [.i (.v (.int .i64 (i)))]] = some (.ret, [(1, .ptr 0 0 0 0), (2, .ptr 1 0 0 0), (3, .ptr 2 0 0 0), (5, .ptr 3 0 0 0), (9, .ptr 6 0 0 0), (31, .i (.sl 2 (rowsI l) false)), (32, .i (.v (.int .i64 l.length))), (33, .i (.v (.int .i64 (k)))), (72, .clo (.func 32) [] [.ptr 7 0 0 0, .ptr 8 0 0 0])], [.box [.i (.sl 2 (rowsI l) false)], .box [.i (.sl 0 [] true)], .box [.i (.v (.int .i64 (13)))], .box [.ref 4 0 0 (n)], .sl 1 0 (rows64 (out')) false, .box [.i (.v (.int .i64 (op))), .i (.v (.int .i64 (arg)))], .box [.i (.v (.int .i64 (af)))], .box [.i (.v (.int .i64 (op))), .i (.v (.int .i64 (arg)))], .box [.i (.v (.int .i64 (i)))]]))
  | [], _, out, ho => .inl ⟨out, rfl, ho, rfl⟩
  | x :: xs, hx, out, ho => by
    have h1 := rd12 l hl n hn out ho op arg af i k x (hx x (.head _))
    rw [rgE_cons, h1]
    simp only [dSet]
    by_cases hc : x < l.length ∧ 0 ≤ out.getD x.toNat 0 ∧ out.getD x.toNat 0 ≠ af
    · rw [if_pos hc, if_pos hc]
      exact .inr ⟨rfl, out, rfl⟩
    · rw [if_neg hc, if_neg hc, rgN_n, if_pos (show capsI _ [.ptr 7 0 0 0, .ptr 8 0 0 0] = some [[op, arg], [i]] from rfl)]
      exact rg12 l hl n hn op arg af i k xs (fun y hy => hx y (.tail _ hy)) (out.set x.toNat af) (by simpa using ho)
theorem sucL_in {n k : Nat} {op arg : Int} (hk : k < n) (h : chk1 n k (op, arg) = 0) : (0 ≤ op ∧ op ≤ 20) ∧ ∀ x ∈ sucL op arg k, (k : Int) < x ∧ x ≤ n := by
  unfold chk1 at h
  simp only at h
  split at h
  · cases h
  rename_i h1
  split at h
  · cases h
  rename_i h2
  refine ⟨by omega, fun x hx => ?_⟩
  unfold sucL at hx
  rw [List.mem_append] at hx
  rcases hx with hx | hx
  · split at hx
    · cases hx
    · rw [List.mem_singleton] at hx; omega
  · split at hx
    · rename_i hj
      rw [List.mem_singleton] at hx
      subst hx
      have h1 : ¬ op = 1 := by omega
      unfold boundsS at h2
      rw [if_neg h1, if_pos hj] at h2
      simp only at h2
      omega
    · cases hx
theorem dSet_r {n after : Int} (ha : 0 ≤ after ∧ after ≤ 16) : ∀ (ks out out' : List Int), dSet n after ks out = some out' → (∀ x ∈ out, -1 ≤ x ∧ x ≤ 16) → ∀ x ∈ out', -1 ≤ x ∧ x ≤ 16
  | [], out, out', h, hr => by simp only [dSet, Option.some.injEq] at h; subst h; exact hr
  | k :: ks, out, out', h, hr => by
    simp only [dSet] at h
    split at h
    · cases h
    · exact dSet_r ha ks _ out' h fun x hx => by
        rcases List.mem_or_eq_of_mem_set hx with h1 | h1
        · exact hr x h1
        · omega
theorem dSet_len {n after : Int} : ∀ (ks out out' : List Int), dSet n after ks out = some out' → out'.length = out.length
  | [], out, out', h => by simp only [dSet, Option.some.injEq] at h; subst h; rfl
  | k :: ks, out, out', h => by
    simp only [dSet] at h
    split at h
    · cases h
    · rw [dSet_len ks _ out' h, List.length_set]
def dP (l : List Ins) (n : Nat) (fr : Fr) (ex : Ex) (H' : Hp) : Option (List Int) → Prop
  | some out' => ex = .exit 2 ∧ out'.length = n ∧ H' = [.box [.i (.sl 2 (rowsI l) false)], .box [.i (.sl 0 [] true)], .box [.i (.v (.int .i64 0))], .box [.ref 4 0 0 (n)], .sl 1 0 (rows64 (out')) false] ∧ get 1 fr = .ptr 0 0 0 0 ∧ get 2 fr = .ptr 1 0 0 0 ∧ get 3 fr = .ptr 2 0 0 0 ∧ get 5 fr = .ptr 3 0 0 0
  | none => ex = .ret ∧ H'[1]? = some (.box [.i (.sl 0 [] true)]) ∧ H'[2]? = some (.box [.i (.v (.int .i64 13))]) ∧ get 2 fr = .ptr 1 0 0 0 ∧ get 3 fr = .ptr 2 0 0 0
theorem l12_1 (l : List Ins) (hl : l.length ≤ 500) (n : Nat) (hn : n = l.length + 1) (hok : ∀ (j : Nat) (h : j < l.length), chk1 l.length j l[j] = 0) (k : Nat) (hk : k ≤ l.length) (out : List Int) (ho : out.length = n) (hr : ∀ x ∈ out, -1 ≤ x ∧ x ≤ 16) :
    ∃ fr ex H', rl E 0 12 (loopAt Tryd.f12 1) [(1, .ptr 0 0 0 0), (2, .ptr 1 0 0 0), (3, .ptr 2 0 0 0), (5, .ptr 3 0 0 0), (31, .i (.sl 2 (rowsI l) false)), (32, .i (.v (.int .i64 l.length))), (33, .i (.v (.int .i64 (k))))] [.box [.i (.sl 2 (rowsI l) false)], .box [.i (.sl 0 [] true)], .box [.i (.v (.int .i64 0))], .box [.ref 4 0 0 (n)], .sl 1 0 (rows64 (out)) false] = some (ex, fr, H') ∧ dP l n fr ex H' (dRun l.length k (l.drop k) out) := by
  rw [rl_step (fn := Tryd.f12) (k := 1) rfl]
  by_cases hlt : k < l.length
  · have hrow := rowsI_at hlt
    have hck := hok k hlt
    rw [List.drop_eq_getElem_cons hlt, dRun, dStep]
    have ih := fun out ho hr => l12_1 l hl n hn hok (k + 1) hlt out ho hr
    obtain ⟨op, arg, hp⟩ : ∃ op arg, l[k] = (op, arg) := ⟨_, _, rfl⟩
    rw [hp] at hrow hck ⊢
    simp only at hrow ⊢
    obtain ⟨⟨o1, o2⟩, hsuc⟩ := sucL_in hlt hck
    have hd := rows64_get (l := out) (k := k) (by omega)
    have hdr := hr (out.getD k 0) (by rw [List.getD_eq_getElem?_getD, List.getElem?_eq_getElem (by omega)]; exact List.getElem_mem _)
    have hpo := pops_at o1 o2
    have hpu := pushes_at o1 o2
    have hp1 := popS_r op
    have hp2 := pushS_r op
    have hrg := fun af => rg12 l (by omega) n hn op arg af k k (sucL op arg k) (fun x hx => by have := hsuc x hx; omega) out ho
    have hsq := seqSucc_eq op arg k (by omega) (by omega)
    generalize out.getD k 0 = d at *
    generalize popS op = po at *
    generalize pushS op = pu at *
    generalize sucL op arg k = xs at *
    by_cases h1 : d < 0
    · rw [if_pos h1]
      simp only
      obtain ⟨fr, ex, H', e, hh⟩ := ih out ho hr
      refine ⟨fr, ex, H', Eq.trans ?_ e, hh⟩
      clear e hh ih hrg
      simp (disch := first | omega | (simp only [List.length_append, List.length_map, List.length_set, List.length_cons, List.length_nil, List.length_take, List.length_drop, rowsI_len, rows64_len]; omega)) only [va0, va1, va2, va3, va4, va5, va6, va7, va8, va9, va10, va11, va12, va13, va14, va15, vb0, vb1, vb2, vb3, w_i8, w_u8, w_i16, w_u16, w_i32, w_u32, w_i64, w_u64, lt_T, lt_F, le_T, le_F, nlt_T, nlt_F, nle_T, nle_F, List.take_of_length_le, gB, gcW, gcR, posIn, renA, renL, Chunk.ren, Chunk.refs, evOpD, touchD, stepC, isFresh, nFresh, freshOf, mkR, hole, evL, evH, opd, get, putD, ofVal, cellOf, loadE, behind, lenE, idxAddrE, idxE, addPtr, intE, strE, unE, convE, AV.int, AV.bool, AV.str, ivs, take, frameOf, firstRegion, refsA, refsL, one, cellsA, floatOk, apartT, List.map, if_true, if_false, E_P, E_glob0, E_glob1, reduceCtorEq, beq_self_eq_true, decide_true, decide_false, ↓reduceIte, Nat.reduceEqDiff, cond_true, cond_false, or_true, true_or, or_false, false_or, and_true, true_and, and_self, false_and, and_false, not_true, not_false_iff, Nat.reduceAdd, Nat.reduceSub, Nat.reduceMul, Nat.reduceLT, Nat.reduceLeDiff, Int.reduceToNat, Int.reduceLT, Int.reduceLE, Option.getD, Int.reduceMul, Int.reduceAdd, List.drop, List.take, Nat.reduceBEq, List.isEmpty, Int.reduceEq, Int.reduceNe, Int.reduceNeg, Int.reduceGT, Int.reduceGE, beq_true, beq_false, UInt8.reduceToNat, eqE, eq_self, foldE, maxE, minE, eq_T, eq_F, ndec, odec, adec, sdec, fillA, over, chop, List.replicate, leavesOk, leafOk, cellsEq, cellEq, E_ext, E_byref, en12, bs22, bs24, hrow, rowsI_len, rows64_len, hd, h1, show ∀ B fr H, execT E B 12 (Code.loop _) fr H = rlG E B 12 (loopAt Tryd.f12 1) (gcn B (norm [1, 2, 3, 5, 31, 32, 33] fr) H) from fun B fr H => rl_intro rfl mt12_12 mb12_12 zf12_12 hd12_12 fr H]
    · rw [if_neg h1]
      by_cases h2 : d < po
      · rw [if_pos (.inl h2)]
        clear ih hrg
        simp (disch := first | omega | (simp only [List.length_append, List.length_map, List.length_set, List.length_cons, List.length_nil, List.length_take, List.length_drop, rowsI_len, rows64_len]; omega)) only [va0, va1, va2, va3, va4, va5, va6, va7, va8, va9, va10, va11, va12, va13, va14, va15, vb0, vb1, vb2, vb3, w_i8, w_u8, w_i16, w_u16, w_i32, w_u32, w_i64, w_u64, lt_T, lt_F, le_T, le_F, nlt_T, nlt_F, nle_T, nle_F, List.take_of_length_le, gB, gcW, gcR, posIn, renA, renL, Chunk.ren, Chunk.refs, evOpD, touchD, stepC, isFresh, nFresh, freshOf, mkR, hole, evL, evH, opd, get, putD, ofVal, cellOf, loadE, behind, lenE, idxAddrE, idxE, addPtr, intE, strE, unE, convE, AV.int, AV.bool, AV.str, ivs, take, frameOf, firstRegion, refsA, refsL, one, cellsA, floatOk, apartT, List.map, if_true, if_false, E_P, E_glob0, E_glob1, reduceCtorEq, beq_self_eq_true, decide_true, decide_false, ↓reduceIte, Nat.reduceEqDiff, cond_true, cond_false, or_true, true_or, or_false, false_or, and_true, true_and, and_self, false_and, and_false, not_true, not_false_iff, Nat.reduceAdd, Nat.reduceSub, Nat.reduceMul, Nat.reduceLT, Nat.reduceLeDiff, Int.reduceToNat, Int.reduceLT, Int.reduceLE, Option.getD, Int.reduceMul, Int.reduceAdd, List.drop, List.take, Nat.reduceBEq, List.isEmpty, Int.reduceEq, Int.reduceNe, Int.reduceNeg, Int.reduceGT, Int.reduceGE, beq_true, beq_false, UInt8.reduceToNat, eqE, eq_self, foldE, maxE, minE, eq_T, eq_F, ndec, odec, adec, sdec, fillA, over, chop, List.replicate, leavesOk, leafOk, cellsEq, cellEq, E_ext, E_byref, en12, bs22, bs24, hrow, rowsI_len, rows64_len, hd, hpo, hpu, h1, h2, Nat.mul_one, show ∀ B fr H, execT E B 12 (Code.loop _) fr H = rlG E B 12 (loopAt Tryd.f12 1) (gcn B (norm [1, 2, 3, 5, 31, 32, 33] fr) H) from fun B fr H => rl_intro rfl mt12_12 mb12_12 zf12_12 hd12_12 fr H]
        refine ⟨_, _, _, rfl, ?_⟩
        exact ⟨rfl, rfl, rfl, rfl, rfl⟩
      · by_cases h3 : 16 < d - po + pu
        · rw [if_pos (.inr h3)]
          clear ih hrg
          simp (disch := first | omega | (simp only [List.length_append, List.length_map, List.length_set, List.length_cons, List.length_nil, List.length_take, List.length_drop, rowsI_len, rows64_len]; omega)) only [va0, va1, va2, va3, va4, va5, va6, va7, va8, va9, va10, va11, va12, va13, va14, va15, vb0, vb1, vb2, vb3, w_i8, w_u8, w_i16, w_u16, w_i32, w_u32, w_i64, w_u64, lt_T, lt_F, le_T, le_F, nlt_T, nlt_F, nle_T, nle_F, List.take_of_length_le, gB, gcW, gcR, posIn, renA, renL, Chunk.ren, Chunk.refs, evOpD, touchD, stepC, isFresh, nFresh, freshOf, mkR, hole, evL, evH, opd, get, putD, ofVal, cellOf, loadE, behind, lenE, idxAddrE, idxE, addPtr, intE, strE, unE, convE, AV.int, AV.bool, AV.str, ivs, take, frameOf, firstRegion, refsA, refsL, one, cellsA, floatOk, apartT, List.map, if_true, if_false, E_P, E_glob0, E_glob1, reduceCtorEq, beq_self_eq_true, decide_true, decide_false, ↓reduceIte, Nat.reduceEqDiff, cond_true, cond_false, or_true, true_or, or_false, false_or, and_true, true_and, and_self, false_and, and_false, not_true, not_false_iff, Nat.reduceAdd, Nat.reduceSub, Nat.reduceMul, Nat.reduceLT, Nat.reduceLeDiff, Int.reduceToNat, Int.reduceLT, Int.reduceLE, Option.getD, Int.reduceMul, Int.reduceAdd, List.drop, List.take, Nat.reduceBEq, List.isEmpty, Int.reduceEq, Int.reduceNe, Int.reduceNeg, Int.reduceGT, Int.reduceGE, beq_true, beq_false, UInt8.reduceToNat, eqE, eq_self, foldE, maxE, minE, eq_T, eq_F, ndec, odec, adec, sdec, fillA, over, chop, List.replicate, leavesOk, leafOk, cellsEq, cellEq, E_ext, E_byref, en12, bs22, bs24, hrow, rowsI_len, rows64_len, hd, hpo, hpu, h1, h2, h3, Nat.mul_one, show ∀ B fr H, execT E B 12 (Code.loop _) fr H = rlG E B 12 (loopAt Tryd.f12 1) (gcn B (norm [1, 2, 3, 5, 31, 32, 33] fr) H) from fun B fr H => rl_intro rfl mt12_12 mb12_12 zf12_12 hd12_12 fr H]
          refine ⟨_, _, _, rfl, ?_⟩
          exact ⟨rfl, rfl, rfl, rfl, rfl⟩
        · rw [if_neg (by omega)]
          rcases hrg (d - po + pu) with ⟨out', g1, g2, g3⟩ | ⟨g1, out', g3⟩
          · rw [g1]
            simp only
            obtain ⟨fr, ex, H', e, hh⟩ := ih out' g2 (dSet_r (by omega) xs out out' g1 hr)
            refine ⟨fr, ex, H', Eq.trans ?_ e, hh⟩
            clear e hh ih hrg
            simp (disch := first | omega | (simp only [List.length_append, List.length_map, List.length_set, List.length_cons, List.length_nil, List.length_take, List.length_drop, rowsI_len, rows64_len]; omega)) only [va0, va1, va2, va3, va4, va5, va6, va7, va8, va9, va10, va11, va12, va13, va14, va15, vb0, vb1, vb2, vb3, w_i8, w_u8, w_i16, w_u16, w_i32, w_u32, w_i64, w_u64, lt_T, lt_F, le_T, le_F, nlt_T, nlt_F, nle_T, nle_F, List.take_of_length_le, gB, gcW, gcR, posIn, renA, renL, Chunk.ren, Chunk.refs, evOpD, touchD, stepC, isFresh, nFresh, freshOf, mkR, hole, evL, evH, opd, get, putD, ofVal, cellOf, loadE, behind, lenE, idxAddrE, idxE, addPtr, intE, strE, unE, convE, AV.int, AV.bool, AV.str, ivs, take, frameOf, firstRegion, refsA, refsL, one, cellsA, floatOk, apartT, List.map, if_true, if_false, E_P, E_glob0, E_glob1, reduceCtorEq, beq_self_eq_true, decide_true, decide_false, ↓reduceIte, Nat.reduceEqDiff, cond_true, cond_false, or_true, true_or, or_false, false_or, and_true, true_and, and_self, false_and, and_false, not_true, not_false_iff, Nat.reduceAdd, Nat.reduceSub, Nat.reduceMul, Nat.reduceLT, Nat.reduceLeDiff, Int.reduceToNat, Int.reduceLT, Int.reduceLE, Option.getD, Int.reduceMul, Int.reduceAdd, List.drop, List.take, Nat.reduceBEq, List.isEmpty, Int.reduceEq, Int.reduceNe, Int.reduceNeg, Int.reduceGT, Int.reduceGE, beq_true, beq_false, UInt8.reduceToNat, eqE, eq_self, foldE, maxE, minE, eq_T, eq_F, ndec, odec, adec, sdec, fillA, over, chop, List.replicate, leavesOk, leafOk, cellsEq, cellEq, E_ext, E_byref, en12, bs22, bs24, hrow, rowsI_len, rows64_len, hd, hpo, hpu, h1, h2, h3, Nat.mul_one, ik24, hsq, g3, show ∀ B fr H, execT E B 12 (Code.rangeFunc _ _ _ _) fr H = rgO (rdF E 12 (rfAt Tryd.f12 0)) 73 fr H (seqE E H (opd E fr _)) from fun B fr H => rf_intro rfl rfl fr H, show ∀ B fr H, execT E B 12 (Code.loop _) fr H = rlG E B 12 (loopAt Tryd.f12 1) (gcn B (norm [1, 2, 3, 5, 31, 32, 33] fr) H) from fun B fr H => rl_intro rfl mt12_12 mb12_12 zf12_12 hd12_12 fr H]
          · rw [g1]
            simp only
            clear ih hrg
            simp (disch := first | omega | (simp only [List.length_append, List.length_map, List.length_set, List.length_cons, List.length_nil, List.length_take, List.length_drop, rowsI_len, rows64_len]; omega)) only [va0, va1, va2, va3, va4, va5, va6, va7, va8, va9, va10, va11, va12, va13, va14, va15, vb0, vb1, vb2, vb3, w_i8, w_u8, w_i16, w_u16, w_i32, w_u32, w_i64, w_u64, lt_T, lt_F, le_T, le_F, nlt_T, nlt_F, nle_T, nle_F, List.take_of_length_le, gB, gcW, gcR, posIn, renA, renL, Chunk.ren, Chunk.refs, evOpD, touchD, stepC, isFresh, nFresh, freshOf, mkR, hole, evL, evH, opd, get, putD, ofVal, cellOf, loadE, behind, lenE, idxAddrE, idxE, addPtr, intE, strE, unE, convE, AV.int, AV.bool, AV.str, ivs, take, frameOf, firstRegion, refsA, refsL, one, cellsA, floatOk, apartT, List.map, if_true, if_false, E_P, E_glob0, E_glob1, reduceCtorEq, beq_self_eq_true, decide_true, decide_false, ↓reduceIte, Nat.reduceEqDiff, cond_true, cond_false, or_true, true_or, or_false, false_or, and_true, true_and, and_self, false_and, and_false, not_true, not_false_iff, Nat.reduceAdd, Nat.reduceSub, Nat.reduceMul, Nat.reduceLT, Nat.reduceLeDiff, Int.reduceToNat, Int.reduceLT, Int.reduceLE, Option.getD, Int.reduceMul, Int.reduceAdd, List.drop, List.take, Nat.reduceBEq, List.isEmpty, Int.reduceEq, Int.reduceNe, Int.reduceNeg, Int.reduceGT, Int.reduceGE, beq_true, beq_false, UInt8.reduceToNat, eqE, eq_self, foldE, maxE, minE, eq_T, eq_F, ndec, odec, adec, sdec, fillA, over, chop, List.replicate, leavesOk, leafOk, cellsEq, cellEq, E_ext, E_byref, en12, bs22, bs24, hrow, rowsI_len, rows64_len, hd, hpo, hpu, h1, h2, h3, Nat.mul_one, ik24, hsq, g3, show ∀ B fr H, execT E B 12 (Code.rangeFunc _ _ _ _) fr H = rgO (rdF E 12 (rfAt Tryd.f12 0)) 73 fr H (seqE E H (opd E fr _)) from fun B fr H => rf_intro rfl rfl fr H, show ∀ B fr H, execT E B 12 (Code.loop _) fr H = rlG E B 12 (loopAt Tryd.f12 1) (gcn B (norm [1, 2, 3, 5, 31, 32, 33] fr) H) from fun B fr H => rl_intro rfl mt12_12 mb12_12 zf12_12 hd12_12 fr H]
            refine ⟨_, _, _, rfl, ?_⟩
            exact ⟨rfl, rfl, rfl, rfl, rfl⟩
  · obtain rfl : k = l.length := by omega
    rw [List.drop_length, dRun]
    simp (disch := first | omega | (simp only [List.length_append, List.length_map, List.length_set, List.length_cons, List.length_nil, List.length_take, List.length_drop, rows64_len, rowsI_len]; omega)) only [va0, va1, va2, va3, va4, va5, va6, va7, va8, va9, va10, va11, va12, va13, va14, va15, vb0, vb1, vb2, vb3, w_i8, w_u8, w_i16, w_u16, w_i32, w_u32, w_i64, w_u64, lt_T, lt_F, le_T, le_F, nlt_T, nlt_F, nle_T, nle_F, List.take_of_length_le, gB, gcW, gcR, posIn, renA, renL, Chunk.ren, Chunk.refs, evOpD, touchD, stepC, isFresh, nFresh, freshOf, mkR, hole, evL, evH, opd, get, putD, ofVal, cellOf, loadE, behind, lenE, idxAddrE, idxE, addPtr, intE, strE, unE, convE, AV.int, AV.bool, AV.str, ivs, take, frameOf, firstRegion, refsA, refsL, one, cellsA, floatOk, apartT, List.map, if_true, if_false, E_P, E_glob0, E_glob1, reduceCtorEq, beq_self_eq_true, decide_true, decide_false, ↓reduceIte, Nat.reduceEqDiff, cond_true, cond_false, or_true, true_or, or_false, false_or, and_true, true_and, and_self, false_and, and_false, not_true, not_false_iff, Nat.reduceAdd, Nat.reduceSub, Nat.reduceMul, Nat.reduceLT, Nat.reduceLeDiff, Int.reduceToNat, Int.reduceLT, Int.reduceLE, Option.getD, Int.reduceMul, Int.reduceAdd, List.drop, List.take, Nat.reduceBEq, List.isEmpty, Int.reduceEq, Int.reduceNe, Int.reduceNeg, Int.reduceGT, Int.reduceGE, beq_true, beq_false, UInt8.reduceToNat, eqE, eq_self, foldE, maxE, minE, eq_T, eq_F, ndec, odec, adec, sdec, fillA, over, chop, List.replicate, leavesOk, leafOk, cellsEq, cellEq, E_ext, E_byref, en12, bs22, bs24, rows64_len, rowsI_len, show ∀ B fr H, execT E B 12 (Code.loop _) fr H = rlG E B 12 (loopAt Tryd.f12 1) (gcn B (norm [1, 2, 3, 5, 31, 32, 33] fr) H) from fun B fr H => rl_intro rfl mt12_12 mb12_12 zf12_12 hd12_12 fr H]
    exact ⟨_, _, _, rfl, rfl, ho, rfl, rfl, rfl, rfl, rfl⟩
termination_by l.length - k
end Go.VI

namespace Go.VI
open Go.Proofs
set_option maxRecDepth 100000
set_option linter.unusedSimpArgs false
set_option linter.unusedVariables false
set_option maxHeartbeats 4000000
theorem rows64_take (l : List Int) (k : Nat) : (rows64 l).take k = rows64 (l.take k) := by simp [rows64, List.map_take]
theorem chkL_ok {n : Int} : ∀ (l : List Ins) (k : Nat), chkL n k l = 0 → ∀ (j : Nat) (h : j < l.length), chk1 n ((k + j : Nat)) l[j] = 0
  | [], k, _, j, h => by simp at h
  | p :: r, k, hc, j, h => by
    simp only [chkL] at hc
    split at hc
    · rename_i h1
      cases j with
      | zero => simpa using h1
      | succ j =>
        have := chkL_ok r (k + 1) hc j (by simpa using h)
        simpa [Nat.add_assoc, Nat.add_comm 1 j] using this
    · rename_i h1
      exact absurd hc h1
theorem check_len {l : List Ins} (h : checkI l = 0) : l.length ≤ 500 := by
  unfold checkI at h
  split at h
  · cases h
  · omega
theorem check_ok {l : List Ins} (h : checkI l = 0) (j : Nat) (hj : j < l.length) : chk1 l.length j l[j] = 0 := by
  unfold checkI at h
  split at h
  · cases h
  · simpa using chkL_ok l 0 h j hj
theorem c12 (l : List Ins) (hl : (l.length : Int) < 9223372036854775808) : ∃ L, callT E 12 [.i (.sl 2 (rowsI l) false)] [] = some (.tup [.i (.sl 1 (rows64 (depthsS l).1) false), .i (.v (.int .i64 (depthsS l).2))], L) := by
  have hC := fun H => ik23 l hl H
  unfold depthsS
  by_cases h0 : checkI l = 0
  rotate_left
  · rw [if_neg h0]
    generalize checkI l = q at *
    simp only
    have hz : rows64 [] = [] := rfl
    rw [hz]
    rw [callT_eq Tryd.func12 rfl fok12 (by simp [Tryd.ntmps12])]
    simp (disch := first | omega | (simp only [List.length_append, List.length_map, List.length_set, List.length_cons, List.length_nil, List.length_take, List.length_drop]; omega)) only [va0, va1, va2, va3, va4, va5, va6, va7, va8, va9, va10, va11, va12, va13, va14, va15, vb0, vb1, vb2, vb3, w_i8, w_u8, w_i16, w_u16, w_i32, w_u32, w_i64, w_u64, lt_T, lt_F, le_T, le_F, nlt_T, nlt_F, nle_T, nle_F, List.take_of_length_le, gB, gcW, gcR, posIn, renA, renL, Chunk.ren, Chunk.refs, evOpD, touchD, stepC, isFresh, nFresh, freshOf, mkR, hole, evL, evH, opd, get, putD, ofVal, cellOf, loadE, behind, lenE, idxAddrE, idxE, addPtr, intE, strE, unE, convE, AV.int, AV.bool, AV.str, ivs, take, frameOf, firstRegion, refsA, refsL, one, cellsA, floatOk, apartT, List.map, if_true, if_false, E_P, E_glob0, E_glob1, reduceCtorEq, beq_self_eq_true, decide_true, decide_false, ↓reduceIte, Nat.reduceEqDiff, cond_true, cond_false, or_true, true_or, or_false, false_or, and_true, true_and, and_self, false_and, and_false, not_true, not_false_iff, Nat.reduceAdd, Nat.reduceSub, Nat.reduceMul, Nat.reduceLT, Nat.reduceLeDiff, Int.reduceToNat, Int.reduceLT, Int.reduceLE, Option.getD, Int.reduceMul, Int.reduceAdd, List.drop, List.take, Nat.reduceBEq, List.isEmpty, Int.reduceEq, Int.reduceNe, Int.reduceNeg, Int.reduceGT, Int.reduceGE, beq_true, beq_false, UInt8.reduceToNat, eqE, eq_self, foldE, maxE, minE, eq_T, eq_F, ndec, odec, adec, sdec, fillA, over, chop, List.replicate, leavesOk, leafOk, cellsEq, cellEq, E_ext, E_byref, en12, bs22, bs24, hC, h0]
    exact ⟨_, rfl⟩
  · rw [if_pos h0]
    rw [h0] at hC
    have h5 := check_len h0
    have hnn : ((l.length : Int) + 1).toNat = l.length + 1 := by omega
    obtain ⟨fr0, e0, f1, f2, f3, f5⟩ := l12_0 l (l.length + 1) (by omega) 0 (Nat.zero_le _)
    rw [Nat.sub_zero, List.replicate_zero, List.nil_append] at e0
    have e0' : rl E 0 12 (loopAt Tryd.f12 0) [(1, .ptr 0 0 0 0), (2, .ptr 1 0 0 0), (3, .ptr 2 0 0 0), (5, .ptr 3 0 0 0), (21, .i (.v (.int .i64 ((l.length + 1 : Nat))))), (22, .i (.v (.int .i64 (0))))] [.box [.i (.sl 2 (rowsI l) false)], .box [.i (.sl 0 [] true)], .box [.i (.v (.int .i64 0))], .box [.ref 4 0 0 (l.length + 1)], .sl 1 0 ([.v (.int .i64 0)] :: rows64 (List.replicate l.length 0)) false] = _ := e0
    have hs : (List.replicate (l.length + 1) (-1 : Int)).set 0 0 = 0 :: List.replicate l.length (-1) := by rw [List.replicate_succ]; rfl
    have hrow : (rows64 (List.replicate (l.length + 1) (-1)))[0]? = some [.v (.int .i64 (-1))] := by rw [List.replicate_succ]; rfl
    obtain ⟨fr1, ex1, H1, e1, hh⟩ := l12_1 l h5 (l.length + 1) rfl (check_ok h0) 0 (Nat.zero_le _) (0 :: List.replicate l.length (-1)) (by simp) (fun x hx => by
      rcases List.mem_cons.1 hx with rfl | hx
      · omega
      · have := List.eq_of_mem_replicate hx; omega)
    rw [List.drop_zero] at hh
    have e1' : rl E 0 12 (loopAt Tryd.f12 1) [(1, .ptr 0 0 0 0), (2, .ptr 1 0 0 0), (3, .ptr 2 0 0 0), (5, .ptr 3 0 0 0), (31, .i (.sl 2 (rowsI l) false)), (32, .i (.v (.int .i64 l.length))), (33, .i (.v (.int .i64 (0))))] [.box [.i (.sl 2 (rowsI l) false)], .box [.i (.sl 0 [] true)], .box [.i (.v (.int .i64 0))], .box [.ref 4 0 0 ((l.length + 1 : Nat))], .sl 1 0 (rows64 (0 :: List.replicate l.length (-1))) false] = _ := e1
    rw [← hs] at e1'
    clear e0 e1
    cases hd : dRun l.length 0 l (0 :: List.replicate l.length (-1)) with
    | none =>
      rw [hd] at hh
      obtain ⟨rfl, g1, g2, g3, g4⟩ := hh
      simp only
      have hz : rows64 [] = [] := rfl
      rw [hz]
      generalize List.replicate (l.length + 1) (-1 : Int) = o1 at *
      clear hs
      rw [callT_eq Tryd.func12 rfl fok12 (by simp [Tryd.ntmps12])]
      simp (disch := first | omega | (simp only [List.length_append, List.length_map, List.length_set, List.length_cons, List.length_nil, List.length_take, List.length_drop, rowsI_len, rows64_len]; omega)) only [va0, va1, va2, va3, va4, va5, va6, va7, va8, va9, va10, va11, va12, va13, va14, va15, vb0, vb1, vb2, vb3, w_i8, w_u8, w_i16, w_u16, w_i32, w_u32, w_i64, w_u64, lt_T, lt_F, le_T, le_F, nlt_T, nlt_F, nle_T, nle_F, List.take_of_length_le, gB, gcW, gcR, posIn, renA, renL, Chunk.ren, Chunk.refs, evOpD, touchD, stepC, isFresh, nFresh, freshOf, mkR, hole, evL, evH, opd, get, putD, ofVal, cellOf, loadE, behind, lenE, idxAddrE, idxE, addPtr, intE, strE, unE, convE, AV.int, AV.bool, AV.str, ivs, take, frameOf, firstRegion, refsA, refsL, one, cellsA, floatOk, apartT, List.map, if_true, if_false, E_P, E_glob0, E_glob1, reduceCtorEq, beq_self_eq_true, decide_true, decide_false, ↓reduceIte, Nat.reduceEqDiff, cond_true, cond_false, or_true, true_or, or_false, false_or, and_true, true_and, and_self, false_and, and_false, not_true, not_false_iff, Nat.reduceAdd, Nat.reduceSub, Nat.reduceMul, Nat.reduceLT, Nat.reduceLeDiff, Int.reduceToNat, Int.reduceLT, Int.reduceLE, Option.getD, Int.reduceMul, Int.reduceAdd, List.drop, List.take, Nat.reduceBEq, List.isEmpty, Int.reduceEq, Int.reduceNe, Int.reduceNeg, Int.reduceGT, Int.reduceGE, beq_true, beq_false, UInt8.reduceToNat, eqE, eq_self, foldE, maxE, minE, eq_T, eq_F, ndec, odec, adec, sdec, fillA, over, chop, List.replicate, leavesOk, leafOk, cellsEq, cellEq, E_ext, E_byref, en12, bs22, bs24, hC, rowsI_len, rows64_len, rows64_rep, rows64_set, hnn, hrow, e0', f1, f2, f3, f5, e1', g1, g2, g3, g4, show ∀ B fr H, execT E B 12 (Code.loop _) fr H = rlG E B 12 (loopAt Tryd.f12 0) (gcn B (norm [1, 2, 3, 5, 21, 22] fr) H) from fun B fr H => rl_intro rfl mt12_6 mb12_6 zf12_6 hd12_6 fr H, show ∀ B fr H, execT E B 12 (Code.loop _) fr H = rlG E B 12 (loopAt Tryd.f12 1) (gcn B (norm [1, 2, 3, 5, 31, 32, 33] fr) H) from fun B fr H => rl_intro rfl mt12_12 mb12_12 zf12_12 hd12_12 fr H]
      exact ⟨_, rfl⟩
    | some out =>
      rw [hd] at hh
      obtain ⟨rfl, ho, rfl, g1, g2, g3, g5⟩ := hh
      simp only
      generalize List.replicate (l.length + 1) (-1 : Int) = o1 at *
      clear hs
      rw [callT_eq Tryd.func12 rfl fok12 (by simp [Tryd.ntmps12])]
      simp (disch := first | omega | (simp only [List.length_append, List.length_map, List.length_set, List.length_cons, List.length_nil, List.length_take, List.length_drop, rowsI_len, rows64_len]; omega)) only [va0, va1, va2, va3, va4, va5, va6, va7, va8, va9, va10, va11, va12, va13, va14, va15, vb0, vb1, vb2, vb3, w_i8, w_u8, w_i16, w_u16, w_i32, w_u32, w_i64, w_u64, lt_T, lt_F, le_T, le_F, nlt_T, nlt_F, nle_T, nle_F, List.take_of_length_le, gB, gcW, gcR, posIn, renA, renL, Chunk.ren, Chunk.refs, evOpD, touchD, stepC, isFresh, nFresh, freshOf, mkR, hole, evL, evH, opd, get, putD, ofVal, cellOf, loadE, behind, lenE, idxAddrE, idxE, addPtr, intE, strE, unE, convE, AV.int, AV.bool, AV.str, ivs, take, frameOf, firstRegion, refsA, refsL, one, cellsA, floatOk, apartT, List.map, if_true, if_false, E_P, E_glob0, E_glob1, reduceCtorEq, beq_self_eq_true, decide_true, decide_false, ↓reduceIte, Nat.reduceEqDiff, cond_true, cond_false, or_true, true_or, or_false, false_or, and_true, true_and, and_self, false_and, and_false, not_true, not_false_iff, Nat.reduceAdd, Nat.reduceSub, Nat.reduceMul, Nat.reduceLT, Nat.reduceLeDiff, Int.reduceToNat, Int.reduceLT, Int.reduceLE, Option.getD, Int.reduceMul, Int.reduceAdd, List.drop, List.take, Nat.reduceBEq, List.isEmpty, Int.reduceEq, Int.reduceNe, Int.reduceNeg, Int.reduceGT, Int.reduceGE, beq_true, beq_false, UInt8.reduceToNat, eqE, eq_self, foldE, maxE, minE, eq_T, eq_F, ndec, odec, adec, sdec, fillA, over, chop, List.replicate, leavesOk, leafOk, cellsEq, cellEq, E_ext, E_byref, en12, bs22, bs24, hC, rowsI_len, rows64_len, rows64_rep, rows64_set, rows64_take, hnn, hrow, e0', f1, f2, f3, f5, e1', g1, g2, g3, g5, show ∀ B fr H, execT E B 12 (Code.loop _) fr H = rlG E B 12 (loopAt Tryd.f12 0) (gcn B (norm [1, 2, 3, 5, 21, 22] fr) H) from fun B fr H => rl_intro rfl mt12_6 mb12_6 zf12_6 hd12_6 fr H, show ∀ B fr H, execT E B 12 (Code.loop _) fr H = rlG E B 12 (loopAt Tryd.f12 1) (gcn B (norm [1, 2, 3, 5, 31, 32, 33] fr) H) from fun B fr H => rl_intro rfl mt12_12 mb12_12 zf12_12 hd12_12 fr H]
      exact ⟨_, rfl⟩
theorem ik12 (l : List Ins) (hl : (l.length : Int) < 9223372036854775808) (H : Hp) : isoK E (callT E) 12 [.i (.sl 2 (rowsI l) false)] H = some (.tup [.i (.sl 1 (rows64 (depthsS l).1) false), .i (.v (.int .i64 (depthsS l).2))], H) := isoK_val rfl rfl rfl (c12 l hl)
theorem c15 (l : List Ins) (hl : (l.length : Int) < 9223372036854775808) : ∃ L, callT E 15 [.i (.sl 2 (rowsI l) false)] [] = some (.i (.v (.int .i64 (depthsS l).2)), L) := by
  have h := fun H => ik12 l hl H
  generalize depthsS l = q at *
  rw [callT_eq Tryd.func15 rfl fok15 (by simp [Tryd.ntmps15])]
  simp (disch := first | omega | (simp only [List.length_append, List.length_map, List.length_set, List.length_cons, List.length_nil, List.length_take, List.length_drop]; omega)) only [va0, va1, va2, va3, va4, va5, va6, va7, va8, va9, va10, va11, va12, va13, va14, va15, vb0, vb1, vb2, vb3, w_i8, w_u8, w_i16, w_u16, w_i32, w_u32, w_i64, w_u64, lt_T, lt_F, le_T, le_F, nlt_T, nlt_F, nle_T, nle_F, List.take_of_length_le, gB, gcW, gcR, posIn, renA, renL, Chunk.ren, Chunk.refs, evOpD, touchD, stepC, isFresh, nFresh, freshOf, mkR, hole, evL, evH, opd, get, putD, ofVal, cellOf, loadE, behind, lenE, idxAddrE, idxE, addPtr, intE, strE, unE, convE, AV.int, AV.bool, AV.str, ivs, take, frameOf, firstRegion, refsA, refsL, one, cellsA, floatOk, apartT, List.map, if_true, if_false, E_P, E_glob0, E_glob1, reduceCtorEq, beq_self_eq_true, decide_true, decide_false, ↓reduceIte, Nat.reduceEqDiff, cond_true, cond_false, or_true, true_or, or_false, false_or, and_true, true_and, and_self, false_and, and_false, not_true, not_false_iff, Nat.reduceAdd, Nat.reduceSub, Nat.reduceMul, Nat.reduceLT, Nat.reduceLeDiff, Int.reduceToNat, Int.reduceLT, Int.reduceLE, Option.getD, Int.reduceMul, Int.reduceAdd, List.drop, List.take, Nat.reduceBEq, List.isEmpty, Int.reduceEq, Int.reduceNe, Int.reduceNeg, Int.reduceGT, Int.reduceGE, beq_true, beq_false, UInt8.reduceToNat, eqE, eq_self, foldE, maxE, minE, eq_T, eq_F, ndec, odec, adec, sdec, fillA, over, chop, List.replicate, leavesOk, leafOk, cellsEq, cellEq, E_ext, E_byref, en15, bs22, h]
  exact ⟨_, rfl⟩
theorem ik15 (l : List Ins) (hl : (l.length : Int) < 9223372036854775808) (H : Hp) : isoK E (callT E) 15 [.i (.sl 2 (rowsI l) false)] H = some (.i (.v (.int .i64 (depthsS l).2)), H) := isoK_val rfl rfl rfl (c15 l hl)
end Go.VI

namespace Go.VI
open Go.Proofs
set_option maxRecDepth 100000
set_option linter.unusedSimpArgs false
set_option linter.unusedVariables false
set_option maxHeartbeats 4000000
theorem tabs_all : ((List.range 21).all fun k => (match call E 60 21 [.i (.v (.int .i64 k))] [] with | some (.i (.v (.int .i64 x)), _) => x == popS k | _ => false) &&
    (match call E 60 22 [.i (.v (.int .i64 k))] [] with | some (.i (.v (.int .i64 x)), _) => x == pushS k | _ => false)) = true := by kernel_rfl
theorem c21 (op : Int) (h0 : 0 ≤ op) (h1 : op ≤ 20) : ∃ L, callT E 21 [.i (.v (.int .i64 op))] [] = some (.i (.v (.int .i64 (popS op))), L) := by
  obtain ⟨n, rfl⟩ := Int.eq_ofNat_of_zero_le h0
  have := (List.all_eq_true.1 tabs_all) n (by simp; omega)
  rw [Bool.and_eq_true] at this
  have := this.1
  split at this
  · rename_i x L hL
    rw [beq_iff_eq] at this
    subst this
    exact ⟨L, callT_of hL⟩
  · cases this
theorem c22 (op : Int) (h0 : 0 ≤ op) (h1 : op ≤ 20) : ∃ L, callT E 22 [.i (.v (.int .i64 op))] [] = some (.i (.v (.int .i64 (pushS op))), L) := by
  obtain ⟨n, rfl⟩ := Int.eq_ofNat_of_zero_le h0
  have := (List.all_eq_true.1 tabs_all) n (by simp; omega)
  rw [Bool.and_eq_true] at this
  have := this.2
  split at this
  · rename_i x L hL
    rw [beq_iff_eq] at this
    subst this
    exact ⟨L, callT_of hL⟩
  · cases this
theorem ik21 (op : Int) (h0 : 0 ≤ op) (h1 : op ≤ 20) (H : Hp) : isoK E (callT E) 21 [.i (.v (.int .i64 op))] H = some (.i (.v (.int .i64 (popS op))), H) := isoK_val rfl rfl rfl (c21 op h0 h1)
theorem ik22 (op : Int) (h0 : 0 ≤ op) (h1 : op ≤ 20) (H : Hp) : isoK E (callT E) 22 [.i (.v (.int .i64 op))] H = some (.i (.v (.int .i64 (pushS op))), H) := isoK_val rfl rfl rfl (c22 op h0 h1)
theorem c26 (l : List Ins) (k : Nat) (hk : k < l.length) (hl : l.length < 100000) : ∃ L, callT E 26 [.i (.sl 2 (rowsI l) false), .i (.v (.int .i64 k))] [] = some (.i (.sl 1 (rows64 (sucL l[k].1 l[k].2 k)) false), L) := by
  have hrow := rowsI_at hk
  obtain ⟨op, arg, hp⟩ : ∃ op arg, l[k] = (op, arg) := ⟨_, _, rfl⟩
  rw [hp] at hrow ⊢
  simp only at hrow ⊢
  by_cases h0 : op = 0
  · subst h0
    rw [show rows64 (sucL 0 arg k) = [] by simp [sucL, rows64]]
    rw [callT_eq Tryd.func26 rfl fok26 (by simp [Tryd.ntmps26])]; simp (disch := first | omega | (simp only [List.length_append, List.length_map, List.length_set, List.length_cons, List.length_nil, List.length_take, List.length_drop, rowsI_len]; omega)) only [va0, va1, va2, va3, va4, va5, va6, va7, va8, va9, va10, va11, va12, va13, va14, va15, vb0, vb1, vb2, vb3, w_i8, w_u8, w_i16, w_u16, w_i32, w_u32, w_i64, w_u64, lt_T, lt_F, le_T, le_F, nlt_T, nlt_F, nle_T, nle_F, List.take_of_length_le, gB, gcW, gcR, posIn, renA, renL, Chunk.ren, Chunk.refs, evOpD, touchD, stepC, isFresh, nFresh, freshOf, mkR, hole, evL, evH, opd, get, putD, ofVal, cellOf, loadE, behind, lenE, idxAddrE, idxE, addPtr, intE, strE, unE, convE, AV.int, AV.bool, AV.str, ivs, take, frameOf, firstRegion, refsA, refsL, one, cellsA, floatOk, apartT, List.map, if_true, if_false, E_P, E_glob0, E_glob1, reduceCtorEq, beq_self_eq_true, decide_true, decide_false, ↓reduceIte, Nat.reduceEqDiff, cond_true, cond_false, or_true, true_or, or_false, false_or, and_true, true_and, and_self, false_and, and_false, not_true, not_false_iff, Nat.reduceAdd, Nat.reduceSub, Nat.reduceMul, Nat.reduceLT, Nat.reduceLeDiff, Int.reduceToNat, Int.reduceLT, Int.reduceLE, Option.getD, Int.reduceMul, Int.reduceAdd, List.drop, List.take, Nat.reduceBEq, List.isEmpty, Int.reduceEq, Int.reduceNe, Int.reduceNeg, Int.reduceGT, Int.reduceGE, beq_true, beq_false, UInt8.reduceToNat, eqE, eq_self, foldE, maxE, minE, eq_T, eq_F, ndec, odec, adec, sdec, fillA, over, chop, List.replicate, leavesOk, leafOk, cellsEq, cellEq, E_ext, E_byref, en26, bs22, bs24, hrow, rowsI_len, List.length_nil]; exact ⟨_, rfl⟩
  · by_cases h17 : op = 17
    · subst h17
      rw [show rows64 (sucL 17 arg k) = [[.v (.int .i64 arg)]] by simp [sucL, rows64]]
      rw [callT_eq Tryd.func26 rfl fok26 (by simp [Tryd.ntmps26])]; simp (disch := first | omega | (simp only [List.length_append, List.length_map, List.length_set, List.length_cons, List.length_nil, List.length_take, List.length_drop, rowsI_len]; omega)) only [va0, va1, va2, va3, va4, va5, va6, va7, va8, va9, va10, va11, va12, va13, va14, va15, vb0, vb1, vb2, vb3, w_i8, w_u8, w_i16, w_u16, w_i32, w_u32, w_i64, w_u64, lt_T, lt_F, le_T, le_F, nlt_T, nlt_F, nle_T, nle_F, List.take_of_length_le, gB, gcW, gcR, posIn, renA, renL, Chunk.ren, Chunk.refs, evOpD, touchD, stepC, isFresh, nFresh, freshOf, mkR, hole, evL, evH, opd, get, putD, ofVal, cellOf, loadE, behind, lenE, idxAddrE, idxE, addPtr, intE, strE, unE, convE, AV.int, AV.bool, AV.str, ivs, take, frameOf, firstRegion, refsA, refsL, one, cellsA, floatOk, apartT, List.map, if_true, if_false, E_P, E_glob0, E_glob1, reduceCtorEq, beq_self_eq_true, decide_true, decide_false, ↓reduceIte, Nat.reduceEqDiff, cond_true, cond_false, or_true, true_or, or_false, false_or, and_true, true_and, and_self, false_and, and_false, not_true, not_false_iff, Nat.reduceAdd, Nat.reduceSub, Nat.reduceMul, Nat.reduceLT, Nat.reduceLeDiff, Int.reduceToNat, Int.reduceLT, Int.reduceLE, Option.getD, Int.reduceMul, Int.reduceAdd, List.drop, List.take, Nat.reduceBEq, List.isEmpty, Int.reduceEq, Int.reduceNe, Int.reduceNeg, Int.reduceGT, Int.reduceGE, beq_true, beq_false, UInt8.reduceToNat, eqE, eq_self, foldE, maxE, minE, eq_T, eq_F, ndec, odec, adec, sdec, fillA, over, chop, List.replicate, leavesOk, leafOk, cellsEq, cellEq, E_ext, E_byref, en26, bs22, bs24, hrow, rowsI_len, List.length_nil]; exact ⟨_, rfl⟩
    · by_cases h18 : op = 18
      · subst h18
        rw [show rows64 (sucL 18 arg k) = [[.v (.int .i64 (k + 1))], [.v (.int .i64 arg)]] by simp [sucL, rows64]]
        rw [callT_eq Tryd.func26 rfl fok26 (by simp [Tryd.ntmps26])]; simp (disch := first | omega | (simp only [List.length_append, List.length_map, List.length_set, List.length_cons, List.length_nil, List.length_take, List.length_drop, rowsI_len]; omega)) only [va0, va1, va2, va3, va4, va5, va6, va7, va8, va9, va10, va11, va12, va13, va14, va15, vb0, vb1, vb2, vb3, w_i8, w_u8, w_i16, w_u16, w_i32, w_u32, w_i64, w_u64, lt_T, lt_F, le_T, le_F, nlt_T, nlt_F, nle_T, nle_F, List.take_of_length_le, gB, gcW, gcR, posIn, renA, renL, Chunk.ren, Chunk.refs, evOpD, touchD, stepC, isFresh, nFresh, freshOf, mkR, hole, evL, evH, opd, get, putD, ofVal, cellOf, loadE, behind, lenE, idxAddrE, idxE, addPtr, intE, strE, unE, convE, AV.int, AV.bool, AV.str, ivs, take, frameOf, firstRegion, refsA, refsL, one, cellsA, floatOk, apartT, List.map, if_true, if_false, E_P, E_glob0, E_glob1, reduceCtorEq, beq_self_eq_true, decide_true, decide_false, ↓reduceIte, Nat.reduceEqDiff, cond_true, cond_false, or_true, true_or, or_false, false_or, and_true, true_and, and_self, false_and, and_false, not_true, not_false_iff, Nat.reduceAdd, Nat.reduceSub, Nat.reduceMul, Nat.reduceLT, Nat.reduceLeDiff, Int.reduceToNat, Int.reduceLT, Int.reduceLE, Option.getD, Int.reduceMul, Int.reduceAdd, List.drop, List.take, Nat.reduceBEq, List.isEmpty, Int.reduceEq, Int.reduceNe, Int.reduceNeg, Int.reduceGT, Int.reduceGE, beq_true, beq_false, UInt8.reduceToNat, eqE, eq_self, foldE, maxE, minE, eq_T, eq_F, ndec, odec, adec, sdec, fillA, over, chop, List.replicate, leavesOk, leafOk, cellsEq, cellEq, E_ext, E_byref, en26, bs22, bs24, hrow, rowsI_len, List.length_nil]; exact ⟨_, rfl⟩
      · rw [show rows64 (sucL op arg k) = [[.v (.int .i64 (k + 1))]] by simp [sucL, rows64, h0, h17, h18]]
        rw [callT_eq Tryd.func26 rfl fok26 (by simp [Tryd.ntmps26])]; simp (disch := first | omega | (simp only [List.length_append, List.length_map, List.length_set, List.length_cons, List.length_nil, List.length_take, List.length_drop, rowsI_len]; omega)) only [va0, va1, va2, va3, va4, va5, va6, va7, va8, va9, va10, va11, va12, va13, va14, va15, vb0, vb1, vb2, vb3, w_i8, w_u8, w_i16, w_u16, w_i32, w_u32, w_i64, w_u64, lt_T, lt_F, le_T, le_F, nlt_T, nlt_F, nle_T, nle_F, List.take_of_length_le, gB, gcW, gcR, posIn, renA, renL, Chunk.ren, Chunk.refs, evOpD, touchD, stepC, isFresh, nFresh, freshOf, mkR, hole, evL, evH, opd, get, putD, ofVal, cellOf, loadE, behind, lenE, idxAddrE, idxE, addPtr, intE, strE, unE, convE, AV.int, AV.bool, AV.str, ivs, take, frameOf, firstRegion, refsA, refsL, one, cellsA, floatOk, apartT, List.map, if_true, if_false, E_P, E_glob0, E_glob1, reduceCtorEq, beq_self_eq_true, decide_true, decide_false, ↓reduceIte, Nat.reduceEqDiff, cond_true, cond_false, or_true, true_or, or_false, false_or, and_true, true_and, and_self, false_and, and_false, not_true, not_false_iff, Nat.reduceAdd, Nat.reduceSub, Nat.reduceMul, Nat.reduceLT, Nat.reduceLeDiff, Int.reduceToNat, Int.reduceLT, Int.reduceLE, Option.getD, Int.reduceMul, Int.reduceAdd, List.drop, List.take, Nat.reduceBEq, List.isEmpty, Int.reduceEq, Int.reduceNe, Int.reduceNeg, Int.reduceGT, Int.reduceGE, beq_true, beq_false, UInt8.reduceToNat, eqE, eq_self, foldE, maxE, minE, eq_T, eq_F, ndec, odec, adec, sdec, fillA, over, chop, List.replicate, leavesOk, leafOk, cellsEq, cellEq, E_ext, E_byref, en26, bs22, bs24, hrow, rowsI_len, h0, h17, h18]; exact ⟨_, rfl⟩
theorem ik26 (l : List Ins) (k : Nat) (hk : k < l.length) (hl : l.length < 100000) (H : Hp) : isoK E (callT E) 26 [.i (.sl 2 (rowsI l) false), .i (.v (.int .i64 k))] H = some (.i (.sl 1 (rows64 (sucL l[k].1 l[k].2 k)) false), H) := isoK_val rfl rfl rfl (c26 l k hk hl)
end Go.VI

namespace Go.VI
open Go.Proofs
set_option maxRecDepth 100000
set_option linter.unusedSimpArgs false
set_option linter.unusedVariables false
set_option maxHeartbeats 4000000
theorem l13_0 (l : List Ins) (hl : l.length ≤ 500) (k : Nat) (hk : k ≤ l.length + 1) :
    ∃ fr, rl E 0 13 (loopAt Tryd.f13 0) [(0, .i (.sl 2 (rowsI l) false)), (5, .ref 0 0 0 k), (6, .i (.v (.int .i64 k)))] [.sl 1 0 (rows64 (List.replicate k (-1))) false] = some (.exit 0, fr, [.sl 1 0 (rows64 (List.replicate (l.length + 1) (-1))) false]) ∧ get 0 fr = .i (.sl 2 (rowsI l) false) ∧ get 5 fr = .ref 0 0 0 (l.length + 1) := by
  rw [rl_step (fn := Tryd.f13) (k := 0) rfl]
  by_cases hlt : k ≤ l.length
  · obtain ⟨fr, e, hh⟩ := l13_0 l hl (k + 1) (by omega)
    refine ⟨fr, Eq.trans ?_ e, hh⟩
    clear e hh
    have hs : List.replicate (k + 1) (-1 : Int) = List.replicate k (-1) ++ [-1] := by rw [List.replicate_succ']
    rw [hs]
    have hlen : (List.replicate k (-1 : Int)).length = k := List.length_replicate
    clear hs
    generalize List.replicate k (-1 : Int) = out at *
    subst hlen
    have ht : List.take out.length (rows64 out) = rows64 out := by rw [rows64_take, List.take_length]
    simp (disch := first | omega | (simp only [List.length_append, List.length_map, List.length_set, List.length_cons, List.length_nil, List.length_take, List.length_drop, rows64_len, rowsI_len]; omega)) only [va0, va1, va2, va3, va4, va5, va6, va7, va8, va9, va10, va11, va12, va13, va14, va15, vb0, vb1, vb2, vb3, w_i8, w_u8, w_i16, w_u16, w_i32, w_u32, w_i64, w_u64, lt_T, lt_F, le_T, le_F, nlt_T, nlt_F, nle_T, nle_F, List.take_of_length_le, gB, gcW, gcR, posIn, renA, renL, Chunk.ren, Chunk.refs, evOpD, touchD, stepC, isFresh, nFresh, freshOf, mkR, hole, evL, evH, opd, get, putD, ofVal, cellOf, loadE, behind, lenE, idxAddrE, idxE, addPtr, intE, strE, unE, convE, AV.int, AV.bool, AV.str, ivs, take, frameOf, firstRegion, refsA, refsL, one, cellsA, floatOk, apartT, List.map, if_true, if_false, E_P, E_glob0, E_glob1, reduceCtorEq, beq_self_eq_true, decide_true, decide_false, ↓reduceIte, Nat.reduceEqDiff, cond_true, cond_false, or_true, true_or, or_false, false_or, and_true, true_and, and_self, false_and, and_false, not_true, not_false_iff, Nat.reduceAdd, Nat.reduceSub, Nat.reduceMul, Nat.reduceLT, Nat.reduceLeDiff, Int.reduceToNat, Int.reduceLT, Int.reduceLE, Option.getD, Int.reduceMul, Int.reduceAdd, List.drop, List.take, Nat.reduceBEq, List.isEmpty, Int.reduceEq, Int.reduceNe, Int.reduceNeg, Int.reduceGT, Int.reduceGE, beq_true, beq_false, UInt8.reduceToNat, eqE, eq_self, foldE, maxE, minE, eq_T, eq_F, ndec, odec, adec, sdec, fillA, over, chop, List.replicate, leavesOk, leafOk, cellsEq, cellEq, E_ext, E_byref, en13, bs22, bs24, rows64_len, rowsI_len, rows64_snoc, ht, show ∀ B fr H, execT E B 13 (Code.loop _) fr H = rlM E B 13 (loopAt Tryd.f13 0) [0, 5, 6] [] (matF [(5, 1)] fr H).1 (matB [] (matF [(5, 1)] fr H).1 (matF [(5, 1)] fr H).2) from fun B fr H => rl_introM rfl mt13_6 mb13_6 zf13_6 hd13_6 fr H]
  · obtain rfl : k = l.length + 1 := by omega
    generalize List.replicate (l.length + 1) (-1 : Int) = out at *
    simp (disch := first | omega | (simp only [List.length_append, List.length_map, List.length_set, List.length_cons, List.length_nil, List.length_take, List.length_drop, rows64_len, rowsI_len]; omega)) only [va0, va1, va2, va3, va4, va5, va6, va7, va8, va9, va10, va11, va12, va13, va14, va15, vb0, vb1, vb2, vb3, w_i8, w_u8, w_i16, w_u16, w_i32, w_u32, w_i64, w_u64, lt_T, lt_F, le_T, le_F, nlt_T, nlt_F, nle_T, nle_F, List.take_of_length_le, gB, gcW, gcR, posIn, renA, renL, Chunk.ren, Chunk.refs, evOpD, touchD, stepC, isFresh, nFresh, freshOf, mkR, hole, evL, evH, opd, get, putD, ofVal, cellOf, loadE, behind, lenE, idxAddrE, idxE, addPtr, intE, strE, unE, convE, AV.int, AV.bool, AV.str, ivs, take, frameOf, firstRegion, refsA, refsL, one, cellsA, floatOk, apartT, List.map, if_true, if_false, E_P, E_glob0, E_glob1, reduceCtorEq, beq_self_eq_true, decide_true, decide_false, ↓reduceIte, Nat.reduceEqDiff, cond_true, cond_false, or_true, true_or, or_false, false_or, and_true, true_and, and_self, false_and, and_false, not_true, not_false_iff, Nat.reduceAdd, Nat.reduceSub, Nat.reduceMul, Nat.reduceLT, Nat.reduceLeDiff, Int.reduceToNat, Int.reduceLT, Int.reduceLE, Option.getD, Int.reduceMul, Int.reduceAdd, List.drop, List.take, Nat.reduceBEq, List.isEmpty, Int.reduceEq, Int.reduceNe, Int.reduceNeg, Int.reduceGT, Int.reduceGE, beq_true, beq_false, UInt8.reduceToNat, eqE, eq_self, foldE, maxE, minE, eq_T, eq_F, ndec, odec, adec, sdec, fillA, over, chop, List.replicate, leavesOk, leafOk, cellsEq, cellEq, E_ext, E_byref, en13, bs22, bs24, rows64_len, rowsI_len, show ∀ B fr H, execT E B 13 (Code.loop _) fr H = rlM E B 13 (loopAt Tryd.f13 0) [0, 5, 6] [] (matF [(5, 1)] fr H).1 (matB [] (matF [(5, 1)] fr H).1 (matF [(5, 1)] fr H).2) from fun B fr H => rl_introM rfl mt13_6 mb13_6 zf13_6 hd13_6 fr H]
    exact ⟨_, rfl, rfl, rfl⟩
termination_by l.length + 1 - k
def rP (l : List Ins) (n : Nat) (id : Nat) (fr : Fr) (ex : Ex) (H' : Hp) : Option (List Int) → Prop
  | some out' => ex = .exit id ∧ out'.length = n ∧ H' = [.sl 1 0 (rows64 out') false] ∧ get 0 fr = .i (.sl 2 (rowsI l) false) ∧ get 5 fr = .ref 0 0 0 n
  | none => ex = .ret ∧ get 2 fr = .i (.sl 0 [] true) ∧ get 3 fr = .i (.v (.int .i64 13))
theorem l13_2 (l : List Ins) (hl : l.length ≤ 500) (n : Nat) (hn : n = l.length + 1) (k : Int) (af : Int) (xs : List Int) (hxl : xs.length ≤ 2) (hx : ∀ x ∈ xs, 0 ≤ x ∧ x ≤ l.length) (j : Nat) (hj : j ≤ xs.length) (out : List Int) (ho : out.length = n) :
    ∃ fr ex H', rl E 0 13 (loopAt Tryd.f13 2) [(0, .i (.sl 2 (rowsI l) false)), (5, .ref 0 0 0 n), (7, .i (.v (.int .i64 k))), (8, .i (.v (.int .i64 af))), (9, .i (.sl 1 (rows64 xs) false)), (10, .i (.v (.int .i64 j)))] [.sl 1 0 (rows64 out) false] = some (ex, fr, H') ∧ rP l n 4 fr ex H' (dSet l.length af (xs.drop j) out) ∧ (ex = .exit 4 → get 7 fr = .i (.v (.int .i64 k))) := by
  rw [rl_step (fn := Tryd.f13) (k := 2) rfl]
  by_cases hlt : j < xs.length
  · have hrx := rows64_at hlt
    have hxx := hx xs[j] (List.getElem_mem _)
    rw [List.drop_eq_getElem_cons hlt, dSet]
    have ih := fun out ho => l13_2 l hl n hn k af xs hxl hx (j + 1) hlt out ho
    generalize xs[j] = x at *
    have hrow := rows64_get (l := out) (k := x.toNat) (by omega)
    have hcl : x < l.length → (x.toNat : Int) < n := fun h => by omega
    generalize hy : out.getD x.toNat 0 = y at *
    by_cases h1 : x < l.length
    · by_cases h2 : 0 ≤ y
      · by_cases h3 : y = af
        · rw [if_neg (fun h => h.2.2 h3)]
          subst h3
          obtain ⟨fr, ex, H', e, hh⟩ := ih (out.set x.toNat y) (by simpa using ho)
          refine ⟨fr, ex, H', Eq.trans ?_ e, hh⟩
          clear e hh ih
          simp (disch := first | omega | (simp only [List.length_append, List.length_map, List.length_set, List.length_cons, List.length_nil, List.length_take, List.length_drop, rows64_len, rowsI_len]; omega)) only [va0, va1, va2, va3, va4, va5, va6, va7, va8, va9, va10, va11, va12, va13, va14, va15, vb0, vb1, vb2, vb3, w_i8, w_u8, w_i16, w_u16, w_i32, w_u32, w_i64, w_u64, lt_T, lt_F, le_T, le_F, nlt_T, nlt_F, nle_T, nle_F, List.take_of_length_le, gB, gcW, gcR, posIn, renA, renL, Chunk.ren, Chunk.refs, evOpD, touchD, stepC, isFresh, nFresh, freshOf, mkR, hole, evL, evH, opd, get, putD, ofVal, cellOf, loadE, behind, lenE, idxAddrE, idxE, addPtr, intE, strE, unE, convE, AV.int, AV.bool, AV.str, ivs, take, frameOf, firstRegion, refsA, refsL, one, cellsA, floatOk, apartT, List.map, if_true, if_false, E_P, E_glob0, E_glob1, reduceCtorEq, beq_self_eq_true, decide_true, decide_false, ↓reduceIte, Nat.reduceEqDiff, cond_true, cond_false, or_true, true_or, or_false, false_or, and_true, true_and, and_self, false_and, and_false, not_true, not_false_iff, Nat.reduceAdd, Nat.reduceSub, Nat.reduceMul, Nat.reduceLT, Nat.reduceLeDiff, Int.reduceToNat, Int.reduceLT, Int.reduceLE, Option.getD, Int.reduceMul, Int.reduceAdd, List.drop, List.take, Nat.reduceBEq, List.isEmpty, Int.reduceEq, Int.reduceNe, Int.reduceNeg, Int.reduceGT, Int.reduceGE, beq_true, beq_false, UInt8.reduceToNat, eqE, eq_self, foldE, maxE, minE, eq_T, eq_F, ndec, odec, adec, sdec, fillA, over, chop, List.replicate, leavesOk, leafOk, cellsEq, cellEq, E_ext, E_byref, en13, bs22, bs24, rows64_len, rowsI_len, hrx, hrow, h1, h2, rows64_set, show ∀ B fr H, execT E B 13 (Code.loop _) fr H = rlM E B 13 (loopAt Tryd.f13 2) [0, 5, 7, 8, 9, 10] [] (matF [(5, 1)] fr H).1 (matB [] (matF [(5, 1)] fr H).1 (matF [(5, 1)] fr H).2) from fun B fr H => rl_introM rfl mt13_19 mb13_19 zf13_19 hd13_19 fr H]
        · rw [if_pos ⟨h1, h2, h3⟩]
          clear ih
          simp (disch := first | omega | (simp only [List.length_append, List.length_map, List.length_set, List.length_cons, List.length_nil, List.length_take, List.length_drop, rows64_len, rowsI_len]; omega)) only [va0, va1, va2, va3, va4, va5, va6, va7, va8, va9, va10, va11, va12, va13, va14, va15, vb0, vb1, vb2, vb3, w_i8, w_u8, w_i16, w_u16, w_i32, w_u32, w_i64, w_u64, lt_T, lt_F, le_T, le_F, nlt_T, nlt_F, nle_T, nle_F, List.take_of_length_le, gB, gcW, gcR, posIn, renA, renL, Chunk.ren, Chunk.refs, evOpD, touchD, stepC, isFresh, nFresh, freshOf, mkR, hole, evL, evH, opd, get, putD, ofVal, cellOf, loadE, behind, lenE, idxAddrE, idxE, addPtr, intE, strE, unE, convE, AV.int, AV.bool, AV.str, ivs, take, frameOf, firstRegion, refsA, refsL, one, cellsA, floatOk, apartT, List.map, if_true, if_false, E_P, E_glob0, E_glob1, reduceCtorEq, beq_self_eq_true, decide_true, decide_false, ↓reduceIte, Nat.reduceEqDiff, cond_true, cond_false, or_true, true_or, or_false, false_or, and_true, true_and, and_self, false_and, and_false, not_true, not_false_iff, Nat.reduceAdd, Nat.reduceSub, Nat.reduceMul, Nat.reduceLT, Nat.reduceLeDiff, Int.reduceToNat, Int.reduceLT, Int.reduceLE, Option.getD, Int.reduceMul, Int.reduceAdd, List.drop, List.take, Nat.reduceBEq, List.isEmpty, Int.reduceEq, Int.reduceNe, Int.reduceNeg, Int.reduceGT, Int.reduceGE, beq_true, beq_false, UInt8.reduceToNat, eqE, eq_self, foldE, maxE, minE, eq_T, eq_F, ndec, odec, adec, sdec, fillA, over, chop, List.replicate, leavesOk, leafOk, cellsEq, cellEq, E_ext, E_byref, en13, bs22, bs24, rows64_len, rowsI_len, hrx, hrow, h1, h2, h3, rows64_set, show ∀ B fr H, execT E B 13 (Code.loop _) fr H = rlM E B 13 (loopAt Tryd.f13 2) [0, 5, 7, 8, 9, 10] [] (matF [(5, 1)] fr H).1 (matB [] (matF [(5, 1)] fr H).1 (matF [(5, 1)] fr H).2) from fun B fr H => rl_introM rfl mt13_19 mb13_19 zf13_19 hd13_19 fr H]
          refine ⟨_, _, _, rfl, ?_⟩
          exact ⟨⟨rfl, rfl, rfl⟩, fun h => by cases h⟩
      · rw [if_neg (fun h => h2 h.2.1)]
        obtain ⟨fr, ex, H', e, hh⟩ := ih (out.set x.toNat af) (by simpa using ho)
        refine ⟨fr, ex, H', Eq.trans ?_ e, hh⟩
        clear e hh ih
        simp (disch := first | omega | (simp only [List.length_append, List.length_map, List.length_set, List.length_cons, List.length_nil, List.length_take, List.length_drop, rows64_len, rowsI_len]; omega)) only [va0, va1, va2, va3, va4, va5, va6, va7, va8, va9, va10, va11, va12, va13, va14, va15, vb0, vb1, vb2, vb3, w_i8, w_u8, w_i16, w_u16, w_i32, w_u32, w_i64, w_u64, lt_T, lt_F, le_T, le_F, nlt_T, nlt_F, nle_T, nle_F, List.take_of_length_le, gB, gcW, gcR, posIn, renA, renL, Chunk.ren, Chunk.refs, evOpD, touchD, stepC, isFresh, nFresh, freshOf, mkR, hole, evL, evH, opd, get, putD, ofVal, cellOf, loadE, behind, lenE, idxAddrE, idxE, addPtr, intE, strE, unE, convE, AV.int, AV.bool, AV.str, ivs, take, frameOf, firstRegion, refsA, refsL, one, cellsA, floatOk, apartT, List.map, if_true, if_false, E_P, E_glob0, E_glob1, reduceCtorEq, beq_self_eq_true, decide_true, decide_false, ↓reduceIte, Nat.reduceEqDiff, cond_true, cond_false, or_true, true_or, or_false, false_or, and_true, true_and, and_self, false_and, and_false, not_true, not_false_iff, Nat.reduceAdd, Nat.reduceSub, Nat.reduceMul, Nat.reduceLT, Nat.reduceLeDiff, Int.reduceToNat, Int.reduceLT, Int.reduceLE, Option.getD, Int.reduceMul, Int.reduceAdd, List.drop, List.take, Nat.reduceBEq, List.isEmpty, Int.reduceEq, Int.reduceNe, Int.reduceNeg, Int.reduceGT, Int.reduceGE, beq_true, beq_false, UInt8.reduceToNat, eqE, eq_self, foldE, maxE, minE, eq_T, eq_F, ndec, odec, adec, sdec, fillA, over, chop, List.replicate, leavesOk, leafOk, cellsEq, cellEq, E_ext, E_byref, en13, bs22, bs24, rows64_len, rowsI_len, hrx, hrow, h1, h2, rows64_set, show ∀ B fr H, execT E B 13 (Code.loop _) fr H = rlM E B 13 (loopAt Tryd.f13 2) [0, 5, 7, 8, 9, 10] [] (matF [(5, 1)] fr H).1 (matB [] (matF [(5, 1)] fr H).1 (matF [(5, 1)] fr H).2) from fun B fr H => rl_introM rfl mt13_19 mb13_19 zf13_19 hd13_19 fr H]
    · rw [if_neg (fun h => h1 h.1)]
      obtain ⟨fr, ex, H', e, hh⟩ := ih (out.set x.toNat af) (by simpa using ho)
      refine ⟨fr, ex, H', Eq.trans ?_ e, hh⟩
      clear e hh ih
      simp (disch := first | omega | (simp only [List.length_append, List.length_map, List.length_set, List.length_cons, List.length_nil, List.length_take, List.length_drop, rows64_len, rowsI_len]; omega)) only [va0, va1, va2, va3, va4, va5, va6, va7, va8, va9, va10, va11, va12, va13, va14, va15, vb0, vb1, vb2, vb3, w_i8, w_u8, w_i16, w_u16, w_i32, w_u32, w_i64, w_u64, lt_T, lt_F, le_T, le_F, nlt_T, nlt_F, nle_T, nle_F, List.take_of_length_le, gB, gcW, gcR, posIn, renA, renL, Chunk.ren, Chunk.refs, evOpD, touchD, stepC, isFresh, nFresh, freshOf, mkR, hole, evL, evH, opd, get, putD, ofVal, cellOf, loadE, behind, lenE, idxAddrE, idxE, addPtr, intE, strE, unE, convE, AV.int, AV.bool, AV.str, ivs, take, frameOf, firstRegion, refsA, refsL, one, cellsA, floatOk, apartT, List.map, if_true, if_false, E_P, E_glob0, E_glob1, reduceCtorEq, beq_self_eq_true, decide_true, decide_false, ↓reduceIte, Nat.reduceEqDiff, cond_true, cond_false, or_true, true_or, or_false, false_or, and_true, true_and, and_self, false_and, and_false, not_true, not_false_iff, Nat.reduceAdd, Nat.reduceSub, Nat.reduceMul, Nat.reduceLT, Nat.reduceLeDiff, Int.reduceToNat, Int.reduceLT, Int.reduceLE, Option.getD, Int.reduceMul, Int.reduceAdd, List.drop, List.take, Nat.reduceBEq, List.isEmpty, Int.reduceEq, Int.reduceNe, Int.reduceNeg, Int.reduceGT, Int.reduceGE, beq_true, beq_false, UInt8.reduceToNat, eqE, eq_self, foldE, maxE, minE, eq_T, eq_F, ndec, odec, adec, sdec, fillA, over, chop, List.replicate, leavesOk, leafOk, cellsEq, cellEq, E_ext, E_byref, en13, bs22, bs24, rows64_len, rowsI_len, hrx, hrow, h1, rows64_set, show ∀ B fr H, execT E B 13 (Code.loop _) fr H = rlM E B 13 (loopAt Tryd.f13 2) [0, 5, 7, 8, 9, 10] [] (matF [(5, 1)] fr H).1 (matB [] (matF [(5, 1)] fr H).1 (matF [(5, 1)] fr H).2) from fun B fr H => rl_introM rfl mt13_19 mb13_19 zf13_19 hd13_19 fr H]
  · obtain rfl : j = xs.length := by omega
    rw [List.drop_length, dSet]
    simp (disch := first | omega | (simp only [List.length_append, List.length_map, List.length_set, List.length_cons, List.length_nil, List.length_take, List.length_drop, rows64_len, rowsI_len]; omega)) only [va0, va1, va2, va3, va4, va5, va6, va7, va8, va9, va10, va11, va12, va13, va14, va15, vb0, vb1, vb2, vb3, w_i8, w_u8, w_i16, w_u16, w_i32, w_u32, w_i64, w_u64, lt_T, lt_F, le_T, le_F, nlt_T, nlt_F, nle_T, nle_F, List.take_of_length_le, gB, gcW, gcR, posIn, renA, renL, Chunk.ren, Chunk.refs, evOpD, touchD, stepC, isFresh, nFresh, freshOf, mkR, hole, evL, evH, opd, get, putD, ofVal, cellOf, loadE, behind, lenE, idxAddrE, idxE, addPtr, intE, strE, unE, convE, AV.int, AV.bool, AV.str, ivs, take, frameOf, firstRegion, refsA, refsL, one, cellsA, floatOk, apartT, List.map, if_true, if_false, E_P, E_glob0, E_glob1, reduceCtorEq, beq_self_eq_true, decide_true, decide_false, ↓reduceIte, Nat.reduceEqDiff, cond_true, cond_false, or_true, true_or, or_false, false_or, and_true, true_and, and_self, false_and, and_false, not_true, not_false_iff, Nat.reduceAdd, Nat.reduceSub, Nat.reduceMul, Nat.reduceLT, Nat.reduceLeDiff, Int.reduceToNat, Int.reduceLT, Int.reduceLE, Option.getD, Int.reduceMul, Int.reduceAdd, List.drop, List.take, Nat.reduceBEq, List.isEmpty, Int.reduceEq, Int.reduceNe, Int.reduceNeg, Int.reduceGT, Int.reduceGE, beq_true, beq_false, UInt8.reduceToNat, eqE, eq_self, foldE, maxE, minE, eq_T, eq_F, ndec, odec, adec, sdec, fillA, over, chop, List.replicate, leavesOk, leafOk, cellsEq, cellEq, E_ext, E_byref, en13, bs22, bs24, rows64_len, rowsI_len, show ∀ B fr H, execT E B 13 (Code.loop _) fr H = rlM E B 13 (loopAt Tryd.f13 2) [0, 5, 7, 8, 9, 10] [] (matF [(5, 1)] fr H).1 (matB [] (matF [(5, 1)] fr H).1 (matF [(5, 1)] fr H).2) from fun B fr H => rl_introM rfl mt13_19 mb13_19 zf13_19 hd13_19 fr H]
    refine ⟨_, _, _, rfl, ?_⟩
    exact ⟨⟨rfl, ho, rfl, rfl, rfl⟩, fun _ => rfl⟩
termination_by xs.length - j
end Go.VI

