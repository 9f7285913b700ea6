import Derived.Test.YtbacmnbjkhjopaaDoorProg
import Derived.KernelRfl
import Derived.RangeFuncNested
import Derived.RangeFuncBound
import Derived.RangeFuncCalls
import Derived.RangeFuncLeaves
import Derived.Shelf.Abstract
import Derived.Shelf.RegionOpen
import Derived.WalkKit
import Derived.OwnWalkIn
import Derived.TacticsInMore
import Derived.LoopNIn
import Derived.LoopIn
import Derived.Test.YtbacmnbjkhjopaaDoorZZM3
set_option linter.unusedVariables false
set_option linter.defProp false
set_option maxRecDepth 20000
namespace Go.VI
open Go.Proofs
def keepT : List (Nat × List (Nat × List Nat)) := [
  (2, [(0, [])]),
  (3, [(0, [0]), (1, [0, 9]), (2, [2]), (3, [0, 3, 4]), (4, [0, 3, 4, 5, 6]), (5, [2])]),
  (4, [(0, [0]), (1, [0, 9]), (2, [2]), (3, [0, 3, 4]), (4, [3, 4, 5, 6]), (5, [2])]),
  (5, [(0, [0]), (1, [0, 9]), (2, [2]), (3, [0, 3, 4]), (4, [3, 4, 5, 6]), (5, [2])]),
  (6, [(0, [0, 1]), (1, [0, 1, 5, 6]), (2, [0, 1, 5, 6, 7, 8]), (3, [0, 1, 5, 7, 8, 29]), (4, [4]), (5, [0, 5, 7, 8, 9]), (6, [0, 5, 9, 48]), (7, [4]), (8, [0, 5, 9, 10]), (9, [0, 5, 10, 49, 50, 51]), (10, [0, 5, 10, 49, 50, 51, 52]), (11, [0, 5, 10, 12, 49, 50, 51]), (12, [0, 5, 10, 12, 49, 50, 51, 70]), (13, [4]), (14, [0, 5, 10, 49, 50, 51]), (15, [0, 5, 10, 49, 50, 51, 87]), (16, [4]), (17, [0, 5, 10, 49, 50, 51]), (18, [4])]),
  (7, [(0, [0]), (1, [0, 17]), (2, [2]), (3, [0, 3]), (4, [0, 3, 19, 20, 21]), (5, [0, 3, 19, 20, 21, 22]), (6, [0, 3, 5, 19, 20, 21]), (7, [0, 3, 19, 20, 21, 27]), (8, [0, 3, 19, 20, 21]), (9, [0, 3, 19, 20, 21]), (10, [0, 3, 32]), (11, [2]), (12, [0, 3, 6]), (13, [0, 3, 6, 7]), (14, [0, 3, 6, 7, 37]), (15, [0, 3, 6, 7]), (16, [0, 3, 6, 7]), (17, [6, 8, 9]), (18, [2])]),
  (8, [(0, [0]), (1, [0, 3, 4]), (2, [0, 3, 24]), (3, [2]), (4, [0, 3, 30]), (5, [2]), (6, [0, 3, 5]), (7, [0, 3, 5, 31, 32, 33]), (8, [0, 3, 5, 31, 32, 33, 34]), (9, [0, 3, 5, 7, 31, 32, 33]), (10, [0, 3, 5, 31, 32, 33, 39]), (11, [0, 3, 5, 31, 32, 33]), (12, [0, 3, 5, 31, 32, 33]), (13, [0, 3, 5, 44]), (14, [2]), (15, [0, 3, 5, 8]), (16, [0, 3, 5, 8, 9]), (17, [0, 3, 5, 8, 9, 52]), (18, [0, 3, 5, 8, 9]), (19, [0, 3, 5, 8, 9, 57, 58, 59]), (20, [0, 3, 5, 8, 9, 57, 58, 59, 60]), (21, [0, 3, 5, 8, 9, 11, 57, 58, 59]), (22, [0, 3, 5, 8, 9, 57, 58, 59]), (23, [0, 3, 5, 8, 9, 57, 58, 59]), (24, [0, 3, 8, 12]), (25, [0, 3, 8, 12, 70]), (26, [0, 3, 8, 12]), (27, [0, 3, 8, 12, 82]), (28, [2]), (29, [2])]),
  (9, [(0, [0]), (1, [0, 11]), (2, [2]), (3, [0, 3, 4]), (4, [0, 3, 4, 13, 14, 15]), (5, [0, 3, 4, 13, 14, 15, 16]), (6, [0, 3, 4, 6, 13, 14, 15]), (7, [0, 3, 4, 6, 13, 14, 15]), (8, [0, 3, 4, 13, 14, 15]), (9, [0, 3, 4, 13, 14, 15]), (10, [3, 4, 7, 8]), (11, [2])]),
  (10, [(0, [0, 1]), (1, [0, 1, 18]), (2, [4]), (3, [0, 5]), (4, [0, 5, 6, 7]), (5, [0, 5, 6, 39]), (6, [4]), (7, [5, 6, 8]), (8, [6, 8]), (9, [6, 9, 10]), (10, [4])]),
  (11, [(0, []), (1, [1]), (2, [1, 2, 3]), (3, [1, 2, 3, 4, 5]), (4, [2, 3, 4, 5, 6, 7]), (5, [2, 3, 4, 5, 6, 7, 8, 9]), (6, [0])]),
  (12, [(0, [1, 2, 3]), (1, [1, 2, 3, 4]), (2, [1, 2, 3, 4, 14]), (3, [2, 3]), (4, [1, 2, 3, 5]), (5, [1, 2, 3, 5, 21, 22]), (6, [1, 2, 3, 5, 21, 22, 23]), (7, [1, 2, 3, 5, 6, 21, 22]), (8, [1, 2, 3, 5, 21, 22]), (9, [1, 2, 3, 5, 21, 22]), (10, [1, 2, 3, 5]), (11, [1, 2, 3, 5, 31, 32, 33]), (12, [1, 2, 3, 5, 31, 32, 33, 34]), (13, [1, 2, 3, 5, 7, 8, 31, 32, 33]), (14, [1, 2, 3, 5, 7, 8, 31, 32, 33, 42]), (15, [1, 2, 3, 5, 7, 8, 9, 31, 32, 33]), (16, [1, 2, 3, 5, 7, 8, 9, 31, 32, 33, 69]), (17, [2, 3]), (18, [1, 2, 3, 5, 9, 31, 32, 33, 72]), (19, [1, 2, 3, 5, 9, 10]), (20, [2, 3, 5, 9, 10, 92]), (21, []), (22, []), (23, [1, 2, 3, 5, 31, 32, 33]), (24, [2, 3])]),
  (13, [(0, [0]), (1, [0, 4]), (2, [0, 4, 14]), (3, [2, 3]), (4, [0, 5]), (5, [0, 5, 6]), (6, [0, 5, 6, 19]), (7, [0, 5, 6]), (8, [0, 5, 6]), (9, [0, 5]), (10, [0, 5, 7]), (11, [0, 5, 7, 30]), (12, [0, 5, 7]), (13, [0, 5, 7, 37]), (14, [0, 5, 7, 8]), (15, [0, 5, 7, 8, 70]), (16, [2, 3]), (17, [0, 5, 7, 8, 9]), (18, [0, 5, 7, 8, 9, 10]), (19, [0, 5, 7, 8, 9, 10, 77]), (20, [0, 5, 7, 8, 9, 10]), (21, [0, 5, 7, 8, 9, 10, 107]), (22, [2, 3]), (23, [0, 5, 7, 8, 9, 10]), (24, [2, 3])]),
  (14, [(0, [0, 1]), (1, [0, 1, 10]), (2, [4]), (3, [0, 1, 5]), (4, [0, 1, 5, 14]), (5, [0, 1, 5]), (6, [0, 1, 5, 25]), (7, [4]), (8, [4])]),
  (15, [(0, [0]), (1, [4]), (2, [2])]),
  (16, [(0, [0, 2, 3]), (1, [0, 2, 3, 4]), (2, [0, 2, 3, 4, 11]), (3, [2, 3]), (4, [0, 2, 3, 5]), (5, [0, 2, 3, 5, 6]), (6, [0, 2, 3, 5, 6, 21]), (7, [0, 2, 3, 5, 6]), (8, [0, 2, 3, 5, 6, 29]), (9, [5, 6, 7]), (10, []), (11, [0, 2, 3, 5, 6]), (12, [0, 2, 3, 5, 49]), (13, [0, 2, 3, 5, 6]), (14, [2, 3])]),
  (17, [(0, [0]), (1, [0, 4]), (2, [0, 4, 12]), (3, [2, 3]), (4, [0, 5]), (5, [0, 5, 6]), (6, [0, 5, 6, 22]), (7, [0, 5, 6]), (8, [0, 5, 6, 7]), (9, [0, 5, 6, 7, 8]), (10, [0, 5, 6, 7, 8, 31]), (11, [0, 5, 6, 7, 8]), (12, [0, 5, 6, 7, 8]), (13, [0, 5, 6]), (14, [2, 3])]),
  (18, [(0, [0, 2, 3]), (1, [0, 2, 3, 4, 5]), (2, [0, 2, 3, 4, 5, 19]), (3, [2, 3]), (4, [0, 2, 3, 4, 6]), (5, [2, 3, 4, 6, 25, 26, 27]), (6, [2, 3, 4, 6, 25, 26, 27, 28]), (7, [2, 3, 4, 6, 7, 8, 25, 26, 27]), (8, [2, 3, 4, 6, 7, 8, 25, 26, 27, 36]), (9, [2, 3, 4, 6, 7, 8, 9, 25, 26, 27]), (10, [2, 3, 4, 6, 7, 8, 9, 25, 26, 27, 62]), (11, [2, 3]), (12, [2, 3, 4, 6, 7, 8, 9, 25, 26, 27]), (13, [2, 3, 4, 6, 9, 25, 26, 27, 73]), (14, [6, 9, 10]), (15, [6, 9, 10]), (16, [6, 10, 89, 90]), (17, [6, 10, 89, 90, 91]), (18, [6, 10, 11, 12, 89, 90]), (19, [6, 10, 89, 90]), (20, [6, 10, 89, 90]), (21, [2, 3, 4, 6, 25, 26, 27]), (22, [2, 3])]),
  (19, [(0, [0]), (1, [0, 5]), (2, [0, 5, 20]), (3, [2, 3]), (4, [0, 6]), (5, [0, 6]), (6, [0, 6, 7]), (7, [0, 6, 7, 8]), (8, [0, 6, 7, 8, 32]), (9, [0, 6, 7, 8]), (10, [0, 6, 7, 8, 9]), (11, [0, 6, 7, 8, 9, 41]), (12, [0, 6, 7, 8, 9, 10]), (13, [0, 6, 7, 8, 9, 10, 66]), (14, [0, 6, 7, 8, 9, 10]), (15, [0, 6, 7, 8, 11]), (16, [0, 6, 7, 8, 11, 12]), (17, [0, 6, 7, 8, 11, 12, 13]), (18, [0, 6, 7, 8, 11, 12, 13, 76]), (19, [0, 6, 7, 8, 11, 12, 13]), (20, [0, 6, 7, 8, 11, 12, 13]), (21, [2, 3])]),
  (20, [(0, [0, 1]), (1, [0, 1, 5]), (2, [0, 1, 5, 6]), (3, [0, 1, 5, 6, 11]), (4, [0, 1, 5, 6]), (5, [0, 1, 5, 6, 7]), (6, [0, 1, 5, 6, 7]), (7, [0, 1, 5, 6, 7, 23]), (8, [0, 1, 5, 6, 7, 23, 24]), (9, [4]), (10, [0, 1, 5, 6, 7, 23, 27]), (11, [0, 1, 5, 6]), (12, [0, 1, 5, 6, 7, 31]), (13, [0, 1, 5, 6, 7, 35]), (14, [0, 1, 5, 6]), (15, [0, 1, 5, 6]), (16, [4])]),
  (21, [(0, [0]), (1, [0, 3]), (2, [2])]),
  (22, [(0, [0]), (1, [0, 3]), (2, [2])]),
  (23, [(0, [0]), (1, [0, 9]), (2, [2]), (3, [0, 10, 11, 12]), (4, [0, 10, 11, 12, 13]), (5, [0, 3, 4, 10, 11, 12]), (6, [0, 3, 4, 10, 11, 12, 26]), (7, [2]), (8, [0, 4, 5, 6, 10, 11, 12]), (9, [0, 10, 11, 12, 45]), (10, [2]), (11, [0, 10, 11, 12]), (12, [2])]),
  (24, [(0, [2, 3]), (1, [4])]),
  (25, [(0, [0]), (1, [0, 9]), (2, [2]), (3, [0, 3]), (4, [0, 3, 13]), (5, [0, 3]), (6, [0, 3, 4]), (7, [0, 3, 4, 27]), (8, [2]), (9, [0, 3, 4, 5, 6]), (10, [0, 3, 4, 5, 6, 30]), (11, [0, 3, 4, 5]), (12, [0, 3, 4, 5, 6]), (13, [0, 3, 4, 5, 6, 33]), (14, [0, 3, 4, 5]), (15, [0, 3, 4, 5, 6]), (16, [0, 3, 47]), (17, [2]), (18, [2])]),
  (26, [(0, [0, 1]), (1, [0, 1, 9]), (2, [0, 1, 9, 10]), (3, [4]), (4, [0, 1, 9, 12]), (5, [4]), (6, [0, 1, 20]), (7, [4]), (8, [4])]),
  (27, [(0, [1, 2, 3, 6]), (1, [1, 2, 3, 6, 7]), (2, [1, 2, 3, 6, 7, 11]), (3, [1, 2, 3, 6]), (4, [1, 2, 3, 6, 7, 25]), (5, [1, 2, 3, 6]), (6, [1, 2, 3, 6, 7, 47]), (7, [1, 2, 3, 6]), (8, [1, 2, 3, 6, 7, 57]), (9, [1, 2, 3, 6]), (10, [1, 2, 3, 6, 7, 76]), (11, [1, 2, 3, 6]), (12, [1, 2, 3, 6, 88]), (13, [1, 2, 3, 6]), (14, [3, 6, 8]), (15, [3, 6, 8, 110]), (16, [3, 6, 8]), (17, [3, 6, 8]), (18, [6])]),
  (28, [(0, [1, 2, 4]), (1, [1, 2, 4, 5]), (2, [1, 2, 4, 5, 6]), (3, [1, 2, 4, 5, 6]), (4, [2, 4, 5, 6, 24]), (5, [2, 4, 5, 6, 24, 25]), (6, [2, 4, 5, 6, 24, 25]), (7, [2, 4, 5, 6, 24, 25]), (8, [4, 6]), (9, [2, 4, 5, 6, 24, 34]), (10, [2, 4, 5, 6, 24, 34]), (11, [2, 4, 5, 6, 24, 34]), (12, [2, 4, 5, 6, 24, 34]), (13, [2, 4, 5, 6, 24, 34]), (14, [4, 6]), (15, [2, 4, 5, 6, 24, 59]), (16, [4, 6]), (17, [2, 4, 5, 6, 24, 72]), (18, [4, 6]), (19, [2, 4, 5, 6, 24, 91]), (20, [4, 6]), (21, [2, 4, 5, 6, 24, 110]), (22, [4, 6]), (23, [4, 6, 24, 123]), (24, [4, 6, 24, 123]), (25, [4, 6, 24, 123]), (26, [4, 6, 123]), (27, [4, 6]), (28, [4])]),
  (29, [(0, [2, 3, 4]), (1, [2, 3, 4, 9]), (2, [4]), (3, [2, 3, 4, 5]), (4, [2, 3, 4, 5, 6]), (5, [2, 3, 4, 5, 6, 35]), (6, [2, 3, 4, 5, 6]), (7, [2, 3, 4, 5, 6]), (8, [4])]),
  (30, [(0, []), (1, [0])]),
  (31, [(0, [0, 1, 2]), (1, [1, 2, 8]), (2, [1, 2, 8, 9]), (3, [1, 2, 8, 11]), (4, [1, 2, 13]), (5, [6, 7]), (6, [6, 7]), (7, [6, 7])]),
  (32, [(0, [0, 1, 18]), (1, [0, 1, 26]), (2, [])]),
  (33, [(0, [0]), (1, [2])]),
  (54, [(0, []), (1, [])])]
def headT : List (Nat × List (Nat × List Nat)) := [
  (6, [(10, [0, 5, 10, 49, 50, 51])]),
  (7, [(5, [0, 3, 19, 20, 21]), (14, [0, 3, 6, 7])]),
  (8, [(8, [0, 3, 5, 31, 32, 33]), (17, [0, 3, 5, 8, 9]), (20, [0, 3, 5, 8, 9, 57, 58, 59]), (25, [0, 3, 8, 12])]),
  (9, [(5, [0, 3, 4, 13, 14, 15])]),
  (12, [(6, [1, 2, 3, 5, 21, 22]), (12, [1, 2, 3, 5, 31, 32, 33])]),
  (13, [(6, [0, 5, 6]), (11, [0, 5, 7]), (19, [0, 5, 7, 8, 9, 10])]),
  (14, [(4, [0, 1, 5])]),
  (16, [(6, [0, 2, 3, 5, 6])]),
  (17, [(6, [0, 5, 6]), (10, [0, 5, 6, 7, 8])]),
  (18, [(6, [2, 3, 4, 6, 25, 26, 27]), (17, [6, 10, 89, 90])]),
  (19, [(8, [0, 6, 7, 8]), (18, [0, 6, 7, 8, 11, 12, 13])]),
  (20, [(3, [0, 1, 5, 6])]),
  (23, [(4, [0, 10, 11, 12])]),
  (25, [(4, [0, 3])]),
  (27, [(15, [3, 6, 8])]),
  (29, [(5, [2, 3, 4, 5, 6])])]
def lk2 (t : List (Nat × List (Nat × List Nat))) (f i : Nat) : List Nat := match t.lookup f with | some l => (l.lookup i).getD [] | none => []
def floT : List (Nat × List (Nat × List (Nat × Nat))) := [
  (6, [(14, [(6, 9), (6, 11)])]),
  (8, [(27, [])]),
  (12, [(15, [(0, 14), (2, 14), (3, 14), (5, 14), (6, 14), (7, 14), (10, 14), (11, 14), (12, 14)]), (16, []), (20, [])]),
  (13, [(14, [(2, 9), (3, 9), (9, 13), (9, 15), (2, 16), (3, 16)]), (15, [(2, 9), (3, 9)])]),
  (14, [(6, [])]),
  (16, [(8, []), (10, [])]),
  (17, [(12, [])]),
  (18, [(12, []), (15, []), (19, [])]),
  (19, [(20, [(3, 13), (4, 13)])]),
  (23, [(6, [(5, 6)])]),
  (27, [(9, []), (14, [])]),
  (28, [(3, [(1, 6), (3, 6)]), (14, [(1, 16)]), (16, [(1, 8)]), (18, [(1, 14)]), (20, [(1, 14)])]),
  (29, [(2, [(1, 2), (2, 4), (1, 5)]), (7, [(1, 14)])])]
def lkF (t : List (Nat × List (Nat × List (Nat × Nat)))) (f i : Nat) : List (Nat × Nat) := match t.lookup f with | some l => (l.lookup i).getD [] | none => []
def matT : List (Nat × List (Nat × List (Nat × Nat))) := [(13, [(6, [(5, 1)]), (11, [(5, 1)]), (19, [(5, 1)])]), (20, [(3, [(5, 1)])])]
def matbT : List (Nat × List (Nat × List (Nat × Nat × Nat))) := []
def frzT : List (Nat × List (Nat × List (Nat × Nat))) := []
def lkG {α : Type} (t : List (Nat × List (Nat × List α))) (f i : Nat) : List α := match t.lookup f with | some l => (l.lookup i).getD [] | none => []
def kindT : List (Nat × List (Option Nat)) := [(22, [some 2]), (24, [some 1]), (47, [some 1]), (55, [some 17]), (60, [some 3]), (61, [none, none, some 1]), (62, [none, none, some 1]), (65, [some 1])]
def argkT : List (Nat × List (List (Option Nat))) := [(3, [[some 2]]), (4, [[some 2]]), (5, [[some 2]]), (6, [[some 2]]), (7, [[some 2]]), (8, [[some 2]]), (9, [[some 2]]), (10, [[some 2]]), (12, [[some 2]]), (13, [[some 2]]), (14, [[some 1], [some 1]]), (15, [[some 2]]), (16, [[some 2]]), (17, [[some 2]]), (18, [[some 2]]), (19, [[some 2]]), (20, [[some 2]]), (23, [[some 2]]), (25, [[some 2]]), (26, [[some 2]]), (28, [[none, none, some 1]]), (29, [[none, none, some 1], [none, none, some 1]])]
def reskT : List (Nat × List (List (Option Nat))) := [(12, [[some 1]]), (13, [[some 1]]), (20, [[some 1]]), (26, [[some 1]]), (28, [[none, none, some 1]]), (29, [[none, none, some 1]]), (30, [[some 1]])]
noncomputable def E : Env := { P := Tryd.prog, keep := lk2 keepT, head := lk2 headT, flo := lkF floT, hol := fun f i => false, glob := fun g => if g = 0 then some popsT else if g = 1 then some pushesT else none, byref := fun f => false, seq := fun f => if f = 32 then some seqSucc else none, ext := fun f =>  none, kinds := fun t => (kindT.lookup t).getD [], argk := fun f => (argkT.lookup f).getD [], resk := fun f => (reskT.lookup f).getD [], own := fun f => false, mat := lkG matT, matb := lkG matbT, frz := lkG frzT }
theorem E_P : E.P = Tryd.prog := rfl
theorem sq32 : E.seq 32 = some seqSucc := rfl
theorem E_seqI (f : Nat) (h : List (List Int) → Option (List Int)) (hf : E.seq f = some h) : (f = 32 ∧ h = seqSucc) ∨ False := by
  have h2 : (if f = 32 then some seqSucc else none) = some h := hf
  (repeat (split at h2)) <;> simp_all
theorem E_globI (g : Nat) (cells : List IV) (h : E.glob g = some cells) : (g = 0 ∧ cells = popsT) ∨ (g = 1 ∧ cells = pushesT) ∨ False := by
  have h2 : (if g = 0 then some popsT else if g = 1 then some pushesT else none) = some cells := h
  (repeat (split at h2)) <;> simp_all
theorem E_glob0 : E.glob 0 = some popsT := rfl
theorem E_glob1 : E.glob 1 = some pushesT := rfl
theorem E_ext (f : Nat) : E.ext f = none := rfl
theorem E_byref (f : Nat) : E.byref f = false := rfl
theorem agg22 : aggO Tryd.prog 22 = some false := by kernel_rfl
theorem agg24 : aggO Tryd.prog 24 = some false := by kernel_rfl
theorem agg25 : aggO Tryd.prog 25 = some false := by kernel_rfl
theorem agg3 : aggO Tryd.prog 3 = some false := by kernel_rfl
theorem agg4 : aggO Tryd.prog 4 = some false := by kernel_rfl
theorem agg45 : aggO Tryd.prog 45 = some true := by kernel_rfl
theorem agg48 : aggO Tryd.prog 48 = some false := by kernel_rfl
theorem agg50 : aggO Tryd.prog 50 = some true := by kernel_rfl
theorem agg55 : aggO Tryd.prog 55 = some false := by kernel_rfl
theorem agg56 : aggO Tryd.prog 56 = some true := by kernel_rfl
theorem agg58 : aggO Tryd.prog 58 = some true := by kernel_rfl
theorem agg65 : aggO Tryd.prog 65 = some false := by kernel_rfl
theorem agg9 : aggO Tryd.prog 9 = some false := by kernel_rfl
theorem arr22 : arrO Tryd.prog 22 = none := by kernel_rfl
theorem arr24 : arrO Tryd.prog 24 = none := by kernel_rfl
theorem arr45 : arrO Tryd.prog 45 = none := by kernel_rfl
theorem arr50 : arrO Tryd.prog 50 = some (21, 3) := by kernel_rfl
theorem arr55 : arrO Tryd.prog 55 = none := by kernel_rfl
theorem arr56 : arrO Tryd.prog 56 = some (16, 4) := by kernel_rfl
theorem arrz45 : arrO Tryd.prog 45 = none := by kernel_rfl
theorem arrz58 : arrO Tryd.prog 58 = none := by kernel_rfl
theorem fld45_0 : fldO Tryd.prog 45 0 = some (0, 3) := by kernel_rfl
theorem fld45_1 : fldO Tryd.prog 45 1 = some (1, 3) := by kernel_rfl
theorem fld58_0 : fldO Tryd.prog 58 0 = some (0, 4) := by kernel_rfl
theorem fld58_1 : fldO Tryd.prog 58 1 = some (1, 56) := by kernel_rfl
theorem kind22 : kindO Tryd.prog 22 = none := by kernel_rfl
theorem kind24 : kindO Tryd.prog 24 = none := by kernel_rfl
theorem kind3 : kindO Tryd.prog 3 = some .i64 := by kernel_rfl
theorem kind45 : kindO Tryd.prog 45 = none := by kernel_rfl
theorem kind48 : kindO Tryd.prog 48 = some .u16 := by kernel_rfl
theorem kind50 : kindO Tryd.prog 50 = none := by kernel_rfl
theorem kind55 : kindO Tryd.prog 55 = none := by kernel_rfl
theorem kind56 : kindO Tryd.prog 56 = none := by kernel_rfl
theorem kind58 : kindO Tryd.prog 58 = none := by kernel_rfl
theorem kind65 : kindO Tryd.prog 65 = none := by kernel_rfl
theorem kind9 : kindO Tryd.prog 9 = none := by kernel_rfl
theorem pl45 : placesO Tryd.prog 45 = some [(0, 1), (1, 1)] := by kernel_rfl
theorem pl58 : placesO Tryd.prog 58 = some [(0, 1), (1, 16)] := by kernel_rfl
theorem sl22 : slO Tryd.prog 22 = some 45 := by kernel_rfl
theorem sl24 : slO Tryd.prog 24 = some 3 := by kernel_rfl
theorem sl3 : slO Tryd.prog 3 = none := by kernel_rfl
theorem sl45 : slO Tryd.prog 45 = none := by kernel_rfl
theorem sl48 : slO Tryd.prog 48 = none := by kernel_rfl
theorem sl50 : slO Tryd.prog 50 = none := by kernel_rfl
theorem sl55 : slO Tryd.prog 55 = some 58 := by kernel_rfl
theorem sl56 : slO Tryd.prog 56 = none := by kernel_rfl
theorem sl58 : slO Tryd.prog 58 = none := by kernel_rfl
theorem sl65 : slO Tryd.prog 65 = some 9 := by kernel_rfl
theorem str22 : isStrO Tryd.prog 22 = false := by kernel_rfl
theorem str24 : isStrO Tryd.prog 24 = false := by kernel_rfl
theorem str3 : isStrO Tryd.prog 3 = false := by kernel_rfl
theorem str45 : isStrO Tryd.prog 45 = false := by kernel_rfl
theorem str48 : isStrO Tryd.prog 48 = false := by kernel_rfl
theorem str50 : isStrO Tryd.prog 50 = false := by kernel_rfl
theorem str55 : isStrO Tryd.prog 55 = false := by kernel_rfl
theorem str56 : isStrO Tryd.prog 56 = false := by kernel_rfl
theorem str58 : isStrO Tryd.prog 58 = false := by kernel_rfl
theorem str65 : isStrO Tryd.prog 65 = false := by kernel_rfl
theorem sz22 : szO Tryd.prog 22 = some 1 := by kernel_rfl
theorem sz24 : szO Tryd.prog 24 = some 1 := by kernel_rfl
theorem sz25 : szO Tryd.prog 25 = some 1 := by kernel_rfl
theorem sz3 : szO Tryd.prog 3 = some 1 := by kernel_rfl
theorem sz4 : szO Tryd.prog 4 = some 1 := by kernel_rfl
theorem sz45 : szO Tryd.prog 45 = some 2 := by kernel_rfl
theorem sz55 : szO Tryd.prog 55 = some 1 := by kernel_rfl
theorem sz56 : szO Tryd.prog 56 = some 16 := by kernel_rfl
theorem sz58 : szO Tryd.prog 58 = some 17 := by kernel_rfl
theorem sz9 : szO Tryd.prog 9 = some 1 := by kernel_rfl
theorem zero24 : zeroO Tryd.prog 24 = some (.i (.sl 0 [] true)) := by kernel_rfl
theorem zero25 : zeroO Tryd.prog 25 = some (.i (.v (.int .i64 0))) := by kernel_rfl
theorem zero3 : zeroO Tryd.prog 3 = some (.i (.v (.int .i64 0))) := by kernel_rfl
theorem zero45 : zeroO Tryd.prog 45 = some (.agg [.i (.v (.int .i64 0)), .i (.v (.int .i64 0))]) := by kernel_rfl
theorem zero55 : zeroO Tryd.prog 55 = some (.i (.sl 0 [] true)) := by kernel_rfl
theorem zero58 : zeroO Tryd.prog 58 = some (.agg [.i (.v (.bool false)), .i (.v (.bool false)), .i (.v (.bool false)), .i (.v (.bool false)), .i (.v (.bool false)), .i (.v (.bool false)), .i (.v (.bool false)), .i (.v (.bool false)), .i (.v (.bool false)), .i (.v (.bool false)), .i (.v (.bool false)), .i (.v (.bool false)), .i (.v (.bool false)), .i (.v (.bool false)), .i (.v (.bool false)), .i (.v (.bool false)), .i (.v (.bool false))]) := by kernel_rfl
theorem zero9 : zeroO Tryd.prog 9 = some (.i (.str [])) := by kernel_rfl
theorem fok10 : fnOk E 10 = true := by kernel_rfl
theorem ent10 : enterOk E 10 = true := by kernel_rfl
theorem ent11 : enterOk E 11 = true := by kernel_rfl
theorem fok12 : fnOk E 12 = true := by kernel_rfl
theorem ent12 : enterOk E 12 = true := by kernel_rfl
theorem fok18 : fnOk E 18 = true := by kernel_rfl
theorem ent18 : enterOk E 18 = true := by kernel_rfl
theorem fok23 : fnOk E 23 = true := by kernel_rfl
theorem ent23 : enterOk E 23 = true := by kernel_rfl
theorem fok24 : fnOk E 24 = true := by kernel_rfl
theorem ent24 : enterOk E 24 = true := by kernel_rfl
theorem fok27 : fnOk E 27 = true := by kernel_rfl
theorem ent27 : enterOk E 27 = true := by kernel_rfl
theorem ent30 : enterOk E 30 = true := by kernel_rfl
theorem fok31 : fnOk E 31 = true := by kernel_rfl
theorem ent31 : enterOk E 31 = true := by kernel_rfl
theorem ent32 : enterOk E 32 = true := by kernel_rfl
theorem res10 : Tryd.f10.results = #[.tmp 4] := rfl
theorem res12 : Tryd.f12.results = #[.cell 2 24, .cell 3 25] := rfl
theorem res18 : Tryd.f18.results = #[.tmp 2, .tmp 3] := rfl
theorem res23 : Tryd.f23.results = #[.tmp 2] := rfl
theorem res24 : Tryd.f24.results = #[.tmp 4] := rfl
theorem res27 : Tryd.f27.results = #[.cell 6 58] := rfl
theorem res31 : Tryd.f31.results = #[.tmp 6, .tmp 7] := rfl
theorem kp10_0 : E.keep 10 0 = [0, 1] := by kernel_rfl
theorem kp10_1 : E.keep 10 1 = [0, 1, 18] := by kernel_rfl
theorem kp10_2 : E.keep 10 2 = [4] := by kernel_rfl
theorem kp10_3 : E.keep 10 3 = [0, 5] := by kernel_rfl
theorem kp10_4 : E.keep 10 4 = [0, 5, 6, 7] := by kernel_rfl
theorem kp10_5 : E.keep 10 5 = [0, 5, 6, 39] := by kernel_rfl
theorem kp10_6 : E.keep 10 6 = [4] := by kernel_rfl
theorem kp10_7 : E.keep 10 7 = [5, 6, 8] := by kernel_rfl
theorem kp10_8 : E.keep 10 8 = [6, 8] := by kernel_rfl
theorem kp10_9 : E.keep 10 9 = [6, 9, 10] := by kernel_rfl
theorem kp10_10 : E.keep 10 10 = [4] := by kernel_rfl
theorem kp12_0 : E.keep 12 0 = [1, 2, 3] := by kernel_rfl
theorem kp12_1 : E.keep 12 1 = [1, 2, 3, 4] := by kernel_rfl
theorem kp12_2 : E.keep 12 2 = [1, 2, 3, 4, 14] := by kernel_rfl
theorem kp12_3 : E.keep 12 3 = [2, 3] := by kernel_rfl
theorem kp12_4 : E.keep 12 4 = [1, 2, 3, 5] := by kernel_rfl
theorem kp12_5 : E.keep 12 5 = [1, 2, 3, 5, 21, 22] := by kernel_rfl
theorem kp12_6 : E.keep 12 6 = [1, 2, 3, 5, 21, 22, 23] := by kernel_rfl
theorem kp12_7 : E.keep 12 7 = [1, 2, 3, 5, 6, 21, 22] := by kernel_rfl
theorem kp12_8 : E.keep 12 8 = [1, 2, 3, 5, 21, 22] := by kernel_rfl
theorem kp12_9 : E.keep 12 9 = [1, 2, 3, 5, 21, 22] := by kernel_rfl
theorem kp12_10 : E.keep 12 10 = [1, 2, 3, 5] := by kernel_rfl
theorem kp12_11 : E.keep 12 11 = [1, 2, 3, 5, 31, 32, 33] := by kernel_rfl
theorem kp12_12 : E.keep 12 12 = [1, 2, 3, 5, 31, 32, 33, 34] := by kernel_rfl
theorem kp12_13 : E.keep 12 13 = [1, 2, 3, 5, 7, 8, 31, 32, 33] := by kernel_rfl
theorem kp12_14 : E.keep 12 14 = [1, 2, 3, 5, 7, 8, 31, 32, 33, 42] := by kernel_rfl
theorem kp12_15 : E.keep 12 15 = [1, 2, 3, 5, 7, 8, 9, 31, 32, 33] := by kernel_rfl
theorem kp12_16 : E.keep 12 16 = [1, 2, 3, 5, 7, 8, 9, 31, 32, 33, 69] := by kernel_rfl
theorem kp12_17 : E.keep 12 17 = [2, 3] := by kernel_rfl
theorem kp12_18 : E.keep 12 18 = [1, 2, 3, 5, 9, 31, 32, 33, 72] := by kernel_rfl
theorem kp12_19 : E.keep 12 19 = [1, 2, 3, 5, 9, 10] := by kernel_rfl
theorem kp12_20 : E.keep 12 20 = [2, 3, 5, 9, 10, 92] := by kernel_rfl
theorem kp12_21 : E.keep 12 21 = [] := by kernel_rfl
theorem kp12_22 : E.keep 12 22 = [] := by kernel_rfl
theorem kp12_23 : E.keep 12 23 = [1, 2, 3, 5, 31, 32, 33] := by kernel_rfl
theorem kp12_24 : E.keep 12 24 = [2, 3] := by kernel_rfl
theorem kp18_0 : E.keep 18 0 = [0, 2, 3] := by kernel_rfl
theorem kp18_1 : E.keep 18 1 = [0, 2, 3, 4, 5] := by kernel_rfl
theorem kp18_2 : E.keep 18 2 = [0, 2, 3, 4, 5, 19] := by kernel_rfl
theorem kp18_3 : E.keep 18 3 = [2, 3] := by kernel_rfl
theorem kp18_4 : E.keep 18 4 = [0, 2, 3, 4, 6] := by kernel_rfl
theorem kp18_5 : E.keep 18 5 = [2, 3, 4, 6, 25, 26, 27] := by kernel_rfl
theorem kp18_6 : E.keep 18 6 = [2, 3, 4, 6, 25, 26, 27, 28] := by kernel_rfl
theorem kp18_7 : E.keep 18 7 = [2, 3, 4, 6, 7, 8, 25, 26, 27] := by kernel_rfl
theorem kp18_8 : E.keep 18 8 = [2, 3, 4, 6, 7, 8, 25, 26, 27, 36] := by kernel_rfl
theorem kp18_9 : E.keep 18 9 = [2, 3, 4, 6, 7, 8, 9, 25, 26, 27] := by kernel_rfl
theorem kp18_10 : E.keep 18 10 = [2, 3, 4, 6, 7, 8, 9, 25, 26, 27, 62] := by kernel_rfl
theorem kp18_11 : E.keep 18 11 = [2, 3] := by kernel_rfl
theorem kp18_12 : E.keep 18 12 = [2, 3, 4, 6, 7, 8, 9, 25, 26, 27] := by kernel_rfl
theorem kp18_13 : E.keep 18 13 = [2, 3, 4, 6, 9, 25, 26, 27, 73] := by kernel_rfl
theorem kp18_14 : E.keep 18 14 = [6, 9, 10] := by kernel_rfl
theorem kp18_15 : E.keep 18 15 = [6, 9, 10] := by kernel_rfl
theorem kp18_16 : E.keep 18 16 = [6, 10, 89, 90] := by kernel_rfl
theorem kp18_17 : E.keep 18 17 = [6, 10, 89, 90, 91] := by kernel_rfl
theorem kp18_18 : E.keep 18 18 = [6, 10, 11, 12, 89, 90] := by kernel_rfl
theorem kp18_19 : E.keep 18 19 = [6, 10, 89, 90] := by kernel_rfl
theorem kp18_20 : E.keep 18 20 = [6, 10, 89, 90] := by kernel_rfl
theorem kp18_21 : E.keep 18 21 = [2, 3, 4, 6, 25, 26, 27] := by kernel_rfl
theorem kp18_22 : E.keep 18 22 = [2, 3] := by kernel_rfl
theorem kp23_0 : E.keep 23 0 = [0] := by kernel_rfl
theorem kp23_1 : E.keep 23 1 = [0, 9] := by kernel_rfl
theorem kp23_2 : E.keep 23 2 = [2] := by kernel_rfl
theorem kp23_3 : E.keep 23 3 = [0, 10, 11, 12] := by kernel_rfl
theorem kp23_4 : E.keep 23 4 = [0, 10, 11, 12, 13] := by kernel_rfl
theorem kp23_5 : E.keep 23 5 = [0, 3, 4, 10, 11, 12] := by kernel_rfl
theorem kp23_6 : E.keep 23 6 = [0, 3, 4, 10, 11, 12, 26] := by kernel_rfl
theorem kp23_7 : E.keep 23 7 = [2] := by kernel_rfl
theorem kp23_8 : E.keep 23 8 = [0, 4, 5, 6, 10, 11, 12] := by kernel_rfl
theorem kp23_9 : E.keep 23 9 = [0, 10, 11, 12, 45] := by kernel_rfl
theorem kp23_10 : E.keep 23 10 = [2] := by kernel_rfl
theorem kp23_11 : E.keep 23 11 = [0, 10, 11, 12] := by kernel_rfl
theorem kp23_12 : E.keep 23 12 = [2] := by kernel_rfl
theorem kp24_0 : E.keep 24 0 = [2, 3] := by kernel_rfl
theorem kp24_1 : E.keep 24 1 = [4] := by kernel_rfl
theorem kp27_0 : E.keep 27 0 = [1, 2, 3, 6] := by kernel_rfl
theorem kp27_1 : E.keep 27 1 = [1, 2, 3, 6, 7] := by kernel_rfl
theorem kp27_2 : E.keep 27 2 = [1, 2, 3, 6, 7, 11] := by kernel_rfl
theorem kp27_3 : E.keep 27 3 = [1, 2, 3, 6] := by kernel_rfl
theorem kp27_4 : E.keep 27 4 = [1, 2, 3, 6, 7, 25] := by kernel_rfl
theorem kp27_5 : E.keep 27 5 = [1, 2, 3, 6] := by kernel_rfl
theorem kp27_6 : E.keep 27 6 = [1, 2, 3, 6, 7, 47] := by kernel_rfl
theorem kp27_7 : E.keep 27 7 = [1, 2, 3, 6] := by kernel_rfl
theorem kp27_8 : E.keep 27 8 = [1, 2, 3, 6, 7, 57] := by kernel_rfl
theorem kp27_9 : E.keep 27 9 = [1, 2, 3, 6] := by kernel_rfl
theorem kp27_10 : E.keep 27 10 = [1, 2, 3, 6, 7, 76] := by kernel_rfl
theorem kp27_11 : E.keep 27 11 = [1, 2, 3, 6] := by kernel_rfl
theorem kp27_12 : E.keep 27 12 = [1, 2, 3, 6, 88] := by kernel_rfl
theorem kp27_13 : E.keep 27 13 = [1, 2, 3, 6] := by kernel_rfl
theorem kp27_14 : E.keep 27 14 = [3, 6, 8] := by kernel_rfl
theorem kp27_15 : E.keep 27 15 = [3, 6, 8, 110] := by kernel_rfl
theorem kp27_16 : E.keep 27 16 = [3, 6, 8] := by kernel_rfl
theorem kp27_17 : E.keep 27 17 = [3, 6, 8] := by kernel_rfl
theorem kp27_18 : E.keep 27 18 = [6] := by kernel_rfl
theorem kp31_0 : E.keep 31 0 = [0, 1, 2] := by kernel_rfl
theorem kp31_1 : E.keep 31 1 = [1, 2, 8] := by kernel_rfl
theorem kp31_2 : E.keep 31 2 = [1, 2, 8, 9] := by kernel_rfl
theorem kp31_3 : E.keep 31 3 = [1, 2, 8, 11] := by kernel_rfl
theorem kp31_4 : E.keep 31 4 = [1, 2, 13] := by kernel_rfl
theorem kp31_5 : E.keep 31 5 = [6, 7] := by kernel_rfl
theorem kp31_6 : E.keep 31 6 = [6, 7] := by kernel_rfl
theorem kp31_7 : E.keep 31 7 = [6, 7] := by kernel_rfl
theorem hd12_6 : E.head 12 6 = [1, 2, 3, 5, 21, 22] := by kernel_rfl
theorem hd12_12 : E.head 12 12 = [1, 2, 3, 5, 31, 32, 33] := by kernel_rfl
theorem hd18_6 : E.head 18 6 = [2, 3, 4, 6, 25, 26, 27] := by kernel_rfl
theorem hd18_17 : E.head 18 17 = [6, 10, 89, 90] := by kernel_rfl
theorem hd23_4 : E.head 23 4 = [0, 10, 11, 12] := by kernel_rfl
theorem hd27_15 : E.head 27 15 = [3, 6, 8] := by kernel_rfl
theorem fl12_15 : E.flo 12 15 = [(0, 14), (2, 14), (3, 14), (5, 14), (6, 14), (7, 14), (10, 14), (11, 14), (12, 14)] := by kernel_rfl
theorem ho12_15 : E.hol 12 15 = false := by kernel_rfl
theorem dr12_15 (B : Nat) (fr : Fr) (H : Hp) (ops : Array Oper) : execT E B 12 (.region 15 ops true) fr H = regTK E 12 15 (evT E (callT E) ops.toList ops.toList fr H) := execT_draw ho12_15 ops
theorem fl12_16 : E.flo 12 16 = [] := by kernel_rfl
theorem ho12_16 : E.hol 12 16 = false := by kernel_rfl
theorem dr12_16 (B : Nat) (fr : Fr) (H : Hp) (ops : Array Oper) : execT E B 12 (.region 16 ops true) fr H = regK E 12 16 (evOps E (callT E) ops.toList ops.toList fr H) := execT_draw0 ho12_16 fl12_16 ops
theorem fl12_20 : E.flo 12 20 = [] := by kernel_rfl
theorem ho12_20 : E.hol 12 20 = false := by kernel_rfl
theorem dr12_20 (B : Nat) (fr : Fr) (H : Hp) (ops : Array Oper) : execT E B 12 (.region 20 ops true) fr H = regK E 12 20 (evOps E (callT E) ops.toList ops.toList fr H) := execT_draw0 ho12_20 fl12_20 ops
theorem fl18_12 : E.flo 18 12 = [] := by kernel_rfl
theorem ho18_12 : E.hol 18 12 = false := by kernel_rfl
theorem dr18_12 (B : Nat) (fr : Fr) (H : Hp) (ops : Array Oper) : execT E B 18 (.region 12 ops true) fr H = regK E 18 12 (evOps E (callT E) ops.toList ops.toList fr H) := execT_draw0 ho18_12 fl18_12 ops
theorem fl18_15 : E.flo 18 15 = [] := by kernel_rfl
theorem ho18_15 : E.hol 18 15 = false := by kernel_rfl
theorem dr18_15 (B : Nat) (fr : Fr) (H : Hp) (ops : Array Oper) : execT E B 18 (.region 15 ops true) fr H = regK E 18 15 (evOps E (callT E) ops.toList ops.toList fr H) := execT_draw0 ho18_15 fl18_15 ops
theorem fl18_19 : E.flo 18 19 = [] := by kernel_rfl
theorem ho18_19 : E.hol 18 19 = false := by kernel_rfl
theorem dr18_19 (B : Nat) (fr : Fr) (H : Hp) (ops : Array Oper) : execT E B 18 (.region 19 ops true) fr H = regK E 18 19 (evOps E (callT E) ops.toList ops.toList fr H) := execT_draw0 ho18_19 fl18_19 ops
theorem fl23_6 : E.flo 23 6 = [(5, 6)] := by kernel_rfl
theorem ho23_6 : E.hol 23 6 = false := by kernel_rfl
theorem dr23_6 (B : Nat) (fr : Fr) (H : Hp) (ops : Array Oper) : execT E B 23 (.region 6 ops true) fr H = regTK E 23 6 (evT E (callT E) ops.toList ops.toList fr H) := execT_draw ho23_6 ops
theorem fl27_9 : E.flo 27 9 = [] := by kernel_rfl
theorem ho27_9 : E.hol 27 9 = false := by kernel_rfl
theorem dr27_9 (B : Nat) (fr : Fr) (H : Hp) (ops : Array Oper) : execT E B 27 (.region 9 ops true) fr H = regK E 27 9 (evOps E (callT E) ops.toList ops.toList fr H) := execT_draw0 ho27_9 fl27_9 ops
theorem fl27_14 : E.flo 27 14 = [] := by kernel_rfl
theorem ho27_14 : E.hol 27 14 = false := by kernel_rfl
theorem dr27_14 (B : Nat) (fr : Fr) (H : Hp) (ops : Array Oper) : execT E B 27 (.region 14 ops true) fr H = regK E 27 14 (evOps E (callT E) ops.toList ops.toList fr H) := execT_draw0 ho27_14 fl27_14 ops
theorem mt12_6 : E.mat 12 6 = [] := by kernel_rfl
theorem mb12_6 : E.matb 12 6 = [] := by kernel_rfl
theorem zf12_6 : E.frz 12 6 = [] := by kernel_rfl
theorem mt12_12 : E.mat 12 12 = [] := by kernel_rfl
theorem mb12_12 : E.matb 12 12 = [] := by kernel_rfl
theorem zf12_12 : E.frz 12 12 = [] := by kernel_rfl
theorem mt18_6 : E.mat 18 6 = [] := by kernel_rfl
theorem mb18_6 : E.matb 18 6 = [] := by kernel_rfl
theorem zf18_6 : E.frz 18 6 = [] := by kernel_rfl
theorem mt18_17 : E.mat 18 17 = [] := by kernel_rfl
theorem mb18_17 : E.matb 18 17 = [] := by kernel_rfl
theorem zf18_17 : E.frz 18 17 = [] := by kernel_rfl
theorem mt23_4 : E.mat 23 4 = [] := by kernel_rfl
theorem mb23_4 : E.matb 23 4 = [] := by kernel_rfl
theorem zf23_4 : E.frz 23 4 = [] := by kernel_rfl
theorem mt27_15 : E.mat 27 15 = [] := by kernel_rfl
theorem mb27_15 : E.matb 27 15 = [] := by kernel_rfl
theorem zf27_15 : E.frz 27 15 = [] := by kernel_rfl
theorem rk10 : E.resk 10 = [] := by kernel_rfl
theorem ow10 : E.own 10 = false := by kernel_rfl
theorem ak11 : E.argk 11 = [] := by kernel_rfl
theorem pe11 (args : List AV) (H : Hp) : prepE E 11 H args = peP E 11 (prep H args) := prepE_v rfl args
theorem cr11 (args : List AV) (H : Hp) : calleeR E 11 args H = crK args (peP E 11 (prep H args)) := (cr_prep args).trans (by rw [pe11])
theorem ci11 (args : List AV) (H : Hp) : callIso E (callT E) 11 args H = prepK E (callT E) 11 (peP E 11 (prep H args)) := (iso_prep args).trans (by rw [pe11])
theorem ak12 : E.argk 12 = [[some 2]] := by kernel_rfl
theorem rk12 : E.resk 12 = [[some 1]] := by kernel_rfl
theorem ow12 : E.own 12 = false := by kernel_rfl
theorem pe12 (args : List AV) (H : Hp) : prepE E 12 H args = peP E 12 (prep H args) := prepE_v rfl args
theorem cr12 (args : List AV) (H : Hp) : calleeR E 12 args H = crK args (peP E 12 (prep H args)) := (cr_prep args).trans (by rw [pe12])
theorem ci12 (args : List AV) (H : Hp) : callIso E (callT E) 12 args H = prepK E (callT E) 12 (peP E 12 (prep H args)) := (iso_prep args).trans (by rw [pe12])
theorem ak18 : E.argk 18 = [[some 2]] := by kernel_rfl
theorem rk18 : E.resk 18 = [] := by kernel_rfl
theorem ow18 : E.own 18 = false := by kernel_rfl
theorem pe18 (args : List AV) (H : Hp) : prepE E 18 H args = peP E 18 (prep H args) := prepE_v rfl args
theorem cr18 (args : List AV) (H : Hp) : calleeR E 18 args H = crK args (peP E 18 (prep H args)) := (cr_prep args).trans (by rw [pe18])
theorem ci18 (args : List AV) (H : Hp) : callIso E (callT E) 18 args H = prepK E (callT E) 18 (peP E 18 (prep H args)) := (iso_prep args).trans (by rw [pe18])
theorem ak23 : E.argk 23 = [[some 2]] := by kernel_rfl
theorem rk23 : E.resk 23 = [] := by kernel_rfl
theorem ow23 : E.own 23 = false := by kernel_rfl
theorem pe23 (args : List AV) (H : Hp) : prepE E 23 H args = peP E 23 (prep H args) := prepE_v rfl args
theorem cr23 (args : List AV) (H : Hp) : calleeR E 23 args H = crK args (peP E 23 (prep H args)) := (cr_prep args).trans (by rw [pe23])
theorem ci23 (args : List AV) (H : Hp) : callIso E (callT E) 23 args H = prepK E (callT E) 23 (peP E 23 (prep H args)) := (iso_prep args).trans (by rw [pe23])
theorem ak24 : E.argk 24 = [] := by kernel_rfl
theorem rk24 : E.resk 24 = [] := by kernel_rfl
theorem ow24 : E.own 24 = false := by kernel_rfl
theorem pe24 (args : List AV) (H : Hp) : prepE E 24 H args = peP E 24 (prep H args) := prepE_v rfl args
theorem cr24 (args : List AV) (H : Hp) : calleeR E 24 args H = crK args (peP E 24 (prep H args)) := (cr_prep args).trans (by rw [pe24])
theorem ci24 (args : List AV) (H : Hp) : callIso E (callT E) 24 args H = prepK E (callT E) 24 (peP E 24 (prep H args)) := (iso_prep args).trans (by rw [pe24])
theorem ak27 : E.argk 27 = [] := by kernel_rfl
theorem rk27 : E.resk 27 = [] := by kernel_rfl
theorem ow27 : E.own 27 = false := by kernel_rfl
theorem pe27 (args : List AV) (H : Hp) : prepE E 27 H args = peP E 27 (prep H args) := prepE_v rfl args
theorem cr27 (args : List AV) (H : Hp) : calleeR E 27 args H = crK args (peP E 27 (prep H args)) := (cr_prep args).trans (by rw [pe27])
theorem ci27 (args : List AV) (H : Hp) : callIso E (callT E) 27 args H = prepK E (callT E) 27 (peP E 27 (prep H args)) := (iso_prep args).trans (by rw [pe27])
theorem ak30 : E.argk 30 = [] := by kernel_rfl
theorem pe30 (args : List AV) (H : Hp) : prepE E 30 H args = peP E 30 (prep H args) := prepE_v rfl args
theorem cr30 (args : List AV) (H : Hp) : calleeR E 30 args H = crK args (peP E 30 (prep H args)) := (cr_prep args).trans (by rw [pe30])
theorem ci30 (args : List AV) (H : Hp) : callIso E (callT E) 30 args H = prepK E (callT E) 30 (peP E 30 (prep H args)) := (iso_prep args).trans (by rw [pe30])
theorem ak31 : E.argk 31 = [] := by kernel_rfl
theorem rk31 : E.resk 31 = [] := by kernel_rfl
theorem ow31 : E.own 31 = false := by kernel_rfl
theorem pe31 (args : List AV) (H : Hp) : prepE E 31 H args = peP E 31 (prep H args) := prepE_v rfl args
theorem cr31 (args : List AV) (H : Hp) : calleeR E 31 args H = crK args (peP E 31 (prep H args)) := (cr_prep args).trans (by rw [pe31])
theorem ci31 (args : List AV) (H : Hp) : callIso E (callT E) 31 args H = prepK E (callT E) 31 (peP E 31 (prep H args)) := (iso_prep args).trans (by rw [pe31])
theorem ak32 : E.argk 32 = [] := by kernel_rfl
theorem pe32 (args : List AV) (H : Hp) : prepE E 32 H args = peP E 32 (prep H args) := prepE_v rfl args
theorem cr32 (args : List AV) (H : Hp) : calleeR E 32 args H = crK args (peP E 32 (prep H args)) := (cr_prep args).trans (by rw [pe32])
theorem ci32 (args : List AV) (H : Hp) : callIso E (callT E) 32 args H = prepK E (callT E) 32 (peP E 32 (prep H args)) := (iso_prep args).trans (by rw [pe32])
theorem bd45 (parts : List (Nat × AV)) : buildE E 45 parts = aggK (fillS [(0, 1), (1, 1)] [.i (.v (.int .i64 0)), .i (.v (.int .i64 0))] parts) := bd_struct (by kernel_rfl) (by kernel_rfl) (by kernel_rfl) parts
theorem bd58 (parts : List (Nat × AV)) : buildE E 58 parts = aggK (fillS [(0, 1), (1, 16)] [.i (.v (.bool false)), .i (.v (.bool false)), .i (.v (.bool false)), .i (.v (.bool false)), .i (.v (.bool false)), .i (.v (.bool false)), .i (.v (.bool false)), .i (.v (.bool false)), .i (.v (.bool false)), .i (.v (.bool false)), .i (.v (.bool false)), .i (.v (.bool false)), .i (.v (.bool false)), .i (.v (.bool false)), .i (.v (.bool false)), .i (.v (.bool false)), .i (.v (.bool false))] parts) := bd_struct (by kernel_rfl) (by kernel_rfl) (by kernel_rfl) parts
theorem cv48_3 (cl : CallF) (fr : Fr) (H : Hp) (x : Operand) : evOp E cl (.convert 48 3 x) fr H = pK H (convE E 48 3 (opd E fr x)) := op_convert _ _ _ (by kernel_rfl) (by kernel_rfl)
theorem sx24 (H : Hp) (x : AV) (lo hi : Option AV) : sliceE E H 24 x lo hi none = slN 1 H lo hi x := sl_sl (e := 3) (z := 1) (by kernel_rfl) (by kernel_rfl) (by kernel_rfl) x lo hi
theorem sw24 (H : Hp) (sz : Nat) (rows : List (List IV)) (ex : Bool) (k k' : IntKind) (h m : Int) : sliceE E H 24 (.i (.sl sz rows ex)) none (some (.i (.v (.int k h)))) (some (.i (.v (.int k' m)))) = if 0 ≤ h ∧ h = m ∧ h ≤ rows.length ∧ (rows = [] ∨ 1 = sz) then some (.i (.sl sz (rows.take h.toNat) true)) else none := sl_sl3 (e := 3) (by kernel_rfl) (by kernel_rfl) sz rows ex k k' h m
theorem ap22_22 (H : Hp) (s x : AV) : appendE E H 22 22 s x = apS 2 H s (srcE H x) := ap_eq (by kernel_rfl) H s x
theorem ap24_24 (H : Hp) (s x : AV) : appendE E H 24 24 s x = apS 1 H s (srcE H x) := ap_eq (by kernel_rfl) H s x
theorem bs22 (H : Hp) (n : Nat) (hn : n * 2 ≤ 16777216) (parts : List (Nat × AV)) : buildSliceE E H 22 n parts = bsF [] 2 n H (fillA 2 (List.replicate n [.i (.v (.int .i64 0)), .i (.v (.int .i64 0))]).flatten parts) := bs_eq (by kernel_rfl) H n hn parts
theorem br22 (n : Nat) (parts : List (Nat × AV)) : buildRefs E 22 n parts = brK (fillA 2 (List.replicate n [.i (.v (.int .i64 0)), .i (.v (.int .i64 0))]).flatten parts) := br_eq (ks := []) (by kernel_rfl) n parts
theorem ms22 (H : Hp) (k k' : IntKind) (n m : Int) : makeSliceE E H 22 (.i (.v (.int k n))) (.i (.v (.int k' m))) = if 0 ≤ n ∧ n = m ∧ n < 1073741824 then some (.ref H.length 0 0 n.toNat, H ++ [.sl 2 0 (List.replicate n.toNat [.v (.int .i64 0), .v (.int .i64 0)]) true]) else none := ms_eq (by kernel_rfl) H k k' n m
theorem bs24 (H : Hp) (n : Nat) (hn : n * 1 ≤ 16777216) (parts : List (Nat × AV)) : buildSliceE E H 24 n parts = bsF [] 1 n H (fillA 1 (List.replicate n [.i (.v (.int .i64 0))]).flatten parts) := bs_eq (by kernel_rfl) H n hn parts
theorem br24 (n : Nat) (parts : List (Nat × AV)) : buildRefs E 24 n parts = brK (fillA 1 (List.replicate n [.i (.v (.int .i64 0))]).flatten parts) := br_eq (ks := []) (by kernel_rfl) n parts
theorem ms24 (H : Hp) (k k' : IntKind) (n m : Int) : makeSliceE E H 24 (.i (.v (.int k n))) (.i (.v (.int k' m))) = if 0 ≤ n ∧ n = m ∧ n < 1073741824 then some (.ref H.length 0 0 n.toNat, H ++ [.sl 1 0 (List.replicate n.toNat [.v (.int .i64 0)]) true]) else none := ms_eq (by kernel_rfl) H k k' n m
theorem bs55 (H : Hp) (n : Nat) (hn : n * 17 ≤ 16777216) (parts : List (Nat × AV)) : buildSliceE E H 55 n parts = bsF [] 17 n H (fillA 17 (List.replicate n [.i (.v (.bool false)), .i (.v (.bool false)), .i (.v (.bool false)), .i (.v (.bool false)), .i (.v (.bool false)), .i (.v (.bool false)), .i (.v (.bool false)), .i (.v (.bool false)), .i (.v (.bool false)), .i (.v (.bool false)), .i (.v (.bool false)), .i (.v (.bool false)), .i (.v (.bool false)), .i (.v (.bool false)), .i (.v (.bool false)), .i (.v (.bool false)), .i (.v (.bool false))]).flatten parts) := bs_eq (by kernel_rfl) H n hn parts
theorem br55 (n : Nat) (parts : List (Nat × AV)) : buildRefs E 55 n parts = brK (fillA 17 (List.replicate n [.i (.v (.bool false)), .i (.v (.bool false)), .i (.v (.bool false)), .i (.v (.bool false)), .i (.v (.bool false)), .i (.v (.bool false)), .i (.v (.bool false)), .i (.v (.bool false)), .i (.v (.bool false)), .i (.v (.bool false)), .i (.v (.bool false)), .i (.v (.bool false)), .i (.v (.bool false)), .i (.v (.bool false)), .i (.v (.bool false)), .i (.v (.bool false)), .i (.v (.bool false))]).flatten parts) := br_eq (ks := []) (by kernel_rfl) n parts
theorem ms55 (H : Hp) (k k' : IntKind) (n m : Int) : makeSliceE E H 55 (.i (.v (.int k n))) (.i (.v (.int k' m))) = if 0 ≤ n ∧ n = m ∧ n < 1073741824 then some (.ref H.length 0 0 n.toNat, H ++ [.sl 17 0 (List.replicate n.toNat [.v (.bool false), .v (.bool false), .v (.bool false), .v (.bool false), .v (.bool false), .v (.bool false), .v (.bool false), .v (.bool false), .v (.bool false), .v (.bool false), .v (.bool false), .v (.bool false), .v (.bool false), .v (.bool false), .v (.bool false), .v (.bool false), .v (.bool false)]) true]) else none := ms_eq (by kernel_rfl) H k k' n m
theorem bs65 (H : Hp) (n : Nat) (hn : n * 1 ≤ 16777216) (parts : List (Nat × AV)) : buildSliceE E H 65 n parts = bsF [] 1 n H (fillA 1 (List.replicate n [.i (.str [])]).flatten parts) := bs_eq (by kernel_rfl) H n hn parts
theorem br65 (n : Nat) (parts : List (Nat × AV)) : buildRefs E 65 n parts = brK (fillA 1 (List.replicate n [.i (.str [])]).flatten parts) := br_eq (ks := []) (by kernel_rfl) n parts
theorem ms65 (H : Hp) (k k' : IntKind) (n m : Int) : makeSliceE E H 65 (.i (.v (.int k n))) (.i (.v (.int k' m))) = if 0 ≤ n ∧ n = m ∧ n < 1073741824 then some (.ref H.length 0 0 n.toNat, H ++ [.sl 1 0 (List.replicate n.toNat [.str []]) true]) else none := ms_eq (by kernel_rfl) H k k' n m
theorem st22 (H : Hp) (c g r k : Nat) (v : AV) : storeE E H 22 (.ptr c g r k) v = if (cellsA v).length = 1 ∧ (cellsA v).all one = true then stC [some 2] 1 H c g r k (cellsA v) H[c]? else none := st_eq sz22 H c g r k v
theorem st24 (H : Hp) (c g r k : Nat) (v : AV) : storeE E H 24 (.ptr c g r k) v = if (cellsA v).length = 1 ∧ (cellsA v).all one = true then stC [some 1] 1 H c g r k (cellsA v) H[c]? else none := st_eq sz24 H c g r k v
theorem st25 (H : Hp) (c g r k : Nat) (v : AV) : storeE E H 25 (.ptr c g r k) v = if (cellsA v).length = 1 ∧ (cellsA v).all one = true then stC [] 1 H c g r k (cellsA v) H[c]? else none := st_eq sz25 H c g r k v
theorem st3 (H : Hp) (c g r k : Nat) (v : AV) : storeE E H 3 (.ptr c g r k) v = if (cellsA v).length = 1 ∧ (cellsA v).all one = true then stC [] 1 H c g r k (cellsA v) H[c]? else none := st_eq sz3 H c g r k v
theorem st4 (H : Hp) (c g r k : Nat) (v : AV) : storeE E H 4 (.ptr c g r k) v = if (cellsA v).length = 1 ∧ (cellsA v).all one = true then stC [] 1 H c g r k (cellsA v) H[c]? else none := st_eq sz4 H c g r k v
theorem st45 (H : Hp) (c g r k : Nat) (v : AV) : storeE E H 45 (.ptr c g r k) v = if (cellsA v).length = 2 ∧ (cellsA v).all one = true then stC [] 2 H c g r k (cellsA v) H[c]? else none := st_eq sz45 H c g r k v
theorem st55 (H : Hp) (c g r k : Nat) (v : AV) : storeE E H 55 (.ptr c g r k) v = if (cellsA v).length = 1 ∧ (cellsA v).all one = true then stC [some 17] 1 H c g r k (cellsA v) H[c]? else none := st_eq sz55 H c g r k v
theorem st56 (H : Hp) (c g r k : Nat) (v : AV) : storeE E H 56 (.ptr c g r k) v = if (cellsA v).length = 16 ∧ (cellsA v).all one = true then stC [] 16 H c g r k (cellsA v) H[c]? else none := st_eq sz56 H c g r k v
theorem st58 (H : Hp) (c g r k : Nat) (v : AV) : storeE E H 58 (.ptr c g r k) v = if (cellsA v).length = 17 ∧ (cellsA v).all one = true then stC [] 17 H c g r k (cellsA v) H[c]? else none := st_eq sz58 H c g r k v
theorem st9 (H : Hp) (c g r k : Nat) (v : AV) : storeE E H 9 (.ptr c g r k) v = if (cellsA v).length = 1 ∧ (cellsA v).all one = true then stC [] 1 H c g r k (cellsA v) H[c]? else none := st_eq sz9 H c g r k v
def en10 := And.intro @ent10 (And.intro @res10 (And.intro @rk10 (And.intro @ow10 (And.intro @kp10_0 (And.intro @kp10_1 (And.intro @kp10_2 (And.intro @kp10_3 (And.intro @kp10_4 (And.intro @kp10_5 (And.intro @kp10_6 (And.intro @kp10_7 (And.intro @kp10_8 (And.intro @kp10_9 (And.intro @kp10_10 (And.intro @sq32 (And.intro @ent11 (And.intro @ci11 (And.intro @cr11 (And.intro @ak11 (And.intro @ent18 (And.intro @ci18 (And.intro @cr18 (And.intro @ak18 (And.intro @agg22 (And.intro @agg3 (And.intro @agg45 (And.intro @agg48 (And.intro @arr22 (And.intro @arr45 (And.intro @arrz45 (And.intro @fld45_0 (And.intro @kind22 (And.intro @kind3 (And.intro @cv48_3 (And.intro @kind45 (And.intro @kind48 (And.intro @pl45 (And.intro @sl22 (And.intro @ms22 (And.intro @br22 (And.intro @ap22_22 (And.intro @sl3 (And.intro @sl48 (And.intro @str22 (And.intro @str3 (And.intro @str48 (And.intro @sz3 (And.intro @st3 (And.intro @sz45 (And.intro @st45 (And.intro @zero45 (@bd45))))))))))))))))))))))))))))))))))))))))))))))))))))
def en12 := And.intro @ent12 (And.intro @res12 (And.intro @rk12 (And.intro @ow12 (And.intro @kp12_0 (And.intro @kp12_1 (And.intro @kp12_2 (And.intro @kp12_3 (And.intro @kp12_4 (And.intro @kp12_5 (And.intro @kp12_6 (And.intro @kp12_7 (And.intro @kp12_8 (And.intro @kp12_9 (And.intro @kp12_10 (And.intro @kp12_11 (And.intro @kp12_12 (And.intro @kp12_13 (And.intro @kp12_14 (And.intro @kp12_15 (And.intro @kp12_16 (And.intro @kp12_17 (And.intro @kp12_18 (And.intro @kp12_19 (And.intro @kp12_20 (And.intro @kp12_21 (And.intro @kp12_22 (And.intro @kp12_23 (And.intro @kp12_24 (And.intro @hd12_6 (And.intro @hd12_12 (And.intro @fl12_15 (And.intro @dr12_15 (And.intro @fl12_16 (And.intro @dr12_16 (And.intro @fl12_20 (And.intro @dr12_20 (And.intro @sq32 (And.intro @ent23 (And.intro @ci23 (And.intro @cr23 (And.intro @ak23 (And.intro @ent24 (And.intro @ci24 (And.intro @cr24 (And.intro @ak24 (And.intro @agg22 (And.intro @agg24 (And.intro @agg25 (And.intro @agg3 (And.intro @agg45 (And.intro @agg50 (And.intro @arr22 (And.intro @arr24 (And.intro @arr50 (And.intro @arrz45 (And.intro @fld45_0 (And.intro @kind22 (And.intro @kind24 (And.intro @kind3 (And.intro @cv48_3 (And.intro @kind45 (And.intro @kind50 (And.intro @pl45 (And.intro @sl22 (And.intro @ms22 (And.intro @br22 (And.intro @ap22_22 (And.intro @sl24 (And.intro @ms24 (And.intro @br24 (And.intro @sx24 (And.intro @sw24 (And.intro @ap24_24 (And.intro @sl3 (And.intro @sl45 (And.intro @sl50 (And.intro @str22 (And.intro @str24 (And.intro @str3 (And.intro @str45 (And.intro @str50 (And.intro @sz22 (And.intro @st22 (And.intro @sz24 (And.intro @st24 (And.intro @sz25 (And.intro @st25 (And.intro @sz3 (And.intro @st3 (And.intro @sz45 (And.intro @st45 (And.intro @zero24 (And.intro @zero25 (And.intro @zero3 (And.intro @zero45 (@bd45))))))))))))))))))))))))))))))))))))))))))))))))))))))))))))))))))))))))))))))))))))))))))))))))
def en18 := And.intro @ent18 (And.intro @res18 (And.intro @rk18 (And.intro @ow18 (And.intro @kp18_0 (And.intro @kp18_1 (And.intro @kp18_2 (And.intro @kp18_3 (And.intro @kp18_4 (And.intro @kp18_5 (And.intro @kp18_6 (And.intro @kp18_7 (And.intro @kp18_8 (And.intro @kp18_9 (And.intro @kp18_10 (And.intro @kp18_11 (And.intro @kp18_12 (And.intro @kp18_13 (And.intro @kp18_14 (And.intro @kp18_15 (And.intro @kp18_16 (And.intro @kp18_17 (And.intro @kp18_18 (And.intro @kp18_19 (And.intro @kp18_20 (And.intro @kp18_21 (And.intro @kp18_22 (And.intro @hd18_6 (And.intro @hd18_17 (And.intro @fl18_12 (And.intro @dr18_12 (And.intro @fl18_15 (And.intro @dr18_15 (And.intro @fl18_19 (And.intro @dr18_19 (And.intro @sq32 (And.intro @ent12 (And.intro @ci12 (And.intro @cr12 (And.intro @ak12 (And.intro @ent24 (And.intro @ci24 (And.intro @cr24 (And.intro @ak24 (And.intro @ent27 (And.intro @ci27 (And.intro @cr27 (And.intro @ak27 (And.intro @agg22 (And.intro @agg24 (And.intro @agg3 (And.intro @agg4 (And.intro @agg45 (And.intro @agg55 (And.intro @agg56 (And.intro @agg58 (And.intro @arr22 (And.intro @arr24 (And.intro @arr55 (And.intro @arr56 (And.intro @arrz45 (And.intro @arrz58 (And.intro @fld45_0 (And.intro @fld58_0 (And.intro @fld58_1 (And.intro @kind22 (And.intro @kind24 (And.intro @kind3 (And.intro @cv48_3 (And.intro @kind45 (And.intro @kind55 (And.intro @kind56 (And.intro @kind58 (And.intro @pl45 (And.intro @pl58 (And.intro @sl22 (And.intro @ms22 (And.intro @br22 (And.intro @ap22_22 (And.intro @sl24 (And.intro @ms24 (And.intro @br24 (And.intro @sx24 (And.intro @sw24 (And.intro @ap24_24 (And.intro @sl3 (And.intro @sl45 (And.intro @sl55 (And.intro @ms55 (And.intro @br55 (And.intro @sl56 (And.intro @sl58 (And.intro @str22 (And.intro @str24 (And.intro @str3 (And.intro @str45 (And.intro @str55 (And.intro @str56 (And.intro @str58 (And.intro @sz3 (And.intro @st3 (And.intro @sz4 (And.intro @st4 (And.intro @sz45 (And.intro @st45 (And.intro @sz55 (And.intro @st55 (And.intro @sz56 (And.intro @st56 (And.intro @sz58 (And.intro @st58 (And.intro @zero3 (And.intro @zero45 (And.intro @bd45 (And.intro @zero55 (And.intro @zero58 (@bd58))))))))))))))))))))))))))))))))))))))))))))))))))))))))))))))))))))))))))))))))))))))))))))))))))))))))))))))))))))
def en23 := And.intro @ent23 (And.intro @res23 (And.intro @rk23 (And.intro @ow23 (And.intro @kp23_0 (And.intro @kp23_1 (And.intro @kp23_2 (And.intro @kp23_3 (And.intro @kp23_4 (And.intro @kp23_5 (And.intro @kp23_6 (And.intro @kp23_7 (And.intro @kp23_8 (And.intro @kp23_9 (And.intro @kp23_10 (And.intro @kp23_11 (And.intro @kp23_12 (And.intro @hd23_4 (And.intro @fl23_6 (And.intro @dr23_6 (And.intro @sq32 (And.intro @ent30 (And.intro @ci30 (And.intro @cr30 (And.intro @ak30 (And.intro @ent31 (And.intro @ci31 (And.intro @cr31 (And.intro @ak31 (And.intro @agg22 (And.intro @agg3 (And.intro @agg45 (And.intro @agg65 (And.intro @agg9 (And.intro @arr22 (And.intro @arrz45 (And.intro @fld45_0 (And.intro @fld45_1 (And.intro @kind22 (And.intro @kind3 (And.intro @cv48_3 (And.intro @kind45 (And.intro @kind65 (And.intro @kind9 (And.intro @pl45 (And.intro @sl22 (And.intro @ms22 (And.intro @br22 (And.intro @ap22_22 (And.intro @sl3 (And.intro @sl65 (And.intro @ms65 (And.intro @br65 (And.intro @str22 (And.intro @str3 (And.intro @str65 (And.intro @sz3 (And.intro @st3 (And.intro @sz45 (And.intro @st45 (And.intro @sz9 (And.intro @st9 (And.intro @zero45 (And.intro @bd45 (@zero9))))))))))))))))))))))))))))))))))))))))))))))))))))))))))))))))
def en24 := And.intro @ent24 (And.intro @res24 (And.intro @rk24 (And.intro @ow24 (And.intro @kp24_0 (And.intro @kp24_1 (And.intro @sq32 (And.intro @ent32 (And.intro @ci32 (And.intro @cr32 (@ak32))))))))))
def en27 := And.intro @ent27 (And.intro @res27 (And.intro @rk27 (And.intro @ow27 (And.intro @kp27_0 (And.intro @kp27_1 (And.intro @kp27_2 (And.intro @kp27_3 (And.intro @kp27_4 (And.intro @kp27_5 (And.intro @kp27_6 (And.intro @kp27_7 (And.intro @kp27_8 (And.intro @kp27_9 (And.intro @kp27_10 (And.intro @kp27_11 (And.intro @kp27_12 (And.intro @kp27_13 (And.intro @kp27_14 (And.intro @kp27_15 (And.intro @kp27_16 (And.intro @kp27_17 (And.intro @kp27_18 (And.intro @hd27_15 (And.intro @fl27_9 (And.intro @dr27_9 (And.intro @fl27_14 (And.intro @dr27_14 (And.intro @sq32 (And.intro @agg3 (And.intro @agg4 (And.intro @agg50 (And.intro @agg56 (And.intro @agg58 (And.intro @arr50 (And.intro @arr56 (And.intro @arrz58 (And.intro @fld58_0 (And.intro @fld58_1 (And.intro @kind50 (And.intro @kind56 (And.intro @pl58 (And.intro @sl50 (And.intro @sl56 (And.intro @str50 (And.intro @str56 (And.intro @sz3 (And.intro @st3 (And.intro @sz4 (And.intro @st4 (And.intro @sz56 (And.intro @st56 (And.intro @sz58 (And.intro @st58 (And.intro @zero58 (@bd58)))))))))))))))))))))))))))))))))))))))))))))))))))))))
def en31 := And.intro @ent31 (And.intro @res31 (And.intro @rk31 (And.intro @ow31 (And.intro @kp31_0 (And.intro @kp31_1 (And.intro @kp31_2 (And.intro @kp31_3 (And.intro @kp31_4 (And.intro @kp31_5 (And.intro @kp31_6 (And.intro @kp31_7 (@sq32))))))))))))
end Go.VI

namespace Go.VI
open Go.Proofs Go.RowKit Go.Shelf
attribute [local go_sem] Oper.semAt_some
set_option maxRecDepth 100000
set_option linter.unusedSimpArgs false
set_option linter.unusedVariables false
set_option maxHeartbeats 4000000
theorem seq_inv {css : List (List Int)} {xs : List Int} (h : seqSucc css = some xs) : ∃ op arg i, css = [[op, arg], [i]] ∧ (-9223372036854775808 ≤ i + 1 ∧ i + 1 ≤ 9223372036854775807) ∧ sucL op arg i = xs := by
  unfold seqSucc at h
  split at h
  · rename_i op arg i
    split at h
    · rename_i hi
      cases h
      exact ⟨op, arg, i, rfl, hi, rfl⟩
    · cases h
  · cases h
theorem seq_succ : Seq1 Tryd.prog 32 seqSucc := by
  intro l nn css xs bs J Jx W hL hlen hcells hdr hdrx hY h0
  obtain ⟨op, arg, i, rfl, ⟨hi1, hi2⟩, rfl⟩ := seq_inv hL
  obtain ⟨b1, b2, rfl⟩ : ∃ b1 b2, bs = [b1, b2] := by
    cases bs with
    | nil => cases hlen
    | cons a bs => cases bs with
      | nil => cases hlen
      | cons b bs => cases bs with
        | nil => exact ⟨a, b, rfl⟩
        | cons c bs => simp at hlen
  have c1 : ∀ j W, J j W → W.cell? ⟨b1, 0, none⟩ = some (.int .i64 op) := fun j W h => hcells j W h 0 b1 [op, arg] rfl rfl 0 op rfl
  have c2 : ∀ j W, J j W → W.cell? ⟨b1, 1, none⟩ = some (.int .i64 arg) := fun j W h => hcells j W h 0 b1 [op, arg] rfl rfl 1 arg rfl
  have c3 : ∀ j W, J j W → W.cell? ⟨b2, 0, none⟩ = some (.int .i64 i) := fun j W h => hcells j W h 1 b2 [i] rfl rfl 0 i rfl
  have a1 := c1 0 W h0
  have a2 := c2 0 W h0
  have a3 := c3 0 W h0
  have hw : IntKind.i64.wrap (i + 1) = i + 1 := w_i64 hi1 hi2
  refine callsIn_of_wp Tryd.func32 rfl trivial ?_ rfl
  simp only [ptrV, List.map_cons, List.map_nil, Tryd.ntmps32, List.size_toArray, List.length_cons, List.length_nil, Nat.reduceAdd, Nat.reduceSub, Array.replicate_succ, Array.replicate_zero, List.push_toArray, List.append_toArray, List.nil_append, List.cons_append]
  by_cases h : op = 0
  · subst h
    have hs : sucL 0 arg i = [] := by simp [sucL]
    rw [hs] at hY ⊢
    gi_wp2
    refine ⟨fun _ h => (by cases h), ?_⟩
    gi_wp2
    go_end0
    exact ⟨⟨_, rfl⟩, .inl h0⟩
  · by_cases h17 : op = 17
    · subst h17
      have hs : sucL 17 arg i = [arg] := by simp [sucL]
      rw [hs] at hY ⊢
      obtain ⟨f1, t1, s1, d1, hy1, hR1⟩ := hY (nn - 1) 0 arg W rfl h0
      gi_wp2
      refine ⟨fun _ h => (by cases h), ?_⟩
      gi_wp2
      refine ⟨fun h => (by cases h), hR1.mono ?_⟩
      rintro e W1 (⟨rfl, hJ1⟩ | ⟨rfl, hx1⟩)
      · gi_wp2
        go_end0
        exact ⟨⟨_, rfl⟩, .inl hJ1⟩
      · gi_wp2
        go_end0
        exact ⟨⟨_, rfl⟩, .inr hx1⟩
    · have hs : sucL op arg i = (i + 1) :: (if op = 17 ∨ op = 18 then [arg] else []) := by unfold sucL; rw [if_neg (by omega)]; rfl
      rw [hs] at hY ⊢
      obtain ⟨f1, t1, s1, d1, hy1, hR1⟩ := hY (nn - 1) 0 (i + 1) W rfl h0
      have q1 : (op != 0) = true := by simp [h]
      have q2 : (op != 17) = true := by simp [h17]
      have q4 : (op == 17) = false := by simp [h17]
      by_cases h18 : op = 18
      · subst h18
        gi_wp2
        refine ⟨fun h => (by cases h), hR1.mono ?_⟩
        rintro e W1 (⟨rfl, hJ1⟩ | ⟨rfl, hx1⟩)
        · have e1 := c1 1 W1 hJ1
          have e2 := c2 1 W1 hJ1
          obtain ⟨f2, t2, s2, d2, hy2, hR2⟩ := hY (nn - 1) 1 arg W1 rfl hJ1
          gi_wp2
          refine ⟨fun h => (by cases h), hR2.mono ?_⟩
          rintro e W2 (⟨rfl, hJ2⟩ | ⟨rfl, hx2⟩)
          · gi_wp2
            go_end0
            exact ⟨⟨_, rfl⟩, .inl hJ2⟩
          · gi_wp2
            go_end0
            exact ⟨⟨_, rfl⟩, .inr hx2⟩
        · gi_wp2
          refine bodyPost_ret (results_none rfl _ _ _) rfl ?_
          exact ⟨⟨_, rfl⟩, .inr hx1⟩
      · rw [if_neg (show ¬ (op = 17 ∨ op = 18) by omega)] at hY ⊢
        have q3 : (op == 18) = false := by simp [h18]
        gi_wp2
        refine ⟨fun h => (by cases h), hR1.mono ?_⟩
        rintro e W1 (⟨rfl, hJ1⟩ | ⟨rfl, hx1⟩)
        · have e1 := c1 1 W1 hJ1
          gi_wp2
          go_end0
          exact ⟨⟨_, rfl⟩, .inl hJ1⟩
        · gi_wp2
          refine bodyPost_ret (results_none rfl _ _ _) rfl ?_
          exact ⟨⟨_, rfl⟩, .inr hx1⟩
theorem seqOK : SeqOK E := by
  intro g L h
  rcases E_seqI g L h with ⟨rfl, rfl⟩ | h
  · exact ⟨ent32, seq_succ⟩
  · exact h.elim
end Go.VI

namespace Go.VI
open Go.Proofs
set_option maxRecDepth 100000
set_option linter.unusedSimpArgs false
set_option linter.unusedVariables false
set_option maxHeartbeats 4000000
abbrev Ins := Int × Int
def insC (p : Ins) : List IV := [.v (.int .i64 p.1), .v (.int .i64 p.2)]
def rowsI (l : List Ins) : List (List IV) := l.map insC
theorem rowsI_len (l : List Ins) : (rowsI l).length = l.length := by simp [rowsI]
theorem rowsI_at {l : List Ins} {k : Nat} (h : k < l.length) : (rowsI l)[k]? = some [.v (.int .i64 l[k].1), .v (.int .i64 l[k].2)] := by simp [rowsI, insC, h]
def boundsS (op i n : Int) : Int × Int := if op = 1 then (-999999999, 999999999) else if op = 17 ∨ op = 18 then (i + 1, n) else (0, 0)
def chk1 (n i : Int) (p : Ins) : Int := if p.1 < 0 ∨ 20 < p.1 then 9 else if p.2 < (boundsS p.1 i n).1 ∨ (boundsS p.1 i n).2 < p.2 then 2 else 0
def chkL (n : Int) : Nat → List Ins → Int
  | _, [] => 0
  | i, p :: r => if chk1 n i p = 0 then chkL n (i + 1) r else chk1 n i p
def checkI (l : List Ins) : Int := if 500 < (l.length : Int) then 5 else chkL l.length 0 l
theorem c31 (op i n : Int) (hi : -9223372036854775808 ≤ i + 1 ∧ i + 1 ≤ 9223372036854775807) : ∃ L, callT E 31 [.i (.v (.int .i64 op)), .i (.v (.int .i64 i)), .i (.v (.int .i64 n))] [] = some (.tup [.i (.v (.int .i64 (boundsS op i n).1)), .i (.v (.int .i64 (boundsS op i n).2))], L) := by
  unfold boundsS
  by_cases h1 : op = 1
  · subst h1; rw [callT_eq Tryd.func31 rfl fok31 (by simp [Tryd.ntmps31])]; simp (disch := first | omega | (simp only [List.length_append, List.length_map, List.length_set, List.length_cons, List.length_nil, List.length_take, List.length_drop]; omega)) only [va0, va1, va2, va3, va4, va5, va6, va7, va8, va9, va10, va11, va12, va13, va14, va15, vb0, vb1, vb2, vb3, w_i8, w_u8, w_i16, w_u16, w_i32, w_u32, w_i64, w_u64, lt_T, lt_F, le_T, le_F, nlt_T, nlt_F, nle_T, nle_F, List.take_of_length_le, gB, gcW, gcR, posIn, renA, renL, Chunk.ren, Chunk.refs, evOpD, touchD, stepC, isFresh, nFresh, freshOf, mkR, hole, evL, evH, opd, get, putD, ofVal, cellOf, loadE, behind, lenE, idxAddrE, idxE, addPtr, intE, strE, unE, convE, AV.int, AV.bool, AV.str, ivs, take, frameOf, firstRegion, refsA, refsL, one, cellsA, floatOk, apartT, List.map, if_true, if_false, E_P, E_glob0, E_glob1, reduceCtorEq, beq_self_eq_true, decide_true, decide_false, ↓reduceIte, Nat.reduceEqDiff, cond_true, cond_false, or_true, true_or, or_false, false_or, and_true, true_and, and_self, false_and, and_false, not_true, not_false_iff, Nat.reduceAdd, Nat.reduceSub, Nat.reduceMul, Nat.reduceLT, Nat.reduceLeDiff, Int.reduceToNat, Int.reduceLT, Int.reduceLE, Option.getD, Int.reduceMul, Int.reduceAdd, List.drop, List.take, Nat.reduceBEq, List.isEmpty, Int.reduceEq, Int.reduceNe, Int.reduceNeg, Int.reduceGT, Int.reduceGE, beq_true, beq_false, UInt8.reduceToNat, eqE, eq_self, foldE, maxE, minE, eq_T, eq_F, ndec, odec, adec, sdec, fillA, over, chop, List.replicate, leavesOk, leafOk, cellsEq, cellEq, E_ext, E_byref, en31]; exact ⟨_, rfl⟩
  · by_cases h2 : op = 17
    · subst h2; rw [callT_eq Tryd.func31 rfl fok31 (by simp [Tryd.ntmps31])]; simp (disch := first | omega | (simp only [List.length_append, List.length_map, List.length_set, List.length_cons, List.length_nil, List.length_take, List.length_drop]; omega)) only [va0, va1, va2, va3, va4, va5, va6, va7, va8, va9, va10, va11, va12, va13, va14, va15, vb0, vb1, vb2, vb3, w_i8, w_u8, w_i16, w_u16, w_i32, w_u32, w_i64, w_u64, lt_T, lt_F, le_T, le_F, nlt_T, nlt_F, nle_T, nle_F, List.take_of_length_le, gB, gcW, gcR, posIn, renA, renL, Chunk.ren, Chunk.refs, evOpD, touchD, stepC, isFresh, nFresh, freshOf, mkR, hole, evL, evH, opd, get, putD, ofVal, cellOf, loadE, behind, lenE, idxAddrE, idxE, addPtr, intE, strE, unE, convE, AV.int, AV.bool, AV.str, ivs, take, frameOf, firstRegion, refsA, refsL, one, cellsA, floatOk, apartT, List.map, if_true, if_false, E_P, E_glob0, E_glob1, reduceCtorEq, beq_self_eq_true, decide_true, decide_false, ↓reduceIte, Nat.reduceEqDiff, cond_true, cond_false, or_true, true_or, or_false, false_or, and_true, true_and, and_self, false_and, and_false, not_true, not_false_iff, Nat.reduceAdd, Nat.reduceSub, Nat.reduceMul, Nat.reduceLT, Nat.reduceLeDiff, Int.reduceToNat, Int.reduceLT, Int.reduceLE, Option.getD, Int.reduceMul, Int.reduceAdd, List.drop, List.take, Nat.reduceBEq, List.isEmpty, Int.reduceEq, Int.reduceNe, Int.reduceNeg, Int.reduceGT, Int.reduceGE, beq_true, beq_false, UInt8.reduceToNat, eqE, eq_self, foldE, maxE, minE, eq_T, eq_F, ndec, odec, adec, sdec, fillA, over, chop, List.replicate, leavesOk, leafOk, cellsEq, cellEq, E_ext, E_byref, en31, w_i64]; exact ⟨_, rfl⟩
    · by_cases h3 : op = 18
      · subst h3; rw [callT_eq Tryd.func31 rfl fok31 (by simp [Tryd.ntmps31])]; simp (disch := first | omega | (simp only [List.length_append, List.length_map, List.length_set, List.length_cons, List.length_nil, List.length_take, List.length_drop]; omega)) only [va0, va1, va2, va3, va4, va5, va6, va7, va8, va9, va10, va11, va12, va13, va14, va15, vb0, vb1, vb2, vb3, w_i8, w_u8, w_i16, w_u16, w_i32, w_u32, w_i64, w_u64, lt_T, lt_F, le_T, le_F, nlt_T, nlt_F, nle_T, nle_F, List.take_of_length_le, gB, gcW, gcR, posIn, renA, renL, Chunk.ren, Chunk.refs, evOpD, touchD, stepC, isFresh, nFresh, freshOf, mkR, hole, evL, evH, opd, get, putD, ofVal, cellOf, loadE, behind, lenE, idxAddrE, idxE, addPtr, intE, strE, unE, convE, AV.int, AV.bool, AV.str, ivs, take, frameOf, firstRegion, refsA, refsL, one, cellsA, floatOk, apartT, List.map, if_true, if_false, E_P, E_glob0, E_glob1, reduceCtorEq, beq_self_eq_true, decide_true, decide_false, ↓reduceIte, Nat.reduceEqDiff, cond_true, cond_false, or_true, true_or, or_false, false_or, and_true, true_and, and_self, false_and, and_false, not_true, not_false_iff, Nat.reduceAdd, Nat.reduceSub, Nat.reduceMul, Nat.reduceLT, Nat.reduceLeDiff, Int.reduceToNat, Int.reduceLT, Int.reduceLE, Option.getD, Int.reduceMul, Int.reduceAdd, List.drop, List.take, Nat.reduceBEq, List.isEmpty, Int.reduceEq, Int.reduceNe, Int.reduceNeg, Int.reduceGT, Int.reduceGE, beq_true, beq_false, UInt8.reduceToNat, eqE, eq_self, foldE, maxE, minE, eq_T, eq_F, ndec, odec, adec, sdec, fillA, over, chop, List.replicate, leavesOk, leafOk, cellsEq, cellEq, E_ext, E_byref, en31, w_i64]; exact ⟨_, rfl⟩
      · rw [if_neg h1, if_neg (by omega)]; rw [callT_eq Tryd.func31 rfl fok31 (by simp [Tryd.ntmps31])]; simp (disch := first | omega | (simp only [List.length_append, List.length_map, List.length_set, List.length_cons, List.length_nil, List.length_take, List.length_drop]; omega)) only [va0, va1, va2, va3, va4, va5, va6, va7, va8, va9, va10, va11, va12, va13, va14, va15, vb0, vb1, vb2, vb3, w_i8, w_u8, w_i16, w_u16, w_i32, w_u32, w_i64, w_u64, lt_T, lt_F, le_T, le_F, nlt_T, nlt_F, nle_T, nle_F, List.take_of_length_le, gB, gcW, gcR, posIn, renA, renL, Chunk.ren, Chunk.refs, evOpD, touchD, stepC, isFresh, nFresh, freshOf, mkR, hole, evL, evH, opd, get, putD, ofVal, cellOf, loadE, behind, lenE, idxAddrE, idxE, addPtr, intE, strE, unE, convE, AV.int, AV.bool, AV.str, ivs, take, frameOf, firstRegion, refsA, refsL, one, cellsA, floatOk, apartT, List.map, if_true, if_false, E_P, E_glob0, E_glob1, reduceCtorEq, beq_self_eq_true, decide_true, decide_false, ↓reduceIte, Nat.reduceEqDiff, cond_true, cond_false, or_true, true_or, or_false, false_or, and_true, true_and, and_self, false_and, and_false, not_true, not_false_iff, Nat.reduceAdd, Nat.reduceSub, Nat.reduceMul, Nat.reduceLT, Nat.reduceLeDiff, Int.reduceToNat, Int.reduceLT, Int.reduceLE, Option.getD, Int.reduceMul, Int.reduceAdd, List.drop, List.take, Nat.reduceBEq, List.isEmpty, Int.reduceEq, Int.reduceNe, Int.reduceNeg, Int.reduceGT, Int.reduceGE, beq_true, beq_false, UInt8.reduceToNat, eqE, eq_self, foldE, maxE, minE, eq_T, eq_F, ndec, odec, adec, sdec, fillA, over, chop, List.replicate, leavesOk, leafOk, cellsEq, cellEq, E_ext, E_byref, en31, h1, h2, h3]; exact ⟨_, rfl⟩
theorem ik31 (op i n : Int) (hi : -9223372036854775808 ≤ i + 1 ∧ i + 1 ≤ 9223372036854775807) (H : Hp) : isoK E (callT E) 31 [.i (.v (.int .i64 op)), .i (.v (.int .i64 i)), .i (.v (.int .i64 n))] H = some (.tup [.i (.v (.int .i64 (boundsS op i n).1)), .i (.v (.int .i64 (boundsS op i n).2))], H) := isoK_val rfl rfl rfl (c31 op i n hi)
theorem names_all : (match call E 60 30 [] [] with | some (.i (.sl 1 R false), _) => decide (R.length = 21) | _ => false) = true := by kernel_rfl
theorem c30 : ∃ R : List (List IV), R.length = 21 ∧ ∃ L, callT E 30 [] [] = some (.i (.sl 1 R false), L) := by
  have h := names_all
  split at h
  · rename_i R L hL
    exact ⟨R, of_decide_eq_true h, L, callT_of hL⟩
  · cases h
theorem ik30 : ∃ R : List (List IV), (R.length : Int) = 21 ∧ ∀ H, isoK E (callT E) 30 [] H = some (.i (.sl 1 R false), H) := by
  obtain ⟨R, h1, h2⟩ := c30
  exact ⟨R, by omega, fun H => isoK_val rfl rfl rfl h2⟩
def chP (e : Int) (fr : Fr) (ex : Ex) : Prop := (e = 0 ∧ ex = .exit 0) ∨ (e ≠ 0 ∧ ex = .ret ∧ get 2 fr = .i (.v (.int .i64 e)))
theorem l23 (l : List Ins) (hl : l.length ≤ 500) (k : Nat) (hk : k ≤ l.length) :
    ∃ fr ex H', rl E 0 23 (loopAt Tryd.f23 0) [(0, .i (.sl 2 (rowsI l) false)), (10, .i (.sl 2 (rowsI l) false)), (11, .i (.v (.int .i64 l.length))), (12, .i (.v (.int .i64 k)))] [] = some (ex, fr, H') ∧ chP (chkL l.length k (l.drop k)) fr ex := by
  rw [rl_step (fn := Tryd.f23) (k := 0) rfl]
  by_cases hlt : k < l.length
  · have hrow := rowsI_at hlt
    rw [List.drop_eq_getElem_cons hlt, chkL]
    obtain ⟨fr, ex, H', e, hh⟩ := l23 l hl (k + 1) hlt
    obtain ⟨op, arg, hp⟩ : ∃ op arg, l[k] = (op, arg) := ⟨_, _, rfl⟩
    rw [hp] at hrow ⊢
    simp only at hrow
    obtain ⟨R, hR, hN⟩ := ik30
    have hb := fun H => ik31 op k l.length (by omega) H
    have hchk : chk1 l.length k (op, arg) = if op < 0 ∨ 20 < op then 9 else if arg < (boundsS op k l.length).1 ∨ (boundsS op k l.length).2 < arg then 2 else 0 := rfl
    generalize boundsS op k l.length = q at *
    generalize chk1 l.length k (op, arg) = ch at *
    obtain ⟨lo, hi⟩ := q
    simp only at hb hchk ⊢
    by_cases h1 : op < 0
    · rw [if_pos (.inl h1)] at hchk
      subst hchk
      rw [if_neg (by decide)]
      clear e hh
      simp (disch := first | omega | (simp only [List.length_append, List.length_map, List.length_set, List.length_cons, List.length_nil, List.length_take, List.length_drop, rowsI_len]; omega)) only [va0, va1, va2, va3, va4, va5, va6, va7, va8, va9, va10, va11, va12, va13, va14, va15, vb0, vb1, vb2, vb3, w_i8, w_u8, w_i16, w_u16, w_i32, w_u32, w_i64, w_u64, lt_T, lt_F, le_T, le_F, nlt_T, nlt_F, nle_T, nle_F, List.take_of_length_le, gB, gcW, gcR, posIn, renA, renL, Chunk.ren, Chunk.refs, evOpD, touchD, stepC, isFresh, nFresh, freshOf, mkR, hole, evL, evH, opd, get, putD, ofVal, cellOf, loadE, behind, lenE, idxAddrE, idxE, addPtr, intE, strE, unE, convE, AV.int, AV.bool, AV.str, ivs, take, frameOf, firstRegion, refsA, refsL, one, cellsA, floatOk, apartT, List.map, if_true, if_false, E_P, E_glob0, E_glob1, reduceCtorEq, beq_self_eq_true, decide_true, decide_false, ↓reduceIte, Nat.reduceEqDiff, cond_true, cond_false, or_true, true_or, or_false, false_or, and_true, true_and, and_self, false_and, and_false, not_true, not_false_iff, Nat.reduceAdd, Nat.reduceSub, Nat.reduceMul, Nat.reduceLT, Nat.reduceLeDiff, Int.reduceToNat, Int.reduceLT, Int.reduceLE, Option.getD, Int.reduceMul, Int.reduceAdd, List.drop, List.take, Nat.reduceBEq, List.isEmpty, Int.reduceEq, Int.reduceNe, Int.reduceNeg, Int.reduceGT, Int.reduceGE, beq_true, beq_false, UInt8.reduceToNat, eqE, eq_self, foldE, maxE, minE, eq_T, eq_F, ndec, odec, adec, sdec, fillA, over, chop, List.replicate, leavesOk, leafOk, cellsEq, cellEq, E_ext, E_byref, en23, bs22, bs65, hrow, rowsI_len, h1, hN, hR, show ∀ B fr H, execT E B 23 (Code.loop _) fr H = rlG E B 23 (loopAt Tryd.f23 0) (gcn B (norm [0, 10, 11, 12] fr) H) from fun B fr H => rl_intro rfl mt23_4 mb23_4 zf23_4 hd23_4 fr H]
      exact ⟨_, _, _, rfl, .inr ⟨by decide, rfl, rfl⟩⟩
    · by_cases h2 : 21 ≤ op
      · rw [if_pos (.inr (by omega))] at hchk
        subst hchk
        rw [if_neg (by decide)]
        clear e hh
        simp (disch := first | omega | (simp only [List.length_append, List.length_map, List.length_set, List.length_cons, List.length_nil, List.length_take, List.length_drop, rowsI_len]; omega)) only [va0, va1, va2, va3, va4, va5, va6, va7, va8, va9, va10, va11, va12, va13, va14, va15, vb0, vb1, vb2, vb3, w_i8, w_u8, w_i16, w_u16, w_i32, w_u32, w_i64, w_u64, lt_T, lt_F, le_T, le_F, nlt_T, nlt_F, nle_T, nle_F, List.take_of_length_le, gB, gcW, gcR, posIn, renA, renL, Chunk.ren, Chunk.refs, evOpD, touchD, stepC, isFresh, nFresh, freshOf, mkR, hole, evL, evH, opd, get, putD, ofVal, cellOf, loadE, behind, lenE, idxAddrE, idxE, addPtr, intE, strE, unE, convE, AV.int, AV.bool, AV.str, ivs, take, frameOf, firstRegion, refsA, refsL, one, cellsA, floatOk, apartT, List.map, if_true, if_false, E_P, E_glob0, E_glob1, reduceCtorEq, beq_self_eq_true, decide_true, decide_false, ↓reduceIte, Nat.reduceEqDiff, cond_true, cond_false, or_true, true_or, or_false, false_or, and_true, true_and, and_self, false_and, and_false, not_true, not_false_iff, Nat.reduceAdd, Nat.reduceSub, Nat.reduceMul, Nat.reduceLT, Nat.reduceLeDiff, Int.reduceToNat, Int.reduceLT, Int.reduceLE, Option.getD, Int.reduceMul, Int.reduceAdd, List.drop, List.take, Nat.reduceBEq, List.isEmpty, Int.reduceEq, Int.reduceNe, Int.reduceNeg, Int.reduceGT, Int.reduceGE, beq_true, beq_false, UInt8.reduceToNat, eqE, eq_self, foldE, maxE, minE, eq_T, eq_F, ndec, odec, adec, sdec, fillA, over, chop, List.replicate, leavesOk, leafOk, cellsEq, cellEq, E_ext, E_byref, en23, bs22, bs65, hrow, rowsI_len, h1, h2, hN, hR, show ∀ B fr H, execT E B 23 (Code.loop _) fr H = rlG E B 23 (loopAt Tryd.f23 0) (gcn B (norm [0, 10, 11, 12] fr) H) from fun B fr H => rl_intro rfl mt23_4 mb23_4 zf23_4 hd23_4 fr H]
        exact ⟨_, _, _, rfl, .inr ⟨by decide, rfl, rfl⟩⟩
      · rw [if_neg (by omega)] at hchk
        by_cases h3 : arg < lo
        · rw [if_pos (.inl h3)] at hchk
          subst hchk
          rw [if_neg (by decide)]
          clear e hh
          simp (disch := first | omega | (simp only [List.length_append, List.length_map, List.length_set, List.length_cons, List.length_nil, List.length_take, List.length_drop, rowsI_len]; omega)) only [va0, va1, va2, va3, va4, va5, va6, va7, va8, va9, va10, va11, va12, va13, va14, va15, vb0, vb1, vb2, vb3, w_i8, w_u8, w_i16, w_u16, w_i32, w_u32, w_i64, w_u64, lt_T, lt_F, le_T, le_F, nlt_T, nlt_F, nle_T, nle_F, List.take_of_length_le, gB, gcW, gcR, posIn, renA, renL, Chunk.ren, Chunk.refs, evOpD, touchD, stepC, isFresh, nFresh, freshOf, mkR, hole, evL, evH, opd, get, putD, ofVal, cellOf, loadE, behind, lenE, idxAddrE, idxE, addPtr, intE, strE, unE, convE, AV.int, AV.bool, AV.str, ivs, take, frameOf, firstRegion, refsA, refsL, one, cellsA, floatOk, apartT, List.map, if_true, if_false, E_P, E_glob0, E_glob1, reduceCtorEq, beq_self_eq_true, decide_true, decide_false, ↓reduceIte, Nat.reduceEqDiff, cond_true, cond_false, or_true, true_or, or_false, false_or, and_true, true_and, and_self, false_and, and_false, not_true, not_false_iff, Nat.reduceAdd, Nat.reduceSub, Nat.reduceMul, Nat.reduceLT, Nat.reduceLeDiff, Int.reduceToNat, Int.reduceLT, Int.reduceLE, Option.getD, Int.reduceMul, Int.reduceAdd, List.drop, List.take, Nat.reduceBEq, List.isEmpty, Int.reduceEq, Int.reduceNe, Int.reduceNeg, Int.reduceGT, Int.reduceGE, beq_true, beq_false, UInt8.reduceToNat, eqE, eq_self, foldE, maxE, minE, eq_T, eq_F, ndec, odec, adec, sdec, fillA, over, chop, List.replicate, leavesOk, leafOk, cellsEq, cellEq, E_ext, E_byref, en23, bs22, bs65, hrow, rowsI_len, h1, h2, h3, hN, hR, hb, show ∀ B fr H, execT E B 23 (Code.loop _) fr H = rlG E B 23 (loopAt Tryd.f23 0) (gcn B (norm [0, 10, 11, 12] fr) H) from fun B fr H => rl_intro rfl mt23_4 mb23_4 zf23_4 hd23_4 fr H]
          exact ⟨_, _, _, rfl, .inr ⟨by decide, rfl, rfl⟩⟩
        · by_cases h4 : hi < arg
          · rw [if_pos (.inr h4)] at hchk
            subst hchk
            rw [if_neg (by decide)]
            clear e hh
            simp (disch := first | omega | (simp only [List.length_append, List.length_map, List.length_set, List.length_cons, List.length_nil, List.length_take, List.length_drop, rowsI_len]; omega)) only [va0, va1, va2, va3, va4, va5, va6, va7, va8, va9, va10, va11, va12, va13, va14, va15, vb0, vb1, vb2, vb3, w_i8, w_u8, w_i16, w_u16, w_i32, w_u32, w_i64, w_u64, lt_T, lt_F, le_T, le_F, nlt_T, nlt_F, nle_T, nle_F, List.take_of_length_le, gB, gcW, gcR, posIn, renA, renL, Chunk.ren, Chunk.refs, evOpD, touchD, stepC, isFresh, nFresh, freshOf, mkR, hole, evL, evH, opd, get, putD, ofVal, cellOf, loadE, behind, lenE, idxAddrE, idxE, addPtr, intE, strE, unE, convE, AV.int, AV.bool, AV.str, ivs, take, frameOf, firstRegion, refsA, refsL, one, cellsA, floatOk, apartT, List.map, if_true, if_false, E_P, E_glob0, E_glob1, reduceCtorEq, beq_self_eq_true, decide_true, decide_false, ↓reduceIte, Nat.reduceEqDiff, cond_true, cond_false, or_true, true_or, or_false, false_or, and_true, true_and, and_self, false_and, and_false, not_true, not_false_iff, Nat.reduceAdd, Nat.reduceSub, Nat.reduceMul, Nat.reduceLT, Nat.reduceLeDiff, Int.reduceToNat, Int.reduceLT, Int.reduceLE, Option.getD, Int.reduceMul, Int.reduceAdd, List.drop, List.take, Nat.reduceBEq, List.isEmpty, Int.reduceEq, Int.reduceNe, Int.reduceNeg, Int.reduceGT, Int.reduceGE, beq_true, beq_false, UInt8.reduceToNat, eqE, eq_self, foldE, maxE, minE, eq_T, eq_F, ndec, odec, adec, sdec, fillA, over, chop, List.replicate, leavesOk, leafOk, cellsEq, cellEq, E_ext, E_byref, en23, bs22, bs65, hrow, rowsI_len, h1, h2, h3, h4, hN, hR, hb, show ∀ B fr H, execT E B 23 (Code.loop _) fr H = rlG E B 23 (loopAt Tryd.f23 0) (gcn B (norm [0, 10, 11, 12] fr) H) from fun B fr H => rl_intro rfl mt23_4 mb23_4 zf23_4 hd23_4 fr H]
            exact ⟨_, _, _, rfl, .inr ⟨by decide, rfl, rfl⟩⟩
          · rw [if_neg (by omega)] at hchk
            subst hchk
            rw [if_pos rfl]
            refine ⟨fr, ex, H', Eq.trans ?_ e, hh⟩
            clear e hh
            simp (disch := first | omega | (simp only [List.length_append, List.length_map, List.length_set, List.length_cons, List.length_nil, List.length_take, List.length_drop, rowsI_len]; omega)) only [va0, va1, va2, va3, va4, va5, va6, va7, va8, va9, va10, va11, va12, va13, va14, va15, vb0, vb1, vb2, vb3, w_i8, w_u8, w_i16, w_u16, w_i32, w_u32, w_i64, w_u64, lt_T, lt_F, le_T, le_F, nlt_T, nlt_F, nle_T, nle_F, List.take_of_length_le, gB, gcW, gcR, posIn, renA, renL, Chunk.ren, Chunk.refs, evOpD, touchD, stepC, isFresh, nFresh, freshOf, mkR, hole, evL, evH, opd, get, putD, ofVal, cellOf, loadE, behind, lenE, idxAddrE, idxE, addPtr, intE, strE, unE, convE, AV.int, AV.bool, AV.str, ivs, take, frameOf, firstRegion, refsA, refsL, one, cellsA, floatOk, apartT, List.map, if_true, if_false, E_P, E_glob0, E_glob1, reduceCtorEq, beq_self_eq_true, decide_true, decide_false, ↓reduceIte, Nat.reduceEqDiff, cond_true, cond_false, or_true, true_or, or_false, false_or, and_true, true_and, and_self, false_and, and_false, not_true, not_false_iff, Nat.reduceAdd, Nat.reduceSub, Nat.reduceMul, Nat.reduceLT, Nat.reduceLeDiff, Int.reduceToNat, Int.reduceLT, Int.reduceLE, Option.getD, Int.reduceMul, Int.reduceAdd, List.drop, List.take, Nat.reduceBEq, List.isEmpty, Int.reduceEq, Int.reduceNe, Int.reduceNeg, Int.reduceGT, Int.reduceGE, beq_true, beq_false, UInt8.reduceToNat, eqE, eq_self, foldE, maxE, minE, eq_T, eq_F, ndec, odec, adec, sdec, fillA, over, chop, List.replicate, leavesOk, leafOk, cellsEq, cellEq, E_ext, E_byref, en23, bs22, bs65, hrow, rowsI_len, h1, h2, h3, h4, hN, hR, hb, show ∀ B fr H, execT E B 23 (Code.loop _) fr H = rlG E B 23 (loopAt Tryd.f23 0) (gcn B (norm [0, 10, 11, 12] fr) H) from fun B fr H => rl_intro rfl mt23_4 mb23_4 zf23_4 hd23_4 fr H]
  · obtain rfl : k = l.length := by omega
    rw [List.drop_length, chkL]
    simp (disch := first | omega | (simp only [List.length_append, List.length_map, List.length_set, List.length_cons, List.length_nil, List.length_take, List.length_drop, rowsI_len]; omega)) only [va0, va1, va2, va3, va4, va5, va6, va7, va8, va9, va10, va11, va12, va13, va14, va15, vb0, vb1, vb2, vb3, w_i8, w_u8, w_i16, w_u16, w_i32, w_u32, w_i64, w_u64, lt_T, lt_F, le_T, le_F, nlt_T, nlt_F, nle_T, nle_F, List.take_of_length_le, gB, gcW, gcR, posIn, renA, renL, Chunk.ren, Chunk.refs, evOpD, touchD, stepC, isFresh, nFresh, freshOf, mkR, hole, evL, evH, opd, get, putD, ofVal, cellOf, loadE, behind, lenE, idxAddrE, idxE, addPtr, intE, strE, unE, convE, AV.int, AV.bool, AV.str, ivs, take, frameOf, firstRegion, refsA, refsL, one, cellsA, floatOk, apartT, List.map, if_true, if_false, E_P, E_glob0, E_glob1, reduceCtorEq, beq_self_eq_true, decide_true, decide_false, ↓reduceIte, Nat.reduceEqDiff, cond_true, cond_false, or_true, true_or, or_false, false_or, and_true, true_and, and_self, false_and, and_false, not_true, not_false_iff, Nat.reduceAdd, Nat.reduceSub, Nat.reduceMul, Nat.reduceLT, Nat.reduceLeDiff, Int.reduceToNat, Int.reduceLT, Int.reduceLE, Option.getD, Int.reduceMul, Int.reduceAdd, List.drop, List.take, Nat.reduceBEq, List.isEmpty, Int.reduceEq, Int.reduceNe, Int.reduceNeg, Int.reduceGT, Int.reduceGE, beq_true, beq_false, UInt8.reduceToNat, eqE, eq_self, foldE, maxE, minE, eq_T, eq_F, ndec, odec, adec, sdec, fillA, over, chop, List.replicate, leavesOk, leafOk, cellsEq, cellEq, E_ext, E_byref, en23, bs22, bs65, rowsI_len, show ∀ B fr H, execT E B 23 (Code.loop _) fr H = rlG E B 23 (loopAt Tryd.f23 0) (gcn B (norm [0, 10, 11, 12] fr) H) from fun B fr H => rl_intro rfl mt23_4 mb23_4 zf23_4 hd23_4 fr H]
    exact ⟨_, _, _, rfl, .inl ⟨rfl, rfl⟩⟩
termination_by l.length - k
theorem c23 (l : List Ins) (hl : (l.length : Int) < 9223372036854775808) : ∃ L, callT E 23 [.i (.sl 2 (rowsI l) false)] [] = some (.i (.v (.int .i64 (checkI l))), L) := by
  unfold checkI
  by_cases h5 : 500 < (l.length : Int)
  · rw [if_pos h5]
    rw [callT_eq Tryd.func23 rfl fok23 (by simp [Tryd.ntmps23])]
    simp (disch := first | omega | (simp only [List.length_append, List.length_map, List.length_set, List.length_cons, List.length_nil, List.length_take, List.length_drop, rowsI_len]; omega)) only [va0, va1, va2, va3, va4, va5, va6, va7, va8, va9, va10, va11, va12, va13, va14, va15, vb0, vb1, vb2, vb3, w_i8, w_u8, w_i16, w_u16, w_i32, w_u32, w_i64, w_u64, lt_T, lt_F, le_T, le_F, nlt_T, nlt_F, nle_T, nle_F, List.take_of_length_le, gB, gcW, gcR, posIn, renA, renL, Chunk.ren, Chunk.refs, evOpD, touchD, stepC, isFresh, nFresh, freshOf, mkR, hole, evL, evH, opd, get, putD, ofVal, cellOf, loadE, behind, lenE, idxAddrE, idxE, addPtr, intE, strE, unE, convE, AV.int, AV.bool, AV.str, ivs, take, frameOf, firstRegion, refsA, refsL, one, cellsA, floatOk, apartT, List.map, if_true, if_false, E_P, E_glob0, E_glob1, reduceCtorEq, beq_self_eq_true, decide_true, decide_false, ↓reduceIte, Nat.reduceEqDiff, cond_true, cond_false, or_true, true_or, or_false, false_or, and_true, true_and, and_self, false_and, and_false, not_true, not_false_iff, Nat.reduceAdd, Nat.reduceSub, Nat.reduceMul, Nat.reduceLT, Nat.reduceLeDiff, Int.reduceToNat, Int.reduceLT, Int.reduceLE, Option.getD, Int.reduceMul, Int.reduceAdd, List.drop, List.take, Nat.reduceBEq, List.isEmpty, Int.reduceEq, Int.reduceNe, Int.reduceNeg, Int.reduceGT, Int.reduceGE, beq_true, beq_false, UInt8.reduceToNat, eqE, eq_self, foldE, maxE, minE, eq_T, eq_F, ndec, odec, adec, sdec, fillA, over, chop, List.replicate, leavesOk, leafOk, cellsEq, cellEq, E_ext, E_byref, en23, bs22, bs65, rowsI_len, h5]
    exact ⟨_, rfl⟩
  · rw [if_neg h5]
    obtain ⟨fr, ex, H', e, hh⟩ := l23 l (by omega) 0 (Nat.zero_le _)
    rw [List.drop_zero] at hh
    have e' : rl E 0 23 (loopAt Tryd.f23 0) [(0, .i (.sl 2 (rowsI l) false)), (10, .i (.sl 2 (rowsI l) false)), (11, .i (.v (.int .i64 l.length))), (12, .i (.v (.int .i64 0)))] [] = _ := e
    rcases hh with ⟨h1, rfl⟩ | ⟨h1, rfl, h2⟩
    · rw [h1]
      rw [callT_eq Tryd.func23 rfl fok23 (by simp [Tryd.ntmps23])]
      simp (disch := first | omega | (simp only [List.length_append, List.length_map, List.length_set, List.length_cons, List.length_nil, List.length_take, List.length_drop, rowsI_len]; omega)) only [va0, va1, va2, va3, va4, va5, va6, va7, va8, va9, va10, va11, va12, va13, va14, va15, vb0, vb1, vb2, vb3, w_i8, w_u8, w_i16, w_u16, w_i32, w_u32, w_i64, w_u64, lt_T, lt_F, le_T, le_F, nlt_T, nlt_F, nle_T, nle_F, List.take_of_length_le, gB, gcW, gcR, posIn, renA, renL, Chunk.ren, Chunk.refs, evOpD, touchD, stepC, isFresh, nFresh, freshOf, mkR, hole, evL, evH, opd, get, putD, ofVal, cellOf, loadE, behind, lenE, idxAddrE, idxE, addPtr, intE, strE, unE, convE, AV.int, AV.bool, AV.str, ivs, take, frameOf, firstRegion, refsA, refsL, one, cellsA, floatOk, apartT, List.map, if_true, if_false, E_P, E_glob0, E_glob1, reduceCtorEq, beq_self_eq_true, decide_true, decide_false, ↓reduceIte, Nat.reduceEqDiff, cond_true, cond_false, or_true, true_or, or_false, false_or, and_true, true_and, and_self, false_and, and_false, not_true, not_false_iff, Nat.reduceAdd, Nat.reduceSub, Nat.reduceMul, Nat.reduceLT, Nat.reduceLeDiff, Int.reduceToNat, Int.reduceLT, Int.reduceLE, Option.getD, Int.reduceMul, Int.reduceAdd, List.drop, List.take, Nat.reduceBEq, List.isEmpty, Int.reduceEq, Int.reduceNe, Int.reduceNeg, Int.reduceGT, Int.reduceGE, beq_true, beq_false, UInt8.reduceToNat, eqE, eq_self, foldE, maxE, minE, eq_T, eq_F, ndec, odec, adec, sdec, fillA, over, chop, List.replicate, leavesOk, leafOk, cellsEq, cellEq, E_ext, E_byref, en23, bs22, bs65, rowsI_len, h5, e', show ∀ B fr H, execT E B 23 (Code.loop _) fr H = rlG E B 23 (loopAt Tryd.f23 0) (gcn B (norm [0, 10, 11, 12] fr) H) from fun B fr H => rl_intro rfl mt23_4 mb23_4 zf23_4 hd23_4 fr H]
      exact ⟨_, rfl⟩
    · generalize chkL l.length 0 l = q at *
      rw [callT_eq Tryd.func23 rfl fok23 (by simp [Tryd.ntmps23])]
      simp (disch := first | omega | (simp only [List.length_append, List.length_map, List.length_set, List.length_cons, List.length_nil, List.length_take, List.length_drop, rowsI_len]; omega)) only [va0, va1, va2, va3, va4, va5, va6, va7, va8, va9, va10, va11, va12, va13, va14, va15, vb0, vb1, vb2, vb3, w_i8, w_u8, w_i16, w_u16, w_i32, w_u32, w_i64, w_u64, lt_T, lt_F, le_T, le_F, nlt_T, nlt_F, nle_T, nle_F, List.take_of_length_le, gB, gcW, gcR, posIn, renA, renL, Chunk.ren, Chunk.refs, evOpD, touchD, stepC, isFresh, nFresh, freshOf, mkR, hole, evL, evH, opd, get, putD, ofVal, cellOf, loadE, behind, lenE, idxAddrE, idxE, addPtr, intE, strE, unE, convE, AV.int, AV.bool, AV.str, ivs, take, frameOf, firstRegion, refsA, refsL, one, cellsA, floatOk, apartT, List.map, if_true, if_false, E_P, E_glob0, E_glob1, reduceCtorEq, beq_self_eq_true, decide_true, decide_false, ↓reduceIte, Nat.reduceEqDiff, cond_true, cond_false, or_true, true_or, or_false, false_or, and_true, true_and, and_self, false_and, and_false, not_true, not_false_iff, Nat.reduceAdd, Nat.reduceSub, Nat.reduceMul, Nat.reduceLT, Nat.reduceLeDiff, Int.reduceToNat, Int.reduceLT, Int.reduceLE, Option.getD, Int.reduceMul, Int.reduceAdd, List.drop, List.take, Nat.reduceBEq, List.isEmpty, Int.reduceEq, Int.reduceNe, Int.reduceNeg, Int.reduceGT, Int.reduceGE, beq_true, beq_false, UInt8.reduceToNat, eqE, eq_self, foldE, maxE, minE, eq_T, eq_F, ndec, odec, adec, sdec, fillA, over, chop, List.replicate, leavesOk, leafOk, cellsEq, cellEq, E_ext, E_byref, en23, bs22, bs65, rowsI_len, h5, e', h2, show ∀ B fr H, execT E B 23 (Code.loop _) fr H = rlG E B 23 (loopAt Tryd.f23 0) (gcn B (norm [0, 10, 11, 12] fr) H) from fun B fr H => rl_intro rfl mt23_4 mb23_4 zf23_4 hd23_4 fr H]
      exact ⟨_, rfl⟩
theorem ik23 (l : List Ins) (hl : (l.length : Int) < 9223372036854775808) (H : Hp) : isoK E (callT E) 23 [.i (.sl 2 (rowsI l) false)] H = some (.i (.v (.int .i64 (checkI l))), H) := isoK_val rfl rfl rfl (c23 l hl)
end Go.VI

namespace Go.VI
open Go.Proofs
set_option maxRecDepth 100000
set_option linter.unusedSimpArgs false
set_option linter.unusedVariables false
set_option maxHeartbeats 4000000
def rows64 (l : List Int) : List (List IV) := l.map fun n => [.v (.int .i64 n)]
theorem rows64_len (l : List Int) : (rows64 l).length = l.length := by simp [rows64]
theorem rows64_at {l : List Int} {k : Nat} (h : k < l.length) : (rows64 l)[k]? = some [.v (.int .i64 l[k])] := by simp [rows64, h]
theorem rows64_set (l : List Int) (k : Nat) (x : Int) : (rows64 l).set k [.v (.int .i64 x)] = rows64 (l.set k x) := by simp [rows64, List.map_set]
theorem rows64_rep (n : Nat) (x : Int) : List.replicate n [IV.v (.int .i64 x)] = rows64 (List.replicate n x) := by simp [rows64]
def popS (op : Int) : Int := popsL.getD op.toNat 0
def pushS (op : Int) : Int := pushesL.getD op.toNat 0
theorem tab_at {l : List Int} {n : Nat} (h : n < l.length) : (tabT l)[n]? = some (.v (.int .i64 (l.getD n 0))) := by
  rw [List.getD_eq_getElem?_getD, List.getElem?_eq_getElem h]
  simp [tabT, h]
theorem pops_at {op : Int} (h0 : 0 ≤ op) (h1 : op ≤ 20) : popsT[op.toNat]? = some (.v (.int .i64 (popS op))) := tab_at (by show op.toNat < 21; omega)
theorem pushes_at {op : Int} (h0 : 0 ≤ op) (h1 : op ≤ 20) : pushesT[op.toNat]? = some (.v (.int .i64 (pushS op))) := tab_at (by show op.toNat < 21; omega)
theorem popS_r (op : Int) : 0 ≤ popS op ∧ popS op ≤ 2 := by
  have key : ∀ x ∈ popsL, 0 ≤ x ∧ x ≤ 2 := by decide
  unfold popS
  rw [List.getD_eq_getElem?_getD]
  cases h : popsL[op.toNat]? with
  | none => simp
  | some x => exact key x (List.mem_of_getElem? h)
theorem pushS_r (op : Int) : 0 ≤ pushS op ∧ pushS op ≤ 2 := by
  have key : ∀ x ∈ pushesL, 0 ≤ x ∧ x ≤ 2 := by decide
  unfold pushS
  rw [List.getD_eq_getElem?_getD]
  cases h : pushesL[op.toNat]? with
  | none => simp
  | some x => exact key x (List.mem_of_getElem? h)
def dSet (n after : Int) : List Int → List Int → Option (List Int)
  | [], out => some out
  | k :: ks, out => if k < n ∧ 0 ≤ out.getD k.toNat 0 ∧ out.getD k.toNat 0 ≠ after then none else dSet n after ks (out.set k.toNat after)
def dStep (n : Nat) (i : Nat) (p : Ins) (out : List Int) : Option (List Int) :=
  if out.getD i 0 < 0 then some out
  else if out.getD i 0 < popS p.1 ∨ 16 < out.getD i 0 - popS p.1 + pushS p.1 then none
  else dSet n (out.getD i 0 - popS p.1 + pushS p.1) (sucL p.1 p.2 i) out
def dRun (n : Nat) : Nat → List Ins → List Int → Option (List Int)
  | _, [], out => some out
  | i, p :: r, out => match dStep n i p out with
    | some out' => dRun n (i + 1) r out'
    | none => none
def depthsS (l : List Ins) : List Int × Int := if checkI l = 0 then match dRun l.length 0 l (0 :: List.replicate l.length (-1)) with
  | some out => (out.take l.length, 0)
  | none => ([], 13) else ([], checkI l)
theorem l12_0 (l : List Ins) (n : Nat) (hn : n < 1000000) (k : Nat) (hk : k ≤ n) :
    ∃ fr, rl E 0 12 (loopAt Tryd.f12 0) [(1, .ptr 0 0 0 0), (2, .ptr 1 0 0 0), (3, .ptr 2 0 0 0), (5, .ptr 3 0 0 0), (21, .i (.v (.int .i64 (n)))), (22, .i (.v (.int .i64 (k))))] [.box [.i (.sl 2 (rowsI l) false)], .box [.i (.sl 0 [] true)], .box [.i (.v (.int .i64 0))], .box [.ref 4 0 0 (n)], .sl 1 0 (rows64 (List.replicate k (-1) ++ List.replicate (n - k) 0)) false] = some (.exit 0, fr, [.box [.i (.sl 2 (rowsI l) false)], .box [.i (.sl 0 [] true)], .box [.i (.v (.int .i64 0))], .box [.ref 4 0 0 (n)], .sl 1 0 (rows64 (List.replicate n (-1))) false]) ∧ get 1 fr = .ptr 0 0 0 0 ∧ get 2 fr = .ptr 1 0 0 0 ∧ get 3 fr = .ptr 2 0 0 0 ∧ get 5 fr = .ptr 3 0 0 0 := by
  rw [rl_step (fn := Tryd.f12) (k := 0) rfl]
  by_cases hlt : k < n
  · obtain ⟨fr, e, hh⟩ := l12_0 l n hn (k + 1) hlt
    refine ⟨fr, Eq.trans ?_ e, hh⟩
    clear e hh
    have ho : (List.replicate k (-1 : Int) ++ List.replicate (n - k) 0).length = n := by simp; omega
    have hs : (List.replicate k (-1 : Int) ++ List.replicate (n - k) 0).set k (-1) = List.replicate (k + 1) (-1) ++ List.replicate (n - (k + 1)) 0 := by
      apply List.ext_getElem?
      intro j
      rw [List.getElem?_set]
      by_cases hj : k = j
      · subst hj
        rw [if_pos rfl, if_pos (by omega), List.getElem?_append_left (by simp), List.getElem?_replicate, if_pos (by omega)]
      · rw [if_neg hj]
        by_cases hjk : j < k
        · rw [List.getElem?_append_left (by simpa using hjk), List.getElem?_append_left (by simp; omega), List.getElem?_replicate, List.getElem?_replicate, if_pos hjk, if_pos (by omega)]
        · rw [List.getElem?_append_right (by simp; omega), List.getElem?_append_right (by simp; omega), List.getElem?_replicate, List.getElem?_replicate]
          simp only [List.length_replicate]
          by_cases hjn : j - k < n - k
          · rw [if_pos hjn, if_pos (by omega)]
          · rw [if_neg hjn, if_neg (by omega)]
    obtain ⟨x, hrow⟩ : ∃ x, (rows64 (List.replicate k (-1 : Int) ++ List.replicate (n - k) 0))[k]? = some [.v (.int .i64 x)] := ⟨_, rows64_at (by omega)⟩
    rw [← hs]
    generalize List.replicate k (-1 : Int) ++ List.replicate (n - k) 0 = out at *
    simp (disch := first | omega | (simp only [List.length_append, List.length_map, List.length_set, List.length_cons, List.length_nil, List.length_take, List.length_drop, rows64_len]; omega)) only [va0, va1, va2, va3, va4, va5, va6, va7, va8, va9, va10, va11, va12, va13, va14, va15, vb0, vb1, vb2, vb3, w_i8, w_u8, w_i16, w_u16, w_i32, w_u32, w_i64, w_u64, lt_T, lt_F, le_T, le_F, nlt_T, nlt_F, nle_T, nle_F, List.take_of_length_le, gB, gcW, gcR, posIn, renA, renL, Chunk.ren, Chunk.refs, evOpD, touchD, stepC, isFresh, nFresh, freshOf, mkR, hole, evL, evH, opd, get, putD, ofVal, cellOf, loadE, behind, lenE, idxAddrE, idxE, addPtr, intE, strE, unE, convE, AV.int, AV.bool, AV.str, ivs, take, frameOf, firstRegion, refsA, refsL, one, cellsA, floatOk, apartT, List.map, if_true, if_false, E_P, E_glob0, E_glob1, reduceCtorEq, beq_self_eq_true, decide_true, decide_false, ↓reduceIte, Nat.reduceEqDiff, cond_true, cond_false, or_true, true_or, or_false, false_or, and_true, true_and, and_self, false_and, and_false, not_true, not_false_iff, Nat.reduceAdd, Nat.reduceSub, Nat.reduceMul, Nat.reduceLT, Nat.reduceLeDiff, Int.reduceToNat, Int.reduceLT, Int.reduceLE, Option.getD, Int.reduceMul, Int.reduceAdd, List.drop, List.take, Nat.reduceBEq, List.isEmpty, Int.reduceEq, Int.reduceNe, Int.reduceNeg, Int.reduceGT, Int.reduceGE, beq_true, beq_false, UInt8.reduceToNat, eqE, eq_self, foldE, maxE, minE, eq_T, eq_F, ndec, odec, adec, sdec, fillA, over, chop, List.replicate, leavesOk, leafOk, cellsEq, cellEq, E_ext, E_byref, en12, bs22, bs24, rows64_len, hrow, rows64_set, show ∀ B fr H, execT E B 12 (Code.loop _) fr H = rlG E B 12 (loopAt Tryd.f12 0) (gcn B (norm [1, 2, 3, 5, 21, 22] fr) H) from fun B fr H => rl_intro rfl mt12_6 mb12_6 zf12_6 hd12_6 fr H]
  · obtain rfl : k = n := by omega
    rw [Nat.sub_self, List.replicate_zero, List.append_nil]
    generalize List.replicate k (-1 : Int) = out at *
    simp (disch := first | omega | (simp only [List.length_append, List.length_map, List.length_set, List.length_cons, List.length_nil, List.length_take, List.length_drop, rows64_len]; omega)) only [va0, va1, va2, va3, va4, va5, va6, va7, va8, va9, va10, va11, va12, va13, va14, va15, vb0, vb1, vb2, vb3, w_i8, w_u8, w_i16, w_u16, w_i32, w_u32, w_i64, w_u64, lt_T, lt_F, le_T, le_F, nlt_T, nlt_F, nle_T, nle_F, List.take_of_length_le, gB, gcW, gcR, posIn, renA, renL, Chunk.ren, Chunk.refs, evOpD, touchD, stepC, isFresh, nFresh, freshOf, mkR, hole, evL, evH, opd, get, putD, ofVal, cellOf, loadE, behind, lenE, idxAddrE, idxE, addPtr, intE, strE, unE, convE, AV.int, AV.bool, AV.str, ivs, take, frameOf, firstRegion, refsA, refsL, one, cellsA, floatOk, apartT, List.map, if_true, if_false, E_P, E_glob0, E_glob1, reduceCtorEq, beq_self_eq_true, decide_true, decide_false, ↓reduceIte, Nat.reduceEqDiff, cond_true, cond_false, or_true, true_or, or_false, false_or, and_true, true_and, and_self, false_and, and_false, not_true, not_false_iff, Nat.reduceAdd, Nat.reduceSub, Nat.reduceMul, Nat.reduceLT, Nat.reduceLeDiff, Int.reduceToNat, Int.reduceLT, Int.reduceLE, Option.getD, Int.reduceMul, Int.reduceAdd, List.drop, List.take, Nat.reduceBEq, List.isEmpty, Int.reduceEq, Int.reduceNe, Int.reduceNeg, Int.reduceGT, Int.reduceGE, beq_true, beq_false, UInt8.reduceToNat, eqE, eq_self, foldE, maxE, minE, eq_T, eq_F, ndec, odec, adec, sdec, fillA, over, chop, List.replicate, leavesOk, leafOk, cellsEq, cellEq, E_ext, E_byref, en12, bs22, bs24, rows64_len, show ∀ B fr H, execT E B 12 (Code.loop _) fr H = rlG E B 12 (loopAt Tryd.f12 0) (gcn B (norm [1, 2, 3, 5, 21, 22] fr) H) from fun B fr H => rl_intro rfl mt12_6 mb12_6 zf12_6 hd12_6 fr H]
    exact ⟨_, rfl, rfl, rfl, rfl, rfl⟩
termination_by n - k
end Go.VI

namespace Go.VI
open Go.Proofs
set_option maxRecDepth 100000
set_option linter.unusedSimpArgs false
set_option linter.unusedVariables false
set_option maxHeartbeats 4000000
theorem rows64_get {l : List Int} {k : Nat} (h : k < l.length) : (rows64 l)[k]? = some [.v (.int .i64 (l.getD k 0))] := by
  rw [rows64_at h, List.getD_eq_getElem?_getD, List.getElem?_eq_getElem h]; rfl
theorem rd12 (l : List Ins) (hl : l.length < 100000) (n : Nat) (hn : n = l.length + 1) (out : List Int) (ho : out.length = n) (op arg af i k x : Int) (hx : 0 ≤ x ∧ x ≤ l.length) :
    rdF E 12 (rfAt Tryd.f12 0) ((73, .i (.v (.int .i64 x))) :: [(1, .ptr 0 0 0 0), (2, .ptr 1 0 0 0), (3, .ptr 2 0 0 0), (5, .ptr 3 0 0 0), (9, .ptr 6 0 0 0), (31, .i (.sl 2 (rowsI l) false)), (32, .i (.v (.int .i64 l.length))), (33, .i (.v (.int .i64 (k)))), (72, .clo (.func 32) [] [.ptr 7 0 0 0, .ptr 8 0 0 0])]) [.box [.i (.sl 2 (rowsI l) false)], .box [.i (.sl 0 [] true)], .box [.i (.v (.int .i64 (0)))], .box [.ref 4 0 0 (n)], .sl 1 0 (rows64 (out)) false, .box [.i (.v (.int .i64 (op))), .i (.v (.int .i64 (arg)))], .box [.i (.v (.int .i64 (af)))], .box [.i (.v (.int .i64 (op))), .i (.v (.int .i64 (arg)))], .box [.i (.v (.int .i64 (i)))]] =
      if x < l.length ∧ 0 ≤ out.getD x.toNat 0 ∧ out.getD x.toNat 0 ≠ af then some (.ret, [.box [.i (.sl 2 (rowsI l) false)], .box [.i (.sl 0 [] true)], .box [.i (.v (.int .i64 (13)))], .box [.ref 4 0 0 (n)], .sl 1 0 (rows64 (out)) false, .box [.i (.v (.int .i64 (op))), .i (.v (.int .i64 (arg)))], .box [.i (.v (.int .i64 (af)))], .box [.i (.v (.int .i64 (op))), .i (.v (.int .i64 (arg)))], .box [.i (.v (.int .i64 (i)))]]) else some (.normal, [.box [.i (.sl 2 (rowsI l) false)], .box [.i (.sl 0 [] true)], .box [.i (.v (.int .i64 (0)))], .box [.ref 4 0 0 (n)], .sl 1 0 (rows64 (out.set x.toNat af)) false, .box [.i (.v (.int .i64 (op))), .i (.v (.int .i64 (arg)))], .box [.i (.v (.int .i64 (af)))], .box [.i (.v (.int .i64 (op))), .i (.v (.int .i64 (arg)))], .box [.i (.v (.int .i64 (i)))]]) := by
  have hrow := rows64_get (l := out) (k := x.toNat) (by omega)
  generalize hy : out.getD x.toNat 0 = y at *
  rw [rd_step (fn := Tryd.f12) (k := 0) rfl]
  by_cases h1 : x < l.length
  · by_cases h2 : 0 ≤ y
    · by_cases h3 : y = af
      · rw [if_neg (fun h => h.2.2 h3)]
        subst h3
        simp (disch := first | omega | (simp only [List.length_append, List.length_map, List.length_set, List.length_cons, List.length_nil, List.length_take, List.length_drop, rows64_len, rowsI_len]; omega)) only [va0, va1, va2, va3, va4, va5, va6, va7, va8, va9, va10, va11, va12, va13, va14, va15, vb0, vb1, vb2, vb3, w_i8, w_u8, w_i16, w_u16, w_i32, w_u32, w_i64, w_u64, lt_T, lt_F, le_T, le_F, nlt_T, nlt_F, nle_T, nle_F, List.take_of_length_le, gB, gcW, gcR, posIn, renA, renL, Chunk.ren, Chunk.refs, evOpD, touchD, stepC, isFresh, nFresh, freshOf, mkR, hole, evL, evH, opd, get, putD, ofVal, cellOf, loadE, behind, lenE, idxAddrE, idxE, addPtr, intE, strE, unE, convE, AV.int, AV.bool, AV.str, ivs, take, frameOf, firstRegion, refsA, refsL, one, cellsA, floatOk, apartT, List.map, if_true, if_false, E_P, E_glob0, E_glob1, reduceCtorEq, beq_self_eq_true, decide_true, decide_false, ↓reduceIte, Nat.reduceEqDiff, cond_true, cond_false, or_true, true_or, or_false, false_or, and_true, true_and, and_self, false_and, and_false, not_true, not_false_iff, Nat.reduceAdd, Nat.reduceSub, Nat.reduceMul, Nat.reduceLT, Nat.reduceLeDiff, Int.reduceToNat, Int.reduceLT, Int.reduceLE, Option.getD, Int.reduceMul, Int.reduceAdd, List.drop, List.take, Nat.reduceBEq, List.isEmpty, Int.reduceEq, Int.reduceNe, Int.reduceNeg, Int.reduceGT, Int.reduceGE, beq_true, beq_false, UInt8.reduceToNat, eqE, eq_self, foldE, maxE, minE, eq_T, eq_F, ndec, odec, adec, sdec, fillA, over, chop, List.replicate, leavesOk, leafOk, cellsEq, cellEq, E_ext, E_byref, en12, bs22, bs24, rows64_len, rowsI_len, hrow, h1, h2, rows64_set]
      · rw [if_pos ⟨h1, h2, h3⟩]
        simp (disch := first | omega | (simp only [List.length_append, List.length_map, List.length_set, List.length_cons, List.length_nil, List.length_take, List.length_drop, rows64_len, rowsI_len]; omega)) only [va0, va1, va2, va3, va4, va5, va6, va7, va8, va9, va10, va11, va12, va13, va14, va15, vb0, vb1, vb2, vb3, w_i8, w_u8, w_i16, w_u16, w_i32, w_u32, w_i64, w_u64, lt_T, lt_F, le_T, le_F, nlt_T, nlt_F, nle_T, nle_F, List.take_of_length_le, gB, gcW, gcR, posIn, renA, renL, Chunk.ren, Chunk.refs, evOpD, touchD, stepC, isFresh, nFresh, freshOf, mkR, hole, evL, evH, opd, get, putD, ofVal, cellOf, loadE, behind, lenE, idxAddrE, idxE, addPtr, intE, strE, unE, convE, AV.int, AV.bool, AV.str, ivs, take, frameOf, firstRegion, refsA, refsL, one, cellsA, floatOk, apartT, List.map, if_true, if_false, E_P, E_glob0, E_glob1, reduceCtorEq, beq_self_eq_true, decide_true, decide_false, ↓reduceIte, Nat.reduceEqDiff, cond_true, cond_false, or_true, true_or, or_false, false_or, and_true, true_and, and_self, false_and, and_false, not_true, not_false_iff, Nat.reduceAdd, Nat.reduceSub, Nat.reduceMul, Nat.reduceLT, Nat.reduceLeDiff, Int.reduceToNat, Int.reduceLT, Int.reduceLE, Option.getD, Int.reduceMul, Int.reduceAdd, List.drop, List.take, Nat.reduceBEq, List.isEmpty, Int.reduceEq, Int.reduceNe, Int.reduceNeg, Int.reduceGT, Int.reduceGE, beq_true, beq_false, UInt8.reduceToNat, eqE, eq_self, foldE, maxE, minE, eq_T, eq_F, ndec, odec, adec, sdec, fillA, over, chop, List.replicate, leavesOk, leafOk, cellsEq, cellEq, E_ext, E_byref, en12, bs22, bs24, rows64_len, rowsI_len, hrow, h1, h2, h3, rows64_set]
    · rw [if_neg (fun h => h2 h.2.1)]
      simp (disch := first | omega | (simp only [List.length_append, List.length_map, List.length_set, List.length_cons, List.length_nil, List.length_take, List.length_drop, rows64_len, rowsI_len]; omega)) only [va0, va1, va2, va3, va4, va5, va6, va7, va8, va9, va10, va11, va12, va13, va14, va15, vb0, vb1, vb2, vb3, w_i8, w_u8, w_i16, w_u16, w_i32, w_u32, w_i64, w_u64, lt_T, lt_F, le_T, le_F, nlt_T, nlt_F, nle_T, nle_F, List.take_of_length_le, gB, gcW, gcR, posIn, renA, renL, Chunk.ren, Chunk.refs, evOpD, touchD, stepC, isFresh, nFresh, freshOf, mkR, hole, evL, evH, opd, get, putD, ofVal, cellOf, loadE, behind, lenE, idxAddrE, idxE, addPtr, intE, strE, unE, convE, AV.int, AV.bool, AV.str, ivs, take, frameOf, firstRegion, refsA, refsL, one, cellsA, floatOk, apartT, List.map, if_true, if_false, E_P, E_glob0, E_glob1, reduceCtorEq, beq_self_eq_true, decide_true, decide_false, ↓reduceIte, Nat.reduceEqDiff, cond_true, cond_false, or_true, true_or, or_false, false_or, and_true, true_and, and_self, false_and, and_false, not_true, not_false_iff, Nat.reduceAdd, Nat.reduceSub, Nat.reduceMul, Nat.reduceLT, Nat.reduceLeDiff, Int.reduceToNat, Int.reduceLT, Int.reduceLE, Option.getD, Int.reduceMul, Int.reduceAdd, List.drop, List.take, Nat.reduceBEq, List.isEmpty, Int.reduceEq, Int.reduceNe, Int.reduceNeg, Int.reduceGT, Int.reduceGE, beq_true, beq_false, UInt8.reduceToNat, eqE, eq_self, foldE, maxE, minE, eq_T, eq_F, ndec, odec, adec, sdec, fillA, over, chop, List.replicate, leavesOk, leafOk, cellsEq, cellEq, E_ext, E_byref, en12, bs22, bs24, rows64_len, rowsI_len, hrow, h1, h2, rows64_set]
  · rw [if_neg (fun h => h1 h.1)]
    simp (disch := first | omega | (simp only [List.length_append, List.length_map, List.length_set, List.length_cons, List.length_nil, List.length_take, List.length_drop, rows64_len, rowsI_len]; omega)) only [va0, va1, va2, va3, va4, va5, va6, va7, va8, va9, va10, va11, va12, va13, va14, va15, vb0, vb1, vb2, vb3, w_i8, w_u8, w_i16, w_u16, w_i32, w_u32, w_i64, w_u64, lt_T, lt_F, le_T, le_F, nlt_T, nlt_F, nle_T, nle_F, List.take_of_length_le, gB, gcW, gcR, posIn, renA, renL, Chunk.ren, Chunk.refs, evOpD, touchD, stepC, isFresh, nFresh, freshOf, mkR, hole, evL, evH, opd, get, putD, ofVal, cellOf, loadE, behind, lenE, idxAddrE, idxE, addPtr, intE, strE, unE, convE, AV.int, AV.bool, AV.str, ivs, take, frameOf, firstRegion, refsA, refsL, one, cellsA, floatOk, apartT, List.map, if_true, if_false, E_P, E_glob0, E_glob1, reduceCtorEq, beq_self_eq_true, decide_true, decide_false, ↓reduceIte, Nat.reduceEqDiff, cond_true, cond_false, or_true, true_or, or_false, false_or, and_true, true_and, and_self, false_and, and_false, not_true, not_false_iff, Nat.reduceAdd, Nat.reduceSub, Nat.reduceMul, Nat.reduceLT, Nat.reduceLeDiff, Int.reduceToNat, Int.reduceLT, Int.reduceLE, Option.getD, Int.reduceMul, Int.reduceAdd, List.drop, List.take, Nat.reduceBEq, List.isEmpty, Int.reduceEq, Int.reduceNe, Int.reduceNeg, Int.reduceGT, Int.reduceGE, beq_true, beq_false, UInt8.reduceToNat, eqE, eq_self, foldE, maxE, minE, eq_T, eq_F, ndec, odec, adec, sdec, fillA, over, chop, List.replicate, leavesOk, leafOk, cellsEq, cellEq, E_ext, E_byref, en12, bs22, bs24, rows64_len, rowsI_len, hrow, h1, rows64_set]
end Go.VI

namespace Go.VI
open Go.Proofs
set_option maxRecDepth 100000
set_option linter.unusedSimpArgs false
set_option linter.unusedVariables false
set_option maxHeartbeats 4000000
theorem c24 (op arg i : Int) : callT E 24 [.agg [.i (.v (.int .i64 op)), .i (.v (.int .i64 arg))], .i (.v (.int .i64 i))] [] = some (.clo (.func 32) [] [.ptr 0 0 0 0, .ptr 1 0 0 0], [.box [.i (.v (.int .i64 op)), .i (.v (.int .i64 arg))], .box [.i (.v (.int .i64 i))]]) := by
  rw [callT_eq Tryd.func24 rfl fok24 (by simp [Tryd.ntmps24])]
  simp (disch := first | omega | (simp only [List.length_append, List.length_map, List.length_set, List.length_cons, List.length_nil, List.length_take, List.length_drop]; omega)) only [va0, va1, va2, va3, va4, va5, va6, va7, va8, va9, va10, va11, va12, va13, va14, va15, vb0, vb1, vb2, vb3, w_i8, w_u8, w_i16, w_u16, w_i32, w_u32, w_i64, w_u64, lt_T, lt_F, le_T, le_F, nlt_T, nlt_F, nle_T, nle_F, List.take_of_length_le, gB, gcW, gcR, posIn, renA, renL, Chunk.ren, Chunk.refs, evOpD, touchD, stepC, isFresh, nFresh, freshOf, mkR, hole, evL, evH, opd, get, putD, ofVal, cellOf, loadE, behind, lenE, idxAddrE, idxE, addPtr, intE, strE, unE, convE, AV.int, AV.bool, AV.str, ivs, take, frameOf, firstRegion, refsA, refsL, one, cellsA, floatOk, apartT, List.map, if_true, if_false, E_P, E_glob0, E_glob1, reduceCtorEq, beq_self_eq_true, decide_true, decide_false, ↓reduceIte, Nat.reduceEqDiff, cond_true, cond_false, or_true, true_or, or_false, false_or, and_true, true_and, and_self, false_and, and_false, not_true, not_false_iff, Nat.reduceAdd, Nat.reduceSub, Nat.reduceMul, Nat.reduceLT, Nat.reduceLeDiff, Int.reduceToNat, Int.reduceLT, Int.reduceLE, Option.getD, Int.reduceMul, Int.reduceAdd, List.drop, List.take, Nat.reduceBEq, List.isEmpty, Int.reduceEq, Int.reduceNe, Int.reduceNeg, Int.reduceGT, Int.reduceGE, beq_true, beq_false, UInt8.reduceToNat, eqE, eq_self, foldE, maxE, minE, eq_T, eq_F, ndec, odec, adec, sdec, fillA, over, chop, List.replicate, leavesOk, leafOk, cellsEq, cellEq, E_ext, E_byref, en24]
theorem ik24 (op arg i : Int) (H : Hp) : isoK E (callT E) 24 [.agg [.i (.v (.int .i64 op)), .i (.v (.int .i64 arg))], .i (.v (.int .i64 i))] H = some (.clo (.func 32) [] [.ptr H.length 0 0 0, .ptr (H.length + 1) 0 0 0], H ++ [.box [.i (.v (.int .i64 op)), .i (.v (.int .i64 arg))], .box [.i (.v (.int .i64 i))]]) := by
  have h := c24 op arg i
  unfold isoK
  simp [exCl, show E.ext 24 = none from rfl, refsL, refsA, reach, renL, renA, posIn, h, Chunk.refs, Chunk.ren, setAll, backRen]
  exact Nat.add_comm _ _
theorem rg12 (l : List Ins) (hl : l.length < 100000) (n : Nat) (hn : n = l.length + 1) (op arg af i k : Int) : ∀ (xs : List Int), (∀ x ∈ xs, 0 ≤ x ∧ x ≤ l.length) → ∀ out : List Int, out.length = n →
    (∃ out', dSet l.length af xs out = some out' ∧ out'.length = n ∧ rgE (rdF E 12 (rfAt Tryd.f12 0)) 73 [(1, .ptr 0 0 0 0), (2, .ptr 1 0 0 0), (3, .ptr 2 0 0 0), (5, .ptr 3 0 0 0), (9, .ptr 6 0 0 0), (31, .i (.sl 2 (rowsI l) false)), (32, .i (.v (.int .i64 l.length))), (33, .i (.v (.int .i64 (k)))), (72, .clo (.func 32) [] [.ptr 7 0 0 0, .ptr 8 0 0 0])] [.ptr 7 0 0 0, .ptr 8 0 0 0] [[op, arg], [i]] xs [.box [.i (.sl 2 (rowsI l) false)], .box [.i (.sl 0 [] true)], .box [.i (.v (.int .i64 (0)))], .box [.ref 4 0 0 (n)], .sl 1 0 (rows64 (out)) false, .box [.i (.v (.int .i64 (op))), .i (.v (.int .i64 (arg)))], .box [.i (.v (.int .i64 (af)))], .box [.i (.v (.int .i64 (op))), .i (.v (.int .i64 (arg)))], .box [.i (.v (.int .i64 (i)))]] = some (.normal, [(1, .ptr 0 0 0 0), (2, .ptr 1 0 0 0), (3, .ptr 2 0 0 0), (5, .ptr 3 0 0 0), (9, .ptr 6 0 0 0), (31, .i (.sl 2 (rowsI l) false)), (32, .i (.v (.int .i64 l.length))), (33, .i (.v (.int .i64 (k)))), (72, .clo (.func 32) [] [.ptr 7 0 0 0, .ptr 8 0 0 0])], [.box [.i (.sl 2 (rowsI l) false)], .box [.i (.sl 0 [] true)], .box [.i (.v (.int .i64 (0)))], .box [.ref 4 0 0 (n)], .sl 1 0 (rows64 (out')) false, .box [.i (.v (.int .i64 (op))), .i (.v (.int .i64 (arg)))], .box [.i (.v (.int .i64 (af)))], .box [.i (.v (.int .i64 (op))), .i (.v (.int .i64 (arg)))], .box [.i (.v (.int .i64 (i)))]])) ∨
    (dSet l.length af xs out = none ∧ ∃ out', rgE (rdF E 12 (rfAt Tryd.f12 0)) 73 [(1, .ptr 0 0 0 0), (2, .ptr 1 0 0 0), (3, .ptr 2 0 0 0), (5, .ptr 3 0 0 0), (9, .ptr 6 0 0 0), (31, .i (.sl 2 (rowsI l) false)), (32, .i (.v (.int .i64 l.length))), (33, .i (.v (.int .i64 (k)))), (72, .clo (.func 32) [] [.ptr 7 0 0 0, .ptr 8 0 0 0])] [.ptr 7 0 0 0, .ptr 8 0 0 0] [[op, arg], [i]] xs [.box [.i (.sl 2 (rowsI l) false)], .box [.i (.sl 0 [] true)], .box [.i (.v (.int .i64 (0)))], .box [.ref 4 0 0 (n)], .sl 1 0 (rows64 (out)) false, .box [.i (.v (.int .i64 (op))), .i (.v (.int .i64 (arg)))], .box [.i (.v (.int .i64 (af)))], .box [.i (.v (.int .i64 (op))), .i (.v (.int .i64 (arg)))], .box [.i (.v (.int .i64 (i)))]] = some (.ret, [(1, .ptr 0 0 0 0), (2, .ptr 1 0 0 0), (3, .ptr 2 0 0 0), (5, .ptr 3 0 0 0), (9, .ptr 6 0 0 0), (31, .i (.sl 2 (rowsI l) false)), (32, .i (.v (.int .i64 l.length))), (33, .i (.v (.int .i64 (k)))), (72, .clo (.func 32) [] [.ptr 7 0 0 0, .ptr 8 0 0 0])], [.box [.i (.sl 2 (rowsI l) false)], .box [.i (.sl 0 [] true)], .box [.i (.v (.int .i64 (13)))], .box [.ref 4 0 0 (n)], .sl 1 0 (rows64 (out')) false, .box [.i (.v (.int .i64 (op))), .i (.v (.int .i64 (arg)))], .box [.i (.v (.int .i64 (af)))], .box [.i (.v (.int .i64 (op))), .i (.v (.int .i64 (arg)))], .box [.i (.v (.int .i64 (i)))]]))
  | [], _, out, ho => .inl ⟨out, rfl, ho, rfl⟩
  | x :: xs, hx, out, ho => by
    have h1 := rd12 l hl n hn out ho op arg af i k x (hx x (.head _))
    rw [rgE_cons, h1]
    simp only [dSet]
    by_cases hc : x < l.length ∧ 0 ≤ out.getD x.toNat 0 ∧ out.getD x.toNat 0 ≠ af
    · rw [if_pos hc, if_pos hc]
      exact .inr ⟨rfl, out, rfl⟩
    · rw [if_neg hc, if_neg hc, rgN_n, if_pos (show capsI _ [.ptr 7 0 0 0, .ptr 8 0 0 0] = some [[op, arg], [i]] from rfl)]
      exact rg12 l hl n hn op arg af i k xs (fun y hy => hx y (.tail _ hy)) (out.set x.toNat af) (by simpa using ho)
theorem sucL_in {n k : Nat} {op arg : Int} (hk : k < n) (h : chk1 n k (op, arg) = 0) : (0 ≤ op ∧ op ≤ 20) ∧ ∀ x ∈ sucL op arg k, (k : Int) < x ∧ x ≤ n := by
  unfold chk1 at h
  simp only at h
  split at h
  · cases h
  rename_i h1
  split at h
  · cases h
  rename_i h2
  refine ⟨by omega, fun x hx => ?_⟩
  unfold sucL at hx
  rw [List.mem_append] at hx
  rcases hx with hx | hx
  · split at hx
    · cases hx
    · rw [List.mem_singleton] at hx; omega
  · split at hx
    · rename_i hj
      rw [List.mem_singleton] at hx
      subst hx
      have h1 : ¬ op = 1 := by omega
      unfold boundsS at h2
      rw [if_neg h1, if_pos hj] at h2
      simp only at h2
      omega
    · cases hx
theorem dSet_r {n after : Int} (ha : 0 ≤ after ∧ after ≤ 16) : ∀ (ks out out' : List Int), dSet n after ks out = some out' → (∀ x ∈ out, -1 ≤ x ∧ x ≤ 16) → ∀ x ∈ out', -1 ≤ x ∧ x ≤ 16
  | [], out, out', h, hr => by simp only [dSet, Option.some.injEq] at h; subst h; exact hr
  | k :: ks, out, out', h, hr => by
    simp only [dSet] at h
    split at h
    · cases h
    · exact dSet_r ha ks _ out' h fun x hx => by
        rcases List.mem_or_eq_of_mem_set hx with h1 | h1
        · exact hr x h1
        · omega
theorem dSet_len {n after : Int} : ∀ (ks out out' : List Int), dSet n after ks out = some out' → out'.length = out.length
  | [], out, out', h => by simp only [dSet, Option.some.injEq] at h; subst h; rfl
  | k :: ks, out, out', h => by
    simp only [dSet] at h
    split at h
    · cases h
    · rw [dSet_len ks _ out' h, List.length_set]
def dP (l : List Ins) (n : Nat) (fr : Fr) (ex : Ex) (H' : Hp) : Option (List Int) → Prop
  | some out' => ex = .exit 2 ∧ out'.length = n ∧ H' = [.box [.i (.sl 2 (rowsI l) false)], .box [.i (.sl 0 [] true)], .box [.i (.v (.int .i64 0))], .box [.ref 4 0 0 (n)], .sl 1 0 (rows64 (out')) false] ∧ get 1 fr = .ptr 0 0 0 0 ∧ get 2 fr = .ptr 1 0 0 0 ∧ get 3 fr = .ptr 2 0 0 0 ∧ get 5 fr = .ptr 3 0 0 0
  | none => ex = .ret ∧ H'[1]? = some (.box [.i (.sl 0 [] true)]) ∧ H'[2]? = some (.box [.i (.v (.int .i64 13))]) ∧ get 2 fr = .ptr 1 0 0 0 ∧ get 3 fr = .ptr 2 0 0 0
theorem l12_1 (l : List Ins) (hl : l.length ≤ 500) (n : Nat) (hn : n = l.length + 1) (hok : ∀ (j : Nat) (h : j < l.length), chk1 l.length j l[j] = 0) (k : Nat) (hk : k ≤ l.length) (out : List Int) (ho : out.length = n) (hr : ∀ x ∈ out, -1 ≤ x ∧ x ≤ 16) :
    ∃ fr ex H', rl E 0 12 (loopAt Tryd.f12 1) [(1, .ptr 0 0 0 0), (2, .ptr 1 0 0 0), (3, .ptr 2 0 0 0), (5, .ptr 3 0 0 0), (31, .i (.sl 2 (rowsI l) false)), (32, .i (.v (.int .i64 l.length))), (33, .i (.v (.int .i64 (k))))] [.box [.i (.sl 2 (rowsI l) false)], .box [.i (.sl 0 [] true)], .box [.i (.v (.int .i64 0))], .box [.ref 4 0 0 (n)], .sl 1 0 (rows64 (out)) false] = some (ex, fr, H') ∧ dP l n fr ex H' (dRun l.length k (l.drop k) out) := by
  rw [rl_step (fn := Tryd.f12) (k := 1) rfl]
  by_cases hlt : k < l.length
  · have hrow := rowsI_at hlt
    have hck := hok k hlt
    rw [List.drop_eq_getElem_cons hlt, dRun, dStep]
    have ih := fun out ho hr => l12_1 l hl n hn hok (k + 1) hlt out ho hr
    obtain ⟨op, arg, hp⟩ : ∃ op arg, l[k] = (op, arg) := ⟨_, _, rfl⟩
    rw [hp] at hrow hck ⊢
    simp only at hrow ⊢
    obtain ⟨⟨o1, o2⟩, hsuc⟩ := sucL_in hlt hck
    have hd := rows64_get (l := out) (k := k) (by omega)
    have hdr := hr (out.getD k 0) (by rw [List.getD_eq_getElem?_getD, List.getElem?_eq_getElem (by omega)]; exact List.getElem_mem _)
    have hpo := pops_at o1 o2
    have hpu := pushes_at o1 o2
    have hp1 := popS_r op
    have hp2 := pushS_r op
    have hrg := fun af => rg12 l (by omega) n hn op arg af k k (sucL op arg k) (fun x hx => by have := hsuc x hx; omega) out ho
    have hsq := seqSucc_eq op arg k (by omega) (by omega)
    generalize out.getD k 0 = d at *
    generalize popS op = po at *
    generalize pushS op = pu at *
    generalize sucL op arg k = xs at *
    by_cases h1 : d < 0
    · rw [if_pos h1]
      simp only
      obtain ⟨fr, ex, H', e, hh⟩ := ih out ho hr
      refine ⟨fr, ex, H', Eq.trans ?_ e, hh⟩
      clear e hh ih hrg
      simp (disch := first | omega | (simp only [List.length_append, List.length_map, List.length_set, List.length_cons, List.length_nil, List.length_take, List.length_drop, rowsI_len, rows64_len]; omega)) only [va0, va1, va2, va3, va4, va5, va6, va7, va8, va9, va10, va11, va12, va13, va14, va15, vb0, vb1, vb2, vb3, w_i8, w_u8, w_i16, w_u16, w_i32, w_u32, w_i64, w_u64, lt_T, lt_F, le_T, le_F, nlt_T, nlt_F, nle_T, nle_F, List.take_of_length_le, gB, gcW, gcR, posIn, renA, renL, Chunk.ren, Chunk.refs, evOpD, touchD, stepC, isFresh, nFresh, freshOf, mkR, hole, evL, evH, opd, get, putD, ofVal, cellOf, loadE, behind, lenE, idxAddrE, idxE, addPtr, intE, strE, unE, convE, AV.int, AV.bool, AV.str, ivs, take, frameOf, firstRegion, refsA, refsL, one, cellsA, floatOk, apartT, List.map, if_true, if_false, E_P, E_glob0, E_glob1, reduceCtorEq, beq_self_eq_true, decide_true, decide_false, ↓reduceIte, Nat.reduceEqDiff, cond_true, cond_false, or_true, true_or, or_false, false_or, and_true, true_and, and_self, false_and, and_false, not_true, not_false_iff, Nat.reduceAdd, Nat.reduceSub, Nat.reduceMul, Nat.reduceLT, Nat.reduceLeDiff, Int.reduceToNat, Int.reduceLT, Int.reduceLE, Option.getD, Int.reduceMul, Int.reduceAdd, List.drop, List.take, Nat.reduceBEq, List.isEmpty, Int.reduceEq, Int.reduceNe, Int.reduceNeg, Int.reduceGT, Int.reduceGE, beq_true, beq_false, UInt8.reduceToNat, eqE, eq_self, foldE, maxE, minE, eq_T, eq_F, ndec, odec, adec, sdec, fillA, over, chop, List.replicate, leavesOk, leafOk, cellsEq, cellEq, E_ext, E_byref, en12, bs22, bs24, hrow, rowsI_len, rows64_len, hd, h1, show ∀ B fr H, execT E B 12 (Code.loop _) fr H = rlG E B 12 (loopAt Tryd.f12 1) (gcn B (norm [1, 2, 3, 5, 31, 32, 33] fr) H) from fun B fr H => rl_intro rfl mt12_12 mb12_12 zf12_12 hd12_12 fr H]
    · rw [if_neg h1]
      by_cases h2 : d < po
      · rw [if_pos (.inl h2)]
        clear ih hrg
        simp (disch := first | omega | (simp only [List.length_append, List.length_map, List.length_set, List.length_cons, List.length_nil, List.length_take, List.length_drop, rowsI_len, rows64_len]; omega)) only [va0, va1, va2, va3, va4, va5, va6, va7, va8, va9, va10, va11, va12, va13, va14, va15, vb0, vb1, vb2, vb3, w_i8, w_u8, w_i16, w_u16, w_i32, w_u32, w_i64, w_u64, lt_T, lt_F, le_T, le_F, nlt_T, nlt_F, nle_T, nle_F, List.take_of_length_le, gB, gcW, gcR, posIn, renA, renL, Chunk.ren, Chunk.refs, evOpD, touchD, stepC, isFresh, nFresh, freshOf, mkR, hole, evL, evH, opd, get, putD, ofVal, cellOf, loadE, behind, lenE, idxAddrE, idxE, addPtr, intE, strE, unE, convE, AV.int, AV.bool, AV.str, ivs, take, frameOf, firstRegion, refsA, refsL, one, cellsA, floatOk, apartT, List.map, if_true, if_false, E_P, E_glob0, E_glob1, reduceCtorEq, beq_self_eq_true, decide_true, decide_false, ↓reduceIte, Nat.reduceEqDiff, cond_true, cond_false, or_true, true_or, or_false, false_or, and_true, true_and, and_self, false_and, and_false, not_true, not_false_iff, Nat.reduceAdd, Nat.reduceSub, Nat.reduceMul, Nat.reduceLT, Nat.reduceLeDiff, Int.reduceToNat, Int.reduceLT, Int.reduceLE, Option.getD, Int.reduceMul, Int.reduceAdd, List.drop, List.take, Nat.reduceBEq, List.isEmpty, Int.reduceEq, Int.reduceNe, Int.reduceNeg, Int.reduceGT, Int.reduceGE, beq_true, beq_false, UInt8.reduceToNat, eqE, eq_self, foldE, maxE, minE, eq_T, eq_F, ndec, odec, adec, sdec, fillA, over, chop, List.replicate, leavesOk, leafOk, cellsEq, cellEq, E_ext, E_byref, en12, bs22, bs24, hrow, rowsI_len, rows64_len, hd, hpo, hpu, h1, h2, Nat.mul_one, show ∀ B fr H, execT E B 12 (Code.loop _) fr H = rlG E B 12 (loopAt Tryd.f12 1) (gcn B (norm [1, 2, 3, 5, 31, 32, 33] fr) H) from fun B fr H => rl_intro rfl mt12_12 mb12_12 zf12_12 hd12_12 fr H]
        refine ⟨_, _, _, rfl, ?_⟩
        exact ⟨rfl, rfl, rfl, rfl, rfl⟩
      · by_cases h3 : 16 < d - po + pu
        · rw [if_pos (.inr h3)]
          clear ih hrg
          simp (disch := first | omega | (simp only [List.length_append, List.length_map, List.length_set, List.length_cons, List.length_nil, List.length_take, List.length_drop, rowsI_len, rows64_len]; omega)) only [va0, va1, va2, va3, va4, va5, va6, va7, va8, va9, va10, va11, va12, va13, va14, va15, vb0, vb1, vb2, vb3, w_i8, w_u8, w_i16, w_u16, w_i32, w_u32, w_i64, w_u64, lt_T, lt_F, le_T, le_F, nlt_T, nlt_F, nle_T, nle_F, List.take_of_length_le, gB, gcW, gcR, posIn, renA, renL, Chunk.ren, Chunk.refs, evOpD, touchD, stepC, isFresh, nFresh, freshOf, mkR, hole, evL, evH, opd, get, putD, ofVal, cellOf, loadE, behind, lenE, idxAddrE, idxE, addPtr, intE, strE, unE, convE, AV.int, AV.bool, AV.str, ivs, take, frameOf, firstRegion, refsA, refsL, one, cellsA, floatOk, apartT, List.map, if_true, if_false, E_P, E_glob0, E_glob1, reduceCtorEq, beq_self_eq_true, decide_true, decide_false, ↓reduceIte, Nat.reduceEqDiff, cond_true, cond_false, or_true, true_or, or_false, false_or, and_true, true_and, and_self, false_and, and_false, not_true, not_false_iff, Nat.reduceAdd, Nat.reduceSub, Nat.reduceMul, Nat.reduceLT, Nat.reduceLeDiff, Int.reduceToNat, Int.reduceLT, Int.reduceLE, Option.getD, Int.reduceMul, Int.reduceAdd, List.drop, List.take, Nat.reduceBEq, List.isEmpty, Int.reduceEq, Int.reduceNe, Int.reduceNeg, Int.reduceGT, Int.reduceGE, beq_true, beq_false, UInt8.reduceToNat, eqE, eq_self, foldE, maxE, minE, eq_T, eq_F, ndec, odec, adec, sdec, fillA, over, chop, List.replicate, leavesOk, leafOk, cellsEq, cellEq, E_ext, E_byref, en12, bs22, bs24, hrow, rowsI_len, rows64_len, hd, hpo, hpu, h1, h2, h3, Nat.mul_one, show ∀ B fr H, execT E B 12 (Code.loop _) fr H = rlG E B 12 (loopAt Tryd.f12 1) (gcn B (norm [1, 2, 3, 5, 31, 32, 33] fr) H) from fun B fr H => rl_intro rfl mt12_12 mb12_12 zf12_12 hd12_12 fr H]
          refine ⟨_, _, _, rfl, ?_⟩
          exact ⟨rfl, rfl, rfl, rfl, rfl⟩
        · rw [if_neg (by omega)]
          rcases hrg (d - po + pu) with ⟨out', g1, g2, g3⟩ | ⟨g1, out', g3⟩
          · rw [g1]
            simp only
            obtain ⟨fr, ex, H', e, hh⟩ := ih out' g2 (dSet_r (by omega) xs out out' g1 hr)
            refine ⟨fr, ex, H', Eq.trans ?_ e, hh⟩
            clear e hh ih hrg
            simp (disch := first | omega | (simp only [List.length_append, List.length_map, List.length_set, List.length_cons, List.length_nil, List.length_take, List.length_drop, rowsI_len, rows64_len]; omega)) only [va0, va1, va2, va3, va4, va5, va6, va7, va8, va9, va10, va11, va12, va13, va14, va15, vb0, vb1, vb2, vb3, w_i8, w_u8, w_i16, w_u16, w_i32, w_u32, w_i64, w_u64, lt_T, lt_F, le_T, le_F, nlt_T, nlt_F, nle_T, nle_F, List.take_of_length_le, gB, gcW, gcR, posIn, renA, renL, Chunk.ren, Chunk.refs, evOpD, touchD, stepC, isFresh, nFresh, freshOf, mkR, hole, evL, evH, opd, get, putD, ofVal, cellOf, loadE, behind, lenE, idxAddrE, idxE, addPtr, intE, strE, unE, convE, AV.int, AV.bool, AV.str, ivs, take, frameOf, firstRegion, refsA, refsL, one, cellsA, floatOk, apartT, List.map, if_true, if_false, E_P, E_glob0, E_glob1, reduceCtorEq, beq_self_eq_true, decide_true, decide_false, ↓reduceIte, Nat.reduceEqDiff, cond_true, cond_false, or_true, true_or, or_false, false_or, and_true, true_and, and_self, false_and, and_false, not_true, not_false_iff, Nat.reduceAdd, Nat.reduceSub, Nat.reduceMul, Nat.reduceLT, Nat.reduceLeDiff, Int.reduceToNat, Int.reduceLT, Int.reduceLE, Option.getD, Int.reduceMul, Int.reduceAdd, List.drop, List.take, Nat.reduceBEq, List.isEmpty, Int.reduceEq, Int.reduceNe, Int.reduceNeg, Int.reduceGT, Int.reduceGE, beq_true, beq_false, UInt8.reduceToNat, eqE, eq_self, foldE, maxE, minE, eq_T, eq_F, ndec, odec, adec, sdec, fillA, over, chop, List.replicate, leavesOk, leafOk, cellsEq, cellEq, E_ext, E_byref, en12, bs22, bs24, hrow, rowsI_len, rows64_len, hd, hpo, hpu, h1, h2, h3, Nat.mul_one, ik24, hsq, g3, show ∀ B fr H, execT E B 12 (Code.rangeFunc _ _ _ _) fr H = rgO (rdF E 12 (rfAt Tryd.f12 0)) 73 fr H (seqE E H (opd E fr _)) from fun B fr H => rf_intro rfl rfl fr H, show ∀ B fr H, execT E B 12 (Code.loop _) fr H = rlG E B 12 (loopAt Tryd.f12 1) (gcn B (norm [1, 2, 3, 5, 31, 32, 33] fr) H) from fun B fr H => rl_intro rfl mt12_12 mb12_12 zf12_12 hd12_12 fr H]
          · rw [g1]
            simp only
            clear ih hrg
            simp (disch := first | omega | (simp only [List.length_append, List.length_map, List.length_set, List.length_cons, List.length_nil, List.length_take, List.length_drop, rowsI_len, rows64_len]; omega)) only [va0, va1, va2, va3, va4, va5, va6, va7, va8, va9, va10, va11, va12, va13, va14, va15, vb0, vb1, vb2, vb3, w_i8, w_u8, w_i16, w_u16, w_i32, w_u32, w_i64, w_u64, lt_T, lt_F, le_T, le_F, nlt_T, nlt_F, nle_T, nle_F, List.take_of_length_le, gB, gcW, gcR, posIn, renA, renL, Chunk.ren, Chunk.refs, evOpD, touchD, stepC, isFresh, nFresh, freshOf, mkR, hole, evL, evH, opd, get, putD, ofVal, cellOf, loadE, behind, lenE, idxAddrE, idxE, addPtr, intE, strE, unE, convE, AV.int, AV.bool, AV.str, ivs, take, frameOf, firstRegion, refsA, refsL, one, cellsA, floatOk, apartT, List.map, if_true, if_false, E_P, E_glob0, E_glob1, reduceCtorEq, beq_self_eq_true, decide_true, decide_false, ↓reduceIte, Nat.reduceEqDiff, cond_true, cond_false, or_true, true_or, or_false, false_or, and_true, true_and, and_self, false_and, and_false, not_true, not_false_iff, Nat.reduceAdd, Nat.reduceSub, Nat.reduceMul, Nat.reduceLT, Nat.reduceLeDiff, Int.reduceToNat, Int.reduceLT, Int.reduceLE, Option.getD, Int.reduceMul, Int.reduceAdd, List.drop, List.take, Nat.reduceBEq, List.isEmpty, Int.reduceEq, Int.reduceNe, Int.reduceNeg, Int.reduceGT, Int.reduceGE, beq_true, beq_false, UInt8.reduceToNat, eqE, eq_self, foldE, maxE, minE, eq_T, eq_F, ndec, odec, adec, sdec, fillA, over, chop, List.replicate, leavesOk, leafOk, cellsEq, cellEq, E_ext, E_byref, en12, bs22, bs24, hrow, rowsI_len, rows64_len, hd, hpo, hpu, h1, h2, h3, Nat.mul_one, ik24, hsq, g3, show ∀ B fr H, execT E B 12 (Code.rangeFunc _ _ _ _) fr H = rgO (rdF E 12 (rfAt Tryd.f12 0)) 73 fr H (seqE E H (opd E fr _)) from fun B fr H => rf_intro rfl rfl fr H, show ∀ B fr H, execT E B 12 (Code.loop _) fr H = rlG E B 12 (loopAt Tryd.f12 1) (gcn B (norm [1, 2, 3, 5, 31, 32, 33] fr) H) from fun B fr H => rl_intro rfl mt12_12 mb12_12 zf12_12 hd12_12 fr H]
            refine ⟨_, _, _, rfl, ?_⟩
            exact ⟨rfl, rfl, rfl, rfl, rfl⟩
  · obtain rfl : k = l.length := by omega
    rw [List.drop_length, dRun]
    simp (disch := first | omega | (simp only [List.length_append, List.length_map, List.length_set, List.length_cons, List.length_nil, List.length_take, List.length_drop, rows64_len, rowsI_len]; omega)) only [va0, va1, va2, va3, va4, va5, va6, va7, va8, va9, va10, va11, va12, va13, va14, va15, vb0, vb1, vb2, vb3, w_i8, w_u8, w_i16, w_u16, w_i32, w_u32, w_i64, w_u64, lt_T, lt_F, le_T, le_F, nlt_T, nlt_F, nle_T, nle_F, List.take_of_length_le, gB, gcW, gcR, posIn, renA, renL, Chunk.ren, Chunk.refs, evOpD, touchD, stepC, isFresh, nFresh, freshOf, mkR, hole, evL, evH, opd, get, putD, ofVal, cellOf, loadE, behind, lenE, idxAddrE, idxE, addPtr, intE, strE, unE, convE, AV.int, AV.bool, AV.str, ivs, take, frameOf, firstRegion, refsA, refsL, one, cellsA, floatOk, apartT, List.map, if_true, if_false, E_P, E_glob0, E_glob1, reduceCtorEq, beq_self_eq_true, decide_true, decide_false, ↓reduceIte, Nat.reduceEqDiff, cond_true, cond_false, or_true, true_or, or_false, false_or, and_true, true_and, and_self, false_and, and_false, not_true, not_false_iff, Nat.reduceAdd, Nat.reduceSub, Nat.reduceMul, Nat.reduceLT, Nat.reduceLeDiff, Int.reduceToNat, Int.reduceLT, Int.reduceLE, Option.getD, Int.reduceMul, Int.reduceAdd, List.drop, List.take, Nat.reduceBEq, List.isEmpty, Int.reduceEq, Int.reduceNe, Int.reduceNeg, Int.reduceGT, Int.reduceGE, beq_true, beq_false, UInt8.reduceToNat, eqE, eq_self, foldE, maxE, minE, eq_T, eq_F, ndec, odec, adec, sdec, fillA, over, chop, List.replicate, leavesOk, leafOk, cellsEq, cellEq, E_ext, E_byref, en12, bs22, bs24, rows64_len, rowsI_len, show ∀ B fr H, execT E B 12 (Code.loop _) fr H = rlG E B 12 (loopAt Tryd.f12 1) (gcn B (norm [1, 2, 3, 5, 31, 32, 33] fr) H) from fun B fr H => rl_intro rfl mt12_12 mb12_12 zf12_12 hd12_12 fr H]
    exact ⟨_, _, _, rfl, rfl, ho, rfl, rfl, rfl, rfl, rfl⟩
termination_by l.length - k
end Go.VI

namespace Go.VI
open Go.Proofs
set_option maxRecDepth 100000
set_option linter.unusedSimpArgs false
set_option linter.unusedVariables false
set_option maxHeartbeats 4000000
theorem rows64_take (l : List Int) (k : Nat) : (rows64 l).take k = rows64 (l.take k) := by simp [rows64, List.map_take]
theorem chkL_ok {n : Int} : ∀ (l : List Ins) (k : Nat), chkL n k l = 0 → ∀ (j : Nat) (h : j < l.length), chk1 n ((k + j : Nat)) l[j] = 0
  | [], k, _, j, h => by simp at h
  | p :: r, k, hc, j, h => by
    simp only [chkL] at hc
    split at hc
    · rename_i h1
      cases j with
      | zero => simpa using h1
      | succ j =>
        have := chkL_ok r (k + 1) hc j (by simpa using h)
        simpa [Nat.add_assoc, Nat.add_comm 1 j] using this
    · rename_i h1
      exact absurd hc h1
theorem check_len {l : List Ins} (h : checkI l = 0) : l.length ≤ 500 := by
  unfold checkI at h
  split at h
  · cases h
  · omega
theorem check_ok {l : List Ins} (h : checkI l = 0) (j : Nat) (hj : j < l.length) : chk1 l.length j l[j] = 0 := by
  unfold checkI at h
  split at h
  · cases h
  · simpa using chkL_ok l 0 h j hj
theorem c12 (l : List Ins) (hl : (l.length : Int) < 9223372036854775808) : ∃ L, callT E 12 [.i (.sl 2 (rowsI l) false)] [] = some (.tup [.i (.sl 1 (rows64 (depthsS l).1) false), .i (.v (.int .i64 (depthsS l).2))], L) := by
  have hC := fun H => ik23 l hl H
  unfold depthsS
  by_cases h0 : checkI l = 0
  rotate_left
  · rw [if_neg h0]
    generalize checkI l = q at *
    simp only
    have hz : rows64 [] = [] := rfl
    rw [hz]
    rw [callT_eq Tryd.func12 rfl fok12 (by simp [Tryd.ntmps12])]
    simp (disch := first | omega | (simp only [List.length_append, List.length_map, List.length_set, List.length_cons, List.length_nil, List.length_take, List.length_drop]; omega)) only [va0, va1, va2, va3, va4, va5, va6, va7, va8, va9, va10, va11, va12, va13, va14, va15, vb0, vb1, vb2, vb3, w_i8, w_u8, w_i16, w_u16, w_i32, w_u32, w_i64, w_u64, lt_T, lt_F, le_T, le_F, nlt_T, nlt_F, nle_T, nle_F, List.take_of_length_le, gB, gcW, gcR, posIn, renA, renL, Chunk.ren, Chunk.refs, evOpD, touchD, stepC, isFresh, nFresh, freshOf, mkR, hole, evL, evH, opd, get, putD, ofVal, cellOf, loadE, behind, lenE, idxAddrE, idxE, addPtr, intE, strE, unE, convE, AV.int, AV.bool, AV.str, ivs, take, frameOf, firstRegion, refsA, refsL, one, cellsA, floatOk, apartT, List.map, if_true, if_false, E_P, E_glob0, E_glob1, reduceCtorEq, beq_self_eq_true, decide_true, decide_false, ↓reduceIte, Nat.reduceEqDiff, cond_true, cond_false, or_true, true_or, or_false, false_or, and_true, true_and, and_self, false_and, and_false, not_true, not_false_iff, Nat.reduceAdd, Nat.reduceSub, Nat.reduceMul, Nat.reduceLT, Nat.reduceLeDiff, Int.reduceToNat, Int.reduceLT, Int.reduceLE, Option.getD, Int.reduceMul, Int.reduceAdd, List.drop, List.take, Nat.reduceBEq, List.isEmpty, Int.reduceEq, Int.reduceNe, Int.reduceNeg, Int.reduceGT, Int.reduceGE, beq_true, beq_false, UInt8.reduceToNat, eqE, eq_self, foldE, maxE, minE, eq_T, eq_F, ndec, odec, adec, sdec, fillA, over, chop, List.replicate, leavesOk, leafOk, cellsEq, cellEq, E_ext, E_byref, en12, bs22, bs24, hC, h0]
    exact ⟨_, rfl⟩
  · rw [if_pos h0]
    rw [h0] at hC
    have h5 := check_len h0
    have hnn : ((l.length : Int) + 1).toNat = l.length + 1 := by omega
    obtain ⟨fr0, e0, f1, f2, f3, f5⟩ := l12_0 l (l.length + 1) (by omega) 0 (Nat.zero_le _)
    rw [Nat.sub_zero, List.replicate_zero, List.nil_append] at e0
    have e0' : rl E 0 12 (loopAt Tryd.f12 0) [(1, .ptr 0 0 0 0), (2, .ptr 1 0 0 0), (3, .ptr 2 0 0 0), (5, .ptr 3 0 0 0), (21, .i (.v (.int .i64 ((l.length + 1 : Nat))))), (22, .i (.v (.int .i64 (0))))] [.box [.i (.sl 2 (rowsI l) false)], .box [.i (.sl 0 [] true)], .box [.i (.v (.int .i64 0))], .box [.ref 4 0 0 (l.length + 1)], .sl 1 0 ([.v (.int .i64 0)] :: rows64 (List.replicate l.length 0)) false] = _ := e0
    have hs : (List.replicate (l.length + 1) (-1 : Int)).set 0 0 = 0 :: List.replicate l.length (-1) := by rw [List.replicate_succ]; rfl
    have hrow : (rows64 (List.replicate (l.length + 1) (-1)))[0]? = some [.v (.int .i64 (-1))] := by rw [List.replicate_succ]; rfl
    obtain ⟨fr1, ex1, H1, e1, hh⟩ := l12_1 l h5 (l.length + 1) rfl (check_ok h0) 0 (Nat.zero_le _) (0 :: List.replicate l.length (-1)) (by simp) (fun x hx => by
      rcases List.mem_cons.1 hx with rfl | hx
      · omega
      · have := List.eq_of_mem_replicate hx; omega)
    rw [List.drop_zero] at hh
    have e1' : rl E 0 12 (loopAt Tryd.f12 1) [(1, .ptr 0 0 0 0), (2, .ptr 1 0 0 0), (3, .ptr 2 0 0 0), (5, .ptr 3 0 0 0), (31, .i (.sl 2 (rowsI l) false)), (32, .i (.v (.int .i64 l.length))), (33, .i (.v (.int .i64 (0))))] [.box [.i (.sl 2 (rowsI l) false)], .box [.i (.sl 0 [] true)], .box [.i (.v (.int .i64 0))], .box [.ref 4 0 0 ((l.length + 1 : Nat))], .sl 1 0 (rows64 (0 :: List.replicate l.length (-1))) false] = _ := e1
    rw [← hs] at e1'
    clear e0 e1
    cases hd : dRun l.length 0 l (0 :: List.replicate l.length (-1)) with
    | none =>
      rw [hd] at hh
      obtain ⟨rfl, g1, g2, g3, g4⟩ := hh
      simp only
      have hz : rows64 [] = [] := rfl
      rw [hz]
      generalize List.replicate (l.length + 1) (-1 : Int) = o1 at *
      clear hs
      rw [callT_eq Tryd.func12 rfl fok12 (by simp [Tryd.ntmps12])]
      simp (disch := first | omega | (simp only [List.length_append, List.length_map, List.length_set, List.length_cons, List.length_nil, List.length_take, List.length_drop, rowsI_len, rows64_len]; omega)) only [va0, va1, va2, va3, va4, va5, va6, va7, va8, va9, va10, va11, va12, va13, va14, va15, vb0, vb1, vb2, vb3, w_i8, w_u8, w_i16, w_u16, w_i32, w_u32, w_i64, w_u64, lt_T, lt_F, le_T, le_F, nlt_T, nlt_F, nle_T, nle_F, List.take_of_length_le, gB, gcW, gcR, posIn, renA, renL, Chunk.ren, Chunk.refs, evOpD, touchD, stepC, isFresh, nFresh, freshOf, mkR, hole, evL, evH, opd, get, putD, ofVal, cellOf, loadE, behind, lenE, idxAddrE, idxE, addPtr, intE, strE, unE, convE, AV.int, AV.bool, AV.str, ivs, take, frameOf, firstRegion, refsA, refsL, one, cellsA, floatOk, apartT, List.map, if_true, if_false, E_P, E_glob0, E_glob1, reduceCtorEq, beq_self_eq_true, decide_true, decide_false, ↓reduceIte, Nat.reduceEqDiff, cond_true, cond_false, or_true, true_or, or_false, false_or, and_true, true_and, and_self, false_and, and_false, not_true, not_false_iff, Nat.reduceAdd, Nat.reduceSub, Nat.reduceMul, Nat.reduceLT, Nat.reduceLeDiff, Int.reduceToNat, Int.reduceLT, Int.reduceLE, Option.getD, Int.reduceMul, Int.reduceAdd, List.drop, List.take, Nat.reduceBEq, List.isEmpty, Int.reduceEq, Int.reduceNe, Int.reduceNeg, Int.reduceGT, Int.reduceGE, beq_true, beq_false, UInt8.reduceToNat, eqE, eq_self, foldE, maxE, minE, eq_T, eq_F, ndec, odec, adec, sdec, fillA, over, chop, List.replicate, leavesOk, leafOk, cellsEq, cellEq, E_ext, E_byref, en12, bs22, bs24, hC, rowsI_len, rows64_len, rows64_rep, rows64_set, hnn, hrow, e0', f1, f2, f3, f5, e1', g1, g2, g3, g4, show ∀ B fr H, execT E B 12 (Code.loop _) fr H = rlG E B 12 (loopAt Tryd.f12 0) (gcn B (norm [1, 2, 3, 5, 21, 22] fr) H) from fun B fr H => rl_intro rfl mt12_6 mb12_6 zf12_6 hd12_6 fr H, show ∀ B fr H, execT E B 12 (Code.loop _) fr H = rlG E B 12 (loopAt Tryd.f12 1) (gcn B (norm [1, 2, 3, 5, 31, 32, 33] fr) H) from fun B fr H => rl_intro rfl mt12_12 mb12_12 zf12_12 hd12_12 fr H]
      exact ⟨_, rfl⟩
    | some out =>
      rw [hd] at hh
      obtain ⟨rfl, ho, rfl, g1, g2, g3, g5⟩ := hh
      simp only
      generalize List.replicate (l.length + 1) (-1 : Int) = o1 at *
      clear hs
      rw [callT_eq Tryd.func12 rfl fok12 (by simp [Tryd.ntmps12])]
      simp (disch := first | omega | (simp only [List.length_append, List.length_map, List.length_set, List.length_cons, List.length_nil, List.length_take, List.length_drop, rowsI_len, rows64_len]; omega)) only [va0, va1, va2, va3, va4, va5, va6, va7, va8, va9, va10, va11, va12, va13, va14, va15, vb0, vb1, vb2, vb3, w_i8, w_u8, w_i16, w_u16, w_i32, w_u32, w_i64, w_u64, lt_T, lt_F, le_T, le_F, nlt_T, nlt_F, nle_T, nle_F, List.take_of_length_le, gB, gcW, gcR, posIn, renA, renL, Chunk.ren, Chunk.refs, evOpD, touchD, stepC, isFresh, nFresh, freshOf, mkR, hole, evL, evH, opd, get, putD, ofVal, cellOf, loadE, behind, lenE, idxAddrE, idxE, addPtr, intE, strE, unE, convE, AV.int, AV.bool, AV.str, ivs, take, frameOf, firstRegion, refsA, refsL, one, cellsA, floatOk, apartT, List.map, if_true, if_false, E_P, E_glob0, E_glob1, reduceCtorEq, beq_self_eq_true, decide_true, decide_false, ↓reduceIte, Nat.reduceEqDiff, cond_true, cond_false, or_true, true_or, or_false, false_or, and_true, true_and, and_self, false_and, and_false, not_true, not_false_iff, Nat.reduceAdd, Nat.reduceSub, Nat.reduceMul, Nat.reduceLT, Nat.reduceLeDiff, Int.reduceToNat, Int.reduceLT, Int.reduceLE, Option.getD, Int.reduceMul, Int.reduceAdd, List.drop, List.take, Nat.reduceBEq, List.isEmpty, Int.reduceEq, Int.reduceNe, Int.reduceNeg, Int.reduceGT, Int.reduceGE, beq_true, beq_false, UInt8.reduceToNat, eqE, eq_self, foldE, maxE, minE, eq_T, eq_F, ndec, odec, adec, sdec, fillA, over, chop, List.replicate, leavesOk, leafOk, cellsEq, cellEq, E_ext, E_byref, en12, bs22, bs24, hC, rowsI_len, rows64_len, rows64_rep, rows64_set, rows64_take, hnn, hrow, e0', f1, f2, f3, f5, e1', g1, g2, g3, g5, show ∀ B fr H, execT E B 12 (Code.loop _) fr H = rlG E B 12 (loopAt Tryd.f12 0) (gcn B (norm [1, 2, 3, 5, 21, 22] fr) H) from fun B fr H => rl_intro rfl mt12_6 mb12_6 zf12_6 hd12_6 fr H, show ∀ B fr H, execT E B 12 (Code.loop _) fr H = rlG E B 12 (loopAt Tryd.f12 1) (gcn B (norm [1, 2, 3, 5, 31, 32, 33] fr) H) from fun B fr H => rl_intro rfl mt12_12 mb12_12 zf12_12 hd12_12 fr H]
      exact ⟨_, rfl⟩
theorem ik12 (l : List Ins) (hl : (l.length : Int) < 9223372036854775808) (H : Hp) : isoK E (callT E) 12 [.i (.sl 2 (rowsI l) false)] H = some (.tup [.i (.sl 1 (rows64 (depthsS l).1) false), .i (.v (.int .i64 (depthsS l).2))], H) := isoK_val rfl rfl rfl (c12 l hl)
end Go.VI

namespace Go.VI
open Go.Proofs
set_option maxRecDepth 100000
set_option linter.unusedSimpArgs false
set_option linter.unusedVariables false
set_option maxHeartbeats 4000000
theorem ran_true {f n : Nat} (h : (match call E n f [] [] with | some (.i (.v (.bool true)), _) => true | _ => false) = true) : ∃ L, callT E f [] [] = some (.i (.v (.bool true)), L) := by
  split at h
  · rename_i L hL; exact ⟨L, callT_of hL⟩
  · cases h
theorem ik11 (H : Hp) : isoK E (callT E) 11 [] H = some (.i (.v (.bool true)), H) := isoK_val rfl rfl rfl (ran_true (n := 200) (by kernel_rfl))
end Go.VI

namespace Go.VI
open Go.Proofs
set_option maxRecDepth 100000
set_option linter.unusedSimpArgs false
set_option linter.unusedVariables false
set_option maxHeartbeats 4000000
theorem getD_set_int (l : List Int) (i j : Nat) (x : Int) : (l.set i x).getD j 0 = if i = j ∧ i < l.length then x else l.getD j 0 := by
  simp only [List.getD_eq_getElem?_getD, List.getElem?_set]
  by_cases h : i = j
  · subst h
    by_cases hl : i < l.length
    · simp [hl]
    · simp [hl]
  · simp [h]
theorem getD_mem_b {l : List Int} {P : Int → Prop} (h0 : P 0) (h : ∀ x ∈ l, P x) (j : Nat) : P (l.getD j 0) := by
  rw [List.getD_eq_getElem?_getD]
  cases hh : l[j]? with
  | none => exact h0
  | some x => exact h x (List.mem_of_getElem? hh)
end Go.VI

namespace Go.VI
open Go.Proofs
set_option maxRecDepth 100000
set_option linter.unusedSimpArgs false
set_option linter.unusedVariables false
set_option maxHeartbeats 4000000
def walkF (l : List Ins) : Nat → Nat → Int → List Int
  | 0, _, _ => []
  | f + 1, i, q => if i < l.length then (i : Int) :: (if (l.getD i (0, 0)).1 = 0 then [] else if (l.getD i (0, 0)).1 = 17 then walkF l f (l.getD i (0, 0)).2.toNat q else if (l.getD i (0, 0)).1 = 18 then walkF l f (if q % 2 = 1 then (l.getD i (0, 0)).2.toNat else i + 1) (q / 2) else walkF l f (i + 1) q) else []
end Go.VI

namespace Go.VI
open Go.Proofs
set_option maxRecDepth 100000
set_option linter.unusedSimpArgs false
set_option linter.unusedVariables false
set_option maxHeartbeats 4000000
theorem dSet_keep {n after : Int} : ∀ (ks out out' : List Int), dSet n after ks out = some out' → (∀ x ∈ ks, 0 ≤ x) → ∀ j : Nat, (j : Int) < n → 0 ≤ out.getD j 0 → j < out.length → out'.getD j 0 = out.getD j 0
  | [], out, out', h, hk, j, hj, h0, hl => by simp only [dSet, Option.some.injEq] at h; rw [h]
  | k :: ks, out, out', h, hk, j, hj, h0, hl => by
    simp only [dSet] at h
    split at h
    · cases h
    · rename_i hc
      have hk0 := hk k (.head _)
      have hs : (out.set k.toNat after).getD j 0 = out.getD j 0 := by
        rw [getD_set_int]
        split
        · rename_i he
          obtain ⟨rfl, _⟩ := he
          by_cases hx : out.getD k.toNat 0 = after
          · exact hx.symm
          · exact absurd ⟨by omega, h0, hx⟩ hc
        · rfl
      rw [dSet_keep ks _ out' h (fun x hx => hk x (.tail _ hx)) j hj (by rw [hs]; exact h0) (by rw [List.length_set]; exact hl), hs]
theorem dSet_new {n after : Int} : ∀ (ks out out' : List Int), dSet n after ks out = some out' → (∀ x ∈ ks, 0 ≤ x) → ∀ j : Nat, (j : Int) ∉ ks → out'.getD j 0 = out.getD j 0
  | [], out, out', h, hk, j, hm => by simp only [dSet, Option.some.injEq] at h; rw [h]
  | k :: ks, out, out', h, hk, j, hm => by
    simp only [dSet] at h
    split at h
    · cases h
    · rename_i hc
      have hk0 := hk k (.head _)
      rw [dSet_new ks _ out' h (fun x hx => hk x (.tail _ hx)) j (fun hx => hm (.tail _ hx)), getD_set_int, if_neg]
      intro he
      exact hm (by rw [← he.1]; have : ((k.toNat : Nat) : Int) = k := by omega
                   rw [this]; exact .head _)
structure Good (l : List Ins) : Prop where
  ok : ∀ (j : Nat) (h : j < l.length), chk1 l.length j l[j] = 0
theorem good_of {l : List Ins} (h : checkI l = 0) : Good l := ⟨check_ok h⟩
theorem good_getD {l : List Ins} {j : Nat} (h : j < l.length) : l.getD j (0, 0) = l[j] := by rw [List.getD_eq_getElem?_getD, List.getElem?_eq_getElem h]; rfl
theorem good_suc {l : List Ins} (g : Good l) {j : Nat} (h : j < l.length) : (0 ≤ (l.getD j (0, 0)).1 ∧ (l.getD j (0, 0)).1 ≤ 20) ∧ ∀ x ∈ sucL (l.getD j (0, 0)).1 (l.getD j (0, 0)).2 j, (j : Int) < x ∧ x ≤ l.length := by
  rw [good_getD h]; exact sucL_in h (g.ok j h)
theorem dStep_keep {l : List Ins} (g : Good l) {k : Nat} (hk : k < l.length) {out out' : List Int} (h : dStep l.length k (l.getD k (0, 0)) out = some out') : ∀ j : Nat, j < l.length → 0 ≤ out.getD j 0 → j < out.length → out'.getD j 0 = out.getD j 0 := fun j hj h0 hl => by
  unfold dStep at h
  split at h
  · injection h with h; rw [h]
  split at h
  · cases h
  · exact dSet_keep _ _ _ h (fun x hx => by have := (good_suc g hk).2 x hx; omega) j (by omega) h0 hl
theorem dStep_len {n i : Nat} {p : Ins} {out out' : List Int} (h : dStep n i p out = some out') : out'.length = out.length := by
  unfold dStep at h
  split at h
  · injection h with h; rw [h]
  split at h
  · cases h
  · exact dSet_len _ _ _ h
theorem dRun_next {l : List Ins} {k : Nat} (hk : k < l.length) {out fin : List Int} (h : dRun l.length k (l.drop k) out = some fin) : ∃ out', dStep l.length k (l.getD k (0, 0)) out = some out' ∧ dRun l.length (k + 1) (l.drop (k + 1)) out' = some fin := by
  rw [List.drop_eq_getElem_cons hk, dRun, ← good_getD hk] at h
  cases hd : dStep l.length k (l.getD k (0, 0)) out with
  | none => rw [hd] at h; cases h
  | some out' => rw [hd] at h; exact ⟨out', rfl, h⟩
theorem dRun_to {l : List Ins} (g : Good l) {fin : List Int} (b : Nat) (hb : b ≤ l.length) (a : Nat) (ha : a ≤ b) (out : List Int) (hl : out.length = l.length + 1) (h : dRun l.length a (l.drop a) out = some fin) :
    ∃ out', dRun l.length b (l.drop b) out' = some fin ∧ out'.length = l.length + 1 ∧ ∀ j : Nat, j < l.length → 0 ≤ out.getD j 0 → out'.getD j 0 = out.getD j 0 := by
  by_cases hlt : a < b
  · obtain ⟨o1, h1, h2⟩ := dRun_next (by omega) h
    obtain ⟨o2, g1, g2, g3⟩ := dRun_to g b hb (a + 1) hlt o1 (by rw [dStep_len h1]; exact hl) h2
    refine ⟨o2, g1, g2, fun j hj h0 => ?_⟩
    have h3 := dStep_keep g (by omega) h1 j hj h0 (by omega)
    rw [g3 j hj (by rw [h3]; exact h0), h3]
  · obtain rfl : a = b := by omega
    exact ⟨out, h, hl, fun _ _ _ => rfl⟩
termination_by b - a
theorem dRun_fin {l : List Ins} (g : Good l) {fin : List Int} (a : Nat) (ha : a ≤ l.length) (out : List Int) (hl : out.length = l.length + 1) (h : dRun l.length a (l.drop a) out = some fin) : fin.length = l.length + 1 ∧ ∀ j : Nat, j < l.length → 0 ≤ out.getD j 0 → fin.getD j 0 = out.getD j 0 := by
  obtain ⟨o, g1, g2, g3⟩ := dRun_to g l.length (Nat.le_refl _) a ha out hl h
  rw [List.drop_length, dRun, Option.some.injEq] at g1
  subst g1
  exact ⟨g2, g3⟩
end Go.VI

namespace Go.VI
open Go.Proofs
set_option maxRecDepth 100000
set_option linter.unusedSimpArgs false
set_option linter.unusedVariables false
set_option maxHeartbeats 4000000
theorem getD_take (l : List Int) (n j : Nat) (h : j < n) : (l.take n).getD j 0 = l.getD j 0 := by
  rw [List.getD_eq_getElem?_getD, List.getD_eq_getElem?_getD, List.getElem?_take, if_pos h]
theorem depths_ok {l : List Ins} (h : (depthsS l).2 = 0) : ∃ fin, checkI l = 0 ∧ dRun l.length 0 l (0 :: List.replicate l.length (-1)) = some fin ∧ (depthsS l).1 = fin.take l.length ∧ fin.length = l.length + 1 := by
  unfold depthsS at h ⊢
  by_cases h0 : checkI l = 0
  · rw [if_pos h0] at h ⊢
    cases hd : dRun l.length 0 l (0 :: List.replicate l.length (-1)) with
    | none => rw [hd] at h; cases h
    | some fin =>
      refine ⟨fin, h0, rfl, rfl, ?_⟩
      exact (dRun_fin (good_of h0) 0 (Nat.zero_le _) (0 :: List.replicate l.length (-1)) (by simp) (by rw [List.drop_zero]; exact hd)).1
  · rw [if_neg h0] at h
    exact absurd h h0
structure Most (l : List Ins) (k : Nat) (out : List Int) : Prop where
  len : out.length = l.length + 1
  low : ∀ j : Nat, j < k → out.getD j 0 = 0
  end_ : 0 ≤ out.getD l.length 0
  ge : ∀ j : Nat, k ≤ j → j ≤ l.length → ∀ f q, ((walkF l f j q).length : Int) ≤ out.getD j 0
end Go.VI

namespace Go.VI
open Go.Proofs
set_option maxRecDepth 100000
set_option linter.unusedSimpArgs false
set_option linter.unusedVariables false
set_option maxHeartbeats 4000000
def jz : List Ins → Nat
  | [] => 0
  | p :: r => (if p.1 = 18 then 1 else 0) + jz r
def two (n : Nat) : Int := ((2 ^ n : Nat) : Int)
structure Hit (l : List Ins) (k : Nat) (out : List Int) : Prop where
  len : out.length = l.length + 1
  low : ∀ j : Nat, j < k → out.getD j 0 = 0
  at_ : ∀ j : Nat, k ≤ j → j ≤ l.length → ∃ q, 0 ≤ q ∧ q < two (jz (l.drop j)) ∧ ∀ f, l.length + 1 ≤ j + f → ((walkF l f j q).length : Int) = out.getD j 0
end Go.VI

namespace Go.VI
open Go.Proofs
set_option maxRecDepth 100000
set_option linter.unusedSimpArgs false
set_option linter.unusedVariables false
set_option maxHeartbeats 4000000
theorem getD_set_bool (l : List Bool) (i j : Nat) (x : Bool) : (l.set i x).getD j false = if i = j ∧ i < l.length then x else l.getD j false := by
  simp only [List.getD_eq_getElem?_getD, List.getElem?_set]
  by_cases h : i = j
  · subst h
    by_cases hl : i < l.length
    · simp [hl]
    · simp [hl]
  · simp [h]
end Go.VI

namespace Go.VI
open Go.Proofs
set_option maxRecDepth 100000
set_option linter.unusedSimpArgs false
set_option linter.unusedVariables false
set_option maxHeartbeats 4000000
def mA (c : Bool) (s : List Bool) : List AV := .i (.v (.bool c)) :: s.map fun b => .i (.v (.bool b))
theorem mA_len (c : Bool) (s : List Bool) : (mA c s).length = s.length + 1 := by simp [mA]
theorem mA_get {c : Bool} {s : List Bool} {k : Nat} (h : k < s.length) : (mA c s)[k + 1]? = some (.i (.v (.bool (s.getD k false)))) := by
  rw [List.getD_eq_getElem?_getD, List.getElem?_eq_getElem h]; simp [mA, h]
theorem mA_set (c : Bool) (s : List Bool) (k : Nat) (x : Bool) : (mA c s).set (k + 1) (.i (.v (.bool x))) = mA c (s.set k x) := by simp [mA, List.map_set]
theorem mA_put {c : Bool} {s : List Bool} {k : Nat} (h : k < s.length) (x : Bool) : List.take (1 + k) (mA c s) ++ [.i (.v (.bool x))] ++ List.drop (1 + k + 1) (mA c s) = mA c (s.set k x) := by
  rw [← mA_set, List.set_eq_take_append_cons_drop, if_pos (by rw [mA_len]; omega), Nat.add_comm 1 k]
  simp
theorem mA_cn (B : Nat) (H : Hp) (c : Bool) (s : List Bool) : cnL B H (mA c s) = mA c s := by
  have : ∀ s : List Bool, cnL B H (s.map fun b => .i (.v (.bool b))) = s.map fun b => .i (.v (.bool b)) := fun s => by
    induction s with
    | nil => rfl
    | cons b s ih => rw [List.map_cons, cnL, ih]; rfl
  rw [mA, cnL, this]; rfl
theorem mA_refs (c : Bool) (s : List Bool) : refsL (mA c s) = [] := by
  have : ∀ s : List Bool, refsL (s.map fun b => .i (.v (.bool b))) = [] := fun s => by
    induction s with
    | nil => rfl
    | cons b s ih => rw [List.map_cons, refsL, ih]; rfl
  rw [mA, refsL, this]; rfl
theorem mA_ren (ρ : Nat → Option Nat) (c : Bool) (s : List Bool) : renL ρ (mA c s) = mA c s := by
  have : ∀ s : List Bool, renL ρ (s.map fun b => .i (.v (.bool b))) = s.map fun b => .i (.v (.bool b)) := fun s => by
    induction s with
    | nil => rfl
    | cons b s ih => rw [List.map_cons, renL, ih]; rfl
  rw [mA, renL, this]; rfl
theorem mA_take {c : Bool} {s : List Bool} {n : Nat} (h : s.length + 1 ≤ n) : (mA c s).take n = mA c s := List.take_of_length_le (by rw [mA_len]; exact h)
def mI (c : Bool) (s : List Bool) : List IV := .v (.bool c) :: s.map fun b => .v (.bool b)
theorem mI_len (c : Bool) (s : List Bool) : (mI c s).length = s.length + 1 := by simp [mI]
theorem mI_ivs (c : Bool) (s : List Bool) : ivs (mI c s) = mA c s := by simp [mI, mA, ivs]
theorem mI_map (c : Bool) (s : List Bool) : List.map AV.i (mI c s) = mA c s := mI_ivs c s
theorem mA_frz (H : Hp) (c : Bool) (s : List Bool) : freezeAll H (mA c s) = some (mI c s, H) := by
  have : ∀ s : List Bool, freezeAll H (s.map fun b => .i (.v (.bool b))) = some (s.map fun b => .v (.bool b), H) := fun s => by
    induction s with
    | nil => rfl
    | cons b s ih => rw [List.map_cons, freezeAll, freeze]; simp only; rw [ih]; rfl
  rw [mA, freezeAll, freeze]; simp only; rw [this]; rfl
def clr : Nat → Nat → List Bool → List Bool
  | 0, _, s => s
  | r + 1, k, s => clr r (k + 1) (s.set k false)
theorem l27 (c : Bool) (z : List Bool) : ∀ (r k : Nat) (hk : k + r = 16) (s : List Bool) (hs : s.length = 16),
    ∃ fr, rl E 0 27 (loopAt Tryd.f27 0) [(3, .ptr 0 0 0 0), (6, .ptr 1 0 0 0), (8, .i (.v (.int .i64 k)))] [.box (mA c s), .box (mA false (z))] = some (.exit 1, fr, [.box (mA c (clr r k s)), .box (mA false (z))]) ∧ get 3 fr = .ptr 0 0 0 0 ∧ get 6 fr = .ptr 1 0 0 0
  | 0, k, hk, s, hs => by
    rw [rl_step (fn := Tryd.f27) (k := 0) rfl]
    obtain rfl : k = 16 := by omega
    rw [clr]
    simp (disch := first | omega | (simp only [List.length_append, List.length_map, List.length_set, List.length_cons, List.length_nil, List.length_take, List.length_drop]; omega)) only [va0, va1, va2, va3, va4, va5, va6, va7, va8, va9, va10, va11, va12, va13, va14, va15, vb0, vb1, vb2, vb3, w_i8, w_u8, w_i16, w_u16, w_i32, w_u32, w_i64, w_u64, lt_T, lt_F, le_T, le_F, nlt_T, nlt_F, nle_T, nle_F, List.take_of_length_le, gB, gcW, gcR, posIn, renA, renL, Chunk.ren, Chunk.refs, evOpD, touchD, stepC, isFresh, nFresh, freshOf, mkR, hole, evL, evH, opd, get, putD, ofVal, cellOf, loadE, behind, lenE, idxAddrE, idxE, addPtr, intE, strE, unE, convE, AV.int, AV.bool, AV.str, ivs, take, frameOf, firstRegion, refsA, refsL, one, cellsA, floatOk, apartT, List.map, if_true, if_false, E_P, E_glob0, E_glob1, reduceCtorEq, beq_self_eq_true, decide_true, decide_false, ↓reduceIte, Nat.reduceEqDiff, cond_true, cond_false, or_true, true_or, or_false, false_or, and_true, true_and, and_self, false_and, and_false, not_true, not_false_iff, Nat.reduceAdd, Nat.reduceSub, Nat.reduceMul, Nat.reduceLT, Nat.reduceLeDiff, Int.reduceToNat, Int.reduceLT, Int.reduceLE, Option.getD, Int.reduceMul, Int.reduceAdd, List.drop, List.take, Nat.reduceBEq, List.isEmpty, Int.reduceEq, Int.reduceNe, Int.reduceNeg, Int.reduceGT, Int.reduceGE, beq_true, beq_false, UInt8.reduceToNat, eqE, eq_self, foldE, maxE, minE, eq_T, eq_F, ndec, odec, adec, sdec, fillA, over, chop, List.replicate, leavesOk, leafOk, cellsEq, cellEq, E_ext, E_byref, en27, mA_len, mA_cn, mA_refs, mA_ren, show ∀ B fr H, execT E B 27 (Code.loop _) fr H = rlG E B 27 (loopAt Tryd.f27 0) (gcn B (norm [3, 6, 8] fr) H) from fun B fr H => rl_intro rfl mt27_15 mb27_15 zf27_15 hd27_15 fr H]
    exact ⟨_, rfl, rfl, rfl⟩
  | r + 1, k, hk, s, hs => by
    rw [rl_step (fn := Tryd.f27) (k := 0) rfl]
    rw [clr]
    obtain ⟨fr, e, hh⟩ := l27 c z r (k + 1) (by omega) (s.set k false) (by simpa using hs)
    refine ⟨fr, Eq.trans ?_ e, hh⟩
    clear e hh
    have hg := mA_get (c := c) (s := s) (k := k) (by omega)
    have hp := mA_put (c := c) (s := s) (k := k) (by omega) false
    simp (disch := first | omega | (simp only [List.length_append, List.length_map, List.length_set, List.length_cons, List.length_nil, List.length_take, List.length_drop, mA_len]; omega)) only [va0, va1, va2, va3, va4, va5, va6, va7, va8, va9, va10, va11, va12, va13, va14, va15, vb0, vb1, vb2, vb3, w_i8, w_u8, w_i16, w_u16, w_i32, w_u32, w_i64, w_u64, lt_T, lt_F, le_T, le_F, nlt_T, nlt_F, nle_T, nle_F, List.take_of_length_le, gB, gcW, gcR, posIn, renA, renL, Chunk.ren, Chunk.refs, evOpD, touchD, stepC, isFresh, nFresh, freshOf, mkR, hole, evL, evH, opd, get, putD, ofVal, cellOf, loadE, behind, lenE, idxAddrE, idxE, addPtr, intE, strE, unE, convE, AV.int, AV.bool, AV.str, ivs, take, frameOf, firstRegion, refsA, refsL, one, cellsA, floatOk, apartT, List.map, if_true, if_false, E_P, E_glob0, E_glob1, reduceCtorEq, beq_self_eq_true, decide_true, decide_false, ↓reduceIte, Nat.reduceEqDiff, cond_true, cond_false, or_true, true_or, or_false, false_or, and_true, true_and, and_self, false_and, and_false, not_true, not_false_iff, Nat.reduceAdd, Nat.reduceSub, Nat.reduceMul, Nat.reduceLT, Nat.reduceLeDiff, Int.reduceToNat, Int.reduceLT, Int.reduceLE, Option.getD, Int.reduceMul, Int.reduceAdd, List.drop, List.take, Nat.reduceBEq, List.isEmpty, Int.reduceEq, Int.reduceNe, Int.reduceNeg, Int.reduceGT, Int.reduceGE, beq_true, beq_false, UInt8.reduceToNat, eqE, eq_self, foldE, maxE, minE, eq_T, eq_F, ndec, odec, adec, sdec, fillA, over, chop, List.replicate, leavesOk, leafOk, cellsEq, cellEq, E_ext, E_byref, en27, hg, hp, mA_len, mA_cn, mA_refs, mA_ren, Nat.mul_one, show ∀ B fr H, execT E B 27 (Code.loop _) fr H = rlG E B 27 (loopAt Tryd.f27 0) (gcn B (norm [3, 6, 8] fr) H) from fun B fr H => rl_intro rfl mt27_15 mb27_15 zf27_15 hd27_15 fr H]
end Go.VI

namespace Go.VI
open Go.Proofs
set_option maxRecDepth 100000
set_option linter.unusedSimpArgs false
set_option linter.unusedVariables false
set_option maxHeartbeats 4000000
def aft1 (op d : Int) (c : Bool) (s : List Bool) : Bool × List Bool :=
  if 3 ≤ op ∧ op ≤ 5 then (c, s.set (d - popS op).toNat true)
  else if 8 ≤ op ∧ op ≤ 12 then (c, s.set (d - 1 - 1).toNat (s.getD (d - 1 - 1).toNat false || s.getD (d - 1).toNat false))
  else if op = 14 then (c, s.set d.toNat (s.getD (d - 1).toNat false))
  else if op = 16 then (c, (s.set (d - 1 - 1).toNat (s.getD (d - 1).toNat false)).set (d - 1).toNat (s.getD (d - 1 - 1).toNat false))
  else if op = 18 then (c || s.getD (d - 1).toNat false, s)
  else if op ≠ 13 ∧ pushS op = 1 then (c, s.set d.toNat false) else (c, s)
def aft (op d : Int) (c : Bool) (s : List Bool) : Bool × List Bool := ((aft1 op d c s).1, clr (16 - (d - popS op + pushS op).toNat) (d - popS op + pushS op).toNat (aft1 op d c s).2)
theorem aft1_len (op d : Int) (c : Bool) (s : List Bool) : (aft1 op d c s).2.length = s.length := by
  unfold aft1
  repeat' split
  all_goals simp
theorem clr_len : ∀ (r k : Nat) (s : List Bool), (clr r k s).length = s.length
  | 0, k, s => rfl
  | r + 1, k, s => by rw [clr, clr_len r, List.length_set]
theorem aft_len (op d : Int) (c : Bool) (s : List Bool) : (aft op d c s).2.length = s.length := by rw [aft, clr_len, aft1_len]
theorem pop_push (op : Int) (h0 : 0 ≤ op) (h1 : op ≤ 20) : (3 ≤ op ∧ op ≤ 5 → popS op ≤ 1 ∧ pushS op = 1) ∧ (8 ≤ op ∧ op ≤ 12 → popS op = 2) ∧ (op = 14 → popS op = 1 ∧ pushS op = 2) ∧ (op = 16 → popS op = 2) ∧ (op = 18 → popS op = 1) ∧ (op = 19 ∨ op = 20 → popS op = 1) ∧ (pushS op = 1 ∧ ¬ (3 ≤ op ∧ op ≤ 5) ∧ ¬ (8 ≤ op ∧ op ≤ 12) ∧ op ≠ 13 → popS op = 0) := by
  have h : op = 0 ∨ op = 1 ∨ op = 2 ∨ op = 3 ∨ op = 4 ∨ op = 5 ∨ op = 6 ∨ op = 7 ∨ op = 8 ∨ op = 9 ∨ op = 10 ∨ op = 11 ∨ op = 12 ∨ op = 13 ∨ op = 14 ∨ op = 15 ∨ op = 16 ∨ op = 17 ∨ op = 18 ∨ op = 19 ∨ op = 20 := by omega
  rcases h with h | h | h | h | h | h | h | h | h | h | h | h | h | h | h | h | h | h | h | h | h <;> subst h <;> decide
theorem mA_all (c : Bool) (s : List Bool) : (mA c s).all one = true := by simp [mA, one]
theorem mA_put0 (c x : Bool) (s : List Bool) : (AV.i (.v (.bool x))) :: List.drop 1 (mA c s) = mA x s := rfl
theorem mA_get0 (c : Bool) (s : List Bool) : (mA c s)[0]? = some (.i (.v (.bool c))) := rfl
theorem mA_get' {c : Bool} {s : List Bool} {k : Nat} (h : k < s.length) : (mA c s)[1 + k]? = some (.i (.v (.bool (s.getD k false)))) := by rw [Nat.add_comm]; exact mA_get h
theorem c27_1 (op d : Int) (h0 : 0 ≤ op) (h1 : op ≤ 20) (hp : popS op ≤ d) (hq : d - popS op + pushS op ≤ 16) (hd : d ≤ 16) (c : Bool) (s : List Bool) (hs : s.length = 16) (h3 : 3 ≤ op ∧ op ≤ 5) :
    ∃ L, callT E 27 [.agg (mA c s), .i (.v (.int .i64 op)), .i (.v (.int .i64 d))] [] = some (.agg (mA (aft op d c s).1 (aft op d c s).2), L) := by
  obtain ⟨b1, b2⟩ := (pop_push op h0 h1).1 h3
  have p1 := popS_r op
  have p2 := pushS_r op
  have hpo := pops_at h0 h1
  have hpu := pushes_at h0 h1
  have hal := aft_len op d c s
  have hal1 := aft1_len op d c s
  unfold aft at hal ⊢
  have ha : aft1 op d c s = (c, s.set (d - popS op).toNat true) := by unfold aft1; rw [if_pos h3]
  rw [ha] at hal1 hal ⊢
  simp only at hal1 hal ⊢
  clear ha
  generalize popS op = po at *
  generalize pushS op = pu at *
  obtain ⟨fr, e, f3, f6⟩ := l27 c (List.replicate 16 false) (16 - (d - po + pu).toNat) (d - po + pu).toNat (by omega) (s.set (d - po).toNat true) (by omega)
  have hc : (((d - po + pu).toNat : Nat) : Int) = d - po + pu := by omega
  rw [hc] at e
  have hput0 := mA_put (c := c) (s := s) (k := (d - po).toNat) (by first | omega | (simp only [List.length_set]; omega)) true
  generalize clr (16 - (d - po + pu).toNat) (d - po + pu).toNat (s.set (d - po).toNat true) = s3 at *
  generalize s.set (d - po).toNat true = s2 at *
  have e' : rl E 0 27 (loopAt Tryd.f27 0) [(3, .ptr 0 0 0 0), (6, .ptr 1 0 0 0), (8, .i (.v (.int .i64 (d - po + pu))))] [.box (mA c s2), .box [.i (.v (.bool false)), .i (.v (.bool false)), .i (.v (.bool false)), .i (.v (.bool false)), .i (.v (.bool false)), .i (.v (.bool false)), .i (.v (.bool false)), .i (.v (.bool false)), .i (.v (.bool false)), .i (.v (.bool false)), .i (.v (.bool false)), .i (.v (.bool false)), .i (.v (.bool false)), .i (.v (.bool false)), .i (.v (.bool false)), .i (.v (.bool false)), .i (.v (.bool false))]] = some (.exit 1, fr, [.box (mA c s3), .box [.i (.v (.bool false)), .i (.v (.bool false)), .i (.v (.bool false)), .i (.v (.bool false)), .i (.v (.bool false)), .i (.v (.bool false)), .i (.v (.bool false)), .i (.v (.bool false)), .i (.v (.bool false)), .i (.v (.bool false)), .i (.v (.bool false)), .i (.v (.bool false)), .i (.v (.bool false)), .i (.v (.bool false)), .i (.v (.bool false)), .i (.v (.bool false)), .i (.v (.bool false))]]) := e
  clear e
  have hs3 : s3.length = 16 := by omega
  have ht := mA_take (c := c) (s := s3) (n := 17) (by omega)
  rw [callT_eq Tryd.func27 rfl fok27 (by simp [Tryd.ntmps27])]
  simp (disch := first | omega | (simp only [List.length_append, List.length_map, List.length_set, List.length_cons, List.length_nil, List.length_take, List.length_drop, mA_len]; omega)) only [va0, va1, va2, va3, va4, va5, va6, va7, va8, va9, va10, va11, va12, va13, va14, va15, vb0, vb1, vb2, vb3, w_i8, w_u8, w_i16, w_u16, w_i32, w_u32, w_i64, w_u64, lt_T, lt_F, le_T, le_F, nlt_T, nlt_F, nle_T, nle_F, List.take_of_length_le, gB, gcW, gcR, posIn, renA, renL, Chunk.ren, Chunk.refs, evOpD, touchD, stepC, isFresh, nFresh, freshOf, mkR, hole, evL, evH, opd, get, putD, ofVal, cellOf, loadE, behind, lenE, idxAddrE, idxE, addPtr, intE, strE, unE, convE, AV.int, AV.bool, AV.str, ivs, take, frameOf, firstRegion, refsA, refsL, one, cellsA, floatOk, apartT, List.map, if_true, if_false, E_P, E_glob0, E_glob1, reduceCtorEq, beq_self_eq_true, decide_true, decide_false, ↓reduceIte, Nat.reduceEqDiff, cond_true, cond_false, or_true, true_or, or_false, false_or, and_true, true_and, and_self, false_and, and_false, not_true, not_false_iff, Nat.reduceAdd, Nat.reduceSub, Nat.reduceMul, Nat.reduceLT, Nat.reduceLeDiff, Int.reduceToNat, Int.reduceLT, Int.reduceLE, Option.getD, Int.reduceMul, Int.reduceAdd, List.drop, List.take, Nat.reduceBEq, List.isEmpty, Int.reduceEq, Int.reduceNe, Int.reduceNeg, Int.reduceGT, Int.reduceGE, beq_true, beq_false, UInt8.reduceToNat, eqE, eq_self, foldE, maxE, minE, eq_T, eq_F, ndec, odec, adec, sdec, fillA, over, chop, List.replicate, leavesOk, leafOk, cellsEq, cellEq, E_ext, E_byref, en27, h3.1, h3.2, hpo, hpu, hput0, e', f3, f6, ht, hs3, mA_len, mA_get0, mA_put0, mA_cn, mA_refs, mA_ren, mA_all, mA_frz, mI_ivs, mI_map, Nat.mul_one, Bool.true_or, Bool.false_or, show ∀ B fr H, execT E B 27 (Code.loop _) fr H = rlG E B 27 (loopAt Tryd.f27 0) (gcn B (norm [3, 6, 8] fr) H) from fun B fr H => rl_intro rfl mt27_15 mb27_15 zf27_15 hd27_15 fr H]
  exact ⟨_, rfl⟩
theorem c27_2 (op d : Int) (h0 : 0 ≤ op) (h1 : op ≤ 20) (hp : popS op ≤ d) (hq : d - popS op + pushS op ≤ 16) (hd : d ≤ 16) (c : Bool) (s : List Bool) (hs : s.length = 16) (h3 : 8 ≤ op ∧ op ≤ 12) :
    ∃ L, callT E 27 [.agg (mA c s), .i (.v (.int .i64 op)), .i (.v (.int .i64 d))] [] = some (.agg (mA (aft op d c s).1 (aft op d c s).2), L) := by
  have b1 := (pop_push op h0 h1).2.1 h3
  have p1 := popS_r op
  have p2 := pushS_r op
  have hpo := pops_at h0 h1
  have hpu := pushes_at h0 h1
  have hal := aft_len op d c s
  have hal1 := aft1_len op d c s
  unfold aft at hal ⊢
  have ha : aft1 op d c s = (c, s.set (d - 1 - 1).toNat (s.getD (d - 1 - 1).toNat false || s.getD (d - 1).toNat false)) := by unfold aft1; rw [if_neg (by omega), if_pos h3]
  rw [ha] at hal1 hal ⊢
  simp only at hal1 hal ⊢
  have hgx := mA_get' (c := c) (s := s) (k := (d - 1 - 1).toNat) (by omega)
  generalize s.getD (d - 1 - 1).toNat false = x at *
  have hgy := mA_get' (c := c) (s := s) (k := (d - 1).toNat) (by omega)
  generalize s.getD (d - 1).toNat false = y at *
  clear ha
  generalize popS op = po at *
  generalize pushS op = pu at *
  obtain ⟨fr, e, f3, f6⟩ := l27 c (List.replicate 16 false) (16 - (d - po + pu).toNat) (d - po + pu).toNat (by omega) (s.set (d - 1 - 1).toNat (x || y)) (by omega)
  have hc : (((d - po + pu).toNat : Nat) : Int) = d - po + pu := by omega
  rw [hc] at e
  have hput0 := mA_put (c := c) (s := s) (k := (d - 1 - 1).toNat) (by first | omega | (simp only [List.length_set]; omega)) (x || y)
  generalize clr (16 - (d - po + pu).toNat) (d - po + pu).toNat (s.set (d - 1 - 1).toNat (x || y)) = s3 at *
  generalize s.set (d - 1 - 1).toNat (x || y) = s2 at *
  have e' : rl E 0 27 (loopAt Tryd.f27 0) [(3, .ptr 0 0 0 0), (6, .ptr 1 0 0 0), (8, .i (.v (.int .i64 (d - po + pu))))] [.box (mA c s2), .box [.i (.v (.bool false)), .i (.v (.bool false)), .i (.v (.bool false)), .i (.v (.bool false)), .i (.v (.bool false)), .i (.v (.bool false)), .i (.v (.bool false)), .i (.v (.bool false)), .i (.v (.bool false)), .i (.v (.bool false)), .i (.v (.bool false)), .i (.v (.bool false)), .i (.v (.bool false)), .i (.v (.bool false)), .i (.v (.bool false)), .i (.v (.bool false)), .i (.v (.bool false))]] = some (.exit 1, fr, [.box (mA c s3), .box [.i (.v (.bool false)), .i (.v (.bool false)), .i (.v (.bool false)), .i (.v (.bool false)), .i (.v (.bool false)), .i (.v (.bool false)), .i (.v (.bool false)), .i (.v (.bool false)), .i (.v (.bool false)), .i (.v (.bool false)), .i (.v (.bool false)), .i (.v (.bool false)), .i (.v (.bool false)), .i (.v (.bool false)), .i (.v (.bool false)), .i (.v (.bool false)), .i (.v (.bool false))]]) := e
  clear e
  have hs3 : s3.length = 16 := by omega
  have ht := mA_take (c := c) (s := s3) (n := 17) (by omega)
  cases x
  · simp only [Bool.true_or, Bool.false_or] at hput0
    rw [callT_eq Tryd.func27 rfl fok27 (by simp [Tryd.ntmps27])]
    simp (disch := first | omega | (simp only [List.length_append, List.length_map, List.length_set, List.length_cons, List.length_nil, List.length_take, List.length_drop, mA_len]; omega)) only [va0, va1, va2, va3, va4, va5, va6, va7, va8, va9, va10, va11, va12, va13, va14, va15, vb0, vb1, vb2, vb3, w_i8, w_u8, w_i16, w_u16, w_i32, w_u32, w_i64, w_u64, lt_T, lt_F, le_T, le_F, nlt_T, nlt_F, nle_T, nle_F, List.take_of_length_le, gB, gcW, gcR, posIn, renA, renL, Chunk.ren, Chunk.refs, evOpD, touchD, stepC, isFresh, nFresh, freshOf, mkR, hole, evL, evH, opd, get, putD, ofVal, cellOf, loadE, behind, lenE, idxAddrE, idxE, addPtr, intE, strE, unE, convE, AV.int, AV.bool, AV.str, ivs, take, frameOf, firstRegion, refsA, refsL, one, cellsA, floatOk, apartT, List.map, if_true, if_false, E_P, E_glob0, E_glob1, reduceCtorEq, beq_self_eq_true, decide_true, decide_false, ↓reduceIte, Nat.reduceEqDiff, cond_true, cond_false, or_true, true_or, or_false, false_or, and_true, true_and, and_self, false_and, and_false, not_true, not_false_iff, Nat.reduceAdd, Nat.reduceSub, Nat.reduceMul, Nat.reduceLT, Nat.reduceLeDiff, Int.reduceToNat, Int.reduceLT, Int.reduceLE, Option.getD, Int.reduceMul, Int.reduceAdd, List.drop, List.take, Nat.reduceBEq, List.isEmpty, Int.reduceEq, Int.reduceNe, Int.reduceNeg, Int.reduceGT, Int.reduceGE, beq_true, beq_false, UInt8.reduceToNat, eqE, eq_self, foldE, maxE, minE, eq_T, eq_F, ndec, odec, adec, sdec, fillA, over, chop, List.replicate, leavesOk, leafOk, cellsEq, cellEq, E_ext, E_byref, en27, h3.1, h3.2, hpo, hpu, hput0, hgx, hgy, e', f3, f6, ht, hs3, mA_len, mA_get0, mA_put0, mA_cn, mA_refs, mA_ren, mA_all, mA_frz, mI_ivs, mI_map, Nat.mul_one, Bool.true_or, Bool.false_or, show ∀ B fr H, execT E B 27 (Code.loop _) fr H = rlG E B 27 (loopAt Tryd.f27 0) (gcn B (norm [3, 6, 8] fr) H) from fun B fr H => rl_intro rfl mt27_15 mb27_15 zf27_15 hd27_15 fr H]
    exact ⟨_, rfl⟩
  · simp only [Bool.true_or, Bool.false_or] at hput0
    rw [callT_eq Tryd.func27 rfl fok27 (by simp [Tryd.ntmps27])]
    simp (disch := first | omega | (simp only [List.length_append, List.length_map, List.length_set, List.length_cons, List.length_nil, List.length_take, List.length_drop, mA_len]; omega)) only [va0, va1, va2, va3, va4, va5, va6, va7, va8, va9, va10, va11, va12, va13, va14, va15, vb0, vb1, vb2, vb3, w_i8, w_u8, w_i16, w_u16, w_i32, w_u32, w_i64, w_u64, lt_T, lt_F, le_T, le_F, nlt_T, nlt_F, nle_T, nle_F, List.take_of_length_le, gB, gcW, gcR, posIn, renA, renL, Chunk.ren, Chunk.refs, evOpD, touchD, stepC, isFresh, nFresh, freshOf, mkR, hole, evL, evH, opd, get, putD, ofVal, cellOf, loadE, behind, lenE, idxAddrE, idxE, addPtr, intE, strE, unE, convE, AV.int, AV.bool, AV.str, ivs, take, frameOf, firstRegion, refsA, refsL, one, cellsA, floatOk, apartT, List.map, if_true, if_false, E_P, E_glob0, E_glob1, reduceCtorEq, beq_self_eq_true, decide_true, decide_false, ↓reduceIte, Nat.reduceEqDiff, cond_true, cond_false, or_true, true_or, or_false, false_or, and_true, true_and, and_self, false_and, and_false, not_true, not_false_iff, Nat.reduceAdd, Nat.reduceSub, Nat.reduceMul, Nat.reduceLT, Nat.reduceLeDiff, Int.reduceToNat, Int.reduceLT, Int.reduceLE, Option.getD, Int.reduceMul, Int.reduceAdd, List.drop, List.take, Nat.reduceBEq, List.isEmpty, Int.reduceEq, Int.reduceNe, Int.reduceNeg, Int.reduceGT, Int.reduceGE, beq_true, beq_false, UInt8.reduceToNat, eqE, eq_self, foldE, maxE, minE, eq_T, eq_F, ndec, odec, adec, sdec, fillA, over, chop, List.replicate, leavesOk, leafOk, cellsEq, cellEq, E_ext, E_byref, en27, h3.1, h3.2, hpo, hpu, hput0, hgx, hgy, e', f3, f6, ht, hs3, mA_len, mA_get0, mA_put0, mA_cn, mA_refs, mA_ren, mA_all, mA_frz, mI_ivs, mI_map, Nat.mul_one, Bool.true_or, Bool.false_or, show ∀ B fr H, execT E B 27 (Code.loop _) fr H = rlG E B 27 (loopAt Tryd.f27 0) (gcn B (norm [3, 6, 8] fr) H) from fun B fr H => rl_intro rfl mt27_15 mb27_15 zf27_15 hd27_15 fr H]
    exact ⟨_, rfl⟩
theorem c27_3 (op d : Int) (h0 : 0 ≤ op) (h1 : op ≤ 20) (hp : popS op ≤ d) (hq : d - popS op + pushS op ≤ 16) (hd : d ≤ 16) (c : Bool) (s : List Bool) (hs : s.length = 16) (h3 : op = 14) :
    ∃ L, callT E 27 [.agg (mA c s), .i (.v (.int .i64 op)), .i (.v (.int .i64 d))] [] = some (.agg (mA (aft op d c s).1 (aft op d c s).2), L) := by
  obtain ⟨b1, b2⟩ := (pop_push op h0 h1).2.2.1 h3
  have p1 := popS_r op
  have p2 := pushS_r op
  have hpo := pops_at h0 h1
  have hpu := pushes_at h0 h1
  have hal := aft_len op d c s
  have hal1 := aft1_len op d c s
  unfold aft at hal ⊢
  have ha : aft1 op d c s = (c, s.set d.toNat (s.getD (d - 1).toNat false)) := by unfold aft1; rw [if_neg (by omega), if_neg (by omega), if_pos h3]
  rw [ha] at hal1 hal ⊢
  simp only at hal1 hal ⊢
  have hgy := mA_get' (c := c) (s := s) (k := (d - 1).toNat) (by omega)
  generalize s.getD (d - 1).toNat false = y at *
  clear ha
  generalize popS op = po at *
  generalize pushS op = pu at *
  obtain ⟨fr, e, f3, f6⟩ := l27 c (List.replicate 16 false) (16 - (d - po + pu).toNat) (d - po + pu).toNat (by omega) (s.set d.toNat y) (by omega)
  have hc : (((d - po + pu).toNat : Nat) : Int) = d - po + pu := by omega
  rw [hc] at e
  have hput0 := mA_put (c := c) (s := s) (k := d.toNat) (by first | omega | (simp only [List.length_set]; omega)) y
  generalize clr (16 - (d - po + pu).toNat) (d - po + pu).toNat (s.set d.toNat y) = s3 at *
  generalize s.set d.toNat y = s2 at *
  have e' : rl E 0 27 (loopAt Tryd.f27 0) [(3, .ptr 0 0 0 0), (6, .ptr 1 0 0 0), (8, .i (.v (.int .i64 (d - po + pu))))] [.box (mA c s2), .box [.i (.v (.bool false)), .i (.v (.bool false)), .i (.v (.bool false)), .i (.v (.bool false)), .i (.v (.bool false)), .i (.v (.bool false)), .i (.v (.bool false)), .i (.v (.bool false)), .i (.v (.bool false)), .i (.v (.bool false)), .i (.v (.bool false)), .i (.v (.bool false)), .i (.v (.bool false)), .i (.v (.bool false)), .i (.v (.bool false)), .i (.v (.bool false)), .i (.v (.bool false))]] = some (.exit 1, fr, [.box (mA c s3), .box [.i (.v (.bool false)), .i (.v (.bool false)), .i (.v (.bool false)), .i (.v (.bool false)), .i (.v (.bool false)), .i (.v (.bool false)), .i (.v (.bool false)), .i (.v (.bool false)), .i (.v (.bool false)), .i (.v (.bool false)), .i (.v (.bool false)), .i (.v (.bool false)), .i (.v (.bool false)), .i (.v (.bool false)), .i (.v (.bool false)), .i (.v (.bool false)), .i (.v (.bool false))]]) := e
  clear e
  have hs3 : s3.length = 16 := by omega
  have ht := mA_take (c := c) (s := s3) (n := 17) (by omega)
  rw [callT_eq Tryd.func27 rfl fok27 (by simp [Tryd.ntmps27])]
  simp (disch := first | omega | (simp only [List.length_append, List.length_map, List.length_set, List.length_cons, List.length_nil, List.length_take, List.length_drop, mA_len]; omega)) only [va0, va1, va2, va3, va4, va5, va6, va7, va8, va9, va10, va11, va12, va13, va14, va15, vb0, vb1, vb2, vb3, w_i8, w_u8, w_i16, w_u16, w_i32, w_u32, w_i64, w_u64, lt_T, lt_F, le_T, le_F, nlt_T, nlt_F, nle_T, nle_F, List.take_of_length_le, gB, gcW, gcR, posIn, renA, renL, Chunk.ren, Chunk.refs, evOpD, touchD, stepC, isFresh, nFresh, freshOf, mkR, hole, evL, evH, opd, get, putD, ofVal, cellOf, loadE, behind, lenE, idxAddrE, idxE, addPtr, intE, strE, unE, convE, AV.int, AV.bool, AV.str, ivs, take, frameOf, firstRegion, refsA, refsL, one, cellsA, floatOk, apartT, List.map, if_true, if_false, E_P, E_glob0, E_glob1, reduceCtorEq, beq_self_eq_true, decide_true, decide_false, ↓reduceIte, Nat.reduceEqDiff, cond_true, cond_false, or_true, true_or, or_false, false_or, and_true, true_and, and_self, false_and, and_false, not_true, not_false_iff, Nat.reduceAdd, Nat.reduceSub, Nat.reduceMul, Nat.reduceLT, Nat.reduceLeDiff, Int.reduceToNat, Int.reduceLT, Int.reduceLE, Option.getD, Int.reduceMul, Int.reduceAdd, List.drop, List.take, Nat.reduceBEq, List.isEmpty, Int.reduceEq, Int.reduceNe, Int.reduceNeg, Int.reduceGT, Int.reduceGE, beq_true, beq_false, UInt8.reduceToNat, eqE, eq_self, foldE, maxE, minE, eq_T, eq_F, ndec, odec, adec, sdec, fillA, over, chop, List.replicate, leavesOk, leafOk, cellsEq, cellEq, E_ext, E_byref, en27, hd, hpo, hpu, hput0, hgy, e', f3, f6, ht, hs3, mA_len, mA_get0, mA_put0, mA_cn, mA_refs, mA_ren, mA_all, mA_frz, mI_ivs, mI_map, Nat.mul_one, Bool.true_or, Bool.false_or, show ∀ B fr H, execT E B 27 (Code.loop _) fr H = rlG E B 27 (loopAt Tryd.f27 0) (gcn B (norm [3, 6, 8] fr) H) from fun B fr H => rl_intro rfl mt27_15 mb27_15 zf27_15 hd27_15 fr H]
  exact ⟨_, rfl⟩
theorem c27_4 (op d : Int) (h0 : 0 ≤ op) (h1 : op ≤ 20) (hp : popS op ≤ d) (hq : d - popS op + pushS op ≤ 16) (hd : d ≤ 16) (c : Bool) (s : List Bool) (hs : s.length = 16) (h3 : op = 16) :
    ∃ L, callT E 27 [.agg (mA c s), .i (.v (.int .i64 op)), .i (.v (.int .i64 d))] [] = some (.agg (mA (aft op d c s).1 (aft op d c s).2), L) := by
  have b1 := (pop_push op h0 h1).2.2.2.1 h3
  have p1 := popS_r op
  have p2 := pushS_r op
  have hpo := pops_at h0 h1
  have hpu := pushes_at h0 h1
  have hal := aft_len op d c s
  have hal1 := aft1_len op d c s
  unfold aft at hal ⊢
  have ha : aft1 op d c s = (c, (s.set (d - 1 - 1).toNat (s.getD (d - 1).toNat false)).set (d - 1).toNat (s.getD (d - 1 - 1).toNat false)) := by unfold aft1; rw [if_neg (by omega), if_neg (by omega), if_neg (by omega), if_pos h3]
  rw [ha] at hal1 hal ⊢
  simp only at hal1 hal ⊢
  have hgx := mA_get' (c := c) (s := s) (k := (d - 1 - 1).toNat) (by omega)
  generalize s.getD (d - 1 - 1).toNat false = x at *
  have hgy := mA_get' (c := c) (s := s) (k := (d - 1).toNat) (by omega)
  generalize s.getD (d - 1).toNat false = y at *
  clear ha
  generalize popS op = po at *
  generalize pushS op = pu at *
  obtain ⟨fr, e, f3, f6⟩ := l27 c (List.replicate 16 false) (16 - (d - po + pu).toNat) (d - po + pu).toNat (by omega) ((s.set (d - 1 - 1).toNat y).set (d - 1).toNat x) (by omega)
  have hc : (((d - po + pu).toNat : Nat) : Int) = d - po + pu := by omega
  rw [hc] at e
  have hput0 := mA_put (c := c) (s := s) (k := (d - 1 - 1).toNat) (by first | omega | (simp only [List.length_set]; omega)) y
  have hput1 := mA_put (c := c) (s := (s.set (d - 1 - 1).toNat y)) (k := (d - 1).toNat) (by first | omega | (simp only [List.length_set]; omega)) x
  generalize clr (16 - (d - po + pu).toNat) (d - po + pu).toNat ((s.set (d - 1 - 1).toNat y).set (d - 1).toNat x) = s3 at *
  have e' : rl E 0 27 (loopAt Tryd.f27 0) [(3, .ptr 0 0 0 0), (6, .ptr 1 0 0 0), (8, .i (.v (.int .i64 (d - po + pu))))] [.box (mA c ((s.set (d - 1 - 1).toNat y).set (d - 1).toNat x)), .box [.i (.v (.bool false)), .i (.v (.bool false)), .i (.v (.bool false)), .i (.v (.bool false)), .i (.v (.bool false)), .i (.v (.bool false)), .i (.v (.bool false)), .i (.v (.bool false)), .i (.v (.bool false)), .i (.v (.bool false)), .i (.v (.bool false)), .i (.v (.bool false)), .i (.v (.bool false)), .i (.v (.bool false)), .i (.v (.bool false)), .i (.v (.bool false)), .i (.v (.bool false))]] = some (.exit 1, fr, [.box (mA c s3), .box [.i (.v (.bool false)), .i (.v (.bool false)), .i (.v (.bool false)), .i (.v (.bool false)), .i (.v (.bool false)), .i (.v (.bool false)), .i (.v (.bool false)), .i (.v (.bool false)), .i (.v (.bool false)), .i (.v (.bool false)), .i (.v (.bool false)), .i (.v (.bool false)), .i (.v (.bool false)), .i (.v (.bool false)), .i (.v (.bool false)), .i (.v (.bool false)), .i (.v (.bool false))]]) := e
  clear e
  have hs3 : s3.length = 16 := by omega
  have ht := mA_take (c := c) (s := s3) (n := 17) (by omega)
  rw [callT_eq Tryd.func27 rfl fok27 (by simp [Tryd.ntmps27])]
  simp (disch := first | omega | (simp only [List.length_append, List.length_map, List.length_set, List.length_cons, List.length_nil, List.length_take, List.length_drop, mA_len]; omega)) only [va0, va1, va2, va3, va4, va5, va6, va7, va8, va9, va10, va11, va12, va13, va14, va15, vb0, vb1, vb2, vb3, w_i8, w_u8, w_i16, w_u16, w_i32, w_u32, w_i64, w_u64, lt_T, lt_F, le_T, le_F, nlt_T, nlt_F, nle_T, nle_F, List.take_of_length_le, gB, gcW, gcR, posIn, renA, renL, Chunk.ren, Chunk.refs, evOpD, touchD, stepC, isFresh, nFresh, freshOf, mkR, hole, evL, evH, opd, get, putD, ofVal, cellOf, loadE, behind, lenE, idxAddrE, idxE, addPtr, intE, strE, unE, convE, AV.int, AV.bool, AV.str, ivs, take, frameOf, firstRegion, refsA, refsL, one, cellsA, floatOk, apartT, List.map, if_true, if_false, E_P, E_glob0, E_glob1, reduceCtorEq, beq_self_eq_true, decide_true, decide_false, ↓reduceIte, Nat.reduceEqDiff, cond_true, cond_false, or_true, true_or, or_false, false_or, and_true, true_and, and_self, false_and, and_false, not_true, not_false_iff, Nat.reduceAdd, Nat.reduceSub, Nat.reduceMul, Nat.reduceLT, Nat.reduceLeDiff, Int.reduceToNat, Int.reduceLT, Int.reduceLE, Option.getD, Int.reduceMul, Int.reduceAdd, List.drop, List.take, Nat.reduceBEq, List.isEmpty, Int.reduceEq, Int.reduceNe, Int.reduceNeg, Int.reduceGT, Int.reduceGE, beq_true, beq_false, UInt8.reduceToNat, eqE, eq_self, foldE, maxE, minE, eq_T, eq_F, ndec, odec, adec, sdec, fillA, over, chop, List.replicate, leavesOk, leafOk, cellsEq, cellEq, E_ext, E_byref, en27, hd, hpo, hpu, hput0, hput1, hgx, hgy, e', f3, f6, ht, hs3, mA_len, mA_get0, mA_put0, mA_cn, mA_refs, mA_ren, mA_all, mA_frz, mI_ivs, mI_map, Nat.mul_one, Bool.true_or, Bool.false_or, show ∀ B fr H, execT E B 27 (Code.loop _) fr H = rlG E B 27 (loopAt Tryd.f27 0) (gcn B (norm [3, 6, 8] fr) H) from fun B fr H => rl_intro rfl mt27_15 mb27_15 zf27_15 hd27_15 fr H]
  exact ⟨_, rfl⟩
theorem c27_5 (op d : Int) (h0 : 0 ≤ op) (h1 : op ≤ 20) (hp : popS op ≤ d) (hq : d - popS op + pushS op ≤ 16) (hd : d ≤ 16) (c : Bool) (s : List Bool) (hs : s.length = 16) (h3 : op = 18) :
    ∃ L, callT E 27 [.agg (mA c s), .i (.v (.int .i64 op)), .i (.v (.int .i64 d))] [] = some (.agg (mA (aft op d c s).1 (aft op d c s).2), L) := by
  have b1 := (pop_push op h0 h1).2.2.2.2.1 h3
  have p1 := popS_r op
  have p2 := pushS_r op
  have hpo := pops_at h0 h1
  have hpu := pushes_at h0 h1
  have hal := aft_len op d c s
  have hal1 := aft1_len op d c s
  unfold aft at hal ⊢
  have ha : aft1 op d c s = ((c || s.getD (d - 1).toNat false), s) := by unfold aft1; rw [if_neg (by omega), if_neg (by omega), if_neg (by omega), if_neg (by omega), if_pos h3]
  rw [ha] at hal1 hal ⊢
  simp only at hal1 hal ⊢
  have hgy := mA_get' (c := c) (s := s) (k := (d - 1).toNat) (by omega)
  generalize s.getD (d - 1).toNat false = y at *
  clear ha
  generalize popS op = po at *
  generalize pushS op = pu at *
  obtain ⟨fr, e, f3, f6⟩ := l27 (c || y) (List.replicate 16 false) (16 - (d - po + pu).toNat) (d - po + pu).toNat (by omega) (s) (by omega)
  have hc : (((d - po + pu).toNat : Nat) : Int) = d - po + pu := by omega
  rw [hc] at e
  generalize clr (16 - (d - po + pu).toNat) (d - po + pu).toNat s = s3 at *
  have e' : rl E 0 27 (loopAt Tryd.f27 0) [(3, .ptr 0 0 0 0), (6, .ptr 1 0 0 0), (8, .i (.v (.int .i64 (d - po + pu))))] [.box (mA (c || y) s), .box [.i (.v (.bool false)), .i (.v (.bool false)), .i (.v (.bool false)), .i (.v (.bool false)), .i (.v (.bool false)), .i (.v (.bool false)), .i (.v (.bool false)), .i (.v (.bool false)), .i (.v (.bool false)), .i (.v (.bool false)), .i (.v (.bool false)), .i (.v (.bool false)), .i (.v (.bool false)), .i (.v (.bool false)), .i (.v (.bool false)), .i (.v (.bool false)), .i (.v (.bool false))]] = some (.exit 1, fr, [.box (mA (c || y) s3), .box [.i (.v (.bool false)), .i (.v (.bool false)), .i (.v (.bool false)), .i (.v (.bool false)), .i (.v (.bool false)), .i (.v (.bool false)), .i (.v (.bool false)), .i (.v (.bool false)), .i (.v (.bool false)), .i (.v (.bool false)), .i (.v (.bool false)), .i (.v (.bool false)), .i (.v (.bool false)), .i (.v (.bool false)), .i (.v (.bool false)), .i (.v (.bool false)), .i (.v (.bool false))]]) := e
  clear e
  have hs3 : s3.length = 16 := by omega
  have ht := mA_take (c := (c || y)) (s := s3) (n := 17) (by omega)
  cases c
  · simp only [Bool.true_or, Bool.false_or] at e' ht ⊢
    rw [callT_eq Tryd.func27 rfl fok27 (by simp [Tryd.ntmps27])]
    simp (disch := first | omega | (simp only [List.length_append, List.length_map, List.length_set, List.length_cons, List.length_nil, List.length_take, List.length_drop, mA_len]; omega)) only [va0, va1, va2, va3, va4, va5, va6, va7, va8, va9, va10, va11, va12, va13, va14, va15, vb0, vb1, vb2, vb3, w_i8, w_u8, w_i16, w_u16, w_i32, w_u32, w_i64, w_u64, lt_T, lt_F, le_T, le_F, nlt_T, nlt_F, nle_T, nle_F, List.take_of_length_le, gB, gcW, gcR, posIn, renA, renL, Chunk.ren, Chunk.refs, evOpD, touchD, stepC, isFresh, nFresh, freshOf, mkR, hole, evL, evH, opd, get, putD, ofVal, cellOf, loadE, behind, lenE, idxAddrE, idxE, addPtr, intE, strE, unE, convE, AV.int, AV.bool, AV.str, ivs, take, frameOf, firstRegion, refsA, refsL, one, cellsA, floatOk, apartT, List.map, if_true, if_false, E_P, E_glob0, E_glob1, reduceCtorEq, beq_self_eq_true, decide_true, decide_false, ↓reduceIte, Nat.reduceEqDiff, cond_true, cond_false, or_true, true_or, or_false, false_or, and_true, true_and, and_self, false_and, and_false, not_true, not_false_iff, Nat.reduceAdd, Nat.reduceSub, Nat.reduceMul, Nat.reduceLT, Nat.reduceLeDiff, Int.reduceToNat, Int.reduceLT, Int.reduceLE, Option.getD, Int.reduceMul, Int.reduceAdd, List.drop, List.take, Nat.reduceBEq, List.isEmpty, Int.reduceEq, Int.reduceNe, Int.reduceNeg, Int.reduceGT, Int.reduceGE, beq_true, beq_false, UInt8.reduceToNat, eqE, eq_self, foldE, maxE, minE, eq_T, eq_F, ndec, odec, adec, sdec, fillA, over, chop, List.replicate, leavesOk, leafOk, cellsEq, cellEq, E_ext, E_byref, en27, hd, hpo, hpu, hgy, e', f3, f6, ht, hs3, mA_len, mA_get0, mA_put0, mA_cn, mA_refs, mA_ren, mA_all, mA_frz, mI_ivs, mI_map, Nat.mul_one, Bool.true_or, Bool.false_or, show ∀ B fr H, execT E B 27 (Code.loop _) fr H = rlG E B 27 (loopAt Tryd.f27 0) (gcn B (norm [3, 6, 8] fr) H) from fun B fr H => rl_intro rfl mt27_15 mb27_15 zf27_15 hd27_15 fr H]
    exact ⟨_, rfl⟩
  · simp only [Bool.true_or, Bool.false_or] at e' ht ⊢
    rw [callT_eq Tryd.func27 rfl fok27 (by simp [Tryd.ntmps27])]
    simp (disch := first | omega | (simp only [List.length_append, List.length_map, List.length_set, List.length_cons, List.length_nil, List.length_take, List.length_drop, mA_len]; omega)) only [va0, va1, va2, va3, va4, va5, va6, va7, va8, va9, va10, va11, va12, va13, va14, va15, vb0, vb1, vb2, vb3, w_i8, w_u8, w_i16, w_u16, w_i32, w_u32, w_i64, w_u64, lt_T, lt_F, le_T, le_F, nlt_T, nlt_F, nle_T, nle_F, List.take_of_length_le, gB, gcW, gcR, posIn, renA, renL, Chunk.ren, Chunk.refs, evOpD, touchD, stepC, isFresh, nFresh, freshOf, mkR, hole, evL, evH, opd, get, putD, ofVal, cellOf, loadE, behind, lenE, idxAddrE, idxE, addPtr, intE, strE, unE, convE, AV.int, AV.bool, AV.str, ivs, take, frameOf, firstRegion, refsA, refsL, one, cellsA, floatOk, apartT, List.map, if_true, if_false, E_P, E_glob0, E_glob1, reduceCtorEq, beq_self_eq_true, decide_true, decide_false, ↓reduceIte, Nat.reduceEqDiff, cond_true, cond_false, or_true, true_or, or_false, false_or, and_true, true_and, and_self, false_and, and_false, not_true, not_false_iff, Nat.reduceAdd, Nat.reduceSub, Nat.reduceMul, Nat.reduceLT, Nat.reduceLeDiff, Int.reduceToNat, Int.reduceLT, Int.reduceLE, Option.getD, Int.reduceMul, Int.reduceAdd, List.drop, List.take, Nat.reduceBEq, List.isEmpty, Int.reduceEq, Int.reduceNe, Int.reduceNeg, Int.reduceGT, Int.reduceGE, beq_true, beq_false, UInt8.reduceToNat, eqE, eq_self, foldE, maxE, minE, eq_T, eq_F, ndec, odec, adec, sdec, fillA, over, chop, List.replicate, leavesOk, leafOk, cellsEq, cellEq, E_ext, E_byref, en27, hd, hpo, hpu, hgy, e', f3, f6, ht, hs3, mA_len, mA_get0, mA_put0, mA_cn, mA_refs, mA_ren, mA_all, mA_frz, mI_ivs, mI_map, Nat.mul_one, Bool.true_or, Bool.false_or, show ∀ B fr H, execT E B 27 (Code.loop _) fr H = rlG E B 27 (loopAt Tryd.f27 0) (gcn B (norm [3, 6, 8] fr) H) from fun B fr H => rl_intro rfl mt27_15 mb27_15 zf27_15 hd27_15 fr H]
    exact ⟨_, rfl⟩
theorem c27_6 (op d : Int) (h0 : 0 ≤ op) (h1 : op ≤ 20) (hp : popS op ≤ d) (hq : d - popS op + pushS op ≤ 16) (hd : d ≤ 16) (c : Bool) (s : List Bool) (hs : s.length = 16) (h3 : op < 3 ∨ 5 < op ∧ op < 8) (h4 : pushS op = 1) :
    ∃ L, callT E 27 [.agg (mA c s), .i (.v (.int .i64 op)), .i (.v (.int .i64 d))] [] = some (.agg (mA (aft op d c s).1 (aft op d c s).2), L) := by
  have b1 := (pop_push op h0 h1).2.2.2.2.2.2 ⟨h4, by omega, by omega, by omega⟩
  have p1 := popS_r op
  have p2 := pushS_r op
  have hpo := pops_at h0 h1
  have hpu := pushes_at h0 h1
  have hal := aft_len op d c s
  have hal1 := aft1_len op d c s
  unfold aft at hal ⊢
  have ha : aft1 op d c s = (c, s.set d.toNat false) := by unfold aft1; rw [if_neg (by omega), if_neg (by omega), if_neg (by omega), if_neg (by omega), if_neg (by omega), if_pos ⟨by omega, h4⟩]
  rw [ha] at hal1 hal ⊢
  simp only at hal1 hal ⊢
  clear ha
  generalize popS op = po at *
  generalize pushS op = pu at *
  obtain ⟨fr, e, f3, f6⟩ := l27 c (List.replicate 16 false) (16 - (d - po + pu).toNat) (d - po + pu).toNat (by omega) (s.set d.toNat false) (by omega)
  have hc : (((d - po + pu).toNat : Nat) : Int) = d - po + pu := by omega
  rw [hc] at e
  have hput0 := mA_put (c := c) (s := s) (k := d.toNat) (by first | omega | (simp only [List.length_set]; omega)) false
  generalize clr (16 - (d - po + pu).toNat) (d - po + pu).toNat (s.set d.toNat false) = s3 at *
  generalize s.set d.toNat false = s2 at *
  have e' : rl E 0 27 (loopAt Tryd.f27 0) [(3, .ptr 0 0 0 0), (6, .ptr 1 0 0 0), (8, .i (.v (.int .i64 (d - po + pu))))] [.box (mA c s2), .box [.i (.v (.bool false)), .i (.v (.bool false)), .i (.v (.bool false)), .i (.v (.bool false)), .i (.v (.bool false)), .i (.v (.bool false)), .i (.v (.bool false)), .i (.v (.bool false)), .i (.v (.bool false)), .i (.v (.bool false)), .i (.v (.bool false)), .i (.v (.bool false)), .i (.v (.bool false)), .i (.v (.bool false)), .i (.v (.bool false)), .i (.v (.bool false)), .i (.v (.bool false))]] = some (.exit 1, fr, [.box (mA c s3), .box [.i (.v (.bool false)), .i (.v (.bool false)), .i (.v (.bool false)), .i (.v (.bool false)), .i (.v (.bool false)), .i (.v (.bool false)), .i (.v (.bool false)), .i (.v (.bool false)), .i (.v (.bool false)), .i (.v (.bool false)), .i (.v (.bool false)), .i (.v (.bool false)), .i (.v (.bool false)), .i (.v (.bool false)), .i (.v (.bool false)), .i (.v (.bool false)), .i (.v (.bool false))]]) := e
  clear e
  have hs3 : s3.length = 16 := by omega
  have ht := mA_take (c := c) (s := s3) (n := 17) (by omega)
  rcases h3 with h3 | h3
  · have h5 : ¬ 3 ≤ op := by omega
    rw [callT_eq Tryd.func27 rfl fok27 (by simp [Tryd.ntmps27])]
    simp (disch := first | omega | (simp only [List.length_append, List.length_map, List.length_set, List.length_cons, List.length_nil, List.length_take, List.length_drop, mA_len]; omega)) only [va0, va1, va2, va3, va4, va5, va6, va7, va8, va9, va10, va11, va12, va13, va14, va15, vb0, vb1, vb2, vb3, w_i8, w_u8, w_i16, w_u16, w_i32, w_u32, w_i64, w_u64, lt_T, lt_F, le_T, le_F, nlt_T, nlt_F, nle_T, nle_F, List.take_of_length_le, gB, gcW, gcR, posIn, renA, renL, Chunk.ren, Chunk.refs, evOpD, touchD, stepC, isFresh, nFresh, freshOf, mkR, hole, evL, evH, opd, get, putD, ofVal, cellOf, loadE, behind, lenE, idxAddrE, idxE, addPtr, intE, strE, unE, convE, AV.int, AV.bool, AV.str, ivs, take, frameOf, firstRegion, refsA, refsL, one, cellsA, floatOk, apartT, List.map, if_true, if_false, E_P, E_glob0, E_glob1, reduceCtorEq, beq_self_eq_true, decide_true, decide_false, ↓reduceIte, Nat.reduceEqDiff, cond_true, cond_false, or_true, true_or, or_false, false_or, and_true, true_and, and_self, false_and, and_false, not_true, not_false_iff, Nat.reduceAdd, Nat.reduceSub, Nat.reduceMul, Nat.reduceLT, Nat.reduceLeDiff, Int.reduceToNat, Int.reduceLT, Int.reduceLE, Option.getD, Int.reduceMul, Int.reduceAdd, List.drop, List.take, Nat.reduceBEq, List.isEmpty, Int.reduceEq, Int.reduceNe, Int.reduceNeg, Int.reduceGT, Int.reduceGE, beq_true, beq_false, UInt8.reduceToNat, eqE, eq_self, foldE, maxE, minE, eq_T, eq_F, ndec, odec, adec, sdec, fillA, over, chop, List.replicate, leavesOk, leafOk, cellsEq, cellEq, E_ext, E_byref, en27, h5, hpo, hpu, hput0, e', f3, f6, ht, hs3, mA_len, mA_get0, mA_put0, mA_cn, mA_refs, mA_ren, mA_all, mA_frz, mI_ivs, mI_map, Nat.mul_one, Bool.true_or, Bool.false_or, show ∀ B fr H, execT E B 27 (Code.loop _) fr H = rlG E B 27 (loopAt Tryd.f27 0) (gcn B (norm [3, 6, 8] fr) H) from fun B fr H => rl_intro rfl mt27_15 mb27_15 zf27_15 hd27_15 fr H]
    exact ⟨_, rfl⟩
  · have h5 : 3 ≤ op := by omega
    rw [callT_eq Tryd.func27 rfl fok27 (by simp [Tryd.ntmps27])]
    simp (disch := first | omega | (simp only [List.length_append, List.length_map, List.length_set, List.length_cons, List.length_nil, List.length_take, List.length_drop, mA_len]; omega)) only [va0, va1, va2, va3, va4, va5, va6, va7, va8, va9, va10, va11, va12, va13, va14, va15, vb0, vb1, vb2, vb3, w_i8, w_u8, w_i16, w_u16, w_i32, w_u32, w_i64, w_u64, lt_T, lt_F, le_T, le_F, nlt_T, nlt_F, nle_T, nle_F, List.take_of_length_le, gB, gcW, gcR, posIn, renA, renL, Chunk.ren, Chunk.refs, evOpD, touchD, stepC, isFresh, nFresh, freshOf, mkR, hole, evL, evH, opd, get, putD, ofVal, cellOf, loadE, behind, lenE, idxAddrE, idxE, addPtr, intE, strE, unE, convE, AV.int, AV.bool, AV.str, ivs, take, frameOf, firstRegion, refsA, refsL, one, cellsA, floatOk, apartT, List.map, if_true, if_false, E_P, E_glob0, E_glob1, reduceCtorEq, beq_self_eq_true, decide_true, decide_false, ↓reduceIte, Nat.reduceEqDiff, cond_true, cond_false, or_true, true_or, or_false, false_or, and_true, true_and, and_self, false_and, and_false, not_true, not_false_iff, Nat.reduceAdd, Nat.reduceSub, Nat.reduceMul, Nat.reduceLT, Nat.reduceLeDiff, Int.reduceToNat, Int.reduceLT, Int.reduceLE, Option.getD, Int.reduceMul, Int.reduceAdd, List.drop, List.take, Nat.reduceBEq, List.isEmpty, Int.reduceEq, Int.reduceNe, Int.reduceNeg, Int.reduceGT, Int.reduceGE, beq_true, beq_false, UInt8.reduceToNat, eqE, eq_self, foldE, maxE, minE, eq_T, eq_F, ndec, odec, adec, sdec, fillA, over, chop, List.replicate, leavesOk, leafOk, cellsEq, cellEq, E_ext, E_byref, en27, h5, h3.1, h3.2, hpo, hpu, hput0, e', f3, f6, ht, hs3, mA_len, mA_get0, mA_put0, mA_cn, mA_refs, mA_ren, mA_all, mA_frz, mI_ivs, mI_map, Nat.mul_one, Bool.true_or, Bool.false_or, show ∀ B fr H, execT E B 27 (Code.loop _) fr H = rlG E B 27 (loopAt Tryd.f27 0) (gcn B (norm [3, 6, 8] fr) H) from fun B fr H => rl_intro rfl mt27_15 mb27_15 zf27_15 hd27_15 fr H]
    exact ⟨_, rfl⟩
theorem c27_7 (op d : Int) (h0 : 0 ≤ op) (h1 : op ≤ 20) (hp : popS op ≤ d) (hq : d - popS op + pushS op ≤ 16) (hd : d ≤ 16) (c : Bool) (s : List Bool) (hs : s.length = 16) (h3 : op < 3 ∨ 12 < op ∧ op ≠ 14 ∧ op ≠ 16 ∧ op ≠ 18) (h4 : op = 13 ∨ pushS op ≠ 1) :
    ∃ L, callT E 27 [.agg (mA c s), .i (.v (.int .i64 op)), .i (.v (.int .i64 d))] [] = some (.agg (mA (aft op d c s).1 (aft op d c s).2), L) := by
  have p1 := popS_r op
  have p2 := pushS_r op
  have hpo := pops_at h0 h1
  have hpu := pushes_at h0 h1
  have hal := aft_len op d c s
  have hal1 := aft1_len op d c s
  unfold aft at hal ⊢
  have ha : aft1 op d c s = (c, s) := by unfold aft1; rw [if_neg (by omega), if_neg (by omega), if_neg (by omega), if_neg (by omega), if_neg (by omega), if_neg (by omega)]
  rw [ha] at hal1 hal ⊢
  simp only at hal1 hal ⊢
  clear ha
  generalize popS op = po at *
  generalize pushS op = pu at *
  obtain ⟨fr, e, f3, f6⟩ := l27 c (List.replicate 16 false) (16 - (d - po + pu).toNat) (d - po + pu).toNat (by omega) (s) (by omega)
  have hc : (((d - po + pu).toNat : Nat) : Int) = d - po + pu := by omega
  rw [hc] at e
  generalize clr (16 - (d - po + pu).toNat) (d - po + pu).toNat s = s3 at *
  have e' : rl E 0 27 (loopAt Tryd.f27 0) [(3, .ptr 0 0 0 0), (6, .ptr 1 0 0 0), (8, .i (.v (.int .i64 (d - po + pu))))] [.box (mA c s), .box [.i (.v (.bool false)), .i (.v (.bool false)), .i (.v (.bool false)), .i (.v (.bool false)), .i (.v (.bool false)), .i (.v (.bool false)), .i (.v (.bool false)), .i (.v (.bool false)), .i (.v (.bool false)), .i (.v (.bool false)), .i (.v (.bool false)), .i (.v (.bool false)), .i (.v (.bool false)), .i (.v (.bool false)), .i (.v (.bool false)), .i (.v (.bool false)), .i (.v (.bool false))]] = some (.exit 1, fr, [.box (mA c s3), .box [.i (.v (.bool false)), .i (.v (.bool false)), .i (.v (.bool false)), .i (.v (.bool false)), .i (.v (.bool false)), .i (.v (.bool false)), .i (.v (.bool false)), .i (.v (.bool false)), .i (.v (.bool false)), .i (.v (.bool false)), .i (.v (.bool false)), .i (.v (.bool false)), .i (.v (.bool false)), .i (.v (.bool false)), .i (.v (.bool false)), .i (.v (.bool false)), .i (.v (.bool false))]]) := e
  clear e
  have hs3 : s3.length = 16 := by omega
  have ht := mA_take (c := c) (s := s3) (n := 17) (by omega)
  rcases h3 with h3 | h3
  · have h5 : ¬ 3 ≤ op := by omega
    have h6 := h4.resolve_left (by omega)
    rw [callT_eq Tryd.func27 rfl fok27 (by simp [Tryd.ntmps27])]
    simp (disch := first | omega | (simp only [List.length_append, List.length_map, List.length_set, List.length_cons, List.length_nil, List.length_take, List.length_drop, mA_len]; omega)) only [va0, va1, va2, va3, va4, va5, va6, va7, va8, va9, va10, va11, va12, va13, va14, va15, vb0, vb1, vb2, vb3, w_i8, w_u8, w_i16, w_u16, w_i32, w_u32, w_i64, w_u64, lt_T, lt_F, le_T, le_F, nlt_T, nlt_F, nle_T, nle_F, List.take_of_length_le, gB, gcW, gcR, posIn, renA, renL, Chunk.ren, Chunk.refs, evOpD, touchD, stepC, isFresh, nFresh, freshOf, mkR, hole, evL, evH, opd, get, putD, ofVal, cellOf, loadE, behind, lenE, idxAddrE, idxE, addPtr, intE, strE, unE, convE, AV.int, AV.bool, AV.str, ivs, take, frameOf, firstRegion, refsA, refsL, one, cellsA, floatOk, apartT, List.map, if_true, if_false, E_P, E_glob0, E_glob1, reduceCtorEq, beq_self_eq_true, decide_true, decide_false, ↓reduceIte, Nat.reduceEqDiff, cond_true, cond_false, or_true, true_or, or_false, false_or, and_true, true_and, and_self, false_and, and_false, not_true, not_false_iff, Nat.reduceAdd, Nat.reduceSub, Nat.reduceMul, Nat.reduceLT, Nat.reduceLeDiff, Int.reduceToNat, Int.reduceLT, Int.reduceLE, Option.getD, Int.reduceMul, Int.reduceAdd, List.drop, List.take, Nat.reduceBEq, List.isEmpty, Int.reduceEq, Int.reduceNe, Int.reduceNeg, Int.reduceGT, Int.reduceGE, beq_true, beq_false, UInt8.reduceToNat, eqE, eq_self, foldE, maxE, minE, eq_T, eq_F, ndec, odec, adec, sdec, fillA, over, chop, List.replicate, leavesOk, leafOk, cellsEq, cellEq, E_ext, E_byref, en27, h6, h5, hpo, hpu, e', f3, f6, ht, hs3, mA_len, mA_get0, mA_put0, mA_cn, mA_refs, mA_ren, mA_all, mA_frz, mI_ivs, mI_map, Nat.mul_one, Bool.true_or, Bool.false_or, show ∀ B fr H, execT E B 27 (Code.loop _) fr H = rlG E B 27 (loopAt Tryd.f27 0) (gcn B (norm [3, 6, 8] fr) H) from fun B fr H => rl_intro rfl mt27_15 mb27_15 zf27_15 hd27_15 fr H]
    exact ⟨_, rfl⟩
  · obtain ⟨h5, h6, h7, h8⟩ := h3
    by_cases h9 : op = 13
    · have h10 : 3 ≤ op := by omega
      rw [callT_eq Tryd.func27 rfl fok27 (by simp [Tryd.ntmps27])]
      simp (disch := first | omega | (simp only [List.length_append, List.length_map, List.length_set, List.length_cons, List.length_nil, List.length_take, List.length_drop, mA_len]; omega)) only [va0, va1, va2, va3, va4, va5, va6, va7, va8, va9, va10, va11, va12, va13, va14, va15, vb0, vb1, vb2, vb3, w_i8, w_u8, w_i16, w_u16, w_i32, w_u32, w_i64, w_u64, lt_T, lt_F, le_T, le_F, nlt_T, nlt_F, nle_T, nle_F, List.take_of_length_le, gB, gcW, gcR, posIn, renA, renL, Chunk.ren, Chunk.refs, evOpD, touchD, stepC, isFresh, nFresh, freshOf, mkR, hole, evL, evH, opd, get, putD, ofVal, cellOf, loadE, behind, lenE, idxAddrE, idxE, addPtr, intE, strE, unE, convE, AV.int, AV.bool, AV.str, ivs, take, frameOf, firstRegion, refsA, refsL, one, cellsA, floatOk, apartT, List.map, if_true, if_false, E_P, E_glob0, E_glob1, reduceCtorEq, beq_self_eq_true, decide_true, decide_false, ↓reduceIte, Nat.reduceEqDiff, cond_true, cond_false, or_true, true_or, or_false, false_or, and_true, true_and, and_self, false_and, and_false, not_true, not_false_iff, Nat.reduceAdd, Nat.reduceSub, Nat.reduceMul, Nat.reduceLT, Nat.reduceLeDiff, Int.reduceToNat, Int.reduceLT, Int.reduceLE, Option.getD, Int.reduceMul, Int.reduceAdd, List.drop, List.take, Nat.reduceBEq, List.isEmpty, Int.reduceEq, Int.reduceNe, Int.reduceNeg, Int.reduceGT, Int.reduceGE, beq_true, beq_false, UInt8.reduceToNat, eqE, eq_self, foldE, maxE, minE, eq_T, eq_F, ndec, odec, adec, sdec, fillA, over, chop, List.replicate, leavesOk, leafOk, cellsEq, cellEq, E_ext, E_byref, en27, h10, h5, h6, h7, h8, hpo, hpu, e', f3, f6, ht, hs3, mA_len, mA_get0, mA_put0, mA_cn, mA_refs, mA_ren, mA_all, mA_frz, mI_ivs, mI_map, Nat.mul_one, Bool.true_or, Bool.false_or, show ∀ B fr H, execT E B 27 (Code.loop _) fr H = rlG E B 27 (loopAt Tryd.f27 0) (gcn B (norm [3, 6, 8] fr) H) from fun B fr H => rl_intro rfl mt27_15 mb27_15 zf27_15 hd27_15 fr H]
      exact ⟨_, rfl⟩
    · have h10 := h4.resolve_left h9
      rw [callT_eq Tryd.func27 rfl fok27 (by simp [Tryd.ntmps27])]
      simp (disch := first | omega | (simp only [List.length_append, List.length_map, List.length_set, List.length_cons, List.length_nil, List.length_take, List.length_drop, mA_len]; omega)) only [va0, va1, va2, va3, va4, va5, va6, va7, va8, va9, va10, va11, va12, va13, va14, va15, vb0, vb1, vb2, vb3, w_i8, w_u8, w_i16, w_u16, w_i32, w_u32, w_i64, w_u64, lt_T, lt_F, le_T, le_F, nlt_T, nlt_F, nle_T, nle_F, List.take_of_length_le, gB, gcW, gcR, posIn, renA, renL, Chunk.ren, Chunk.refs, evOpD, touchD, stepC, isFresh, nFresh, freshOf, mkR, hole, evL, evH, opd, get, putD, ofVal, cellOf, loadE, behind, lenE, idxAddrE, idxE, addPtr, intE, strE, unE, convE, AV.int, AV.bool, AV.str, ivs, take, frameOf, firstRegion, refsA, refsL, one, cellsA, floatOk, apartT, List.map, if_true, if_false, E_P, E_glob0, E_glob1, reduceCtorEq, beq_self_eq_true, decide_true, decide_false, ↓reduceIte, Nat.reduceEqDiff, cond_true, cond_false, or_true, true_or, or_false, false_or, and_true, true_and, and_self, false_and, and_false, not_true, not_false_iff, Nat.reduceAdd, Nat.reduceSub, Nat.reduceMul, Nat.reduceLT, Nat.reduceLeDiff, Int.reduceToNat, Int.reduceLT, Int.reduceLE, Option.getD, Int.reduceMul, Int.reduceAdd, List.drop, List.take, Nat.reduceBEq, List.isEmpty, Int.reduceEq, Int.reduceNe, Int.reduceNeg, Int.reduceGT, Int.reduceGE, beq_true, beq_false, UInt8.reduceToNat, eqE, eq_self, foldE, maxE, minE, eq_T, eq_F, ndec, odec, adec, sdec, fillA, over, chop, List.replicate, leavesOk, leafOk, cellsEq, cellEq, E_ext, E_byref, en27, h9, h10, h5, h6, h7, h8, hpo, hpu, e', f3, f6, ht, hs3, mA_len, mA_get0, mA_put0, mA_cn, mA_refs, mA_ren, mA_all, mA_frz, mI_ivs, mI_map, Nat.mul_one, Bool.true_or, Bool.false_or, show ∀ B fr H, execT E B 27 (Code.loop _) fr H = rlG E B 27 (loopAt Tryd.f27 0) (gcn B (norm [3, 6, 8] fr) H) from fun B fr H => rl_intro rfl mt27_15 mb27_15 zf27_15 hd27_15 fr H]
      exact ⟨_, rfl⟩
theorem c27 (op d : Int) (h0 : 0 ≤ op) (h1 : op ≤ 20) (hp : popS op ≤ d) (hq : d - popS op + pushS op ≤ 16) (hd : d ≤ 16) (c : Bool) (s : List Bool) (hs : s.length = 16) :
    ∃ L, callT E 27 [.agg (mA c s), .i (.v (.int .i64 op)), .i (.v (.int .i64 d))] [] = some (.agg (mA (aft op d c s).1 (aft op d c s).2), L) := by
  by_cases a1 : 3 ≤ op ∧ op ≤ 5
  · exact c27_1 op d h0 h1 hp hq hd c s hs a1
  by_cases a2 : 8 ≤ op ∧ op ≤ 12
  · exact c27_2 op d h0 h1 hp hq hd c s hs a2
  by_cases a3 : op = 14
  · exact c27_3 op d h0 h1 hp hq hd c s hs a3
  by_cases a4 : op = 16
  · exact c27_4 op d h0 h1 hp hq hd c s hs a4
  by_cases a5 : op = 18
  · exact c27_5 op d h0 h1 hp hq hd c s hs a5
  by_cases a6 : op < 3 ∨ 5 < op ∧ op < 8
  · by_cases a7 : pushS op = 1
    · exact c27_6 op d h0 h1 hp hq hd c s hs a6 a7
    · by_cases a8 : op < 3
      · exact c27_7 op d h0 h1 hp hq hd c s hs (.inl a8) (.inr a7)
      · exfalso
        have : op = 6 ∨ op = 7 := by omega
        rcases this with h | h <;> subst h <;> exact a7 (by decide)
  · refine c27_7 op d h0 h1 hp hq hd c s hs (.inr ⟨by omega, a3, a4, a5⟩) ?_
    have : op = 13 ∨ op = 15 ∨ op = 17 ∨ op = 19 ∨ op = 20 := by omega
    rcases this with h | h | h | h | h <;> subst h <;> decide
end Go.VI

namespace Go.VI
open Go.Proofs
set_option maxRecDepth 100000
set_option linter.unusedSimpArgs false
set_option linter.unusedVariables false
set_option maxHeartbeats 4000000
section
variable {E : Env} {B : Nat} {f : FuncId} {fn : Func} {k j : Nat} {c : Code} {hd : List Nat}
def loopIn (fn : Func) (k j : Nat) : Code := (loops (rfAt fn k).2).getD j .skip
theorem rl_introI (hc : loopIn fn k j = .loop c) (hm : E.mat f ((firstRegion c).getD 0) = []) (hb : E.matb f ((firstRegion c).getD 0) = []) (hz : E.frz f ((firstRegion c).getD 0) = []) (hh : E.head f ((firstRegion c).getD 0) = hd) (fr : Fr) (H : Hp) : execT E B f (.loop c) fr H = rlG E B f (loopIn fn k j) (gcn B (norm hd fr) H) := by
  unfold rlG rl
  rw [hc, execT_loop]
  simp only [hdE, hm, hb, hz, hh, matF_nil, matB_nil, frzF_nil]
theorem rl_stepI (hc : loopIn fn k j = .loop c) (fr : Fr) (H : Hp) : rl E B f (loopIn fn k j) fr H = seqK (execT E B f (.loop c)) (execT E B f c fr H) := by
  unfold rl
  rw [hc]
end
abbrev Mk := Bool × List Bool
def rowsM (ms : List Mk) : List (List IV) := ms.map fun m => mI m.1 m.2
def getM (ms : List Mk) (k : Nat) : Mk := ms.getD k (false, [])
theorem rowsM_len (ms : List Mk) : (rowsM ms).length = ms.length := by simp [rowsM]
theorem rowsM_get {ms : List Mk} {k : Nat} (h : k < ms.length) : (rowsM ms)[k]? = some (mI (getM ms k).1 (getM ms k).2) := by
  rw [getM, List.getD_eq_getElem?_getD, List.getElem?_eq_getElem h]; simp [rowsM, h]
theorem rowsM_set (ms : List Mk) (k : Nat) (c : Bool) (s : List Bool) : (rowsM ms).set k (mI c s) = rowsM (ms.set k (c, s)) := by simp [rowsM, List.map_set]
theorem mI_get {c : Bool} {s : List Bool} {k : Nat} (h : k < s.length) : (mI c s)[1 + k]? = some (.v (.bool (s.getD k false))) := by
  rw [Nat.add_comm, List.getD_eq_getElem?_getD, List.getElem?_eq_getElem h]; simp [mI, h]
theorem mI_get0 (c : Bool) (s : List Bool) : (mI c s)[0]? = some (.v (.bool c)) := rfl
theorem mI_put {c : Bool} {s : List Bool} {k : Nat} (h : k < s.length) (x : Bool) : List.take (1 + k) (mI c s) ++ [.v (.bool x)] ++ List.drop (1 + k + 1) (mI c s) = mI c (s.set k x) := by
  have h1 : (mI c s).set (k + 1) (.v (.bool x)) = mI c (s.set k x) := by simp [mI, List.map_set]
  rw [← h1, List.set_eq_take_append_cons_drop, if_pos (by rw [mI_len]; omega), Nat.add_comm 1 k]
  simp
theorem mI_tail (c x : Bool) (s : List Bool) : IV.v (.bool x) :: List.drop 1 (mI c s) = mI x s := rfl
def orR : Nat → Nat → List Bool → List Bool → List Bool
  | 0, _, _, t => t
  | r + 1, j, s, t => orR r (j + 1) s (t.set j (t.getD j false || s.getD j false))
theorem orR_len : ∀ (r j : Nat) (s t : List Bool), (orR r j s t).length = t.length
  | 0, j, s, t => rfl
  | r + 1, j, s, t => by rw [orR, orR_len r, List.length_set]
theorem getM_set {ms : List Mk} {k : Nat} (h : k < ms.length) (m : Mk) : getM (ms.set k m) k = m := by
  rw [getM, List.getD_eq_getElem?_getD, List.getElem?_set_self (by simpa using h)]; rfl
def arr (s : List Bool) : List AV := s.map fun b => .i (.v (.bool b))
theorem arr_get {s : List Bool} {k : Nat} (h : k < s.length) : (arr s)[k]? = some (.i (.v (.bool (s.getD k false)))) := by
  rw [List.getD_eq_getElem?_getD, List.getElem?_eq_getElem h]; simp [arr, h]
theorem arr_len (s : List Bool) : (arr s).length = s.length := by simp [arr]
theorem arr_cn (B : Nat) (H : Hp) : ∀ s : List Bool, cnL B H (arr s) = arr s
  | [] => rfl
  | b :: s => by
    have ih := arr_cn B H s
    unfold arr at ih ⊢
    rw [List.map_cons, cnL, ih]; rfl
theorem arr_refs : ∀ s : List Bool, refsL (arr s) = []
  | [] => rfl
  | b :: s => by
    have ih := arr_refs s
    unfold arr at ih ⊢
    rw [List.map_cons, refsL, ih]; rfl
theorem arr_ren (ρ : Nat → Option Nat) : ∀ s : List Bool, renL ρ (arr s) = arr s
  | [] => rfl
  | b :: s => by
    have ih := arr_ren ρ s
    unfold arr at ih ⊢
    rw [List.map_cons, renL, ih]; rfl
theorem l18_1 (n : Nat) (hn : n < 10000) (op arg i : Int) (c : Bool) (s : List Bool) (hs : s.length = 16) (x : Nat) (hx : x < n) : ∀ (r j : Nat) (hj : j + r = 16) (ms : List Mk) (hm : ms.length = n) (t : Mk) (ht : getM ms x = t) (htl : t.2.length = 16),
    ∃ fr, rl E 6 18 (loopIn Tryd.f18 0 0) [(6, .ptr 0 0 0 0), (10, .i (.v (.int .i64 x))), (89, .agg (arr s)), (90, .i (.v (.int .i64 j)))] [.box [.ref 1 0 0 (n)], .sl 17 0 (rowsM (ms)) false, .box [.i (.v (.int .i64 (op))), .i (.v (.int .i64 (arg)))], .box (mA (c) (s)), .box [.i (.v (.int .i64 (op))), .i (.v (.int .i64 (arg)))], .box [.i (.v (.int .i64 (i)))]] = some (.exit 4, fr, [.box [.ref 1 0 0 (n)], .sl 17 0 (rowsM (ms.set x (t.1, orR r j s t.2))) false, .box [.i (.v (.int .i64 (op))), .i (.v (.int .i64 (arg)))], .box (mA (c) (s)), .box [.i (.v (.int .i64 (op))), .i (.v (.int .i64 (arg)))], .box [.i (.v (.int .i64 (i)))]])
  | 0, j, hj, ms, hm, t, ht, htl => by
    rw [rl_stepI (fn := Tryd.f18) (k := 0) (j := 0) rfl]
    obtain rfl : j = 16 := by omega
    have hset : ms.set x (t.1, t.2) = ms := by
      rw [← ht, getM, List.getD_eq_getElem?_getD, List.getElem?_eq_getElem (by omega)]
      exact List.set_getElem_self (by omega)
    rw [orR, hset]
    simp (disch := first | omega | (simp only [List.length_append, List.length_map, List.length_set, List.length_cons, List.length_nil, List.length_take, List.length_drop]; omega)) only [va0, va1, va2, va3, va4, va5, va6, va7, va8, va9, va10, va11, va12, va13, va14, va15, vb0, vb1, vb2, vb3, w_i8, w_u8, w_i16, w_u16, w_i32, w_u32, w_i64, w_u64, lt_T, lt_F, le_T, le_F, nlt_T, nlt_F, nle_T, nle_F, List.take_of_length_le, gB, gcW, gcR, posIn, renA, renL, Chunk.ren, Chunk.refs, evOpD, touchD, stepC, isFresh, nFresh, freshOf, mkR, hole, evL, evH, opd, get, putD, ofVal, cellOf, loadE, behind, lenE, idxAddrE, idxE, addPtr, intE, strE, unE, convE, AV.int, AV.bool, AV.str, ivs, take, frameOf, firstRegion, refsA, refsL, one, cellsA, floatOk, apartT, List.map, if_true, if_false, E_P, E_glob0, E_glob1, reduceCtorEq, beq_self_eq_true, decide_true, decide_false, ↓reduceIte, Nat.reduceEqDiff, cond_true, cond_false, or_true, true_or, or_false, false_or, and_true, true_and, and_self, false_and, and_false, not_true, not_false_iff, Nat.reduceAdd, Nat.reduceSub, Nat.reduceMul, Nat.reduceLT, Nat.reduceLeDiff, Int.reduceToNat, Int.reduceLT, Int.reduceLE, Option.getD, Int.reduceMul, Int.reduceAdd, List.drop, List.take, Nat.reduceBEq, List.isEmpty, Int.reduceEq, Int.reduceNe, Int.reduceNeg, Int.reduceGT, Int.reduceGE, beq_true, beq_false, UInt8.reduceToNat, eqE, eq_self, foldE, maxE, minE, eq_T, eq_F, ndec, odec, adec, sdec, fillA, over, chop, List.replicate, leavesOk, leafOk, cellsEq, cellEq, E_ext, E_byref, en18, bs22, bs24, bs55, show List.range 6 = [0, 1, 2, 3, 4, 5] from rfl, arr_cn, arr_refs, arr_ren, mA_cn, mA_refs, mA_ren, show ∀ B fr H, execT E B 18 (Code.loop _) fr H = rlG E B 18 (loopIn Tryd.f18 0 0) (gcn B (norm [6, 10, 89, 90] fr) H) from fun B fr H => rl_introI rfl mt18_17 mb18_17 zf18_17 hd18_17 fr H]
    exact ⟨_, rfl⟩
  | r + 1, j, hj, ms, hm, t, ht, htl => by
    rw [rl_stepI (fn := Tryd.f18) (k := 0) (j := 0) rfl]
    rw [orR]
    have hrow := rowsM_get (ms := ms) (k := x) (by omega)
    rw [ht] at hrow
    obtain ⟨tc, ts⟩ := t
    simp only at hrow htl ⊢
    obtain ⟨fr, e⟩ := l18_1 n hn op arg i c s hs x hx r (j + 1) (by omega) (ms.set x (tc, ts.set j (ts.getD j false || s.getD j false))) (by rw [List.length_set]; exact hm) (tc, ts.set j (ts.getD j false || s.getD j false)) (getM_set (by omega) _) (by rw [List.length_set]; exact htl)
    rw [List.set_set] at e
    refine ⟨fr, Eq.trans ?_ e⟩
    clear e ht
    have hg := mI_get (c := tc) (s := ts) (k := j) (by omega)
    have ha := arr_get (s := s) (k := j) (by omega)
    have hput := mI_put (c := tc) (s := ts) (k := j) (by omega) (ts.getD j false || s.getD j false)
    have hst := rowsM_set ms x tc (ts.set j (ts.getD j false || s.getD j false))
    generalize ts.getD j false = tb at *
    generalize s.getD j false = sb at *
    have hal := arr_len s
    cases tb
    · simp only [Bool.false_or] at hput hst ⊢
      simp (disch := first | omega | (simp only [List.length_append, List.length_map, List.length_set, List.length_cons, List.length_nil, List.length_take, List.length_drop, rowsM_len, mI_len]; omega)) only [va0, va1, va2, va3, va4, va5, va6, va7, va8, va9, va10, va11, va12, va13, va14, va15, vb0, vb1, vb2, vb3, w_i8, w_u8, w_i16, w_u16, w_i32, w_u32, w_i64, w_u64, lt_T, lt_F, le_T, le_F, nlt_T, nlt_F, nle_T, nle_F, List.take_of_length_le, gB, gcW, gcR, posIn, renA, renL, Chunk.ren, Chunk.refs, evOpD, touchD, stepC, isFresh, nFresh, freshOf, mkR, hole, evL, evH, opd, get, putD, ofVal, cellOf, loadE, behind, lenE, idxAddrE, idxE, addPtr, intE, strE, unE, convE, AV.int, AV.bool, AV.str, ivs, take, frameOf, firstRegion, refsA, refsL, one, cellsA, floatOk, apartT, List.map, if_true, if_false, E_P, E_glob0, E_glob1, reduceCtorEq, beq_self_eq_true, decide_true, decide_false, ↓reduceIte, Nat.reduceEqDiff, cond_true, cond_false, or_true, true_or, or_false, false_or, and_true, true_and, and_self, false_and, and_false, not_true, not_false_iff, Nat.reduceAdd, Nat.reduceSub, Nat.reduceMul, Nat.reduceLT, Nat.reduceLeDiff, Int.reduceToNat, Int.reduceLT, Int.reduceLE, Option.getD, Int.reduceMul, Int.reduceAdd, List.drop, List.take, Nat.reduceBEq, List.isEmpty, Int.reduceEq, Int.reduceNe, Int.reduceNeg, Int.reduceGT, Int.reduceGE, beq_true, beq_false, UInt8.reduceToNat, eqE, eq_self, foldE, maxE, minE, eq_T, eq_F, ndec, odec, adec, sdec, fillA, over, chop, List.replicate, leavesOk, leafOk, cellsEq, cellEq, E_ext, E_byref, en18, bs22, bs24, bs55, hrow, hg, ha, hput, hst, hal, hs, rowsM_len, mI_len, Nat.mul_one, show List.range 6 = [0, 1, 2, 3, 4, 5] from rfl, arr_cn, arr_refs, arr_ren, mA_cn, mA_refs, mA_ren, show ∀ B fr H, execT E B 18 (Code.loop _) fr H = rlG E B 18 (loopIn Tryd.f18 0 0) (gcn B (norm [6, 10, 89, 90] fr) H) from fun B fr H => rl_introI rfl mt18_17 mb18_17 zf18_17 hd18_17 fr H]
    · simp only [Bool.true_or] at hput hst ⊢
      simp (disch := first | omega | (simp only [List.length_append, List.length_map, List.length_set, List.length_cons, List.length_nil, List.length_take, List.length_drop, rowsM_len, mI_len]; omega)) only [va0, va1, va2, va3, va4, va5, va6, va7, va8, va9, va10, va11, va12, va13, va14, va15, vb0, vb1, vb2, vb3, w_i8, w_u8, w_i16, w_u16, w_i32, w_u32, w_i64, w_u64, lt_T, lt_F, le_T, le_F, nlt_T, nlt_F, nle_T, nle_F, List.take_of_length_le, gB, gcW, gcR, posIn, renA, renL, Chunk.ren, Chunk.refs, evOpD, touchD, stepC, isFresh, nFresh, freshOf, mkR, hole, evL, evH, opd, get, putD, ofVal, cellOf, loadE, behind, lenE, idxAddrE, idxE, addPtr, intE, strE, unE, convE, AV.int, AV.bool, AV.str, ivs, take, frameOf, firstRegion, refsA, refsL, one, cellsA, floatOk, apartT, List.map, if_true, if_false, E_P, E_glob0, E_glob1, reduceCtorEq, beq_self_eq_true, decide_true, decide_false, ↓reduceIte, Nat.reduceEqDiff, cond_true, cond_false, or_true, true_or, or_false, false_or, and_true, true_and, and_self, false_and, and_false, not_true, not_false_iff, Nat.reduceAdd, Nat.reduceSub, Nat.reduceMul, Nat.reduceLT, Nat.reduceLeDiff, Int.reduceToNat, Int.reduceLT, Int.reduceLE, Option.getD, Int.reduceMul, Int.reduceAdd, List.drop, List.take, Nat.reduceBEq, List.isEmpty, Int.reduceEq, Int.reduceNe, Int.reduceNeg, Int.reduceGT, Int.reduceGE, beq_true, beq_false, UInt8.reduceToNat, eqE, eq_self, foldE, maxE, minE, eq_T, eq_F, ndec, odec, adec, sdec, fillA, over, chop, List.replicate, leavesOk, leafOk, cellsEq, cellEq, E_ext, E_byref, en18, bs22, bs24, bs55, hrow, hg, ha, hput, hst, hal, hs, rowsM_len, mI_len, Nat.mul_one, show List.range 6 = [0, 1, 2, 3, 4, 5] from rfl, arr_cn, arr_refs, arr_ren, mA_cn, mA_refs, mA_ren, show ∀ B fr H, execT E B 18 (Code.loop _) fr H = rlG E B 18 (loopIn Tryd.f18 0 0) (gcn B (norm [6, 10, 89, 90] fr) H) from fun B fr H => rl_introI rfl mt18_17 mb18_17 zf18_17 hd18_17 fr H]
end Go.VI

namespace Go.VI
open Go.Proofs
set_option maxRecDepth 100000
set_option linter.unusedSimpArgs false
set_option linter.unusedVariables false
set_option maxHeartbeats 4000000
def joinM (m t : Mk) : Mk := (t.1 || m.1, orR 16 0 m.2 t.2)
def hSet (m : Mk) : List Int → List Mk → List Mk
  | [], ms => ms
  | x :: xs, ms => hSet m xs (ms.set x.toNat (joinM m (getM ms x.toNat)))
theorem hSet_len (m : Mk) : ∀ (xs : List Int) (ms : List Mk), (hSet m xs ms).length = ms.length
  | [], ms => rfl
  | x :: xs, ms => by rw [hSet, hSet_len m xs, List.length_set]
def Wf (ms : List Mk) : Prop := ∀ m ∈ ms, m.2.length = 16
theorem Wf.get {ms : List Mk} (h : Wf ms) {k : Nat} (hk : k < ms.length) : (getM ms k).2.length = 16 := by
  rw [getM, List.getD_eq_getElem?_getD, List.getElem?_eq_getElem hk]; exact h _ (List.getElem_mem _)
theorem Wf.set {ms : List Mk} (h : Wf ms) (k : Nat) {m : Mk} (hm : m.2.length = 16) : Wf (ms.set k m) := fun x hx => by
  rcases List.mem_or_eq_of_mem_set hx with h1 | h1
  · exact h x h1
  · rw [h1]; exact hm
theorem Wf.hSet {m : Mk} : ∀ (xs : List Int) {ms : List Mk}, Wf ms → (∀ x ∈ xs, 0 ≤ x ∧ x < ms.length) → Wf (hSet m xs ms)
  | [], ms, h, hx => h
  | x :: xs, ms, h, hx => by
    rw [VI.hSet]
    have := hx x (.head _)
    exact Wf.hSet xs (h.set _ (by rw [joinM, orR_len]; exact h.get (by omega))) (fun y hy => by rw [List.length_set]; exact hx y (.tail _ hy))
theorem rd18 (l : List Ins) (ds : List Int) (n : Nat) (hn : n < 10000) (op arg i k : Int) (c : Bool) (s : List Bool) (hs : s.length = 16) (x : Int) (hx : 0 ≤ x ∧ x < n) (ms : List Mk) (hm : ms.length = n) (hw : Wf ms) :
    rdF E 18 (rfAt Tryd.f18 0) ((74, .i (.v (.int .i64 x))) :: [(2, .i (.v (.bool false))), (3, .i (.v (.int .i64 0))), (4, .i (.sl 1 (rows64 ds) false)), (6, .ptr 0 0 0 0), (9, .ptr 3 0 0 0), (25, .i (.sl 2 (rowsI l) false)), (26, .i (.v (.int .i64 l.length))), (27, .i (.v (.int .i64 (k)))), (73, .clo (.func 32) [] [.ptr 4 0 0 0, .ptr 5 0 0 0])]) [.box [.ref 1 0 0 (n)], .sl 17 0 (rowsM (ms)) false, .box [.i (.v (.int .i64 (op))), .i (.v (.int .i64 (arg)))], .box (mA (c) (s)), .box [.i (.v (.int .i64 (op))), .i (.v (.int .i64 (arg)))], .box [.i (.v (.int .i64 (i)))]] = some (.normal, [.box [.ref 1 0 0 (n)], .sl 17 0 (rowsM (ms.set x.toNat (joinM (c, s) (getM ms x.toNat)))) false, .box [.i (.v (.int .i64 (op))), .i (.v (.int .i64 (arg)))], .box (mA (c) (s)), .box [.i (.v (.int .i64 (op))), .i (.v (.int .i64 (arg)))], .box [.i (.v (.int .i64 (i)))]]) := by
  have hxn : x.toNat < ms.length := by omega
  have hrow := rowsM_get hxn
  have htl := hw.get hxn
  generalize ht : getM ms x.toNat = t at *
  obtain ⟨tc, ts⟩ := t
  simp only [joinM] at hrow htl ⊢
  obtain ⟨fr, e⟩ := l18_1 n hn op arg i c s hs x.toNat (by omega) 16 0 rfl (ms.set x.toNat (tc || c, ts)) (by rw [List.length_set]; exact hm) (tc || c, ts) (getM_set hxn _) htl
  rw [List.set_set] at e
  have hc : ((x.toNat : Nat) : Int) = x := by omega
  rw [hc] at e
  have e' : rl E 6 18 (loopIn Tryd.f18 0 0) [(6, .ptr 0 0 0 0), (10, .i (.v (.int .i64 x))), (89, .agg (arr s)), (90, .i (.v (.int .i64 0)))] [.box [.ref 1 0 0 (n)], .sl 17 0 (rowsM (ms.set x.toNat (tc || c, ts))) false, .box [.i (.v (.int .i64 (op))), .i (.v (.int .i64 (arg)))], .box (mA (c) (s)), .box [.i (.v (.int .i64 (op))), .i (.v (.int .i64 (arg)))], .box [.i (.v (.int .i64 (i)))]] = _ := e
  clear e
  have hst := rowsM_set ms x.toNat (tc || c) ts
  have harr : List.drop 1 (mA c s) = arr s := rfl
  have hart : List.take 16 (arr s) = arr s := List.take_of_length_le (by rw [arr_len, hs]; exact Nat.le_refl _)
  generalize orR 16 0 s ts = ts2 at *
  cases tc
  · simp only [Bool.false_or] at hst e' ⊢
    rw [rd_step (fn := Tryd.f18) (k := 0) rfl]
    simp (disch := first | omega | (simp only [List.length_append, List.length_map, List.length_set, List.length_cons, List.length_nil, List.length_take, List.length_drop, rowsM_len, mI_len, mA_len]; omega)) only [va0, va1, va2, va3, va4, va5, va6, va7, va8, va9, va10, va11, va12, va13, va14, va15, vb0, vb1, vb2, vb3, w_i8, w_u8, w_i16, w_u16, w_i32, w_u32, w_i64, w_u64, lt_T, lt_F, le_T, le_F, nlt_T, nlt_F, nle_T, nle_F, List.take_of_length_le, gB, gcW, gcR, posIn, renA, renL, Chunk.ren, Chunk.refs, evOpD, touchD, stepC, isFresh, nFresh, freshOf, mkR, hole, evL, evH, opd, get, putD, ofVal, cellOf, loadE, behind, lenE, idxAddrE, idxE, addPtr, intE, strE, unE, convE, AV.int, AV.bool, AV.str, ivs, take, frameOf, firstRegion, refsA, refsL, one, cellsA, floatOk, apartT, List.map, if_true, if_false, E_P, E_glob0, E_glob1, reduceCtorEq, beq_self_eq_true, decide_true, decide_false, ↓reduceIte, Nat.reduceEqDiff, cond_true, cond_false, or_true, true_or, or_false, false_or, and_true, true_and, and_self, false_and, and_false, not_true, not_false_iff, Nat.reduceAdd, Nat.reduceSub, Nat.reduceMul, Nat.reduceLT, Nat.reduceLeDiff, Int.reduceToNat, Int.reduceLT, Int.reduceLE, Option.getD, Int.reduceMul, Int.reduceAdd, List.drop, List.take, Nat.reduceBEq, List.isEmpty, Int.reduceEq, Int.reduceNe, Int.reduceNeg, Int.reduceGT, Int.reduceGE, beq_true, beq_false, UInt8.reduceToNat, eqE, eq_self, foldE, maxE, minE, eq_T, eq_F, ndec, odec, adec, sdec, fillA, over, chop, List.replicate, leavesOk, leafOk, cellsEq, cellEq, E_ext, E_byref, en18, bs22, bs24, bs55, hrow, hst, hs, harr, hart, e', rowsM_len, mI_len, mA_len, mI_get0, mA_get0, mI_tail, Nat.mul_one, show List.range 6 = [0, 1, 2, 3, 4, 5] from rfl, arr_cn, arr_refs, arr_ren, mA_cn, mA_refs, mA_ren, show ∀ B fr H, execT E B 18 (Code.loop _) fr H = rlG E B 18 (loopIn Tryd.f18 0 0) (gcn B (norm [6, 10, 89, 90] fr) H) from fun B fr H => rl_introI rfl mt18_17 mb18_17 zf18_17 hd18_17 fr H]
  · simp only [Bool.true_or] at hst e' ⊢
    rw [rd_step (fn := Tryd.f18) (k := 0) rfl]
    simp (disch := first | omega | (simp only [List.length_append, List.length_map, List.length_set, List.length_cons, List.length_nil, List.length_take, List.length_drop, rowsM_len, mI_len, mA_len]; omega)) only [va0, va1, va2, va3, va4, va5, va6, va7, va8, va9, va10, va11, va12, va13, va14, va15, vb0, vb1, vb2, vb3, w_i8, w_u8, w_i16, w_u16, w_i32, w_u32, w_i64, w_u64, lt_T, lt_F, le_T, le_F, nlt_T, nlt_F, nle_T, nle_F, List.take_of_length_le, gB, gcW, gcR, posIn, renA, renL, Chunk.ren, Chunk.refs, evOpD, touchD, stepC, isFresh, nFresh, freshOf, mkR, hole, evL, evH, opd, get, putD, ofVal, cellOf, loadE, behind, lenE, idxAddrE, idxE, addPtr, intE, strE, unE, convE, AV.int, AV.bool, AV.str, ivs, take, frameOf, firstRegion, refsA, refsL, one, cellsA, floatOk, apartT, List.map, if_true, if_false, E_P, E_glob0, E_glob1, reduceCtorEq, beq_self_eq_true, decide_true, decide_false, ↓reduceIte, Nat.reduceEqDiff, cond_true, cond_false, or_true, true_or, or_false, false_or, and_true, true_and, and_self, false_and, and_false, not_true, not_false_iff, Nat.reduceAdd, Nat.reduceSub, Nat.reduceMul, Nat.reduceLT, Nat.reduceLeDiff, Int.reduceToNat, Int.reduceLT, Int.reduceLE, Option.getD, Int.reduceMul, Int.reduceAdd, List.drop, List.take, Nat.reduceBEq, List.isEmpty, Int.reduceEq, Int.reduceNe, Int.reduceNeg, Int.reduceGT, Int.reduceGE, beq_true, beq_false, UInt8.reduceToNat, eqE, eq_self, foldE, maxE, minE, eq_T, eq_F, ndec, odec, adec, sdec, fillA, over, chop, List.replicate, leavesOk, leafOk, cellsEq, cellEq, E_ext, E_byref, en18, bs22, bs24, bs55, hrow, hst, hs, harr, hart, e', rowsM_len, mI_len, mA_len, mI_get0, mA_get0, mI_tail, Nat.mul_one, show List.range 6 = [0, 1, 2, 3, 4, 5] from rfl, arr_cn, arr_refs, arr_ren, mA_cn, mA_refs, mA_ren, show ∀ B fr H, execT E B 18 (Code.loop _) fr H = rlG E B 18 (loopIn Tryd.f18 0 0) (gcn B (norm [6, 10, 89, 90] fr) H) from fun B fr H => rl_introI rfl mt18_17 mb18_17 zf18_17 hd18_17 fr H]
theorem rg18 (l : List Ins) (ds : List Int) (n : Nat) (hn : n < 10000) (op arg k : Int) (i : Int) (c : Bool) (s : List Bool) (hs : s.length = 16) : ∀ (xs : List Int), (∀ x ∈ xs, 0 ≤ x ∧ x < n) → ∀ ms : List Mk, ms.length = n → Wf ms →
    rgE (rdF E 18 (rfAt Tryd.f18 0)) 74 [(2, .i (.v (.bool false))), (3, .i (.v (.int .i64 0))), (4, .i (.sl 1 (rows64 ds) false)), (6, .ptr 0 0 0 0), (9, .ptr 3 0 0 0), (25, .i (.sl 2 (rowsI l) false)), (26, .i (.v (.int .i64 l.length))), (27, .i (.v (.int .i64 (k)))), (73, .clo (.func 32) [] [.ptr 4 0 0 0, .ptr 5 0 0 0])] [.ptr 4 0 0 0, .ptr 5 0 0 0] [[op, arg], [i]] xs [.box [.ref 1 0 0 (n)], .sl 17 0 (rowsM (ms)) false, .box [.i (.v (.int .i64 (op))), .i (.v (.int .i64 (arg)))], .box (mA (c) (s)), .box [.i (.v (.int .i64 (op))), .i (.v (.int .i64 (arg)))], .box [.i (.v (.int .i64 (i)))]] = some (.normal, [(2, .i (.v (.bool false))), (3, .i (.v (.int .i64 0))), (4, .i (.sl 1 (rows64 ds) false)), (6, .ptr 0 0 0 0), (9, .ptr 3 0 0 0), (25, .i (.sl 2 (rowsI l) false)), (26, .i (.v (.int .i64 l.length))), (27, .i (.v (.int .i64 (k)))), (73, .clo (.func 32) [] [.ptr 4 0 0 0, .ptr 5 0 0 0])], [.box [.ref 1 0 0 (n)], .sl 17 0 (rowsM (hSet (c, s) xs ms)) false, .box [.i (.v (.int .i64 (op))), .i (.v (.int .i64 (arg)))], .box (mA (c) (s)), .box [.i (.v (.int .i64 (op))), .i (.v (.int .i64 (arg)))], .box [.i (.v (.int .i64 (i)))]])
  | [], _, ms, hm, hw => rfl
  | x :: xs, hx, ms, hm, hw => by
    have hx0 := hx x (.head _)
    have h1 := rd18 l ds n hn op arg i k c s hs x hx0 ms hm hw
    rw [rgE_cons, h1, rgN_n, if_pos (show capsI _ [.ptr 4 0 0 0, .ptr 5 0 0 0] = some [[op, arg], [i]] from rfl), hSet]
    exact rg18 l ds n hn op arg k i c s hs xs (fun y hy => hx y (.tail _ hy)) _ (by simpa using hm) (hw.set _ (by rw [joinM, orR_len]; exact hw.get (by omega)))
end Go.VI

namespace Go.VI
open Go.Proofs
set_option maxRecDepth 100000
set_option linter.unusedSimpArgs false
set_option linter.unusedVariables false
set_option maxHeartbeats 4000000
theorem ik27 (op d : Int) (h0 : 0 ≤ op) (h1 : op ≤ 20) (hp : popS op ≤ d) (hq : d - popS op + pushS op ≤ 16) (hd : d ≤ 16) (c : Bool) (s : List Bool) (hs : s.length = 16) (H : Hp) :
    isoK E (callT E) 27 [.agg (mA c s), .i (.v (.int .i64 op)), .i (.v (.int .i64 d))] H = some (.agg (mA (aft op d c s).1 (aft op d c s).2), H) :=
  isoK_val rfl (by simp [refsL, refsA, mA_refs]) (by simp [refsA, mA_refs]) (c27 op d h0 h1 hp hq hd c s hs)
structure DOK (l : List Ins) (ds : List Int) : Prop where
  len : ds.length = l.length
  ok : ∀ k, k < l.length → 0 ≤ ds.getD k 0 → popS (l.getD k (0, 0)).1 ≤ ds.getD k 0 ∧ ds.getD k 0 - popS (l.getD k (0, 0)).1 + pushS (l.getD k (0, 0)).1 ≤ 16 ∧ ds.getD k 0 ≤ 16
theorem dStep_r {n i : Nat} {p : Ins} {out out' : List Int} (h : dStep n i p out = some out') (hr : ∀ x ∈ out, -1 ≤ x ∧ x ≤ 16) : ∀ x ∈ out', -1 ≤ x ∧ x ≤ 16 := by
  have p1 := popS_r p.1
  have p2 := pushS_r p.1
  unfold dStep at h
  split at h
  · injection h with h; rw [← h]; exact hr
  split at h
  · cases h
  · exact dSet_r (by omega) _ _ _ h hr
theorem dRun_r {n : Nat} : ∀ (l : List Ins) (k : Nat) (out fin : List Int), dRun n k l out = some fin → (∀ x ∈ out, -1 ≤ x ∧ x ≤ 16) → ∀ x ∈ fin, -1 ≤ x ∧ x ≤ 16
  | [], k, out, fin, h, hr => by rw [dRun, Option.some.injEq] at h; rw [← h]; exact hr
  | p :: r, k, out, fin, h, hr => by
    rw [dRun] at h
    cases hd : dStep n k p out with
    | none => rw [hd] at h; cases h
    | some o => rw [hd] at h; exact dRun_r r (k + 1) o fin h (dStep_r hd hr)
theorem dRun_low {l : List Ins} (g : Good l) {fin : List Int} (a : Nat) (ha : a ≤ l.length) (out : List Int) (h : dRun l.length a (l.drop a) out = some fin) (j : Nat) (hj : j < a) : fin.getD j 0 = out.getD j 0 := by
  by_cases hlt : a < l.length
  · obtain ⟨o1, g1, g2⟩ := dRun_next hlt h
    rw [dRun_low g (a + 1) hlt o1 g2 j (by omega)]
    unfold dStep at g1
    split at g1
    · injection g1 with g1; rw [g1]
    split at g1
    · cases g1
    · have hs := (good_suc g hlt).2
      exact dSet_new _ _ _ g1 (fun x hx => by have := hs x hx; omega) j (fun hx => by have := hs _ hx; omega)
  · obtain rfl : a = l.length := by omega
    rw [List.drop_length, dRun, Option.some.injEq] at h
    rw [h]
termination_by l.length - a
theorem depths_dok {l : List Ins} (h : (depthsS l).2 = 0) : DOK l (depthsS l).1 := by
  obtain ⟨fin, h0, hd, hf1, hf2⟩ := depths_ok h
  have g := good_of h0
  rw [hf1]
  refine ⟨by rw [List.length_take, hf2]; omega, fun k hk hx => ?_⟩
  rw [getD_take _ _ _ hk] at hx ⊢
  obtain ⟨o, g1, g2, g3⟩ := dRun_to g k (by omega) 0 (Nat.zero_le _) (0 :: List.replicate l.length (-1)) (by simp) (by rw [List.drop_zero]; exact hd)
  obtain ⟨o1, s1, s2⟩ := dRun_next hk g1
  have hlow := dRun_low g (k + 1) hk o1 s2 k (by omega)
  have hr := dRun_r _ _ _ _ hd (fun x hx => by
    rcases List.mem_cons.1 hx with rfl | hx
    · omega
    · have := List.eq_of_mem_replicate hx; omega)
  have hb := getD_mem_b (P := fun x => -1 ≤ x ∧ x ≤ 16) ⟨by omega, by omega⟩ hr k
  unfold dStep at s1
  split at s1
  · rename_i hneg
    injection s1 with s1
    rw [← s1] at hlow
    omega
  rename_i hnn
  split at s1
  · cases s1
  rename_i hc
  have hs := (good_suc g hk).2
  have hnew := dSet_new _ _ _ s1 (fun x hx => by have := hs x hx; omega) k (fun hx => by have := hs _ hx; omega)
  rw [hlow, hnew] at hx hb ⊢
  exact ⟨by omega, by omega, hb.2⟩
def hRun (ds : List Int) : Nat → List Ins → List Mk → Bool
  | _, [], _ => false
  | k, p :: r, ms => if ds.getD k 0 < 0 then hRun ds (k + 1) r ms
    else if (p.1 = 19 ∨ p.1 = 20) ∧ ((getM ms k).1 = true ∨ (getM ms k).2.getD (ds.getD k 0 - 1).toNat false = true) then true
    else hRun ds (k + 1) r (hSet (aft p.1 (ds.getD k 0) (getM ms k).1 (getM ms k).2) (sucL p.1 p.2 k) ms)
def hP (fr : Fr) (ex : Ex) : Bool → Prop
  | true => ex = .ret ∧ get 2 fr = .i (.v (.bool true)) ∧ get 3 fr = .i (.v (.int .i64 0))
  | false => ex = .exit 0
theorem mI_take {c : Bool} {s : List Bool} {n : Nat} (h : s.length + 1 ≤ n) : (mI c s).take n = mI c s := List.take_of_length_le (by rw [mI_len]; exact h)
theorem l18_0 (l : List Ins) (hl : l.length ≤ 500) (g : Good l) (ds : List Int) (hd : DOK l ds) (n : Nat) (hn : n = l.length + 1) (k : Nat) (hk : k ≤ l.length) (ms : List Mk) (hm : ms.length = n) (hw : Wf ms) :
    ∃ fr ex H', rl E 0 18 (loopAt Tryd.f18 0) [(2, .i (.v (.bool false))), (3, .i (.v (.int .i64 0))), (4, .i (.sl 1 (rows64 ds) false)), (6, .ptr 0 0 0 0), (25, .i (.sl 2 (rowsI l) false)), (26, .i (.v (.int .i64 l.length))), (27, .i (.v (.int .i64 (k))))] [.box [.ref 1 0 0 (n)], .sl 17 0 (rowsM (ms)) false] = some (ex, fr, H') ∧ hP fr ex (hRun ds k (l.drop k) ms) := by
  rw [rl_step (fn := Tryd.f18) (k := 0) rfl]
  by_cases hlt : k < l.length
  · have hrow := rowsI_at hlt
    obtain ⟨⟨o1, o2⟩, hsuc⟩ := good_suc g hlt
    have hdk := hd.ok k hlt
    have hdl := hd.len
    have hrd := rows64_get (l := ds) (k := k) (by omega)
    rw [List.drop_eq_getElem_cons hlt, hRun]
    rw [good_getD hlt] at o1 o2 hsuc hdk
    have ih := fun ms hm hw => l18_0 l hl g ds hd n hn (k + 1) hlt ms hm hw
    obtain ⟨op, arg, hp⟩ : ∃ op arg, l[k] = (op, arg) := ⟨_, _, rfl⟩
    rw [hp] at hrow hdk o1 o2 hsuc ⊢
    simp only at hrow hdk o1 o2 hsuc ⊢
    have hxn : k < ms.length := by omega
    have hrm := rowsM_get hxn
    have htl := hw.get hxn
    generalize ds.getD k 0 = d at *
    generalize ht : getM ms k = t at *
    obtain ⟨c, s⟩ := t
    simp only at hrm htl ⊢
    by_cases h1 : d < 0
    · rw [if_pos h1]
      obtain ⟨fr, ex, H', e, hh⟩ := ih ms hm hw
      refine ⟨fr, ex, H', Eq.trans ?_ e, hh⟩
      clear e hh ih
      simp (disch := first | omega | (simp only [List.length_append, List.length_map, List.length_set, List.length_cons, List.length_nil, List.length_take, List.length_drop, rowsI_len, rows64_len, rowsM_len]; omega)) only [va0, va1, va2, va3, va4, va5, va6, va7, va8, va9, va10, va11, va12, va13, va14, va15, vb0, vb1, vb2, vb3, w_i8, w_u8, w_i16, w_u16, w_i32, w_u32, w_i64, w_u64, lt_T, lt_F, le_T, le_F, nlt_T, nlt_F, nle_T, nle_F, List.take_of_length_le, gB, gcW, gcR, posIn, renA, renL, Chunk.ren, Chunk.refs, evOpD, touchD, stepC, isFresh, nFresh, freshOf, mkR, hole, evL, evH, opd, get, putD, ofVal, cellOf, loadE, behind, lenE, idxAddrE, idxE, addPtr, intE, strE, unE, convE, AV.int, AV.bool, AV.str, ivs, take, frameOf, firstRegion, refsA, refsL, one, cellsA, floatOk, apartT, List.map, if_true, if_false, E_P, E_glob0, E_glob1, reduceCtorEq, beq_self_eq_true, decide_true, decide_false, ↓reduceIte, Nat.reduceEqDiff, cond_true, cond_false, or_true, true_or, or_false, false_or, and_true, true_and, and_self, false_and, and_false, not_true, not_false_iff, Nat.reduceAdd, Nat.reduceSub, Nat.reduceMul, Nat.reduceLT, Nat.reduceLeDiff, Int.reduceToNat, Int.reduceLT, Int.reduceLE, Option.getD, Int.reduceMul, Int.reduceAdd, List.drop, List.take, Nat.reduceBEq, List.isEmpty, Int.reduceEq, Int.reduceNe, Int.reduceNeg, Int.reduceGT, Int.reduceGE, beq_true, beq_false, UInt8.reduceToNat, eqE, eq_self, foldE, maxE, minE, eq_T, eq_F, ndec, odec, adec, sdec, fillA, over, chop, List.replicate, leavesOk, leafOk, cellsEq, cellEq, E_ext, E_byref, en18, bs22, bs24, bs55, hrow, hrd, rowsI_len, rows64_len, rowsM_len, h1, show ∀ B fr H, execT E B 18 (Code.loop _) fr H = rlG E B 18 (loopAt Tryd.f18 0) (gcn B (norm [2, 3, 4, 6, 25, 26, 27] fr) H) from fun B fr H => rl_intro rfl mt18_6 mb18_6 zf18_6 hd18_6 fr H]
    · rw [if_neg h1]
      obtain ⟨d1, d2, d3⟩ := hdk (by omega)
      have hmt := mI_take (c := c) (s := s) (n := 17) (by omega)
      have pp := pop_push op o1 o2
      have ha := fun H => ik27 op d o1 o2 d1 d2 d3 c s htl H
      have hal := aft_len op d c s
      have hsq := seqSucc_eq op arg k (by omega) (by omega)
      have hrg := rg18 l ds n (by omega) op arg k k (aft op d c s).1 (aft op d c s).2 (by omega) (sucL op arg k) (fun x hx => by have := hsuc x hx; omega) ms hm hw
      have ih := ih (hSet (aft op d c s) (sucL op arg k) ms) (by rw [hSet_len]; exact hm) (hw.hSet _ (fun x hx => by have := hsuc x hx; omega))
      rw [show ((aft op d c s).1, (aft op d c s).2) = aft op d c s from rfl] at hrg
      generalize hSet (aft op d c s) (sucL op arg k) ms = ms2 at *
      generalize (aft op d c s).1 = c2 at *
      generalize (aft op d c s).2 = s2 at *
      generalize sucL op arg k = xs at *
      have hdr : mA c2 s2 ++ List.drop 17 (mA c s) = mA c2 s2 := by rw [List.drop_eq_nil_of_le (by rw [mA_len, htl]; exact Nat.le_refl _), List.append_nil]
      have hmt2 := mA_take (c := c2) (s := s2) (n := 17) (by omega)
      by_cases h2 : op = 19 ∨ op = 20
      · have hpop : popS op = 1 := pp.2.2.2.2.2.1 h2
        have hgs := mA_get' (c := c) (s := s) (k := (d - 1).toNat) (by omega)
        generalize s.getD (d - 1).toNat false = sb at *
        by_cases h3 : c = true ∨ sb = true
        · rw [if_pos ⟨h2, h3⟩]
          clear ih hrg
          rcases h2 with h2 | h2
          · cases c
            · have h3 := h3.resolve_left (by decide)
              subst h3
              simp (disch := first | omega | (simp only [List.length_append, List.length_map, List.length_set, List.length_cons, List.length_nil, List.length_take, List.length_drop, rowsI_len, rows64_len, rowsM_len, mI_len, mA_len]; omega)) only [va0, va1, va2, va3, va4, va5, va6, va7, va8, va9, va10, va11, va12, va13, va14, va15, vb0, vb1, vb2, vb3, w_i8, w_u8, w_i16, w_u16, w_i32, w_u32, w_i64, w_u64, lt_T, lt_F, le_T, le_F, nlt_T, nlt_F, nle_T, nle_F, List.take_of_length_le, gB, gcW, gcR, posIn, renA, renL, Chunk.ren, Chunk.refs, evOpD, touchD, stepC, isFresh, nFresh, freshOf, mkR, hole, evL, evH, opd, get, putD, ofVal, cellOf, loadE, behind, lenE, idxAddrE, idxE, addPtr, intE, strE, unE, convE, AV.int, AV.bool, AV.str, ivs, take, frameOf, firstRegion, refsA, refsL, one, cellsA, floatOk, apartT, List.map, if_true, if_false, E_P, E_glob0, E_glob1, reduceCtorEq, beq_self_eq_true, decide_true, decide_false, ↓reduceIte, Nat.reduceEqDiff, cond_true, cond_false, or_true, true_or, or_false, false_or, and_true, true_and, and_self, false_and, and_false, not_true, not_false_iff, Nat.reduceAdd, Nat.reduceSub, Nat.reduceMul, Nat.reduceLT, Nat.reduceLeDiff, Int.reduceToNat, Int.reduceLT, Int.reduceLE, Option.getD, Int.reduceMul, Int.reduceAdd, List.drop, List.take, Nat.reduceBEq, List.isEmpty, Int.reduceEq, Int.reduceNe, Int.reduceNeg, Int.reduceGT, Int.reduceGE, beq_true, beq_false, UInt8.reduceToNat, eqE, eq_self, foldE, maxE, minE, eq_T, eq_F, ndec, odec, adec, sdec, fillA, over, chop, List.replicate, leavesOk, leafOk, cellsEq, cellEq, E_ext, E_byref, en18, bs22, bs24, bs55, hrow, hrd, hrm, hmt, htl, hgs, rowsI_len, rows64_len, rowsM_len, mI_len, mA_len, mI_map, mA_get0, mA_all, Nat.mul_one, show ∀ B fr H, execT E B 18 (Code.loop _) fr H = rlG E B 18 (loopAt Tryd.f18 0) (gcn B (norm [2, 3, 4, 6, 25, 26, 27] fr) H) from fun B fr H => rl_intro rfl mt18_6 mb18_6 zf18_6 hd18_6 fr H]
              refine ⟨_, _, _, rfl, ?_⟩
              exact ⟨rfl, rfl, rfl⟩
            · simp (disch := first | omega | (simp only [List.length_append, List.length_map, List.length_set, List.length_cons, List.length_nil, List.length_take, List.length_drop, rowsI_len, rows64_len, rowsM_len, mI_len, mA_len]; omega)) only [va0, va1, va2, va3, va4, va5, va6, va7, va8, va9, va10, va11, va12, va13, va14, va15, vb0, vb1, vb2, vb3, w_i8, w_u8, w_i16, w_u16, w_i32, w_u32, w_i64, w_u64, lt_T, lt_F, le_T, le_F, nlt_T, nlt_F, nle_T, nle_F, List.take_of_length_le, gB, gcW, gcR, posIn, renA, renL, Chunk.ren, Chunk.refs, evOpD, touchD, stepC, isFresh, nFresh, freshOf, mkR, hole, evL, evH, opd, get, putD, ofVal, cellOf, loadE, behind, lenE, idxAddrE, idxE, addPtr, intE, strE, unE, convE, AV.int, AV.bool, AV.str, ivs, take, frameOf, firstRegion, refsA, refsL, one, cellsA, floatOk, apartT, List.map, if_true, if_false, E_P, E_glob0, E_glob1, reduceCtorEq, beq_self_eq_true, decide_true, decide_false, ↓reduceIte, Nat.reduceEqDiff, cond_true, cond_false, or_true, true_or, or_false, false_or, and_true, true_and, and_self, false_and, and_false, not_true, not_false_iff, Nat.reduceAdd, Nat.reduceSub, Nat.reduceMul, Nat.reduceLT, Nat.reduceLeDiff, Int.reduceToNat, Int.reduceLT, Int.reduceLE, Option.getD, Int.reduceMul, Int.reduceAdd, List.drop, List.take, Nat.reduceBEq, List.isEmpty, Int.reduceEq, Int.reduceNe, Int.reduceNeg, Int.reduceGT, Int.reduceGE, beq_true, beq_false, UInt8.reduceToNat, eqE, eq_self, foldE, maxE, minE, eq_T, eq_F, ndec, odec, adec, sdec, fillA, over, chop, List.replicate, leavesOk, leafOk, cellsEq, cellEq, E_ext, E_byref, en18, bs22, bs24, bs55, hrow, hrd, hrm, hmt, htl, hgs, rowsI_len, rows64_len, rowsM_len, mI_len, mA_len, mI_map, mA_get0, mA_all, Nat.mul_one, show ∀ B fr H, execT E B 18 (Code.loop _) fr H = rlG E B 18 (loopAt Tryd.f18 0) (gcn B (norm [2, 3, 4, 6, 25, 26, 27] fr) H) from fun B fr H => rl_intro rfl mt18_6 mb18_6 zf18_6 hd18_6 fr H]
              refine ⟨_, _, _, rfl, ?_⟩
              exact ⟨rfl, rfl, rfl⟩
          · cases c
            · have h3 := h3.resolve_left (by decide)
              subst h3
              simp (disch := first | omega | (simp only [List.length_append, List.length_map, List.length_set, List.length_cons, List.length_nil, List.length_take, List.length_drop, rowsI_len, rows64_len, rowsM_len, mI_len, mA_len]; omega)) only [va0, va1, va2, va3, va4, va5, va6, va7, va8, va9, va10, va11, va12, va13, va14, va15, vb0, vb1, vb2, vb3, w_i8, w_u8, w_i16, w_u16, w_i32, w_u32, w_i64, w_u64, lt_T, lt_F, le_T, le_F, nlt_T, nlt_F, nle_T, nle_F, List.take_of_length_le, gB, gcW, gcR, posIn, renA, renL, Chunk.ren, Chunk.refs, evOpD, touchD, stepC, isFresh, nFresh, freshOf, mkR, hole, evL, evH, opd, get, putD, ofVal, cellOf, loadE, behind, lenE, idxAddrE, idxE, addPtr, intE, strE, unE, convE, AV.int, AV.bool, AV.str, ivs, take, frameOf, firstRegion, refsA, refsL, one, cellsA, floatOk, apartT, List.map, if_true, if_false, E_P, E_glob0, E_glob1, reduceCtorEq, beq_self_eq_true, decide_true, decide_false, ↓reduceIte, Nat.reduceEqDiff, cond_true, cond_false, or_true, true_or, or_false, false_or, and_true, true_and, and_self, false_and, and_false, not_true, not_false_iff, Nat.reduceAdd, Nat.reduceSub, Nat.reduceMul, Nat.reduceLT, Nat.reduceLeDiff, Int.reduceToNat, Int.reduceLT, Int.reduceLE, Option.getD, Int.reduceMul, Int.reduceAdd, List.drop, List.take, Nat.reduceBEq, List.isEmpty, Int.reduceEq, Int.reduceNe, Int.reduceNeg, Int.reduceGT, Int.reduceGE, beq_true, beq_false, UInt8.reduceToNat, eqE, eq_self, foldE, maxE, minE, eq_T, eq_F, ndec, odec, adec, sdec, fillA, over, chop, List.replicate, leavesOk, leafOk, cellsEq, cellEq, E_ext, E_byref, en18, bs22, bs24, bs55, hrow, hrd, hrm, hmt, htl, hgs, rowsI_len, rows64_len, rowsM_len, mI_len, mA_len, mI_map, mA_get0, mA_all, Nat.mul_one, show ∀ B fr H, execT E B 18 (Code.loop _) fr H = rlG E B 18 (loopAt Tryd.f18 0) (gcn B (norm [2, 3, 4, 6, 25, 26, 27] fr) H) from fun B fr H => rl_intro rfl mt18_6 mb18_6 zf18_6 hd18_6 fr H]
              refine ⟨_, _, _, rfl, ?_⟩
              exact ⟨rfl, rfl, rfl⟩
            · simp (disch := first | omega | (simp only [List.length_append, List.length_map, List.length_set, List.length_cons, List.length_nil, List.length_take, List.length_drop, rowsI_len, rows64_len, rowsM_len, mI_len, mA_len]; omega)) only [va0, va1, va2, va3, va4, va5, va6, va7, va8, va9, va10, va11, va12, va13, va14, va15, vb0, vb1, vb2, vb3, w_i8, w_u8, w_i16, w_u16, w_i32, w_u32, w_i64, w_u64, lt_T, lt_F, le_T, le_F, nlt_T, nlt_F, nle_T, nle_F, List.take_of_length_le, gB, gcW, gcR, posIn, renA, renL, Chunk.ren, Chunk.refs, evOpD, touchD, stepC, isFresh, nFresh, freshOf, mkR, hole, evL, evH, opd, get, putD, ofVal, cellOf, loadE, behind, lenE, idxAddrE, idxE, addPtr, intE, strE, unE, convE, AV.int, AV.bool, AV.str, ivs, take, frameOf, firstRegion, refsA, refsL, one, cellsA, floatOk, apartT, List.map, if_true, if_false, E_P, E_glob0, E_glob1, reduceCtorEq, beq_self_eq_true, decide_true, decide_false, ↓reduceIte, Nat.reduceEqDiff, cond_true, cond_false, or_true, true_or, or_false, false_or, and_true, true_and, and_self, false_and, and_false, not_true, not_false_iff, Nat.reduceAdd, Nat.reduceSub, Nat.reduceMul, Nat.reduceLT, Nat.reduceLeDiff, Int.reduceToNat, Int.reduceLT, Int.reduceLE, Option.getD, Int.reduceMul, Int.reduceAdd, List.drop, List.take, Nat.reduceBEq, List.isEmpty, Int.reduceEq, Int.reduceNe, Int.reduceNeg, Int.reduceGT, Int.reduceGE, beq_true, beq_false, UInt8.reduceToNat, eqE, eq_self, foldE, maxE, minE, eq_T, eq_F, ndec, odec, adec, sdec, fillA, over, chop, List.replicate, leavesOk, leafOk, cellsEq, cellEq, E_ext, E_byref, en18, bs22, bs24, bs55, hrow, hrd, hrm, hmt, htl, hgs, rowsI_len, rows64_len, rowsM_len, mI_len, mA_len, mI_map, mA_get0, mA_all, Nat.mul_one, show ∀ B fr H, execT E B 18 (Code.loop _) fr H = rlG E B 18 (loopAt Tryd.f18 0) (gcn B (norm [2, 3, 4, 6, 25, 26, 27] fr) H) from fun B fr H => rl_intro rfl mt18_6 mb18_6 zf18_6 hd18_6 fr H]
              refine ⟨_, _, _, rfl, ?_⟩
              exact ⟨rfl, rfl, rfl⟩
        · rw [if_neg (fun h => h3 h.2)]
          obtain ⟨fr, ex, H', e, hh⟩ := ih
          refine ⟨fr, ex, H', Eq.trans ?_ e, hh⟩
          clear e hh
          cases c
          rotate_left
          · exact absurd (.inl rfl) h3
          cases sb
          rotate_left
          · exact absurd (.inr rfl) h3
          rcases h2 with h2 | h2
          · simp (disch := first | omega | (simp only [List.length_append, List.length_map, List.length_set, List.length_cons, List.length_nil, List.length_take, List.length_drop, rowsI_len, rows64_len, rowsM_len, mI_len, mA_len]; omega)) only [va0, va1, va2, va3, va4, va5, va6, va7, va8, va9, va10, va11, va12, va13, va14, va15, vb0, vb1, vb2, vb3, w_i8, w_u8, w_i16, w_u16, w_i32, w_u32, w_i64, w_u64, lt_T, lt_F, le_T, le_F, nlt_T, nlt_F, nle_T, nle_F, List.take_of_length_le, gB, gcW, gcR, posIn, renA, renL, Chunk.ren, Chunk.refs, evOpD, touchD, stepC, isFresh, nFresh, freshOf, mkR, hole, evL, evH, opd, get, putD, ofVal, cellOf, loadE, behind, lenE, idxAddrE, idxE, addPtr, intE, strE, unE, convE, AV.int, AV.bool, AV.str, ivs, take, frameOf, firstRegion, refsA, refsL, one, cellsA, floatOk, apartT, List.map, if_true, if_false, E_P, E_glob0, E_glob1, reduceCtorEq, beq_self_eq_true, decide_true, decide_false, ↓reduceIte, Nat.reduceEqDiff, cond_true, cond_false, or_true, true_or, or_false, false_or, and_true, true_and, and_self, false_and, and_false, not_true, not_false_iff, Nat.reduceAdd, Nat.reduceSub, Nat.reduceMul, Nat.reduceLT, Nat.reduceLeDiff, Int.reduceToNat, Int.reduceLT, Int.reduceLE, Option.getD, Int.reduceMul, Int.reduceAdd, List.drop, List.take, Nat.reduceBEq, List.isEmpty, Int.reduceEq, Int.reduceNe, Int.reduceNeg, Int.reduceGT, Int.reduceGE, beq_true, beq_false, UInt8.reduceToNat, eqE, eq_self, foldE, maxE, minE, eq_T, eq_F, ndec, odec, adec, sdec, fillA, over, chop, List.replicate, leavesOk, leafOk, cellsEq, cellEq, E_ext, E_byref, en18, bs22, bs24, bs55, hrow, hrd, hrm, hmt, hmt2, hdr, htl, hal, hgs, ha, hsq, hrg, ik24, rowsI_len, rows64_len, rowsM_len, mI_len, mA_len, mI_map, mA_get0, mA_all, mA_frz, mA_cn, mA_refs, mA_ren, mI_ivs, Nat.mul_one, show ∀ B fr H, execT E B 18 (Code.rangeFunc _ _ _ _) fr H = rgO (rdF E 18 (rfAt Tryd.f18 0)) 74 fr H (seqE E H (opd E fr _)) from fun B fr H => rf_intro rfl rfl fr H, show ∀ B fr H, execT E B 18 (Code.loop _) fr H = rlG E B 18 (loopAt Tryd.f18 0) (gcn B (norm [2, 3, 4, 6, 25, 26, 27] fr) H) from fun B fr H => rl_intro rfl mt18_6 mb18_6 zf18_6 hd18_6 fr H]
          · simp (disch := first | omega | (simp only [List.length_append, List.length_map, List.length_set, List.length_cons, List.length_nil, List.length_take, List.length_drop, rowsI_len, rows64_len, rowsM_len, mI_len, mA_len]; omega)) only [va0, va1, va2, va3, va4, va5, va6, va7, va8, va9, va10, va11, va12, va13, va14, va15, vb0, vb1, vb2, vb3, w_i8, w_u8, w_i16, w_u16, w_i32, w_u32, w_i64, w_u64, lt_T, lt_F, le_T, le_F, nlt_T, nlt_F, nle_T, nle_F, List.take_of_length_le, gB, gcW, gcR, posIn, renA, renL, Chunk.ren, Chunk.refs, evOpD, touchD, stepC, isFresh, nFresh, freshOf, mkR, hole, evL, evH, opd, get, putD, ofVal, cellOf, loadE, behind, lenE, idxAddrE, idxE, addPtr, intE, strE, unE, convE, AV.int, AV.bool, AV.str, ivs, take, frameOf, firstRegion, refsA, refsL, one, cellsA, floatOk, apartT, List.map, if_true, if_false, E_P, E_glob0, E_glob1, reduceCtorEq, beq_self_eq_true, decide_true, decide_false, ↓reduceIte, Nat.reduceEqDiff, cond_true, cond_false, or_true, true_or, or_false, false_or, and_true, true_and, and_self, false_and, and_false, not_true, not_false_iff, Nat.reduceAdd, Nat.reduceSub, Nat.reduceMul, Nat.reduceLT, Nat.reduceLeDiff, Int.reduceToNat, Int.reduceLT, Int.reduceLE, Option.getD, Int.reduceMul, Int.reduceAdd, List.drop, List.take, Nat.reduceBEq, List.isEmpty, Int.reduceEq, Int.reduceNe, Int.reduceNeg, Int.reduceGT, Int.reduceGE, beq_true, beq_false, UInt8.reduceToNat, eqE, eq_self, foldE, maxE, minE, eq_T, eq_F, ndec, odec, adec, sdec, fillA, over, chop, List.replicate, leavesOk, leafOk, cellsEq, cellEq, E_ext, E_byref, en18, bs22, bs24, bs55, hrow, hrd, hrm, hmt, hmt2, hdr, htl, hal, hgs, ha, hsq, hrg, ik24, rowsI_len, rows64_len, rowsM_len, mI_len, mA_len, mI_map, mA_get0, mA_all, mA_frz, mA_cn, mA_refs, mA_ren, mI_ivs, Nat.mul_one, show ∀ B fr H, execT E B 18 (Code.rangeFunc _ _ _ _) fr H = rgO (rdF E 18 (rfAt Tryd.f18 0)) 74 fr H (seqE E H (opd E fr _)) from fun B fr H => rf_intro rfl rfl fr H, show ∀ B fr H, execT E B 18 (Code.loop _) fr H = rlG E B 18 (loopAt Tryd.f18 0) (gcn B (norm [2, 3, 4, 6, 25, 26, 27] fr) H) from fun B fr H => rl_intro rfl mt18_6 mb18_6 zf18_6 hd18_6 fr H]
      · rw [if_neg (fun h => h2 h.1)]
        obtain ⟨fr, ex, H', e, hh⟩ := ih
        refine ⟨fr, ex, H', Eq.trans ?_ e, hh⟩
        clear e hh
        simp (disch := first | omega | (simp only [List.length_append, List.length_map, List.length_set, List.length_cons, List.length_nil, List.length_take, List.length_drop, rowsI_len, rows64_len, rowsM_len, mI_len, mA_len]; omega)) only [va0, va1, va2, va3, va4, va5, va6, va7, va8, va9, va10, va11, va12, va13, va14, va15, vb0, vb1, vb2, vb3, w_i8, w_u8, w_i16, w_u16, w_i32, w_u32, w_i64, w_u64, lt_T, lt_F, le_T, le_F, nlt_T, nlt_F, nle_T, nle_F, List.take_of_length_le, gB, gcW, gcR, posIn, renA, renL, Chunk.ren, Chunk.refs, evOpD, touchD, stepC, isFresh, nFresh, freshOf, mkR, hole, evL, evH, opd, get, putD, ofVal, cellOf, loadE, behind, lenE, idxAddrE, idxE, addPtr, intE, strE, unE, convE, AV.int, AV.bool, AV.str, ivs, take, frameOf, firstRegion, refsA, refsL, one, cellsA, floatOk, apartT, List.map, if_true, if_false, E_P, E_glob0, E_glob1, reduceCtorEq, beq_self_eq_true, decide_true, decide_false, ↓reduceIte, Nat.reduceEqDiff, cond_true, cond_false, or_true, true_or, or_false, false_or, and_true, true_and, and_self, false_and, and_false, not_true, not_false_iff, Nat.reduceAdd, Nat.reduceSub, Nat.reduceMul, Nat.reduceLT, Nat.reduceLeDiff, Int.reduceToNat, Int.reduceLT, Int.reduceLE, Option.getD, Int.reduceMul, Int.reduceAdd, List.drop, List.take, Nat.reduceBEq, List.isEmpty, Int.reduceEq, Int.reduceNe, Int.reduceNeg, Int.reduceGT, Int.reduceGE, beq_true, beq_false, UInt8.reduceToNat, eqE, eq_self, foldE, maxE, minE, eq_T, eq_F, ndec, odec, adec, sdec, fillA, over, chop, List.replicate, leavesOk, leafOk, cellsEq, cellEq, E_ext, E_byref, en18, bs22, bs24, bs55, hrow, hrd, hrm, hmt, hmt2, hdr, htl, hal, ha, hsq, hrg, ik24, rowsI_len, rows64_len, rowsM_len, mI_len, mA_len, mI_map, mA_get0, mA_all, mA_frz, mA_cn, mA_refs, mA_ren, mI_ivs, Nat.mul_one, show ∀ B fr H, execT E B 18 (Code.rangeFunc _ _ _ _) fr H = rgO (rdF E 18 (rfAt Tryd.f18 0)) 74 fr H (seqE E H (opd E fr _)) from fun B fr H => rf_intro rfl rfl fr H, show ∀ B fr H, execT E B 18 (Code.loop _) fr H = rlG E B 18 (loopAt Tryd.f18 0) (gcn B (norm [2, 3, 4, 6, 25, 26, 27] fr) H) from fun B fr H => rl_intro rfl mt18_6 mb18_6 zf18_6 hd18_6 fr H]
  · obtain rfl : k = l.length := by omega
    rw [List.drop_length, hRun]
    simp (disch := first | omega | (simp only [List.length_append, List.length_map, List.length_set, List.length_cons, List.length_nil, List.length_take, List.length_drop, rows64_len, rowsI_len, rowsM_len]; omega)) only [va0, va1, va2, va3, va4, va5, va6, va7, va8, va9, va10, va11, va12, va13, va14, va15, vb0, vb1, vb2, vb3, w_i8, w_u8, w_i16, w_u16, w_i32, w_u32, w_i64, w_u64, lt_T, lt_F, le_T, le_F, nlt_T, nlt_F, nle_T, nle_F, List.take_of_length_le, gB, gcW, gcR, posIn, renA, renL, Chunk.ren, Chunk.refs, evOpD, touchD, stepC, isFresh, nFresh, freshOf, mkR, hole, evL, evH, opd, get, putD, ofVal, cellOf, loadE, behind, lenE, idxAddrE, idxE, addPtr, intE, strE, unE, convE, AV.int, AV.bool, AV.str, ivs, take, frameOf, firstRegion, refsA, refsL, one, cellsA, floatOk, apartT, List.map, if_true, if_false, E_P, E_glob0, E_glob1, reduceCtorEq, beq_self_eq_true, decide_true, decide_false, ↓reduceIte, Nat.reduceEqDiff, cond_true, cond_false, or_true, true_or, or_false, false_or, and_true, true_and, and_self, false_and, and_false, not_true, not_false_iff, Nat.reduceAdd, Nat.reduceSub, Nat.reduceMul, Nat.reduceLT, Nat.reduceLeDiff, Int.reduceToNat, Int.reduceLT, Int.reduceLE, Option.getD, Int.reduceMul, Int.reduceAdd, List.drop, List.take, Nat.reduceBEq, List.isEmpty, Int.reduceEq, Int.reduceNe, Int.reduceNeg, Int.reduceGT, Int.reduceGE, beq_true, beq_false, UInt8.reduceToNat, eqE, eq_self, foldE, maxE, minE, eq_T, eq_F, ndec, odec, adec, sdec, fillA, over, chop, List.replicate, leavesOk, leafOk, cellsEq, cellEq, E_ext, E_byref, en18, bs22, bs24, bs55, rows64_len, rowsI_len, rowsM_len, show ∀ B fr H, execT E B 18 (Code.loop _) fr H = rlG E B 18 (loopAt Tryd.f18 0) (gcn B (norm [2, 3, 4, 6, 25, 26, 27] fr) H) from fun B fr H => rl_intro rfl mt18_6 mb18_6 zf18_6 hd18_6 fr H]
    refine ⟨_, _, _, rfl, ?_⟩
    rfl
termination_by l.length - k
end Go.VI

