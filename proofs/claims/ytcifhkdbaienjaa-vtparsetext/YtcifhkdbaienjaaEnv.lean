/- VI: the environment of this seat: which slots live behind each region, and closed facts on the types. Printed by program. -/
import Derived.Test.YtcifhkdbaienjaaProg
import Derived.Test.YtcifhkdbaienjaaVC
import Derived.KernelRfl
set_option linter.unusedVariables false
set_option linter.defProp false
namespace Go.VI
open Go.Proofs
def keepT : List (Nat × List (Nat × List Nat)) := [
  (2, [(0, [])]),
  (3, [(0, [1, 2, 3]), (1, [1, 2, 3, 16]), (2, [6]), (3, [1, 3, 7]), (4, [1, 3, 7, 8, 9]), (5, [1, 3, 9, 10, 11]), (6, [1, 9, 10, 11, 12, 13]), (7, [9, 10, 11, 12, 13, 48]), (8, [6]), (9, [6])]),
  (4, [(0, [1, 2]), (1, [1, 2, 13]), (2, [4]), (3, [1, 2, 5, 6]), (4, [1, 2, 6, 7, 8]), (5, [6, 7, 8, 9, 10]), (6, [4])]),
  (5, [(0, [1, 2]), (1, [1, 2, 13]), (2, [4]), (3, [1, 2, 5, 6]), (4, [1, 2, 5, 6, 17, 18]), (5, [1, 2, 5, 6, 17, 18, 19]), (6, [1, 2, 5, 6, 7, 17, 18]), (7, [1, 2, 5, 6, 8, 17, 18]), (8, [1, 2, 5, 6, 8, 17, 18]), (9, [1, 2, 5, 6, 17, 18]), (10, [1, 2, 5, 6, 17, 18]), (11, [6, 9, 10]), (12, [6, 9, 10, 53]), (13, [6, 9, 10]), (14, [4])]),
  (6, [(0, [1, 2]), (1, [1, 2, 11]), (2, [4]), (3, [1, 2, 5, 6]), (4, [2, 5, 6, 7, 8]), (5, [4])]),
  (7, [(0, [1, 2]), (1, [4])]),
  (8, [(0, []), (1, [1, 2]), (2, [0])]),
  (9, [(0, [1, 2, 4]), (1, [1, 2, 4, 6]), (2, [1, 2, 4, 6, 11]), (3, [1, 4, 6]), (4, [1, 4, 6, 7]), (5, [1, 4, 6, 7, 19]), (6, [1, 4, 6, 7]), (7, [1, 4, 6, 7, 47]), (8, [1, 4, 6, 7]), (9, [1, 4, 6, 7]), (10, [4, 5])]),
  (10, [(0, [0, 1]), (1, [0, 1, 10]), (2, [4]), (3, [0, 1, 5]), (4, [0, 1, 5, 14]), (5, [0, 1, 5]), (6, [0, 1, 5, 26]), (7, [4]), (8, [4])]),
  (11, [(0, [2, 3]), (1, [4])]),
  (12, [(0, [1, 2, 4]), (1, [1, 2, 4, 11]), (2, [1, 2, 4]), (3, [1, 2, 4, 6]), (4, [1, 2, 4, 6, 7]), (5, [1, 2, 4, 6, 7, 17]), (6, [1, 2, 4, 6, 7]), (7, [1, 2, 4, 6, 7]), (8, [1, 2, 4, 6, 7, 21]), (9, [1, 2, 4, 6, 7, 8]), (10, [1, 2, 4, 6, 7, 21, 30]), (11, [1, 2, 4, 6, 7, 8]), (12, [1, 2, 4, 6, 7, 21, 40]), (13, [1, 2, 4, 6, 7, 40]), (14, [1, 2, 4, 6, 7, 8]), (15, [1, 2, 4, 6, 7]), (16, [4, 5])]),
  (13, [(0, [1]), (1, [2])]),
  (14, [(0, [1]), (1, [2])]),
  (15, [(0, [1]), (1, [1, 7]), (2, [1, 3, 4]), (3, [2]), (4, [1, 30]), (5, [2]), (6, [1, 32]), (7, [1, 32, 33]), (8, [2]), (9, [1, 32, 44]), (10, [2]), (11, [1, 32, 55]), (12, [1, 55]), (13, [2]), (14, [2])]),
  (16, [(0, [0, 3]), (1, [])]),
  (17, [(0, [0, 1, 8]), (1, [0, 1, 8, 9]), (2, [0, 1, 8, 11]), (3, [0, 1, 8, 13]), (4, [0, 1, 15]), (5, []), (6, [0, 1, 21]), (7, []), (8, [0, 1]), (9, []), (10, []), (11, [])]),
  (18, [(0, [0, 1]), (1, [0, 1, 10]), (2, [4]), (3, [0, 1, 5]), (4, [0, 1, 5, 14]), (5, [0, 1, 5]), (6, [0, 1, 5, 25]), (7, [4]), (8, [4])]),
  (19, [(0, [1]), (1, [1, 6]), (2, [1, 6, 7]), (3, [1, 12]), (4, [2]), (5, [1, 3, 4]), (6, [2]), (7, [1, 6, 33]), (8, [2]), (9, [1, 6, 43]), (10, [2]), (11, [1, 6, 53]), (12, [1, 53]), (13, [2]), (14, [2])]),
  (20, [(0, [1, 2, 4]), (1, [1, 2, 4, 16]), (2, [4, 6, 7]), (3, [4, 6, 7, 8]), (4, [4, 6, 7, 8, 9]), (5, [4, 6, 7, 8, 9, 30]), (6, [4, 6, 7, 8, 9]), (7, [4, 6, 7, 8, 9, 44]), (8, [4, 6, 7, 8, 9]), (9, [4, 5]), (10, [1, 2, 4, 10]), (11, [1, 4, 10, 59]), (12, [1, 4, 10]), (13, [1, 4, 10, 64]), (14, [1, 4, 10, 64, 65]), (15, [1, 4, 10, 64, 65]), (16, [1, 4, 10, 64, 65]), (17, [4, 5]), (18, [1, 4, 10, 71]), (19, [4, 5]), (20, [4, 5])]),
  (21, [(0, [1, 2, 4]), (1, [1, 2, 4, 10]), (2, [4, 5]), (3, [1, 2, 4, 14]), (4, [4, 5]), (5, [1, 2, 4, 22]), (6, [4, 5]), (7, [1, 2, 4, 29]), (8, [4, 5]), (9, [1, 2, 4, 33]), (10, [4, 5]), (11, [1, 2, 4, 43]), (12, [1, 2, 4, 44]), (13, [1, 2, 4, 50]), (14, [2, 4]), (15, [4, 5]), (16, [1, 2, 4, 59]), (17, [4, 5]), (18, [1, 2, 4, 68]), (19, [4, 5]), (20, [1, 2, 4, 77]), (21, [4, 5]), (22, [4, 5]), (23, [1, 2, 4, 90]), (24, [1, 2, 4, 94]), (25, [2, 4]), (26, [4, 5]), (27, [1, 2, 4, 6, 7, 8, 9]), (28, [1, 4, 6, 7, 8, 118]), (29, [4, 5]), (30, [4, 5])]),
  (22, [(0, [1, 2, 4]), (1, [1, 2, 4, 6]), (2, [1, 2, 4, 6, 13]), (3, [1, 4, 6, 15]), (4, [4, 5]), (5, [4, 5]), (6, [1, 2, 4, 6, 23]), (7, [4, 5]), (8, [1, 2, 4, 28]), (9, [2, 4]), (10, [1, 2, 4, 32]), (11, [4, 5]), (12, [1, 2, 4, 40]), (13, [2, 4]), (14, [4, 5])]),
  (23, [(0, [0, 1]), (1, [6]), (2, [6, 7]), (3, [6, 7, 8]), (4, [6, 7, 8, 9]), (5, [6, 7, 8, 9, 16, 17]), (6, [6, 7, 8, 9, 16, 17, 18]), (7, [6, 7, 8, 9, 10, 16, 17]), (8, [6, 7, 8, 9, 10, 11, 16, 17]), (9, [6, 7, 8, 9, 10, 11, 16, 17, 37]), (10, [6, 7, 8, 9, 16, 17]), (11, [6, 7, 8, 9, 16, 17, 51]), (12, [6, 7, 8, 9, 16, 17]), (13, [6, 7, 8, 10, 11, 16, 17, 59]), (14, [6, 7, 8, 10, 11, 16, 17]), (15, [6, 7, 8, 9, 11, 16, 17]), (16, [6, 7, 8, 9, 11, 16, 17, 66]), (17, [6, 7, 8, 9, 16, 17]), (18, [6, 7, 8, 9, 16, 17, 74]), (19, [6, 7, 8, 9, 16, 17]), (20, [6, 7, 8, 9, 16, 17]), (21, [6, 7, 9, 84]), (22, [4, 5]), (23, [4, 5])]),
  (24, [(0, [0, 4, 5]), (1, [6])]),
  (25, [(0, [0, 1, 11]), (1, [0, 4, 5]), (2, [0, 4]), (3, []), (4, [0, 1, 37]), (5, [0, 1]), (6, [0, 1]), (7, [0, 1, 45]), (8, []), (9, [0, 1, 45, 50]), (10, []), (11, [0, 1, 45, 54]), (12, [0, 1, 45, 54]), (13, [0, 1, 54])]),
  (26, [(0, [0, 2]), (1, [0, 2]), (2, [])]),
  (27, [(0, [])]),
  (28, [(0, [0, 1, 4]), (1, [0, 1, 4]), (2, [0, 1, 4, 14]), (3, []), (4, [0, 1, 4, 20]), (5, [0, 1, 4, 24]), (6, []), (7, [0, 1, 4, 30]), (8, []), (9, [0, 1, 4, 39]), (10, [])]),
  (29, [(0, [0, 1, 4]), (1, [0, 1, 4]), (2, [0, 1, 4, 18]), (3, [0, 1, 5, 6, 7, 8]), (4, [0, 1, 5, 6, 7, 27]), (5, []), (6, [0, 1, 4, 35]), (7, [0, 1, 4, 39]), (8, [])]),
  (30, [(0, [0, 1, 4]), (1, [0, 1, 6]), (2, []), (3, [0, 1, 4, 10]), (4, []), (5, [0, 1, 4, 14]), (6, []), (7, [0, 1, 4, 20]), (8, [0, 1, 20]), (9, [])]),
  (31, [(0, [0, 1]), (1, [6]), (2, [6, 7]), (3, [6, 7, 8]), (4, [6, 7, 8, 9]), (5, [6, 7, 8, 9, 25]), (6, [6, 7, 8, 9, 10]), (7, [6, 7, 8, 9, 10, 31]), (8, [6, 7, 8, 9, 10]), (9, [6, 7, 8, 9, 10, 13]), (10, [6, 7, 8, 9]), (11, [6, 7, 8, 9, 10, 13, 44]), (12, [6, 7, 8, 9]), (13, [6, 7, 8, 9, 10, 52]), (14, [6, 7, 8, 9]), (15, [6, 7, 8, 9, 10, 14, 15, 16]), (16, [6, 7, 8, 9, 10, 16, 72]), (17, [6, 7, 9]), (18, [6, 7, 8, 9]), (19, [6, 7, 8, 9, 10, 16]), (20, [6, 7, 8, 9, 16]), (21, [6, 7, 8, 9, 86]), (22, [6, 7, 9]), (23, [6, 7, 8, 9]), (24, [4, 5])]),
  (32, [(0, [0, 1, 2, 3]), (1, [0, 2, 3, 13]), (2, [8]), (3, [0, 2, 3, 9]), (4, [0, 2, 3, 9, 17]), (5, [0, 2, 3, 9]), (6, [0, 2, 3, 9, 31]), (7, [8]), (8, [8])]),
  (33, [(0, [0]), (1, [0, 6]), (2, [0, 6, 7]), (3, [0, 6, 7, 23]), (4, [0, 6]), (5, [0, 6, 7]), (6, [0, 6, 7, 8]), (7, [0, 6, 7, 8, 48]), (8, [0, 6, 7, 8]), (9, [6, 9, 10]), (10, [6, 9, 10, 11]), (11, [6, 9, 10, 11, 61]), (12, [6, 9, 10, 11]), (13, [6, 9, 10, 11, 68]), (14, [2, 3, 4, 5]), (15, [6, 9, 10, 12]), (16, [6, 9, 10, 12, 13]), (17, [6, 9, 10, 12, 13, 72]), (18, [6, 9, 10, 12, 13]), (19, [6, 9, 10, 12, 13, 14]), (20, [6, 9, 10, 12, 13, 14, 79]), (21, [6, 9, 10, 12, 13, 14]), (22, [6, 9, 10, 12, 13, 14, 85]), (23, [6, 9, 10, 12, 13, 14]), (24, [6, 9, 10, 12, 13, 14, 15]), (25, [6, 9, 10, 12, 13, 14, 15, 96]), (26, [6, 9, 10, 12, 13, 14, 15]), (27, [6, 9, 10, 12, 13, 14, 15]), (28, [6, 9, 10, 12, 13, 14, 15, 106]), (29, [6, 9, 10, 12, 13, 14]), (30, [6, 9, 10, 12, 13, 14, 15]), (31, [6, 9, 10, 12, 13, 14]), (32, [6, 10, 12, 123]), (33, [2, 3, 4, 5]), (34, [2, 3, 4, 5])]),
  (34, [(0, [0, 2]), (1, [0, 2, 3]), (2, [0, 2, 3, 5]), (3, [0, 2, 3]), (4, [0, 2, 3, 17]), (5, [0, 2, 3]), (6, [0, 2, 3, 29]), (7, [0, 2, 3]), (8, [2, 3, 41]), (9, [2, 3, 41, 42]), (10, [2, 3]), (11, [2, 3, 41, 45]), (12, [2, 3]), (13, [2, 3, 41, 48]), (14, [2, 3]), (15, [2, 3, 51]), (16, [2, 3]), (17, [2])]),
  (35, [(0, [0, 1]), (1, [4])]),
  (36, [(0, [0, 1, 2]), (1, [4])]),
  (37, [(0, [0, 6, 7, 8]), (1, [0, 6, 7, 8, 9]), (2, [0, 5, 6, 7, 8]), (3, [0, 5, 6, 7, 8, 17]), (4, [0, 6, 7, 8]), (5, [0, 6, 7, 8])]),
  (38, [(0, [0, 1]), (1, [4]), (2, [0, 1, 5]), (3, []), (4, [0, 1, 10]), (5, []), (6, [0, 1, 19]), (7, []), (8, [0, 1, 26]), (9, [0, 1, 29]), (10, [0, 1]), (11, []), (12, [4])]),
  (39, [(0, [0, 1, 13]), (1, [])]),
  (40, [(0, [0]), (1, [0, 6]), (2, [0, 6, 19]), (3, [0, 6]), (4, [0, 6, 7]), (5, [0, 6, 7, 8, 9]), (6, [0, 6, 7, 8, 9, 10]), (7, [0, 6, 7, 8, 9, 10, 28]), (8, [0, 6, 7, 8, 9, 10]), (9, [0, 6, 7, 8, 9, 10, 11]), (10, [0, 6, 7, 8, 9, 10, 11, 35]), (11, [0, 6, 7, 8, 9, 10]), (12, [0, 6, 7, 8, 9, 10, 11, 43]), (13, [0, 6, 7, 8, 9, 10]), (14, [0, 6, 7, 9, 10, 53]), (15, [0, 6, 7, 9]), (16, [6, 7, 12]), (17, [2, 3, 4, 5]), (18, [6, 7, 12, 62]), (19, [2, 3, 4, 5]), (20, [6, 7, 12, 66]), (21, [2, 3, 4, 5])]),
  (41, [(0, [0]), (1, [0, 10]), (2, [2, 3, 4]), (3, [0, 5]), (4, [0, 5, 11]), (5, [0, 5]), (6, [0, 5, 22]), (7, [0, 5]), (8, [0, 5, 33]), (9, [0, 5]), (10, [0, 5, 6, 7]), (11, [0, 5, 6, 7, 46]), (12, [5, 6, 7, 49]), (13, [5, 6, 7, 49, 50]), (14, [5, 6, 7]), (15, [5, 6, 7, 49, 52]), (16, [5, 6, 7]), (17, [5, 6, 7, 49, 54]), (18, [5, 6, 7]), (19, [5, 6, 7, 56]), (20, [5, 6, 7]), (21, [2, 3, 4])]),
  (42, [(0, [0]), (1, [0, 3]), (2, [0, 3, 6]), (3, [0, 3, 6, 7]), (4, [0, 3]), (5, [0, 3, 6, 14]), (6, [0, 3]), (7, [0, 3, 21]), (8, [0, 3]), (9, [0, 3, 4]), (10, [0, 3, 4, 31]), (11, [0, 3, 4]), (12, [0, 3, 4]), (13, [2])]),
  (43, [(0, [0]), (1, [2])]),
  (44, [(0, [0]), (1, [2])]),
  (45, [(0, [0, 1]), (1, [0, 1, 7, 8]), (2, [0, 1, 7, 8, 9]), (3, [0, 1, 5, 7, 8]), (4, [0, 1, 5, 7, 8, 16]), (5, [4]), (6, [0, 1, 7, 8]), (7, [4])]),
  (46, [(0, [0]), (1, [2])]),
  (47, [(0, [1]), (1, [])]),
  (48, [(0, [0]), (1, [2])]),
  (49, [(0, [0, 1]), (1, [4])]),
  (50, [(0, [0, 1]), (1, [4])]),
  (51, [(0, [0]), (1, [2])]),
  (52, [(0, [0, 1]), (1, [4])]),
  (53, [(0, [0]), (1, [2])]),
  (54, [(0, [0, 1]), (1, [4])]),
  (55, [(0, [0, 1]), (1, [0, 1, 7, 8]), (2, [0, 1, 7, 8, 9]), (3, [0, 1, 5, 7, 8]), (4, [0, 1, 5, 7, 8, 16]), (5, [4]), (6, [0, 1, 7, 8]), (7, [4])]),
  (56, [(0, [0, 1, 2]), (1, [1, 2, 10]), (2, [1, 2, 10, 11, 12]), (3, [1, 2, 7, 8, 10]), (4, [1, 2, 7, 10, 19]), (5, [6]), (6, [6])])]
def headT : List (Nat × List (Nat × List Nat)) := [
  (5, [(5, [1, 2, 5, 6, 17, 18])]),
  (9, [(5, [1, 4, 6, 7])]),
  (10, [(4, [0, 1, 5])]),
  (12, [(5, [1, 2, 4, 6, 7])]),
  (18, [(4, [0, 1, 5])]),
  (20, [(5, [4, 6, 7, 8, 9])]),
  (23, [(6, [6, 7, 8, 9, 16, 17])]),
  (31, [(5, [6, 7, 8, 9])]),
  (32, [(4, [0, 2, 3, 9])]),
  (33, [(7, [0, 6, 7, 8]), (11, [6, 9, 10, 11]), (20, [6, 9, 10, 12, 13, 14])]),
  (37, [(1, [0, 6, 7, 8])]),
  (40, [(7, [0, 6, 7, 8, 9, 10])]),
  (42, [(10, [0, 3, 4])]),
  (45, [(2, [0, 1, 7, 8])]),
  (55, [(2, [0, 1, 7, 8])]),
  (56, [(2, [1, 2, 10])])]
def lk2 (t : List (Nat × List (Nat × List Nat))) (f i : Nat) : List Nat := match t.lookup f with | some l => (l.lookup i).getD [] | none => []
def floT : List (Nat × List (Nat × List (Nat × Nat))) := [
  (3, [(4, [(0, 8), (3, 8), (4, 8)]), (5, [(0, 8), (3, 8), (4, 8)])]),
  (6, [(5, [(10, 11)])]),
  (9, [(10, [(7, 8)])]),
  (10, [(6, [])]),
  (12, [(9, []), (11, []), (14, [])]),
  (16, [(1, [(4, 6)])]),
  (18, [(6, [])]),
  (21, [(22, [(2, 6), (5, 6)])]),
  (23, [(23, [])]),
  (25, [(1, [(4, 6)])]),
  (31, [(24, [])]),
  (33, [(9, [])]),
  (39, [(1, [(4, 6)])]),
  (40, [(3, []), (17, [])])]
def lkF (t : List (Nat × List (Nat × List (Nat × Nat)))) (f i : Nat) : List (Nat × Nat) := match t.lookup f with | some l => (l.lookup i).getD [] | none => []
def matT : List (Nat × List (Nat × List (Nat × Nat))) := [(5, [(5, [(6, 7)])]), (12, [(5, [(6, 7)])]), (20, [(5, [(8, 7)])]), (23, [(6, [(7, 1)])]), (31, [(5, [(7, 1), (8, 1)])]), (33, [(20, [(12, 1)])])]
def matbT : List (Nat × List (Nat × List (Nat × Nat × Nat))) := [(9, [(5, [(6, 3, 7)])]), (40, [(7, [(7, 0, 1)])])]
def frzT : List (Nat × List (Nat × List (Nat × Nat))) := []
def lkG {α : Type} (t : List (Nat × List (Nat × List α))) (f i : Nat) : List α := match t.lookup f with | some l => (l.lookup i).getD [] | none => []
def kindT : List (Nat × List (Option Nat)) := [(27, [some 7]), (33, [some 1]), (34, [none, none, none, none, none, some 1, none]), (35, [none, none, none, none, none, some 1, none]), (36, [some 1]), (39, [none, none, none, some 7]), (40, [none, none, none, some 7]), (45, [some 1])]
def argkT : List (Nat × List (List (Option Nat))) := [(10, [[some 7], [some 7]]), (11, [[none, none, none, none, none, some 1, none], [none, none, none, none, none, some 1, none]]), (16, [[], [none, none, none, none, none, some 1, none]]), (18, [[some 1], [some 1]]), (35, [[some 1]]), (37, [[], [some 1]]), (41, [[some 1]]), (42, [[some 1]]), (45, [[some 1]]), (49, [[some 1]]), (52, [[some 1]]), (55, [[some 1]])]
def reskT : List (Nat × List (List (Option Nat))) := [(9, [[], [some 7]]), (12, [[], [some 7]]), (20, [[], [some 7]]), (21, [[], [some 7]]), (22, [[], [some 7]]), (23, [[some 1]]), (31, [[some 1]]), (33, [[], [some 1]]), (40, [[], [some 1]])]
noncomputable def E : Env := { P := Try.prog, keep := lk2 keepT, head := lk2 headT, flo := lkF floT, hol := fun f i => [(3, 4), (3, 5), (21, 22)].contains (f, i), glob := fun _ => none, byref := fun f => [41, 42].contains f, ext := fun f =>  none, kinds := fun t => (kindT.lookup t).getD [], argk := fun f => (argkT.lookup f).getD [], resk := fun f => (reskT.lookup f).getD [], own := fun f => false, mat := lkG matT, matb := lkG matbT, frz := lkG frzT }
theorem E_P : E.P = Try.prog := rfl
theorem E_glob (g : Nat) : E.glob g = none := rfl
theorem E_ext (f : Nat) : E.ext f = none := rfl
theorem E_byref (f : Nat) : E.byref f = [41, 42].contains f := rfl
theorem agg21 : aggO Try.prog 21 = some false := by kernel_rfl
theorem agg23 : aggO Try.prog 23 = some true := by kernel_rfl
theorem agg24 : aggO Try.prog 24 = some false := by kernel_rfl
theorem agg27 : aggO Try.prog 27 = some false := by kernel_rfl
theorem agg3 : aggO Try.prog 3 = some false := by kernel_rfl
theorem agg33 : aggO Try.prog 33 = some false := by kernel_rfl
theorem agg35 : aggO Try.prog 35 = some true := by kernel_rfl
theorem agg36 : aggO Try.prog 36 = some false := by kernel_rfl
theorem agg38 : aggO Try.prog 38 = some false := by kernel_rfl
theorem agg4 : aggO Try.prog 4 = some false := by kernel_rfl
theorem agg40 : aggO Try.prog 40 = some true := by kernel_rfl
theorem agg45 : aggO Try.prog 45 = some false := by kernel_rfl
theorem agg5 : aggO Try.prog 5 = some false := by kernel_rfl
theorem agg55 : aggO Try.prog 55 = some true := by kernel_rfl
theorem agg59 : aggO Try.prog 59 = some false := by kernel_rfl
theorem agg69 : aggO Try.prog 69 = some false := by kernel_rfl
theorem agg71 : aggO Try.prog 71 = some false := by kernel_rfl
theorem agg9 : aggO Try.prog 9 = some false := by kernel_rfl
theorem arr23 : arrO Try.prog 23 = none := by kernel_rfl
theorem arr27 : arrO Try.prog 27 = none := by kernel_rfl
theorem arr33 : arrO Try.prog 33 = none := by kernel_rfl
theorem arr35 : arrO Try.prog 35 = none := by kernel_rfl
theorem arr36 : arrO Try.prog 36 = none := by kernel_rfl
theorem arr40 : arrO Try.prog 40 = none := by kernel_rfl
theorem arr45 : arrO Try.prog 45 = none := by kernel_rfl
theorem arr55 : arrO Try.prog 55 = none := by kernel_rfl
theorem arr9 : arrO Try.prog 9 = none := by kernel_rfl
theorem arrz23 : arrO Try.prog 23 = none := by kernel_rfl
theorem arrz35 : arrO Try.prog 35 = none := by kernel_rfl
theorem arrz40 : arrO Try.prog 40 = none := by kernel_rfl
theorem arrz55 : arrO Try.prog 55 = none := by kernel_rfl
theorem eqg23 : eqgO Try.prog 23 = false := by kernel_rfl
theorem fld23_0 : fldO Try.prog 23 0 = some (0, 3) := by kernel_rfl
theorem fld23_1 : fldO Try.prog 23 1 = some (1, 9) := by kernel_rfl
theorem fld23_2 : fldO Try.prog 23 2 = some (2, 9) := by kernel_rfl
theorem fld35_0 : fldO Try.prog 35 0 = some (0, 3) := by kernel_rfl
theorem fld35_1 : fldO Try.prog 35 1 = some (1, 21) := by kernel_rfl
theorem fld35_2 : fldO Try.prog 35 2 = some (2, 5) := by kernel_rfl
theorem fld35_3 : fldO Try.prog 35 3 = some (3, 5) := by kernel_rfl
theorem fld35_4 : fldO Try.prog 35 4 = some (4, 9) := by kernel_rfl
theorem fld35_5 : fldO Try.prog 35 5 = some (5, 33) := by kernel_rfl
theorem fld35_6 : fldO Try.prog 35 6 = some (6, 9) := by kernel_rfl
theorem fld40_0 : fldO Try.prog 40 0 = some (0, 23) := by kernel_rfl
theorem fld40_1 : fldO Try.prog 40 1 = some (3, 27) := by kernel_rfl
theorem fld55_0 : fldO Try.prog 55 0 = some (0, 21) := by kernel_rfl
theorem fld55_1 : fldO Try.prog 55 1 = some (1, 3) := by kernel_rfl
theorem fld55_2 : fldO Try.prog 55 2 = some (2, 5) := by kernel_rfl
theorem fld55_3 : fldO Try.prog 55 3 = some (3, 5) := by kernel_rfl
theorem kind21 : kindO Try.prog 21 = some .i32 := by kernel_rfl
theorem kind23 : kindO Try.prog 23 = none := by kernel_rfl
theorem kind24 : kindO Try.prog 24 = some .u16 := by kernel_rfl
theorem kind27 : kindO Try.prog 27 = none := by kernel_rfl
theorem kind3 : kindO Try.prog 3 = some .i64 := by kernel_rfl
theorem kind33 : kindO Try.prog 33 = none := by kernel_rfl
theorem kind35 : kindO Try.prog 35 = none := by kernel_rfl
theorem kind36 : kindO Try.prog 36 = none := by kernel_rfl
theorem kind38 : kindO Try.prog 38 = none := by kernel_rfl
theorem kind4 : kindO Try.prog 4 = none := by kernel_rfl
theorem kind45 : kindO Try.prog 45 = none := by kernel_rfl
theorem kind5 : kindO Try.prog 5 = some .u8 := by kernel_rfl
theorem kind59 : kindO Try.prog 59 = none := by kernel_rfl
theorem kind69 : kindO Try.prog 69 = none := by kernel_rfl
theorem kind71 : kindO Try.prog 71 = none := by kernel_rfl
theorem kind9 : kindO Try.prog 9 = none := by kernel_rfl
theorem lv23 : leaves Try.prog 9 23 = some [.int .i64, .str, .str] := by kernel_rfl
theorem pl23 : placesO Try.prog 23 = some [(0, 1), (1, 1), (2, 1)] := by kernel_rfl
theorem pl35 : placesO Try.prog 35 = some [(0, 1), (1, 1), (2, 1), (3, 1), (4, 1), (5, 1), (6, 1)] := by kernel_rfl
theorem pl40 : placesO Try.prog 40 = some [(0, 3), (3, 1)] := by kernel_rfl
theorem pl55 : placesO Try.prog 55 = some [(0, 1), (1, 1), (2, 1), (3, 1)] := by kernel_rfl
theorem sl21 : slO Try.prog 21 = none := by kernel_rfl
theorem sl23 : slO Try.prog 23 = none := by kernel_rfl
theorem sl24 : slO Try.prog 24 = none := by kernel_rfl
theorem sl27 : slO Try.prog 27 = some 35 := by kernel_rfl
theorem sl3 : slO Try.prog 3 = none := by kernel_rfl
theorem sl33 : slO Try.prog 33 = some 3 := by kernel_rfl
theorem sl35 : slO Try.prog 35 = none := by kernel_rfl
theorem sl36 : slO Try.prog 36 = some 5 := by kernel_rfl
theorem sl38 : slO Try.prog 38 = none := by kernel_rfl
theorem sl4 : slO Try.prog 4 = none := by kernel_rfl
theorem sl45 : slO Try.prog 45 = some 21 := by kernel_rfl
theorem sl5 : slO Try.prog 5 = none := by kernel_rfl
theorem sl59 : slO Try.prog 59 = none := by kernel_rfl
theorem sl69 : slO Try.prog 69 = none := by kernel_rfl
theorem sl71 : slO Try.prog 71 = none := by kernel_rfl
theorem sl9 : slO Try.prog 9 = none := by kernel_rfl
theorem str21 : isStrO Try.prog 21 = false := by kernel_rfl
theorem str23 : isStrO Try.prog 23 = false := by kernel_rfl
theorem str24 : isStrO Try.prog 24 = false := by kernel_rfl
theorem str27 : isStrO Try.prog 27 = false := by kernel_rfl
theorem str3 : isStrO Try.prog 3 = false := by kernel_rfl
theorem str33 : isStrO Try.prog 33 = false := by kernel_rfl
theorem str35 : isStrO Try.prog 35 = false := by kernel_rfl
theorem str36 : isStrO Try.prog 36 = false := by kernel_rfl
theorem str38 : isStrO Try.prog 38 = false := by kernel_rfl
theorem str4 : isStrO Try.prog 4 = false := by kernel_rfl
theorem str45 : isStrO Try.prog 45 = false := by kernel_rfl
theorem str5 : isStrO Try.prog 5 = false := by kernel_rfl
theorem str59 : isStrO Try.prog 59 = false := by kernel_rfl
theorem str69 : isStrO Try.prog 69 = false := by kernel_rfl
theorem str71 : isStrO Try.prog 71 = false := by kernel_rfl
theorem str9 : isStrO Try.prog 9 = true := by kernel_rfl
theorem sz21 : szO Try.prog 21 = some 1 := by kernel_rfl
theorem sz23 : szO Try.prog 23 = some 3 := by kernel_rfl
theorem sz27 : szO Try.prog 27 = some 1 := by kernel_rfl
theorem sz3 : szO Try.prog 3 = some 1 := by kernel_rfl
theorem sz33 : szO Try.prog 33 = some 1 := by kernel_rfl
theorem sz35 : szO Try.prog 35 = some 7 := by kernel_rfl
theorem sz40 : szO Try.prog 40 = some 4 := by kernel_rfl
theorem sz5 : szO Try.prog 5 = some 1 := by kernel_rfl
theorem sz55 : szO Try.prog 55 = some 4 := by kernel_rfl
theorem sz9 : szO Try.prog 9 = some 1 := by kernel_rfl
theorem und4 : Try.prog.underlying 4 = some .bool := by kernel_rfl
theorem zero21 : zeroO Try.prog 21 = some (.i (.v (.int .i32 0))) := by kernel_rfl
theorem zero23 : zeroO Try.prog 23 = some (.agg [.i (.v (.int .i64 0)), .i (.str []), .i (.str [])]) := by kernel_rfl
theorem zero3 : zeroO Try.prog 3 = some (.i (.v (.int .i64 0))) := by kernel_rfl
theorem zero33 : zeroO Try.prog 33 = some (.i (.sl 0 [] true)) := by kernel_rfl
theorem zero35 : zeroO Try.prog 35 = some (.agg [.i (.v (.int .i64 0)), .i (.v (.int .i32 0)), .i (.v (.int .u8 0)), .i (.v (.int .u8 0)), .i (.str []), .i (.sl 0 [] true), .i (.str [])]) := by kernel_rfl
theorem zero40 : zeroO Try.prog 40 = some (.agg [.i (.v (.int .i64 0)), .i (.str []), .i (.str []), .i (.sl 0 [] true)]) := by kernel_rfl
theorem zero5 : zeroO Try.prog 5 = some (.i (.v (.int .u8 0))) := by kernel_rfl
theorem zero55 : zeroO Try.prog 55 = some (.agg [.i (.v (.int .i32 0)), .i (.v (.int .i64 0)), .i (.v (.int .u8 0)), .i (.v (.int .u8 0))]) := by kernel_rfl
theorem fok2 : fnOk E 2 = true := by kernel_rfl
theorem ent2 : enterOk E 2 = true := by kernel_rfl
theorem fok3 : fnOk E 3 = true := by kernel_rfl
theorem ent3 : enterOk E 3 = true := by kernel_rfl
theorem fok4 : fnOk E 4 = true := by kernel_rfl
theorem ent4 : enterOk E 4 = true := by kernel_rfl
theorem fok5 : fnOk E 5 = true := by kernel_rfl
theorem ent5 : enterOk E 5 = true := by kernel_rfl
theorem fok6 : fnOk E 6 = true := by kernel_rfl
theorem ent6 : enterOk E 6 = true := by kernel_rfl
theorem fok7 : fnOk E 7 = true := by kernel_rfl
theorem ent7 : enterOk E 7 = true := by kernel_rfl
theorem fok8 : fnOk E 8 = true := by kernel_rfl
theorem ent8 : enterOk E 8 = true := by kernel_rfl
theorem fok9 : fnOk E 9 = true := by kernel_rfl
theorem ent9 : enterOk E 9 = true := by kernel_rfl
theorem fok10 : fnOk E 10 = true := by kernel_rfl
theorem ent10 : enterOk E 10 = true := by kernel_rfl
theorem fok11 : fnOk E 11 = true := by kernel_rfl
theorem ent11 : enterOk E 11 = true := by kernel_rfl
theorem fok12 : fnOk E 12 = true := by kernel_rfl
theorem ent12 : enterOk E 12 = true := by kernel_rfl
theorem fok13 : fnOk E 13 = true := by kernel_rfl
theorem ent13 : enterOk E 13 = true := by kernel_rfl
theorem fok14 : fnOk E 14 = true := by kernel_rfl
theorem ent14 : enterOk E 14 = true := by kernel_rfl
theorem fok15 : fnOk E 15 = true := by kernel_rfl
theorem ent15 : enterOk E 15 = true := by kernel_rfl
theorem fok16 : fnOk E 16 = true := by kernel_rfl
theorem ent16 : enterOk E 16 = true := by kernel_rfl
theorem fok17 : fnOk E 17 = true := by kernel_rfl
theorem ent17 : enterOk E 17 = true := by kernel_rfl
theorem fok18 : fnOk E 18 = true := by kernel_rfl
theorem ent18 : enterOk E 18 = true := by kernel_rfl
theorem fok19 : fnOk E 19 = true := by kernel_rfl
theorem ent19 : enterOk E 19 = true := by kernel_rfl
theorem fok20 : fnOk E 20 = true := by kernel_rfl
theorem ent20 : enterOk E 20 = true := by kernel_rfl
theorem fok21 : fnOk E 21 = true := by kernel_rfl
theorem ent21 : enterOk E 21 = true := by kernel_rfl
theorem fok22 : fnOk E 22 = true := by kernel_rfl
theorem ent22 : enterOk E 22 = true := by kernel_rfl
theorem fok23 : fnOk E 23 = true := by kernel_rfl
theorem ent23 : enterOk E 23 = true := by kernel_rfl
theorem fok24 : fnOk E 24 = true := by kernel_rfl
theorem ent24 : enterOk E 24 = true := by kernel_rfl
theorem fok25 : fnOk E 25 = true := by kernel_rfl
theorem ent25 : enterOk E 25 = true := by kernel_rfl
theorem fok26 : fnOk E 26 = true := by kernel_rfl
theorem ent26 : enterOk E 26 = true := by kernel_rfl
theorem fok27 : fnOk E 27 = true := by kernel_rfl
theorem ent27 : enterOk E 27 = true := by kernel_rfl
theorem fok28 : fnOk E 28 = true := by kernel_rfl
theorem ent28 : enterOk E 28 = true := by kernel_rfl
theorem fok29 : fnOk E 29 = true := by kernel_rfl
theorem ent29 : enterOk E 29 = true := by kernel_rfl
theorem fok30 : fnOk E 30 = true := by kernel_rfl
theorem ent30 : enterOk E 30 = true := by kernel_rfl
theorem fok31 : fnOk E 31 = true := by kernel_rfl
theorem ent31 : enterOk E 31 = true := by kernel_rfl
theorem fok32 : fnOk E 32 = true := by kernel_rfl
theorem ent32 : enterOk E 32 = true := by kernel_rfl
theorem fok33 : fnOk E 33 = true := by kernel_rfl
theorem ent33 : enterOk E 33 = true := by kernel_rfl
theorem fok34 : fnOk E 34 = true := by kernel_rfl
theorem ent34 : enterOk E 34 = true := by kernel_rfl
theorem fok35 : fnOk E 35 = true := by kernel_rfl
theorem ent35 : enterOk E 35 = true := by kernel_rfl
theorem fok36 : fnOk E 36 = true := by kernel_rfl
theorem ent36 : enterOk E 36 = true := by kernel_rfl
theorem fok37 : fnOk E 37 = true := by kernel_rfl
theorem ent37 : enterOk E 37 = true := by kernel_rfl
theorem fok38 : fnOk E 38 = true := by kernel_rfl
theorem ent38 : enterOk E 38 = true := by kernel_rfl
theorem fok39 : fnOk E 39 = true := by kernel_rfl
theorem ent39 : enterOk E 39 = true := by kernel_rfl
theorem fok40 : fnOk E 40 = true := by kernel_rfl
theorem ent40 : enterOk E 40 = true := by kernel_rfl
theorem fok41 : fnOk E 41 = true := by kernel_rfl
theorem ent41 : enterOk E 41 = true := by kernel_rfl
theorem fok42 : fnOk E 42 = true := by kernel_rfl
theorem ent42 : enterOk E 42 = true := by kernel_rfl
theorem fok43 : fnOk E 43 = true := by kernel_rfl
theorem ent43 : enterOk E 43 = true := by kernel_rfl
theorem fok44 : fnOk E 44 = true := by kernel_rfl
theorem ent44 : enterOk E 44 = true := by kernel_rfl
theorem fok45 : fnOk E 45 = true := by kernel_rfl
theorem ent45 : enterOk E 45 = true := by kernel_rfl
theorem fok46 : fnOk E 46 = true := by kernel_rfl
theorem ent46 : enterOk E 46 = true := by kernel_rfl
theorem fok47 : fnOk E 47 = true := by kernel_rfl
theorem ent47 : enterOk E 47 = true := by kernel_rfl
theorem fok48 : fnOk E 48 = true := by kernel_rfl
theorem ent48 : enterOk E 48 = true := by kernel_rfl
theorem fok49 : fnOk E 49 = true := by kernel_rfl
theorem ent49 : enterOk E 49 = true := by kernel_rfl
theorem fok50 : fnOk E 50 = true := by kernel_rfl
theorem ent50 : enterOk E 50 = true := by kernel_rfl
theorem fok51 : fnOk E 51 = true := by kernel_rfl
theorem ent51 : enterOk E 51 = true := by kernel_rfl
theorem fok52 : fnOk E 52 = true := by kernel_rfl
theorem ent52 : enterOk E 52 = true := by kernel_rfl
theorem fok53 : fnOk E 53 = true := by kernel_rfl
theorem ent53 : enterOk E 53 = true := by kernel_rfl
theorem fok54 : fnOk E 54 = true := by kernel_rfl
theorem ent54 : enterOk E 54 = true := by kernel_rfl
theorem fok55 : fnOk E 55 = true := by kernel_rfl
theorem ent55 : enterOk E 55 = true := by kernel_rfl
theorem fok56 : fnOk E 56 = true := by kernel_rfl
theorem ent56 : enterOk E 56 = true := by kernel_rfl
theorem res2 : Try.f2.results = #[] := rfl
theorem res3 : Try.f3.results = #[.tmp 6] := rfl
theorem res4 : Try.f4.results = #[.tmp 4] := rfl
theorem res5 : Try.f5.results = #[.tmp 4] := rfl
theorem res6 : Try.f6.results = #[.tmp 4] := rfl
theorem res7 : Try.f7.results = #[.tmp 4] := rfl
theorem res8 : Try.f8.results = #[.tmp 0] := rfl
theorem res9 : Try.f9.results = #[.cell 4 23, .tmp 5] := rfl
theorem res10 : Try.f10.results = #[.tmp 4] := rfl
theorem res11 : Try.f11.results = #[.tmp 4] := rfl
theorem res12 : Try.f12.results = #[.cell 4 23, .tmp 5] := rfl
theorem res13 : Try.f13.results = #[.tmp 2] := rfl
theorem res14 : Try.f14.results = #[.tmp 2] := rfl
theorem res15 : Try.f15.results = #[.tmp 2] := rfl
theorem res16 : Try.f16.results = #[] := rfl
theorem res17 : Try.f17.results = #[] := rfl
theorem res18 : Try.f18.results = #[.tmp 4] := rfl
theorem res19 : Try.f19.results = #[.tmp 2] := rfl
theorem res20 : Try.f20.results = #[.cell 4 23, .tmp 5] := rfl
theorem res21 : Try.f21.results = #[.cell 4 23, .tmp 5] := rfl
theorem res22 : Try.f22.results = #[.cell 4 23, .tmp 5] := rfl
theorem res23 : Try.f23.results = #[.tmp 4, .tmp 5] := rfl
theorem res24 : Try.f24.results = #[.tmp 6] := rfl
theorem res25 : Try.f25.results = #[] := rfl
theorem res26 : Try.f26.results = #[] := rfl
theorem res27 : Try.f27.results = #[] := rfl
theorem res28 : Try.f28.results = #[] := rfl
theorem res29 : Try.f29.results = #[] := rfl
theorem res30 : Try.f30.results = #[] := rfl
theorem res31 : Try.f31.results = #[.tmp 4, .tmp 5] := rfl
theorem res32 : Try.f32.results = #[.tmp 8] := rfl
theorem res33 : Try.f33.results = #[.tmp 2, .tmp 3, .tmp 4, .tmp 5] := rfl
theorem res34 : Try.f34.results = #[.cell 2 55] := rfl
theorem res35 : Try.f35.results = #[.tmp 4] := rfl
theorem res36 : Try.f36.results = #[.tmp 4] := rfl
theorem res37 : Try.f37.results = #[] := rfl
theorem res38 : Try.f38.results = #[.tmp 4] := rfl
theorem res39 : Try.f39.results = #[] := rfl
theorem res40 : Try.f40.results = #[.tmp 2, .tmp 3, .tmp 4, .tmp 5] := rfl
theorem res41 : Try.f41.results = #[.tmp 2, .tmp 3, .tmp 4] := rfl
theorem res42 : Try.f42.results = #[.tmp 2] := rfl
theorem res43 : Try.f43.results = #[.tmp 2] := rfl
theorem res44 : Try.f44.results = #[.tmp 2] := rfl
theorem res45 : Try.f45.results = #[.tmp 4] := rfl
theorem res46 : Try.f46.results = #[.tmp 2] := rfl
theorem res47 : Try.f47.results = #[] := rfl
theorem res48 : Try.f48.results = #[.tmp 2] := rfl
theorem res49 : Try.f49.results = #[.tmp 4] := rfl
theorem res50 : Try.f50.results = #[.tmp 4] := rfl
theorem res51 : Try.f51.results = #[.tmp 2] := rfl
theorem res52 : Try.f52.results = #[.tmp 4] := rfl
theorem res53 : Try.f53.results = #[.tmp 2] := rfl
theorem res54 : Try.f54.results = #[.tmp 4] := rfl
theorem res55 : Try.f55.results = #[.tmp 4] := rfl
theorem res56 : Try.f56.results = #[.tmp 6] := rfl
theorem kp2_0 : E.keep 2 0 = [] := by kernel_rfl
theorem kp3_0 : E.keep 3 0 = [1, 2, 3] := by kernel_rfl
theorem kp3_1 : E.keep 3 1 = [1, 2, 3, 16] := by kernel_rfl
theorem kp3_2 : E.keep 3 2 = [6] := by kernel_rfl
theorem kp3_3 : E.keep 3 3 = [1, 3, 7] := by kernel_rfl
theorem kp3_4 : E.keep 3 4 = [1, 3, 7, 8, 9] := by kernel_rfl
theorem kp3_5 : E.keep 3 5 = [1, 3, 9, 10, 11] := by kernel_rfl
theorem kp3_6 : E.keep 3 6 = [1, 9, 10, 11, 12, 13] := by kernel_rfl
theorem kp3_7 : E.keep 3 7 = [9, 10, 11, 12, 13, 48] := by kernel_rfl
theorem kp3_8 : E.keep 3 8 = [6] := by kernel_rfl
theorem kp3_9 : E.keep 3 9 = [6] := by kernel_rfl
theorem kp4_0 : E.keep 4 0 = [1, 2] := by kernel_rfl
theorem kp4_1 : E.keep 4 1 = [1, 2, 13] := by kernel_rfl
theorem kp4_2 : E.keep 4 2 = [4] := by kernel_rfl
theorem kp4_3 : E.keep 4 3 = [1, 2, 5, 6] := by kernel_rfl
theorem kp4_4 : E.keep 4 4 = [1, 2, 6, 7, 8] := by kernel_rfl
theorem kp4_5 : E.keep 4 5 = [6, 7, 8, 9, 10] := by kernel_rfl
theorem kp4_6 : E.keep 4 6 = [4] := by kernel_rfl
theorem kp5_0 : E.keep 5 0 = [1, 2] := by kernel_rfl
theorem kp5_1 : E.keep 5 1 = [1, 2, 13] := by kernel_rfl
theorem kp5_2 : E.keep 5 2 = [4] := by kernel_rfl
theorem kp5_3 : E.keep 5 3 = [1, 2, 5, 6] := by kernel_rfl
theorem kp5_4 : E.keep 5 4 = [1, 2, 5, 6, 17, 18] := by kernel_rfl
theorem kp5_5 : E.keep 5 5 = [1, 2, 5, 6, 17, 18, 19] := by kernel_rfl
theorem kp5_6 : E.keep 5 6 = [1, 2, 5, 6, 7, 17, 18] := by kernel_rfl
theorem kp5_7 : E.keep 5 7 = [1, 2, 5, 6, 8, 17, 18] := by kernel_rfl
theorem kp5_8 : E.keep 5 8 = [1, 2, 5, 6, 8, 17, 18] := by kernel_rfl
theorem kp5_9 : E.keep 5 9 = [1, 2, 5, 6, 17, 18] := by kernel_rfl
theorem kp5_10 : E.keep 5 10 = [1, 2, 5, 6, 17, 18] := by kernel_rfl
theorem kp5_11 : E.keep 5 11 = [6, 9, 10] := by kernel_rfl
theorem kp5_12 : E.keep 5 12 = [6, 9, 10, 53] := by kernel_rfl
theorem kp5_13 : E.keep 5 13 = [6, 9, 10] := by kernel_rfl
theorem kp5_14 : E.keep 5 14 = [4] := by kernel_rfl
theorem kp6_0 : E.keep 6 0 = [1, 2] := by kernel_rfl
theorem kp6_1 : E.keep 6 1 = [1, 2, 11] := by kernel_rfl
theorem kp6_2 : E.keep 6 2 = [4] := by kernel_rfl
theorem kp6_3 : E.keep 6 3 = [1, 2, 5, 6] := by kernel_rfl
theorem kp6_4 : E.keep 6 4 = [2, 5, 6, 7, 8] := by kernel_rfl
theorem kp6_5 : E.keep 6 5 = [4] := by kernel_rfl
theorem kp7_0 : E.keep 7 0 = [1, 2] := by kernel_rfl
theorem kp7_1 : E.keep 7 1 = [4] := by kernel_rfl
theorem kp8_0 : E.keep 8 0 = [] := by kernel_rfl
theorem kp8_1 : E.keep 8 1 = [1, 2] := by kernel_rfl
theorem kp8_2 : E.keep 8 2 = [0] := by kernel_rfl
theorem kp9_0 : E.keep 9 0 = [1, 2, 4] := by kernel_rfl
theorem kp9_1 : E.keep 9 1 = [1, 2, 4, 6] := by kernel_rfl
theorem kp9_2 : E.keep 9 2 = [1, 2, 4, 6, 11] := by kernel_rfl
theorem kp9_3 : E.keep 9 3 = [1, 4, 6] := by kernel_rfl
theorem kp9_4 : E.keep 9 4 = [1, 4, 6, 7] := by kernel_rfl
theorem kp9_5 : E.keep 9 5 = [1, 4, 6, 7, 19] := by kernel_rfl
theorem kp9_6 : E.keep 9 6 = [1, 4, 6, 7] := by kernel_rfl
theorem kp9_7 : E.keep 9 7 = [1, 4, 6, 7, 47] := by kernel_rfl
theorem kp9_8 : E.keep 9 8 = [1, 4, 6, 7] := by kernel_rfl
theorem kp9_9 : E.keep 9 9 = [1, 4, 6, 7] := by kernel_rfl
theorem kp9_10 : E.keep 9 10 = [4, 5] := by kernel_rfl
theorem kp10_0 : E.keep 10 0 = [0, 1] := by kernel_rfl
theorem kp10_1 : E.keep 10 1 = [0, 1, 10] := by kernel_rfl
theorem kp10_2 : E.keep 10 2 = [4] := by kernel_rfl
theorem kp10_3 : E.keep 10 3 = [0, 1, 5] := by kernel_rfl
theorem kp10_4 : E.keep 10 4 = [0, 1, 5, 14] := by kernel_rfl
theorem kp10_5 : E.keep 10 5 = [0, 1, 5] := by kernel_rfl
theorem kp10_6 : E.keep 10 6 = [0, 1, 5, 26] := by kernel_rfl
theorem kp10_7 : E.keep 10 7 = [4] := by kernel_rfl
theorem kp10_8 : E.keep 10 8 = [4] := by kernel_rfl
theorem kp11_0 : E.keep 11 0 = [2, 3] := by kernel_rfl
theorem kp11_1 : E.keep 11 1 = [4] := by kernel_rfl
theorem kp12_0 : E.keep 12 0 = [1, 2, 4] := by kernel_rfl
theorem kp12_1 : E.keep 12 1 = [1, 2, 4, 11] := by kernel_rfl
theorem kp12_2 : E.keep 12 2 = [1, 2, 4] := by kernel_rfl
theorem kp12_3 : E.keep 12 3 = [1, 2, 4, 6] := by kernel_rfl
theorem kp12_4 : E.keep 12 4 = [1, 2, 4, 6, 7] := by kernel_rfl
theorem kp12_5 : E.keep 12 5 = [1, 2, 4, 6, 7, 17] := by kernel_rfl
theorem kp12_6 : E.keep 12 6 = [1, 2, 4, 6, 7] := by kernel_rfl
theorem kp12_7 : E.keep 12 7 = [1, 2, 4, 6, 7] := by kernel_rfl
theorem kp12_8 : E.keep 12 8 = [1, 2, 4, 6, 7, 21] := by kernel_rfl
theorem kp12_9 : E.keep 12 9 = [1, 2, 4, 6, 7, 8] := by kernel_rfl
theorem kp12_10 : E.keep 12 10 = [1, 2, 4, 6, 7, 21, 30] := by kernel_rfl
theorem kp12_11 : E.keep 12 11 = [1, 2, 4, 6, 7, 8] := by kernel_rfl
theorem kp12_12 : E.keep 12 12 = [1, 2, 4, 6, 7, 21, 40] := by kernel_rfl
theorem kp12_13 : E.keep 12 13 = [1, 2, 4, 6, 7, 40] := by kernel_rfl
theorem kp12_14 : E.keep 12 14 = [1, 2, 4, 6, 7, 8] := by kernel_rfl
theorem kp12_15 : E.keep 12 15 = [1, 2, 4, 6, 7] := by kernel_rfl
theorem kp12_16 : E.keep 12 16 = [4, 5] := by kernel_rfl
theorem kp13_0 : E.keep 13 0 = [1] := by kernel_rfl
theorem kp13_1 : E.keep 13 1 = [2] := by kernel_rfl
theorem kp14_0 : E.keep 14 0 = [1] := by kernel_rfl
theorem kp14_1 : E.keep 14 1 = [2] := by kernel_rfl
theorem kp15_0 : E.keep 15 0 = [1] := by kernel_rfl
theorem kp15_1 : E.keep 15 1 = [1, 7] := by kernel_rfl
theorem kp15_2 : E.keep 15 2 = [1, 3, 4] := by kernel_rfl
theorem kp15_3 : E.keep 15 3 = [2] := by kernel_rfl
theorem kp15_4 : E.keep 15 4 = [1, 30] := by kernel_rfl
theorem kp15_5 : E.keep 15 5 = [2] := by kernel_rfl
theorem kp15_6 : E.keep 15 6 = [1, 32] := by kernel_rfl
theorem kp15_7 : E.keep 15 7 = [1, 32, 33] := by kernel_rfl
theorem kp15_8 : E.keep 15 8 = [2] := by kernel_rfl
theorem kp15_9 : E.keep 15 9 = [1, 32, 44] := by kernel_rfl
theorem kp15_10 : E.keep 15 10 = [2] := by kernel_rfl
theorem kp15_11 : E.keep 15 11 = [1, 32, 55] := by kernel_rfl
theorem kp15_12 : E.keep 15 12 = [1, 55] := by kernel_rfl
theorem kp15_13 : E.keep 15 13 = [2] := by kernel_rfl
theorem kp15_14 : E.keep 15 14 = [2] := by kernel_rfl
theorem kp16_0 : E.keep 16 0 = [0, 3] := by kernel_rfl
theorem kp16_1 : E.keep 16 1 = [] := by kernel_rfl
theorem kp17_0 : E.keep 17 0 = [0, 1, 8] := by kernel_rfl
theorem kp17_1 : E.keep 17 1 = [0, 1, 8, 9] := by kernel_rfl
theorem kp17_2 : E.keep 17 2 = [0, 1, 8, 11] := by kernel_rfl
theorem kp17_3 : E.keep 17 3 = [0, 1, 8, 13] := by kernel_rfl
theorem kp17_4 : E.keep 17 4 = [0, 1, 15] := by kernel_rfl
theorem kp17_5 : E.keep 17 5 = [] := by kernel_rfl
theorem kp17_6 : E.keep 17 6 = [0, 1, 21] := by kernel_rfl
theorem kp17_7 : E.keep 17 7 = [] := by kernel_rfl
theorem kp17_8 : E.keep 17 8 = [0, 1] := by kernel_rfl
theorem kp17_9 : E.keep 17 9 = [] := by kernel_rfl
theorem kp17_10 : E.keep 17 10 = [] := by kernel_rfl
theorem kp17_11 : E.keep 17 11 = [] := by kernel_rfl
theorem kp18_0 : E.keep 18 0 = [0, 1] := by kernel_rfl
theorem kp18_1 : E.keep 18 1 = [0, 1, 10] := by kernel_rfl
theorem kp18_2 : E.keep 18 2 = [4] := by kernel_rfl
theorem kp18_3 : E.keep 18 3 = [0, 1, 5] := by kernel_rfl
theorem kp18_4 : E.keep 18 4 = [0, 1, 5, 14] := by kernel_rfl
theorem kp18_5 : E.keep 18 5 = [0, 1, 5] := by kernel_rfl
theorem kp18_6 : E.keep 18 6 = [0, 1, 5, 25] := by kernel_rfl
theorem kp18_7 : E.keep 18 7 = [4] := by kernel_rfl
theorem kp18_8 : E.keep 18 8 = [4] := by kernel_rfl
theorem kp19_0 : E.keep 19 0 = [1] := by kernel_rfl
theorem kp19_1 : E.keep 19 1 = [1, 6] := by kernel_rfl
theorem kp19_2 : E.keep 19 2 = [1, 6, 7] := by kernel_rfl
theorem kp19_3 : E.keep 19 3 = [1, 12] := by kernel_rfl
theorem kp19_4 : E.keep 19 4 = [2] := by kernel_rfl
theorem kp19_5 : E.keep 19 5 = [1, 3, 4] := by kernel_rfl
theorem kp19_6 : E.keep 19 6 = [2] := by kernel_rfl
theorem kp19_7 : E.keep 19 7 = [1, 6, 33] := by kernel_rfl
theorem kp19_8 : E.keep 19 8 = [2] := by kernel_rfl
theorem kp19_9 : E.keep 19 9 = [1, 6, 43] := by kernel_rfl
theorem kp19_10 : E.keep 19 10 = [2] := by kernel_rfl
theorem kp19_11 : E.keep 19 11 = [1, 6, 53] := by kernel_rfl
theorem kp19_12 : E.keep 19 12 = [1, 53] := by kernel_rfl
theorem kp19_13 : E.keep 19 13 = [2] := by kernel_rfl
theorem kp19_14 : E.keep 19 14 = [2] := by kernel_rfl
theorem kp20_0 : E.keep 20 0 = [1, 2, 4] := by kernel_rfl
theorem kp20_1 : E.keep 20 1 = [1, 2, 4, 16] := by kernel_rfl
theorem kp20_2 : E.keep 20 2 = [4, 6, 7] := by kernel_rfl
theorem kp20_3 : E.keep 20 3 = [4, 6, 7, 8] := by kernel_rfl
theorem kp20_4 : E.keep 20 4 = [4, 6, 7, 8, 9] := by kernel_rfl
theorem kp20_5 : E.keep 20 5 = [4, 6, 7, 8, 9, 30] := by kernel_rfl
theorem kp20_6 : E.keep 20 6 = [4, 6, 7, 8, 9] := by kernel_rfl
theorem kp20_7 : E.keep 20 7 = [4, 6, 7, 8, 9, 44] := by kernel_rfl
theorem kp20_8 : E.keep 20 8 = [4, 6, 7, 8, 9] := by kernel_rfl
theorem kp20_9 : E.keep 20 9 = [4, 5] := by kernel_rfl
theorem kp20_10 : E.keep 20 10 = [1, 2, 4, 10] := by kernel_rfl
theorem kp20_11 : E.keep 20 11 = [1, 4, 10, 59] := by kernel_rfl
theorem kp20_12 : E.keep 20 12 = [1, 4, 10] := by kernel_rfl
theorem kp20_13 : E.keep 20 13 = [1, 4, 10, 64] := by kernel_rfl
theorem kp20_14 : E.keep 20 14 = [1, 4, 10, 64, 65] := by kernel_rfl
theorem kp20_15 : E.keep 20 15 = [1, 4, 10, 64, 65] := by kernel_rfl
theorem kp20_16 : E.keep 20 16 = [1, 4, 10, 64, 65] := by kernel_rfl
theorem kp20_17 : E.keep 20 17 = [4, 5] := by kernel_rfl
theorem kp20_18 : E.keep 20 18 = [1, 4, 10, 71] := by kernel_rfl
theorem kp20_19 : E.keep 20 19 = [4, 5] := by kernel_rfl
theorem kp20_20 : E.keep 20 20 = [4, 5] := by kernel_rfl
theorem kp21_0 : E.keep 21 0 = [1, 2, 4] := by kernel_rfl
theorem kp21_1 : E.keep 21 1 = [1, 2, 4, 10] := by kernel_rfl
theorem kp21_2 : E.keep 21 2 = [4, 5] := by kernel_rfl
theorem kp21_3 : E.keep 21 3 = [1, 2, 4, 14] := by kernel_rfl
theorem kp21_4 : E.keep 21 4 = [4, 5] := by kernel_rfl
theorem kp21_5 : E.keep 21 5 = [1, 2, 4, 22] := by kernel_rfl
theorem kp21_6 : E.keep 21 6 = [4, 5] := by kernel_rfl
theorem kp21_7 : E.keep 21 7 = [1, 2, 4, 29] := by kernel_rfl
theorem kp21_8 : E.keep 21 8 = [4, 5] := by kernel_rfl
theorem kp21_9 : E.keep 21 9 = [1, 2, 4, 33] := by kernel_rfl
theorem kp21_10 : E.keep 21 10 = [4, 5] := by kernel_rfl
theorem kp21_11 : E.keep 21 11 = [1, 2, 4, 43] := by kernel_rfl
theorem kp21_12 : E.keep 21 12 = [1, 2, 4, 44] := by kernel_rfl
theorem kp21_13 : E.keep 21 13 = [1, 2, 4, 50] := by kernel_rfl
theorem kp21_14 : E.keep 21 14 = [2, 4] := by kernel_rfl
theorem kp21_15 : E.keep 21 15 = [4, 5] := by kernel_rfl
theorem kp21_16 : E.keep 21 16 = [1, 2, 4, 59] := by kernel_rfl
theorem kp21_17 : E.keep 21 17 = [4, 5] := by kernel_rfl
theorem kp21_18 : E.keep 21 18 = [1, 2, 4, 68] := by kernel_rfl
theorem kp21_19 : E.keep 21 19 = [4, 5] := by kernel_rfl
theorem kp21_20 : E.keep 21 20 = [1, 2, 4, 77] := by kernel_rfl
theorem kp21_21 : E.keep 21 21 = [4, 5] := by kernel_rfl
theorem kp21_22 : E.keep 21 22 = [4, 5] := by kernel_rfl
theorem kp21_23 : E.keep 21 23 = [1, 2, 4, 90] := by kernel_rfl
theorem kp21_24 : E.keep 21 24 = [1, 2, 4, 94] := by kernel_rfl
theorem kp21_25 : E.keep 21 25 = [2, 4] := by kernel_rfl
theorem kp21_26 : E.keep 21 26 = [4, 5] := by kernel_rfl
theorem kp21_27 : E.keep 21 27 = [1, 2, 4, 6, 7, 8, 9] := by kernel_rfl
theorem kp21_28 : E.keep 21 28 = [1, 4, 6, 7, 8, 118] := by kernel_rfl
theorem kp21_29 : E.keep 21 29 = [4, 5] := by kernel_rfl
theorem kp21_30 : E.keep 21 30 = [4, 5] := by kernel_rfl
theorem kp22_0 : E.keep 22 0 = [1, 2, 4] := by kernel_rfl
theorem kp22_1 : E.keep 22 1 = [1, 2, 4, 6] := by kernel_rfl
theorem kp22_2 : E.keep 22 2 = [1, 2, 4, 6, 13] := by kernel_rfl
theorem kp22_3 : E.keep 22 3 = [1, 4, 6, 15] := by kernel_rfl
theorem kp22_4 : E.keep 22 4 = [4, 5] := by kernel_rfl
theorem kp22_5 : E.keep 22 5 = [4, 5] := by kernel_rfl
theorem kp22_6 : E.keep 22 6 = [1, 2, 4, 6, 23] := by kernel_rfl
theorem kp22_7 : E.keep 22 7 = [4, 5] := by kernel_rfl
theorem kp22_8 : E.keep 22 8 = [1, 2, 4, 28] := by kernel_rfl
theorem kp22_9 : E.keep 22 9 = [2, 4] := by kernel_rfl
theorem kp22_10 : E.keep 22 10 = [1, 2, 4, 32] := by kernel_rfl
theorem kp22_11 : E.keep 22 11 = [4, 5] := by kernel_rfl
theorem kp22_12 : E.keep 22 12 = [1, 2, 4, 40] := by kernel_rfl
theorem kp22_13 : E.keep 22 13 = [2, 4] := by kernel_rfl
theorem kp22_14 : E.keep 22 14 = [4, 5] := by kernel_rfl
theorem kp23_0 : E.keep 23 0 = [0, 1] := by kernel_rfl
theorem kp23_1 : E.keep 23 1 = [6] := by kernel_rfl
theorem kp23_2 : E.keep 23 2 = [6, 7] := by kernel_rfl
theorem kp23_3 : E.keep 23 3 = [6, 7, 8] := by kernel_rfl
theorem kp23_4 : E.keep 23 4 = [6, 7, 8, 9] := by kernel_rfl
theorem kp23_5 : E.keep 23 5 = [6, 7, 8, 9, 16, 17] := by kernel_rfl
theorem kp23_6 : E.keep 23 6 = [6, 7, 8, 9, 16, 17, 18] := by kernel_rfl
theorem kp23_7 : E.keep 23 7 = [6, 7, 8, 9, 10, 16, 17] := by kernel_rfl
theorem kp23_8 : E.keep 23 8 = [6, 7, 8, 9, 10, 11, 16, 17] := by kernel_rfl
theorem kp23_9 : E.keep 23 9 = [6, 7, 8, 9, 10, 11, 16, 17, 37] := by kernel_rfl
theorem kp23_10 : E.keep 23 10 = [6, 7, 8, 9, 16, 17] := by kernel_rfl
theorem kp23_11 : E.keep 23 11 = [6, 7, 8, 9, 16, 17, 51] := by kernel_rfl
theorem kp23_12 : E.keep 23 12 = [6, 7, 8, 9, 16, 17] := by kernel_rfl
theorem kp23_13 : E.keep 23 13 = [6, 7, 8, 10, 11, 16, 17, 59] := by kernel_rfl
theorem kp23_14 : E.keep 23 14 = [6, 7, 8, 10, 11, 16, 17] := by kernel_rfl
theorem kp23_15 : E.keep 23 15 = [6, 7, 8, 9, 11, 16, 17] := by kernel_rfl
theorem kp23_16 : E.keep 23 16 = [6, 7, 8, 9, 11, 16, 17, 66] := by kernel_rfl
theorem kp23_17 : E.keep 23 17 = [6, 7, 8, 9, 16, 17] := by kernel_rfl
theorem kp23_18 : E.keep 23 18 = [6, 7, 8, 9, 16, 17, 74] := by kernel_rfl
theorem kp23_19 : E.keep 23 19 = [6, 7, 8, 9, 16, 17] := by kernel_rfl
theorem kp23_20 : E.keep 23 20 = [6, 7, 8, 9, 16, 17] := by kernel_rfl
theorem kp23_21 : E.keep 23 21 = [6, 7, 9, 84] := by kernel_rfl
theorem kp23_22 : E.keep 23 22 = [4, 5] := by kernel_rfl
theorem kp23_23 : E.keep 23 23 = [4, 5] := by kernel_rfl
theorem kp24_0 : E.keep 24 0 = [0, 4, 5] := by kernel_rfl
theorem kp24_1 : E.keep 24 1 = [6] := by kernel_rfl
theorem kp25_0 : E.keep 25 0 = [0, 1, 11] := by kernel_rfl
theorem kp25_1 : E.keep 25 1 = [0, 4, 5] := by kernel_rfl
theorem kp25_2 : E.keep 25 2 = [0, 4] := by kernel_rfl
theorem kp25_3 : E.keep 25 3 = [] := by kernel_rfl
theorem kp25_4 : E.keep 25 4 = [0, 1, 37] := by kernel_rfl
theorem kp25_5 : E.keep 25 5 = [0, 1] := by kernel_rfl
theorem kp25_6 : E.keep 25 6 = [0, 1] := by kernel_rfl
theorem kp25_7 : E.keep 25 7 = [0, 1, 45] := by kernel_rfl
theorem kp25_8 : E.keep 25 8 = [] := by kernel_rfl
theorem kp25_9 : E.keep 25 9 = [0, 1, 45, 50] := by kernel_rfl
theorem kp25_10 : E.keep 25 10 = [] := by kernel_rfl
theorem kp25_11 : E.keep 25 11 = [0, 1, 45, 54] := by kernel_rfl
theorem kp25_12 : E.keep 25 12 = [0, 1, 45, 54] := by kernel_rfl
theorem kp25_13 : E.keep 25 13 = [0, 1, 54] := by kernel_rfl
theorem kp26_0 : E.keep 26 0 = [0, 2] := by kernel_rfl
theorem kp26_1 : E.keep 26 1 = [0, 2] := by kernel_rfl
theorem kp26_2 : E.keep 26 2 = [] := by kernel_rfl
theorem kp27_0 : E.keep 27 0 = [] := by kernel_rfl
theorem kp28_0 : E.keep 28 0 = [0, 1, 4] := by kernel_rfl
theorem kp28_1 : E.keep 28 1 = [0, 1, 4] := by kernel_rfl
theorem kp28_2 : E.keep 28 2 = [0, 1, 4, 14] := by kernel_rfl
theorem kp28_3 : E.keep 28 3 = [] := by kernel_rfl
theorem kp28_4 : E.keep 28 4 = [0, 1, 4, 20] := by kernel_rfl
theorem kp28_5 : E.keep 28 5 = [0, 1, 4, 24] := by kernel_rfl
theorem kp28_6 : E.keep 28 6 = [] := by kernel_rfl
theorem kp28_7 : E.keep 28 7 = [0, 1, 4, 30] := by kernel_rfl
theorem kp28_8 : E.keep 28 8 = [] := by kernel_rfl
theorem kp28_9 : E.keep 28 9 = [0, 1, 4, 39] := by kernel_rfl
theorem kp28_10 : E.keep 28 10 = [] := by kernel_rfl
theorem kp29_0 : E.keep 29 0 = [0, 1, 4] := by kernel_rfl
theorem kp29_1 : E.keep 29 1 = [0, 1, 4] := by kernel_rfl
theorem kp29_2 : E.keep 29 2 = [0, 1, 4, 18] := by kernel_rfl
theorem kp29_3 : E.keep 29 3 = [0, 1, 5, 6, 7, 8] := by kernel_rfl
theorem kp29_4 : E.keep 29 4 = [0, 1, 5, 6, 7, 27] := by kernel_rfl
theorem kp29_5 : E.keep 29 5 = [] := by kernel_rfl
theorem kp29_6 : E.keep 29 6 = [0, 1, 4, 35] := by kernel_rfl
theorem kp29_7 : E.keep 29 7 = [0, 1, 4, 39] := by kernel_rfl
theorem kp29_8 : E.keep 29 8 = [] := by kernel_rfl
theorem kp30_0 : E.keep 30 0 = [0, 1, 4] := by kernel_rfl
theorem kp30_1 : E.keep 30 1 = [0, 1, 6] := by kernel_rfl
theorem kp30_2 : E.keep 30 2 = [] := by kernel_rfl
theorem kp30_3 : E.keep 30 3 = [0, 1, 4, 10] := by kernel_rfl
theorem kp30_4 : E.keep 30 4 = [] := by kernel_rfl
theorem kp30_5 : E.keep 30 5 = [0, 1, 4, 14] := by kernel_rfl
theorem kp30_6 : E.keep 30 6 = [] := by kernel_rfl
theorem kp30_7 : E.keep 30 7 = [0, 1, 4, 20] := by kernel_rfl
theorem kp30_8 : E.keep 30 8 = [0, 1, 20] := by kernel_rfl
theorem kp30_9 : E.keep 30 9 = [] := by kernel_rfl
theorem kp31_0 : E.keep 31 0 = [0, 1] := by kernel_rfl
theorem kp31_1 : E.keep 31 1 = [6] := by kernel_rfl
theorem kp31_2 : E.keep 31 2 = [6, 7] := by kernel_rfl
theorem kp31_3 : E.keep 31 3 = [6, 7, 8] := by kernel_rfl
theorem kp31_4 : E.keep 31 4 = [6, 7, 8, 9] := by kernel_rfl
theorem kp31_5 : E.keep 31 5 = [6, 7, 8, 9, 25] := by kernel_rfl
theorem kp31_6 : E.keep 31 6 = [6, 7, 8, 9, 10] := by kernel_rfl
theorem kp31_7 : E.keep 31 7 = [6, 7, 8, 9, 10, 31] := by kernel_rfl
theorem kp31_8 : E.keep 31 8 = [6, 7, 8, 9, 10] := by kernel_rfl
theorem kp31_9 : E.keep 31 9 = [6, 7, 8, 9, 10, 13] := by kernel_rfl
theorem kp31_10 : E.keep 31 10 = [6, 7, 8, 9] := by kernel_rfl
theorem kp31_11 : E.keep 31 11 = [6, 7, 8, 9, 10, 13, 44] := by kernel_rfl
theorem kp31_12 : E.keep 31 12 = [6, 7, 8, 9] := by kernel_rfl
theorem kp31_13 : E.keep 31 13 = [6, 7, 8, 9, 10, 52] := by kernel_rfl
theorem kp31_14 : E.keep 31 14 = [6, 7, 8, 9] := by kernel_rfl
theorem kp31_15 : E.keep 31 15 = [6, 7, 8, 9, 10, 14, 15, 16] := by kernel_rfl
theorem kp31_16 : E.keep 31 16 = [6, 7, 8, 9, 10, 16, 72] := by kernel_rfl
theorem kp31_17 : E.keep 31 17 = [6, 7, 9] := by kernel_rfl
theorem kp31_18 : E.keep 31 18 = [6, 7, 8, 9] := by kernel_rfl
theorem kp31_19 : E.keep 31 19 = [6, 7, 8, 9, 10, 16] := by kernel_rfl
theorem kp31_20 : E.keep 31 20 = [6, 7, 8, 9, 16] := by kernel_rfl
theorem kp31_21 : E.keep 31 21 = [6, 7, 8, 9, 86] := by kernel_rfl
theorem kp31_22 : E.keep 31 22 = [6, 7, 9] := by kernel_rfl
theorem kp31_23 : E.keep 31 23 = [6, 7, 8, 9] := by kernel_rfl
theorem kp31_24 : E.keep 31 24 = [4, 5] := by kernel_rfl
theorem kp32_0 : E.keep 32 0 = [0, 1, 2, 3] := by kernel_rfl
theorem kp32_1 : E.keep 32 1 = [0, 2, 3, 13] := by kernel_rfl
theorem kp32_2 : E.keep 32 2 = [8] := by kernel_rfl
theorem kp32_3 : E.keep 32 3 = [0, 2, 3, 9] := by kernel_rfl
theorem kp32_4 : E.keep 32 4 = [0, 2, 3, 9, 17] := by kernel_rfl
theorem kp32_5 : E.keep 32 5 = [0, 2, 3, 9] := by kernel_rfl
theorem kp32_6 : E.keep 32 6 = [0, 2, 3, 9, 31] := by kernel_rfl
theorem kp32_7 : E.keep 32 7 = [8] := by kernel_rfl
theorem kp32_8 : E.keep 32 8 = [8] := by kernel_rfl
theorem kp33_0 : E.keep 33 0 = [0] := by kernel_rfl
theorem kp33_1 : E.keep 33 1 = [0, 6] := by kernel_rfl
theorem kp33_2 : E.keep 33 2 = [0, 6, 7] := by kernel_rfl
theorem kp33_3 : E.keep 33 3 = [0, 6, 7, 23] := by kernel_rfl
theorem kp33_4 : E.keep 33 4 = [0, 6] := by kernel_rfl
theorem kp33_5 : E.keep 33 5 = [0, 6, 7] := by kernel_rfl
theorem kp33_6 : E.keep 33 6 = [0, 6, 7, 8] := by kernel_rfl
theorem kp33_7 : E.keep 33 7 = [0, 6, 7, 8, 48] := by kernel_rfl
theorem kp33_8 : E.keep 33 8 = [0, 6, 7, 8] := by kernel_rfl
theorem kp33_9 : E.keep 33 9 = [6, 9, 10] := by kernel_rfl
theorem kp33_10 : E.keep 33 10 = [6, 9, 10, 11] := by kernel_rfl
theorem kp33_11 : E.keep 33 11 = [6, 9, 10, 11, 61] := by kernel_rfl
theorem kp33_12 : E.keep 33 12 = [6, 9, 10, 11] := by kernel_rfl
theorem kp33_13 : E.keep 33 13 = [6, 9, 10, 11, 68] := by kernel_rfl
theorem kp33_14 : E.keep 33 14 = [2, 3, 4, 5] := by kernel_rfl
theorem kp33_15 : E.keep 33 15 = [6, 9, 10, 12] := by kernel_rfl
theorem kp33_16 : E.keep 33 16 = [6, 9, 10, 12, 13] := by kernel_rfl
theorem kp33_17 : E.keep 33 17 = [6, 9, 10, 12, 13, 72] := by kernel_rfl
theorem kp33_18 : E.keep 33 18 = [6, 9, 10, 12, 13] := by kernel_rfl
theorem kp33_19 : E.keep 33 19 = [6, 9, 10, 12, 13, 14] := by kernel_rfl
theorem kp33_20 : E.keep 33 20 = [6, 9, 10, 12, 13, 14, 79] := by kernel_rfl
theorem kp33_21 : E.keep 33 21 = [6, 9, 10, 12, 13, 14] := by kernel_rfl
theorem kp33_22 : E.keep 33 22 = [6, 9, 10, 12, 13, 14, 85] := by kernel_rfl
theorem kp33_23 : E.keep 33 23 = [6, 9, 10, 12, 13, 14] := by kernel_rfl
theorem kp33_24 : E.keep 33 24 = [6, 9, 10, 12, 13, 14, 15] := by kernel_rfl
theorem kp33_25 : E.keep 33 25 = [6, 9, 10, 12, 13, 14, 15, 96] := by kernel_rfl
theorem kp33_26 : E.keep 33 26 = [6, 9, 10, 12, 13, 14, 15] := by kernel_rfl
theorem kp33_27 : E.keep 33 27 = [6, 9, 10, 12, 13, 14, 15] := by kernel_rfl
theorem kp33_28 : E.keep 33 28 = [6, 9, 10, 12, 13, 14, 15, 106] := by kernel_rfl
theorem kp33_29 : E.keep 33 29 = [6, 9, 10, 12, 13, 14] := by kernel_rfl
theorem kp33_30 : E.keep 33 30 = [6, 9, 10, 12, 13, 14, 15] := by kernel_rfl
theorem kp33_31 : E.keep 33 31 = [6, 9, 10, 12, 13, 14] := by kernel_rfl
theorem kp33_32 : E.keep 33 32 = [6, 10, 12, 123] := by kernel_rfl
theorem kp33_33 : E.keep 33 33 = [2, 3, 4, 5] := by kernel_rfl
theorem kp33_34 : E.keep 33 34 = [2, 3, 4, 5] := by kernel_rfl
theorem kp34_0 : E.keep 34 0 = [0, 2] := by kernel_rfl
theorem kp34_1 : E.keep 34 1 = [0, 2, 3] := by kernel_rfl
theorem kp34_2 : E.keep 34 2 = [0, 2, 3, 5] := by kernel_rfl
theorem kp34_3 : E.keep 34 3 = [0, 2, 3] := by kernel_rfl
theorem kp34_4 : E.keep 34 4 = [0, 2, 3, 17] := by kernel_rfl
theorem kp34_5 : E.keep 34 5 = [0, 2, 3] := by kernel_rfl
theorem kp34_6 : E.keep 34 6 = [0, 2, 3, 29] := by kernel_rfl
theorem kp34_7 : E.keep 34 7 = [0, 2, 3] := by kernel_rfl
theorem kp34_8 : E.keep 34 8 = [2, 3, 41] := by kernel_rfl
theorem kp34_9 : E.keep 34 9 = [2, 3, 41, 42] := by kernel_rfl
theorem kp34_10 : E.keep 34 10 = [2, 3] := by kernel_rfl
theorem kp34_11 : E.keep 34 11 = [2, 3, 41, 45] := by kernel_rfl
theorem kp34_12 : E.keep 34 12 = [2, 3] := by kernel_rfl
theorem kp34_13 : E.keep 34 13 = [2, 3, 41, 48] := by kernel_rfl
theorem kp34_14 : E.keep 34 14 = [2, 3] := by kernel_rfl
theorem kp34_15 : E.keep 34 15 = [2, 3, 51] := by kernel_rfl
theorem kp34_16 : E.keep 34 16 = [2, 3] := by kernel_rfl
theorem kp34_17 : E.keep 34 17 = [2] := by kernel_rfl
theorem kp35_0 : E.keep 35 0 = [0, 1] := by kernel_rfl
theorem kp35_1 : E.keep 35 1 = [4] := by kernel_rfl
theorem kp36_0 : E.keep 36 0 = [0, 1, 2] := by kernel_rfl
theorem kp36_1 : E.keep 36 1 = [4] := by kernel_rfl
theorem kp37_0 : E.keep 37 0 = [0, 6, 7, 8] := by kernel_rfl
theorem kp37_1 : E.keep 37 1 = [0, 6, 7, 8, 9] := by kernel_rfl
theorem kp37_2 : E.keep 37 2 = [0, 5, 6, 7, 8] := by kernel_rfl
theorem kp37_3 : E.keep 37 3 = [0, 5, 6, 7, 8, 17] := by kernel_rfl
theorem kp37_4 : E.keep 37 4 = [0, 6, 7, 8] := by kernel_rfl
theorem kp37_5 : E.keep 37 5 = [0, 6, 7, 8] := by kernel_rfl
theorem kp38_0 : E.keep 38 0 = [0, 1] := by kernel_rfl
theorem kp38_1 : E.keep 38 1 = [4] := by kernel_rfl
theorem kp38_2 : E.keep 38 2 = [0, 1, 5] := by kernel_rfl
theorem kp38_3 : E.keep 38 3 = [] := by kernel_rfl
theorem kp38_4 : E.keep 38 4 = [0, 1, 10] := by kernel_rfl
theorem kp38_5 : E.keep 38 5 = [] := by kernel_rfl
theorem kp38_6 : E.keep 38 6 = [0, 1, 19] := by kernel_rfl
theorem kp38_7 : E.keep 38 7 = [] := by kernel_rfl
theorem kp38_8 : E.keep 38 8 = [0, 1, 26] := by kernel_rfl
theorem kp38_9 : E.keep 38 9 = [0, 1, 29] := by kernel_rfl
theorem kp38_10 : E.keep 38 10 = [0, 1] := by kernel_rfl
theorem kp38_11 : E.keep 38 11 = [] := by kernel_rfl
theorem kp38_12 : E.keep 38 12 = [4] := by kernel_rfl
theorem kp39_0 : E.keep 39 0 = [0, 1, 13] := by kernel_rfl
theorem kp39_1 : E.keep 39 1 = [] := by kernel_rfl
theorem kp40_0 : E.keep 40 0 = [0] := by kernel_rfl
theorem kp40_1 : E.keep 40 1 = [0, 6] := by kernel_rfl
theorem kp40_2 : E.keep 40 2 = [0, 6, 19] := by kernel_rfl
theorem kp40_3 : E.keep 40 3 = [0, 6] := by kernel_rfl
theorem kp40_4 : E.keep 40 4 = [0, 6, 7] := by kernel_rfl
theorem kp40_5 : E.keep 40 5 = [0, 6, 7, 8, 9] := by kernel_rfl
theorem kp40_6 : E.keep 40 6 = [0, 6, 7, 8, 9, 10] := by kernel_rfl
theorem kp40_7 : E.keep 40 7 = [0, 6, 7, 8, 9, 10, 28] := by kernel_rfl
theorem kp40_8 : E.keep 40 8 = [0, 6, 7, 8, 9, 10] := by kernel_rfl
theorem kp40_9 : E.keep 40 9 = [0, 6, 7, 8, 9, 10, 11] := by kernel_rfl
theorem kp40_10 : E.keep 40 10 = [0, 6, 7, 8, 9, 10, 11, 35] := by kernel_rfl
theorem kp40_11 : E.keep 40 11 = [0, 6, 7, 8, 9, 10] := by kernel_rfl
theorem kp40_12 : E.keep 40 12 = [0, 6, 7, 8, 9, 10, 11, 43] := by kernel_rfl
theorem kp40_13 : E.keep 40 13 = [0, 6, 7, 8, 9, 10] := by kernel_rfl
theorem kp40_14 : E.keep 40 14 = [0, 6, 7, 9, 10, 53] := by kernel_rfl
theorem kp40_15 : E.keep 40 15 = [0, 6, 7, 9] := by kernel_rfl
theorem kp40_16 : E.keep 40 16 = [6, 7, 12] := by kernel_rfl
theorem kp40_17 : E.keep 40 17 = [2, 3, 4, 5] := by kernel_rfl
theorem kp40_18 : E.keep 40 18 = [6, 7, 12, 62] := by kernel_rfl
theorem kp40_19 : E.keep 40 19 = [2, 3, 4, 5] := by kernel_rfl
theorem kp40_20 : E.keep 40 20 = [6, 7, 12, 66] := by kernel_rfl
theorem kp40_21 : E.keep 40 21 = [2, 3, 4, 5] := by kernel_rfl
theorem kp41_0 : E.keep 41 0 = [0] := by kernel_rfl
theorem kp41_1 : E.keep 41 1 = [0, 10] := by kernel_rfl
theorem kp41_2 : E.keep 41 2 = [2, 3, 4] := by kernel_rfl
theorem kp41_3 : E.keep 41 3 = [0, 5] := by kernel_rfl
theorem kp41_4 : E.keep 41 4 = [0, 5, 11] := by kernel_rfl
theorem kp41_5 : E.keep 41 5 = [0, 5] := by kernel_rfl
theorem kp41_6 : E.keep 41 6 = [0, 5, 22] := by kernel_rfl
theorem kp41_7 : E.keep 41 7 = [0, 5] := by kernel_rfl
theorem kp41_8 : E.keep 41 8 = [0, 5, 33] := by kernel_rfl
theorem kp41_9 : E.keep 41 9 = [0, 5] := by kernel_rfl
theorem kp41_10 : E.keep 41 10 = [0, 5, 6, 7] := by kernel_rfl
theorem kp41_11 : E.keep 41 11 = [0, 5, 6, 7, 46] := by kernel_rfl
theorem kp41_12 : E.keep 41 12 = [5, 6, 7, 49] := by kernel_rfl
theorem kp41_13 : E.keep 41 13 = [5, 6, 7, 49, 50] := by kernel_rfl
theorem kp41_14 : E.keep 41 14 = [5, 6, 7] := by kernel_rfl
theorem kp41_15 : E.keep 41 15 = [5, 6, 7, 49, 52] := by kernel_rfl
theorem kp41_16 : E.keep 41 16 = [5, 6, 7] := by kernel_rfl
theorem kp41_17 : E.keep 41 17 = [5, 6, 7, 49, 54] := by kernel_rfl
theorem kp41_18 : E.keep 41 18 = [5, 6, 7] := by kernel_rfl
theorem kp41_19 : E.keep 41 19 = [5, 6, 7, 56] := by kernel_rfl
theorem kp41_20 : E.keep 41 20 = [5, 6, 7] := by kernel_rfl
theorem kp41_21 : E.keep 41 21 = [2, 3, 4] := by kernel_rfl
theorem kp42_0 : E.keep 42 0 = [0] := by kernel_rfl
theorem kp42_1 : E.keep 42 1 = [0, 3] := by kernel_rfl
theorem kp42_2 : E.keep 42 2 = [0, 3, 6] := by kernel_rfl
theorem kp42_3 : E.keep 42 3 = [0, 3, 6, 7] := by kernel_rfl
theorem kp42_4 : E.keep 42 4 = [0, 3] := by kernel_rfl
theorem kp42_5 : E.keep 42 5 = [0, 3, 6, 14] := by kernel_rfl
theorem kp42_6 : E.keep 42 6 = [0, 3] := by kernel_rfl
theorem kp42_7 : E.keep 42 7 = [0, 3, 21] := by kernel_rfl
theorem kp42_8 : E.keep 42 8 = [0, 3] := by kernel_rfl
theorem kp42_9 : E.keep 42 9 = [0, 3, 4] := by kernel_rfl
theorem kp42_10 : E.keep 42 10 = [0, 3, 4, 31] := by kernel_rfl
theorem kp42_11 : E.keep 42 11 = [0, 3, 4] := by kernel_rfl
theorem kp42_12 : E.keep 42 12 = [0, 3, 4] := by kernel_rfl
theorem kp42_13 : E.keep 42 13 = [2] := by kernel_rfl
theorem kp43_0 : E.keep 43 0 = [0] := by kernel_rfl
theorem kp43_1 : E.keep 43 1 = [2] := by kernel_rfl
theorem kp44_0 : E.keep 44 0 = [0] := by kernel_rfl
theorem kp44_1 : E.keep 44 1 = [2] := by kernel_rfl
theorem kp45_0 : E.keep 45 0 = [0, 1] := by kernel_rfl
theorem kp45_1 : E.keep 45 1 = [0, 1, 7, 8] := by kernel_rfl
theorem kp45_2 : E.keep 45 2 = [0, 1, 7, 8, 9] := by kernel_rfl
theorem kp45_3 : E.keep 45 3 = [0, 1, 5, 7, 8] := by kernel_rfl
theorem kp45_4 : E.keep 45 4 = [0, 1, 5, 7, 8, 16] := by kernel_rfl
theorem kp45_5 : E.keep 45 5 = [4] := by kernel_rfl
theorem kp45_6 : E.keep 45 6 = [0, 1, 7, 8] := by kernel_rfl
theorem kp45_7 : E.keep 45 7 = [4] := by kernel_rfl
theorem kp46_0 : E.keep 46 0 = [0] := by kernel_rfl
theorem kp46_1 : E.keep 46 1 = [2] := by kernel_rfl
theorem kp47_0 : E.keep 47 0 = [1] := by kernel_rfl
theorem kp47_1 : E.keep 47 1 = [] := by kernel_rfl
theorem kp48_0 : E.keep 48 0 = [0] := by kernel_rfl
theorem kp48_1 : E.keep 48 1 = [2] := by kernel_rfl
theorem kp49_0 : E.keep 49 0 = [0, 1] := by kernel_rfl
theorem kp49_1 : E.keep 49 1 = [4] := by kernel_rfl
theorem kp50_0 : E.keep 50 0 = [0, 1] := by kernel_rfl
theorem kp50_1 : E.keep 50 1 = [4] := by kernel_rfl
theorem kp51_0 : E.keep 51 0 = [0] := by kernel_rfl
theorem kp51_1 : E.keep 51 1 = [2] := by kernel_rfl
theorem kp52_0 : E.keep 52 0 = [0, 1] := by kernel_rfl
theorem kp52_1 : E.keep 52 1 = [4] := by kernel_rfl
theorem kp53_0 : E.keep 53 0 = [0] := by kernel_rfl
theorem kp53_1 : E.keep 53 1 = [2] := by kernel_rfl
theorem kp54_0 : E.keep 54 0 = [0, 1] := by kernel_rfl
theorem kp54_1 : E.keep 54 1 = [4] := by kernel_rfl
theorem kp55_0 : E.keep 55 0 = [0, 1] := by kernel_rfl
theorem kp55_1 : E.keep 55 1 = [0, 1, 7, 8] := by kernel_rfl
theorem kp55_2 : E.keep 55 2 = [0, 1, 7, 8, 9] := by kernel_rfl
theorem kp55_3 : E.keep 55 3 = [0, 1, 5, 7, 8] := by kernel_rfl
theorem kp55_4 : E.keep 55 4 = [0, 1, 5, 7, 8, 16] := by kernel_rfl
theorem kp55_5 : E.keep 55 5 = [4] := by kernel_rfl
theorem kp55_6 : E.keep 55 6 = [0, 1, 7, 8] := by kernel_rfl
theorem kp55_7 : E.keep 55 7 = [4] := by kernel_rfl
theorem kp56_0 : E.keep 56 0 = [0, 1, 2] := by kernel_rfl
theorem kp56_1 : E.keep 56 1 = [1, 2, 10] := by kernel_rfl
theorem kp56_2 : E.keep 56 2 = [1, 2, 10, 11, 12] := by kernel_rfl
theorem kp56_3 : E.keep 56 3 = [1, 2, 7, 8, 10] := by kernel_rfl
theorem kp56_4 : E.keep 56 4 = [1, 2, 7, 10, 19] := by kernel_rfl
theorem kp56_5 : E.keep 56 5 = [6] := by kernel_rfl
theorem kp56_6 : E.keep 56 6 = [6] := by kernel_rfl
theorem hd5_5 : E.head 5 5 = [1, 2, 5, 6, 17, 18] := by kernel_rfl
theorem hd9_5 : E.head 9 5 = [1, 4, 6, 7] := by kernel_rfl
theorem hd10_4 : E.head 10 4 = [0, 1, 5] := by kernel_rfl
theorem hd12_5 : E.head 12 5 = [1, 2, 4, 6, 7] := by kernel_rfl
theorem hd18_4 : E.head 18 4 = [0, 1, 5] := by kernel_rfl
theorem hd20_5 : E.head 20 5 = [4, 6, 7, 8, 9] := by kernel_rfl
theorem hd23_6 : E.head 23 6 = [6, 7, 8, 9, 16, 17] := by kernel_rfl
theorem hd31_5 : E.head 31 5 = [6, 7, 8, 9] := by kernel_rfl
theorem hd32_4 : E.head 32 4 = [0, 2, 3, 9] := by kernel_rfl
theorem hd33_7 : E.head 33 7 = [0, 6, 7, 8] := by kernel_rfl
theorem hd33_11 : E.head 33 11 = [6, 9, 10, 11] := by kernel_rfl
theorem hd33_20 : E.head 33 20 = [6, 9, 10, 12, 13, 14] := by kernel_rfl
theorem hd37_1 : E.head 37 1 = [0, 6, 7, 8] := by kernel_rfl
theorem hd40_7 : E.head 40 7 = [0, 6, 7, 8, 9, 10] := by kernel_rfl
theorem hd42_10 : E.head 42 10 = [0, 3, 4] := by kernel_rfl
theorem hd45_2 : E.head 45 2 = [0, 1, 7, 8] := by kernel_rfl
theorem hd55_2 : E.head 55 2 = [0, 1, 7, 8] := by kernel_rfl
theorem hd56_2 : E.head 56 2 = [1, 2, 10] := by kernel_rfl
theorem fl3_4 : E.flo 3 4 = [(0, 8), (3, 8), (4, 8)] := by kernel_rfl
theorem ho3_4 : E.hol 3 4 = true := by kernel_rfl
theorem dr3_4 (B : Nat) (fr : Fr) (H : Hp) (ops : Array Oper) : execT E B 3 (.region 4 ops true) fr H = regTK E 3 4 (evD E (callT E) ops.toList H.length ops.toList fr (H ++ List.replicate (nFresh ops.toList) hole)) := execT_drawD ho3_4 ops
theorem fl3_5 : E.flo 3 5 = [(0, 8), (3, 8), (4, 8)] := by kernel_rfl
theorem ho3_5 : E.hol 3 5 = true := by kernel_rfl
theorem dr3_5 (B : Nat) (fr : Fr) (H : Hp) (ops : Array Oper) : execT E B 3 (.region 5 ops true) fr H = regTK E 3 5 (evD E (callT E) ops.toList H.length ops.toList fr (H ++ List.replicate (nFresh ops.toList) hole)) := execT_drawD ho3_5 ops
theorem fl6_5 : E.flo 6 5 = [(10, 11)] := by kernel_rfl
theorem ho6_5 : E.hol 6 5 = false := by kernel_rfl
theorem dr6_5 (B : Nat) (fr : Fr) (H : Hp) (ops : Array Oper) : execT E B 6 (.region 5 ops true) fr H = regTK E 6 5 (evT E (callT E) ops.toList ops.toList fr H) := execT_draw ho6_5 ops
theorem fl9_10 : E.flo 9 10 = [(7, 8)] := by kernel_rfl
theorem ho9_10 : E.hol 9 10 = false := by kernel_rfl
theorem dr9_10 (B : Nat) (fr : Fr) (H : Hp) (ops : Array Oper) : execT E B 9 (.region 10 ops true) fr H = regTK E 9 10 (evT E (callT E) ops.toList ops.toList fr H) := execT_draw ho9_10 ops
theorem fl10_6 : E.flo 10 6 = [] := by kernel_rfl
theorem ho10_6 : E.hol 10 6 = false := by kernel_rfl
theorem dr10_6 (B : Nat) (fr : Fr) (H : Hp) (ops : Array Oper) : execT E B 10 (.region 6 ops true) fr H = regK E 10 6 (evOps E (callT E) ops.toList ops.toList fr H) := execT_draw0 ho10_6 fl10_6 ops
theorem fl12_9 : E.flo 12 9 = [] := by kernel_rfl
theorem ho12_9 : E.hol 12 9 = false := by kernel_rfl
theorem dr12_9 (B : Nat) (fr : Fr) (H : Hp) (ops : Array Oper) : execT E B 12 (.region 9 ops true) fr H = regK E 12 9 (evOps E (callT E) ops.toList ops.toList fr H) := execT_draw0 ho12_9 fl12_9 ops
theorem fl12_11 : E.flo 12 11 = [] := by kernel_rfl
theorem ho12_11 : E.hol 12 11 = false := by kernel_rfl
theorem dr12_11 (B : Nat) (fr : Fr) (H : Hp) (ops : Array Oper) : execT E B 12 (.region 11 ops true) fr H = regK E 12 11 (evOps E (callT E) ops.toList ops.toList fr H) := execT_draw0 ho12_11 fl12_11 ops
theorem fl12_14 : E.flo 12 14 = [] := by kernel_rfl
theorem ho12_14 : E.hol 12 14 = false := by kernel_rfl
theorem dr12_14 (B : Nat) (fr : Fr) (H : Hp) (ops : Array Oper) : execT E B 12 (.region 14 ops true) fr H = regK E 12 14 (evOps E (callT E) ops.toList ops.toList fr H) := execT_draw0 ho12_14 fl12_14 ops
theorem fl16_1 : E.flo 16 1 = [(4, 6)] := by kernel_rfl
theorem ho16_1 : E.hol 16 1 = false := by kernel_rfl
theorem dr16_1 (B : Nat) (fr : Fr) (H : Hp) (ops : Array Oper) : execT E B 16 (.region 1 ops true) fr H = regTK E 16 1 (evT E (callT E) ops.toList ops.toList fr H) := execT_draw ho16_1 ops
theorem fl18_6 : E.flo 18 6 = [] := by kernel_rfl
theorem ho18_6 : E.hol 18 6 = false := by kernel_rfl
theorem dr18_6 (B : Nat) (fr : Fr) (H : Hp) (ops : Array Oper) : execT E B 18 (.region 6 ops true) fr H = regK E 18 6 (evOps E (callT E) ops.toList ops.toList fr H) := execT_draw0 ho18_6 fl18_6 ops
theorem fl21_22 : E.flo 21 22 = [(2, 6), (5, 6)] := by kernel_rfl
theorem ho21_22 : E.hol 21 22 = true := by kernel_rfl
theorem dr21_22 (B : Nat) (fr : Fr) (H : Hp) (ops : Array Oper) : execT E B 21 (.region 22 ops true) fr H = regTK E 21 22 (evD E (callT E) ops.toList H.length ops.toList fr (H ++ List.replicate (nFresh ops.toList) hole)) := execT_drawD ho21_22 ops
theorem fl23_23 : E.flo 23 23 = [] := by kernel_rfl
theorem ho23_23 : E.hol 23 23 = false := by kernel_rfl
theorem dr23_23 (B : Nat) (fr : Fr) (H : Hp) (ops : Array Oper) : execT E B 23 (.region 23 ops true) fr H = regK E 23 23 (evOps E (callT E) ops.toList ops.toList fr H) := execT_draw0 ho23_23 fl23_23 ops
theorem fl25_1 : E.flo 25 1 = [(4, 6)] := by kernel_rfl
theorem ho25_1 : E.hol 25 1 = false := by kernel_rfl
theorem dr25_1 (B : Nat) (fr : Fr) (H : Hp) (ops : Array Oper) : execT E B 25 (.region 1 ops true) fr H = regTK E 25 1 (evT E (callT E) ops.toList ops.toList fr H) := execT_draw ho25_1 ops
theorem fl31_24 : E.flo 31 24 = [] := by kernel_rfl
theorem ho31_24 : E.hol 31 24 = false := by kernel_rfl
theorem dr31_24 (B : Nat) (fr : Fr) (H : Hp) (ops : Array Oper) : execT E B 31 (.region 24 ops true) fr H = regK E 31 24 (evOps E (callT E) ops.toList ops.toList fr H) := execT_draw0 ho31_24 fl31_24 ops
theorem fl33_9 : E.flo 33 9 = [] := by kernel_rfl
theorem ho33_9 : E.hol 33 9 = false := by kernel_rfl
theorem dr33_9 (B : Nat) (fr : Fr) (H : Hp) (ops : Array Oper) : execT E B 33 (.region 9 ops true) fr H = regK E 33 9 (evOps E (callT E) ops.toList ops.toList fr H) := execT_draw0 ho33_9 fl33_9 ops
theorem fl39_1 : E.flo 39 1 = [(4, 6)] := by kernel_rfl
theorem ho39_1 : E.hol 39 1 = false := by kernel_rfl
theorem dr39_1 (B : Nat) (fr : Fr) (H : Hp) (ops : Array Oper) : execT E B 39 (.region 1 ops true) fr H = regTK E 39 1 (evT E (callT E) ops.toList ops.toList fr H) := execT_draw ho39_1 ops
theorem fl40_3 : E.flo 40 3 = [] := by kernel_rfl
theorem ho40_3 : E.hol 40 3 = false := by kernel_rfl
theorem dr40_3 (B : Nat) (fr : Fr) (H : Hp) (ops : Array Oper) : execT E B 40 (.region 3 ops true) fr H = regK E 40 3 (evOps E (callT E) ops.toList ops.toList fr H) := execT_draw0 ho40_3 fl40_3 ops
theorem fl40_17 : E.flo 40 17 = [] := by kernel_rfl
theorem ho40_17 : E.hol 40 17 = false := by kernel_rfl
theorem dr40_17 (B : Nat) (fr : Fr) (H : Hp) (ops : Array Oper) : execT E B 40 (.region 17 ops true) fr H = regK E 40 17 (evOps E (callT E) ops.toList ops.toList fr H) := execT_draw0 ho40_17 fl40_17 ops
theorem mt5_5 : E.mat 5 5 = [(6, 7)] := by kernel_rfl
theorem mb5_5 : E.matb 5 5 = [] := by kernel_rfl
theorem zf5_5 : E.frz 5 5 = [] := by kernel_rfl
theorem mt9_5 : E.mat 9 5 = [] := by kernel_rfl
theorem mb9_5 : E.matb 9 5 = [(6, 3, 7)] := by kernel_rfl
theorem zf9_5 : E.frz 9 5 = [] := by kernel_rfl
theorem mt10_4 : E.mat 10 4 = [] := by kernel_rfl
theorem mb10_4 : E.matb 10 4 = [] := by kernel_rfl
theorem zf10_4 : E.frz 10 4 = [] := by kernel_rfl
theorem mt12_5 : E.mat 12 5 = [(6, 7)] := by kernel_rfl
theorem mb12_5 : E.matb 12 5 = [] := by kernel_rfl
theorem zf12_5 : E.frz 12 5 = [] := by kernel_rfl
theorem mt18_4 : E.mat 18 4 = [] := by kernel_rfl
theorem mb18_4 : E.matb 18 4 = [] := by kernel_rfl
theorem zf18_4 : E.frz 18 4 = [] := by kernel_rfl
theorem mt20_5 : E.mat 20 5 = [(8, 7)] := by kernel_rfl
theorem mb20_5 : E.matb 20 5 = [] := by kernel_rfl
theorem zf20_5 : E.frz 20 5 = [] := by kernel_rfl
theorem mt23_6 : E.mat 23 6 = [(7, 1)] := by kernel_rfl
theorem mb23_6 : E.matb 23 6 = [] := by kernel_rfl
theorem zf23_6 : E.frz 23 6 = [] := by kernel_rfl
theorem mt31_5 : E.mat 31 5 = [(7, 1), (8, 1)] := by kernel_rfl
theorem mb31_5 : E.matb 31 5 = [] := by kernel_rfl
theorem zf31_5 : E.frz 31 5 = [] := by kernel_rfl
theorem mt32_4 : E.mat 32 4 = [] := by kernel_rfl
theorem mb32_4 : E.matb 32 4 = [] := by kernel_rfl
theorem zf32_4 : E.frz 32 4 = [] := by kernel_rfl
theorem mt33_7 : E.mat 33 7 = [] := by kernel_rfl
theorem mb33_7 : E.matb 33 7 = [] := by kernel_rfl
theorem zf33_7 : E.frz 33 7 = [] := by kernel_rfl
theorem mt33_11 : E.mat 33 11 = [] := by kernel_rfl
theorem mb33_11 : E.matb 33 11 = [] := by kernel_rfl
theorem zf33_11 : E.frz 33 11 = [] := by kernel_rfl
theorem mt33_20 : E.mat 33 20 = [(12, 1)] := by kernel_rfl
theorem mb33_20 : E.matb 33 20 = [] := by kernel_rfl
theorem zf33_20 : E.frz 33 20 = [] := by kernel_rfl
theorem mt37_1 : E.mat 37 1 = [] := by kernel_rfl
theorem mb37_1 : E.matb 37 1 = [] := by kernel_rfl
theorem zf37_1 : E.frz 37 1 = [] := by kernel_rfl
theorem mt40_7 : E.mat 40 7 = [] := by kernel_rfl
theorem mb40_7 : E.matb 40 7 = [(7, 0, 1)] := by kernel_rfl
theorem zf40_7 : E.frz 40 7 = [] := by kernel_rfl
theorem mt42_10 : E.mat 42 10 = [] := by kernel_rfl
theorem mb42_10 : E.matb 42 10 = [] := by kernel_rfl
theorem zf42_10 : E.frz 42 10 = [] := by kernel_rfl
theorem mt45_2 : E.mat 45 2 = [] := by kernel_rfl
theorem mb45_2 : E.matb 45 2 = [] := by kernel_rfl
theorem zf45_2 : E.frz 45 2 = [] := by kernel_rfl
theorem mt55_2 : E.mat 55 2 = [] := by kernel_rfl
theorem mb55_2 : E.matb 55 2 = [] := by kernel_rfl
theorem zf55_2 : E.frz 55 2 = [] := by kernel_rfl
theorem mt56_2 : E.mat 56 2 = [] := by kernel_rfl
theorem mb56_2 : E.matb 56 2 = [] := by kernel_rfl
theorem zf56_2 : E.frz 56 2 = [] := by kernel_rfl
theorem ak2 : E.argk 2 = [] := by kernel_rfl
theorem rk2 : E.resk 2 = [] := by kernel_rfl
theorem ow2 : E.own 2 = false := by kernel_rfl
theorem pe2 (args : List AV) (H : Hp) : prepE E 2 H args = peP E 2 (prep H args) := prepE_v rfl args
theorem cr2 (args : List AV) (H : Hp) : calleeR E 2 args H = crK args (peP E 2 (prep H args)) := (cr_prep args).trans (by rw [pe2])
theorem ci2 (args : List AV) (H : Hp) : callIso E (callT E) 2 args H = prepK E (callT E) 2 (peP E 2 (prep H args)) := (iso_prep args).trans (by rw [pe2])
theorem ak3 : E.argk 3 = [] := by kernel_rfl
theorem rk3 : E.resk 3 = [] := by kernel_rfl
theorem ow3 : E.own 3 = false := by kernel_rfl
theorem pe3 (args : List AV) (H : Hp) : prepE E 3 H args = peP E 3 (prep H args) := prepE_v rfl args
theorem cr3 (args : List AV) (H : Hp) : calleeR E 3 args H = crK args (peP E 3 (prep H args)) := (cr_prep args).trans (by rw [pe3])
theorem ci3 (args : List AV) (H : Hp) : callIso E (callT E) 3 args H = prepK E (callT E) 3 (peP E 3 (prep H args)) := (iso_prep args).trans (by rw [pe3])
theorem ak4 : E.argk 4 = [] := by kernel_rfl
theorem rk4 : E.resk 4 = [] := by kernel_rfl
theorem ow4 : E.own 4 = false := by kernel_rfl
theorem pe4 (args : List AV) (H : Hp) : prepE E 4 H args = peP E 4 (prep H args) := prepE_v rfl args
theorem cr4 (args : List AV) (H : Hp) : calleeR E 4 args H = crK args (peP E 4 (prep H args)) := (cr_prep args).trans (by rw [pe4])
theorem ci4 (args : List AV) (H : Hp) : callIso E (callT E) 4 args H = prepK E (callT E) 4 (peP E 4 (prep H args)) := (iso_prep args).trans (by rw [pe4])
theorem ak5 : E.argk 5 = [] := by kernel_rfl
theorem rk5 : E.resk 5 = [] := by kernel_rfl
theorem ow5 : E.own 5 = false := by kernel_rfl
theorem pe5 (args : List AV) (H : Hp) : prepE E 5 H args = peP E 5 (prep H args) := prepE_v rfl args
theorem cr5 (args : List AV) (H : Hp) : calleeR E 5 args H = crK args (peP E 5 (prep H args)) := (cr_prep args).trans (by rw [pe5])
theorem ci5 (args : List AV) (H : Hp) : callIso E (callT E) 5 args H = prepK E (callT E) 5 (peP E 5 (prep H args)) := (iso_prep args).trans (by rw [pe5])
theorem ak6 : E.argk 6 = [] := by kernel_rfl
theorem rk6 : E.resk 6 = [] := by kernel_rfl
theorem ow6 : E.own 6 = false := by kernel_rfl
theorem pe6 (args : List AV) (H : Hp) : prepE E 6 H args = peP E 6 (prep H args) := prepE_v rfl args
theorem cr6 (args : List AV) (H : Hp) : calleeR E 6 args H = crK args (peP E 6 (prep H args)) := (cr_prep args).trans (by rw [pe6])
theorem ci6 (args : List AV) (H : Hp) : callIso E (callT E) 6 args H = prepK E (callT E) 6 (peP E 6 (prep H args)) := (iso_prep args).trans (by rw [pe6])
theorem ak7 : E.argk 7 = [] := by kernel_rfl
theorem rk7 : E.resk 7 = [] := by kernel_rfl
theorem ow7 : E.own 7 = false := by kernel_rfl
theorem pe7 (args : List AV) (H : Hp) : prepE E 7 H args = peP E 7 (prep H args) := prepE_v rfl args
theorem cr7 (args : List AV) (H : Hp) : calleeR E 7 args H = crK args (peP E 7 (prep H args)) := (cr_prep args).trans (by rw [pe7])
theorem ci7 (args : List AV) (H : Hp) : callIso E (callT E) 7 args H = prepK E (callT E) 7 (peP E 7 (prep H args)) := (iso_prep args).trans (by rw [pe7])
theorem ak8 : E.argk 8 = [] := by kernel_rfl
theorem rk8 : E.resk 8 = [] := by kernel_rfl
theorem ow8 : E.own 8 = false := by kernel_rfl
theorem pe8 (args : List AV) (H : Hp) : prepE E 8 H args = peP E 8 (prep H args) := prepE_v rfl args
theorem cr8 (args : List AV) (H : Hp) : calleeR E 8 args H = crK args (peP E 8 (prep H args)) := (cr_prep args).trans (by rw [pe8])
theorem ci8 (args : List AV) (H : Hp) : callIso E (callT E) 8 args H = prepK E (callT E) 8 (peP E 8 (prep H args)) := (iso_prep args).trans (by rw [pe8])
theorem ak9 : E.argk 9 = [] := by kernel_rfl
theorem rk9 : E.resk 9 = [[], [some 7]] := by kernel_rfl
theorem ow9 : E.own 9 = false := by kernel_rfl
theorem pe9 (args : List AV) (H : Hp) : prepE E 9 H args = peP E 9 (prep H args) := prepE_v rfl args
theorem cr9 (args : List AV) (H : Hp) : calleeR E 9 args H = crK args (peP E 9 (prep H args)) := (cr_prep args).trans (by rw [pe9])
theorem ci9 (args : List AV) (H : Hp) : callIso E (callT E) 9 args H = prepK E (callT E) 9 (peP E 9 (prep H args)) := (iso_prep args).trans (by rw [pe9])
theorem ak10 : E.argk 10 = [[some 7], [some 7]] := by kernel_rfl
theorem rk10 : E.resk 10 = [] := by kernel_rfl
theorem ow10 : E.own 10 = false := by kernel_rfl
theorem pe10 (args : List AV) (H : Hp) : prepE E 10 H args = peP E 10 (prep H args) := prepE_v rfl args
theorem cr10 (args : List AV) (H : Hp) : calleeR E 10 args H = crK args (peP E 10 (prep H args)) := (cr_prep args).trans (by rw [pe10])
theorem ci10 (args : List AV) (H : Hp) : callIso E (callT E) 10 args H = prepK E (callT E) 10 (peP E 10 (prep H args)) := (iso_prep args).trans (by rw [pe10])
theorem ak11 : E.argk 11 = [[none, none, none, none, none, some 1, none], [none, none, none, none, none, some 1, none]] := by kernel_rfl
theorem rk11 : E.resk 11 = [] := by kernel_rfl
theorem ow11 : E.own 11 = false := by kernel_rfl
theorem pe11 (args : List AV) (H : Hp) : prepE E 11 H args = peP E 11 (prep H args) := prepE_v rfl args
theorem cr11 (args : List AV) (H : Hp) : calleeR E 11 args H = crK args (peP E 11 (prep H args)) := (cr_prep args).trans (by rw [pe11])
theorem ci11 (args : List AV) (H : Hp) : callIso E (callT E) 11 args H = prepK E (callT E) 11 (peP E 11 (prep H args)) := (iso_prep args).trans (by rw [pe11])
theorem ak12 : E.argk 12 = [] := by kernel_rfl
theorem rk12 : E.resk 12 = [[], [some 7]] := by kernel_rfl
theorem ow12 : E.own 12 = false := by kernel_rfl
theorem pe12 (args : List AV) (H : Hp) : prepE E 12 H args = peP E 12 (prep H args) := prepE_v rfl args
theorem cr12 (args : List AV) (H : Hp) : calleeR E 12 args H = crK args (peP E 12 (prep H args)) := (cr_prep args).trans (by rw [pe12])
theorem ci12 (args : List AV) (H : Hp) : callIso E (callT E) 12 args H = prepK E (callT E) 12 (peP E 12 (prep H args)) := (iso_prep args).trans (by rw [pe12])
theorem ak13 : E.argk 13 = [] := by kernel_rfl
theorem rk13 : E.resk 13 = [] := by kernel_rfl
theorem ow13 : E.own 13 = false := by kernel_rfl
theorem pe13 (args : List AV) (H : Hp) : prepE E 13 H args = peP E 13 (prep H args) := prepE_v rfl args
theorem cr13 (args : List AV) (H : Hp) : calleeR E 13 args H = crK args (peP E 13 (prep H args)) := (cr_prep args).trans (by rw [pe13])
theorem ci13 (args : List AV) (H : Hp) : callIso E (callT E) 13 args H = prepK E (callT E) 13 (peP E 13 (prep H args)) := (iso_prep args).trans (by rw [pe13])
theorem ak14 : E.argk 14 = [] := by kernel_rfl
theorem rk14 : E.resk 14 = [] := by kernel_rfl
theorem ow14 : E.own 14 = false := by kernel_rfl
theorem pe14 (args : List AV) (H : Hp) : prepE E 14 H args = peP E 14 (prep H args) := prepE_v rfl args
theorem cr14 (args : List AV) (H : Hp) : calleeR E 14 args H = crK args (peP E 14 (prep H args)) := (cr_prep args).trans (by rw [pe14])
theorem ci14 (args : List AV) (H : Hp) : callIso E (callT E) 14 args H = prepK E (callT E) 14 (peP E 14 (prep H args)) := (iso_prep args).trans (by rw [pe14])
theorem ak15 : E.argk 15 = [] := by kernel_rfl
theorem rk15 : E.resk 15 = [] := by kernel_rfl
theorem ow15 : E.own 15 = false := by kernel_rfl
theorem pe15 (args : List AV) (H : Hp) : prepE E 15 H args = peP E 15 (prep H args) := prepE_v rfl args
theorem cr15 (args : List AV) (H : Hp) : calleeR E 15 args H = crK args (peP E 15 (prep H args)) := (cr_prep args).trans (by rw [pe15])
theorem ci15 (args : List AV) (H : Hp) : callIso E (callT E) 15 args H = prepK E (callT E) 15 (peP E 15 (prep H args)) := (iso_prep args).trans (by rw [pe15])
theorem ak16 : E.argk 16 = [[], [none, none, none, none, none, some 1, none]] := by kernel_rfl
theorem rk16 : E.resk 16 = [] := by kernel_rfl
theorem ow16 : E.own 16 = false := by kernel_rfl
theorem pe16 (args : List AV) (H : Hp) : prepE E 16 H args = peP E 16 (prep H args) := prepE_v rfl args
theorem cr16 (args : List AV) (H : Hp) : calleeR E 16 args H = crK args (peP E 16 (prep H args)) := (cr_prep args).trans (by rw [pe16])
theorem ci16 (args : List AV) (H : Hp) : callIso E (callT E) 16 args H = prepK E (callT E) 16 (peP E 16 (prep H args)) := (iso_prep args).trans (by rw [pe16])
theorem ak17 : E.argk 17 = [] := by kernel_rfl
theorem rk17 : E.resk 17 = [] := by kernel_rfl
theorem ow17 : E.own 17 = false := by kernel_rfl
theorem pe17 (args : List AV) (H : Hp) : prepE E 17 H args = peP E 17 (prep H args) := prepE_v rfl args
theorem cr17 (args : List AV) (H : Hp) : calleeR E 17 args H = crK args (peP E 17 (prep H args)) := (cr_prep args).trans (by rw [pe17])
theorem ci17 (args : List AV) (H : Hp) : callIso E (callT E) 17 args H = prepK E (callT E) 17 (peP E 17 (prep H args)) := (iso_prep args).trans (by rw [pe17])
theorem ak18 : E.argk 18 = [[some 1], [some 1]] := by kernel_rfl
theorem rk18 : E.resk 18 = [] := by kernel_rfl
theorem ow18 : E.own 18 = false := by kernel_rfl
theorem pe18 (args : List AV) (H : Hp) : prepE E 18 H args = peP E 18 (prep H args) := prepE_v rfl args
theorem cr18 (args : List AV) (H : Hp) : calleeR E 18 args H = crK args (peP E 18 (prep H args)) := (cr_prep args).trans (by rw [pe18])
theorem ci18 (args : List AV) (H : Hp) : callIso E (callT E) 18 args H = prepK E (callT E) 18 (peP E 18 (prep H args)) := (iso_prep args).trans (by rw [pe18])
theorem ak19 : E.argk 19 = [] := by kernel_rfl
theorem rk19 : E.resk 19 = [] := by kernel_rfl
theorem ow19 : E.own 19 = false := by kernel_rfl
theorem pe19 (args : List AV) (H : Hp) : prepE E 19 H args = peP E 19 (prep H args) := prepE_v rfl args
theorem cr19 (args : List AV) (H : Hp) : calleeR E 19 args H = crK args (peP E 19 (prep H args)) := (cr_prep args).trans (by rw [pe19])
theorem ci19 (args : List AV) (H : Hp) : callIso E (callT E) 19 args H = prepK E (callT E) 19 (peP E 19 (prep H args)) := (iso_prep args).trans (by rw [pe19])
theorem ak20 : E.argk 20 = [] := by kernel_rfl
theorem rk20 : E.resk 20 = [[], [some 7]] := by kernel_rfl
theorem ow20 : E.own 20 = false := by kernel_rfl
theorem pe20 (args : List AV) (H : Hp) : prepE E 20 H args = peP E 20 (prep H args) := prepE_v rfl args
theorem cr20 (args : List AV) (H : Hp) : calleeR E 20 args H = crK args (peP E 20 (prep H args)) := (cr_prep args).trans (by rw [pe20])
theorem ci20 (args : List AV) (H : Hp) : callIso E (callT E) 20 args H = prepK E (callT E) 20 (peP E 20 (prep H args)) := (iso_prep args).trans (by rw [pe20])
theorem ak21 : E.argk 21 = [] := by kernel_rfl
theorem rk21 : E.resk 21 = [[], [some 7]] := by kernel_rfl
theorem ow21 : E.own 21 = false := by kernel_rfl
theorem pe21 (args : List AV) (H : Hp) : prepE E 21 H args = peP E 21 (prep H args) := prepE_v rfl args
theorem cr21 (args : List AV) (H : Hp) : calleeR E 21 args H = crK args (peP E 21 (prep H args)) := (cr_prep args).trans (by rw [pe21])
theorem ci21 (args : List AV) (H : Hp) : callIso E (callT E) 21 args H = prepK E (callT E) 21 (peP E 21 (prep H args)) := (iso_prep args).trans (by rw [pe21])
theorem ak22 : E.argk 22 = [] := by kernel_rfl
theorem rk22 : E.resk 22 = [[], [some 7]] := by kernel_rfl
theorem ow22 : E.own 22 = false := by kernel_rfl
theorem pe22 (args : List AV) (H : Hp) : prepE E 22 H args = peP E 22 (prep H args) := prepE_v rfl args
theorem cr22 (args : List AV) (H : Hp) : calleeR E 22 args H = crK args (peP E 22 (prep H args)) := (cr_prep args).trans (by rw [pe22])
theorem ci22 (args : List AV) (H : Hp) : callIso E (callT E) 22 args H = prepK E (callT E) 22 (peP E 22 (prep H args)) := (iso_prep args).trans (by rw [pe22])
theorem ak23 : E.argk 23 = [] := by kernel_rfl
theorem rk23 : E.resk 23 = [[some 1]] := by kernel_rfl
theorem ow23 : E.own 23 = false := by kernel_rfl
theorem pe23 (args : List AV) (H : Hp) : prepE E 23 H args = peP E 23 (prep H args) := prepE_v rfl args
theorem cr23 (args : List AV) (H : Hp) : calleeR E 23 args H = crK args (peP E 23 (prep H args)) := (cr_prep args).trans (by rw [pe23])
theorem ci23 (args : List AV) (H : Hp) : callIso E (callT E) 23 args H = prepK E (callT E) 23 (peP E 23 (prep H args)) := (iso_prep args).trans (by rw [pe23])
theorem ak24 : E.argk 24 = [] := by kernel_rfl
theorem rk24 : E.resk 24 = [] := by kernel_rfl
theorem ow24 : E.own 24 = false := by kernel_rfl
theorem pe24 (args : List AV) (H : Hp) : prepE E 24 H args = peP E 24 (prep H args) := prepE_v rfl args
theorem cr24 (args : List AV) (H : Hp) : calleeR E 24 args H = crK args (peP E 24 (prep H args)) := (cr_prep args).trans (by rw [pe24])
theorem ci24 (args : List AV) (H : Hp) : callIso E (callT E) 24 args H = prepK E (callT E) 24 (peP E 24 (prep H args)) := (iso_prep args).trans (by rw [pe24])
theorem ak25 : E.argk 25 = [] := by kernel_rfl
theorem rk25 : E.resk 25 = [] := by kernel_rfl
theorem ow25 : E.own 25 = false := by kernel_rfl
theorem pe25 (args : List AV) (H : Hp) : prepE E 25 H args = peP E 25 (prep H args) := prepE_v rfl args
theorem cr25 (args : List AV) (H : Hp) : calleeR E 25 args H = crK args (peP E 25 (prep H args)) := (cr_prep args).trans (by rw [pe25])
theorem ci25 (args : List AV) (H : Hp) : callIso E (callT E) 25 args H = prepK E (callT E) 25 (peP E 25 (prep H args)) := (iso_prep args).trans (by rw [pe25])
theorem ak26 : E.argk 26 = [] := by kernel_rfl
theorem rk26 : E.resk 26 = [] := by kernel_rfl
theorem ow26 : E.own 26 = false := by kernel_rfl
theorem pe26 (args : List AV) (H : Hp) : prepE E 26 H args = peP E 26 (prep H args) := prepE_v rfl args
theorem cr26 (args : List AV) (H : Hp) : calleeR E 26 args H = crK args (peP E 26 (prep H args)) := (cr_prep args).trans (by rw [pe26])
theorem ci26 (args : List AV) (H : Hp) : callIso E (callT E) 26 args H = prepK E (callT E) 26 (peP E 26 (prep H args)) := (iso_prep args).trans (by rw [pe26])
theorem ak27 : E.argk 27 = [] := by kernel_rfl
theorem rk27 : E.resk 27 = [] := by kernel_rfl
theorem ow27 : E.own 27 = false := by kernel_rfl
theorem pe27 (args : List AV) (H : Hp) : prepE E 27 H args = peP E 27 (prep H args) := prepE_v rfl args
theorem cr27 (args : List AV) (H : Hp) : calleeR E 27 args H = crK args (peP E 27 (prep H args)) := (cr_prep args).trans (by rw [pe27])
theorem ci27 (args : List AV) (H : Hp) : callIso E (callT E) 27 args H = prepK E (callT E) 27 (peP E 27 (prep H args)) := (iso_prep args).trans (by rw [pe27])
theorem ak28 : E.argk 28 = [] := by kernel_rfl
theorem rk28 : E.resk 28 = [] := by kernel_rfl
theorem ow28 : E.own 28 = false := by kernel_rfl
theorem pe28 (args : List AV) (H : Hp) : prepE E 28 H args = peP E 28 (prep H args) := prepE_v rfl args
theorem cr28 (args : List AV) (H : Hp) : calleeR E 28 args H = crK args (peP E 28 (prep H args)) := (cr_prep args).trans (by rw [pe28])
theorem ci28 (args : List AV) (H : Hp) : callIso E (callT E) 28 args H = prepK E (callT E) 28 (peP E 28 (prep H args)) := (iso_prep args).trans (by rw [pe28])
theorem ak29 : E.argk 29 = [] := by kernel_rfl
theorem rk29 : E.resk 29 = [] := by kernel_rfl
theorem ow29 : E.own 29 = false := by kernel_rfl
theorem pe29 (args : List AV) (H : Hp) : prepE E 29 H args = peP E 29 (prep H args) := prepE_v rfl args
theorem cr29 (args : List AV) (H : Hp) : calleeR E 29 args H = crK args (peP E 29 (prep H args)) := (cr_prep args).trans (by rw [pe29])
theorem ci29 (args : List AV) (H : Hp) : callIso E (callT E) 29 args H = prepK E (callT E) 29 (peP E 29 (prep H args)) := (iso_prep args).trans (by rw [pe29])
theorem ak30 : E.argk 30 = [] := by kernel_rfl
theorem rk30 : E.resk 30 = [] := by kernel_rfl
theorem ow30 : E.own 30 = false := by kernel_rfl
theorem pe30 (args : List AV) (H : Hp) : prepE E 30 H args = peP E 30 (prep H args) := prepE_v rfl args
theorem cr30 (args : List AV) (H : Hp) : calleeR E 30 args H = crK args (peP E 30 (prep H args)) := (cr_prep args).trans (by rw [pe30])
theorem ci30 (args : List AV) (H : Hp) : callIso E (callT E) 30 args H = prepK E (callT E) 30 (peP E 30 (prep H args)) := (iso_prep args).trans (by rw [pe30])
theorem ak31 : E.argk 31 = [] := by kernel_rfl
theorem rk31 : E.resk 31 = [[some 1]] := by kernel_rfl
theorem ow31 : E.own 31 = false := by kernel_rfl
theorem pe31 (args : List AV) (H : Hp) : prepE E 31 H args = peP E 31 (prep H args) := prepE_v rfl args
theorem cr31 (args : List AV) (H : Hp) : calleeR E 31 args H = crK args (peP E 31 (prep H args)) := (cr_prep args).trans (by rw [pe31])
theorem ci31 (args : List AV) (H : Hp) : callIso E (callT E) 31 args H = prepK E (callT E) 31 (peP E 31 (prep H args)) := (iso_prep args).trans (by rw [pe31])
theorem ak32 : E.argk 32 = [] := by kernel_rfl
theorem rk32 : E.resk 32 = [] := by kernel_rfl
theorem ow32 : E.own 32 = false := by kernel_rfl
theorem pe32 (args : List AV) (H : Hp) : prepE E 32 H args = peP E 32 (prep H args) := prepE_v rfl args
theorem cr32 (args : List AV) (H : Hp) : calleeR E 32 args H = crK args (peP E 32 (prep H args)) := (cr_prep args).trans (by rw [pe32])
theorem ci32 (args : List AV) (H : Hp) : callIso E (callT E) 32 args H = prepK E (callT E) 32 (peP E 32 (prep H args)) := (iso_prep args).trans (by rw [pe32])
theorem ak33 : E.argk 33 = [] := by kernel_rfl
theorem rk33 : E.resk 33 = [[], [some 1]] := by kernel_rfl
theorem ow33 : E.own 33 = false := by kernel_rfl
theorem pe33 (args : List AV) (H : Hp) : prepE E 33 H args = peP E 33 (prep H args) := prepE_v rfl args
theorem cr33 (args : List AV) (H : Hp) : calleeR E 33 args H = crK args (peP E 33 (prep H args)) := (cr_prep args).trans (by rw [pe33])
theorem ci33 (args : List AV) (H : Hp) : callIso E (callT E) 33 args H = prepK E (callT E) 33 (peP E 33 (prep H args)) := (iso_prep args).trans (by rw [pe33])
theorem ak34 : E.argk 34 = [] := by kernel_rfl
theorem rk34 : E.resk 34 = [] := by kernel_rfl
theorem ow34 : E.own 34 = false := by kernel_rfl
theorem pe34 (args : List AV) (H : Hp) : prepE E 34 H args = peP E 34 (prep H args) := prepE_v rfl args
theorem cr34 (args : List AV) (H : Hp) : calleeR E 34 args H = crK args (peP E 34 (prep H args)) := (cr_prep args).trans (by rw [pe34])
theorem ci34 (args : List AV) (H : Hp) : callIso E (callT E) 34 args H = prepK E (callT E) 34 (peP E 34 (prep H args)) := (iso_prep args).trans (by rw [pe34])
theorem ak35 : E.argk 35 = [[some 1]] := by kernel_rfl
theorem rk35 : E.resk 35 = [] := by kernel_rfl
theorem ow35 : E.own 35 = false := by kernel_rfl
theorem pe35 (args : List AV) (H : Hp) : prepE E 35 H args = peP E 35 (prep H args) := prepE_v rfl args
theorem cr35 (args : List AV) (H : Hp) : calleeR E 35 args H = crK args (peP E 35 (prep H args)) := (cr_prep args).trans (by rw [pe35])
theorem ci35 (args : List AV) (H : Hp) : callIso E (callT E) 35 args H = prepK E (callT E) 35 (peP E 35 (prep H args)) := (iso_prep args).trans (by rw [pe35])
theorem ak36 : E.argk 36 = [] := by kernel_rfl
theorem rk36 : E.resk 36 = [] := by kernel_rfl
theorem ow36 : E.own 36 = false := by kernel_rfl
theorem pe36 (args : List AV) (H : Hp) : prepE E 36 H args = peP E 36 (prep H args) := prepE_v rfl args
theorem cr36 (args : List AV) (H : Hp) : calleeR E 36 args H = crK args (peP E 36 (prep H args)) := (cr_prep args).trans (by rw [pe36])
theorem ci36 (args : List AV) (H : Hp) : callIso E (callT E) 36 args H = prepK E (callT E) 36 (peP E 36 (prep H args)) := (iso_prep args).trans (by rw [pe36])
theorem ak37 : E.argk 37 = [[], [some 1]] := by kernel_rfl
theorem rk37 : E.resk 37 = [] := by kernel_rfl
theorem ow37 : E.own 37 = false := by kernel_rfl
theorem pe37 (args : List AV) (H : Hp) : prepE E 37 H args = peP E 37 (prep H args) := prepE_v rfl args
theorem cr37 (args : List AV) (H : Hp) : calleeR E 37 args H = crK args (peP E 37 (prep H args)) := (cr_prep args).trans (by rw [pe37])
theorem ci37 (args : List AV) (H : Hp) : callIso E (callT E) 37 args H = prepK E (callT E) 37 (peP E 37 (prep H args)) := (iso_prep args).trans (by rw [pe37])
theorem ak38 : E.argk 38 = [] := by kernel_rfl
theorem rk38 : E.resk 38 = [] := by kernel_rfl
theorem ow38 : E.own 38 = false := by kernel_rfl
theorem pe38 (args : List AV) (H : Hp) : prepE E 38 H args = peP E 38 (prep H args) := prepE_v rfl args
theorem cr38 (args : List AV) (H : Hp) : calleeR E 38 args H = crK args (peP E 38 (prep H args)) := (cr_prep args).trans (by rw [pe38])
theorem ci38 (args : List AV) (H : Hp) : callIso E (callT E) 38 args H = prepK E (callT E) 38 (peP E 38 (prep H args)) := (iso_prep args).trans (by rw [pe38])
theorem ak39 : E.argk 39 = [] := by kernel_rfl
theorem rk39 : E.resk 39 = [] := by kernel_rfl
theorem ow39 : E.own 39 = false := by kernel_rfl
theorem pe39 (args : List AV) (H : Hp) : prepE E 39 H args = peP E 39 (prep H args) := prepE_v rfl args
theorem cr39 (args : List AV) (H : Hp) : calleeR E 39 args H = crK args (peP E 39 (prep H args)) := (cr_prep args).trans (by rw [pe39])
theorem ci39 (args : List AV) (H : Hp) : callIso E (callT E) 39 args H = prepK E (callT E) 39 (peP E 39 (prep H args)) := (iso_prep args).trans (by rw [pe39])
theorem ak40 : E.argk 40 = [] := by kernel_rfl
theorem rk40 : E.resk 40 = [[], [some 1]] := by kernel_rfl
theorem ow40 : E.own 40 = false := by kernel_rfl
theorem pe40 (args : List AV) (H : Hp) : prepE E 40 H args = peP E 40 (prep H args) := prepE_v rfl args
theorem cr40 (args : List AV) (H : Hp) : calleeR E 40 args H = crK args (peP E 40 (prep H args)) := (cr_prep args).trans (by rw [pe40])
theorem ci40 (args : List AV) (H : Hp) : callIso E (callT E) 40 args H = prepK E (callT E) 40 (peP E 40 (prep H args)) := (iso_prep args).trans (by rw [pe40])
theorem ak41 : E.argk 41 = [[some 1]] := by kernel_rfl
theorem rk41 : E.resk 41 = [] := by kernel_rfl
theorem ow41 : E.own 41 = false := by kernel_rfl
theorem pe41 (args : List AV) (H : Hp) : prepE E 41 H args = some (matL (E.argk 41) args H) := prepE_r rfl args
theorem cr41 (args : List AV) (H : Hp) : calleeR E 41 args H = crK args (some (matL (E.argk 41) args H)) := (cr_prep args).trans (by rw [pe41])
theorem ci41 (args : List AV) (H : Hp) : callIso E (callT E) 41 args H = prepK E (callT E) 41 (some (matL (E.argk 41) args H)) := (iso_prep args).trans (by rw [pe41])
theorem ak42 : E.argk 42 = [[some 1]] := by kernel_rfl
theorem rk42 : E.resk 42 = [] := by kernel_rfl
theorem ow42 : E.own 42 = false := by kernel_rfl
theorem pe42 (args : List AV) (H : Hp) : prepE E 42 H args = some (matL (E.argk 42) args H) := prepE_r rfl args
theorem cr42 (args : List AV) (H : Hp) : calleeR E 42 args H = crK args (some (matL (E.argk 42) args H)) := (cr_prep args).trans (by rw [pe42])
theorem ci42 (args : List AV) (H : Hp) : callIso E (callT E) 42 args H = prepK E (callT E) 42 (some (matL (E.argk 42) args H)) := (iso_prep args).trans (by rw [pe42])
theorem ak43 : E.argk 43 = [] := by kernel_rfl
theorem rk43 : E.resk 43 = [] := by kernel_rfl
theorem ow43 : E.own 43 = false := by kernel_rfl
theorem pe43 (args : List AV) (H : Hp) : prepE E 43 H args = peP E 43 (prep H args) := prepE_v rfl args
theorem cr43 (args : List AV) (H : Hp) : calleeR E 43 args H = crK args (peP E 43 (prep H args)) := (cr_prep args).trans (by rw [pe43])
theorem ci43 (args : List AV) (H : Hp) : callIso E (callT E) 43 args H = prepK E (callT E) 43 (peP E 43 (prep H args)) := (iso_prep args).trans (by rw [pe43])
theorem ak44 : E.argk 44 = [] := by kernel_rfl
theorem rk44 : E.resk 44 = [] := by kernel_rfl
theorem ow44 : E.own 44 = false := by kernel_rfl
theorem pe44 (args : List AV) (H : Hp) : prepE E 44 H args = peP E 44 (prep H args) := prepE_v rfl args
theorem cr44 (args : List AV) (H : Hp) : calleeR E 44 args H = crK args (peP E 44 (prep H args)) := (cr_prep args).trans (by rw [pe44])
theorem ci44 (args : List AV) (H : Hp) : callIso E (callT E) 44 args H = prepK E (callT E) 44 (peP E 44 (prep H args)) := (iso_prep args).trans (by rw [pe44])
theorem ak45 : E.argk 45 = [[some 1]] := by kernel_rfl
theorem rk45 : E.resk 45 = [] := by kernel_rfl
theorem ow45 : E.own 45 = false := by kernel_rfl
theorem pe45 (args : List AV) (H : Hp) : prepE E 45 H args = peP E 45 (prep H args) := prepE_v rfl args
theorem cr45 (args : List AV) (H : Hp) : calleeR E 45 args H = crK args (peP E 45 (prep H args)) := (cr_prep args).trans (by rw [pe45])
theorem ci45 (args : List AV) (H : Hp) : callIso E (callT E) 45 args H = prepK E (callT E) 45 (peP E 45 (prep H args)) := (iso_prep args).trans (by rw [pe45])
theorem ak46 : E.argk 46 = [] := by kernel_rfl
theorem rk46 : E.resk 46 = [] := by kernel_rfl
theorem ow46 : E.own 46 = false := by kernel_rfl
theorem pe46 (args : List AV) (H : Hp) : prepE E 46 H args = peP E 46 (prep H args) := prepE_v rfl args
theorem cr46 (args : List AV) (H : Hp) : calleeR E 46 args H = crK args (peP E 46 (prep H args)) := (cr_prep args).trans (by rw [pe46])
theorem ci46 (args : List AV) (H : Hp) : callIso E (callT E) 46 args H = prepK E (callT E) 46 (peP E 46 (prep H args)) := (iso_prep args).trans (by rw [pe46])
theorem ak47 : E.argk 47 = [] := by kernel_rfl
theorem rk47 : E.resk 47 = [] := by kernel_rfl
theorem ow47 : E.own 47 = false := by kernel_rfl
theorem pe47 (args : List AV) (H : Hp) : prepE E 47 H args = peP E 47 (prep H args) := prepE_v rfl args
theorem cr47 (args : List AV) (H : Hp) : calleeR E 47 args H = crK args (peP E 47 (prep H args)) := (cr_prep args).trans (by rw [pe47])
theorem ci47 (args : List AV) (H : Hp) : callIso E (callT E) 47 args H = prepK E (callT E) 47 (peP E 47 (prep H args)) := (iso_prep args).trans (by rw [pe47])
theorem ak48 : E.argk 48 = [] := by kernel_rfl
theorem rk48 : E.resk 48 = [] := by kernel_rfl
theorem ow48 : E.own 48 = false := by kernel_rfl
theorem pe48 (args : List AV) (H : Hp) : prepE E 48 H args = peP E 48 (prep H args) := prepE_v rfl args
theorem cr48 (args : List AV) (H : Hp) : calleeR E 48 args H = crK args (peP E 48 (prep H args)) := (cr_prep args).trans (by rw [pe48])
theorem ci48 (args : List AV) (H : Hp) : callIso E (callT E) 48 args H = prepK E (callT E) 48 (peP E 48 (prep H args)) := (iso_prep args).trans (by rw [pe48])
theorem ak49 : E.argk 49 = [[some 1]] := by kernel_rfl
theorem rk49 : E.resk 49 = [] := by kernel_rfl
theorem ow49 : E.own 49 = false := by kernel_rfl
theorem pe49 (args : List AV) (H : Hp) : prepE E 49 H args = peP E 49 (prep H args) := prepE_v rfl args
theorem cr49 (args : List AV) (H : Hp) : calleeR E 49 args H = crK args (peP E 49 (prep H args)) := (cr_prep args).trans (by rw [pe49])
theorem ci49 (args : List AV) (H : Hp) : callIso E (callT E) 49 args H = prepK E (callT E) 49 (peP E 49 (prep H args)) := (iso_prep args).trans (by rw [pe49])
theorem ak50 : E.argk 50 = [] := by kernel_rfl
theorem rk50 : E.resk 50 = [] := by kernel_rfl
theorem ow50 : E.own 50 = false := by kernel_rfl
theorem pe50 (args : List AV) (H : Hp) : prepE E 50 H args = peP E 50 (prep H args) := prepE_v rfl args
theorem cr50 (args : List AV) (H : Hp) : calleeR E 50 args H = crK args (peP E 50 (prep H args)) := (cr_prep args).trans (by rw [pe50])
theorem ci50 (args : List AV) (H : Hp) : callIso E (callT E) 50 args H = prepK E (callT E) 50 (peP E 50 (prep H args)) := (iso_prep args).trans (by rw [pe50])
theorem ak51 : E.argk 51 = [] := by kernel_rfl
theorem rk51 : E.resk 51 = [] := by kernel_rfl
theorem ow51 : E.own 51 = false := by kernel_rfl
theorem pe51 (args : List AV) (H : Hp) : prepE E 51 H args = peP E 51 (prep H args) := prepE_v rfl args
theorem cr51 (args : List AV) (H : Hp) : calleeR E 51 args H = crK args (peP E 51 (prep H args)) := (cr_prep args).trans (by rw [pe51])
theorem ci51 (args : List AV) (H : Hp) : callIso E (callT E) 51 args H = prepK E (callT E) 51 (peP E 51 (prep H args)) := (iso_prep args).trans (by rw [pe51])
theorem ak52 : E.argk 52 = [[some 1]] := by kernel_rfl
theorem rk52 : E.resk 52 = [] := by kernel_rfl
theorem ow52 : E.own 52 = false := by kernel_rfl
theorem pe52 (args : List AV) (H : Hp) : prepE E 52 H args = peP E 52 (prep H args) := prepE_v rfl args
theorem cr52 (args : List AV) (H : Hp) : calleeR E 52 args H = crK args (peP E 52 (prep H args)) := (cr_prep args).trans (by rw [pe52])
theorem ci52 (args : List AV) (H : Hp) : callIso E (callT E) 52 args H = prepK E (callT E) 52 (peP E 52 (prep H args)) := (iso_prep args).trans (by rw [pe52])
theorem ak53 : E.argk 53 = [] := by kernel_rfl
theorem rk53 : E.resk 53 = [] := by kernel_rfl
theorem ow53 : E.own 53 = false := by kernel_rfl
theorem pe53 (args : List AV) (H : Hp) : prepE E 53 H args = peP E 53 (prep H args) := prepE_v rfl args
theorem cr53 (args : List AV) (H : Hp) : calleeR E 53 args H = crK args (peP E 53 (prep H args)) := (cr_prep args).trans (by rw [pe53])
theorem ci53 (args : List AV) (H : Hp) : callIso E (callT E) 53 args H = prepK E (callT E) 53 (peP E 53 (prep H args)) := (iso_prep args).trans (by rw [pe53])
theorem ak54 : E.argk 54 = [] := by kernel_rfl
theorem rk54 : E.resk 54 = [] := by kernel_rfl
theorem ow54 : E.own 54 = false := by kernel_rfl
theorem pe54 (args : List AV) (H : Hp) : prepE E 54 H args = peP E 54 (prep H args) := prepE_v rfl args
theorem cr54 (args : List AV) (H : Hp) : calleeR E 54 args H = crK args (peP E 54 (prep H args)) := (cr_prep args).trans (by rw [pe54])
theorem ci54 (args : List AV) (H : Hp) : callIso E (callT E) 54 args H = prepK E (callT E) 54 (peP E 54 (prep H args)) := (iso_prep args).trans (by rw [pe54])
theorem ak55 : E.argk 55 = [[some 1]] := by kernel_rfl
theorem rk55 : E.resk 55 = [] := by kernel_rfl
theorem ow55 : E.own 55 = false := by kernel_rfl
theorem pe55 (args : List AV) (H : Hp) : prepE E 55 H args = peP E 55 (prep H args) := prepE_v rfl args
theorem cr55 (args : List AV) (H : Hp) : calleeR E 55 args H = crK args (peP E 55 (prep H args)) := (cr_prep args).trans (by rw [pe55])
theorem ci55 (args : List AV) (H : Hp) : callIso E (callT E) 55 args H = prepK E (callT E) 55 (peP E 55 (prep H args)) := (iso_prep args).trans (by rw [pe55])
theorem ak56 : E.argk 56 = [] := by kernel_rfl
theorem rk56 : E.resk 56 = [] := by kernel_rfl
theorem ow56 : E.own 56 = false := by kernel_rfl
theorem pe56 (args : List AV) (H : Hp) : prepE E 56 H args = peP E 56 (prep H args) := prepE_v rfl args
theorem cr56 (args : List AV) (H : Hp) : calleeR E 56 args H = crK args (peP E 56 (prep H args)) := (cr_prep args).trans (by rw [pe56])
theorem ci56 (args : List AV) (H : Hp) : callIso E (callT E) 56 args H = prepK E (callT E) 56 (peP E 56 (prep H args)) := (iso_prep args).trans (by rw [pe56])
theorem bd23 (parts : List (Nat × AV)) : buildE E 23 parts = aggK (fillS [(0, 1), (1, 1), (2, 1)] [.i (.v (.int .i64 0)), .i (.str []), .i (.str [])] parts) := bd_struct (by kernel_rfl) (by kernel_rfl) (by kernel_rfl) parts
theorem bd35 (parts : List (Nat × AV)) : buildE E 35 parts = aggK (fillS [(0, 1), (1, 1), (2, 1), (3, 1), (4, 1), (5, 1), (6, 1)] [.i (.v (.int .i64 0)), .i (.v (.int .i32 0)), .i (.v (.int .u8 0)), .i (.v (.int .u8 0)), .i (.str []), .i (.sl 0 [] true), .i (.str [])] parts) := bd_struct (by kernel_rfl) (by kernel_rfl) (by kernel_rfl) parts
theorem bd40 (parts : List (Nat × AV)) : buildE E 40 parts = aggK (fillS [(0, 3), (3, 1)] [.i (.v (.int .i64 0)), .i (.str []), .i (.str []), .i (.sl 0 [] true)] parts) := bd_struct (by kernel_rfl) (by kernel_rfl) (by kernel_rfl) parts
theorem bd55 (parts : List (Nat × AV)) : buildE E 55 parts = aggK (fillS [(0, 1), (1, 1), (2, 1), (3, 1)] [.i (.v (.int .i32 0)), .i (.v (.int .i64 0)), .i (.v (.int .u8 0)), .i (.v (.int .u8 0))] parts) := bd_struct (by kernel_rfl) (by kernel_rfl) (by kernel_rfl) parts
theorem cv5_3 (cl : CallF) (fr : Fr) (H : Hp) (x : Operand) : evOp E cl (.convert 5 3 x) fr H = pK H (convE E 5 3 (opd E fr x)) := op_convert _ _ _ (by kernel_rfl) (by kernel_rfl)
theorem cv5_21 (cl : CallF) (fr : Fr) (H : Hp) (x : Operand) : evOp E cl (.convert 5 21 x) fr H = pK H (convE E 5 21 (opd E fr x)) := op_convert _ _ _ (by kernel_rfl) (by kernel_rfl)
theorem cv9_36 (cl : CallF) (fr : Fr) (H : Hp) (x : Operand) : evOp E cl (.convert 9 36 x) fr H = cvK H (opd E fr x) := op_convB (by kernel_rfl) (by kernel_rfl) x
theorem cv24_3 (cl : CallF) (fr : Fr) (H : Hp) (x : Operand) : evOp E cl (.convert 24 3 x) fr H = pK H (convE E 24 3 (opd E fr x)) := op_convert _ _ _ (by kernel_rfl) (by kernel_rfl)
theorem cv36_9 (cl : CallF) (fr : Fr) (H : Hp) (x : Operand) : evOp E cl (.convert 36 9 x) fr H = pK H (cvS (rowsE H (opd E fr x))) := op_cvS (e := 5) (by kernel_rfl) (by kernel_rfl) (by kernel_rfl) (by kernel_rfl) x
theorem sx9 (H : Hp) (s : List UInt8) (lo hi : Option AV) : sliceE E H 9 (.i (.str s)) lo hi none = slSK s (bnd 0 lo) (bnd s.length hi) := sl_str (by kernel_rfl) s lo hi
theorem sx27 (H : Hp) (x : AV) (lo hi : Option AV) : sliceE E H 27 x lo hi none = slN 7 H lo hi x := sl_sl (e := 35) (z := 7) (by kernel_rfl) (by kernel_rfl) (by kernel_rfl) x lo hi
theorem ap27_27 (H : Hp) (s x : AV) : appendE E H 27 27 s x = apS 7 H s (srcE H x) := ap_eq (by kernel_rfl) H s x
theorem ap33_33 (H : Hp) (s x : AV) : appendE E H 33 33 s x = apS 1 H s (srcE H x) := ap_eq (by kernel_rfl) H s x
theorem ap36_36 (H : Hp) (s x : AV) : appendE E H 36 36 s x = apS 1 H s (srcE H x) := ap_eq (by kernel_rfl) H s x
theorem ap45_45 (H : Hp) (s x : AV) : appendE E H 45 45 s x = apS 1 H s (srcE H x) := ap_eq (by kernel_rfl) H s x
theorem bs27 (H : Hp) (n : Nat) (hn : n * 7 ≤ 16777216) (parts : List (Nat × AV)) : buildSliceE E H 27 n parts = bsF [none, none, none, none, none, some 1, none] 7 n H (fillA 7 (List.replicate n [.i (.v (.int .i64 0)), .i (.v (.int .i32 0)), .i (.v (.int .u8 0)), .i (.v (.int .u8 0)), .i (.str []), .i (.sl 0 [] true), .i (.str [])]).flatten parts) := bs_eq (by kernel_rfl) H n hn parts
theorem br27 (n : Nat) (parts : List (Nat × AV)) : buildRefs E 27 n parts = brK (fillA 7 (List.replicate n [.i (.v (.int .i64 0)), .i (.v (.int .i32 0)), .i (.v (.int .u8 0)), .i (.v (.int .u8 0)), .i (.str []), .i (.sl 0 [] true), .i (.str [])]).flatten parts) := br_eq (ks := [none, none, none, none, none, some 1, none]) (by kernel_rfl) n parts
theorem ms27 (H : Hp) (k k' : IntKind) (n m : Int) : makeSliceE E H 27 (.i (.v (.int k n))) (.i (.v (.int k' m))) = if 0 ≤ n ∧ n = m ∧ n < 1073741824 then some (.ref H.length 0 0 n.toNat, H ++ [.sl 7 0 (List.replicate n.toNat [.v (.int .i64 0), .v (.int .i32 0), .v (.int .u8 0), .v (.int .u8 0), .str [], .sl 1 [] false, .str []]) true]) else none := ms_eq (by kernel_rfl) H k k' n m
theorem bs33 (H : Hp) (n : Nat) (hn : n * 1 ≤ 16777216) (parts : List (Nat × AV)) : buildSliceE E H 33 n parts = bsF [] 1 n H (fillA 1 (List.replicate n [.i (.v (.int .i64 0))]).flatten parts) := bs_eq (by kernel_rfl) H n hn parts
theorem br33 (n : Nat) (parts : List (Nat × AV)) : buildRefs E 33 n parts = brK (fillA 1 (List.replicate n [.i (.v (.int .i64 0))]).flatten parts) := br_eq (ks := []) (by kernel_rfl) n parts
theorem ms33 (H : Hp) (k k' : IntKind) (n m : Int) : makeSliceE E H 33 (.i (.v (.int k n))) (.i (.v (.int k' m))) = if 0 ≤ n ∧ n = m ∧ n < 1073741824 then some (.ref H.length 0 0 n.toNat, H ++ [.sl 1 0 (List.replicate n.toNat [.v (.int .i64 0)]) true]) else none := ms_eq (by kernel_rfl) H k k' n m
theorem bs36 (H : Hp) (n : Nat) (hn : n * 1 ≤ 16777216) (parts : List (Nat × AV)) : buildSliceE E H 36 n parts = bsF [] 1 n H (fillA 1 (List.replicate n [.i (.v (.int .u8 0))]).flatten parts) := bs_eq (by kernel_rfl) H n hn parts
theorem br36 (n : Nat) (parts : List (Nat × AV)) : buildRefs E 36 n parts = brK (fillA 1 (List.replicate n [.i (.v (.int .u8 0))]).flatten parts) := br_eq (ks := []) (by kernel_rfl) n parts
theorem ms36 (H : Hp) (k k' : IntKind) (n m : Int) : makeSliceE E H 36 (.i (.v (.int k n))) (.i (.v (.int k' m))) = if 0 ≤ n ∧ n = m ∧ n < 1073741824 then some (.ref H.length 0 0 n.toNat, H ++ [.sl 1 0 (List.replicate n.toNat [.v (.int .u8 0)]) true]) else none := ms_eq (by kernel_rfl) H k k' n m
theorem bs45 (H : Hp) (n : Nat) (hn : n * 1 ≤ 16777216) (parts : List (Nat × AV)) : buildSliceE E H 45 n parts = bsF [] 1 n H (fillA 1 (List.replicate n [.i (.v (.int .i32 0))]).flatten parts) := bs_eq (by kernel_rfl) H n hn parts
theorem br45 (n : Nat) (parts : List (Nat × AV)) : buildRefs E 45 n parts = brK (fillA 1 (List.replicate n [.i (.v (.int .i32 0))]).flatten parts) := br_eq (ks := []) (by kernel_rfl) n parts
theorem ms45 (H : Hp) (k k' : IntKind) (n m : Int) : makeSliceE E H 45 (.i (.v (.int k n))) (.i (.v (.int k' m))) = if 0 ≤ n ∧ n = m ∧ n < 1073741824 then some (.ref H.length 0 0 n.toNat, H ++ [.sl 1 0 (List.replicate n.toNat [.v (.int .i32 0)]) true]) else none := ms_eq (by kernel_rfl) H k k' n m
theorem st21 (H : Hp) (c g r k : Nat) (v : AV) : storeE E H 21 (.ptr c g r k) v = if (cellsA v).length = 1 ∧ (cellsA v).all one = true then stC [] 1 H c g r k (cellsA v) H[c]? else none := st_eq sz21 H c g r k v
theorem st23 (H : Hp) (c g r k : Nat) (v : AV) : storeE E H 23 (.ptr c g r k) v = if (cellsA v).length = 3 ∧ (cellsA v).all one = true then stC [] 3 H c g r k (cellsA v) H[c]? else none := st_eq sz23 H c g r k v
theorem st27 (H : Hp) (c g r k : Nat) (v : AV) : storeE E H 27 (.ptr c g r k) v = if (cellsA v).length = 1 ∧ (cellsA v).all one = true then stC [some 7] 1 H c g r k (cellsA v) H[c]? else none := st_eq sz27 H c g r k v
theorem st3 (H : Hp) (c g r k : Nat) (v : AV) : storeE E H 3 (.ptr c g r k) v = if (cellsA v).length = 1 ∧ (cellsA v).all one = true then stC [] 1 H c g r k (cellsA v) H[c]? else none := st_eq sz3 H c g r k v
theorem st33 (H : Hp) (c g r k : Nat) (v : AV) : storeE E H 33 (.ptr c g r k) v = if (cellsA v).length = 1 ∧ (cellsA v).all one = true then stC [some 1] 1 H c g r k (cellsA v) H[c]? else none := st_eq sz33 H c g r k v
theorem st35 (H : Hp) (c g r k : Nat) (v : AV) : storeE E H 35 (.ptr c g r k) v = if (cellsA v).length = 7 ∧ (cellsA v).all one = true then stC [none, none, none, none, none, some 1, none] 7 H c g r k (cellsA v) H[c]? else none := st_eq sz35 H c g r k v
theorem st40 (H : Hp) (c g r k : Nat) (v : AV) : storeE E H 40 (.ptr c g r k) v = if (cellsA v).length = 4 ∧ (cellsA v).all one = true then stC [none, none, none, some 7] 4 H c g r k (cellsA v) H[c]? else none := st_eq sz40 H c g r k v
theorem st5 (H : Hp) (c g r k : Nat) (v : AV) : storeE E H 5 (.ptr c g r k) v = if (cellsA v).length = 1 ∧ (cellsA v).all one = true then stC [] 1 H c g r k (cellsA v) H[c]? else none := st_eq sz5 H c g r k v
theorem st55 (H : Hp) (c g r k : Nat) (v : AV) : storeE E H 55 (.ptr c g r k) v = if (cellsA v).length = 4 ∧ (cellsA v).all one = true then stC [] 4 H c g r k (cellsA v) H[c]? else none := st_eq sz55 H c g r k v
theorem st9 (H : Hp) (c g r k : Nat) (v : AV) : storeE E H 9 (.ptr c g r k) v = if (cellsA v).length = 1 ∧ (cellsA v).all one = true then stC [] 1 H c g r k (cellsA v) H[c]? else none := st_eq sz9 H c g r k v
-- en2: 
def en2 := And.intro @ent2 (And.intro @res2 (And.intro @rk2 (And.intro @ow2 (@kp2_0))))
-- en3: bs27
def en3 := And.intro @ent3 (And.intro @res3 (And.intro @rk3 (And.intro @ow3 (And.intro @kp3_0 (And.intro @kp3_1 (And.intro @kp3_2 (And.intro @kp3_3 (And.intro @kp3_4 (And.intro @kp3_5 (And.intro @kp3_6 (And.intro @kp3_7 (And.intro @kp3_8 (And.intro @kp3_9 (And.intro @fl3_4 (And.intro @dr3_4 (And.intro @fl3_5 (And.intro @dr3_5 (And.intro @ent7 (And.intro @ci7 (And.intro @cr7 (And.intro @ak7 (And.intro @ent8 (And.intro @ci8 (And.intro @cr8 (And.intro @ak8 (And.intro @ent9 (And.intro @ci9 (And.intro @cr9 (And.intro @ak9 (And.intro @ent10 (And.intro @ci10 (And.intro @cr10 (And.intro @ak10 (And.intro @agg23 (And.intro @agg24 (And.intro @agg27 (And.intro @agg3 (And.intro @agg35 (And.intro @agg9 (And.intro @arrz23 (And.intro @arrz35 (And.intro @eqg23 (And.intro @kind23 (And.intro @kind24 (And.intro @cv24_3 (And.intro @kind27 (And.intro @kind3 (And.intro @cv5_3 (And.intro @kind35 (And.intro @kind9 (And.intro @cv9_36 (And.intro @cv36_9 (And.intro @lv23 (And.intro @pl23 (And.intro @pl35 (And.intro @sl23 (And.intro @sl24 (And.intro @sl27 (And.intro @ms27 (And.intro @br27 (And.intro @sx27 (And.intro @ap27_27 (And.intro @sl3 (And.intro @sl9 (And.intro @sx9 (And.intro @str23 (And.intro @str24 (And.intro @str27 (And.intro @str3 (And.intro @str9 (And.intro @sz23 (And.intro @st23 (And.intro @sz35 (And.intro @st35 (And.intro @zero23 (And.intro @bd23 (And.intro @zero35 (@bd35))))))))))))))))))))))))))))))))))))))))))))))))))))))))))))))))))))))))))))))
-- en4: bs27
def en4 := And.intro @ent4 (And.intro @res4 (And.intro @rk4 (And.intro @ow4 (And.intro @kp4_0 (And.intro @kp4_1 (And.intro @kp4_2 (And.intro @kp4_3 (And.intro @kp4_4 (And.intro @kp4_5 (And.intro @kp4_6 (And.intro @ent7 (And.intro @ci7 (And.intro @cr7 (And.intro @ak7 (And.intro @ent8 (And.intro @ci8 (And.intro @cr8 (And.intro @ak8 (And.intro @ent9 (And.intro @ci9 (And.intro @cr9 (And.intro @ak9 (And.intro @ent11 (And.intro @ci11 (And.intro @cr11 (And.intro @ak11 (And.intro @agg21 (And.intro @agg23 (And.intro @agg27 (And.intro @agg3 (And.intro @agg35 (And.intro @agg9 (And.intro @arr23 (And.intro @arr27 (And.intro @arr35 (And.intro @arrz23 (And.intro @arrz35 (And.intro @eqg23 (And.intro @fld35_0 (And.intro @fld35_1 (And.intro @kind23 (And.intro @kind27 (And.intro @kind35 (And.intro @kind9 (And.intro @cv9_36 (And.intro @cv36_9 (And.intro @lv23 (And.intro @pl23 (And.intro @pl35 (And.intro @sl23 (And.intro @sl27 (And.intro @ms27 (And.intro @br27 (And.intro @sx27 (And.intro @ap27_27 (And.intro @sl35 (And.intro @sl9 (And.intro @sx9 (And.intro @str23 (And.intro @str27 (And.intro @str35 (And.intro @str9 (And.intro @sz21 (And.intro @st21 (And.intro @sz23 (And.intro @st23 (And.intro @sz3 (And.intro @st3 (And.intro @sz35 (And.intro @st35 (And.intro @zero23 (And.intro @bd23 (And.intro @zero35 (@bd35))))))))))))))))))))))))))))))))))))))))))))))))))))))))))))))))))))))))))
-- en5: bs27, bs36
def en5 := And.intro @ent5 (And.intro @res5 (And.intro @rk5 (And.intro @ow5 (And.intro @kp5_0 (And.intro @kp5_1 (And.intro @kp5_2 (And.intro @kp5_3 (And.intro @kp5_4 (And.intro @kp5_5 (And.intro @kp5_6 (And.intro @kp5_7 (And.intro @kp5_8 (And.intro @kp5_9 (And.intro @kp5_10 (And.intro @kp5_11 (And.intro @kp5_12 (And.intro @kp5_13 (And.intro @kp5_14 (And.intro @hd5_5 (And.intro @ent7 (And.intro @ci7 (And.intro @cr7 (And.intro @ak7 (And.intro @ent8 (And.intro @ci8 (And.intro @cr8 (And.intro @ak8 (And.intro @ent9 (And.intro @ci9 (And.intro @cr9 (And.intro @ak9 (And.intro @ent10 (And.intro @ci10 (And.intro @cr10 (And.intro @ak10 (And.intro @agg21 (And.intro @agg23 (And.intro @agg27 (And.intro @agg3 (And.intro @agg35 (And.intro @agg36 (And.intro @agg5 (And.intro @agg9 (And.intro @arr23 (And.intro @arr27 (And.intro @arr35 (And.intro @arr9 (And.intro @arrz23 (And.intro @arrz35 (And.intro @eqg23 (And.intro @fld35_0 (And.intro @fld35_1 (And.intro @kind21 (And.intro @cv5_21 (And.intro @kind23 (And.intro @kind27 (And.intro @kind35 (And.intro @kind36 (And.intro @cv9_36 (And.intro @cv36_9 (And.intro @kind5 (And.intro @cv5_3 (And.intro @kind9 (And.intro @lv23 (And.intro @pl23 (And.intro @pl35 (And.intro @sl21 (And.intro @sl23 (And.intro @sl27 (And.intro @ms27 (And.intro @br27 (And.intro @sx27 (And.intro @ap27_27 (And.intro @sl36 (And.intro @ms36 (And.intro @br36 (And.intro @ap36_36 (And.intro @sl5 (And.intro @sl9 (And.intro @sx9 (And.intro @str21 (And.intro @str23 (And.intro @str27 (And.intro @str36 (And.intro @str5 (And.intro @str9 (And.intro @sz21 (And.intro @st21 (And.intro @sz23 (And.intro @st23 (And.intro @sz3 (And.intro @st3 (And.intro @sz35 (And.intro @st35 (And.intro @sz5 (And.intro @st5 (And.intro @zero23 (And.intro @bd23 (And.intro @zero35 (And.intro @bd35 (@zero5)))))))))))))))))))))))))))))))))))))))))))))))))))))))))))))))))))))))))))))))))))))))))))))))))))))
-- en6: bs27
def en6 := And.intro @ent6 (And.intro @res6 (And.intro @rk6 (And.intro @ow6 (And.intro @kp6_0 (And.intro @kp6_1 (And.intro @kp6_2 (And.intro @kp6_3 (And.intro @kp6_4 (And.intro @kp6_5 (And.intro @fl6_5 (And.intro @dr6_5 (And.intro @ent7 (And.intro @ci7 (And.intro @cr7 (And.intro @ak7 (And.intro @ent8 (And.intro @ci8 (And.intro @cr8 (And.intro @ak8 (And.intro @ent9 (And.intro @ci9 (And.intro @cr9 (And.intro @ak9 (And.intro @ent10 (And.intro @ci10 (And.intro @cr10 (And.intro @ak10 (And.intro @ent12 (And.intro @ci12 (And.intro @cr12 (And.intro @ak12 (And.intro @ent13 (And.intro @ci13 (And.intro @cr13 (And.intro @ak13 (And.intro @ent14 (And.intro @ci14 (And.intro @cr14 (And.intro @ak14 (And.intro @agg23 (And.intro @agg27 (And.intro @agg35 (And.intro @agg9 (And.intro @arrz23 (And.intro @arrz35 (And.intro @eqg23 (And.intro @kind23 (And.intro @kind27 (And.intro @kind35 (And.intro @kind9 (And.intro @cv9_36 (And.intro @cv36_9 (And.intro @lv23 (And.intro @pl23 (And.intro @pl35 (And.intro @sl23 (And.intro @sl27 (And.intro @ms27 (And.intro @br27 (And.intro @sx27 (And.intro @ap27_27 (And.intro @sl9 (And.intro @sx9 (And.intro @str23 (And.intro @str27 (And.intro @str9 (And.intro @sz23 (And.intro @st23 (And.intro @sz35 (And.intro @st35 (And.intro @und4 (And.intro @zero23 (And.intro @bd23 (And.intro @zero35 (@bd35)))))))))))))))))))))))))))))))))))))))))))))))))))))))))))))))))))))))))))
-- en7: 
def en7 := And.intro @ent7 (And.intro @res7 (And.intro @rk7 (And.intro @ow7 (And.intro @kp7_0 (And.intro @kp7_1 (And.intro @agg9 (And.intro @fld23_1 (And.intro @fld23_2 (And.intro @kind9 (And.intro @cv9_36 (And.intro @cv36_9 (And.intro @sl9 (And.intro @sx9 (And.intro @str9 (And.intro @sz9 (@st9))))))))))))))))
-- en8: bs27, bs33
def en8 := And.intro @ent8 (And.intro @res8 (And.intro @rk8 (And.intro @ow8 (And.intro @kp8_0 (And.intro @kp8_1 (And.intro @kp8_2 (And.intro @ent9 (And.intro @ci9 (And.intro @cr9 (And.intro @ak9 (And.intro @ent10 (And.intro @ci10 (And.intro @cr10 (And.intro @ak10 (And.intro @agg23 (And.intro @agg27 (And.intro @agg3 (And.intro @agg33 (And.intro @agg35 (And.intro @agg5 (And.intro @agg9 (And.intro @arr23 (And.intro @arr35 (And.intro @arrz23 (And.intro @arrz35 (And.intro @eqg23 (And.intro @fld35_0 (And.intro @fld35_2 (And.intro @fld35_5 (And.intro @kind23 (And.intro @kind27 (And.intro @kind3 (And.intro @cv24_3 (And.intro @cv5_3 (And.intro @kind33 (And.intro @kind35 (And.intro @kind9 (And.intro @cv9_36 (And.intro @cv36_9 (And.intro @lv23 (And.intro @pl23 (And.intro @pl35 (And.intro @sl23 (And.intro @sl27 (And.intro @ms27 (And.intro @br27 (And.intro @sx27 (And.intro @ap27_27 (And.intro @sl33 (And.intro @ms33 (And.intro @br33 (And.intro @ap33_33 (And.intro @sl9 (And.intro @sx9 (And.intro @str23 (And.intro @str27 (And.intro @str33 (And.intro @str9 (And.intro @sz23 (And.intro @st23 (And.intro @sz3 (And.intro @st3 (And.intro @sz33 (And.intro @st33 (And.intro @sz35 (And.intro @st35 (And.intro @sz5 (And.intro @st5 (And.intro @zero23 (And.intro @bd23 (And.intro @zero3 (And.intro @zero35 (@bd35)))))))))))))))))))))))))))))))))))))))))))))))))))))))))))))))))))))))))
-- en9: 
def en9 := And.intro @ent9 (And.intro @res9 (And.intro @rk9 (And.intro @ow9 (And.intro @kp9_0 (And.intro @kp9_1 (And.intro @kp9_2 (And.intro @kp9_3 (And.intro @kp9_4 (And.intro @kp9_5 (And.intro @kp9_6 (And.intro @kp9_7 (And.intro @kp9_8 (And.intro @kp9_9 (And.intro @kp9_10 (And.intro @hd9_5 (And.intro @fl9_10 (And.intro @dr9_10 (And.intro @ent15 (And.intro @ci15 (And.intro @cr15 (And.intro @ak15 (And.intro @ent16 (And.intro @ci16 (And.intro @cr16 (And.intro @ak16 (And.intro @ent17 (And.intro @ci17 (And.intro @cr17 (And.intro @ak17 (And.intro @agg21 (And.intro @agg23 (And.intro @agg27 (And.intro @agg3 (And.intro @agg35 (And.intro @agg38 (And.intro @agg40 (And.intro @agg5 (And.intro @agg9 (And.intro @arr35 (And.intro @arr40 (And.intro @arr9 (And.intro @arrz23 (And.intro @arrz35 (And.intro @arrz40 (And.intro @fld23_0 (And.intro @fld23_1 (And.intro @fld35_0 (And.intro @fld35_1 (And.intro @fld40_0 (And.intro @fld40_1 (And.intro @kind21 (And.intro @cv5_21 (And.intro @kind23 (And.intro @kind35 (And.intro @kind38 (And.intro @kind5 (And.intro @cv5_3 (And.intro @kind9 (And.intro @cv9_36 (And.intro @cv36_9 (And.intro @pl23 (And.intro @pl35 (And.intro @pl40 (And.intro @sl21 (And.intro @sl23 (And.intro @sl35 (And.intro @sl38 (And.intro @sl5 (And.intro @sl9 (And.intro @sx9 (And.intro @str21 (And.intro @str23 (And.intro @str35 (And.intro @str38 (And.intro @str5 (And.intro @str9 (And.intro @sz21 (And.intro @st21 (And.intro @sz23 (And.intro @st23 (And.intro @sz27 (And.intro @st27 (And.intro @sz3 (And.intro @st3 (And.intro @sz35 (And.intro @st35 (And.intro @sz40 (And.intro @st40 (And.intro @sz9 (And.intro @st9 (And.intro @zero23 (And.intro @bd23 (And.intro @zero35 (And.intro @bd35 (And.intro @zero40 (@bd40))))))))))))))))))))))))))))))))))))))))))))))))))))))))))))))))))))))))))))))))))))))))))))))))
-- en10: bs27
def en10 := And.intro @ent10 (And.intro @res10 (And.intro @rk10 (And.intro @ow10 (And.intro @kp10_0 (And.intro @kp10_1 (And.intro @kp10_2 (And.intro @kp10_3 (And.intro @kp10_4 (And.intro @kp10_5 (And.intro @kp10_6 (And.intro @kp10_7 (And.intro @kp10_8 (And.intro @hd10_4 (And.intro @fl10_6 (And.intro @dr10_6 (And.intro @ent11 (And.intro @ci11 (And.intro @cr11 (And.intro @ak11 (And.intro @agg27 (And.intro @agg35 (And.intro @arr27 (And.intro @arrz35 (And.intro @kind27 (And.intro @kind35 (And.intro @pl35 (And.intro @sl27 (And.intro @ms27 (And.intro @br27 (And.intro @sx27 (And.intro @ap27_27 (And.intro @sl35 (And.intro @str27 (And.intro @str35 (And.intro @sz35 (And.intro @st35 (And.intro @zero35 (@bd35))))))))))))))))))))))))))))))))))))))
-- en11: bs33
def en11 := And.intro @ent11 (And.intro @res11 (And.intro @rk11 (And.intro @ow11 (And.intro @kp11_0 (And.intro @kp11_1 (And.intro @ent18 (And.intro @ci18 (And.intro @cr18 (And.intro @ak18 (And.intro @agg21 (And.intro @agg3 (And.intro @agg33 (And.intro @agg5 (And.intro @agg9 (And.intro @fld35_0 (And.intro @fld35_1 (And.intro @fld35_2 (And.intro @fld35_3 (And.intro @fld35_4 (And.intro @fld35_5 (And.intro @fld35_6 (And.intro @kind3 (And.intro @cv24_3 (And.intro @cv5_3 (And.intro @kind33 (And.intro @sl33 (And.intro @ms33 (And.intro @br33 (And.intro @ap33_33 (And.intro @str33 (And.intro @str9 (And.intro @sx9 (And.intro @cv9_36 (And.intro @cv36_9 (And.intro @sz21 (And.intro @st21 (And.intro @sz3 (And.intro @st3 (And.intro @sz33 (And.intro @st33 (And.intro @sz5 (And.intro @st5 (And.intro @sz9 (And.intro @st9 (@zero3)))))))))))))))))))))))))))))))))))))))))))))
-- en12: bs27
def en12 := And.intro @ent12 (And.intro @res12 (And.intro @rk12 (And.intro @ow12 (And.intro @kp12_0 (And.intro @kp12_1 (And.intro @kp12_2 (And.intro @kp12_3 (And.intro @kp12_4 (And.intro @kp12_5 (And.intro @kp12_6 (And.intro @kp12_7 (And.intro @kp12_8 (And.intro @kp12_9 (And.intro @kp12_10 (And.intro @kp12_11 (And.intro @kp12_12 (And.intro @kp12_13 (And.intro @kp12_14 (And.intro @kp12_15 (And.intro @kp12_16 (And.intro @hd12_5 (And.intro @fl12_9 (And.intro @dr12_9 (And.intro @fl12_11 (And.intro @dr12_11 (And.intro @fl12_14 (And.intro @dr12_14 (And.intro @ent19 (And.intro @ci19 (And.intro @cr19 (And.intro @ak19 (And.intro @ent20 (And.intro @ci20 (And.intro @cr20 (And.intro @ak20 (And.intro @ent21 (And.intro @ci21 (And.intro @cr21 (And.intro @ak21 (And.intro @ent22 (And.intro @ci22 (And.intro @cr22 (And.intro @ak22 (And.intro @agg23 (And.intro @agg27 (And.intro @agg3 (And.intro @agg35 (And.intro @agg5 (And.intro @agg9 (And.intro @arr23 (And.intro @arr9 (And.intro @arrz23 (And.intro @arrz35 (And.intro @fld23_0 (And.intro @kind23 (And.intro @kind27 (And.intro @kind35 (And.intro @kind5 (And.intro @cv5_21 (And.intro @cv5_3 (And.intro @kind9 (And.intro @cv9_36 (And.intro @cv36_9 (And.intro @pl23 (And.intro @pl35 (And.intro @sl23 (And.intro @sl27 (And.intro @ms27 (And.intro @br27 (And.intro @sx27 (And.intro @ap27_27 (And.intro @sl5 (And.intro @sl9 (And.intro @sx9 (And.intro @str23 (And.intro @str27 (And.intro @str5 (And.intro @str9 (And.intro @sz23 (And.intro @st23 (And.intro @sz3 (And.intro @st3 (And.intro @sz35 (And.intro @st35 (And.intro @zero23 (And.intro @bd23 (And.intro @zero35 (@bd35))))))))))))))))))))))))))))))))))))))))))))))))))))))))))))))))))))))))))))))))))))))))
-- en13: 
def en13 := And.intro @ent13 (And.intro @res13 (And.intro @rk13 (And.intro @ow13 (And.intro @kp13_0 (And.intro @kp13_1 (And.intro @ent15 (And.intro @ci15 (And.intro @cr15 (And.intro @ak15 (And.intro @agg23 (And.intro @arr23 (And.intro @arrz23 (And.intro @eqg23 (And.intro @kind23 (And.intro @lv23 (And.intro @pl23 (And.intro @sl23 (And.intro @str23 (And.intro @sz23 (And.intro @st23 (And.intro @zero23 (@bd23))))))))))))))))))))))
-- en14: 
def en14 := And.intro @ent14 (And.intro @res14 (And.intro @rk14 (And.intro @ow14 (And.intro @kp14_0 (And.intro @kp14_1 (And.intro @ent19 (And.intro @ci19 (And.intro @cr19 (And.intro @ak19 (And.intro @agg23 (And.intro @arr23 (And.intro @arrz23 (And.intro @eqg23 (And.intro @kind23 (And.intro @lv23 (And.intro @pl23 (And.intro @sl23 (And.intro @str23 (And.intro @sz23 (And.intro @st23 (And.intro @zero23 (@bd23))))))))))))))))))))))
-- en15: bs45
def en15 := And.intro @ent15 (And.intro @res15 (And.intro @rk15 (And.intro @ow15 (And.intro @kp15_0 (And.intro @kp15_1 (And.intro @kp15_2 (And.intro @kp15_3 (And.intro @kp15_4 (And.intro @kp15_5 (And.intro @kp15_6 (And.intro @kp15_7 (And.intro @kp15_8 (And.intro @kp15_9 (And.intro @kp15_10 (And.intro @kp15_11 (And.intro @kp15_12 (And.intro @kp15_13 (And.intro @kp15_14 (And.intro @ent23 (And.intro @ci23 (And.intro @cr23 (And.intro @ak23 (And.intro @ent24 (And.intro @ci24 (And.intro @cr24 (And.intro @ak24 (And.intro @agg21 (And.intro @agg3 (And.intro @agg45 (And.intro @agg5 (And.intro @agg9 (And.intro @fld23_0 (And.intro @fld23_1 (And.intro @fld23_2 (And.intro @kind21 (And.intro @cv5_21 (And.intro @kind45 (And.intro @kind5 (And.intro @cv5_3 (And.intro @kind9 (And.intro @cv9_36 (And.intro @cv36_9 (And.intro @sl45 (And.intro @ms45 (And.intro @br45 (And.intro @ap45_45 (And.intro @sl5 (And.intro @sl9 (And.intro @sx9 (And.intro @str45 (And.intro @str5 (And.intro @str9 (And.intro @sz21 (And.intro @st21 (And.intro @sz3 (And.intro @st3 (And.intro @sz9 (And.intro @st9 (@zero21)))))))))))))))))))))))))))))))))))))))))))))))))))))))))))
-- en16: bs27
def en16 := And.intro @ent16 (And.intro @res16 (And.intro @rk16 (And.intro @ow16 (And.intro @kp16_0 (And.intro @kp16_1 (And.intro @fl16_1 (And.intro @dr16_1 (And.intro @agg27 (And.intro @agg35 (And.intro @arrz35 (And.intro @fld40_1 (And.intro @kind27 (And.intro @kind35 (And.intro @pl35 (And.intro @sl27 (And.intro @ms27 (And.intro @br27 (And.intro @sx27 (And.intro @ap27_27 (And.intro @str27 (And.intro @sz27 (And.intro @st27 (And.intro @sz35 (And.intro @st35 (And.intro @zero35 (@bd35))))))))))))))))))))))))))
-- en17: 
def en17 := And.intro @ent17 (And.intro @res17 (And.intro @rk17 (And.intro @ow17 (And.intro @kp17_0 (And.intro @kp17_1 (And.intro @kp17_2 (And.intro @kp17_3 (And.intro @kp17_4 (And.intro @kp17_5 (And.intro @kp17_6 (And.intro @kp17_7 (And.intro @kp17_8 (And.intro @kp17_9 (And.intro @kp17_10 (And.intro @kp17_11 (And.intro @ent25 (And.intro @ci25 (And.intro @cr25 (And.intro @ak25 (And.intro @ent26 (And.intro @ci26 (And.intro @cr26 (And.intro @ak26 (And.intro @ent27 (And.intro @ci27 (And.intro @cr27 (And.intro @ak27 (And.intro @ent28 (And.intro @ci28 (And.intro @cr28 (And.intro @ak28 (And.intro @ent29 (And.intro @ci29 (And.intro @cr29 (And.intro @ak29 (And.intro @ent30 (And.intro @ci30 (And.intro @cr30 (And.intro @ak30 (And.intro @agg23 (And.intro @agg3 (And.intro @agg38 (And.intro @agg5 (And.intro @fld23_0 (And.intro @fld40_0 (And.intro @kind3 (And.intro @cv24_3 (And.intro @cv5_3 (And.intro @kind38 (And.intro @kind5 (And.intro @cv5_21 (And.intro @sl3 (And.intro @sl38 (And.intro @sl5 (And.intro @str3 (And.intro @str38 (And.intro @str5 (And.intro @sz23 (And.intro @st23 (And.intro @sz3 (@st3)))))))))))))))))))))))))))))))))))))))))))))))))))))))))))))
-- en18: bs33
def en18 := And.intro @ent18 (And.intro @res18 (And.intro @rk18 (And.intro @ow18 (And.intro @kp18_0 (And.intro @kp18_1 (And.intro @kp18_2 (And.intro @kp18_3 (And.intro @kp18_4 (And.intro @kp18_5 (And.intro @kp18_6 (And.intro @kp18_7 (And.intro @kp18_8 (And.intro @hd18_4 (And.intro @fl18_6 (And.intro @dr18_6 (And.intro @agg3 (And.intro @agg33 (And.intro @arr33 (And.intro @kind3 (And.intro @cv24_3 (And.intro @cv5_3 (And.intro @kind33 (And.intro @sl33 (And.intro @ms33 (And.intro @br33 (And.intro @ap33_33 (And.intro @str33 (And.intro @sz3 (And.intro @st3 (@zero3))))))))))))))))))))))))))))))
-- en19: bs45
def en19 := And.intro @ent19 (And.intro @res19 (And.intro @rk19 (And.intro @ow19 (And.intro @kp19_0 (And.intro @kp19_1 (And.intro @kp19_2 (And.intro @kp19_3 (And.intro @kp19_4 (And.intro @kp19_5 (And.intro @kp19_6 (And.intro @kp19_7 (And.intro @kp19_8 (And.intro @kp19_9 (And.intro @kp19_10 (And.intro @kp19_11 (And.intro @kp19_12 (And.intro @kp19_13 (And.intro @kp19_14 (And.intro @ent31 (And.intro @ci31 (And.intro @cr31 (And.intro @ak31 (And.intro @ent32 (And.intro @ci32 (And.intro @cr32 (And.intro @ak32 (And.intro @agg21 (And.intro @agg3 (And.intro @agg45 (And.intro @agg5 (And.intro @agg9 (And.intro @fld23_0 (And.intro @fld23_1 (And.intro @fld23_2 (And.intro @kind21 (And.intro @cv5_21 (And.intro @kind3 (And.intro @cv24_3 (And.intro @cv5_3 (And.intro @kind45 (And.intro @kind5 (And.intro @kind9 (And.intro @cv9_36 (And.intro @cv36_9 (And.intro @sl3 (And.intro @sl45 (And.intro @ms45 (And.intro @br45 (And.intro @ap45_45 (And.intro @sl5 (And.intro @sl9 (And.intro @sx9 (And.intro @str3 (And.intro @str45 (And.intro @str5 (And.intro @str9 (And.intro @sz21 (And.intro @st21 (And.intro @sz3 (And.intro @st3 (And.intro @sz9 (And.intro @st9 (@zero21)))))))))))))))))))))))))))))))))))))))))))))))))))))))))))))))
-- en20: bs27, bs36, bs45
def en20 := And.intro @ent20 (And.intro @res20 (And.intro @rk20 (And.intro @ow20 (And.intro @kp20_0 (And.intro @kp20_1 (And.intro @kp20_2 (And.intro @kp20_3 (And.intro @kp20_4 (And.intro @kp20_5 (And.intro @kp20_6 (And.intro @kp20_7 (And.intro @kp20_8 (And.intro @kp20_9 (And.intro @kp20_10 (And.intro @kp20_11 (And.intro @kp20_12 (And.intro @kp20_13 (And.intro @kp20_14 (And.intro @kp20_15 (And.intro @kp20_16 (And.intro @kp20_17 (And.intro @kp20_18 (And.intro @kp20_19 (And.intro @kp20_20 (And.intro @hd20_5 (And.intro @ent31 (And.intro @ci31 (And.intro @cr31 (And.intro @ak31 (And.intro @agg21 (And.intro @agg23 (And.intro @agg27 (And.intro @agg3 (And.intro @agg35 (And.intro @agg36 (And.intro @agg45 (And.intro @agg5 (And.intro @agg9 (And.intro @arr23 (And.intro @arr35 (And.intro @arr45 (And.intro @arrz23 (And.intro @arrz35 (And.intro @fld23_0 (And.intro @fld23_1 (And.intro @fld35_0 (And.intro @fld35_1 (And.intro @fld35_2 (And.intro @kind21 (And.intro @cv5_21 (And.intro @kind27 (And.intro @kind35 (And.intro @kind36 (And.intro @cv9_36 (And.intro @cv36_9 (And.intro @kind45 (And.intro @kind5 (And.intro @cv5_3 (And.intro @kind9 (And.intro @pl23 (And.intro @pl35 (And.intro @sl27 (And.intro @ms27 (And.intro @br27 (And.intro @sx27 (And.intro @ap27_27 (And.intro @sl36 (And.intro @ms36 (And.intro @br36 (And.intro @ap36_36 (And.intro @sl45 (And.intro @ms45 (And.intro @br45 (And.intro @ap45_45 (And.intro @sl9 (And.intro @sx9 (And.intro @str27 (And.intro @str36 (And.intro @str45 (And.intro @str9 (And.intro @sz21 (And.intro @st21 (And.intro @sz23 (And.intro @st23 (And.intro @sz3 (And.intro @st3 (And.intro @sz35 (And.intro @st35 (And.intro @sz5 (And.intro @st5 (And.intro @sz9 (And.intro @st9 (And.intro @zero21 (And.intro @zero23 (And.intro @bd23 (And.intro @zero35 (And.intro @bd35 (@zero5))))))))))))))))))))))))))))))))))))))))))))))))))))))))))))))))))))))))))))))))))))))))))))))))))
-- en21: bs27, bs36
def en21 := And.intro @ent21 (And.intro @res21 (And.intro @rk21 (And.intro @ow21 (And.intro @kp21_0 (And.intro @kp21_1 (And.intro @kp21_2 (And.intro @kp21_3 (And.intro @kp21_4 (And.intro @kp21_5 (And.intro @kp21_6 (And.intro @kp21_7 (And.intro @kp21_8 (And.intro @kp21_9 (And.intro @kp21_10 (And.intro @kp21_11 (And.intro @kp21_12 (And.intro @kp21_13 (And.intro @kp21_14 (And.intro @kp21_15 (And.intro @kp21_16 (And.intro @kp21_17 (And.intro @kp21_18 (And.intro @kp21_19 (And.intro @kp21_20 (And.intro @kp21_21 (And.intro @kp21_22 (And.intro @kp21_23 (And.intro @kp21_24 (And.intro @kp21_25 (And.intro @kp21_26 (And.intro @kp21_27 (And.intro @kp21_28 (And.intro @kp21_29 (And.intro @kp21_30 (And.intro @fl21_22 (And.intro @dr21_22 (And.intro @ent20 (And.intro @ci20 (And.intro @cr20 (And.intro @ak20 (And.intro @ent33 (And.intro @ci33 (And.intro @cr33 (And.intro @ak33 (And.intro @agg23 (And.intro @agg27 (And.intro @agg3 (And.intro @agg33 (And.intro @agg35 (And.intro @agg36 (And.intro @agg5 (And.intro @agg9 (And.intro @arr23 (And.intro @arr35 (And.intro @arrz23 (And.intro @arrz35 (And.intro @fld23_0 (And.intro @fld23_2 (And.intro @fld35_0 (And.intro @fld35_2 (And.intro @fld35_3 (And.intro @fld35_4 (And.intro @fld35_5 (And.intro @kind23 (And.intro @kind27 (And.intro @kind35 (And.intro @kind36 (And.intro @cv9_36 (And.intro @cv36_9 (And.intro @kind5 (And.intro @cv5_21 (And.intro @cv5_3 (And.intro @kind9 (And.intro @pl23 (And.intro @pl35 (And.intro @sl23 (And.intro @sl27 (And.intro @ms27 (And.intro @br27 (And.intro @sx27 (And.intro @ap27_27 (And.intro @sl36 (And.intro @ms36 (And.intro @br36 (And.intro @ap36_36 (And.intro @sl5 (And.intro @sl9 (And.intro @sx9 (And.intro @str23 (And.intro @str27 (And.intro @str36 (And.intro @str5 (And.intro @str9 (And.intro @sz23 (And.intro @st23 (And.intro @sz3 (And.intro @st3 (And.intro @sz33 (And.intro @st33 (And.intro @sz35 (And.intro @st35 (And.intro @sz5 (And.intro @st5 (And.intro @sz9 (And.intro @st9 (And.intro @zero23 (And.intro @bd23 (And.intro @zero35 (And.intro @bd35 (@zero5))))))))))))))))))))))))))))))))))))))))))))))))))))))))))))))))))))))))))))))))))))))))))))))))))))))))))))))
-- en22: bs27, bs36
def en22 := And.intro @ent22 (And.intro @res22 (And.intro @rk22 (And.intro @ow22 (And.intro @kp22_0 (And.intro @kp22_1 (And.intro @kp22_2 (And.intro @kp22_3 (And.intro @kp22_4 (And.intro @kp22_5 (And.intro @kp22_6 (And.intro @kp22_7 (And.intro @kp22_8 (And.intro @kp22_9 (And.intro @kp22_10 (And.intro @kp22_11 (And.intro @kp22_12 (And.intro @kp22_13 (And.intro @kp22_14 (And.intro @ent21 (And.intro @ci21 (And.intro @cr21 (And.intro @ak21 (And.intro @agg23 (And.intro @agg27 (And.intro @agg3 (And.intro @agg35 (And.intro @agg36 (And.intro @agg5 (And.intro @agg9 (And.intro @arr23 (And.intro @arr35 (And.intro @arrz23 (And.intro @arrz35 (And.intro @fld23_0 (And.intro @fld23_2 (And.intro @fld35_0 (And.intro @fld35_6 (And.intro @kind23 (And.intro @kind27 (And.intro @kind35 (And.intro @kind36 (And.intro @cv9_36 (And.intro @cv36_9 (And.intro @kind5 (And.intro @cv5_21 (And.intro @cv5_3 (And.intro @kind9 (And.intro @pl23 (And.intro @pl35 (And.intro @sl23 (And.intro @sl27 (And.intro @ms27 (And.intro @br27 (And.intro @sx27 (And.intro @ap27_27 (And.intro @sl36 (And.intro @ms36 (And.intro @br36 (And.intro @ap36_36 (And.intro @sl5 (And.intro @sl9 (And.intro @sx9 (And.intro @str23 (And.intro @str27 (And.intro @str36 (And.intro @str5 (And.intro @str9 (And.intro @sz23 (And.intro @st23 (And.intro @sz3 (And.intro @st3 (And.intro @sz35 (And.intro @st35 (And.intro @sz5 (And.intro @st5 (And.intro @sz9 (And.intro @st9 (And.intro @zero23 (And.intro @bd23 (And.intro @zero35 (And.intro @bd35 (@zero5))))))))))))))))))))))))))))))))))))))))))))))))))))))))))))))))))))))))))))))))))
-- en23: bs45
def en23 := And.intro @ent23 (And.intro @res23 (And.intro @rk23 (And.intro @ow23 (And.intro @kp23_0 (And.intro @kp23_1 (And.intro @kp23_2 (And.intro @kp23_3 (And.intro @kp23_4 (And.intro @kp23_5 (And.intro @kp23_6 (And.intro @kp23_7 (And.intro @kp23_8 (And.intro @kp23_9 (And.intro @kp23_10 (And.intro @kp23_11 (And.intro @kp23_12 (And.intro @kp23_13 (And.intro @kp23_14 (And.intro @kp23_15 (And.intro @kp23_16 (And.intro @kp23_17 (And.intro @kp23_18 (And.intro @kp23_19 (And.intro @kp23_20 (And.intro @kp23_21 (And.intro @kp23_22 (And.intro @kp23_23 (And.intro @hd23_6 (And.intro @fl23_23 (And.intro @dr23_23 (And.intro @ent34 (And.intro @ci34 (And.intro @cr34 (And.intro @ak34 (And.intro @agg21 (And.intro @agg3 (And.intro @agg45 (And.intro @agg5 (And.intro @agg55 (And.intro @agg9 (And.intro @arr55 (And.intro @arr9 (And.intro @arrz55 (And.intro @fld55_0 (And.intro @fld55_1 (And.intro @fld55_2 (And.intro @fld55_3 (And.intro @kind21 (And.intro @cv5_21 (And.intro @kind45 (And.intro @kind5 (And.intro @cv5_3 (And.intro @kind9 (And.intro @cv9_36 (And.intro @cv36_9 (And.intro @pl55 (And.intro @sl21 (And.intro @sl45 (And.intro @ms45 (And.intro @br45 (And.intro @ap45_45 (And.intro @sl5 (And.intro @sl9 (And.intro @sx9 (And.intro @str21 (And.intro @str45 (And.intro @str5 (And.intro @str9 (And.intro @sz21 (And.intro @st21 (And.intro @sz3 (And.intro @st3 (And.intro @sz5 (And.intro @st5 (And.intro @sz55 (And.intro @st55 (And.intro @zero21 (And.intro @zero55 (@bd55)))))))))))))))))))))))))))))))))))))))))))))))))))))))))))))))))))))))))))))))
-- en24: bs36
def en24 := And.intro @ent24 (And.intro @res24 (And.intro @rk24 (And.intro @ow24 (And.intro @kp24_0 (And.intro @kp24_1 (And.intro @ent35 (And.intro @ci35 (And.intro @cr35 (And.intro @ak35 (And.intro @ent36 (And.intro @ci36 (And.intro @cr36 (And.intro @ak36 (And.intro @agg36 (And.intro @agg5 (And.intro @agg59 (And.intro @agg9 (And.intro @kind36 (And.intro @cv9_36 (And.intro @cv36_9 (And.intro @kind5 (And.intro @cv5_21 (And.intro @cv5_3 (And.intro @kind59 (And.intro @kind9 (And.intro @sl36 (And.intro @ms36 (And.intro @br36 (And.intro @ap36_36 (And.intro @sl59 (And.intro @sl9 (And.intro @sx9 (And.intro @str36 (And.intro @str59 (And.intro @str9 (And.intro @sz5 (And.intro @st5 (@zero5))))))))))))))))))))))))))))))))))))))
-- en25: bs36, bs45
def en25 := And.intro @ent25 (And.intro @res25 (And.intro @rk25 (And.intro @ow25 (And.intro @kp25_0 (And.intro @kp25_1 (And.intro @kp25_2 (And.intro @kp25_3 (And.intro @kp25_4 (And.intro @kp25_5 (And.intro @kp25_6 (And.intro @kp25_7 (And.intro @kp25_8 (And.intro @kp25_9 (And.intro @kp25_10 (And.intro @kp25_11 (And.intro @kp25_12 (And.intro @kp25_13 (And.intro @fl25_1 (And.intro @dr25_1 (And.intro @ent16 (And.intro @ci16 (And.intro @cr16 (And.intro @ak16 (And.intro @ent23 (And.intro @ci23 (And.intro @cr23 (And.intro @ak23 (And.intro @ent27 (And.intro @ci27 (And.intro @cr27 (And.intro @ak27 (And.intro @ent37 (And.intro @ci37 (And.intro @cr37 (And.intro @ak37 (And.intro @agg21 (And.intro @agg23 (And.intro @agg3 (And.intro @agg35 (And.intro @agg36 (And.intro @agg38 (And.intro @agg45 (And.intro @agg5 (And.intro @agg9 (And.intro @arr35 (And.intro @arrz35 (And.intro @fld23_1 (And.intro @fld35_0 (And.intro @fld35_1 (And.intro @fld35_2 (And.intro @fld40_0 (And.intro @kind21 (And.intro @cv5_21 (And.intro @kind3 (And.intro @cv24_3 (And.intro @cv5_3 (And.intro @kind35 (And.intro @kind36 (And.intro @cv9_36 (And.intro @cv36_9 (And.intro @kind38 (And.intro @kind45 (And.intro @kind5 (And.intro @kind9 (And.intro @pl35 (And.intro @sl3 (And.intro @sl35 (And.intro @sl36 (And.intro @ms36 (And.intro @br36 (And.intro @ap36_36 (And.intro @sl38 (And.intro @sl45 (And.intro @ms45 (And.intro @br45 (And.intro @ap45_45 (And.intro @sl9 (And.intro @sx9 (And.intro @str3 (And.intro @str35 (And.intro @str36 (And.intro @str38 (And.intro @str45 (And.intro @str9 (And.intro @sz21 (And.intro @st21 (And.intro @sz23 (And.intro @st23 (And.intro @sz3 (And.intro @st3 (And.intro @sz35 (And.intro @st35 (And.intro @sz5 (And.intro @st5 (And.intro @sz9 (And.intro @st9 (And.intro @zero21 (And.intro @zero35 (And.intro @bd35 (@zero5))))))))))))))))))))))))))))))))))))))))))))))))))))))))))))))))))))))))))))))))))))))))))))))))))))
-- en26: 
def en26 := And.intro @ent26 (And.intro @res26 (And.intro @rk26 (And.intro @ow26 (And.intro @kp26_0 (And.intro @kp26_1 (And.intro @kp26_2 (And.intro @ent16 (And.intro @ci16 (And.intro @cr16 (And.intro @ak16 (And.intro @ent27 (And.intro @ci27 (And.intro @cr27 (And.intro @ak27 (And.intro @agg23 (And.intro @agg3 (And.intro @agg35 (And.intro @agg38 (And.intro @agg9 (And.intro @arr35 (And.intro @arrz35 (And.intro @fld23_2 (And.intro @fld35_0 (And.intro @fld35_6 (And.intro @fld40_0 (And.intro @kind3 (And.intro @cv24_3 (And.intro @cv5_3 (And.intro @kind35 (And.intro @kind38 (And.intro @pl35 (And.intro @sl3 (And.intro @sl35 (And.intro @sl38 (And.intro @str3 (And.intro @str35 (And.intro @str38 (And.intro @sz23 (And.intro @st23 (And.intro @sz3 (And.intro @st3 (And.intro @sz35 (And.intro @st35 (And.intro @sz9 (And.intro @st9 (And.intro @zero35 (@bd35)))))))))))))))))))))))))))))))))))))))))))))))
-- en27: 
def en27 := And.intro @ent27 (And.intro @res27 (And.intro @rk27 (And.intro @ow27 (And.intro @kp27_0 (And.intro @agg23 (And.intro @agg3 (And.intro @arr23 (And.intro @arrz23 (And.intro @fld23_0 (And.intro @fld40_0 (And.intro @pl23 (And.intro @sz23 (And.intro @st23 (And.intro @sz3 (And.intro @st3 (And.intro @zero23 (@bd23)))))))))))))))))
-- en28: 
def en28 := And.intro @ent28 (And.intro @res28 (And.intro @rk28 (And.intro @ow28 (And.intro @kp28_0 (And.intro @kp28_1 (And.intro @kp28_2 (And.intro @kp28_3 (And.intro @kp28_4 (And.intro @kp28_5 (And.intro @kp28_6 (And.intro @kp28_7 (And.intro @kp28_8 (And.intro @kp28_9 (And.intro @kp28_10 (And.intro @ent16 (And.intro @ci16 (And.intro @cr16 (And.intro @ak16 (And.intro @ent27 (And.intro @ci27 (And.intro @cr27 (And.intro @ak27 (And.intro @ent38 (And.intro @ci38 (And.intro @cr38 (And.intro @ak38 (And.intro @ent39 (And.intro @ci39 (And.intro @cr39 (And.intro @ak39 (And.intro @agg23 (And.intro @agg3 (And.intro @agg35 (And.intro @agg38 (And.intro @agg5 (And.intro @agg9 (And.intro @arr35 (And.intro @arrz35 (And.intro @fld23_2 (And.intro @fld35_0 (And.intro @fld35_2 (And.intro @fld35_4 (And.intro @fld40_0 (And.intro @kind3 (And.intro @cv24_3 (And.intro @cv5_3 (And.intro @kind35 (And.intro @kind38 (And.intro @kind5 (And.intro @cv5_21 (And.intro @kind9 (And.intro @cv9_36 (And.intro @cv36_9 (And.intro @pl35 (And.intro @sl3 (And.intro @sl35 (And.intro @sl38 (And.intro @sl5 (And.intro @sl9 (And.intro @sx9 (And.intro @str3 (And.intro @str35 (And.intro @str38 (And.intro @str5 (And.intro @str9 (And.intro @sz23 (And.intro @st23 (And.intro @sz3 (And.intro @st3 (And.intro @sz35 (And.intro @st35 (And.intro @sz5 (And.intro @st5 (And.intro @sz9 (And.intro @st9 (And.intro @zero35 (@bd35)))))))))))))))))))))))))))))))))))))))))))))))))))))))))))))))))))))))))))))
-- en29: 
def en29 := And.intro @ent29 (And.intro @res29 (And.intro @rk29 (And.intro @ow29 (And.intro @kp29_0 (And.intro @kp29_1 (And.intro @kp29_2 (And.intro @kp29_3 (And.intro @kp29_4 (And.intro @kp29_5 (And.intro @kp29_6 (And.intro @kp29_7 (And.intro @kp29_8 (And.intro @ent16 (And.intro @ci16 (And.intro @cr16 (And.intro @ak16 (And.intro @ent27 (And.intro @ci27 (And.intro @cr27 (And.intro @ak27 (And.intro @ent38 (And.intro @ci38 (And.intro @cr38 (And.intro @ak38 (And.intro @ent39 (And.intro @ci39 (And.intro @cr39 (And.intro @ak39 (And.intro @ent40 (And.intro @ci40 (And.intro @cr40 (And.intro @ak40 (And.intro @agg23 (And.intro @agg3 (And.intro @agg33 (And.intro @agg35 (And.intro @agg38 (And.intro @agg5 (And.intro @agg9 (And.intro @arr35 (And.intro @arrz35 (And.intro @fld23_2 (And.intro @fld35_0 (And.intro @fld35_2 (And.intro @fld35_3 (And.intro @fld35_4 (And.intro @fld35_5 (And.intro @fld40_0 (And.intro @kind3 (And.intro @cv24_3 (And.intro @cv5_3 (And.intro @kind35 (And.intro @kind38 (And.intro @kind5 (And.intro @cv5_21 (And.intro @kind9 (And.intro @cv9_36 (And.intro @cv36_9 (And.intro @pl35 (And.intro @sl3 (And.intro @sl35 (And.intro @sl38 (And.intro @sl5 (And.intro @sl9 (And.intro @sx9 (And.intro @str3 (And.intro @str35 (And.intro @str38 (And.intro @str5 (And.intro @str9 (And.intro @sz23 (And.intro @st23 (And.intro @sz3 (And.intro @st3 (And.intro @sz33 (And.intro @st33 (And.intro @sz35 (And.intro @st35 (And.intro @sz5 (And.intro @st5 (And.intro @sz9 (And.intro @st9 (And.intro @zero35 (@bd35))))))))))))))))))))))))))))))))))))))))))))))))))))))))))))))))))))))))))))))))))))
-- en30: 
def en30 := And.intro @ent30 (And.intro @res30 (And.intro @rk30 (And.intro @ow30 (And.intro @kp30_0 (And.intro @kp30_1 (And.intro @kp30_2 (And.intro @kp30_3 (And.intro @kp30_4 (And.intro @kp30_5 (And.intro @kp30_6 (And.intro @kp30_7 (And.intro @kp30_8 (And.intro @kp30_9 (And.intro @ent26 (And.intro @ci26 (And.intro @cr26 (And.intro @ak26 (And.intro @ent27 (And.intro @ci27 (And.intro @cr27 (And.intro @ak27 (And.intro @ent39 (And.intro @ci39 (And.intro @cr39 (And.intro @ak39 (And.intro @agg23 (And.intro @agg3 (And.intro @agg38 (And.intro @agg5 (And.intro @fld23_0 (And.intro @fld40_0 (And.intro @kind3 (And.intro @cv24_3 (And.intro @cv5_3 (And.intro @kind38 (And.intro @kind5 (And.intro @cv5_21 (And.intro @sl3 (And.intro @sl38 (And.intro @sl5 (And.intro @str3 (And.intro @str38 (And.intro @str5 (And.intro @sz23 (And.intro @st23 (And.intro @sz3 (@st3)))))))))))))))))))))))))))))))))))))))))))))))
-- en31: bs36, bs45
def en31 := And.intro @ent31 (And.intro @res31 (And.intro @rk31 (And.intro @ow31 (And.intro @kp31_0 (And.intro @kp31_1 (And.intro @kp31_2 (And.intro @kp31_3 (And.intro @kp31_4 (And.intro @kp31_5 (And.intro @kp31_6 (And.intro @kp31_7 (And.intro @kp31_8 (And.intro @kp31_9 (And.intro @kp31_10 (And.intro @kp31_11 (And.intro @kp31_12 (And.intro @kp31_13 (And.intro @kp31_14 (And.intro @kp31_15 (And.intro @kp31_16 (And.intro @kp31_17 (And.intro @kp31_18 (And.intro @kp31_19 (And.intro @kp31_20 (And.intro @kp31_21 (And.intro @kp31_22 (And.intro @kp31_23 (And.intro @kp31_24 (And.intro @hd31_5 (And.intro @fl31_24 (And.intro @dr31_24 (And.intro @ent41 (And.intro @ci41 (And.intro @cr41 (And.intro @ak41 (And.intro @ent42 (And.intro @ci42 (And.intro @cr42 (And.intro @ak42 (And.intro @agg21 (And.intro @agg36 (And.intro @agg45 (And.intro @agg5 (And.intro @agg9 (And.intro @arr9 (And.intro @kind21 (And.intro @cv5_21 (And.intro @kind36 (And.intro @cv9_36 (And.intro @cv36_9 (And.intro @kind45 (And.intro @kind5 (And.intro @cv5_3 (And.intro @kind9 (And.intro @sl21 (And.intro @sl36 (And.intro @ms36 (And.intro @br36 (And.intro @ap36_36 (And.intro @sl45 (And.intro @ms45 (And.intro @br45 (And.intro @ap45_45 (And.intro @sl5 (And.intro @sl9 (And.intro @sx9 (And.intro @str21 (And.intro @str36 (And.intro @str45 (And.intro @str5 (And.intro @str9 (And.intro @sz21 (And.intro @st21 (And.intro @sz5 (And.intro @st5 (And.intro @zero21 (@zero5)))))))))))))))))))))))))))))))))))))))))))))))))))))))))))))))))))))))))))))
-- en32: 
def en32 := And.intro @ent32 (And.intro @res32 (And.intro @rk32 (And.intro @ow32 (And.intro @kp32_0 (And.intro @kp32_1 (And.intro @kp32_2 (And.intro @kp32_3 (And.intro @kp32_4 (And.intro @kp32_5 (And.intro @kp32_6 (And.intro @kp32_7 (And.intro @kp32_8 (And.intro @hd32_4 (And.intro @agg9 (And.intro @arr9 (And.intro @kind9 (And.intro @cv9_36 (And.intro @cv36_9 (And.intro @sl9 (And.intro @sx9 (@str9)))))))))))))))))))))
-- en33: bs33
def en33 := And.intro @ent33 (And.intro @res33 (And.intro @rk33 (And.intro @ow33 (And.intro @kp33_0 (And.intro @kp33_1 (And.intro @kp33_2 (And.intro @kp33_3 (And.intro @kp33_4 (And.intro @kp33_5 (And.intro @kp33_6 (And.intro @kp33_7 (And.intro @kp33_8 (And.intro @kp33_9 (And.intro @kp33_10 (And.intro @kp33_11 (And.intro @kp33_12 (And.intro @kp33_13 (And.intro @kp33_14 (And.intro @kp33_15 (And.intro @kp33_16 (And.intro @kp33_17 (And.intro @kp33_18 (And.intro @kp33_19 (And.intro @kp33_20 (And.intro @kp33_21 (And.intro @kp33_22 (And.intro @kp33_23 (And.intro @kp33_24 (And.intro @kp33_25 (And.intro @kp33_26 (And.intro @kp33_27 (And.intro @kp33_28 (And.intro @kp33_29 (And.intro @kp33_30 (And.intro @kp33_31 (And.intro @kp33_32 (And.intro @kp33_33 (And.intro @kp33_34 (And.intro @hd33_7 (And.intro @hd33_11 (And.intro @hd33_20 (And.intro @fl33_9 (And.intro @dr33_9 (And.intro @ent43 (And.intro @ci43 (And.intro @cr43 (And.intro @ak43 (And.intro @ent44 (And.intro @ci44 (And.intro @cr44 (And.intro @ak44 (And.intro @agg3 (And.intro @agg33 (And.intro @agg5 (And.intro @agg9 (And.intro @arr33 (And.intro @arr9 (And.intro @kind3 (And.intro @cv24_3 (And.intro @cv5_3 (And.intro @kind33 (And.intro @kind5 (And.intro @cv5_21 (And.intro @kind9 (And.intro @cv9_36 (And.intro @cv36_9 (And.intro @sl3 (And.intro @sl33 (And.intro @ms33 (And.intro @br33 (And.intro @ap33_33 (And.intro @sl5 (And.intro @sl9 (And.intro @sx9 (And.intro @str3 (And.intro @str33 (And.intro @str5 (And.intro @str9 (And.intro @sz3 (And.intro @st3 (@zero3)))))))))))))))))))))))))))))))))))))))))))))))))))))))))))))))))))))))))))))))))
-- en34: 
def en34 := And.intro @ent34 (And.intro @res34 (And.intro @rk34 (And.intro @ow34 (And.intro @kp34_0 (And.intro @kp34_1 (And.intro @kp34_2 (And.intro @kp34_3 (And.intro @kp34_4 (And.intro @kp34_5 (And.intro @kp34_6 (And.intro @kp34_7 (And.intro @kp34_8 (And.intro @kp34_9 (And.intro @kp34_10 (And.intro @kp34_11 (And.intro @kp34_12 (And.intro @kp34_13 (And.intro @kp34_14 (And.intro @kp34_15 (And.intro @kp34_16 (And.intro @kp34_17 (And.intro @agg21 (And.intro @agg3 (And.intro @agg5 (And.intro @agg55 (And.intro @arr55 (And.intro @arrz55 (And.intro @fld55_0 (And.intro @fld55_1 (And.intro @fld55_2 (And.intro @fld55_3 (And.intro @kind21 (And.intro @cv5_21 (And.intro @kind5 (And.intro @cv5_3 (And.intro @pl55 (And.intro @sl21 (And.intro @sl5 (And.intro @str21 (And.intro @str5 (And.intro @sz21 (And.intro @st21 (And.intro @sz3 (And.intro @st3 (And.intro @sz5 (And.intro @st5 (And.intro @sz55 (And.intro @st55 (And.intro @zero55 (@bd55))))))))))))))))))))))))))))))))))))))))))))))))))
-- en35: bs36
def en35 := And.intro @ent35 (And.intro @res35 (And.intro @rk35 (And.intro @ow35 (And.intro @kp35_0 (And.intro @kp35_1 (And.intro @ent45 (And.intro @ci45 (And.intro @cr45 (And.intro @ak45 (And.intro @agg36 (And.intro @agg5 (And.intro @agg59 (And.intro @kind36 (And.intro @cv9_36 (And.intro @cv36_9 (And.intro @kind5 (And.intro @cv5_21 (And.intro @cv5_3 (And.intro @kind59 (And.intro @sl36 (And.intro @ms36 (And.intro @br36 (And.intro @ap36_36 (And.intro @sl59 (And.intro @str36 (And.intro @str59 (And.intro @sz5 (And.intro @st5 (@zero5)))))))))))))))))))))))))))))
-- en36: 
def en36 := And.intro @ent36 (And.intro @res36 (And.intro @rk36 (And.intro @ow36 (And.intro @kp36_0 (And.intro @kp36_1 (And.intro @agg5 (And.intro @sz5 (@st5))))))))
-- en37: bs45
def en37 := And.intro @ent37 (And.intro @res37 (And.intro @rk37 (And.intro @ow37 (And.intro @kp37_0 (And.intro @kp37_1 (And.intro @kp37_2 (And.intro @kp37_3 (And.intro @kp37_4 (And.intro @kp37_5 (And.intro @hd37_1 (And.intro @ent16 (And.intro @ci16 (And.intro @cr16 (And.intro @ak16 (And.intro @agg21 (And.intro @agg3 (And.intro @agg35 (And.intro @agg38 (And.intro @agg45 (And.intro @arr35 (And.intro @arr45 (And.intro @arrz35 (And.intro @fld35_0 (And.intro @fld35_1 (And.intro @kind21 (And.intro @cv5_21 (And.intro @kind35 (And.intro @kind38 (And.intro @kind45 (And.intro @pl35 (And.intro @sl35 (And.intro @sl38 (And.intro @sl45 (And.intro @ms45 (And.intro @br45 (And.intro @ap45_45 (And.intro @str35 (And.intro @str38 (And.intro @str45 (And.intro @sz21 (And.intro @st21 (And.intro @sz3 (And.intro @st3 (And.intro @sz35 (And.intro @st35 (And.intro @zero21 (And.intro @zero35 (@bd35))))))))))))))))))))))))))))))))))))))))))))))))
-- en38: 
def en38 := And.intro @ent38 (And.intro @res38 (And.intro @rk38 (And.intro @ow38 (And.intro @kp38_0 (And.intro @kp38_1 (And.intro @kp38_2 (And.intro @kp38_3 (And.intro @kp38_4 (And.intro @kp38_5 (And.intro @kp38_6 (And.intro @kp38_7 (And.intro @kp38_8 (And.intro @kp38_9 (And.intro @kp38_10 (And.intro @kp38_11 (And.intro @kp38_12 (And.intro @ent16 (And.intro @ci16 (And.intro @cr16 (And.intro @ak16 (And.intro @ent25 (And.intro @ci25 (And.intro @cr25 (And.intro @ak25 (And.intro @ent27 (And.intro @ci27 (And.intro @cr27 (And.intro @ak27 (And.intro @agg3 (And.intro @agg35 (And.intro @agg38 (And.intro @agg5 (And.intro @arr35 (And.intro @arrz35 (And.intro @fld35_0 (And.intro @fld35_2 (And.intro @kind3 (And.intro @cv24_3 (And.intro @cv5_3 (And.intro @kind35 (And.intro @kind38 (And.intro @kind5 (And.intro @cv5_21 (And.intro @pl35 (And.intro @sl3 (And.intro @sl35 (And.intro @sl38 (And.intro @sl5 (And.intro @str3 (And.intro @str35 (And.intro @str38 (And.intro @str5 (And.intro @sz3 (And.intro @st3 (And.intro @sz35 (And.intro @st35 (And.intro @sz5 (And.intro @st5 (And.intro @zero35 (@bd35))))))))))))))))))))))))))))))))))))))))))))))))))))))))))))
-- en39: bs36
def en39 := And.intro @ent39 (And.intro @res39 (And.intro @rk39 (And.intro @ow39 (And.intro @kp39_0 (And.intro @kp39_1 (And.intro @fl39_1 (And.intro @dr39_1 (And.intro @agg23 (And.intro @agg36 (And.intro @agg5 (And.intro @agg9 (And.intro @fld23_2 (And.intro @fld40_0 (And.intro @kind36 (And.intro @cv9_36 (And.intro @cv36_9 (And.intro @kind5 (And.intro @cv5_21 (And.intro @cv5_3 (And.intro @kind9 (And.intro @sl36 (And.intro @ms36 (And.intro @br36 (And.intro @ap36_36 (And.intro @sl9 (And.intro @sx9 (And.intro @str36 (And.intro @str9 (And.intro @sz23 (And.intro @st23 (And.intro @sz5 (And.intro @st5 (And.intro @sz9 (And.intro @st9 (@zero5)))))))))))))))))))))))))))))))))))
-- en40: bs33
def en40 := And.intro @ent40 (And.intro @res40 (And.intro @rk40 (And.intro @ow40 (And.intro @kp40_0 (And.intro @kp40_1 (And.intro @kp40_2 (And.intro @kp40_3 (And.intro @kp40_4 (And.intro @kp40_5 (And.intro @kp40_6 (And.intro @kp40_7 (And.intro @kp40_8 (And.intro @kp40_9 (And.intro @kp40_10 (And.intro @kp40_11 (And.intro @kp40_12 (And.intro @kp40_13 (And.intro @kp40_14 (And.intro @kp40_15 (And.intro @kp40_16 (And.intro @kp40_17 (And.intro @kp40_18 (And.intro @kp40_19 (And.intro @kp40_20 (And.intro @kp40_21 (And.intro @hd40_7 (And.intro @fl40_3 (And.intro @dr40_3 (And.intro @fl40_17 (And.intro @dr40_17 (And.intro @ent46 (And.intro @ci46 (And.intro @cr46 (And.intro @ak46 (And.intro @ent47 (And.intro @ci47 (And.intro @cr47 (And.intro @ak47 (And.intro @ent48 (And.intro @ci48 (And.intro @cr48 (And.intro @ak48 (And.intro @ent49 (And.intro @ci49 (And.intro @cr49 (And.intro @ak49 (And.intro @agg3 (And.intro @agg33 (And.intro @agg5 (And.intro @agg9 (And.intro @arr9 (And.intro @kind3 (And.intro @cv24_3 (And.intro @cv5_3 (And.intro @kind33 (And.intro @kind5 (And.intro @cv5_21 (And.intro @kind9 (And.intro @cv9_36 (And.intro @cv36_9 (And.intro @sl3 (And.intro @sl33 (And.intro @ms33 (And.intro @br33 (And.intro @ap33_33 (And.intro @sl5 (And.intro @sl9 (And.intro @sx9 (And.intro @str3 (And.intro @str33 (And.intro @str5 (And.intro @str9 (And.intro @sz3 (And.intro @st3 (And.intro @sz33 (And.intro @st33 (And.intro @zero3 (@zero33))))))))))))))))))))))))))))))))))))))))))))))))))))))))))))))))))))))))))))))
-- en41: bs36
def en41 := And.intro @ent41 (And.intro @res41 (And.intro @rk41 (And.intro @ow41 (And.intro @kp41_0 (And.intro @kp41_1 (And.intro @kp41_2 (And.intro @kp41_3 (And.intro @kp41_4 (And.intro @kp41_5 (And.intro @kp41_6 (And.intro @kp41_7 (And.intro @kp41_8 (And.intro @kp41_9 (And.intro @kp41_10 (And.intro @kp41_11 (And.intro @kp41_12 (And.intro @kp41_13 (And.intro @kp41_14 (And.intro @kp41_15 (And.intro @kp41_16 (And.intro @kp41_17 (And.intro @kp41_18 (And.intro @kp41_19 (And.intro @kp41_20 (And.intro @kp41_21 (And.intro @agg36 (And.intro @agg5 (And.intro @arr36 (And.intro @kind36 (And.intro @cv9_36 (And.intro @cv36_9 (And.intro @kind5 (And.intro @cv5_21 (And.intro @cv5_3 (And.intro @sl36 (And.intro @ms36 (And.intro @br36 (And.intro @ap36_36 (And.intro @str36 (And.intro @sz5 (And.intro @st5 (@zero5))))))))))))))))))))))))))))))))))))))))))
-- en42: bs36
def en42 := And.intro @ent42 (And.intro @res42 (And.intro @rk42 (And.intro @ow42 (And.intro @kp42_0 (And.intro @kp42_1 (And.intro @kp42_2 (And.intro @kp42_3 (And.intro @kp42_4 (And.intro @kp42_5 (And.intro @kp42_6 (And.intro @kp42_7 (And.intro @kp42_8 (And.intro @kp42_9 (And.intro @kp42_10 (And.intro @kp42_11 (And.intro @kp42_12 (And.intro @kp42_13 (And.intro @hd42_10 (And.intro @agg21 (And.intro @agg36 (And.intro @agg5 (And.intro @arr36 (And.intro @kind21 (And.intro @cv5_21 (And.intro @kind36 (And.intro @cv9_36 (And.intro @cv36_9 (And.intro @kind5 (And.intro @cv5_3 (And.intro @sl21 (And.intro @sl36 (And.intro @ms36 (And.intro @br36 (And.intro @ap36_36 (And.intro @sl5 (And.intro @str21 (And.intro @str36 (And.intro @str5 (And.intro @sz5 (And.intro @st5 (@zero5)))))))))))))))))))))))))))))))))))))))))
-- en43: 
def en43 := And.intro @ent43 (And.intro @res43 (And.intro @rk43 (And.intro @ow43 (And.intro @kp43_0 (@kp43_1)))))
-- en44: 
def en44 := And.intro @ent44 (And.intro @res44 (And.intro @rk44 (And.intro @ow44 (And.intro @kp44_0 (@kp44_1)))))
-- en45: bs36
def en45 := And.intro @ent45 (And.intro @res45 (And.intro @rk45 (And.intro @ow45 (And.intro @kp45_0 (And.intro @kp45_1 (And.intro @kp45_2 (And.intro @kp45_3 (And.intro @kp45_4 (And.intro @kp45_5 (And.intro @kp45_6 (And.intro @kp45_7 (And.intro @hd45_2 (And.intro @agg36 (And.intro @agg5 (And.intro @arr36 (And.intro @kind36 (And.intro @cv9_36 (And.intro @cv36_9 (And.intro @kind5 (And.intro @cv5_21 (And.intro @cv5_3 (And.intro @sl36 (And.intro @ms36 (And.intro @br36 (And.intro @ap36_36 (And.intro @sl5 (And.intro @str36 (And.intro @str5 (And.intro @sz5 (And.intro @st5 (@zero5)))))))))))))))))))))))))))))))
-- en46: 
def en46 := And.intro @ent46 (And.intro @res46 (And.intro @rk46 (And.intro @ow46 (And.intro @kp46_0 (@kp46_1)))))
-- en47: bs33
def en47 := And.intro @ent47 (And.intro @res47 (And.intro @rk47 (And.intro @ow47 (And.intro @kp47_0 (And.intro @kp47_1 (And.intro @agg3 (And.intro @agg33 (And.intro @kind3 (And.intro @cv24_3 (And.intro @cv5_3 (And.intro @kind33 (And.intro @sl33 (And.intro @ms33 (And.intro @br33 (And.intro @ap33_33 (And.intro @str33 (And.intro @sz3 (And.intro @st3 (And.intro @sz33 (And.intro @st33 (@zero3)))))))))))))))))))))
-- en48: 
def en48 := And.intro @ent48 (And.intro @res48 (And.intro @rk48 (And.intro @ow48 (And.intro @kp48_0 (And.intro @kp48_1 (And.intro @ent50 (And.intro @ci50 (And.intro @cr50 (And.intro @ak50 (And.intro @agg69 (And.intro @agg9 (And.intro @kind69 (And.intro @kind9 (And.intro @cv9_36 (And.intro @cv36_9 (And.intro @sl69 (And.intro @sl9 (And.intro @sx9 (And.intro @str69 (@str9))))))))))))))))))))
-- en49: bs33
def en49 := And.intro @ent49 (And.intro @res49 (And.intro @rk49 (And.intro @ow49 (And.intro @kp49_0 (And.intro @kp49_1 (And.intro @ent52 (And.intro @ci52 (And.intro @cr52 (And.intro @ak52 (And.intro @agg3 (And.intro @agg33 (And.intro @agg71 (And.intro @agg9 (And.intro @kind3 (And.intro @cv24_3 (And.intro @cv5_3 (And.intro @kind33 (And.intro @kind71 (And.intro @kind9 (And.intro @cv9_36 (And.intro @cv36_9 (And.intro @sl33 (And.intro @ms33 (And.intro @br33 (And.intro @ap33_33 (And.intro @sl71 (And.intro @sl9 (And.intro @sx9 (And.intro @str33 (And.intro @str71 (And.intro @str9 (And.intro @sz3 (And.intro @st3 (@zero3))))))))))))))))))))))))))))))))))
-- en50: 
def en50 := And.intro @ent50 (And.intro @res50 (And.intro @rk50 (And.intro @ow50 (And.intro @kp50_0 (And.intro @kp50_1 (And.intro @ent54 (And.intro @ci54 (And.intro @cr54 (And.intro @ak54 (And.intro @agg69 (And.intro @agg9 (And.intro @kind69 (And.intro @kind9 (And.intro @cv9_36 (And.intro @cv36_9 (And.intro @sl69 (And.intro @sl9 (And.intro @sx9 (And.intro @str69 (@str9))))))))))))))))))))
-- en51: 
def en51 := And.intro @ent51 (And.intro @res51 (And.intro @rk51 (And.intro @ow51 (And.intro @kp51_0 (@kp51_1)))))
-- en52: bs33
def en52 := And.intro @ent52 (And.intro @res52 (And.intro @rk52 (And.intro @ow52 (And.intro @kp52_0 (And.intro @kp52_1 (And.intro @ent55 (And.intro @ci55 (And.intro @cr55 (And.intro @ak55 (And.intro @agg3 (And.intro @agg33 (And.intro @agg71 (And.intro @kind3 (And.intro @cv24_3 (And.intro @cv5_3 (And.intro @kind33 (And.intro @kind71 (And.intro @sl33 (And.intro @ms33 (And.intro @br33 (And.intro @ap33_33 (And.intro @sl71 (And.intro @str33 (And.intro @str71 (And.intro @sz3 (And.intro @st3 (@zero3)))))))))))))))))))))))))))
-- en53: 
def en53 := And.intro @ent53 (And.intro @res53 (And.intro @rk53 (And.intro @ow53 (And.intro @kp53_0 (@kp53_1)))))
-- en54: 
def en54 := And.intro @ent54 (And.intro @res54 (And.intro @rk54 (And.intro @ow54 (And.intro @kp54_0 (And.intro @kp54_1 (And.intro @ent56 (And.intro @ci56 (And.intro @cr56 (And.intro @ak56 (And.intro @agg4 (And.intro @agg69 (And.intro @agg9 (And.intro @kind4 (And.intro @kind69 (And.intro @kind9 (And.intro @cv9_36 (And.intro @cv36_9 (And.intro @sl4 (And.intro @sl69 (And.intro @sl9 (And.intro @sx9 (And.intro @str4 (And.intro @str69 (@str9))))))))))))))))))))))))
-- en55: bs33
def en55 := And.intro @ent55 (And.intro @res55 (And.intro @rk55 (And.intro @ow55 (And.intro @kp55_0 (And.intro @kp55_1 (And.intro @kp55_2 (And.intro @kp55_3 (And.intro @kp55_4 (And.intro @kp55_5 (And.intro @kp55_6 (And.intro @kp55_7 (And.intro @hd55_2 (And.intro @agg3 (And.intro @agg33 (And.intro @arr33 (And.intro @kind3 (And.intro @cv24_3 (And.intro @cv5_3 (And.intro @kind33 (And.intro @sl3 (And.intro @sl33 (And.intro @ms33 (And.intro @br33 (And.intro @ap33_33 (And.intro @str3 (And.intro @str33 (And.intro @sz3 (And.intro @st3 (@zero3)))))))))))))))))))))))))))))
-- en56: 
def en56 := And.intro @ent56 (And.intro @res56 (And.intro @rk56 (And.intro @ow56 (And.intro @kp56_0 (And.intro @kp56_1 (And.intro @kp56_2 (And.intro @kp56_3 (And.intro @kp56_4 (And.intro @kp56_5 (And.intro @kp56_6 (And.intro @hd56_2 (And.intro @agg21 (And.intro @kind21 (And.intro @cv5_21 (And.intro @sl21 (And.intro @str21 (And.intro @str9 (And.intro @sx9 (And.intro @cv9_36 (And.intro @cv36_9 (@und4)))))))))))))))))))))
-- ca2: 
def ca2 := And.intro @ent2 (And.intro @ci2 (And.intro @cr2 (@ak2)))
-- ca3: 
def ca3 := And.intro @ent3 (And.intro @ci3 (And.intro @cr3 (@ak3)))
-- ca4: 
def ca4 := And.intro @ent4 (And.intro @ci4 (And.intro @cr4 (@ak4)))
-- ca5: 
def ca5 := And.intro @ent5 (And.intro @ci5 (And.intro @cr5 (@ak5)))
-- ca6: 
def ca6 := And.intro @ent6 (And.intro @ci6 (And.intro @cr6 (@ak6)))
-- ca7: 
def ca7 := And.intro @ent7 (And.intro @ci7 (And.intro @cr7 (@ak7)))
-- ca8: 
def ca8 := And.intro @ent8 (And.intro @ci8 (And.intro @cr8 (@ak8)))
-- ca9: 
def ca9 := And.intro @ent9 (And.intro @ci9 (And.intro @cr9 (@ak9)))
-- ca10: 
def ca10 := And.intro @ent10 (And.intro @ci10 (And.intro @cr10 (@ak10)))
-- ca11: 
def ca11 := And.intro @ent11 (And.intro @ci11 (And.intro @cr11 (@ak11)))
-- ca12: 
def ca12 := And.intro @ent12 (And.intro @ci12 (And.intro @cr12 (@ak12)))
-- ca13: 
def ca13 := And.intro @ent13 (And.intro @ci13 (And.intro @cr13 (@ak13)))
-- ca14: 
def ca14 := And.intro @ent14 (And.intro @ci14 (And.intro @cr14 (@ak14)))
-- ca15: 
def ca15 := And.intro @ent15 (And.intro @ci15 (And.intro @cr15 (@ak15)))
-- ca16: 
def ca16 := And.intro @ent16 (And.intro @ci16 (And.intro @cr16 (@ak16)))
-- ca17: 
def ca17 := And.intro @ent17 (And.intro @ci17 (And.intro @cr17 (@ak17)))
-- ca18: 
def ca18 := And.intro @ent18 (And.intro @ci18 (And.intro @cr18 (@ak18)))
-- ca19: 
def ca19 := And.intro @ent19 (And.intro @ci19 (And.intro @cr19 (@ak19)))
-- ca20: 
def ca20 := And.intro @ent20 (And.intro @ci20 (And.intro @cr20 (@ak20)))
-- ca21: 
def ca21 := And.intro @ent21 (And.intro @ci21 (And.intro @cr21 (@ak21)))
-- ca22: 
def ca22 := And.intro @ent22 (And.intro @ci22 (And.intro @cr22 (@ak22)))
-- ca23: 
def ca23 := And.intro @ent23 (And.intro @ci23 (And.intro @cr23 (@ak23)))
-- ca24: 
def ca24 := And.intro @ent24 (And.intro @ci24 (And.intro @cr24 (@ak24)))
-- ca25: 
def ca25 := And.intro @ent25 (And.intro @ci25 (And.intro @cr25 (@ak25)))
-- ca26: 
def ca26 := And.intro @ent26 (And.intro @ci26 (And.intro @cr26 (@ak26)))
-- ca27: 
def ca27 := And.intro @ent27 (And.intro @ci27 (And.intro @cr27 (@ak27)))
-- ca28: 
def ca28 := And.intro @ent28 (And.intro @ci28 (And.intro @cr28 (@ak28)))
-- ca29: 
def ca29 := And.intro @ent29 (And.intro @ci29 (And.intro @cr29 (@ak29)))
-- ca30: 
def ca30 := And.intro @ent30 (And.intro @ci30 (And.intro @cr30 (@ak30)))
-- ca31: 
def ca31 := And.intro @ent31 (And.intro @ci31 (And.intro @cr31 (@ak31)))
-- ca32: 
def ca32 := And.intro @ent32 (And.intro @ci32 (And.intro @cr32 (@ak32)))
-- ca33: 
def ca33 := And.intro @ent33 (And.intro @ci33 (And.intro @cr33 (@ak33)))
-- ca34: 
def ca34 := And.intro @ent34 (And.intro @ci34 (And.intro @cr34 (@ak34)))
-- ca35: 
def ca35 := And.intro @ent35 (And.intro @ci35 (And.intro @cr35 (@ak35)))
-- ca36: 
def ca36 := And.intro @ent36 (And.intro @ci36 (And.intro @cr36 (@ak36)))
-- ca37: 
def ca37 := And.intro @ent37 (And.intro @ci37 (And.intro @cr37 (@ak37)))
-- ca38: 
def ca38 := And.intro @ent38 (And.intro @ci38 (And.intro @cr38 (@ak38)))
-- ca39: 
def ca39 := And.intro @ent39 (And.intro @ci39 (And.intro @cr39 (@ak39)))
-- ca40: 
def ca40 := And.intro @ent40 (And.intro @ci40 (And.intro @cr40 (@ak40)))
-- ca41: 
def ca41 := And.intro @ent41 (And.intro @ci41 (And.intro @cr41 (@ak41)))
-- ca42: 
def ca42 := And.intro @ent42 (And.intro @ci42 (And.intro @cr42 (@ak42)))
-- ca43: 
def ca43 := And.intro @ent43 (And.intro @ci43 (And.intro @cr43 (@ak43)))
-- ca44: 
def ca44 := And.intro @ent44 (And.intro @ci44 (And.intro @cr44 (@ak44)))
-- ca45: 
def ca45 := And.intro @ent45 (And.intro @ci45 (And.intro @cr45 (@ak45)))
-- ca46: 
def ca46 := And.intro @ent46 (And.intro @ci46 (And.intro @cr46 (@ak46)))
-- ca47: 
def ca47 := And.intro @ent47 (And.intro @ci47 (And.intro @cr47 (@ak47)))
-- ca48: 
def ca48 := And.intro @ent48 (And.intro @ci48 (And.intro @cr48 (@ak48)))
-- ca49: 
def ca49 := And.intro @ent49 (And.intro @ci49 (And.intro @cr49 (@ak49)))
-- ca50: 
def ca50 := And.intro @ent50 (And.intro @ci50 (And.intro @cr50 (@ak50)))
-- ca51: 
def ca51 := And.intro @ent51 (And.intro @ci51 (And.intro @cr51 (@ak51)))
-- ca52: 
def ca52 := And.intro @ent52 (And.intro @ci52 (And.intro @cr52 (@ak52)))
-- ca53: 
def ca53 := And.intro @ent53 (And.intro @ci53 (And.intro @cr53 (@ak53)))
-- ca54: 
def ca54 := And.intro @ent54 (And.intro @ci54 (And.intro @cr54 (@ak54)))
-- ca55: 
def ca55 := And.intro @ent55 (And.intro @ci55 (And.intro @cr55 (@ak55)))
-- ca56: 
def ca56 := And.intro @ent56 (And.intro @ci56 (And.intro @cr56 (@ak56)))
-- tyaa: 
def tyaa := And.intro @agg21 (And.intro @agg23 (And.intro @agg24 (And.intro @agg27 (And.intro @agg3 (And.intro @agg33 (And.intro @agg35 (And.intro @agg36 (And.intro @agg38 (And.intro @agg4 (And.intro @agg40 (And.intro @agg45 (And.intro @agg5 (And.intro @agg55 (And.intro @agg59 (And.intro @agg69 (And.intro @agg71 (And.intro @agg9 (And.intro @arr23 (And.intro @arr27 (And.intro @arr33 (And.intro @arr35 (And.intro @arr36 (And.intro @arr40 (@arr45))))))))))))))))))))))))
-- tyab: 
def tyab := And.intro @arr55 (And.intro @arr9 (And.intro @arrz23 (And.intro @arrz35 (And.intro @arrz40 (And.intro @arrz55 (And.intro @eqg23 (And.intro @fld23_0 (And.intro @fld23_1 (And.intro @fld23_2 (And.intro @fld35_0 (And.intro @fld35_1 (And.intro @fld35_2 (And.intro @fld35_3 (And.intro @fld35_4 (And.intro @fld35_5 (And.intro @fld35_6 (And.intro @fld40_0 (And.intro @fld40_1 (And.intro @fld55_0 (And.intro @fld55_1 (And.intro @fld55_2 (And.intro @fld55_3 (And.intro @kind21 (@cv5_21))))))))))))))))))))))))
-- tyac: 
def tyac := And.intro @kind23 (And.intro @kind24 (And.intro @cv24_3 (And.intro @kind27 (And.intro @kind3 (And.intro @cv5_3 (And.intro @kind33 (And.intro @kind35 (And.intro @kind36 (And.intro @cv9_36 (And.intro @cv36_9 (And.intro @kind38 (And.intro @kind4 (And.intro @kind45 (And.intro @kind5 (And.intro @kind59 (And.intro @kind69 (And.intro @kind71 (And.intro @kind9 (And.intro @lv23 (And.intro @pl23 (And.intro @pl35 (And.intro @pl40 (And.intro @pl55 (@sl21))))))))))))))))))))))))
-- tyad: bs27
def tyad := And.intro @sl23 (And.intro @sl24 (And.intro @sl27 (And.intro @ms27 (And.intro @br27 (And.intro @sx27 (And.intro @ap27_27 (@sl3)))))))
-- tyae: bs33, bs36
def tyae := And.intro @sl33 (And.intro @ms33 (And.intro @br33 (And.intro @ap33_33 (And.intro @sl35 (And.intro @sl36 (And.intro @ms36 (And.intro @br36 (And.intro @ap36_36 (And.intro @sl38 (@sl4))))))))))
-- tyaf: bs45
def tyaf := And.intro @sl45 (And.intro @ms45 (And.intro @br45 (And.intro @ap45_45 (And.intro @sl5 (And.intro @sl59 (And.intro @sl69 (@sl71)))))))
-- tyag: 
def tyag := And.intro @sl9 (And.intro @sx9 (And.intro @str21 (And.intro @str23 (And.intro @str24 (And.intro @str27 (And.intro @str3 (And.intro @str33 (And.intro @str35 (And.intro @str36 (And.intro @str38 (And.intro @str4 (And.intro @str45 (And.intro @str5 (And.intro @str59 (And.intro @str69 (And.intro @str71 (And.intro @str9 (@sz21))))))))))))))))))
-- tyah: 
def tyah := And.intro @st21 (And.intro @sz23 (And.intro @st23 (And.intro @sz27 (And.intro @st27 (And.intro @sz3 (And.intro @st3 (And.intro @sz33 (And.intro @st33 (And.intro @sz35 (And.intro @st35 (And.intro @sz40 (And.intro @st40 (And.intro @sz5 (And.intro @st5 (And.intro @sz55 (And.intro @st55 (And.intro @sz9 (And.intro @st9 (And.intro @und4 (And.intro @zero21 (And.intro @zero23 (And.intro @bd23 (@zero3)))))))))))))))))))))))
-- tyai: 
def tyai := And.intro @zero33 (And.intro @zero35 (And.intro @bd35 (And.intro @zero40 (And.intro @bd40 (And.intro @zero5 (And.intro @zero55 (@bd55)))))))
end Go.VI
